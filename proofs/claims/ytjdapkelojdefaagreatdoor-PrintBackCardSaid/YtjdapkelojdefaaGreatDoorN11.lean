/- Part 11 of the proof: W12, G8, W13, W14, W15, B6, B7, B8, B9, B10, B11. -/
import Derived.Test.YtjdapkelojdefaaGreatDoorN7
import Derived.Test.YtjdapkelojdefaaGreatDoorN10
import Derived.Test.YtjdapkelojdefaaGreatDoorN8
import Derived.Test.YtjdapkelojdefaaGreatDoorN9

set_option linter.all false
set_option maxRecDepth 100000
set_option maxHeartbeats 1000000
open Nat renaming reduceEqDiff → zb, reduceAdd → zd, reduceLeDiff → ze, reduceMul → zf, reduceSub → zg
open Int renaming toNat_zero → zk, reduceToNat → zl, tdiv_eq_ediv_of_nonneg → zm
open Go.V.Sg renaming set_same → zn, set_ne → zp, set_ne' → zq, del_ne → zr, del_ne' → zv
open Option renaming getD_some → zw
open List renaming length_cons → zy
open Go.Cert renaming ne_of2 → zQ, ne_ob → zR
open Go.V.VCalls renaming mono → zU
open Go.Proofs.Tryz renaming underlying3 → Z3, underlying4 → Z4, underlying9 → Z9, underlying23 → Z23, underlying26 → Z26, underlying30 → Z30, underlying47 → Z47, underlying56 → Z56, underlying75 → Z75, underlying80 → Z80, underlying102 → Z102
namespace Go.Print
open Go.V Go.Lex Go.Parse Go.Proofs.YtjdapkelojdefaaGreatDoor
theorem X9a : ∀ (l : List By) (x : By), l ≠ [] → Q4s (l ++ [x]) = Q4s l ++ 32 :: x
  | [], x, h => absurd rfl h
  | [a], x, _ => rfl
  | a :: b :: r, x, _ => by
    have ih := X9a (b :: r) x (by simp)
    show a ++ 32 :: Q4s ((b :: r) ++ [x]) = (a ++ 32 :: Q4s (b :: r)) ++ 32 :: x
    rw [ih]
    simp
def lenL (l : List By) : Nat := (l.map List.length).sum
theorem lenL_take {l : List By} {k : Nat} (h : k < l.length) : lenL (l.take (k + 1)) = lenL (l.take k) + (l.getD k []).length := by
  unfold lenL
  rw [List.take_succ_eq_append_getElem h, List.map_append, List.sum_append]
  simp [List.getD_eq_getElem?_getD, List.getElem?_eq_getElem h]
theorem X5v : ∀ l : List By, l ≠ [] → (Q4s l).length + 1 = lenL l + l.length
  | [], h => absurd rfl h
  | [a], _ => by simp [Q4s, lenL]
  | a :: b :: r, _ => by
    have ih := X5v (b :: r) (by simp)
    have e : Q4s (a :: b :: r) = a ++ 32 :: Q4s (b :: r) := rfl
    rw [e]
    simp only [List.length_append, zy, lenL, List.map_cons, List.sum_cons] at ih ⊢
    omega
theorem Y0p (l : List By) (k : Nat) : lenL (l.take k) ≤ lenL l := by
  have : lenL l = lenL (l.take k) + lenL (l.drop k) := by
    unfold lenL
    rw [← List.sum_append, ← List.map_append, List.take_append_drop]
  omega
end Go.Print
namespace Go.Proofs.YtjdapkelojdefaaGreatDoor
open Go Go.V Go.Lex Go.Parse Go.Print
theorem strs_all (ws : List By) : Q1t (strs ws) 1 = True := eq_true (fun e he => by obtain ⟨w, _, rfl⟩ := List.mem_map.1 he; rfl)
theorem bs32 : (bs [32]).size = 1 := Q6g _
def tdQ (m : Int) : Int := (9223372036854775807 : Int).tdiv m
theorem tdQ_fold (m : Int) : (9223372036854775807 : Int).tdiv m = tdQ m := rfl
theorem tdiv_big {m : Nat} (h1 : 1 ≤ m) (h2 : m ≤ 2 ^ 40) : ∃ Q : Int, (9223372036854775807 : Int).tdiv (m : Int) = Q ∧ 1 < Q ∧ Q ≤ 9223372036854775807 := by
  have e : (9223372036854775807 : Int).tdiv (m : Int) = ((9223372036854775807 / m : Nat) : Int) := rfl
  refine ⟨_, e, ?_, ?_⟩
  · have : 2 ≤ 9223372036854775807 / m := by
      rw [Nat.le_div_iff_mul_le (by omega)]
      omega
    omega
  · have := Nat.div_le_self 9223372036854775807 m
    omega
theorem X7c (l : List By) (o : Own) (hl : (Q4s l).length ≤ 2 ^ 38) (hn : l.length ≤ 2 ^ 38) (σ : Sg) : VCalls Tryz.prog 106 [.sl o (strs l), .s (bs [32])] σ (fun x σ' => x = .s (bs (Q4s l)) ∧ σ' = σ) := by
  have hsl := Q4l l
  match l, hl, hn with
  | [], _, _ =>
    (refine vfun (fun _ => .no) Q0h Tryz.func106 (by kernel_rfl) ?_; simp only [Q0f, Tryz.f106, zw])
    (have zz := Bx.mk (j5 ui0 ui3 ui4 ui5 (j9 ui9 ui20 ui75 X6l Q4r ui151 Q8s ui155 hsl)); (repeat' (first | exact zc | (with_reducible first | apply And.intro | apply Q0a | apply Q0b | refine Q0c (by decide +kernel) ?_ | intro _) | refine zaY zz.out ?_ | ((first | (refine Q0d (by exact zK) ?_) | (refine Q0e (by exact zK) ?_)); (try refine zsY zz.out ?_)) | refine zo ?_ | omega | refine ztY zz.out ?_ | fail)); try (all_goals clear zz))
    all_goals exact ⟨_, .refl _, rfl, rfl⟩
  | [a], _, _ =>
    have hs1 : strs [a] = [[.s (bs a)]] := rfl
    rw [hs1]
    (refine vfun (fun _ => .no) Q0h Tryz.func106 (by kernel_rfl) ?_; simp only [Q0f, Tryz.f106, zw])
    (have zz := Bx.mk (j4 ui0 ui3 ui4 (j9 ui5 ui9 ui20 ui75 X6l Q4r ui151 Q8s ui155)); (repeat' (first | exact zc | (with_reducible first | apply And.intro | apply Q0a | apply Q0b | refine Q0c (by decide +kernel) ?_ | intro _) | refine zaY zz.out ?_ | ((first | (refine Q0d (by exact zK) ?_) | (refine Q0e (by exact zK) ?_)); (try refine zsY zz.out ?_)) | refine zo ?_ | omega | refine ztY zz.out ?_ | fail)); try (all_goals clear zz))
    all_goals exact ⟨_, .refl _, rfl, rfl⟩
  | a :: b :: r, hl, hn =>
    have hjl := X5v (a :: b :: r) (by simp)
    have hg0 : (strs (a :: b :: r)).getD 0 [] = [.s (bs a)] := rfl
    have hd1 : (strs (a :: b :: r)).drop 1 = strs (b :: r) := rfl
    have hsl2 := Q4l (b :: r)
    have hL2 : 2 ≤ (a :: b :: r).length := by simp
    have hbl : (b :: r).length + 1 = (a :: b :: r).length := rfl
    have hne : (a :: b :: r) ≠ [] := by simp
    have htk : ∀ k, (a :: b :: r).take (k + 1) = a :: (b :: r).take k := fun k => rfl
    generalize hll : a :: b :: r = l at *
    obtain ⟨Q, hQ, hQ1, hQ2⟩ := tdiv_big (m := l.length - 1) (by omega) (by omega)
    have hm : ((l.length - 1 : Nat) : Int) = (l.length : Int) - 1 := by omega
    rw [hm, tdQ_fold] at hQ
    have hQF1 : (Q ≤ ((1 : Nat) : Int)) = False := eq_false (by omega)
    have hQF2 : (Q ≤ 1) = False := eq_false (by omega)
    have hz1 : ((l.length : Int) = 0) = False := eq_false (by omega)
    have hz2 : ((l.length : Int) = 1) = False := eq_false (by omega)
    have hz3 : ((l.length : Int) - 1 = 0) = False := eq_false (by omega)
    (refine vfun (fun _ => .no) Q0h Tryz.func106 (by kernel_rfl) ?_; simp only [Q0f, Tryz.f106, zw])
    (have zz := Bx.mk (j5 ui0 ui3 ui4 ui5 (j9 ui9 ui20 ui75 X6l Q4r ui151 Q8s ui155 (j9 hsl @bs32 @tdQ_fold hQ hQF1 hQF2 hz1 hz2 hz3))); (repeat' (first | exact zc | (with_reducible first | apply And.intro | apply Q0a | apply Q0b | refine Q0c (by decide +kernel) ?_ | intro _) | refine zaY zz.out ?_ | ((first | (refine Q0d (by exact zK) ?_) | (refine Q0e (by exact zK) ?_)); (try refine zsY zz.out ?_)) | refine zo ?_ | omega | refine ztY zz.out ?_ | fail)); try (all_goals clear zz))
    refine VW.loop3 (0 : Nat) () () (fun k _ _ => k ≤ l.length) (fun k _ _ => [(0, .sl o (strs l)), (1, .s (bs [32])), (5, .i ((l.length - 1 + lenL (l.take k) : Nat) : Int)), (39, .sl o (strs l)), (40, .i l.length), (41, .i k)]) (fun _ _ _ => σ) (fun k _ _ => l.length - k) (Nat.zero_le _) (.refl _) ?_ ?_
    · simp only [vO, vQ, ↓vP, vE, vS, vB, vL, vF, vM, vN, Q0g, zb, zd, ze, ne_eq, not_false_eq_true, zf, zg, zk, zl, vT]
      exact ⟨i_eq (by simp [lenL]; omega), rfl⟩
    rintro k _ _ hk
    have hsk := Y0p l k
    rcases Nat.lt_or_ge k l.length with hk2 | hk2
    · have hg := Q9x hk2
      have hlk := lenL_take hk2
      have hsk2 := Y0p l (k + 1)
      rw [hlk] at hsk2
      generalize lenL (l.take k) = s at *
      generalize l.getD k [] = w at *
      have hw : (bs w).size = w.length := Q6g w
      (have zz := Bx.mk (j7 ui0 ui3 ui4 ui5 ui9 ui20 (j9 ui75 X6l Q4r ui151 Q8s ui155 hsl hg hw)); (repeat' (first | exact zc | (with_reducible first | apply And.intro | apply Q0a | apply Q0b | refine Q0c (by decide +kernel) ?_ | intro _) | refine zaY zz.out ?_ | ((first | (refine Q0d (by exact zK) ?_) | (refine Q0e (by exact zK) ?_)); (try refine zsY zz.out ?_)) | refine zo ?_ | omega | refine ztY zz.out ?_ | fail)); try (all_goals clear zz))
      exact ⟨k + 1, (), (), ⟨hk2, by omega⟩, .refl _, i_eq (by rw [hlk]; omega), rfl⟩
    · rw [List.take_of_length_le hk2]
      have ha : a.length ≤ 2 ^ 38 := by rw [← hll] at hl; simp [Q4s] at hl; omega
      have hG : ∀ β S, S β = none → VCalls Tryz.prog 154 [.ref β 0, .i ((l.length - 1 + lenL l : Nat) : Int)] (S.set β (.cells 152 [.val (.pointer none), .sl .nil []])) (fun x σ' => x = .tup [] ∧ Bld β [] S σ') := fun β S hS => e36 β _ S hS (by omega) (by omega)
      (have zz := Bx.mk (j9 ui0 ui3 ui4 ui5 ui9 ui20 ui75 X6l (j9 Q4r ui151 Q8s ui155 hsl hg0 hd1 hsl2 @strs_all)); (repeat' (first | exact zc | (with_reducible first | apply And.intro | apply Q0a | apply Q0b | refine Q0c (by decide +kernel) ?_ | intro _) | refine zaY zz.out ?_ | ((first | ((with_reducible refine zU (hG _ _ (by assumption)) ?_); rintro _ S' ⟨rfl, hB⟩) | ((with_reducible refine zU (t100 _ _ _ _ _ hB (by simp only [List.length_nil]; omega)) ?_); rintro _ S'' ⟨rfl, hB2⟩) | (refine Q0d (by exact zK) ?_) | (refine Q0e (by exact zK) ?_)); (try refine zsY zz.out ?_)) | refine zo ?_ | omega | refine ztY zz.out ?_ | fail)); try (all_goals clear zz))
      rename_i β hβ
      have hB2 : Bld β (Q4s (l.take (0 + 1))) σ S'' := by
        rw [htk]; exact hB2
      refine VW.loop3 (0 : Nat) S'' () (fun k S _ => k ≤ (b :: r).length ∧ Bld β (Q4s (l.take (k + 1))) σ S) (fun k _ _ => [(1, .s (bs [32])), (8, .ref β 0), (63, .sl (o.cut (decide ((1 : Int) = 0 ∨ (1 : Int) < ↑l.length))) (strs (b :: r))), (64, .i ((r.length + 1 : Nat) : Int)), (65, .i k)]) (fun _ S _ => S) (fun k _ _ => (b :: r).length - k) ⟨Nat.zero_le _, hB2⟩ (.refl _) ?_ ?_
      · simp only [vO, vQ, ↓vP, vE, vS, vB, vL, vF, vM, vN, Q0g, zb, zd, ze, ne_eq, not_false_eq_true, zf, zg, zk, zl, vT]
        all_goals rfl
      clear hB2 hB
      rintro k S _ ⟨hk, hB⟩
      rw [zy] at hk hsl2 hbl
      have hjk : (Q4s (l.take (k + 1))).length ≤ 2 ^ 38 := by
        have h1 := X5v (l.take (k + 1)) (by rw [htk]; simp)
        have h2 := Y0p l (k + 1)
        rw [List.length_take] at h1
        omega
      rcases Nat.lt_or_ge k (r.length + 1) with hk2 | hk2
      · have hg := Q9x (ws := b :: r) hk2
        have hnext : l.take (k + 1 + 1) = l.take (k + 1) ++ [(b :: r).getD k []] := by
          rw [htk, htk, List.take_succ_eq_append_getElem (by simpa using hk2)]
          simp [List.getD_eq_getElem?_getD, List.getElem?_eq_getElem (show k < (b :: r).length by simpa using hk2)]
        have hjn : Q4s (l.take (k + 1 + 1)) = Q4s (l.take (k + 1)) ++ [32] ++ (b :: r).getD k [] := by
          rw [hnext, X9a _ _ (by rw [htk]; simp)]
          simp
        have hjk2 : (Q4s (l.take (k + 1 + 1))).length ≤ 2 ^ 38 := by
          have h1 := X5v (l.take (k + 1 + 1)) (by rw [htk]; simp)
          have h2 := Y0p l (k + 1 + 1)
          rw [List.length_take] at h1
          omega
        rw [hjn, List.length_append] at hjk2
        generalize (b :: r).getD k [] = w at *
        generalize Q4s (l.take (k + 1)) = acc at *
        (have zz := Bx.mk (j6 ui0 ui3 ui4 ui5 ui9 (j9 ui20 ui75 X6l Q4r ui151 Q8s ui155 hsl2 hg)); (repeat' (first | exact zc | (with_reducible first | apply And.intro | apply Q0a | apply Q0b | refine Q0c (by decide +kernel) ?_ | intro _) | refine zaY zz.out ?_ | ((first | ((with_reducible refine zU (t100 _ _ _ _ _ hB (by simp only [zy, List.length_nil]; omega)) ?_); rintro _ S2 ⟨rfl, hB2⟩) | ((with_reducible refine zU (t100 _ _ _ _ _ hB2 (by omega)) ?_); rintro _ S3 ⟨rfl, hB3⟩) | (refine Q0d (by exact zK) ?_) | (refine Q0e (by exact zK) ?_)); (try refine zsY zz.out ?_)) | refine zo ?_ | omega | refine ztY zz.out ?_ | fail)); try (all_goals clear zz))
        all_goals exact ⟨k + 1, _, (), ⟨⟨hk2, by rw [hjn]; exact hB3⟩, by first | omega | (simp only [zy]; omega)⟩, .refl _, rfl⟩
      · have hfull : l.take (k + 1) = l := List.take_of_length_le (by omega)
        rw [hfull] at hB
        (have zz := Bx.mk (j5 ui0 ui3 ui4 ui5 (j9 ui9 ui20 ui75 X6l Q4r ui151 Q8s ui155 hsl2)); (repeat' (first | exact zc | (with_reducible first | apply And.intro | apply Q0a | apply Q0b | refine Q0c (by decide +kernel) ?_ | intro _) | refine zaY zz.out ?_ | ((first | with_reducible refine (t103 _ _ _ _ hB (by omega)).use ?_ | (refine Q0d (by exact zK) ?_) | (refine Q0e (by exact zK) ?_)); (try refine zsY zz.out ?_)) | refine zo ?_ | omega | refine ztY zz.out ?_ | fail)); try (all_goals clear zz))
        all_goals exact ⟨σ, hB.sub, rfl⟩
def WrOK (t : Tk) : Prop := t.2.2.1 < 9223372036854775808 ∧ (t.1 = 4 → t.2.1.length ≤ 40) ∧ t.2.1.length ≤ 2000
theorem strs_one1 (ws : List By) : Q5b (strs ws) 1 = True := eq_true (fun e he => by obtain ⟨w, _, rfl⟩ := List.mem_map.1 he; exact ⟨rfl, rfl⟩)
theorem txts_take {l : List Tk} {k : Nat} (h : k < l.length) : txts (l.take (k + 1)) = txts (l.take k) ++ (if (l.getD k (0, [], 0, 0)).1 = 6 then [] else [txt (l.getD k (0, [], 0, 0))]) := by
  have hg : l.getD k (0, [], 0, 0) = l[k] := by simp [List.getD_eq_getElem?_getD, List.getElem?_eq_getElem h]
  rw [hg]
  unfold txts
  rw [List.take_succ_eq_append_getElem h, List.filter_append, List.map_append]
  by_cases h6 : l[k].1 = 6
  · rw [if_pos h6]
    simp [List.filter_cons, h6]
  · rw [if_neg h6]
    simp [List.filter_cons, h6]
theorem txts_len (l : List Tk) : (txts l).length ≤ l.length := by
  unfold txts
  rw [List.length_map]
  exact List.length_filter_le _ _
theorem strs_snoc (a : List By) (x : By) : strs (a ++ [x]) = strs a ++ [[.s (bs x)]] := by simp [strs]
theorem j_write (l : List Tk) (o : Own) (h : ∀ t ∈ l, WrOK t) (hn : l.length ≤ 2 ^ 36) (hl : (Q5j l).length ≤ 2 ^ 38) (σ : Sg) : VCalls Tryz.prog 52 [.sl o (tksA l)] σ (fun x σ' => x = .s (bs (Q5j l)) ∧ σ' = σ) := by
  have hlen := Q0y l
  have htl := txts_len l
  unfold Q5j at hl ⊢
  (refine vfun (fun _ => .no) Q0h Tryz.func52 (by kernel_rfl) ?_; simp only [Q0f, Tryz.f52, zw])
  (have zz := Bx.mk (j3 ui0 ui3 (j9 ui4 ui9 ui22 ui23 ui56 ui75 Q1k Q0u hlen)); (repeat' (first | exact zc | (with_reducible first | apply And.intro | apply Q0a | apply Q0b | refine Q0c (by decide +kernel) ?_ | intro _) | refine zaY zz.out ?_ | ((first | (with_reducible refine uc (X7c _ _ (by assumption) (by assumption) _) ?_) | (refine Q0d (by exact zK) ?_) | (refine Q0e (by exact zK) ?_)); (try refine zsY zz.out ?_)) | refine zo ?_ | omega | refine ztY zz.out ?_ | fail)); try (all_goals clear zz))
  refine VW.loop4 (0 : Nat) (AV.sl .nil []) σ () (fun k V S _ => k ≤ l.length ∧ Grown 9 1 (strs (txts (l.take k))) σ V S) (fun k V _ _ => [(0, .sl o (tksA l)), (3, V), (6, .sl o (tksA l)), (7, .i l.length), (8, .i k)]) (fun _ _ S _ => S) (fun k _ _ _ => l.length - k) ⟨Nat.zero_le _, .nil _ _ _⟩ (.refl _) ?_ ?_
  · simp only [vO, vQ, ↓vP, vE, vS, vB, vL, vF, vM, vN, Q0g, zb, zd, ze, ne_eq, not_false_eq_true, zf, zg, zk, zl, vT]
    all_goals rfl
  rintro k V S _ ⟨hk, hG⟩
  rcases Nat.lt_or_ge k l.length with hk2 | hk2
  · have hg := Y0b hk2
    have hok : WrOK (l.getD k (0, [], 0, 0)) := h _ (by simp [List.getD_eq_getElem?_getD, List.getElem?_eq_getElem hk2])
    have htt := txts_take hk2
    have htk := txts_len (l.take k)
    rw [List.length_take] at htk
    generalize l.getD k (0, [], 0, 0) = t at *
    have htA : tkA t = [.i t.1, .s (bs t.2.1), .i t.2.2.1, .i t.2.2.2] := rfl
    rw [htA] at hg
    generalize txts (l.take k) = W at *
    obtain ⟨q1, q2, q3⟩ := hok
    have h7 : ∀ σ, VCalls Tryz.prog 105 [.agg [.i 1, .i t.2.2.1, .s (bs [])]] σ _ := e7 1 t.2.2.1 [] q1 (by simp)
    have h7b : t.1 = 4 → ∀ σ, VCalls Tryz.prog 105 [.agg [.i 2, .i 0, .s (bs t.2.1)]] σ _ := fun h4 => e7 2 0 t.2.1 (by decide) (q2 h4)
    have hw1 := Q4l W
    have hw2 := strs_all W
    have hw3 := strs_one1 W
    unfold txt at htt
    rcases hG with ⟨e1, rfl, rfl⟩ | ⟨τ, hτ, rfl, rfl⟩
    · rw [e1] at hw1 hw2 hw3
      (have zz := Bx.mk (j5 ui0 ui3 ui4 ui9 (j9 ui22 ui23 ui56 ui75 Q1k Q0u hlen hg e1)); (repeat' (first | exact zc | (with_reducible first | apply And.intro | apply Q0a | apply Q0b | refine Q0c (by decide +kernel) ?_ | intro _) | refine zaY zz.out ?_ | ((first | (with_reducible refine uc (h7 _) ?_) | (with_reducible refine uc (h7b (by omega) _) ?_) | (with_reducible refine uc (X7c _ _ (by assumption) (by assumption) _) ?_) | (refine Q0d (by exact zK) ?_) | (refine Q0e (by exact zK) ?_)); (try refine zsY zz.out ?_)) | refine zo ?_ | omega | refine ztY zz.out ?_ | fail)); try (all_goals clear zz))
      · exact ⟨k + 1, _, S, (), ⟨⟨hk2, by rw [htt, if_pos (by omega), List.append_nil, e1]; exact .nil _ _ _⟩, by omega⟩, by (exact zu), rfl, rfl⟩
      all_goals (rename_i x hx hne; exact ⟨k + 1, _, S.set x (.tok (some 9)), (), ⟨⟨hk2, .tok hx⟩, by omega⟩, by (exact zu), by (rw [htt, if_neg (by omega), strs_snoc, e1]; (repeat' split) <;> first | rfl | (exfalso; omega)), rfl⟩)
    · (have zz := Bx.mk (j7 ui0 ui3 ui4 ui9 ui22 ui23 (j9 ui56 ui75 Q1k Q0u hlen hg hw1 hw2 hw3)); (repeat' (first | exact zc | (with_reducible first | apply And.intro | apply Q0a | apply Q0b | refine Q0c (by decide +kernel) ?_ | intro _) | refine zaY zz.out ?_ | ((first | (with_reducible refine uc (h7 _) ?_) | (with_reducible refine uc (h7b (by omega) _) ?_) | (with_reducible refine uc (X7c _ _ (by assumption) (by assumption) _) ?_) | (refine Q0d (by exact zK) ?_) | (refine Q0e (by exact zK) ?_)); (try refine zsY zz.out ?_)) | refine zo ?_ | omega | refine ztY zz.out ?_ | fail)); try (all_goals clear zz))
      · exact ⟨k + 1, _, σ.set τ (.tok (some 9)), (), ⟨⟨hk2, by rw [htt, if_pos (by omega), List.append_nil]; exact .tok hτ⟩, by omega⟩, by (exact zu), rfl, rfl⟩
      all_goals (rename_i x hx _ _; exact ⟨k + 1, _, σ.set x (.tok (some 9)), (), ⟨⟨hk2, .tok hx⟩, by omega⟩, by (exact zu), by (rw [htt, if_neg (by omega), strs_snoc]; (repeat' split) <;> first | rfl | (exfalso; omega)), rfl⟩)
  · rw [List.take_of_length_le hk2] at hG
    rcases hG with ⟨e1, rfl, rfl⟩ | ⟨τ, hτ, rfl, rfl⟩
    · have hJ : ∀ σ, VCalls Tryz.prog 106 [.sl .nil [], .s (bs [32])] σ _ := fun σ => by rw [← e1]; exact X7c _ .nil hl (by omega) σ
      (have zz := Bx.mk (j3 ui0 ui3 (j9 ui4 ui9 ui22 ui23 ui56 ui75 Q1k Q0u hlen)); (repeat' (first | exact zc | (with_reducible first | apply And.intro | apply Q0a | apply Q0b | refine Q0c (by decide +kernel) ?_ | intro _) | refine zaY zz.out ?_ | ((first | (with_reducible refine uc (hJ _) ?_) | (with_reducible refine uc (X7c _ _ (by assumption) (by assumption) _) ?_) | (refine Q0d (by exact zK) ?_) | (refine Q0e (by exact zK) ?_)); (try refine zsY zz.out ?_)) | refine zo ?_ | omega | refine ztY zz.out ?_ | fail)); try (all_goals clear zz))
      all_goals exact ⟨_, .refl _, rfl⟩
    · (have zz := Bx.mk (j3 ui0 ui3 (j9 ui4 ui9 ui22 ui23 ui56 ui75 Q1k Q0u hlen)); (repeat' (first | exact zc | (with_reducible first | apply And.intro | apply Q0a | apply Q0b | refine Q0c (by decide +kernel) ?_ | intro _) | refine zaY zz.out ?_ | ((first | (with_reducible refine uc (X7c _ _ hl (by omega) _) ?_) | (with_reducible refine uc (X7c _ _ (by assumption) (by assumption) _) ?_) | (refine Q0d (by exact zK) ?_) | (refine Q0e (by exact zK) ?_)); (try refine zsY zz.out ?_)) | refine zo ?_ | omega | refine ztY zz.out ?_ | fail)); try (all_goals clear zz))
      all_goals exact ⟨σ, by (exact zu), rfl⟩
end Go.Proofs.YtjdapkelojdefaaGreatDoor
namespace Go.Print
open Go.V Go.Lex Go.Parse Go.Proofs.YtjdapkelojdefaaGreatDoor
theorem gW {s : By} (h : Q7p s = true) : GoodT (wT s) := .inr (.inl ⟨rfl, h, rfl⟩)
theorem gS {s : By} (h : s ∈ signs) : GoodT (sT s) := .inr (.inr (.inr (.inr ⟨rfl, h, rfl⟩)))
theorem gN {s : By} (h : isNm s = true) : GoodT (nT s) := .inl ⟨rfl, h, rfl⟩
theorem gI {n : Int} (h : n ≤ 9223372036854775807) : GoodT (iT n) := .inr (.inr (.inl ⟨rfl, rfl, by show n.toNat ≤ _; omega⟩))
theorem X2r {b : Bool} {l : List Tk} (h : ∀ x ∈ l, GoodT x) : ∀ x ∈ br b l, GoodT x := by
  cases b with
  | false => exact h
  | true =>
    intro x hx
    simp only [br, if_true, List.mem_cons, List.mem_append, List.not_mem_nil, or_false] at hx
    rcases hx with rfl | hx | rfl
    · exact gS (by decide)
    · exact h x hx
    · exact gS (by decide)
theorem good_num {n : Int} (h : inR n) (h2 : n ≠ -9223372036854775808) : ∀ x ∈ numT n, GoodT x := by
  unfold inR at h
  intro x hx
  unfold numT at hx
  split at hx
  · simp only [List.mem_cons, List.not_mem_nil, or_false] at hx
    rcases hx with rfl | rfl
    · exact gS (by decide)
    · exact gI (by omega)
  · simp only [List.mem_cons, List.not_mem_nil, or_false] at hx
    subst hx
    exact gI (by omega)
theorem good_lit {v : Vl} (h : okV v = true) (hg : inR v.2.1) : ∀ x ∈ litT v, GoodT x := by
  intro x hx
  rcases X6x h with rfl | ⟨h1, h2, h3⟩ | ⟨h1, h2, h3⟩
  · simp only [litT, if_true, List.mem_cons, List.not_mem_nil, or_false] at hx
    subst hx
    exact gW (by decide +kernel)
  · unfold litT at hx
    rw [if_neg (by omega), if_neg (by omega)] at hx
    exact good_num hg h3 x hx
  · unfold litT at hx
    rw [if_neg (by omega), if_pos h1] at hx
    simp only [List.mem_cons, List.not_mem_nil, or_false] at hx
    subst hx
    exact .inr (.inr (.inr (.inl ⟨rfl, h3, rfl⟩)))
theorem ops_good : ∀ k, k < 14 → 1 ≤ k → (Q7p (ops.getD k []) && decide ((wd (ops.getD k [])).1 = 2) && decide ((wd (ops.getD k [])).2 = (ops.getD k [], 0, 0))) || (signs.contains (ops.getD k []) && decide ((wd (ops.getD k [])).1 = 5) && decide ((wd (ops.getD k [])).2 = (ops.getD k [], 0, 0))) := by decide +kernel
theorem good_op {k : Nat} (h1 : 1 ≤ k) (h2 : k ≤ 13) : GoodT (wd (ops.getD k [])) := by
  have := ops_good k (by omega) h1
  simp only [Bool.or_eq_true, Bool.and_eq_true, decide_eq_true_eq] at this
  rcases this with ⟨⟨a, b⟩, c⟩ | ⟨⟨a, b⟩, c⟩
  · exact .inr (.inl ⟨b, by rw [c]; exact a, by rw [c]⟩)
  · exact .inr (.inr (.inr (.inr ⟨b, by rw [c]; simpa using a, by rw [c]⟩)))
theorem Q5x : ∀ t : Tr, t.wf → t.rg → ∀ x ∈ t.tk, GoodT x
  | .val v, hw, hg => good_lit hw hg
  | .col t n, hw, hg => by
    obtain ⟨h1, h2⟩ : isNm n = true ∧ (t = [] ∨ isNm t = true) := hw
    intro x hx
    rw [Tr.tk] at hx
    split at hx
    · simp only [List.mem_cons, List.not_mem_nil, or_false] at hx
      subst hx
      exact gN h1
    · rename_i ht
      simp only [List.mem_cons, List.not_mem_nil, or_false] at hx
      rcases hx with rfl | rfl | rfl
      · exact gN (h2.resolve_left ht)
      · exact gS (by decide)
      · exact gN h1
  | .null e, hw, hg => by
    intro x hx
    rw [X0a, List.mem_append] at hx
    rcases hx with hx | hx
    · exact X2r (Q5x e hw hg) x hx
    · simp only [List.mem_cons, List.not_mem_nil, or_false] at hx
      rcases hx with rfl | rfl <;> exact gW (by decide +kernel)
  | .neg e, hw, hg => by
    intro x hx
    rw [X3f, List.mem_cons] at hx
    rcases hx with rfl | hx
    · exact gS (by decide)
    · exact X2r (X2r (Q5x e hw hg)) x hx
  | .not (.null y), hw, hg => by
    intro x hx
    rw [Q5d, List.mem_append] at hx
    rcases hx with hx | hx
    · exact X2r (Q5x y hw hg) x hx
    · simp only [List.mem_cons, List.not_mem_nil, or_false] at hx
      rcases hx with rfl | rfl | rfl <;> exact gW (by decide +kernel)
  | .not (.val v), hw, hg => good_not rfl (Q5x (.val v) hw hg)
  | .not (.col t n), hw, hg => good_not rfl (Q5x (.col t n) hw hg)
  | .not (.not e), hw, hg => good_not rfl (Q5x (.not e) hw hg)
  | .not (.neg e), hw, hg => good_not rfl (Q5x (.neg e) hw hg)
  | .not (.op k a b), hw, hg => good_not rfl (Q5x (.op k a b) hw hg)
  | .op k a b, hw, hg => by
    intro x hx
    rw [Y0g, List.mem_append, List.mem_cons] at hx
    rcases hx with hx | rfl | hx
    · exact X2r (Q5x a hw.2.1 hg.1) x hx
    · exact good_op hw.1.1 hw.1.2
    · exact X2r (Q5x b hw.2.2 hg.2) x hx
where good_not {e : Tr} (he : e.isNull = false) (h : ∀ x ∈ e.tk, GoodT x) : ∀ x ∈ (Tr.not e).tk, GoodT x := by
        intro x hx
        rw [X1c he, List.mem_cons] at hx
        rcases hx with rfl | hx
        · exact gW (by decide +kernel)
        · exact X2r h x hx
theorem words_len : ∀ s ∈ words, s.length ≤ 16 := by decide +kernel
theorem signs_len : ∀ s ∈ signs, s.length ≤ 2 := by decide +kernel
theorem txt_len {t : Tk} (h : GoodT t) : (txt t).length ≤ 82 := by
  obtain ⟨k, s, n, a⟩ := t
  rcases h with ⟨rfl, h1, rfl⟩ | ⟨rfl, h1, rfl⟩ | ⟨rfl, rfl, h1⟩ | ⟨rfl, h1, rfl⟩ | ⟨rfl, h1, rfl⟩
  · have h2 : s.length ≤ 16 := (X5u h1).2.1
    show s.length ≤ 82; omega
  · have := words_len s (X3j h1); show s.length ≤ 82; omega
  · have h1 : n ≤ 9223372036854775807 := h1
    have := dec_len n 19 (by omega); show (dec n).length ≤ 82; omega
  · have := quo_len s; show (Q8h s).length ≤ 82; unfold Q8h; simp at h1 ⊢; omega
  · have := signs_len s h1; show s.length ≤ 82; omega
theorem joinS_le : ∀ l : List By, (∀ x ∈ l, x.length ≤ 82) → (Q4s l).length ≤ 83 * l.length
  | [], _ => Nat.zero_le _
  | [a], h => by have := h a (by simp); show a.length ≤ 83 * 1; omega
  | a :: b :: r, h => by
    have := h a (by simp)
    have ih := joinS_le (b :: r) (fun x hx => h x (by simp [hx]))
    have e : Q4s (a :: b :: r) = a ++ 32 :: Q4s (b :: r) := rfl
    rw [e]
    simp only [List.length_append, zy] at ih ⊢
    omega
theorem writeT_len {l : List Tk} (h : ∀ x ∈ l, GoodT x) : (Q5j l).length ≤ 83 * l.length := by
  unfold Q5j
  have h1 := joinS_le (txts l) (fun x hx => by
    unfold txts at hx
    obtain ⟨t, ht, rfl⟩ := List.mem_map.1 hx
    exact txt_len (h t (List.mem_filter.1 ht).1))
  have h2 : (txts l).length ≤ l.length := by
    unfold txts
    rw [List.length_map]
    exact List.length_filter_le _ _
  omega
theorem X2a : ∀ t : Tr, Lim t.ex → t.rg
  | .val v, h => by cases h with | mk _ _ _ _ _ _ _ hr _ => exact hr.2.2.2
  | .col t n, h => trivial
  | .null e, h => by cases h with | mk _ _ _ _ _ _ _ hr hl => exact X2a e (hl _ (by simp))
  | .neg e, h => by cases h with | mk _ _ _ _ _ _ _ hr hl => exact X2a e (hl _ (by simp))
  | .not e, h => by cases h with | mk _ _ _ _ _ _ _ hr hl => exact X2a e (hl _ (by simp))
  | .op k a b, h => by cases h with | mk _ _ _ _ _ _ _ hr hl => exact ⟨X2a a (hl _ (by simp)), X2a b (hl _ (by simp))⟩
end Go.Print
namespace Go.Proofs.YtjdapkelojdefaaGreatDoor
open Go Go.V Go.Lex Go.Parse Go.Print
theorem good_wr {t : Tk} (h : GoodT t) : WrOK t := by
  obtain ⟨k, s, n, a⟩ := t
  rcases h with ⟨rfl, h1, rfl⟩ | ⟨rfl, h1, rfl⟩ | ⟨rfl, rfl, h1⟩ | ⟨rfl, h1, rfl⟩ | ⟨rfl, h1, rfl⟩
  · have h2 : s.length ≤ 16 := (X5u h1).2.1
    exact ⟨by show 0 < _; omega, fun h => (by cases h), by show s.length ≤ 2000; omega⟩
  · have h2 : s.length ≤ 16 := words_len s (X3j h1)
    exact ⟨by show 0 < _; omega, fun h => (by cases h), by show s.length ≤ 2000; omega⟩
  · have h2 : n ≤ 9223372036854775807 := h1
    exact ⟨by show n < _; omega, fun h => (by cases h), by show ([] : By).length ≤ 2000; simp⟩
  · have h2 : s.length ≤ 40 := h1
    exact ⟨by show 0 < _; omega, fun h => h2, by show s.length ≤ 2000; omega⟩
  · have h2 : s.length ≤ 2 := signs_len s h1
    exact ⟨by show 0 < _; omega, fun h => (by cases h), by show s.length ≤ 2000; omega⟩
theorem w_end (B B' : Sg) (ω τ : Nat) (l : List Tk) (d : Int) (m : Nat) (hsub : B'.sub (WS B ω τ l d m)) (hg : ∀ x ∈ l, GoodT x) (hl : l.length ≤ 2 ^ 30) : VCalls Tryz.prog 22 [.ref ω 0] (WS B ω τ l d m) (fun x σ' => x = .tup [.s (bs (fin l m).1), .i (fin l m).2] ∧ σ' = B') := by
  have hwl := writeT_len hg
  have hW := j_write l (.tok τ 4) (fun x hx => good_wr (hg x hx)) (by omega) (by omega)
  unfold fin
  (refine vfun (fun _ => .no) Q0h Tryz.func22 (by kernel_rfl) ?_; simp only [Q0f, Tryz.f22, zw])
  (have zz := Bx.mk (j4 ui0 ui3 ui4 (j9 ui9 ui30 ui55 ui56 ui57 ui58 ui59 Q1k Q0u)); (repeat' (first | exact zc | (with_reducible first | apply And.intro | apply Q0a | apply Q0b | refine Q0c (by decide +kernel) ?_ | intro _) | refine zaY zz.out ?_ | ((first | (with_reducible refine uc (hW _) ?_) | (with_reducible refine uc (j_write _ _ (by assumption) (by assumption) (by assumption) _) ?_) | (refine Q0d (by exact zK) ?_) | (refine Q0e (by exact zK) ?_)); (try refine zsY zz.out ?_)) | refine zo ?_ | omega | refine ztY zz.out ?_ | fail)); try (all_goals clear zz))
  · exact ⟨B', hsub, by rw [if_pos (by omega)], rfl⟩
  · exact ⟨B', hsub, by rw [if_neg (by omega), if_pos (by omega)], rfl⟩
  · exact ⟨B', hsub, by rw [if_neg (by omega), if_neg (by omega)], rfl⟩
theorem X2b (e : Ex) (hL : Lim e) (hlen : rt e = true → (toTr e).tk.length ≤ 2 ^ 30) (σ : Sg) : VCalls Tryz.prog 11 [.agg (exA e)] σ (fun x σ' => x = .tup [.s (bs (Y0h e).1), .i (Y0h e).2] ∧ σ' = σ) := by
  have hel := Q0r e
  have het := Q0q e
  have hr := Q8v e hL
  unfold Y0h
  cases hb : rt e with
  | false =>
    rw [hb] at hr
    generalize exA e = E at *
    (refine vfun (fun k => if k = 1 then .ro else .no) Q0h Tryz.func11 (by kernel_rfl) ?_; simp only [Q0f, Tryz.f11, zw])
    (have zz := Bx.mk (j4 ui0 ui3 ui4 (j9 ui9 ui22 ui23 ui24 ui25 ui26 ui30 ui31 (j9 ui55 ui56 ui57 ui58 ui59 Q1k Q0u hel het))); (repeat' (first | exact zc | (with_reducible first | apply And.intro | apply Q0a | apply Q0b | refine Q0c (by decide +kernel) ?_ | intro _) | refine zaY zz.out ?_ | ((first | (with_reducible refine uc (hr _) ?_) | (with_reducible refine uc (Q8v _ (by assumption) _) ?_) | (refine Q0d (by exact zK) ?_) | (refine Q0e (by exact zK) ?_)); (try refine zsY zz.out ?_)) | refine zo ?_ | omega | refine ztY zz.out ?_ | fail)); try (all_goals clear zz))
    all_goals exact ⟨_, .refl _, rfl⟩
  | true =>
    rw [hb] at hr
    obtain ⟨q1, q2⟩ := Q7r e hb
    have hlen := hlen hb
    have hrg := X2a (toTr e) (by rw [q1]; exact hL)
    have hX : Cx (toTr e) := Q9f (toTr e) q2 hrg
    have hdp := X4e (toTr e)
    have hgd := Q5x (toTr e) q2 hrg
    unfold Cx Wr at hX
    rw [q1] at hX
    generalize (toTr e).tk = TT at *
    generalize (toTr e).dp = D at *
    generalize exA e = E at *
    have hX0 : ∀ (S : Sg) (ω : Nat), S ω = some (.cells 59 [.sl .nil [], .i 0, .i 0]) → VCalls Tryz.prog 21 [.ref ω 0, .agg E] S (fun x σ' => x = .tup [] ∧ ∃ τ', okS S ω τ' ∧ σ' = WS S ω τ' TT 0 (D : Nat)) := fun S ω hS => by
      refine VCalls.tok0 (e := 102) 0 4 hS rfl (fun τ hτ hne => ?_)
      have := hX S ω τ [] 0 0 ⟨hτ, hne⟩ (by omega) (by omega) (by omega) (by omega) (by simp; omega)
      rw [List.nil_append] at this
      refine zU this (fun x σ' hx => ?_)
      obtain ⟨rfl, τ', ok, rfl⟩ := hx
      exact ⟨rfl, τ', ok, Q2y rfl rfl (by omega)⟩
    (refine vfun (fun k => if k = 1 then .ro else .no) Q0h Tryz.func11 (by kernel_rfl) ?_; simp only [Q0f, Tryz.f11, zw])
    (have zz := Bx.mk (j4 ui0 ui3 ui4 (j9 ui9 ui22 ui23 ui24 ui25 ui26 ui30 ui31 (j9 ui55 ui56 ui57 ui58 ui59 Q1k Q0u hel het))); (repeat' (first | exact zc | (with_reducible first | apply And.intro | apply Q0a | apply Q0b | refine Q0c (by decide +kernel) ?_ | intro _) | refine zaY zz.out ?_ | ((first | (with_reducible refine uc (hr _) ?_) | ((with_reducible refine zU (hX0 _ _ (by exact zK)) ?_); rintro _ S ⟨rfl, τ1, hok, rfl⟩) | (with_reducible refine uc (Q8v _ (by assumption) _) ?_) | (refine Q0d (by exact zK) ?_) | (refine Q0e (by exact zK) ?_)); (try refine zsY zz.out ?_)) | refine zo ?_ | omega | refine ztY zz.out ?_ | fail)); try (all_goals clear zz))
    rename_i ω hω
    obtain ⟨f1, n1⟩ := hok
    have f1 := (Sg.none_set f1).2
    refine zU (w_end _ σ ω τ1 TT 0 D ?_ hgd hlen) ?_
    · (exact zu)
    rintro _ S2 ⟨rfl, rfl⟩
    simp only [vO, vQ, ↓vP, vE, vS, vB, vL, vF, vM, vN, Q0g, zb, zd, ze, ne_eq, not_false_eq_true, zf, zg, zk, zl, vT]
    (have zz := Bx.mk (j2 ui0 (j9 ui3 ui4 ui9 ui22 ui23 ui24 ui25 ui26 (j9 ui30 ui31 ui55 ui56 ui57 ui58 ui59 Q1k Q0u))); (repeat' (first | exact zc | (with_reducible first | apply And.intro | apply Q0a | apply Q0b | refine Q0c (by decide +kernel) ?_ | intro _) | refine zaY zz.out ?_ | ((first | (with_reducible refine uc (Q8v _ (by assumption) _) ?_) | (refine Q0d (by exact zK) ?_) | (refine Q0e (by exact zK) ?_)); (try refine zsY zz.out ?_)) | refine zo ?_ | omega | refine ztY zz.out ?_ | fail)); try (all_goals clear zz))
    all_goals exact ⟨_, .refl _, rfl⟩
end Go.Proofs.YtjdapkelojdefaaGreatDoor
namespace Go.Proofs.YtjdapkelojdefaaGreatDoor
open Go Go.V Go.Lex Go.Parse
theorem tks_get1 {l : List Tk} (h : 1 < l.length) : (tksA l).getD 1 [] = tkA (l.getD 1 (0, [], 0, 0)) := Y0b h
theorem p67 (ρ : Nat) (s : Rd) (σ : Sg) (hρ : σ ρ = some (rdA s)) (hl : WF s.l) : VCalls Tryz.prog 173 [.ref ρ 0] σ (fun x σ' => x = .tup [.agg [.i s.lit.1.1, .i s.lit.1.2.1, .s (bs s.lit.1.2.2)], .b s.lit.2.1] ∧ σ' = σ.set ρ (rdA s.lit.2.2)) := by
  obtain ⟨z24, h24, hz24⟩ := zero24
  have h20 := fun S (hS : S ρ = some (rdA s)) => p20 ρ s S hS
  have h21 := fun S (hS : S ρ = some (rdA s)) => p21 ρ s S hS hl.pos
  have h40 := fun S (hS : S ρ = some (rdA s)) es he => p40 ρ s .full [Q2m] es S he hS hl.pos (by simp)
  have h13 : ∀ S, S ρ = some (rdA s) → VCalls Tryz.prog 37 [.ref ρ 0, .s (bs Q8t)] S _ := fun S hS => p13 ρ s Q8t S hS hl.pos
  have hρ' := hρ
  have hlp := hl.pos
  rw [X8r] at h21
  unfold Rd.lit
  by_cases hc : s.c = 0
  · rw [if_neg (fun h => h hc)]
    simp only [decide_eq_true hc] at h20
    by_cases h3 : (hd s.l).1 = 3
    · rw [if_pos h3]
      simp only [X5s, h3] at h21 ⊢
      rw [Q7s] at hρ
      generalize (hd s.l).2.1 = t at *
      generalize (hd s.l).2.2.1 = n at *
      generalize (hd s.l).2.2.2 = a at *
      (refine vfun (fun _ => .no) Q0h Tryz.func173 (by kernel_rfl) ?_; simp only [Q0f, Tryz.f173, zw])
      repeat' (first | with_reducible rfl | exact .inr trivial | with_reducible apply And.intro | with_reducible apply Q0a | with_reducible apply Q0b | with_reducible refine Q0c (by decide +kernel) ?_ | with_reducible intro _ | ((first | (with_reducible first | refine .rs ?_ | refine .ds (by kernel_rfl) ?_ | refine .dg (by kernel_rfl) ?_ | refine .rg ?_ | refine .ite ?_ | refine .ret ?_ | refine .skip ?_ | refine .exit ?_ | refine .scope ?_ | refine .seq (.label ?_) | refine .block ?_ | refine .seq ?_) | (simp (disch := first | assumption | (apply zQ; assumption; assumption) | (apply zR; assumption; assumption; (intro e; cases e; done)) | omega) only [w64, w8, tg_eq, Go.V.n1, Go.V.n2, Go.V.nn, zm, zn, zp, zq, zr, zv]) | ((with_reducible refine (h20 _ (by exact zK)).mono ?_); rintro _ S ⟨rfl, rfl⟩) | ((with_reducible refine (h21 _ (by exact zK)).mono ?_); rintro _ S ⟨rfl, rfl⟩) | (refine Q0d (by exact zK) ?_) | (refine Q0e (by exact zK) ?_)); (try simp only [vO, vQ, ↓vP, vE, vS, vB, vL, vF, vM, vN, Q0g, zb, zd, ze, ne_eq, not_false_eq_true, zf, zg, zk, zl, Z3, Q2c, Z4, Q4x, Z80, Q6b, Z47, Q5s, Z30, Q4f, Z56, Q5t, Z102, Q2r, Z9, Q2f, Z23, h24, hz24, hρ, Q0y, Q1x, Q1q, Own.cut, vT])) | with_reducible refine Q1h ?_ | with_reducible refine Q0w (fun _ _ => ?_) | with_reducible refine Q1l (fun _ => ?_) (fun _ => ?_) | omega | ((with_reducible first | refine Q5c ?_ | refine Q3f ?_ | refine Q1v ?_ | refine Q3g ?_ | refine Q0v ?_); simp only [vO, vQ, ↓vP, vE, vS, vB, vL, vF, vM, vN, Q0g, zb, zd, ze, ne_eq, not_false_eq_true, zf, zg, zk, zl, Z3, Q2c, Z4, Q4x, Z80, Q6b, Z47, Q5s, Z30, Q4f, Z56, Q5t, Z102, Q2r, Z9, Q2f, Z23, h24, hz24, hρ, Q0y, Q1x, Q1q, Own.cut, vT]))
      all_goals (exact zE)
    · rw [if_neg h3]
      by_cases h4 : (hd s.l).1 = 4
      · rw [if_pos h4]
        simp only [X5s, h4] at h21 ⊢
        rw [Q7s] at hρ
        generalize (hd s.l).2.1 = t at *
        generalize (hd s.l).2.2.1 = n at *
        generalize (hd s.l).2.2.2 = a at *
        (refine vfun (fun _ => .no) Q0h Tryz.func173 (by kernel_rfl) ?_; simp only [Q0f, Tryz.f173, zw])
        repeat' (first | with_reducible rfl | exact .inr trivial | with_reducible apply And.intro | with_reducible apply Q0a | with_reducible apply Q0b | with_reducible refine Q0c (by decide +kernel) ?_ | with_reducible intro _ | ((first | (with_reducible first | refine .rs ?_ | refine .ds (by kernel_rfl) ?_ | refine .dg (by kernel_rfl) ?_ | refine .rg ?_ | refine .ite ?_ | refine .ret ?_ | refine .skip ?_ | refine .exit ?_ | refine .scope ?_ | refine .seq (.label ?_) | refine .block ?_ | refine .seq ?_) | (simp (disch := first | assumption | (apply zQ; assumption; assumption) | (apply zR; assumption; assumption; (intro e; cases e; done)) | omega) only [w64, w8, tg_eq, Go.V.n1, Go.V.n2, Go.V.nn, zm, zn, zp, zq, zr, zv]) | ((with_reducible refine (h20 _ (by exact zK)).mono ?_); rintro _ S ⟨rfl, rfl⟩) | ((with_reducible refine (h21 _ (by exact zK)).mono ?_); rintro _ S ⟨rfl, rfl⟩) | (refine Q0d (by exact zK) ?_) | (refine Q0e (by exact zK) ?_)); (try simp only [vO, vQ, ↓vP, vE, vS, vB, vL, vF, vM, vN, Q0g, zb, zd, ze, ne_eq, not_false_eq_true, zf, zg, zk, zl, Z3, Q2c, Z4, Q4x, Z80, Q6b, Z47, Q5s, Z30, Q4f, Z56, Q5t, Z102, Q2r, Z9, Q2f, Z23, h24, hz24, hρ, Q0y, Q1x, Q1q, Own.cut, vT])) | with_reducible refine Q1h ?_ | with_reducible refine Q0w (fun _ _ => ?_) | with_reducible refine Q1l (fun _ => ?_) (fun _ => ?_) | omega | ((with_reducible first | refine Q5c ?_ | refine Q3f ?_ | refine Q1v ?_ | refine Q3g ?_ | refine Q0v ?_); simp only [vO, vQ, ↓vP, vE, vS, vB, vL, vF, vM, vN, Q0g, zb, zd, ze, ne_eq, not_false_eq_true, zf, zg, zk, zl, Z3, Q2c, Z4, Q4x, Z80, Q6b, Z47, Q5s, Z30, Q4f, Z56, Q5t, Z102, Q2r, Z9, Q2f, Z23, h24, hz24, hρ, Q0y, Q1x, Q1q, Own.cut, vT]))
        all_goals (exact zE)
      · rw [if_neg h4]
        by_cases hm : 0 ≤ s.is [Q2m]
        · obtain ⟨_, hk, _⟩ := X5c hm
          have htl := hl.tail (show (hd s.l).1 ≠ 6 by omega)
          have htp := htl.1.pos
          have htl := htl.2
          have hlen : 1 < s.l.length := by omega
          have hg := tks_get1 hlen
          rw [X8r] at hg
          by_cases hn : (s.l.getD 1 (0, [], 0, 0)).1 = 3
          · rw [if_neg (by omega)]
            simp only [hn] at hg
            have hr2 : rdA s.next.next = .cells 80 [.sl .any (tksA s.l.tail.tail), .i s.d, .i s.c, .i s.a] := rfl
            simp only [hr2]
            rw [Q7s] at hρ
            generalize hd s.l = t at *
            generalize (s.l.getD 1 (0, [], 0, 0)).2.1 = t1 at *
            generalize (s.l.getD 1 (0, [], 0, 0)).2.2.1 = n1 at *
            generalize (s.l.getD 1 (0, [], 0, 0)).2.2.2 = a1 at *
            generalize s.is [Q2m] = m at *
            (refine vfun (fun _ => .no) Q0h Tryz.func173 (by kernel_rfl) ?_; simp only [Q0f, Tryz.f173, zw])
            repeat' (first | with_reducible rfl | exact .inr trivial | with_reducible apply And.intro | with_reducible apply Q0a | with_reducible apply Q0b | with_reducible refine Q0c (by decide +kernel) ?_ | with_reducible intro _ | ((first | (with_reducible first | refine .rs ?_ | refine .ds (by kernel_rfl) ?_ | refine .dg (by kernel_rfl) ?_ | refine .rg ?_ | refine .ite ?_ | refine .ret ?_ | refine .skip ?_ | refine .exit ?_ | refine .scope ?_ | refine .seq (.label ?_) | refine .block ?_ | refine .seq ?_) | (simp (disch := first | assumption | (apply zQ; assumption; assumption) | (apply zR; assumption; assumption; (intro e; cases e; done)) | omega) only [w64, w8, tg_eq, Go.V.n1, Go.V.n2, Go.V.nn, zm, zn, zp, zq, zr, zv]) | ((with_reducible refine (h20 _ (by exact zK)).mono ?_); rintro _ S ⟨rfl, rfl⟩) | ((with_reducible refine (h21 _ (by exact zK)).mono ?_); rintro _ S ⟨rfl, rfl⟩) | ((with_reducible refine (h40 _ (by exact zK) _ (by with_unfolding_all rfl)).mono ?_); rintro _ S ⟨rfl, rfl⟩) | (refine Q0d (by exact zK) ?_) | (refine Q0e (by exact zK) ?_)); (try simp only [vO, vQ, ↓vP, vE, vS, vB, vL, vF, vM, vN, Q0g, zb, zd, ze, ne_eq, not_false_eq_true, zf, zg, zk, zl, Z3, Q2c, Z4, Q4x, Z80, Q6b, Z47, Q5s, Z30, Q4f, Z56, Q5t, Z102, Q2r, Z9, Q2f, Z23, h24, hz24, Z75, Q4g, hρ, hg, Q0y, Q1x, Q1q, Own.cut, vT])) | with_reducible refine Q1h ?_ | with_reducible refine Q0w (fun _ _ => ?_) | with_reducible refine Q1l (fun _ => ?_) (fun _ => ?_) | omega | ((with_reducible first | refine Q5c ?_ | refine Q3f ?_ | refine Q1v ?_ | refine Q3g ?_ | refine Q0v ?_); simp only [vO, vQ, ↓vP, vE, vS, vB, vL, vF, vM, vN, Q0g, zb, zd, ze, ne_eq, not_false_eq_true, zf, zg, zk, zl, Z3, Q2c, Z4, Q4x, Z80, Q6b, Z47, Q5s, Z30, Q4f, Z56, Q5t, Z102, Q2r, Z9, Q2f, Z23, h24, hz24, Z75, Q4g, hρ, hg, Q0y, Q1x, Q1q, Own.cut, vT]))
            all_goals (exact zE)
          · rw [if_pos (.inr hn), pass1]
            rw [Q7s] at hρ
            generalize hd s.l = t at *
            generalize hqq : s.l.getD 1 (0, [], 0, 0) = q at *
            generalize s.is [Q2m] = m at *
            generalize s.has Q8t = hb at *
            (refine vfun (fun _ => .no) Q0h Tryz.func173 (by kernel_rfl) ?_; simp only [Q0f, Tryz.f173, zw])
            repeat' (first | with_reducible rfl | exact .inr trivial | with_reducible apply And.intro | with_reducible apply Q0a | with_reducible apply Q0b | with_reducible refine Q0c (by decide +kernel) ?_ | with_reducible intro _ | ((with_reducible (rename_i b hb0 tt htt _ _ _ _ _; refine .dms (fun x => x = b) [(0, false), (1, false), (2, true), (3, true), (4, false)] (by decide) (by decide +kernel) ?_)); (simp only [vO, vQ, ↓vP, vE, vS, vB, vL, vF, vM, vN, Q0g, zb, zd, ze, ne_eq, not_false_eq_true, zf, zg, zk, zl, Z3, Q2c, Z4, Q4x, Z80, Q6b, Z47, Q5s, Z30, Q4f, Z56, Q5t, Z102, Q2r, Z9, Q2f, Z23, h24, hz24, Z75, Q4g, hρ, hg, Q0y, Q1x, Q1q, Own.cut, vT])) | ((first | (with_reducible first | refine .rs ?_ | refine .ds (by kernel_rfl) ?_ | refine .dg (by kernel_rfl) ?_ | refine .rg ?_ | refine .ite ?_ | refine .ret ?_ | refine .skip ?_ | refine .exit ?_ | refine .scope ?_ | refine .seq (.label ?_) | refine .block ?_ | refine .seq ?_) | (simp (disch := first | assumption | (apply zQ; assumption; assumption) | (apply zR; assumption; assumption; (intro e; cases e; done)) | omega) only [w64, w8, tg_eq, Go.V.n1, Go.V.n2, Go.V.nn, zm, zn, zp, zq, zr, zv]) | ((with_reducible refine (h20 _ (by exact zK)).mono ?_); rintro _ S ⟨rfl, rfl⟩) | ((with_reducible refine (h21 _ (by exact zK)).mono ?_); rintro _ S ⟨rfl, rfl⟩) | ((with_reducible refine (h40 _ (by exact zK) _ (by with_unfolding_all rfl)).mono ?_); rintro _ S ⟨rfl, rfl⟩) | ((with_reducible refine (h13 _ (by exact zK)).mono ?_); rintro _ S ⟨rfl, rfl⟩) | with_reducible refine Q0j (fun _ _ => rfl) ?_ | (refine Q0j (by intro β h; first | (rcases h with h | h <;> subst h <;> (simp (disch := first | assumption | (apply zQ; assumption; assumption) | (apply zR; assumption; assumption; (intro e; cases e; done)) | omega) only [zn, zp, zq, zr, zv])) | (subst h; (simp (disch := first | assumption | (apply zQ; assumption; assumption) | (apply zR; assumption; assumption; (intro e; cases e; done)) | omega) only [zn, zp, zq, zr, zv]))) ?_) | (refine Q0d (o' := some (.cells 23 [.i 0, .i 0, .s (bs [])])) (Q8f (by assumption) (by exact zK)) ?_) | (refine Q0d (by exact zK) ?_) | (refine Q0e (by exact zK) ?_)); (try simp only [vO, vQ, ↓vP, vE, vS, vB, vL, vF, vM, vN, Q0g, zb, zd, ze, ne_eq, not_false_eq_true, zf, zg, zk, zl, Z3, Q2c, Z4, Q4x, Z80, Q6b, Z47, Q5s, Z30, Q4f, Z56, Q5t, Z102, Q2r, Z9, Q2f, Z23, h24, hz24, Z75, Q4g, hρ, hg, Q0y, Q1x, Q1q, Own.cut, vT])) | with_reducible refine Q1h ?_ | with_reducible refine Q0w (fun _ _ => ?_) | with_reducible refine Q1l (fun _ => ?_) (fun _ => ?_) | omega | ((with_reducible first | refine Q5c ?_ | refine Q3f ?_ | refine Q1v ?_ | refine Q3g ?_ | refine Q0v ?_); simp only [vO, vQ, ↓vP, vE, vS, vB, vL, vF, vM, vN, Q0g, zb, zd, ze, ne_eq, not_false_eq_true, zf, zg, zk, zl, Z3, Q2c, Z4, Q4x, Z80, Q6b, Z47, Q5s, Z30, Q4f, Z56, Q5t, Z102, Q2r, Z9, Q2f, Z23, h24, hz24, Z75, Q4g, hρ, hg, Q0y, Q1x, Q1q, Own.cut, vT]))
            all_goals (exact zE)
        · rw [if_pos (.inl (by omega)), pass1]
          rw [Q7s] at hρ
          generalize hd s.l = t at *
          generalize s.is [Q2m] = m at *
          generalize s.has Q8t = hb at *
          (refine vfun (fun _ => .no) Q0h Tryz.func173 (by kernel_rfl) ?_; simp only [Q0f, Tryz.f173, zw])
          repeat' (first | with_reducible rfl | exact .inr trivial | with_reducible apply And.intro | with_reducible apply Q0a | with_reducible apply Q0b | with_reducible refine Q0c (by decide +kernel) ?_ | with_reducible intro _ | ((with_reducible (rename_i b hb0 tt htt _ _ _ _; refine .dms (fun x => x = b) [(0, false), (1, false), (2, true), (3, true), (4, false)] (by decide) (by decide +kernel) ?_)); (simp only [vO, vQ, ↓vP, vE, vS, vB, vL, vF, vM, vN, Q0g, zb, zd, ze, ne_eq, not_false_eq_true, zf, zg, zk, zl, Z3, Q2c, Z4, Q4x, Z80, Q6b, Z47, Q5s, Z30, Q4f, Z56, Q5t, Z102, Q2r, Z9, Q2f, Z23, h24, hz24, Z75, Q4g, hρ, Q0y, Q1x, Q1q, Own.cut, vT])) | ((first | (with_reducible first | refine .rs ?_ | refine .ds (by kernel_rfl) ?_ | refine .dg (by kernel_rfl) ?_ | refine .rg ?_ | refine .ite ?_ | refine .ret ?_ | refine .skip ?_ | refine .exit ?_ | refine .scope ?_ | refine .seq (.label ?_) | refine .block ?_ | refine .seq ?_) | (simp (disch := first | assumption | (apply zQ; assumption; assumption) | (apply zR; assumption; assumption; (intro e; cases e; done)) | omega) only [w64, w8, tg_eq, Go.V.n1, Go.V.n2, Go.V.nn, zm, zn, zp, zq, zr, zv]) | ((with_reducible refine (h20 _ (by exact zK)).mono ?_); rintro _ S ⟨rfl, rfl⟩) | ((with_reducible refine (h21 _ (by exact zK)).mono ?_); rintro _ S ⟨rfl, rfl⟩) | ((with_reducible refine (h40 _ (by exact zK) _ (by with_unfolding_all rfl)).mono ?_); rintro _ S ⟨rfl, rfl⟩) | ((with_reducible refine (h13 _ (by exact zK)).mono ?_); rintro _ S ⟨rfl, rfl⟩) | with_reducible refine Q0j (fun _ _ => rfl) ?_ | (refine Q0j (by intro β h; first | (rcases h with h | h <;> subst h <;> (simp (disch := first | assumption | (apply zQ; assumption; assumption) | (apply zR; assumption; assumption; (intro e; cases e; done)) | omega) only [zn, zp, zq, zr, zv])) | (subst h; (simp (disch := first | assumption | (apply zQ; assumption; assumption) | (apply zR; assumption; assumption; (intro e; cases e; done)) | omega) only [zn, zp, zq, zr, zv]))) ?_) | (refine Q0d (o' := some (.cells 23 [.i 0, .i 0, .s (bs [])])) (Q8f (by assumption) (by exact zK)) ?_) | (refine Q0d (by exact zK) ?_) | (refine Q0e (by exact zK) ?_)); (try simp only [vO, vQ, ↓vP, vE, vS, vB, vL, vF, vM, vN, Q0g, zb, zd, ze, ne_eq, not_false_eq_true, zf, zg, zk, zl, Z3, Q2c, Z4, Q4x, Z80, Q6b, Z47, Q5s, Z30, Q4f, Z56, Q5t, Z102, Q2r, Z9, Q2f, Z23, h24, hz24, Z75, Q4g, hρ, Q0y, Q1x, Q1q, Own.cut, vT])) | with_reducible refine Q1h ?_ | with_reducible refine Q0w (fun _ _ => ?_) | with_reducible refine Q1l (fun _ => ?_) (fun _ => ?_) | omega | ((with_reducible first | refine Q5c ?_ | refine Q3f ?_ | refine Q1v ?_ | refine Q3g ?_ | refine Q0v ?_); simp only [vO, vQ, ↓vP, vE, vS, vB, vL, vF, vM, vN, Q0g, zb, zd, ze, ne_eq, not_false_eq_true, zf, zg, zk, zl, Z3, Q2c, Z4, Q4x, Z80, Q6b, Z47, Q5s, Z30, Q4f, Z56, Q5t, Z102, Q2r, Z9, Q2f, Z23, h24, hz24, Z75, Q4g, hρ, Q0y, Q1x, Q1q, Own.cut, vT]))
          all_goals (exact zE)
  · rw [if_pos hc]
    simp only [decide_eq_false hc] at h20
    rw [Q7s] at hρ
    (refine vfun (fun _ => .no) Q0h Tryz.func173 (by kernel_rfl) ?_; simp only [Q0f, Tryz.f173, zw])
    (have zz := Bx.mk (j5 ui3 ui4 ui80 ui47 (j9 ui30 ui56 Q0u ui9 Z23 h24 hz24 hρ @Q0y)); (repeat' (first | exact zc | (with_reducible first | apply And.intro | apply Q0a | apply Q0b | refine Q0c (by decide +kernel) ?_ | intro _) | refine zaW zz.out ?_ | ((first | ((with_reducible refine (h20 _ (by exact zK)).mono ?_); rintro _ S ⟨rfl, rfl⟩) | (refine Q0d (by exact zK) ?_) | (refine Q0e (by exact zK) ?_)); (try refine zs zz.out ?_)) | refine zo ?_ | omega | refine zt zz.out ?_ | fail)); try (all_goals clear zz))
    rw [Sg.set_id hρ']
    all_goals (exact zE)
def X0l (f : FuncId) (F : Pr) (d : Int) : Prop := ∀ (ρ : Nat) (s : Rd) (σ : Sg), σ ρ = some (rdA s) → WF s.l → s.d = d → VCalls Tryz.prog f [.ref ρ 0] σ (fun x σ' => x = .agg (exA (F s).1) ∧ σ' = σ.set ρ (rdA (F s).2))
theorem Q4z (e : Ex) : exK .any e = exA e := by cases e; rw [Q5l, Q3e]
theorem rdA_down1 (s : Rd) : rdA { s with d := s.d + 1 } = .cells 80 [.sl .any (tksA s.l), .i (s.d + 1), .i s.c, .i s.a] := rfl
theorem rdA_up (s : Rd) : rdA s.up = .cells 80 [.sl .any (tksA s.l), .i (s.d - 1), .i s.c, .i s.a] := rfl
theorem p63 (ρ : Nat) (s : Rd) (σ : Sg) (f : FuncId) (F : Pr) (hF : s.d < 10 → X0l f F (s.d + 1)) (hN : Nice F) (hρ : σ ρ = some (rdA s)) (hl : WF s.l) (hd : 0 ≤ s.d ∧ s.d ≤ 10) : VCalls Tryz.prog 169 [.ref ρ 0, .bm f [.ref ρ 0]] σ (fun x σ' => x = .agg (exA (Q2i F s).1) ∧ σ' = σ.set ρ (rdA (Q2i F s).2)) := by
  refine Q8u ?_
  obtain ⟨z27, h27, hz27⟩ := Q5u
  simp only [ex0, Q3e, Q0s] at hz27
  have hlp := hl.pos
  have hs1 : ({ s with d := s.d + 1 } : Rd).l = s.l := rfl
  have h14 := fun S hS => p14 ρ { s with d := s.d + 1 } 10 S hS hlp
  have h20 := fun S (hS : S ρ = some (rdA s.down)) => p20 ρ s.down S hS
  obtain ⟨q1, q2, q3, q4⟩ := down_ok hl
  unfold Q2i
  by_cases hdp : s.d + 1 > 10
  · have hdn : s.down = Rd.fail { s with d := s.d + 1 } 10 := if_pos hdp
    have hc : ¬ s.down.c = 0 := by
      rw [hdn]
      unfold Rd.fail
      split
      · exact (by decide : ¬ (10 : Int) = 0)
      · assumption
    rw [if_neg hc]
    simp only [decide_eq_false hc] at h20
    rw [← hdn] at h14
    simp only [rdA_down1] at h14
    simp only [ex0, Q3e, Q0s, rdA_up, Q7s] at h14 h20 hρ ⊢
    generalize s.down = s2 at *
    (refine vfun (fun _ => .no) Q0h Tryz.func169 (by kernel_rfl) ?_; simp only [Q0f, Tryz.f169, zw])
    (have zz := Bx.mk (j9 ui3 Z26 h27 hz27 ui80 ui24 ui23 ui9 hρ); (repeat' (first | exact zc | (with_reducible first | apply And.intro | apply Q0a | apply Q0b | refine Q0c (by decide +kernel) ?_ | intro _) | refine zaW zz.out ?_ | ((first | ((with_reducible refine (h14 _ (by exact zK)).mono ?_); rintro _ S ⟨rfl, rfl⟩) | ((with_reducible refine (h20 _ (by exact zK)).mono ?_); rintro _ S ⟨rfl, rfl⟩) | (refine Q0d (by exact zK) ?_) | (refine Q0e (by exact zK) ?_)); (try refine zs zz.out ?_)) | refine zo ?_ | omega | refine zt zz.out ?_ | fail)); try (all_goals clear zz))
    all_goals (refine ⟨_, .refl _, _, rfl, ?_⟩; (first | exact Sg.sub.refl _ | ((repeat (first | exact Sg.sub.refl _ | refine Sg.sub.set_both ?_ | refine Sg.sub.set_fresh ?_ (by first | assumption | exact Sg.set_none (by assumption) (by first | assumption | (apply Go.Cert.ne_of2a; assumption; assumption))))); done) | (intro y p hy; simp only [Sg.set_apply, Sg.del_apply] at hy ⊢; grind)))
  · have hdn : s.down = { s with d := s.d + 1 } := if_neg hdp
    have hr := hF (by omega)
    have hS : rdA s.down = .cells 80 [.sl .any (tksA s.l), .i (s.d + 1), .i s.c, .i s.a] := by rw [hdn]; rfl
    by_cases hc : s.down.c = 0
    · rw [if_pos hc]
      simp only [decide_eq_true hc] at h20
      have hf := fun S hS => hr ρ s.down S hS q2 (by rw [q1])
      have o := hN s.down q2
      have hFl := Q0r (F s.down).1
      have hFo := Q1f (F s.down).1
      have hFt := Q0q (F s.down).1
      have hFd := Q0x (F s.down).1
      have hk := Q4z (F s.down).1
      have hd3 := o.d
      rw [q1] at hd3
      simp only [hS] at h20 hf
      generalize (F s.down).1 = e at *
      generalize (F s.down).2 = s3 at *
      generalize hE : exA e = E at *
      simp only [rdA_up] at hf hρ ⊢
      simp only [Q7s] at hf hρ ⊢
      (refine vfun (fun _ => .no) Q0h Tryz.func169 (by kernel_rfl) ?_; simp only [Q0f, Tryz.f169, zw])
      (have zz := Bx.mk (j6 ui3 Z26 h27 hz27 ui80 (j9 ui24 ui23 ui9 hρ hFl hFo hFt hFd @List.append_nil.{0})); (repeat' (first | exact zc | (with_reducible first | apply And.intro | apply Q0a | apply Q0b | refine Q0c (by decide +kernel) ?_ | intro _) | refine zaW zz.out ?_ | ((first | ((with_reducible refine (h20 _ (by exact zK)).mono ?_); rintro _ S ⟨rfl, rfl⟩) | ((with_reducible refine (hf _ (by exact zK)).mono ?_); rintro _ S ⟨rfl, rfl⟩) | (refine Q0d (by exact zK) ?_) | (refine Q0e (by exact zK) ?_)); (try refine zs zz.out ?_)) | refine zo ?_ | omega | refine zt zz.out ?_ | fail)); try (all_goals clear zz))
      refine ⟨_, .refl _, .any, by rw [hk], ?_⟩
      (exact zu)
    · rw [if_neg hc]
      simp only [decide_eq_false hc] at h20
      simp only [hS] at h20
      have hu : rdA s.down.up = .cells 80 [.sl .any (tksA s.l), .i (s.d + 1 - 1), .i s.c, .i s.a] := by rw [hdn]; rfl
      simp only [hu, ex0, Q3e, Q0s, Q7s] at hρ ⊢
      (refine vfun (fun _ => .no) Q0h Tryz.func169 (by kernel_rfl) ?_; simp only [Q0f, Tryz.f169, zw])
      (have zz := Bx.mk (j9 ui3 Z26 h27 hz27 ui80 ui24 ui23 ui9 hρ); (repeat' (first | exact zc | (with_reducible first | apply And.intro | apply Q0a | apply Q0b | refine Q0c (by decide +kernel) ?_ | intro _) | refine zaW zz.out ?_ | ((first | ((with_reducible refine (h20 _ (by exact zK)).mono ?_); rintro _ S ⟨rfl, rfl⟩) | (refine Q0d (by exact zK) ?_) | (refine Q0e (by exact zK) ?_)); (try refine zs zz.out ?_)) | refine zo ?_ | omega | refine zt zz.out ?_ | fail)); try (all_goals clear zz))
      all_goals (refine ⟨_, .refl _, _, rfl, ?_⟩; (first | exact Sg.sub.refl _ | ((repeat (first | exact Sg.sub.refl _ | refine Sg.sub.set_both ?_ | refine Sg.sub.set_fresh ?_ (by first | assumption | exact Sg.set_none (by assumption) (by first | assumption | (apply Go.Cert.ne_of2a; assumption; assumption))))); done) | (intro y p hy; simp only [Sg.set_apply, Sg.del_apply] at hy ⊢; grind)))
end Go.Proofs.YtjdapkelojdefaaGreatDoor
namespace Go.V
theorem AVw.rows {k : Own} {es es' : List (List AV)} (hl : es.length = es'.length) (h : ∀ (i : Nat) (e e' : List AV), es[i]? = some e → es'[i]? = some e' → e.length = e'.length ∧ ∀ (j : Nat) (x x' : AV), e[j]? = some x → e'[j]? = some x' → AVw x x') : AVw (.sl k es) (.sl .any es') := fun κ v hr => by
  have other : ∀ i e', es'[i]? = some e' → ∃ e, es[i]? = some e := fun i e' he => by
    have hi : i < es'.length := by
      rcases Nat.lt_or_ge i es'.length with h' | h'
      · exact h'
      · rw [List.getElem?_eq_none h'] at he; cases he
    exact ⟨_, List.getElem?_eq_getElem (by omega)⟩
  cases hr with
  | slnil k hk =>
    obtain rfl : es' = [] := List.eq_nil_of_length_eq_zero hl.symm
    exact .slnil _ trivial
  | slemp k hk a c =>
    obtain rfl : es' = [] := List.eq_nil_of_length_eq_zero hl.symm
    exact .slemp _ (.inr rfl) a c
  | sl k es a n c sz f hk hn hc hs hz hr hx =>
    refine .sl .any es' a n c sz f trivial (by omega) hc hs (fun i e' he' => ?_) hr (fun i j e' x' he' hx' => ?_)
    · obtain ⟨e, he⟩ := other i e' he'
      rw [← (h i e e' he he').1]
      exact hz i e he
    · obtain ⟨e, he⟩ := other i e' he'
      have hj : j < e.length := by
        rw [(h i e e' he he').1]
        rcases Nat.lt_or_ge j e'.length with h' | h'
        · exact h'
        · rw [List.getElem?_eq_none h'] at hx'; cases hx'
      exact (h i e e' he he').2 j _ _ (List.getElem?_eq_getElem hj) hx' κ _ (hx i j e _ he (List.getElem?_eq_getElem hj))
end Go.V
namespace Go.Parse
open Go.V Go.Lex Go.Proofs.YtjdapkelojdefaaGreatDoor
inductive Sp
  | base (e : Ex)
  | op (k : Int) (a : Sp) (f : Ex)
def spA : Sp → List AV
  | .base e => exA e
  | .op k a f => [.i 3, .i k, .s (bs []), .s (bs []), .i 0, .i 0, .s (bs []), .sl .full [spA a, exA f]]
def Sp.ex : Sp → Ex
  | .base e => e
  | .op k a f => opE k a.ex f
theorem X7d (a : Sp) : (spA a).length = 8 := by
  cases a with
  | base e => exact Q0r e
  | op k a f => rfl
theorem spA_one (a : Sp) : (spA a).all AV.one = true := by
  cases a with
  | base e => exact Q1f e
  | op k a f => rfl
theorem spA_take (a : Sp) : (spA a).take 8 = spA a := List.take_of_length_le (by rw [X7d]; omega)
theorem spA_drop (a : Sp) : (spA a).drop 8 = [] := List.drop_of_length_le (by rw [X7d]; omega)
theorem spA_cells : ∀ (a : Sp) (j : Nat) (x x' : AV), (spA a)[j]? = some x → (exA a.ex)[j]? = some x' → AVw x x'
  | .base e, j, x, x', h1, h2 => by
    have : some x = some x' := h1.symm.trans h2
    cases this
    exact AVw.refl _
  | .op k a f, j, x, x', h1, h2 => by
    rw [Sp.ex, Q5l] at h2
    rw [spA] at h1
    match j with
    | 0 => cases h1; cases h2; exact AVw.refl _
    | 1 => cases h1; cases h2; exact AVw.refl _
    | 2 => cases h1; cases h2; exact AVw.refl _
    | 3 => cases h1; cases h2; exact AVw.refl _
    | 4 => cases h1; cases h2; exact AVw.refl _
    | 5 => cases h1; cases h2; exact AVw.refl _
    | 6 => cases h1; cases h2; exact AVw.refl _
    | 7 =>
      cases h1
      cases h2
      rw [Q2e, Q2e, Q0s]
      refine AVw.rows rfl (fun i e e' g1 g2 => ?_)
      match i with
      | 0 =>
        cases g1; cases g2
        exact ⟨by rw [X7d, Q0r], fun j x x' k1 k2 => spA_cells a j x x' k1 k2⟩
      | 1 =>
        cases g1; cases g2
        refine ⟨rfl, fun j x x' k1 k2 => ?_⟩
        have : some x = some x' := k1.symm.trans k2
        cases this
        exact AVw.refl _
      | i + 2 => simp at g1
    | j + 8 => simp at h1
theorem rowL_no {F : Pr} {first : Int} {ws : List By} {n : Nat} {e : Ex} {s : Rd} (h : ¬ 0 ≤ s.is ws) : rowL F first ws n e s = (e, s) := by
  cases n with
  | zero => rfl
  | succ n => rw [rowL, if_neg h]
theorem rowL_yes {F : Pr} (hN : Nice F) {first : Int} {ws : List By} {e : Ex} {s : Rd} (hl : WF s.l) (h : 0 ≤ s.is ws) : rowL F first ws s.l.length e s = rowL F first ws (F s.next).2.l.length (opE (first + s.is ws) e (F s.next).1) (F s.next).2 ∧ (F s.next).2.l.length < s.l.length := by
  obtain ⟨h1, h2, _⟩ := X5c h
  have o1 := X3z hl h
  have o2 := hN s.next o1.wf
  have ht : s.next.l.length + 1 = s.l.length := (hl.tail (by omega)).2
  have hle := o2.le
  have hp := o2.wf.pos
  obtain ⟨m, hm⟩ : ∃ m, s.l.length = m + 1 := ⟨s.l.length - 1, by omega⟩
  rw [hm, rowL, if_pos h]
  exact ⟨X6p hN first ws _ _ _ _ o2.wf (by omega) (Nat.le_refl _), by omega⟩
theorem AVw.sp (a : Sp) : AVw (.agg (spA a)) (.agg (exA a.ex)) := AVw.agg (by rw [X7d, Q0r]) (fun i x x' h1 h2 => spA_cells a i x x' h1 h2)
end Go.Parse
namespace Go.Proofs.YtjdapkelojdefaaGreatDoor
open Go Go.V Go.Lex Go.Parse
theorem lose_sp {f : FuncId} {args : List AV} {e : Ex} {σ S : Sg} (h : VCalls Tryz.prog f args σ (fun x σ' => ∃ a : Sp, (x = .agg (spA a) ∧ a.ex = e) ∧ S.sub σ')) : VCalls Tryz.prog f args σ (fun x σ' => x = .agg (exA e) ∧ σ' = S) :=
  h.lose fun x σ' hx => by
    obtain ⟨a, ⟨rfl, rfl⟩, hs⟩ := hx
    exact ⟨_, S, AVw.sp a, hs, rfl, rfl⟩
theorem p18 (ρ : Nat) (s : Rd) (σ : Sg) (f : FuncId) (F : Pr) (first : Int) (o : Own) (ws : List By) (es : List (List AV)) (he : es = strs ws) (hF : X0l f F s.d) (hN : Nice F) (hρ : σ ρ = some (rdA s)) (hl : WF s.l) (hf : 0 ≤ first ∧ first ≤ 100) (hw : ws.length ≤ 100) : VCalls Tryz.prog 83 [.ref ρ 0, .bm f [.ref ρ 0], .i first, .sl o es] σ (fun x σ' => x = .agg (exA (row F first ws s).1) ∧ σ' = σ.set ρ (rdA (row F first ws s).2)) := by
  subst he
  refine lose_sp ?_
  obtain ⟨z27, h27, hz27⟩ := Q5u
  simp only [ex0, Q3e, Q0s] at hz27
  have hf := fun S hS => hF ρ s S hS hl rfl
  have o1 := hN s hl
  have hFl := Q0r (F s).1
  have hFo := Q1f (F s).1
  have hFt := Q0q (F s).1
  have hFd := Q0x (F s).1
  have h22 := fun s' S (hS : S ρ = some (rdA s')) (hl' : WF s'.l) => p22 ρ s' o ws _ S rfl hS hl'.pos (by omega)
  (refine vfun (fun _ => .no) Q0h Tryz.func83 (by kernel_rfl) ?_; simp only [Q0f, Tryz.f83, zw])
  (have zz := Bx.mk (j4 ui3 Z26 h27 (j9 hz27 ui24 ui23 ui9 hFl hFo hFt hFd @List.append_nil.{0})); (repeat' (first | exact zc | (with_reducible first | apply And.intro | apply Q0a | apply Q0b | refine Q0c (by decide +kernel) ?_ | intro _) | refine zaW zz.out ?_ | ((first | ((with_reducible refine (hf _ (by exact zK)).mono ?_); rintro _ S ⟨rfl, rfl⟩) | ((with_reducible refine (h22 (F s).2 _ (by exact zK) o1.wf).mono ?_); rintro _ S ⟨rfl, rfl⟩) | (refine Q0d (by exact zK) ?_) | (refine Q0e (by exact zK) ?_)); (try refine zs zz.out ?_)) | refine zo ?_ | omega | refine zt zz.out ?_ | fail)); try (all_goals clear zz))
  rename_i x8 h8 x9 h9 hne hne2
  have hlt := is_lt
  refine VW.loop3 (Sp.base (F s).1) (F s).2 () (fun a s' _ => rowL F first ws s'.l.length a.ex s' = row F first ws s ∧ WF s'.l ∧ s'.d = s.d) (fun a s' _ => [(0, .ref ρ 0), (1, .bm f [.ref ρ 0]), (2, .i first), (3, .sl o (strs ws)), (8, .ref x8 0), (9, .ref x9 0), (10, .i (s'.is ws))]) (fun a s' _ => ((σ.set ρ (rdA (s'.pass ws))).set x8 (.cells 26 [AV.i 0, AV.i 0, AV.s (bs []), AV.s (bs []), AV.i 0, AV.i 0, AV.s (bs []), AV.sl Own.nil []])).set x9 (.cells 26 (spA a))) (fun _ s' _ => s'.l.length) ⟨rfl, o1.wf, o1.d⟩ ?_ ?_ ?_
  · have hsp : spA (Sp.base (F s).1) = exA (F s).1 := rfl
    rw [hsp]
    generalize rdA ((F s).2.pass ws) = Z
    have h8ρ := Go.Cert.ne_of2a h8 hρ
    have h9ρ := Go.Cert.ne_of2a h9 hρ
    intro y p hy
    simp only [Sg.set_apply, Sg.del_apply] at hy ⊢
    grind
  · simp only [vO, vQ, ↓vP, vE, vS, vB, vL, vF, vM, vN, Q0g, zb, zd, ze, ne_eq, not_false_eq_true, zf, zg, zk, zl, vT]
    all_goals rfl
  rintro a s' _ ⟨g1, g2, g3⟩
  have h8ρ := Go.Cert.ne_of2a h8 hρ
  have h9ρ := Go.Cert.ne_of2a h9 hρ
  have ha1 := X7d a
  have ha2 := spA_one a
  have ha3 := spA_take a
  have ha4 := spA_drop a
  by_cases hk : 0 ≤ s'.is ws
  · have hps : s'.pass ws = s'.next := if_pos hk
    have hlt1 := (hlt s' ws).2
    obtain ⟨k1, k2⟩ := rowL_yes hN (first := first) (e := a.ex) g2 hk
    have o2 := X3z g2 hk
    have hf2 := fun S hS => hF ρ s'.next S hS o2.wf g3
    have o3 := hN s'.next o2.wf
    have hFl2 := Q0r (F s'.next).1
    have hFo2 := Q1f (F s'.next).1
    have hFt2 := Q0q (F s'.next).1
    have hFd2 := Q0x (F s'.next).1
    have h222 := fun S hS => h22 (F s'.next).2 S hS o3.wf
    have hd3 : (F s'.next).2.d = s.d := o3.d.trans g3
    rw [hps]
    rw [g1] at k1
    generalize hE : (F s'.next).1 = e2 at *
    generalize (F s'.next).2 = s2 at *
    generalize s'.next = s1 at *
    generalize s'.is ws = kk at *
    (have zz := Bx.mk (j8 ui3 Z26 h27 hz27 ui24 ui23 ui9 (j9 ha1 ha2 ha3 ha4 hFl2 hFo2 hFt2 hFd2 @List.append_nil.{0})); (repeat' (first | exact zc | (with_reducible first | apply And.intro | apply Q0a | apply Q0b | refine Q0c (by decide +kernel) ?_ | intro _) | refine zaW zz.out ?_ | ((first | ((with_reducible refine (hf2 _ (by exact zK)).mono ?_); rintro _ S ⟨rfl, rfl⟩) | ((with_reducible refine (h222 _ (by exact zK)).mono ?_); rintro _ S ⟨rfl, rfl⟩) | (refine Q0d (by exact zK) ?_) | (refine Q0e (by exact zK) ?_)); (try refine zs zz.out ?_)) | refine zo ?_ | omega | refine zt zz.out ?_ | fail)); try (all_goals clear zz))
    rename_i x11 h11 n1 n2 n3
    refine ⟨.op (first + kk) a e2, s2, (), ⟨⟨k1.symm, o3.wf, hd3⟩, k2⟩, ?_, rfl⟩
    have hsp : spA (Sp.op (first + kk) a e2) = [.i 3, .i (first + kk), .s (bs []), .s (bs []), .i 0, .i 0, .s (bs []), .sl .full [spA a, exA e2]] := rfl
    rw [hsp]
    clear hf2 h222 h22 hF hN
    generalize rdA (s2.pass ws) = Z
    intro y p hy
    simp only [Sg.set_apply, Sg.del_apply] at hy ⊢
    grind
  · have hps : s'.pass ws = s' := if_neg hk
    rw [rowL_no hk] at g1
    rw [hps]
    have g2' : (row F first ws s).1 = a.ex := by rw [← g1]
    have g3' : (row F first ws s).2 = s' := by rw [← g1]
    rw [g2', g3']
    generalize s'.is ws = kk at *
    (have zz := Bx.mk (j3 ui3 Z26 (j9 h27 hz27 ui24 ui23 ui9 ha1 ha2 ha3 ha4)); (repeat' (first | exact zc | (with_reducible first | apply And.intro | apply Q0a | apply Q0b | refine Q0c (by decide +kernel) ?_ | intro _) | refine zaW zz.out ?_ | ((first | (refine Q0d (by exact zK) ?_) | (refine Q0e (by exact zK) ?_)); (try refine zs zz.out ?_)) | refine zo ?_ | omega | refine zt zz.out ?_ | fail)); try (all_goals clear zz))
    refine ⟨_, .refl _, a, ⟨rfl, rfl⟩, ?_⟩
    clear h22 hF hN hf
    generalize rdA s' = Z
    intro y p hy
    simp only [Sg.set_apply, Sg.del_apply] at hy ⊢
    grind
structure RD (D : Dp) (d : Int) : Prop where
  fac : X0l 197 D.fac d
  not : X0l 135 D.not d
  ex : X0l 35 D.ex d
theorem q75 (D : Dp) (d : Int) (hD : d < 10 → RD D (d + 1)) (hN : D.Nice) (hd : 0 ≤ d ∧ d ≤ 10) : X0l 197 (facL D) d := by
  intro ρ s σ hρ hl hs
  subst hs
  refine Q8u ?_
  obtain ⟨z27, h27, hz27⟩ := Q5u
  obtain ⟨z24, h24, hz24⟩ := zero24
  simp only [ex0, Q3e, Q0s] at hz27
  have o1 := ok_lit hl
  have h67 := fun S hS => p67 ρ s S hS hl
  have h22 := fun S hS es he => p22 ρ s.lit.2.2 .full [Q2m, [40]] es S he hS o1.wf.pos (by simp)
  rw [Y0j] at h22
  unfold facL
  cases hb : s.lit.2.1 with
  | true =>
    rw [if_pos rfl]
    simp only [hb] at h67
    simp only [Q3e, Q0s]
    generalize s.lit.1.1 = va at *
    generalize s.lit.1.2.1 = vb at *
    generalize s.lit.1.2.2 = vc at *
    generalize s.lit.2.2 = s1 at *
    (refine vfun (fun _ => .no) Q0h Tryz.func197 (by kernel_rfl) ?_; simp only [Q0f, Tryz.f197, zw])
    (have zz := Bx.mk (j2 ui3 (j9 ui4 Z26 h27 hz27 ui24 Z23 h24 hz24 ui9)); (repeat' (first | exact zc | (with_reducible first | apply And.intro | apply Q0a | apply Q0b | refine Q0c (by decide +kernel) ?_ | intro _) | refine zaW zz.out ?_ | ((first | ((with_reducible refine (h67 _ (by exact zK)).mono ?_); rintro _ S ⟨rfl, rfl⟩) | (refine Q0d (by exact zK) ?_) | (refine Q0e (by exact zK) ?_)); (try refine zs zz.out ?_)) | refine zo ?_ | omega | refine zt zz.out ?_ | fail)); try (all_goals clear zz))
    all_goals (refine ⟨_, .refl _, _, rfl, ?_⟩; (first | exact Sg.sub.refl _ | ((repeat (first | exact Sg.sub.refl _ | refine Sg.sub.set_both ?_ | refine Sg.sub.set_fresh ?_ (by first | assumption | exact Sg.set_none (by assumption) (by first | assumption | (apply Go.Cert.ne_of2a; assumption; assumption))))); done) | (intro y p hy; simp only [Sg.set_apply, Sg.del_apply] at hy ⊢; grind)))
  | false =>
    rw [if_neg (by simp)]
    simp only [hb] at h67
    by_cases h0 : s.lit.2.2.is [Q2m, [40]] = 0
    · rw [if_pos h0]
      rw [if_pos (by omega)] at h22
      simp only [h0] at h22
      have o2 := X3z (ws := [Q2m, [40]]) o1.wf (by omega)
      have hdd : s.lit.2.2.next.d = s.d := o1.d
      have h63 := fun S hS => p63 ρ s.lit.2.2.next S 197 D.fac (fun h => by rw [hdd] at h ⊢; exact (hD h).fac) hN.fac hS o2.wf (by rw [hdd]; exact hd)
      generalize (Q2i D.fac s.lit.2.2.next).1 = e at *
      generalize (Q2i D.fac s.lit.2.2.next).2 = s3 at *
      generalize s.lit.2.2.next = s2 at *
      generalize s.lit.1.1 = va at *
      generalize s.lit.1.2.1 = vb at *
      generalize s.lit.1.2.2 = vc at *
      generalize s.lit.2.2 = s1 at *
      have h62 : ∀ σ, VCalls Tryz.prog 168 [.i 5, .agg (exA e)] σ _ := fun σ => p62 5 e σ
      have hFl := Q0r (ofE 5 e)
      have hFo := Q1f (ofE 5 e)
      have hFt := Q0q (ofE 5 e)
      have hFd := Q0x (ofE 5 e)
      have hk := Q4z (ofE 5 e)
      generalize ofE 5 e = e5 at *
      (refine vfun (fun _ => .no) Q0h Tryz.func197 (by kernel_rfl) ?_; simp only [Q0f, Tryz.f197, zw])
      (have zz := Bx.mk (j7 ui3 ui4 Z26 h27 hz27 ui24 (j9 Z23 h24 hz24 ui9 ui75 hFl hFo hFt hFd)); (repeat' (first | exact zc | (with_reducible first | apply And.intro | apply Q0a | apply Q0b | refine Q0c (by decide +kernel) ?_ | intro _) | refine zaW zz.out ?_ | ((first | ((with_reducible refine (h67 _ (by exact zK)).mono ?_); rintro _ S ⟨rfl, rfl⟩) | ((with_reducible refine (h22 _ (by exact zK) _ (by with_unfolding_all rfl)).mono ?_); rintro _ S ⟨rfl, rfl⟩) | ((with_reducible refine (h63 _ (by exact zK)).mono ?_); rintro _ S ⟨rfl, rfl⟩) | ((with_reducible refine (h62 _).mono ?_); rintro _ S ⟨rfl, rfl⟩) | (refine Q0d (by exact zK) ?_) | (refine Q0e (by exact zK) ?_)); (try refine zs zz.out ?_)) | refine zo ?_ | omega | refine zt zz.out ?_ | fail)); try (all_goals clear zz))
      all_goals (refine ⟨_, .refl _, .any, by rw [Q4z], ?_⟩; (first | exact Sg.sub.refl _ | ((repeat (first | exact Sg.sub.refl _ | refine Sg.sub.set_both ?_ | refine Sg.sub.set_fresh ?_ (by first | assumption | exact Sg.set_none (by assumption) (by first | assumption | (apply Go.Cert.ne_of2a; assumption; assumption))))); done) | (intro y p hy; simp only [Sg.set_apply, Sg.del_apply] at hy ⊢; grind)))
    · rw [if_neg h0]
      by_cases h1 : s.lit.2.2.is [Q2m, [40]] = 1
      · rw [if_pos h1]
        rw [if_pos (by omega)] at h22
        simp only [h1] at h22
        have o2 := X3z (ws := [Q2m, [40]]) o1.wf (by omega)
        have hdd : s.lit.2.2.next.d = s.d := o1.d
        have h63 := fun S hS => p63 ρ s.lit.2.2.next S 35 D.ex (fun h => by rw [hdd] at h ⊢; exact (hD h).ex) hN.ex hS o2.wf (by rw [hdd]; exact hd)
        have o3 := Q9y hN.ex s.lit.2.2.next o2.wf
        have h41 := fun S hS es he => p41 ρ (Q2i D.ex s.lit.2.2.next).2 .full [[41]] es S he hS o3.wf (by simp)
        have hFl := Q0r (Q2i D.ex s.lit.2.2.next).1
        have hFo := Q1f (Q2i D.ex s.lit.2.2.next).1
        have hFt := Q0q (Q2i D.ex s.lit.2.2.next).1
        have hFd := Q0x (Q2i D.ex s.lit.2.2.next).1
        generalize (Q2i D.ex s.lit.2.2.next).1 = e at *
        generalize (Q2i D.ex s.lit.2.2.next).2 = s3 at *
        generalize s3.must [[41]] = s4 at *
        generalize s.lit.2.2.next = s2 at *
        generalize s.lit.1.1 = va at *
        generalize s.lit.1.2.1 = vb at *
        generalize s.lit.1.2.2 = vc at *
        generalize s.lit.2.2 = s1 at *
        (refine vfun (fun _ => .no) Q0h Tryz.func197 (by kernel_rfl) ?_; simp only [Q0f, Tryz.f197, zw])
        (have zz := Bx.mk (j7 ui3 ui4 Z26 h27 hz27 ui24 (j9 Z23 h24 hz24 ui9 ui75 hFl hFo hFt hFd)); (repeat' (first | exact zc | (with_reducible first | apply And.intro | apply Q0a | apply Q0b | refine Q0c (by decide +kernel) ?_ | intro _) | refine zaW zz.out ?_ | ((first | ((with_reducible refine (h67 _ (by exact zK)).mono ?_); rintro _ S ⟨rfl, rfl⟩) | ((with_reducible refine (h22 _ (by exact zK) _ (by with_unfolding_all rfl)).mono ?_); rintro _ S ⟨rfl, rfl⟩) | ((with_reducible refine (h63 _ (by exact zK)).mono ?_); rintro _ S ⟨rfl, rfl⟩) | ((with_reducible refine (h41 _ (by exact zK) _ (by with_unfolding_all rfl)).mono ?_); rintro _ S ⟨rfl, rfl⟩) | (refine Q0d (by exact zK) ?_) | (refine Q0e (by exact zK) ?_)); (try refine zs zz.out ?_)) | refine zo ?_ | omega | refine zt zz.out ?_ | fail)); try (all_goals clear zz))
        all_goals (refine ⟨_, .refl _, .any, by rw [Q4z], ?_⟩; (first | exact Sg.sub.refl _ | ((repeat (first | exact Sg.sub.refl _ | refine Sg.sub.set_both ?_ | refine Sg.sub.set_fresh ?_ (by first | assumption | exact Sg.set_none (by assumption) (by first | assumption | (apply Go.Cert.ne_of2a; assumption; assumption))))); done) | (intro y p hy; simp only [Sg.set_apply, Sg.del_apply] at hy ⊢; grind)))
      · rw [if_neg h1]
        have hlt := is_lt s.lit.2.2 [Q2m, [40]]
        simp only [zy, List.length_nil] at hlt
        have hm : s.lit.2.2.is [Q2m, [40]] = -1 := by omega
        rw [if_neg (by omega)] at h22
        simp only [hm] at h22
        have h68 := fun S hS => p68 ρ s.lit.2.2 S hS o1.wf
        have hFl := Q0r s.lit.2.2.column.1
        have hFo := Q1f s.lit.2.2.column.1
        have hFt := Q0q s.lit.2.2.column.1
        have hFd := Q0x s.lit.2.2.column.1
        generalize s.lit.2.2.column.1 = e at *
        generalize s.lit.2.2.column.2 = s3 at *
        generalize s.lit.1.1 = va at *
        generalize s.lit.1.2.1 = vb at *
        generalize s.lit.1.2.2 = vc at *
        generalize s.lit.2.2 = s1 at *
        (refine vfun (fun _ => .no) Q0h Tryz.func197 (by kernel_rfl) ?_; simp only [Q0f, Tryz.f197, zw])
        (have zz := Bx.mk (j7 ui3 ui4 Z26 h27 hz27 ui24 (j9 Z23 h24 hz24 ui9 ui75 hFl hFo hFt hFd)); (repeat' (first | exact zc | (with_reducible first | apply And.intro | apply Q0a | apply Q0b | refine Q0c (by decide +kernel) ?_ | intro _) | refine zaW zz.out ?_ | ((first | ((with_reducible refine (h67 _ (by exact zK)).mono ?_); rintro _ S ⟨rfl, rfl⟩) | ((with_reducible refine (h22 _ (by exact zK) _ (by with_unfolding_all rfl)).mono ?_); rintro _ S ⟨rfl, rfl⟩) | ((with_reducible refine (h68 _ (by exact zK)).mono ?_); rintro _ S ⟨rfl, rfl⟩) | (refine Q0d (by exact zK) ?_) | (refine Q0e (by exact zK) ?_)); (try refine zs zz.out ?_)) | refine zo ?_ | omega | refine zt zz.out ?_ | fail)); try (all_goals clear zz))
        all_goals (refine ⟨_, .refl _, .any, by rw [Q4z], ?_⟩; (first | exact Sg.sub.refl _ | ((repeat (first | exact Sg.sub.refl _ | refine Sg.sub.set_both ?_ | refine Sg.sub.set_fresh ?_ (by first | assumption | exact Sg.set_none (by assumption) (by first | assumption | (apply Go.Cert.ne_of2a; assumption; assumption))))); done) | (intro y p hy; simp only [Sg.set_apply, Sg.del_apply] at hy ⊢; grind)))
theorem q74 (D : Dp) (d : Int) (hB : X0l 197 (facL D) d) (hN : Nice (facL D)) : X0l 188 (X3e D) d := by
  intro ρ s σ hρ hl hs
  subst hs
  refine Q8u ?_
  obtain ⟨z27, h27, hz27⟩ := Q5u
  simp only [ex0, Q3e, Q0s] at hz27
  have h18 : ∀ S es, S ρ = some (rdA s) → es = strs [[42], [47], [37]] → VCalls Tryz.prog 83 [.ref ρ 0, .bm 197 [.ref ρ 0], .i 11, .sl .full es] S _ := fun S es hS he => p18 ρ s S 197 (facL D) 11 .full [[42], [47], [37]] es he hB hN hS hl (by decide) (by decide)
  have e : X3e D s = row (facL D) 11 [[42], [47], [37]] s := rfl
  rw [e]
  have hFl := Q0r (row (facL D) 11 [[42], [47], [37]] s).1
  have hFo := Q1f (row (facL D) 11 [[42], [47], [37]] s).1
  have hFt := Q0q (row (facL D) 11 [[42], [47], [37]] s).1
  have hFd := Q0x (row (facL D) 11 [[42], [47], [37]] s).1
  generalize (row (facL D) 11 [[42], [47], [37]] s).1 = e at *
  generalize (row (facL D) 11 [[42], [47], [37]] s).2 = s3 at *
  (refine vfun (fun _ => .no) Q0h Tryz.func188 (by kernel_rfl) ?_; simp only [Q0f, Tryz.f188, zw])
  (have zz := Bx.mk (j4 ui3 ui4 Z26 (j9 h27 hz27 ui24 ui9 ui75 hFl hFo hFt hFd)); (repeat' (first | exact zc | (with_reducible first | apply And.intro | apply Q0a | apply Q0b | refine Q0c (by decide +kernel) ?_ | intro _) | refine zaW zz.out ?_ | ((first | ((with_reducible refine (h18 _ _ (by exact zK) (by with_unfolding_all rfl)).mono ?_); rintro _ S ⟨rfl, rfl⟩) | (refine Q0d (by exact zK) ?_) | (refine Q0e (by exact zK) ?_)); (try refine zs zz.out ?_)) | refine zo ?_ | omega | refine zt zz.out ?_ | fail)); try (all_goals clear zz))
  all_goals (refine ⟨_, .refl _, .any, by rw [Q4z], ?_⟩; (first | exact Sg.sub.refl _ | ((repeat (first | exact Sg.sub.refl _ | refine Sg.sub.set_both ?_ | refine Sg.sub.set_fresh ?_ (by first | assumption | exact Sg.set_none (by assumption) (by first | assumption | (apply Go.Cert.ne_of2a; assumption; assumption))))); done) | (intro y p hy; simp only [Sg.set_apply, Sg.del_apply] at hy ⊢; grind)))
theorem q71 (D : Dp) (d : Int) (hB : X0l 188 (X3e D) d) (hN : Nice (X3e D)) : X0l 180 (sumL D) d := by
  intro ρ s σ hρ hl hs
  subst hs
  refine Q8u ?_
  obtain ⟨z27, h27, hz27⟩ := Q5u
  simp only [ex0, Q3e, Q0s] at hz27
  have h18 : ∀ S es, S ρ = some (rdA s) → es = strs [[43], [45]] → VCalls Tryz.prog 83 [.ref ρ 0, .bm 188 [.ref ρ 0], .i 9, .sl .full es] S _ := fun S es hS he => p18 ρ s S 188 (X3e D) 9 .full [[43], [45]] es he hB hN hS hl (by decide) (by decide)
  have e : sumL D s = row (X3e D) 9 [[43], [45]] s := rfl
  rw [e]
  have hFl := Q0r (row (X3e D) 9 [[43], [45]] s).1
  have hFo := Q1f (row (X3e D) 9 [[43], [45]] s).1
  have hFt := Q0q (row (X3e D) 9 [[43], [45]] s).1
  have hFd := Q0x (row (X3e D) 9 [[43], [45]] s).1
  generalize (row (X3e D) 9 [[43], [45]] s).1 = e at *
  generalize (row (X3e D) 9 [[43], [45]] s).2 = s3 at *
  (refine vfun (fun _ => .no) Q0h Tryz.func180 (by kernel_rfl) ?_; simp only [Q0f, Tryz.f180, zw])
  (have zz := Bx.mk (j4 ui3 ui4 Z26 (j9 h27 hz27 ui24 ui9 ui75 hFl hFo hFt hFd)); (repeat' (first | exact zc | (with_reducible first | apply And.intro | apply Q0a | apply Q0b | refine Q0c (by decide +kernel) ?_ | intro _) | refine zaW zz.out ?_ | ((first | ((with_reducible refine (h18 _ _ (by exact zK) (by with_unfolding_all rfl)).mono ?_); rintro _ S ⟨rfl, rfl⟩) | (refine Q0d (by exact zK) ?_) | (refine Q0e (by exact zK) ?_)); (try refine zs zz.out ?_)) | refine zo ?_ | omega | refine zt zz.out ?_ | fail)); try (all_goals clear zz))
  all_goals (refine ⟨_, .refl _, .any, by rw [Q4z], ?_⟩; (first | exact Sg.sub.refl _ | ((repeat (first | exact Sg.sub.refl _ | refine Sg.sub.set_both ?_ | refine Sg.sub.set_fresh ?_ (by first | assumption | exact Sg.set_none (by assumption) (by first | assumption | (apply Go.Cert.ne_of2a; assumption; assumption))))); done) | (intro y p hy; simp only [Sg.set_apply, Sg.del_apply] at hy ⊢; grind)))
theorem q19 (D : Dp) (d : Int) (hB : X0l 135 (notL D) d) (hN : Nice (notL D)) : X0l 84 (andL D) d := by
  intro ρ s σ hρ hl hs
  subst hs
  refine Q8u ?_
  obtain ⟨z27, h27, hz27⟩ := Q5u
  simp only [ex0, Q3e, Q0s] at hz27
  have h18 : ∀ S es, S ρ = some (rdA s) → es = strs [[65, 78, 68]] → VCalls Tryz.prog 83 [.ref ρ 0, .bm 135 [.ref ρ 0], .i 2, .sl .full es] S _ := fun S es hS he => p18 ρ s S 135 (notL D) 2 .full [[65, 78, 68]] es he hB hN hS hl (by decide) (by decide)
  have e : andL D s = row (notL D) 2 [[65, 78, 68]] s := rfl
  rw [e]
  have hFl := Q0r (row (notL D) 2 [[65, 78, 68]] s).1
  have hFo := Q1f (row (notL D) 2 [[65, 78, 68]] s).1
  have hFt := Q0q (row (notL D) 2 [[65, 78, 68]] s).1
  have hFd := Q0x (row (notL D) 2 [[65, 78, 68]] s).1
  generalize (row (notL D) 2 [[65, 78, 68]] s).1 = e at *
  generalize (row (notL D) 2 [[65, 78, 68]] s).2 = s3 at *
  (refine vfun (fun _ => .no) Q0h Tryz.func84 (by kernel_rfl) ?_; simp only [Q0f, Tryz.f84, zw])
  (have zz := Bx.mk (j4 ui3 ui4 Z26 (j9 h27 hz27 ui24 ui9 ui75 hFl hFo hFt hFd)); (repeat' (first | exact zc | (with_reducible first | apply And.intro | apply Q0a | apply Q0b | refine Q0c (by decide +kernel) ?_ | intro _) | refine zaW zz.out ?_ | ((first | ((with_reducible refine (h18 _ _ (by exact zK) (by with_unfolding_all rfl)).mono ?_); rintro _ S ⟨rfl, rfl⟩) | (refine Q0d (by exact zK) ?_) | (refine Q0e (by exact zK) ?_)); (try refine zs zz.out ?_)) | refine zo ?_ | omega | refine zt zz.out ?_ | fail)); try (all_goals clear zz))
  all_goals (refine ⟨_, .refl _, .any, by rw [Q4z], ?_⟩; (first | exact Sg.sub.refl _ | ((repeat (first | exact Sg.sub.refl _ | refine Sg.sub.set_both ?_ | refine Sg.sub.set_fresh ?_ (by first | assumption | exact Sg.set_none (by assumption) (by first | assumption | (apply Go.Cert.ne_of2a; assumption; assumption))))); done) | (intro y p hy; simp only [Sg.set_apply, Sg.del_apply] at hy ⊢; grind)))
theorem q10 (D : Dp) (d : Int) (hB : X0l 84 (andL D) d) (hN : Nice (andL D)) : X0l 35 (exL D) d := by
  intro ρ s σ hρ hl hs
  subst hs
  refine Q8u ?_
  obtain ⟨z27, h27, hz27⟩ := Q5u
  simp only [ex0, Q3e, Q0s] at hz27
  have h18 : ∀ S es, S ρ = some (rdA s) → es = strs [[79, 82]] → VCalls Tryz.prog 83 [.ref ρ 0, .bm 84 [.ref ρ 0], .i 1, .sl .full es] S _ := fun S es hS he => p18 ρ s S 84 (andL D) 1 .full [[79, 82]] es he hB hN hS hl (by decide) (by decide)
  have e : exL D s = row (andL D) 1 [[79, 82]] s := rfl
  rw [e]
  have hFl := Q0r (row (andL D) 1 [[79, 82]] s).1
  have hFo := Q1f (row (andL D) 1 [[79, 82]] s).1
  have hFt := Q0q (row (andL D) 1 [[79, 82]] s).1
  have hFd := Q0x (row (andL D) 1 [[79, 82]] s).1
  generalize (row (andL D) 1 [[79, 82]] s).1 = e at *
  generalize (row (andL D) 1 [[79, 82]] s).2 = s3 at *
  (refine vfun (fun _ => .no) Q0h Tryz.func35 (by kernel_rfl) ?_; simp only [Q0f, Tryz.f35, zw])
  (have zz := Bx.mk (j4 ui3 ui4 Z26 (j9 h27 hz27 ui24 ui9 ui75 hFl hFo hFt hFd)); (repeat' (first | exact zc | (with_reducible first | apply And.intro | apply Q0a | apply Q0b | refine Q0c (by decide +kernel) ?_ | intro _) | refine zaW zz.out ?_ | ((first | ((with_reducible refine (h18 _ _ (by exact zK) (by with_unfolding_all rfl)).mono ?_); rintro _ S ⟨rfl, rfl⟩) | (refine Q0d (by exact zK) ?_) | (refine Q0e (by exact zK) ?_)); (try refine zs zz.out ?_)) | refine zo ?_ | omega | refine zt zz.out ?_ | fail)); try (all_goals clear zz))
  all_goals (refine ⟨_, .refl _, .any, by rw [Q4z], ?_⟩; (first | exact Sg.sub.refl _ | ((repeat (first | exact Sg.sub.refl _ | refine Sg.sub.set_both ?_ | refine Sg.sub.set_fresh ?_ (by first | assumption | exact Sg.set_none (by assumption) (by first | assumption | (apply Go.Cert.ne_of2a; assumption; assumption))))); done) | (intro y p hy; simp only [Sg.set_apply, Sg.del_apply] at hy ⊢; grind)))
theorem q64 (D : Dp) (d : Int) (hB : X0l 180 (sumL D) d) (hD : D.Nice) : X0l 170 (Q6m D) d := by
  intro ρ s σ hρ hl hs
  subst hs
  refine Q8u ?_
  obtain ⟨z27, h27, hz27⟩ := Q5u
  simp only [ex0, Q3e, Q0s] at hz27
  have hN := X5q hD
  have o1 := hN s hl
  have h71 := fun S hS => hB ρ s S hS hl rfl
  have hlt := is_lt (sumL D s).2 tests
  simp only [zy, List.length_nil] at hlt
  have h22 := fun S hS es he => p22 ρ (sumL D s).2 .full tests es S he hS o1.wf.pos (by simp)
  rw [Y0j] at h22
  have hFl := Q0r (sumL D s).1
  have hFo := Q1f (sumL D s).1
  have hFt := Q0q (sumL D s).1
  have hFd := Q0x (sumL D s).1
  unfold Q6m
  by_cases h0 : (sumL D s).2.is tests < 0
  · rw [if_pos h0]
    rw [if_neg (by omega)] at h22
    generalize (sumL D s).2.is tests = k at *
    generalize (sumL D s).1 = e at *
    generalize (sumL D s).2 = s1 at *
    (refine vfun (fun _ => .no) Q0h Tryz.func170 (by kernel_rfl) ?_; simp only [Q0f, Tryz.f170, zw])
    (have zz := Bx.mk (j4 ui3 ui4 Z26 (j9 h27 hz27 ui24 ui9 ui75 hFl hFo hFt hFd)); (repeat' (first | exact zc | (with_reducible first | apply And.intro | apply Q0a | apply Q0b | refine Q0c (by decide +kernel) ?_ | intro _) | refine zaW zz.out ?_ | ((first | ((with_reducible refine (h71 _ (by exact zK)).mono ?_); rintro _ S ⟨rfl, rfl⟩) | ((with_reducible refine (h22 _ (by exact zK) _ (by with_unfolding_all rfl)).mono ?_); rintro _ S ⟨rfl, rfl⟩) | (refine Q0d (by exact zK) ?_) | (refine Q0e (by exact zK) ?_)); (try refine zs zz.out ?_)) | refine zo ?_ | omega | refine zt zz.out ?_ | fail)); try (all_goals clear zz))
    all_goals (refine ⟨_, .refl _, .any, by rw [Q4z], ?_⟩; (first | exact Sg.sub.refl _ | ((repeat (first | exact Sg.sub.refl _ | refine Sg.sub.set_both ?_ | refine Sg.sub.set_fresh ?_ (by first | assumption | exact Sg.set_none (by assumption) (by first | assumption | (apply Go.Cert.ne_of2a; assumption; assumption))))); done) | (intro y p hy; simp only [Sg.set_apply, Sg.del_apply] at hy ⊢; grind)))
  · rw [if_neg h0]
    rw [if_pos (by omega)] at h22
    have o2 := X3z (ws := tests) o1.wf (by omega)
    by_cases h8 : 3 + (sumL D s).2.is tests ≤ 8
    · rw [if_pos h8]
      have h71b := fun S hS => hB ρ (sumL D s).2.next S hS o2.wf (by show (sumL D s).2.d = s.d; exact o1.d)
      have hFl2 := Q0r (sumL D (sumL D s).2.next).1
      have hFo2 := Q1f (sumL D (sumL D s).2.next).1
      have hFt2 := Q0q (sumL D (sumL D s).2.next).1
      have hFd2 := Q0x (sumL D (sumL D s).2.next).1
      generalize (sumL D (sumL D s).2.next).1 = e2 at *
      generalize (sumL D (sumL D s).2.next).2 = s3 at *
      generalize (sumL D s).2.next = s2 at *
      generalize (sumL D s).2.is tests = k at *
      generalize (sumL D s).1 = e at *
      generalize (sumL D s).2 = s1 at *
      simp only [Q3e, opA]
      (refine vfun (fun _ => .no) Q0h Tryz.func170 (by kernel_rfl) ?_; simp only [Q0f, Tryz.f170, zw])
      (have zz := Bx.mk (j9 ui3 ui4 Z26 h27 hz27 ui24 ui23 ui9 (j9 ui75 hFl hFo hFt hFd hFl2 hFo2 hFt2 hFd2)); (repeat' (first | exact zc | (with_reducible first | apply And.intro | apply Q0a | apply Q0b | refine Q0c (by decide +kernel) ?_ | intro _) | refine zaW zz.out ?_ | ((first | ((with_reducible refine (h71 _ (by exact zK)).mono ?_); rintro _ S ⟨rfl, rfl⟩) | ((with_reducible refine (h22 _ (by exact zK) _ (by with_unfolding_all rfl)).mono ?_); rintro _ S ⟨rfl, rfl⟩) | ((with_reducible refine (h71b _ (by exact zK)).mono ?_); rintro _ S ⟨rfl, rfl⟩) | (refine Q0d (by exact zK) ?_) | (refine Q0e (by exact zK) ?_)); (try refine zs zz.out ?_)) | refine zo ?_ | omega | refine zt zz.out ?_ | fail)); try (all_goals clear zz))
      all_goals (refine ⟨_, .refl _, _, rfl, ?_⟩; (first | exact Sg.sub.refl _ | ((repeat (first | exact Sg.sub.refl _ | refine Sg.sub.set_both ?_ | refine Sg.sub.set_fresh ?_ (by first | assumption | exact Sg.set_none (by assumption) (by first | assumption | (apply Go.Cert.ne_of2a; assumption; assumption))))); done) | (intro y p hy; simp only [Sg.set_apply, Sg.del_apply] at hy ⊢; grind)))
    · rw [if_neg h8]
      have h13 : ∀ S, S ρ = some (rdA (sumL D s).2.next) → VCalls Tryz.prog 37 [.ref ρ 0, .s (bs wNot)] S _ := fun S hS => p13 ρ (sumL D s).2.next wNot S hS o2.wf.pos
      unfold isNull
      cases hb : (sumL D s).2.next.has wNot with
      | true =>
        simp only [hb, if_true] at h13 ⊢
        have o3 := X1b o2.wf hb
        have h41 := fun S hS es he => p41 ρ (sumL D s).2.next.next .full [Q8t] es S he hS o3.wf (by simp)
        have h62 : ∀ σ, VCalls Tryz.prog 168 [.i 6, .agg (exA (sumL D s).1)] σ _ := fun σ => p62 6 (sumL D s).1 σ
        have hGl := Q0r (ofE 6 (sumL D s).1)
        have hGo := Q1f (ofE 6 (sumL D s).1)
        have hGt := Q0q (ofE 6 (sumL D s).1)
        have hGd := Q0x (ofE 6 (sumL D s).1)
        have h62b : ∀ σ, VCalls Tryz.prog 168 [.i 4, .agg (exA (ofE 6 (sumL D s).1))] σ _ := fun σ => p62 4 (ofE 6 (sumL D s).1) σ
        have hHl := Q0r (ofE 4 (ofE 6 (sumL D s).1))
        have hHo := Q1f (ofE 4 (ofE 6 (sumL D s).1))
        have hHt := Q0q (ofE 4 (ofE 6 (sumL D s).1))
        have hHd := Q0x (ofE 4 (ofE 6 (sumL D s).1))
        generalize ofE 4 (ofE 6 (sumL D s).1) = e4 at *
        generalize ofE 6 (sumL D s).1 = e6 at *
        generalize (sumL D s).2.next.next.must [Q8t] = s4 at *
        generalize (sumL D s).2.next.next = s3 at *
        generalize (sumL D s).2.next = s2 at *
        generalize (sumL D s).2.is tests = k at *
        generalize (sumL D s).1 = e at *
        generalize (sumL D s).2 = s1 at *
        (refine vfun (fun _ => .no) Q0h Tryz.func170 (by kernel_rfl) ?_; simp only [Q0f, Tryz.f170, zw])
        (have zz := Bx.mk (j5 ui3 ui4 Z26 h27 (j9 hz27 ui24 ui23 ui9 ui75 hFl hFo hFt (j9 hFd hGl hGo hGt hGd hHl hHo hHt hHd))); (repeat' (first | exact zc | (with_reducible first | apply And.intro | apply Q0a | apply Q0b | refine Q0c (by decide +kernel) ?_ | intro _) | refine zaW zz.out ?_ | ((first | ((with_reducible refine (h71 _ (by exact zK)).mono ?_); rintro _ S ⟨rfl, rfl⟩) | ((with_reducible refine (h22 _ (by exact zK) _ (by with_unfolding_all rfl)).mono ?_); rintro _ S ⟨rfl, rfl⟩) | ((with_reducible refine (h13 _ (by exact zK)).mono ?_); rintro _ S ⟨rfl, rfl⟩) | ((with_reducible refine (h41 _ (by exact zK) _ (by with_unfolding_all rfl)).mono ?_); rintro _ S ⟨rfl, rfl⟩) | ((with_reducible refine (h62 _).mono ?_); rintro _ S ⟨rfl, rfl⟩) | ((with_reducible refine (h62b _).mono ?_); rintro _ S ⟨rfl, rfl⟩) | (refine Q0d (by exact zK) ?_) | (refine Q0e (by exact zK) ?_)); (try refine zs zz.out ?_)) | refine zo ?_ | omega | refine zt zz.out ?_ | fail)); try (all_goals clear zz))
        all_goals (refine ⟨_, .refl _, .any, by rw [Q4z], ?_⟩; (first | exact Sg.sub.refl _ | ((repeat (first | exact Sg.sub.refl _ | refine Sg.sub.set_both ?_ | refine Sg.sub.set_fresh ?_ (by first | assumption | exact Sg.set_none (by assumption) (by first | assumption | (apply Go.Cert.ne_of2a; assumption; assumption))))); done) | (intro y p hy; simp only [Sg.set_apply, Sg.del_apply] at hy ⊢; grind)))
      | false =>
        simp only [hb, Bool.false_eq_true, if_false] at h13 ⊢
        have h41 := fun S hS es he => p41 ρ (sumL D s).2.next .full [Q8t] es S he hS o2.wf (by simp)
        have h62 : ∀ σ, VCalls Tryz.prog 168 [.i 6, .agg (exA (sumL D s).1)] σ _ := fun σ => p62 6 (sumL D s).1 σ
        have hGl := Q0r (ofE 6 (sumL D s).1)
        have hGo := Q1f (ofE 6 (sumL D s).1)
        have hGt := Q0q (ofE 6 (sumL D s).1)
        have hGd := Q0x (ofE 6 (sumL D s).1)
        generalize ofE 6 (sumL D s).1 = e6 at *
        generalize (sumL D s).2.next.must [Q8t] = s4 at *
        generalize (sumL D s).2.next = s2 at *
        generalize (sumL D s).2.is tests = k at *
        generalize (sumL D s).1 = e at *
        generalize (sumL D s).2 = s1 at *
        (refine vfun (fun _ => .no) Q0h Tryz.func170 (by kernel_rfl) ?_; simp only [Q0f, Tryz.f170, zw])
        (have zz := Bx.mk (j9 ui3 ui4 Z26 h27 hz27 ui24 ui23 ui9 (j9 ui75 hFl hFo hFt hFd hGl hGo hGt hGd)); (repeat' (first | exact zc | (with_reducible first | apply And.intro | apply Q0a | apply Q0b | refine Q0c (by decide +kernel) ?_ | intro _) | refine zaW zz.out ?_ | ((first | ((with_reducible refine (h71 _ (by exact zK)).mono ?_); rintro _ S ⟨rfl, rfl⟩) | ((with_reducible refine (h22 _ (by exact zK) _ (by with_unfolding_all rfl)).mono ?_); rintro _ S ⟨rfl, rfl⟩) | ((with_reducible refine (h13 _ (by exact zK)).mono ?_); rintro _ S ⟨rfl, rfl⟩) | ((with_reducible refine (h41 _ (by exact zK) _ (by with_unfolding_all rfl)).mono ?_); rintro _ S ⟨rfl, rfl⟩) | ((with_reducible refine (h62 _).mono ?_); rintro _ S ⟨rfl, rfl⟩) | (refine Q0d (by exact zK) ?_) | (refine Q0e (by exact zK) ?_)); (try refine zs zz.out ?_)) | refine zo ?_ | omega | refine zt zz.out ?_ | fail)); try (all_goals clear zz))
        all_goals (refine ⟨_, .refl _, .any, by rw [Q4z], ?_⟩; (first | exact Sg.sub.refl _ | ((repeat (first | exact Sg.sub.refl _ | refine Sg.sub.set_both ?_ | refine Sg.sub.set_fresh ?_ (by first | assumption | exact Sg.set_none (by assumption) (by first | assumption | (apply Go.Cert.ne_of2a; assumption; assumption))))); done) | (intro y p hy; simp only [Sg.set_apply, Sg.del_apply] at hy ⊢; grind)))
theorem q39 (D : Dp) (d : Int) (hB : X0l 170 (Q6m D) d) (hD : d < 10 → RD D (d + 1)) (hN : D.Nice) (hd : 0 ≤ d ∧ d ≤ 10) : X0l 135 (notL D) d := by
  intro ρ s σ hρ hl hs
  subst hs
  refine Q8u ?_
  obtain ⟨z27, h27, hz27⟩ := Q5u
  simp only [ex0, Q3e, Q0s] at hz27
  have h13 : ∀ S, S ρ = some (rdA s) → VCalls Tryz.prog 37 [.ref ρ 0, .s (bs wNot)] S _ := fun S hS => p13 ρ s wNot S hS hl.pos
  unfold notL
  cases hb : s.has wNot with
  | true =>
    simp only [hb, if_true] at h13 ⊢
    have o1 := X1b hl hb
    have h63 := fun S hS => p63 ρ s.next S 135 D.not (fun h => (hD h).not) hN.not hS o1.wf hd
    have h62 : ∀ σ, VCalls Tryz.prog 168 [.i 4, .agg (exA (Q2i D.not s.next).1)] σ _ := fun σ => p62 4 (Q2i D.not s.next).1 σ
    have hFl := Q0r (ofE 4 (Q2i D.not s.next).1)
    have hFo := Q1f (ofE 4 (Q2i D.not s.next).1)
    have hFt := Q0q (ofE 4 (Q2i D.not s.next).1)
    have hFd := Q0x (ofE 4 (Q2i D.not s.next).1)
    generalize ofE 4 (Q2i D.not s.next).1 = e4 at *
    generalize (Q2i D.not s.next).1 = e at *
    generalize (Q2i D.not s.next).2 = s2 at *
    generalize s.next = s1 at *
    (refine vfun (fun _ => .no) Q0h Tryz.func135 (by kernel_rfl) ?_; simp only [Q0f, Tryz.f135, zw])
    (have zz := Bx.mk (j5 ui3 ui4 Z26 h27 (j9 hz27 ui24 ui23 ui9 ui75 hFl hFo hFt hFd)); (repeat' (first | exact zc | (with_reducible first | apply And.intro | apply Q0a | apply Q0b | refine Q0c (by decide +kernel) ?_ | intro _) | refine zaW zz.out ?_ | ((first | ((with_reducible refine (h13 _ (by exact zK)).mono ?_); rintro _ S ⟨rfl, rfl⟩) | ((with_reducible refine (h63 _ (by exact zK)).mono ?_); rintro _ S ⟨rfl, rfl⟩) | ((with_reducible refine (h62 _).mono ?_); rintro _ S ⟨rfl, rfl⟩) | (refine Q0d (by exact zK) ?_) | (refine Q0e (by exact zK) ?_)); (try refine zs zz.out ?_)) | refine zo ?_ | omega | refine zt zz.out ?_ | fail)); try (all_goals clear zz))
    all_goals (refine ⟨_, .refl _, .any, by rw [Q4z], ?_⟩; (first | exact Sg.sub.refl _ | ((repeat (first | exact Sg.sub.refl _ | refine Sg.sub.set_both ?_ | refine Sg.sub.set_fresh ?_ (by first | assumption | exact Sg.set_none (by assumption) (by first | assumption | (apply Go.Cert.ne_of2a; assumption; assumption))))); done) | (intro y p hy; simp only [Sg.set_apply, Sg.del_apply] at hy ⊢; grind)))
  | false =>
    simp only [hb, Bool.false_eq_true, if_false] at h13 ⊢
    have h64 := fun S hS => hB ρ s S hS hl rfl
    have hFl := Q0r (Q6m D s).1
    have hFo := Q1f (Q6m D s).1
    have hFt := Q0q (Q6m D s).1
    have hFd := Q0x (Q6m D s).1
    generalize (Q6m D s).1 = e at *
    generalize (Q6m D s).2 = s2 at *
    (refine vfun (fun _ => .no) Q0h Tryz.func135 (by kernel_rfl) ?_; simp only [Q0f, Tryz.f135, zw])
    (have zz := Bx.mk (j5 ui3 ui4 Z26 h27 (j9 hz27 ui24 ui23 ui9 ui75 hFl hFo hFt hFd)); (repeat' (first | exact zc | (with_reducible first | apply And.intro | apply Q0a | apply Q0b | refine Q0c (by decide +kernel) ?_ | intro _) | refine zaW zz.out ?_ | ((first | ((with_reducible refine (h13 _ (by exact zK)).mono ?_); rintro _ S ⟨rfl, rfl⟩) | ((with_reducible refine (h64 _ (by exact zK)).mono ?_); rintro _ S ⟨rfl, rfl⟩) | (refine Q0d (by exact zK) ?_) | (refine Q0e (by exact zK) ?_)); (try refine zs zz.out ?_)) | refine zo ?_ | omega | refine zt zz.out ?_ | fail)); try (all_goals clear zz))
    all_goals (refine ⟨_, .refl _, .any, by rw [Q4z], ?_⟩; (first | exact Sg.sub.refl _ | ((repeat (first | exact Sg.sub.refl _ | refine Sg.sub.set_both ?_ | refine Sg.sub.set_fresh ?_ (by first | assumption | exact Sg.set_none (by assumption) (by first | assumption | (apply Go.Cert.ne_of2a; assumption; assumption))))); done) | (intro y p hy; simp only [Sg.set_apply, Sg.del_apply] at hy ⊢; grind)))
theorem qRD : ∀ (n : Nat) (d : Int), d + n = 11 → 0 ≤ d → d ≤ 10 → RD (dp n) d
  | 0, d, h, h0, h1 => by omega
  | n + 1, d, h, h0, h1 => by
    have hD : d < 10 → RD (dp n) (d + 1) := fun h2 => qRD n (d + 1) (by omega) (by omega) (by omega)
    have hN := X2o n
    have r75 := q75 (dp n) d hD hN ⟨h0, h1⟩
    have r74 := q74 (dp n) d r75 (X1n hN)
    have r71 := q71 (dp n) d r74 (Q8g (X1n hN) _ _)
    have r64 := q64 (dp n) d r71 hN
    have r39 := q39 (dp n) d r64 hD hN ⟨h0, h1⟩
    have r19 := q19 (dp n) d r39 (X1o hN)
    have r10 := q10 (dp n) d r19 (Q8g (X1o hN) _ _)
    exact ⟨r75, r39, r10⟩
end Go.Proofs.YtjdapkelojdefaaGreatDoor
