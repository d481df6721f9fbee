/- Part 13 of the proof: E9, E11, E10, V23, W12, S2, G12, G2, W1, W2, W8, W25, W26, W27, W28, W29, W30. -/
import Derived.Test.YtjdapkelojdefaaGreatDoorN7
import Derived.Test.YtjdapkelojdefaaGreatDoorN6
import Derived.Test.YtjdapkelojdefaaGreatDoorN8
import Derived.Test.YtjdapkelojdefaaGreatDoorN12
import Derived.Test.YtjdapkelojdefaaGreatDoorN4
import Derived.Test.YtjdapkelojdefaaGreatDoorN10
import Derived.Test.YtjdapkelojdefaaGreatDoorN9

set_option linter.all false
set_option maxRecDepth 100000
set_option maxHeartbeats 1000000
open Nat renaming reduceEqDiff → zb, reduceAdd → zc, reduceLeDiff → zd, reduceMul → ze, reduceSub → zf
open Int renaming toNat_zero → zj, reduceToNat → zk
open Go.V.Sg renaming set_same → zm, set_ne → zn, set_ne' → zp, del_ne → zq, del_ne' → zr
open Option renaming getD_some → zv
open List renaming length_map → zA
open Go.Cert renaming ne_of2 → zM, ne_ob → zP
open Go.V.VCalls renaming mono → zR
open Go.Proofs.Tryz renaming underlying3 → Z3
namespace Go.Proofs.YtjdapkelojdefaaGreatDoor
open Go Go.V Go.Lex Go.Print
theorem eq23 {d : TypeDesc} {a b a' b' : Int} {s t : ByteArray} : veqT Tryz.prog 23 d (.agg [.i a, .i b, .s s]) (.agg [.i a', .i b', .s t]) = some (decide (a = a') && (decide (b = b') && (sEq s t && true))) := by
  rw [Y0b (by kernel_rfl), X1f (d := 9999) Tryz.underlying23 (by kernel_rfl)]
  exact Q3w (by decide) (Q1x Q2b Z3 rfl) (Q1x Q2b Z3 rfl) (X1g Z3) (Q3w (by decide) (Q1x Q2b Z3 rfl) (Q1x Q2b Z3 rfl) (X1g Z3) (Q3w (by decide) (Q1x Q2k Tryz.underlying9 rfl) (Q1x Q2k Tryz.underlying9 rfl) (X6u Tryz.underlying9) rfl))
theorem e8 (k n : Int) (t : List UInt8) (σ : Sg) : VCalls Tryz.prog 150 [.agg [.i k, .i n, .s (bs t)]] σ (fun x σ' => x = .agg [.i k, .i (X6y k n t).1, .s (bs (X6y k n t).2)] ∧ σ' = σ) := by
  unfold X6y
  (refine vfun (fun _ => .no) Q0h Tryz.func150 (by kernel_rfl) ?_; simp only [Q0f, Tryz.f150, zv])
  (have zz := Bx.mk (j3 ui3 ui9 ui23); (repeat' (first | with_reducible rfl | exact trivial | (with_reducible first | apply And.intro | apply Q0a | apply Q0b | refine Q0c (by decide +kernel) ?_ | intro _) | refine zaW zz.out ?_ | ((first | (refine Q0d (by exact Go.V.zK) ?_) | (refine Q0e (by exact Go.V.zK) ?_)); (try refine zs zz.out ?_)) | refine zo ?_ | omega | refine zt zz.out ?_ | fail)); try (all_goals clear zz))
  all_goals exact ⟨σ, (by intro y p hy; simp only [Sg.set_apply, Sg.del_apply] at hy ⊢; grind), by simp_all, rfl⟩
theorem e5 (k n : Int) (t : List UInt8) (σ : Sg) : VCalls Tryz.prog 98 [.agg [.i k, .i n, .s (bs t)]] σ (fun x σ' => x = .i (X5m k n t) ∧ σ' = σ) := by
  unfold X5m
  have h8 := e8 k n t
  generalize X6y k n t = bv at *
  (refine vfun (fun _ => .ro) Q0h Tryz.func98 (by kernel_rfl) ?_; simp only [Q0f, Tryz.f98, zv])
  (have zz := Bx.mk (j6 ui3 ui4 ui9 ui23 ui30 @eq23); (repeat' (first | with_reducible rfl | exact trivial | (with_reducible first | apply And.intro | apply Q0a | apply Q0b | refine Q0c (by decide +kernel) ?_ | intro _) | refine zaW zz.out ?_ | (((with_reducible refine zR (h8 _) ?_); rintro _ S ⟨rfl, rfl⟩); (try refine zs zz.out ?_)) | refine zo ?_ | omega | refine zt zz.out ?_ | fail)); try (all_goals clear zz))
  all_goals (clear h8; obtain ⟨b1, b2⟩ := bv; refine ⟨σ, .refl _, congrArg (fun c => AV.val (Value.int IntKind.i64 c)) ?_, rfl⟩)
  all_goals simp only [Prod.mk.injEq, ne_eq, Bool.and_eq_true, decide_eq_true_eq, decide_true, true_and] at *
  all_goals grind
def litL (k : Int) (n : Nat) (t : List UInt8) : List UInt8 := if k = 1 then dec n else if k = 2 then Q8v t else [78, 85, 76, 76]
theorem e7 (k : Int) (n : Nat) (t : List UInt8) (hn : n < 9223372036854775808) (ht : t.length ≤ 40) (σ : Sg) : VCalls Tryz.prog 105 [.agg [.i k, .i n, .s (bs t)]] σ (fun x σ' => x = .s (bs (litL k n t)) ∧ σ' = σ) := by
  unfold litL Q8v
  have hq := quo_len t
  (refine vfun (fun _ => .ro) Q0h Tryz.func105 (by kernel_rfl) ?_; simp only [Q0f, Tryz.f105, zv])
  (have zz := Bx.mk (j4 ui3 ui4 ui9 ui23); (repeat' (first | with_reducible rfl | exact trivial | (with_reducible first | apply And.intro | apply Q0a | apply Q0b | refine Q0c (by decide +kernel) ?_ | intro _) | refine zaW zz.out ?_ | ((first | ((with_reducible refine zR (e11 n hn _) ?_); rintro _ S ⟨rfl, rfl⟩) | ((with_reducible refine zR (e12 t (by omega) _) ?_); rintro _ S ⟨rfl, rfl⟩)); (try refine zs zz.out ?_)) | refine zo ?_ | omega | refine zt zz.out ?_ | fail)); try (all_goals clear zz))
  all_goals exact ⟨_, .refl _, by simp [*], rfl⟩
end Go.Proofs.YtjdapkelojdefaaGreatDoor
namespace Go.V
open Go.RowKit
variable {P : Program}
theorem VCalls.fr {f : FuncId} {args : List AV} {σ : Sg} {R' : AV → Sg → Prop} {X : Nat → AV} {S : Nat → Sg} (hc : VCalls P f args σ (fun x σ' => ∃ τ, σ τ = none ∧ x = X τ ∧ σ' = S τ)) (h : Q2p σ fun τ => R' (X τ) (S τ)) : VCalls P f args σ R' :=
  hc.mono (fun x σ' hx => by
    obtain ⟨τ, h0, rfl, rfl⟩ := hx
    exact h τ h0)
theorem allOne_app (a b : List (List AV)) (n : Nat) : Q5j (a ++ b) n = (Q5j a n ∧ Q5j b n) := propext ⟨fun h => ⟨fun e he => h e (List.mem_append_left _ he), fun e he => h e (List.mem_append_right _ he)⟩, fun h e he => (List.mem_append.1 he).elim (h.1 e) (h.2 e)⟩
theorem allLen_app (a b : List (List AV)) (n : Nat) : Q1t (a ++ b) n = (Q1t a n ∧ Q1t b n) := propext ⟨fun h => ⟨fun e he => h e (List.mem_append_left _ he), fun e he => h e (List.mem_append_right _ he)⟩, fun h e he => (List.mem_append.1 he).elim (h.1 e) (h.2 e)⟩
theorem allOne_cons (x : List AV) (b : List (List AV)) (n : Nat) : Q5j (x :: b) n = ((x.length = n ∧ (x.all AV.one) = true) ∧ Q5j b n) := propext ⟨fun h => ⟨h x (List.mem_cons_self ..), fun e he => h e (List.mem_cons_of_mem _ he)⟩, fun h e he => (List.mem_cons.1 he).elim (fun hh => hh ▸ h.1) (h.2 e)⟩
theorem allLen_cons (x : List AV) (b : List (List AV)) (n : Nat) : Q1t (x :: b) n = (x.length = n ∧ Q1t b n) := propext ⟨fun h => ⟨h x (List.mem_cons_self ..), fun e he => h e (List.mem_cons_of_mem _ he)⟩, fun h e he => (List.mem_cons.1 he).elim (fun hh => hh ▸ h.1) (h.2 e)⟩
theorem allOne_nil (n : Nat) : Q5j [] n = True := eq_true (fun e he => by cases he)
theorem allLen_nil (n : Nat) : Q1t [] n = True := eq_true (fun e he => by cases he)
end Go.V
namespace Go.Print
open Go.V Go.Lex Go.Parse Go.Proofs.YtjdapkelojdefaaGreatDoor
theorem X9d : ∀ (l : List By) (x : By), l ≠ [] → Q5h (l ++ [x]) = Q5h l ++ 32 :: x
  | [], x, h => absurd rfl h
  | [a], x, _ => rfl
  | a :: b :: r, x, _ => by
    have ih := X9d (b :: r) x (by simp)
    show a ++ 32 :: Q5h ((b :: r) ++ [x]) = (a ++ 32 :: Q5h (b :: r)) ++ 32 :: x
    rw [ih]
    simp
def lenL (l : List By) : Nat := (l.map List.length).sum
theorem lenL_take {l : List By} {k : Nat} (h : k < l.length) : lenL (l.take (k + 1)) = lenL (l.take k) + (l.getD k []).length := by
  unfold lenL
  rw [List.take_succ_eq_append_getElem h, List.map_append, List.sum_append]
  simp [List.getD_eq_getElem?_getD, List.getElem?_eq_getElem h]
theorem X6f : ∀ l : List By, l ≠ [] → (Q5h l).length + 1 = lenL l + l.length
  | [], h => absurd rfl h
  | [a], _ => by simp [Q5h, lenL]
  | a :: b :: r, _ => by
    have ih := X6f (b :: r) (by simp)
    have e : Q5h (a :: b :: r) = a ++ 32 :: Q5h (b :: r) := rfl
    rw [e]
    simp only [List.length_append, List.length_cons, lenL, List.map_cons, List.sum_cons] at ih ⊢
    omega
theorem Y0y (l : List By) (k : Nat) : lenL (l.take k) ≤ lenL l := by
  have : lenL l = lenL (l.take k) + lenL (l.drop k) := by
    unfold lenL
    rw [← List.sum_append, ← List.map_append, List.take_append_drop]
  omega
end Go.Print
namespace Go.Proofs.YtjdapkelojdefaaGreatDoor
open Go Go.V Go.Lex Go.Parse Go.Print
theorem strs_all (ws : List By) : Q1t (strs ws) 1 = True := eq_true (fun e he => by obtain ⟨w, _, rfl⟩ := List.mem_map.1 he; rfl)
theorem bs32 : (bs [32]).size = 1 := X4h _
def tdQ (m : Int) : Int := (9223372036854775807 : Int).tdiv m
theorem tdQ_fold (m : Int) : (9223372036854775807 : Int).tdiv m = tdQ m := rfl
theorem tdiv_big {m : Nat} (h1 : 1 ≤ m) (h2 : m ≤ 2 ^ 40) : ∃ Q : Int, (9223372036854775807 : Int).tdiv (m : Int) = Q ∧ 1 < Q ∧ Q ≤ 9223372036854775807 := by
  have e : (9223372036854775807 : Int).tdiv (m : Int) = ((9223372036854775807 / m : Nat) : Int) := rfl
  refine ⟨_, e, ?_, ?_⟩
  · have : 2 ≤ 9223372036854775807 / m := by
      rw [Nat.le_div_iff_mul_le (by omega)]
      omega
    omega
  · have := Nat.div_le_self 9223372036854775807 m
    omega
theorem X7r (l : List By) (o : Own) (hl : (Q5h l).length ≤ 2 ^ 38) (hn : l.length ≤ 2 ^ 38) (σ : Sg) : VCalls Tryz.prog 106 [.sl o (strs l), .s (bs [32])] σ (fun x σ' => x = .s (bs (Q5h l)) ∧ σ' = σ) := by
  have hsl := Q4r l
  match l, hl, hn with
  | [], _, _ =>
    (refine vfun (fun _ => .no) Q0h Tryz.func106 (by kernel_rfl) ?_; simp only [Q0f, Tryz.f106, zv])
    (have zz := Bx.mk (j5 ui0 ui3 ui4 ui5 (j9 ui9 ui20 ui75 X6q Q5a ui151 Q9f ui155 hsl)); (repeat' (first | with_reducible rfl | exact trivial | (with_reducible first | apply And.intro | apply Q0a | apply Q0b | refine Q0c (by decide +kernel) ?_ | intro _) | refine zaY zz.out ?_ | ((first | (refine Q0d (by exact Go.V.zK) ?_) | (refine Q0e (by exact Go.V.zK) ?_)); (try refine zsY zz.out ?_)) | refine zo ?_ | omega | refine ztY zz.out ?_ | fail)); try (all_goals clear zz))
    all_goals exact ⟨_, .refl _, rfl, rfl⟩
  | [a], _, _ =>
    have hs1 : strs [a] = [[.s (bs a)]] := rfl
    rw [hs1]
    (refine vfun (fun _ => .no) Q0h Tryz.func106 (by kernel_rfl) ?_; simp only [Q0f, Tryz.f106, zv])
    (have zz := Bx.mk (j4 ui0 ui3 ui4 (j9 ui5 ui9 ui20 ui75 X6q Q5a ui151 Q9f ui155)); (repeat' (first | with_reducible rfl | exact trivial | (with_reducible first | apply And.intro | apply Q0a | apply Q0b | refine Q0c (by decide +kernel) ?_ | intro _) | refine zaY zz.out ?_ | ((first | (refine Q0d (by exact Go.V.zK) ?_) | (refine Q0e (by exact Go.V.zK) ?_)); (try refine zsY zz.out ?_)) | refine zo ?_ | omega | refine ztY zz.out ?_ | fail)); try (all_goals clear zz))
    all_goals exact ⟨_, .refl _, rfl, rfl⟩
  | a :: b :: r, hl, hn =>
    have hjl := X6f (a :: b :: r) (by simp)
    have hg0 : (strs (a :: b :: r)).getD 0 [] = [.s (bs a)] := rfl
    have hd1 : (strs (a :: b :: r)).drop 1 = strs (b :: r) := rfl
    have hsl2 := Q4r (b :: r)
    have hL2 : 2 ≤ (a :: b :: r).length := by simp
    have hbl : (b :: r).length + 1 = (a :: b :: r).length := rfl
    have hne : (a :: b :: r) ≠ [] := by simp
    have htk : ∀ k, (a :: b :: r).take (k + 1) = a :: (b :: r).take k := fun k => rfl
    generalize hll : a :: b :: r = l at *
    obtain ⟨Q, hQ, hQ1, hQ2⟩ := tdiv_big (m := l.length - 1) (by omega) (by omega)
    have hm : ((l.length - 1 : Nat) : Int) = (l.length : Int) - 1 := by omega
    rw [hm, tdQ_fold] at hQ
    have hQF1 : (Q ≤ ((1 : Nat) : Int)) = False := eq_false (by omega)
    have hQF2 : (Q ≤ 1) = False := eq_false (by omega)
    have hz1 : ((l.length : Int) = 0) = False := eq_false (by omega)
    have hz2 : ((l.length : Int) = 1) = False := eq_false (by omega)
    have hz3 : ((l.length : Int) - 1 = 0) = False := eq_false (by omega)
    (refine vfun (fun _ => .no) Q0h Tryz.func106 (by kernel_rfl) ?_; simp only [Q0f, Tryz.f106, zv])
    (have zz := Bx.mk (j5 ui0 ui3 ui4 ui5 (j9 ui9 ui20 ui75 X6q Q5a ui151 Q9f ui155 (j9 hsl @bs32 @tdQ_fold hQ hQF1 hQF2 hz1 hz2 hz3))); (repeat' (first | with_reducible rfl | exact trivial | (with_reducible first | apply And.intro | apply Q0a | apply Q0b | refine Q0c (by decide +kernel) ?_ | intro _) | refine zaY zz.out ?_ | ((first | (refine Q0d (by exact Go.V.zK) ?_) | (refine Q0e (by exact Go.V.zK) ?_)); (try refine zsY zz.out ?_)) | refine zo ?_ | omega | refine ztY zz.out ?_ | fail)); try (all_goals clear zz))
    refine VW.loop3 (0 : Nat) () () (fun k _ _ => k ≤ l.length) (fun k _ _ => [(0, .sl o (strs l)), (1, .s (bs [32])), (5, .i ((l.length - 1 + lenL (l.take k) : Nat) : Int)), (39, .sl o (strs l)), (40, .i l.length), (41, .i k)]) (fun _ _ _ => σ) (fun k _ _ => l.length - k) (Nat.zero_le _) (.refl _) ?_ ?_
    · simp only [vO, vQ, ↓vP, vE, vS, vB, vL, vF, vM, vN, Q0g, zb, zc, zd, ne_eq, not_false_eq_true, ze, zf, zj, zk, vT]
      exact ⟨i_eq (by simp [lenL]; omega), rfl⟩
    rintro k _ _ hk
    have hsk := Y0y l k
    rcases Nat.lt_or_ge k l.length with hk2 | hk2
    · have hg := X0g hk2
      have hlk := lenL_take hk2
      have hsk2 := Y0y l (k + 1)
      rw [hlk] at hsk2
      generalize lenL (l.take k) = s at *
      generalize l.getD k [] = w at *
      have hw : (bs w).size = w.length := X4h w
      (have zz := Bx.mk (j7 ui0 ui3 ui4 ui5 ui9 ui20 (j9 ui75 X6q Q5a ui151 Q9f ui155 hsl hg hw)); (repeat' (first | with_reducible rfl | exact trivial | (with_reducible first | apply And.intro | apply Q0a | apply Q0b | refine Q0c (by decide +kernel) ?_ | intro _) | refine zaY zz.out ?_ | ((first | (refine Q0d (by exact Go.V.zK) ?_) | (refine Q0e (by exact Go.V.zK) ?_)); (try refine zsY zz.out ?_)) | refine zo ?_ | omega | refine ztY zz.out ?_ | fail)); try (all_goals clear zz))
      exact ⟨k + 1, (), (), ⟨hk2, by omega⟩, .refl _, i_eq (by rw [hlk]; omega), rfl⟩
    · rw [List.take_of_length_le hk2]
      have ha : a.length ≤ 2 ^ 38 := by rw [← hll] at hl; simp [Q5h] at hl; omega
      have hG : ∀ β S, S β = none → VCalls Tryz.prog 154 [.ref β 0, .i ((l.length - 1 + lenL l : Nat) : Int)] (S.set β (.cells 152 [.val (.pointer none), .sl .nil []])) (fun x σ' => x = .tup [] ∧ Bld β [] S σ') := fun β S hS => e36 β _ S hS (by omega) (by omega)
      (have zz := Bx.mk (j9 ui0 ui3 ui4 ui5 ui9 ui20 ui75 X6q (j9 Q5a ui151 Q9f ui155 hsl hg0 hd1 hsl2 @strs_all)); (repeat' (first | with_reducible rfl | exact trivial | (with_reducible first | apply And.intro | apply Q0a | apply Q0b | refine Q0c (by decide +kernel) ?_ | intro _) | refine zaY zz.out ?_ | ((first | ((with_reducible refine zR (hG _ _ (by assumption)) ?_); rintro _ S' ⟨rfl, hB⟩) | ((with_reducible refine zR (t100 _ _ _ _ _ hB (by simp only [List.length_nil]; omega)) ?_); rintro _ S'' ⟨rfl, hB2⟩) | (refine Q0d (by exact Go.V.zK) ?_) | (refine Q0e (by exact Go.V.zK) ?_)); (try refine zsY zz.out ?_)) | refine zo ?_ | omega | refine ztY zz.out ?_ | fail)); try (all_goals clear zz))
      rename_i β hβ
      have hB2 : Bld β (Q5h (l.take (0 + 1))) σ S'' := by
        rw [htk]; exact hB2
      refine VW.loop3 (0 : Nat) S'' () (fun k S _ => k ≤ (b :: r).length ∧ Bld β (Q5h (l.take (k + 1))) σ S) (fun k _ _ => [(1, .s (bs [32])), (8, .ref β 0), (63, .sl (o.cut (decide ((1 : Int) = 0 ∨ (1 : Int) < ↑l.length))) (strs (b :: r))), (64, .i ((r.length + 1 : Nat) : Int)), (65, .i k)]) (fun _ S _ => S) (fun k _ _ => (b :: r).length - k) ⟨Nat.zero_le _, hB2⟩ (.refl _) ?_ ?_
      · simp only [vO, vQ, ↓vP, vE, vS, vB, vL, vF, vM, vN, Q0g, zb, zc, zd, ne_eq, not_false_eq_true, ze, zf, zj, zk, vT]
        all_goals rfl
      clear hB2 hB
      rintro k S _ ⟨hk, hB⟩
      rw [List.length_cons] at hk hsl2 hbl
      have hjk : (Q5h (l.take (k + 1))).length ≤ 2 ^ 38 := by
        have h1 := X6f (l.take (k + 1)) (by rw [htk]; simp)
        have h2 := Y0y l (k + 1)
        rw [List.length_take] at h1
        omega
      rcases Nat.lt_or_ge k (r.length + 1) with hk2 | hk2
      · have hg := X0g (ws := b :: r) hk2
        have hnext : l.take (k + 1 + 1) = l.take (k + 1) ++ [(b :: r).getD k []] := by
          rw [htk, htk, List.take_succ_eq_append_getElem (by simpa using hk2)]
          simp [List.getD_eq_getElem?_getD, List.getElem?_eq_getElem (show k < (b :: r).length by simpa using hk2)]
        have hjn : Q5h (l.take (k + 1 + 1)) = Q5h (l.take (k + 1)) ++ [32] ++ (b :: r).getD k [] := by
          rw [hnext, X9d _ _ (by rw [htk]; simp)]
          simp
        have hjk2 : (Q5h (l.take (k + 1 + 1))).length ≤ 2 ^ 38 := by
          have h1 := X6f (l.take (k + 1 + 1)) (by rw [htk]; simp)
          have h2 := Y0y l (k + 1 + 1)
          rw [List.length_take] at h1
          omega
        rw [hjn, List.length_append] at hjk2
        generalize (b :: r).getD k [] = w at *
        generalize Q5h (l.take (k + 1)) = acc at *
        (have zz := Bx.mk (j6 ui0 ui3 ui4 ui5 ui9 (j9 ui20 ui75 X6q Q5a ui151 Q9f ui155 hsl2 hg)); (repeat' (first | with_reducible rfl | exact trivial | (with_reducible first | apply And.intro | apply Q0a | apply Q0b | refine Q0c (by decide +kernel) ?_ | intro _) | refine zaY zz.out ?_ | ((first | ((with_reducible refine zR (t100 _ _ _ _ _ hB (by simp only [List.length_cons, List.length_nil]; omega)) ?_); rintro _ S2 ⟨rfl, hB2⟩) | ((with_reducible refine zR (t100 _ _ _ _ _ hB2 (by omega)) ?_); rintro _ S3 ⟨rfl, hB3⟩) | (refine Q0d (by exact Go.V.zK) ?_) | (refine Q0e (by exact Go.V.zK) ?_)); (try refine zsY zz.out ?_)) | refine zo ?_ | omega | refine ztY zz.out ?_ | fail)); try (all_goals clear zz))
        all_goals exact ⟨k + 1, _, (), ⟨⟨hk2, by rw [hjn]; exact hB3⟩, by first | omega | (simp only [List.length_cons]; omega)⟩, .refl _, rfl⟩
      · have hfull : l.take (k + 1) = l := List.take_of_length_le (by omega)
        rw [hfull] at hB
        (have zz := Bx.mk (j5 ui0 ui3 ui4 ui5 (j9 ui9 ui20 ui75 X6q Q5a ui151 Q9f ui155 hsl2)); (repeat' (first | with_reducible rfl | exact trivial | (with_reducible first | apply And.intro | apply Q0a | apply Q0b | refine Q0c (by decide +kernel) ?_ | intro _) | refine zaY zz.out ?_ | ((first | with_reducible refine (t103 _ _ _ _ hB (by omega)).use ?_ | (refine Q0d (by exact Go.V.zK) ?_) | (refine Q0e (by exact Go.V.zK) ?_)); (try refine zsY zz.out ?_)) | refine zo ?_ | omega | refine ztY zz.out ?_ | fail)); try (all_goals clear zz))
        all_goals exact ⟨σ, hB.sub, rfl⟩
def WrOK (t : Tk) : Prop := t.2.2.1 < 9223372036854775808 ∧ (t.1 = 4 → t.2.1.length ≤ 40) ∧ t.2.1.length ≤ 2000
theorem strs_one1 (ws : List By) : Q5j (strs ws) 1 = True := eq_true (fun e he => by obtain ⟨w, _, rfl⟩ := List.mem_map.1 he; exact ⟨rfl, rfl⟩)
theorem txts_take {l : List Tk} {k : Nat} (h : k < l.length) : txts (l.take (k + 1)) = txts (l.take k) ++ (if (l.getD k (0, [], 0, 0)).1 = 6 then [] else [txt (l.getD k (0, [], 0, 0))]) := by
  have hg : l.getD k (0, [], 0, 0) = l[k] := by simp [List.getD_eq_getElem?_getD, List.getElem?_eq_getElem h]
  rw [hg]
  unfold txts
  rw [List.take_succ_eq_append_getElem h, List.filter_append, List.map_append]
  by_cases h6 : l[k].1 = 6
  · rw [if_pos h6]
    simp [List.filter_cons, h6]
  · rw [if_neg h6]
    simp [List.filter_cons, h6]
theorem txts_len (l : List Tk) : (txts l).length ≤ l.length := by
  unfold txts
  rw [zA]
  exact List.length_filter_le _ _
theorem strs_snoc (a : List By) (x : By) : strs (a ++ [x]) = strs a ++ [[.s (bs x)]] := by simp [strs]
theorem j_write (l : List Tk) (o : Own) (h : ∀ t ∈ l, WrOK t) (hn : l.length ≤ 2 ^ 36) (hl : (Q6u l).length ≤ 2 ^ 38) (σ : Sg) : VCalls Tryz.prog 52 [.sl o (tksA l)] σ (fun x σ' => x = .s (bs (Q6u l)) ∧ σ' = σ) := by
  have hlen := Q0z l
  have htl := txts_len l
  unfold Q6u at hl ⊢
  (refine vfun (fun _ => .no) Q0h Tryz.func52 (by kernel_rfl) ?_; simp only [Q0f, Tryz.f52, zv])
  (have zz := Bx.mk (j3 ui0 ui3 (j9 ui4 ui9 ui22 ui23 ui56 ui75 Q1k Q0v hlen)); (repeat' (first | with_reducible rfl | exact trivial | (with_reducible first | apply And.intro | apply Q0a | apply Q0b | refine Q0c (by decide +kernel) ?_ | intro _) | refine zaY zz.out ?_ | ((first | (with_reducible refine uc (X7r _ _ (by assumption) (by assumption) _) ?_) | (refine Q0d (by exact Go.V.zK) ?_) | (refine Q0e (by exact Go.V.zK) ?_)); (try refine zsY zz.out ?_)) | refine zo ?_ | omega | refine ztY zz.out ?_ | fail)); try (all_goals clear zz))
  refine VW.loop4 (0 : Nat) (AV.sl .nil []) σ () (fun k V S _ => k ≤ l.length ∧ Grown 9 1 (strs (txts (l.take k))) σ V S) (fun k V _ _ => [(0, .sl o (tksA l)), (3, V), (6, .sl o (tksA l)), (7, .i l.length), (8, .i k)]) (fun _ _ S _ => S) (fun k _ _ _ => l.length - k) ⟨Nat.zero_le _, .nil _ _ _⟩ (.refl _) ?_ ?_
  · simp only [vO, vQ, ↓vP, vE, vS, vB, vL, vF, vM, vN, Q0g, zb, zc, zd, ne_eq, not_false_eq_true, ze, zf, zj, zk, vT]
    all_goals rfl
  rintro k V S _ ⟨hk, hG⟩
  rcases Nat.lt_or_ge k l.length with hk2 | hk2
  · have hg := Y0a hk2
    have hok : WrOK (l.getD k (0, [], 0, 0)) := h _ (by simp [List.getD_eq_getElem?_getD, List.getElem?_eq_getElem hk2])
    have htt := txts_take hk2
    have htk := txts_len (l.take k)
    rw [List.length_take] at htk
    generalize l.getD k (0, [], 0, 0) = t at *
    have htA : tkA t = [.i t.1, .s (bs t.2.1), .i t.2.2.1, .i t.2.2.2] := rfl
    rw [htA] at hg
    generalize txts (l.take k) = W at *
    obtain ⟨q1, q2, q3⟩ := hok
    have h7 : ∀ σ, VCalls Tryz.prog 105 [.agg [.i 1, .i t.2.2.1, .s (bs [])]] σ _ := e7 1 t.2.2.1 [] q1 (by simp)
    have h7b : t.1 = 4 → ∀ σ, VCalls Tryz.prog 105 [.agg [.i 2, .i 0, .s (bs t.2.1)]] σ _ := fun h4 => e7 2 0 t.2.1 (by decide) (q2 h4)
    have hw1 := Q4r W
    have hw2 := strs_all W
    have hw3 := strs_one1 W
    unfold txt at htt
    rcases hG with ⟨e1, rfl, rfl⟩ | ⟨τ, hτ, rfl, rfl⟩
    · rw [e1] at hw1 hw2 hw3
      (have zz := Bx.mk (j5 ui0 ui3 ui4 ui9 (j9 ui22 ui23 ui56 ui75 Q1k Q0v hlen hg e1)); (repeat' (first | with_reducible rfl | exact trivial | (with_reducible first | apply And.intro | apply Q0a | apply Q0b | refine Q0c (by decide +kernel) ?_ | intro _) | refine zaY zz.out ?_ | ((first | (with_reducible refine uc (h7 _) ?_) | (with_reducible refine uc (h7b (by omega) _) ?_) | (with_reducible refine uc (X7r _ _ (by assumption) (by assumption) _) ?_) | (refine Q0d (by exact Go.V.zK) ?_) | (refine Q0e (by exact Go.V.zK) ?_)); (try refine zsY zz.out ?_)) | refine zo ?_ | omega | refine ztY zz.out ?_ | fail)); try (all_goals clear zz))
      · exact ⟨k + 1, _, S, (), ⟨⟨hk2, by rw [htt, if_pos (by omega), List.append_nil, e1]; exact .nil _ _ _⟩, by omega⟩, by (exact Go.V.zu), rfl, rfl⟩
      all_goals (rename_i x hx hne; exact ⟨k + 1, _, S.set x (.tok (some 9)), (), ⟨⟨hk2, .tok hx⟩, by omega⟩, by (exact Go.V.zu), by (rw [htt, if_neg (by omega), strs_snoc, e1]; (repeat' split) <;> first | rfl | (exfalso; omega)), rfl⟩)
    · (have zz := Bx.mk (j7 ui0 ui3 ui4 ui9 ui22 ui23 (j9 ui56 ui75 Q1k Q0v hlen hg hw1 hw2 hw3)); (repeat' (first | with_reducible rfl | exact trivial | (with_reducible first | apply And.intro | apply Q0a | apply Q0b | refine Q0c (by decide +kernel) ?_ | intro _) | refine zaY zz.out ?_ | ((first | (with_reducible refine uc (h7 _) ?_) | (with_reducible refine uc (h7b (by omega) _) ?_) | (with_reducible refine uc (X7r _ _ (by assumption) (by assumption) _) ?_) | (refine Q0d (by exact Go.V.zK) ?_) | (refine Q0e (by exact Go.V.zK) ?_)); (try refine zsY zz.out ?_)) | refine zo ?_ | omega | refine ztY zz.out ?_ | fail)); try (all_goals clear zz))
      · exact ⟨k + 1, _, σ.set τ (.tok (some 9)), (), ⟨⟨hk2, by rw [htt, if_pos (by omega), List.append_nil]; exact .tok hτ⟩, by omega⟩, by (exact Go.V.zu), rfl, rfl⟩
      all_goals (rename_i x hx _ _; exact ⟨k + 1, _, σ.set x (.tok (some 9)), (), ⟨⟨hk2, .tok hx⟩, by omega⟩, by (exact Go.V.zu), by (rw [htt, if_neg (by omega), strs_snoc]; (repeat' split) <;> first | rfl | (exfalso; omega)), rfl⟩)
  · rw [List.take_of_length_le hk2] at hG
    rcases hG with ⟨e1, rfl, rfl⟩ | ⟨τ, hτ, rfl, rfl⟩
    · have hJ : ∀ σ, VCalls Tryz.prog 106 [.sl .nil [], .s (bs [32])] σ _ := fun σ => by rw [← e1]; exact X7r _ .nil hl (by omega) σ
      (have zz := Bx.mk (j3 ui0 ui3 (j9 ui4 ui9 ui22 ui23 ui56 ui75 Q1k Q0v hlen)); (repeat' (first | with_reducible rfl | exact trivial | (with_reducible first | apply And.intro | apply Q0a | apply Q0b | refine Q0c (by decide +kernel) ?_ | intro _) | refine zaY zz.out ?_ | ((first | (with_reducible refine uc (hJ _) ?_) | (with_reducible refine uc (X7r _ _ (by assumption) (by assumption) _) ?_) | (refine Q0d (by exact Go.V.zK) ?_) | (refine Q0e (by exact Go.V.zK) ?_)); (try refine zsY zz.out ?_)) | refine zo ?_ | omega | refine ztY zz.out ?_ | fail)); try (all_goals clear zz))
      all_goals exact ⟨_, .refl _, rfl⟩
    · (have zz := Bx.mk (j3 ui0 ui3 (j9 ui4 ui9 ui22 ui23 ui56 ui75 Q1k Q0v hlen)); (repeat' (first | with_reducible rfl | exact trivial | (with_reducible first | apply And.intro | apply Q0a | apply Q0b | refine Q0c (by decide +kernel) ?_ | intro _) | refine zaY zz.out ?_ | ((first | (with_reducible refine uc (X7r _ _ hl (by omega) _) ?_) | (with_reducible refine uc (X7r _ _ (by assumption) (by assumption) _) ?_) | (refine Q0d (by exact Go.V.zK) ?_) | (refine Q0e (by exact Go.V.zK) ?_)); (try refine zsY zz.out ?_)) | refine zo ?_ | omega | refine ztY zz.out ?_ | fail)); try (all_goals clear zz))
      all_goals exact ⟨σ, by (exact Go.V.zu), rfl⟩
end Go.Proofs.YtjdapkelojdefaaGreatDoor
namespace Go.Print
open Go.V Go.Lex Go.Parse Go.Proofs.YtjdapkelojdefaaGreatDoor
theorem fT_of {m i : List Tk} (h : m.map noAt = i.map noAt) : m.map fT = i.map fT := by
  have : ∀ l : List Tk, l.map fT = (l.map noAt).map (fun x => (x.1, x.2.1, x.2.2, 0)) := fun l => by rw [List.map_map]; rfl
  rw [this m, this i, h]
end Go.Print
namespace Go.Proofs.YtjdapkelojdefaaGreatDoor
open Go Go.V Go.Lex Go.Parse Go.Print
end Go.Proofs.YtjdapkelojdefaaGreatDoor
namespace Go.Print
open Go.V Go.Lex Go.Parse Go.Proofs.YtjdapkelojdefaaGreatDoor
theorem lex_good {b : By} {l : List Tk} (h : Q6c b = .ok l) : l.length ≤ 2001 ∧ WF l ∧ GL l := by
  have hb : ¬ 2000 < b.length := fun q => by rw [X6s q] at h; cases h
  have ht : toks b 0 = .ok l := by
    unfold Q6c at h
    rw [if_neg hb] at h
    cases hq : toks b 0 with
    | ok l' => rw [hq] at h; cases h; rfl
    | error e => rw [hq] at h; cases h
  have hlen := toks_length b.length b 0 l (Nat.le_refl _) ht
  obtain ⟨i, rfl, hi⟩ := toks_good b.length b 0 l (Nat.le_refl _) ht
  refine ⟨by omega, ?_, fun t ht => ?_⟩
  · clear ht h hlen hi
    induction i with
    | nil => rfl
    | cons x r ih =>
      cases r with
      | nil => rfl
      | cons y r => exact ih
  · rcases List.mem_append.1 ht with q | q
    · exact .inr (hi t q)
    · simp at q; rw [q]; exact .inl rfl
theorem fin_c {s : Rd} (h : s.fin.c = 0) : s.c = 0 ∧ s.fin = s := by
  unfold Rd.fin at h ⊢
  split
  · rename_i hh
    rw [if_pos hh] at h
    exfalso
    unfold Rd.fail at h
    rw [if_pos hh.1] at h
    cases h
  · rename_i hh
    rw [if_neg hh] at h
    exact ⟨h, rfl⟩
theorem writeT_good {i : List Tk} (h : ∀ t ∈ i, GoodT t) : Q6u i = Q5h (i.map txt) := by
  unfold Q6u txts
  rw [List.filter_eq_self.2 (fun t ht => by
    rcases h t ht with q | q | q | q | q <;> rw [q.1] <;> decide)]
theorem X4r : ∀ t : Tr, toTr t.ex = t
  | .val v => by show toTr (.mk 1 0 [] [] v []) = _; rw [X1i, Q5t]; rfl
  | .col t n => by show toTr (.mk 2 0 t n v0 []) = _; rw [X1i, Q5t]; rfl
  | .not e => by show toTr (.mk 4 0 [] [] v0 [e.ex]) = _; rw [X1i, Q5l, Q5t, X4r e]; rfl
  | .neg e => by show toTr (.mk 5 0 [] [] v0 [e.ex]) = _; rw [X1i, Q5l, Q5t, X4r e]; rfl
  | .null e => by show toTr (.mk 6 0 [] [] v0 [e.ex]) = _; rw [X1i, Q5l, Q5t, X4r e]; rfl
  | .op k a b => by
    show toTr (.mk 3 (k : Int) [] [] v0 [a.ex, b.ex]) = _
    rw [X1i, Q5l, Q5l, Q5t, X4r a, X4r b]
    show Tr.op (k : Int).toNat a b = _
    rw [Int.toNat_natCast]
def expT (ws : List By) : List Ex → List Tk
  | [] => []
  | e :: _ => wds ws ++ (toTr e).tk
def expD : List Ex → Nat
  | [] => 0
  | e :: _ => (toTr e).dp
def sepT {β : Type} (one : β → List Tk) : List β → List Tk
  | [] => []
  | [x] => one x
  | x :: y :: r => one x ++ wd [44] :: sepT one (y :: r)
def maxD {β : Type} (one : β → Nat) : List β → Nat
  | [] => 0
  | x :: r => max (one x) (maxD one r)
def colT (c : Co) : List Tk := nT c.1 :: wd (if c.2.1 = 1 then [73, 78, 84] else [84, 69, 88, 84]) :: ((if c.2.2.1 then wds [[78, 79, 84], [78, 85, 76, 76]] else []) ++ ((if c.2.2.2 then wds [[85, 78, 73, 81, 85, 69]] else []) ++ [wd [44]]))
def rowT (r : List Vl) : List Tk := wd [40] :: (sepT litT r ++ [wd [41]])
def setT (x : Se) : List Tk := nT x.1 :: wd [61] :: (toTr x.2).tk
def Q8j (x : It) : List Tk :=
  if x.1 = 1 then wds [[42]] else
  if x.1 = 3 then wds [[67, 79, 85, 78, 84], [40], [42], [41]] else
  if x.1 = 2 then expT [] x.2 else
  expT [(if x.1 = 4 then [67, 79, 85, 78, 84] else if x.1 = 5 then [83, 85, 77] else if x.1 = 6 then [77, 73, 78] else [77, 65, 88]), [40]] x.2 ++ [wd [41]]
def X4s (s : Stm) : List Tk := wds [[67, 82, 69, 65, 84, 69], [84, 65, 66, 76, 69]] ++ (nT s.t :: wd [40] :: ((s.cols.map colT).flatten ++ (wds [[80, 82, 73, 77, 65, 82, 89], [75, 69, 89], [40]] ++ (nT s.pk :: wds [[41], [41]]))))
def dropT (s : Stm) : List Tk := wds [[68, 82, 79, 80], [84, 65, 66, 76, 69]] ++ [nT s.t]
def X4t (s : Stm) : List Tk := wds [[73, 78, 83, 69, 82, 84], [73, 78, 84, 79]] ++ (nT s.t :: wd [86, 65, 76, 85, 69, 83] :: sepT rowT s.rows)
def X4u (s : Stm) : List Tk := wd [85, 80, 68, 65, 84, 69] :: nT s.t :: wd [83, 69, 84] :: (sepT setT s.sets ++ expT [[87, 72, 69, 82, 69]] s.wh)
def removeT (s : Stm) : List Tk := wds [[68, 69, 76, 69, 84, 69], [70, 82, 79, 77]] ++ (nT s.t :: expT [[87, 72, 69, 82, 69]] s.wh)
def joinT (s : Stm) : List Tk := if s.join = [] then [] else wd [74, 79, 73, 78] :: nT s.join :: expT [[79, 78]] s.on
def X4v (s : Stm) : List Tk := wd [83, 69, 76, 69, 67, 84] :: (sepT Q8j s.items ++ (wd [70, 82, 79, 77] :: nT s.t :: (joinT s ++ (expT [[87, 72, 69, 82, 69]] s.wh ++ (expT [[71, 82, 79, 85, 80], [66, 89]] s.gr ++ (expT [[79, 82, 68, 69, 82], [66, 89]] s.or ++
  ((if s.desc then [wd [68, 69, 83, 67]] else []) ++ (if 0 ≤ s.lim then [wd [76, 73, 77, 73, 84], iT s.lim] else []))))))))
def stT (s : Stm) : List Tk :=
  if s.k = 1 then X4s s else if s.k = 2 then dropT s else if s.k = 3 then X4t s else if s.k = 4 then X4u s else if s.k = 5 then removeT s else if s.k = 6 then X4v s else []
def stD (s : Stm) : Nat :=
  if s.k = 4 then max (maxD (fun x => (toTr x.2).dp) s.sets) (expD s.wh) else if s.k = 5 then expD s.wh else
  if s.k = 6 then max (maxD (fun x => expD x.2) s.items) (max (if s.join = [] then 0 else expD s.on) (max (expD s.wh) (max (expD s.gr) (expD s.or)))) else 0
def oneB (l : List Ex) : Bool := decide (l.length ≤ 1) && rts l
def colB (l : List Ex) : Bool := oneB l && (match l with | [] => true | e :: _ => decide (e.kd = 2))
def X2x (c : Co) : Bool := isNm c.1 && decide (c.2.1 = 1 ∨ c.2.1 = 2)
def X5u (l : List Co) : Bool := l.all X2x && decide (1 ≤ l.length ∧ l.length ≤ 8)
def rowB (r : List Vl) : Bool := r.all okV && decide (1 ≤ r.length ∧ r.length ≤ 8)
def X5v (l : List (List Vl)) : Bool := l.all rowB && decide (1 ≤ l.length ∧ l.length ≤ 16)
def X4w (x : Se) : Bool := isNm x.1 && rt x.2
def X5w (l : List Se) : Bool := l.all X4w && decide (1 ≤ l.length ∧ l.length ≤ 8)
def Q4o (x : It) : Bool := decide (1 ≤ x.1 ∧ x.1 ≤ 7) && (decide (x.2.length = if x.1 = 1 ∨ x.1 = 3 then 0 else 1) && rts x.2)
def X0s (l : List It) : Bool := l.all Q4o && decide (1 ≤ l.length ∧ l.length ≤ 8)
def joinB (s : Stm) : Bool := (decide (s.join = []) && decide (s.on.length = 0)) || (isNm s.join && decide (s.on.length = 1))
def selB (s : Stm) : Bool := joinB s && (X0s s.items && (oneB s.on && (colB s.gr && (colB s.or && ((decide (s.or.length = 1) || !s.desc) && decide (-1 ≤ s.lim))))))
def X0o (s : Stm) : Bool := decide (0 < s.cols.length) || decide (s.pk ≠ [])
def X1s (s : Stm) : Bool := decide (0 < s.items.length + s.on.length + s.gr.length + s.or.length) || (decide (s.join ≠ []) || (s.desc || decide (s.lim ≠ -1)))
def X8j (s : Stm) : Bool :=
  isNm s.t && (decide (1 ≤ s.k ∧ s.k ≤ 6) && ((decide (s.k = 1) || !X0o s) && ((decide (s.k = 3) || decide (s.rows.length = 0)) && ((decide (s.k = 4) || decide (s.sets.length = 0)) &&
    ((decide (s.k = 6) || !X1s s) && (decide (4 ≤ s.k) || decide (s.wh.length = 0)))))))
def fitB (s : Stm) : Bool :=
  X8j s && (oneB s.wh && (if s.k = 1 then X5u s.cols && isNm s.pk else if s.k = 3 then X5v s.rows else if s.k = 4 then X5w s.sets else if s.k = 6 then selB s else true))
def scT (l : List Stm) : List Tk := match l with
  | [] => []
  | x :: r => stT x ++ (r.map fun s => wd [59] :: stT s).flatten
def scD (l : List Stm) : Nat := maxD stD l
def X7s (l : List Stm) : By × Int :=
  if 8 < l.length then ([], 2) else if l = [] then ([], 4) else if l.all fitB then fin (scT l) (scD l) else ([], 4)
abbrev wOb (T : TypeId) (r : List AV) (τ : Nat) (l : List Tk) : Ob := .cells T (.sl (.tok τ 4) (tksA l) :: r)
abbrev WB (T : TypeId) (r : List AV) (B : Sg) (ω τ : Nat) (l : List Tk) : Sg := (B.set τ (.tok (some 102))).set ω (wOb T r τ l)
def inR' (n : Int) : Prop := -9223372036854775807 ≤ n ∧ n ≤ 9223372036854775807
structure okS (B : Sg) (ω τ : Nat) : Prop where
  free : B τ = none
  ne : τ ≠ ω
theorem Y0z {T : TypeId} {r : List AV} {B : Sg} {ω τ : Nat} {l : List Tk} : WB T r B ω τ l = (B.set τ (.tok (some 102))).set ω (.cells T (.sl (.tok τ 4) (tksA l) :: r)) := rfl
theorem X4x {T : TypeId} {r : List AV} {B : Sg} {ω τ : Nat} {l m : List Tk} {es : List (List AV)} (h : es = tksA m) : (B.set τ (.tok (some 102))).set ω (.cells T (.sl (.tok τ 4) (tksA l ++ es) :: r)) = WB T r B ω τ (l ++ m) := by
  rw [h, X9z]
theorem X9e {B : Sg} {ω τ τ' : Nat} {t t' ob ob' : Ob} (h : B τ' = none) (h0 : B τ = none) : ((B.set τ' t').set ω ob').sub (((((B.set τ t).set ω ob).del τ).set τ' t').set ω ob') := by
  intro y p hy
  simp only [Sg.set_apply, Sg.del_apply] at hy ⊢
  grind
end Go.Print
namespace Go.Proofs.YtjdapkelojdefaaGreatDoor
open Go Go.V Go.Lex Go.Parse Go.Print
theorem X1t (a x : AV) (r : List AV) : Q4b (a :: r) 0 [x] = x :: r := by simp [Q4b]
theorem Q3v (T : TypeId) (r : List AV) (B : Sg) (ω τ : Nat) (l : List Tk) (s : By) (h : okS B ω τ) (hl : l.length < 2 ^ 40) : VCalls Tryz.prog 46 [.ref ω 0, .s (bs s)] (WB T r B ω τ l) (fun x σ' => x = .tup [] ∧ ∃ τ', okS B ω τ' ∧ σ' = WB T r B ω τ' (l ++ [nT s])) := by
  obtain ⟨h1, h2⟩ := h
  have h2' := h2.symm
  rw [Y0z]
  have hlen := Q0z l
  have hall := Q1s l
  (refine vfun (fun _ => .no) Q0h Tryz.func46 (by kernel_rfl) ?_; simp only [Q0f, Tryz.f46, zv])
  (have zz := Bx.mk (j3 ui0 ui3 (j9 ui9 ui56 ui57 X9u Q1k Q0v hlen hall @X1t)); (repeat' (first | with_reducible rfl | exact trivial | (with_reducible first | apply And.intro | apply Q0a | apply Q0b | refine Q0c (by decide +kernel) ?_ | intro _) | refine zaY zz.out ?_ | ((first | (refine Q0d (by exact Go.V.zK) ?_) | (refine Q0e (by exact Go.V.zK) ?_)); (try refine zsY zz.out ?_)) | refine zo ?_ | omega | refine ztY zz.out ?_ | fail)); try (all_goals clear zz))
  all_goals (exact ⟨_, X9e ‹B _ = none› (by assumption), _, ⟨‹B _ = none›, by assumption⟩, X4x rfl⟩)
theorem Q3u (l : List By) : (wds l).length = l.length := by simp [wds]
theorem iT_A {n : Int} (h : 0 ≤ n) : [[AV.i 3, .s (bs []), .i n, .i 0]] = tksA [iT n] := by
  have : ((n.toNat : Nat) : Int) = n := by omega
  show _ = [[AV.i 3, .s (bs []), .i ((n.toNat : Nat) : Int), .i 0]]
  rw [this]
theorem wds_step {ws : List By} {k : Nat} (h : k < ws.length) : wds (ws.take (k + 1)) = wds (ws.take k) ++ [wd (ws.getD k [])] := by
  unfold wds
  rw [List.take_succ_eq_append_getElem h, List.map_append]
  simp [List.getD_eq_getElem?_getD, List.getElem?_eq_getElem h]
theorem w_words (T : TypeId) (r : List AV) (B : Sg) (ω τ : Nat) (l : List Tk) (o : Own) (ws : List By) (es : List (List AV)) (he : es = strs ws) (h : okS B ω τ) (hl : l.length + ws.length < 2 ^ 40) (hw : ∀ w ∈ ws, w ≠ []) : VCalls Tryz.prog 29 [.ref ω 0, .sl o es] (WB T r B ω τ l) (fun x σ' => x = .tup [] ∧ ∃ τ', okS B ω τ' ∧ σ' = WB T r B ω τ' (l ++ wds ws)) := by
  subst he
  have hsl := Q4r ws
  (refine vfun (fun _ => .no) Q0h Tryz.func29 (by kernel_rfl) ?_; simp only [Q0f, Tryz.f29, zv])
  (have zz := Bx.mk (j4 ui0 ui3 ui4 (j9 ui5 ui9 ui56 ui57 ui75 X9u Q1k Q0v hsl)); (repeat' (first | with_reducible rfl | exact trivial | (with_reducible first | apply And.intro | apply Q0a | apply Q0b | refine Q0c (by decide +kernel) ?_ | intro _) | refine zaY zz.out ?_ | ((first | (refine Q0d (by exact Go.V.zK) ?_) | (refine Q0e (by exact Go.V.zK) ?_)); (try refine zsY zz.out ?_)) | refine zo ?_ | omega | refine ztY zz.out ?_ | fail)); try (all_goals clear zz))
  refine VW.loop3 (0 : Nat) τ () (fun k τ' _ => k ≤ ws.length ∧ okS B ω τ') (fun k _ _ => [(0, .ref ω 0), (7, .sl o (strs ws)), (8, .i ws.length), (9, .i k)]) (fun k τ' _ => WB T r B ω τ' (l ++ wds (ws.take k))) (fun k _ _ => ws.length - k) ⟨Nat.zero_le _, h⟩ (by simp [wds]; exact .refl _) ?_ ?_
  · simp only [vO, vQ, ↓vP, vE, vS, vB, vL, vF, vM, vN, Q0g, zb, zc, zd, ne_eq, not_false_eq_true, ze, zf, zj, zk, vT]
    all_goals rfl
  rintro k τ' _ ⟨hk, h1, h2⟩
  have h2' := h2.symm
  rw [Y0z]
  rcases Nat.lt_or_ge k ws.length with hk2 | hk2
  · have hg := X0g hk2
    have hwk : ws.getD k [] ≠ [] := hw _ (by simp [List.getD_eq_getElem?_getD, List.getElem?_eq_getElem hk2])
    have hwl : 0 < (ws.getD k []).length := List.length_pos_iff.2 hwk
    have hst := wds_step hk2
    have hwd : wd (ws.getD k []) = if 65 ≤ ((ws.getD k []).getD 0 0).toNat ∧ ((ws.getD k []).getD 0 0).toNat ≤ 90 then wT (ws.getD k []) else sT (ws.getD k []) := rfl
    generalize ws.getD k [] = w at *
    have hall := Q1s (l ++ wds (ws.take k))
    have hlen : (tksA (l ++ wds (ws.take k))).length = l.length + k := by rw [Q0z, List.length_append]; simp [wds]; omega
    generalize hL : l ++ wds (ws.take k) = L at *
    (have zz := Bx.mk (j8 ui0 ui3 ui4 ui5 ui9 ui56 ui57 (j9 ui75 X9u Q1k Q0v hsl hg hall hlen @X1t)); (repeat' (first | with_reducible rfl | exact trivial | (with_reducible first | apply And.intro | apply Q0a | apply Q0b | refine Q0c (by decide +kernel) ?_ | intro _) | refine zaY zz.out ?_ | ((first | (refine Q0d (by exact Go.V.zK) ?_) | (refine Q0e (by exact Go.V.zK) ?_)); (try refine zsY zz.out ?_)) | refine zo ?_ | omega | refine ztY zz.out ?_ | fail)); try (all_goals clear zz))
    · rename_i τ2 q1 _ q2
      exact ⟨k + 1, τ2, (), ⟨⟨hk2, q1, q2⟩, by omega⟩, by rw [hst, ← List.append_assoc, hL, hwd, if_pos ⟨by omega, by omega⟩, ← X4x (m := [wT w]) rfl]; exact X9e q1 h1, rfl⟩
    all_goals rename_i τ2 q1 _ q2
    all_goals exact ⟨k + 1, τ2, (), ⟨⟨hk2, q1, q2⟩, by omega⟩, by rw [hst, ← List.append_assoc, hL, hwd, if_neg (by omega), ← X4x (m := [sT w]) rfl]; exact X9e q1 h1, rfl⟩
  · (have zz := Bx.mk (j4 ui0 ui3 ui4 (j9 ui5 ui9 ui56 ui57 ui75 X9u Q1k Q0v hsl)); (repeat' (first | with_reducible rfl | exact trivial | (with_reducible first | apply And.intro | apply Q0a | apply Q0b | refine Q0c (by decide +kernel) ?_ | intro _) | refine zaY zz.out ?_ | ((first | (refine Q0d (by exact Go.V.zK) ?_) | (refine Q0e (by exact Go.V.zK) ?_)); (try refine zsY zz.out ?_)) | refine zo ?_ | omega | refine ztY zz.out ?_ | fail)); try (all_goals clear zz))
    rw [List.take_of_length_le hk2]
    exact ⟨_, .refl _, τ', ⟨h1, h2⟩, rfl⟩
def wdsE (es : List (List AV)) : List Tk := es.map fun e => wd (match e with | [.val (.string s)] => s.data.toList | _ => [])
theorem wdsE_strs (ws : List By) : wdsE (strs ws) = wds ws := by
  unfold wdsE strs wds
  rw [List.map_map]
  refine List.map_congr_left (fun w _ => ?_)
  show wd ((bs w).data.toList) = wd w
  rw [Q7s]
theorem Q9b : wdsE [] = [] := rfl
theorem Q5w (w : By) (es : List (List AV)) : wdsE ([.val (.string (bs w))] :: es) = wd w :: wdsE es := by
  show wd ((bs w).data.toList) :: wdsE es = _
  rw [Q7s]
def okW (es : List (List AV)) : Prop := ∃ ws, es = strs ws ∧ ∀ w ∈ ws, w ≠ []
theorem Q0p : okW [] := ⟨[], rfl, fun w h => by cases h⟩
theorem Q0k {w : By} {es : List (List AV)} (h : okW es) (hw : w ≠ []) : okW ([AV.s (bs w)] :: es) := by
  obtain ⟨ws, rfl, h⟩ := h
  exact ⟨w :: ws, rfl, fun x hx => by
    rcases List.mem_cons.1 hx with rfl | hx
    · exact hw
    · exact h x hx⟩
theorem Q0m (T : TypeId) (r : List AV) (B : Sg) (ω τ : Nat) (l : List Tk) (o : Own) (es : List (List AV)) (he : okW es) (h : okS B ω τ) (hl : l.length + es.length < 2 ^ 40) : VCalls Tryz.prog 29 [.ref ω 0, .sl o es] (WB T r B ω τ l) (fun x σ' => x = .tup [] ∧ ∃ τ', okS B ω τ' ∧ σ' = WB T r B ω τ' (l ++ wdsE es)) := by
  obtain ⟨ws, rfl, hw⟩ := he
  rw [Q4r] at hl
  rw [wdsE_strs]
  exact w_words T r B ω τ l o ws _ rfl h hl hw
def WLg := And.intro (j9 @Q0z @Q1s @Q8q @List.length_append.{0} @List.length_cons.{0} @List.length_nil.{0} @Q3u @Q9b @Q5w) @X1t
theorem X3s (T : TypeId) (r : List AV) (B : Sg) (ω τ : Nat) (l : List Tk) (n : Int) (h : okS B ω τ) (hl : l.length < 2 ^ 39) (hn : inR' n) : VCalls Tryz.prog 103 [.ref ω 0, .i n] (WB T r B ω τ l) (fun x σ' => x = .tup [] ∧ ∃ τ', okS B ω τ' ∧ σ' = WB T r B ω τ' (l ++ numT n)) := by
  unfold inR' at hn
  unfold numT
  by_cases hc : n < 0
  · rw [if_pos hc]
    (refine vfun (fun _ => .no) Q0h Tryz.func103 (by kernel_rfl) ?_; simp only [Q0f, Tryz.f103, zv])
    (have zz := Bx.mk (j4 ui0 ui3 ui4 (j9 ui9 ui56 ui57 ui75 X9u Q1k Q0v @Q0z (j9 @Q1s @Q8q @List.length_append.{0} @List.length_cons.{0} @List.length_nil.{0} @Q3u @Q9b @Q5w @X1t))); (repeat' (first | with_reducible rfl | exact trivial | (with_reducible first | apply And.intro | apply Q0a | apply Q0b | refine Q0c (by decide +kernel) ?_ | intro _) | refine zaY zz.out ?_ | ((first | ((with_reducible refine zR (Q0m _ _ _ _ _ _ _ _ (by repeat (first | exact Q0p | refine Q0k ?_ (by simp))) (by exact Go.V.zO) (by exact Go.V.zN)) ?_); rintro _ S ⟨rfl, τ1, ⟨f1, n1⟩, rfl⟩; have n1s := n1.symm) | (refine Q0d (by exact Go.V.zK) ?_) | (refine Q0e (by exact Go.V.zK) ?_)); (try refine zsY zz.out ?_)) | refine zo ?_ | omega | refine ztY zz.out ?_ | fail)); try (all_goals clear zz))
    rename_i τ2 q1 _ q2
    exact ⟨_, X9e q1 (by assumption), _, ⟨q1, q2⟩, by rw [X4x (m := [iT (0 - n)]) (iT_A (by omega)), List.append_assoc, Int.zero_sub]; rfl⟩
  · rw [if_neg hc]
    obtain ⟨f0, n0⟩ := h
    have n0s := n0.symm
    (refine vfun (fun _ => .no) Q0h Tryz.func103 (by kernel_rfl) ?_; simp only [Q0f, Tryz.f103, zv])
    (have zz := Bx.mk (j4 ui0 ui3 ui4 (j9 ui9 ui56 ui57 ui75 X9u Q1k Q0v @Q0z (j9 @Q1s @Q8q @List.length_append.{0} @List.length_cons.{0} @List.length_nil.{0} @Q3u @Q9b @Q5w @X1t))); (repeat' (first | with_reducible rfl | exact trivial | (with_reducible first | apply And.intro | apply Q0a | apply Q0b | refine Q0c (by decide +kernel) ?_ | intro _) | refine zaY zz.out ?_ | ((first | ((with_reducible refine zR (Q0m _ _ _ _ _ _ _ _ (by repeat (first | exact Q0p | refine Q0k ?_ (by simp))) (by exact Go.V.zO) (by exact Go.V.zN)) ?_); rintro _ S ⟨rfl, τ1, ⟨f1, n1⟩, rfl⟩; have n1s := n1.symm) | (refine Q0d (by exact Go.V.zK) ?_) | (refine Q0e (by exact Go.V.zK) ?_)); (try refine zsY zz.out ?_)) | refine zo ?_ | omega | refine ztY zz.out ?_ | fail)); try (all_goals clear zz))
    rename_i τ2 q1 _ q2
    exact ⟨_, X9e q1 (by assumption), _, ⟨q1, q2⟩, by rw [X4x (m := [iT n]) (iT_A (by omega))]⟩
theorem Q4p (T : TypeId) (r : List AV) (B : Sg) (ω τ : Nat) (l : List Tk) (v : Vl) (h : okS B ω τ) (hl : l.length < 2 ^ 38) (hn : inR' v.2.1) (hk : v.1 = 0 ∨ v.1 = 1 ∨ v.1 = 2) : VCalls Tryz.prog 45 [.ref ω 0, .agg [.i v.1, .i v.2.1, .s (bs v.2.2)]] (WB T r B ω τ l) (fun x σ' => x = .tup [] ∧ ∃ τ', okS B ω τ' ∧ σ' = WB T r B ω τ' (l ++ litT v)) := by
  unfold litT
  obtain ⟨k, n, t⟩ := v
  simp only at hn hk ⊢
  rcases hk with rfl | rfl | rfl
  · (refine vfun (fun _ => .ro) Q0h Tryz.func45 (by kernel_rfl) ?_; simp only [Q0f, Tryz.f45, zv])
    (have zz := Bx.mk (j6 ui0 ui3 ui4 ui9 ui22 (j9 ui23 ui56 ui57 ui75 X9u Q1k Q0v @Q0z (j9 @Q1s @Q8q @List.length_append.{0} @List.length_cons.{0} @List.length_nil.{0} @Q3u @Q9b @Q5w @X1t))); (repeat' (first | with_reducible rfl | exact trivial | (with_reducible first | apply And.intro | apply Q0a | apply Q0b | refine Q0c (by decide +kernel) ?_ | intro _) | refine zaY zz.out ?_ | ((first | ((with_reducible refine zR (Q0m _ _ _ _ _ _ _ _ (by repeat (first | exact Q0p | refine Q0k ?_ (by simp))) (by exact Go.V.zO) (by exact Go.V.zN)) ?_); rintro _ S ⟨rfl, τ1, ⟨f1, n1⟩, rfl⟩; have n1s := n1.symm) | ((with_reducible refine zR (X3s _ _ _ _ _ _ _ (by exact Go.V.zO) (by exact Go.V.zN) (by assumption)) ?_); rintro _ S ⟨rfl, τ1, ⟨f1, n1⟩, rfl⟩; have n1s := n1.symm) | (refine Q0d (by exact Go.V.zK) ?_) | (refine Q0e (by exact Go.V.zK) ?_)); (try refine zsY zz.out ?_)) | refine zo ?_ | omega | refine ztY zz.out ?_ | fail)); try (all_goals clear zz))
    exact ⟨_, .refl _, τ1, ⟨f1, n1⟩, rfl⟩
  · (refine vfun (fun _ => .ro) Q0h Tryz.func45 (by kernel_rfl) ?_; simp only [Q0f, Tryz.f45, zv])
    (have zz := Bx.mk (j6 ui0 ui3 ui4 ui9 ui22 (j9 ui23 ui56 ui57 ui75 X9u Q1k Q0v @Q0z (j9 @Q1s @Q8q @List.length_append.{0} @List.length_cons.{0} @List.length_nil.{0} @Q3u @Q9b @Q5w @X1t))); (repeat' (first | with_reducible rfl | exact trivial | (with_reducible first | apply And.intro | apply Q0a | apply Q0b | refine Q0c (by decide +kernel) ?_ | intro _) | refine zaY zz.out ?_ | ((first | ((with_reducible refine zR (Q0m _ _ _ _ _ _ _ _ (by repeat (first | exact Q0p | refine Q0k ?_ (by simp))) (by exact Go.V.zO) (by exact Go.V.zN)) ?_); rintro _ S ⟨rfl, τ1, ⟨f1, n1⟩, rfl⟩; have n1s := n1.symm) | ((with_reducible refine zR (X3s _ _ _ _ _ _ _ (by exact Go.V.zO) (by exact Go.V.zN) (by assumption)) ?_); rintro _ S ⟨rfl, τ1, ⟨f1, n1⟩, rfl⟩; have n1s := n1.symm) | (refine Q0d (by exact Go.V.zK) ?_) | (refine Q0e (by exact Go.V.zK) ?_)); (try refine zsY zz.out ?_)) | refine zo ?_ | omega | refine ztY zz.out ?_ | fail)); try (all_goals clear zz))
    exact ⟨_, .refl _, τ1, ⟨f1, n1⟩, rfl⟩
  · obtain ⟨f0, n0⟩ := h
    have n0s := n0.symm
    (refine vfun (fun _ => .ro) Q0h Tryz.func45 (by kernel_rfl) ?_; simp only [Q0f, Tryz.f45, zv])
    (have zz := Bx.mk (j6 ui0 ui3 ui4 ui9 ui22 (j9 ui23 ui56 ui57 ui75 X9u Q1k Q0v @Q0z (j9 @Q1s @Q8q @List.length_append.{0} @List.length_cons.{0} @List.length_nil.{0} @Q3u @Q9b @Q5w @X1t))); (repeat' (first | with_reducible rfl | exact trivial | (with_reducible first | apply And.intro | apply Q0a | apply Q0b | refine Q0c (by decide +kernel) ?_ | intro _) | ((with_reducible refine .dms (fun x => x = ω) [(0, false), (1, false), (2, false), (3, false), (4, true), (5, true), (6, true), (7, false), (8, true), (9, true), (10, true)] (by decide) (by decide +kernel) ?_); (refine zsR zz.out ?_)) | ((with_reducible refine .dm (fun x => x = ω) [(0, false), (1, false), (2, false), (3, false), (4, true), (5, true), (6, true), (7, false), (8, true), (9, true), (10, true)] (by decide) (by decide +kernel) ?_); (refine zsR zz.out ?_)) | refine zaR zz.out ?_ | refine zkK zz.out ?_ | ((first | (refine Q0j (by intro β h; first | (rcases h with h | h <;> subst h <;> (simp (disch := first | assumption | (apply zM; assumption; assumption) | (apply zP; assumption; assumption; (intro e; cases e; done)) | omega) only [zm, zn, zp, zq, zr])) | (subst h; (simp (disch := first | assumption | (apply zM; assumption; assumption) | (apply zP; assumption; assumption; (intro e; cases e; done)) | omega) only [zm, zn, zp, zq, zr]))) ?_) | ((with_reducible refine zR (Q0m _ _ _ _ _ _ _ _ (by repeat (first | exact Q0p | refine Q0k ?_ (by simp))) (by exact Go.V.zO) (by exact Go.V.zN)) ?_); rintro _ S ⟨rfl, τ1, ⟨f1, n1⟩, rfl⟩; have n1s := n1.symm) | ((with_reducible refine zR (X3s _ _ _ _ _ _ _ (by exact Go.V.zO) (by exact Go.V.zN) (by assumption)) ?_); rintro _ S ⟨rfl, τ1, ⟨f1, n1⟩, rfl⟩; have n1s := n1.symm) | (refine Q0d (by exact Go.V.zK) ?_) | (refine Q0e (by exact Go.V.zK) ?_)); (try refine zsR zz.out ?_)) | refine zmR zz.out ?_ | refine zo ?_ | omega | refine ztR zz.out ?_ | fail)); try (all_goals clear zz))
    rename_i τ2 q1 _ q2
    exact ⟨_, X9e q1 f0, _, ⟨q1, q2⟩, X4x rfl⟩
theorem ex_val (v : Vl) : exA (Tr.val v).ex = [.i 1, .i 0, .s (bs []), .s (bs []), .i v.1, .i v.2.1, .s (bs v.2.2), .sl .any []] := by rw [Tr.ex, Q6v, Q0s]
theorem ex_col (t n : By) : exA (Tr.col t n).ex = [.i 2, .i 0, .s (bs t), .s (bs n), .i 0, .i 0, .s (bs []), .sl .any []] := by rw [Tr.ex, Q6v, Q0s]
theorem ex_op (k : Nat) (a b : Tr) : exA (Tr.op k a b).ex = [.i 3, .i k, .s (bs []), .s (bs []), .i 0, .i 0, .s (bs []), .sl .any [exA a.ex, exA b.ex]] := by rw [Tr.ex, Q6v, opA]
theorem ex_not (e : Tr) : exA (Tr.not e).ex = [.i 4, .i 0, .s (bs []), .s (bs []), .i 0, .i 0, .s (bs []), .sl .any [exA e.ex]] := by rw [Tr.ex, Q6v, ofA]
theorem ex_neg (e : Tr) : exA (Tr.neg e).ex = [.i 5, .i 0, .s (bs []), .s (bs []), .i 0, .i 0, .s (bs []), .sl .any [exA e.ex]] := by rw [Tr.ex, Q6v, ofA]
theorem ex_null (e : Tr) : exA (Tr.null e).ex = [.i 6, .i 0, .s (bs []), .s (bs []), .i 0, .i 0, .s (bs []), .sl .any [exA e.ex]] := by rw [Tr.ex, Q6v, ofA]
theorem ex_form (e : Ex) : ∃ (op : Int) (t n : By) (v : Vl) (l : List Ex), exA e = [.i e.kd, .i op, .s (bs t), .s (bs n), .i v.1, .i v.2.1, .s (bs v.2.2), .sl .any (exsA l)] := by
  cases e with
  | mk k op t n v l => exact ⟨op, t, n, v, l, Q6v _ _ _ _ _ _⟩
theorem kd_null (e : Tr) : e.ex.kd = 6 ↔ e.isNull = true := by
  cases e <;> simp [Tr.ex, Ex.kd, Tr.isNull]
theorem Q7h (t : Tr) (hw : t.wf) (E : List AV) (hE : E = exA t.ex) (σ : Sg) : VCalls Tryz.prog 50 [.agg E] σ (fun x σ' => x = .i t.lvl ∧ σ' = σ) := by
  subst hE
  cases t with
  | val v =>
    rw [ex_val]
    (refine vfun (fun _ => .ro) Q0h Tryz.func50 (by kernel_rfl) ?_; simp only [Q0f, Tryz.f50, zv])
    (have zz := Bx.mk (j9 ui0 ui3 ui4 ui9 ui22 ui23 ui24 ui25 ui26); (repeat' (first | with_reducible rfl | exact trivial | (with_reducible first | apply And.intro | apply Q0a | apply Q0b | refine Q0c (by decide +kernel) ?_ | intro _) | refine zaY zz.out ?_ | ((first | (refine Q0d (by exact Go.V.zK) ?_) | (refine Q0e (by exact Go.V.zK) ?_)); (try refine zsY zz.out ?_)) | refine zo ?_ | omega | refine ztY zz.out ?_ | fail)); try (all_goals clear zz))
    all_goals exact ⟨_, .refl _, rfl, rfl⟩
  | col t n =>
    rw [ex_col]
    (refine vfun (fun _ => .ro) Q0h Tryz.func50 (by kernel_rfl) ?_; simp only [Q0f, Tryz.f50, zv])
    (have zz := Bx.mk (j9 ui0 ui3 ui4 ui9 ui22 ui23 ui24 ui25 ui26); (repeat' (first | with_reducible rfl | exact trivial | (with_reducible first | apply And.intro | apply Q0a | apply Q0b | refine Q0c (by decide +kernel) ?_ | intro _) | refine zaY zz.out ?_ | ((first | (refine Q0d (by exact Go.V.zK) ?_) | (refine Q0e (by exact Go.V.zK) ?_)); (try refine zsY zz.out ?_)) | refine zo ?_ | omega | refine ztY zz.out ?_ | fail)); try (all_goals clear zz))
    all_goals exact ⟨_, .refl _, rfl, rfl⟩
  | neg e =>
    rw [ex_neg]
    (refine vfun (fun _ => .ro) Q0h Tryz.func50 (by kernel_rfl) ?_; simp only [Q0f, Tryz.f50, zv])
    (have zz := Bx.mk (j9 ui0 ui3 ui4 ui9 ui22 ui23 ui24 ui25 ui26); (repeat' (first | with_reducible rfl | exact trivial | (with_reducible first | apply And.intro | apply Q0a | apply Q0b | refine Q0c (by decide +kernel) ?_ | intro _) | refine zaY zz.out ?_ | ((first | (refine Q0d (by exact Go.V.zK) ?_) | (refine Q0e (by exact Go.V.zK) ?_)); (try refine zsY zz.out ?_)) | refine zo ?_ | omega | refine ztY zz.out ?_ | fail)); try (all_goals clear zz))
    all_goals exact ⟨_, .refl _, rfl, rfl⟩
  | null e =>
    rw [ex_null]
    (refine vfun (fun _ => .ro) Q0h Tryz.func50 (by kernel_rfl) ?_; simp only [Q0f, Tryz.f50, zv])
    (have zz := Bx.mk (j9 ui0 ui3 ui4 ui9 ui22 ui23 ui24 ui25 ui26); (repeat' (first | with_reducible rfl | exact trivial | (with_reducible first | apply And.intro | apply Q0a | apply Q0b | refine Q0c (by decide +kernel) ?_ | intro _) | refine zaY zz.out ?_ | ((first | (refine Q0d (by exact Go.V.zK) ?_) | (refine Q0e (by exact Go.V.zK) ?_)); (try refine zsY zz.out ?_)) | refine zo ?_ | omega | refine ztY zz.out ?_ | fail)); try (all_goals clear zz))
    all_goals exact ⟨_, .refl _, rfl, rfl⟩
  | not e =>
    rw [ex_not]
    have hk := kd_null e
    obtain ⟨op, t, n, v, l, h⟩ := ex_form e.ex
    rw [h]
    cases he : e.isNull with
    | false =>
      rw [Y0g he]
      have hk : ¬ e.ex.kd = 6 := fun h => by rw [hk.1 h] at he; cases he
      (refine vfun (fun _ => .ro) Q0h Tryz.func50 (by kernel_rfl) ?_; simp only [Q0f, Tryz.f50, zv])
      (have zz := Bx.mk (j2 ui0 (j9 ui3 ui4 ui9 ui22 ui23 ui24 ui25 ui26 hk)); (repeat' (first | with_reducible rfl | exact trivial | (with_reducible first | apply And.intro | apply Q0a | apply Q0b | refine Q0c (by decide +kernel) ?_ | intro _) | refine zaY zz.out ?_ | ((first | (refine Q0d (by exact Go.V.zK) ?_) | (refine Q0e (by exact Go.V.zK) ?_)); (try refine zsY zz.out ?_)) | refine zo ?_ | omega | refine ztY zz.out ?_ | fail)); try (all_goals clear zz))
      all_goals exact ⟨_, .refl _, rfl, rfl⟩
    | true =>
      have hl : (Tr.not e).lvl = 4 := by cases e <;> first | (cases he; done) | rfl
      rw [hl, hk.2 he]
      (refine vfun (fun _ => .ro) Q0h Tryz.func50 (by kernel_rfl) ?_; simp only [Q0f, Tryz.f50, zv])
      (have zz := Bx.mk (j9 ui0 ui3 ui4 ui9 ui22 ui23 ui24 ui25 ui26); (repeat' (first | with_reducible rfl | exact trivial | (with_reducible first | apply And.intro | apply Q0a | apply Q0b | refine Q0c (by decide +kernel) ?_ | intro _) | refine zaY zz.out ?_ | ((first | (refine Q0d (by exact Go.V.zK) ?_) | (refine Q0e (by exact Go.V.zK) ?_)); (try refine zsY zz.out ?_)) | refine zo ?_ | omega | refine ztY zz.out ?_ | fail)); try (all_goals clear zz))
      all_goals exact ⟨_, .refl _, rfl, rfl⟩
  | op k a b =>
    rw [ex_op]
    have hk := hw.1
    (refine vfun (fun _ => .ro) Q0h Tryz.func50 (by kernel_rfl) ?_; simp only [Q0f, Tryz.f50, zv])
    (have zz := Bx.mk (j9 ui0 ui3 ui4 ui9 ui22 ui23 ui24 ui25 ui26); (repeat' (first | with_reducible rfl | exact trivial | (with_reducible first | apply And.intro | apply Q0a | apply Q0b | refine Q0c (by decide +kernel) ?_ | intro _) | refine zaY zz.out ?_ | ((first | (refine Q0d (by exact Go.V.zK) ?_) | (refine Q0e (by exact Go.V.zK) ?_)); (try refine zsY zz.out ?_)) | refine zo ?_ | omega | refine ztY zz.out ?_ | fail)); try (all_goals clear zz))
    all_goals (refine ⟨_, .refl _, i_eq ?_, rfl⟩; show _ = ((lvK k : Nat) : Int); rcases (by omega : k = 1 ∨ k = 2 ∨ k = 3 ∨ k = 4 ∨ k = 5 ∨ k = 6 ∨ k = 7 ∨ k = 8 ∨ k = 9 ∨ k = 10 ∨ k = 11 ∨ k = 12 ∨ k = 13) with rfl | rfl | rfl | rfl | rfl | rfl | rfl | rfl | rfl | rfl | rfl | rfl | rfl <;> first | rfl | (exfalso; omega))
theorem w_ops (σ : Sg) : VCalls Tryz.prog 51 [] σ (fun x σ' => x = .sl .full (strs ops) ∧ σ' = σ) := by
  (refine vfun (fun _ => .no) Q0h Tryz.func51 (by kernel_rfl) ?_; simp only [Q0f, Tryz.f51, zv])
  (have zz := Bx.mk (j2 ui9 ui75); (repeat' (first | with_reducible rfl | exact trivial | (with_reducible first | apply And.intro | apply Q0a | apply Q0b | refine Q0c (by decide +kernel) ?_ | intro _) | refine zaY zz.out ?_ | ((first | (refine Q0d (by exact Go.V.zK) ?_) | (refine Q0e (by exact Go.V.zK) ?_)); (try refine zsY zz.out ?_)) | refine zo ?_ | omega | refine ztY zz.out ?_ | fail)); try (all_goals clear zz))
  all_goals exact ⟨_, .refl _, rfl, rfl⟩
theorem Q2s (s : By) (σ : Sg) : VCalls Tryz.prog 42 [.s (bs s)] σ (fun x σ' => x = .b (isNm s) ∧ σ' = σ) := by
  unfold isNm
  by_cases hs : s.length ≤ 16
  · have hrow := t69 s 101 [] Q2a σ (by omega) (fun c => t73 c σ)
    (refine vfun (fun _ => .no) Q0h Tryz.func42 (by kernel_rfl) ?_; simp only [Q0f, Tryz.f42, zv])
    (have zz := Bx.mk (j5 ui3 ui4 ui5 ui9 ui122); (repeat' (first | with_reducible rfl | exact trivial | (with_reducible first | apply And.intro | apply Q0a | apply Q0b | refine Q0c (by decide +kernel) ?_ | intro _) | refine zaY zz.out ?_ | ((first | (with_reducible refine uc (hrow) ?_) | (with_reducible refine uc (t72 _ _) ?_) | (refine Q0d (by exact Go.V.zK) ?_) | (refine Q0e (by exact Go.V.zK) ?_)); (try refine zsY zz.out ?_)) | refine zo ?_ | omega | refine ztY zz.out ?_ | fail)); try (all_goals clear zz))
    all_goals first | exact List.length_pos_iff.2 ‹_› | exact ⟨_, .refl _, b_eq (by simp_all <;> omega), rfl⟩
  · (refine vfun (fun _ => .no) Q0h Tryz.func42 (by kernel_rfl) ?_; simp only [Q0f, Tryz.f42, zv])
    (have zz := Bx.mk (j5 ui3 ui4 ui5 ui9 ui122); (repeat' (first | with_reducible rfl | exact trivial | (with_reducible first | apply And.intro | apply Q0a | apply Q0b | refine Q0c (by decide +kernel) ?_ | intro _) | refine zaY zz.out ?_ | ((first | (with_reducible refine uc (t72 _ _) ?_) | (refine Q0d (by exact Go.V.zK) ?_) | (refine Q0e (by exact Go.V.zK) ?_)); (try refine zsY zz.out ?_)) | refine zo ?_ | omega | refine ztY zz.out ?_ | fail)); try (all_goals clear zz))
    all_goals first | exact List.length_pos_iff.2 ‹_› | exact ⟨_, .refl _, b_eq (by simp_all <;> omega), rfl⟩ | (exfalso; omega)
theorem Q6x (v : Vl) (σ : Sg) : VCalls Tryz.prog 41 [.agg [.i v.1, .i v.2.1, .s (bs v.2.2)]] σ (fun x σ' => x = .b (okV v) ∧ σ' = σ) := by
  obtain ⟨k, n, t⟩ := v
  have h5 := e5 k n t
  unfold okV
  simp only
  generalize X5m k n t = R at *
  (refine vfun (fun _ => .ro) Q0h Tryz.func41 (by kernel_rfl) ?_; simp only [Q0f, Tryz.f41, zv])
  (have zz := Bx.mk (j7 ui0 ui3 ui4 ui9 ui22 ui23 ui30); (repeat' (first | with_reducible rfl | exact trivial | (with_reducible first | apply And.intro | apply Q0a | apply Q0b | refine Q0c (by decide +kernel) ?_ | intro _) | refine zaY zz.out ?_ | ((first | (with_reducible refine uc (h5 _) ?_) | (with_reducible refine uc (e5 _ _ _ _) ?_) | (refine Q0d (by exact Go.V.zK) ?_) | (refine Q0e (by exact Go.V.zK) ?_)); (try refine zsY zz.out ?_)) | refine zo ?_ | omega | refine ztY zz.out ?_ | fail)); try (all_goals clear zz))
  all_goals exact ⟨_, .refl _, b_eq (by simp_all <;> omega), rfl⟩
theorem rts_any : ∀ l : List Ex, rts l = !(l.any fun e => !rt e)
  | [] => by rw [Q5s]; rfl
  | e :: r => by rw [Q3d, rts_any r, List.any_cons]; cases rt e <;> simp
theorem exsA_get' {l : List Ex} {k : Nat} (h : k < l.length) : (exsA l).getD k [] = exA l[k] := by
  induction l generalizing k with
  | nil => simp at h
  | cons e r ih =>
    rw [Q2n]
    cases k with
    | zero => rfl
    | succ k => exact ih (by simpa using h)
theorem r_index (l : List Ex) (f : FuncId) (p : Ex → Bool) (o : Own) (hl : l.length ≤ 9223372036854775807) (h : ∀ e ∈ l, ∀ σ, VCalls Tryz.prog f [.agg (exA e)] σ (fun x σ' => x = .b (p e) ∧ σ' = σ)) (σ : Sg) :
    VCalls Tryz.prog 102 [.sl o (exsA l), .fn f []] σ (fun x σ' => ∃ n : Int, (0 ≤ n ↔ l.any p = true) ∧ x = .i n ∧ σ' = σ) := by
  have hn := Q2l l
  (refine vfun (fun _ => .no) Q0h Tryz.func102 (by kernel_rfl) ?_; simp only [Q0f, Tryz.f102, zv])
  (have zz := Bx.mk (j3 ui0 ui3 (j9 ui4 ui9 ui22 ui23 ui24 ui25 ui26 ui34 hn)); (repeat' (first | with_reducible rfl | exact trivial | (with_reducible first | apply And.intro | apply Q0a | apply Q0b | refine Q0c (by decide +kernel) ?_ | intro _) | refine zaY zz.out ?_ | ((first | (refine Q0d (by exact Go.V.zK) ?_) | (refine Q0e (by exact Go.V.zK) ?_)); (try refine zsY zz.out ?_)) | refine zo ?_ | omega | refine ztY zz.out ?_ | fail)); try (all_goals clear zz))
  refine VW.loop3 (0 : Nat) () () (fun k _ _ => k ≤ l.length ∧ ∀ j (hj : j < l.length), j < k → p l[j] = false) (fun k _ _ => [(0, .sl o (exsA l)), (1, .fn f []), (6, .sl o (exsA l)), (7, .i l.length), (8, .i k)]) (fun _ _ _ => σ) (fun k _ _ => l.length - k) ⟨Nat.zero_le _, fun j hj h => by omega⟩ (.refl _) ?_ ?_
  · simp only [vO, vQ, ↓vP, vE, vS, vB, vL, vF, vM, vN, Q0g, zb, zc, zd, ne_eq, not_false_eq_true, ze, zf, zj, zk, vT]
    all_goals rfl
  rintro k _ _ ⟨hk, hp⟩
  rcases Nat.lt_or_ge k l.length with hk2 | hk2
  · have hg := exsA_get' hk2
    have hc := h l[k] (List.getElem_mem hk2)
    have hel := Q0u l[k]
    have het := Q0t l[k]
    have hpk : p l[k] = true → l.any p = true := fun hh => List.any_eq_true.2 ⟨_, List.getElem_mem hk2, hh⟩
    have hpn : p l[k] = false → ∀ j (hj : j < l.length), j < k + 1 → p l[j] = false := fun hh j hj hjk => by
      rcases Nat.lt_or_ge j k with h' | h'
      · exact hp j hj h'
      · have : j = k := by omega
        subst this; exact hh
    generalize p l[k] = b at *
    generalize exA l[k] = E at *
    (have zz := Bx.mk (j6 ui0 ui3 ui4 ui9 ui22 (j9 ui23 ui24 ui25 ui26 ui34 hn hg hel het)); (repeat' (first | with_reducible rfl | exact trivial | (with_reducible first | apply And.intro | apply Q0a | apply Q0b | refine Q0c (by decide +kernel) ?_ | intro _) | refine zaY zz.out ?_ | ((first | (with_reducible refine uc (hc _) ?_) | (refine Q0d (by exact Go.V.zK) ?_) | (refine Q0e (by exact Go.V.zK) ?_)); (try refine zsY zz.out ?_)) | refine zo ?_ | omega | refine ztY zz.out ?_ | fail)); try (all_goals clear zz))
    · exact ⟨_, .refl _, k, ⟨fun _ => hpk ‹_›, fun _ => by omega⟩, rfl, rfl⟩
    · exact ⟨k + 1, (), (), ⟨⟨hk2, hpn (by simpa using ‹¬ b = true›)⟩, by omega⟩, .refl _, rfl⟩
  · (have zz := Bx.mk (j3 ui0 ui3 (j9 ui4 ui9 ui22 ui23 ui24 ui25 ui26 ui34 hn)); (repeat' (first | with_reducible rfl | exact trivial | (with_reducible first | apply And.intro | apply Q0a | apply Q0b | refine Q0c (by decide +kernel) ?_ | intro _) | refine zaY zz.out ?_ | ((first | (refine Q0d (by exact Go.V.zK) ?_) | (refine Q0e (by exact Go.V.zK) ?_)); (try refine zsY zz.out ?_)) | refine zo ?_ | omega | refine ztY zz.out ?_ | fail)); try (all_goals clear zz))
    refine ⟨σ, .refl σ, -1, ?_, rfl, rfl⟩
    refine ⟨fun h => by omega, fun h => ?_⟩
    obtain ⟨e, he, hpe⟩ := List.any_eq_true.1 h
    obtain ⟨j, hj, rfl⟩ := List.getElem_of_mem he
    rw [hp j hj (by omega)] at hpe
    cases hpe
theorem X4y (l : List Ex) (f : FuncId) (p : Ex → Bool) (o : Own) (hl : l.length ≤ 9223372036854775807) (h : ∀ e ∈ l, ∀ σ, VCalls Tryz.prog f [.agg (exA e)] σ (fun x σ' => x = .b (p e) ∧ σ' = σ)) (σ : Sg) :
    VCalls Tryz.prog 43 [.sl o (exsA l), .fn f []] σ (fun x σ' => x = .b (l.any p) ∧ σ' = σ) := by
  have hi := r_index l f p o hl h
  generalize l.any p = b at *
  (refine vfun (fun _ => .no) Q0h Tryz.func43 (by kernel_rfl) ?_; simp only [Q0f, Tryz.f43, zv])
  (have zz := Bx.mk (j9 ui3 ui4 ui9 ui22 ui23 ui24 ui25 ui26 ui34); (repeat' (first | with_reducible rfl | exact trivial | (with_reducible first | apply And.intro | apply Q0a | apply Q0b | refine Q0c (by decide +kernel) ?_ | intro _) | refine zaY zz.out ?_ | ((first | ((with_reducible refine zR (hi _) ?_); rintro _ S ⟨n, hn, rfl, rfl⟩) | (refine Q0d (by exact Go.V.zK) ?_) | (refine Q0e (by exact Go.V.zK) ?_)); (try refine zsY zz.out ?_)) | refine zo ?_ | omega | refine ztY zz.out ?_ | fail)); try (all_goals clear zz))
  all_goals exact ⟨_, .refl _, b_eq (by simpa using hn), rfl⟩
theorem r_wrong (e : Ex) (h : ∀ σ, VCalls Tryz.prog 20 [.agg (exA e)] σ (fun x σ' => x = .b (rt e) ∧ σ' = σ)) (σ : Sg) : VCalls Tryz.prog 44 [.agg (exA e)] σ (fun x σ' => x = .b (!rt e) ∧ σ' = σ) := by
  have hel := Q0u e
  have het := Q0t e
  generalize exA e = E at *
  generalize rt e = b at *
  (refine vfun (fun _ => .ro) Q0h Tryz.func44 (by kernel_rfl) ?_; simp only [Q0f, Tryz.f44, zv])
  (have zz := Bx.mk (j3 ui0 ui3 (j9 ui4 ui9 ui22 ui23 ui24 ui25 ui26 hel het)); (repeat' (first | with_reducible rfl | exact trivial | (with_reducible first | apply And.intro | apply Q0a | apply Q0b | refine Q0c (by decide +kernel) ?_ | intro _) | refine zaY zz.out ?_ | ((first | (with_reducible refine uc (h _) ?_) | (with_reducible refine uc (Q9m _ (by assumption) _) ?_) | (refine Q0d (by exact Go.V.zK) ?_) | (refine Q0e (by exact Go.V.zK) ?_)); (try refine zsY zz.out ?_)) | refine zo ?_ | omega | refine ztY zz.out ?_ | fail)); try (all_goals clear zz))
  all_goals first | exact ⟨_, .refl _, rfl⟩ | exact ⟨_, .refl _, rfl, rfl⟩
theorem Q9m (e : Ex) (hL : Lim e) : ∀ σ, VCalls Tryz.prog 20 [.agg (exA e)] σ (fun x σ' => x = .b (rt e) ∧ σ' = σ) := by
  induction hL with
  | mk k op t n v l hl hr hall ih =>
    intro σ
    have hcon := X4y l 44 (fun e => !rt e) .any (by omega) (fun e he σ => r_wrong e (ih e he) σ)
    have hra := rts_any l
    rw [Q6v, Y0f]
    have hn := Q2l l
    clear hr hall ih
    have hwr := Q6x v
    generalize (l.any fun e => !rt e) = b at *
    rw [hra]
    generalize exsA l = LL at *
    unfold rtN
    generalize hov : okV v = ov at *
    obtain ⟨v1, v2, v3⟩ := v
    simp only at hwr
    by_cases h1 : k = 1
    · subst h1
      (refine vfun (fun k => if k = 1 then .ro else .no) Q0h Tryz.func20 (by kernel_rfl) ?_; simp only [Q0f, Tryz.f20, zv])
      (have zz := Bx.mk (j4 ui0 ui3 ui4 (j9 ui9 ui22 ui23 ui24 ui25 ui26 ui34 hn @eq23)); (repeat' (first | with_reducible rfl | exact trivial | (with_reducible first | apply And.intro | apply Q0a | apply Q0b | refine Q0c (by decide +kernel) ?_ | intro _) | ((with_reducible refine .dms (fun x => False) [(0, false), (1, false), (2, false), (3, false), (4, false), (5, true), (6, true), (7, true), (8, true)] (by decide) (by decide +kernel) ?_); (refine zsR zz.out ?_)) | ((with_reducible refine .dm (fun x => False) [(0, false), (1, false), (2, false), (3, false), (4, false), (5, true), (6, true), (7, true), (8, true)] (by decide) (by decide +kernel) ?_); (refine zsR zz.out ?_)) | refine zaR zz.out ?_ | refine zkN zz.out ?_ | ((first | (refine Q0j (by intro β h; first | (rcases h with h | h <;> subst h <;> (simp (disch := first | assumption | (apply zM; assumption; assumption) | (apply zP; assumption; assumption; (intro e; cases e; done)) | omega) only [zm, zn, zp, zq, zr])) | (subst h; (simp (disch := first | assumption | (apply zM; assumption; assumption) | (apply zP; assumption; assumption; (intro e; cases e; done)) | omega) only [zm, zn, zp, zq, zr]))) ?_) | (with_reducible refine uc (hwr _) ?_) | (with_reducible refine uc (hcon _) ?_) | (with_reducible refine uc (Q6x _ _) ?_) | (with_reducible refine uc (Q2s _ _) ?_) | (refine Q0d (by exact Go.V.zK) ?_) | (refine Q0e (by exact Go.V.zK) ?_)); (try refine zsR zz.out ?_)) | refine zmR zz.out ?_ | refine zo ?_ | omega | refine ztR zz.out ?_ | fail)); try (all_goals clear zz))
      all_goals exact ⟨σ, (by (exact Go.V.zu)), b_eq (by simp_all <;> omega), rfl⟩
    by_cases h2 : k = 2
    · subst h2
      rw [if_neg h1]
      have hnn : isNm [] = false := rfl
      generalize hq1 : isNm n = bn at *
      generalize hq2 : isNm t = bt at *
      have hN1 : ∀ σ, VCalls Tryz.prog 42 [.s (bs n)] σ (fun x σ' => x = .b bn ∧ σ' = σ) := fun σ => by rw [← hq1]; exact Q2s n σ
      have hN2 : ∀ σ, VCalls Tryz.prog 42 [.s (bs t)] σ (fun x σ' => x = .b bt ∧ σ' = σ) := fun σ => by rw [← hq2]; exact Q2s t σ
      (refine vfun (fun k => if k = 1 then .ro else .no) Q0h Tryz.func20 (by kernel_rfl) ?_; simp only [Q0f, Tryz.f20, zv])
      (have zz := Bx.mk (j4 ui0 ui3 ui4 (j9 ui9 ui22 ui23 ui24 ui25 ui26 ui34 hn @eq23)); (repeat' (first | with_reducible rfl | exact trivial | (with_reducible first | apply And.intro | apply Q0a | apply Q0b | refine Q0c (by decide +kernel) ?_ | intro _) | ((with_reducible refine .dms (fun x => False) [(0, false), (1, false), (2, false), (3, false), (4, false), (5, true), (6, true), (7, true), (8, true)] (by decide) (by decide +kernel) ?_); (refine zsR zz.out ?_)) | ((with_reducible refine .dm (fun x => False) [(0, false), (1, false), (2, false), (3, false), (4, false), (5, true), (6, true), (7, true), (8, true)] (by decide) (by decide +kernel) ?_); (refine zsR zz.out ?_)) | refine zaR zz.out ?_ | refine zkN zz.out ?_ | ((first | (refine Q0j (by intro β h; first | (rcases h with h | h <;> subst h <;> (simp (disch := first | assumption | (apply zM; assumption; assumption) | (apply zP; assumption; assumption; (intro e; cases e; done)) | omega) only [zm, zn, zp, zq, zr])) | (subst h; (simp (disch := first | assumption | (apply zM; assumption; assumption) | (apply zP; assumption; assumption; (intro e; cases e; done)) | omega) only [zm, zn, zp, zq, zr]))) ?_) | (with_reducible refine uc (hN1 _) ?_) | (with_reducible refine uc (hN2 _) ?_) | (with_reducible refine uc (hcon _) ?_) | (with_reducible refine uc (Q6x _ _) ?_) | (with_reducible refine uc (Q2s _ _) ?_) | (refine Q0d (by exact Go.V.zK) ?_) | (refine Q0e (by exact Go.V.zK) ?_)); (try refine zsR zz.out ?_)) | refine zmR zz.out ?_ | refine zo ?_ | omega | refine ztR zz.out ?_ | fail)); try (all_goals clear zz))
      all_goals exact ⟨σ, (by (exact Go.V.zu)), b_eq (by simp_all <;> omega), rfl⟩
    by_cases h3 : k = 3
    · subst h3
      rw [if_neg h1, if_neg h2]
      (refine vfun (fun k => if k = 1 then .ro else .no) Q0h Tryz.func20 (by kernel_rfl) ?_; simp only [Q0f, Tryz.f20, zv])
      (have zz := Bx.mk (j4 ui0 ui3 ui4 (j9 ui9 ui22 ui23 ui24 ui25 ui26 ui34 hn @eq23)); (repeat' (first | with_reducible rfl | exact trivial | (with_reducible first | apply And.intro | apply Q0a | apply Q0b | refine Q0c (by decide +kernel) ?_ | intro _) | ((with_reducible refine .dms (fun x => False) [(0, false), (1, false), (2, false), (3, false), (4, false), (5, true), (6, true), (7, true), (8, true)] (by decide) (by decide +kernel) ?_); (refine zsR zz.out ?_)) | ((with_reducible refine .dm (fun x => False) [(0, false), (1, false), (2, false), (3, false), (4, false), (5, true), (6, true), (7, true), (8, true)] (by decide) (by decide +kernel) ?_); (refine zsR zz.out ?_)) | refine zaR zz.out ?_ | refine zkN zz.out ?_ | ((first | (refine Q0j (by intro β h; first | (rcases h with h | h <;> subst h <;> (simp (disch := first | assumption | (apply zM; assumption; assumption) | (apply zP; assumption; assumption; (intro e; cases e; done)) | omega) only [zm, zn, zp, zq, zr])) | (subst h; (simp (disch := first | assumption | (apply zM; assumption; assumption) | (apply zP; assumption; assumption; (intro e; cases e; done)) | omega) only [zm, zn, zp, zq, zr]))) ?_) | (with_reducible refine uc (hcon _) ?_) | (with_reducible refine uc (Q6x _ _) ?_) | (with_reducible refine uc (Q2s _ _) ?_) | (refine Q0d (by exact Go.V.zK) ?_) | (refine Q0e (by exact Go.V.zK) ?_)); (try refine zsR zz.out ?_)) | refine zmR zz.out ?_ | refine zo ?_ | omega | refine ztR zz.out ?_ | fail)); try (all_goals clear zz))
      all_goals exact ⟨σ, (by (exact Go.V.zu)), b_eq (by simp_all <;> omega), rfl⟩
    by_cases h4 : k = 4 ∨ k = 5 ∨ k = 6
    · rw [if_neg h1, if_neg h2, if_neg h3, if_pos h4]
      (refine vfun (fun k => if k = 1 then .ro else .no) Q0h Tryz.func20 (by kernel_rfl) ?_; simp only [Q0f, Tryz.f20, zv])
      (have zz := Bx.mk (j4 ui0 ui3 ui4 (j9 ui9 ui22 ui23 ui24 ui25 ui26 ui34 hn @eq23)); (repeat' (first | with_reducible rfl | exact trivial | (with_reducible first | apply And.intro | apply Q0a | apply Q0b | refine Q0c (by decide +kernel) ?_ | intro _) | ((with_reducible refine .dms (fun x => False) [(0, false), (1, false), (2, false), (3, false), (4, false), (5, true), (6, true), (7, true), (8, true)] (by decide) (by decide +kernel) ?_); (refine zsR zz.out ?_)) | ((with_reducible refine .dm (fun x => False) [(0, false), (1, false), (2, false), (3, false), (4, false), (5, true), (6, true), (7, true), (8, true)] (by decide) (by decide +kernel) ?_); (refine zsR zz.out ?_)) | refine zaR zz.out ?_ | refine zkN zz.out ?_ | ((first | (refine Q0j (by intro β h; first | (rcases h with h | h <;> subst h <;> (simp (disch := first | assumption | (apply zM; assumption; assumption) | (apply zP; assumption; assumption; (intro e; cases e; done)) | omega) only [zm, zn, zp, zq, zr])) | (subst h; (simp (disch := first | assumption | (apply zM; assumption; assumption) | (apply zP; assumption; assumption; (intro e; cases e; done)) | omega) only [zm, zn, zp, zq, zr]))) ?_) | (with_reducible refine uc (hcon _) ?_) | (with_reducible refine uc (Q6x _ _) ?_) | (with_reducible refine uc (Q2s _ _) ?_) | (refine Q0d (by exact Go.V.zK) ?_) | (refine Q0e (by exact Go.V.zK) ?_)); (try refine zsR zz.out ?_)) | refine zmR zz.out ?_ | refine zo ?_ | omega | refine ztR zz.out ?_ | fail)); try (all_goals clear zz))
      all_goals exact ⟨σ, (by (exact Go.V.zu)), b_eq (by simp_all <;> omega), rfl⟩
    · rw [if_neg h1, if_neg h2, if_neg h3, if_neg h4]
      (refine vfun (fun k => if k = 1 then .ro else .no) Q0h Tryz.func20 (by kernel_rfl) ?_; simp only [Q0f, Tryz.f20, zv])
      (have zz := Bx.mk (j4 ui0 ui3 ui4 (j9 ui9 ui22 ui23 ui24 ui25 ui26 ui34 hn @eq23)); (repeat' (first | with_reducible rfl | exact trivial | (with_reducible first | apply And.intro | apply Q0a | apply Q0b | refine Q0c (by decide +kernel) ?_ | intro _) | ((with_reducible refine .dms (fun x => False) [(0, false), (1, false), (2, false), (3, false), (4, false), (5, true), (6, true), (7, true), (8, true)] (by decide) (by decide +kernel) ?_); (refine zsR zz.out ?_)) | ((with_reducible refine .dm (fun x => False) [(0, false), (1, false), (2, false), (3, false), (4, false), (5, true), (6, true), (7, true), (8, true)] (by decide) (by decide +kernel) ?_); (refine zsR zz.out ?_)) | refine zaR zz.out ?_ | refine zkN zz.out ?_ | ((first | (refine Q0j (by intro β h; first | (rcases h with h | h <;> subst h <;> (simp (disch := first | assumption | (apply zM; assumption; assumption) | (apply zP; assumption; assumption; (intro e; cases e; done)) | omega) only [zm, zn, zp, zq, zr])) | (subst h; (simp (disch := first | assumption | (apply zM; assumption; assumption) | (apply zP; assumption; assumption; (intro e; cases e; done)) | omega) only [zm, zn, zp, zq, zr]))) ?_) | (with_reducible refine uc (hcon _) ?_) | (with_reducible refine uc (Q6x _ _) ?_) | (with_reducible refine uc (Q2s _ _) ?_) | (refine Q0d (by exact Go.V.zK) ?_) | (refine Q0e (by exact Go.V.zK) ?_)); (try refine zsR zz.out ?_)) | refine zmR zz.out ?_ | refine zo ?_ | omega | refine ztR zz.out ?_ | fail)); try (all_goals clear zz))
      all_goals exact ⟨σ, (by (exact Go.V.zu)), b_eq (by simp_all <;> omega), rfl⟩
def LimL (l : List Ex) : Prop := l.length ≤ 9223372036854775807 ∧ ∀ e ∈ l, Lim e
theorem Q8k (l : List Ex) (hL : LimL l) (σ : Sg) : VCalls Tryz.prog 58 [.sl .any (exsA l)] σ (fun x σ' => x = .b (oneB l) ∧ σ' = σ) := by
  have hc := X4y l 44 (fun e => !rt e) .any hL.1 (fun e he σ => r_wrong e (Q9m e (hL.2 e he)) σ)
  have hn := Q2l l
  unfold oneB
  rw [rts_any]
  generalize (l.any fun e => !rt e) = b at *
  generalize exsA l = L at *
  (refine vfun (fun _ => .no) Q0h Tryz.func58 (by kernel_rfl) ?_; simp only [Q0f, Tryz.f58, zv])
  (have zz := Bx.mk (j2 ui3 (j9 ui4 ui9 ui22 ui23 ui24 ui25 ui26 ui34 hn)); (repeat' (first | with_reducible rfl | exact trivial | (with_reducible first | apply And.intro | apply Q0a | apply Q0b | refine Q0c (by decide +kernel) ?_ | intro _) | refine zaY zz.out ?_ | ((first | (with_reducible refine uc (hc _) ?_) | (refine Q0d (by exact Go.V.zK) ?_) | (refine Q0e (by exact Go.V.zK) ?_)); (try refine zsY zz.out ?_)) | refine zo ?_ | omega | refine ztY zz.out ?_ | fail)); try (all_goals clear zz))
  all_goals exact ⟨_, .refl _, b_eq (by simp_all <;> omega), rfl⟩
theorem Y1a (l : List Ex) (hL : LimL l) (σ : Sg) : VCalls Tryz.prog 119 [.sl .any (exsA l)] σ (fun x σ' => x = .b (colB l) ∧ σ' = σ) := by
  have hc := Q8k l hL
  unfold colB
  cases l with
  | nil =>
    have h1 : oneB [] = true := by unfold oneB; rw [Q5s]; rfl
    rw [h1, Q0s] at hc
    rw [h1, Q0s]
    (refine vfun (fun _ => .no) Q0h Tryz.func119 (by kernel_rfl) ?_; simp only [Q0f, Tryz.f119, zv])
    (have zz := Bx.mk (j9 ui0 ui3 ui4 ui9 ui22 ui23 ui24 ui25 ui26); (repeat' (first | with_reducible rfl | exact trivial | (with_reducible first | apply And.intro | apply Q0a | apply Q0b | refine Q0c (by decide +kernel) ?_ | intro _) | refine zaY zz.out ?_ | ((first | (with_reducible refine uc (hc _) ?_) | (with_reducible refine uc (Q8k _ (by assumption) _) ?_) | (refine Q0d (by exact Go.V.zK) ?_) | (refine Q0e (by exact Go.V.zK) ?_)); (try refine zsY zz.out ?_)) | refine zo ?_ | omega | refine ztY zz.out ?_ | fail)); try (all_goals clear zz))
    all_goals first | exact ⟨_, .refl _, rfl⟩ | exact ⟨_, .refl _, rfl, rfl⟩
  | cons e r =>
    have hn : (exsA (e :: r)).length = r.length + 1 := by rw [Q2l]; rfl
    have hg : (exsA (e :: r)).getD 0 [] = exA e := by rw [Q2n]; rfl
    have hall := exsA_all (e :: r)
    obtain ⟨k, op, t, n, v, l2⟩ := e
    rw [Q6v] at hg
    generalize oneB (Ex.mk k op t n v l2 :: r) = b at *
    generalize exsA (Ex.mk k op t n v l2 :: r) = L at *
    have hk : (Ex.mk k op t n v l2).kd = k := rfl
    simp only [hk]
    cases b with
    | false =>
      (refine vfun (fun _ => .no) Q0h Tryz.func119 (by kernel_rfl) ?_; simp only [Q0f, Tryz.f119, zv])
      (have zz := Bx.mk (j4 ui0 ui3 ui4 (j9 ui9 ui22 ui23 ui24 ui25 ui26 hn hg hall)); (repeat' (first | with_reducible rfl | exact trivial | (with_reducible first | apply And.intro | apply Q0a | apply Q0b | refine Q0c (by decide +kernel) ?_ | intro _) | refine zaY zz.out ?_ | ((first | (with_reducible refine uc (hc _) ?_) | (with_reducible refine uc (Q8k _ (by assumption) _) ?_) | (refine Q0d (by exact Go.V.zK) ?_) | (refine Q0e (by exact Go.V.zK) ?_)); (try refine zsY zz.out ?_)) | refine zo ?_ | omega | refine ztY zz.out ?_ | fail)); try (all_goals clear zz))
      all_goals first | exact ⟨_, .refl _, rfl⟩ | exact ⟨_, .refl _, rfl, rfl⟩ | exact ⟨_, .refl _, b_eq (by simp_all <;> omega), rfl⟩
    | true =>
      (refine vfun (fun _ => .no) Q0h Tryz.func119 (by kernel_rfl) ?_; simp only [Q0f, Tryz.f119, zv])
      (have zz := Bx.mk (j4 ui0 ui3 ui4 (j9 ui9 ui22 ui23 ui24 ui25 ui26 hn hg hall)); (repeat' (first | with_reducible rfl | exact trivial | (with_reducible first | apply And.intro | apply Q0a | apply Q0b | refine Q0c (by decide +kernel) ?_ | intro _) | refine zaY zz.out ?_ | ((first | (with_reducible refine uc (hc _) ?_) | (with_reducible refine uc (Q8k _ (by assumption) _) ?_) | (refine Q0d (by exact Go.V.zK) ?_) | (refine Q0e (by exact Go.V.zK) ?_)); (try refine zsY zz.out ?_)) | refine zo ?_ | omega | refine ztY zz.out ?_ | fail)); try (all_goals clear zz))
      all_goals first | exact ⟨_, .refl _, b_eq (by simp_all <;> omega), rfl⟩ | exact ⟨_, .refl _, rfl⟩ | (exfalso; omega)
theorem Q3p (l : List Co) (hl : l.length ≤ 9223372036854775807) (σ : Sg) : VCalls Tryz.prog 59 [.sl .any (l.map coA)] σ (fun x σ' => x = .b (X5u l) ∧ σ' = σ) := by
  have hn : (l.map coA).length = l.length := zA ..
  have hall := Q3z (f := coA) (n := 4) l (fun _ => rfl)
  have hgt := fun k (h : k < l.length) => Q3y (f := coA) h
  unfold X5u
  generalize l.map coA = L at *
  (refine vfun (fun _ => .no) Q0h Tryz.func59 (by kernel_rfl) ?_; simp only [Q0f, Tryz.f59, zv])
  (have zz := Bx.mk (j9 ui0 ui3 ui4 ui9 ui37 Q2c Q2d hn hall); (repeat' (first | with_reducible rfl | exact trivial | (with_reducible first | apply And.intro | apply Q0a | apply Q0b | refine Q0c (by decide +kernel) ?_ | intro _) | refine zaY zz.out ?_ | ((first | (with_reducible refine uc (Q2s _ _) ?_) | (refine Q0d (by exact Go.V.zK) ?_) | (refine Q0e (by exact Go.V.zK) ?_)); (try refine zsY zz.out ?_)) | refine zo ?_ | omega | refine ztY zz.out ?_ | fail)); try (all_goals clear zz))
  refine VW.loop3 (0 : Nat) () () (fun k _ _ => k ≤ l.length ∧ l.all X2x = (l.drop k).all X2x) (fun k _ _ => [(0, .sl .any L), (5, .sl .any L), (6, .i l.length), (7, .i k)]) (fun _ _ _ => σ) (fun k _ _ => l.length - k) ⟨Nat.zero_le _, rfl⟩ (.refl _) ?_ ?_
  · simp only [vO, vQ, ↓vP, vE, vS, vB, vL, vF, vM, vN, Q0g, zb, zc, zd, ne_eq, not_false_eq_true, ze, zf, zj, zk, vT]
    all_goals rfl
  rintro k _ _ ⟨hk, hr⟩
  rcases Nat.lt_or_ge k l.length with hk2 | hk2
  · have hg := hgt k hk2
    have hg2 : coA l[k] = [.s (bs l[k].1), .i l[k].2.1, .b l[k].2.2.1, .b l[k].2.2.2] := rfl
    rw [hg2] at hg
    have hN := Q2s l[k].1
    have hdr : (l.drop k).all X2x = (X2x l[k] && (l.drop (k + 1)).all X2x) := by rw [List.drop_eq_getElem_cons hk2, List.all_cons]
    have hco : X2x l[k] = (isNm l[k].1 && decide (l[k].2.1 = 1 ∨ l[k].2.1 = 2)) := rfl
    clear hg2
    rw [hco] at hdr
    clear hco
    generalize isNm l[k].1 = nb at *
    generalize l[k].1 = va at *
    generalize l[k].2.1 = vb at *
    generalize l[k].2.2.1 = vc at *
    generalize l[k].2.2.2 = vd at *
    rw [hr, hdr]
    (have zz := Bx.mk (j2 ui0 (j9 ui3 ui4 ui9 ui37 Q2c Q2d hn hall hg)); (repeat' (first | with_reducible rfl | exact trivial | (with_reducible first | apply And.intro | apply Q0a | apply Q0b | refine Q0c (by decide +kernel) ?_ | intro _) | refine zaY zz.out ?_ | ((first | (with_reducible refine uc (hN _) ?_) | (with_reducible refine uc (Q2s _ _) ?_) | (refine Q0d (by exact Go.V.zK) ?_) | (refine Q0e (by exact Go.V.zK) ?_)); (try refine zsY zz.out ?_)) | refine zo ?_ | omega | refine ztY zz.out ?_ | fail)); try (all_goals clear zz))
    all_goals first | exact ⟨k + 1, (), (), ⟨⟨hk2, by simp_all⟩, by omega⟩, by (exact Go.V.zu), rfl⟩ | exact ⟨σ, by (exact Go.V.zu), b_eq (by simp_all <;> omega), rfl⟩ | (exfalso; omega)
  · rw [hr, List.drop_of_length_le hk2]
    (have zz := Bx.mk (j9 ui0 ui3 ui4 ui9 ui37 Q2c Q2d hn hall); (repeat' (first | with_reducible rfl | exact trivial | (with_reducible first | apply And.intro | apply Q0a | apply Q0b | refine Q0c (by decide +kernel) ?_ | intro _) | refine zaY zz.out ?_ | ((first | (with_reducible refine uc (Q2s _ _) ?_) | (refine Q0d (by exact Go.V.zK) ?_) | (refine Q0e (by exact Go.V.zK) ?_)); (try refine zsY zz.out ?_)) | refine zo ?_ | omega | refine ztY zz.out ?_ | fail)); try (all_goals clear zz))
    all_goals exact ⟨_, .refl _, b_eq (by simp_all <;> omega), rfl⟩
theorem v_items (l : List It) (hl : l.length ≤ 9223372036854775807) (hL : ∀ x ∈ l, LimL x.2) (σ : Sg) : VCalls Tryz.prog 118 [.sl .any (l.map Q3x)] σ (fun x σ' => x = .b (X0s l) ∧ σ' = σ) := by
  have hn : (l.map Q3x).length = l.length := zA ..
  have hall := Q3z (f := Q3x) (n := 2) l (fun _ => rfl)
  have hgt := fun k (h : k < l.length) => Q3y (f := Q3x) h
  unfold X0s
  generalize l.map Q3x = L at *
  (refine vfun (fun _ => .no) Q0h Tryz.func118 (by kernel_rfl) ?_; simp only [Q0f, Tryz.f118, zv])
  (have zz := Bx.mk (j6 ui0 ui3 ui4 ui9 ui22 (j9 ui23 ui24 ui25 ui26 ui40 ui70 ui71 hn hall)); (repeat' (first | with_reducible rfl | exact trivial | (with_reducible first | apply And.intro | apply Q0a | apply Q0b | refine Q0c (by decide +kernel) ?_ | intro _) | refine zaY zz.out ?_ | ((first | (with_reducible refine uc (Q8k _ (by assumption) _) ?_) | (refine Q0d (by exact Go.V.zK) ?_) | (refine Q0e (by exact Go.V.zK) ?_)); (try refine zsY zz.out ?_)) | refine zo ?_ | omega | refine ztY zz.out ?_ | fail)); try (all_goals clear zz))
  refine VW.loop3 (0 : Nat) () () (fun k _ _ => k ≤ l.length ∧ l.all Q4o = (l.drop k).all Q4o) (fun k _ _ => [(0, .sl .any L), (6, .sl .any L), (7, .i l.length), (8, .i k)]) (fun _ _ _ => σ) (fun k _ _ => l.length - k) ⟨Nat.zero_le _, rfl⟩ (.refl _) ?_ ?_
  · simp only [vO, vQ, ↓vP, vE, vS, vB, vL, vF, vM, vN, Q0g, zb, zc, zd, ne_eq, not_false_eq_true, ze, zf, zj, zk, vT]
    all_goals rfl
  rintro k _ _ ⟨hk, hr⟩
  rcases Nat.lt_or_ge k l.length with hk2 | hk2
  · have hg := hgt k hk2
    have hO := Q8k l[k].2 (hL _ (List.getElem_mem hk2))
    have hn2 := Q2l l[k].2
    have hdr : (l.drop k).all Q4o = (Q4o l[k] && (l.drop (k + 1)).all Q4o) := by rw [List.drop_eq_getElem_cons hk2, List.all_cons]
    have hco : Q4o l[k] = (decide (1 ≤ l[k].1 ∧ l[k].1 ≤ 7) && (decide (l[k].2.length = if l[k].1 = 1 ∨ l[k].1 = 3 then 0 else 1) && rts l[k].2)) := rfl
    have hob : oneB l[k].2 = (decide (l[k].2.length ≤ 1) && rts l[k].2) := rfl
    rw [hco] at hdr
    rw [hob] at hO
    clear hco hob
    unfold Q3x at hg
    generalize rts l[k].2 = rb at *
    generalize l[k].2.length = nl at *
    generalize exsA l[k].2 = EE at *
    generalize l[k].1 = kk at *
    rw [hr, hdr]
    (have zz := Bx.mk (j8 ui0 ui3 ui4 ui9 ui22 ui23 ui24 (j9 ui25 ui26 ui40 ui70 ui71 hn hall hg hn2)); (repeat' (first | with_reducible rfl | exact trivial | (with_reducible first | apply And.intro | apply Q0a | apply Q0b | refine Q0c (by decide +kernel) ?_ | intro _) | refine zaY zz.out ?_ | ((first | (with_reducible refine uc (hO _) ?_) | (with_reducible refine uc (Q8k _ (by assumption) _) ?_) | (refine Q0d (by exact Go.V.zK) ?_) | (refine Q0e (by exact Go.V.zK) ?_)); (try refine zsY zz.out ?_)) | refine zo ?_ | omega | refine ztY zz.out ?_ | fail)); try (all_goals clear zz))
    all_goals first | exact ⟨k + 1, (), (), ⟨⟨hk2, by simp_all <;> omega⟩, by omega⟩, by (exact Go.V.zu), rfl⟩ | exact ⟨σ, by (exact Go.V.zu), b_eq (by simp_all <;> omega), rfl⟩ | (exfalso; omega)
  · rw [hr, List.drop_of_length_le hk2]
    (have zz := Bx.mk (j6 ui0 ui3 ui4 ui9 ui22 (j9 ui23 ui24 ui25 ui26 ui40 ui70 ui71 hn hall)); (repeat' (first | with_reducible rfl | exact trivial | (with_reducible first | apply And.intro | apply Q0a | apply Q0b | refine Q0c (by decide +kernel) ?_ | intro _) | refine zaY zz.out ?_ | ((first | (with_reducible refine uc (Q8k _ (by assumption) _) ?_) | (refine Q0d (by exact Go.V.zK) ?_) | (refine Q0e (by exact Go.V.zK) ?_)); (try refine zsY zz.out ?_)) | refine zo ?_ | omega | refine ztY zz.out ?_ | fail)); try (all_goals clear zz))
    all_goals exact ⟨_, .refl _, b_eq (by simp_all <;> omega), rfl⟩
theorem Q9v (l : List Se) (hl : l.length ≤ 9223372036854775807) (hL : ∀ x ∈ l, Lim x.2) (σ : Sg) : VCalls Tryz.prog 61 [.sl .any (l.map setA)] σ (fun x σ' => x = .b (X5w l) ∧ σ' = σ) := by
  have hn : (l.map setA).length = l.length := zA ..
  have hall := Q3z (f := setA) (n := 9) l (fun x => by simp [setA, Q0u])
  have hgt := fun k (h : k < l.length) => Q3y (f := setA) h
  unfold X5w
  generalize l.map setA = L at *
  (refine vfun (fun _ => .no) Q0h Tryz.func61 (by kernel_rfl) ?_; simp only [Q0f, Tryz.f61, zv])
  (have zz := Bx.mk (j6 ui0 ui3 ui4 ui9 ui22 (j9 ui23 ui24 ui25 ui26 ui39 ui67 ui68 hn hall)); (repeat' (first | with_reducible rfl | exact trivial | (with_reducible first | apply And.intro | apply Q0a | apply Q0b | refine Q0c (by decide +kernel) ?_ | intro _) | refine zaY zz.out ?_ | ((first | (with_reducible refine uc (Q9m _ (by assumption) _) ?_) | (with_reducible refine uc (Q2s _ _) ?_) | (refine Q0d (by exact Go.V.zK) ?_) | (refine Q0e (by exact Go.V.zK) ?_)); (try refine zsY zz.out ?_)) | refine zo ?_ | omega | refine ztY zz.out ?_ | fail)); try (all_goals clear zz))
  refine VW.loop3 (0 : Nat) () () (fun k _ _ => k ≤ l.length ∧ l.all X4w = (l.drop k).all X4w) (fun k _ _ => [(0, .sl .any L), (5, .sl .any L), (6, .i l.length), (7, .i k)]) (fun _ _ _ => σ) (fun k _ _ => l.length - k) ⟨Nat.zero_le _, rfl⟩ (.refl _) ?_ ?_
  · simp only [vO, vQ, ↓vP, vE, vS, vB, vL, vF, vM, vN, Q0g, zb, zc, zd, ne_eq, not_false_eq_true, ze, zf, zj, zk, vT]
    all_goals rfl
  rintro k _ _ ⟨hk, hr⟩
  rcases Nat.lt_or_ge k l.length with hk2 | hk2
  · have hg := hgt k hk2
    have hO := Q9m l[k].2 (hL _ (List.getElem_mem hk2))
    have hN := Q2s l[k].1
    have hFl := Q0u l[k].2
    have hFt := Q0t l[k].2
    have hFd := Q1a l[k].2
    have hFo := Q1n l[k].2
    have hdr : (l.drop k).all X4w = (X4w l[k] && (l.drop (k + 1)).all X4w) := by rw [List.drop_eq_getElem_cons hk2, List.all_cons]
    have hco : X4w l[k] = (isNm l[k].1 && rt l[k].2) := rfl
    rw [hco] at hdr
    clear hco
    unfold setA at hg
    generalize rt l[k].2 = rb at *
    generalize isNm l[k].1 = nb at *
    generalize exA l[k].2 = EE at *
    generalize l[k].1 = kk at *
    rw [hr, hdr]
    (have zz := Bx.mk (j3 ui0 ui3 (j9 ui4 ui9 ui22 ui23 ui24 ui25 ui26 ui39 (j9 ui67 ui68 hn hall hg hFl hFt hFd hFo))); (repeat' (first | with_reducible rfl | exact trivial | (with_reducible first | apply And.intro | apply Q0a | apply Q0b | refine Q0c (by decide +kernel) ?_ | intro _) | refine zaY zz.out ?_ | ((first | (with_reducible refine uc (hO _) ?_) | (with_reducible refine uc (hN _) ?_) | (with_reducible refine uc (Q9m _ (by assumption) _) ?_) | (with_reducible refine uc (Q2s _ _) ?_) | (refine Q0d (by exact Go.V.zK) ?_) | (refine Q0e (by exact Go.V.zK) ?_)); (try refine zsY zz.out ?_)) | refine zo ?_ | omega | refine ztY zz.out ?_ | fail)); try (all_goals clear zz))
    all_goals first | exact ⟨k + 1, (), (), ⟨⟨hk2, by simp_all <;> omega⟩, by omega⟩, by (exact Go.V.zu), rfl⟩ | exact ⟨σ, by (exact Go.V.zu), b_eq (by simp_all <;> omega), rfl⟩ | (exfalso; omega) | trace_state
  · rw [hr, List.drop_of_length_le hk2]
    (have zz := Bx.mk (j6 ui0 ui3 ui4 ui9 ui22 (j9 ui23 ui24 ui25 ui26 ui39 ui67 ui68 hn hall)); (repeat' (first | with_reducible rfl | exact trivial | (with_reducible first | apply And.intro | apply Q0a | apply Q0b | refine Q0c (by decide +kernel) ?_ | intro _) | refine zaY zz.out ?_ | ((first | (with_reducible refine uc (Q9m _ (by assumption) _) ?_) | (with_reducible refine uc (Q2s _ _) ?_) | (refine Q0d (by exact Go.V.zK) ?_) | (refine Q0e (by exact Go.V.zK) ?_)); (try refine zsY zz.out ?_)) | refine zo ?_ | omega | refine ztY zz.out ?_ | fail)); try (all_goals clear zz))
    all_goals exact ⟨_, .refl _, b_eq (by simp_all <;> omega), rfl⟩
theorem v_bad (v : Vl) (σ : Sg) : VCalls Tryz.prog 117 [.agg (valA v)] σ (fun x σ' => x = .b (!okV v) ∧ σ' = σ) := by
  have hw := Q6x v
  unfold valA
  generalize okV v = b at *
  generalize v.1 = v1 at *
  generalize v.2.1 = v2 at *
  generalize v.2.2 = v3 at *
  (refine vfun (fun _ => .ro) Q0h Tryz.func117 (by kernel_rfl) ?_; simp only [Q0f, Tryz.f117, zv])
  (have zz := Bx.mk (j6 ui0 ui3 ui4 ui9 ui22 ui23); (repeat' (first | with_reducible rfl | exact trivial | (with_reducible first | apply And.intro | apply Q0a | apply Q0b | refine Q0c (by decide +kernel) ?_ | intro _) | refine zaY zz.out ?_ | ((first | (with_reducible refine uc (hw _) ?_) | (with_reducible refine uc (Q6x _ _) ?_) | (refine Q0d (by exact Go.V.zK) ?_) | (refine Q0e (by exact Go.V.zK) ?_)); (try refine zsY zz.out ?_)) | refine zo ?_ | omega | refine ztY zz.out ?_ | fail)); try (all_goals clear zz))
  all_goals first | exact ⟨_, .refl _, rfl⟩ | exact ⟨_, .refl _, rfl, rfl⟩
theorem v_index (l : List Vl) (hl : l.length ≤ 9223372036854775807) (σ : Sg) :
    VCalls Tryz.prog 160 [.sl .any (X0w l), .fn 117 []] σ (fun x σ' => ∃ n : Int, (0 ≤ n ↔ l.any (fun v => !okV v) = true) ∧ x = .i n ∧ σ' = σ) := by
  unfold X0w
  have hn : (l.map valA).length = l.length := zA ..
  have hgt := fun k (h : k < l.length) => Q3y (f := valA) h
  have hall := Q3z (f := valA) (n := 3) l (fun _ => rfl)
  generalize l.map valA = L at *
  (refine vfun (fun _ => .no) Q0h Tryz.func160 (by kernel_rfl) ?_; simp only [Q0f, Tryz.f160, zv])
  (have zz := Bx.mk (j2 ui0 (j9 ui3 ui4 ui9 ui22 ui23 ui86 Q1p hn hall)); (repeat' (first | with_reducible rfl | exact trivial | (with_reducible first | apply And.intro | apply Q0a | apply Q0b | refine Q0c (by decide +kernel) ?_ | intro _) | refine zaY zz.out ?_ | ((first | (refine Q0d (by exact Go.V.zK) ?_) | (refine Q0e (by exact Go.V.zK) ?_)); (try refine zsY zz.out ?_)) | refine zo ?_ | omega | refine ztY zz.out ?_ | fail)); try (all_goals clear zz))
  refine VW.loop3 (0 : Nat) () () (fun k _ _ => k ≤ l.length ∧ ∀ j (hj : j < l.length), j < k → okV l[j] = true) (fun k _ _ => [(0, .sl .any L), (1, .fn 117 []), (6, .sl .any L), (7, .i l.length), (8, .i k)]) (fun _ _ _ => σ) (fun k _ _ => l.length - k) ⟨Nat.zero_le _, fun j hj h => by omega⟩ (.refl _) ?_ ?_
  · simp only [vO, vQ, ↓vP, vE, vS, vB, vL, vF, vM, vN, Q0g, zb, zc, zd, ne_eq, not_false_eq_true, ze, zf, zj, zk, vT]
    all_goals rfl
  rintro k _ _ ⟨hk, hp⟩
  rcases Nat.lt_or_ge k l.length with hk2 | hk2
  · have hg := hgt k hk2
    have hc := v_bad l[k]
    have hpk : okV l[k] = false → l.any (fun v => !okV v) = true := fun hh => List.any_eq_true.2 ⟨_, List.getElem_mem hk2, by rw [hh]; rfl⟩
    have hkk : okV l[k] = true → ∀ j (hj : j < l.length), j < k + 1 → okV l[j] = true := fun hh j hj h => by
      rcases Nat.lt_or_ge j k with q | q
      · exact hp j hj q
      · obtain rfl : j = k := by omega
        exact hh
    have hg2 : valA l[k] = [.i l[k].1, .i l[k].2.1, .s (bs l[k].2.2)] := rfl
    rw [hg2] at hg hc
    clear hg2 hp
    generalize okV l[k] = b at *
    generalize l[k].1 = v1 at *
    generalize l[k].2.1 = v2 at *
    generalize l[k].2.2 = v3 at *
    cases b with
    | true =>
      (have zz := Bx.mk (j3 ui0 ui3 (j9 ui4 ui9 ui22 ui23 ui86 Q1p hn hall hg)); (repeat' (first | with_reducible rfl | exact trivial | (with_reducible first | apply And.intro | apply Q0a | apply Q0b | refine Q0c (by decide +kernel) ?_ | intro _) | refine zaY zz.out ?_ | ((first | (with_reducible refine uc (hc _) ?_) | (refine Q0d (by exact Go.V.zK) ?_) | (refine Q0e (by exact Go.V.zK) ?_)); (try refine zsY zz.out ?_)) | refine zo ?_ | omega | refine ztY zz.out ?_ | fail)); try (all_goals clear zz))
      all_goals exact ⟨k + 1, (), (), ⟨⟨hk2, hkk rfl⟩, by omega⟩, .refl _, rfl⟩
    | false =>
      (have zz := Bx.mk (j3 ui0 ui3 (j9 ui4 ui9 ui22 ui23 ui86 Q1p hn hall hg)); (repeat' (first | with_reducible rfl | exact trivial | (with_reducible first | apply And.intro | apply Q0a | apply Q0b | refine Q0c (by decide +kernel) ?_ | intro _) | refine zaY zz.out ?_ | ((first | (with_reducible refine uc (hc _) ?_) | (refine Q0d (by exact Go.V.zK) ?_) | (refine Q0e (by exact Go.V.zK) ?_)); (try refine zsY zz.out ?_)) | refine zo ?_ | omega | refine ztY zz.out ?_ | fail)); try (all_goals clear zz))
      all_goals exact ⟨_, .refl _, k, ⟨fun _ => hpk rfl, fun _ => by omega⟩, rfl, rfl⟩
  · have hno : l.any (fun v => !okV v) = false := by
      rw [List.any_eq_false]
      intro x hx
      obtain ⟨j, hj, rfl⟩ := List.getElem_of_mem hx
      rw [hp j hj (by omega)]; decide
    rw [hno]
    (have zz := Bx.mk (j2 ui0 (j9 ui3 ui4 ui9 ui22 ui23 ui86 Q1p hn hall)); (repeat' (first | with_reducible rfl | exact trivial | (with_reducible first | apply And.intro | apply Q0a | apply Q0b | refine Q0c (by decide +kernel) ?_ | intro _) | refine zaY zz.out ?_ | ((first | (refine Q0d (by exact Go.V.zK) ?_) | (refine Q0e (by exact Go.V.zK) ?_)); (try refine zsY zz.out ?_)) | refine zo ?_ | omega | refine ztY zz.out ?_ | fail)); try (all_goals clear zz))
    all_goals exact ⟨_, .refl _, -1, ⟨fun h => by omega, fun h => by cases h⟩, rfl, rfl⟩
theorem any_not (l : List Vl) : l.any (fun v => !okV v) = !l.all okV := by
  induction l with
  | nil => rfl
  | cons x r ih => rw [List.any_cons, List.all_cons, ih]; cases okV x <;> simp
theorem v_contains (l : List Vl) (hl : l.length ≤ 9223372036854775807) (σ : Sg) :
    VCalls Tryz.prog 116 [.sl .any (X0w l), .fn 117 []] σ (fun x σ' => x = .b (!l.all okV) ∧ σ' = σ) := by
  have hi := v_index l hl
  rw [any_not] at hi
  generalize (!l.all okV) = b at *
  (refine vfun (fun _ => .no) Q0h Tryz.func116 (by kernel_rfl) ?_; simp only [Q0f, Tryz.f116, zv])
  (have zz := Bx.mk (j7 ui3 ui4 ui9 ui22 ui23 ui86 Q1p); (repeat' (first | with_reducible rfl | exact trivial | (with_reducible first | apply And.intro | apply Q0a | apply Q0b | refine Q0c (by decide +kernel) ?_ | intro _) | refine zaY zz.out ?_ | ((first | ((with_reducible refine zR (hi _) ?_); rintro _ S ⟨n, hn, rfl, rfl⟩) | (refine Q0d (by exact Go.V.zK) ?_) | (refine Q0e (by exact Go.V.zK) ?_)); (try refine zsY zz.out ?_)) | refine zo ?_ | omega | refine ztY zz.out ?_ | fail)); try (all_goals clear zz))
  all_goals exact ⟨_, .refl _, b_eq (by simpa using hn), rfl⟩
theorem Q9w (l : List (List Vl)) (hl : l.length ≤ 9223372036854775807) (hL : ∀ r ∈ l, r.length ≤ 9223372036854775807) (σ : Sg) : VCalls Tryz.prog 60 [.sl .any (l.map rowA)] σ (fun x σ' => x = .b (X5v l) ∧ σ' = σ) := by
  have hn : (l.map rowA).length = l.length := zA ..
  have hall := Q3z (f := rowA) (n := 1) l (fun _ => rfl)
  have hgt := fun k (h : k < l.length) => Q3y (f := rowA) h
  unfold X5v
  generalize l.map rowA = L at *
  (refine vfun (fun _ => .no) Q0h Tryz.func60 (by kernel_rfl) ?_; simp only [Q0f, Tryz.f60, zv])
  (have zz := Bx.mk (j3 ui0 ui3 (j9 ui4 ui9 ui22 ui23 ui38 ui86 Q1p hn hall)); (repeat' (first | with_reducible rfl | exact trivial | (with_reducible first | apply And.intro | apply Q0a | apply Q0b | refine Q0c (by decide +kernel) ?_ | intro _) | refine zaY zz.out ?_ | ((first | (refine Q0d (by exact Go.V.zK) ?_) | (refine Q0e (by exact Go.V.zK) ?_)); (try refine zsY zz.out ?_)) | refine zo ?_ | omega | refine ztY zz.out ?_ | fail)); try (all_goals clear zz))
  refine VW.loop3 (0 : Nat) () () (fun k _ _ => k ≤ l.length ∧ l.all rowB = (l.drop k).all rowB) (fun k _ _ => [(0, .sl .any L), (5, .sl .any L), (6, .i l.length), (7, .i k)]) (fun _ _ _ => σ) (fun k _ _ => l.length - k) ⟨Nat.zero_le _, rfl⟩ (.refl _) ?_ ?_
  · simp only [vO, vQ, ↓vP, vE, vS, vB, vL, vF, vM, vN, Q0g, zb, zc, zd, ne_eq, not_false_eq_true, ze, zf, zj, zk, vT]
    all_goals rfl
  rintro k _ _ ⟨hk, hr⟩
  rcases Nat.lt_or_ge k l.length with hk2 | hk2
  · have hg := hgt k hk2
    have hO := v_contains l[k] (hL _ (List.getElem_mem hk2))
    have hn2 : (X0w l[k]).length = l[k].length := zA ..
    have hdr : (l.drop k).all rowB = (rowB l[k] && (l.drop (k + 1)).all rowB) := by rw [List.drop_eq_getElem_cons hk2, List.all_cons]
    have hco : rowB l[k] = (l[k].all okV && decide (1 ≤ l[k].length ∧ l[k].length ≤ 8)) := rfl
    rw [hco] at hdr
    clear hco
    unfold rowA at hg
    generalize l[k].all okV = rb at *
    generalize l[k].length = nl at *
    generalize X0w l[k] = EE at *
    rw [hr, hdr]
    (have zz := Bx.mk (j5 ui0 ui3 ui4 ui9 (j9 ui22 ui23 ui38 ui86 Q1p hn hall hg hn2)); (repeat' (first | with_reducible rfl | exact trivial | (with_reducible first | apply And.intro | apply Q0a | apply Q0b | refine Q0c (by decide +kernel) ?_ | intro _) | refine zaY zz.out ?_ | ((first | (with_reducible refine uc (hO _) ?_) | (refine Q0d (by exact Go.V.zK) ?_) | (refine Q0e (by exact Go.V.zK) ?_)); (try refine zsY zz.out ?_)) | refine zo ?_ | omega | refine ztY zz.out ?_ | fail)); try (all_goals clear zz))
    all_goals first | exact ⟨k + 1, (), (), ⟨⟨hk2, by simp_all <;> omega⟩, by omega⟩, .refl _, rfl⟩ | exact ⟨_, .refl _, b_eq (by simp_all <;> omega), rfl⟩ | (exfalso; omega)
  · rw [hr, List.drop_of_length_le hk2]
    (have zz := Bx.mk (j3 ui0 ui3 (j9 ui4 ui9 ui22 ui23 ui38 ui86 Q1p hn hall)); (repeat' (first | with_reducible rfl | exact trivial | (with_reducible first | apply And.intro | apply Q0a | apply Q0b | refine Q0c (by decide +kernel) ?_ | intro _) | refine zaY zz.out ?_ | ((first | (refine Q0d (by exact Go.V.zK) ?_) | (refine Q0e (by exact Go.V.zK) ?_)); (try refine zsY zz.out ?_)) | refine zo ?_ | omega | refine ztY zz.out ?_ | fail)); try (all_goals clear zz))
    all_goals exact ⟨_, .refl _, b_eq (by simp_all <;> omega), rfl⟩
structure LimS (x : Stm) : Prop where
  k : inR x.k
  lim : inR x.lim
  cols : x.cols.length ≤ 9223372036854775807
  rows : x.rows.length ≤ 9223372036854775807
  row : ∀ r ∈ x.rows, r.length ≤ 9223372036854775807
  sets : x.sets.length ≤ 9223372036854775807
  set : ∀ y ∈ x.sets, Lim y.2
  items : x.items.length ≤ 9223372036854775807
  item : ∀ y ∈ x.items, LimL y.2
  on : LimL x.on
  wh : LimL x.wh
  gr : LimL x.gr
  or : LimL x.or
theorem Q3q (x : Stm) (h : LimS x) (σ : Sg) : VCalls Tryz.prog 62 [.agg (stmA x)] σ (fun y σ' => y = .b (selB x) ∧ σ' = σ) := by
  obtain ⟨k, t, cols, pk, rows, sets, items, join, on, wh, gr, or, desc, lim⟩ := x
  obtain ⟨h1, h2, h3, h4, h5, h6, h7, h8, h9, h10, h11, h12, h13⟩ := h
  dsimp only at h1 h2 h3 h4 h5 h6 h7 h8 h9 h10 h11 h12 h13
  unfold stmA selB Go.Print.joinB
  dsimp only
  have i1 := v_items items h8 h9
  have i2 := Q8k on h10
  have i3 := Y1a gr h12
  have i4 := Y1a or h13
  have i5 := Q2s join
  have n1 := Q2l on
  have n2 := Q2l or
  generalize X0s items = b1 at *
  generalize oneB on = b2 at *
  generalize colB gr = b3 at *
  generalize colB or = b4 at *
  have hj : join = [] → isNm join = false := fun e => by rw [e]; rfl
  generalize isNm join = b5 at *
  generalize exsA on = L1 at *
  generalize exsA or = L2 at *
  generalize on.length = m1 at *
  generalize or.length = m2 at *
  (refine vfun (fun _ => .ro) Q0h Tryz.func62 (by kernel_rfl) ?_; simp only [Q0f, Tryz.f62, zv])
  (have zz := Bx.mk (j8 ui0 ui3 ui4 ui9 ui22 ui23 ui24 (j9 ui25 ui26 ui37 ui38 ui39 ui40 ui41 ui42 (j9 ui67 ui68 ui70 ui71 Q1p Q2c Q2d @n1 @n2))); (repeat' (first | with_reducible rfl | exact trivial | (with_reducible first | apply And.intro | apply Q0a | apply Q0b | refine Q0c (by decide +kernel) ?_ | intro _) | refine zaY zz.out ?_ | ((first | (with_reducible refine uc (i1 _) ?_) | (with_reducible refine uc (i2 _) ?_) | (with_reducible refine uc (i3 _) ?_) | (with_reducible refine uc (i4 _) ?_) | (with_reducible refine uc (i5 _) ?_) | (with_reducible refine uc (Q2s _ _) ?_) | (with_reducible refine uc (Q8k _ (by assumption) _) ?_) | (with_reducible refine uc (v_items _ (by assumption) (by assumption) _) ?_) | (with_reducible refine uc (Y1a _ (by assumption) _) ?_) | (refine Q0d (by exact Go.V.zK) ?_) | (refine Q0e (by exact Go.V.zK) ?_)); (try refine zsY zz.out ?_)) | refine zo ?_ | omega | refine ztY zz.out ?_ | fail)); try (all_goals clear zz))
  all_goals first | exact ⟨_, .refl _, b_eq (by simp_all <;> omega), rfl⟩ | trace_state
end Go.Proofs.YtjdapkelojdefaaGreatDoor
