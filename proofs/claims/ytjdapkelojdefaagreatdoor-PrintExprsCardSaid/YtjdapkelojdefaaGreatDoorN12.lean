/- Part 12 of the proof: W12, G8, W13, W14, W15, B6, B7, B8, B9, B10, B11, B12, B13. -/
import Derived.Test.YtjdapkelojdefaaGreatDoorN7
import Derived.Test.YtjdapkelojdefaaGreatDoorN11
import Derived.Test.YtjdapkelojdefaaGreatDoorN8

set_option linter.all false
set_option maxRecDepth 100000
set_option maxHeartbeats 1000000
open Nat renaming reduceEqDiff → zb, reduceAdd → zc, reduceLeDiff → zd, reduceMul → ze, reduceSub → zf
open Int renaming toNat_zero → zj, reduceToNat → zk
open Option renaming getD_some → zr
open Go.Cert renaming lk → zx
open Go.V.VCalls renaming mono → zy
open Go.Proofs.Tryz renaming underlying3 → Z3
set_option linter.unusedSimpArgs false
set_option linter.unusedVariables false
namespace Go.Print
open Go.V Go.Lex Go.Parse Go.Proofs.YtjdapkelojdefaaGreatDoor
theorem joinS_snoc : ∀ (l : List By) (x : By), l ≠ [] → joinS (l ++ [x]) = joinS l ++ 32 :: x
  | [], x, h => absurd rfl h
  | [a], x, _ => rfl
  | a :: b :: r, x, _ => by
    have ih := joinS_snoc (b :: r) x (by simp)
    show a ++ 32 :: joinS ((b :: r) ++ [x]) = (a ++ 32 :: joinS (b :: r)) ++ 32 :: x
    rw [ih]
    simp
def lenL (l : List By) : Nat := (l.map List.length).sum
theorem lenL_take {l : List By} {k : Nat} (h : k < l.length) : lenL (l.take (k + 1)) = lenL (l.take k) + (l.getD k []).length := by
  unfold lenL
  rw [List.take_succ_eq_append_getElem h, List.map_append, List.sum_append]
  simp [List.getD_eq_getElem?_getD, List.getElem?_eq_getElem h]
theorem join_len : ∀ l : List By, l ≠ [] → (joinS l).length + 1 = lenL l + l.length
  | [], h => absurd rfl h
  | [a], _ => by simp [joinS, lenL]
  | a :: b :: r, _ => by
    have ih := join_len (b :: r) (by simp)
    have e : joinS (a :: b :: r) = a ++ 32 :: joinS (b :: r) := rfl
    rw [e]
    simp only [List.length_append, List.length_cons, lenL, List.map_cons, List.sum_cons] at ih ⊢
    omega
theorem lenL_le (l : List By) (k : Nat) : lenL (l.take k) ≤ lenL l := by
  have : lenL l = lenL (l.take k) + lenL (l.drop k) := by
    unfold lenL
    rw [← List.sum_append, ← List.map_append, List.take_append_drop]
  omega
end Go.Print
namespace Go.Proofs.YtjdapkelojdefaaGreatDoor
open Go Go.V Go.Lex Go.Parse Go.Print
theorem strs_all (ws : List By) : allLen (strs ws) 1 = True := eq_true (fun e he => by obtain ⟨w, _, rfl⟩ := List.mem_map.1 he; rfl)
theorem bs32 : (bs [32]).size = 1 := bs_size _
def tdQ (m : Int) : Int := (9223372036854775807 : Int).tdiv m
theorem tdQ_fold (m : Int) : (9223372036854775807 : Int).tdiv m = tdQ m := rfl
theorem tdiv_big {m : Nat} (h1 : 1 ≤ m) (h2 : m ≤ 2 ^ 40) : ∃ Q : Int, (9223372036854775807 : Int).tdiv (m : Int) = Q ∧ 1 < Q ∧ Q ≤ 9223372036854775807 := by
  have e : (9223372036854775807 : Int).tdiv (m : Int) = ((9223372036854775807 / m : Nat) : Int) := rfl
  refine ⟨_, e, ?_, ?_⟩
  · have : 2 ≤ 9223372036854775807 / m := by
      rw [Nat.le_div_iff_mul_le (by omega)]
      omega
    omega
  · have := Nat.div_le_self 9223372036854775807 m
    omega
theorem j_join (l : List By) (o : Own) (hl : (joinS l).length ≤ 2 ^ 38) (hn : l.length ≤ 2 ^ 38) (σ : Sg) : VCalls Tryz.prog 106 [.sl o (strs l), .s (bs [32])] σ (fun x σ' => x = .s (bs (joinS l)) ∧ σ' = σ) := by
  have hsl := strs_len l
  match l, hl, hn with
  | [], _, _ =>
    (refine vfun (fun _ => .no) mixed Tryz.func106 (by kernel_rfl) ?_; simp only [bodyOf, Tryz.f106, zr])
    repeat' (first | with_reducible rfl | exact trivial | exact .inr trivial | (with_reducible first | apply And.intro | apply vqx_step | apply vqm_step | refine vkp_free (by decide +kernel) ?_ | intro _) | refine zaY (j5 ui0 ui3 ui4 ui5 (j9 ui9 ui20 ui75 ui149 ui150 ui151 ui152 ui155 hsl)) ?_ | ((first | (refine vlo_app zx ?_) | (refine vst_app zx ?_)); (try refine zsY (j5 ui0 ui3 ui4 ui5 (j9 ui9 ui20 ui75 ui149 ui150 ui151 ui152 ui155 hsl)) ?_)) | (with_reducible first | refine vfresh_set ?_ | refine vfresh_intro (fun _ _ => ?_) | refine vif_intro (fun _ => ?_) (fun _ => ?_)) | omega | refine ztY (j5 ui0 ui3 ui4 ui5 (j9 ui9 ui20 ui75 ui149 ui150 ui151 ui152 ui155 hsl)) ?_ | fail)
    all_goals exact ⟨_, .refl _, rfl, rfl⟩
  | [a], _, _ =>
    have hs1 : strs [a] = [[.s (bs a)]] := rfl
    rw [hs1]
    (refine vfun (fun _ => .no) mixed Tryz.func106 (by kernel_rfl) ?_; simp only [bodyOf, Tryz.f106, zr])
    repeat' (first | with_reducible rfl | exact trivial | exact .inr trivial | (with_reducible first | apply And.intro | apply vqx_step | apply vqm_step | refine vkp_free (by decide +kernel) ?_ | intro _) | refine zaY (j4 ui0 ui3 ui4 (j9 ui5 ui9 ui20 ui75 ui149 ui150 ui151 ui152 ui155)) ?_ | ((first | (refine vlo_app zx ?_) | (refine vst_app zx ?_)); (try refine zsY (j4 ui0 ui3 ui4 (j9 ui5 ui9 ui20 ui75 ui149 ui150 ui151 ui152 ui155)) ?_)) | (with_reducible first | refine vfresh_set ?_ | refine vfresh_intro (fun _ _ => ?_) | refine vif_intro (fun _ => ?_) (fun _ => ?_)) | omega | refine ztY (j4 ui0 ui3 ui4 (j9 ui5 ui9 ui20 ui75 ui149 ui150 ui151 ui152 ui155)) ?_ | fail)
    all_goals exact ⟨_, .refl _, rfl, rfl⟩
  | a :: b :: r, hl, hn =>
    have hjl := join_len (a :: b :: r) (by simp)
    have hg0 : (strs (a :: b :: r)).getD 0 [] = [.s (bs a)] := rfl
    have hd1 : (strs (a :: b :: r)).drop 1 = strs (b :: r) := rfl
    have hsl2 := strs_len (b :: r)
    have hL2 : 2 ≤ (a :: b :: r).length := by simp
    have hbl : (b :: r).length + 1 = (a :: b :: r).length := rfl
    have hne : (a :: b :: r) ≠ [] := by simp
    have htk : ∀ k, (a :: b :: r).take (k + 1) = a :: (b :: r).take k := fun k => rfl
    generalize hll : a :: b :: r = l at *
    obtain ⟨Q, hQ, hQ1, hQ2⟩ := tdiv_big (m := l.length - 1) (by omega) (by omega)
    have hm : ((l.length - 1 : Nat) : Int) = (l.length : Int) - 1 := by omega
    rw [hm, tdQ_fold] at hQ
    have hQF1 : (Q ≤ ((1 : Nat) : Int)) = False := eq_false (by omega)
    have hQF2 : (Q ≤ 1) = False := eq_false (by omega)
    have hz1 : ((l.length : Int) = 0) = False := eq_false (by omega)
    have hz2 : ((l.length : Int) = 1) = False := eq_false (by omega)
    have hz3 : ((l.length : Int) - 1 = 0) = False := eq_false (by omega)
    (refine vfun (fun _ => .no) mixed Tryz.func106 (by kernel_rfl) ?_; simp only [bodyOf, Tryz.f106, zr])
    repeat' (first | with_reducible rfl | exact trivial | exact .inr trivial | (with_reducible first | apply And.intro | apply vqx_step | apply vqm_step | refine vkp_free (by decide +kernel) ?_ | intro _) | refine zaY (j5 ui0 ui3 ui4 ui5 (j9 ui9 ui20 ui75 ui149 ui150 ui151 ui152 ui155 (j9 hsl @bs32 @tdQ_fold hQ hQF1 hQF2 hz1 hz2 hz3))) ?_ | ((first | (refine vlo_app zx ?_) | (refine vst_app zx ?_)); (try refine zsY (j5 ui0 ui3 ui4 ui5 (j9 ui9 ui20 ui75 ui149 ui150 ui151 ui152 ui155 (j9 hsl @bs32 @tdQ_fold hQ hQF1 hQF2 hz1 hz2 hz3))) ?_)) | (with_reducible first | refine vfresh_set ?_ | refine vfresh_intro (fun _ _ => ?_) | refine vif_intro (fun _ => ?_) (fun _ => ?_)) | omega | refine ztY (j5 ui0 ui3 ui4 ui5 (j9 ui9 ui20 ui75 ui149 ui150 ui151 ui152 ui155 (j9 hsl @bs32 @tdQ_fold hQ hQF1 hQF2 hz1 hz2 hz3))) ?_ | fail)
    refine VW.loop3 (0 : Nat) () () (fun k _ _ => k ≤ l.length) (fun k _ _ => [(0, .sl o (strs l)), (1, .s (bs [32])), (5, .i ((l.length - 1 + lenL (l.take k) : Nat) : Int)), (39, .sl o (strs l)), (40, .i l.length), (41, .i k)]) (fun _ _ _ => σ) (fun k _ _ => l.length - k) (Nat.zero_le _) (.refl _) ?_ ?_
    · simp only [vO, vQ, ↓vP, vE, vS, vB, vL, vF, vM, vN, vbs_full, zb, zc, zd, ne_eq, not_false_eq_true, ze, zf, zj, zk, vT]
      exact ⟨i_eq (by simp [lenL]; omega), rfl⟩
    rintro k _ _ hk
    have hsk := lenL_le l k
    rcases Nat.lt_or_ge k l.length with hk2 | hk2
    · have hg := strs_get hk2
      have hlk := lenL_take hk2
      have hsk2 := lenL_le l (k + 1)
      rw [hlk] at hsk2
      generalize lenL (l.take k) = s at *
      generalize l.getD k [] = w at *
      have hw : (bs w).size = w.length := bs_size w
      repeat' (first | with_reducible rfl | exact trivial | exact .inr trivial | (with_reducible first | apply And.intro | apply vqx_step | apply vqm_step | refine vkp_free (by decide +kernel) ?_ | intro _) | refine zaY (j7 ui0 ui3 ui4 ui5 ui9 ui20 (j9 ui75 ui149 ui150 ui151 ui152 ui155 hsl hg hw)) ?_ | ((first | (refine vlo_app zx ?_) | (refine vst_app zx ?_)); (try refine zsY (j7 ui0 ui3 ui4 ui5 ui9 ui20 (j9 ui75 ui149 ui150 ui151 ui152 ui155 hsl hg hw)) ?_)) | (with_reducible first | refine vfresh_set ?_ | refine vfresh_intro (fun _ _ => ?_) | refine vif_intro (fun _ => ?_) (fun _ => ?_)) | omega | refine ztY (j7 ui0 ui3 ui4 ui5 ui9 ui20 (j9 ui75 ui149 ui150 ui151 ui152 ui155 hsl hg hw)) ?_ | fail)
      exact ⟨k + 1, (), (), ⟨hk2, by omega⟩, .refl _, i_eq (by rw [hlk]; omega), rfl⟩
    · rw [List.take_of_length_le hk2]
      have ha : a.length ≤ 2 ^ 38 := by rw [← hll] at hl; simp [joinS] at hl; omega
      have hG : ∀ β S, S β = none → VCalls Tryz.prog 154 [.ref β 0, .i ((l.length - 1 + lenL l : Nat) : Int)] (S.set β (.cells 152 [.val (.pointer none), .sl .nil []])) (fun x σ' => x = .tup [] ∧ Bld β [] S σ') := fun β S hS => e36 β _ S hS (by omega) (by omega)
      repeat' (first | with_reducible rfl | exact trivial | exact .inr trivial | (with_reducible first | apply And.intro | apply vqx_step | apply vqm_step | refine vkp_free (by decide +kernel) ?_ | intro _) | refine zaY (j9 ui0 ui3 ui4 ui5 ui9 ui20 ui75 ui149 (j9 ui150 ui151 ui152 ui155 hsl hg0 hd1 hsl2 @strs_all)) ?_ | ((first | ((with_reducible refine zy (hG _ _ (by assumption)) ?_); rintro _ S' ⟨rfl, hB⟩) | ((with_reducible refine zy (t100 _ _ _ _ _ hB (by simp only [List.length_nil]; omega)) ?_); rintro _ S'' ⟨rfl, hB2⟩) | (refine vlo_app zx ?_) | (refine vst_app zx ?_)); (try refine zsY (j9 ui0 ui3 ui4 ui5 ui9 ui20 ui75 ui149 (j9 ui150 ui151 ui152 ui155 hsl hg0 hd1 hsl2 @strs_all)) ?_)) | (with_reducible first | refine vfresh_set ?_ | refine vfresh_intro (fun _ _ => ?_) | refine vif_intro (fun _ => ?_) (fun _ => ?_)) | omega | refine ztY (j9 ui0 ui3 ui4 ui5 ui9 ui20 ui75 ui149 (j9 ui150 ui151 ui152 ui155 hsl hg0 hd1 hsl2 @strs_all)) ?_ | fail)
      rename_i β hβ
      have hB2 : Bld β (joinS (l.take (0 + 1))) σ S'' := by
        rw [htk]; exact hB2
      refine VW.loop3 (0 : Nat) S'' () (fun k S _ => k ≤ (b :: r).length ∧ Bld β (joinS (l.take (k + 1))) σ S) (fun k _ _ => [(1, .s (bs [32])), (8, .ref β 0), (63, .sl (o.cut (decide ((1 : Int) = 0 ∨ (1 : Int) < ↑l.length))) (strs (b :: r))), (64, .i ((r.length + 1 : Nat) : Int)), (65, .i k)]) (fun _ S _ => S) (fun k _ _ => (b :: r).length - k) ⟨Nat.zero_le _, hB2⟩ (.refl _) ?_ ?_
      · simp only [vO, vQ, ↓vP, vE, vS, vB, vL, vF, vM, vN, vbs_full, zb, zc, zd, ne_eq, not_false_eq_true, ze, zf, zj, zk, vT]
        all_goals rfl
      clear hB2 hB
      rintro k S _ ⟨hk, hB⟩
      rw [List.length_cons] at hk hsl2 hbl
      have hjk : (joinS (l.take (k + 1))).length ≤ 2 ^ 38 := by
        have h1 := join_len (l.take (k + 1)) (by rw [htk]; simp)
        have h2 := lenL_le l (k + 1)
        rw [List.length_take] at h1
        omega
      rcases Nat.lt_or_ge k (r.length + 1) with hk2 | hk2
      · have hg := strs_get (ws := b :: r) hk2
        have hnext : l.take (k + 1 + 1) = l.take (k + 1) ++ [(b :: r).getD k []] := by
          rw [htk, htk, List.take_succ_eq_append_getElem (by simpa using hk2)]
          simp [List.getD_eq_getElem?_getD, List.getElem?_eq_getElem (show k < (b :: r).length by simpa using hk2)]
        have hjn : joinS (l.take (k + 1 + 1)) = joinS (l.take (k + 1)) ++ [32] ++ (b :: r).getD k [] := by
          rw [hnext, joinS_snoc _ _ (by rw [htk]; simp)]
          simp
        have hjk2 : (joinS (l.take (k + 1 + 1))).length ≤ 2 ^ 38 := by
          have h1 := join_len (l.take (k + 1 + 1)) (by rw [htk]; simp)
          have h2 := lenL_le l (k + 1 + 1)
          rw [List.length_take] at h1
          omega
        rw [hjn, List.length_append] at hjk2
        generalize (b :: r).getD k [] = w at *
        generalize joinS (l.take (k + 1)) = acc at *
        repeat' (first | with_reducible rfl | exact trivial | exact .inr trivial | (with_reducible first | apply And.intro | apply vqx_step | apply vqm_step | refine vkp_free (by decide +kernel) ?_ | intro _) | refine zaY (j6 ui0 ui3 ui4 ui5 ui9 (j9 ui20 ui75 ui149 ui150 ui151 ui152 ui155 hsl2 hg)) ?_ | ((first | ((with_reducible refine zy (t100 _ _ _ _ _ hB (by simp only [List.length_cons, List.length_nil]; omega)) ?_); rintro _ S2 ⟨rfl, hB2⟩) | ((with_reducible refine zy (t100 _ _ _ _ _ hB2 (by omega)) ?_); rintro _ S3 ⟨rfl, hB3⟩) | (refine vlo_app zx ?_) | (refine vst_app zx ?_)); (try refine zsY (j6 ui0 ui3 ui4 ui5 ui9 (j9 ui20 ui75 ui149 ui150 ui151 ui152 ui155 hsl2 hg)) ?_)) | (with_reducible first | refine vfresh_set ?_ | refine vfresh_intro (fun _ _ => ?_) | refine vif_intro (fun _ => ?_) (fun _ => ?_)) | omega | refine ztY (j6 ui0 ui3 ui4 ui5 ui9 (j9 ui20 ui75 ui149 ui150 ui151 ui152 ui155 hsl2 hg)) ?_ | fail)
        all_goals exact ⟨k + 1, _, (), ⟨⟨hk2, by rw [hjn]; exact hB3⟩, by first | omega | (simp only [List.length_cons]; omega)⟩, .refl _, rfl⟩
      · have hfull : l.take (k + 1) = l := List.take_of_length_le (by omega)
        rw [hfull] at hB
        repeat' (first | with_reducible rfl | exact trivial | exact .inr trivial | (with_reducible first | apply And.intro | apply vqx_step | apply vqm_step | refine vkp_free (by decide +kernel) ?_ | intro _) | refine zaY (j5 ui0 ui3 ui4 ui5 (j9 ui9 ui20 ui75 ui149 ui150 ui151 ui152 ui155 hsl2)) ?_ | ((first | with_reducible refine (t103 _ _ _ _ hB (by omega)).use ?_ | (refine vlo_app zx ?_) | (refine vst_app zx ?_)); (try refine zsY (j5 ui0 ui3 ui4 ui5 (j9 ui9 ui20 ui75 ui149 ui150 ui151 ui152 ui155 hsl2)) ?_)) | (with_reducible first | refine vfresh_set ?_ | refine vfresh_intro (fun _ _ => ?_) | refine vif_intro (fun _ => ?_) (fun _ => ?_)) | omega | refine ztY (j5 ui0 ui3 ui4 ui5 (j9 ui9 ui20 ui75 ui149 ui150 ui151 ui152 ui155 hsl2)) ?_ | fail)
        all_goals exact ⟨σ, hB.sub, rfl⟩
def WrOK (t : Tk) : Prop := t.2.2.1 < 9223372036854775808 ∧ (t.1 = 4 → t.2.1.length ≤ 40) ∧ t.2.1.length ≤ 2000
theorem strs_one1 (ws : List By) : allOne (strs ws) 1 = True := eq_true (fun e he => by obtain ⟨w, _, rfl⟩ := List.mem_map.1 he; exact ⟨rfl, rfl⟩)
theorem txts_take {l : List Tk} {k : Nat} (h : k < l.length) : txts (l.take (k + 1)) = txts (l.take k) ++ (if (l.getD k (0, [], 0, 0)).1 = 6 then [] else [txt (l.getD k (0, [], 0, 0))]) := by
  have hg : l.getD k (0, [], 0, 0) = l[k] := by simp [List.getD_eq_getElem?_getD, List.getElem?_eq_getElem h]
  rw [hg]
  unfold txts
  rw [List.take_succ_eq_append_getElem h, List.filter_append, List.map_append]
  by_cases h6 : l[k].1 = 6
  · rw [if_pos h6]
    simp [List.filter_cons, h6]
  · rw [if_neg h6]
    simp [List.filter_cons, h6]
theorem txts_len (l : List Tk) : (txts l).length ≤ l.length := by
  unfold txts
  rw [List.length_map]
  exact List.length_filter_le _ _
theorem strs_snoc (a : List By) (x : By) : strs (a ++ [x]) = strs a ++ [[.s (bs x)]] := by simp [strs]
theorem j_write (l : List Tk) (o : Own) (h : ∀ t ∈ l, WrOK t) (hn : l.length ≤ 2 ^ 36) (hl : (writeT l).length ≤ 2 ^ 38) (σ : Sg) : VCalls Tryz.prog 52 [.sl o (tksA l)] σ (fun x σ' => x = .s (bs (writeT l)) ∧ σ' = σ) := by
  have hlen := tksA_len l
  have htl := txts_len l
  unfold writeT at hl ⊢
  (refine vfun (fun _ => .no) mixed Tryz.func52 (by kernel_rfl) ?_; simp only [bodyOf, Tryz.f52, zr])
  repeat' (first | with_reducible rfl | exact trivial | exact .inr trivial | (with_reducible first | apply And.intro | apply vqx_step | apply vqm_step | refine vkp_free (by decide +kernel) ?_ | intro _) | refine zaY (j3 ui0 ui3 (j9 ui4 ui9 ui22 ui23 ui56 ui75 ui101 ui102 hlen)) ?_ | ((first | ((with_reducible refine zy (j_join _ _ (by assumption) (by assumption) _) ?_); rintro _ S ⟨rfl, rfl⟩) | (refine vlo_app zx ?_) | (refine vst_app zx ?_)); (try refine zsY (j3 ui0 ui3 (j9 ui4 ui9 ui22 ui23 ui56 ui75 ui101 ui102 hlen)) ?_)) | (with_reducible first | refine vfresh_set ?_ | refine vfresh_intro (fun _ _ => ?_) | refine vif_intro (fun _ => ?_) (fun _ => ?_)) | omega | refine ztY (j3 ui0 ui3 (j9 ui4 ui9 ui22 ui23 ui56 ui75 ui101 ui102 hlen)) ?_ | fail)
  refine VW.loop4 (0 : Nat) (AV.sl .nil []) σ () (fun k V S _ => k ≤ l.length ∧ Grown 9 1 (strs (txts (l.take k))) σ V S) (fun k V _ _ => [(0, .sl o (tksA l)), (3, V), (6, .sl o (tksA l)), (7, .i l.length), (8, .i k)]) (fun _ _ S _ => S) (fun k _ _ _ => l.length - k) ⟨Nat.zero_le _, .nil _ _ _⟩ (.refl _) ?_ ?_
  · simp only [vO, vQ, ↓vP, vE, vS, vB, vL, vF, vM, vN, vbs_full, zb, zc, zd, ne_eq, not_false_eq_true, ze, zf, zj, zk, vT]
    all_goals rfl
  rintro k V S _ ⟨hk, hG⟩
  rcases Nat.lt_or_ge k l.length with hk2 | hk2
  · have hg := tksA_get hk2
    have hok : WrOK (l.getD k (0, [], 0, 0)) := h _ (by simp [List.getD_eq_getElem?_getD, List.getElem?_eq_getElem hk2])
    have htt := txts_take hk2
    have htk := txts_len (l.take k)
    rw [List.length_take] at htk
    generalize l.getD k (0, [], 0, 0) = t at *
    have htA : tkA t = [.i t.1, .s (bs t.2.1), .i t.2.2.1, .i t.2.2.2] := rfl
    rw [htA] at hg
    generalize txts (l.take k) = W at *
    obtain ⟨q1, q2, q3⟩ := hok
    have h7 : ∀ σ, VCalls Tryz.prog 105 [.agg [.i 1, .i t.2.2.1, .s (bs [])]] σ _ := e7 1 t.2.2.1 [] q1 (by simp)
    have h7b : t.1 = 4 → ∀ σ, VCalls Tryz.prog 105 [.agg [.i 2, .i 0, .s (bs t.2.1)]] σ _ := fun h4 => e7 2 0 t.2.1 (by decide) (q2 h4)
    have hw1 := strs_len W
    have hw2 := strs_all W
    have hw3 := strs_one1 W
    unfold txt at htt
    rcases hG with ⟨e1, rfl, rfl⟩ | ⟨τ, hτ, rfl, rfl⟩
    · rw [e1] at hw1 hw2 hw3
      repeat' (first | with_reducible rfl | exact trivial | exact .inr trivial | (with_reducible first | apply And.intro | apply vqx_step | apply vqm_step | refine vkp_free (by decide +kernel) ?_ | intro _) | refine zaY (j5 ui0 ui3 ui4 ui9 (j9 ui22 ui23 ui56 ui75 ui101 ui102 hlen hg e1)) ?_ | ((first | ((with_reducible refine zy (h7 _) ?_); rintro _ S ⟨rfl, rfl⟩) | ((with_reducible refine zy (h7b (by omega) _) ?_); rintro _ S ⟨rfl, rfl⟩) | ((with_reducible refine zy (j_join _ _ (by assumption) (by assumption) _) ?_); rintro _ S ⟨rfl, rfl⟩) | (refine vlo_app zx ?_) | (refine vst_app zx ?_)); (try refine zsY (j5 ui0 ui3 ui4 ui9 (j9 ui22 ui23 ui56 ui75 ui101 ui102 hlen hg e1)) ?_)) | (with_reducible first | refine vfresh_set ?_ | refine vfresh_intro (fun _ _ => ?_) | refine vif_intro (fun _ => ?_) (fun _ => ?_)) | omega | refine ztY (j5 ui0 ui3 ui4 ui9 (j9 ui22 ui23 ui56 ui75 ui101 ui102 hlen hg e1)) ?_ | fail)
      · exact ⟨k + 1, _, S, (), ⟨⟨hk2, by rw [htt, if_pos (by omega), List.append_nil, e1]; exact .nil _ _ _⟩, by omega⟩, by (exact Go.V.zu), rfl, rfl⟩
      all_goals (rename_i x hx hne; exact ⟨k + 1, _, S.set x (.tok (some 9)), (), ⟨⟨hk2, .tok hx⟩, by omega⟩, by (exact Go.V.zu), by (rw [htt, if_neg (by omega), strs_snoc, e1]; (repeat' split) <;> first | rfl | (exfalso; omega)), rfl⟩)
    · repeat' (first | with_reducible rfl | exact trivial | exact .inr trivial | (with_reducible first | apply And.intro | apply vqx_step | apply vqm_step | refine vkp_free (by decide +kernel) ?_ | intro _) | refine zaY (j7 ui0 ui3 ui4 ui9 ui22 ui23 (j9 ui56 ui75 ui101 ui102 hlen hg hw1 hw2 hw3)) ?_ | ((first | ((with_reducible refine zy (h7 _) ?_); rintro _ S ⟨rfl, rfl⟩) | ((with_reducible refine zy (h7b (by omega) _) ?_); rintro _ S ⟨rfl, rfl⟩) | ((with_reducible refine zy (j_join _ _ (by assumption) (by assumption) _) ?_); rintro _ S ⟨rfl, rfl⟩) | (refine vlo_app zx ?_) | (refine vst_app zx ?_)); (try refine zsY (j7 ui0 ui3 ui4 ui9 ui22 ui23 (j9 ui56 ui75 ui101 ui102 hlen hg hw1 hw2 hw3)) ?_)) | (with_reducible first | refine vfresh_set ?_ | refine vfresh_intro (fun _ _ => ?_) | refine vif_intro (fun _ => ?_) (fun _ => ?_)) | omega | refine ztY (j7 ui0 ui3 ui4 ui9 ui22 ui23 (j9 ui56 ui75 ui101 ui102 hlen hg hw1 hw2 hw3)) ?_ | fail)
      · exact ⟨k + 1, _, σ.set τ (.tok (some 9)), (), ⟨⟨hk2, by rw [htt, if_pos (by omega), List.append_nil]; exact .tok hτ⟩, by omega⟩, by (exact Go.V.zu), rfl, rfl⟩
      all_goals (rename_i x hx _ _; exact ⟨k + 1, _, σ.set x (.tok (some 9)), (), ⟨⟨hk2, .tok hx⟩, by omega⟩, by (exact Go.V.zu), by (rw [htt, if_neg (by omega), strs_snoc]; (repeat' split) <;> first | rfl | (exfalso; omega)), rfl⟩)
  · rw [List.take_of_length_le hk2] at hG
    rcases hG with ⟨e1, rfl, rfl⟩ | ⟨τ, hτ, rfl, rfl⟩
    · have hJ : ∀ σ, VCalls Tryz.prog 106 [.sl .nil [], .s (bs [32])] σ _ := fun σ => by rw [← e1]; exact j_join _ .nil hl (by omega) σ
      repeat' (first | with_reducible rfl | exact trivial | exact .inr trivial | (with_reducible first | apply And.intro | apply vqx_step | apply vqm_step | refine vkp_free (by decide +kernel) ?_ | intro _) | refine zaY (j3 ui0 ui3 (j9 ui4 ui9 ui22 ui23 ui56 ui75 ui101 ui102 hlen)) ?_ | ((first | ((with_reducible refine zy (hJ _) ?_); rintro _ S ⟨rfl, rfl⟩) | ((with_reducible refine zy (j_join _ _ (by assumption) (by assumption) _) ?_); rintro _ S ⟨rfl, rfl⟩) | (refine vlo_app zx ?_) | (refine vst_app zx ?_)); (try refine zsY (j3 ui0 ui3 (j9 ui4 ui9 ui22 ui23 ui56 ui75 ui101 ui102 hlen)) ?_)) | (with_reducible first | refine vfresh_set ?_ | refine vfresh_intro (fun _ _ => ?_) | refine vif_intro (fun _ => ?_) (fun _ => ?_)) | omega | refine ztY (j3 ui0 ui3 (j9 ui4 ui9 ui22 ui23 ui56 ui75 ui101 ui102 hlen)) ?_ | fail)
      all_goals exact ⟨_, .refl _, rfl⟩
    · repeat' (first | with_reducible rfl | exact trivial | exact .inr trivial | (with_reducible first | apply And.intro | apply vqx_step | apply vqm_step | refine vkp_free (by decide +kernel) ?_ | intro _) | refine zaY (j3 ui0 ui3 (j9 ui4 ui9 ui22 ui23 ui56 ui75 ui101 ui102 hlen)) ?_ | ((first | ((with_reducible refine zy (j_join _ _ hl (by omega) _) ?_); rintro _ S ⟨rfl, rfl⟩) | ((with_reducible refine zy (j_join _ _ (by assumption) (by assumption) _) ?_); rintro _ S ⟨rfl, rfl⟩) | (refine vlo_app zx ?_) | (refine vst_app zx ?_)); (try refine zsY (j3 ui0 ui3 (j9 ui4 ui9 ui22 ui23 ui56 ui75 ui101 ui102 hlen)) ?_)) | (with_reducible first | refine vfresh_set ?_ | refine vfresh_intro (fun _ _ => ?_) | refine vif_intro (fun _ => ?_) (fun _ => ?_)) | omega | refine ztY (j3 ui0 ui3 (j9 ui4 ui9 ui22 ui23 ui56 ui75 ui101 ui102 hlen)) ?_ | fail)
      all_goals exact ⟨σ, by (exact Go.V.zu), rfl⟩
end Go.Proofs.YtjdapkelojdefaaGreatDoor

set_option linter.unusedVariables false
namespace Go.Print
open Go.V Go.Lex Go.Parse Go.Proofs.YtjdapkelojdefaaGreatDoor
theorem gW {s : By} (h : isKnown s = true) : GoodT (wT s) := .inr (.inl ⟨rfl, h, rfl⟩)
theorem gS {s : By} (h : s ∈ signs) : GoodT (sT s) := .inr (.inr (.inr (.inr ⟨rfl, h, rfl⟩)))
theorem gN {s : By} (h : isNm s = true) : GoodT (nT s) := .inl ⟨rfl, h, rfl⟩
theorem gI {n : Int} (h : n ≤ 9223372036854775807) : GoodT (iT n) := .inr (.inr (.inl ⟨rfl, rfl, by show n.toNat ≤ _; omega⟩))
theorem good_br {b : Bool} {l : List Tk} (h : ∀ x ∈ l, GoodT x) : ∀ x ∈ br b l, GoodT x := by
  cases b with
  | false => exact h
  | true =>
    intro x hx
    simp only [br, if_true, List.mem_cons, List.mem_append, List.not_mem_nil, or_false] at hx
    rcases hx with rfl | hx | rfl
    · exact gS (by decide)
    · exact h x hx
    · exact gS (by decide)
theorem good_num {n : Int} (h : inR n) (h2 : n ≠ -9223372036854775808) : ∀ x ∈ numT n, GoodT x := by
  unfold inR at h
  intro x hx
  unfold numT at hx
  split at hx
  · simp only [List.mem_cons, List.not_mem_nil, or_false] at hx
    rcases hx with rfl | rfl
    · exact gS (by decide)
    · exact gI (by omega)
  · simp only [List.mem_cons, List.not_mem_nil, or_false] at hx
    subst hx
    exact gI (by omega)
theorem good_lit {v : Vl} (h : okV v = true) (hg : inR v.2.1) : ∀ x ∈ litT v, GoodT x := by
  intro x hx
  rcases okV_cases h with rfl | ⟨h1, h2, h3⟩ | ⟨h1, h2, h3⟩
  · simp only [litT, if_true, List.mem_cons, List.not_mem_nil, or_false] at hx
    subst hx
    exact gW (by decide +kernel)
  · unfold litT at hx
    rw [if_neg (by omega), if_neg (by omega)] at hx
    exact good_num hg h3 x hx
  · unfold litT at hx
    rw [if_neg (by omega), if_pos h1] at hx
    simp only [List.mem_cons, List.not_mem_nil, or_false] at hx
    subst hx
    exact .inr (.inr (.inr (.inl ⟨rfl, h3, rfl⟩)))
theorem ops_good : ∀ k, k < 14 → 1 ≤ k → (isKnown (ops.getD k []) && decide ((wd (ops.getD k [])).1 = 2) && decide ((wd (ops.getD k [])).2 = (ops.getD k [], 0, 0))) || (signs.contains (ops.getD k []) && decide ((wd (ops.getD k [])).1 = 5) && decide ((wd (ops.getD k [])).2 = (ops.getD k [], 0, 0))) := by decide +kernel
theorem good_op {k : Nat} (h1 : 1 ≤ k) (h2 : k ≤ 13) : GoodT (wd (ops.getD k [])) := by
  have := ops_good k (by omega) h1
  simp only [Bool.or_eq_true, Bool.and_eq_true, decide_eq_true_eq] at this
  rcases this with ⟨⟨a, b⟩, c⟩ | ⟨⟨a, b⟩, c⟩
  · exact .inr (.inl ⟨b, by rw [c]; exact a, by rw [c]⟩)
  · exact .inr (.inr (.inr (.inr ⟨b, by rw [c]; simpa using a, by rw [c]⟩)))
theorem tk_good : ∀ t : Tr, t.wf → t.rg → ∀ x ∈ t.tk, GoodT x
  | .val v, hw, hg => good_lit hw hg
  | .col t n, hw, hg => by
    obtain ⟨h1, h2⟩ : isNm n = true ∧ (t = [] ∨ isNm t = true) := hw
    intro x hx
    rw [Tr.tk] at hx
    split at hx
    · simp only [List.mem_cons, List.not_mem_nil, or_false] at hx
      subst hx
      exact gN h1
    · rename_i ht
      simp only [List.mem_cons, List.not_mem_nil, or_false] at hx
      rcases hx with rfl | rfl | rfl
      · exact gN (h2.resolve_left ht)
      · exact gS (by decide)
      · exact gN h1
  | .null e, hw, hg => by
    intro x hx
    rw [tk_null, List.mem_append] at hx
    rcases hx with hx | hx
    · exact good_br (tk_good e hw hg) x hx
    · simp only [List.mem_cons, List.not_mem_nil, or_false] at hx
      rcases hx with rfl | rfl <;> exact gW (by decide +kernel)
  | .neg e, hw, hg => by
    intro x hx
    rw [tk_neg, List.mem_cons] at hx
    rcases hx with rfl | hx
    · exact gS (by decide)
    · exact good_br (good_br (tk_good e hw hg)) x hx
  | .not (.null y), hw, hg => by
    intro x hx
    rw [tk_notnull, List.mem_append] at hx
    rcases hx with hx | hx
    · exact good_br (tk_good y hw hg) x hx
    · simp only [List.mem_cons, List.not_mem_nil, or_false] at hx
      rcases hx with rfl | rfl | rfl <;> exact gW (by decide +kernel)
  | .not (.val v), hw, hg => good_not rfl (tk_good (.val v) hw hg)
  | .not (.col t n), hw, hg => good_not rfl (tk_good (.col t n) hw hg)
  | .not (.not e), hw, hg => good_not rfl (tk_good (.not e) hw hg)
  | .not (.neg e), hw, hg => good_not rfl (tk_good (.neg e) hw hg)
  | .not (.op k a b), hw, hg => good_not rfl (tk_good (.op k a b) hw hg)
  | .op k a b, hw, hg => by
    intro x hx
    rw [tk_op, List.mem_append, List.mem_cons] at hx
    rcases hx with hx | rfl | hx
    · exact good_br (tk_good a hw.2.1 hg.1) x hx
    · exact good_op hw.1.1 hw.1.2
    · exact good_br (tk_good b hw.2.2 hg.2) x hx
where good_not {e : Tr} (he : e.isNull = false) (h : ∀ x ∈ e.tk, GoodT x) : ∀ x ∈ (Tr.not e).tk, GoodT x := by
        intro x hx
        rw [tk_not he, List.mem_cons] at hx
        rcases hx with rfl | hx
        · exact gW (by decide +kernel)
        · exact good_br h x hx
theorem words_len : ∀ s ∈ words, s.length ≤ 16 := by decide +kernel
theorem signs_len : ∀ s ∈ signs, s.length ≤ 2 := by decide +kernel
theorem txt_len {t : Tk} (h : GoodT t) : (txt t).length ≤ 82 := by
  obtain ⟨k, s, n, a⟩ := t
  rcases h with ⟨rfl, h1, rfl⟩ | ⟨rfl, h1, rfl⟩ | ⟨rfl, rfl, h1⟩ | ⟨rfl, h1, rfl⟩ | ⟨rfl, h1, rfl⟩
  · have h2 : s.length ≤ 16 := (isNm_iff h1).2.1
    show s.length ≤ 82; omega
  · have := words_len s (known_mem h1); show s.length ≤ 82; omega
  · have h1 : n ≤ 9223372036854775807 := h1
    have := dec_len n 19 (by omega); show (dec n).length ≤ 82; omega
  · have := quo_len s; show (quoteL s).length ≤ 82; unfold quoteL; simp at h1 ⊢; omega
  · have := signs_len s h1; show s.length ≤ 82; omega
theorem joinS_le : ∀ l : List By, (∀ x ∈ l, x.length ≤ 82) → (joinS l).length ≤ 83 * l.length
  | [], _ => Nat.zero_le _
  | [a], h => by have := h a (by simp); show a.length ≤ 83 * 1; omega
  | a :: b :: r, h => by
    have := h a (by simp)
    have ih := joinS_le (b :: r) (fun x hx => h x (by simp [hx]))
    have e : joinS (a :: b :: r) = a ++ 32 :: joinS (b :: r) := rfl
    rw [e]
    simp only [List.length_append, List.length_cons] at ih ⊢
    omega
theorem writeT_len {l : List Tk} (h : ∀ x ∈ l, GoodT x) : (writeT l).length ≤ 83 * l.length := by
  unfold writeT
  have h1 := joinS_le (txts l) (fun x hx => by
    unfold txts at hx
    obtain ⟨t, ht, rfl⟩ := List.mem_map.1 hx
    exact txt_len (h t (List.mem_filter.1 ht).1))
  have h2 : (txts l).length ≤ l.length := by
    unfold txts
    rw [List.length_map]
    exact List.length_filter_le _ _
  omega
theorem lim_rg : ∀ t : Tr, Lim t.ex → t.rg
  | .val v, h => by cases h with | mk _ _ _ _ _ _ _ hr _ => exact hr.2.2.2
  | .col t n, h => trivial
  | .null e, h => by cases h with | mk _ _ _ _ _ _ _ hr hl => exact lim_rg e (hl _ (by simp))
  | .neg e, h => by cases h with | mk _ _ _ _ _ _ _ hr hl => exact lim_rg e (hl _ (by simp))
  | .not e, h => by cases h with | mk _ _ _ _ _ _ _ hr hl => exact lim_rg e (hl _ (by simp))
  | .op k a b, h => by cases h with | mk _ _ _ _ _ _ _ hr hl => exact ⟨lim_rg a (hl _ (by simp)), lim_rg b (hl _ (by simp))⟩
end Go.Print

set_option linter.unusedSimpArgs false
set_option linter.unusedVariables false
namespace Go.Proofs.YtjdapkelojdefaaGreatDoor
open Go Go.V Go.Lex Go.Parse Go.Print
theorem good_wr {t : Tk} (h : GoodT t) : WrOK t := by
  obtain ⟨k, s, n, a⟩ := t
  rcases h with ⟨rfl, h1, rfl⟩ | ⟨rfl, h1, rfl⟩ | ⟨rfl, rfl, h1⟩ | ⟨rfl, h1, rfl⟩ | ⟨rfl, h1, rfl⟩
  · have h2 : s.length ≤ 16 := (isNm_iff h1).2.1
    exact ⟨by show 0 < _; omega, fun h => (by cases h), by show s.length ≤ 2000; omega⟩
  · have h2 : s.length ≤ 16 := words_len s (known_mem h1)
    exact ⟨by show 0 < _; omega, fun h => (by cases h), by show s.length ≤ 2000; omega⟩
  · have h2 : n ≤ 9223372036854775807 := h1
    exact ⟨by show n < _; omega, fun h => (by cases h), by show ([] : By).length ≤ 2000; simp⟩
  · have h2 : s.length ≤ 40 := h1
    exact ⟨by show 0 < _; omega, fun h => h2, by show s.length ≤ 2000; omega⟩
  · have h2 : s.length ≤ 2 := signs_len s h1
    exact ⟨by show 0 < _; omega, fun h => (by cases h), by show s.length ≤ 2000; omega⟩
theorem w_end (B B' : Sg) (ω τ : Nat) (l : List Tk) (d : Int) (m : Nat) (hsub : B'.sub (WS B ω τ l d m)) (hg : ∀ x ∈ l, GoodT x) (hl : l.length ≤ 2 ^ 30) : VCalls Tryz.prog 22 [.ref ω 0] (WS B ω τ l d m) (fun x σ' => x = .tup [.s (bs (fin l m).1), .i (fin l m).2] ∧ σ' = B') := by
  have hwl := writeT_len hg
  have hW := j_write l (.tok τ 4) (fun x hx => good_wr (hg x hx)) (by omega) (by omega)
  unfold fin
  (refine vfun (fun _ => .no) mixed Tryz.func22 (by kernel_rfl) ?_; simp only [bodyOf, Tryz.f22, zr])
  repeat' (first | with_reducible rfl | exact trivial | exact .inr trivial | (with_reducible first | apply And.intro | apply vqx_step | apply vqm_step | refine vkp_free (by decide +kernel) ?_ | intro _) | refine zaY (j4 ui0 ui3 ui4 (j9 ui9 ui30 ui55 ui56 ui57 ui58 ui59 ui101 ui102)) ?_ | ((first | ((with_reducible refine zy (hW _) ?_); rintro _ S ⟨rfl, rfl⟩) | ((with_reducible refine zy (j_write _ _ (by assumption) (by assumption) (by assumption) _) ?_); rintro _ S ⟨rfl, rfl⟩) | (refine vlo_app zx ?_) | (refine vst_app zx ?_)); (try refine zsY (j4 ui0 ui3 ui4 (j9 ui9 ui30 ui55 ui56 ui57 ui58 ui59 ui101 ui102)) ?_)) | (with_reducible first | refine vfresh_set ?_ | refine vfresh_intro (fun _ _ => ?_) | refine vif_intro (fun _ => ?_) (fun _ => ?_)) | omega | refine ztY (j4 ui0 ui3 ui4 (j9 ui9 ui30 ui55 ui56 ui57 ui58 ui59 ui101 ui102)) ?_ | fail)
  · exact ⟨B', hsub, by rw [if_pos (by omega)], rfl⟩
  · exact ⟨B', hsub, by rw [if_neg (by omega), if_pos (by omega)], rfl⟩
  · exact ⟨B', hsub, by rw [if_neg (by omega), if_neg (by omega)], rfl⟩
theorem w_Expr (e : Ex) (hL : Lim e) (hlen : rt e = true → (toTr e).tk.length ≤ 2 ^ 30) (σ : Sg) : VCalls Tryz.prog 11 [.agg (exA e)] σ (fun x σ' => x = .tup [.s (bs (exprR e).1), .i (exprR e).2] ∧ σ' = σ) := by
  have hel := exA_len e
  have het := exA_take e
  have hr := r_right e hL
  unfold exprR
  cases hb : rt e with
  | false =>
    rw [hb] at hr
    generalize exA e = E at *
    (refine vfun (fun k => if k = 1 then .ro else .no) mixed Tryz.func11 (by kernel_rfl) ?_; simp only [bodyOf, Tryz.f11, zr])
    repeat' (first | with_reducible rfl | exact trivial | exact .inr trivial | (with_reducible first | apply And.intro | apply vqx_step | apply vqm_step | refine vkp_free (by decide +kernel) ?_ | intro _) | refine zaY (j4 ui0 ui3 ui4 (j9 ui9 ui22 ui23 ui24 ui25 ui26 ui30 ui31 (j9 ui55 ui56 ui57 ui58 ui59 ui101 ui102 hel het))) ?_ | ((first | ((with_reducible refine zy (hr _) ?_); rintro _ S ⟨rfl, rfl⟩) | ((with_reducible refine zy (r_right _ (by assumption) _) ?_); rintro _ S ⟨rfl, rfl⟩) | (refine vlo_app zx ?_) | (refine vst_app zx ?_)); (try refine zsY (j4 ui0 ui3 ui4 (j9 ui9 ui22 ui23 ui24 ui25 ui26 ui30 ui31 (j9 ui55 ui56 ui57 ui58 ui59 ui101 ui102 hel het))) ?_)) | (with_reducible first | refine vfresh_set ?_ | refine vfresh_intro (fun _ _ => ?_) | refine vif_intro (fun _ => ?_) (fun _ => ?_)) | omega | refine ztY (j4 ui0 ui3 ui4 (j9 ui9 ui22 ui23 ui24 ui25 ui26 ui30 ui31 (j9 ui55 ui56 ui57 ui58 ui59 ui101 ui102 hel het))) ?_ | fail)
    all_goals exact ⟨_, .refl _, rfl⟩
  | true =>
    rw [hb] at hr
    obtain ⟨q1, q2⟩ := toTr_ok e hb
    have hlen := hlen hb
    have hrg := lim_rg (toTr e) (by rw [q1]; exact hL)
    have hX : Cx (toTr e) := cx_all (toTr e) q2 hrg
    have hdp := dp_le (toTr e)
    have hgd := tk_good (toTr e) q2 hrg
    unfold Cx Wr at hX
    rw [q1] at hX
    generalize (toTr e).tk = TT at *
    generalize (toTr e).dp = D at *
    generalize exA e = E at *
    have hX0 : ∀ (S : Sg) (ω : Nat), S ω = some (.cells 59 [.sl .nil [], .i 0, .i 0]) → VCalls Tryz.prog 21 [.ref ω 0, .agg E] S (fun x σ' => x = .tup [] ∧ ∃ τ', okS S ω τ' ∧ σ' = WS S ω τ' TT 0 (D : Nat)) := fun S ω hS => by
      refine VCalls.tok0 (e := 102) 0 4 hS rfl (fun τ hτ hne => ?_)
      have := hX S ω τ [] 0 0 ⟨hτ, hne⟩ (by omega) (by omega) (by omega) (by omega) (by simp; omega)
      rw [List.nil_append] at this
      refine zy this (fun x σ' hx => ?_)
      obtain ⟨rfl, τ', ok, rfl⟩ := hx
      exact ⟨rfl, τ', ok, WS_eq rfl rfl (by omega)⟩
    (refine vfun (fun k => if k = 1 then .ro else .no) mixed Tryz.func11 (by kernel_rfl) ?_; simp only [bodyOf, Tryz.f11, zr])
    repeat' (first | with_reducible rfl | exact trivial | exact .inr trivial | (with_reducible first | apply And.intro | apply vqx_step | apply vqm_step | refine vkp_free (by decide +kernel) ?_ | intro _) | refine zaY (j4 ui0 ui3 ui4 (j9 ui9 ui22 ui23 ui24 ui25 ui26 ui30 ui31 (j9 ui55 ui56 ui57 ui58 ui59 ui101 ui102 hel het))) ?_ | ((first | ((with_reducible refine zy (hr _) ?_); rintro _ S ⟨rfl, rfl⟩) | ((with_reducible refine zy (hX0 _ _ (by first | assumption | ((simp (disch := first | assumption | (apply Go.Cert.ne_of2; assumption; assumption) | (apply Go.Cert.ne_ob; assumption; assumption; (intro e; cases e; done)) | omega) only [Sg.set_same, Sg.set_ne, Sg.set_ne', Sg.del_ne, Sg.del_ne']); first | done | rfl | assumption))) ?_); rintro _ S ⟨rfl, τ1, hok, rfl⟩) | ((with_reducible refine zy (r_right _ (by assumption) _) ?_); rintro _ S ⟨rfl, rfl⟩) | (refine vlo_app zx ?_) | (refine vst_app zx ?_)); (try refine zsY (j4 ui0 ui3 ui4 (j9 ui9 ui22 ui23 ui24 ui25 ui26 ui30 ui31 (j9 ui55 ui56 ui57 ui58 ui59 ui101 ui102 hel het))) ?_)) | (with_reducible first | refine vfresh_set ?_ | refine vfresh_intro (fun _ _ => ?_) | refine vif_intro (fun _ => ?_) (fun _ => ?_)) | omega | refine ztY (j4 ui0 ui3 ui4 (j9 ui9 ui22 ui23 ui24 ui25 ui26 ui30 ui31 (j9 ui55 ui56 ui57 ui58 ui59 ui101 ui102 hel het))) ?_ | fail)
    rename_i ω hω
    obtain ⟨f1, n1⟩ := hok
    have f1 := (Sg.none_set f1).2
    refine zy (w_end _ S ω τ1 TT 0 D ?_ hgd hlen) ?_
    · (exact Go.V.zu)
    rintro _ S2 ⟨rfl, rfl⟩
    simp only [vO, vQ, ↓vP, vE, vS, vB, vL, vF, vM, vN, vbs_full, zb, zc, zd, ne_eq, not_false_eq_true, ze, zf, zj, zk, vT]
    repeat' (first | with_reducible rfl | exact trivial | exact .inr trivial | (with_reducible first | apply And.intro | apply vqx_step | apply vqm_step | refine vkp_free (by decide +kernel) ?_ | intro _) | refine zaY (j2 ui0 (j9 ui3 ui4 ui9 ui22 ui23 ui24 ui25 ui26 (j9 ui30 ui31 ui55 ui56 ui57 ui58 ui59 ui101 ui102))) ?_ | ((first | ((with_reducible refine zy (r_right _ (by assumption) _) ?_); rintro _ S ⟨rfl, rfl⟩) | (refine vlo_app zx ?_) | (refine vst_app zx ?_)); (try refine zsY (j2 ui0 (j9 ui3 ui4 ui9 ui22 ui23 ui24 ui25 ui26 (j9 ui30 ui31 ui55 ui56 ui57 ui58 ui59 ui101 ui102))) ?_)) | (with_reducible first | refine vfresh_set ?_ | refine vfresh_intro (fun _ _ => ?_) | refine vif_intro (fun _ => ?_) (fun _ => ?_)) | omega | refine ztY (j2 ui0 (j9 ui3 ui4 ui9 ui22 ui23 ui24 ui25 ui26 (j9 ui30 ui31 ui55 ui56 ui57 ui58 ui59 ui101 ui102))) ?_ | fail)
    all_goals exact ⟨_, .refl _, rfl⟩
end Go.Proofs.YtjdapkelojdefaaGreatDoor

set_option linter.unusedSimpArgs false
set_option linter.unusedVariables false
namespace Go.Proofs.YtjdapkelojdefaaGreatDoor
open Go Go.V Go.Lex Go.Parse Go.Print
theorem by1 {m : Nat} (h : m < 10) : [[AV.val (.int .u8 (48 + (m : Int)))]] = bytesAV (bs [UInt8.ofNat (48 + m)]) := by
  rw [bs_bytes]
  show _ = [[AV.u8 ((UInt8.ofNat (48 + m)).toNat : Int)]]
  rw [ofNat_toNat h]
  rfl
theorem k_digits : ∀ (n : Nat), n < 9223372036854775808 → ∀ σ, VCalls Tryz.prog 159 [.i n] σ (fun x σ' => x = .s (bs (dec n)) ∧ σ' = σ) := by
  intro n
  induction n using Nat.strongRecOn with
  | ind n ih =>
    intro hn σ
    by_cases h : n < 10
    · rw [dec_lt h]
      have hu := by1 h
      (refine vfun (fun _ => .no) mixed Tryz.func159 (by kernel_rfl) ?_; simp only [bodyOf, Tryz.f159, zr])
      repeat' (first | with_reducible rfl | exact trivial | exact .inr trivial | (with_reducible first | apply And.intro | apply vqx_step | apply vqm_step | refine vkp_free (by decide +kernel) ?_ | intro _) | refine zaY (j5 ui3 ui4 ui5 ui9 ui150) ?_ | ((first | (refine ⟨bs [UInt8.ofNat (48 + n)], hu, ?_⟩) | (refine vlo_app zx ?_) | (refine vst_app zx ?_)); (try refine zsY (j5 ui3 ui4 ui5 ui9 ui150) ?_)) | (with_reducible first | refine vfresh_set ?_ | refine vfresh_intro (fun _ _ => ?_) | refine vif_intro (fun _ => ?_) (fun _ => ?_)) | omega | refine ztY (j5 ui3 ui4 ui5 ui9 ui150) ?_ | fail)
      all_goals exact ⟨_, .refl _, rfl⟩
    · rw [dec_ge h]
      have hu := by1 (m := n % 10) (by omega)
      have h1 := ih (n / 10) (by omega) (by omega)
      have hdl := dec_len (n / 10) 18 (by omega)
      have hq : (n : Int).tdiv 10 = ((n / 10 : Nat) : Int) := rfl
      have hr : (n : Int).tmod 10 = ((n % 10 : Nat) : Int) := rfl
      have hqb : n / 10 < 9223372036854775808 := by omega
      have hrb : n % 10 < 10 := by omega
      generalize dec (n / 10) = D at *
      generalize n / 10 = q at *
      generalize n % 10 = r at *
      (refine vfun (fun _ => .no) mixed Tryz.func159 (by kernel_rfl) ?_; simp only [bodyOf, Tryz.f159, zr])
      repeat' (first | with_reducible rfl | exact trivial | exact .inr trivial | (with_reducible first | apply And.intro | apply vqx_step | apply vqm_step | refine vkp_free (by decide +kernel) ?_ | intro _) | ((with_reducible refine .dms (fun x => False) [(0, false), (1, false), (3, false), (4, false), (5, false), (6, false), (7, false), (8, false), (2, true), (9, true), (10, true)] (by decide) (by decide +kernel) ?_); (refine zsR (j7 ui3 ui4 ui5 ui9 ui150 hq hr) ?_)) | ((with_reducible refine .dm (fun x => False) [(0, false), (1, false), (3, false), (4, false), (5, false), (6, false), (7, false), (8, false), (2, true), (9, true), (10, true)] (by decide) (by decide +kernel) ?_); (refine zsR (j7 ui3 ui4 ui5 ui9 ui150 hq hr) ?_)) | refine zaR (j7 ui3 ui4 ui5 ui9 ui150 hq hr) ?_ | refine zkN (j7 ui3 ui4 ui5 ui9 ui150 hq hr) ?_ | ((first | (refine vkp_keep (by intro β h; first | (rcases h with h | h <;> subst h <;> (simp (disch := first | assumption | (apply Go.Cert.ne_of2; assumption; assumption) | (apply Go.Cert.ne_ob; assumption; assumption; (intro e; cases e; done)) | omega) only [Sg.set_same, Sg.set_ne, Sg.set_ne', Sg.del_ne, Sg.del_ne'])) | (subst h; (simp (disch := first | assumption | (apply Go.Cert.ne_of2; assumption; assumption) | (apply Go.Cert.ne_ob; assumption; assumption; (intro e; cases e; done)) | omega) only [Sg.set_same, Sg.set_ne, Sg.set_ne', Sg.del_ne, Sg.del_ne']))) ?_) | ((with_reducible refine zy (h1 _) ?_); rintro _ S ⟨rfl, rfl⟩) | (refine ⟨bs [UInt8.ofNat (48 + r)], hu, ?_⟩) | (refine vlo_app zx ?_) | (refine vst_app zx ?_)); (try refine zsR (j7 ui3 ui4 ui5 ui9 ui150 hq hr) ?_)) | refine zmR (j7 ui3 ui4 ui5 ui9 ui150 hq hr) ?_ | (with_reducible first | refine vfresh_set ?_ | refine vfresh_intro (fun _ _ => ?_) | refine vif_intro (fun _ => ?_) (fun _ => ?_)) | omega | refine ztR (j7 ui3 ui4 ui5 ui9 ui150 hq hr) ?_ | fail)
      all_goals exact ⟨_, .refl _, rfl⟩
theorem k_number (n : Nat) (hn : n < 9223372036854775808) (σ : Sg) : VCalls Tryz.prog 114 [.i n] σ (fun x σ' => x = .s (bs (dec n)) ∧ σ' = σ) := by
  have hd := k_digits n hn
  (refine vfun (fun _ => .no) mixed Tryz.func114 (by kernel_rfl) ?_; simp only [bodyOf, Tryz.f114, zr])
  repeat' (first | with_reducible rfl | exact trivial | exact .inr trivial | (with_reducible first | apply And.intro | apply vqx_step | apply vqm_step | refine vkp_free (by decide +kernel) ?_ | intro _) | refine zaY (j3 ui3 ui4 ui9) ?_ | ((first | ((with_reducible refine zy (hd _) ?_); rintro _ S ⟨rfl, rfl⟩) | (refine vlo_app zx ?_) | (refine vst_app zx ?_)); (try refine zsY (j3 ui3 ui4 ui9) ?_)) | (with_reducible first | refine vfresh_set ?_ | refine vfresh_intro (fun _ _ => ?_) | refine vif_intro (fun _ => ?_) (fun _ => ?_)) | omega | refine ztY (j3 ui3 ui4 ui9) ?_ | fail)
  all_goals exact ⟨_, .refl _, rfl⟩
theorem quo_step1 {t : By} {k : Nat} (h : k < t.length) : quo (t.take (k + 1)) = quo (t.take k) ++ (if (t.getD k 0).toNat = 39 then [39] else []) ++ [t.getD k 0] := by
  have hg : t.getD k 0 = t[k] := by simp [List.getD_eq_getElem?_getD, List.getElem?_eq_getElem h]
  rw [hg, List.take_succ_eq_append_getElem h]
  have happ : ∀ (a : By) (c : UInt8), quo (a ++ [c]) = quo a ++ (if c.toNat = 39 then [39] else []) ++ [c] := by
    intro a c
    induction a with
    | nil =>
      by_cases hc : c.toNat = 39
      · have : c = 39 := (eq39 c).2 hc
        subst this; rfl
      · have : c ≠ 39 := fun e => hc ((eq39 c).1 e)
        rw [if_neg hc]
        simp [quo, this]
    | cons x r ih =>
      rw [List.cons_append, quo, quo, ih]
      split <;> simp
  exact happ _ _
theorem k_literal (t : By) (ht : t.length ≤ 40) (σ : Sg) : VCalls Tryz.prog 115 [.agg [.i 2, .i 0, .s (bs t)]] σ (fun x σ' => x = .s (bs (quoteL t)) ∧ σ' = σ) := by
  (refine vfun (fun _ => .ro) mixed Tryz.func115 (by kernel_rfl) ?_; simp only [bodyOf, Tryz.f115, zr])
  repeat' (first | with_reducible rfl | exact trivial | exact .inr trivial | (with_reducible first | apply And.intro | apply vqx_step | apply vqm_step | refine vkp_free (by decide +kernel) ?_ | intro _) | refine zaY (j7 ui0 ui3 ui4 ui5 ui9 ui22 ui23) ?_ | ((first | ((with_reducible refine zy (k_number _ (by assumption) _) ?_); rintro _ S ⟨rfl, rfl⟩) | (refine vlo_app zx ?_) | (refine vst_app zx ?_)); (try refine zsY (j7 ui0 ui3 ui4 ui5 ui9 ui22 ui23) ?_)) | (with_reducible first | refine vfresh_set ?_ | refine vfresh_intro (fun _ _ => ?_) | refine vif_intro (fun _ => ?_) (fun _ => ?_)) | omega | refine ztY (j7 ui0 ui3 ui4 ui5 ui9 ui22 ui23) ?_ | fail)
  refine VW.loop3 (0 : Nat) () () (fun k _ _ => k ≤ t.length) (fun k _ _ => [(1, .ro [.i 2, .i 0, .s (bs t)]), (3, .s (bs (39 :: quo (t.take k)))), (4, .i k)]) (fun _ _ _ => σ) (fun k _ _ => t.length - k) (Nat.zero_le _) (.refl _) ?_ ?_
  · simp only [vO, vQ, ↓vP, vE, vS, vB, vL, vF, vM, vN, vbs_full, zb, zc, zd, ne_eq, not_false_eq_true, ze, zf, zj, zk, vT]
    exact ⟨rfl, rfl⟩
  rintro k _ _ hk
  have hql := quo_len (t.take k)
  rw [List.length_take] at hql
  rcases Nat.lt_or_ge k t.length with hk2 | hk2
  · have hs := quo_step1 hk2
    have hsl : (t.take (k + 1)).drop k = [t.getD k 0] := by
      rw [List.take_succ_eq_append_getElem hk2, List.drop_append_of_le_length (by simp; omega)]
      simp [List.getD_eq_getElem?_getD, List.getElem?_eq_getElem hk2]
    generalize quo (t.take k) = Q at *
    generalize hcc : t.getD k 0 = c at *
    repeat' (first | with_reducible rfl | exact trivial | exact .inr trivial | (with_reducible first | apply And.intro | apply vqx_step | apply vqm_step | refine vkp_free (by decide +kernel) ?_ | intro _) | refine zaY (j8 ui0 ui3 ui4 ui5 ui9 ui22 ui23 hsl) ?_ | ((first | ((with_reducible refine zy (k_number _ (by assumption) _) ?_); rintro _ S ⟨rfl, rfl⟩) | (refine vlo_app zx ?_) | (refine vst_app zx ?_)); (try refine zsY (j8 ui0 ui3 ui4 ui5 ui9 ui22 ui23 hsl) ?_)) | (with_reducible first | refine vfresh_set ?_ | refine vfresh_intro (fun _ _ => ?_) | refine vif_intro (fun _ => ?_) (fun _ => ?_)) | omega | refine ztY (j8 ui0 ui3 ui4 ui5 ui9 ui22 ui23 hsl) ?_ | fail)
    · simp only [List.length_append, List.length_cons, List.length_nil]; omega
    · rename_i hx
      rw [hcc] at hx
      exact ⟨k + 1, (), (), ⟨hk2, by omega⟩, .refl _, by rw [hs, if_pos (by omega)], rfl⟩
    · rename_i hx
      rw [hcc] at hx
      exact ⟨k + 1, (), (), ⟨hk2, by omega⟩, .refl _, by rw [hs, if_neg (by omega), List.append_nil], rfl⟩
  · rw [List.take_of_length_le hk2] at hql ⊢
    repeat' (first | with_reducible rfl | exact trivial | exact .inr trivial | (with_reducible first | apply And.intro | apply vqx_step | apply vqm_step | refine vkp_free (by decide +kernel) ?_ | intro _) | refine zaY (j7 ui0 ui3 ui4 ui5 ui9 ui22 ui23) ?_ | ((first | ((with_reducible refine zy (k_number _ (by assumption) _) ?_); rintro _ S ⟨rfl, rfl⟩) | (refine vlo_app zx ?_) | (refine vst_app zx ?_)); (try refine zsY (j7 ui0 ui3 ui4 ui5 ui9 ui22 ui23) ?_)) | (with_reducible first | refine vfresh_set ?_ | refine vfresh_intro (fun _ _ => ?_) | refine vif_intro (fun _ => ?_) (fun _ => ?_)) | omega | refine ztY (j7 ui0 ui3 ui4 ui5 ui9 ui22 ui23) ?_ | fail)
    all_goals exact ⟨_, .refl _, rfl, rfl⟩
theorem joinS_app : ∀ (l : List By) (x : By), joinS (l ++ [x]) = (if l = [] then [] else joinS l ++ [32]) ++ x
  | [], x => rfl
  | a :: r, x => by
    rw [joinS_snoc _ _ (by simp), if_neg (by simp)]
    simp
theorem join_le (l : List By) (k : Nat) : (joinS (l.take k)).length ≤ (joinS l).length := by
  by_cases h : l.take k = []
  · rw [h]; simp [joinS]
  · have hl : l ≠ [] := fun e => by rw [e] at h; simp at h
    have h1 := join_len _ h
    have h2 := join_len l hl
    have h3 := lenL_le l k
    have h4 : (l.take k).length ≤ l.length := by rw [List.length_take]; omega
    omega
theorem txts_le (l : List Tk) (k : Nat) : ∃ j, txts (l.take k) = (txts l).take j := by
  refine ⟨(txts (l.take k)).length, ?_⟩
  have : txts l = txts (l.take k) ++ txts (l.drop k) := by
    unfold txts
    rw [← List.map_append, ← List.filter_append, List.take_append_drop]
  rw [this, List.take_left]
theorem k_write (l : List Tk) (o : Own) (h : ∀ t ∈ l, WrOK t) (hn : l.length ≤ 2 ^ 36) (hl : (writeT l).length ≤ 2 ^ 38) (σ : Sg) : VCalls Tryz.prog 57 [.sl o (tksA l)] σ (fun x σ' => x = .s (bs (writeT l)) ∧ σ' = σ) := by
  have hlen := tksA_len l
  unfold writeT at hl ⊢
  (refine vfun (fun _ => .no) mixed Tryz.func57 (by kernel_rfl) ?_; simp only [bodyOf, Tryz.f57, zr])
  repeat' (first | with_reducible rfl | exact trivial | exact .inr trivial | (with_reducible first | apply And.intro | apply vqx_step | apply vqm_step | refine vkp_free (by decide +kernel) ?_ | intro _) | refine zaY (j2 ui0 (j9 ui3 ui4 ui9 ui22 ui23 ui56 ui101 ui102 hlen)) ?_ | ((first | ((with_reducible refine zy (k_number _ (by assumption) _) ?_); rintro _ S ⟨rfl, rfl⟩) | ((with_reducible refine zy (k_literal _ (by assumption) _) ?_); rintro _ S ⟨rfl, rfl⟩) | (refine vlo_app zx ?_) | (refine vst_app zx ?_)); (try refine zsY (j2 ui0 (j9 ui3 ui4 ui9 ui22 ui23 ui56 ui101 ui102 hlen)) ?_)) | (with_reducible first | refine vfresh_set ?_ | refine vfresh_intro (fun _ _ => ?_) | refine vif_intro (fun _ => ?_) (fun _ => ?_)) | omega | refine ztY (j2 ui0 (j9 ui3 ui4 ui9 ui22 ui23 ui56 ui101 ui102 hlen)) ?_ | fail)
  refine VW.loop3 (0 : Nat) () () (fun k _ _ => k ≤ l.length) (fun k _ _ => [(0, .sl o (tksA l)), (3, .s (bs (joinS (txts (l.take k))))), (4, .b (decide (txts (l.take k) ≠ []))), (5, .i k)]) (fun _ _ _ => σ) (fun k _ _ => l.length - k) (Nat.zero_le _) (.refl _) ?_ ?_
  · simp only [vO, vQ, ↓vP, vE, vS, vB, vL, vF, vM, vN, vbs_full, zb, zc, zd, ne_eq, not_false_eq_true, ze, zf, zj, zk, vT]
    exact ⟨rfl, rfl, rfl⟩
  rintro k _ _ hk
  rcases Nat.lt_or_ge k l.length with hk2 | hk2
  · have hg := tksA_get hk2
    have hok : WrOK (l.getD k (0, [], 0, 0)) := h _ (by simp [List.getD_eq_getElem?_getD, List.getElem?_eq_getElem hk2])
    have htt := txts_take hk2
    have hj1 : (joinS (txts (l.take k))).length ≤ 2 ^ 38 := by
      obtain ⟨j, hj⟩ := txts_le l k
      rw [hj]
      have := join_le (txts l) j
      omega
    have hj2 : (joinS (txts (l.take (k + 1)))).length ≤ 2 ^ 38 := by
      obtain ⟨j, hj⟩ := txts_le l (k + 1)
      rw [hj]
      have := join_le (txts l) j
      omega
    generalize l.getD k (0, [], 0, 0) = t at *
    have htA : tkA t = [.i t.1, .s (bs t.2.1), .i t.2.2.1, .i t.2.2.2] := rfl
    rw [htA] at hg
    generalize txts (l.take k) = W at *
    obtain ⟨q1, q2, q3⟩ := hok
    have h7b : t.1 = 4 → ∀ σ, VCalls Tryz.prog 115 [.agg [.i 2, .i 0, .s (bs t.2.1)]] σ _ := fun h4 => k_literal t.2.1 (q2 h4)
    have hnum := k_number t.2.2.1 q1
    have hdl := dec_len t.2.2.1 18 (by omega)
    have hql := quo_len t.2.1
    have hqq : (quoteL t.2.1).length = (quo t.2.1).length + 2 := by unfold quoteL; simp
    unfold txt at htt
    by_cases hW : W = []
    · subst hW
      repeat' (first | with_reducible rfl | exact trivial | exact .inr trivial | (with_reducible first | apply And.intro | apply vqx_step | apply vqm_step | refine vkp_free (by decide +kernel) ?_ | intro _) | refine zaY (j3 ui0 ui3 (j9 ui4 ui9 ui22 ui23 ui56 ui101 ui102 hlen hg)) ?_ | ((first | ((with_reducible refine zy (hnum _) ?_); rintro _ S ⟨rfl, rfl⟩) | ((with_reducible refine zy (h7b (by omega) _) ?_); rintro _ S ⟨rfl, rfl⟩) | ((with_reducible refine zy (k_number _ (by assumption) _) ?_); rintro _ S ⟨rfl, rfl⟩) | ((with_reducible refine zy (k_literal _ (by assumption) _) ?_); rintro _ S ⟨rfl, rfl⟩) | (refine vlo_app zx ?_) | (refine vst_app zx ?_)); (try refine zsY (j3 ui0 ui3 (j9 ui4 ui9 ui22 ui23 ui56 ui101 ui102 hlen hg)) ?_)) | (with_reducible first | refine vfresh_set ?_ | refine vfresh_intro (fun _ _ => ?_) | refine vif_intro (fun _ => ?_) (fun _ => ?_)) | omega | refine ztY (j3 ui0 ui3 (j9 ui4 ui9 ui22 ui23 ui56 ui101 ui102 hlen hg)) ?_ | fail)
      all_goals first | (exact ⟨k + 1, (), (), ⟨hk2, by omega⟩, .refl _, by rw [htt, if_pos (by omega), List.append_nil], by (rw [htt, if_pos (by omega), List.append_nil]; first | rfl | (simp; done) | simp [hW]), rfl⟩) | (exact ⟨k + 1, (), (), ⟨hk2, by omega⟩, .refl _, by (rw [htt, if_neg (by omega), joinS_app, if_pos rfl]; (repeat' split) <;> first | rfl | (exfalso; omega) | (simp; done)), by (rw [htt, if_neg (by omega)]; simp), rfl⟩) | (exfalso; omega)
    · have hdW : decide (W ≠ []) = true := decide_eq_true hW
      rw [hdW]
      repeat' (first | with_reducible rfl | exact trivial | exact .inr trivial | (with_reducible first | apply And.intro | apply vqx_step | apply vqm_step | refine vkp_free (by decide +kernel) ?_ | intro _) | refine zaY (j3 ui0 ui3 (j9 ui4 ui9 ui22 ui23 ui56 ui101 ui102 hlen hg)) ?_ | ((first | ((with_reducible refine zy (hnum _) ?_); rintro _ S ⟨rfl, rfl⟩) | ((with_reducible refine zy (h7b (by omega) _) ?_); rintro _ S ⟨rfl, rfl⟩) | ((with_reducible refine zy (k_number _ (by assumption) _) ?_); rintro _ S ⟨rfl, rfl⟩) | ((with_reducible refine zy (k_literal _ (by assumption) _) ?_); rintro _ S ⟨rfl, rfl⟩) | (refine vlo_app zx ?_) | (refine vst_app zx ?_)); (try refine zsY (j3 ui0 ui3 (j9 ui4 ui9 ui22 ui23 ui56 ui101 ui102 hlen hg)) ?_)) | (with_reducible first | refine vfresh_set ?_ | refine vfresh_intro (fun _ _ => ?_) | refine vif_intro (fun _ => ?_) (fun _ => ?_)) | omega | refine ztY (j3 ui0 ui3 (j9 ui4 ui9 ui22 ui23 ui56 ui101 ui102 hlen hg)) ?_ | fail)
      all_goals first | (exact ⟨k + 1, (), (), ⟨hk2, by omega⟩, .refl _, by rw [htt, if_pos (by omega), List.append_nil], by (rw [htt, if_pos (by omega), List.append_nil]; first | rfl | (simp; done) | simp [hW]), rfl⟩) | (exact ⟨k + 1, (), (), ⟨hk2, by omega⟩, .refl _, by (rw [htt, if_neg (by omega), joinS_app, if_neg hW]; (repeat' split) <;> first | rfl | (exfalso; omega) | (simp; done)), by (rw [htt, if_neg (by omega)]; simp), rfl⟩) | (exfalso; omega) | (simp only [List.length_append, List.length_cons, List.length_nil]; omega)
  · rw [List.take_of_length_le hk2]
    repeat' (first | with_reducible rfl | exact trivial | exact .inr trivial | (with_reducible first | apply And.intro | apply vqx_step | apply vqm_step | refine vkp_free (by decide +kernel) ?_ | intro _) | refine zaY (j2 ui0 (j9 ui3 ui4 ui9 ui22 ui23 ui56 ui101 ui102 hlen)) ?_ | ((first | ((with_reducible refine zy (k_number _ (by assumption) _) ?_); rintro _ S ⟨rfl, rfl⟩) | ((with_reducible refine zy (k_literal _ (by assumption) _) ?_); rintro _ S ⟨rfl, rfl⟩) | (refine vlo_app zx ?_) | (refine vst_app zx ?_)); (try refine zsY (j2 ui0 (j9 ui3 ui4 ui9 ui22 ui23 ui56 ui101 ui102 hlen)) ?_)) | (with_reducible first | refine vfresh_set ?_ | refine vfresh_intro (fun _ _ => ?_) | refine vif_intro (fun _ => ?_) (fun _ => ?_)) | omega | refine ztY (j2 ui0 (j9 ui3 ui4 ui9 ui22 ui23 ui56 ui101 ui102 hlen)) ?_ | fail)
    all_goals exact ⟨_, .refl _, rfl⟩
end Go.Proofs.YtjdapkelojdefaaGreatDoor

set_option linter.unusedSimpArgs false
set_option linter.unusedVariables false
namespace Go.Proofs.YtjdapkelojdefaaGreatDoor
open Go Go.V Go.Lex Go.Parse Go.Print
theorem y_lower (c : UInt8) (σ : Sg) : VCalls Tryz.prog 108 [.u8 c.toNat] σ (fun x σ' => x = .b (isFirst c) ∧ σ' = σ) := by
  (refine vfun (fun _ => .no) mixed Tryz.func108 (by kernel_rfl) ?_; simp only [bodyOf, Tryz.f108, zr])
  repeat' (first | with_reducible rfl | exact trivial | exact .inr trivial | (with_reducible first | apply And.intro | apply vqx_step | apply vqm_step | refine vkp_free (by decide +kernel) ?_ | intro _) | refine zaY (j2 ui4 ui5) ?_ | ((first | (refine vlo_app zx ?_) | (refine vst_app zx ?_)); (try refine zsY (j2 ui4 ui5) ?_)) | (with_reducible first | refine vfresh_set ?_ | refine vfresh_intro (fun _ _ => ?_) | refine vif_intro (fun _ => ?_) (fun _ => ?_)) | omega | refine ztY (j2 ui4 ui5) ?_ | fail)
  all_goals exact ⟨σ, .refl σ, b_eq (by simp [isFirst]; omega), rfl⟩
theorem y_upper (c : UInt8) (σ : Sg) : VCalls Tryz.prog 157 [.u8 c.toNat] σ (fun x σ' => x = .b (isGreat c) ∧ σ' = σ) := by
  (refine vfun (fun _ => .no) mixed Tryz.func157 (by kernel_rfl) ?_; simp only [bodyOf, Tryz.f157, zr])
  repeat' (first | with_reducible rfl | exact trivial | exact .inr trivial | (with_reducible first | apply And.intro | apply vqx_step | apply vqm_step | refine vkp_free (by decide +kernel) ?_ | intro _) | refine zaY (j2 ui4 ui5) ?_ | ((first | (refine vlo_app zx ?_) | (refine vst_app zx ?_)); (try refine zsY (j2 ui4 ui5) ?_)) | (with_reducible first | refine vfresh_set ?_ | refine vfresh_intro (fun _ _ => ?_) | refine vif_intro (fun _ => ?_) (fun _ => ?_)) | omega | refine ztY (j2 ui4 ui5) ?_ | fail)
  all_goals exact ⟨σ, .refl σ, b_eq (by simp [isGreat]; omega), rfl⟩
theorem y_digit (c : UInt8) (σ : Sg) : VCalls Tryz.prog 158 [.u8 c.toNat] σ (fun x σ' => x = .b (isDigit c) ∧ σ' = σ) := by
  (refine vfun (fun _ => .no) mixed Tryz.func158 (by kernel_rfl) ?_; simp only [bodyOf, Tryz.f158, zr])
  repeat' (first | with_reducible rfl | exact trivial | exact .inr trivial | (with_reducible first | apply And.intro | apply vqx_step | apply vqm_step | refine vkp_free (by decide +kernel) ?_ | intro _) | refine zaY (j2 ui4 ui5) ?_ | ((first | (refine vlo_app zx ?_) | (refine vst_app zx ?_)); (try refine zsY (j2 ui4 ui5) ?_)) | (with_reducible first | refine vfresh_set ?_ | refine vfresh_intro (fun _ _ => ?_) | refine vif_intro (fun _ => ?_) (fun _ => ?_)) | omega | refine ztY (j2 ui4 ui5) ?_ | fail)
  all_goals exact ⟨σ, .refl σ, b_eq (by simp [isDigit]; omega), rfl⟩
theorem y_run1 (s : By) (hs : s.length ≤ 2 ^ 60) (σ : Sg) : VCalls Tryz.prog 109 [.s (bs s), .i 0, .i 1] σ (fun x σ' => x = .i (pre isSmall s) ∧ σ' = σ) := by
  (refine vfun (fun _ => .no) mixed Tryz.func109 (by kernel_rfl) ?_; simp only [bodyOf, Tryz.f109, zr])
  repeat' (first | with_reducible rfl | exact trivial | exact .inr trivial | (with_reducible first | apply And.intro | apply vqx_step | apply vqm_step | refine vkp_free (by decide +kernel) ?_ | intro _) | refine zaY (j4 ui3 ui4 ui5 ui9) ?_ | ((first | ((with_reducible refine zy (y_lower _ _) ?_); rintro _ S ⟨rfl, rfl⟩) | ((with_reducible refine zy (y_upper _ _) ?_); rintro _ S ⟨rfl, rfl⟩) | ((with_reducible refine zy (y_digit _ _) ?_); rintro _ S ⟨rfl, rfl⟩) | (refine vlo_app zx ?_) | (refine vst_app zx ?_)); (try refine zsY (j4 ui3 ui4 ui5 ui9) ?_)) | (with_reducible first | refine vfresh_set ?_ | refine vfresh_intro (fun _ _ => ?_) | refine vif_intro (fun _ => ?_) (fun _ => ?_)) | omega | refine ztY (j4 ui3 ui4 ui5 ui9) ?_ | fail)
  refine VW.loop3 (0 : Nat) () () (fun k _ _ => k ≤ s.length ∧ k + pre isSmall (s.drop k) = pre isSmall s) (fun k _ _ => [(0, .s (bs s)), (1, .i 0), (2, .i 1), (7, .i k)]) (fun _ _ _ => σ) (fun k _ _ => s.length - k) ⟨Nat.zero_le _, by simp⟩ (.refl _) ?_ ?_
  · simp only [vO, vQ, ↓vP, vE, vS, vB, vL, vF, vM, vN, vbs_full, zb, zc, zd, ne_eq, not_false_eq_true, ze, zf, zj, zk, vT]
    all_goals rfl
  rintro k _ _ ⟨hk, hp⟩
  rcases Nat.lt_or_ge k s.length with hk2 | hk2
  · have hst := pre_step (p := isSmall) hk2
    have hsm : isSmall (s.getD k 0) = (isFirst (s.getD k 0) || isDigit (s.getD k 0)) := rfl
    rw [hsm] at hst
    repeat' (first | with_reducible rfl | exact trivial | exact .inr trivial | (with_reducible first | apply And.intro | apply vqx_step | apply vqm_step | refine vkp_free (by decide +kernel) ?_ | intro _) | refine zaY (j6 ui3 ui4 ui5 ui9 @Int.zero_add @Int.toNat_natCast) ?_ | ((first | ((with_reducible refine zy (y_lower _ _) ?_); rintro _ S ⟨rfl, rfl⟩) | ((with_reducible refine zy (y_upper _ _) ?_); rintro _ S ⟨rfl, rfl⟩) | ((with_reducible refine zy (y_digit _ _) ?_); rintro _ S ⟨rfl, rfl⟩) | (refine vlo_app zx ?_) | (refine vst_app zx ?_)); (try refine zsY (j6 ui3 ui4 ui5 ui9 @Int.zero_add @Int.toNat_natCast) ?_)) | (with_reducible first | refine vfresh_set ?_ | refine vfresh_intro (fun _ _ => ?_) | refine vif_intro (fun _ => ?_) (fun _ => ?_)) | omega | refine ztY (j6 ui3 ui4 ui5 ui9 @Int.zero_add @Int.toNat_natCast) ?_ | fail)
    · rename_i hf _ _
      rw [hf] at hst
      simp only [Bool.true_or, if_true] at hst
      exact ⟨k + 1, (), (), ⟨⟨hk2, by omega⟩, by omega⟩, .refl _, rfl⟩
    · rename_i hd _ _
      rw [hd] at hst
      simp only [Bool.or_true, if_true] at hst
      exact ⟨k + 1, (), (), ⟨⟨hk2, by omega⟩, by omega⟩, .refl _, rfl⟩
    · rename_i hf hd
      have hf' : isFirst (s.getD k 0) = false := by simpa using hf
      have hd' : isDigit (s.getD k 0) = false := by simpa using hd
      rw [hf', hd'] at hst
      simp only [Bool.or_self, Bool.false_eq_true, if_false] at hst
      exact ⟨_, .refl _, by rw [show pre isSmall s = k by omega], rfl⟩
  · have := pre_end (p := isSmall) hk2
    repeat' (first | with_reducible rfl | exact trivial | exact .inr trivial | (with_reducible first | apply And.intro | apply vqx_step | apply vqm_step | refine vkp_free (by decide +kernel) ?_ | intro _) | refine zaY (j4 ui3 ui4 ui5 ui9) ?_ | ((first | ((with_reducible refine zy (y_lower _ _) ?_); rintro _ S ⟨rfl, rfl⟩) | ((with_reducible refine zy (y_upper _ _) ?_); rintro _ S ⟨rfl, rfl⟩) | ((with_reducible refine zy (y_digit _ _) ?_); rintro _ S ⟨rfl, rfl⟩) | (refine vlo_app zx ?_) | (refine vst_app zx ?_)); (try refine zsY (j4 ui3 ui4 ui5 ui9) ?_)) | (with_reducible first | refine vfresh_set ?_ | refine vfresh_intro (fun _ _ => ?_) | refine vif_intro (fun _ => ?_) (fun _ => ?_)) | omega | refine ztY (j4 ui3 ui4 ui5 ui9) ?_ | fail)
    all_goals exact ⟨_, .refl _, by rw [show pre isSmall s = k by omega], rfl⟩
theorem y_name (s : By) (σ : Sg) : VCalls Tryz.prog 54 [.s (bs s)] σ (fun x σ' => x = .b (isNm s) ∧ σ' = σ) := by
  unfold isNm
  by_cases hs : s.length ≤ 16
  · have hrow := y_run1 s (by omega) σ
    (refine vfun (fun _ => .no) mixed Tryz.func54 (by kernel_rfl) ?_; simp only [bodyOf, Tryz.f54, zr])
    repeat' (first | with_reducible rfl | exact trivial | exact .inr trivial | (with_reducible first | apply And.intro | apply vqx_step | apply vqm_step | refine vkp_free (by decide +kernel) ?_ | intro _) | refine zaY (j4 ui3 ui4 ui5 ui9) ?_ | ((first | ((with_reducible refine zy (hrow) ?_); rintro _ S ⟨rfl, rfl⟩) | ((with_reducible refine zy (y_lower _ _) ?_); rintro _ S ⟨rfl, rfl⟩) | (refine vlo_app zx ?_) | (refine vst_app zx ?_)); (try refine zsY (j4 ui3 ui4 ui5 ui9) ?_)) | (with_reducible first | refine vfresh_set ?_ | refine vfresh_intro (fun _ _ => ?_) | refine vif_intro (fun _ => ?_) (fun _ => ?_)) | omega | refine ztY (j4 ui3 ui4 ui5 ui9) ?_ | fail)
    all_goals first | exact List.length_pos_iff.2 ‹_› | exact ⟨_, .refl _, b_eq (by simp_all <;> omega), rfl⟩
  · (refine vfun (fun _ => .no) mixed Tryz.func54 (by kernel_rfl) ?_; simp only [bodyOf, Tryz.f54, zr])
    repeat' (first | with_reducible rfl | exact trivial | exact .inr trivial | (with_reducible first | apply And.intro | apply vqx_step | apply vqm_step | refine vkp_free (by decide +kernel) ?_ | intro _) | refine zaY (j4 ui3 ui4 ui5 ui9) ?_ | ((first | ((with_reducible refine zy (y_lower _ _) ?_); rintro _ S ⟨rfl, rfl⟩) | (refine vlo_app zx ?_) | (refine vst_app zx ?_)); (try refine zsY (j4 ui3 ui4 ui5 ui9) ?_)) | (with_reducible first | refine vfresh_set ?_ | refine vfresh_intro (fun _ _ => ?_) | refine vif_intro (fun _ => ?_) (fun _ => ?_)) | omega | refine ztY (j4 ui3 ui4 ui5 ui9) ?_ | fail)
    all_goals first | exact List.length_pos_iff.2 ‹_› | exact ⟨_, .refl _, b_eq (by simp_all <;> omega), rfl⟩ | (exfalso; omega)
theorem y_rightV (v : Vl) (σ : Sg) : VCalls Tryz.prog 107 [.agg [.i v.1, .i v.2.1, .s (bs v.2.2)]] σ (fun x σ' => x = .i (rightV v.1 v.2.1 v.2.2) ∧ σ' = σ) := by
  obtain ⟨k, n, t⟩ := v
  have hb : bareV k n t ≠ (n, t) ↔ (k = 0 ∧ ¬ (n = 0 ∧ t = [])) ∨ (k = 1 ∧ t ≠ []) ∨ (k = 2 ∧ n ≠ 0) := by
    unfold bareV
    by_cases h0 : k = 0
    · subst h0; simp [Prod.ext_iff, eq_comm]
    · by_cases h1 : k = 1
      · subst h1; simp [Prod.ext_iff, eq_comm]
      · by_cases h2 : k = 2
        · subst h2; simp [Prod.ext_iff, eq_comm]
        · simp [h0, h1, h2]
  unfold rightV
  simp only [hb]
  (refine vfun (fun _ => .ro) mixed Tryz.func107 (by kernel_rfl) ?_; simp only [bodyOf, Tryz.f107, zr])
  repeat' (first | with_reducible rfl | exact trivial | exact .inr trivial | (with_reducible first | apply And.intro | apply vqx_step | apply vqm_step | refine vkp_free (by decide +kernel) ?_ | intro _) | refine zaY (j7 ui0 ui3 ui4 ui9 ui22 ui23 ui30) ?_ | ((first | (refine vlo_app zx ?_) | (refine vst_app zx ?_)); (try refine zsY (j7 ui0 ui3 ui4 ui9 ui22 ui23 ui30) ?_)) | (with_reducible first | refine vfresh_set ?_ | refine vfresh_intro (fun _ _ => ?_) | refine vif_intro (fun _ => ?_) (fun _ => ?_)) | omega | refine ztY (j7 ui0 ui3 ui4 ui9 ui22 ui23 ui30) ?_ | fail)
  all_goals exact ⟨_, .refl _, i_eq (by (repeat' split) <;> simp_all <;> omega), rfl⟩
end Go.Proofs.YtjdapkelojdefaaGreatDoor

set_option linter.unusedSimpArgs false
set_option linter.unusedVariables false
namespace Go.Proofs.YtjdapkelojdefaaGreatDoor
open Go Go.V Go.Lex Go.Parse
end Go.Proofs.YtjdapkelojdefaaGreatDoor

set_option linter.unusedSimpArgs false
set_option linter.unusedVariables false
namespace Go.Proofs.YtjdapkelojdefaaGreatDoor
open Go Go.V Go.Lex Go.Parse
end Go.Proofs.YtjdapkelojdefaaGreatDoor

set_option linter.unusedSimpArgs false
set_option linter.unusedVariables false
namespace Go.V
end Go.V
namespace Go.Parse
open Go.V Go.Lex Go.Proofs.YtjdapkelojdefaaGreatDoor
inductive Sp
  | base (e : Ex)
  | op (k : Int) (a : Sp) (f : Ex)
def Sp.ex : Sp → Ex
  | .base e => e
  | .op k a f => opE k a.ex f
end Go.Parse
namespace Go.Proofs.YtjdapkelojdefaaGreatDoor
open Go Go.V Go.Lex Go.Parse
end Go.Proofs.YtjdapkelojdefaaGreatDoor

set_option linter.unusedSimpArgs false
set_option linter.unusedVariables false
namespace Go.Proofs.YtjdapkelojdefaaGreatDoor
open Go Go.V Go.Lex Go.Parse
end Go.Proofs.YtjdapkelojdefaaGreatDoor

set_option linter.unusedSimpArgs false
set_option linter.unusedVariables false
namespace Go.Proofs.YtjdapkelojdefaaGreatDoor
open Go Go.V Go.Lex Go.Parse
end Go.Proofs.YtjdapkelojdefaaGreatDoor

set_option linter.unusedSimpArgs false
set_option linter.unusedVariables false
namespace Go.Proofs.YtjdapkelojdefaaGreatDoor
open Go Go.V Go.Lex Go.Parse
end Go.Proofs.YtjdapkelojdefaaGreatDoor

set_option linter.unusedSimpArgs false
set_option linter.unusedVariables false
namespace Go.Parse
open Go.V Go.Lex Go.Proofs.YtjdapkelojdefaaGreatDoor
end Go.Parse
namespace Go.Proofs.YtjdapkelojdefaaGreatDoor
open Go Go.V Go.Lex Go.Parse
end Go.Proofs.YtjdapkelojdefaaGreatDoor

set_option linter.unusedSimpArgs false
set_option linter.unusedVariables false
namespace Go.Parse
open Go.V Go.Lex Go.Proofs.YtjdapkelojdefaaGreatDoor
inductive Sm : Ex → Prop
  | leaf (k op : Int) (t n : By) (v : Vl) : Sm (.mk k op t n v [])
  | one (k op : Int) (t n : By) (v : Vl) (e : Ex) (h : Sm e) : Sm (.mk k op t n v [e])
  | two (k op : Int) (t n : By) (v : Vl) (e f : Ex) (h : Sm e) (h2 : Sm f) : Sm (.mk k op t n v [e, f])
def SmF (F : Pr) : Prop := ∀ s, Sm (F s).1
structure Dp.Sm (D : Dp) : Prop where
  fac : SmF D.fac
  not : SmF D.not
  ex : SmF D.ex
end Go.Parse
namespace Go.Proofs.YtjdapkelojdefaaGreatDoor
open Go Go.V Go.Lex Go.Parse
theorem exsA_get {l : List Ex} {k : Nat} (h : k < l.length) : (exsA l).getD k [] = exA l[k] := by
  induction l generalizing k with
  | nil => simp at h
  | cons e r ih =>
    rw [exsA_cons]
    cases k with
    | zero => rfl
    | succ k => exact ih (by simpa using h)
theorem exsA_all (l : List Ex) : allLen (exsA l) 8 = True := eq_true (by
  induction l with
  | nil => intro e he; rw [exsA_nil] at he; cases he
  | cons x r ih =>
    intro e he
    rw [exsA_cons] at he
    rcases List.mem_cons.1 he with rfl | he
    · exact exA_len x
    · exact ih e he)
theorem p12 (l : List Ex) (h : ∀ (i : Nat) (hi : i < l.length) (σ : Sg), VCalls Tryz.prog 13 [.agg (exA l[i]), .agg (exA l[i])] σ (fun x σ' => x = .b true ∧ σ' = σ)) (hl : l.length ≤ 100) (σ : Sg) : VCalls Tryz.prog 26 [.sl .any (exsA l), .sl .any (exsA l)] σ (fun x σ' => x = .b true ∧ σ' = σ) := by
  have hn := exsA_len l
  have hall := exsA_all l
  (refine vfun (fun _ => .no) mixed Tryz.func26 (by kernel_rfl) ?_; simp only [bodyOf, Tryz.f26, zr])
  repeat' (first | with_reducible rfl | exact trivial | exact .inr trivial | (with_reducible first | apply And.intro | apply vqx_step | apply vqm_step | refine vkp_free (by decide +kernel) ?_ | intro _) | refine zaW (j6 ui3 ui4 ui26 ui24 hn hall) ?_ | (with_reducible first | refine vfresh_set ?_ | refine vfresh_intro (fun _ _ => ?_) | refine vif_intro (fun _ => ?_) (fun _ => ?_)) | omega | refine zt (j6 ui3 ui4 ui26 ui24 hn hall) ?_ | fail)
  refine VW.loop3 (0 : Nat) () () (fun k _ _ => k ≤ l.length) (fun k _ _ => [(0, .sl .any (exsA l)), (1, .sl .any (exsA l)), (5, .i k)]) (fun _ _ _ => σ) (fun k _ _ => l.length - k) (by omega) (.refl _) ?_ ?_
  · simp only [vO, vQ, ↓vP, vE, vS, vB, vL, vF, vM, vN, vbs_full, zb, zc, zd, ne_eq, not_false_eq_true, ze, zf, zj, zk, vT]
    all_goals rfl
  rintro k _ _ hk
  rcases Nat.lt_or_ge k l.length with hk2 | hk2
  · have hg := exsA_get hk2
    have hp := h k hk2
    have hFl := exA_len l[k]
    have hFt := exA_take l[k]
    generalize exA l[k] = E at *
    repeat' (first | with_reducible rfl | exact trivial | exact .inr trivial | (with_reducible first | apply And.intro | apply vqx_step | apply vqm_step | refine vkp_free (by decide +kernel) ?_ | intro _) | refine zaW (j9 ui3 ui4 ui26 ui24 hn hall hg hFl hFt) ?_ | (((with_reducible refine (hp _).mono ?_); rintro _ S ⟨rfl, rfl⟩); (try refine zs (j9 ui3 ui4 ui26 ui24 hn hall hg hFl hFt) ?_)) | (with_reducible first | refine vfresh_set ?_ | refine vfresh_intro (fun _ _ => ?_) | refine vif_intro (fun _ => ?_) (fun _ => ?_)) | omega | refine zt (j9 ui3 ui4 ui26 ui24 hn hall hg hFl hFt) ?_ | fail)
    exact ⟨k + 1, (), (), ⟨hk2, by omega⟩, .refl _, rfl⟩
  · repeat' (first | with_reducible rfl | exact trivial | exact .inr trivial | (with_reducible first | apply And.intro | apply vqx_step | apply vqm_step | refine vkp_free (by decide +kernel) ?_ | intro _) | refine zaW (j6 ui3 ui4 ui26 ui24 hn hall) ?_ | (with_reducible first | refine vfresh_set ?_ | refine vfresh_intro (fun _ _ => ?_) | refine vif_intro (fun _ => ?_) (fun _ => ?_)) | omega | refine zt (j6 ui3 ui4 ui26 ui24 hn hall) ?_ | fail)
    exact ⟨_, .refl _, rfl⟩
theorem eq24 {d : TypeDesc} {a b a' b' : Int} {s t : ByteArray} : veqT Tryz.prog 23 d (.agg [.i a, .i b, .s s]) (.agg [.i a', .i b', .s t]) = some (decide (a = a') && (decide (b = b') && (sEq s t && true))) := by
  rw [veqT_agg (by kernel_rfl), veqIn_struct (d := 9999) Tryz.underlying23 (by kernel_rfl)]
  exact veqFs_cons (by decide) (partO_one info3 Z3 rfl) (partO_one info3 Z3 rfl) (veqIn_int Z3) (veqFs_cons (by decide) (partO_one info3 Z3 rfl) (partO_one info3 Z3 rfl) (veqIn_int Z3) (veqFs_cons (by decide) (partO_one info9 Tryz.underlying9 rfl) (partO_one info9 Tryz.underlying9 rfl) (veqIn_str Tryz.underlying9) rfl))
theorem p7w (k op : Int) (t n : By) (v : Vl) (l : List Ex) (h12 : ∀ σ, VCalls Tryz.prog 26 [.sl .any (exsA l), .sl .any (exsA l)] σ (fun x σ' => x = .b true ∧ σ' = σ)) (σ : Sg) : VCalls Tryz.prog 13 [.agg (exA (.mk k op t n v l)), .agg (exA (.mk k op t n v l))] σ (fun x σ' => x = .b true ∧ σ' = σ) := by
  rw [exA_mk]
  have he : ∀ d, veqT Tryz.prog 23 d (.agg [.i v.1, .i v.2.1, .s (bs v.2.2)]) (.agg [.i v.1, .i v.2.1, .s (bs v.2.2)]) = some true := fun d => by rw [eq24]; simp [sEq]
  generalize exsA l = L at *
  generalize v.1 = va at *
  generalize v.2.1 = vb at *
  generalize v.2.2 = vc at *
  (refine vfun (fun _ => .ro) mixed Tryz.func13 (by kernel_rfl) ?_; simp only [bodyOf, Tryz.f13, zr])
  repeat' (first | with_reducible rfl | exact trivial | exact .inr trivial | (with_reducible first | apply And.intro | apply vqx_step | apply vqm_step | refine vkp_free (by decide +kernel) ?_ | intro _) | refine zaW (j7 ui3 ui4 ui9 ui23 ui26 ui24 he) ?_ | (((with_reducible refine (h12 _).mono ?_); rintro _ S ⟨rfl, rfl⟩); (try refine zs (j7 ui3 ui4 ui9 ui23 ui26 ui24 he) ?_)) | (with_reducible first | refine vfresh_set ?_ | refine vfresh_intro (fun _ _ => ?_) | refine vif_intro (fun _ => ?_) (fun _ => ?_)) | omega | refine zt (j7 ui3 ui4 ui9 ui23 ui26 ui24 he) ?_ | fail)
  exact ⟨_, .refl _, rfl⟩
theorem p7 {e : Ex} (h : Sm e) : ∀ σ, VCalls Tryz.prog 13 [.agg (exA e), .agg (exA e)] σ (fun x σ' => x = .b true ∧ σ' = σ) := by
  induction h with
  | leaf k op t n v => exact fun σ => p7w k op t n v [] (p12 [] (fun i hi => by simp at hi) (by simp)) σ
  | one k op t n v e h ih =>
    exact fun σ => p7w k op t n v [e] (p12 [e] (fun i hi => by
      obtain rfl : i = 0 := by simp at hi; omega
      exact ih) (by simp)) σ
  | two k op t n v e f h h2 ih ih2 =>
    exact fun σ => p7w k op t n v [e, f] (p12 [e, f] (fun i hi => by
      match i, hi with
      | 0, _ => exact ih
      | 1, _ => exact ih2) (by simp)) σ
end Go.Proofs.YtjdapkelojdefaaGreatDoor
