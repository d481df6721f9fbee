/- Part 12 of the proof: W12, S2, G12, W1, W2, W9, W10, W11, W3. -/
import Derived.Test.YtjdapkelojdefaaGreatDoorN7
import Derived.Test.YtjdapkelojdefaaGreatDoorN8
import Derived.Test.YtjdapkelojdefaaGreatDoorN11
import Derived.Test.YtjdapkelojdefaaGreatDoorN10
import Derived.Test.YtjdapkelojdefaaGreatDoorN6
import Derived.Test.YtjdapkelojdefaaGreatDoorN4
import Derived.Test.YtjdapkelojdefaaGreatDoorN9

set_option linter.all false
set_option maxRecDepth 100000
set_option maxHeartbeats 1000000
open Option renaming getD_some → zr
open Go.Cert renaming ne_of2 → zv, ne_ob → zw, lk → zx
open Go.V.VCalls renaming mono → zy
set_option linter.unusedSimpArgs false
set_option linter.unusedVariables false
namespace Go.Print
open Go.V Go.Lex Go.Parse Go.Proofs.YtjdapkelojdefaaGreatDoor
theorem joinS_snoc : ∀ (l : List By) (x : By), l ≠ [] → joinS (l ++ [x]) = joinS l ++ 32 :: x
  | [], x, h => absurd rfl h
  | [a], x, _ => rfl
  | a :: b :: r, x, _ => by
    have ih := joinS_snoc (b :: r) x (by simp)
    show a ++ 32 :: joinS ((b :: r) ++ [x]) = (a ++ 32 :: joinS (b :: r)) ++ 32 :: x
    rw [ih]
    simp
def lenL (l : List By) : Nat := (l.map List.length).sum
theorem lenL_take {l : List By} {k : Nat} (h : k < l.length) : lenL (l.take (k + 1)) = lenL (l.take k) + (l.getD k []).length := by
  unfold lenL
  rw [List.take_succ_eq_append_getElem h, List.map_append, List.sum_append]
  simp [List.getD_eq_getElem?_getD, List.getElem?_eq_getElem h]
theorem join_len : ∀ l : List By, l ≠ [] → (joinS l).length + 1 = lenL l + l.length
  | [], h => absurd rfl h
  | [a], _ => by simp [joinS, lenL]
  | a :: b :: r, _ => by
    have ih := join_len (b :: r) (by simp)
    have e : joinS (a :: b :: r) = a ++ 32 :: joinS (b :: r) := rfl
    rw [e]
    simp only [List.length_append, List.length_cons, lenL, List.map_cons, List.sum_cons] at ih ⊢
    omega
theorem lenL_le (l : List By) (k : Nat) : lenL (l.take k) ≤ lenL l := by
  have : lenL l = lenL (l.take k) + lenL (l.drop k) := by
    unfold lenL
    rw [← List.sum_append, ← List.map_append, List.take_append_drop]
  omega
end Go.Print
namespace Go.Proofs.YtjdapkelojdefaaGreatDoor
open Go Go.V Go.Lex Go.Parse Go.Print
theorem strs_all (ws : List By) : allLen (strs ws) 1 = True := eq_true (fun e he => by obtain ⟨w, _, rfl⟩ := List.mem_map.1 he; rfl)
theorem bs32 : (bs [32]).size = 1 := bs_size _
def tdQ (m : Int) : Int := (9223372036854775807 : Int).tdiv m
theorem tdQ_fold (m : Int) : (9223372036854775807 : Int).tdiv m = tdQ m := rfl
theorem tdiv_big {m : Nat} (h1 : 1 ≤ m) (h2 : m ≤ 2 ^ 40) : ∃ Q : Int, (9223372036854775807 : Int).tdiv (m : Int) = Q ∧ 1 < Q ∧ Q ≤ 9223372036854775807 := by
  have e : (9223372036854775807 : Int).tdiv (m : Int) = ((9223372036854775807 / m : Nat) : Int) := rfl
  refine ⟨_, e, ?_, ?_⟩
  · have : 2 ≤ 9223372036854775807 / m := by
      rw [Nat.le_div_iff_mul_le (by omega)]
      omega
    omega
  · have := Nat.div_le_self 9223372036854775807 m
    omega
theorem j_join (l : List By) (o : Own) (hl : (joinS l).length ≤ 2 ^ 38) (hn : l.length ≤ 2 ^ 38) (σ : Sg) : VCalls Tryz.prog 106 [.sl o (strs l), .s (bs [32])] σ (fun x σ' => x = .s (bs (joinS l)) ∧ σ' = σ) := by
  have hsl := strs_len l
  match l, hl, hn with
  | [], _, _ =>
    (refine vfun (fun _ => .no) mixed Tryz.func106 (by kernel_rfl) ?_; simp only [bodyOf, Tryz.f106, zr])
    repeat' (first | with_reducible rfl | exact trivial | exact .inr trivial | (with_reducible first | apply And.intro | apply vqx_step | apply vqm_step | refine vkp_free (by decide +kernel) ?_ | intro _) | refine zaY (j5 ui0 ui3 ui4 ui5 (j9 ui9 ui20 ui75 ui149 ui150 ui151 ui152 ui155 hsl)) ?_ | ((first | (refine vlo_app zx ?_) | (refine vst_app zx ?_)); (try refine zsY (j5 ui0 ui3 ui4 ui5 (j9 ui9 ui20 ui75 ui149 ui150 ui151 ui152 ui155 hsl)) ?_)) | (with_reducible first | refine vfresh_set ?_ | refine vfresh_intro (fun _ _ => ?_) | refine vif_intro (fun _ => ?_) (fun _ => ?_)) | omega | refine ztY (j5 ui0 ui3 ui4 ui5 (j9 ui9 ui20 ui75 ui149 ui150 ui151 ui152 ui155 hsl)) ?_ | fail)
    all_goals exact ⟨_, .refl _, rfl, rfl⟩
  | [a], _, _ =>
    have hs1 : strs [a] = [[.s (bs a)]] := rfl
    rw [hs1]
    (refine vfun (fun _ => .no) mixed Tryz.func106 (by kernel_rfl) ?_; simp only [bodyOf, Tryz.f106, zr])
    repeat' (first | with_reducible rfl | exact trivial | exact .inr trivial | (with_reducible first | apply And.intro | apply vqx_step | apply vqm_step | refine vkp_free (by decide +kernel) ?_ | intro _) | refine zaY (j4 ui0 ui3 ui4 (j9 ui5 ui9 ui20 ui75 ui149 ui150 ui151 ui152 ui155)) ?_ | ((first | (refine vlo_app zx ?_) | (refine vst_app zx ?_)); (try refine zsY (j4 ui0 ui3 ui4 (j9 ui5 ui9 ui20 ui75 ui149 ui150 ui151 ui152 ui155)) ?_)) | (with_reducible first | refine vfresh_set ?_ | refine vfresh_intro (fun _ _ => ?_) | refine vif_intro (fun _ => ?_) (fun _ => ?_)) | omega | refine ztY (j4 ui0 ui3 ui4 (j9 ui5 ui9 ui20 ui75 ui149 ui150 ui151 ui152 ui155)) ?_ | fail)
    all_goals exact ⟨_, .refl _, rfl, rfl⟩
  | a :: b :: r, hl, hn =>
    have hjl := join_len (a :: b :: r) (by simp)
    have hg0 : (strs (a :: b :: r)).getD 0 [] = [.s (bs a)] := rfl
    have hd1 : (strs (a :: b :: r)).drop 1 = strs (b :: r) := rfl
    have hsl2 := strs_len (b :: r)
    have hL2 : 2 ≤ (a :: b :: r).length := by simp
    have hbl : (b :: r).length + 1 = (a :: b :: r).length := rfl
    have hne : (a :: b :: r) ≠ [] := by simp
    have htk : ∀ k, (a :: b :: r).take (k + 1) = a :: (b :: r).take k := fun k => rfl
    generalize hll : a :: b :: r = l at *
    obtain ⟨Q, hQ, hQ1, hQ2⟩ := tdiv_big (m := l.length - 1) (by omega) (by omega)
    have hm : ((l.length - 1 : Nat) : Int) = (l.length : Int) - 1 := by omega
    rw [hm, tdQ_fold] at hQ
    have hQF1 : (Q ≤ ((1 : Nat) : Int)) = False := eq_false (by omega)
    have hQF2 : (Q ≤ 1) = False := eq_false (by omega)
    have hz1 : ((l.length : Int) = 0) = False := eq_false (by omega)
    have hz2 : ((l.length : Int) = 1) = False := eq_false (by omega)
    have hz3 : ((l.length : Int) - 1 = 0) = False := eq_false (by omega)
    (refine vfun (fun _ => .no) mixed Tryz.func106 (by kernel_rfl) ?_; simp only [bodyOf, Tryz.f106, zr])
    repeat' (first | with_reducible rfl | exact trivial | exact .inr trivial | (with_reducible first | apply And.intro | apply vqx_step | apply vqm_step | refine vkp_free (by decide +kernel) ?_ | intro _) | refine zaY (j5 ui0 ui3 ui4 ui5 (j9 ui9 ui20 ui75 ui149 ui150 ui151 ui152 ui155 (j9 hsl @bs32 @tdQ_fold hQ hQF1 hQF2 hz1 hz2 hz3))) ?_ | ((first | (refine vlo_app zx ?_) | (refine vst_app zx ?_)); (try refine zsY (j5 ui0 ui3 ui4 ui5 (j9 ui9 ui20 ui75 ui149 ui150 ui151 ui152 ui155 (j9 hsl @bs32 @tdQ_fold hQ hQF1 hQF2 hz1 hz2 hz3))) ?_)) | (with_reducible first | refine vfresh_set ?_ | refine vfresh_intro (fun _ _ => ?_) | refine vif_intro (fun _ => ?_) (fun _ => ?_)) | omega | refine ztY (j5 ui0 ui3 ui4 ui5 (j9 ui9 ui20 ui75 ui149 ui150 ui151 ui152 ui155 (j9 hsl @bs32 @tdQ_fold hQ hQF1 hQF2 hz1 hz2 hz3))) ?_ | fail)
    refine VW.loop3 (0 : Nat) () () (fun k _ _ => k ≤ l.length) (fun k _ _ => [(0, .sl o (strs l)), (1, .s (bs [32])), (5, .i ((l.length - 1 + lenL (l.take k) : Nat) : Int)), (39, .sl o (strs l)), (40, .i l.length), (41, .i k)]) (fun _ _ _ => σ) (fun k _ _ => l.length - k) (Nat.zero_le _) (.refl _) ?_ ?_
    · simp only [vO, vQ, ↓vP, vE, vS, vB, vL, vF, vM, vN, vbs_full, Nat.reduceEqDiff, Nat.reduceAdd, Nat.reduceLeDiff, ne_eq, not_false_eq_true, Nat.reduceMul, Nat.reduceSub, Int.toNat_zero, Int.reduceToNat, vT]
      exact ⟨i_eq (by simp [lenL]; omega), rfl⟩
    rintro k _ _ hk
    have hsk := lenL_le l k
    rcases Nat.lt_or_ge k l.length with hk2 | hk2
    · have hg := strs_get hk2
      have hlk := lenL_take hk2
      have hsk2 := lenL_le l (k + 1)
      rw [hlk] at hsk2
      generalize lenL (l.take k) = s at *
      generalize l.getD k [] = w at *
      have hw : (bs w).size = w.length := bs_size w
      repeat' (first | with_reducible rfl | exact trivial | exact .inr trivial | (with_reducible first | apply And.intro | apply vqx_step | apply vqm_step | refine vkp_free (by decide +kernel) ?_ | intro _) | refine zaY (j7 ui0 ui3 ui4 ui5 ui9 ui20 (j9 ui75 ui149 ui150 ui151 ui152 ui155 hsl hg hw)) ?_ | ((first | (refine vlo_app zx ?_) | (refine vst_app zx ?_)); (try refine zsY (j7 ui0 ui3 ui4 ui5 ui9 ui20 (j9 ui75 ui149 ui150 ui151 ui152 ui155 hsl hg hw)) ?_)) | (with_reducible first | refine vfresh_set ?_ | refine vfresh_intro (fun _ _ => ?_) | refine vif_intro (fun _ => ?_) (fun _ => ?_)) | omega | refine ztY (j7 ui0 ui3 ui4 ui5 ui9 ui20 (j9 ui75 ui149 ui150 ui151 ui152 ui155 hsl hg hw)) ?_ | fail)
      exact ⟨k + 1, (), (), ⟨hk2, by omega⟩, .refl _, i_eq (by rw [hlk]; omega), rfl⟩
    · rw [List.take_of_length_le hk2]
      have ha : a.length ≤ 2 ^ 38 := by rw [← hll] at hl; simp [joinS] at hl; omega
      have hG : ∀ β S, S β = none → VCalls Tryz.prog 154 [.ref β 0, .i ((l.length - 1 + lenL l : Nat) : Int)] (S.set β (.cells 152 [.val (.pointer none), .sl .nil []])) (fun x σ' => x = .tup [] ∧ Bld β [] S σ') := fun β S hS => e36 β _ S hS (by omega) (by omega)
      repeat' (first | with_reducible rfl | exact trivial | exact .inr trivial | (with_reducible first | apply And.intro | apply vqx_step | apply vqm_step | refine vkp_free (by decide +kernel) ?_ | intro _) | refine zaY (j9 ui0 ui3 ui4 ui5 ui9 ui20 ui75 ui149 (j9 ui150 ui151 ui152 ui155 hsl hg0 hd1 hsl2 @strs_all)) ?_ | ((first | ((with_reducible refine zy (hG _ _ (by assumption)) ?_); rintro _ S' ⟨rfl, hB⟩) | ((with_reducible refine zy (t100 _ _ _ _ _ hB (by simp only [List.length_nil]; omega)) ?_); rintro _ S'' ⟨rfl, hB2⟩) | (refine vlo_app zx ?_) | (refine vst_app zx ?_)); (try refine zsY (j9 ui0 ui3 ui4 ui5 ui9 ui20 ui75 ui149 (j9 ui150 ui151 ui152 ui155 hsl hg0 hd1 hsl2 @strs_all)) ?_)) | (with_reducible first | refine vfresh_set ?_ | refine vfresh_intro (fun _ _ => ?_) | refine vif_intro (fun _ => ?_) (fun _ => ?_)) | omega | refine ztY (j9 ui0 ui3 ui4 ui5 ui9 ui20 ui75 ui149 (j9 ui150 ui151 ui152 ui155 hsl hg0 hd1 hsl2 @strs_all)) ?_ | fail)
      rename_i β hβ
      have hB2 : Bld β (joinS (l.take (0 + 1))) σ S'' := by
        rw [htk]; exact hB2
      refine VW.loop3 (0 : Nat) S'' () (fun k S _ => k ≤ (b :: r).length ∧ Bld β (joinS (l.take (k + 1))) σ S) (fun k _ _ => [(1, .s (bs [32])), (8, .ref β 0), (63, .sl (o.cut (decide ((1 : Int) = 0 ∨ (1 : Int) < ↑l.length))) (strs (b :: r))), (64, .i ((r.length + 1 : Nat) : Int)), (65, .i k)]) (fun _ S _ => S) (fun k _ _ => (b :: r).length - k) ⟨Nat.zero_le _, hB2⟩ (.refl _) ?_ ?_
      · simp only [vO, vQ, ↓vP, vE, vS, vB, vL, vF, vM, vN, vbs_full, Nat.reduceEqDiff, Nat.reduceAdd, Nat.reduceLeDiff, ne_eq, not_false_eq_true, Nat.reduceMul, Nat.reduceSub, Int.toNat_zero, Int.reduceToNat, vT]
        all_goals rfl
      clear hB2 hB
      rintro k S _ ⟨hk, hB⟩
      rw [List.length_cons] at hk hsl2 hbl
      have hjk : (joinS (l.take (k + 1))).length ≤ 2 ^ 38 := by
        have h1 := join_len (l.take (k + 1)) (by rw [htk]; simp)
        have h2 := lenL_le l (k + 1)
        rw [List.length_take] at h1
        omega
      rcases Nat.lt_or_ge k (r.length + 1) with hk2 | hk2
      · have hg := strs_get (ws := b :: r) hk2
        have hnext : l.take (k + 1 + 1) = l.take (k + 1) ++ [(b :: r).getD k []] := by
          rw [htk, htk, List.take_succ_eq_append_getElem (by simpa using hk2)]
          simp [List.getD_eq_getElem?_getD, List.getElem?_eq_getElem (show k < (b :: r).length by simpa using hk2)]
        have hjn : joinS (l.take (k + 1 + 1)) = joinS (l.take (k + 1)) ++ [32] ++ (b :: r).getD k [] := by
          rw [hnext, joinS_snoc _ _ (by rw [htk]; simp)]
          simp
        have hjk2 : (joinS (l.take (k + 1 + 1))).length ≤ 2 ^ 38 := by
          have h1 := join_len (l.take (k + 1 + 1)) (by rw [htk]; simp)
          have h2 := lenL_le l (k + 1 + 1)
          rw [List.length_take] at h1
          omega
        rw [hjn, List.length_append] at hjk2
        generalize (b :: r).getD k [] = w at *
        generalize joinS (l.take (k + 1)) = acc at *
        repeat' (first | with_reducible rfl | exact trivial | exact .inr trivial | (with_reducible first | apply And.intro | apply vqx_step | apply vqm_step | refine vkp_free (by decide +kernel) ?_ | intro _) | refine zaY (j6 ui0 ui3 ui4 ui5 ui9 (j9 ui20 ui75 ui149 ui150 ui151 ui152 ui155 hsl2 hg)) ?_ | ((first | ((with_reducible refine zy (t100 _ _ _ _ _ hB (by simp only [List.length_cons, List.length_nil]; omega)) ?_); rintro _ S2 ⟨rfl, hB2⟩) | ((with_reducible refine zy (t100 _ _ _ _ _ hB2 (by omega)) ?_); rintro _ S3 ⟨rfl, hB3⟩) | (refine vlo_app zx ?_) | (refine vst_app zx ?_)); (try refine zsY (j6 ui0 ui3 ui4 ui5 ui9 (j9 ui20 ui75 ui149 ui150 ui151 ui152 ui155 hsl2 hg)) ?_)) | (with_reducible first | refine vfresh_set ?_ | refine vfresh_intro (fun _ _ => ?_) | refine vif_intro (fun _ => ?_) (fun _ => ?_)) | omega | refine ztY (j6 ui0 ui3 ui4 ui5 ui9 (j9 ui20 ui75 ui149 ui150 ui151 ui152 ui155 hsl2 hg)) ?_ | fail)
        all_goals exact ⟨k + 1, _, (), ⟨⟨hk2, by rw [hjn]; exact hB3⟩, by first | omega | (simp only [List.length_cons]; omega)⟩, .refl _, rfl⟩
      · have hfull : l.take (k + 1) = l := List.take_of_length_le (by omega)
        rw [hfull] at hB
        repeat' (first | with_reducible rfl | exact trivial | exact .inr trivial | (with_reducible first | apply And.intro | apply vqx_step | apply vqm_step | refine vkp_free (by decide +kernel) ?_ | intro _) | refine zaY (j5 ui0 ui3 ui4 ui5 (j9 ui9 ui20 ui75 ui149 ui150 ui151 ui152 ui155 hsl2)) ?_ | ((first | with_reducible refine (t103 _ _ _ _ hB (by omega)).use ?_ | (refine vlo_app zx ?_) | (refine vst_app zx ?_)); (try refine zsY (j5 ui0 ui3 ui4 ui5 (j9 ui9 ui20 ui75 ui149 ui150 ui151 ui152 ui155 hsl2)) ?_)) | (with_reducible first | refine vfresh_set ?_ | refine vfresh_intro (fun _ _ => ?_) | refine vif_intro (fun _ => ?_) (fun _ => ?_)) | omega | refine ztY (j5 ui0 ui3 ui4 ui5 (j9 ui9 ui20 ui75 ui149 ui150 ui151 ui152 ui155 hsl2)) ?_ | fail)
        all_goals exact ⟨σ, hB.sub, rfl⟩
def WrOK (t : Tk) : Prop := t.2.2.1 < 9223372036854775808 ∧ (t.1 = 4 → t.2.1.length ≤ 40) ∧ t.2.1.length ≤ 2000
theorem strs_one1 (ws : List By) : allOne (strs ws) 1 = True := eq_true (fun e he => by obtain ⟨w, _, rfl⟩ := List.mem_map.1 he; exact ⟨rfl, rfl⟩)
theorem txts_take {l : List Tk} {k : Nat} (h : k < l.length) : txts (l.take (k + 1)) = txts (l.take k) ++ (if (l.getD k (0, [], 0, 0)).1 = 6 then [] else [txt (l.getD k (0, [], 0, 0))]) := by
  have hg : l.getD k (0, [], 0, 0) = l[k] := by simp [List.getD_eq_getElem?_getD, List.getElem?_eq_getElem h]
  rw [hg]
  unfold txts
  rw [List.take_succ_eq_append_getElem h, List.filter_append, List.map_append]
  by_cases h6 : l[k].1 = 6
  · rw [if_pos h6]
    simp [List.filter_cons, h6]
  · rw [if_neg h6]
    simp [List.filter_cons, h6]
theorem txts_len (l : List Tk) : (txts l).length ≤ l.length := by
  unfold txts
  rw [List.length_map]
  exact List.length_filter_le _ _
theorem strs_snoc (a : List By) (x : By) : strs (a ++ [x]) = strs a ++ [[.s (bs x)]] := by simp [strs]
theorem j_write (l : List Tk) (o : Own) (h : ∀ t ∈ l, WrOK t) (hn : l.length ≤ 2 ^ 36) (hl : (writeT l).length ≤ 2 ^ 38) (σ : Sg) : VCalls Tryz.prog 52 [.sl o (tksA l)] σ (fun x σ' => x = .s (bs (writeT l)) ∧ σ' = σ) := by
  have hlen := tksA_len l
  have htl := txts_len l
  unfold writeT at hl ⊢
  (refine vfun (fun _ => .no) mixed Tryz.func52 (by kernel_rfl) ?_; simp only [bodyOf, Tryz.f52, zr])
  repeat' (first | with_reducible rfl | exact trivial | exact .inr trivial | (with_reducible first | apply And.intro | apply vqx_step | apply vqm_step | refine vkp_free (by decide +kernel) ?_ | intro _) | refine zaY (j3 ui0 ui3 (j9 ui4 ui9 ui22 ui23 ui56 ui75 ui101 ui102 hlen)) ?_ | ((first | ((with_reducible refine zy (j_join _ _ (by assumption) (by assumption) _) ?_); rintro _ S ⟨rfl, rfl⟩) | (refine vlo_app zx ?_) | (refine vst_app zx ?_)); (try refine zsY (j3 ui0 ui3 (j9 ui4 ui9 ui22 ui23 ui56 ui75 ui101 ui102 hlen)) ?_)) | (with_reducible first | refine vfresh_set ?_ | refine vfresh_intro (fun _ _ => ?_) | refine vif_intro (fun _ => ?_) (fun _ => ?_)) | omega | refine ztY (j3 ui0 ui3 (j9 ui4 ui9 ui22 ui23 ui56 ui75 ui101 ui102 hlen)) ?_ | fail)
  refine VW.loop4 (0 : Nat) (AV.sl .nil []) σ () (fun k V S _ => k ≤ l.length ∧ Grown 9 1 (strs (txts (l.take k))) σ V S) (fun k V _ _ => [(0, .sl o (tksA l)), (3, V), (6, .sl o (tksA l)), (7, .i l.length), (8, .i k)]) (fun _ _ S _ => S) (fun k _ _ _ => l.length - k) ⟨Nat.zero_le _, .nil _ _ _⟩ (.refl _) ?_ ?_
  · simp only [vO, vQ, ↓vP, vE, vS, vB, vL, vF, vM, vN, vbs_full, Nat.reduceEqDiff, Nat.reduceAdd, Nat.reduceLeDiff, ne_eq, not_false_eq_true, Nat.reduceMul, Nat.reduceSub, Int.toNat_zero, Int.reduceToNat, vT]
    all_goals rfl
  rintro k V S _ ⟨hk, hG⟩
  rcases Nat.lt_or_ge k l.length with hk2 | hk2
  · have hg := tksA_get hk2
    have hok : WrOK (l.getD k (0, [], 0, 0)) := h _ (by simp [List.getD_eq_getElem?_getD, List.getElem?_eq_getElem hk2])
    have htt := txts_take hk2
    have htk := txts_len (l.take k)
    rw [List.length_take] at htk
    generalize l.getD k (0, [], 0, 0) = t at *
    have htA : tkA t = [.i t.1, .s (bs t.2.1), .i t.2.2.1, .i t.2.2.2] := rfl
    rw [htA] at hg
    generalize txts (l.take k) = W at *
    obtain ⟨q1, q2, q3⟩ := hok
    have h7 : ∀ σ, VCalls Tryz.prog 105 [.agg [.i 1, .i t.2.2.1, .s (bs [])]] σ _ := e7 1 t.2.2.1 [] q1 (by simp)
    have h7b : t.1 = 4 → ∀ σ, VCalls Tryz.prog 105 [.agg [.i 2, .i 0, .s (bs t.2.1)]] σ _ := fun h4 => e7 2 0 t.2.1 (by decide) (q2 h4)
    have hw1 := strs_len W
    have hw2 := strs_all W
    have hw3 := strs_one1 W
    unfold txt at htt
    rcases hG with ⟨e1, rfl, rfl⟩ | ⟨τ, hτ, rfl, rfl⟩
    · rw [e1] at hw1 hw2 hw3
      repeat' (first | with_reducible rfl | exact trivial | exact .inr trivial | (with_reducible first | apply And.intro | apply vqx_step | apply vqm_step | refine vkp_free (by decide +kernel) ?_ | intro _) | refine zaY (j5 ui0 ui3 ui4 ui9 (j9 ui22 ui23 ui56 ui75 ui101 ui102 hlen hg e1)) ?_ | ((first | ((with_reducible refine zy (h7 _) ?_); rintro _ S ⟨rfl, rfl⟩) | ((with_reducible refine zy (h7b (by omega) _) ?_); rintro _ S ⟨rfl, rfl⟩) | ((with_reducible refine zy (j_join _ _ (by assumption) (by assumption) _) ?_); rintro _ S ⟨rfl, rfl⟩) | (refine vlo_app zx ?_) | (refine vst_app zx ?_)); (try refine zsY (j5 ui0 ui3 ui4 ui9 (j9 ui22 ui23 ui56 ui75 ui101 ui102 hlen hg e1)) ?_)) | (with_reducible first | refine vfresh_set ?_ | refine vfresh_intro (fun _ _ => ?_) | refine vif_intro (fun _ => ?_) (fun _ => ?_)) | omega | refine ztY (j5 ui0 ui3 ui4 ui9 (j9 ui22 ui23 ui56 ui75 ui101 ui102 hlen hg e1)) ?_ | fail)
      · exact ⟨k + 1, _, S, (), ⟨⟨hk2, by rw [htt, if_pos (by omega), List.append_nil, e1]; exact .nil _ _ _⟩, by omega⟩, by (exact Go.V.zu), rfl, rfl⟩
      all_goals (rename_i x hx hne; exact ⟨k + 1, _, S.set x (.tok (some 9)), (), ⟨⟨hk2, .tok hx⟩, by omega⟩, by (exact Go.V.zu), by (rw [htt, if_neg (by omega), strs_snoc, e1]; (repeat' split) <;> first | rfl | (exfalso; omega)), rfl⟩)
    · repeat' (first | with_reducible rfl | exact trivial | exact .inr trivial | (with_reducible first | apply And.intro | apply vqx_step | apply vqm_step | refine vkp_free (by decide +kernel) ?_ | intro _) | refine zaY (j7 ui0 ui3 ui4 ui9 ui22 ui23 (j9 ui56 ui75 ui101 ui102 hlen hg hw1 hw2 hw3)) ?_ | ((first | ((with_reducible refine zy (h7 _) ?_); rintro _ S ⟨rfl, rfl⟩) | ((with_reducible refine zy (h7b (by omega) _) ?_); rintro _ S ⟨rfl, rfl⟩) | ((with_reducible refine zy (j_join _ _ (by assumption) (by assumption) _) ?_); rintro _ S ⟨rfl, rfl⟩) | (refine vlo_app zx ?_) | (refine vst_app zx ?_)); (try refine zsY (j7 ui0 ui3 ui4 ui9 ui22 ui23 (j9 ui56 ui75 ui101 ui102 hlen hg hw1 hw2 hw3)) ?_)) | (with_reducible first | refine vfresh_set ?_ | refine vfresh_intro (fun _ _ => ?_) | refine vif_intro (fun _ => ?_) (fun _ => ?_)) | omega | refine ztY (j7 ui0 ui3 ui4 ui9 ui22 ui23 (j9 ui56 ui75 ui101 ui102 hlen hg hw1 hw2 hw3)) ?_ | fail)
      · exact ⟨k + 1, _, σ.set τ (.tok (some 9)), (), ⟨⟨hk2, by rw [htt, if_pos (by omega), List.append_nil]; exact .tok hτ⟩, by omega⟩, by (exact Go.V.zu), rfl, rfl⟩
      all_goals (rename_i x hx _ _; exact ⟨k + 1, _, σ.set x (.tok (some 9)), (), ⟨⟨hk2, .tok hx⟩, by omega⟩, by (exact Go.V.zu), by (rw [htt, if_neg (by omega), strs_snoc]; (repeat' split) <;> first | rfl | (exfalso; omega)), rfl⟩)
  · rw [List.take_of_length_le hk2] at hG
    rcases hG with ⟨e1, rfl, rfl⟩ | ⟨τ, hτ, rfl, rfl⟩
    · have hJ : ∀ σ, VCalls Tryz.prog 106 [.sl .nil [], .s (bs [32])] σ _ := fun σ => by rw [← e1]; exact j_join _ .nil hl (by omega) σ
      repeat' (first | with_reducible rfl | exact trivial | exact .inr trivial | (with_reducible first | apply And.intro | apply vqx_step | apply vqm_step | refine vkp_free (by decide +kernel) ?_ | intro _) | refine zaY (j3 ui0 ui3 (j9 ui4 ui9 ui22 ui23 ui56 ui75 ui101 ui102 hlen)) ?_ | ((first | ((with_reducible refine zy (hJ _) ?_); rintro _ S ⟨rfl, rfl⟩) | ((with_reducible refine zy (j_join _ _ (by assumption) (by assumption) _) ?_); rintro _ S ⟨rfl, rfl⟩) | (refine vlo_app zx ?_) | (refine vst_app zx ?_)); (try refine zsY (j3 ui0 ui3 (j9 ui4 ui9 ui22 ui23 ui56 ui75 ui101 ui102 hlen)) ?_)) | (with_reducible first | refine vfresh_set ?_ | refine vfresh_intro (fun _ _ => ?_) | refine vif_intro (fun _ => ?_) (fun _ => ?_)) | omega | refine ztY (j3 ui0 ui3 (j9 ui4 ui9 ui22 ui23 ui56 ui75 ui101 ui102 hlen)) ?_ | fail)
      all_goals exact ⟨_, .refl _, rfl⟩
    · repeat' (first | with_reducible rfl | exact trivial | exact .inr trivial | (with_reducible first | apply And.intro | apply vqx_step | apply vqm_step | refine vkp_free (by decide +kernel) ?_ | intro _) | refine zaY (j3 ui0 ui3 (j9 ui4 ui9 ui22 ui23 ui56 ui75 ui101 ui102 hlen)) ?_ | ((first | ((with_reducible refine zy (j_join _ _ hl (by omega) _) ?_); rintro _ S ⟨rfl, rfl⟩) | ((with_reducible refine zy (j_join _ _ (by assumption) (by assumption) _) ?_); rintro _ S ⟨rfl, rfl⟩) | (refine vlo_app zx ?_) | (refine vst_app zx ?_)); (try refine zsY (j3 ui0 ui3 (j9 ui4 ui9 ui22 ui23 ui56 ui75 ui101 ui102 hlen)) ?_)) | (with_reducible first | refine vfresh_set ?_ | refine vfresh_intro (fun _ _ => ?_) | refine vif_intro (fun _ => ?_) (fun _ => ?_)) | omega | refine ztY (j3 ui0 ui3 (j9 ui4 ui9 ui22 ui23 ui56 ui75 ui101 ui102 hlen)) ?_ | fail)
      all_goals exact ⟨σ, by (exact Go.V.zu), rfl⟩
end Go.Proofs.YtjdapkelojdefaaGreatDoor

set_option linter.unusedSimpArgs false
set_option linter.unusedVariables false
namespace Go.Print
open Go.V Go.Lex Go.Parse Go.Proofs.YtjdapkelojdefaaGreatDoor
theorem fT_of {m i : List Tk} (h : m.map noAt = i.map noAt) : m.map fT = i.map fT := by
  have : ∀ l : List Tk, l.map fT = (l.map noAt).map (fun x => (x.1, x.2.1, x.2.2, 0)) := fun l => by rw [List.map_map]; rfl
  rw [this m, this i, h]
end Go.Print
namespace Go.Proofs.YtjdapkelojdefaaGreatDoor
open Go Go.V Go.Lex Go.Parse Go.Print
end Go.Proofs.YtjdapkelojdefaaGreatDoor

set_option linter.unusedVariables false
set_option linter.unusedSimpArgs false
namespace Go.Print
open Go.V Go.Lex Go.Parse Go.Proofs.YtjdapkelojdefaaGreatDoor
theorem lex_good {b : By} {l : List Tk} (h : lexAll b = .ok l) : l.length ≤ 2001 ∧ WF l ∧ GL l := by
  have hb : ¬ 2000 < b.length := fun q => by rw [lexAll_long q] at h; cases h
  have ht : toks b 0 = .ok l := by
    unfold lexAll at h
    rw [if_neg hb] at h
    cases hq : toks b 0 with
    | ok l' => rw [hq] at h; cases h; rfl
    | error e => rw [hq] at h; cases h
  have hlen := toks_length b.length b 0 l (Nat.le_refl _) ht
  obtain ⟨i, rfl, hi⟩ := toks_good b.length b 0 l (Nat.le_refl _) ht
  refine ⟨by omega, ?_, fun t ht => ?_⟩
  · clear ht h hlen hi
    induction i with
    | nil => rfl
    | cons x r ih =>
      cases r with
      | nil => rfl
      | cons y r => exact ih
  · rcases List.mem_append.1 ht with q | q
    · exact .inr (hi t q)
    · simp at q; rw [q]; exact .inl rfl
theorem fin_c {s : Rd} (h : s.fin.c = 0) : s.c = 0 ∧ s.fin = s := by
  unfold Rd.fin at h ⊢
  split
  · rename_i hh
    rw [if_pos hh] at h
    exfalso
    unfold Rd.fail at h
    rw [if_pos hh.1] at h
    cases h
  · rename_i hh
    rw [if_neg hh] at h
    exact ⟨h, rfl⟩
theorem one_right {b : By} (h : (oneAll b).2.1 = 0) : ∃ t : Tr, t.wf ∧ t.rg ∧ t.ex = (oneAll b).1 ∧ t.tk.length ≤ 20000 := by
  unfold oneAll at h ⊢
  cases hl : lexAll b with
  | error e =>
    obtain ⟨e, a⟩ := e
    rw [hl] at h
    have := lexAll_nz hl
    simp only at h
    omega
  | ok l =>
    rw [hl] at h
    obtain ⟨h1, h2, h3⟩ := lex_good hl
    simp only at h ⊢
    unfold oneR at h ⊢
    split at h
    · rename_i hc
      have hc1 := (fin_c hc).1
      obtain ⟨q1, t, q2, q3, q4, q5⟩ := (dp_rg 11).ex (rd0 l) (by unfold Dk rd0; simp) h2 h3 hc1
      refine ⟨t, q2, q3, by rw [if_pos hc]; exact q4, ?_⟩
      have : (rd0 l).l.length = l.length := rfl
      omega
    · rename_i hc
      exact absurd h hc
theorem writeT_good {i : List Tk} (h : ∀ t ∈ i, GoodT t) : writeT i = joinS (i.map txt) := by
  unfold writeT txts
  rw [List.filter_eq_self.2 (fun t ht => by
    rcases h t ht with q | q | q | q | q <;> rw [q.1] <;> decide)]
theorem one_back {t : Tr} (hw : t.wf) (hg : t.rg) (hd : t.dp ≤ 10) (hl : (writeT t.tk).length ≤ 2000) : (oneAll (writeT t.tk)).1 = t.ex ∧ (oneAll (writeT t.tk)).2.1 = 0 := by
  have hgd := tk_good t hw hg
  obtain ⟨m, hm, hn⟩ := toks_back t.tk 0 hgd
  rw [writeT_good hgd] at hl ⊢
  have h2 := lexAll_ok (by omega) hm
  have hf : (m ++ [(6, [], 0, 0 + (joinS (t.tk.map txt)).length)]).map fT = (t.tk ++ [(6, [], 0, 0)]).map fT := by
    rw [List.map_append, List.map_append, fT_of hn]; rfl
  have q2 := one_alike hf
  unfold oneAll
  rw [h2]
  simp only
  rw [q2.1, q2.2]
  have h3 := rd_exp (r := [(6, [], 0, 0)]) hw hg hd rfl (fun w _ => rfl)
  have e : rd0 (t.tk ++ [(6, [], 0, 0)]) = stR (t.tk ++ [(6, [], 0, 0)]) 0 := rfl
  have e2 : oneT (t.tk ++ [(6, [], 0, 0)]) = (t.ex, stR [(6, [], 0, 0)] 0) := by
    unfold oneT
    rw [e, h3]
    rfl
  unfold oneR
  rw [e2]
  exact ⟨rfl, rfl⟩
theorem toTr_ex : ∀ t : Tr, toTr t.ex = t
  | .val v => by show toTr (.mk 1 0 [] [] v []) = _; rw [toTr_mk, toTrs_nil]; rfl
  | .col t n => by show toTr (.mk 2 0 t n v0 []) = _; rw [toTr_mk, toTrs_nil]; rfl
  | .not e => by show toTr (.mk 4 0 [] [] v0 [e.ex]) = _; rw [toTr_mk, toTrs_cons, toTrs_nil, toTr_ex e]; rfl
  | .neg e => by show toTr (.mk 5 0 [] [] v0 [e.ex]) = _; rw [toTr_mk, toTrs_cons, toTrs_nil, toTr_ex e]; rfl
  | .null e => by show toTr (.mk 6 0 [] [] v0 [e.ex]) = _; rw [toTr_mk, toTrs_cons, toTrs_nil, toTr_ex e]; rfl
  | .op k a b => by
    show toTr (.mk 3 (k : Int) [] [] v0 [a.ex, b.ex]) = _
    rw [toTr_mk, toTrs_cons, toTrs_cons, toTrs_nil, toTr_ex a, toTr_ex b]
    show Tr.op (k : Int).toNat a b = _
    rw [Int.toNat_natCast]
end Go.Print

set_option linter.unusedSimpArgs false
set_option linter.unusedVariables false
namespace Go.Print
open Go.V Go.Lex Go.Parse Go.Proofs.YtjdapkelojdefaaGreatDoor
abbrev wOb (T : TypeId) (r : List AV) (τ : Nat) (l : List Tk) : Ob := .cells T (.sl (.tok τ 4) (tksA l) :: r)
abbrev WB (T : TypeId) (r : List AV) (B : Sg) (ω τ : Nat) (l : List Tk) : Sg := (B.set τ (.tok (some 102))).set ω (wOb T r τ l)
def inR' (n : Int) : Prop := -9223372036854775807 ≤ n ∧ n ≤ 9223372036854775807
structure okS (B : Sg) (ω τ : Nat) : Prop where
  free : B τ = none
  ne : τ ≠ ω
theorem WB_eq {T : TypeId} {r : List AV} {B : Sg} {ω τ : Nat} {l : List Tk} : WB T r B ω τ l = (B.set τ (.tok (some 102))).set ω (.cells T (.sl (.tok τ 4) (tksA l) :: r)) := rfl
theorem WB_grow {T : TypeId} {r : List AV} {B : Sg} {ω τ : Nat} {l m : List Tk} {es : List (List AV)} (h : es = tksA m) : (B.set τ (.tok (some 102))).set ω (.cells T (.sl (.tok τ 4) (tksA l ++ es) :: r)) = WB T r B ω τ (l ++ m) := by
  rw [h, tksA_app]
theorem WB_sub {B : Sg} {ω τ τ' : Nat} {t t' ob ob' : Ob} (h : B τ' = none) (h0 : B τ = none) : ((B.set τ' t').set ω ob').sub (((((B.set τ t).set ω ob).del τ).set τ' t').set ω ob') := by
  intro y p hy
  simp only [Sg.set_apply, Sg.del_apply] at hy ⊢
  grind
end Go.Print
namespace Go.Proofs.YtjdapkelojdefaaGreatDoor
open Go Go.V Go.Lex Go.Parse Go.Print
theorem splice0 (a x : AV) (r : List AV) : splice (a :: r) 0 [x] = x :: r := by simp [splice]
theorem w_name (T : TypeId) (r : List AV) (B : Sg) (ω τ : Nat) (l : List Tk) (s : By) (h : okS B ω τ) (hl : l.length < 2 ^ 40) : VCalls Tryz.prog 46 [.ref ω 0, .s (bs s)] (WB T r B ω τ l) (fun x σ' => x = .tup [] ∧ ∃ τ', okS B ω τ' ∧ σ' = WB T r B ω τ' (l ++ [nT s])) := by
  obtain ⟨h1, h2⟩ := h
  have h2' := h2.symm
  rw [WB_eq]
  have hlen := tksA_len l
  have hall := tksA_all l
  (refine vfun (fun _ => .no) mixed Tryz.func46 (by kernel_rfl) ?_; simp only [bodyOf, Tryz.f46, zr])
  repeat' (first | with_reducible rfl | exact trivial | exact .inr trivial | (with_reducible first | apply And.intro | apply vqx_step | apply vqm_step | refine vkp_free (by decide +kernel) ?_ | intro _) | refine zaY (j3 ui0 ui3 (j9 ui9 ui56 ui57 ui100 ui101 ui102 hlen hall @splice0)) ?_ | ((first | (refine vlo_app zx ?_) | (refine vst_app zx ?_)); (try refine zsY (j3 ui0 ui3 (j9 ui9 ui56 ui57 ui100 ui101 ui102 hlen hall @splice0)) ?_)) | (with_reducible first | refine vfresh_set ?_ | refine vfresh_intro (fun _ _ => ?_) | refine vif_intro (fun _ => ?_) (fun _ => ?_)) | omega | refine ztY (j3 ui0 ui3 (j9 ui9 ui56 ui57 ui100 ui101 ui102 hlen hall @splice0)) ?_ | fail)
  all_goals (exact ⟨_, WB_sub ‹B _ = none› (by assumption), _, ⟨‹B _ = none›, by assumption⟩, WB_grow rfl⟩)
theorem wds_len (l : List By) : (wds l).length = l.length := by simp [wds]
theorem iT_A {n : Int} (h : 0 ≤ n) : [[AV.i 3, .s (bs []), .i n, .i 0]] = tksA [iT n] := by
  have : ((n.toNat : Nat) : Int) = n := by omega
  show _ = [[AV.i 3, .s (bs []), .i ((n.toNat : Nat) : Int), .i 0]]
  rw [this]
theorem wds_step {ws : List By} {k : Nat} (h : k < ws.length) : wds (ws.take (k + 1)) = wds (ws.take k) ++ [wd (ws.getD k [])] := by
  unfold wds
  rw [List.take_succ_eq_append_getElem h, List.map_append]
  simp [List.getD_eq_getElem?_getD, List.getElem?_eq_getElem h]
theorem w_words (T : TypeId) (r : List AV) (B : Sg) (ω τ : Nat) (l : List Tk) (o : Own) (ws : List By) (es : List (List AV)) (he : es = strs ws) (h : okS B ω τ) (hl : l.length + ws.length < 2 ^ 40) (hw : ∀ w ∈ ws, w ≠ []) : VCalls Tryz.prog 29 [.ref ω 0, .sl o es] (WB T r B ω τ l) (fun x σ' => x = .tup [] ∧ ∃ τ', okS B ω τ' ∧ σ' = WB T r B ω τ' (l ++ wds ws)) := by
  subst he
  have hsl := strs_len ws
  (refine vfun (fun _ => .no) mixed Tryz.func29 (by kernel_rfl) ?_; simp only [bodyOf, Tryz.f29, zr])
  repeat' (first | with_reducible rfl | exact trivial | exact .inr trivial | (with_reducible first | apply And.intro | apply vqx_step | apply vqm_step | refine vkp_free (by decide +kernel) ?_ | intro _) | refine zaY (j4 ui0 ui3 ui4 (j9 ui5 ui9 ui56 ui57 ui75 ui100 ui101 ui102 hsl)) ?_ | ((first | (refine vlo_app zx ?_) | (refine vst_app zx ?_)); (try refine zsY (j4 ui0 ui3 ui4 (j9 ui5 ui9 ui56 ui57 ui75 ui100 ui101 ui102 hsl)) ?_)) | (with_reducible first | refine vfresh_set ?_ | refine vfresh_intro (fun _ _ => ?_) | refine vif_intro (fun _ => ?_) (fun _ => ?_)) | omega | refine ztY (j4 ui0 ui3 ui4 (j9 ui5 ui9 ui56 ui57 ui75 ui100 ui101 ui102 hsl)) ?_ | fail)
  refine VW.loop3 (0 : Nat) τ () (fun k τ' _ => k ≤ ws.length ∧ okS B ω τ') (fun k _ _ => [(0, .ref ω 0), (7, .sl o (strs ws)), (8, .i ws.length), (9, .i k)]) (fun k τ' _ => WB T r B ω τ' (l ++ wds (ws.take k))) (fun k _ _ => ws.length - k) ⟨Nat.zero_le _, h⟩ (by simp [wds]; exact .refl _) ?_ ?_
  · simp only [vO, vQ, ↓vP, vE, vS, vB, vL, vF, vM, vN, vbs_full, Nat.reduceEqDiff, Nat.reduceAdd, Nat.reduceLeDiff, ne_eq, not_false_eq_true, Nat.reduceMul, Nat.reduceSub, Int.toNat_zero, Int.reduceToNat, vT]
    all_goals rfl
  rintro k τ' _ ⟨hk, h1, h2⟩
  have h2' := h2.symm
  rw [WB_eq]
  rcases Nat.lt_or_ge k ws.length with hk2 | hk2
  · have hg := strs_get hk2
    have hwk : ws.getD k [] ≠ [] := hw _ (by simp [List.getD_eq_getElem?_getD, List.getElem?_eq_getElem hk2])
    have hwl : 0 < (ws.getD k []).length := List.length_pos_iff.2 hwk
    have hst := wds_step hk2
    have hwd : wd (ws.getD k []) = if 65 ≤ ((ws.getD k []).getD 0 0).toNat ∧ ((ws.getD k []).getD 0 0).toNat ≤ 90 then wT (ws.getD k []) else sT (ws.getD k []) := rfl
    generalize ws.getD k [] = w at *
    have hall := tksA_all (l ++ wds (ws.take k))
    have hlen : (tksA (l ++ wds (ws.take k))).length = l.length + k := by rw [tksA_len, List.length_append]; simp [wds]; omega
    generalize hL : l ++ wds (ws.take k) = L at *
    repeat' (first | with_reducible rfl | exact trivial | exact .inr trivial | (with_reducible first | apply And.intro | apply vqx_step | apply vqm_step | refine vkp_free (by decide +kernel) ?_ | intro _) | refine zaY (j8 ui0 ui3 ui4 ui5 ui9 ui56 ui57 (j9 ui75 ui100 ui101 ui102 hsl hg hall hlen @splice0)) ?_ | ((first | (refine vlo_app zx ?_) | (refine vst_app zx ?_)); (try refine zsY (j8 ui0 ui3 ui4 ui5 ui9 ui56 ui57 (j9 ui75 ui100 ui101 ui102 hsl hg hall hlen @splice0)) ?_)) | (with_reducible first | refine vfresh_set ?_ | refine vfresh_intro (fun _ _ => ?_) | refine vif_intro (fun _ => ?_) (fun _ => ?_)) | omega | refine ztY (j8 ui0 ui3 ui4 ui5 ui9 ui56 ui57 (j9 ui75 ui100 ui101 ui102 hsl hg hall hlen @splice0)) ?_ | fail)
    · rename_i τ2 q1 _ q2
      exact ⟨k + 1, τ2, (), ⟨⟨hk2, q1, q2⟩, by omega⟩, by rw [hst, ← List.append_assoc, hL, hwd, if_pos ⟨by omega, by omega⟩, ← WB_grow (m := [wT w]) rfl]; exact WB_sub q1 h1, rfl⟩
    all_goals rename_i τ2 q1 _ q2
    all_goals exact ⟨k + 1, τ2, (), ⟨⟨hk2, q1, q2⟩, by omega⟩, by rw [hst, ← List.append_assoc, hL, hwd, if_neg (by omega), ← WB_grow (m := [sT w]) rfl]; exact WB_sub q1 h1, rfl⟩
  · repeat' (first | with_reducible rfl | exact trivial | exact .inr trivial | (with_reducible first | apply And.intro | apply vqx_step | apply vqm_step | refine vkp_free (by decide +kernel) ?_ | intro _) | refine zaY (j4 ui0 ui3 ui4 (j9 ui5 ui9 ui56 ui57 ui75 ui100 ui101 ui102 hsl)) ?_ | ((first | (refine vlo_app zx ?_) | (refine vst_app zx ?_)); (try refine zsY (j4 ui0 ui3 ui4 (j9 ui5 ui9 ui56 ui57 ui75 ui100 ui101 ui102 hsl)) ?_)) | (with_reducible first | refine vfresh_set ?_ | refine vfresh_intro (fun _ _ => ?_) | refine vif_intro (fun _ => ?_) (fun _ => ?_)) | omega | refine ztY (j4 ui0 ui3 ui4 (j9 ui5 ui9 ui56 ui57 ui75 ui100 ui101 ui102 hsl)) ?_ | fail)
    rw [List.take_of_length_le hk2]
    exact ⟨_, .refl _, τ', ⟨h1, h2⟩, rfl⟩
def wdsE (es : List (List AV)) : List Tk := es.map fun e => wd (match e with | [.val (.string s)] => s.data.toList | _ => [])
theorem wdsE_strs (ws : List By) : wdsE (strs ws) = wds ws := by
  unfold wdsE strs wds
  rw [List.map_map]
  refine List.map_congr_left (fun w _ => ?_)
  show wd ((bs w).data.toList) = wd w
  rw [bs_toList]
theorem wdsE_nil : wdsE [] = [] := rfl
theorem wdsE_cons (w : By) (es : List (List AV)) : wdsE ([.val (.string (bs w))] :: es) = wd w :: wdsE es := by
  show wd ((bs w).data.toList) :: wdsE es = _
  rw [bs_toList]
def okW (es : List (List AV)) : Prop := ∃ ws, es = strs ws ∧ ∀ w ∈ ws, w ≠ []
theorem okW_nil : okW [] := ⟨[], rfl, fun w h => by cases h⟩
theorem okW_cons {w : By} {es : List (List AV)} (h : okW es) (hw : w ≠ []) : okW ([AV.s (bs w)] :: es) := by
  obtain ⟨ws, rfl, h⟩ := h
  exact ⟨w :: ws, rfl, fun x hx => by
    rcases List.mem_cons.1 hx with rfl | hx
    · exact hw
    · exact h x hx⟩
theorem w_wordsE (T : TypeId) (r : List AV) (B : Sg) (ω τ : Nat) (l : List Tk) (o : Own) (es : List (List AV)) (he : okW es) (h : okS B ω τ) (hl : l.length + es.length < 2 ^ 40) : VCalls Tryz.prog 29 [.ref ω 0, .sl o es] (WB T r B ω τ l) (fun x σ' => x = .tup [] ∧ ∃ τ', okS B ω τ' ∧ σ' = WB T r B ω τ' (l ++ wdsE es)) := by
  obtain ⟨ws, rfl, hw⟩ := he
  rw [strs_len] at hl
  rw [wdsE_strs]
  exact w_words T r B ω τ l o ws _ rfl h hl hw
theorem w_number (T : TypeId) (r : List AV) (B : Sg) (ω τ : Nat) (l : List Tk) (n : Int) (h : okS B ω τ) (hl : l.length < 2 ^ 39) (hn : inR' n) : VCalls Tryz.prog 103 [.ref ω 0, .i n] (WB T r B ω τ l) (fun x σ' => x = .tup [] ∧ ∃ τ', okS B ω τ' ∧ σ' = WB T r B ω τ' (l ++ numT n)) := by
  unfold inR' at hn
  unfold numT
  by_cases hc : n < 0
  · rw [if_pos hc]
    (refine vfun (fun _ => .no) mixed Tryz.func103 (by kernel_rfl) ?_; simp only [bodyOf, Tryz.f103, zr])
    repeat' (first | with_reducible rfl | exact trivial | exact .inr trivial | (with_reducible first | apply And.intro | apply vqx_step | apply vqm_step | refine vkp_free (by decide +kernel) ?_ | intro _) | refine zaY (j4 ui0 ui3 ui4 (j9 ui9 ui56 ui57 ui75 ui100 ui101 ui102 @tksA_len (j9 @tksA_all @tksA_one @List.length_append.{0} @List.length_cons.{0} @List.length_nil.{0} @wds_len @wdsE_nil @wdsE_cons @splice0))) ?_ | ((first | ((with_reducible refine zy (w_wordsE _ _ _ _ _ _ _ _ (by repeat (first | exact okW_nil | refine okW_cons ?_ (by simp))) (by first | assumption | exact ⟨by assumption, by assumption⟩) (by first | omega | (simp only [List.length_append, List.length_cons, List.length_nil, List.length_map]; omega))) ?_); rintro _ S ⟨rfl, τ1, ⟨f1, n1⟩, rfl⟩; have n1s := n1.symm) | (refine vlo_app zx ?_) | (refine vst_app zx ?_)); (try refine zsY (j4 ui0 ui3 ui4 (j9 ui9 ui56 ui57 ui75 ui100 ui101 ui102 @tksA_len (j9 @tksA_all @tksA_one @List.length_append.{0} @List.length_cons.{0} @List.length_nil.{0} @wds_len @wdsE_nil @wdsE_cons @splice0))) ?_)) | (with_reducible first | refine vfresh_set ?_ | refine vfresh_intro (fun _ _ => ?_) | refine vif_intro (fun _ => ?_) (fun _ => ?_)) | omega | refine ztY (j4 ui0 ui3 ui4 (j9 ui9 ui56 ui57 ui75 ui100 ui101 ui102 @tksA_len (j9 @tksA_all @tksA_one @List.length_append.{0} @List.length_cons.{0} @List.length_nil.{0} @wds_len @wdsE_nil @wdsE_cons @splice0))) ?_ | fail)
    rename_i τ2 q1 _ q2
    exact ⟨_, WB_sub q1 (by assumption), _, ⟨q1, q2⟩, by rw [WB_grow (m := [iT (0 - n)]) (iT_A (by omega)), List.append_assoc, Int.zero_sub]; rfl⟩
  · rw [if_neg hc]
    obtain ⟨f0, n0⟩ := h
    have n0s := n0.symm
    (refine vfun (fun _ => .no) mixed Tryz.func103 (by kernel_rfl) ?_; simp only [bodyOf, Tryz.f103, zr])
    repeat' (first | with_reducible rfl | exact trivial | exact .inr trivial | (with_reducible first | apply And.intro | apply vqx_step | apply vqm_step | refine vkp_free (by decide +kernel) ?_ | intro _) | refine zaY (j4 ui0 ui3 ui4 (j9 ui9 ui56 ui57 ui75 ui100 ui101 ui102 @tksA_len (j9 @tksA_all @tksA_one @List.length_append.{0} @List.length_cons.{0} @List.length_nil.{0} @wds_len @wdsE_nil @wdsE_cons @splice0))) ?_ | ((first | ((with_reducible refine zy (w_wordsE _ _ _ _ _ _ _ _ (by repeat (first | exact okW_nil | refine okW_cons ?_ (by simp))) (by first | assumption | exact ⟨by assumption, by assumption⟩) (by first | omega | (simp only [List.length_append, List.length_cons, List.length_nil, List.length_map]; omega))) ?_); rintro _ S ⟨rfl, τ1, ⟨f1, n1⟩, rfl⟩; have n1s := n1.symm) | (refine vlo_app zx ?_) | (refine vst_app zx ?_)); (try refine zsY (j4 ui0 ui3 ui4 (j9 ui9 ui56 ui57 ui75 ui100 ui101 ui102 @tksA_len (j9 @tksA_all @tksA_one @List.length_append.{0} @List.length_cons.{0} @List.length_nil.{0} @wds_len @wdsE_nil @wdsE_cons @splice0))) ?_)) | (with_reducible first | refine vfresh_set ?_ | refine vfresh_intro (fun _ _ => ?_) | refine vif_intro (fun _ => ?_) (fun _ => ?_)) | omega | refine ztY (j4 ui0 ui3 ui4 (j9 ui9 ui56 ui57 ui75 ui100 ui101 ui102 @tksA_len (j9 @tksA_all @tksA_one @List.length_append.{0} @List.length_cons.{0} @List.length_nil.{0} @wds_len @wdsE_nil @wdsE_cons @splice0))) ?_ | fail)
    rename_i τ2 q1 _ q2
    exact ⟨_, WB_sub q1 (by assumption), _, ⟨q1, q2⟩, by rw [WB_grow (m := [iT n]) (iT_A (by omega))]⟩
theorem w_literal (T : TypeId) (r : List AV) (B : Sg) (ω τ : Nat) (l : List Tk) (v : Vl) (h : okS B ω τ) (hl : l.length < 2 ^ 38) (hn : inR' v.2.1) (hk : v.1 = 0 ∨ v.1 = 1 ∨ v.1 = 2) : VCalls Tryz.prog 45 [.ref ω 0, .agg [.i v.1, .i v.2.1, .s (bs v.2.2)]] (WB T r B ω τ l) (fun x σ' => x = .tup [] ∧ ∃ τ', okS B ω τ' ∧ σ' = WB T r B ω τ' (l ++ litT v)) := by
  unfold litT
  obtain ⟨k, n, t⟩ := v
  simp only at hn hk ⊢
  rcases hk with rfl | rfl | rfl
  · (refine vfun (fun _ => .ro) mixed Tryz.func45 (by kernel_rfl) ?_; simp only [bodyOf, Tryz.f45, zr])
    repeat' (first | with_reducible rfl | exact trivial | exact .inr trivial | (with_reducible first | apply And.intro | apply vqx_step | apply vqm_step | refine vkp_free (by decide +kernel) ?_ | intro _) | refine zaY (j6 ui0 ui3 ui4 ui9 ui22 (j9 ui23 ui56 ui57 ui75 ui100 ui101 ui102 @tksA_len (j9 @tksA_all @tksA_one @List.length_append.{0} @List.length_cons.{0} @List.length_nil.{0} @wds_len @wdsE_nil @wdsE_cons @splice0))) ?_ | ((first | ((with_reducible refine zy (w_wordsE _ _ _ _ _ _ _ _ (by repeat (first | exact okW_nil | refine okW_cons ?_ (by simp))) (by first | assumption | exact ⟨by assumption, by assumption⟩) (by first | omega | (simp only [List.length_append, List.length_cons, List.length_nil, List.length_map]; omega))) ?_); rintro _ S ⟨rfl, τ1, ⟨f1, n1⟩, rfl⟩; have n1s := n1.symm) | ((with_reducible refine zy (w_number _ _ _ _ _ _ _ (by first | assumption | exact ⟨by assumption, by assumption⟩) (by first | omega | (simp only [List.length_append, List.length_cons, List.length_nil, List.length_map]; omega)) (by assumption)) ?_); rintro _ S ⟨rfl, τ1, ⟨f1, n1⟩, rfl⟩; have n1s := n1.symm) | (refine vlo_app zx ?_) | (refine vst_app zx ?_)); (try refine zsY (j6 ui0 ui3 ui4 ui9 ui22 (j9 ui23 ui56 ui57 ui75 ui100 ui101 ui102 @tksA_len (j9 @tksA_all @tksA_one @List.length_append.{0} @List.length_cons.{0} @List.length_nil.{0} @wds_len @wdsE_nil @wdsE_cons @splice0))) ?_)) | (with_reducible first | refine vfresh_set ?_ | refine vfresh_intro (fun _ _ => ?_) | refine vif_intro (fun _ => ?_) (fun _ => ?_)) | omega | refine ztY (j6 ui0 ui3 ui4 ui9 ui22 (j9 ui23 ui56 ui57 ui75 ui100 ui101 ui102 @tksA_len (j9 @tksA_all @tksA_one @List.length_append.{0} @List.length_cons.{0} @List.length_nil.{0} @wds_len @wdsE_nil @wdsE_cons @splice0))) ?_ | fail)
    exact ⟨_, .refl _, τ1, ⟨f1, n1⟩, rfl⟩
  · (refine vfun (fun _ => .ro) mixed Tryz.func45 (by kernel_rfl) ?_; simp only [bodyOf, Tryz.f45, zr])
    repeat' (first | with_reducible rfl | exact trivial | exact .inr trivial | (with_reducible first | apply And.intro | apply vqx_step | apply vqm_step | refine vkp_free (by decide +kernel) ?_ | intro _) | refine zaY (j6 ui0 ui3 ui4 ui9 ui22 (j9 ui23 ui56 ui57 ui75 ui100 ui101 ui102 @tksA_len (j9 @tksA_all @tksA_one @List.length_append.{0} @List.length_cons.{0} @List.length_nil.{0} @wds_len @wdsE_nil @wdsE_cons @splice0))) ?_ | ((first | ((with_reducible refine zy (w_wordsE _ _ _ _ _ _ _ _ (by repeat (first | exact okW_nil | refine okW_cons ?_ (by simp))) (by first | assumption | exact ⟨by assumption, by assumption⟩) (by first | omega | (simp only [List.length_append, List.length_cons, List.length_nil, List.length_map]; omega))) ?_); rintro _ S ⟨rfl, τ1, ⟨f1, n1⟩, rfl⟩; have n1s := n1.symm) | ((with_reducible refine zy (w_number _ _ _ _ _ _ _ (by first | assumption | exact ⟨by assumption, by assumption⟩) (by first | omega | (simp only [List.length_append, List.length_cons, List.length_nil, List.length_map]; omega)) (by assumption)) ?_); rintro _ S ⟨rfl, τ1, ⟨f1, n1⟩, rfl⟩; have n1s := n1.symm) | (refine vlo_app zx ?_) | (refine vst_app zx ?_)); (try refine zsY (j6 ui0 ui3 ui4 ui9 ui22 (j9 ui23 ui56 ui57 ui75 ui100 ui101 ui102 @tksA_len (j9 @tksA_all @tksA_one @List.length_append.{0} @List.length_cons.{0} @List.length_nil.{0} @wds_len @wdsE_nil @wdsE_cons @splice0))) ?_)) | (with_reducible first | refine vfresh_set ?_ | refine vfresh_intro (fun _ _ => ?_) | refine vif_intro (fun _ => ?_) (fun _ => ?_)) | omega | refine ztY (j6 ui0 ui3 ui4 ui9 ui22 (j9 ui23 ui56 ui57 ui75 ui100 ui101 ui102 @tksA_len (j9 @tksA_all @tksA_one @List.length_append.{0} @List.length_cons.{0} @List.length_nil.{0} @wds_len @wdsE_nil @wdsE_cons @splice0))) ?_ | fail)
    exact ⟨_, .refl _, τ1, ⟨f1, n1⟩, rfl⟩
  · obtain ⟨f0, n0⟩ := h
    have n0s := n0.symm
    (refine vfun (fun _ => .ro) mixed Tryz.func45 (by kernel_rfl) ?_; simp only [bodyOf, Tryz.f45, zr])
    repeat' (first | with_reducible rfl | exact trivial | exact .inr trivial | (with_reducible first | apply And.intro | apply vqx_step | apply vqm_step | refine vkp_free (by decide +kernel) ?_ | intro _) | ((with_reducible refine .dms (fun x => x = ω) [(0, false), (1, false), (2, false), (3, false), (4, true), (5, true), (6, true), (7, false), (8, true), (9, true), (10, true)] (by decide) (by decide +kernel) ?_); (refine zsR (j6 ui0 ui3 ui4 ui9 ui22 (j9 ui23 ui56 ui57 ui75 ui100 ui101 ui102 @tksA_len (j9 @tksA_all @tksA_one @List.length_append.{0} @List.length_cons.{0} @List.length_nil.{0} @wds_len @wdsE_nil @wdsE_cons @splice0))) ?_)) | ((with_reducible refine .dm (fun x => x = ω) [(0, false), (1, false), (2, false), (3, false), (4, true), (5, true), (6, true), (7, false), (8, true), (9, true), (10, true)] (by decide) (by decide +kernel) ?_); (refine zsR (j6 ui0 ui3 ui4 ui9 ui22 (j9 ui23 ui56 ui57 ui75 ui100 ui101 ui102 @tksA_len (j9 @tksA_all @tksA_one @List.length_append.{0} @List.length_cons.{0} @List.length_nil.{0} @wds_len @wdsE_nil @wdsE_cons @splice0))) ?_)) | refine zaR (j6 ui0 ui3 ui4 ui9 ui22 (j9 ui23 ui56 ui57 ui75 ui100 ui101 ui102 @tksA_len (j9 @tksA_all @tksA_one @List.length_append.{0} @List.length_cons.{0} @List.length_nil.{0} @wds_len @wdsE_nil @wdsE_cons @splice0))) ?_ | refine zkK (j6 ui0 ui3 ui4 ui9 ui22 (j9 ui23 ui56 ui57 ui75 ui100 ui101 ui102 @tksA_len (j9 @tksA_all @tksA_one @List.length_append.{0} @List.length_cons.{0} @List.length_nil.{0} @wds_len @wdsE_nil @wdsE_cons @splice0))) ?_ | ((first | (refine vkp_keep (by intro β h; first | (rcases h with h | h <;> subst h <;> (simp (disch := first | assumption | (apply zv; assumption; assumption) | (apply zw; assumption; assumption; (intro e; cases e; done)) | omega) only [Sg.set_same, Sg.set_ne, Sg.set_ne', Sg.del_ne, Sg.del_ne'])) | (subst h; (simp (disch := first | assumption | (apply zv; assumption; assumption) | (apply zw; assumption; assumption; (intro e; cases e; done)) | omega) only [Sg.set_same, Sg.set_ne, Sg.set_ne', Sg.del_ne, Sg.del_ne']))) ?_) | ((with_reducible refine zy (w_wordsE _ _ _ _ _ _ _ _ (by repeat (first | exact okW_nil | refine okW_cons ?_ (by simp))) (by first | assumption | exact ⟨by assumption, by assumption⟩) (by first | omega | (simp only [List.length_append, List.length_cons, List.length_nil, List.length_map]; omega))) ?_); rintro _ S ⟨rfl, τ1, ⟨f1, n1⟩, rfl⟩; have n1s := n1.symm) | ((with_reducible refine zy (w_number _ _ _ _ _ _ _ (by first | assumption | exact ⟨by assumption, by assumption⟩) (by first | omega | (simp only [List.length_append, List.length_cons, List.length_nil, List.length_map]; omega)) (by assumption)) ?_); rintro _ S ⟨rfl, τ1, ⟨f1, n1⟩, rfl⟩; have n1s := n1.symm) | (refine vlo_app zx ?_) | (refine vst_app zx ?_)); (try refine zsR (j6 ui0 ui3 ui4 ui9 ui22 (j9 ui23 ui56 ui57 ui75 ui100 ui101 ui102 @tksA_len (j9 @tksA_all @tksA_one @List.length_append.{0} @List.length_cons.{0} @List.length_nil.{0} @wds_len @wdsE_nil @wdsE_cons @splice0))) ?_)) | refine zmR (j6 ui0 ui3 ui4 ui9 ui22 (j9 ui23 ui56 ui57 ui75 ui100 ui101 ui102 @tksA_len (j9 @tksA_all @tksA_one @List.length_append.{0} @List.length_cons.{0} @List.length_nil.{0} @wds_len @wdsE_nil @wdsE_cons @splice0))) ?_ | (with_reducible first | refine vfresh_set ?_ | refine vfresh_intro (fun _ _ => ?_) | refine vif_intro (fun _ => ?_) (fun _ => ?_)) | omega | refine ztR (j6 ui0 ui3 ui4 ui9 ui22 (j9 ui23 ui56 ui57 ui75 ui100 ui101 ui102 @tksA_len (j9 @tksA_all @tksA_one @List.length_append.{0} @List.length_cons.{0} @List.length_nil.{0} @wds_len @wdsE_nil @wdsE_cons @splice0))) ?_ | fail)
    rename_i τ2 q1 _ q2
    exact ⟨_, WB_sub q1 f0, _, ⟨q1, q2⟩, WB_grow rfl⟩
end Go.Proofs.YtjdapkelojdefaaGreatDoor

set_option linter.unusedSimpArgs false
set_option linter.unusedVariables false
namespace Go.Proofs.YtjdapkelojdefaaGreatDoor
open Go Go.V Go.Lex Go.Parse Go.Print
theorem ex_val (v : Vl) : exA (Tr.val v).ex = [.i 1, .i 0, .s (bs []), .s (bs []), .i v.1, .i v.2.1, .s (bs v.2.2), .sl .any []] := by rw [Tr.ex, exA_mk, exsA_nil]
theorem ex_col (t n : By) : exA (Tr.col t n).ex = [.i 2, .i 0, .s (bs t), .s (bs n), .i 0, .i 0, .s (bs []), .sl .any []] := by rw [Tr.ex, exA_mk, exsA_nil]
theorem ex_op (k : Nat) (a b : Tr) : exA (Tr.op k a b).ex = [.i 3, .i k, .s (bs []), .s (bs []), .i 0, .i 0, .s (bs []), .sl .any [exA a.ex, exA b.ex]] := by rw [Tr.ex, exA_mk, opA]
theorem ex_not (e : Tr) : exA (Tr.not e).ex = [.i 4, .i 0, .s (bs []), .s (bs []), .i 0, .i 0, .s (bs []), .sl .any [exA e.ex]] := by rw [Tr.ex, exA_mk, ofA]
theorem ex_neg (e : Tr) : exA (Tr.neg e).ex = [.i 5, .i 0, .s (bs []), .s (bs []), .i 0, .i 0, .s (bs []), .sl .any [exA e.ex]] := by rw [Tr.ex, exA_mk, ofA]
theorem ex_null (e : Tr) : exA (Tr.null e).ex = [.i 6, .i 0, .s (bs []), .s (bs []), .i 0, .i 0, .s (bs []), .sl .any [exA e.ex]] := by rw [Tr.ex, exA_mk, ofA]
theorem ex_form (e : Ex) : ∃ (op : Int) (t n : By) (v : Vl) (l : List Ex), exA e = [.i e.kd, .i op, .s (bs t), .s (bs n), .i v.1, .i v.2.1, .s (bs v.2.2), .sl .any (exsA l)] := by
  cases e with
  | mk k op t n v l => exact ⟨op, t, n, v, l, exA_mk _ _ _ _ _ _⟩
theorem kd_null (e : Tr) : e.ex.kd = 6 ↔ e.isNull = true := by
  cases e <;> simp [Tr.ex, Ex.kd, Tr.isNull]
theorem w_level (t : Tr) (hw : t.wf) (E : List AV) (hE : E = exA t.ex) (σ : Sg) : VCalls Tryz.prog 50 [.agg E] σ (fun x σ' => x = .i t.lvl ∧ σ' = σ) := by
  subst hE
  cases t with
  | val v =>
    rw [ex_val]
    (refine vfun (fun _ => .ro) mixed Tryz.func50 (by kernel_rfl) ?_; simp only [bodyOf, Tryz.f50, zr])
    repeat' (first | with_reducible rfl | exact trivial | exact .inr trivial | (with_reducible first | apply And.intro | apply vqx_step | apply vqm_step | refine vkp_free (by decide +kernel) ?_ | intro _) | refine zaY (j9 ui0 ui3 ui4 ui9 ui22 ui23 ui24 ui25 ui26) ?_ | ((first | (refine vlo_app zx ?_) | (refine vst_app zx ?_)); (try refine zsY (j9 ui0 ui3 ui4 ui9 ui22 ui23 ui24 ui25 ui26) ?_)) | (with_reducible first | refine vfresh_set ?_ | refine vfresh_intro (fun _ _ => ?_) | refine vif_intro (fun _ => ?_) (fun _ => ?_)) | omega | refine ztY (j9 ui0 ui3 ui4 ui9 ui22 ui23 ui24 ui25 ui26) ?_ | fail)
    all_goals exact ⟨_, .refl _, rfl, rfl⟩
  | col t n =>
    rw [ex_col]
    (refine vfun (fun _ => .ro) mixed Tryz.func50 (by kernel_rfl) ?_; simp only [bodyOf, Tryz.f50, zr])
    repeat' (first | with_reducible rfl | exact trivial | exact .inr trivial | (with_reducible first | apply And.intro | apply vqx_step | apply vqm_step | refine vkp_free (by decide +kernel) ?_ | intro _) | refine zaY (j9 ui0 ui3 ui4 ui9 ui22 ui23 ui24 ui25 ui26) ?_ | ((first | (refine vlo_app zx ?_) | (refine vst_app zx ?_)); (try refine zsY (j9 ui0 ui3 ui4 ui9 ui22 ui23 ui24 ui25 ui26) ?_)) | (with_reducible first | refine vfresh_set ?_ | refine vfresh_intro (fun _ _ => ?_) | refine vif_intro (fun _ => ?_) (fun _ => ?_)) | omega | refine ztY (j9 ui0 ui3 ui4 ui9 ui22 ui23 ui24 ui25 ui26) ?_ | fail)
    all_goals exact ⟨_, .refl _, rfl, rfl⟩
  | neg e =>
    rw [ex_neg]
    (refine vfun (fun _ => .ro) mixed Tryz.func50 (by kernel_rfl) ?_; simp only [bodyOf, Tryz.f50, zr])
    repeat' (first | with_reducible rfl | exact trivial | exact .inr trivial | (with_reducible first | apply And.intro | apply vqx_step | apply vqm_step | refine vkp_free (by decide +kernel) ?_ | intro _) | refine zaY (j9 ui0 ui3 ui4 ui9 ui22 ui23 ui24 ui25 ui26) ?_ | ((first | (refine vlo_app zx ?_) | (refine vst_app zx ?_)); (try refine zsY (j9 ui0 ui3 ui4 ui9 ui22 ui23 ui24 ui25 ui26) ?_)) | (with_reducible first | refine vfresh_set ?_ | refine vfresh_intro (fun _ _ => ?_) | refine vif_intro (fun _ => ?_) (fun _ => ?_)) | omega | refine ztY (j9 ui0 ui3 ui4 ui9 ui22 ui23 ui24 ui25 ui26) ?_ | fail)
    all_goals exact ⟨_, .refl _, rfl, rfl⟩
  | null e =>
    rw [ex_null]
    (refine vfun (fun _ => .ro) mixed Tryz.func50 (by kernel_rfl) ?_; simp only [bodyOf, Tryz.f50, zr])
    repeat' (first | with_reducible rfl | exact trivial | exact .inr trivial | (with_reducible first | apply And.intro | apply vqx_step | apply vqm_step | refine vkp_free (by decide +kernel) ?_ | intro _) | refine zaY (j9 ui0 ui3 ui4 ui9 ui22 ui23 ui24 ui25 ui26) ?_ | ((first | (refine vlo_app zx ?_) | (refine vst_app zx ?_)); (try refine zsY (j9 ui0 ui3 ui4 ui9 ui22 ui23 ui24 ui25 ui26) ?_)) | (with_reducible first | refine vfresh_set ?_ | refine vfresh_intro (fun _ _ => ?_) | refine vif_intro (fun _ => ?_) (fun _ => ?_)) | omega | refine ztY (j9 ui0 ui3 ui4 ui9 ui22 ui23 ui24 ui25 ui26) ?_ | fail)
    all_goals exact ⟨_, .refl _, rfl, rfl⟩
  | not e =>
    rw [ex_not]
    have hk := kd_null e
    obtain ⟨op, t, n, v, l, h⟩ := ex_form e.ex
    rw [h]
    cases he : e.isNull with
    | false =>
      rw [lvl_not he]
      have hk : ¬ e.ex.kd = 6 := fun h => by rw [hk.1 h] at he; cases he
      (refine vfun (fun _ => .ro) mixed Tryz.func50 (by kernel_rfl) ?_; simp only [bodyOf, Tryz.f50, zr])
      repeat' (first | with_reducible rfl | exact trivial | exact .inr trivial | (with_reducible first | apply And.intro | apply vqx_step | apply vqm_step | refine vkp_free (by decide +kernel) ?_ | intro _) | refine zaY (j2 ui0 (j9 ui3 ui4 ui9 ui22 ui23 ui24 ui25 ui26 hk)) ?_ | ((first | (refine vlo_app zx ?_) | (refine vst_app zx ?_)); (try refine zsY (j2 ui0 (j9 ui3 ui4 ui9 ui22 ui23 ui24 ui25 ui26 hk)) ?_)) | (with_reducible first | refine vfresh_set ?_ | refine vfresh_intro (fun _ _ => ?_) | refine vif_intro (fun _ => ?_) (fun _ => ?_)) | omega | refine ztY (j2 ui0 (j9 ui3 ui4 ui9 ui22 ui23 ui24 ui25 ui26 hk)) ?_ | fail)
      all_goals exact ⟨_, .refl _, rfl, rfl⟩
    | true =>
      have hl : (Tr.not e).lvl = 4 := by cases e <;> first | (cases he; done) | rfl
      rw [hl, hk.2 he]
      (refine vfun (fun _ => .ro) mixed Tryz.func50 (by kernel_rfl) ?_; simp only [bodyOf, Tryz.f50, zr])
      repeat' (first | with_reducible rfl | exact trivial | exact .inr trivial | (with_reducible first | apply And.intro | apply vqx_step | apply vqm_step | refine vkp_free (by decide +kernel) ?_ | intro _) | refine zaY (j9 ui0 ui3 ui4 ui9 ui22 ui23 ui24 ui25 ui26) ?_ | ((first | (refine vlo_app zx ?_) | (refine vst_app zx ?_)); (try refine zsY (j9 ui0 ui3 ui4 ui9 ui22 ui23 ui24 ui25 ui26) ?_)) | (with_reducible first | refine vfresh_set ?_ | refine vfresh_intro (fun _ _ => ?_) | refine vif_intro (fun _ => ?_) (fun _ => ?_)) | omega | refine ztY (j9 ui0 ui3 ui4 ui9 ui22 ui23 ui24 ui25 ui26) ?_ | fail)
      all_goals exact ⟨_, .refl _, rfl, rfl⟩
  | op k a b =>
    rw [ex_op]
    have hk := hw.1
    (refine vfun (fun _ => .ro) mixed Tryz.func50 (by kernel_rfl) ?_; simp only [bodyOf, Tryz.f50, zr])
    repeat' (first | with_reducible rfl | exact trivial | exact .inr trivial | (with_reducible first | apply And.intro | apply vqx_step | apply vqm_step | refine vkp_free (by decide +kernel) ?_ | intro _) | refine zaY (j9 ui0 ui3 ui4 ui9 ui22 ui23 ui24 ui25 ui26) ?_ | ((first | (refine vlo_app zx ?_) | (refine vst_app zx ?_)); (try refine zsY (j9 ui0 ui3 ui4 ui9 ui22 ui23 ui24 ui25 ui26) ?_)) | (with_reducible first | refine vfresh_set ?_ | refine vfresh_intro (fun _ _ => ?_) | refine vif_intro (fun _ => ?_) (fun _ => ?_)) | omega | refine ztY (j9 ui0 ui3 ui4 ui9 ui22 ui23 ui24 ui25 ui26) ?_ | fail)
    all_goals (refine ⟨_, .refl _, i_eq ?_, rfl⟩; show _ = ((lvK k : Nat) : Int); rcases (by omega : k = 1 ∨ k = 2 ∨ k = 3 ∨ k = 4 ∨ k = 5 ∨ k = 6 ∨ k = 7 ∨ k = 8 ∨ k = 9 ∨ k = 10 ∨ k = 11 ∨ k = 12 ∨ k = 13) with rfl | rfl | rfl | rfl | rfl | rfl | rfl | rfl | rfl | rfl | rfl | rfl | rfl <;> first | rfl | (exfalso; omega))
theorem w_ops (σ : Sg) : VCalls Tryz.prog 51 [] σ (fun x σ' => x = .sl .full (strs ops) ∧ σ' = σ) := by
  (refine vfun (fun _ => .no) mixed Tryz.func51 (by kernel_rfl) ?_; simp only [bodyOf, Tryz.f51, zr])
  repeat' (first | with_reducible rfl | exact trivial | exact .inr trivial | (with_reducible first | apply And.intro | apply vqx_step | apply vqm_step | refine vkp_free (by decide +kernel) ?_ | intro _) | refine zaY (j2 ui9 ui75) ?_ | ((first | (refine vlo_app zx ?_) | (refine vst_app zx ?_)); (try refine zsY (j2 ui9 ui75) ?_)) | (with_reducible first | refine vfresh_set ?_ | refine vfresh_intro (fun _ _ => ?_) | refine vif_intro (fun _ => ?_) (fun _ => ?_)) | omega | refine ztY (j2 ui9 ui75) ?_ | fail)
  all_goals exact ⟨_, .refl _, rfl, rfl⟩
end Go.Proofs.YtjdapkelojdefaaGreatDoor

set_option linter.unusedSimpArgs false
set_option linter.unusedVariables false
namespace Go.Proofs.YtjdapkelojdefaaGreatDoor
open Go Go.V Go.Lex Go.Parse Go.Print
end Go.Proofs.YtjdapkelojdefaaGreatDoor

set_option linter.unusedSimpArgs false
set_option linter.unusedVariables false
namespace Go.Proofs.YtjdapkelojdefaaGreatDoor
open Go Go.V Go.Lex Go.Parse Go.Print
end Go.Proofs.YtjdapkelojdefaaGreatDoor

set_option linter.unusedSimpArgs false
set_option linter.unusedVariables false
namespace Go.Proofs.YtjdapkelojdefaaGreatDoor
open Go Go.V Go.Lex Go.Parse Go.Print
end Go.Proofs.YtjdapkelojdefaaGreatDoor

set_option linter.unusedSimpArgs false
set_option linter.unusedVariables false
namespace Go.Proofs.YtjdapkelojdefaaGreatDoor
open Go Go.V Go.Lex Go.Parse Go.Print
theorem lvl_le' (t : Tr) (h : t.wf) : 1 ≤ t.lvl ∧ t.lvl ≤ 7 := by
  cases t with
  | op k a b =>
    have : 1 ≤ lvK k ∧ lvK k ≤ 7 := by
      have := h.1
      unfold lvK
      repeat' split
      all_goals omega
    exact this
  | not e => cases e <;> exact ⟨Nat.le_of_ble_eq_true rfl, Nat.le_of_ble_eq_true rfl⟩
  | _ => exact ⟨Nat.le_of_ble_eq_true rfl, Nat.le_of_ble_eq_true rfl⟩
abbrev WS (B : Sg) (ω τ : Nat) (l : List Tk) (d m : Int) : Sg := WB 59 [.i d, .i m] B ω τ l
theorem WS_eq {B : Sg} {ω τ : Nat} {l l' : List Tk} {d d' m m' : Int} (h1 : l = l') (h2 : d = d') (h3 : m = m') : WS B ω τ l d m = WS B ω τ l' d' m' := by rw [h1, h2, h3]
def Wr (f : FuncId) (E : List AV) (tk : List Tk) (dp : Nat) : Prop := ∀ (B : Sg) (ω τ : Nat) (l : List Tk) (d m : Int), okS B ω τ → 0 ≤ d → d ≤ m → m ≤ 2 ^ 41 → d + dp ≤ 2 ^ 40 → l.length + tk.length ≤ 2 ^ 36 →
  VCalls Tryz.prog f [.ref ω 0, .agg E] (WS B ω τ l d m) (fun x σ' => x = .tup [] ∧ ∃ τ', okS B ω τ' ∧ σ' = WS B ω τ' (l ++ tk) d (max m (d + dp)))
def Cx (t : Tr) : Prop := Wr 21 (exA t.ex) t.tk t.dp
theorem w_within (t : Tr) (hC : Cx t) : Wr 151 (exA t.ex) t.tk (1 + t.dp) := by
  intro B ω τ l d m h h0 h1 h2 h3 h4
  have hC : ∀ τ l d m, _ := fun τ l d m => hC B ω τ l d m
  (refine vfun (fun _ => .ro) mixed Tryz.func151 (by kernel_rfl) ?_; simp only [bodyOf, Tryz.f151, zr])
  repeat' (first | with_reducible rfl | exact trivial | exact .inr trivial | (with_reducible first | apply And.intro | apply vqx_step | apply vqm_step | refine vkp_free (by decide +kernel) ?_ | intro _) | ((with_reducible refine .dms (fun x => x = ω) [(0, false), (1, false), (2, false), (3, false), (4, false), (5, false), (6, false), (7, false), (8, false), (9, false), (10, true), (11, false), (12, true)] (by decide) (by decide +kernel) ?_); (refine zsR (j8 ui0 ui3 ui9 ui22 ui23 ui24 ui25 (j9 ui26 ui55 ui56 ui57 ui58 ui59 ui101 ui102 (j9 @tksA_len @tksA_all @tksA_one @List.length_append.{0} @List.length_cons.{0} @List.length_nil.{0} @wds_len @wdsE_nil (j9 @wdsE_cons @splice0 @exA_len @exA_take @exA_drop @exA_one @exsA_nil @exsA_cons @exsA_len)))) ?_)) | ((with_reducible refine .dm (fun x => x = ω) [(0, false), (1, false), (2, false), (3, false), (4, false), (5, false), (6, false), (7, false), (8, false), (9, false), (10, true), (11, false), (12, true)] (by decide) (by decide +kernel) ?_); (refine zsR (j8 ui0 ui3 ui9 ui22 ui23 ui24 ui25 (j9 ui26 ui55 ui56 ui57 ui58 ui59 ui101 ui102 (j9 @tksA_len @tksA_all @tksA_one @List.length_append.{0} @List.length_cons.{0} @List.length_nil.{0} @wds_len @wdsE_nil (j9 @wdsE_cons @splice0 @exA_len @exA_take @exA_drop @exA_one @exsA_nil @exsA_cons @exsA_len)))) ?_)) | refine zaR (j8 ui0 ui3 ui9 ui22 ui23 ui24 ui25 (j9 ui26 ui55 ui56 ui57 ui58 ui59 ui101 ui102 (j9 @tksA_len @tksA_all @tksA_one @List.length_append.{0} @List.length_cons.{0} @List.length_nil.{0} @wds_len @wdsE_nil (j9 @wdsE_cons @splice0 @exA_len @exA_take @exA_drop @exA_one @exsA_nil @exsA_cons @exsA_len)))) ?_ | refine zkK (j8 ui0 ui3 ui9 ui22 ui23 ui24 ui25 (j9 ui26 ui55 ui56 ui57 ui58 ui59 ui101 ui102 (j9 @tksA_len @tksA_all @tksA_one @List.length_append.{0} @List.length_cons.{0} @List.length_nil.{0} @wds_len @wdsE_nil (j9 @wdsE_cons @splice0 @exA_len @exA_take @exA_drop @exA_one @exsA_nil @exsA_cons @exsA_len)))) ?_ | ((first | (refine vkp_keep (by intro β h; first | (rcases h with h | h <;> subst h <;> (simp (disch := first | assumption | (apply zv; assumption; assumption) | (apply zw; assumption; assumption; (intro e; cases e; done)) | omega) only [Sg.set_same, Sg.set_ne, Sg.set_ne', Sg.del_ne, Sg.del_ne'])) | (subst h; (simp (disch := first | assumption | (apply zv; assumption; assumption) | (apply zw; assumption; assumption; (intro e; cases e; done)) | omega) only [Sg.set_same, Sg.set_ne, Sg.set_ne', Sg.del_ne, Sg.del_ne']))) ?_) | ((with_reducible refine zy (hC _ _ _ _ (by first | assumption | exact ⟨by assumption, by assumption⟩) (by omega) (by omega) (by omega) (by omega) (by first | omega | (simp only [List.length_append, List.length_cons, List.length_nil, List.length_map]; omega))) ?_); rintro _ S ⟨rfl, τ1, ⟨f1, n1⟩, rfl⟩; have n1s := n1.symm) | (refine vlo_app zx ?_) | (refine vst_app zx ?_)); (try refine zsR (j8 ui0 ui3 ui9 ui22 ui23 ui24 ui25 (j9 ui26 ui55 ui56 ui57 ui58 ui59 ui101 ui102 (j9 @tksA_len @tksA_all @tksA_one @List.length_append.{0} @List.length_cons.{0} @List.length_nil.{0} @wds_len @wdsE_nil (j9 @wdsE_cons @splice0 @exA_len @exA_take @exA_drop @exA_one @exsA_nil @exsA_cons @exsA_len)))) ?_)) | refine zmR (j8 ui0 ui3 ui9 ui22 ui23 ui24 ui25 (j9 ui26 ui55 ui56 ui57 ui58 ui59 ui101 ui102 (j9 @tksA_len @tksA_all @tksA_one @List.length_append.{0} @List.length_cons.{0} @List.length_nil.{0} @wds_len @wdsE_nil (j9 @wdsE_cons @splice0 @exA_len @exA_take @exA_drop @exA_one @exsA_nil @exsA_cons @exsA_len)))) ?_ | (with_reducible first | refine vfresh_set ?_ | refine vfresh_intro (fun _ _ => ?_) | refine vif_intro (fun _ => ?_) (fun _ => ?_)) | omega | refine ztR (j8 ui0 ui3 ui9 ui22 ui23 ui24 ui25 (j9 ui26 ui55 ui56 ui57 ui58 ui59 ui101 ui102 (j9 @tksA_len @tksA_all @tksA_one @List.length_append.{0} @List.length_cons.{0} @List.length_nil.{0} @wds_len @wdsE_nil (j9 @wdsE_cons @splice0 @exA_len @exA_take @exA_drop @exA_one @exsA_nil @exsA_cons @exsA_len)))) ?_ | fail)
  all_goals exact ⟨_, .refl _, τ1, ⟨f1, n1⟩, WS_eq rfl (by omega) (by omega)⟩
theorem wdLP : wd [40] = sT [40] := rfl
theorem wdRP : wd [41] = sT [41] := rfl
theorem w_brackets (t : Tr) (hC : Cx t) : Wr 104 (exA t.ex) (br true t.tk) (1 + t.dp) := by
  intro B ω τ l d m h h0 h1 h2 h3 h4
  have hbl : (br true t.tk).length = t.tk.length + 2 := by simp [br]
  have hW := w_within t hC B ω
  (refine vfun (fun _ => .ro) mixed Tryz.func104 (by kernel_rfl) ?_; simp only [bodyOf, Tryz.f104, zr])
  repeat' (first | with_reducible rfl | exact trivial | exact .inr trivial | (with_reducible first | apply And.intro | apply vqx_step | apply vqm_step | refine vkp_free (by decide +kernel) ?_ | intro _) | refine zaR (j9 ui0 ui3 ui9 ui22 ui23 ui24 ui25 ui26 (j9 ui55 ui56 ui57 ui58 ui59 ui75 ui101 ui102 (j9 @tksA_len @tksA_all @tksA_one @List.length_append.{0} @List.length_cons.{0} @List.length_nil.{0} @wds_len @wdsE_nil (j9 @wdsE_cons @splice0 @exA_len @exA_take @exA_drop @exA_one @exsA_nil @exsA_cons @exsA_len)))) ?_ | refine zkN (j9 ui0 ui3 ui9 ui22 ui23 ui24 ui25 ui26 (j9 ui55 ui56 ui57 ui58 ui59 ui75 ui101 ui102 (j9 @tksA_len @tksA_all @tksA_one @List.length_append.{0} @List.length_cons.{0} @List.length_nil.{0} @wds_len @wdsE_nil (j9 @wdsE_cons @splice0 @exA_len @exA_take @exA_drop @exA_one @exsA_nil @exsA_cons @exsA_len)))) ?_ | ((first | (refine vkp_keep (by intro β h; first | (rcases h with h | h <;> subst h <;> (simp (disch := first | assumption | (apply zv; assumption; assumption) | (apply zw; assumption; assumption; (intro e; cases e; done)) | omega) only [Sg.set_same, Sg.set_ne, Sg.set_ne', Sg.del_ne, Sg.del_ne'])) | (subst h; (simp (disch := first | assumption | (apply zv; assumption; assumption) | (apply zw; assumption; assumption; (intro e; cases e; done)) | omega) only [Sg.set_same, Sg.set_ne, Sg.set_ne', Sg.del_ne, Sg.del_ne']))) ?_) | ((with_reducible refine zy (hW _ _ _ _ (by first | assumption | exact ⟨by assumption, by assumption⟩) (by omega) (by omega) (by omega) (by omega) (by first | omega | (simp only [List.length_append, List.length_cons, List.length_nil, List.length_map]; omega))) ?_); rintro _ S ⟨rfl, τ1, ⟨f1, n1⟩, rfl⟩; have n1s := n1.symm) | ((with_reducible refine zy (w_wordsE _ _ _ _ _ _ _ _ (by repeat (first | exact okW_nil | refine okW_cons ?_ (by simp))) (by first | assumption | exact ⟨by assumption, by assumption⟩) (by first | omega | (simp only [List.length_append, List.length_cons, List.length_nil, List.length_map]; omega))) ?_); rintro _ S ⟨rfl, τ1, ⟨f1, n1⟩, rfl⟩; have n1s := n1.symm) | (refine vlo_app zx ?_) | (refine vst_app zx ?_)); (try refine zsR (j9 ui0 ui3 ui9 ui22 ui23 ui24 ui25 ui26 (j9 ui55 ui56 ui57 ui58 ui59 ui75 ui101 ui102 (j9 @tksA_len @tksA_all @tksA_one @List.length_append.{0} @List.length_cons.{0} @List.length_nil.{0} @wds_len @wdsE_nil (j9 @wdsE_cons @splice0 @exA_len @exA_take @exA_drop @exA_one @exsA_nil @exsA_cons @exsA_len)))) ?_)) | refine zmR (j9 ui0 ui3 ui9 ui22 ui23 ui24 ui25 ui26 (j9 ui55 ui56 ui57 ui58 ui59 ui75 ui101 ui102 (j9 @tksA_len @tksA_all @tksA_one @List.length_append.{0} @List.length_cons.{0} @List.length_nil.{0} @wds_len @wdsE_nil (j9 @wdsE_cons @splice0 @exA_len @exA_take @exA_drop @exA_one @exsA_nil @exsA_cons @exsA_len)))) ?_ | (with_reducible first | refine vfresh_set ?_ | refine vfresh_intro (fun _ _ => ?_) | refine vif_intro (fun _ => ?_) (fun _ => ?_)) | omega | refine ztR (j9 ui0 ui3 ui9 ui22 ui23 ui24 ui25 ui26 (j9 ui55 ui56 ui57 ui58 ui59 ui75 ui101 ui102 (j9 @tksA_len @tksA_all @tksA_one @List.length_append.{0} @List.length_cons.{0} @List.length_nil.{0} @wds_len @wdsE_nil (j9 @wdsE_cons @splice0 @exA_len @exA_take @exA_drop @exA_one @exsA_nil @exsA_cons @exsA_len)))) ?_ | fail)
  all_goals exact ⟨_, .refl _, τ1, ⟨f1, n1⟩, WS_eq (by simp [br, wdLP, wdRP]) rfl (by omega)⟩
theorem w_at (t : Tr) (hw : t.wf) (hC : Cx t) (k : Nat) (hk : k ≤ 7) : ∀ (B : Sg) (ω τ : Nat) (l : List Tk) (d m : Int), okS B ω τ → 0 ≤ d → d ≤ m → m ≤ 2 ^ 41 → d + ((bd (lo t k) + t.dp : Nat) : Int) ≤ 2 ^ 40 → l.length + (br (lo t k) t.tk).length ≤ 2 ^ 36 →
    VCalls Tryz.prog 47 [.ref ω 0, .agg (exA t.ex), .i k] (WS B ω τ l d m) (fun x σ' => x = .tup [] ∧ ∃ τ', okS B ω τ' ∧ σ' = WS B ω τ' (l ++ br (lo t k) t.tk) d (max m (d + ((bd (lo t k) + t.dp : Nat) : Int)))) := by
  intro B ω τ l d m h h0 h1 h2 h3 h4
  have hl := w_level t hw _ rfl
  have hl7 := (lvl_le' t hw).2
  unfold lo at h3 h4 ⊢
  by_cases hc : t.lvl < k
  · rw [decide_eq_true hc] at h3 h4 ⊢
    simp only [bd, if_true] at h3 ⊢
    have hW := w_brackets t hC B ω
    generalize t.lvl = L at *
    (refine vfun (fun _ => .ro) mixed Tryz.func47 (by kernel_rfl) ?_; simp only [bodyOf, Tryz.f47, zr])
    repeat' (first | with_reducible rfl | exact trivial | exact .inr trivial | (with_reducible first | apply And.intro | apply vqx_step | apply vqm_step | refine vkp_free (by decide +kernel) ?_ | intro _) | refine zaY (j9 ui0 ui3 ui4 ui9 ui22 ui23 ui24 ui25 (j9 ui26 ui55 ui56 ui57 ui58 ui59 ui101 ui102 (j9 @tksA_len @tksA_all @tksA_one @List.length_append.{0} @List.length_cons.{0} @List.length_nil.{0} @wds_len @wdsE_nil (j9 @wdsE_cons @splice0 @exA_len @exA_take @exA_drop @exA_one @exsA_nil @exsA_cons @exsA_len)))) ?_ | ((first | ((with_reducible refine zy (hl _) ?_); rintro _ S ⟨rfl, rfl⟩) | ((with_reducible refine zy (hW _ _ _ _ (by first | assumption | exact ⟨by assumption, by assumption⟩) (by omega) (by omega) (by omega) (by omega) (by first | omega | (simp only [List.length_append, List.length_cons, List.length_nil, List.length_map]; omega))) ?_); rintro _ S ⟨rfl, τ1, ⟨f1, n1⟩, rfl⟩; have n1s := n1.symm) | ((with_reducible refine zy (w_level _ (by assumption) _ (by first | assumption | rfl) _) ?_); rintro _ S ⟨rfl, rfl⟩) | (refine vlo_app zx ?_) | (refine vst_app zx ?_)); (try refine zsY (j9 ui0 ui3 ui4 ui9 ui22 ui23 ui24 ui25 (j9 ui26 ui55 ui56 ui57 ui58 ui59 ui101 ui102 (j9 @tksA_len @tksA_all @tksA_one @List.length_append.{0} @List.length_cons.{0} @List.length_nil.{0} @wds_len @wdsE_nil (j9 @wdsE_cons @splice0 @exA_len @exA_take @exA_drop @exA_one @exsA_nil @exsA_cons @exsA_len)))) ?_)) | (with_reducible first | refine vfresh_set ?_ | refine vfresh_intro (fun _ _ => ?_) | refine vif_intro (fun _ => ?_) (fun _ => ?_)) | omega | refine ztY (j9 ui0 ui3 ui4 ui9 ui22 ui23 ui24 ui25 (j9 ui26 ui55 ui56 ui57 ui58 ui59 ui101 ui102 (j9 @tksA_len @tksA_all @tksA_one @List.length_append.{0} @List.length_cons.{0} @List.length_nil.{0} @wds_len @wdsE_nil (j9 @wdsE_cons @splice0 @exA_len @exA_take @exA_drop @exA_one @exsA_nil @exsA_cons @exsA_len)))) ?_ | fail)
    all_goals exact ⟨_, .refl _, τ1, ⟨f1, n1⟩, rfl⟩
  · rw [decide_eq_false hc] at h3 h4 ⊢
    simp only [bd, Bool.false_eq_true, if_false, Nat.zero_add, br] at h3 h4 ⊢
    have hW := hC B ω
    generalize t.lvl = L at *
    (refine vfun (fun _ => .ro) mixed Tryz.func47 (by kernel_rfl) ?_; simp only [bodyOf, Tryz.f47, zr])
    repeat' (first | with_reducible rfl | exact trivial | exact .inr trivial | (with_reducible first | apply And.intro | apply vqx_step | apply vqm_step | refine vkp_free (by decide +kernel) ?_ | intro _) | refine zaY (j9 ui0 ui3 ui4 ui9 ui22 ui23 ui24 ui25 (j9 ui26 ui55 ui56 ui57 ui58 ui59 ui101 ui102 (j9 @tksA_len @tksA_all @tksA_one @List.length_append.{0} @List.length_cons.{0} @List.length_nil.{0} @wds_len @wdsE_nil (j9 @wdsE_cons @splice0 @exA_len @exA_take @exA_drop @exA_one @exsA_nil @exsA_cons @exsA_len)))) ?_ | ((first | ((with_reducible refine zy (hl _) ?_); rintro _ S ⟨rfl, rfl⟩) | ((with_reducible refine zy (hW _ _ _ _ (by first | assumption | exact ⟨by assumption, by assumption⟩) (by omega) (by omega) (by omega) (by omega) (by first | omega | (simp only [List.length_append, List.length_cons, List.length_nil, List.length_map]; omega))) ?_); rintro _ S ⟨rfl, τ1, ⟨f1, n1⟩, rfl⟩; have n1s := n1.symm) | ((with_reducible refine zy (w_level _ (by assumption) _ (by first | assumption | rfl) _) ?_); rintro _ S ⟨rfl, rfl⟩) | (refine vlo_app zx ?_) | (refine vst_app zx ?_)); (try refine zsY (j9 ui0 ui3 ui4 ui9 ui22 ui23 ui24 ui25 (j9 ui26 ui55 ui56 ui57 ui58 ui59 ui101 ui102 (j9 @tksA_len @tksA_all @tksA_one @List.length_append.{0} @List.length_cons.{0} @List.length_nil.{0} @wds_len @wdsE_nil (j9 @wdsE_cons @splice0 @exA_len @exA_take @exA_drop @exA_one @exsA_nil @exsA_cons @exsA_len)))) ?_)) | (with_reducible first | refine vfresh_set ?_ | refine vfresh_intro (fun _ _ => ?_) | refine vif_intro (fun _ => ?_) (fun _ => ?_)) | omega | refine ztY (j9 ui0 ui3 ui4 ui9 ui22 ui23 ui24 ui25 (j9 ui26 ui55 ui56 ui57 ui58 ui59 ui101 ui102 (j9 @tksA_len @tksA_all @tksA_one @List.length_append.{0} @List.length_cons.{0} @List.length_nil.{0} @wds_len @wdsE_nil (j9 @wdsE_cons @splice0 @exA_len @exA_take @exA_drop @exA_one @exsA_nil @exsA_cons @exsA_len)))) ?_ | fail)
    all_goals exact ⟨_, .refl _, τ1, ⟨f1, n1⟩, rfl⟩
end Go.Proofs.YtjdapkelojdefaaGreatDoor
