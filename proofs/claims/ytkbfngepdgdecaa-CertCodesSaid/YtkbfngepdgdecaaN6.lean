/- Part 6 of the proof: C6, C7, C13, C15, C16, C17, C18, C19, C20, C21, C22, C23. -/
import Derived.Test.YtkbfngepdgdecaaN5

set_option linter.unusedSimpArgs false
set_option linter.unusedVariables false
namespace Go.Cert
open Go.V
theorem be_cons : ∀ (j n : Nat), be (j + 1) n = UInt8.ofNat (n / 256 ^ j) :: be j n
  | 0, n => by simp [be]
  | j + 1, n => by
    rw [be, be_cons j (n / 256), Nat.div_div_eq_div_mul, Nat.pow_succ, Nat.mul_comm 256]
    rfl
theorem put_be (n j : Nat) (hj : j < 8) : splice (List.replicate (8 - j) (AV.u8 0) ++ aB (be j n)) (7 - j) [AV.u8 (UInt8.ofNat (n / 256 ^ j)).toNat] = List.replicate (8 - (j + 1)) (AV.u8 0) ++ aB (be (j + 1) n) := by
  have h1 : (List.replicate (8 - j) (AV.u8 0) ++ aB (be j n)).take (7 - j) = List.replicate (7 - j) (AV.u8 0) := by
    rw [List.take_append_of_le_length (by simp; omega), List.take_replicate, Nat.min_eq_left (by omega)]
  have h2 : (List.replicate (8 - j) (AV.u8 0) ++ aB (be j n)).drop (7 - j + 1) = aB (be j n) := by
    rw [show 7 - j + 1 = 8 - j by omega, List.drop_left' (by simp)]
  unfold splice
  rw [h1, List.length_singleton, h2, be_cons, show 8 - (j + 1) = 7 - j by omega]
  simp [aB]
theorem Sg_set_del {σ : Sg} {β : Nat} {o : Ob} (h : σ β = none) : (σ.set β o).del β = σ := by
  funext x
  unfold Sg.del Sg.set
  by_cases e : x = β
  · subst e; simp [h]
  · simp [e]
theorem aB_chunks_all (l : List UInt8) (n : Nat) (h : n = l.length) : chunks 1 n (aB l) = bytesL l := by
  rw [aB_chunks n l (by omega), List.take_of_length_le (by omega)]
end Go.Cert
namespace Go.Proofs.Ytkbfngepdgdecaa
open Go Go.V Go.Cert
theorem vmk34 {σ : Sg} {R : AV → Sg → Prop} (h : vfresh σ fun β => R (.ms β 0 8 1) (σ.set β (.cells 5 (List.replicate (8 - 0) (.u8 0) ++ aB (be 0 0))))) : vmakeSlice Try.prog .obj 34 (.i 8) (.i 8) σ R := by
  unfold vmakeSlice
  simp only [Try.underlying34, info5]
  exact ⟨by decide, trivial, h⟩
set_option maxHeartbeats 1000000 in
set_option maxRecDepth 100000 in
theorem t52 (n : Nat) (σ : Sg) (hn : n ≤ 1099511627776) : VCalls Try.prog 52 [.i n] σ (fun x σ' => x = .sl .any (bytesL (be 8 n)) ∧ σ' = σ) := by
  apply VCalls.still
  (refine vfun (fun _ => .obj) mixed Try.func52 (by kernel_rfl) ?_; simp only [bodyOf, Try.f52, Option.getD_some])
  repeat' (first | with_reducible rfl | exact .inr trivial | with_reducible apply And.intro | with_reducible apply vqx_step | with_reducible apply vqm_step | with_reducible refine vkp_free (by decide +kernel) ?_ | with_reducible intro _ | ((first | (with_reducible first | refine .rs ?_ | refine .ds (by kernel_rfl) ?_ | refine .dg (by kernel_rfl) ?_ | refine .rg ?_ | refine .ite ?_ | refine .ret ?_ | refine .skip ?_ | refine .exit ?_ | refine .scope ?_ | refine .seq (.label ?_) | refine .block ?_ | refine .seq ?_)); (try simp only [vO, vQ, ↓vP, vE, vS, vB, vL, vF, vM, vN, vbs_full, Nat.reduceEqDiff, Nat.reduceAdd, Nat.reduceLeDiff, ne_eq, not_false_eq_true, Nat.reduceMul, Nat.reduceSub, Int.toNat_zero, Int.reduceToNat, Try.underlying34, Try.underlying5, Try.underlying3, info34, info5, info3, nadd, nadd1, nadd2, nadd3, n1add, n2add, vT])) | ((simp (disch := first | assumption | omega) only [w64, w8, tg_eq, Go.V.n1, Go.V.n2, Go.V.nn, Int.tdiv_eq_ediv_of_nonneg, Sg.set_same, Sg.set_ne, Sg.set_ne', Sg.del_ne, Sg.del_ne']); (try simp only [vO, vQ, ↓vP, vE, vS, vB, vL, vF, vM, vN, vbs_full, Nat.reduceEqDiff, Nat.reduceAdd, Nat.reduceLeDiff, ne_eq, not_false_eq_true, Nat.reduceMul, Nat.reduceSub, Int.toNat_zero, Int.reduceToNat, Try.underlying34, Try.underlying5, Try.underlying3, info34, info5, info3, nadd, nadd1, nadd2, nadd3, n1add, n2add, vT])) | ((with_reducible refine vmk34 ?_); (try simp only [vO, vQ, ↓vP, vE, vS, vB, vL, vF, vM, vN, vbs_full, Nat.reduceEqDiff, Nat.reduceAdd, Nat.reduceLeDiff, ne_eq, not_false_eq_true, Nat.reduceMul, Nat.reduceSub, Int.toNat_zero, Int.reduceToNat, Try.underlying34, Try.underlying5, Try.underlying3, info34, info5, info3, nadd, nadd1, nadd2, nadd3, n1add, n2add, vT])) | with_reducible refine vfresh_set ?_ | with_reducible refine vfresh_intro (fun _ _ => ?_) | with_reducible refine vif_intro (fun _ => ?_) (fun _ => ?_) | omega | ((with_reducible first | refine vop_at ?_ | refine vops_at ?_ | refine vquiet_at ?_ | refine vmix_at ?_ | refine Holds_at ?_); simp only [vO, vQ, ↓vP, vE, vS, vB, vL, vF, vM, vN, vbs_full, Nat.reduceEqDiff, Nat.reduceAdd, Nat.reduceLeDiff, ne_eq, not_false_eq_true, Nat.reduceMul, Nat.reduceSub, Int.toNat_zero, Int.reduceToNat, Try.underlying34, Try.underlying5, Try.underlying3, info34, info5, info3, nadd, nadd1, nadd2, nadd3, n1add, n2add, vT]))
  rename_i β hβ
  refine VW.loop3 (0 : Nat) () () (fun j _ _ => j ≤ 8) (fun j _ _ => [(0, .i (n / 256 ^ j : Nat)), (3, .ms β 0 8 1), (4, .i (7 - (j : Int)))]) (fun j _ _ => σ.set β (.cells 5 (List.replicate (8 - j) (.u8 0) ++ aB (be j n)))) (fun j _ _ => 8 - j) (by omega) (.refl _) ?_ ?_
  · simp only [vO, vQ, ↓vP, vE, vS, vB, vL, vF, vM, vN, vbs_full, Nat.reduceEqDiff, Nat.reduceAdd, Nat.reduceLeDiff, ne_eq, not_false_eq_true, Nat.reduceMul, Nat.reduceSub, Int.toNat_zero, Int.reduceToNat, vT]
    exact ⟨by rw [Nat.pow_zero, Nat.div_one], rfl⟩
  rintro j _ _ h1
  have hlen : (be j n).length = j := be_len _ _
  have hlt : n / 256 ^ j ≤ 1099511627776 := Nat.le_trans (Nat.div_le_self _ _) hn
  repeat' (first | with_reducible rfl | exact .inr trivial | with_reducible apply And.intro | with_reducible apply vqx_step | with_reducible apply vqm_step | with_reducible refine vkp_free (by decide +kernel) ?_ | with_reducible intro _ | ((first | (with_reducible first | refine .rs ?_ | refine .ds (by kernel_rfl) ?_ | refine .dg (by kernel_rfl) ?_ | refine .rg ?_ | refine .ite ?_ | refine .ret ?_ | refine .skip ?_ | refine .exit ?_ | refine .scope ?_ | refine .seq (.label ?_) | refine .block ?_ | refine .seq ?_)); (try simp only [vO, vQ, ↓vP, vE, vS, vB, vL, vF, vM, vN, vbs_full, Nat.reduceEqDiff, Nat.reduceAdd, Nat.reduceLeDiff, ne_eq, not_false_eq_true, Nat.reduceMul, Nat.reduceSub, Int.toNat_zero, Int.reduceToNat, Try.underlying34, Try.underlying5, Try.underlying3, info34, info5, info3, nadd, nadd1, nadd2, nadd3, n1add, n2add, vT])) | ((simp (disch := first | assumption | omega) only [w64, w8, tg_eq, Go.V.n1, Go.V.n2, Go.V.nn, Int.tdiv_eq_ediv_of_nonneg, Sg.set_same, Sg.set_ne, Sg.set_ne', Sg.del_ne, Sg.del_ne']); (try simp only [vO, vQ, ↓vP, vE, vS, vB, vL, vF, vM, vN, vbs_full, Nat.reduceEqDiff, Nat.reduceAdd, Nat.reduceLeDiff, ne_eq, not_false_eq_true, Nat.reduceMul, Nat.reduceSub, Int.toNat_zero, Int.reduceToNat, Try.underlying34, Try.underlying5, Try.underlying3, info34, info5, info3, nadd, nadd1, nadd2, nadd3, n1add, n2add, vT])) | with_reducible refine vfresh_set ?_ | with_reducible refine vfresh_intro (fun _ _ => ?_) | with_reducible refine vif_intro (fun _ => ?_) (fun _ => ?_) | omega | ((with_reducible first | refine vop_at ?_ | refine vops_at ?_ | refine vquiet_at ?_ | refine vmix_at ?_ | refine Holds_at ?_); simp only [vO, vQ, ↓vP, vE, vS, vB, vL, vF, vM, vN, vbs_full, Nat.reduceEqDiff, Nat.reduceAdd, Nat.reduceLeDiff, ne_eq, not_false_eq_true, Nat.reduceMul, Nat.reduceSub, Int.toNat_zero, Int.reduceToNat, Try.underlying34, Try.underlying5, Try.underlying3, info34, info5, info3, nadd, nadd1, nadd2, nadd3, n1add, n2add, vT]))
  · exact ⟨_, _, rfl⟩
  · have : j < 8 := by omega
    simp [aB_len, hlen]
    omega
  · have hj : j < 8 := by omega
    have hm : (7 - (j : Int)).toNat * 1 = 7 - j := by omega
    have hp := put_be n j hj
    rw [splice] at hp
    refine ⟨j + 1, (), (), ⟨by omega, by omega⟩, ?_, ?_, i_eq (by omega)⟩
    · rw [hm, u8_nat, ← hp]
      exact .refl _
    · rw [shr_nat _ 8 (by omega), Nat.div_div_eq_div_mul, Nat.pow_succ]
      rfl
  · obtain rfl : j = 8 := by omega
    refine ⟨_, .refl _, β, 8, 1, 5, _, by omega, rfl, Sg.set_same _ _ _, ?_, ?_, Sg_set_del hβ⟩
    · simp [aB_len, be_len]
    · rw [show List.replicate (8 - 8) (AV.u8 0) ++ aB (be 8 n) = aB (be 8 n) from rfl, aB_chunks_all _ _ (by rw [be_len])]
set_option maxHeartbeats 1000000 in
set_option maxRecDepth 100000 in
theorem t35a (q : Int) (l : List UInt8) (σ : Sg) (hl : l.length = 128) (hq : bad q) : VCalls Try.prog 35 [.agg (.i q :: aB l)] σ (fun x σ' => x = .tup [.sl .nil [], .i 1] ∧ σ' = σ) := by
  have hlen : (aB l).length = 128 := by rw [aB_len, hl]
  obtain ⟨z26, h26⟩ := sz26
  obtain ⟨z24, h24⟩ := sz24
  have hq2 : ¬ q < 0 → 1099511627776 < q := by unfold bad at hq; omega
  (refine vfun (fun _ => .ro) mixed Try.func35 (by kernel_rfl) ?_; simp only [bodyOf, Try.f35, Option.getD_some])
  repeat' (first | with_reducible rfl | exact .inr trivial | with_reducible apply And.intro | with_reducible apply vqx_step | with_reducible apply vqm_step | with_reducible refine vkp_free (by decide +kernel) ?_ | with_reducible intro _ | ((with_reducible refine .dms (fun _ => False) [] (by decide) (by kernel_rfl) ?_); (simp only [vO, vQ, ↓vP, vE, vS, vB, vL, vF, vM, vN, vbs_full, Nat.reduceEqDiff, Nat.reduceAdd, Nat.reduceLeDiff, ne_eq, not_false_eq_true, Nat.reduceMul, Nat.reduceSub, Int.toNat_zero, Int.reduceToNat, Try.underlying3, info3, Try.underlying23, Try.underlying24, Try.underlying25, Try.underlying26, Try.underlying34, Try.underlying70, info34, info70, h24, h26, aB_drop, aB_take, List.drop_drop, nadd, nadd1, nadd2, nadd3, n1add, n2add, vT])) | ((first | (with_reducible first | refine .rs ?_ | refine .ds (by kernel_rfl) ?_ | refine .dg (by kernel_rfl) ?_ | refine .rg ?_ | refine .ite ?_ | refine .ret ?_ | refine .skip ?_ | refine .exit ?_ | refine .scope ?_ | refine .seq (.label ?_) | refine .block ?_ | refine .seq ?_)); (try simp only [vO, vQ, ↓vP, vE, vS, vB, vL, vF, vM, vN, vbs_full, Nat.reduceEqDiff, Nat.reduceAdd, Nat.reduceLeDiff, ne_eq, not_false_eq_true, Nat.reduceMul, Nat.reduceSub, Int.toNat_zero, Int.reduceToNat, Try.underlying3, info3, Try.underlying23, Try.underlying24, Try.underlying25, Try.underlying26, Try.underlying34, Try.underlying70, info34, info70, h24, h26, aB_drop, aB_take, List.drop_drop, nadd, nadd1, nadd2, nadd3, n1add, n2add, vT])) | ((simp (disch := first | assumption | omega) only [w64, w8, tg_eq, Go.V.n1, Go.V.n2, Go.V.nn, Int.tdiv_eq_ediv_of_nonneg, Sg.set_same, Sg.set_ne, Sg.set_ne', Sg.del_ne, Sg.del_ne']); (try simp only [vO, vQ, ↓vP, vE, vS, vB, vL, vF, vM, vN, vbs_full, Nat.reduceEqDiff, Nat.reduceAdd, Nat.reduceLeDiff, ne_eq, not_false_eq_true, Nat.reduceMul, Nat.reduceSub, Int.toNat_zero, Int.reduceToNat, Try.underlying3, info3, Try.underlying23, Try.underlying24, Try.underlying25, Try.underlying26, Try.underlying34, Try.underlying70, info34, info70, h24, h26, aB_drop, aB_take, List.drop_drop, nadd, nadd1, nadd2, nadd3, n1add, n2add, vT])) | with_reducible refine vfresh_set ?_ | with_reducible refine vfresh_intro (fun _ _ => ?_) | with_reducible refine vif_intro (fun _ => ?_) (fun _ => ?_) | omega | ((with_reducible first | refine vop_at ?_ | refine vops_at ?_ | refine vquiet_at ?_ | refine vmix_at ?_ | refine Holds_at ?_); simp only [vO, vQ, ↓vP, vE, vS, vB, vL, vF, vM, vN, vbs_full, Nat.reduceEqDiff, Nat.reduceAdd, Nat.reduceLeDiff, ne_eq, not_false_eq_true, Nat.reduceMul, Nat.reduceSub, Int.toNat_zero, Int.reduceToNat, Try.underlying3, info3, Try.underlying23, Try.underlying24, Try.underlying25, Try.underlying26, Try.underlying34, Try.underlying70, info34, info70, h24, h26, aB_drop, aB_take, List.drop_drop, nadd, nadd1, nadd2, nadd3, n1add, n2add, vT]))
  all_goals first | exact ⟨_, .refl _, rfl⟩ | (exfalso; unfold bad at hq; omega)
set_option maxHeartbeats 1000000 in
set_option maxRecDepth 100000 in
theorem t35 (q : Int) (l : List UInt8) (σ : Sg) (hl : l.length = 128) (hq : ¬ bad q) : VCalls Try.prog 35 [.agg (.i q :: aB l)] σ (fun x σ' => ∃ y, x = .tup [y, .i 0] ∧ OwnB (hdB q l) σ y σ') := by
  have hlen : (aB l).length = 128 := by rw [aB_len, hl]
  have hc0 := aB_chunks 32 l (by omega)
  have hc1 := aB_chunks 32 (l.drop 32) (by simp [hl])
  have hc2 := aB_chunks 32 (l.drop 64) (by simp [hl])
  have hc3 := aB_chunks 32 (l.drop 96) (by simp [hl])
  have hk : ∀ m : List UInt8, (bytesL (m.take 32)).take 32 = bytesL (m.take 32) := fun m => List.take_of_length_le (by rw [bytesL_len, List.length_take]; omega)
  have h47 : ∀ σ, VCalls Try.prog 52 [.i q] σ (fun x σ' => x = .sl .any (bytesL (be 8 q.toNat)) ∧ σ' = σ) := fun σ => by
    have := t52 q.toNat σ (by unfold bad at hq; omega)
    rwa [Int.toNat_of_nonneg (by unfold bad at hq; omega)] at this
  have h57 : ∀ σ, VCalls Try.prog 36 [.sl .full [[.sl .any (bytesL (be 8 q.toNat))], [.sl .view (bytesL (l.take 32))], [.sl .view (bytesL ((l.drop 32).take 32))], [.sl .view (bytesL ((l.drop 64).take 32))], [.sl .view (bytesL ((l.drop 96).take 32))]]] σ (fun x σ' => OwnB (hdB q l) σ x σ') := fun σ =>
    t36 .full [(.any, be 8 q.toNat), (.view, l.take 32), (.view, (l.drop 32).take 32), (.view, (l.drop 64).take 32), (.view, (l.drop 96).take 32)] σ (by simp) (by simp [be_len]; omega)
  have hq' : ¬ q < 0 ∧ ¬ 1099511627776 < q := by unfold bad at hq; omega
  obtain ⟨hq1, hq2⟩ := hq'
  obtain ⟨z26, h26⟩ := sz26
  obtain ⟨z24, h24⟩ := sz24
  (refine vfun (fun _ => .ro) mixed Try.func35 (by kernel_rfl) ?_; simp only [bodyOf, Try.f35, Option.getD_some])
  repeat' (first | with_reducible rfl | exact .inr trivial | with_reducible apply And.intro | with_reducible apply vqx_step | with_reducible apply vqm_step | with_reducible refine vkp_free (by decide +kernel) ?_ | with_reducible intro _ | ((with_reducible refine .dms (fun _ => False) [(0, false), (3, false), (5, false), (7, false), (9, false), (1, false), (4, false), (6, false), (8, false), (10, false), (2, true), (11, false), (12, true), (13, false), (14, false)] (by decide) (by decide +kernel) ?_); (simp only [vO, vQ, ↓vP, vE, vS, vB, vL, vF, vM, vN, vbs_full, Nat.reduceEqDiff, Nat.reduceAdd, Nat.reduceLeDiff, ne_eq, not_false_eq_true, Nat.reduceMul, Nat.reduceSub, Int.toNat_zero, Int.reduceToNat, Try.underlying3, info3, Try.underlying5, info5, Try.underlying23, Try.underlying24, Try.underlying25, Try.underlying26, Try.underlying34, Try.underlying70, info34, info70, h24, h26, ↓hc0, ↓hc1, ↓hc2, ↓hc3, hk, hl, aB_len, List.length_drop, vown2_ro, aB_drop, aB_take, List.drop_drop, nadd, nadd1, nadd2, nadd3, n1add, n2add, vT])) | ((first | (with_reducible first | refine .rs ?_ | refine .ds (by kernel_rfl) ?_ | refine .dg (by kernel_rfl) ?_ | refine .rg ?_ | refine .ite ?_ | refine .ret ?_ | refine .skip ?_ | refine .exit ?_ | refine .scope ?_ | refine .seq (.label ?_) | refine .block ?_ | refine .seq ?_)); (try simp only [vO, vQ, ↓vP, vE, vS, vB, vL, vF, vM, vN, vbs_full, Nat.reduceEqDiff, Nat.reduceAdd, Nat.reduceLeDiff, ne_eq, not_false_eq_true, Nat.reduceMul, Nat.reduceSub, Int.toNat_zero, Int.reduceToNat, Try.underlying3, info3, Try.underlying5, info5, Try.underlying23, Try.underlying24, Try.underlying25, Try.underlying26, Try.underlying34, Try.underlying70, info34, info70, h24, h26, ↓hc0, ↓hc1, ↓hc2, ↓hc3, hk, hl, aB_len, List.length_drop, vown2_ro, aB_drop, aB_take, List.drop_drop, nadd, nadd1, nadd2, nadd3, n1add, n2add, vT])) | ((simp (disch := first | assumption | omega) only [w64, w8, tg_eq, Go.V.n1, Go.V.n2, Go.V.nn, Int.tdiv_eq_ediv_of_nonneg, Sg.set_same, Sg.set_ne, Sg.set_ne', Sg.del_ne, Sg.del_ne']); (try simp only [vO, vQ, ↓vP, vE, vS, vB, vL, vF, vM, vN, vbs_full, Nat.reduceEqDiff, Nat.reduceAdd, Nat.reduceLeDiff, ne_eq, not_false_eq_true, Nat.reduceMul, Nat.reduceSub, Int.toNat_zero, Int.reduceToNat, Try.underlying3, info3, Try.underlying5, info5, Try.underlying23, Try.underlying24, Try.underlying25, Try.underlying26, Try.underlying34, Try.underlying70, info34, info70, h24, h26, ↓hc0, ↓hc1, ↓hc2, ↓hc3, hk, hl, aB_len, List.length_drop, vown2_ro, aB_drop, aB_take, List.drop_drop, nadd, nadd1, nadd2, nadd3, n1add, n2add, vT])) | ((with_reducible refine vkp_keep (fun _ h => h.elim) ?_); (try simp only [vO, vQ, ↓vP, vE, vS, vB, vL, vF, vM, vN, vbs_full, Nat.reduceEqDiff, Nat.reduceAdd, Nat.reduceLeDiff, ne_eq, not_false_eq_true, Nat.reduceMul, Nat.reduceSub, Int.toNat_zero, Int.reduceToNat, Try.underlying3, info3, Try.underlying5, info5, Try.underlying23, Try.underlying24, Try.underlying25, Try.underlying26, Try.underlying34, Try.underlying70, info34, info70, h24, h26, ↓hc0, ↓hc1, ↓hc2, ↓hc3, hk, hl, aB_len, List.length_drop, vown2_ro, aB_drop, aB_take, List.drop_drop, nadd, nadd1, nadd2, nadd3, n1add, n2add, vT])) | ((((with_reducible refine (h47 _).mono ?_); rintro y σ' ⟨rfl, rfl⟩)); (try simp only [vO, vQ, ↓vP, vE, vS, vB, vL, vF, vM, vN, vbs_full, Nat.reduceEqDiff, Nat.reduceAdd, Nat.reduceLeDiff, ne_eq, not_false_eq_true, Nat.reduceMul, Nat.reduceSub, Int.toNat_zero, Int.reduceToNat, Try.underlying3, info3, Try.underlying5, info5, Try.underlying23, Try.underlying24, Try.underlying25, Try.underlying26, Try.underlying34, Try.underlying70, info34, info70, h24, h26, ↓hc0, ↓hc1, ↓hc2, ↓hc3, hk, hl, aB_len, List.length_drop, vown2_ro, aB_drop, aB_take, List.drop_drop, nadd, nadd1, nadd2, nadd3, n1add, n2add, vT])) | ((((with_reducible refine (h57 _).mono ?_); rintro y σ' ⟨τ', hτ', rfl, rfl⟩)); (try simp only [vO, vQ, ↓vP, vE, vS, vB, vL, vF, vM, vN, vbs_full, Nat.reduceEqDiff, Nat.reduceAdd, Nat.reduceLeDiff, ne_eq, not_false_eq_true, Nat.reduceMul, Nat.reduceSub, Int.toNat_zero, Int.reduceToNat, Try.underlying3, info3, Try.underlying5, info5, Try.underlying23, Try.underlying24, Try.underlying25, Try.underlying26, Try.underlying34, Try.underlying70, info34, info70, h24, h26, ↓hc0, ↓hc1, ↓hc2, ↓hc3, hk, hl, aB_len, List.length_drop, vown2_ro, aB_drop, aB_take, List.drop_drop, nadd, nadd1, nadd2, nadd3, n1add, n2add, vT])) | with_reducible refine vfresh_set ?_ | with_reducible refine vfresh_intro (fun _ _ => ?_) | with_reducible refine vif_intro (fun _ => ?_) (fun _ => ?_) | omega | ((with_reducible first | refine vop_at ?_ | refine vops_at ?_ | refine vquiet_at ?_ | refine vmix_at ?_ | refine Holds_at ?_); simp only [vO, vQ, ↓vP, vE, vS, vB, vL, vF, vM, vN, vbs_full, Nat.reduceEqDiff, Nat.reduceAdd, Nat.reduceLeDiff, ne_eq, not_false_eq_true, Nat.reduceMul, Nat.reduceSub, Int.toNat_zero, Int.reduceToNat, Try.underlying3, info3, Try.underlying5, info5, Try.underlying23, Try.underlying24, Try.underlying25, Try.underlying26, Try.underlying34, Try.underlying70, info34, info70, h24, h26, ↓hc0, ↓hc1, ↓hc2, ↓hc3, hk, hl, aB_len, List.length_drop, vown2_ro, aB_drop, aB_take, List.drop_drop, nadd, nadd1, nadd2, nadd3, n1add, n2add, vT]))
  all_goals
    exact ⟨_, .refl _, _, rfl, _, by assumption, rfl, rfl⟩
end Go.Proofs.Ytkbfngepdgdecaa

set_option linter.unusedSimpArgs false
set_option linter.unusedVariables false
namespace Go.Proofs.Ytkbfngepdgdecaa
open Go Go.V Go.Cert
/-- What is placed where: a name of its own for the constant bytes. -/
def h14 (n : Nat) : Hint := if n = 14 then .obj else .ro
theorem h14_1 : h14 1 = .ro := rfl
theorem h14_14 : h14 14 = .obj := rfl
theorem h14_17 : h14 17 = .ro := rfl
theorem own14 (e : TypeId) (s : Nat) (es : List (List AV)) (σ : Sg) (R : AV → Sg → Prop) : vown2 (h14 ((some 14).getD 0)) e s es σ R = (vfresh σ fun τ => R (.sl (.tok τ s) es) (σ.set τ (.tok (some e)))) := rfl
theorem own17 (e : TypeId) (s : Nat) (es : List (List AV)) (σ : Sg) (R : AV → Sg → Prop) : vown2 (h14 ((some 17).getD 0)) e s es σ R = R (.sl .full es) σ := rfl
set_option maxHeartbeats 1000000 in
set_option maxRecDepth 100000 in
theorem t12a (q : Int) (l : List UInt8) (σ : Sg) (hl : l.length = 128) (hq : bad q) : VCalls Try.prog 12 [.agg (.i q :: aB l)] σ (fun x σ' => x = .tup [.sl .nil [], .i 1] ∧ σ' = σ) := by
  obtain ⟨z26, h26⟩ := sz26
  have ht : (aB l).take 128 = aB l := List.take_of_length_le (by rw [aB_len]; omega)
  have h := t33a q l σ hl hq
  (refine vfun (fun _ => .ro) mixed Try.func12 (by kernel_rfl) ?_; simp only [bodyOf, Try.f12, Option.getD_some])
  repeat' (first | with_reducible rfl | exact .inr trivial | with_reducible apply And.intro | with_reducible apply vqx_step | with_reducible apply vqm_step | with_reducible refine vkp_free (by decide +kernel) ?_ | with_reducible intro _ | ((first | (with_reducible first | refine .rs ?_ | refine .ds (by kernel_rfl) ?_ | refine .dg (by kernel_rfl) ?_ | refine .rg ?_ | refine .ite ?_ | refine .ret ?_ | refine .skip ?_ | refine .exit ?_ | refine .scope ?_ | refine .seq (.label ?_) | refine .block ?_ | refine .seq ?_)); (try simp only [vO, vQ, ↓vP, vE, vS, vB, vL, vF, vM, vN, vbs_full, Nat.reduceEqDiff, Nat.reduceAdd, Nat.reduceLeDiff, ne_eq, not_false_eq_true, Nat.reduceMul, Nat.reduceSub, Int.toNat_zero, Int.reduceToNat, Try.underlying3, info3, Try.underlying5, info5, Try.underlying9, Try.underlying26, Try.underlying34, Try.underlying35, Try.underlying70, info34, info35, info70, h26, ht, hl, aB_len, nadd, nadd1, nadd2, nadd3, n1add, n2add, vT])) | ((simp (disch := first | assumption | omega) only [w64, w8, tg_eq, Go.V.n1, Go.V.n2, Go.V.nn, Int.tdiv_eq_ediv_of_nonneg, Sg.set_same, Sg.set_ne, Sg.set_ne', Sg.del_ne, Sg.del_ne']); (try simp only [vO, vQ, ↓vP, vE, vS, vB, vL, vF, vM, vN, vbs_full, Nat.reduceEqDiff, Nat.reduceAdd, Nat.reduceLeDiff, ne_eq, not_false_eq_true, Nat.reduceMul, Nat.reduceSub, Int.toNat_zero, Int.reduceToNat, Try.underlying3, info3, Try.underlying5, info5, Try.underlying9, Try.underlying26, Try.underlying34, Try.underlying35, Try.underlying70, info34, info35, info70, h26, ht, hl, aB_len, nadd, nadd1, nadd2, nadd3, n1add, n2add, vT])) | ((((with_reducible refine h.mono ?_); rintro _ σ' ⟨rfl, rfl⟩)); (try simp only [vO, vQ, ↓vP, vE, vS, vB, vL, vF, vM, vN, vbs_full, Nat.reduceEqDiff, Nat.reduceAdd, Nat.reduceLeDiff, ne_eq, not_false_eq_true, Nat.reduceMul, Nat.reduceSub, Int.toNat_zero, Int.reduceToNat, Try.underlying3, info3, Try.underlying5, info5, Try.underlying9, Try.underlying26, Try.underlying34, Try.underlying35, Try.underlying70, info34, info35, info70, h26, ht, hl, aB_len, nadd, nadd1, nadd2, nadd3, n1add, n2add, vT])) | with_reducible refine vfresh_set ?_ | with_reducible refine vfresh_intro (fun _ _ => ?_) | with_reducible refine vif_intro (fun _ => ?_) (fun _ => ?_) | omega | ((with_reducible first | refine vop_at ?_ | refine vops_at ?_ | refine vquiet_at ?_ | refine vmix_at ?_ | refine Holds_at ?_); simp only [vO, vQ, ↓vP, vE, vS, vB, vL, vF, vM, vN, vbs_full, Nat.reduceEqDiff, Nat.reduceAdd, Nat.reduceLeDiff, ne_eq, not_false_eq_true, Nat.reduceMul, Nat.reduceSub, Int.toNat_zero, Int.reduceToNat, Try.underlying3, info3, Try.underlying5, info5, Try.underlying9, Try.underlying26, Try.underlying34, Try.underlying35, Try.underlying70, info34, info35, info70, h26, ht, hl, aB_len, nadd, nadd1, nadd2, nadd3, n1add, n2add, vT]))
  all_goals exact ⟨_, .refl _, rfl⟩
set_option maxHeartbeats 1000000 in
set_option maxRecDepth 100000 in
theorem t12 (q : Int) (l : List UInt8) (σ : Sg) (hl : l.length = 128) (hq : ¬ bad q) : VCalls Try.prog 12 [.agg (.i q :: aB l)] σ (fun x σ' => ∃ y, x = .tup [y, .i 0] ∧ OwnB (certText q l) σ y σ') := by
  obtain ⟨z26, h26⟩ := sz26
  have ht : (aB l).take 128 = aB l := List.take_of_length_le (by rw [aB_len]; omega)
  have h := t33 q l σ hl hq
  have hL := hdB_len q l
  have h34 : ∀ τ σ, VCalls Try.prog 34 [.sl .full [[.sl .any [[.u8 115], [.u8 101], [.u8 97], [.u8 108]]], [.sl (.tok τ 1) (bytesL (hdB q l))]]] σ (fun x σ' => ∃ y, x = .tup [y, .i 0] ∧ OwnB (certText q l) σ y σ') := fun τ σ => t34 .full [(.any, sealT), (.tok τ 1, hdB q l)] σ (by simp) (by simp [sealT]; omega)
  (refine vfun (h14) mixed Try.func12 (by kernel_rfl) ?_; simp only [bodyOf, Try.f12, Option.getD_some])
  repeat' (first | with_reducible rfl | exact .inr trivial | with_reducible apply And.intro | with_reducible apply vqx_step | with_reducible apply vqm_step | with_reducible refine vkp_free (by decide +kernel) ?_ | with_reducible intro _ | ((first | (with_reducible first | refine .rs ?_ | refine .ds (by kernel_rfl) ?_ | refine .dg (by kernel_rfl) ?_ | refine .rg ?_ | refine .ite ?_ | refine .ret ?_ | refine .skip ?_ | refine .exit ?_ | refine .scope ?_ | refine .seq (.label ?_) | refine .block ?_ | refine .seq ?_)); (try simp only [vO, vQ, ↓vP, vE, vS, vB, vL, vF, vM, vN, vbs_full, Nat.reduceEqDiff, Nat.reduceAdd, Nat.reduceLeDiff, ne_eq, not_false_eq_true, Nat.reduceMul, Nat.reduceSub, Int.toNat_zero, Int.reduceToNat, Try.underlying3, info3, Try.underlying5, info5, Try.underlying9, Try.underlying26, Try.underlying34, Try.underlying35, Try.underlying70, info34, info35, info70, h26, ht, hl, aB_len, vown2_ro, Option.getD_some, h14_1, h14_14, h14_17, own14, own17, beq_self_eq_true, nadd, nadd1, nadd2, nadd3, n1add, n2add, vT])) | ((simp (disch := first | assumption | omega) only [w64, w8, tg_eq, Go.V.n1, Go.V.n2, Go.V.nn, Int.tdiv_eq_ediv_of_nonneg, Sg.set_same, Sg.set_ne, Sg.set_ne', Sg.del_ne, Sg.del_ne']); (try simp only [vO, vQ, ↓vP, vE, vS, vB, vL, vF, vM, vN, vbs_full, Nat.reduceEqDiff, Nat.reduceAdd, Nat.reduceLeDiff, ne_eq, not_false_eq_true, Nat.reduceMul, Nat.reduceSub, Int.toNat_zero, Int.reduceToNat, Try.underlying3, info3, Try.underlying5, info5, Try.underlying9, Try.underlying26, Try.underlying34, Try.underlying35, Try.underlying70, info34, info35, info70, h26, ht, hl, aB_len, vown2_ro, Option.getD_some, h14_1, h14_14, h14_17, own14, own17, beq_self_eq_true, nadd, nadd1, nadd2, nadd3, n1add, n2add, vT])) | ((((with_reducible refine h.mono ?_); rintro _ σ' ⟨y, rfl, τ, hτ, rfl, rfl⟩)); (try simp only [vO, vQ, ↓vP, vE, vS, vB, vL, vF, vM, vN, vbs_full, Nat.reduceEqDiff, Nat.reduceAdd, Nat.reduceLeDiff, ne_eq, not_false_eq_true, Nat.reduceMul, Nat.reduceSub, Int.toNat_zero, Int.reduceToNat, Try.underlying3, info3, Try.underlying5, info5, Try.underlying9, Try.underlying26, Try.underlying34, Try.underlying35, Try.underlying70, info34, info35, info70, h26, ht, hl, aB_len, vown2_ro, Option.getD_some, h14_1, h14_14, h14_17, own14, own17, beq_self_eq_true, nadd, nadd1, nadd2, nadd3, n1add, n2add, vT])) | ((((with_reducible refine (h34 _ _).mono ?_); rintro _ σ' ⟨y, rfl, τ', hτ', rfl, rfl⟩)); (try simp only [vO, vQ, ↓vP, vE, vS, vB, vL, vF, vM, vN, vbs_full, Nat.reduceEqDiff, Nat.reduceAdd, Nat.reduceLeDiff, ne_eq, not_false_eq_true, Nat.reduceMul, Nat.reduceSub, Int.toNat_zero, Int.reduceToNat, Try.underlying3, info3, Try.underlying5, info5, Try.underlying9, Try.underlying26, Try.underlying34, Try.underlying35, Try.underlying70, info34, info35, info70, h26, ht, hl, aB_len, vown2_ro, Option.getD_some, h14_1, h14_14, h14_17, own14, own17, beq_self_eq_true, nadd, nadd1, nadd2, nadd3, n1add, n2add, vT])) | with_reducible refine vfresh_set ?_ | with_reducible refine vfresh_intro (fun _ _ => ?_) | with_reducible refine vif_intro (fun _ => ?_) (fun _ => ?_) | omega | ((with_reducible first | refine vop_at ?_ | refine vops_at ?_ | refine vquiet_at ?_ | refine vmix_at ?_ | refine Holds_at ?_); simp only [vO, vQ, ↓vP, vE, vS, vB, vL, vF, vM, vN, vbs_full, Nat.reduceEqDiff, Nat.reduceAdd, Nat.reduceLeDiff, ne_eq, not_false_eq_true, Nat.reduceMul, Nat.reduceSub, Int.toNat_zero, Int.reduceToNat, Try.underlying3, info3, Try.underlying5, info5, Try.underlying9, Try.underlying26, Try.underlying34, Try.underlying35, Try.underlying70, info34, info35, info70, h26, ht, hl, aB_len, vown2_ro, Option.getD_some, h14_1, h14_14, h14_17, own14, own17, beq_self_eq_true, nadd, nadd1, nadd2, nadd3, n1add, n2add, vT]))
  all_goals
    rename_i x hx hne
    rw [Sg_set_del (Sg.set_none hx hne)] at hτ' ⊢
    obtain ⟨hne2, h0⟩ := Sg.of_set_none hτ'
    exact ⟨σ.set _ (.tok (some 5)), (by repeat (first | exact Sg.sub.refl _ | refine Sg.sub.set_both ?_ | refine Sg.sub.set_fresh ?_ (by first | assumption | exact Sg.set_none ‹_› ‹_›) | refine Sg.sub.del_fresh ?_ (by first | assumption | exact Sg.set_none ‹_› ‹_›))), _, rfl, _, h0, rfl, rfl⟩
set_option maxHeartbeats 1000000 in
set_option maxRecDepth 100000 in
theorem t13a (q : Int) (l : List UInt8) (σ : Sg) (hl : l.length = 128) (hq : bad q) : VCalls Try.prog 13 [.agg (.i q :: aB l)] σ (fun x σ' => x = .tup [.sl .nil [], .i 1] ∧ σ' = σ) := by
  obtain ⟨z26, h26⟩ := sz26
  have ht : (aB l).take 128 = aB l := List.take_of_length_le (by rw [aB_len]; omega)
  have h := t35a q l σ hl hq
  (refine vfun (fun _ => .ro) mixed Try.func13 (by kernel_rfl) ?_; simp only [bodyOf, Try.f13, Option.getD_some])
  repeat' (first | with_reducible rfl | exact .inr trivial | with_reducible apply And.intro | with_reducible apply vqx_step | with_reducible apply vqm_step | with_reducible refine vkp_free (by decide +kernel) ?_ | with_reducible intro _ | ((first | (with_reducible first | refine .rs ?_ | refine .ds (by kernel_rfl) ?_ | refine .dg (by kernel_rfl) ?_ | refine .rg ?_ | refine .ite ?_ | refine .ret ?_ | refine .skip ?_ | refine .exit ?_ | refine .scope ?_ | refine .seq (.label ?_) | refine .block ?_ | refine .seq ?_)); (try simp only [vO, vQ, ↓vP, vE, vS, vB, vL, vF, vM, vN, vbs_full, Nat.reduceEqDiff, Nat.reduceAdd, Nat.reduceLeDiff, ne_eq, not_false_eq_true, Nat.reduceMul, Nat.reduceSub, Int.toNat_zero, Int.reduceToNat, Try.underlying3, info3, Try.underlying5, info5, Try.underlying9, Try.underlying26, Try.underlying34, Try.underlying35, Try.underlying70, info34, info35, info70, h26, ht, hl, aB_len, nadd, nadd1, nadd2, nadd3, n1add, n2add, vT])) | ((simp (disch := first | assumption | omega) only [w64, w8, tg_eq, Go.V.n1, Go.V.n2, Go.V.nn, Int.tdiv_eq_ediv_of_nonneg, Sg.set_same, Sg.set_ne, Sg.set_ne', Sg.del_ne, Sg.del_ne']); (try simp only [vO, vQ, ↓vP, vE, vS, vB, vL, vF, vM, vN, vbs_full, Nat.reduceEqDiff, Nat.reduceAdd, Nat.reduceLeDiff, ne_eq, not_false_eq_true, Nat.reduceMul, Nat.reduceSub, Int.toNat_zero, Int.reduceToNat, Try.underlying3, info3, Try.underlying5, info5, Try.underlying9, Try.underlying26, Try.underlying34, Try.underlying35, Try.underlying70, info34, info35, info70, h26, ht, hl, aB_len, nadd, nadd1, nadd2, nadd3, n1add, n2add, vT])) | ((((with_reducible refine h.mono ?_); rintro _ σ' ⟨rfl, rfl⟩)); (try simp only [vO, vQ, ↓vP, vE, vS, vB, vL, vF, vM, vN, vbs_full, Nat.reduceEqDiff, Nat.reduceAdd, Nat.reduceLeDiff, ne_eq, not_false_eq_true, Nat.reduceMul, Nat.reduceSub, Int.toNat_zero, Int.reduceToNat, Try.underlying3, info3, Try.underlying5, info5, Try.underlying9, Try.underlying26, Try.underlying34, Try.underlying35, Try.underlying70, info34, info35, info70, h26, ht, hl, aB_len, nadd, nadd1, nadd2, nadd3, n1add, n2add, vT])) | with_reducible refine vfresh_set ?_ | with_reducible refine vfresh_intro (fun _ _ => ?_) | with_reducible refine vif_intro (fun _ => ?_) (fun _ => ?_) | omega | ((with_reducible first | refine vop_at ?_ | refine vops_at ?_ | refine vquiet_at ?_ | refine vmix_at ?_ | refine Holds_at ?_); simp only [vO, vQ, ↓vP, vE, vS, vB, vL, vF, vM, vN, vbs_full, Nat.reduceEqDiff, Nat.reduceAdd, Nat.reduceLeDiff, ne_eq, not_false_eq_true, Nat.reduceMul, Nat.reduceSub, Int.toNat_zero, Int.reduceToNat, Try.underlying3, info3, Try.underlying5, info5, Try.underlying9, Try.underlying26, Try.underlying34, Try.underlying35, Try.underlying70, info34, info35, info70, h26, ht, hl, aB_len, nadd, nadd1, nadd2, nadd3, n1add, n2add, vT]))
  all_goals exact ⟨_, .refl _, rfl⟩
set_option maxHeartbeats 1000000 in
set_option maxRecDepth 100000 in
theorem t13 (q : Int) (l : List UInt8) (σ : Sg) (hl : l.length = 128) (hq : ¬ bad q) : VCalls Try.prog 13 [.agg (.i q :: aB l)] σ (fun x σ' => ∃ y, x = .tup [y, .i 0] ∧ OwnB (certText q l) σ y σ') := by
  obtain ⟨z26, h26⟩ := sz26
  have ht : (aB l).take 128 = aB l := List.take_of_length_le (by rw [aB_len]; omega)
  have h := t35 q l σ hl hq
  have hL := hdB_len q l
  have h34 : ∀ τ σ, VCalls Try.prog 36 [.sl .full [[.sl .any [[.u8 115], [.u8 101], [.u8 97], [.u8 108]]], [.sl (.tok τ 1) (bytesL (hdB q l))]]] σ (fun x σ' => OwnB (certText q l) σ x σ') := fun τ σ => t36 .full [(.any, sealT), (.tok τ 1, hdB q l)] σ (by simp) (by simp [sealT]; omega)
  (refine vfun (h14) mixed Try.func13 (by kernel_rfl) ?_; simp only [bodyOf, Try.f13, Option.getD_some])
  repeat' (first | with_reducible rfl | exact .inr trivial | with_reducible apply And.intro | with_reducible apply vqx_step | with_reducible apply vqm_step | with_reducible refine vkp_free (by decide +kernel) ?_ | with_reducible intro _ | ((first | (with_reducible first | refine .rs ?_ | refine .ds (by kernel_rfl) ?_ | refine .dg (by kernel_rfl) ?_ | refine .rg ?_ | refine .ite ?_ | refine .ret ?_ | refine .skip ?_ | refine .exit ?_ | refine .scope ?_ | refine .seq (.label ?_) | refine .block ?_ | refine .seq ?_)); (try simp only [vO, vQ, ↓vP, vE, vS, vB, vL, vF, vM, vN, vbs_full, Nat.reduceEqDiff, Nat.reduceAdd, Nat.reduceLeDiff, ne_eq, not_false_eq_true, Nat.reduceMul, Nat.reduceSub, Int.toNat_zero, Int.reduceToNat, Try.underlying3, info3, Try.underlying5, info5, Try.underlying9, Try.underlying26, Try.underlying34, Try.underlying35, Try.underlying70, info34, info35, info70, h26, ht, hl, aB_len, vown2_ro, Option.getD_some, h14_1, h14_14, h14_17, own14, own17, beq_self_eq_true, nadd, nadd1, nadd2, nadd3, n1add, n2add, vT])) | ((simp (disch := first | assumption | omega) only [w64, w8, tg_eq, Go.V.n1, Go.V.n2, Go.V.nn, Int.tdiv_eq_ediv_of_nonneg, Sg.set_same, Sg.set_ne, Sg.set_ne', Sg.del_ne, Sg.del_ne']); (try simp only [vO, vQ, ↓vP, vE, vS, vB, vL, vF, vM, vN, vbs_full, Nat.reduceEqDiff, Nat.reduceAdd, Nat.reduceLeDiff, ne_eq, not_false_eq_true, Nat.reduceMul, Nat.reduceSub, Int.toNat_zero, Int.reduceToNat, Try.underlying3, info3, Try.underlying5, info5, Try.underlying9, Try.underlying26, Try.underlying34, Try.underlying35, Try.underlying70, info34, info35, info70, h26, ht, hl, aB_len, vown2_ro, Option.getD_some, h14_1, h14_14, h14_17, own14, own17, beq_self_eq_true, nadd, nadd1, nadd2, nadd3, n1add, n2add, vT])) | ((((with_reducible refine h.mono ?_); rintro _ σ' ⟨y, rfl, τ, hτ, rfl, rfl⟩)); (try simp only [vO, vQ, ↓vP, vE, vS, vB, vL, vF, vM, vN, vbs_full, Nat.reduceEqDiff, Nat.reduceAdd, Nat.reduceLeDiff, ne_eq, not_false_eq_true, Nat.reduceMul, Nat.reduceSub, Int.toNat_zero, Int.reduceToNat, Try.underlying3, info3, Try.underlying5, info5, Try.underlying9, Try.underlying26, Try.underlying34, Try.underlying35, Try.underlying70, info34, info35, info70, h26, ht, hl, aB_len, vown2_ro, Option.getD_some, h14_1, h14_14, h14_17, own14, own17, beq_self_eq_true, nadd, nadd1, nadd2, nadd3, n1add, n2add, vT])) | ((((with_reducible refine (h34 _ _).mono ?_); rintro _ σ' ⟨τ', hτ', rfl, rfl⟩)); (try simp only [vO, vQ, ↓vP, vE, vS, vB, vL, vF, vM, vN, vbs_full, Nat.reduceEqDiff, Nat.reduceAdd, Nat.reduceLeDiff, ne_eq, not_false_eq_true, Nat.reduceMul, Nat.reduceSub, Int.toNat_zero, Int.reduceToNat, Try.underlying3, info3, Try.underlying5, info5, Try.underlying9, Try.underlying26, Try.underlying34, Try.underlying35, Try.underlying70, info34, info35, info70, h26, ht, hl, aB_len, vown2_ro, Option.getD_some, h14_1, h14_14, h14_17, own14, own17, beq_self_eq_true, nadd, nadd1, nadd2, nadd3, n1add, n2add, vT])) | with_reducible refine vfresh_set ?_ | with_reducible refine vfresh_intro (fun _ _ => ?_) | with_reducible refine vif_intro (fun _ => ?_) (fun _ => ?_) | omega | ((with_reducible first | refine vop_at ?_ | refine vops_at ?_ | refine vquiet_at ?_ | refine vmix_at ?_ | refine Holds_at ?_); simp only [vO, vQ, ↓vP, vE, vS, vB, vL, vF, vM, vN, vbs_full, Nat.reduceEqDiff, Nat.reduceAdd, Nat.reduceLeDiff, ne_eq, not_false_eq_true, Nat.reduceMul, Nat.reduceSub, Int.toNat_zero, Int.reduceToNat, Try.underlying3, info3, Try.underlying5, info5, Try.underlying9, Try.underlying26, Try.underlying34, Try.underlying35, Try.underlying70, info34, info35, info70, h26, ht, hl, aB_len, vown2_ro, Option.getD_some, h14_1, h14_14, h14_17, own14, own17, beq_self_eq_true, nadd, nadd1, nadd2, nadd3, n1add, n2add, vT]))
  all_goals
    rename_i x hx hne
    rw [Sg_set_del (Sg.set_none hx hne)] at hτ' ⊢
    obtain ⟨hne2, h0⟩ := Sg.of_set_none hτ'
    exact ⟨σ.set _ (.tok (some 5)), (by repeat (first | exact Sg.sub.refl _ | refine Sg.sub.set_both ?_ | refine Sg.sub.set_fresh ?_ (by first | assumption | exact Sg.set_none ‹_› ‹_›) | refine Sg.sub.del_fresh ?_ (by first | assumption | exact Sg.set_none ‹_› ‹_›))), _, rfl, _, h0, rfl, rfl⟩
end Go.Proofs.Ytkbfngepdgdecaa

set_option linter.unusedSimpArgs false
set_option linter.unusedVariables false
namespace Go.Proofs.Ytkbfngepdgdecaa
open Go Go.V Go.Cert
/-- What checking comes to, m: the bits of who signed. -/
def chk (m : Nat) (n q s : Int) : Int := if ¬ isN n ∨ bad q then 1 else if isQ n s = true ∧ s < 2 ^ n.toNat ∧ s.toNat &&& m = s.toNat then 0 else 5
theorem most0 {n : Int} (h : most n = 0) : ¬ isN n := most_not (by omega)
theorem most1 {n : Int} (h : ¬ most n = 0) : isN n := by
  unfold most at h
  split at h
  · assumption
  · exact absurd rfl h
theorem isQ_of {n s : Int} (h : isQ n s = true) : isN n ∧ 0 ≤ s ∧ s ≤ 65535 := by
  unfold isQ at h
  have := of_decide_eq_true h
  exact ⟨this.1, this.2.1, this.2.2.1⟩
theorem shl_n {n : Int} (h : isN n) : IntKind.i64.wrap (1 * 2 ^ (min n.toNat IntKind.i64.bits)) = (2 ^ n.toNat : Int) := by
  have hk : n.toNat ≤ 16 := by have := h.2.1; omega
  have hp : 2 ^ n.toNat ≤ 65536 := by
    have := Nat.pow_le_pow_right (n := 2) (by omega) hk
    simpa using this
  show IntKind.i64.wrap (1 * 2 ^ (min n.toNat 64)) = (2 ^ n.toNat : Int)
  rw [Int.one_mul, Nat.min_eq_left (by omega), pow_cast, i64_nat (by omega)]
theorem and_s {s : Int} {m : Nat} (h : 0 ≤ s ∧ s ≤ 65535) (hm : m < 65536) : (IntKind.i64.wrap ↑(BitVec.ofInt IntKind.i64.bits s &&& BitVec.ofInt IntKind.i64.bits (m : Int)).toNat = s) = (s.toNat &&& m = s.toNat) := by
  obtain ⟨s, rfl⟩ := Int.eq_ofNat_of_zero_le h.1
  show (IntKind.i64.wrap ↑(BitVec.ofInt 64 (s : Int) &&& BitVec.ofInt 64 (m : Int)).toNat = (s : Int)) = (s &&& m = s)
  rw [and_nat (by omega) (by omega), i64_nat (Nat.lt_of_le_of_lt Nat.and_le_right (by omega))]
  exact propext ⟨fun h => by omega, fun h => by omega⟩
theorem bits16 (K : Nat → Bool) (n : Nat) : bitsOf K (min n 16) < 65536 :=
  Nat.lt_of_lt_of_le (bitsOf_lt K _) (by
    have := Nat.pow_le_pow_right (n := 2) (by omega) (Nat.min_le_right n 16)
    simpa using this)
theorem chk_good {m : Nat} {n q s : Int} (hn : isN n) (hq : ¬ bad q) : chk m n q s = if isQ n s = true ∧ s < 2 ^ n.toNat ∧ s.toNat &&& m = s.toNat then 0 else 5 := by
  unfold chk
  rw [if_neg (fun h => h.elim (fun h => h hn) hq)]
theorem sz28 : ∃ z, tInfo Try.prog 28 = some (some z, 130, 144) := ⟨_, info28⟩
set_option maxHeartbeats 1000000 in
set_option maxRecDepth 100000 in
theorem t17 (ρ : Nat) (ps : Ps) (k : Own) (n q s : Int) (l : List UInt8) (σ : Sg) (hl : ps.length ≤ 2 ^ 32) (hh : l.length = 128) (hρ : σ ρ = some (.cells 97 [.sl k (pairsA ps)])) : VCalls Try.prog 17 [.ref ρ 0, .i n, .agg (.i q :: (aB l ++ [.i s]))] σ (fun x σ' => x = .i (chk (bitsOf (fun m => decide (((m : Int), certText q l) ∈ ps)) (min n.toNat 16)) n q s) ∧ σ' = σ) := by
  obtain ⟨z26, h26⟩ := sz26
  obtain ⟨z28, h28⟩ := sz28
  have ht : (aB l ++ [AV.i s]).take 128 = aB l := by rw [List.take_left' (by rw [aB_len, hh])]
  have hd : (aB l ++ [AV.i s]).drop 128 = [AV.i s] := by rw [List.drop_left' (by rw [aB_len, hh])]
  have hlen : (aB l ++ [AV.i s]).length = 129 := by rw [List.length_append, aB_len, hh]; rfl
  by_cases hq : bad q
  · have h13 := t13a q l σ hh hq
    (refine vfun (fun _ => .ro) mixed Try.func17 (by kernel_rfl) ?_; simp only [bodyOf, Try.f17, Option.getD_some])
    repeat' (first | with_reducible rfl | exact .inr trivial | with_reducible apply And.intro | with_reducible apply vqx_step | with_reducible apply vqm_step | with_reducible refine vkp_free (by decide +kernel) ?_ | with_reducible intro _ | ((first | (with_reducible first | refine .rs ?_ | refine .ds (by kernel_rfl) ?_ | refine .dg (by kernel_rfl) ?_ | refine .rg ?_ | refine .ite ?_ | refine .ret ?_ | refine .skip ?_ | refine .exit ?_ | refine .scope ?_ | refine .seq (.label ?_) | refine .block ?_ | refine .seq ?_)); (try simp only [vO, vQ, ↓vP, vE, vS, vB, vL, vF, vM, vN, vbs_full, Nat.reduceEqDiff, Nat.reduceAdd, Nat.reduceLeDiff, ne_eq, not_false_eq_true, Nat.reduceMul, Nat.reduceSub, Int.toNat_zero, Int.reduceToNat, Try.underlying3, info3, Try.underlying26, Try.underlying27, Try.underlying28, Try.underlying34, Try.underlying35, info34, info35, h26, h28, ht, hd, hlen, vT])) | ((simp (disch := first | assumption | omega) only [w64, w8, tg_eq, n1, n2, nn, Int.tdiv_eq_ediv_of_nonneg, Sg.set_same, Sg.set_ne, Sg.set_ne', Sg.del_ne, Sg.del_ne']); (try simp only [vO, vQ, ↓vP, vE, vS, vB, vL, vF, vM, vN, vbs_full, Nat.reduceEqDiff, Nat.reduceAdd, Nat.reduceLeDiff, ne_eq, not_false_eq_true, Nat.reduceMul, Nat.reduceSub, Int.toNat_zero, Int.reduceToNat, Try.underlying3, info3, Try.underlying26, Try.underlying27, Try.underlying28, Try.underlying34, Try.underlying35, info34, info35, h26, h28, ht, hd, hlen, vT])) | ((((with_reducible refine h13.mono ?_); rintro _ σ' ⟨rfl, rfl⟩)); (try simp only [vO, vQ, ↓vP, vE, vS, vB, vL, vF, vM, vN, vbs_full, Nat.reduceEqDiff, Nat.reduceAdd, Nat.reduceLeDiff, ne_eq, not_false_eq_true, Nat.reduceMul, Nat.reduceSub, Int.toNat_zero, Int.reduceToNat, Try.underlying3, info3, Try.underlying26, Try.underlying27, Try.underlying28, Try.underlying34, Try.underlying35, info34, info35, h26, h28, ht, hd, hlen, vT])) | ((((with_reducible refine (t39 _ _).mono ?_); rintro _ σ' ⟨rfl, rfl⟩)); (try simp only [vO, vQ, ↓vP, vE, vS, vB, vL, vF, vM, vN, vbs_full, Nat.reduceEqDiff, Nat.reduceAdd, Nat.reduceLeDiff, ne_eq, not_false_eq_true, Nat.reduceMul, Nat.reduceSub, Int.toNat_zero, Int.reduceToNat, Try.underlying3, info3, Try.underlying26, Try.underlying27, Try.underlying28, Try.underlying34, Try.underlying35, info34, info35, h26, h28, ht, hd, hlen, vT])) | with_reducible refine vfresh_set ?_ | with_reducible refine vfresh_intro (fun _ _ => ?_) | with_reducible refine vif_intro (fun _ => ?_) (fun _ => ?_) | omega | ((with_reducible first | refine vop_at ?_ | refine vops_at ?_ | refine vquiet_at ?_ | refine vmix_at ?_ | refine Holds_at ?_); simp only [vO, vQ, ↓vP, vE, vS, vB, vL, vF, vM, vN, vbs_full, Nat.reduceEqDiff, Nat.reduceAdd, Nat.reduceLeDiff, ne_eq, not_false_eq_true, Nat.reduceMul, Nat.reduceSub, Int.toNat_zero, Int.reduceToNat, Try.underlying3, info3, Try.underlying26, Try.underlying27, Try.underlying28, Try.underlying34, Try.underlying35, info34, info35, h26, h28, ht, hd, hlen, vT]))
    all_goals exact ⟨_, .refl _, by rw [chk, if_pos (.inr hq)], rfl⟩
  · have h13 := t13 q l σ hh hq
    (refine vfun (fun _ => .ro) mixed Try.func17 (by kernel_rfl) ?_; simp only [bodyOf, Try.f17, Option.getD_some])
    repeat' (first | with_reducible rfl | exact .inr trivial | with_reducible apply And.intro | with_reducible apply vqx_step | with_reducible apply vqm_step | with_reducible refine vkp_free (by decide +kernel) ?_ | with_reducible intro _ | ((first | (with_reducible first | refine .rs ?_ | refine .ds (by kernel_rfl) ?_ | refine .dg (by kernel_rfl) ?_ | refine .rg ?_ | refine .ite ?_ | refine .ret ?_ | refine .skip ?_ | refine .exit ?_ | refine .scope ?_ | refine .seq (.label ?_) | refine .block ?_ | refine .seq ?_)); (try simp only [vO, vQ, ↓vP, vE, vS, vB, vL, vF, vM, vN, vbs_full, Nat.reduceEqDiff, Nat.reduceAdd, Nat.reduceLeDiff, ne_eq, not_false_eq_true, Nat.reduceMul, Nat.reduceSub, Int.toNat_zero, Int.reduceToNat, Try.underlying3, info3, Try.underlying26, Try.underlying27, Try.underlying28, Try.underlying34, Try.underlying35, info34, info35, h26, h28, ht, hd, hlen, vT])) | ((simp (disch := first | assumption | omega) only [w64, w8, tg_eq, n1, n2, nn, Int.tdiv_eq_ediv_of_nonneg, Sg.set_same, Sg.set_ne, Sg.set_ne', Sg.del_ne, Sg.del_ne']); (try simp only [vO, vQ, ↓vP, vE, vS, vB, vL, vF, vM, vN, vbs_full, Nat.reduceEqDiff, Nat.reduceAdd, Nat.reduceLeDiff, ne_eq, not_false_eq_true, Nat.reduceMul, Nat.reduceSub, Int.toNat_zero, Int.reduceToNat, Try.underlying3, info3, Try.underlying26, Try.underlying27, Try.underlying28, Try.underlying34, Try.underlying35, info34, info35, h26, h28, ht, hd, hlen, vT])) | ((((with_reducible refine h13.mono ?_); rintro _ σ' ⟨y, rfl, τ, hτ, rfl, rfl⟩; have hne : ρ ≠ τ := fun e => by rw [e, hτ] at hρ; cases hρ)); (try simp only [vO, vQ, ↓vP, vE, vS, vB, vL, vF, vM, vN, vbs_full, Nat.reduceEqDiff, Nat.reduceAdd, Nat.reduceLeDiff, ne_eq, not_false_eq_true, Nat.reduceMul, Nat.reduceSub, Int.toNat_zero, Int.reduceToNat, Try.underlying3, info3, Try.underlying26, Try.underlying27, Try.underlying28, Try.underlying34, Try.underlying35, info34, info35, h26, h28, ht, hd, hlen, vT])) | ((((with_reducible refine (t39 _ _).mono ?_); rintro _ σ' ⟨rfl, rfl⟩)); (try simp only [vO, vQ, ↓vP, vE, vS, vB, vL, vF, vM, vN, vbs_full, Nat.reduceEqDiff, Nat.reduceAdd, Nat.reduceLeDiff, ne_eq, not_false_eq_true, Nat.reduceMul, Nat.reduceSub, Int.toNat_zero, Int.reduceToNat, Try.underlying3, info3, Try.underlying26, Try.underlying27, Try.underlying28, Try.underlying34, Try.underlying35, info34, info35, h26, h28, ht, hd, hlen, vT])) | ((((with_reducible refine (t41 _ _ _).mono ?_); rintro _ σ' ⟨rfl, rfl⟩)); (try simp only [vO, vQ, ↓vP, vE, vS, vB, vL, vF, vM, vN, vbs_full, Nat.reduceEqDiff, Nat.reduceAdd, Nat.reduceLeDiff, ne_eq, not_false_eq_true, Nat.reduceMul, Nat.reduceSub, Int.toNat_zero, Int.reduceToNat, Try.underlying3, info3, Try.underlying26, Try.underlying27, Try.underlying28, Try.underlying34, Try.underlying35, info34, info35, h26, h28, ht, hd, hlen, vT])) | ((((with_reducible refine (t40 ρ ps k _ n (certText q l) _ hl (by rw [Sg.set_other _ _ (by assumption)]; exact hρ)).mono ?_); rintro _ σ' ⟨rfl, rfl⟩)); (try simp only [vO, vQ, ↓vP, vE, vS, vB, vL, vF, vM, vN, vbs_full, Nat.reduceEqDiff, Nat.reduceAdd, Nat.reduceLeDiff, ne_eq, not_false_eq_true, Nat.reduceMul, Nat.reduceSub, Int.toNat_zero, Int.reduceToNat, Try.underlying3, info3, Try.underlying26, Try.underlying27, Try.underlying28, Try.underlying34, Try.underlying35, info34, info35, h26, h28, ht, hd, hlen, vT])) | with_reducible refine vfresh_set ?_ | with_reducible refine vfresh_intro (fun _ _ => ?_) | with_reducible refine vif_intro (fun _ => ?_) (fun _ => ?_) | omega | ((with_reducible first | refine vop_at ?_ | refine vops_at ?_ | refine vquiet_at ?_ | refine vmix_at ?_ | refine Holds_at ?_); simp only [vO, vQ, ↓vP, vE, vS, vB, vL, vF, vM, vN, vbs_full, Nat.reduceEqDiff, Nat.reduceAdd, Nat.reduceLeDiff, ne_eq, not_false_eq_true, Nat.reduceMul, Nat.reduceSub, Int.toNat_zero, Int.reduceToNat, Try.underlying3, info3, Try.underlying26, Try.underlying27, Try.underlying28, Try.underlying34, Try.underlying35, info34, info35, h26, h28, ht, hd, hlen, vT]))
    · exact ⟨σ, (by repeat (first | exact Sg.sub.refl _ | refine Sg.sub.set_both ?_ | refine Sg.sub.set_fresh ?_ (by first | assumption | exact Sg.set_none ‹_› ‹_›) | refine Sg.sub.del_fresh ?_ (by first | assumption | exact Sg.set_none ‹_› ‹_›))), by rw [chk, if_pos (.inl (most0 ‹_›))], rfl⟩
    · have := (isQ_of ‹_›).1.1
      omega
    · have hN := most1 ‹_›
      have h2 := ‹IntKind.i64.wrap _ ≤ s›
      rw [shl_n hN] at h2
      exact ⟨σ, (by repeat (first | exact Sg.sub.refl _ | refine Sg.sub.set_both ?_ | refine Sg.sub.set_fresh ?_ (by first | assumption | exact Sg.set_none ‹_› ‹_›) | refine Sg.sub.del_fresh ?_ (by first | assumption | exact Sg.set_none ‹_› ‹_›))), by rw [chk_good hN hq, if_neg (fun h => by have := h.2.1; omega)], rfl⟩
    · have hN := most1 ‹_›
      have h2 := ‹¬ IntKind.i64.wrap _ ≤ s›
      have h3 := ‹IntKind.i64.wrap _ = s›
      rw [shl_n hN] at h2
      rw [and_s (isQ_of ‹_›).2 (bits16 _ _)] at h3
      exact ⟨σ, (by repeat (first | exact Sg.sub.refl _ | refine Sg.sub.set_both ?_ | refine Sg.sub.set_fresh ?_ (by first | assumption | exact Sg.set_none ‹_› ‹_›) | refine Sg.sub.del_fresh ?_ (by first | assumption | exact Sg.set_none ‹_› ‹_›))), by rw [chk_good hN hq, if_pos ⟨‹_›, by omega, h3⟩], rfl⟩
    · have hN := most1 ‹_›
      have h3 := ‹¬ IntKind.i64.wrap _ = s›
      rw [and_s (isQ_of ‹_›).2 (bits16 _ _)] at h3
      exact ⟨σ, (by repeat (first | exact Sg.sub.refl _ | refine Sg.sub.set_both ?_ | refine Sg.sub.set_fresh ?_ (by first | assumption | exact Sg.set_none ‹_› ‹_›) | refine Sg.sub.del_fresh ?_ (by first | assumption | exact Sg.set_none ‹_› ‹_›))), by rw [chk_good hN hq, if_neg (fun h => h3 h.2.2)], rfl⟩
    · have hN := most1 ‹_›
      exact ⟨σ, (by repeat (first | exact Sg.sub.refl _ | refine Sg.sub.set_both ?_ | refine Sg.sub.set_fresh ?_ (by first | assumption | exact Sg.set_none ‹_› ‹_›) | refine Sg.sub.del_fresh ?_ (by first | assumption | exact Sg.set_none ‹_› ‹_›))), by rw [chk_good hN hq, if_neg (fun h => ‹¬ isQ n s = true› h.1)], rfl⟩
end Go.Proofs.Ytkbfngepdgdecaa

set_option linter.unusedSimpArgs false
set_option linter.unusedVariables false
namespace Go.Cert
open Go.V
theorem veqIn_struct {P : Program} {d : Nat} {t : TypeId} {fs : Array Field} {xs ys : List AV} (hu : P.underlying t = some (.struct fs)) (hs : P.stoodInHeld t = false) : veqIn P (d + 1) t (.agg xs) (.agg ys) = veqFs P (veqIn P d) xs ys fs.toList := by
  simp only [veqIn, hu, hs]
  rfl
theorem veqIn_int {P : Program} {d : Nat} {t : TypeId} {k : IntKind} {q : IntKind} {a b : Int} (hu : P.underlying t = some (.int k)) : veqIn P (d + 1) t (.val (.int q a)) (.val (.int q b)) = some (decide (a = b)) := by
  simp only [veqIn, hu, if_true]
theorem veqIn_str {P : Program} {d : Nat} {t : TypeId} {a b : ByteArray} (hu : P.underlying t = some .string) : veqIn P (d + 1) t (.s a) (.s b) = some (sEq a b) := by
  simp only [veqIn, hu]
theorem veqFs_cons {P : Program} {eq : TypeId → AV → AV → Option Bool} {xs ys : List AV} {f : Field} {fs : List Field} {x y : AV} {c r : Bool} (hn : f.name ≠ "_") (hx : partO P f.type (xs.drop f.offset) = some x) (hy : partO P f.type (ys.drop f.offset) = some y)
    (he : eq f.type x y = some c) (hr : veqFs P eq xs ys fs = some r) : veqFs P eq xs ys (f :: fs) = some (c && r) := by
  simp only [veqFs, if_neg hn, hx, hy, he, hr]
theorem partO_one {P : Program} {t : TypeId} {i : Option Value × Nat × Nat} {d : TypeDesc} {x : AV} {r : List AV} (hi : tInfo P t = some i) (hd : P.underlying t = some d) (ha : isAggD d = false) : partO P t (x :: r) = some x := by
  obtain ⟨z, n, b⟩ := i
  simp only [partO, hi, hd, ha]
  rfl
theorem veqT_agg {P : Program} {t : TypeId} {d : TypeDesc} {xs ys : List AV} (hg : P.eqGuardType P.depth t = false) : veqT P t d (.agg xs) (.agg ys) = veqIn P 10000 t (.agg xs) (.agg ys) := by
  simp only [veqT, hg]
  rfl
end Go.Cert
namespace Go.Proofs.Ytkbfngepdgdecaa
open Go Go.V Go.Cert
def keyV (p : Int × List UInt8) : Value := .agg #[.int .i64 p.1, .string (bs p.2)]
/-- The map of who is known. -/
def knownM (ps : Ps) : List (Value × AV) := ps.map fun p => (keyV p, AV.b true)
theorem ofKey_V (a : Int × List UInt8) : ofKey (keyV a) = .agg [.i a.1, .s (bs a.2)] := rfl
theorem key_eq' (a b : Int × List UInt8) : veqIn Try.prog 10000 77 (.agg [.i a.1, .s (bs a.2)]) (.agg [.i b.1, .s (bs b.2)]) = some (decide (a.1 = b.1) && (sEq (bs a.2) (bs b.2) && true)) := by
  rw [veqIn_struct (d := 9999) Try.underlying77 (by kernel_rfl)]
  exact veqFs_cons (by decide) (partO_one info3 Try.underlying3 rfl) (partO_one info3 Try.underlying3 rfl) (veqIn_int Try.underlying3) (veqFs_cons (by decide) (partO_one info9 Try.underlying9 rfl) (partO_one info9 Try.underlying9 rfl) (veqIn_str Try.underlying9) rfl)
theorem key_eq (a b : Int × List UInt8) : vkeyS Try.prog 77 (keyV a) (keyV b) = some (decide (a = b)) := by
  unfold vkeyS
  rw [ofKey_V, ofKey_V, key_eq', bs_sEq, Bool.and_true]
  obtain ⟨a1, a2⟩ := a
  obtain ⟨b1, b2⟩ := b
  simp [Prod.mk.injEq]
theorem find_known (p : Int × List UInt8) (ps : Ps) : vfindS Try.prog 77 (keyV p) (knownM ps) = some (if p ∈ ps then some (AV.b true) else none) := by
  induction ps with
  | nil => simp [knownM, vfindS]
  | cons a r ih =>
    unfold knownM at ih ⊢
    rw [List.map_cons, vfindS, key_eq]
    by_cases h : p = a
    · subst h
      simp
    · simp only [h, decide_false]
      rw [ih]
      simp [h]
end Go.Proofs.Ytkbfngepdgdecaa

set_option linter.unusedSimpArgs false
set_option linter.unusedVariables false
namespace Go.Proofs.Ytkbfngepdgdecaa
open Go Go.V Go.Cert
theorem keyOK_V (w : Int) (l : List UInt8) : keyOK Try.prog 77 [.i w, .s (bs l)] = true := by kernel_rfl
theorem look90 {m : Nat} {w : Int} {l : List UInt8} {ps : Ps} {σ : Sg} {R : AV → Prop} (h : σ m = some (.map (knownM ps))) (hR : R (.b (decide ((w, l) ∈ ps)))) : vlookup Try.prog 90 (.map m) (.agg [.i w, .s (bs l)]) false σ R := by
  unfold vlookup
  simp only [Try.underlying90, allV, h, info4]
  refine ⟨keyOK_V w l, ?_⟩
  have := find_known (w, l) ps
  unfold keyV at this
  simp only [Option.map_some]
  rw [this]
  by_cases hm : (w, l) ∈ ps
  · simpa [hm] using hR
  · rw [decide_eq_false hm] at hR
    simp only [hm, if_false]
    exact hR
set_option maxHeartbeats 1000000 in
set_option maxRecDepth 100000 in
theorem t62 (ρ m1 m2 : Nat) (V : AV) (ps : Ps) (k' : Own) (w : Int) (l : List UInt8) (σ : Sg) (hρ : σ ρ = some (.cells 94 [.map m1, V, .map m2])) (hm : σ m1 = some (.map (knownM ps))) : VCalls Try.prog 62 [.ref ρ 0, .i w, .sl k' (bytesL l)] σ (fun x σ' => x = .b (decide ((w, l) ∈ ps)) ∧ σ' = σ) := by
  (refine vfun (fun _ => .no) mixed Try.func62 (by kernel_rfl) ?_; simp only [bodyOf, Try.f62, Option.getD_some])
  repeat' (first | with_reducible rfl | exact .inr trivial | with_reducible apply And.intro | with_reducible apply vqx_step | with_reducible apply vqm_step | with_reducible refine vkp_free (by decide +kernel) ?_ | with_reducible intro _ | ((first | (with_reducible first | refine .rs ?_ | refine .ds (by kernel_rfl) ?_ | refine .dg (by kernel_rfl) ?_ | refine .rg ?_ | refine .ite ?_ | refine .ret ?_ | refine .skip ?_ | refine .exit ?_ | refine .scope ?_ | refine .seq (.label ?_) | refine .block ?_ | refine .seq ?_)); (try simp only [vO, vQ, ↓vP, vE, vS, vB, vL, vF, vM, vN, vbs_full, Nat.reduceEqDiff, Nat.reduceAdd, Nat.reduceLeDiff, ne_eq, not_false_eq_true, Nat.reduceMul, Nat.reduceSub, Int.toNat_zero, Int.reduceToNat, Try.underlying3, info3, Try.underlying34, info34, Try.underlying4, info4, Try.underlying9, info9, Try.underlying5, info5, Try.underlying90, info90, Try.underlying93, Try.underlying94, info94, Try.underlying76, Try.underlying77, info77, hρ, vT])) | ((simp (disch := first | assumption | omega) only [w64, w8, tg_eq, n1, n2, nn, Int.tdiv_eq_ediv_of_nonneg, Sg.set_same, Sg.set_ne, Sg.set_ne', Sg.del_ne, Sg.del_ne']); (try simp only [vO, vQ, ↓vP, vE, vS, vB, vL, vF, vM, vN, vbs_full, Nat.reduceEqDiff, Nat.reduceAdd, Nat.reduceLeDiff, ne_eq, not_false_eq_true, Nat.reduceMul, Nat.reduceSub, Int.toNat_zero, Int.reduceToNat, Try.underlying3, info3, Try.underlying34, info34, Try.underlying4, info4, Try.underlying9, info9, Try.underlying5, info5, Try.underlying90, info90, Try.underlying93, Try.underlying94, info94, Try.underlying76, Try.underlying77, info77, hρ, vT])) | ((with_reducible refine ⟨bs l, (bs_bytesAV l).symm, ?_⟩); (try simp only [vO, vQ, ↓vP, vE, vS, vB, vL, vF, vM, vN, vbs_full, Nat.reduceEqDiff, Nat.reduceAdd, Nat.reduceLeDiff, ne_eq, not_false_eq_true, Nat.reduceMul, Nat.reduceSub, Int.toNat_zero, Int.reduceToNat, Try.underlying3, info3, Try.underlying34, info34, Try.underlying4, info4, Try.underlying9, info9, Try.underlying5, info5, Try.underlying90, info90, Try.underlying93, Try.underlying94, info94, Try.underlying76, Try.underlying77, info77, hρ, vT])) | ((with_reducible refine look90 hm ?_); (try simp only [vO, vQ, ↓vP, vE, vS, vB, vL, vF, vM, vN, vbs_full, Nat.reduceEqDiff, Nat.reduceAdd, Nat.reduceLeDiff, ne_eq, not_false_eq_true, Nat.reduceMul, Nat.reduceSub, Int.toNat_zero, Int.reduceToNat, Try.underlying3, info3, Try.underlying34, info34, Try.underlying4, info4, Try.underlying9, info9, Try.underlying5, info5, Try.underlying90, info90, Try.underlying93, Try.underlying94, info94, Try.underlying76, Try.underlying77, info77, hρ, vT])) | with_reducible refine vfresh_set ?_ | with_reducible refine vfresh_intro (fun _ _ => ?_) | with_reducible refine vif_intro (fun _ => ?_) (fun _ => ?_) | omega | ((with_reducible first | refine vop_at ?_ | refine vops_at ?_ | refine vquiet_at ?_ | refine vmix_at ?_ | refine Holds_at ?_); simp only [vO, vQ, ↓vP, vE, vS, vB, vL, vF, vM, vN, vbs_full, Nat.reduceEqDiff, Nat.reduceAdd, Nat.reduceLeDiff, ne_eq, not_false_eq_true, Nat.reduceMul, Nat.reduceSub, Int.toNat_zero, Int.reduceToNat, Try.underlying3, info3, Try.underlying34, info34, Try.underlying4, info4, Try.underlying9, info9, Try.underlying5, info5, Try.underlying90, info90, Try.underlying93, Try.underlying94, info94, Try.underlying76, Try.underlying77, info77, hρ, vT]))
  exact ⟨_, .refl _, rfl⟩
end Go.Proofs.Ytkbfngepdgdecaa

set_option linter.unusedSimpArgs false
set_option linter.unusedVariables false
namespace Go.Proofs.Ytkbfngepdgdecaa
open Go Go.V Go.Cert
set_option maxHeartbeats 1000000 in
set_option maxRecDepth 100000 in
theorem t30 (σ : Sg) : VCalls Try.prog 30 [] σ (fun x σ' => ∃ ρ m1 m2, σ ρ = none ∧ σ m1 = none ∧ σ m2 = none ∧ m2 ≠ m1 ∧ ρ ≠ m1 ∧ ρ ≠ m2 ∧ x = .ref ρ 0 ∧ σ' = ((σ.set m1 (.map [])).set m2 (.map [])).set ρ (.cells 94 [.map m1, .sl .nil [], .map m2])) := by
  (refine vfun (fun _ => .no) mixed Try.func30 (by kernel_rfl) ?_; simp only [bodyOf, Try.f30, Option.getD_some])
  repeat' (first | with_reducible rfl | exact .inr trivial | with_reducible apply And.intro | with_reducible apply vqx_step | with_reducible apply vqm_step | with_reducible refine vkp_free (by decide +kernel) ?_ | with_reducible intro _ | ((first | (with_reducible first | refine .rs ?_ | refine .ds (by kernel_rfl) ?_ | refine .dg (by kernel_rfl) ?_ | refine .rg ?_ | refine .ite ?_ | refine .ret ?_ | refine .skip ?_ | refine .exit ?_ | refine .scope ?_ | refine .seq (.label ?_) | refine .block ?_ | refine .seq ?_)); (try simp only [vO, vQ, ↓vP, vE, vS, vB, vL, vF, vM, vN, vbs_full, Nat.reduceEqDiff, Nat.reduceAdd, Nat.reduceLeDiff, ne_eq, not_false_eq_true, Nat.reduceMul, Nat.reduceSub, Int.toNat_zero, Int.reduceToNat, Try.underlying3, info3, Try.underlying4, info4, Try.underlying90, info90, Try.underlying91, info91, Try.underlying92, info92, Try.underlying93, Try.underlying94, info94, Try.underlying30, vT])) | ((simp (disch := first | assumption | omega) only [w64, w8, tg_eq, n1, n2, nn, Int.tdiv_eq_ediv_of_nonneg, Sg.set_same, Sg.set_ne, Sg.set_ne', Sg.del_ne, Sg.del_ne']); (try simp only [vO, vQ, ↓vP, vE, vS, vB, vL, vF, vM, vN, vbs_full, Nat.reduceEqDiff, Nat.reduceAdd, Nat.reduceLeDiff, ne_eq, not_false_eq_true, Nat.reduceMul, Nat.reduceSub, Int.toNat_zero, Int.reduceToNat, Try.underlying3, info3, Try.underlying4, info4, Try.underlying90, info90, Try.underlying91, info91, Try.underlying92, info92, Try.underlying93, Try.underlying94, info94, Try.underlying30, vT])) | with_reducible refine vfresh_set ?_ | with_reducible refine vfresh_intro (fun _ _ => ?_) | with_reducible refine vif_intro (fun _ => ?_) (fun _ => ?_) | omega | ((with_reducible first | refine vop_at ?_ | refine vops_at ?_ | refine vquiet_at ?_ | refine vmix_at ?_ | refine Holds_at ?_); simp only [vO, vQ, ↓vP, vE, vS, vB, vL, vF, vM, vN, vbs_full, Nat.reduceEqDiff, Nat.reduceAdd, Nat.reduceLeDiff, ne_eq, not_false_eq_true, Nat.reduceMul, Nat.reduceSub, Int.toNat_zero, Int.reduceToNat, Try.underlying3, info3, Try.underlying4, info4, Try.underlying90, info90, Try.underlying91, info91, Try.underlying92, info92, Try.underlying93, Try.underlying94, info94, Try.underlying30, vT]))
  rename_i m1 h1 m2 h2 h3 ρ h4 h5 h6
  exact ⟨_, .refl _, ρ, m1, m2, h4, h1, h2, h3, h5, h6, rfl, rfl⟩
end Go.Proofs.Ytkbfngepdgdecaa

set_option linter.unusedSimpArgs false
set_option linter.unusedVariables false
namespace Go.Proofs.Ytkbfngepdgdecaa
open Go Go.V Go.Cert
set_option maxHeartbeats 1000000 in
set_option maxRecDepth 100000 in
theorem t37a (ρ : Nat) (n q : Int) (l : List UInt8) (σ : Sg) (hh : l.length = 128) (hq : bad q) : VCalls Try.prog 37 [.ref ρ 0, .i n, .agg (.i q :: aB l)] σ (fun x σ' => x = .tup [.i 0, .i 1] ∧ σ' = σ) := by
  obtain ⟨z26, h26⟩ := sz26
  have ht : (aB l).take 128 = aB l := List.take_of_length_le (by rw [aB_len]; omega)
  have h12 := t12a q l σ hh hq
  (refine vfun (fun _ => .ro) mixed Try.func37 (by kernel_rfl) ?_; simp only [bodyOf, Try.f37, Option.getD_some])
  repeat' (first | with_reducible rfl | exact .inr trivial | with_reducible apply And.intro | with_reducible apply vqx_step | with_reducible apply vqm_step | with_reducible refine vkp_free (by decide +kernel) ?_ | with_reducible intro _ | ((first | (with_reducible first | refine .rs ?_ | refine .ds (by kernel_rfl) ?_ | refine .dg (by kernel_rfl) ?_ | refine .rg ?_ | refine .ite ?_ | refine .ret ?_ | refine .skip ?_ | refine .exit ?_ | refine .scope ?_ | refine .seq (.label ?_) | refine .block ?_ | refine .seq ?_)); (try simp only [vO, vQ, ↓vP, vE, vS, vB, vL, vF, vM, vN, vbs_full, Nat.reduceEqDiff, Nat.reduceAdd, Nat.reduceLeDiff, ne_eq, not_false_eq_true, Nat.reduceMul, Nat.reduceSub, Int.toNat_zero, Int.reduceToNat, Try.underlying3, info3, Try.underlying26, Try.underlying34, Try.underlying35, info34, info35, h26, ht, hh, aB_len, vT])) | ((simp (disch := first | assumption | omega) only [w64, w8, tg_eq, n1, n2, nn, Int.tdiv_eq_ediv_of_nonneg, Sg.set_same, Sg.set_ne, Sg.set_ne', Sg.del_ne, Sg.del_ne']); (try simp only [vO, vQ, ↓vP, vE, vS, vB, vL, vF, vM, vN, vbs_full, Nat.reduceEqDiff, Nat.reduceAdd, Nat.reduceLeDiff, ne_eq, not_false_eq_true, Nat.reduceMul, Nat.reduceSub, Int.toNat_zero, Int.reduceToNat, Try.underlying3, info3, Try.underlying26, Try.underlying34, Try.underlying35, info34, info35, h26, ht, hh, aB_len, vT])) | ((((with_reducible refine h12.mono ?_); rintro _ σ' ⟨rfl, rfl⟩)); (try simp only [vO, vQ, ↓vP, vE, vS, vB, vL, vF, vM, vN, vbs_full, Nat.reduceEqDiff, Nat.reduceAdd, Nat.reduceLeDiff, ne_eq, not_false_eq_true, Nat.reduceMul, Nat.reduceSub, Int.toNat_zero, Int.reduceToNat, Try.underlying3, info3, Try.underlying26, Try.underlying34, Try.underlying35, info34, info35, h26, ht, hh, aB_len, vT])) | ((((with_reducible refine (t61 _ _).mono ?_); rintro _ σ' ⟨rfl, rfl⟩)); (try simp only [vO, vQ, ↓vP, vE, vS, vB, vL, vF, vM, vN, vbs_full, Nat.reduceEqDiff, Nat.reduceAdd, Nat.reduceLeDiff, ne_eq, not_false_eq_true, Nat.reduceMul, Nat.reduceSub, Int.toNat_zero, Int.reduceToNat, Try.underlying3, info3, Try.underlying26, Try.underlying34, Try.underlying35, info34, info35, h26, ht, hh, aB_len, vT])) | with_reducible refine vfresh_set ?_ | with_reducible refine vfresh_intro (fun _ _ => ?_) | with_reducible refine vif_intro (fun _ => ?_) (fun _ => ?_) | omega | ((with_reducible first | refine vop_at ?_ | refine vops_at ?_ | refine vquiet_at ?_ | refine vmix_at ?_ | refine Holds_at ?_); simp only [vO, vQ, ↓vP, vE, vS, vB, vL, vF, vM, vN, vbs_full, Nat.reduceEqDiff, Nat.reduceAdd, Nat.reduceLeDiff, ne_eq, not_false_eq_true, Nat.reduceMul, Nat.reduceSub, Int.toNat_zero, Int.reduceToNat, Try.underlying3, info3, Try.underlying26, Try.underlying34, Try.underlying35, info34, info35, h26, ht, hh, aB_len, vT]))
  all_goals exact ⟨_, .refl _, rfl⟩
theorem fErr_no {n : Int} (h : ¬ fErr n = 0) : ¬ isN n := fun hn => h ((fErr_eq n).mpr hn)
set_option maxHeartbeats 1000000 in
set_option maxRecDepth 100000 in
theorem t37n (ρ : Nat) (n q : Int) (l : List UInt8) (σ : Sg) (hh : l.length = 128) (hq : ¬ bad q) (hn : ¬ isN n) : VCalls Try.prog 37 [.ref ρ 0, .i n, .agg (.i q :: aB l)] σ (fun x σ' => x = .tup [.i 0, .i 1] ∧ σ' = σ) := by
  obtain ⟨z26, h26⟩ := sz26
  have ht : (aB l).take 128 = aB l := List.take_of_length_le (by rw [aB_len]; omega)
  have h12 := t12 q l σ hh hq
  have he : fErr n = 1 := by simp [fErr, hn]
  have hf : fOf n = 0 := by simp [fOf, hn]
  have h61 := fun σ => t61 n σ
  rw [he, hf] at h61
  (refine vfun (fun _ => .ro) mixed Try.func37 (by kernel_rfl) ?_; simp only [bodyOf, Try.f37, Option.getD_some])
  repeat' (first | with_reducible rfl | exact .inr trivial | with_reducible apply And.intro | with_reducible apply vqx_step | with_reducible apply vqm_step | with_reducible refine vkp_free (by decide +kernel) ?_ | with_reducible intro _ | ((first | (with_reducible first | refine .rs ?_ | refine .ds (by kernel_rfl) ?_ | refine .dg (by kernel_rfl) ?_ | refine .rg ?_ | refine .ite ?_ | refine .ret ?_ | refine .skip ?_ | refine .exit ?_ | refine .scope ?_ | refine .seq (.label ?_) | refine .block ?_ | refine .seq ?_)); (try simp only [vO, vQ, ↓vP, vE, vS, vB, vL, vF, vM, vN, vbs_full, Nat.reduceEqDiff, Nat.reduceAdd, Nat.reduceLeDiff, ne_eq, not_false_eq_true, Nat.reduceMul, Nat.reduceSub, Int.toNat_zero, Int.reduceToNat, Try.underlying3, info3, Try.underlying26, Try.underlying34, Try.underlying35, info34, info35, h26, ht, hh, aB_len, vT])) | ((simp (disch := first | assumption | omega) only [w64, w8, tg_eq, n1, n2, nn, Int.tdiv_eq_ediv_of_nonneg, Sg.set_same, Sg.set_ne, Sg.set_ne', Sg.del_ne, Sg.del_ne']); (try simp only [vO, vQ, ↓vP, vE, vS, vB, vL, vF, vM, vN, vbs_full, Nat.reduceEqDiff, Nat.reduceAdd, Nat.reduceLeDiff, ne_eq, not_false_eq_true, Nat.reduceMul, Nat.reduceSub, Int.toNat_zero, Int.reduceToNat, Try.underlying3, info3, Try.underlying26, Try.underlying34, Try.underlying35, info34, info35, h26, ht, hh, aB_len, vT])) | ((((with_reducible refine h12.mono ?_); rintro _ σ' ⟨y, rfl, τ, hτ, rfl, rfl⟩)); (try simp only [vO, vQ, ↓vP, vE, vS, vB, vL, vF, vM, vN, vbs_full, Nat.reduceEqDiff, Nat.reduceAdd, Nat.reduceLeDiff, ne_eq, not_false_eq_true, Nat.reduceMul, Nat.reduceSub, Int.toNat_zero, Int.reduceToNat, Try.underlying3, info3, Try.underlying26, Try.underlying34, Try.underlying35, info34, info35, h26, ht, hh, aB_len, vT])) | ((((with_reducible refine (h61 _).mono ?_); rintro _ σ' ⟨rfl, rfl⟩)); (try simp only [vO, vQ, ↓vP, vE, vS, vB, vL, vF, vM, vN, vbs_full, Nat.reduceEqDiff, Nat.reduceAdd, Nat.reduceLeDiff, ne_eq, not_false_eq_true, Nat.reduceMul, Nat.reduceSub, Int.toNat_zero, Int.reduceToNat, Try.underlying3, info3, Try.underlying26, Try.underlying34, Try.underlying35, info34, info35, h26, ht, hh, aB_len, vT])) | with_reducible refine vfresh_set ?_ | with_reducible refine vfresh_intro (fun _ _ => ?_) | with_reducible refine vif_intro (fun _ => ?_) (fun _ => ?_) | omega | ((with_reducible first | refine vop_at ?_ | refine vops_at ?_ | refine vquiet_at ?_ | refine vmix_at ?_ | refine Holds_at ?_); simp only [vO, vQ, ↓vP, vE, vS, vB, vL, vF, vM, vN, vbs_full, Nat.reduceEqDiff, Nat.reduceAdd, Nat.reduceLeDiff, ne_eq, not_false_eq_true, Nat.reduceMul, Nat.reduceSub, Int.toNat_zero, Int.reduceToNat, Try.underlying3, info3, Try.underlying26, Try.underlying34, Try.underlying35, info34, info35, h26, ht, hh, aB_len, vT]))
  all_goals exact ⟨σ, (by repeat (first | exact Sg.sub.refl _ | refine Sg.sub.set_both ?_ | refine Sg.sub.set_fresh ?_ (by first | assumption | exact Sg.set_none ‹_› ‹_›) | refine Sg.sub.del_fresh ?_ (by first | assumption | exact Sg.set_none ‹_› ‹_›))), rfl⟩
end Go.Proofs.Ytkbfngepdgdecaa

set_option linter.unusedSimpArgs false
set_option linter.unusedVariables false
namespace Go.Proofs.Ytkbfngepdgdecaa
open Go Go.V Go.Cert
set_option maxHeartbeats 1000000 in
set_option maxRecDepth 100000 in
theorem t37 (ρ m1 m2 : Nat) (V : AV) (ps : Ps) (n q : Int) (l : List UInt8) (σ : Sg) (hh : l.length = 128) (hq : ¬ bad q) (hn : isN n) (hρ : σ ρ = some (.cells 94 [.map m1, V, .map m2])) (hm : σ m1 = some (.map (knownM ps))) : VCalls Try.prog 37 [.ref ρ 0, .i n, .agg (.i q :: aB l)] σ (fun x σ' => x = .tup [.i (bitsOf (fun m => decide (((m : Int), certText q l) ∈ ps)) n.toNat), .i 0] ∧ σ' = σ) := by
  obtain ⟨z26, h26⟩ := sz26
  have ht : (aB l).take 128 = aB l := List.take_of_length_le (by rw [aB_len]; omega)
  have h12 := t12 q l σ hh hq
  have he : fErr n = 0 := by simp [fErr, hn]
  have h61 := fun σ => t61 n σ
  rw [he] at h61
  have hn1 := hn.1
  have hn2 := hn.2.1
  (refine vfun (fun _ => .ro) mixed Try.func37 (by kernel_rfl) ?_; simp only [bodyOf, Try.f37, Option.getD_some])
  repeat' (first | with_reducible rfl | exact .inr trivial | with_reducible apply And.intro | with_reducible apply vqx_step | with_reducible apply vqm_step | with_reducible refine vkp_free (by decide +kernel) ?_ | with_reducible intro _ | ((first | (with_reducible first | refine .rs ?_ | refine .ds (by kernel_rfl) ?_ | refine .dg (by kernel_rfl) ?_ | refine .rg ?_ | refine .ite ?_ | refine .ret ?_ | refine .skip ?_ | refine .exit ?_ | refine .scope ?_ | refine .seq (.label ?_) | refine .block ?_ | refine .seq ?_)); (try simp only [vO, vQ, ↓vP, vE, vS, vB, vL, vF, vM, vN, vbs_full, Nat.reduceEqDiff, Nat.reduceAdd, Nat.reduceLeDiff, ne_eq, not_false_eq_true, Nat.reduceMul, Nat.reduceSub, Int.toNat_zero, Int.reduceToNat, Try.underlying3, info3, Try.underlying26, Try.underlying34, Try.underlying35, info34, info35, h26, ht, hh, aB_len, vT])) | ((simp (disch := first | assumption | omega) only [w64, w8, tg_eq, n1, n2, nn, Int.tdiv_eq_ediv_of_nonneg, Sg.set_same, Sg.set_ne, Sg.set_ne', Sg.del_ne, Sg.del_ne']); (try simp only [vO, vQ, ↓vP, vE, vS, vB, vL, vF, vM, vN, vbs_full, Nat.reduceEqDiff, Nat.reduceAdd, Nat.reduceLeDiff, ne_eq, not_false_eq_true, Nat.reduceMul, Nat.reduceSub, Int.toNat_zero, Int.reduceToNat, Try.underlying3, info3, Try.underlying26, Try.underlying34, Try.underlying35, info34, info35, h26, ht, hh, aB_len, vT])) | ((((with_reducible refine h12.mono ?_); rintro _ σ' ⟨y, rfl, τ, hτ, rfl, rfl⟩)); (try simp only [vO, vQ, ↓vP, vE, vS, vB, vL, vF, vM, vN, vbs_full, Nat.reduceEqDiff, Nat.reduceAdd, Nat.reduceLeDiff, ne_eq, not_false_eq_true, Nat.reduceMul, Nat.reduceSub, Int.toNat_zero, Int.reduceToNat, Try.underlying3, info3, Try.underlying26, Try.underlying34, Try.underlying35, info34, info35, h26, ht, hh, aB_len, vT])) | ((((with_reducible refine (h61 _).mono ?_); rintro _ σ' ⟨rfl, rfl⟩)); (try simp only [vO, vQ, ↓vP, vE, vS, vB, vL, vF, vM, vN, vbs_full, Nat.reduceEqDiff, Nat.reduceAdd, Nat.reduceLeDiff, ne_eq, not_false_eq_true, Nat.reduceMul, Nat.reduceSub, Int.toNat_zero, Int.reduceToNat, Try.underlying3, info3, Try.underlying26, Try.underlying34, Try.underlying35, info34, info35, h26, ht, hh, aB_len, vT])) | with_reducible refine vfresh_set ?_ | with_reducible refine vfresh_intro (fun _ _ => ?_) | with_reducible refine vif_intro (fun _ => ?_) (fun _ => ?_) | omega | ((with_reducible first | refine vop_at ?_ | refine vops_at ?_ | refine vquiet_at ?_ | refine vmix_at ?_ | refine Holds_at ?_); simp only [vO, vQ, ↓vP, vE, vS, vB, vL, vF, vM, vN, vbs_full, Nat.reduceEqDiff, Nat.reduceAdd, Nat.reduceLeDiff, ne_eq, not_false_eq_true, Nat.reduceMul, Nat.reduceSub, Int.toNat_zero, Int.reduceToNat, Try.underlying3, info3, Try.underlying26, Try.underlying34, Try.underlying35, info34, info35, h26, ht, hh, aB_len, vT]))
  have hne : ρ ≠ τ := fun e => by rw [e, hτ] at hρ; cases hρ
  have hne1 : m1 ≠ τ := fun e => by rw [e, hτ] at hm; cases hm
  refine VW.loop3 (0 : Nat) () () (fun j _ _ => j ≤ n.toNat) (fun j _ _ => [(0, .ref ρ 0), (8, .sl (.tok τ 1) (bytesL (certText q l))), (12, .i (bitsOf (fun m => decide (((m : Int), certText q l) ∈ ps)) j)), (30, .i n), (31, .i j)]) (fun _ _ _ => σ.set τ (.tok (some 5))) (fun j _ _ => n.toNat - j) (Nat.zero_le _) (.refl _) ?_ ?_
  · simp only [vO, vQ, ↓vP, vE, vS, vB, vL, vF, vM, vN, vbs_full, Nat.reduceEqDiff, Nat.reduceAdd, Nat.reduceLeDiff, ne_eq, not_false_eq_true, Nat.reduceMul, Nat.reduceSub, Int.toNat_zero, Int.reduceToNat, vT]
    exact ⟨rfl, rfl⟩
  rintro j _ _ h1
  have h62 := t62 ρ m1 m2 V ps (.tok τ 1) ((j : Int) + 1) (certText q l) (σ.set τ (.tok (some 5))) (by rw [Sg.set_other _ _ hne]; exact hρ) (by rw [Sg.set_other _ _ hne1]; exact hm)
  have hor := or_i64 (bitsOf_lt (fun m => decide (((m : Int), certText q l) ∈ ps)) j) (by omega)
  have hw : IntKind.i64.wrap ((j : Int) + 1) = (j : Int) + 1 := w64 (by omega) (by omega)
  repeat' (first | with_reducible rfl | exact .inr trivial | with_reducible apply And.intro | with_reducible apply vqx_step | with_reducible apply vqm_step | with_reducible refine vkp_free (by decide +kernel) ?_ | with_reducible intro _ | ((first | (with_reducible first | refine .rs ?_ | refine .ds (by kernel_rfl) ?_ | refine .dg (by kernel_rfl) ?_ | refine .rg ?_ | refine .ite ?_ | refine .ret ?_ | refine .skip ?_ | refine .exit ?_ | refine .scope ?_ | refine .seq (.label ?_) | refine .block ?_ | refine .seq ?_)); (try simp only [vO, vQ, ↓vP, vE, vS, vB, vL, vF, vM, vN, vbs_full, Nat.reduceEqDiff, Nat.reduceAdd, Nat.reduceLeDiff, ne_eq, not_false_eq_true, Nat.reduceMul, Nat.reduceSub, Int.toNat_zero, Int.reduceToNat, Try.underlying3, info3, Try.underlying34, info34, hw, hor, Int.toNat_natCast, vT])) | ((simp (disch := first | assumption | omega) only [w64, w8, tg_eq, n1, n2, nn, Int.tdiv_eq_ediv_of_nonneg, Sg.set_same, Sg.set_ne, Sg.set_ne', Sg.del_ne, Sg.del_ne']); (try simp only [vO, vQ, ↓vP, vE, vS, vB, vL, vF, vM, vN, vbs_full, Nat.reduceEqDiff, Nat.reduceAdd, Nat.reduceLeDiff, ne_eq, not_false_eq_true, Nat.reduceMul, Nat.reduceSub, Int.toNat_zero, Int.reduceToNat, Try.underlying3, info3, Try.underlying34, info34, hw, hor, Int.toNat_natCast, vT])) | ((((with_reducible refine h62.mono ?_); rintro _ σ' ⟨rfl, rfl⟩)); (try simp only [vO, vQ, ↓vP, vE, vS, vB, vL, vF, vM, vN, vbs_full, Nat.reduceEqDiff, Nat.reduceAdd, Nat.reduceLeDiff, ne_eq, not_false_eq_true, Nat.reduceMul, Nat.reduceSub, Int.toNat_zero, Int.reduceToNat, Try.underlying3, info3, Try.underlying34, info34, hw, hor, Int.toNat_natCast, vT])) | with_reducible refine vfresh_set ?_ | with_reducible refine vfresh_intro (fun _ _ => ?_) | with_reducible refine vif_intro (fun _ => ?_) (fun _ => ?_) | omega | ((with_reducible first | refine vop_at ?_ | refine vops_at ?_ | refine vquiet_at ?_ | refine vmix_at ?_ | refine Holds_at ?_); simp only [vO, vQ, ↓vP, vE, vS, vB, vL, vF, vM, vN, vbs_full, Nat.reduceEqDiff, Nat.reduceAdd, Nat.reduceLeDiff, ne_eq, not_false_eq_true, Nat.reduceMul, Nat.reduceSub, Int.toNat_zero, Int.reduceToNat, Try.underlying3, info3, Try.underlying34, info34, hw, hor, Int.toNat_natCast, vT]))
  · exact ⟨j + 1, (), (), ⟨by omega, by omega⟩, .refl _, by rw [bitsOf, if_pos (decide_eq_true (by exact ‹_›))], i_eq (by omega)⟩
  · exact ⟨j + 1, (), (), ⟨by omega, by omega⟩, .refl _, bits_no (K := fun m : Nat => decide (((m : Int), certText q l) ∈ ps)) (fun h => ‹¬ ((j : Int) + 1, certText q l) ∈ ps› (of_decide_eq_true h)), i_eq (by omega)⟩
  · exact ⟨σ, (by repeat (first | exact Sg.sub.refl _ | refine Sg.sub.set_both ?_ | refine Sg.sub.set_fresh ?_ (by first | assumption | exact Sg.set_none ‹_› ‹_›) | refine Sg.sub.del_fresh ?_ (by first | assumption | exact Sg.set_none ‹_› ‹_›))), by rw [show n.toNat = j by omega], rfl⟩
end Go.Proofs.Ytkbfngepdgdecaa

set_option linter.unusedSimpArgs false
set_option linter.unusedVariables false
namespace Go.Proofs.Ytkbfngepdgdecaa
open Go Go.V Go.Cert
theorem andnot (a b : BitVec 64) : (a &&& ~~~b = 0#64) ↔ (a &&& b = a) := by
  constructor
  · intro h
    apply BitVec.eq_of_getElem_eq
    intro i hi
    have h3 : (a &&& ~~~b)[i] = (0#64)[i] := by rw [h]
    rw [BitVec.getElem_and, BitVec.getElem_not] at h3
    rw [BitVec.getElem_and]
    clear h
    cases h1 : a[i] <;> cases h2 : b[i] <;> simp_all
  · intro h
    apply BitVec.eq_of_getElem_eq
    intro i hi
    have h3 : (a &&& b)[i] = a[i] := by rw [h]
    rw [BitVec.getElem_and] at h3
    rw [BitVec.getElem_and, BitVec.getElem_not]
    clear h
    cases h1 : a[i] <;> cases h2 : b[i] <;> simp_all
theorem i64_zero (x : BitVec 64) (h : x.toNat < 9223372036854775808) : (IntKind.i64.wrap (x.toNat : Int) = 0) = (x = 0#64) := by
  rw [i64_nat h]
  exact propext ⟨fun h => BitVec.eq_of_toNat_eq (by simp; omega), fun h => by subst h; rfl⟩
theorem andnot_s {s : Int} {m : Nat} (h : 0 ≤ s ∧ s ≤ 65535) (hm : m < 65536) : (IntKind.i64.wrap ↑(BitVec.ofInt IntKind.i64.bits s &&& ~~~BitVec.ofInt IntKind.i64.bits (m : Int)).toNat = 0) = (s.toNat &&& m = s.toNat) := by
  obtain ⟨s, rfl⟩ := Int.eq_ofNat_of_zero_le h.1
  show (IntKind.i64.wrap ↑(BitVec.ofInt 64 (s : Int) &&& ~~~BitVec.ofInt 64 (m : Int)).toNat = 0) = (s &&& m = s)
  have hs : (BitVec.ofInt 64 (s : Int)).toNat = s := by rw [BitVec.ofInt_natCast, BitVec.toNat_ofNat, Nat.mod_eq_of_lt (by omega)]
  have hlt : (BitVec.ofInt 64 (s : Int) &&& ~~~BitVec.ofInt 64 (m : Int)).toNat < 9223372036854775808 := by
    rw [BitVec.toNat_and, hs]
    exact Nat.lt_of_le_of_lt Nat.and_le_left (by omega)
  rw [i64_zero _ hlt, andnot]
  refine propext ⟨fun h => ?_, fun h => BitVec.eq_of_toNat_eq ?_⟩
  · have := congrArg BitVec.toNat h
    rwa [and_nat (by omega) (by omega), hs] at this
  · rw [and_nat (by omega) (by omega), hs, h]
set_option maxHeartbeats 1000000 in
set_option maxRecDepth 100000 in
theorem t16 (ρ m1 m2 : Nat) (V : AV) (ps : Ps) (n q s : Int) (l : List UInt8) (σ : Sg) (hh : l.length = 128) (hρ : σ ρ = some (.cells 94 [.map m1, V, .map m2])) (hm : σ m1 = some (.map (knownM ps))) : VCalls Try.prog 16 [.ref ρ 0, .i n, .agg (.i q :: (aB l ++ [.i s]))] σ (fun x σ' => x = .i (chk (bitsOf (fun m => decide (((m : Int), certText q l) ∈ ps)) (min n.toNat 16)) n q s) ∧ σ' = σ) := by
  obtain ⟨z26, h26⟩ := sz26
  obtain ⟨z28, h28⟩ := sz28
  have ht : (aB l ++ [AV.i s]).take 128 = aB l := by rw [List.take_left' (by rw [aB_len, hh])]
  have hd : (aB l ++ [AV.i s]).drop 128 = [AV.i s] := by rw [List.drop_left' (by rw [aB_len, hh])]
  have hlen : (aB l ++ [AV.i s]).length = 129 := by rw [List.length_append, aB_len, hh]; rfl
  by_cases hb : isN n ∧ ¬ bad q
  · have h37 := t37 ρ m1 m2 V ps n q l σ hh hb.2 hb.1 hρ hm
    (refine vfun (fun _ => .ro) mixed Try.func16 (by kernel_rfl) ?_; simp only [bodyOf, Try.f16, Option.getD_some])
    repeat' (first | with_reducible rfl | exact .inr trivial | with_reducible apply And.intro | with_reducible apply vqx_step | with_reducible apply vqm_step | with_reducible refine vkp_free (by decide +kernel) ?_ | with_reducible intro _ | ((first | (with_reducible first | refine .rs ?_ | refine .ds (by kernel_rfl) ?_ | refine .dg (by kernel_rfl) ?_ | refine .rg ?_ | refine .ite ?_ | refine .ret ?_ | refine .skip ?_ | refine .exit ?_ | refine .scope ?_ | refine .seq (.label ?_) | refine .block ?_ | refine .seq ?_)); (try simp only [vO, vQ, ↓vP, vE, vS, vB, vL, vF, vM, vN, vbs_full, Nat.reduceEqDiff, Nat.reduceAdd, Nat.reduceLeDiff, ne_eq, not_false_eq_true, Nat.reduceMul, Nat.reduceSub, Int.toNat_zero, Int.reduceToNat, Try.underlying3, info3, Try.underlying26, Try.underlying27, Try.underlying28, Try.underlying34, Try.underlying35, info34, info35, h26, h28, ht, hd, hlen, vT])) | ((simp (disch := first | assumption | omega) only [w64, w8, tg_eq, n1, n2, nn, Int.tdiv_eq_ediv_of_nonneg, Sg.set_same, Sg.set_ne, Sg.set_ne', Sg.del_ne, Sg.del_ne']); (try simp only [vO, vQ, ↓vP, vE, vS, vB, vL, vF, vM, vN, vbs_full, Nat.reduceEqDiff, Nat.reduceAdd, Nat.reduceLeDiff, ne_eq, not_false_eq_true, Nat.reduceMul, Nat.reduceSub, Int.toNat_zero, Int.reduceToNat, Try.underlying3, info3, Try.underlying26, Try.underlying27, Try.underlying28, Try.underlying34, Try.underlying35, info34, info35, h26, h28, ht, hd, hlen, vT])) | ((((with_reducible refine h37.mono ?_); rintro _ σ' ⟨rfl, rfl⟩)); (try simp only [vO, vQ, ↓vP, vE, vS, vB, vL, vF, vM, vN, vbs_full, Nat.reduceEqDiff, Nat.reduceAdd, Nat.reduceLeDiff, ne_eq, not_false_eq_true, Nat.reduceMul, Nat.reduceSub, Int.toNat_zero, Int.reduceToNat, Try.underlying3, info3, Try.underlying26, Try.underlying27, Try.underlying28, Try.underlying34, Try.underlying35, info34, info35, h26, h28, ht, hd, hlen, vT])) | ((((with_reducible refine (t38 _ _ _).mono ?_); rintro _ σ' ⟨rfl, rfl⟩)); (try simp only [vO, vQ, ↓vP, vE, vS, vB, vL, vF, vM, vN, vbs_full, Nat.reduceEqDiff, Nat.reduceAdd, Nat.reduceLeDiff, ne_eq, not_false_eq_true, Nat.reduceMul, Nat.reduceSub, Int.toNat_zero, Int.reduceToNat, Try.underlying3, info3, Try.underlying26, Try.underlying27, Try.underlying28, Try.underlying34, Try.underlying35, info34, info35, h26, h28, ht, hd, hlen, vT])) | with_reducible refine vfresh_set ?_ | with_reducible refine vfresh_intro (fun _ _ => ?_) | with_reducible refine vif_intro (fun _ => ?_) (fun _ => ?_) | omega | ((with_reducible first | refine vop_at ?_ | refine vops_at ?_ | refine vquiet_at ?_ | refine vmix_at ?_ | refine Holds_at ?_); simp only [vO, vQ, ↓vP, vE, vS, vB, vL, vF, vM, vN, vbs_full, Nat.reduceEqDiff, Nat.reduceAdd, Nat.reduceLeDiff, ne_eq, not_false_eq_true, Nat.reduceMul, Nat.reduceSub, Int.toNat_zero, Int.reduceToNat, Try.underlying3, info3, Try.underlying26, Try.underlying27, Try.underlying28, Try.underlying34, Try.underlying35, info34, info35, h26, h28, ht, hd, hlen, vT]))
    all_goals have hmin : min n.toNat 16 = n.toNat := by have := hb.1.2.1; omega
    all_goals rw [hmin]
    · have h3 := ‹IntKind.i64.wrap _ = 0›
      rw [andnot_s (isQ_of ‹_›).2 (hmin ▸ bits16 _ _)] at h3
      have hlt : s < 2 ^ n.toNat := by
        have h4 := bitsOf_lt (fun m => decide (((m : Int), certText q l) ∈ ps)) n.toNat
        have h5 : s.toNat ≤ bitsOf (fun m => decide (((m : Int), certText q l) ∈ ps)) n.toNat := by rw [← h3]; exact Nat.and_le_right
        have h6 := (isQ_of ‹_›).2.1
        rw [pow_cast]
        omega
      exact ⟨_, .refl _, by rw [chk_good hb.1 hb.2, if_pos ⟨‹_›, hlt, h3⟩], rfl⟩
    · have h3 := ‹¬ IntKind.i64.wrap _ = 0›
      rw [andnot_s (isQ_of ‹_›).2 (hmin ▸ bits16 _ _)] at h3
      exact ⟨_, .refl _, by rw [chk_good hb.1 hb.2, if_neg (fun h => h3 h.2.2)], rfl⟩
    · exact absurd ‹isQ n s = true› ‹_›
    · exact ⟨_, .refl _, by rw [chk_good hb.1 hb.2, if_neg (fun h => ‹¬ isQ n s = true› h.1)], rfl⟩
  · have h37 : VCalls Try.prog 37 [.ref ρ 0, .i n, .agg (.i q :: aB l)] σ (fun x σ' => x = .tup [.i 0, .i 1] ∧ σ' = σ) := by
      by_cases hq : bad q
      · exact t37a ρ n q l σ hh hq
      · exact t37n ρ n q l σ hh hq (fun h => hb ⟨h, hq⟩)
    have hc : ¬ isN n ∨ bad q := by
      by_cases hq : bad q
      · exact .inr hq
      · exact .inl (fun h => hb ⟨h, hq⟩)
    (refine vfun (fun _ => .ro) mixed Try.func16 (by kernel_rfl) ?_; simp only [bodyOf, Try.f16, Option.getD_some])
    repeat' (first | with_reducible rfl | exact .inr trivial | with_reducible apply And.intro | with_reducible apply vqx_step | with_reducible apply vqm_step | with_reducible refine vkp_free (by decide +kernel) ?_ | with_reducible intro _ | ((first | (with_reducible first | refine .rs ?_ | refine .ds (by kernel_rfl) ?_ | refine .dg (by kernel_rfl) ?_ | refine .rg ?_ | refine .ite ?_ | refine .ret ?_ | refine .skip ?_ | refine .exit ?_ | refine .scope ?_ | refine .seq (.label ?_) | refine .block ?_ | refine .seq ?_)); (try simp only [vO, vQ, ↓vP, vE, vS, vB, vL, vF, vM, vN, vbs_full, Nat.reduceEqDiff, Nat.reduceAdd, Nat.reduceLeDiff, ne_eq, not_false_eq_true, Nat.reduceMul, Nat.reduceSub, Int.toNat_zero, Int.reduceToNat, Try.underlying3, info3, Try.underlying26, Try.underlying27, Try.underlying28, Try.underlying34, Try.underlying35, info34, info35, h26, h28, ht, hd, hlen, vT])) | ((simp (disch := first | assumption | omega) only [w64, w8, tg_eq, n1, n2, nn, Int.tdiv_eq_ediv_of_nonneg, Sg.set_same, Sg.set_ne, Sg.set_ne', Sg.del_ne, Sg.del_ne']); (try simp only [vO, vQ, ↓vP, vE, vS, vB, vL, vF, vM, vN, vbs_full, Nat.reduceEqDiff, Nat.reduceAdd, Nat.reduceLeDiff, ne_eq, not_false_eq_true, Nat.reduceMul, Nat.reduceSub, Int.toNat_zero, Int.reduceToNat, Try.underlying3, info3, Try.underlying26, Try.underlying27, Try.underlying28, Try.underlying34, Try.underlying35, info34, info35, h26, h28, ht, hd, hlen, vT])) | ((((with_reducible refine h37.mono ?_); rintro _ σ' ⟨rfl, rfl⟩)); (try simp only [vO, vQ, ↓vP, vE, vS, vB, vL, vF, vM, vN, vbs_full, Nat.reduceEqDiff, Nat.reduceAdd, Nat.reduceLeDiff, ne_eq, not_false_eq_true, Nat.reduceMul, Nat.reduceSub, Int.toNat_zero, Int.reduceToNat, Try.underlying3, info3, Try.underlying26, Try.underlying27, Try.underlying28, Try.underlying34, Try.underlying35, info34, info35, h26, h28, ht, hd, hlen, vT])) | with_reducible refine vfresh_set ?_ | with_reducible refine vfresh_intro (fun _ _ => ?_) | with_reducible refine vif_intro (fun _ => ?_) (fun _ => ?_) | omega | ((with_reducible first | refine vop_at ?_ | refine vops_at ?_ | refine vquiet_at ?_ | refine vmix_at ?_ | refine Holds_at ?_); simp only [vO, vQ, ↓vP, vE, vS, vB, vL, vF, vM, vN, vbs_full, Nat.reduceEqDiff, Nat.reduceAdd, Nat.reduceLeDiff, ne_eq, not_false_eq_true, Nat.reduceMul, Nat.reduceSub, Int.toNat_zero, Int.reduceToNat, Try.underlying3, info3, Try.underlying26, Try.underlying27, Try.underlying28, Try.underlying34, Try.underlying35, info34, info35, h26, h28, ht, hd, hlen, vT]))
    all_goals exact ⟨_, .refl _, by rw [chk, if_pos hc], rfl⟩
end Go.Proofs.Ytkbfngepdgdecaa

set_option linter.unusedSimpArgs false
set_option linter.unusedVariables false
namespace Go.Cert
open Go.V
def zs : List UInt8 := List.replicate 128 0
end Go.Cert
namespace Go.Proofs.Ytkbfngepdgdecaa
open Go Go.V Go.Cert
/-- The zero certificate, zero header. -/
theorem zero28 : ∃ z, tInfo Try.prog 28 = some (some z, 130, 144) ∧ ofValue z = .agg (.i 0 :: (aB zs ++ [.i 0])) := ⟨_, info28, by rfl⟩
theorem zero26 : ∃ z, tInfo Try.prog 26 = some (some z, 129, 136) ∧ ofValue z = .agg (.i 0 :: aB zs) := ⟨_, info26, by rfl⟩
end Go.Proofs.Ytkbfngepdgdecaa

set_option linter.unusedSimpArgs false
set_option linter.unusedVariables false
namespace Go.Cert
open Go.V
theorem aB_all (l : List UInt8) : (aB l).all AV.one = true := by
  rw [List.all_eq_true]
  intro x hx
  obtain ⟨b, _, rfl⟩ := List.mem_map.1 hx
  rfl
/-- A certificate's cells behind the number: what simp is to know. -/
theorem cR {l : List UInt8} (hh : l.length = 128) (s : Int) : (aB l ++ [AV.i s]).length = 129 ∧ (aB l ++ [AV.i s]).all AV.one = true ∧ (aB l ++ [AV.i s]).take 129 = aB l ++ [AV.i s] ∧ (aB l ++ [AV.i s]).drop 129 = [] ∧ (aB l ++ [AV.i s]).take 128 = aB l ∧ (aB l ++ [AV.i s]).drop 128 = [AV.i s] := by
  have hl : (aB l ++ [AV.i s]).length = 129 := by rw [List.length_append, aB_len, hh]; rfl
  refine ⟨hl, ?_, List.take_of_length_le (by omega), List.drop_of_length_le (by omega), by rw [List.take_left' (by rw [aB_len, hh])], by rw [List.drop_left' (by rw [aB_len, hh])]⟩
  rw [List.all_append, aB_all]
  rfl
theorem aR {l : List UInt8} (hh : l.length = 128) : (aB l).length = 128 ∧ (aB l).all AV.one = true ∧ (aB l).take 128 = aB l ∧ (aB l).drop 128 = [] := by
  have hl : (aB l).length = 128 := by rw [aB_len, hh]
  exact ⟨hl, aB_all l, List.take_of_length_le (by omega), List.drop_of_length_le (by omega)⟩
theorem zs_len : zs.length = 128 := by simp [zs]
end Go.Cert
namespace Go.Proofs.Ytkbfngepdgdecaa
open Go Go.V Go.Cert
def h6 (n : Nat) : Hint := if n = 6 then .no else .ro
theorem h6_6 : h6 6 = .no := rfl
theorem h6_5 : h6 5 = .ro := rfl
abbrev cA (q : Int) (l : List UInt8) (s : Int) : AV := .agg (.i q :: (aB l ++ [.i s]))
/-- What collecting comes to. -/
def colE (m : Nat) (n q : Int) : Int := if ¬ isN n ∨ bad q then 1 else if isQ n m = true then 0 else 5
def colC (m : Nat) (n q : Int) (l : List UInt8) : AV := if colE m n q = 0 then cA q l m else cA 0 zs 0
theorem colE_yes {m : Nat} {n q : Int} (hg : ¬ (¬ isN n ∨ bad q)) (h : isQ n m = true) : colE m n q = 0 := by rw [colE, if_neg hg, if_pos h]
theorem colE_no {m : Nat} {n q : Int} (hg : ¬ (¬ isN n ∨ bad q)) (h : ¬ isQ n m = true) : colE m n q = 5 := by rw [colE, if_neg hg, if_neg h]
set_option maxHeartbeats 1000000 in
set_option maxRecDepth 100000 in
theorem t14a (ρ : Nat) (n q : Int) (l : List UInt8) (σ : Sg) (hh : l.length = 128) (h37 : ∀ σ, VCalls Try.prog 37 [.ref ρ 0, .i n, .agg (.i q :: aB l)] σ (fun x σ' => x = .tup [.i 0, .i 1] ∧ σ' = σ)) : VCalls Try.prog 14 [.ref ρ 0, .i n, .agg (.i q :: aB l)] σ (fun x σ' => x = .tup [cA 0 zs 0, .i 1] ∧ σ' = σ) := by
  obtain ⟨z26, h26, hz26⟩ := zero26
  obtain ⟨z28, h28, hz28⟩ := zero28
  have hz := cR zs_len 0
  have hl := aR hh
  (refine vfun (h6) mixed Try.func14 (by kernel_rfl) ?_; simp only [bodyOf, Try.f14, Option.getD_some])
  repeat' (first | with_reducible rfl | exact .inr trivial | with_reducible apply And.intro | with_reducible apply vqx_step | with_reducible apply vqm_step | with_reducible refine vkp_free (by decide +kernel) ?_ | with_reducible intro _ | ((first | (with_reducible first | refine .rs ?_ | refine .ds (by kernel_rfl) ?_ | refine .dg (by kernel_rfl) ?_ | refine .rg ?_ | refine .ite ?_ | refine .ret ?_ | refine .skip ?_ | refine .exit ?_ | refine .scope ?_ | refine .seq (.label ?_) | refine .block ?_ | refine .seq ?_)); (try simp only [vO, vQ, ↓vP, vE, vS, vB, vL, vF, vM, vN, vbs_full, Nat.reduceEqDiff, Nat.reduceAdd, Nat.reduceLeDiff, ne_eq, not_false_eq_true, Nat.reduceMul, Nat.reduceSub, Int.toNat_zero, Int.reduceToNat, Try.underlying3, info3, Try.underlying26, Try.underlying27, Try.underlying28, Try.underlying34, Try.underlying35, info34, info35, h26, h28, hz26, hz28, Option.getD_some, h6_6, h6_5, hz, hl, vT])) | ((simp (disch := first | assumption | omega) only [w64, w8, tg_eq, n1, n2, nn, Int.tdiv_eq_ediv_of_nonneg, Sg.set_same, Sg.set_ne, Sg.set_ne', Sg.del_ne, Sg.del_ne']); (try simp only [vO, vQ, ↓vP, vE, vS, vB, vL, vF, vM, vN, vbs_full, Nat.reduceEqDiff, Nat.reduceAdd, Nat.reduceLeDiff, ne_eq, not_false_eq_true, Nat.reduceMul, Nat.reduceSub, Int.toNat_zero, Int.reduceToNat, Try.underlying3, info3, Try.underlying26, Try.underlying27, Try.underlying28, Try.underlying34, Try.underlying35, info34, info35, h26, h28, hz26, hz28, Option.getD_some, h6_6, h6_5, hz, hl, vT])) | ((((with_reducible refine (h37 _).mono ?_); rintro _ σ' ⟨rfl, rfl⟩)); (try simp only [vO, vQ, ↓vP, vE, vS, vB, vL, vF, vM, vN, vbs_full, Nat.reduceEqDiff, Nat.reduceAdd, Nat.reduceLeDiff, ne_eq, not_false_eq_true, Nat.reduceMul, Nat.reduceSub, Int.toNat_zero, Int.reduceToNat, Try.underlying3, info3, Try.underlying26, Try.underlying27, Try.underlying28, Try.underlying34, Try.underlying35, info34, info35, h26, h28, hz26, hz28, Option.getD_some, h6_6, h6_5, hz, hl, vT])) | with_reducible refine vfresh_set ?_ | with_reducible refine vfresh_intro (fun _ _ => ?_) | with_reducible refine vif_intro (fun _ => ?_) (fun _ => ?_) | omega | ((with_reducible first | refine vop_at ?_ | refine vops_at ?_ | refine vquiet_at ?_ | refine vmix_at ?_ | refine Holds_at ?_); simp only [vO, vQ, ↓vP, vE, vS, vB, vL, vF, vM, vN, vbs_full, Nat.reduceEqDiff, Nat.reduceAdd, Nat.reduceLeDiff, ne_eq, not_false_eq_true, Nat.reduceMul, Nat.reduceSub, Int.toNat_zero, Int.reduceToNat, Try.underlying3, info3, Try.underlying26, Try.underlying27, Try.underlying28, Try.underlying34, Try.underlying35, info34, info35, h26, h28, hz26, hz28, Option.getD_some, h6_6, h6_5, hz, hl, vT]))
  all_goals exact ⟨_, (by repeat (first | exact Sg.sub.refl _ | refine Sg.sub.set_both ?_ | refine Sg.sub.set_fresh ?_ (by first | assumption | exact Sg.set_none ‹_› ‹_›) | refine Sg.sub.del_fresh ?_ (by first | assumption | exact Sg.set_none ‹_› ‹_›))), rfl⟩
set_option maxHeartbeats 1000000 in
set_option maxRecDepth 100000 in
theorem t14b (ρ m1 m2 : Nat) (V : AV) (ps : Ps) (n q : Int) (l : List UInt8) (σ : Sg) (hh : l.length = 128) (hq : ¬ bad q) (hn : isN n) (hρ : σ ρ = some (.cells 94 [.map m1, V, .map m2])) (hm : σ m1 = some (.map (knownM ps))) : VCalls Try.prog 14 [.ref ρ 0, .i n, .agg (.i q :: aB l)] σ (fun x σ' => x = .tup [colC (bitsOf (fun m => decide (((m : Int), certText q l) ∈ ps)) n.toNat) n q l, .i (colE (bitsOf (fun m => decide (((m : Int), certText q l) ∈ ps)) n.toNat) n q)] ∧ σ' = σ) := by
  obtain ⟨z26, h26, hz26⟩ := zero26
  obtain ⟨z28, h28, hz28⟩ := zero28
  have hz := cR zs_len 0
  have hl := aR hh
  have hc := fun s => cR hh s
  have hg : ¬ (¬ isN n ∨ bad q) := fun h => h.elim (fun h => h hn) hq
  have h37 : ∀ β, σ β = none → VCalls Try.prog 37 [.ref ρ 0, .i n, .agg (.i q :: aB l)] (σ.set β (.cells 28 (.i 0 :: (aB zs ++ [.i 0])))) (fun x σ' => x = .tup [.i (bitsOf (fun m => decide (((m : Int), certText q l) ∈ ps)) n.toNat), .i 0] ∧ σ' = σ.set β (.cells 28 (.i 0 :: (aB zs ++ [.i 0])))) := fun β hβ =>
    t37 ρ m1 m2 V ps n q l _ hh hq hn (by rw [Sg.set_other _ _ (fun e => by rw [e, hβ] at hρ; cases hρ)]; exact hρ) (by rw [Sg.set_other _ _ (fun e => by rw [e, hβ] at hm; cases hm)]; exact hm)
  (refine vfun (h6) mixed Try.func14 (by kernel_rfl) ?_; simp only [bodyOf, Try.f14, Option.getD_some])
  repeat' (first | with_reducible rfl | exact .inr trivial | with_reducible apply And.intro | with_reducible apply vqx_step | with_reducible apply vqm_step | with_reducible refine vkp_free (by decide +kernel) ?_ | with_reducible intro _ | ((first | (with_reducible first | refine .rs ?_ | refine .ds (by kernel_rfl) ?_ | refine .dg (by kernel_rfl) ?_ | refine .rg ?_ | refine .ite ?_ | refine .ret ?_ | refine .skip ?_ | refine .exit ?_ | refine .scope ?_ | refine .seq (.label ?_) | refine .block ?_ | refine .seq ?_)); (try simp only [vO, vQ, ↓vP, vE, vS, vB, vL, vF, vM, vN, vbs_full, Nat.reduceEqDiff, Nat.reduceAdd, Nat.reduceLeDiff, ne_eq, not_false_eq_true, Nat.reduceMul, Nat.reduceSub, Int.toNat_zero, Int.reduceToNat, Try.underlying3, info3, Try.underlying26, Try.underlying27, Try.underlying28, Try.underlying34, Try.underlying35, info34, info35, h26, h28, hz26, hz28, Option.getD_some, h6_6, h6_5, hz, hl, hc, vT])) | ((simp (disch := first | assumption | omega) only [w64, w8, tg_eq, n1, n2, nn, Int.tdiv_eq_ediv_of_nonneg, Sg.set_same, Sg.set_ne, Sg.set_ne', Sg.del_ne, Sg.del_ne']); (try simp only [vO, vQ, ↓vP, vE, vS, vB, vL, vF, vM, vN, vbs_full, Nat.reduceEqDiff, Nat.reduceAdd, Nat.reduceLeDiff, ne_eq, not_false_eq_true, Nat.reduceMul, Nat.reduceSub, Int.toNat_zero, Int.reduceToNat, Try.underlying3, info3, Try.underlying26, Try.underlying27, Try.underlying28, Try.underlying34, Try.underlying35, info34, info35, h26, h28, hz26, hz28, Option.getD_some, h6_6, h6_5, hz, hl, hc, vT])) | ((((with_reducible refine (h37 _ (by assumption)).mono ?_); rintro _ σ' ⟨rfl, rfl⟩)); (try simp only [vO, vQ, ↓vP, vE, vS, vB, vL, vF, vM, vN, vbs_full, Nat.reduceEqDiff, Nat.reduceAdd, Nat.reduceLeDiff, ne_eq, not_false_eq_true, Nat.reduceMul, Nat.reduceSub, Int.toNat_zero, Int.reduceToNat, Try.underlying3, info3, Try.underlying26, Try.underlying27, Try.underlying28, Try.underlying34, Try.underlying35, info34, info35, h26, h28, hz26, hz28, Option.getD_some, h6_6, h6_5, hz, hl, hc, vT])) | ((((with_reducible refine (t38 _ _ _).mono ?_); rintro _ σ' ⟨rfl, rfl⟩)); (try simp only [vO, vQ, ↓vP, vE, vS, vB, vL, vF, vM, vN, vbs_full, Nat.reduceEqDiff, Nat.reduceAdd, Nat.reduceLeDiff, ne_eq, not_false_eq_true, Nat.reduceMul, Nat.reduceSub, Int.toNat_zero, Int.reduceToNat, Try.underlying3, info3, Try.underlying26, Try.underlying27, Try.underlying28, Try.underlying34, Try.underlying35, info34, info35, h26, h28, hz26, hz28, Option.getD_some, h6_6, h6_5, hz, hl, hc, vT])) | with_reducible refine vfresh_set ?_ | with_reducible refine vfresh_intro (fun _ _ => ?_) | with_reducible refine vif_intro (fun _ => ?_) (fun _ => ?_) | omega | ((with_reducible first | refine vop_at ?_ | refine vops_at ?_ | refine vquiet_at ?_ | refine vmix_at ?_ | refine Holds_at ?_); simp only [vO, vQ, ↓vP, vE, vS, vB, vL, vF, vM, vN, vbs_full, Nat.reduceEqDiff, Nat.reduceAdd, Nat.reduceLeDiff, ne_eq, not_false_eq_true, Nat.reduceMul, Nat.reduceSub, Int.toNat_zero, Int.reduceToNat, Try.underlying3, info3, Try.underlying26, Try.underlying27, Try.underlying28, Try.underlying34, Try.underlying35, info34, info35, h26, h28, hz26, hz28, Option.getD_some, h6_6, h6_5, hz, hl, hc, vT]))
  · rename_i h
    have he := colE_yes hg h
    exact ⟨σ, (by repeat (first | exact Sg.sub.refl _ | refine Sg.sub.set_both ?_ | refine Sg.sub.set_fresh ?_ (by first | assumption | exact Sg.set_none ‹_› ‹_›) | refine Sg.sub.del_fresh ?_ (by first | assumption | exact Sg.set_none ‹_› ‹_›))), by rw [colC, he]; rfl, rfl⟩
  · rename_i h
    have he := colE_no hg h
    exact ⟨σ, (by repeat (first | exact Sg.sub.refl _ | refine Sg.sub.set_both ?_ | refine Sg.sub.set_fresh ?_ (by first | assumption | exact Sg.set_none ‹_› ‹_›) | refine Sg.sub.del_fresh ?_ (by first | assumption | exact Sg.set_none ‹_› ‹_›))), by rw [colC, he]; rfl, rfl⟩
theorem min16 {n : Int} (h : isN n) : min n.toNat 16 = n.toNat := by have := h.2.1; omega
theorem t14 (ρ m1 m2 : Nat) (V : AV) (ps : Ps) (n q : Int) (l : List UInt8) (σ : Sg) (hh : l.length = 128) (hρ : σ ρ = some (.cells 94 [.map m1, V, .map m2])) (hm : σ m1 = some (.map (knownM ps))) : VCalls Try.prog 14 [.ref ρ 0, .i n, .agg (.i q :: aB l)] σ (fun x σ' => x = .tup [colC (bitsOf (fun m => decide (((m : Int), certText q l) ∈ ps)) (min n.toNat 16)) n q l, .i (colE (bitsOf (fun m => decide (((m : Int), certText q l) ∈ ps)) (min n.toNat 16)) n q)] ∧ σ' = σ) := by
  by_cases hb : isN n ∧ ¬ bad q
  · rw [min16 hb.1]
    exact t14b ρ m1 m2 V ps n q l σ hh hb.2 hb.1 hρ hm
  · have hc : ¬ isN n ∨ bad q := by
      by_cases hq : bad q
      · exact .inr hq
      · exact .inl (fun h => hb ⟨h, hq⟩)
    have h37 : ∀ σ, VCalls Try.prog 37 [.ref ρ 0, .i n, .agg (.i q :: aB l)] σ (fun x σ' => x = .tup [.i 0, .i 1] ∧ σ' = σ) := fun σ => by
      by_cases hq : bad q
      · exact t37a ρ n q l σ hh hq
      · exact t37n ρ n q l σ hh hq (fun h => hb ⟨h, hq⟩)
    have he : ∀ m, colE m n q = 1 := fun m => if_pos hc
    have hC : ∀ m, colC m n q l = cA 0 zs 0 := fun m => by rw [colC, he]; rfl
    rw [hC, he]
    exact t14a ρ n q l σ hh h37
end Go.Proofs.Ytkbfngepdgdecaa

set_option linter.unusedSimpArgs false
set_option linter.unusedVariables false
namespace Go.Cert
open Go.V
theorem ne_of {σ : Sg} {ρ x : Nat} {o : Ob} (h : σ ρ = some o) (hx : σ x = none) : ρ ≠ x := fun e => by rw [e, hx] at h; cases h
theorem ne_of2 {σ : Sg} {ρ x : Nat} {o : Ob} (hx : σ x = none) (h : σ ρ = some o) : ρ ≠ x := ne_of h hx
theorem ne_of2' {σ : Sg} {ρ x : Nat} {o : Ob} (hx : σ x = none) (h : σ ρ = some o) : x ≠ ρ := Ne.symm (ne_of h hx)
theorem ne_ob {σ : Sg} {ρ x : Nat} {o o' : Ob} (h : σ ρ = some o) (hx : σ x = some o') (hn : o ≠ o') : ρ ≠ x := fun e => by rw [e, hx] at h; cases h; exact hn rfl
theorem at1 {σ : Sg} {ρ x : Nat} {o a : Ob} (h : σ ρ = some o) (hx : σ x = none) : (σ.set x a) ρ = some o := by rw [Sg.set_other _ _ (ne_of h hx), h]
theorem at2 {σ : Sg} {ρ x y : Nat} {o a b : Ob} (h : σ ρ = some o) (hx : σ x = none) (hy : σ y = none) : ((σ.set x a).set y b) ρ = some o := by rw [Sg.set_other _ _ (ne_of h hy), at1 h hx]
theorem at3 {σ : Sg} {ρ x y z : Nat} {o a b c : Ob} (h : σ ρ = some o) (hx : σ x = none) (hy : σ y = none) (hz : σ z = none) : (((σ.set x a).set y b).set z c) ρ = some o := by rw [Sg.set_other _ _ (ne_of h hz), at2 h hx hy]
end Go.Cert
namespace Go.Proofs.Ytkbfngepdgdecaa
open Go Go.V Go.Cert
def h610 (n : Nat) : Hint := if n = 6 ∨ n = 10 then .no else .ro
theorem h610_6 : h610 6 = .no := rfl
theorem h610_10 : h610 10 = .no := rfl
theorem h610_5 : h610 5 = .ro := rfl
set_option maxHeartbeats 1000000 in
set_option maxRecDepth 100000 in
theorem t15a (ρ : Nat) (n q : Int) (l : List UInt8) (σ : Sg) (hh : l.length = 128) (hq : bad q) : VCalls Try.prog 15 [.ref ρ 0, .i n, .agg (.i q :: aB l)] σ (fun x σ' => x = .tup [cA 0 zs 0, .i 1] ∧ σ' = σ) := by
  obtain ⟨z26, h26, hz26⟩ := zero26
  obtain ⟨z28, h28, hz28⟩ := zero28
  have hz := cR zs_len 0
  have hl := aR hh
  have h13 := fun σ => t13a q l σ hh hq
  (refine vfun (h610) mixed Try.func15 (by kernel_rfl) ?_; simp only [bodyOf, Try.f15, Option.getD_some])
  repeat' (first | with_reducible rfl | exact .inr trivial | with_reducible apply And.intro | with_reducible apply vqx_step | with_reducible apply vqm_step | with_reducible refine vkp_free (by decide +kernel) ?_ | with_reducible intro _ | ((first | (with_reducible first | refine .rs ?_ | refine .ds (by kernel_rfl) ?_ | refine .dg (by kernel_rfl) ?_ | refine .rg ?_ | refine .ite ?_ | refine .ret ?_ | refine .skip ?_ | refine .exit ?_ | refine .scope ?_ | refine .seq (.label ?_) | refine .block ?_ | refine .seq ?_)); (try simp only [vO, vQ, ↓vP, vE, vS, vB, vL, vF, vM, vN, vbs_full, Nat.reduceEqDiff, Nat.reduceAdd, Nat.reduceLeDiff, ne_eq, not_false_eq_true, Nat.reduceMul, Nat.reduceSub, Int.toNat_zero, Int.reduceToNat, Try.underlying3, info3, Try.underlying26, Try.underlying27, Try.underlying28, Try.underlying34, Try.underlying35, info34, info35, h26, h28, hz26, hz28, Option.getD_some, h610_6, h610_5, h610_10, hz, hl, vT])) | ((simp (disch := first | assumption | omega) only [w64, w8, tg_eq, Go.V.n1, Go.V.n2, Go.V.nn, Int.tdiv_eq_ediv_of_nonneg, Sg.set_same, Sg.set_ne, Sg.set_ne', Sg.del_ne, Sg.del_ne']); (try simp only [vO, vQ, ↓vP, vE, vS, vB, vL, vF, vM, vN, vbs_full, Nat.reduceEqDiff, Nat.reduceAdd, Nat.reduceLeDiff, ne_eq, not_false_eq_true, Nat.reduceMul, Nat.reduceSub, Int.toNat_zero, Int.reduceToNat, Try.underlying3, info3, Try.underlying26, Try.underlying27, Try.underlying28, Try.underlying34, Try.underlying35, info34, info35, h26, h28, hz26, hz28, Option.getD_some, h610_6, h610_5, h610_10, hz, hl, vT])) | ((((with_reducible refine (h13 _).mono ?_); rintro _ σ' ⟨rfl, rfl⟩)); (try simp only [vO, vQ, ↓vP, vE, vS, vB, vL, vF, vM, vN, vbs_full, Nat.reduceEqDiff, Nat.reduceAdd, Nat.reduceLeDiff, ne_eq, not_false_eq_true, Nat.reduceMul, Nat.reduceSub, Int.toNat_zero, Int.reduceToNat, Try.underlying3, info3, Try.underlying26, Try.underlying27, Try.underlying28, Try.underlying34, Try.underlying35, info34, info35, h26, h28, hz26, hz28, Option.getD_some, h610_6, h610_5, h610_10, hz, hl, vT])) | ((((with_reducible refine (t39 _ _).mono ?_); rintro _ σ' ⟨rfl, rfl⟩)); (try simp only [vO, vQ, ↓vP, vE, vS, vB, vL, vF, vM, vN, vbs_full, Nat.reduceEqDiff, Nat.reduceAdd, Nat.reduceLeDiff, ne_eq, not_false_eq_true, Nat.reduceMul, Nat.reduceSub, Int.toNat_zero, Int.reduceToNat, Try.underlying3, info3, Try.underlying26, Try.underlying27, Try.underlying28, Try.underlying34, Try.underlying35, info34, info35, h26, h28, hz26, hz28, Option.getD_some, h610_6, h610_5, h610_10, hz, hl, vT])) | with_reducible refine vfresh_set ?_ | with_reducible refine vfresh_intro (fun _ _ => ?_) | with_reducible refine vif_intro (fun _ => ?_) (fun _ => ?_) | omega | ((with_reducible first | refine vop_at ?_ | refine vops_at ?_ | refine vquiet_at ?_ | refine vmix_at ?_ | refine Holds_at ?_); simp only [vO, vQ, ↓vP, vE, vS, vB, vL, vF, vM, vN, vbs_full, Nat.reduceEqDiff, Nat.reduceAdd, Nat.reduceLeDiff, ne_eq, not_false_eq_true, Nat.reduceMul, Nat.reduceSub, Int.toNat_zero, Int.reduceToNat, Try.underlying3, info3, Try.underlying26, Try.underlying27, Try.underlying28, Try.underlying34, Try.underlying35, info34, info35, h26, h28, hz26, hz28, Option.getD_some, h610_6, h610_5, h610_10, hz, hl, vT]))
  all_goals exact ⟨_, (by repeat (first | exact Sg.sub.refl _ | refine Sg.sub.set_both ?_ | refine Sg.sub.set_fresh ?_ (by first | assumption | exact Sg.set_none ‹_› ‹_›) | refine Sg.sub.del_fresh ?_ (by first | assumption | exact Sg.set_none ‹_› ‹_›))), rfl⟩
theorem chk_self {m : Nat} {n q : Int} (hn : isN n) (hq : ¬ bad q) (hm : m < 2 ^ n.toNat) : chk m n q (m : Int) = if isQ n (m : Int) = true then 0 else 5 := by
  rw [chk_good hn hq]
  by_cases h : isQ n (m : Int) = true
  · rw [if_pos ⟨h, by rw [pow_cast]; omega, Nat.and_self _⟩, if_pos h]
  · rw [if_neg (fun x => h x.1), if_neg h]
set_option maxHeartbeats 1000000 in
set_option maxRecDepth 100000 in
theorem t15 (ρ : Nat) (ps : Ps) (k : Own) (n q : Int) (l : List UInt8) (σ : Sg) (hl : ps.length ≤ 2 ^ 32) (hh : l.length = 128) (hρ : σ ρ = some (.cells 97 [.sl k (pairsA ps)])) (hq : ¬ bad q) : VCalls Try.prog 15 [.ref ρ 0, .i n, .agg (.i q :: aB l)] σ (fun x σ' => x = .tup [colC (bitsOf (fun m => decide (((m : Int), certText q l) ∈ ps)) (min n.toNat 16)) n q l, .i (colE (bitsOf (fun m => decide (((m : Int), certText q l) ∈ ps)) (min n.toNat 16)) n q)] ∧ σ' = σ) := by
  obtain ⟨z26, h26, hz26⟩ := zero26
  obtain ⟨z28, h28, hz28⟩ := zero28
  have hz := cR zs_len 0
  have hl1 := aR hh
  have hc := fun s => cR hh s
  have h13 := fun σ => t13 q l σ hh hq
  (refine vfun (h610) mixed Try.func15 (by kernel_rfl) ?_; simp only [bodyOf, Try.f15, Option.getD_some])
  repeat' (first | with_reducible rfl | exact .inr trivial | with_reducible apply And.intro | with_reducible apply vqx_step | with_reducible apply vqm_step | with_reducible refine vkp_free (by decide +kernel) ?_ | with_reducible intro _ | ((with_reducible refine .dms (fun β => β = ρ) [(0, false), (1, false), (2, false), (3, false), (4, false), (5, false), (6, true), (7, true)] (by decide) (by decide +kernel) ?_); (simp only [vO, vQ, ↓vP, vE, vS, vB, vL, vF, vM, vN, vbs_full, Nat.reduceEqDiff, Nat.reduceAdd, Nat.reduceLeDiff, ne_eq, not_false_eq_true, Nat.reduceMul, Nat.reduceSub, Int.toNat_zero, Int.reduceToNat, Try.underlying3, info3, Try.underlying26, Try.underlying27, Try.underlying28, Try.underlying34, Try.underlying35, info34, info35, h26, h28, hz26, hz28, Option.getD_some, h610_6, h610_5, h610_10, hz, hl1, hc, vT])) | ((first | (with_reducible first | refine .rs ?_ | refine .ds (by kernel_rfl) ?_ | refine .dg (by kernel_rfl) ?_ | refine .rg ?_ | refine .ite ?_ | refine .ret ?_ | refine .skip ?_ | refine .exit ?_ | refine .scope ?_ | refine .seq (.label ?_) | refine .block ?_ | refine .seq ?_)); (try simp only [vO, vQ, ↓vP, vE, vS, vB, vL, vF, vM, vN, vbs_full, Nat.reduceEqDiff, Nat.reduceAdd, Nat.reduceLeDiff, ne_eq, not_false_eq_true, Nat.reduceMul, Nat.reduceSub, Int.toNat_zero, Int.reduceToNat, Try.underlying3, info3, Try.underlying26, Try.underlying27, Try.underlying28, Try.underlying34, Try.underlying35, info34, info35, h26, h28, hz26, hz28, Option.getD_some, h610_6, h610_5, h610_10, hz, hl1, hc, vT])) | ((simp (disch := first | assumption | omega) only [w64, w8, tg_eq, Go.V.n1, Go.V.n2, Go.V.nn, Int.tdiv_eq_ediv_of_nonneg, Sg.set_same, Sg.set_ne, Sg.set_ne', Sg.del_ne, Sg.del_ne']); (try simp only [vO, vQ, ↓vP, vE, vS, vB, vL, vF, vM, vN, vbs_full, Nat.reduceEqDiff, Nat.reduceAdd, Nat.reduceLeDiff, ne_eq, not_false_eq_true, Nat.reduceMul, Nat.reduceSub, Int.toNat_zero, Int.reduceToNat, Try.underlying3, info3, Try.underlying26, Try.underlying27, Try.underlying28, Try.underlying34, Try.underlying35, info34, info35, h26, h28, hz26, hz28, Option.getD_some, h610_6, h610_5, h610_10, hz, hl1, hc, vT])) | ((((with_reducible refine (h13 _).mono ?_); rintro _ σ' ⟨y, rfl, τ, hτ, rfl, rfl⟩; obtain ⟨hne, hτ'⟩ := Sg.of_set_none hτ)); (try simp only [vO, vQ, ↓vP, vE, vS, vB, vL, vF, vM, vN, vbs_full, Nat.reduceEqDiff, Nat.reduceAdd, Nat.reduceLeDiff, ne_eq, not_false_eq_true, Nat.reduceMul, Nat.reduceSub, Int.toNat_zero, Int.reduceToNat, Try.underlying3, info3, Try.underlying26, Try.underlying27, Try.underlying28, Try.underlying34, Try.underlying35, info34, info35, h26, h28, hz26, hz28, Option.getD_some, h610_6, h610_5, h610_10, hz, hl1, hc, vT])) | ((((with_reducible refine (t39 _ _).mono ?_); rintro _ σ' ⟨rfl, rfl⟩)); (try simp only [vO, vQ, ↓vP, vE, vS, vB, vL, vF, vM, vN, vbs_full, Nat.reduceEqDiff, Nat.reduceAdd, Nat.reduceLeDiff, ne_eq, not_false_eq_true, Nat.reduceMul, Nat.reduceSub, Int.toNat_zero, Int.reduceToNat, Try.underlying3, info3, Try.underlying26, Try.underlying27, Try.underlying28, Try.underlying34, Try.underlying35, info34, info35, h26, h28, hz26, hz28, Option.getD_some, h610_6, h610_5, h610_10, hz, hl1, hc, vT])) | ((with_reducible exact t40 ρ ps k _ n (certText q l) _ hl (keepAt (by assumption) (at2 hρ (by assumption) (by assumption)))); (try simp only [vO, vQ, ↓vP, vE, vS, vB, vL, vF, vM, vN, vbs_full, Nat.reduceEqDiff, Nat.reduceAdd, Nat.reduceLeDiff, ne_eq, not_false_eq_true, Nat.reduceMul, Nat.reduceSub, Int.toNat_zero, Int.reduceToNat, Try.underlying3, info3, Try.underlying26, Try.underlying27, Try.underlying28, Try.underlying34, Try.underlying35, info34, info35, h26, h28, hz26, hz28, Option.getD_some, h610_6, h610_5, h610_10, hz, hl1, hc, vT])) | (((refine vkp_keep (by intro β h; subst h; exact Sg.set_other _ _ (ne_of hρ (by assumption))) ?_)); (try simp only [vO, vQ, ↓vP, vE, vS, vB, vL, vF, vM, vN, vbs_full, Nat.reduceEqDiff, Nat.reduceAdd, Nat.reduceLeDiff, ne_eq, not_false_eq_true, Nat.reduceMul, Nat.reduceSub, Int.toNat_zero, Int.reduceToNat, Try.underlying3, info3, Try.underlying26, Try.underlying27, Try.underlying28, Try.underlying34, Try.underlying35, info34, info35, h26, h28, hz26, hz28, Option.getD_some, h610_6, h610_5, h610_10, hz, hl1, hc, vT])) | ((((with_reducible refine (t17 ρ ps k n q _ l _ hl hh (at3 hρ (by assumption) (by assumption) (by assumption))).mono ?_); rintro _ σ' ⟨rfl, rfl⟩)); (try simp only [vO, vQ, ↓vP, vE, vS, vB, vL, vF, vM, vN, vbs_full, Nat.reduceEqDiff, Nat.reduceAdd, Nat.reduceLeDiff, ne_eq, not_false_eq_true, Nat.reduceMul, Nat.reduceSub, Int.toNat_zero, Int.reduceToNat, Try.underlying3, info3, Try.underlying26, Try.underlying27, Try.underlying28, Try.underlying34, Try.underlying35, info34, info35, h26, h28, hz26, hz28, Option.getD_some, h610_6, h610_5, h610_10, hz, hl1, hc, vT])) | with_reducible refine vfresh_set ?_ | with_reducible refine vfresh_intro (fun _ _ => ?_) | with_reducible refine vif_intro (fun _ => ?_) (fun _ => ?_) | omega | ((with_reducible first | refine vop_at ?_ | refine vops_at ?_ | refine vquiet_at ?_ | refine vmix_at ?_ | refine Holds_at ?_); simp only [vO, vQ, ↓vP, vE, vS, vB, vL, vF, vM, vN, vbs_full, Nat.reduceEqDiff, Nat.reduceAdd, Nat.reduceLeDiff, ne_eq, not_false_eq_true, Nat.reduceMul, Nat.reduceSub, Int.toNat_zero, Int.reduceToNat, Try.underlying3, info3, Try.underlying26, Try.underlying27, Try.underlying28, Try.underlying34, Try.underlying35, info34, info35, h26, h28, hz26, hz28, Option.getD_some, h610_6, h610_5, h610_10, hz, hl1, hc, vT]))
  · have he : ∀ m, colE m n q = 1 := fun m => if_pos (.inl (most0 ‹_›))
    exact ⟨σ, (by repeat (first | exact Sg.sub.refl _ | refine Sg.sub.set_both ?_ | refine Sg.sub.set_fresh ?_ (by first | assumption | exact Sg.set_none ‹_› ‹_›) | refine Sg.sub.del_fresh ?_ (by first | assumption | exact Sg.set_none ‹_› ‹_›))), by rw [colC, he]; rfl, rfl⟩
  · rename_i h
    have hn := most1 (by assumption)
    rw [min16 hn] at h ⊢
    rw [chk_self hn hq (bitsOf_lt _ _)] at h
    have he : colE (bitsOf (fun m => decide (((m : Int), certText q l) ∈ ps)) n.toNat) n q = 0 := by
      rw [colE, if_neg (fun h => h.elim (fun h => h hn) hq)]
      exact h
    exact ⟨σ, (by repeat (first | exact Sg.sub.refl _ | refine Sg.sub.set_both ?_ | refine Sg.sub.set_fresh ?_ (by first | assumption | exact Sg.set_none ‹_› ‹_›) | refine Sg.sub.del_fresh ?_ (by first | assumption | exact Sg.set_none ‹_› ‹_›))), by rw [colC, he]; rfl, rfl⟩
  · rename_i h
    have hn := most1 (by assumption)
    rw [min16 hn] at h ⊢
    have he : colE (bitsOf (fun m => decide (((m : Int), certText q l) ∈ ps)) n.toNat) n q = 5 := by
      rw [colE, if_neg (fun h => h.elim (fun h => h hn) hq)]
      rw [chk_self hn hq (bitsOf_lt _ _)] at h
      split at h
      · exact absurd rfl h
      · rename_i h1
        rw [if_neg h1]
    have hk : chk (bitsOf (fun m => decide (((m : Int), certText q l) ∈ ps)) n.toNat) n q (bitsOf (fun m => decide (((m : Int), certText q l) ∈ ps)) n.toNat) = 5 := by
      rw [chk_self hn hq (bitsOf_lt _ _)] at h ⊢
      split at h
      · exact absurd rfl h
      · rename_i h1
        rw [if_neg h1]
    exact ⟨σ, (by repeat (first | exact Sg.sub.refl _ | refine Sg.sub.set_both ?_ | refine Sg.sub.set_fresh ?_ (by first | assumption | exact Sg.set_none ‹_› ‹_›) | refine Sg.sub.del_fresh ?_ (by first | assumption | exact Sg.set_none ‹_› ‹_›))), by rw [colC, he, hk]; rfl, rfl⟩
end Go.Proofs.Ytkbfngepdgdecaa
