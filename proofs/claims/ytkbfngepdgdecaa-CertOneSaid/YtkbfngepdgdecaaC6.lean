import Derived.Test.YtkbfngepdgdecaaC5
set_option linter.unusedSimpArgs false
set_option linter.unusedVariables false
namespace Go.Cert
open Go.V
theorem be_cons : ∀ (j n : Nat), be (j + 1) n = UInt8.ofNat (n / 256 ^ j) :: be j n
  | 0, n => by simp [be]
  | j + 1, n => by
    rw [be, be_cons j (n / 256), Nat.div_div_eq_div_mul, Nat.pow_succ, Nat.mul_comm 256]
    rfl
theorem put_be (n j : Nat) (hj : j < 8) : splice (List.replicate (8 - j) (AV.u8 0) ++ aB (be j n)) (7 - j) [AV.u8 (UInt8.ofNat (n / 256 ^ j)).toNat] = List.replicate (8 - (j + 1)) (AV.u8 0) ++ aB (be (j + 1) n) := by
  have h1 : (List.replicate (8 - j) (AV.u8 0) ++ aB (be j n)).take (7 - j) = List.replicate (7 - j) (AV.u8 0) := by
    rw [List.take_append_of_le_length (by simp; omega), List.take_replicate, Nat.min_eq_left (by omega)]
  have h2 : (List.replicate (8 - j) (AV.u8 0) ++ aB (be j n)).drop (7 - j + 1) = aB (be j n) := by
    rw [show 7 - j + 1 = 8 - j by omega, List.drop_left' (by simp)]
  unfold splice
  rw [h1, List.length_singleton, h2, be_cons, show 8 - (j + 1) = 7 - j by omega]
  simp [aB]
theorem Sg_set_del {σ : Sg} {β : Nat} {o : Ob} (h : σ β = none) : (σ.set β o).del β = σ := by
  funext x
  unfold Sg.del Sg.set
  by_cases e : x = β
  · subst e; simp [h]
  · simp [e]
theorem aB_chunks_all (l : List UInt8) (n : Nat) (h : n = l.length) : chunks 1 n (aB l) = bytesL l := by
  rw [aB_chunks n l (by omega), List.take_of_length_le (by omega)]
end Go.Cert
namespace Go.Proofs.Ytkbfngepdgdecaa
open Go Go.V Go.Cert
theorem vmk34 {σ : Sg} {R : AV → Sg → Prop} (h : vfresh σ fun β => R (.ms β 0 8 1) (σ.set β (.cells 5 (List.replicate (8 - 0) (.u8 0) ++ aB (be 0 0))))) : vmakeSlice Try.prog .obj 34 (.i 8) (.i 8) σ R := by
  unfold vmakeSlice
  simp only [Try.underlying34, info5]
  exact ⟨by decide, trivial, h⟩
set_option maxHeartbeats 1000000 in
set_option maxRecDepth 100000 in
theorem t52 (n : Nat) (σ : Sg) (hn : n ≤ 1099511627776) : VCalls Try.prog 52 [.i n] σ (fun x σ' => x = .sl .any (bytesL (be 8 n)) ∧ σ' = σ) := by
  apply VCalls.still
  (refine vfun (fun _ => .obj) mixed Try.func52 (by kernel_rfl) ?_; simp only [bodyOf, Try.f52, Option.getD_some])
  repeat' (first | with_reducible rfl | exact .inr trivial | with_reducible apply And.intro | with_reducible apply vqx_step | with_reducible apply vqm_step | with_reducible refine vkp_free (by decide +kernel) ?_ | with_reducible intro _ | ((first | (with_reducible first | refine .rs ?_ | refine .ds (by kernel_rfl) ?_ | refine .dg (by kernel_rfl) ?_ | refine .rg ?_ | refine .ite ?_ | refine .ret ?_ | refine .skip ?_ | refine .exit ?_ | refine .scope ?_ | refine .seq (.label ?_) | refine .block ?_ | refine .seq ?_)); (try simp only [vO, vQ, ↓vP, vE, vS, vB, vL, vF, vM, vN, vbs_full, Nat.reduceEqDiff, Nat.reduceAdd, Nat.reduceLeDiff, ne_eq, not_false_eq_true, Nat.reduceMul, Nat.reduceSub, Int.toNat_zero, Int.reduceToNat, Try.underlying34, Try.underlying5, Try.underlying3, info34, info5, info3, nadd, nadd1, nadd2, nadd3, n1add, n2add, vT])) | ((simp (disch := first | assumption | omega) only [w64, w8, tg_eq, n1, n2, nn, Int.tdiv_eq_ediv_of_nonneg, Sg.set_same, Sg.set_ne, Sg.set_ne', Sg.del_ne, Sg.del_ne']); (try simp only [vO, vQ, ↓vP, vE, vS, vB, vL, vF, vM, vN, vbs_full, Nat.reduceEqDiff, Nat.reduceAdd, Nat.reduceLeDiff, ne_eq, not_false_eq_true, Nat.reduceMul, Nat.reduceSub, Int.toNat_zero, Int.reduceToNat, Try.underlying34, Try.underlying5, Try.underlying3, info34, info5, info3, nadd, nadd1, nadd2, nadd3, n1add, n2add, vT])) | ((with_reducible refine vmk34 ?_); (try simp only [vO, vQ, ↓vP, vE, vS, vB, vL, vF, vM, vN, vbs_full, Nat.reduceEqDiff, Nat.reduceAdd, Nat.reduceLeDiff, ne_eq, not_false_eq_true, Nat.reduceMul, Nat.reduceSub, Int.toNat_zero, Int.reduceToNat, Try.underlying34, Try.underlying5, Try.underlying3, info34, info5, info3, nadd, nadd1, nadd2, nadd3, n1add, n2add, vT])) | with_reducible refine vfresh_set ?_ | with_reducible refine vfresh_intro (fun _ _ => ?_) | with_reducible refine vif_intro (fun _ => ?_) (fun _ => ?_) | omega | ((with_reducible first | refine vop_at ?_ | refine vops_at ?_ | refine vquiet_at ?_ | refine vmix_at ?_ | refine Holds_at ?_); simp only [vO, vQ, ↓vP, vE, vS, vB, vL, vF, vM, vN, vbs_full, Nat.reduceEqDiff, Nat.reduceAdd, Nat.reduceLeDiff, ne_eq, not_false_eq_true, Nat.reduceMul, Nat.reduceSub, Int.toNat_zero, Int.reduceToNat, Try.underlying34, Try.underlying5, Try.underlying3, info34, info5, info3, nadd, nadd1, nadd2, nadd3, n1add, n2add, vT]))
  rename_i β hβ
  refine VW.loop3 (0 : Nat) () () (fun j _ _ => j ≤ 8) (fun j _ _ => [(0, .i (n / 256 ^ j : Nat)), (3, .ms β 0 8 1), (4, .i (7 - (j : Int)))]) (fun j _ _ => σ.set β (.cells 5 (List.replicate (8 - j) (.u8 0) ++ aB (be j n)))) (fun j _ _ => 8 - j) (by omega) (.refl _) ?_ ?_
  · simp only [vO, vQ, ↓vP, vE, vS, vB, vL, vF, vM, vN, vbs_full, Nat.reduceEqDiff, Nat.reduceAdd, Nat.reduceLeDiff, ne_eq, not_false_eq_true, Nat.reduceMul, Nat.reduceSub, Int.toNat_zero, Int.reduceToNat, vT]
    exact ⟨by rw [Nat.pow_zero, Nat.div_one], rfl⟩
  rintro j _ _ h1
  have hlen : (be j n).length = j := be_len _ _
  have hlt : n / 256 ^ j ≤ 1099511627776 := Nat.le_trans (Nat.div_le_self _ _) hn
  repeat' (first | with_reducible rfl | exact .inr trivial | with_reducible apply And.intro | with_reducible apply vqx_step | with_reducible apply vqm_step | with_reducible refine vkp_free (by decide +kernel) ?_ | with_reducible intro _ | ((first | (with_reducible first | refine .rs ?_ | refine .ds (by kernel_rfl) ?_ | refine .dg (by kernel_rfl) ?_ | refine .rg ?_ | refine .ite ?_ | refine .ret ?_ | refine .skip ?_ | refine .exit ?_ | refine .scope ?_ | refine .seq (.label ?_) | refine .block ?_ | refine .seq ?_)); (try simp only [vO, vQ, ↓vP, vE, vS, vB, vL, vF, vM, vN, vbs_full, Nat.reduceEqDiff, Nat.reduceAdd, Nat.reduceLeDiff, ne_eq, not_false_eq_true, Nat.reduceMul, Nat.reduceSub, Int.toNat_zero, Int.reduceToNat, Try.underlying34, Try.underlying5, Try.underlying3, info34, info5, info3, nadd, nadd1, nadd2, nadd3, n1add, n2add, vT])) | ((simp (disch := first | assumption | omega) only [w64, w8, tg_eq, n1, n2, nn, Int.tdiv_eq_ediv_of_nonneg, Sg.set_same, Sg.set_ne, Sg.set_ne', Sg.del_ne, Sg.del_ne']); (try simp only [vO, vQ, ↓vP, vE, vS, vB, vL, vF, vM, vN, vbs_full, Nat.reduceEqDiff, Nat.reduceAdd, Nat.reduceLeDiff, ne_eq, not_false_eq_true, Nat.reduceMul, Nat.reduceSub, Int.toNat_zero, Int.reduceToNat, Try.underlying34, Try.underlying5, Try.underlying3, info34, info5, info3, nadd, nadd1, nadd2, nadd3, n1add, n2add, vT])) | with_reducible refine vfresh_set ?_ | with_reducible refine vfresh_intro (fun _ _ => ?_) | with_reducible refine vif_intro (fun _ => ?_) (fun _ => ?_) | omega | ((with_reducible first | refine vop_at ?_ | refine vops_at ?_ | refine vquiet_at ?_ | refine vmix_at ?_ | refine Holds_at ?_); simp only [vO, vQ, ↓vP, vE, vS, vB, vL, vF, vM, vN, vbs_full, Nat.reduceEqDiff, Nat.reduceAdd, Nat.reduceLeDiff, ne_eq, not_false_eq_true, Nat.reduceMul, Nat.reduceSub, Int.toNat_zero, Int.reduceToNat, Try.underlying34, Try.underlying5, Try.underlying3, info34, info5, info3, nadd, nadd1, nadd2, nadd3, n1add, n2add, vT]))
  · exact ⟨_, _, rfl⟩
  · have : j < 8 := by omega
    simp [aB_len, hlen]
    omega
  · have hj : j < 8 := by omega
    have hm : (7 - (j : Int)).toNat * 1 = 7 - j := by omega
    have hp := put_be n j hj
    rw [splice] at hp
    refine ⟨j + 1, (), (), ⟨by omega, by omega⟩, ?_, ?_, i_eq (by omega)⟩
    · rw [hm, u8_nat, ← hp]
      exact .refl _
    · rw [shr_nat _ 8 (by omega), Nat.div_div_eq_div_mul, Nat.pow_succ]
      rfl
  · obtain rfl : j = 8 := by omega
    refine ⟨_, .refl _, β, 8, 1, 5, _, by omega, rfl, Sg.set_same _ _ _, ?_, ?_, Sg_set_del hβ⟩
    · simp [aB_len, be_len]
    · rw [show List.replicate (8 - 8) (AV.u8 0) ++ aB (be 8 n) = aB (be 8 n) from rfl, aB_chunks_all _ _ (by rw [be_len])]
set_option maxHeartbeats 1000000 in
set_option maxRecDepth 100000 in
theorem t35a (q : Int) (l : List UInt8) (σ : Sg) (hl : l.length = 128) (hq : bad q) : VCalls Try.prog 35 [.agg (.i q :: aB l)] σ (fun x σ' => x = .tup [.sl .nil [], .i 1] ∧ σ' = σ) := by
  have hlen : (aB l).length = 128 := by rw [aB_len, hl]
  obtain ⟨z26, h26⟩ := sz26
  obtain ⟨z24, h24⟩ := sz24
  have hq2 : ¬ q < 0 → 1099511627776 < q := by unfold bad at hq; omega
  (refine vfun (fun _ => .ro) mixed Try.func35 (by kernel_rfl) ?_; simp only [bodyOf, Try.f35, Option.getD_some])
  repeat' (first | with_reducible rfl | exact .inr trivial | with_reducible apply And.intro | with_reducible apply vqx_step | with_reducible apply vqm_step | with_reducible refine vkp_free (by decide +kernel) ?_ | with_reducible intro _ | ((with_reducible refine .dms (fun _ => False) [] (by decide) (by kernel_rfl) ?_); (simp only [vO, vQ, ↓vP, vE, vS, vB, vL, vF, vM, vN, vbs_full, Nat.reduceEqDiff, Nat.reduceAdd, Nat.reduceLeDiff, ne_eq, not_false_eq_true, Nat.reduceMul, Nat.reduceSub, Int.toNat_zero, Int.reduceToNat, Try.underlying3, info3, Try.underlying23, Try.underlying24, Try.underlying25, Try.underlying26, Try.underlying34, Try.underlying70, info34, info70, h24, h26, aB_drop, aB_take, List.drop_drop, nadd, nadd1, nadd2, nadd3, n1add, n2add, vT])) | ((first | (with_reducible first | refine .rs ?_ | refine .ds (by kernel_rfl) ?_ | refine .dg (by kernel_rfl) ?_ | refine .rg ?_ | refine .ite ?_ | refine .ret ?_ | refine .skip ?_ | refine .exit ?_ | refine .scope ?_ | refine .seq (.label ?_) | refine .block ?_ | refine .seq ?_)); (try simp only [vO, vQ, ↓vP, vE, vS, vB, vL, vF, vM, vN, vbs_full, Nat.reduceEqDiff, Nat.reduceAdd, Nat.reduceLeDiff, ne_eq, not_false_eq_true, Nat.reduceMul, Nat.reduceSub, Int.toNat_zero, Int.reduceToNat, Try.underlying3, info3, Try.underlying23, Try.underlying24, Try.underlying25, Try.underlying26, Try.underlying34, Try.underlying70, info34, info70, h24, h26, aB_drop, aB_take, List.drop_drop, nadd, nadd1, nadd2, nadd3, n1add, n2add, vT])) | ((simp (disch := first | assumption | omega) only [w64, w8, tg_eq, n1, n2, nn, Int.tdiv_eq_ediv_of_nonneg, Sg.set_same, Sg.set_ne, Sg.set_ne', Sg.del_ne, Sg.del_ne']); (try simp only [vO, vQ, ↓vP, vE, vS, vB, vL, vF, vM, vN, vbs_full, Nat.reduceEqDiff, Nat.reduceAdd, Nat.reduceLeDiff, ne_eq, not_false_eq_true, Nat.reduceMul, Nat.reduceSub, Int.toNat_zero, Int.reduceToNat, Try.underlying3, info3, Try.underlying23, Try.underlying24, Try.underlying25, Try.underlying26, Try.underlying34, Try.underlying70, info34, info70, h24, h26, aB_drop, aB_take, List.drop_drop, nadd, nadd1, nadd2, nadd3, n1add, n2add, vT])) | with_reducible refine vfresh_set ?_ | with_reducible refine vfresh_intro (fun _ _ => ?_) | with_reducible refine vif_intro (fun _ => ?_) (fun _ => ?_) | omega | ((with_reducible first | refine vop_at ?_ | refine vops_at ?_ | refine vquiet_at ?_ | refine vmix_at ?_ | refine Holds_at ?_); simp only [vO, vQ, ↓vP, vE, vS, vB, vL, vF, vM, vN, vbs_full, Nat.reduceEqDiff, Nat.reduceAdd, Nat.reduceLeDiff, ne_eq, not_false_eq_true, Nat.reduceMul, Nat.reduceSub, Int.toNat_zero, Int.reduceToNat, Try.underlying3, info3, Try.underlying23, Try.underlying24, Try.underlying25, Try.underlying26, Try.underlying34, Try.underlying70, info34, info70, h24, h26, aB_drop, aB_take, List.drop_drop, nadd, nadd1, nadd2, nadd3, n1add, n2add, vT]))
  all_goals first | exact ⟨_, .refl _, rfl⟩ | (exfalso; unfold bad at hq; omega)
set_option maxHeartbeats 1000000 in
set_option maxRecDepth 100000 in
theorem t35 (q : Int) (l : List UInt8) (σ : Sg) (hl : l.length = 128) (hq : ¬ bad q) : VCalls Try.prog 35 [.agg (.i q :: aB l)] σ (fun x σ' => ∃ y, x = .tup [y, .i 0] ∧ OwnB (hdB q l) σ y σ') := by
  have hlen : (aB l).length = 128 := by rw [aB_len, hl]
  have hc0 := aB_chunks 32 l (by omega)
  have hc1 := aB_chunks 32 (l.drop 32) (by simp [hl])
  have hc2 := aB_chunks 32 (l.drop 64) (by simp [hl])
  have hc3 := aB_chunks 32 (l.drop 96) (by simp [hl])
  have hk : ∀ m : List UInt8, (bytesL (m.take 32)).take 32 = bytesL (m.take 32) := fun m => List.take_of_length_le (by rw [bytesL_len, List.length_take]; omega)
  have h47 : ∀ σ, VCalls Try.prog 52 [.i q] σ (fun x σ' => x = .sl .any (bytesL (be 8 q.toNat)) ∧ σ' = σ) := fun σ => by
    have := t52 q.toNat σ (by unfold bad at hq; omega)
    rwa [Int.toNat_of_nonneg (by unfold bad at hq; omega)] at this
  have h57 : ∀ σ, VCalls Try.prog 36 [.sl .full [[.sl .any (bytesL (be 8 q.toNat))], [.sl .view (bytesL (l.take 32))], [.sl .view (bytesL ((l.drop 32).take 32))], [.sl .view (bytesL ((l.drop 64).take 32))], [.sl .view (bytesL ((l.drop 96).take 32))]]] σ (fun x σ' => OwnB (hdB q l) σ x σ') := fun σ =>
    t36 .full [(.any, be 8 q.toNat), (.view, l.take 32), (.view, (l.drop 32).take 32), (.view, (l.drop 64).take 32), (.view, (l.drop 96).take 32)] σ (by simp) (by simp [be_len]; omega)
  have hq' : ¬ q < 0 ∧ ¬ 1099511627776 < q := by unfold bad at hq; omega
  obtain ⟨hq1, hq2⟩ := hq'
  obtain ⟨z26, h26⟩ := sz26
  obtain ⟨z24, h24⟩ := sz24
  (refine vfun (fun _ => .ro) mixed Try.func35 (by kernel_rfl) ?_; simp only [bodyOf, Try.f35, Option.getD_some])
  repeat' (first | with_reducible rfl | exact .inr trivial | with_reducible apply And.intro | with_reducible apply vqx_step | with_reducible apply vqm_step | with_reducible refine vkp_free (by decide +kernel) ?_ | with_reducible intro _ | ((with_reducible refine .dms (fun _ => False) [(0, false), (3, false), (5, false), (7, false), (9, false), (1, false), (4, false), (6, false), (8, false), (10, false), (2, true), (11, false), (12, true), (13, false), (14, false)] (by decide) (by decide +kernel) ?_); (simp only [vO, vQ, ↓vP, vE, vS, vB, vL, vF, vM, vN, vbs_full, Nat.reduceEqDiff, Nat.reduceAdd, Nat.reduceLeDiff, ne_eq, not_false_eq_true, Nat.reduceMul, Nat.reduceSub, Int.toNat_zero, Int.reduceToNat, Try.underlying3, info3, Try.underlying5, info5, Try.underlying23, Try.underlying24, Try.underlying25, Try.underlying26, Try.underlying34, Try.underlying70, info34, info70, h24, h26, ↓hc0, ↓hc1, ↓hc2, ↓hc3, hk, hl, aB_len, List.length_drop, vown2_ro, aB_drop, aB_take, List.drop_drop, nadd, nadd1, nadd2, nadd3, n1add, n2add, vT])) | ((first | (with_reducible first | refine .rs ?_ | refine .ds (by kernel_rfl) ?_ | refine .dg (by kernel_rfl) ?_ | refine .rg ?_ | refine .ite ?_ | refine .ret ?_ | refine .skip ?_ | refine .exit ?_ | refine .scope ?_ | refine .seq (.label ?_) | refine .block ?_ | refine .seq ?_)); (try simp only [vO, vQ, ↓vP, vE, vS, vB, vL, vF, vM, vN, vbs_full, Nat.reduceEqDiff, Nat.reduceAdd, Nat.reduceLeDiff, ne_eq, not_false_eq_true, Nat.reduceMul, Nat.reduceSub, Int.toNat_zero, Int.reduceToNat, Try.underlying3, info3, Try.underlying5, info5, Try.underlying23, Try.underlying24, Try.underlying25, Try.underlying26, Try.underlying34, Try.underlying70, info34, info70, h24, h26, ↓hc0, ↓hc1, ↓hc2, ↓hc3, hk, hl, aB_len, List.length_drop, vown2_ro, aB_drop, aB_take, List.drop_drop, nadd, nadd1, nadd2, nadd3, n1add, n2add, vT])) | ((simp (disch := first | assumption | omega) only [w64, w8, tg_eq, n1, n2, nn, Int.tdiv_eq_ediv_of_nonneg, Sg.set_same, Sg.set_ne, Sg.set_ne', Sg.del_ne, Sg.del_ne']); (try simp only [vO, vQ, ↓vP, vE, vS, vB, vL, vF, vM, vN, vbs_full, Nat.reduceEqDiff, Nat.reduceAdd, Nat.reduceLeDiff, ne_eq, not_false_eq_true, Nat.reduceMul, Nat.reduceSub, Int.toNat_zero, Int.reduceToNat, Try.underlying3, info3, Try.underlying5, info5, Try.underlying23, Try.underlying24, Try.underlying25, Try.underlying26, Try.underlying34, Try.underlying70, info34, info70, h24, h26, ↓hc0, ↓hc1, ↓hc2, ↓hc3, hk, hl, aB_len, List.length_drop, vown2_ro, aB_drop, aB_take, List.drop_drop, nadd, nadd1, nadd2, nadd3, n1add, n2add, vT])) | ((with_reducible refine vkp_keep (fun _ h => h.elim) ?_); (try simp only [vO, vQ, ↓vP, vE, vS, vB, vL, vF, vM, vN, vbs_full, Nat.reduceEqDiff, Nat.reduceAdd, Nat.reduceLeDiff, ne_eq, not_false_eq_true, Nat.reduceMul, Nat.reduceSub, Int.toNat_zero, Int.reduceToNat, Try.underlying3, info3, Try.underlying5, info5, Try.underlying23, Try.underlying24, Try.underlying25, Try.underlying26, Try.underlying34, Try.underlying70, info34, info70, h24, h26, ↓hc0, ↓hc1, ↓hc2, ↓hc3, hk, hl, aB_len, List.length_drop, vown2_ro, aB_drop, aB_take, List.drop_drop, nadd, nadd1, nadd2, nadd3, n1add, n2add, vT])) | ((((with_reducible refine (h47 _).mono ?_); rintro y σ' ⟨rfl, rfl⟩)); (try simp only [vO, vQ, ↓vP, vE, vS, vB, vL, vF, vM, vN, vbs_full, Nat.reduceEqDiff, Nat.reduceAdd, Nat.reduceLeDiff, ne_eq, not_false_eq_true, Nat.reduceMul, Nat.reduceSub, Int.toNat_zero, Int.reduceToNat, Try.underlying3, info3, Try.underlying5, info5, Try.underlying23, Try.underlying24, Try.underlying25, Try.underlying26, Try.underlying34, Try.underlying70, info34, info70, h24, h26, ↓hc0, ↓hc1, ↓hc2, ↓hc3, hk, hl, aB_len, List.length_drop, vown2_ro, aB_drop, aB_take, List.drop_drop, nadd, nadd1, nadd2, nadd3, n1add, n2add, vT])) | ((((with_reducible refine (h57 _).mono ?_); rintro y σ' ⟨τ', hτ', rfl, rfl⟩)); (try simp only [vO, vQ, ↓vP, vE, vS, vB, vL, vF, vM, vN, vbs_full, Nat.reduceEqDiff, Nat.reduceAdd, Nat.reduceLeDiff, ne_eq, not_false_eq_true, Nat.reduceMul, Nat.reduceSub, Int.toNat_zero, Int.reduceToNat, Try.underlying3, info3, Try.underlying5, info5, Try.underlying23, Try.underlying24, Try.underlying25, Try.underlying26, Try.underlying34, Try.underlying70, info34, info70, h24, h26, ↓hc0, ↓hc1, ↓hc2, ↓hc3, hk, hl, aB_len, List.length_drop, vown2_ro, aB_drop, aB_take, List.drop_drop, nadd, nadd1, nadd2, nadd3, n1add, n2add, vT])) | with_reducible refine vfresh_set ?_ | with_reducible refine vfresh_intro (fun _ _ => ?_) | with_reducible refine vif_intro (fun _ => ?_) (fun _ => ?_) | omega | ((with_reducible first | refine vop_at ?_ | refine vops_at ?_ | refine vquiet_at ?_ | refine vmix_at ?_ | refine Holds_at ?_); simp only [vO, vQ, ↓vP, vE, vS, vB, vL, vF, vM, vN, vbs_full, Nat.reduceEqDiff, Nat.reduceAdd, Nat.reduceLeDiff, ne_eq, not_false_eq_true, Nat.reduceMul, Nat.reduceSub, Int.toNat_zero, Int.reduceToNat, Try.underlying3, info3, Try.underlying5, info5, Try.underlying23, Try.underlying24, Try.underlying25, Try.underlying26, Try.underlying34, Try.underlying70, info34, info70, h24, h26, ↓hc0, ↓hc1, ↓hc2, ↓hc3, hk, hl, aB_len, List.length_drop, vown2_ro, aB_drop, aB_take, List.drop_drop, nadd, nadd1, nadd2, nadd3, n1add, n2add, vT]))
  all_goals
    exact ⟨_, .refl _, _, rfl, _, by assumption, rfl, rfl⟩
end Go.Proofs.Ytkbfngepdgdecaa
