import Derived.Test.YtkbfngepdgdecaaC1
set_option linter.unusedSimpArgs false
set_option linter.unusedVariables false
namespace Go.Cert
/-- How many may be faulty: n is 3f+1, f in 1..5. -/
def isN (n : Int) : Prop := 4 ≤ n ∧ n ≤ 16 ∧ n % 3 = 1
instance (n : Int) : Decidable (isN n) := by unfold isN; infer_instance
def fOf (n : Int) : Int := if isN n then n / 3 else 0
def fErr (n : Int) : Int := if isN n then 0 else 1
def most (n : Int) : Int := if isN n then 2 * (n / 3) + 1 else 0
theorem fErr_eq (n : Int) : (fErr n = 0) = isN n := by unfold fErr; by_cases h : isN n <;> simp [h]
theorem fOf_yes {n : Int} (h : isN n) : fOf n = n / 3 ∧ 4 ≤ n ∧ n ≤ 16 := ⟨by simp [fOf, h], h.1, h.2.1⟩
end Go.Cert
namespace Go.Proofs.Ytkbfngepdgdecaa
open Go Go.V Go.Cert
set_option maxHeartbeats 1000000 in
set_option maxRecDepth 100000 in
theorem t61 (n : Int) (σ : Sg) : VCalls Try.prog 61 [.i n] σ (fun x σ' => x = .tup [.i (fOf n), .i (fErr n)] ∧ σ' = σ) := by
  (refine vfun (fun _ => .no) mixed Try.func61 (by kernel_rfl) ?_; simp only [bodyOf, Try.f61, Option.getD_some])
  repeat' (first | with_reducible rfl | exact .inr trivial | with_reducible apply And.intro | with_reducible apply vqx_step | with_reducible apply vqm_step | with_reducible refine vkp_free (by decide +kernel) ?_ | with_reducible intro _ | ((first | (with_reducible first | refine .rs ?_ | refine .ds (by kernel_rfl) ?_ | refine .dg (by kernel_rfl) ?_ | refine .rg ?_ | refine .ite ?_ | refine .ret ?_ | refine .skip ?_ | refine .exit ?_ | refine .scope ?_ | refine .seq (.label ?_) | refine .block ?_ | refine .seq ?_)); (try simp only [vO, vQ, ↓vP, vE, vS, vB, vL, vF, vM, vN, vbs_full, Nat.reduceEqDiff, Nat.reduceAdd, Nat.reduceLeDiff, ne_eq, not_false_eq_true, Nat.reduceMul, Nat.reduceSub, Int.toNat_zero, Int.reduceToNat, Try.underlying34, Try.underlying5, Try.underlying3, info34, info5, info3, nadd, nadd1, nadd2, nadd3, n1add, n2add, vT])) | ((simp (disch := first | assumption | omega) only [w64, w8, tg_eq, n1, n2, nn, Int.tdiv_eq_ediv_of_nonneg, Sg.set_same, Sg.set_ne, Sg.set_ne', Sg.del_ne, Sg.del_ne']); (try simp only [vO, vQ, ↓vP, vE, vS, vB, vL, vF, vM, vN, vbs_full, Nat.reduceEqDiff, Nat.reduceAdd, Nat.reduceLeDiff, ne_eq, not_false_eq_true, Nat.reduceMul, Nat.reduceSub, Int.toNat_zero, Int.reduceToNat, Try.underlying34, Try.underlying5, Try.underlying3, info34, info5, info3, nadd, nadd1, nadd2, nadd3, n1add, n2add, vT])) | with_reducible refine vfresh_set ?_ | with_reducible refine vfresh_intro (fun _ _ => ?_) | with_reducible refine vif_intro (fun _ => ?_) (fun _ => ?_) | omega | ((with_reducible first | refine vop_at ?_ | refine vops_at ?_ | refine vquiet_at ?_ | refine vmix_at ?_ | refine Holds_at ?_); simp only [vO, vQ, ↓vP, vE, vS, vB, vL, vF, vM, vN, vbs_full, Nat.reduceEqDiff, Nat.reduceAdd, Nat.reduceLeDiff, ne_eq, not_false_eq_true, Nat.reduceMul, Nat.reduceSub, Int.toNat_zero, Int.reduceToNat, Try.underlying34, Try.underlying5, Try.underlying3, info34, info5, info3, nadd, nadd1, nadd2, nadd3, n1add, n2add, vT]))
  all_goals have ht : 4 ≤ n → n.tmod 3 = n % 3 := fun h => Int.tmod_eq_emod_of_nonneg (by omega)
  all_goals refine ⟨_, .refl _, ?_, rfl⟩
  · simp [fOf, fErr, isN]; omega
  · simp [fOf, fErr, isN]; omega
  · have : isN n := ⟨by omega, by omega, by omega⟩
    simp [fOf, fErr, this]
  · have : ¬ isN n := fun h => by have := h.2.2; omega
    simp [fOf, fErr, this]
set_option maxHeartbeats 1000000 in
set_option maxRecDepth 100000 in
theorem t66 (n : Int) (σ : Sg) : VCalls Try.prog 66 [.i n] σ (fun x σ' => x = .tup [.i (fOf n), .i (fErr n)] ∧ σ' = σ) := by
  (refine vfun (fun _ => .no) mixed Try.func66 (by kernel_rfl) ?_; simp only [bodyOf, Try.f66, Option.getD_some])
  repeat' (first | with_reducible rfl | exact .inr trivial | with_reducible apply And.intro | with_reducible apply vqx_step | with_reducible apply vqm_step | with_reducible refine vkp_free (by decide +kernel) ?_ | with_reducible intro _ | ((first | (with_reducible first | refine .rs ?_ | refine .ds (by kernel_rfl) ?_ | refine .dg (by kernel_rfl) ?_ | refine .rg ?_ | refine .ite ?_ | refine .ret ?_ | refine .skip ?_ | refine .exit ?_ | refine .scope ?_ | refine .seq (.label ?_) | refine .block ?_ | refine .seq ?_)); (try simp only [vO, vQ, ↓vP, vE, vS, vB, vL, vF, vM, vN, vbs_full, Nat.reduceEqDiff, Nat.reduceAdd, Nat.reduceLeDiff, ne_eq, not_false_eq_true, Nat.reduceMul, Nat.reduceSub, Int.toNat_zero, Int.reduceToNat, Try.underlying34, Try.underlying5, Try.underlying3, info34, info5, info3, nadd, nadd1, nadd2, nadd3, n1add, n2add, vT])) | ((simp (disch := first | assumption | omega) only [w64, w8, tg_eq, n1, n2, nn, Int.tdiv_eq_ediv_of_nonneg, Sg.set_same, Sg.set_ne, Sg.set_ne', Sg.del_ne, Sg.del_ne']); (try simp only [vO, vQ, ↓vP, vE, vS, vB, vL, vF, vM, vN, vbs_full, Nat.reduceEqDiff, Nat.reduceAdd, Nat.reduceLeDiff, ne_eq, not_false_eq_true, Nat.reduceMul, Nat.reduceSub, Int.toNat_zero, Int.reduceToNat, Try.underlying34, Try.underlying5, Try.underlying3, info34, info5, info3, nadd, nadd1, nadd2, nadd3, n1add, n2add, vT])) | with_reducible refine vfresh_set ?_ | with_reducible refine vfresh_intro (fun _ _ => ?_) | with_reducible refine vif_intro (fun _ => ?_) (fun _ => ?_) | omega | ((with_reducible first | refine vop_at ?_ | refine vops_at ?_ | refine vquiet_at ?_ | refine vmix_at ?_ | refine Holds_at ?_); simp only [vO, vQ, ↓vP, vE, vS, vB, vL, vF, vM, vN, vbs_full, Nat.reduceEqDiff, Nat.reduceAdd, Nat.reduceLeDiff, ne_eq, not_false_eq_true, Nat.reduceMul, Nat.reduceSub, Int.toNat_zero, Int.reduceToNat, Try.underlying34, Try.underlying5, Try.underlying3, info34, info5, info3, nadd, nadd1, nadd2, nadd3, n1add, n2add, vT]))
  refine VW.loop3 (1 : Nat) () () (fun j _ _ => 1 ≤ j ∧ j ≤ 6 ∧ ∀ i : Nat, 1 ≤ i → i < j → n ≠ 3 * i + 1) (fun j _ _ => [(0, .i n), (4, .i j)]) (fun _ _ _ => σ) (fun j _ _ => 6 - j) ⟨by omega, by omega, fun i h1 h2 => by omega⟩ (.refl _) ?_ ?_
  · simp only [vO, vQ, ↓vP, vE, vS, vB, vL, vF, vM, vN, vbs_full, Nat.reduceEqDiff, Nat.reduceAdd, Nat.reduceLeDiff, ne_eq, not_false_eq_true, Nat.reduceMul, Nat.reduceSub, Int.toNat_zero, Int.reduceToNat, vT]
    rfl
  rintro j _ _ ⟨h1, h2, h3⟩
  repeat' (first | with_reducible rfl | exact .inr trivial | with_reducible apply And.intro | with_reducible apply vqx_step | with_reducible apply vqm_step | with_reducible refine vkp_free (by decide +kernel) ?_ | with_reducible intro _ | ((first | (with_reducible first | refine .rs ?_ | refine .ds (by kernel_rfl) ?_ | refine .dg (by kernel_rfl) ?_ | refine .rg ?_ | refine .ite ?_ | refine .ret ?_ | refine .skip ?_ | refine .exit ?_ | refine .scope ?_ | refine .seq (.label ?_) | refine .block ?_ | refine .seq ?_)); (try simp only [vO, vQ, ↓vP, vE, vS, vB, vL, vF, vM, vN, vbs_full, Nat.reduceEqDiff, Nat.reduceAdd, Nat.reduceLeDiff, ne_eq, not_false_eq_true, Nat.reduceMul, Nat.reduceSub, Int.toNat_zero, Int.reduceToNat, Try.underlying34, Try.underlying5, Try.underlying3, info34, info5, info3, nadd, nadd1, nadd2, nadd3, n1add, n2add, vT])) | ((simp (disch := first | assumption | omega) only [w64, w8, tg_eq, n1, n2, nn, Int.tdiv_eq_ediv_of_nonneg, Sg.set_same, Sg.set_ne, Sg.set_ne', Sg.del_ne, Sg.del_ne']); (try simp only [vO, vQ, ↓vP, vE, vS, vB, vL, vF, vM, vN, vbs_full, Nat.reduceEqDiff, Nat.reduceAdd, Nat.reduceLeDiff, ne_eq, not_false_eq_true, Nat.reduceMul, Nat.reduceSub, Int.toNat_zero, Int.reduceToNat, Try.underlying34, Try.underlying5, Try.underlying3, info34, info5, info3, nadd, nadd1, nadd2, nadd3, n1add, n2add, vT])) | with_reducible refine vfresh_set ?_ | with_reducible refine vfresh_intro (fun _ _ => ?_) | with_reducible refine vif_intro (fun _ => ?_) (fun _ => ?_) | omega | ((with_reducible first | refine vop_at ?_ | refine vops_at ?_ | refine vquiet_at ?_ | refine vmix_at ?_ | refine Holds_at ?_); simp only [vO, vQ, ↓vP, vE, vS, vB, vL, vF, vM, vN, vbs_full, Nat.reduceEqDiff, Nat.reduceAdd, Nat.reduceLeDiff, ne_eq, not_false_eq_true, Nat.reduceMul, Nat.reduceSub, Int.toNat_zero, Int.reduceToNat, Try.underlying34, Try.underlying5, Try.underlying3, info34, info5, info3, nadd, nadd1, nadd2, nadd3, n1add, n2add, vT]))
  · refine ⟨_, .refl _, ?_, rfl⟩
    have hn : isN n := ⟨by omega, by omega, by omega⟩
    have : n / 3 = j := by omega
    simp [fOf, fErr, hn, this]
  · refine ⟨j + 1, (), (), ⟨⟨by omega, by omega, fun i h4 h5 => ?_⟩, by omega⟩, .refl _, rfl⟩
    rcases Nat.lt_or_ge i j with h6 | h6
    · exact h3 i h4 h6
    · obtain rfl : i = j := by omega
      omega
  · refine ⟨_, .refl _, ?_, rfl⟩
    have hn : ¬ isN n := fun h => by
      obtain ⟨h4, h5, h6⟩ := h
      exact h3 (n / 3).toNat (by omega) (by omega) (by omega)
    simp [fOf, fErr, hn]
set_option maxHeartbeats 1000000 in
set_option maxRecDepth 100000 in
theorem t63 (n : Int) (σ : Sg) : VCalls Try.prog 63 [.i n] σ (fun x σ' => x = .i (most n) ∧ σ' = σ) := by
  (refine vfun (fun _ => .no) mixed Try.func63 (by kernel_rfl) ?_; simp only [bodyOf, Try.f63, Option.getD_some])
  repeat' (first | with_reducible rfl | exact .inr trivial | with_reducible apply And.intro | with_reducible apply vqx_step | with_reducible apply vqm_step | with_reducible refine vkp_free (by decide +kernel) ?_ | with_reducible intro _ | ((first | (with_reducible first | refine .rs ?_ | refine .ds (by kernel_rfl) ?_ | refine .dg (by kernel_rfl) ?_ | refine .rg ?_ | refine .ite ?_ | refine .ret ?_ | refine .skip ?_ | refine .exit ?_ | refine .scope ?_ | refine .seq (.label ?_) | refine .block ?_ | refine .seq ?_)); (try simp only [vO, vQ, ↓vP, vE, vS, vB, vL, vF, vM, vN, vbs_full, Nat.reduceEqDiff, Nat.reduceAdd, Nat.reduceLeDiff, ne_eq, not_false_eq_true, Nat.reduceMul, Nat.reduceSub, Int.toNat_zero, Int.reduceToNat, Try.underlying34, Try.underlying5, Try.underlying3, info34, info5, info3, nadd, nadd1, nadd2, nadd3, n1add, n2add, vT])) | ((simp (disch := first | assumption | omega) only [w64, w8, tg_eq, n1, n2, nn, Int.tdiv_eq_ediv_of_nonneg, Sg.set_same, Sg.set_ne, Sg.set_ne', Sg.del_ne, Sg.del_ne']); (try simp only [vO, vQ, ↓vP, vE, vS, vB, vL, vF, vM, vN, vbs_full, Nat.reduceEqDiff, Nat.reduceAdd, Nat.reduceLeDiff, ne_eq, not_false_eq_true, Nat.reduceMul, Nat.reduceSub, Int.toNat_zero, Int.reduceToNat, Try.underlying34, Try.underlying5, Try.underlying3, info34, info5, info3, nadd, nadd1, nadd2, nadd3, n1add, n2add, vT])) | ((((with_reducible refine (t61 _ _).mono ?_); rintro _ _ ⟨rfl, rfl⟩)); (try simp only [vO, vQ, ↓vP, vE, vS, vB, vL, vF, vM, vN, vbs_full, Nat.reduceEqDiff, Nat.reduceAdd, Nat.reduceLeDiff, ne_eq, not_false_eq_true, Nat.reduceMul, Nat.reduceSub, Int.toNat_zero, Int.reduceToNat, Try.underlying34, Try.underlying5, Try.underlying3, info34, info5, info3, nadd, nadd1, nadd2, nadd3, n1add, n2add, vT])) | with_reducible refine vfresh_set ?_ | with_reducible refine vfresh_intro (fun _ _ => ?_) | with_reducible refine vif_intro (fun _ => ?_) (fun _ => ?_) | omega | ((with_reducible first | refine vop_at ?_ | refine vops_at ?_ | refine vquiet_at ?_ | refine vmix_at ?_ | refine Holds_at ?_); simp only [vO, vQ, ↓vP, vE, vS, vB, vL, vF, vM, vN, vbs_full, Nat.reduceEqDiff, Nat.reduceAdd, Nat.reduceLeDiff, ne_eq, not_false_eq_true, Nat.reduceMul, Nat.reduceSub, Int.toNat_zero, Int.reduceToNat, Try.underlying34, Try.underlying5, Try.underlying3, info34, info5, info3, nadd, nadd1, nadd2, nadd3, n1add, n2add, vT]))
  · have hn := (fErr_eq n).mp ‹_›
    obtain ⟨h1, h2, h3⟩ := fOf_yes hn
    refine ⟨_, .refl _, ?_, rfl⟩
    rw [h1, w64 (n := 2 * (n / 3)) (by omega) (by omega), w64 (by omega) (by omega)]
    simp [most, hn]
  · have hn : ¬ isN n := fun h => ‹¬ _› ((fErr_eq n).mpr h)
    exact ⟨_, .refl _, by simp [most, hn], rfl⟩
set_option maxHeartbeats 1000000 in
set_option maxRecDepth 100000 in
theorem t39 (n : Int) (σ : Sg) : VCalls Try.prog 39 [.i n] σ (fun x σ' => x = .i (most n) ∧ σ' = σ) := by
  (refine vfun (fun _ => .no) mixed Try.func39 (by kernel_rfl) ?_; simp only [bodyOf, Try.f39, Option.getD_some])
  repeat' (first | with_reducible rfl | exact .inr trivial | with_reducible apply And.intro | with_reducible apply vqx_step | with_reducible apply vqm_step | with_reducible refine vkp_free (by decide +kernel) ?_ | with_reducible intro _ | ((first | (with_reducible first | refine .rs ?_ | refine .ds (by kernel_rfl) ?_ | refine .dg (by kernel_rfl) ?_ | refine .rg ?_ | refine .ite ?_ | refine .ret ?_ | refine .skip ?_ | refine .exit ?_ | refine .scope ?_ | refine .seq (.label ?_) | refine .block ?_ | refine .seq ?_)); (try simp only [vO, vQ, ↓vP, vE, vS, vB, vL, vF, vM, vN, vbs_full, Nat.reduceEqDiff, Nat.reduceAdd, Nat.reduceLeDiff, ne_eq, not_false_eq_true, Nat.reduceMul, Nat.reduceSub, Int.toNat_zero, Int.reduceToNat, Try.underlying34, Try.underlying5, Try.underlying3, info34, info5, info3, nadd, nadd1, nadd2, nadd3, n1add, n2add, vT])) | ((simp (disch := first | assumption | omega) only [w64, w8, tg_eq, n1, n2, nn, Int.tdiv_eq_ediv_of_nonneg, Sg.set_same, Sg.set_ne, Sg.set_ne', Sg.del_ne, Sg.del_ne']); (try simp only [vO, vQ, ↓vP, vE, vS, vB, vL, vF, vM, vN, vbs_full, Nat.reduceEqDiff, Nat.reduceAdd, Nat.reduceLeDiff, ne_eq, not_false_eq_true, Nat.reduceMul, Nat.reduceSub, Int.toNat_zero, Int.reduceToNat, Try.underlying34, Try.underlying5, Try.underlying3, info34, info5, info3, nadd, nadd1, nadd2, nadd3, n1add, n2add, vT])) | ((((with_reducible refine (t66 _ _).mono ?_); rintro _ _ ⟨rfl, rfl⟩)); (try simp only [vO, vQ, ↓vP, vE, vS, vB, vL, vF, vM, vN, vbs_full, Nat.reduceEqDiff, Nat.reduceAdd, Nat.reduceLeDiff, ne_eq, not_false_eq_true, Nat.reduceMul, Nat.reduceSub, Int.toNat_zero, Int.reduceToNat, Try.underlying34, Try.underlying5, Try.underlying3, info34, info5, info3, nadd, nadd1, nadd2, nadd3, n1add, n2add, vT])) | with_reducible refine vfresh_set ?_ | with_reducible refine vfresh_intro (fun _ _ => ?_) | with_reducible refine vif_intro (fun _ => ?_) (fun _ => ?_) | omega | ((with_reducible first | refine vop_at ?_ | refine vops_at ?_ | refine vquiet_at ?_ | refine vmix_at ?_ | refine Holds_at ?_); simp only [vO, vQ, ↓vP, vE, vS, vB, vL, vF, vM, vN, vbs_full, Nat.reduceEqDiff, Nat.reduceAdd, Nat.reduceLeDiff, ne_eq, not_false_eq_true, Nat.reduceMul, Nat.reduceSub, Int.toNat_zero, Int.reduceToNat, Try.underlying34, Try.underlying5, Try.underlying3, info34, info5, info3, nadd, nadd1, nadd2, nadd3, n1add, n2add, vT]))
  · have hn := (fErr_eq n).mp ‹_›
    obtain ⟨h1, h2, h3⟩ := fOf_yes hn
    refine ⟨_, .refl _, ?_, rfl⟩
    rw [h1, w64 (n := 2 * (n / 3)) (by omega) (by omega), w64 (by omega) (by omega)]
    simp [most, hn]
  · have hn : ¬ isN n := fun h => ‹¬ _› ((fErr_eq n).mpr h)
    exact ⟨_, .refl _, by simp [most, hn], rfl⟩
set_option maxHeartbeats 1000000 in
set_option maxRecDepth 100000 in
theorem t65 (n : Int) (σ : Sg) : VCalls Try.prog 65 [.i n] σ (fun x σ' => x = .val (.int .u64 (if 0 ≤ n ∧ n ≤ 65535 then n else 0)) ∧ σ' = σ) := by
  (refine vfun (fun _ => .no) mixed Try.func65 (by kernel_rfl) ?_; simp only [bodyOf, Try.f65, Option.getD_some])
  repeat' (first | with_reducible rfl | exact .inr trivial | with_reducible apply And.intro | with_reducible apply vqx_step | with_reducible apply vqm_step | with_reducible refine vkp_free (by decide +kernel) ?_ | with_reducible intro _ | ((first | (with_reducible first | refine .rs ?_ | refine .ds (by kernel_rfl) ?_ | refine .dg (by kernel_rfl) ?_ | refine .rg ?_ | refine .ite ?_ | refine .ret ?_ | refine .skip ?_ | refine .exit ?_ | refine .scope ?_ | refine .seq (.label ?_) | refine .block ?_ | refine .seq ?_)); (try simp only [vO, vQ, ↓vP, vE, vS, vB, vL, vF, vM, vN, vbs_full, Nat.reduceEqDiff, Nat.reduceAdd, Nat.reduceLeDiff, ne_eq, not_false_eq_true, Nat.reduceMul, Nat.reduceSub, Int.toNat_zero, Int.reduceToNat, Try.underlying34, Try.underlying5, Try.underlying3, info34, info5, info3, Try.underlying106, nadd, nadd1, nadd2, nadd3, n1add, n2add, vT])) | ((simp (disch := first | assumption | omega) only [w64, w8, tg_eq, n1, n2, nn, Int.tdiv_eq_ediv_of_nonneg, Sg.set_same, Sg.set_ne, Sg.set_ne', Sg.del_ne, Sg.del_ne']); (try simp only [vO, vQ, ↓vP, vE, vS, vB, vL, vF, vM, vN, vbs_full, Nat.reduceEqDiff, Nat.reduceAdd, Nat.reduceLeDiff, ne_eq, not_false_eq_true, Nat.reduceMul, Nat.reduceSub, Int.toNat_zero, Int.reduceToNat, Try.underlying34, Try.underlying5, Try.underlying3, info34, info5, info3, Try.underlying106, nadd, nadd1, nadd2, nadd3, n1add, n2add, vT])) | with_reducible refine vfresh_set ?_ | with_reducible refine vfresh_intro (fun _ _ => ?_) | with_reducible refine vif_intro (fun _ => ?_) (fun _ => ?_) | omega | ((with_reducible first | refine vop_at ?_ | refine vops_at ?_ | refine vquiet_at ?_ | refine vmix_at ?_ | refine Holds_at ?_); simp only [vO, vQ, ↓vP, vE, vS, vB, vL, vF, vM, vN, vbs_full, Nat.reduceEqDiff, Nat.reduceAdd, Nat.reduceLeDiff, ne_eq, not_false_eq_true, Nat.reduceMul, Nat.reduceSub, Int.toNat_zero, Int.reduceToNat, Try.underlying34, Try.underlying5, Try.underlying3, info34, info5, info3, Try.underlying106, nadd, nadd1, nadd2, nadd3, n1add, n2add, vT]))
  all_goals refine ⟨_, .refl _, ?_, rfl⟩
  · rw [if_neg (by omega)]
  · rw [if_neg (by omega)]
  · rw [if_pos (by omega)]
    rw [show IntKind.u64.wrap n = n from by
      have h1 : IntKind.u64.signed = false := rfl
      have h2 : IntKind.u64.bits = 64 := rfl
      unfold IntKind.wrap
      rw [h1, h2]
      show n % 18446744073709551616 = n
      omega]
end Go.Proofs.Ytkbfngepdgdecaa
