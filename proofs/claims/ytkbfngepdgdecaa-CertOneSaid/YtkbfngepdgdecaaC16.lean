import Derived.Test.YtkbfngepdgdecaaC15
set_option linter.unusedSimpArgs false
set_option linter.unusedVariables false
namespace Go.Proofs.Ytkbfngepdgdecaa
open Go Go.V Go.Cert
theorem keyOK_V (w : Int) (l : List UInt8) : keyOK Try.prog 77 [.i w, .s (bs l)] = true := by kernel_rfl
theorem look90 {m : Nat} {w : Int} {l : List UInt8} {ps : Ps} {σ : Sg} {R : AV → Prop} (h : σ m = some (.map (knownM ps))) (hR : R (.b (decide ((w, l) ∈ ps)))) : vlookup Try.prog 90 (.map m) (.agg [.i w, .s (bs l)]) false σ R := by
  unfold vlookup
  simp only [Try.underlying90, allV, h, info4]
  refine ⟨keyOK_V w l, ?_⟩
  have := find_known (w, l) ps
  unfold keyV at this
  simp only [Option.map_some]
  rw [this]
  by_cases hm : (w, l) ∈ ps
  · simpa [hm] using hR
  · rw [decide_eq_false hm] at hR
    simp only [hm, if_false]
    exact hR
set_option maxHeartbeats 1000000 in
set_option maxRecDepth 100000 in
theorem t62 (ρ m1 m2 : Nat) (V : AV) (ps : Ps) (k' : Own) (w : Int) (l : List UInt8) (σ : Sg) (hρ : σ ρ = some (.cells 94 [.map m1, V, .map m2])) (hm : σ m1 = some (.map (knownM ps))) : VCalls Try.prog 62 [.ref ρ 0, .i w, .sl k' (bytesL l)] σ (fun x σ' => x = .b (decide ((w, l) ∈ ps)) ∧ σ' = σ) := by
  (refine vfun (fun _ => .no) mixed Try.func62 (by kernel_rfl) ?_; simp only [bodyOf, Try.f62, Option.getD_some])
  repeat' (first | with_reducible rfl | exact .inr trivial | with_reducible apply And.intro | with_reducible apply vqx_step | with_reducible apply vqm_step | with_reducible refine vkp_free (by decide +kernel) ?_ | with_reducible intro _ | ((first | (with_reducible first | refine .rs ?_ | refine .ds (by kernel_rfl) ?_ | refine .dg (by kernel_rfl) ?_ | refine .rg ?_ | refine .ite ?_ | refine .ret ?_ | refine .skip ?_ | refine .exit ?_ | refine .scope ?_ | refine .seq (.label ?_) | refine .block ?_ | refine .seq ?_)); (try simp only [vO, vQ, ↓vP, vE, vS, vB, vL, vF, vM, vN, vbs_full, Nat.reduceEqDiff, Nat.reduceAdd, Nat.reduceLeDiff, ne_eq, not_false_eq_true, Nat.reduceMul, Nat.reduceSub, Int.toNat_zero, Int.reduceToNat, Try.underlying3, info3, Try.underlying34, info34, Try.underlying4, info4, Try.underlying9, info9, Try.underlying5, info5, Try.underlying90, info90, Try.underlying93, Try.underlying94, info94, Try.underlying76, Try.underlying77, info77, hρ, vT])) | ((simp (disch := first | assumption | omega) only [w64, w8, tg_eq, n1, n2, nn, Int.tdiv_eq_ediv_of_nonneg, Sg.set_same, Sg.set_ne, Sg.set_ne', Sg.del_ne, Sg.del_ne']); (try simp only [vO, vQ, ↓vP, vE, vS, vB, vL, vF, vM, vN, vbs_full, Nat.reduceEqDiff, Nat.reduceAdd, Nat.reduceLeDiff, ne_eq, not_false_eq_true, Nat.reduceMul, Nat.reduceSub, Int.toNat_zero, Int.reduceToNat, Try.underlying3, info3, Try.underlying34, info34, Try.underlying4, info4, Try.underlying9, info9, Try.underlying5, info5, Try.underlying90, info90, Try.underlying93, Try.underlying94, info94, Try.underlying76, Try.underlying77, info77, hρ, vT])) | ((with_reducible refine ⟨bs l, (bs_bytesAV l).symm, ?_⟩); (try simp only [vO, vQ, ↓vP, vE, vS, vB, vL, vF, vM, vN, vbs_full, Nat.reduceEqDiff, Nat.reduceAdd, Nat.reduceLeDiff, ne_eq, not_false_eq_true, Nat.reduceMul, Nat.reduceSub, Int.toNat_zero, Int.reduceToNat, Try.underlying3, info3, Try.underlying34, info34, Try.underlying4, info4, Try.underlying9, info9, Try.underlying5, info5, Try.underlying90, info90, Try.underlying93, Try.underlying94, info94, Try.underlying76, Try.underlying77, info77, hρ, vT])) | ((with_reducible refine look90 hm ?_); (try simp only [vO, vQ, ↓vP, vE, vS, vB, vL, vF, vM, vN, vbs_full, Nat.reduceEqDiff, Nat.reduceAdd, Nat.reduceLeDiff, ne_eq, not_false_eq_true, Nat.reduceMul, Nat.reduceSub, Int.toNat_zero, Int.reduceToNat, Try.underlying3, info3, Try.underlying34, info34, Try.underlying4, info4, Try.underlying9, info9, Try.underlying5, info5, Try.underlying90, info90, Try.underlying93, Try.underlying94, info94, Try.underlying76, Try.underlying77, info77, hρ, vT])) | with_reducible refine vfresh_set ?_ | with_reducible refine vfresh_intro (fun _ _ => ?_) | with_reducible refine vif_intro (fun _ => ?_) (fun _ => ?_) | omega | ((with_reducible first | refine vop_at ?_ | refine vops_at ?_ | refine vquiet_at ?_ | refine vmix_at ?_ | refine Holds_at ?_); simp only [vO, vQ, ↓vP, vE, vS, vB, vL, vF, vM, vN, vbs_full, Nat.reduceEqDiff, Nat.reduceAdd, Nat.reduceLeDiff, ne_eq, not_false_eq_true, Nat.reduceMul, Nat.reduceSub, Int.toNat_zero, Int.reduceToNat, Try.underlying3, info3, Try.underlying34, info34, Try.underlying4, info4, Try.underlying9, info9, Try.underlying5, info5, Try.underlying90, info90, Try.underlying93, Try.underlying94, info94, Try.underlying76, Try.underlying77, info77, hρ, vT]))
  exact ⟨_, .refl _, rfl⟩
end Go.Proofs.Ytkbfngepdgdecaa
