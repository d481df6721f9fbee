/- Part 5 of the proof: K6, K7, K8, K9, K10, K11, K12, K13, K14, K15, K16, V19, B1, E1, E2. -/
import Derived.Test.YtpfancgcamclnaaDoorN4

set_option linter.unusedSimpArgs false
namespace Go.Proofs.YtpfancgcamclnaaDoor
open Go Go.V Go.Lex
theorem lies140 : liesAt Tryd.prog Tryd.prog.depth 53 (2 / Tryd.prog.cellsOf 53) 0 53 1 = true := by kernel_rfl
theorem t118 (x : AV) (σ : Sg) : VCalls Tryd.prog 52 [x] σ (fun y σ' => y = x ∧ σ' = σ) :=
  vNoEscape (P := Tryd.prog) Tryd.func52 (by kernel_rfl) (by kernel_rfl) (by kernel_rfl) (by kernel_rfl)
set_option maxHeartbeats 1000000 in
set_option maxRecDepth 100000 in
theorem t115 (β : Nat) (x0 buf : AV) (σ : Sg) (hσ : σ β = some (.cells 53 [x0, buf])) (hx : x0 = .val (.pointer none) ∨ x0 = .ref β 0) : VCalls Tryd.prog 40 [.ref β 0] σ (fun x σ' => x = .tup [] ∧ σ' = σ.set β (.cells 53 [.ref β 0, buf])) := by
  rcases hx with rfl | rfl
  · (refine vfun (fun _ => .no) mixed Tryd.func40 (by kernel_rfl) ?_; simp only [bodyOf, Tryd.f40, Option.getD_some])
    repeat' (first | with_reducible rfl | exact .inr trivial | with_reducible apply And.intro | with_reducible apply vqx_step | with_reducible apply vqm_step | with_reducible refine vkp_free (by decide +kernel) ?_ | with_reducible intro _ | ((first | (with_reducible first | refine .rs ?_ | refine .ds (by kernel_rfl) ?_ | refine .dg (by kernel_rfl) ?_ | refine .rg ?_ | refine .ite ?_ | refine .ret ?_ | refine .skip ?_ | refine .exit ?_ | refine .scope ?_ | refine .seq (.label ?_) | refine .block ?_ | refine .seq ?_) | (simp (disch := first | assumption | omega) only [w64, w8, tg_eq, n1, n2, nn, Int.tdiv_eq_ediv_of_nonneg, Sg.set_same, Sg.set_ne, Sg.set_ne', Sg.del_ne, Sg.del_ne']) | with_reducible refine (t118 _ _).use ?_); (try simp only [vO, vQ, ↓vP, vE, vS, vB, vL, vF, vM, vN, vbs_full, Nat.reduceEqDiff, Nat.reduceAdd, Nat.reduceLeDiff, ne_eq, not_false_eq_true, Nat.reduceMul, Nat.reduceSub, Int.toNat_zero, Int.reduceToNat, Tryd.underlying50, Tryd.underlying53, Tryd.underlying78, info50, info53, info78, hσ, lies140, vT])) | with_reducible refine vfresh_set ?_ | with_reducible refine vfresh_intro (fun _ _ => ?_) | with_reducible refine vif_intro (fun _ => ?_) (fun _ => ?_) | omega | ((with_reducible first | refine vop_at ?_ | refine vops_at ?_ | refine vquiet_at ?_ | refine vmix_at ?_ | refine Holds_at ?_); simp only [vO, vQ, ↓vP, vE, vS, vB, vL, vF, vM, vN, vbs_full, Nat.reduceEqDiff, Nat.reduceAdd, Nat.reduceLeDiff, ne_eq, not_false_eq_true, Nat.reduceMul, Nat.reduceSub, Int.toNat_zero, Int.reduceToNat, Tryd.underlying50, Tryd.underlying53, Tryd.underlying78, info50, info53, info78, hσ, lies140, vT]))
    all_goals first
      | rfl
      | exact ⟨_, .refl _, rfl⟩
  · (refine vfun (fun _ => .no) mixed Tryd.func40 (by kernel_rfl) ?_; simp only [bodyOf, Tryd.f40, Option.getD_some])
    repeat' (first | with_reducible rfl | exact .inr trivial | with_reducible apply And.intro | with_reducible apply vqx_step | with_reducible apply vqm_step | with_reducible refine vkp_free (by decide +kernel) ?_ | with_reducible intro _ | ((first | (with_reducible first | refine .rs ?_ | refine .ds (by kernel_rfl) ?_ | refine .dg (by kernel_rfl) ?_ | refine .rg ?_ | refine .ite ?_ | refine .ret ?_ | refine .skip ?_ | refine .exit ?_ | refine .scope ?_ | refine .seq (.label ?_) | refine .block ?_ | refine .seq ?_) | (simp (disch := first | assumption | omega) only [w64, w8, tg_eq, n1, n2, nn, Int.tdiv_eq_ediv_of_nonneg, Sg.set_same, Sg.set_ne, Sg.set_ne', Sg.del_ne, Sg.del_ne']) | with_reducible refine (t118 _ _).use ?_); (try simp only [vO, vQ, ↓vP, vE, vS, vB, vL, vF, vM, vN, vbs_full, Nat.reduceEqDiff, Nat.reduceAdd, Nat.reduceLeDiff, ne_eq, not_false_eq_true, Nat.reduceMul, Nat.reduceSub, Int.toNat_zero, Int.reduceToNat, Tryd.underlying50, Tryd.underlying53, Tryd.underlying78, info50, info53, info78, hσ, lies140, vT])) | with_reducible refine vfresh_set ?_ | with_reducible refine vfresh_intro (fun _ _ => ?_) | with_reducible refine vif_intro (fun _ => ?_) (fun _ => ?_) | omega | ((with_reducible first | refine vop_at ?_ | refine vops_at ?_ | refine vquiet_at ?_ | refine vmix_at ?_ | refine Holds_at ?_); simp only [vO, vQ, ↓vP, vE, vS, vB, vL, vF, vM, vN, vbs_full, Nat.reduceEqDiff, Nat.reduceAdd, Nat.reduceLeDiff, ne_eq, not_false_eq_true, Nat.reduceMul, Nat.reduceSub, Int.toNat_zero, Int.reduceToNat, Tryd.underlying50, Tryd.underlying53, Tryd.underlying78, info50, info53, info78, hσ, lies140, vT]))
    all_goals exact ⟨σ, .refl _, (Sg.set_id hσ).symm⟩
/-- A builder that holds acc, beside what σ says. -/
def Bld (β : Nat) (acc : List UInt8) (σ S : Sg) : Prop :=
  σ β = none ∧ ((acc = [] ∧ S = σ.set β (.cells 53 [.val (.pointer none), .sl .nil []])) ∨
    ∃ τ, τ ≠ β ∧ σ τ = none ∧ S = (σ.set τ (.tok (some 5))).set β (.cells 53 [.ref β 0, .sl (.tok τ 1) (bytesL acc)]))
set_option maxHeartbeats 1000000 in
set_option maxRecDepth 100000 in
theorem t100 (β : Nat) (acc m : List UInt8) (σ S : Sg) (hb : Bld β acc σ S) (hl : acc.length + m.length < 2 ^ 40) : VCalls Tryd.prog 27 [.ref β 0, .s (bs m)] S (fun x σ' => x = .tup [.i m.length, .val .nilIface] ∧ Bld β (acc ++ m) σ σ') := by
  obtain ⟨h0, ⟨rfl, rfl⟩ | ⟨τ, hτ, hτ0, rfl⟩⟩ := hb
  · (refine vfun (fun _ => .no) mixed Tryd.func27 (by kernel_rfl) ?_; simp only [bodyOf, Tryd.f27, Option.getD_some])
    repeat' (first | with_reducible rfl | exact .inr trivial | with_reducible apply And.intro | with_reducible apply vqx_step | with_reducible apply vqm_step | with_reducible refine vkp_free (by decide +kernel) ?_ | with_reducible intro _ | ((first | (with_reducible first | refine .rs ?_ | refine .ds (by kernel_rfl) ?_ | refine .dg (by kernel_rfl) ?_ | refine .rg ?_ | refine .ite ?_ | refine .ret ?_ | refine .skip ?_ | refine .exit ?_ | refine .scope ?_ | refine .seq (.label ?_) | refine .block ?_ | refine .seq ?_) | (simp (disch := first | assumption | omega) only [w64, w8, tg_eq, n1, n2, nn, Int.tdiv_eq_ediv_of_nonneg, Sg.set_same, Sg.set_ne, Sg.set_ne', Sg.del_ne, Sg.del_ne']) | with_reducible refine (t115 β _ _ _ (Sg.set_same _ _ _) (.inl rfl)).use ?_); (try simp only [vO, vQ, ↓vP, vE, vS, vB, vL, vF, vM, vN, vbs_full, Nat.reduceEqDiff, Nat.reduceAdd, Nat.reduceLeDiff, ne_eq, not_false_eq_true, Nat.reduceMul, Nat.reduceSub, Int.toNat_zero, Int.reduceToNat, Tryd.underlying50, Tryd.underlying53, Tryd.underlying51, Tryd.underlying9, Tryd.underlying5, info51, info53, info5, vT])) | with_reducible refine vfresh_set ?_ | with_reducible refine vfresh_intro (fun _ _ => ?_) | with_reducible refine vif_intro (fun _ => ?_) (fun _ => ?_) | omega | ((with_reducible first | refine vop_at ?_ | refine vops_at ?_ | refine vquiet_at ?_ | refine vmix_at ?_ | refine Holds_at ?_); simp only [vO, vQ, ↓vP, vE, vS, vB, vL, vF, vM, vN, vbs_full, Nat.reduceEqDiff, Nat.reduceAdd, Nat.reduceLeDiff, ne_eq, not_false_eq_true, Nat.reduceMul, Nat.reduceSub, Int.toNat_zero, Int.reduceToNat, Tryd.underlying50, Tryd.underlying53, Tryd.underlying51, Tryd.underlying9, Tryd.underlying5, info51, info53, info5, vT]))
    all_goals first
      | rfl
      | (rename_i x hx hne
         refine ⟨(σ.set x (.tok (some 5))).set β (.cells 53 [.ref β 0, .sl (.tok x 1) (bytesL m)]), fun y o hy => ?_, h0, .inr ⟨x, hne, hx, rfl⟩⟩
         by_cases e1 : y = β <;> by_cases e2 : y = x <;> simp_all [Sg.set, Sg.del])
  · (refine vfun (fun _ => .no) mixed Tryd.func27 (by kernel_rfl) ?_; simp only [bodyOf, Tryd.f27, Option.getD_some])
    repeat' (first | with_reducible rfl | exact .inr trivial | with_reducible apply And.intro | with_reducible apply vqx_step | with_reducible apply vqm_step | with_reducible refine vkp_free (by decide +kernel) ?_ | with_reducible intro _ | ((first | (with_reducible first | refine .rs ?_ | refine .ds (by kernel_rfl) ?_ | refine .dg (by kernel_rfl) ?_ | refine .rg ?_ | refine .ite ?_ | refine .ret ?_ | refine .skip ?_ | refine .exit ?_ | refine .scope ?_ | refine .seq (.label ?_) | refine .block ?_ | refine .seq ?_) | (simp (disch := first | assumption | omega) only [w64, w8, tg_eq, n1, n2, nn, Int.tdiv_eq_ediv_of_nonneg, Sg.set_same, Sg.set_ne, Sg.set_ne', Sg.del_ne, Sg.del_ne']) | with_reducible refine (t115 β _ _ _ (Sg.set_same _ _ _) (.inr rfl)).use ?_); (try simp only [vO, vQ, ↓vP, vE, vS, vB, vL, vF, vM, vN, vbs_full, Nat.reduceEqDiff, Nat.reduceAdd, Nat.reduceLeDiff, ne_eq, not_false_eq_true, Nat.reduceMul, Nat.reduceSub, Int.toNat_zero, Int.reduceToNat, Tryd.underlying50, Tryd.underlying53, Tryd.underlying51, Tryd.underlying9, Tryd.underlying5, info51, info53, info5, vT])) | with_reducible refine vfresh_set ?_ | with_reducible refine vfresh_intro (fun _ _ => ?_) | with_reducible refine vif_intro (fun _ => ?_) (fun _ => ?_) | omega | ((with_reducible first | refine vop_at ?_ | refine vops_at ?_ | refine vquiet_at ?_ | refine vmix_at ?_ | refine Holds_at ?_); simp only [vO, vQ, ↓vP, vE, vS, vB, vL, vF, vM, vN, vbs_full, Nat.reduceEqDiff, Nat.reduceAdd, Nat.reduceLeDiff, ne_eq, not_false_eq_true, Nat.reduceMul, Nat.reduceSub, Int.toNat_zero, Int.reduceToNat, Tryd.underlying50, Tryd.underlying53, Tryd.underlying51, Tryd.underlying9, Tryd.underlying5, info51, info53, info5, vT]))
    all_goals first
      | rfl
      | exact .inr trivial
      | (rename_i x hx hnt hne
         refine ⟨(σ.set x (.tok (some 5))).set β (.cells 53 [.ref β 0, .sl (.tok x 1) (bytesL (acc ++ m))]), fun y o hy => ?_, h0, .inr ⟨x, hne, hx, rfl⟩⟩
         by_cases e1 : y = β <;> by_cases e2 : y = x <;> by_cases e3 : y = τ <;> simp_all [Sg.set, Sg.del])
set_option maxHeartbeats 1000000 in
set_option maxRecDepth 100000 in
theorem t101 (β : Nat) (acc : List UInt8) (c : UInt8) (σ S : Sg) (hb : Bld β acc σ S) (hl : acc.length < 2 ^ 40) : VCalls Tryd.prog 28 [.ref β 0, .u8 c.toNat] S (fun x σ' => x = .val .nilIface ∧ Bld β (acc ++ [c]) σ σ') := by
  obtain ⟨h0, ⟨rfl, rfl⟩ | ⟨τ, hτ, hτ0, rfl⟩⟩ := hb
  · (refine vfun (fun _ => .no) mixed Tryd.func28 (by kernel_rfl) ?_; simp only [bodyOf, Tryd.f28, Option.getD_some])
    repeat' (first | with_reducible rfl | exact .inr trivial | with_reducible apply And.intro | with_reducible apply vqx_step | with_reducible apply vqm_step | with_reducible refine vkp_free (by decide +kernel) ?_ | with_reducible intro _ | ((first | (with_reducible first | refine .rs ?_ | refine .ds (by kernel_rfl) ?_ | refine .dg (by kernel_rfl) ?_ | refine .rg ?_ | refine .ite ?_ | refine .ret ?_ | refine .skip ?_ | refine .exit ?_ | refine .scope ?_ | refine .seq (.label ?_) | refine .block ?_ | refine .seq ?_) | (simp (disch := first | assumption | omega) only [w64, w8, tg_eq, n1, n2, nn, Int.tdiv_eq_ediv_of_nonneg, Sg.set_same, Sg.set_ne, Sg.set_ne', Sg.del_ne, Sg.del_ne']) | with_reducible refine (t115 β _ _ _ (Sg.set_same _ _ _) (.inl rfl)).use ?_); (try simp only [vO, vQ, ↓vP, vE, vS, vB, vL, vF, vM, vN, vbs_full, Nat.reduceEqDiff, Nat.reduceAdd, Nat.reduceLeDiff, ne_eq, not_false_eq_true, Nat.reduceMul, Nat.reduceSub, Int.toNat_zero, Int.reduceToNat, Tryd.underlying50, Tryd.underlying53, Tryd.underlying51, Tryd.underlying9, Tryd.underlying5, info51, info53, info5, bytesL_unit, vT])) | with_reducible refine vfresh_set ?_ | with_reducible refine vfresh_intro (fun _ _ => ?_) | with_reducible refine vif_intro (fun _ => ?_) (fun _ => ?_) | omega | ((with_reducible first | refine vop_at ?_ | refine vops_at ?_ | refine vquiet_at ?_ | refine vmix_at ?_ | refine Holds_at ?_); simp only [vO, vQ, ↓vP, vE, vS, vB, vL, vF, vM, vN, vbs_full, Nat.reduceEqDiff, Nat.reduceAdd, Nat.reduceLeDiff, ne_eq, not_false_eq_true, Nat.reduceMul, Nat.reduceSub, Int.toNat_zero, Int.reduceToNat, Tryd.underlying50, Tryd.underlying53, Tryd.underlying51, Tryd.underlying9, Tryd.underlying5, info51, info53, info5, bytesL_unit, vT]))
    all_goals first
      | rfl
      | (rename_i x hx hne
         refine ⟨(σ.set x (.tok (some 5))).set β (.cells 53 [.ref β 0, .sl (.tok x 1) (bytesL [c])]), fun y o hy => ?_, h0, .inr ⟨x, hne, hx, rfl⟩⟩
         by_cases e1 : y = β <;> by_cases e2 : y = x <;> simp_all [Sg.set, Sg.del])
  · (refine vfun (fun _ => .no) mixed Tryd.func28 (by kernel_rfl) ?_; simp only [bodyOf, Tryd.f28, Option.getD_some])
    repeat' (first | with_reducible rfl | exact .inr trivial | with_reducible apply And.intro | with_reducible apply vqx_step | with_reducible apply vqm_step | with_reducible refine vkp_free (by decide +kernel) ?_ | with_reducible intro _ | ((first | (with_reducible first | refine .rs ?_ | refine .ds (by kernel_rfl) ?_ | refine .dg (by kernel_rfl) ?_ | refine .rg ?_ | refine .ite ?_ | refine .ret ?_ | refine .skip ?_ | refine .exit ?_ | refine .scope ?_ | refine .seq (.label ?_) | refine .block ?_ | refine .seq ?_) | (simp (disch := first | assumption | omega) only [w64, w8, tg_eq, n1, n2, nn, Int.tdiv_eq_ediv_of_nonneg, Sg.set_same, Sg.set_ne, Sg.set_ne', Sg.del_ne, Sg.del_ne']) | with_reducible refine (t115 β _ _ _ (Sg.set_same _ _ _) (.inr rfl)).use ?_); (try simp only [vO, vQ, ↓vP, vE, vS, vB, vL, vF, vM, vN, vbs_full, Nat.reduceEqDiff, Nat.reduceAdd, Nat.reduceLeDiff, ne_eq, not_false_eq_true, Nat.reduceMul, Nat.reduceSub, Int.toNat_zero, Int.reduceToNat, Tryd.underlying50, Tryd.underlying53, Tryd.underlying51, Tryd.underlying9, Tryd.underlying5, info51, info53, info5, bytesL_unit, vT])) | with_reducible refine vfresh_set ?_ | with_reducible refine vfresh_intro (fun _ _ => ?_) | with_reducible refine vif_intro (fun _ => ?_) (fun _ => ?_) | omega | ((with_reducible first | refine vop_at ?_ | refine vops_at ?_ | refine vquiet_at ?_ | refine vmix_at ?_ | refine Holds_at ?_); simp only [vO, vQ, ↓vP, vE, vS, vB, vL, vF, vM, vN, vbs_full, Nat.reduceEqDiff, Nat.reduceAdd, Nat.reduceLeDiff, ne_eq, not_false_eq_true, Nat.reduceMul, Nat.reduceSub, Int.toNat_zero, Int.reduceToNat, Tryd.underlying50, Tryd.underlying53, Tryd.underlying51, Tryd.underlying9, Tryd.underlying5, info51, info53, info5, bytesL_unit, vT]))
    all_goals first
      | rfl
      | exact .inr trivial
      | (rename_i x hx hnt hne
         refine ⟨(σ.set x (.tok (some 5))).set β (.cells 53 [.ref β 0, .sl (.tok x 1) (bytesL (acc ++ [c]))]), fun y o hy => ?_, h0, .inr ⟨x, hne, hx, rfl⟩⟩
         by_cases e1 : y = β <;> by_cases e2 : y = x <;> by_cases e3 : y = τ <;> simp_all [Sg.set, Sg.del])
set_option maxHeartbeats 1000000 in
set_option maxRecDepth 100000 in
theorem t102 (β : Nat) (acc : List UInt8) (σ S : Sg) (hb : Bld β acc σ S) : VCalls Tryd.prog 29 [.ref β 0] S (fun x σ' => x = .i acc.length ∧ σ' = S) := by
  obtain ⟨h0, ⟨rfl, rfl⟩ | ⟨τ, hτ, hτ0, rfl⟩⟩ := hb
  all_goals
    (refine vfun (fun _ => .no) mixed Tryd.func29 (by kernel_rfl) ?_; simp only [bodyOf, Tryd.f29, Option.getD_some])
    repeat' (first | with_reducible rfl | exact .inr trivial | with_reducible apply And.intro | with_reducible apply vqx_step | with_reducible apply vqm_step | with_reducible refine vkp_free (by decide +kernel) ?_ | with_reducible intro _ | ((first | (with_reducible first | refine .rs ?_ | refine .ds (by kernel_rfl) ?_ | refine .dg (by kernel_rfl) ?_ | refine .rg ?_ | refine .ite ?_ | refine .ret ?_ | refine .skip ?_ | refine .exit ?_ | refine .scope ?_ | refine .seq (.label ?_) | refine .block ?_ | refine .seq ?_) | (simp (disch := first | assumption | omega) only [w64, w8, tg_eq, n1, n2, nn, Int.tdiv_eq_ediv_of_nonneg, Sg.set_same, Sg.set_ne, Sg.set_ne', Sg.del_ne, Sg.del_ne'])); (try simp only [vO, vQ, ↓vP, vE, vS, vB, vL, vF, vM, vN, vbs_full, Nat.reduceEqDiff, Nat.reduceAdd, Nat.reduceLeDiff, ne_eq, not_false_eq_true, Nat.reduceMul, Nat.reduceSub, Int.toNat_zero, Int.reduceToNat, Tryd.underlying50, Tryd.underlying53, Tryd.underlying51, Tryd.underlying9, Tryd.underlying5, info51, info53, info5, vT])) | with_reducible refine vfresh_set ?_ | with_reducible refine vfresh_intro (fun _ _ => ?_) | with_reducible refine vif_intro (fun _ => ?_) (fun _ => ?_) | omega | ((with_reducible first | refine vop_at ?_ | refine vops_at ?_ | refine vquiet_at ?_ | refine vmix_at ?_ | refine Holds_at ?_); simp only [vO, vQ, ↓vP, vE, vS, vB, vL, vF, vM, vN, vbs_full, Nat.reduceEqDiff, Nat.reduceAdd, Nat.reduceLeDiff, ne_eq, not_false_eq_true, Nat.reduceMul, Nat.reduceSub, Int.toNat_zero, Int.reduceToNat, Tryd.underlying50, Tryd.underlying53, Tryd.underlying51, Tryd.underlying9, Tryd.underlying5, info51, info53, info5, vT]))
    all_goals exact ⟨_, .refl _, by simp⟩
set_option maxHeartbeats 1000000 in
set_option maxRecDepth 100000 in
theorem t103 (β : Nat) (acc : List UInt8) (σ S : Sg) (hb : Bld β acc σ S) (hl : acc.length < 2 ^ 40) : VCalls Tryd.prog 30 [.ref β 0] S (fun x σ' => x = .s (bs acc) ∧ σ' = S) := by
  obtain ⟨h0, ⟨rfl, rfl⟩ | ⟨τ, hτ, hτ0, rfl⟩⟩ := hb
  · (refine vfun (fun _ => .no) mixed Tryd.func30 (by kernel_rfl) ?_; simp only [bodyOf, Tryd.f30, Option.getD_some])
    repeat' (first | with_reducible rfl | exact .inr trivial | with_reducible apply And.intro | with_reducible apply vqx_step | with_reducible apply vqm_step | with_reducible refine vkp_free (by decide +kernel) ?_ | with_reducible intro _ | ((first | (with_reducible first | refine .rs ?_ | refine .ds (by kernel_rfl) ?_ | refine .dg (by kernel_rfl) ?_ | refine .rg ?_ | refine .ite ?_ | refine .ret ?_ | refine .skip ?_ | refine .exit ?_ | refine .scope ?_ | refine .seq (.label ?_) | refine .block ?_ | refine .seq ?_) | (simp (disch := first | assumption | omega) only [w64, w8, tg_eq, n1, n2, nn, Int.tdiv_eq_ediv_of_nonneg, Sg.set_same, Sg.set_ne, Sg.set_ne', Sg.del_ne, Sg.del_ne'])); (try simp only [vO, vQ, ↓vP, vE, vS, vB, vL, vF, vM, vN, vbs_full, Nat.reduceEqDiff, Nat.reduceAdd, Nat.reduceLeDiff, ne_eq, not_false_eq_true, Nat.reduceMul, Nat.reduceSub, Int.toNat_zero, Int.reduceToNat, Tryd.underlying50, Tryd.underlying53, Tryd.underlying51, Tryd.underlying9, Tryd.underlying5, Tryd.underlying70, info51, info53, info5, vT])) | with_reducible refine vfresh_set ?_ | with_reducible refine vfresh_intro (fun _ _ => ?_) | with_reducible refine vif_intro (fun _ => ?_) (fun _ => ?_) | omega | ((with_reducible first | refine vop_at ?_ | refine vops_at ?_ | refine vquiet_at ?_ | refine vmix_at ?_ | refine Holds_at ?_); simp only [vO, vQ, ↓vP, vE, vS, vB, vL, vF, vM, vN, vbs_full, Nat.reduceEqDiff, Nat.reduceAdd, Nat.reduceLeDiff, ne_eq, not_false_eq_true, Nat.reduceMul, Nat.reduceSub, Int.toNat_zero, Int.reduceToNat, Tryd.underlying50, Tryd.underlying53, Tryd.underlying51, Tryd.underlying9, Tryd.underlying5, Tryd.underlying70, info51, info53, info5, vT]))
    · exact ⟨bs [], ⟨rfl, rfl, by decide⟩, .inl trivial, rfl⟩
    · exact ⟨_, .refl _, rfl, rfl⟩
  · (refine vfun (fun _ => .no) mixed Tryd.func30 (by kernel_rfl) ?_; simp only [bodyOf, Tryd.f30, Option.getD_some])
    repeat' (first | with_reducible rfl | exact .inr trivial | with_reducible apply And.intro | with_reducible apply vqx_step | with_reducible apply vqm_step | with_reducible refine vkp_free (by decide +kernel) ?_ | with_reducible intro _ | ((first | (with_reducible first | refine .rs ?_ | refine .ds (by kernel_rfl) ?_ | refine .dg (by kernel_rfl) ?_ | refine .rg ?_ | refine .ite ?_ | refine .ret ?_ | refine .skip ?_ | refine .exit ?_ | refine .scope ?_ | refine .seq (.label ?_) | refine .block ?_ | refine .seq ?_) | (simp (disch := first | assumption | omega) only [w64, w8, tg_eq, n1, n2, nn, Int.tdiv_eq_ediv_of_nonneg, Sg.set_same, Sg.set_ne, Sg.set_ne', Sg.del_ne, Sg.del_ne'])); (try simp only [vO, vQ, ↓vP, vE, vS, vB, vL, vF, vM, vN, vbs_full, Nat.reduceEqDiff, Nat.reduceAdd, Nat.reduceLeDiff, ne_eq, not_false_eq_true, Nat.reduceMul, Nat.reduceSub, Int.toNat_zero, Int.reduceToNat, Tryd.underlying50, Tryd.underlying53, Tryd.underlying51, Tryd.underlying9, Tryd.underlying5, Tryd.underlying70, info51, info53, info5, vT])) | with_reducible refine vfresh_set ?_ | with_reducible refine vfresh_intro (fun _ _ => ?_) | with_reducible refine vif_intro (fun _ => ?_) (fun _ => ?_) | omega | ((with_reducible first | refine vop_at ?_ | refine vops_at ?_ | refine vquiet_at ?_ | refine vmix_at ?_ | refine Holds_at ?_); simp only [vO, vQ, ↓vP, vE, vS, vB, vL, vF, vM, vN, vbs_full, Nat.reduceEqDiff, Nat.reduceAdd, Nat.reduceLeDiff, ne_eq, not_false_eq_true, Nat.reduceMul, Nat.reduceSub, Int.toNat_zero, Int.reduceToNat, Tryd.underlying50, Tryd.underlying53, Tryd.underlying51, Tryd.underlying9, Tryd.underlying5, Tryd.underlying70, info51, info53, info5, vT]))
    · exact ⟨bs acc, ⟨(bs_bytesAV _).symm, by rw [bs_size], by rw [bs_size]; omega⟩, .inr trivial, rfl⟩
    · exact ⟨_, .refl _, rfl, rfl⟩
end Go.Proofs.YtpfancgcamclnaaDoor

set_option linter.unusedSimpArgs false
namespace Go.Lex
open Go.V Go.Proofs.YtpfancgcamclnaaDoor
/-- A byte that may not stand right behind a name, a word, a number. -/
def glue (r : List UInt8) (n : Nat) : Bool := decide (n < r.length) && (isSmall (r.getD n 0) || isGreat (r.getD n 0))
def isKnown (m : List UInt8) : Bool := decide (idx m words < words.length)
/-- A name (1), a word (2), a number (3) of n bytes. -/
def wordT (kd : Nat) (r : List UInt8) (n : Nat) : Except Nat (Nat × List UInt8 × Nat) :=
  if glue r n = true then .error 4 else
  if kd = 2 then (if isKnown (r.take n) = true then .ok (2, r.take n, 0) else .error 4) else
  if kd = 1 then (if 16 < n then .error 2 else .ok (1, r.take n, 0)) else
  match num (r.take n) 0 with
  | some v => .ok (3, [], v)
  | none => .error 7
abbrev tokA (k : Nat) (t : List UInt8) (v a : Nat) : AV := .agg [.i k, .s (bs t), .i v, .i a]
def NOut (o : Option Nat) (x : AV) : Prop := (∃ v : Nat, o = some v ∧ x = .tup [.i v, .i 0]) ∨ (o = none ∧ x = .tup [.i 0, .i 7])
theorem NOut_numR (o : Option Nat) : NOut o (numR o) := by
  cases o with
  | none => exact .inr ⟨rfl, rfl⟩
  | some v => exact .inl ⟨v, rfl, rfl⟩
def POut (o : Except Nat (Nat × List UInt8 × Nat)) (x : AV) : Prop :=
  (∃ k t v, o = .ok (k, t, v) ∧ x = .tup [tokA k t v 0, .i 0]) ∨ (∃ (e : Nat) (k : Nat) (t : List UInt8) (v : Nat), o = .error e ∧ e ≠ 0 ∧ x = .tup [tokA k t v 0, .i e])
theorem POut.ok {o : Except Nat (Nat × List UInt8 × Nat)} {kk vv : Int} {t : List UInt8} (k v : Nat) (h : o = .ok (k, t, v)) (h1 : kk = k) (h2 : vv = v) : POut o (.tup [.agg [.i kk, .s (bs t), .i vv, .i 0], .i 0]) := .inl ⟨k, t, v, h, by rw [h1, h2]; rfl⟩
theorem POut.err {o : Except Nat (Nat × List UInt8 × Nat)} {kk vv ee : Int} {t : List UInt8} (e k v : Nat) (h : o = .error e) (he : e ≠ 0) (h0 : ee = e) (h1 : kk = k) (h2 : vv = v) : POut o (.tup [.agg [.i kk, .s (bs t), .i vv, .i 0], .i ee]) := .inr ⟨e, k, t, v, h, he, by rw [h0, h1, h2]; rfl⟩
def QOut (o : Except Nat (Nat × List UInt8 × Nat × Nat)) (a : Nat) (x : AV) : Prop :=
  (∃ k t v n, o = .ok (k, t, v, n) ∧ x = .tup [tokA k t v a, .i (n : Nat), .i 0]) ∨ (∃ (e k : Nat) (t : List UInt8) (v n b : Nat), o = .error e ∧ e ≠ 0 ∧ x = .tup [tokA k t v b, .i n, .i e])
theorem QOut.ok {o : Except Nat (Nat × List UInt8 × Nat × Nat)} {kk vv nn aa : Int} {a : Nat} {t : List UInt8} (k v n : Nat) (h : o = .ok (k, t, v, n)) (h1 : kk = k) (h2 : vv = v) (h3 : nn = n) (h4 : aa = a) : QOut o a (.tup [.agg [.i kk, .s (bs t), .i vv, .i aa], .i nn, .i 0]) := .inl ⟨k, t, v, n, h, by rw [h1, h2, h3, h4]⟩
theorem QOut.err {o : Except Nat (Nat × List UInt8 × Nat × Nat)} {a : Nat} {kk vv nn bb ee : Int} {t : List UInt8} (e k v n b : Nat) (h : o = .error e) (he : e ≠ 0) (h0 : ee = e) (h1 : kk = k) (h2 : vv = v) (h3 : nn = n) (h4 : bb = b) : QOut o a (.tup [.agg [.i kk, .s (bs t), .i vv, .i bb], .i nn, .i ee]) := .inr ⟨e, k, t, v, n, b, h, he, by rw [h0, h1, h2, h3, h4]⟩
theorem pre_all {p : UInt8 → Bool} {r : List UInt8} {k : Nat} (h : k < (r.take (pre p r)).length) : p ((r.take (pre p r)).getD k 0) = true := by
  have hm : (r.take (pre p r)) = r.takeWhile p := by
    unfold pre
    exact List.prefix_iff_eq_take.1 (List.takeWhile_prefix p) |>.symm
  rw [hm] at h ⊢
  rw [getD_lt h]
  exact List.all_eq_true.1 (List.all_takeWhile) _ (List.getElem_mem h)
theorem digs {r : List UInt8} {n : Nat} (e : n = pre isDigit r) : ∀ k, k < (r.take n).length → 48 ≤ ((r.take n).getD k 0).toNat ∧ ((r.take n).getD k 0).toNat ≤ 57 := by
  intro k hk
  subst e
  have := pre_all hk
  simpa [isDigit] using this
theorem wordT_glue {kd : Nat} {r : List UInt8} {n : Nat} (h1 : n < r.length) (h : isSmall (r.getD n 0) = true ∨ isGreat (r.getD n 0) = true) : wordT kd r n = .error 4 := by
  unfold wordT glue
  rw [if_pos]
  rcases h with h | h <;> simp only [h, h1] <;> simp
theorem noglue1 {r : List UInt8} {n : Nat} (h1 : ¬ isSmall (r.getD n 0) = true) (h : ¬ isGreat (r.getD n 0) = true) : glue r n = false := by
  unfold glue
  simp only [Bool.not_eq_true] at h1 h
  rw [h1, h]; simp
theorem noglue2 {r : List UInt8} {n : Nat} (h1 : r.length ≤ n) : glue r n = false := by
  unfold glue
  simp; omega
theorem wordT_2 {r : List UInt8} {n : Nat} (hg : glue r n = false) : wordT 2 r n = if isKnown (r.take n) = true then .ok (2, r.take n, 0) else .error 4 := by
  unfold wordT; rw [hg, if_neg (by simp), if_pos rfl]
theorem wordT_1 {r : List UInt8} {n : Nat} (hg : glue r n = false) : wordT 1 r n = if 16 < n then .error 2 else .ok (1, r.take n, 0) := by
  unfold wordT; rw [hg, if_neg (by simp), if_neg (by simp), if_pos rfl]
theorem wordT_3 {r : List UInt8} {n v : Nat} (hg : glue r n = false) (hv : num (r.take n) 0 = some v) : wordT 3 r n = .ok (3, [], v) := by
  unfold wordT; rw [hg, if_neg (by simp), if_neg (by simp), if_neg (by simp), hv]
theorem wordT_3n {r : List UInt8} {n : Nat} (hg : glue r n = false) (hv : num (r.take n) 0 = none) : wordT 3 r n = .error 7 := by
  unfold wordT; rw [hg, if_neg (by simp), if_neg (by simp), if_neg (by simp), hv]
end Go.Lex
namespace Go.Proofs.YtpfancgcamclnaaDoor
open Go Go.V Go.Lex
theorem t106' (l : List UInt8) (σ : Sg) (hl : l.length < 2 ^ 60) (hd : ∀ k, k < l.length → 48 ≤ (l.getD k 0).toNat ∧ (l.getD k 0).toNat ≤ 57) : VCalls Tryd.prog 33 [.s (bs l)] σ (fun x σ' => σ' = σ ∧ NOut (num l 0) x) :=
  (t106 l σ hl hd).mono fun x σ' h => ⟨h.2, by rw [h.1]; exact NOut_numR _⟩
set_option maxHeartbeats 1000000 in
set_option maxRecDepth 100000 in
theorem t77 (r : List UInt8) (n kd : Nat) (σ : Sg) (hl : r.length < 2 ^ 60) (hn : n ≤ r.length) (h0 : 0 < r.length) (hk : (kd = 2 ∧ isGreat (r.getD 0 0) = true) ∨ (kd = 1 ∧ isGreat (r.getD 0 0) = false ∧ isFirst (r.getD 0 0) = true) ∨ (kd = 3 ∧ isGreat (r.getD 0 0) = false ∧ isFirst (r.getD 0 0) = false ∧ n = pre isDigit r)) :
    VCalls Tryd.prog 22 [.s (bs r), .i n] σ (fun x σ' => POut (wordT kd r n) x ∧ σ' = σ) := by
  rcases hk with ⟨rfl, hg⟩ | ⟨rfl, hg, hf⟩ | ⟨rfl, hg, hf, hd⟩
  · (refine vfun (fun _ => .no) mixed Tryd.func22 (by kernel_rfl) ?_; simp only [bodyOf, Tryd.f22, Option.getD_some])
    repeat' (first | with_reducible rfl | exact .inr trivial | with_reducible apply And.intro | with_reducible apply vqx_step | with_reducible apply vqm_step | with_reducible refine vkp_free (by decide +kernel) ?_ | with_reducible intro _ | ((first | (with_reducible first | refine .rs ?_ | refine .ds (by kernel_rfl) ?_ | refine .dg (by kernel_rfl) ?_ | refine .rg ?_ | refine .ite ?_ | refine .ret ?_ | refine .skip ?_ | refine .exit ?_ | refine .scope ?_ | refine .seq (.label ?_) | refine .block ?_ | refine .seq ?_) | (simp (disch := first | assumption | omega) only [w64, w8, tg_eq, n1, n2, nn, Int.tdiv_eq_ediv_of_nonneg, Sg.set_same, Sg.set_ne, Sg.set_ne', Sg.del_ne, Sg.del_ne']) | with_reducible refine (t73 _ _).use ?_ | with_reducible refine (t74 _ _).use ?_ | with_reducible refine (t105 _).use ?_ | with_reducible refine (t104 words _ _ _ (by decide)).use ?_); (try simp only [vO, vQ, ↓vP, vE, vS, vB, vL, vF, vM, vN, vbs_full, Nat.reduceEqDiff, Nat.reduceAdd, Nat.reduceLeDiff, ne_eq, not_false_eq_true, Nat.reduceMul, Nat.reduceSub, Int.toNat_zero, Int.reduceToNat, Tryd.underlying9, Tryd.underlying5, Tryd.underlying3, Tryd.underlying25, Tryd.underlying34, Tryd.underlying45, info9, info34, info3, info25, hg, vT])) | with_reducible refine vfresh_set ?_ | with_reducible refine vfresh_intro (fun _ _ => ?_) | with_reducible refine vif_intro (fun _ => ?_) (fun _ => ?_) | omega | ((with_reducible first | refine vop_at ?_ | refine vops_at ?_ | refine vquiet_at ?_ | refine vmix_at ?_ | refine Holds_at ?_); simp only [vO, vQ, ↓vP, vE, vS, vB, vL, vF, vM, vN, vbs_full, Nat.reduceEqDiff, Nat.reduceAdd, Nat.reduceLeDiff, ne_eq, not_false_eq_true, Nat.reduceMul, Nat.reduceSub, Int.toNat_zero, Int.reduceToNat, Tryd.underlying9, Tryd.underlying5, Tryd.underlying3, Tryd.underlying25, Tryd.underlying34, Tryd.underlying45, info9, info34, info3, info25, hg, vT]))
    all_goals first
      | exact ⟨σ, (by repeat (first | exact Sg.sub.refl _ | refine Sg.sub.set_both ?_ | refine Sg.sub.set_fresh ?_ (by first | assumption | exact Sg.set_none ‹_› ‹_›) | refine Sg.sub.del_fresh ?_ (by first | assumption | exact Sg.set_none ‹_› ‹_›))), .err 4 0 0 (wordT_glue (by omega) (.inr ‹_›)) (by decide) rfl rfl rfl, rfl⟩
      | exact ⟨σ, (by repeat (first | exact Sg.sub.refl _ | refine Sg.sub.set_both ?_ | refine Sg.sub.set_fresh ?_ (by first | assumption | exact Sg.set_none ‹_› ‹_›) | refine Sg.sub.del_fresh ?_ (by first | assumption | exact Sg.set_none ‹_› ‹_›))), .err 4 0 0 (wordT_glue (by omega) (.inl ‹_›)) (by decide) rfl rfl rfl, rfl⟩
      | (have hgl : glue r n = false := by first | exact noglue2 (by omega) | exact noglue1 ‹_› ‹_›
         first
           | exact ⟨σ, (by repeat (first | exact Sg.sub.refl _ | refine Sg.sub.set_both ?_ | refine Sg.sub.set_fresh ?_ (by first | assumption | exact Sg.set_none ‹_› ‹_›) | refine Sg.sub.del_fresh ?_ (by first | assumption | exact Sg.set_none ‹_› ‹_›))), .ok 2 0 (by rw [wordT_2 hgl, if_pos (by unfold isKnown; exact decide_eq_true ‹_›)]) rfl rfl, rfl⟩
           | exact ⟨σ, (by repeat (first | exact Sg.sub.refl _ | refine Sg.sub.set_both ?_ | refine Sg.sub.set_fresh ?_ (by first | assumption | exact Sg.set_none ‹_› ‹_›) | refine Sg.sub.del_fresh ?_ (by first | assumption | exact Sg.set_none ‹_› ‹_›))), .err 4 2 0 (by rw [wordT_2 hgl, if_neg (by unfold isKnown; rw [decide_eq_false ‹_›]; simp)]) (by decide) rfl rfl rfl, rfl⟩)
      | trace_state
  · (refine vfun (fun _ => .no) mixed Tryd.func22 (by kernel_rfl) ?_; simp only [bodyOf, Tryd.f22, Option.getD_some])
    repeat' (first | with_reducible rfl | exact .inr trivial | with_reducible apply And.intro | with_reducible apply vqx_step | with_reducible apply vqm_step | with_reducible refine vkp_free (by decide +kernel) ?_ | with_reducible intro _ | ((first | (with_reducible first | refine .rs ?_ | refine .ds (by kernel_rfl) ?_ | refine .dg (by kernel_rfl) ?_ | refine .rg ?_ | refine .ite ?_ | refine .ret ?_ | refine .skip ?_ | refine .exit ?_ | refine .scope ?_ | refine .seq (.label ?_) | refine .block ?_ | refine .seq ?_) | (simp (disch := first | assumption | omega) only [w64, w8, tg_eq, n1, n2, nn, Int.tdiv_eq_ediv_of_nonneg, Sg.set_same, Sg.set_ne, Sg.set_ne', Sg.del_ne, Sg.del_ne']) | with_reducible refine (t73 _ _).use ?_ | with_reducible refine (t74 _ _).use ?_ | with_reducible refine (t72 _ _).use ?_); (try simp only [vO, vQ, ↓vP, vE, vS, vB, vL, vF, vM, vN, vbs_full, Nat.reduceEqDiff, Nat.reduceAdd, Nat.reduceLeDiff, ne_eq, not_false_eq_true, Nat.reduceMul, Nat.reduceSub, Int.toNat_zero, Int.reduceToNat, Tryd.underlying9, Tryd.underlying5, Tryd.underlying3, Tryd.underlying25, Tryd.underlying34, Tryd.underlying45, info9, info34, info3, info25, hg, hf, vT])) | with_reducible refine vfresh_set ?_ | with_reducible refine vfresh_intro (fun _ _ => ?_) | with_reducible refine vif_intro (fun _ => ?_) (fun _ => ?_) | omega | ((with_reducible first | refine vop_at ?_ | refine vops_at ?_ | refine vquiet_at ?_ | refine vmix_at ?_ | refine Holds_at ?_); simp only [vO, vQ, ↓vP, vE, vS, vB, vL, vF, vM, vN, vbs_full, Nat.reduceEqDiff, Nat.reduceAdd, Nat.reduceLeDiff, ne_eq, not_false_eq_true, Nat.reduceMul, Nat.reduceSub, Int.toNat_zero, Int.reduceToNat, Tryd.underlying9, Tryd.underlying5, Tryd.underlying3, Tryd.underlying25, Tryd.underlying34, Tryd.underlying45, info9, info34, info3, info25, hg, hf, vT]))
    all_goals first
      | exact ⟨σ, (by repeat (first | exact Sg.sub.refl _ | refine Sg.sub.set_both ?_ | refine Sg.sub.set_fresh ?_ (by first | assumption | exact Sg.set_none ‹_› ‹_›) | refine Sg.sub.del_fresh ?_ (by first | assumption | exact Sg.set_none ‹_› ‹_›))), .err 4 0 0 (wordT_glue (by omega) (.inr ‹_›)) (by decide) rfl rfl rfl, rfl⟩
      | exact ⟨σ, (by repeat (first | exact Sg.sub.refl _ | refine Sg.sub.set_both ?_ | refine Sg.sub.set_fresh ?_ (by first | assumption | exact Sg.set_none ‹_› ‹_›) | refine Sg.sub.del_fresh ?_ (by first | assumption | exact Sg.set_none ‹_› ‹_›))), .err 4 0 0 (wordT_glue (by omega) (.inl ‹_›)) (by decide) rfl rfl rfl, rfl⟩
      | (have hgl : glue r n = false := by first | exact noglue2 (by omega) | exact noglue1 ‹_› ‹_›
         first
           | exact ⟨σ, (by repeat (first | exact Sg.sub.refl _ | refine Sg.sub.set_both ?_ | refine Sg.sub.set_fresh ?_ (by first | assumption | exact Sg.set_none ‹_› ‹_›) | refine Sg.sub.del_fresh ?_ (by first | assumption | exact Sg.set_none ‹_› ‹_›))), .ok 1 0 (by rw [wordT_1 hgl, if_neg (by omega)]) rfl rfl, rfl⟩
           | exact ⟨σ, (by repeat (first | exact Sg.sub.refl _ | refine Sg.sub.set_both ?_ | refine Sg.sub.set_fresh ?_ (by first | assumption | exact Sg.set_none ‹_› ‹_›) | refine Sg.sub.del_fresh ?_ (by first | assumption | exact Sg.set_none ‹_› ‹_›))), .err 2 1 0 (by rw [wordT_1 hgl, if_pos (by omega)]) (by decide) rfl rfl rfl, rfl⟩)
      | trace_state
  · (refine vfun (fun _ => .no) mixed Tryd.func22 (by kernel_rfl) ?_; simp only [bodyOf, Tryd.f22, Option.getD_some])
    repeat' (first | with_reducible rfl | exact .inr trivial | with_reducible apply And.intro | with_reducible apply vqx_step | with_reducible apply vqm_step | with_reducible refine vkp_free (by decide +kernel) ?_ | with_reducible intro _ | ((first | (with_reducible first | refine .rs ?_ | refine .ds (by kernel_rfl) ?_ | refine .dg (by kernel_rfl) ?_ | refine .rg ?_ | refine .ite ?_ | refine .ret ?_ | refine .skip ?_ | refine .exit ?_ | refine .scope ?_ | refine .seq (.label ?_) | refine .block ?_ | refine .seq ?_) | (simp (disch := first | assumption | omega) only [w64, w8, tg_eq, n1, n2, nn, Int.tdiv_eq_ediv_of_nonneg, Sg.set_same, Sg.set_ne, Sg.set_ne', Sg.del_ne, Sg.del_ne']) | with_reducible refine (t73 _ _).use ?_ | with_reducible refine (t74 _ _).use ?_ | with_reducible refine (t72 _ _).use ?_ | ((with_reducible refine (t106' _ _ (by simp; omega) (digs hd)).mono ?_); rintro x σ' ⟨rfl, ⟨v, hv, rfl⟩ | ⟨hv, rfl⟩⟩)); (try simp only [vO, vQ, ↓vP, vE, vS, vB, vL, vF, vM, vN, vbs_full, Nat.reduceEqDiff, Nat.reduceAdd, Nat.reduceLeDiff, ne_eq, not_false_eq_true, Nat.reduceMul, Nat.reduceSub, Int.toNat_zero, Int.reduceToNat, Tryd.underlying9, Tryd.underlying5, Tryd.underlying3, Tryd.underlying25, Tryd.underlying34, Tryd.underlying45, info9, info34, info3, info25, hg, hf, vT])) | with_reducible refine vfresh_set ?_ | with_reducible refine vfresh_intro (fun _ _ => ?_) | with_reducible refine vif_intro (fun _ => ?_) (fun _ => ?_) | omega | ((with_reducible first | refine vop_at ?_ | refine vops_at ?_ | refine vquiet_at ?_ | refine vmix_at ?_ | refine Holds_at ?_); simp only [vO, vQ, ↓vP, vE, vS, vB, vL, vF, vM, vN, vbs_full, Nat.reduceEqDiff, Nat.reduceAdd, Nat.reduceLeDiff, ne_eq, not_false_eq_true, Nat.reduceMul, Nat.reduceSub, Int.toNat_zero, Int.reduceToNat, Tryd.underlying9, Tryd.underlying5, Tryd.underlying3, Tryd.underlying25, Tryd.underlying34, Tryd.underlying45, info9, info34, info3, info25, hg, hf, vT]))
    all_goals first
      | exact ⟨σ, (by repeat (first | exact Sg.sub.refl _ | refine Sg.sub.set_both ?_ | refine Sg.sub.set_fresh ?_ (by first | assumption | exact Sg.set_none ‹_› ‹_›) | refine Sg.sub.del_fresh ?_ (by first | assumption | exact Sg.set_none ‹_› ‹_›))), .err 4 0 0 (wordT_glue (by omega) (.inr ‹_›)) (by decide) rfl rfl rfl, rfl⟩
      | exact ⟨σ, (by repeat (first | exact Sg.sub.refl _ | refine Sg.sub.set_both ?_ | refine Sg.sub.set_fresh ?_ (by first | assumption | exact Sg.set_none ‹_› ‹_›) | refine Sg.sub.del_fresh ?_ (by first | assumption | exact Sg.set_none ‹_› ‹_›))), .err 4 0 0 (wordT_glue (by omega) (.inl ‹_›)) (by decide) rfl rfl rfl, rfl⟩
      | (have hgl : glue r n = false := by first | exact noglue2 (by omega) | exact noglue1 ‹_› ‹_›
         first
           | exact ⟨σ, (by repeat (first | exact Sg.sub.refl _ | refine Sg.sub.set_both ?_ | refine Sg.sub.set_fresh ?_ (by first | assumption | exact Sg.set_none ‹_› ‹_›) | refine Sg.sub.del_fresh ?_ (by first | assumption | exact Sg.set_none ‹_› ‹_›))), .ok 3 _ (wordT_3 hgl hv) rfl rfl, rfl⟩
           | exact ⟨σ, (by repeat (first | exact Sg.sub.refl _ | refine Sg.sub.set_both ?_ | refine Sg.sub.set_fresh ?_ (by first | assumption | exact Sg.set_none ‹_› ‹_›) | refine Sg.sub.del_fresh ?_ (by first | assumption | exact Sg.set_none ‹_› ‹_›))), .err 7 3 0 (wordT_3n hgl hv) (by decide) rfl rfl rfl, rfl⟩)
      | trace_state
end Go.Proofs.YtpfancgcamclnaaDoor

set_option linter.unusedSimpArgs false
namespace Go.Lex
open Go.V Go.Proofs.YtpfancgcamclnaaDoor
/-- What stands behind an opening quote: the text, and how many bytes with the closing quote. -/
def qd : List UInt8 → Option (List UInt8 × Nat)
  | [] => none
  | [c] => if c = 39 then some ([], 1) else none
  | c :: d :: r => if c = 39 then (if d = 39 then (qd r).map (fun p => (39 :: p.1, 2 + p.2)) else some ([], 1)) else (qd (d :: r)).map (fun p => (c :: p.1, 1 + p.2))
def qa (acc : List UInt8) (m : Nat) (o : Option (List UInt8 × Nat)) : Option (List UInt8 × Nat) := o.map (fun p => (acc ++ p.1, m + p.2))
theorem qa_qa (a b : List UInt8) (m n : Nat) (o : Option (List UInt8 × Nat)) : qa a m (qa b n o) = qa (a ++ b) (m + n) o := by
  cases o with
  | none => rfl
  | some p => simp [qa, Nat.add_assoc]
theorem qa_zero (o : Option (List UInt8 × Nat)) : qa [] 0 o = o := by
  cases o with
  | none => rfl
  | some p => simp [qa]
theorem qa_none (a : List UInt8) (m : Nat) : qa a m none = none := rfl
theorem qd_other {c : UInt8} {r : List UInt8} (h : c ≠ 39) : qd (c :: r) = qa [c] 1 (qd r) := by
  cases r with
  | nil => simp [qd, h, qa]
  | cons d r => simp [qd, h, qa]
theorem qd_two (r : List UInt8) : qd (39 :: 39 :: r) = qa [39] 2 (qd r) := by simp [qd, qa]
theorem qd_close {r : List UInt8} (h : ∀ d r', r = d :: r' → d ≠ 39) : qd (39 :: r) = some ([], 1) := by
  cases r with
  | nil => rfl
  | cons d r => simp [qd, h d r rfl]
theorem qd_upTo (m : List UInt8) : qd m = qa (m.take (upTo 39 m)) (upTo 39 m) (qd (m.drop (upTo 39 m))) := by
  induction m with
  | nil => rfl
  | cons c r ih =>
    by_cases h : c = 39
    · subst h
      have : upTo 39 (39 :: r) = 0 := by simp [upTo]
      rw [this]; simp [qa_zero]
    · have : upTo 39 (c :: r) = upTo 39 r + 1 := by simp [upTo, h]
      rw [this, qd_other h, List.take_succ_cons, List.drop_succ_cons]
      conv => lhs; rw [ih]
      rw [qa_qa, Nat.add_comm 1]
      rfl
theorem upTo_le (c : UInt8) (m : List UInt8) : upTo c m ≤ m.length := (List.takeWhile_prefix _).length_le
theorem upTo_at (c : UInt8) (m : List UInt8) (h : upTo c m < m.length) : m.getD (upTo c m) 0 = c := by
  induction m with
  | nil => simp at h
  | cons d r ih =>
    by_cases e : d = c
    · subst e
      have : upTo d (d :: r) = 0 := by simp [upTo]
      rw [this]; rfl
    · have h1 : upTo c (d :: r) = upTo c r + 1 := by simp [upTo, e]
      rw [h1] at h ⊢
      have := ih (by simpa using h)
      simpa using this
theorem eq39 (c : UInt8) : c = 39 ↔ c.toNat = 39 := ⟨fun h => by rw [h]; rfl, fun h => UInt8.toNat_inj.1 h⟩
theorem qd_at {l : List UInt8} {k : Nat} (h : k < l.length) (hc : (l.getD k 0).toNat ≠ 39) : qd (l.drop k) = qa [l.getD k 0] 1 (qd (l.drop (k + 1))) := by
  rw [List.drop_eq_getElem_cons h, ← getD_lt h]
  exact qd_other (fun e => hc ((eq39 _).1 e))
theorem qd_at2 {l : List UInt8} {k : Nat} (h : k + 1 < l.length) (hc : (l.getD k 0).toNat = 39) (hd : (l.getD (k + 1) 0).toNat = 39) : qd (l.drop k) = qa [39] 2 (qd (l.drop (k + 2))) := by
  rw [List.drop_eq_getElem_cons (by omega), ← getD_lt (by omega), List.drop_eq_getElem_cons h, ← getD_lt h, (eq39 _).2 hc, (eq39 _).2 hd]
  exact qd_two _
theorem qd_at1 {l : List UInt8} {k : Nat} (h : k < l.length) (hc : (l.getD k 0).toNat = 39) (hd : k + 1 < l.length → (l.getD (k + 1) 0).toNat ≠ 39) : qd (l.drop k) = some ([], 1) := by
  rw [List.drop_eq_getElem_cons h, ← getD_lt h, (eq39 _).2 hc]
  refine qd_close (fun d r' e => ?_)
  have hlt : k + 1 < l.length := by
    have := congrArg List.length e
    simp at this
    omega
  rw [List.drop_eq_getElem_cons hlt, ← getD_lt hlt] at e
  injection e with e1 e2
  subst e1
  exact fun e => hd hlt ((eq39 _).1 e)
theorem qd_end {l : List UInt8} {k : Nat} (h : l.length ≤ k) : qd (l.drop k) = none := by rw [List.drop_of_length_le h]; rfl
/-- A text in quotes. -/
def quotedT (r : List UInt8) : Except Nat (Nat × List UInt8 × Nat × Nat) :=
  match qd (r.drop 1) with
  | none => .error 3
  | some (t, n) => if 40 < t.length then .error 2 else .ok (4, t, 0, 1 + n)
theorem quotedT_none {r : List UInt8} (h : qd (r.drop 1) = none) : quotedT r = .error 3 := by unfold quotedT; rw [h]
theorem quotedT_long {r t : List UInt8} {n : Nat} (h : qd (r.drop 1) = some (t, n)) (h' : 40 < t.length) : quotedT r = .error 2 := by unfold quotedT; rw [h]; exact if_pos h'
theorem quotedT_ok {r t : List UInt8} {n : Nat} (h : qd (r.drop 1) = some (t, n)) (h' : ¬ 40 < t.length) : quotedT r = .ok (4, t, 0, 1 + n) := by unfold quotedT; rw [h]; exact if_neg h'
theorem bytes_snoc (l : List UInt8) (b : UInt8) : bytesL l ++ [[AV.u8 b.toNat]] = bytesL (l ++ [b]) := by simp [bytesL]
theorem pre39 {l : List UInt8} {k : Nat} : hasPre [39] (l.drop k) = true ↔ k < l.length ∧ (l.getD k 0).toNat = 39 := by
  by_cases h : k < l.length
  · rw [List.drop_eq_getElem_cons h, ← getD_lt h]
    have h1 : ∀ (c : UInt8) (m : List UInt8), (List.take 1 (c :: m) = [39]) ↔ c.toNat = 39 := fun c m => by simp [eq39]
    simp only [hasPre, List.length_cons, List.length_nil, Nat.zero_add, decide_eq_true_eq, h1, h, true_and]
  · rw [List.drop_of_length_le (by omega)]
    simp [hasPre]; omega
end Go.Lex
namespace Go.Proofs.YtpfancgcamclnaaDoor
open Go Go.V Go.Lex
theorem Bld.get {β : Nat} {acc : List UInt8} {σ S : Sg} (hb : Bld β acc σ S) {x : Nat} {o : Ob} (h : σ x = some o) : S x = some o := by
  obtain ⟨h0, ⟨rfl, rfl⟩ | ⟨τ, hτ, hτ0, rfl⟩⟩ := hb
  all_goals
    have e1 : x ≠ β := fun e => by rw [e, h0] at h; cases h
    simp only [Sg.set, if_neg e1]
  · exact h
  · rw [if_neg (fun e => by rw [e, hτ0] at h; cases h)]; exact h
theorem Bld.sub {β : Nat} {acc : List UInt8} {σ S : Sg} (hb : Bld β acc σ S) : σ.sub S := fun _ _ h => hb.get h
theorem Bld.sub' {β x : Nat} {acc : List UInt8} {σ S : Sg} {o : Ob} (hb : Bld β acc (σ.set x o) S) (hx : σ x = none) : σ.sub S := fun _ _ h => hb.sub _ _ (Sg.sub_set hx o _ _ h)
theorem t101q (β : Nat) (acc : List UInt8) (σ S : Sg) (hb : Bld β acc σ S) (hl : acc.length < 2 ^ 40) : VCalls Tryd.prog 28 [.ref β 0, .u8 39] S (fun x σ' => x = .val .nilIface ∧ Bld β (acc ++ [39]) σ σ') := t101 β acc 39 σ S hb hl
theorem t99q (l : List UInt8) (σ : Sg) : VCalls Tryd.prog 26 [.s (bs l), .u8 39] σ (fun x σ' => x = .i (if upTo 39 l < l.length then (upTo 39 l : Nat) else -1) ∧ σ' = σ) := t99 l 39 σ
set_option maxHeartbeats 1000000 in
set_option maxRecDepth 100000 in
theorem t71 (r : List UInt8) (σ : Sg) (hl : r.length < 2 ^ 30) (h0 : 0 < r.length) : VCalls Tryd.prog 16 [.s (bs r)] σ (fun x σ' => QOut (quotedT r) 0 x ∧ σ' = σ) := by
  (refine vfun (fun _ => .no) mixed Tryd.func16 (by kernel_rfl) ?_; simp only [bodyOf, Tryd.f16, Option.getD_some])
  repeat' (first | with_reducible rfl | exact .inr trivial | with_reducible apply And.intro | with_reducible apply vqx_step | with_reducible apply vqm_step | with_reducible refine vkp_free (by decide +kernel) ?_ | with_reducible intro _ | ((first | (with_reducible first | refine .rs ?_ | refine .ds (by kernel_rfl) ?_ | refine .dg (by kernel_rfl) ?_ | refine .rg ?_ | refine .ite ?_ | refine .ret ?_ | refine .skip ?_ | refine .exit ?_ | refine .scope ?_ | refine .seq (.label ?_) | refine .block ?_ | refine .seq ?_) | (simp (disch := first | assumption | omega) only [w64, w8, tg_eq, n1, n2, nn, Int.tdiv_eq_ediv_of_nonneg, Sg.set_same, Sg.set_ne, Sg.set_ne', Sg.del_ne, Sg.del_ne'])); (try simp only [vO, vQ, ↓vP, vE, vS, vB, vL, vF, vM, vN, vbs_full, Nat.reduceEqDiff, Nat.reduceAdd, Nat.reduceLeDiff, ne_eq, not_false_eq_true, Nat.reduceMul, Nat.reduceSub, Int.toNat_zero, Int.reduceToNat, Tryd.underlying9, Tryd.underlying5, Tryd.underlying3, Tryd.underlying25, Tryd.underlying34, info9, info34, info3, info25, info53, Tryd.underlying53, vT])) | with_reducible refine vfresh_set ?_ | with_reducible refine vfresh_intro (fun _ _ => ?_) | with_reducible refine vif_intro (fun _ => ?_) (fun _ => ?_) | omega | ((with_reducible first | refine vop_at ?_ | refine vops_at ?_ | refine vquiet_at ?_ | refine vmix_at ?_ | refine Holds_at ?_); simp only [vO, vQ, ↓vP, vE, vS, vB, vL, vF, vM, vN, vbs_full, Nat.reduceEqDiff, Nat.reduceAdd, Nat.reduceLeDiff, ne_eq, not_false_eq_true, Nat.reduceMul, Nat.reduceSub, Int.toNat_zero, Int.reduceToNat, Tryd.underlying9, Tryd.underlying5, Tryd.underlying3, Tryd.underlying25, Tryd.underlying34, info9, info34, info3, info25, info53, Tryd.underlying53, vT]))
  rename_i x hx b hb hne
  refine VW.loop3 (1 : Nat) ([] : List UInt8) _ (fun k acc S => 1 ≤ k ∧ k ≤ r.length ∧ acc.length ≤ k ∧ qd (r.drop 1) = qa acc (k - 1) (qd (r.drop k)) ∧ Bld b acc (σ.set x (.cells 34 [.i 0, .s (bs []), .i 0, .i 0])) S) (fun k _ S => [(0, .s (bs r)), (2, .ref x 0), (5, .ref b 0), (6, .i k)]) (fun _ _ S => S) (fun k _ _ => r.length - k) ⟨by omega, by omega, by simp, by rw [qa_zero], ⟨by rw [Sg.set_other _ _ hne]; exact hb, .inl ⟨rfl, rfl⟩⟩⟩ (.refl _) ?_ (fun k acc S ⟨h1, h2, h3, h4, hB⟩ => have hS : S x = some (.cells 34 [.i 0, .s (bs []), .i 0, .i 0]) := hB.get (Sg.set_same _ _ _); ?_)
  · simp only [vO, vQ, ↓vP, vE, vS, vB, vL, vF, vM, vN, vbs_full, Nat.reduceEqDiff, Nat.reduceAdd, Nat.reduceLeDiff, ne_eq, not_false_eq_true, Nat.reduceMul, Nat.reduceSub, Int.toNat_zero, Int.reduceToNat, vT]
    trivial
  have hu := qd_upTo (r.drop k)
  have hul := upTo_le 39 (r.drop k)
  have hua := upTo_at 39 (r.drop k)
  have ht : VCalls Tryd.prog 26 [.s (bs (r.drop k)), .u8 39] S (fun x σ' => x = .i (if upTo 39 (r.drop k) < r.length - k then (upTo 39 (r.drop k) : Nat) else -1) ∧ σ' = S) := by
    have := t99q (r.drop k) S
    rw [List.length_drop] at this
    exact this
  simp only [List.length_drop, List.drop_drop, List.getD_eq_getElem?_getD, List.getElem?_drop] at hu hul hua
  rw [hu, qa_qa] at h4
  generalize upTo 39 (r.drop k) = m at *
  have tp : ∀ (l : List UInt8), VCalls Tryd.prog 13 [.s (bs l), .s (bs [39])] S (fun x σ' => x = .b (hasPre [39] l) ∧ σ' = S) := fun l => t68 l [39] S
  rcases Nat.lt_or_ge m (r.length - k) with hm | hm
  · simp only [if_pos hm] at ht
    have hc : ∀ m', (r.drop k).take m = (r.take (k + m)).drop k ∧ (m' = k + (m + 1) → k + m + 1 = m') := fun m' => ⟨by rw [List.drop_take]; congr 1; omega, by omega⟩
    have hat : (r.getD (k + m) 0).toNat = 39 := by rw [List.getD_eq_getElem?_getD, hua hm]; rfl
    have hlen : (acc ++ (r.take (k + m)).drop k).length ≤ k + m := by simp; omega
    rw [(hc 0).1] at h4
    clear hc hu
    repeat' (first | with_reducible rfl | exact .inr trivial | with_reducible apply And.intro | with_reducible apply vqx_step | with_reducible apply vqm_step | with_reducible refine vkp_free (by decide +kernel) ?_ | with_reducible intro _ | ((first | (with_reducible first | refine .rs ?_ | refine .ds (by kernel_rfl) ?_ | refine .dg (by kernel_rfl) ?_ | refine .rg ?_ | refine .ite ?_ | refine .ret ?_ | refine .skip ?_ | refine .exit ?_ | refine .scope ?_ | refine .seq (.label ?_) | refine .block ?_ | refine .seq ?_) | (simp (disch := first | assumption | omega) only [w64, w8, tg_eq, n1, n2, nn, Int.tdiv_eq_ediv_of_nonneg, Sg.set_same, Sg.set_ne, Sg.set_ne', Sg.del_ne, Sg.del_ne']) | with_reducible refine ht.use ?_ | with_reducible refine (t68 _ _ _).use ?_ | with_reducible refine (t102 _ _ _ _ hB).use ?_ | with_reducible refine (t103 _ _ _ _ hB (by first | assumption | omega)).use ?_ | ((with_reducible refine (t100 _ _ _ _ _ hB (by simp; omega)).mono ?_); rintro y S' ⟨rfl, hB⟩; have hS := hB.get (Sg.set_same _ _ _)) | ((with_reducible refine (t101q _ _ _ _ hB (by omega)).mono ?_); rintro y S' ⟨rfl, hB⟩; have hS := hB.get (Sg.set_same _ _ _))); (try simp only [vO, vQ, ↓vP, vE, vS, vB, vL, vF, vM, vN, vbs_full, Nat.reduceEqDiff, Nat.reduceAdd, Nat.reduceLeDiff, ne_eq, not_false_eq_true, Nat.reduceMul, Nat.reduceSub, Int.toNat_zero, Int.reduceToNat, Tryd.underlying9, Tryd.underlying5, Tryd.underlying3, Tryd.underlying25, Tryd.underlying34, info9, info34, info3, info25, info53, Tryd.underlying53, hS, nadd, nadd1, nadd2, nadd3, n1add, n2add, vT])) | with_reducible refine vfresh_set ?_ | with_reducible refine vfresh_intro (fun _ _ => ?_) | with_reducible refine vif_intro (fun _ => ?_) (fun _ => ?_) | omega | ((with_reducible first | refine vop_at ?_ | refine vops_at ?_ | refine vquiet_at ?_ | refine vmix_at ?_ | refine Holds_at ?_); simp only [vO, vQ, ↓vP, vE, vS, vB, vL, vF, vM, vN, vbs_full, Nat.reduceEqDiff, Nat.reduceAdd, Nat.reduceLeDiff, ne_eq, not_false_eq_true, Nat.reduceMul, Nat.reduceSub, Int.toNat_zero, Int.reduceToNat, Tryd.underlying9, Tryd.underlying5, Tryd.underlying3, Tryd.underlying25, Tryd.underlying34, info9, info34, info3, info25, info53, Tryd.underlying53, hS, nadd, nadd1, nadd2, nadd3, n1add, n2add, vT]))
    all_goals first
      | (have hp := pre39.1 ‹_›
         have h5 := qd_at2 (l := r) (k := k + m) (by omega) hat (by rw [show k + m + 1 = k + (m + 1) from rfl]; exact hp.2)
         rw [h5, qa_qa] at h4
         exact ⟨k + (m + 1) + 1, _, S', ⟨⟨by omega, by omega, by simp at hlen ⊢; omega, by rw [h4, show k - 1 + m + 2 = k + (m + 1) + 1 - 1 by omega, show k + m + 2 = k + (m + 1) + 1 by omega], hB⟩, by omega⟩, .refl _, rfl⟩)
      | (have h5 := qd_at1 (l := r) (k := k + m) (by omega) hat (fun h6 h7 => absurd (pre39.2 ⟨h6, h7⟩) (by assumption))
         rw [h5] at h4
         have h6 : qd (r.drop 1) = some (acc ++ (r.take (k + m)).drop k, k - 1 + m + 1) := by rw [h4]; simp [qa]
         first
           | exact ⟨σ, (by repeat (first | exact Sg.sub.refl _ | exact hB.sub' hx | refine Sg.sub.set_both ?_ | refine Sg.sub.set_fresh ?_ (by first | assumption | exact Sg.set_none ‹_› ‹_›) | refine Sg.sub.del_fresh ?_ (by first | assumption | exact Sg.set_none ‹_› ‹_›))), .err 2 0 0 0 0 (quotedT_long h6 (by omega)) (by decide) rfl rfl rfl rfl rfl, rfl⟩
           | exact ⟨σ, (by repeat (first | exact Sg.sub.refl _ | exact hB.sub' hx | refine Sg.sub.set_both ?_ | refine Sg.sub.set_fresh ?_ (by first | assumption | exact Sg.set_none ‹_› ‹_›) | refine Sg.sub.del_fresh ?_ (by first | assumption | exact Sg.set_none ‹_› ‹_›))), .ok 4 0 _ (quotedT_ok h6 (by omega)) rfl rfl (by omega) rfl, rfl⟩)
      | trace_state
  · simp only [if_neg (Nat.not_lt.2 hm)] at ht
    repeat' (first | with_reducible rfl | exact .inr trivial | with_reducible apply And.intro | with_reducible apply vqx_step | with_reducible apply vqm_step | with_reducible refine vkp_free (by decide +kernel) ?_ | with_reducible intro _ | ((first | (with_reducible first | refine .rs ?_ | refine .ds (by kernel_rfl) ?_ | refine .dg (by kernel_rfl) ?_ | refine .rg ?_ | refine .ite ?_ | refine .ret ?_ | refine .skip ?_ | refine .exit ?_ | refine .scope ?_ | refine .seq (.label ?_) | refine .block ?_ | refine .seq ?_) | (simp (disch := first | assumption | omega) only [w64, w8, tg_eq, n1, n2, nn, Int.tdiv_eq_ediv_of_nonneg, Sg.set_same, Sg.set_ne, Sg.set_ne', Sg.del_ne, Sg.del_ne']) | with_reducible refine ht.use ?_); (try simp only [vO, vQ, ↓vP, vE, vS, vB, vL, vF, vM, vN, vbs_full, Nat.reduceEqDiff, Nat.reduceAdd, Nat.reduceLeDiff, ne_eq, not_false_eq_true, Nat.reduceMul, Nat.reduceSub, Int.toNat_zero, Int.reduceToNat, Tryd.underlying9, Tryd.underlying5, Tryd.underlying3, Tryd.underlying25, Tryd.underlying34, info9, info34, info3, info25, info53, Tryd.underlying53, hS, vT])) | with_reducible refine vfresh_set ?_ | with_reducible refine vfresh_intro (fun _ _ => ?_) | with_reducible refine vif_intro (fun _ => ?_) (fun _ => ?_) | omega | ((with_reducible first | refine vop_at ?_ | refine vops_at ?_ | refine vquiet_at ?_ | refine vmix_at ?_ | refine Holds_at ?_); simp only [vO, vQ, ↓vP, vE, vS, vB, vL, vF, vM, vN, vbs_full, Nat.reduceEqDiff, Nat.reduceAdd, Nat.reduceLeDiff, ne_eq, not_false_eq_true, Nat.reduceMul, Nat.reduceSub, Int.toNat_zero, Int.reduceToNat, Tryd.underlying9, Tryd.underlying5, Tryd.underlying3, Tryd.underlying25, Tryd.underlying34, info9, info34, info3, info25, info53, Tryd.underlying53, hS, vT]))
    have h5 := qd_end (l := r) (k := k + m) (by omega)
    rw [h5, qa_none] at h4
    all_goals exact ⟨σ, (by repeat (first | exact Sg.sub.refl _ | exact hB.sub' hx | refine Sg.sub.set_both ?_ | refine Sg.sub.set_fresh ?_ (by first | assumption | exact Sg.set_none ‹_› ‹_›) | refine Sg.sub.del_fresh ?_ (by first | assumption | exact Sg.set_none ‹_› ‹_›))), .err 3 0 0 0 0 (quotedT_none h4) (by decide) rfl rfl rfl rfl rfl, rfl⟩
end Go.Proofs.YtpfancgcamclnaaDoor

set_option linter.unusedSimpArgs false
namespace Go.V
theorem Sg.sub_redo {σ : Sg} {τ τ' : Nat} {o o' : Ob} (h : σ τ = none) : (σ.set τ' o').sub (((σ.set τ o).del τ).set τ' o') := by
  rw [Sg.del_set h]; exact .refl _
theorem bytesL_39 : [[AV.u8 39]] = bytesL [39] := rfl
theorem qa_eq {a a' : List UInt8} {m m' : Nat} {o o' : Option (List UInt8 × Nat)} (h1 : a = a') (h2 : m = m') (h3 : o = o') : Go.Lex.qa a m o = Go.Lex.qa a' m' o' := by rw [h1, h2, h3]
theorem nsub1 {i : Nat} (h : 1 ≤ i) : (i : Int) - 1 = ((i - 1 : Nat) : Int) := by omega
end Go.V
namespace Go.Proofs.YtpfancgcamclnaaDoor
open Go Go.V Go.Lex
end Go.Proofs.YtpfancgcamclnaaDoor

set_option linter.unusedSimpArgs false
namespace Go.Lex
open Go.V Go.Proofs.YtpfancgcamclnaaDoor
def wl (kd : Nat) (r : List UInt8) (n : Nat) : Except Nat (Nat × List UInt8 × Nat × Nat) :=
  match wordT kd r n with
  | .ok (k, t, v) => .ok (k, t, v, n)
  | .error e => .error e
theorem wl_ok {kd : Nat} {r : List UInt8} {n k v : Nat} {t : List UInt8} (h : wordT kd r n = .ok (k, t, v)) : wl kd r n = .ok (k, t, v, n) := by unfold wl; rw [h]
theorem wl_err {kd : Nat} {r : List UInt8} {n e : Nat} (h : wordT kd r n = .error e) : wl kd r n = .error e := by unfold wl; rw [h]
/-- The token that a text begins with. -/
def tok1 (r : List UInt8) : Except Nat (Nat × List UInt8 × Nat × Nat) :=
  if (r.getD 0 0).toNat = 39 then quotedT r
  else if isFirst (r.getD 0 0) = true then wl 1 r (pre isSmall r)
  else if isGreat (r.getD 0 0) = true then wl 2 r (pre isGreat r)
  else if isDigit (r.getD 0 0) = true then wl 3 r (pre isDigit r)
  else match signs.find? (fun x => hasPre x r) with
  | some x => .ok (5, x, 0, x.length)
  | none => .error 4
theorem getD_drop0 (s : List UInt8) (i : Nat) : (s.drop i).getD 0 0 = s.getD i 0 := by simp [List.getD_eq_getElem?_getD]
theorem getD_dropn (s : List UInt8) (i n : Nat) : (s.drop i).getD n 0 = s.getD (i + n) 0 := by simp [List.getD_eq_getElem?_getD]
theorem tok1_q {r : List UInt8} (h : (r.getD 0 0).toNat = 39) : tok1 r = quotedT r := if_pos h
theorem not39 {c : UInt8} (h : isFirst c = true ∨ isGreat c = true ∨ isDigit c = true) : ¬ c.toNat = 39 := by
  intro e
  rcases h with h | h | h <;> simp [isFirst, isGreat, isDigit, e] at h
theorem notFG {c : UInt8} (h : isGreat c = true) : isFirst c = false := by
  cases hh : isFirst c with
  | false => rfl
  | true => simp [isFirst, isGreat] at h hh; omega
theorem notGF {c : UInt8} (h : isFirst c = true) : isGreat c = false := by
  cases hh : isGreat c with
  | false => rfl
  | true => rw [notFG hh] at h; cases h
theorem notFD {c : UInt8} (h : isDigit c = true) : isFirst c = false := by
  cases hh : isFirst c with
  | false => rfl
  | true => simp [isFirst, isDigit] at h hh; omega
theorem notGD {c : UInt8} (h : isDigit c = true) : isGreat c = false := by
  cases hh : isGreat c with
  | false => rfl
  | true => simp [isGreat, isDigit] at h hh; omega
theorem tok1_1 {r : List UInt8} (h : isFirst (r.getD 0 0) = true) : tok1 r = wl 1 r (pre isSmall r) := by
  unfold tok1; rw [if_neg (not39 (.inl h)), if_pos h]
theorem tok1_2 {r : List UInt8} (h : isGreat (r.getD 0 0) = true) : tok1 r = wl 2 r (pre isGreat r) := by
  unfold tok1; rw [if_neg (not39 (.inr (.inl h))), if_neg (by rw [notFG h]; simp), if_pos h]
theorem tok1_3 {r : List UInt8} (h : isDigit (r.getD 0 0) = true) : tok1 r = wl 3 r (pre isDigit r) := by
  unfold tok1; rw [if_neg (not39 (.inr (.inr h))), if_neg (by rw [notFD h]; simp), if_neg (by rw [notGD h]; simp), if_pos h]
theorem tok1_s {r : List UInt8} (h0 : ¬ (r.getD 0 0).toNat = 39) (h1 : ¬ isFirst (r.getD 0 0) = true) (h2 : ¬ isGreat (r.getD 0 0) = true) (h3 : ¬ isDigit (r.getD 0 0) = true) : tok1 r = match signs.find? (fun x => hasPre x r) with
  | some x => .ok (5, x, 0, x.length)
  | none => .error 4 := by unfold tok1; rw [if_neg h0, if_neg h1, if_neg h2, if_neg h3]
/-- The signs ahead of the k-th are not there. -/
def noSign (r : List UInt8) (k : Nat) : Prop := (signs.find? (fun x => hasPre x r)) = ((signs.drop k).find? (fun x => hasPre x r))
theorem noSign_zero (r : List UInt8) : noSign r 0 := rfl
theorem noSign_step {r : List UInt8} {k : Nat} (hk : k < signs.length) (h : noSign r k) (hn : ¬ hasPre (signs.getD k []) r = true) : noSign r (k + 1) := by
  unfold noSign at *
  rw [h, List.drop_eq_getElem_cons hk, List.find?_cons]
  have : signs[k] = signs.getD k [] := by simp [List.getD_eq_getElem?_getD, List.getElem?_eq_getElem hk]
  rw [this]
  simp only [Bool.not_eq_true] at hn
  rw [hn]
theorem noSign_yes {r : List UInt8} {k : Nat} (hk : k < signs.length) (h : noSign r k) (hn : hasPre (signs.getD k []) r = true) : (signs.find? (fun x => hasPre x r)) = some (signs.getD k []) := by
  unfold noSign at *
  rw [h, List.drop_eq_getElem_cons hk, List.find?_cons]
  have : signs[k] = signs.getD k [] := by simp [List.getD_eq_getElem?_getD, List.getElem?_eq_getElem hk]
  rw [this, hn]
theorem noSign_end {r : List UInt8} {k : Nat} (hk : signs.length ≤ k) (h : noSign r k) : (signs.find? (fun x => hasPre x r)) = none := by
  unfold noSign at h
  rw [h, List.drop_of_length_le hk]; rfl
theorem tok1_sign {r : List UInt8} {x : List UInt8} (h0 : ¬ (r.getD 0 0).toNat = 39) (h1 : ¬ isFirst (r.getD 0 0) = true) (h2 : ¬ isGreat (r.getD 0 0) = true) (h3 : ¬ isDigit (r.getD 0 0) = true) (h : signs.find? (fun x => hasPre x r) = some x) : tok1 r = .ok (5, x, 0, x.length) := by
  rw [tok1_s h0 h1 h2 h3, h]
theorem tok1_none {r : List UInt8} (h0 : ¬ (r.getD 0 0).toNat = 39) (h1 : ¬ isFirst (r.getD 0 0) = true) (h2 : ¬ isGreat (r.getD 0 0) = true) (h3 : ¬ isDigit (r.getD 0 0) = true) (h : signs.find? (fun x => hasPre x r) = none) : tok1 r = .error 4 := by
  rw [tok1_s h0 h1 h2 h3, h]
theorem glue_drop (s : List UInt8) (i n : Nat) : glue (s.drop i) n = (decide (i + n < s.length) && (isSmall (s.getD (i + n) 0) || isGreat (s.getD (i + n) 0))) := by
  unfold glue
  rw [getD_dropn, List.length_drop, show decide (n < s.length - i) = decide (i + n < s.length) from decide_eq_decide.2 (by omega)]
theorem dropTake (s : List UInt8) (i n : Nat) : (s.take (i + n)).drop i = (s.drop i).take n := by rw [List.drop_take]; congr 1; omega
theorem known_yes {m : List UInt8} (h : idx m words < words.length) : isKnown m = true := decide_eq_true h
theorem known_no {m : List UInt8} (h : ¬ idx m words < words.length) : isKnown m = false := decide_eq_false h
end Go.Lex
namespace Go.Proofs.YtpfancgcamclnaaDoor
open Go Go.V Go.Lex
set_option maxHeartbeats 1000000 in
set_option maxRecDepth 100000 in
theorem t44 (r : List UInt8) (σ : Sg) (hl : r.length < 2 ^ 30) (h0 : 0 < r.length) : VCalls Tryd.prog 10 [.s (bs r)] σ (fun x σ' => QOut (tok1 r) 0 x ∧ σ' = σ) := by
  have hp : ∀ p, pre p r ≤ r.length := fun p => pre_le p r
  have hp1 := hp isSmall
  have hp2 := hp isGreat
  have hp3 := hp isDigit
  (refine vfun (fun _ => .no) mixed Tryd.func10 (by kernel_rfl) ?_; simp only [bodyOf, Tryd.f10, Option.getD_some])
  repeat' (first | with_reducible rfl | exact .inr trivial | with_reducible apply And.intro | with_reducible apply vqx_step | with_reducible apply vqm_step | with_reducible refine vkp_free (by decide +kernel) ?_ | with_reducible intro _ | ((first | (with_reducible first | refine .rs ?_ | refine .ds (by kernel_rfl) ?_ | refine .dg (by kernel_rfl) ?_ | refine .rg ?_ | refine .ite ?_ | refine .ret ?_ | refine .skip ?_ | refine .exit ?_ | refine .scope ?_ | refine .seq (.label ?_) | refine .block ?_ | refine .seq ?_) | (simp (disch := first | assumption | omega) only [w64, w8, tg_eq, n1, n2, nn, Int.tdiv_eq_ediv_of_nonneg, Sg.set_same, Sg.set_ne, Sg.set_ne', Sg.del_ne, Sg.del_ne']) | with_reducible refine (t72 _ _).use ?_ | with_reducible refine (t74 _ _).use ?_ | with_reducible refine (t75 _ _).use ?_ | with_reducible refine (t76 _).use ?_ | with_reducible refine (t69 _ 18 [] isSmall _ (by omega) (fun c => t73 c _)).use ?_ | with_reducible refine (t69 _ 19 [] isGreat _ (by omega) (fun c => t74 c _)).use ?_ | with_reducible refine (t69 _ 20 [] isDigit _ (by omega) (fun c => t75 c _)).use ?_ | ((with_reducible refine (t71 _ _ (by omega) (by omega)).mono ?_); rintro y σ' ⟨⟨k, t, v, n, ho, rfl⟩ | ⟨e, k, t, v, n, b, ho, he, rfl⟩, rfl⟩) | ((with_reducible refine (t77 _ _ 1 _ (by omega) (by omega) (by omega) (.inr (.inl ⟨rfl, notGF ‹_›, ‹_›⟩))).mono ?_); rintro y σ' ⟨⟨k, t, v, ho, rfl⟩ | ⟨e, k, t, v, ho, he, rfl⟩, rfl⟩) | ((with_reducible refine (t77 _ _ 2 _ (by omega) (by omega) (by omega) (.inl ⟨rfl, ‹_›⟩)).mono ?_); rintro y σ' ⟨⟨k, t, v, ho, rfl⟩ | ⟨e, k, t, v, ho, he, rfl⟩, rfl⟩) | ((with_reducible refine (t77 _ _ 3 _ (by omega) (by omega) (by omega) (.inr (.inr ⟨rfl, notGD ‹_›, notFD ‹_›, rfl⟩))).mono ?_); rintro y σ' ⟨⟨k, t, v, ho, rfl⟩ | ⟨e, k, t, v, ho, he, rfl⟩, rfl⟩)); (try simp only [vO, vQ, ↓vP, vE, vS, vB, vL, vF, vM, vN, vbs_full, Nat.reduceEqDiff, Nat.reduceAdd, Nat.reduceLeDiff, ne_eq, not_false_eq_true, Nat.reduceMul, Nat.reduceSub, Int.toNat_zero, Int.reduceToNat, Tryd.underlying9, Tryd.underlying5, Tryd.underlying3, Tryd.underlying25, Tryd.underlying34, Tryd.underlying45, info9, info34, info3, info25, nadd, nadd1, nadd2, nadd3, n1add, n2add, vT])) | with_reducible refine vfresh_set ?_ | with_reducible refine vfresh_intro (fun _ _ => ?_) | with_reducible refine vif_intro (fun _ => ?_) (fun _ => ?_) | omega | ((with_reducible first | refine vop_at ?_ | refine vops_at ?_ | refine vquiet_at ?_ | refine vmix_at ?_ | refine Holds_at ?_); simp only [vO, vQ, ↓vP, vE, vS, vB, vL, vF, vM, vN, vbs_full, Nat.reduceEqDiff, Nat.reduceAdd, Nat.reduceLeDiff, ne_eq, not_false_eq_true, Nat.reduceMul, Nat.reduceSub, Int.toNat_zero, Int.reduceToNat, Tryd.underlying9, Tryd.underlying5, Tryd.underlying3, Tryd.underlying25, Tryd.underlying34, Tryd.underlying45, info9, info34, info3, info25, nadd, nadd1, nadd2, nadd3, n1add, n2add, vT]))
  all_goals first
    | exact ⟨σ, (by repeat (first | exact Sg.sub.refl _ | refine Sg.sub.set_both ?_ | refine Sg.sub.set_fresh ?_ (by first | assumption | exact Sg.set_none ‹_› ‹_›) | refine Sg.sub.del_fresh ?_ (by first | assumption | exact Sg.set_none ‹_› ‹_›))), .ok _ _ _ ((tok1_q (by omega)).trans ho) rfl rfl rfl rfl, rfl⟩
    | exact ⟨σ, (by repeat (first | exact Sg.sub.refl _ | refine Sg.sub.set_both ?_ | refine Sg.sub.set_fresh ?_ (by first | assumption | exact Sg.set_none ‹_› ‹_›) | refine Sg.sub.del_fresh ?_ (by first | assumption | exact Sg.set_none ‹_› ‹_›))), .err _ _ _ _ _ ((tok1_q (by omega)).trans ho) he rfl rfl rfl rfl rfl, rfl⟩
    | exact ⟨σ, (by repeat (first | exact Sg.sub.refl _ | refine Sg.sub.set_both ?_ | refine Sg.sub.set_fresh ?_ (by first | assumption | exact Sg.set_none ‹_› ‹_›) | refine Sg.sub.del_fresh ?_ (by first | assumption | exact Sg.set_none ‹_› ‹_›))), .ok _ _ _ ((tok1_1 ‹_›).trans (wl_ok ho)) rfl rfl rfl rfl, rfl⟩
    | exact ⟨σ, (by repeat (first | exact Sg.sub.refl _ | refine Sg.sub.set_both ?_ | refine Sg.sub.set_fresh ?_ (by first | assumption | exact Sg.set_none ‹_› ‹_›) | refine Sg.sub.del_fresh ?_ (by first | assumption | exact Sg.set_none ‹_› ‹_›))), .err _ _ _ _ 0 ((tok1_1 ‹_›).trans (wl_err ho)) he rfl rfl rfl rfl rfl, rfl⟩
    | exact ⟨σ, (by repeat (first | exact Sg.sub.refl _ | refine Sg.sub.set_both ?_ | refine Sg.sub.set_fresh ?_ (by first | assumption | exact Sg.set_none ‹_› ‹_›) | refine Sg.sub.del_fresh ?_ (by first | assumption | exact Sg.set_none ‹_› ‹_›))), .ok _ _ _ ((tok1_2 ‹_›).trans (wl_ok ho)) rfl rfl rfl rfl, rfl⟩
    | exact ⟨σ, (by repeat (first | exact Sg.sub.refl _ | refine Sg.sub.set_both ?_ | refine Sg.sub.set_fresh ?_ (by first | assumption | exact Sg.set_none ‹_› ‹_›) | refine Sg.sub.del_fresh ?_ (by first | assumption | exact Sg.set_none ‹_› ‹_›))), .err _ _ _ _ 0 ((tok1_2 ‹_›).trans (wl_err ho)) he rfl rfl rfl rfl rfl, rfl⟩
    | exact ⟨σ, (by repeat (first | exact Sg.sub.refl _ | refine Sg.sub.set_both ?_ | refine Sg.sub.set_fresh ?_ (by first | assumption | exact Sg.set_none ‹_› ‹_›) | refine Sg.sub.del_fresh ?_ (by first | assumption | exact Sg.set_none ‹_› ‹_›))), .ok _ _ _ ((tok1_3 ‹_›).trans (wl_ok ho)) rfl rfl rfl rfl, rfl⟩
    | exact ⟨σ, (by repeat (first | exact Sg.sub.refl _ | refine Sg.sub.set_both ?_ | refine Sg.sub.set_fresh ?_ (by first | assumption | exact Sg.set_none ‹_› ‹_›) | refine Sg.sub.del_fresh ?_ (by first | assumption | exact Sg.set_none ‹_› ‹_›))), .err _ _ _ _ 0 ((tok1_3 ‹_›).trans (wl_err ho)) he rfl rfl rfl rfl rfl, rfl⟩
    | skip
  rename_i x hx g0 g1 g2 g3
  have hsl : signs.length = 16 := rfl
  refine VW.loop (0 : Nat) (fun k => k ≤ 16 ∧ noSign r k) (fun k => [(0, .s (bs r)), (2, .ref x 0), (13, .sl .full (strs signs)), (14, .i 16), (15, .i k)]) (fun _ => σ.set x (.cells 34 [.i 0, .s (bs []), .i 0, .i 0])) (fun k => 16 - k) ⟨by omega, noSign_zero r⟩ (.refl _) ?_ (fun k ⟨h1, h2⟩ => ?_)
  · simp only [vO, vQ, ↓vP, vE, vS, vB, vL, vF, vM, vN, vbs_full, Nat.reduceEqDiff, Nat.reduceAdd, Nat.reduceLeDiff, ne_eq, not_false_eq_true, Nat.reduceMul, Nat.reduceSub, Int.toNat_zero, Int.reduceToNat, vT]
    simp [strs_len, hsl]
  repeat' (first | with_reducible rfl | exact .inr trivial | with_reducible apply And.intro | with_reducible apply vqx_step | with_reducible apply vqm_step | with_reducible refine vkp_free (by decide +kernel) ?_ | with_reducible intro _ | ((first | (with_reducible first | refine .rs ?_ | refine .ds (by kernel_rfl) ?_ | refine .dg (by kernel_rfl) ?_ | refine .rg ?_ | refine .ite ?_ | refine .ret ?_ | refine .skip ?_ | refine .exit ?_ | refine .scope ?_ | refine .seq (.label ?_) | refine .block ?_ | refine .seq ?_) | (simp (disch := first | assumption | omega) only [w64, w8, tg_eq, n1, n2, nn, Int.tdiv_eq_ediv_of_nonneg, Sg.set_same, Sg.set_ne, Sg.set_ne', Sg.del_ne, Sg.del_ne']) | with_reducible simp (disch := omega) only [strs_get, Int.toNat_natCast] | with_reducible refine (t68 _ _ _).use ?_); (try simp only [vO, vQ, ↓vP, vE, vS, vB, vL, vF, vM, vN, vbs_full, Nat.reduceEqDiff, Nat.reduceAdd, Nat.reduceLeDiff, ne_eq, not_false_eq_true, Nat.reduceMul, Nat.reduceSub, Int.toNat_zero, Int.reduceToNat, Tryd.underlying9, Tryd.underlying5, Tryd.underlying3, Tryd.underlying25, Tryd.underlying34, Tryd.underlying45, info9, info34, info3, info25, strs_len, nadd, nadd1, nadd2, nadd3, n1add, n2add, vT])) | with_reducible refine vfresh_set ?_ | with_reducible refine vfresh_intro (fun _ _ => ?_) | with_reducible refine vif_intro (fun _ => ?_) (fun _ => ?_) | omega | ((with_reducible first | refine vop_at ?_ | refine vops_at ?_ | refine vquiet_at ?_ | refine vmix_at ?_ | refine Holds_at ?_); simp only [vO, vQ, ↓vP, vE, vS, vB, vL, vF, vM, vN, vbs_full, Nat.reduceEqDiff, Nat.reduceAdd, Nat.reduceLeDiff, ne_eq, not_false_eq_true, Nat.reduceMul, Nat.reduceSub, Int.toNat_zero, Int.reduceToNat, Tryd.underlying9, Tryd.underlying5, Tryd.underlying3, Tryd.underlying25, Tryd.underlying34, Tryd.underlying45, info9, info34, info3, info25, strs_len, nadd, nadd1, nadd2, nadd3, n1add, n2add, vT]))
  all_goals first
    | exact ⟨σ, (by repeat (first | exact Sg.sub.refl _ | refine Sg.sub.set_both ?_ | refine Sg.sub.set_fresh ?_ (by first | assumption | exact Sg.set_none ‹_› ‹_›) | refine Sg.sub.del_fresh ?_ (by first | assumption | exact Sg.set_none ‹_› ‹_›))), .ok 5 0 _ (tok1_sign (by omega) g1 g2 g3 (noSign_yes (by omega) h2 ‹_›)) rfl rfl rfl rfl, rfl⟩
    | exact ⟨k + 1, ⟨⟨by omega, noSign_step (by omega) h2 ‹_›⟩, by omega⟩, .refl _, rfl⟩
    | exact ⟨σ, (by repeat (first | exact Sg.sub.refl _ | refine Sg.sub.set_both ?_ | refine Sg.sub.set_fresh ?_ (by first | assumption | exact Sg.set_none ‹_› ‹_›) | refine Sg.sub.del_fresh ?_ (by first | assumption | exact Sg.set_none ‹_› ‹_›))), .err 4 0 0 0 0 (tok1_none (by omega) g1 g2 g3 (noSign_end (by omega) h2)) (by decide) rfl rfl rfl rfl rfl, rfl⟩
end Go.Proofs.YtpfancgcamclnaaDoor

set_option linter.unusedSimpArgs false
namespace Go.Proofs.YtpfancgcamclnaaDoor
open Go Go.V Go.Lex
theorem hasPre_take {x s : List UInt8} {i : Nat} : decide ((s.drop i).take x.length = x) = hasPre x (s.drop i) := rfl
end Go.Proofs.YtpfancgcamclnaaDoor

namespace Go.Lex
open Go.V Go.Proofs.YtpfancgcamclnaaDoor
theorem qd_len : ∀ (m t : List UInt8) (n : Nat), qd m = some (t, n) → 0 < n ∧ n ≤ m.length
  | [], _, _, h => by cases h
  | [c], t, n, h => by
    simp only [qd] at h
    split at h
    · cases h; simp
    · cases h
  | c :: d :: r, t, n, h => by
    simp only [qd] at h
    split at h
    · split at h
      · cases hq : qd r with
        | none => rw [hq] at h; cases h
        | some p =>
          rw [hq] at h
          cases h
          have := qd_len r p.1 p.2 hq
          simp; omega
      · cases h; simp
    · cases hq : qd (d :: r) with
      | none => rw [hq] at h; cases h
      | some p =>
        rw [hq] at h
        cases h
        have := qd_len (d :: r) p.1 p.2 hq
        simp at this ⊢; omega
theorem pre_pos {p : UInt8 → Bool} {r : List UInt8} (h0 : 0 < r.length) (h : p (r.getD 0 0) = true) : 0 < pre p r := by
  have := pre_yes (p := p) (l := r) (k := 0) h0 h
  rw [List.drop_zero] at this
  omega
theorem wl_n {kd : Nat} {r : List UInt8} {n k v m : Nat} {t : List UInt8} (h : wl kd r n = .ok (k, t, v, m)) : m = n := by
  unfold wl at h
  split at h
  · cases h; rfl
  · cases h
theorem tok1_len {r : List UInt8} {k v n : Nat} {t : List UInt8} (h0 : 0 < r.length) (h : tok1 r = .ok (k, t, v, n)) : 0 < n ∧ n ≤ r.length := by
  unfold tok1 at h
  split at h
  · unfold quotedT at h
    split at h
    · cases h
    · rename_i t' n' hq
      split at h
      · cases h
      · cases h
        have := qd_len _ _ _ hq
        simp at this; omega
  · split at h
    · rename_i hf
      rw [wl_n h]
      exact ⟨pre_pos h0 (by unfold isSmall; rw [hf]; rfl), pre_le _ _⟩
    · split at h
      · rename_i hf
        rw [wl_n h]
        exact ⟨pre_pos h0 hf, pre_le _ _⟩
      · split at h
        · rename_i hf
          rw [wl_n h]
          exact ⟨pre_pos h0 hf, pre_le _ _⟩
        · split at h
          · rename_i x hx
            cases h
            have h1 := List.find?_some hx
            have h2 := List.mem_of_find?_eq_some hx
            have h3 : ∀ x ∈ signs, 0 < x.length := by decide
            refine ⟨h3 _ h2, ?_⟩
            rcases Nat.lt_or_ge r.length t.length with h4 | h4
            · rw [hasPre_short h4] at h1; cases h1
            · exact h4
          · cases h
abbrev Tk := Nat × List UInt8 × Nat × Nat
def appE (o : List Tk) : Except (Nat × Nat) (List Tk) → Except (Nat × Nat) (List Tk)
  | .ok l => .ok (o ++ l)
  | .error e => .error e
theorem appE_nil (x : Except (Nat × Nat) (List Tk)) : appE [] x = x := by cases x <;> rfl
theorem appE_appE (a b : List Tk) (x : Except (Nat × Nat) (List Tk)) : appE a (appE b x) = appE (a ++ b) x := by cases x <;> simp [appE]
/-- All tokens of what is left of a source, a bytes behind its head. -/
def toks (r : List UInt8) (a : Nat) : Except (Nat × Nat) (List Tk) :=
  if _h : r.length ≤ blanks r then .ok [(6, [], 0, a + blanks r)] else
  match tok1 (r.drop (blanks r)) with
  | .error e => .error (e, a + blanks r)
  | .ok (k, t, v, n) => if _h2 : n = 0 then .error (0, 0) else appE [(k, t, v, a + blanks r)] (toks (r.drop (blanks r + n)) (a + blanks r + n))
termination_by r.length
decreasing_by simp; omega
theorem toks_end {r : List UInt8} {a : Nat} (h : r.length ≤ blanks r) : toks r a = .ok [(6, [], 0, a + blanks r)] := by rw [toks, dif_pos h]
theorem toks_err {r : List UInt8} {a e : Nat} (h : blanks r < r.length) (ht : tok1 (r.drop (blanks r)) = .error e) : toks r a = .error (e, a + blanks r) := by
  rw [toks, dif_neg (by omega), ht]
theorem toks_ok {r : List UInt8} {a k v n : Nat} {t : List UInt8} (h : blanks r < r.length) (ht : tok1 (r.drop (blanks r)) = .ok (k, t, v, n)) : toks r a = appE [(k, t, v, a + blanks r)] (toks (r.drop (blanks r + n)) (a + blanks r + n)) := by
  have := tok1_len (by simp; omega) ht
  rw [toks, dif_neg (by omega), ht]
  simp only
  rw [dif_neg (by omega)]
/-- What a source has. -/
def lexAll (s : List UInt8) : Except (Nat × Int) (List Tk) :=
  if 2000 < s.length then .error (2, -1) else
  match toks s 0 with
  | .ok l => .ok l
  | .error (e, a) => .error (e, (a : Int))
theorem lexAll_long {s : List UInt8} (h : 2000 < s.length) : lexAll s = .error (2, -1) := if_pos h
theorem lexAll_ok {s : List UInt8} {l : List Tk} (h : ¬ 2000 < s.length) (ht : toks s 0 = .ok l) : lexAll s = .ok l := by unfold lexAll; rw [if_neg h, ht]
theorem lexAll_err {s : List UInt8} {e a : Nat} (h : ¬ 2000 < s.length) (ht : toks s 0 = .error (e, a)) : lexAll s = .error (e, (a : Int)) := by unfold lexAll; rw [if_neg h, ht]
theorem toks_nz : ∀ (n : Nat) (r : List UInt8) (a e b : Nat), r.length ≤ n → (∀ m e, tok1 m = .error e → e ≠ 0) → toks r a = .error (e, b) → e ≠ 0 := by
  intro n
  induction n with
  | zero =>
    intro r a e b hn _ h
    rw [toks_end (by have := blanks_le r; omega)] at h
    cases h
  | succ n ih =>
    intro r a e b hn hz h
    by_cases hb : r.length ≤ blanks r
    · rw [toks_end hb] at h; cases h
    · cases ht : tok1 (r.drop (blanks r)) with
      | error e' =>
        rw [toks_err (by omega) ht] at h
        cases h
        exact hz _ _ ht
      | ok p =>
        obtain ⟨k, t, v, m⟩ := p
        have hm := tok1_len (by simp; omega) ht
        rw [toks_ok (by omega) ht] at h
        cases hr : toks (r.drop (blanks r + m)) (a + blanks r + m) with
        | ok l => rw [hr] at h; cases h
        | error q =>
          rw [hr] at h
          cases h
          exact ih _ _ _ _ (by simp; omega) hz hr
/-- Tokens in cells. -/
def tkA (x : Tk) : List AV := [.i x.1, .s (bs x.2.1), .i x.2.2.1, .i x.2.2.2]
def tksA (l : List Tk) : List (List AV) := l.map tkA
theorem tksA_len (l : List Tk) : (tksA l).length = l.length := by simp [tksA]
theorem tksA_app (a b : List Tk) : tksA a ++ tksA b = tksA (a ++ b) := by simp [tksA]
theorem tksA_all (l : List Tk) : allLen (tksA l) 4 = True := eq_true (fun e he => by obtain ⟨b, _, rfl⟩ := List.mem_map.1 he; rfl)
theorem tksA_one (l : List Tk) : allOne (tksA l) 4 = True := eq_true (fun e he => by obtain ⟨b, _, rfl⟩ := List.mem_map.1 he; exact ⟨rfl, rfl⟩)
theorem tksA_get {l : List Tk} {k : Nat} (h : k < l.length) : (tksA l).getD k [] = tkA (l.getD k (0, [], 0, 0)) := by
  simp [tksA, List.getD_eq_getElem?_getD, List.getElem?_eq_getElem h]
theorem tksA_unit (k v a : Nat) (t : List UInt8) : [[AV.i k, AV.s (bs t), AV.i v, AV.i a]] = tksA [(k, t, v, a)] := rfl
theorem tksA_end (a : Nat) : [[AV.i 6, AV.s (bs []), AV.i 0, AV.i a]] = tksA [(6, [], 0, a)] := rfl
def TOut (o : Except (Nat × Int) (List Tk)) (x : AV) : Prop :=
  (∃ (l : List Tk) (τ : Nat), o = .ok l ∧ x = .tup [.sl (.tok τ 4) (tksA l), .agg [.i 0, .i 0]]) ∨ (∃ (e : Nat) (a : Int), o = .error (e, a) ∧ e ≠ 0 ∧ x = .tup [.sl .nil [], .agg [.i e, .i a]])
theorem TOut.ok {o : Except (Nat × Int) (List Tk)} {τ : Nat} {es : List (List AV)} (l : List Tk) (h : o = .ok l) (he : es = tksA l) : TOut o (.tup [.sl (.tok τ 4) es, .agg [.i 0, .i 0]]) := .inl ⟨l, τ, h, by rw [he]⟩
theorem TOut.err {o : Except (Nat × Int) (List Tk)} {ee aa : Int} (e : Nat) (a : Int) (h : o = .error (e, a)) (he : e ≠ 0) (h1 : ee = e) (h2 : aa = a) : TOut o (.tup [.sl .nil [], .agg [.i ee, .i aa]]) := .inr ⟨e, a, h, he, by rw [h1, h2]⟩
end Go.Lex

set_option linter.unusedSimpArgs false
namespace Go.Proofs.YtpfancgcamclnaaDoor
open Go Go.V Go.Lex
set_option maxHeartbeats 1000000 in
set_option maxRecDepth 100000 in
theorem t21 (s : List UInt8) (σ : Sg) : VCalls Tryd.prog 6 [.s (bs s)] σ (fun x σ' => TOut (lexAll s) x ∧ σ' = σ) := by
  (refine vfun (fun _ => .no) mixed Tryd.func6 (by kernel_rfl) ?_; simp only [bodyOf, Tryd.f6, Option.getD_some])
  repeat' (first | with_reducible rfl | exact .inr trivial | with_reducible apply And.intro | with_reducible apply vqx_step | with_reducible apply vqm_step | with_reducible refine vkp_free (by decide +kernel) ?_ | with_reducible intro _ | ((first | (with_reducible first | refine .rs ?_ | refine .ds (by kernel_rfl) ?_ | refine .dg (by kernel_rfl) ?_ | refine .rg ?_ | refine .ite ?_ | refine .ret ?_ | refine .skip ?_ | refine .exit ?_ | refine .scope ?_ | refine .seq (.label ?_) | refine .block ?_ | refine .seq ?_) | (simp (disch := first | assumption | omega) only [w64, w8, tg_eq, n1, n2, nn, Int.tdiv_eq_ediv_of_nonneg, Sg.set_same, Sg.set_ne, Sg.set_ne', Sg.del_ne, Sg.del_ne'])); (try simp only [vO, vQ, ↓vP, vE, vS, vB, vL, vF, vM, vN, vbs_full, Nat.reduceEqDiff, Nat.reduceAdd, Nat.reduceLeDiff, ne_eq, not_false_eq_true, Nat.reduceMul, Nat.reduceSub, Int.toNat_zero, Int.reduceToNat, Tryd.underlying9, Tryd.underlying5, Tryd.underlying3, Tryd.underlying25, Tryd.underlying34, Tryd.underlying27, Tryd.underlying29, info9, info34, info3, info25, info29, info27, nadd, nadd1, nadd2, nadd3, n1add, n2add, vT])) | with_reducible refine vfresh_set ?_ | with_reducible refine vfresh_intro (fun _ _ => ?_) | with_reducible refine vif_intro (fun _ => ?_) (fun _ => ?_) | omega | ((with_reducible first | refine vop_at ?_ | refine vops_at ?_ | refine vquiet_at ?_ | refine vmix_at ?_ | refine Holds_at ?_); simp only [vO, vQ, ↓vP, vE, vS, vB, vL, vF, vM, vN, vbs_full, Nat.reduceEqDiff, Nat.reduceAdd, Nat.reduceLeDiff, ne_eq, not_false_eq_true, Nat.reduceMul, Nat.reduceSub, Int.toNat_zero, Int.reduceToNat, Tryd.underlying9, Tryd.underlying5, Tryd.underlying3, Tryd.underlying25, Tryd.underlying34, Tryd.underlying27, Tryd.underlying29, info9, info34, info3, info25, info29, info27, nadd, nadd1, nadd2, nadd3, n1add, n2add, vT]))
  · exact ⟨σ, (by repeat (first | exact Sg.sub.refl _ | refine Sg.sub.set_both ?_ | refine Sg.sub.set_fresh ?_ (by first | assumption | exact Sg.set_none ‹_› ‹_›) | refine Sg.sub.del_fresh ?_ (by first | assumption | exact Sg.set_none ‹_› ‹_›))), .err 2 (-1) (lexAll_long (by omega)) (by decide) rfl rfl, rfl⟩
  rename_i x hx hl
  refine VW.loop4 (0 : Nat) ([] : List Tk) (.sl .nil []) _ (fun k o V S => k ≤ s.length ∧ o.length ≤ k ∧ toks s 0 = appE o (toks (s.drop k) k) ∧ Grown 34 4 (tksA o) (σ.set x (.cells 29 [.i 0, .i 0])) V S) (fun k o V S => [(0, .s (bs s)), (3, .ref x 0), (4, V), (5, .i k)]) (fun _ _ _ S => S) (fun k _ _ _ => s.length - k) ⟨by omega, by simp, by rw [appE_nil]; rfl, .nil _ _ _⟩ (.refl _) ?_ ?_
  · simp only [vO, vQ, ↓vP, vE, vS, vB, vL, vF, vM, vN, vbs_full, Nat.reduceEqDiff, Nat.reduceAdd, Nat.reduceLeDiff, ne_eq, not_false_eq_true, Nat.reduceMul, Nat.reduceSub, Int.toNat_zero, Int.reduceToNat, vT]
    rfl
  rintro k o V S ⟨h1, h2, h3, hG⟩
  have hb := blanks_le (s.drop k)
  rw [List.length_drop] at hb
  have ht : ∀ σ, VCalls Tryd.prog 9 [.s (bs (s.drop k))] σ (fun x σ' => x = .i (blanks (s.drop k)) ∧ σ' = σ) := fun σ => t43 _ σ (by simp; omega)
  have hend := toks_end (r := s.drop k) (a := k)
  have herr := fun e => toks_err (r := s.drop k) (a := k) (e := e)
  have hok := fun kk v n t => toks_ok (r := s.drop k) (a := k) (k := kk) (v := v) (n := n) (t := t)
  have hlen := fun kk v n t => tok1_len (r := (s.drop k).drop (blanks (s.drop k))) (k := kk) (v := v) (n := n) (t := t)
  simp only [List.length_drop, List.drop_drop] at hend herr hok hlen
  generalize blanks (s.drop k) = b at *
  rcases hG with ⟨h5, rfl, rfl⟩ | ⟨τ, hτ, rfl, rfl⟩
  · obtain rfl : o = [] := by cases o with
      | nil => rfl
      | cons a r => simp [tksA] at h5
    clear h5
    repeat' (first | with_reducible rfl | exact .inr trivial | with_reducible apply And.intro | with_reducible apply vqx_step | with_reducible apply vqm_step | with_reducible refine vkp_free (by decide +kernel) ?_ | with_reducible intro _ | ((first | (with_reducible first | refine .rs ?_ | refine .ds (by kernel_rfl) ?_ | refine .dg (by kernel_rfl) ?_ | refine .rg ?_ | refine .ite ?_ | refine .ret ?_ | refine .skip ?_ | refine .exit ?_ | refine .scope ?_ | refine .seq (.label ?_) | refine .block ?_ | refine .seq ?_) | (simp (disch := first | assumption | omega) only [w64, w8, tg_eq, n1, n2, nn, Int.tdiv_eq_ediv_of_nonneg, Sg.set_same, Sg.set_ne, Sg.set_ne', Sg.del_ne, Sg.del_ne']) | with_reducible refine (ht _).use ?_ | ((with_reducible refine (t44 _ _ (by simp; omega) (by simp; omega)).mono ?_); rintro y σ' ⟨⟨kk, t, v, n, ho, rfl⟩ | ⟨e, kk, t, v, n, b', ho, he, rfl⟩, rfl⟩)); (try simp only [vO, vQ, ↓vP, vE, vS, vB, vL, vF, vM, vN, vbs_full, Nat.reduceEqDiff, Nat.reduceAdd, Nat.reduceLeDiff, ne_eq, not_false_eq_true, Nat.reduceMul, Nat.reduceSub, Int.toNat_zero, Int.reduceToNat, Tryd.underlying9, Tryd.underlying5, Tryd.underlying3, Tryd.underlying25, Tryd.underlying34, Tryd.underlying27, Tryd.underlying29, info9, info34, info3, info25, info29, info27, nadd, nadd1, nadd2, nadd3, n1add, n2add, tksA_len, tksA_app, tksA_all, tksA_one, tksA_unit, tksA_end, vT])) | with_reducible refine vfresh_set ?_ | with_reducible refine vfresh_intro (fun _ _ => ?_) | with_reducible refine vif_intro (fun _ => ?_) (fun _ => ?_) | omega | ((with_reducible first | refine vop_at ?_ | refine vops_at ?_ | refine vquiet_at ?_ | refine vmix_at ?_ | refine Holds_at ?_); simp only [vO, vQ, ↓vP, vE, vS, vB, vL, vF, vM, vN, vbs_full, Nat.reduceEqDiff, Nat.reduceAdd, Nat.reduceLeDiff, ne_eq, not_false_eq_true, Nat.reduceMul, Nat.reduceSub, Int.toNat_zero, Int.reduceToNat, Tryd.underlying9, Tryd.underlying5, Tryd.underlying3, Tryd.underlying25, Tryd.underlying34, Tryd.underlying27, Tryd.underlying29, info9, info34, info3, info25, info29, info27, nadd, nadd1, nadd2, nadd3, n1add, n2add, tksA_len, tksA_app, tksA_all, tksA_one, tksA_unit, tksA_end, vT]))
    all_goals first
      | exact ⟨σ, (by repeat (first | exact Sg.sub.refl _ | refine Sg.sub.set_both ?_ | refine Sg.sub.set_fresh ?_ (by first | assumption | exact Sg.set_none ‹_› ‹_›) | refine Sg.sub.del_fresh ?_ (by first | assumption | exact Sg.set_none ‹_› ‹_›))), .ok (([] : List Tk) ++ [(6, [], 0, k + b)]) (lexAll_ok (by omega) (by rw [h3, hend (by omega)]; rfl)) rfl, rfl⟩
      | (have hn := hlen _ _ _ _ (by omega) ho
         (try simp (disch := omega) only [w64, w8, tg_eq, n1, n2, nn, Int.tdiv_eq_ediv_of_nonneg])
         exact ⟨k + b + n, ([] : List Tk) ++ [(kk, t, v, k + b)], _, _, ⟨⟨by omega, by simp only [List.length_append, List.length_cons, List.length_nil] at h2 ⊢; omega, by rw [h3, hok _ _ _ _ (by omega) ho, appE_appE, show k + (b + n) = k + b + n by omega], .tok (Sg.set_none ‹_› ‹_›)⟩, by omega⟩, (by repeat (first | exact Sg.sub.refl _ | refine Sg.sub.set_both ?_ | refine Sg.sub.set_fresh ?_ (by first | assumption | exact Sg.set_none ‹_› ‹_›) | refine Sg.sub.del_fresh ?_ (by first | assumption | exact Sg.set_none ‹_› ‹_›))), rfl, rfl⟩)
      | exact ⟨σ, (by repeat (first | exact Sg.sub.refl _ | refine Sg.sub.set_both ?_ | refine Sg.sub.set_fresh ?_ (by first | assumption | exact Sg.set_none ‹_› ‹_›) | refine Sg.sub.del_fresh ?_ (by first | assumption | exact Sg.set_none ‹_› ‹_›))), .err e _ (lexAll_err (by omega) (by rw [h3, herr _ (by omega) ho]; rfl)) he rfl rfl, rfl⟩
  · obtain ⟨hne, hτ'⟩ := Sg.of_set_none hτ
    repeat' (first | with_reducible rfl | exact .inr trivial | with_reducible apply And.intro | with_reducible apply vqx_step | with_reducible apply vqm_step | with_reducible refine vkp_free (by decide +kernel) ?_ | with_reducible intro _ | ((first | (with_reducible first | refine .rs ?_ | refine .ds (by kernel_rfl) ?_ | refine .dg (by kernel_rfl) ?_ | refine .rg ?_ | refine .ite ?_ | refine .ret ?_ | refine .skip ?_ | refine .exit ?_ | refine .scope ?_ | refine .seq (.label ?_) | refine .block ?_ | refine .seq ?_) | (simp (disch := first | assumption | omega) only [w64, w8, tg_eq, n1, n2, nn, Int.tdiv_eq_ediv_of_nonneg, Sg.set_same, Sg.set_ne, Sg.set_ne', Sg.del_ne, Sg.del_ne']) | with_reducible refine (ht _).use ?_ | ((with_reducible refine (t44 _ _ (by simp; omega) (by simp; omega)).mono ?_); rintro y σ' ⟨⟨kk, t, v, n, ho, rfl⟩ | ⟨e, kk, t, v, n, b', ho, he, rfl⟩, rfl⟩)); (try simp only [vO, vQ, ↓vP, vE, vS, vB, vL, vF, vM, vN, vbs_full, Nat.reduceEqDiff, Nat.reduceAdd, Nat.reduceLeDiff, ne_eq, not_false_eq_true, Nat.reduceMul, Nat.reduceSub, Int.toNat_zero, Int.reduceToNat, Tryd.underlying9, Tryd.underlying5, Tryd.underlying3, Tryd.underlying25, Tryd.underlying34, Tryd.underlying27, Tryd.underlying29, info9, info34, info3, info25, info29, info27, nadd, nadd1, nadd2, nadd3, n1add, n2add, tksA_len, tksA_app, tksA_all, tksA_one, tksA_unit, tksA_end, vT])) | with_reducible refine vfresh_set ?_ | with_reducible refine vfresh_intro (fun _ _ => ?_) | with_reducible refine vif_intro (fun _ => ?_) (fun _ => ?_) | omega | ((with_reducible first | refine vop_at ?_ | refine vops_at ?_ | refine vquiet_at ?_ | refine vmix_at ?_ | refine Holds_at ?_); simp only [vO, vQ, ↓vP, vE, vS, vB, vL, vF, vM, vN, vbs_full, Nat.reduceEqDiff, Nat.reduceAdd, Nat.reduceLeDiff, ne_eq, not_false_eq_true, Nat.reduceMul, Nat.reduceSub, Int.toNat_zero, Int.reduceToNat, Tryd.underlying9, Tryd.underlying5, Tryd.underlying3, Tryd.underlying25, Tryd.underlying34, Tryd.underlying27, Tryd.underlying29, info9, info34, info3, info25, info29, info27, nadd, nadd1, nadd2, nadd3, n1add, n2add, tksA_len, tksA_app, tksA_all, tksA_one, tksA_unit, tksA_end, vT]))
    all_goals first
      | exact ⟨σ, (by repeat (first | exact Sg.sub.refl _ | refine Sg.sub.set_both ?_ | refine Sg.sub.set_fresh ?_ (by first | assumption | exact Sg.set_none ‹_› ‹_›) | refine Sg.sub.del_fresh ?_ (by first | assumption | exact Sg.set_none ‹_› ‹_›))), .ok (o ++ [(6, [], 0, k + b)]) (lexAll_ok (by omega) (by rw [h3, hend (by omega)]; rfl)) rfl, rfl⟩
      | (have hn := hlen _ _ _ _ (by omega) ho
         (try simp (disch := omega) only [w64, w8, tg_eq, n1, n2, nn, Int.tdiv_eq_ediv_of_nonneg])
         exact ⟨k + b + n, o ++ [(kk, t, v, k + b)], _, _, ⟨⟨by omega, by simp only [List.length_append, List.length_cons, List.length_nil] at h2 ⊢; omega, by rw [h3, hok _ _ _ _ (by omega) ho, appE_appE, show k + (b + n) = k + b + n by omega], .tok (Sg.set_none ‹_› ‹_›)⟩, by omega⟩, (by repeat (first | exact Sg.sub.refl _ | refine Sg.sub.set_both ?_ | refine Sg.sub.set_fresh ?_ (by first | assumption | exact Sg.set_none ‹_› ‹_›) | refine Sg.sub.del_fresh ?_ (by first | assumption | exact Sg.set_none ‹_› ‹_›))), rfl, rfl⟩)
      | exact ⟨σ, (by repeat (first | exact Sg.sub.refl _ | refine Sg.sub.set_both ?_ | refine Sg.sub.set_fresh ?_ (by first | assumption | exact Sg.set_none ‹_› ‹_›) | refine Sg.sub.del_fresh ?_ (by first | assumption | exact Sg.set_none ‹_› ‹_›))), .err e _ (lexAll_err (by omega) (by rw [h3, herr _ (by omega) ho]; rfl)) he rfl rfl, rfl⟩
end Go.Proofs.YtpfancgcamclnaaDoor

set_option linter.unusedSimpArgs false
namespace Go.Proofs.YtpfancgcamclnaaDoor
open Go Go.V Go.Lex
theorem blanks_bstep {l : List UInt8} {j : Nat} (h : bstep (l.drop j) ≠ 0) : blanks (l.drop j) = bstep (l.drop j) + blanks (l.drop (j + bstep (l.drop j))) := by rw [blanks_step h, List.drop_drop]
end Go.Proofs.YtpfancgcamclnaaDoor

set_option linter.unusedSimpArgs false
namespace Go.V
theorem veqIn_struct {P : Program} {d : Nat} {t : TypeId} {fs : Array Field} {xs ys : List AV} (hu : P.underlying t = some (.struct fs)) (hs : P.stoodInHeld t = false) : veqIn P (d + 1) t (.agg xs) (.agg ys) = veqFs P (veqIn P d) xs ys fs.toList := by
  simp only [veqIn, hu, hs]
  rfl
theorem veqIn_int {P : Program} {d : Nat} {t : TypeId} {k : IntKind} {q : IntKind} {a b : Int} (hu : P.underlying t = some (.int k)) : veqIn P (d + 1) t (.val (.int q a)) (.val (.int q b)) = some (decide (a = b)) := by
  simp only [veqIn, hu, if_true]
theorem veqIn_str {P : Program} {d : Nat} {t : TypeId} {a b : ByteArray} (hu : P.underlying t = some .string) : veqIn P (d + 1) t (.s a) (.s b) = some (sEq a b) := by
  simp only [veqIn, hu]
theorem veqFs_cons {P : Program} {eq : TypeId → AV → AV → Option Bool} {xs ys : List AV} {f : Field} {fs : List Field} {x y : AV} {c r : Bool} (hn : f.name ≠ "_") (hx : partO P f.type (xs.drop f.offset) = some x) (hy : partO P f.type (ys.drop f.offset) = some y)
    (he : eq f.type x y = some c) (hr : veqFs P eq xs ys fs = some r) : veqFs P eq xs ys (f :: fs) = some (c && r) := by
  simp only [veqFs, if_neg hn, hx, hy, he, hr]
theorem partO_one {P : Program} {t : TypeId} {i : Option Value × Nat × Nat} {d : TypeDesc} {x : AV} {r : List AV} (hi : tInfo P t = some i) (hd : P.underlying t = some d) (ha : isAggD d = false) : partO P t (x :: r) = some x := by
  obtain ⟨z, n, b⟩ := i
  simp only [partO, hi, hd, ha]
  rfl
theorem veqT_agg {P : Program} {t : TypeId} {d : TypeDesc} {xs ys : List AV} (hg : P.eqGuardType P.depth t = false) : veqT P t d (.agg xs) (.agg ys) = veqIn P 10000 t (.agg xs) (.agg ys) := by
  simp only [veqT, hg]
  rfl
end Go.V
namespace Go.Lex
open Go.V
/-- Two tokens, with their places or without. -/
def tkEq (p : Bool) (x y : Tk) : Bool := decide (x.1 = y.1) && decide (x.2.1 = y.2.1) && decide (x.2.2.1 = y.2.2.1) && (!p || decide (x.2.2.2 = y.2.2.2))
def sameL (p : Bool) : List Tk → List Tk → Bool
  | [], [] => true
  | x :: r, y :: s => tkEq p x y && sameL p r s
  | _, _ => false
theorem sameL_len {p : Bool} : ∀ {a b : List Tk}, a.length ≠ b.length → sameL p a b = false
  | [], [], h => absurd rfl h
  | [], _ :: _, _ => rfl
  | _ :: _, [], _ => rfl
  | x :: r, y :: s, h => by simp only [sameL]; rw [sameL_len (by simpa using h), Bool.and_false]
theorem sameL_refl (p : Bool) : ∀ (a : List Tk), sameL p a a = true
  | [] => rfl
  | x :: r => by simp [sameL, tkEq, sameL_refl p r]
theorem dcast (a b : Nat) : decide ((a : Int) = (b : Int)) = decide (a = b) := decide_eq_decide.2 Int.ofNat_inj
theorem tkEq_yes (x y : Tk) : (decide ((x.1 : Int) = y.1) && (decide (x.2.1 = y.2.1) && (decide ((x.2.2.1 : Int) = y.2.2.1) && decide ((x.2.2.2 : Int) = y.2.2.2)))) = tkEq true x y := by
  simp only [dcast, tkEq, Bool.and_assoc, Bool.not_true, Bool.not_false, Bool.false_or, Bool.true_or, decide_true]
theorem tkEq_no (x y : Tk) : (decide ((x.1 : Int) = y.1) && (decide (x.2.1 = y.2.1) && (decide ((x.2.2.1 : Int) = y.2.2.1) && decide True))) = tkEq false x y := by
  simp only [dcast, tkEq, Bool.and_assoc, Bool.not_true, Bool.not_false, Bool.false_or, Bool.true_or, decide_true]
theorem sameL_step {p : Bool} {a b : List Tk} {k : Nat} (h : k < a.length) (h' : k < b.length) : sameL p (a.drop k) (b.drop k) = (tkEq p (a.getD k (0, [], 0, 0)) (b.getD k (0, [], 0, 0)) && sameL p (a.drop (k + 1)) (b.drop (k + 1))) := by
  rw [List.drop_eq_getElem_cons h, List.drop_eq_getElem_cons h']
  simp [sameL, List.getD_eq_getElem?_getD, List.getElem?_eq_getElem h, List.getElem?_eq_getElem h']
end Go.Lex
namespace Go.Proofs.YtpfancgcamclnaaDoor
open Go Go.V Go.Lex
theorem eq59 {d : TypeDesc} {a b e a' b' e' : Int} {s t : ByteArray} : veqT Tryd.prog 34 d (.agg [.i a, .s s, .i b, .i e]) (.agg [.i a', .s t, .i b', .i e']) = some (decide (a = a') && (sEq s t && (decide (b = b') && (decide (e = e') && true)))) := by
  rw [veqT_agg (by kernel_rfl), veqIn_struct (d := 9999) Tryd.underlying34 (by kernel_rfl)]
  exact veqFs_cons (by decide) (partO_one info3 Tryd.underlying3 rfl) (partO_one info3 Tryd.underlying3 rfl) (veqIn_int Tryd.underlying3) (veqFs_cons (by decide) (partO_one info9 Tryd.underlying9 rfl) (partO_one info9 Tryd.underlying9 rfl) (veqIn_str Tryd.underlying9) (veqFs_cons (by decide) (partO_one info3 Tryd.underlying3 rfl) (partO_one info3 Tryd.underlying3 rfl) (veqIn_int Tryd.underlying3) (veqFs_cons (by decide) (partO_one info3 Tryd.underlying3 rfl) (partO_one info3 Tryd.underlying3 rfl) (veqIn_int Tryd.underlying3) rfl)))
theorem eq53 {d : TypeDesc} {a b a' b' : Int} : veqT Tryd.prog 29 d (.agg [.i a, .i b]) (.agg [.i a', .i b']) = some (decide (a = a') && (decide (b = b') && true)) := by
  rw [veqT_agg (by kernel_rfl), veqIn_struct (d := 9999) Tryd.underlying29 (by kernel_rfl)]
  exact veqFs_cons (by decide) (partO_one info25 Tryd.underlying25 rfl) (partO_one info25 Tryd.underlying25 rfl) (veqIn_int Tryd.underlying25) (veqFs_cons (by decide) (partO_one info3 Tryd.underlying3 rfl) (partO_one info3 Tryd.underlying3 rfl) (veqIn_int Tryd.underlying3) rfl)
end Go.Proofs.YtpfancgcamclnaaDoor

set_option linter.unusedSimpArgs false
namespace Go.Lex
open Go.V Go.Proofs.YtpfancgcamclnaaDoor
def smallS : List UInt8 := [83, 69, 76, 69, 67, 84, 32, 97, 49, 44, 39, 105, 116, 39, 39, 115, 39, 32, 45, 45, 32, 120]
def smallL : List Tk := [(2, [83, 69, 76, 69, 67, 84], 0, 0), (1, [97, 49], 0, 7), (5, [44], 0, 9), (4, [105, 116, 39, 115], 0, 10), (6, [], 0, 22)]
theorem toks_at {r : List UInt8} {a b k v n : Nat} {t : List UInt8} {m : List UInt8} {l : List Tk} (hb : blanks r = b) (hl : b < r.length) (ht : tok1 (r.drop b) = .ok (k, t, v, n)) (hm : r.drop (b + n) = m) (hr : toks m (a + b + n) = .ok l) : toks r a = .ok ((k, t, v, a + b) :: l) := by
  subst hb hm
  rw [toks_ok hl ht, hr]
  rfl
theorem small_lex : lexAll smallS = .ok smallL := by
  refine lexAll_ok (by decide) ?_
  refine toks_at (blanks_stop rfl) (by decide) (k := 2) (t := [83, 69, 76, 69, 67, 84]) (v := 0) (n := 6) rfl rfl ?_
  refine toks_at (b := 1) ?_ (by decide) (k := 1) (t := [97, 49]) (v := 0) (n := 2) rfl rfl ?_
  · rw [blanks_step (by decide), blanks_stop rfl]; rfl
  refine toks_at (blanks_stop rfl) (by decide) (k := 5) (t := [44]) (v := 0) (n := 1) rfl rfl ?_
  refine toks_at (blanks_stop rfl) (by decide) (k := 4) (t := [105, 116, 39, 115]) (v := 0) (n := 7) rfl rfl ?_
  have hb : blanks ([32, 45, 45, 32, 120] : List UInt8) = 5 := by
    rw [blanks_step (by decide)]
    show 1 + blanks ([45, 45, 32, 120] : List UInt8) = 5
    rw [blanks_step (by decide)]
    show 1 + (4 + blanks ([] : List UInt8)) = 5
    rw [blanks_stop rfl]
  show toks [32, 45, 45, 32, 120] 17 = _
  rw [toks_end (by rw [hb]; decide), hb]
theorem toks_length : ∀ (n : Nat) (r : List UInt8) (a : Nat) (l : List Tk), r.length ≤ n → toks r a = .ok l → l.length ≤ r.length + 1 := by
  intro n
  induction n with
  | zero =>
    intro r a l hn h
    rw [toks_end (by have := blanks_le r; omega)] at h
    cases h; simp
  | succ n ih =>
    intro r a l hn h
    by_cases hb : r.length ≤ blanks r
    · rw [toks_end hb] at h; cases h; simp
    · cases ht : tok1 (r.drop (blanks r)) with
      | error e' => rw [toks_err (by omega) ht] at h; cases h
      | ok p =>
        obtain ⟨k, t, v, m⟩ := p
        have hm := tok1_len (by simp; omega) ht
        rw [toks_ok (by omega) ht] at h
        cases hr : toks (r.drop (blanks r + m)) (a + blanks r + m) with
        | error q => rw [hr] at h; cases h
        | ok l' =>
          rw [hr] at h
          cases h
          have := ih _ _ _ (by simp; omega) hr
          simp at this ⊢; omega
theorem lexAll_length {s : List UInt8} {l : List Tk} (h : lexAll s = .ok l) : l.length ≤ 2001 := by
  unfold lexAll at h
  split at h
  · cases h
  · split at h
    · rename_i l' hl
      cases h
      have := toks_length _ _ _ _ (Nat.le_refl _) hl
      omega
    · cases h
end Go.Lex
namespace Go.Proofs.YtpfancgcamclnaaDoor
open Go Go.V Go.Lex
theorem castlit (n : Nat) : ((OfNat.ofNat n : Nat) : Int) = (OfNat.ofNat n : Int) := rfl
end Go.Proofs.YtpfancgcamclnaaDoor

/- Arguments: what is known of them may be forgotten; a slice of which nothing is known is nil or not. -/
set_option linter.unusedVariables false
namespace Go.V
open Go.RowKit
variable {P : Program}
theorem VCalls.arg1 {f : FuncId} {x x' : AV} {r : List AV} {σ : Sg} {R : AV → Sg → Prop} (h : AVw x x') (hc : VCalls P f (x' :: r) σ R) : VCalls P f (x :: r) σ R := by
  refine ⟨fun κ vs hst hr => hc.go κ vs hst ?_⟩
  refine ⟨hr.1, fun i y v h1 h2 => ?_⟩
  cases i with
  | zero => simp at h1; subst h1; exact h κ v (hr.2 0 x v (by simp) h2)
  | succ i => exact hr.2 (i + 1) y v (by simpa using h1) h2
theorem VCalls.arg2 {f : FuncId} {a x x' : AV} {r : List AV} {σ : Sg} {R : AV → Sg → Prop} (h : AVw x x') (hc : VCalls P f (a :: x' :: r) σ R) : VCalls P f (a :: x :: r) σ R := by
  refine ⟨fun κ vs hst hr => hc.go κ vs hst ?_⟩
  refine ⟨hr.1, fun i y v h1 h2 => ?_⟩
  match i with
  | 0 => exact hr.2 0 y v (by simpa using h1) h2
  | 1 => simp at h1; subst h1; exact h κ v (hr.2 1 x v (by simp) h2)
  | i + 2 => exact hr.2 (i + 2) y v (by simpa using h1) h2
/-- An empty slice: nil, or not. -/
theorem VCalls.any1 {f : FuncId} {r : List AV} {σ : Sg} {R : AV → Sg → Prop} (h1 : VCalls P f (.sl .nil [] :: r) σ R) (h2 : VCalls P f (.sl .view [] :: r) σ R) : VCalls P f (.sl .any [] :: r) σ R := by
  refine ⟨fun κ vs hst hr => ?_⟩
  have h0 : ∃ v, vs[0]? = some v := by
    have := hr.1
    cases h : vs[0]? with
    | some v => exact ⟨v, rfl⟩
    | none => rw [Array.getElem?_eq_none_iff] at h; simp at this; omega
  obtain ⟨v, hv⟩ := h0
  have hx : Rel κ (.sl .any []) v := hr.2 0 _ v rfl hv
  have rest : ∀ x, Rel κ x v → RelArgs κ (x :: r) vs := fun x hx => ⟨hr.1, fun i y u g1 g2 => by
    cases i with
    | zero => rw [hv] at g2; cases g2; simp at g1; subst g1; exact hx
    | succ i => exact hr.2 (i + 1) y u (by simpa using g1) g2⟩
  cases hx with
  | slnil k hk => exact h1.go κ vs hst (rest _ (.slnil .nil trivial))
  | slemp k hk a c => exact h2.go κ vs hst (rest _ (.slemp .view (.inl rfl) a c))
  | sl k es a n c sz f hk hn hc hs hz hr' h => exact h2.go κ vs hst (rest _ (.sl .view [] a n c sz f trivial hn hc hs hz hr' h))
end Go.V

set_option linter.unusedSimpArgs false
set_option linter.unusedVariables false
namespace Go.Cert
open Go.V
theorem ne_of {σ : Sg} {ρ x : Nat} {o : Ob} (h : σ ρ = some o) (hx : σ x = none) : ρ ≠ x := fun e => by subst e; rw [hx] at h; cases h
theorem ne_of2 {σ : Sg} {ρ x : Nat} {o : Ob} (hx : σ x = none) (h : σ ρ = some o) : ρ ≠ x := ne_of h hx
theorem ne_of2a {σ : Sg} {ρ x : Nat} {o : Ob} (hx : σ x = none) (h : σ ρ = some o) : x ≠ ρ := Ne.symm (ne_of h hx)
theorem ne_ob {σ : Sg} {ρ x : Nat} {o o' : Ob} (h : σ ρ = some o) (hx : σ x = some o') (hn : o ≠ o') : ρ ≠ x := fun e => by rw [e, hx] at h; cases h; exact hn rfl
end Go.Cert
namespace Go.V
open Go.RowKit
theorem at1 {σ : Sg} {ρ x : Nat} {o a : Ob} (h : σ ρ = some o) (hx : σ x = none) : (σ.set x a) ρ = some o := by rw [Sg.set_other _ _ (Go.Cert.ne_of h hx), h]
theorem keepAt {ρ : Nat} {S σ' : Sg} {o : Option Ob} (h : Keep (fun β => β = ρ) S σ') (hS : S ρ = o) : σ' ρ = o := (h ρ rfl).trans hS
theorem Post.lose {P : Program} {R R' : AV → Sg → Prop} (h : ∀ x σ', R x σ' → ∃ x' σ'', AVw x x' ∧ σ''.sub σ' ∧ R' x' σ'') {κ : K} {v : Value} {w : World} (hp : Post κ R v w) : Post κ R' v w := by
  obtain ⟨κ', x, σ', h1, h2, h3, h4, h5⟩ := hp
  obtain ⟨x', σ'', h6, h8, h7⟩ := h x σ' h5
  exact ⟨κ', x', σ'', h1, h2, h3.sub h8, h6 κ' v h4, h7⟩
/-- What is known of a result, and of the store, may be forgotten. -/
theorem VCalls.lose {P : Program} {σ : Sg} {f : FuncId} {args : List AV} {R R' : AV → Sg → Prop} (hc : VCalls P f args σ R) (h : ∀ x σ', R x σ' → ∃ x' σ'', AVw x x' ∧ σ''.sub σ' ∧ R' x' σ'') : VCalls P f args σ R' := by
  refine ⟨fun κ vs hst hr => ?_⟩
  have hd := hc.go κ vs hst hr
  revert hd
  generalize (callFunc f vs).run P κ.w = r
  intro hd
  cases r with
  | halt x w => exact hd.elim
  | ok nx w =>
    cases nx <;> simp only [Done] at hd ⊢
    case value v => exact Post.lose (P := P) h hd
    case skip => exact Post.lose (P := P) h hd
    case enter f args =>
      refine hd.mono (fun e w' he => ?_)
      cases e with
      | returned v => exact Post.lose (P := P) h he
      | panicked c => exact he.elim
      | outgrown => exact he.elim
    case row r args => exact hd.mono (fun v w' he => Post.lose (P := P) h he)
/-- Cell by cell. -/
theorem AVw.agg {cs cs' : List AV} (hl : cs.length = cs'.length) (h : ∀ (i : Nat) (x x' : AV), cs[i]? = some x → cs'[i]? = some x' → AVw x x') : AVw (.agg cs) (.agg cs') := fun κ v hr => by
  cases hr with
  | agg _ vs hl' hx =>
    refine .agg _ vs (by omega) (fun i x u h1 h2 => ?_)
    have hi : i < cs.length := by
      rcases Nat.lt_or_ge i cs.length with h' | h'
      · exact h'
      · rw [List.getElem?_eq_none (by omega)] at h1; cases h1
    exact h i cs[i] x (List.getElem?_eq_getElem hi) h1 κ u (hx i _ u (List.getElem?_eq_getElem hi) h2)
theorem vlo_app {P : Program} {t : TypeId} {S : Sg} {β : Nat} {o' : Option Ob} {off : Nat} {R : AV → Prop} (h : S β = o') (hw : vlo P t o' off R) : vlo P t (S β) off R := h ▸ hw
theorem vst_app {i : Option (Option Value × Nat × Nat)} {S : Sg} {b : Nat} {o' : Option Ob} {β off : Nat} {x : AV} {σ : Sg} {R : Sg → Prop} (h : S b = o') (hw : vst i o' β off x σ R) : vst i (S b) β off x σ R := h ▸ hw
end Go.V

/- Literals as they are written: numbers, texts; and how they are read. -/
set_option linter.unusedVariables false
namespace Go.Lex
open Go.V Go.Proofs.YtpfancgcamclnaaDoor
/-- A number's digits. -/
def dec (n : Nat) : List UInt8 := if _h : n < 10 then [UInt8.ofNat (48 + n)] else dec (n / 10) ++ [UInt8.ofNat (48 + n % 10)]
theorem dec_lt {n : Nat} (h : n < 10) : dec n = [UInt8.ofNat (48 + n)] := by rw [dec, dif_pos h]
theorem dec_ge {n : Nat} (h : ¬ n < 10) : dec n = dec (n / 10) ++ [UInt8.ofNat (48 + n % 10)] := by rw [dec, dif_neg h]
theorem ofNat_toNat {n : Nat} (h : n < 10) : (UInt8.ofNat (48 + n)).toNat = 48 + n := by
  rw [UInt8.toNat_ofNat']
  omega
theorem dec_digit : ∀ (n : Nat), ∀ c ∈ dec n, isDigit c = true := by
  intro n
  induction n using Nat.strongRecOn with
  | ind n ih =>
    intro c hc
    have key : ∀ m, m < 10 → isDigit (UInt8.ofNat (48 + m)) = true := fun m hm => by
      unfold isDigit
      rw [ofNat_toNat hm]
      simp
      omega
    by_cases h : n < 10
    · rw [dec_lt h] at hc
      simp only [List.mem_singleton] at hc
      rw [hc]
      exact key n h
    · rw [dec_ge h, List.mem_append] at hc
      rcases hc with hc | hc
      · exact ih _ (by omega) c hc
      · simp only [List.mem_singleton] at hc
        rw [hc]
        exact key _ (by omega)
theorem dec_ne (n : Nat) : dec n ≠ [] := by
  by_cases h : n < 10
  · rw [dec_lt h]; simp
  · rw [dec_ge h]; simp
theorem num_app (a : List UInt8) : ∀ (n m : Nat) (b : List UInt8), num a n = some m → num (a ++ b) n = num b m := by
  induction a with
  | nil => intro n m b h; cases h; rfl
  | cons c r ih =>
    intro n m b h
    rw [List.cons_append]
    rw [num] at h
    rw [num]
    by_cases ho : 9223372036854775807 < 10 * n + (c.toNat - 48)
    · rw [if_pos ho] at h; cases h
    · rw [if_neg ho] at h; rw [if_neg ho]; exact ih _ _ _ h
theorem num_dec : ∀ (n : Nat), n ≤ 9223372036854775807 → num (dec n) 0 = some n := by
  intro n
  induction n using Nat.strongRecOn with
  | ind n ih =>
    intro hn
    by_cases h : n < 10
    · rw [dec_lt h]
      unfold num
      rw [ofNat_toNat h, if_neg (by omega)]
      unfold num
      congr 1
      omega
    · rw [dec_ge h, num_app _ _ _ _ (ih (n / 10) (by omega) (by omega))]
      unfold num
      rw [ofNat_toNat (by omega), if_neg (by omega)]
      unfold num
      congr 1
      omega
theorem pre_full {p : UInt8 → Bool} : ∀ {a b : List UInt8}, (∀ c ∈ a, p c = true) → (∀ c r, b = c :: r → p c = false) → pre p (a ++ b) = a.length
  | [], [], _, _ => rfl
  | [], c :: r, _, h => by
    unfold pre
    rw [List.nil_append, List.takeWhile_cons, if_neg (by rw [h c r rfl]; simp)]
  | x :: a, b, h1, h2 => by
    have := pre_full (p := p) (a := a) (b := b) (fun c hc => h1 c (by simp [hc])) h2
    unfold pre at this ⊢
    rw [List.cons_append, List.takeWhile_cons, if_pos (h1 x (by simp)), List.length_cons, this, List.length_cons]
theorem dig_not {c : UInt8} (h : isDigit c = true) : c.toNat ≠ 39 ∧ isFirst c = false ∧ isGreat c = false ∧ ws c = false ∧ c.toNat ≠ 45 := by
  have h1 : 48 ≤ c.toNat ∧ c.toNat ≤ 57 := by simpa [isDigit] using h
  refine ⟨by omega, ?_, ?_, ?_, by omega⟩
  · unfold isFirst
    rw [decide_eq_false (by omega), decide_eq_false (p := c.toNat = 95) (by omega)]
    rfl
  · unfold isGreat
    rw [decide_eq_false (by omega)]
    rfl
  · cases hh : ws c with
    | false => rfl
    | true => have := (ws_iff c).1 hh; omega
/-- What may stand right behind a number, a word, a name. -/
def Loose (b : List UInt8) : Prop := ∀ c r, b = c :: r → isSmall c = false ∧ isGreat c = false
theorem loose_nil : Loose [] := fun _ _ h => by cases h
theorem loose_blank (r : List UInt8) : Loose (32 :: r) := fun c r' h => by cases h; exact ⟨by decide, by decide⟩
theorem blanks_head {c : UInt8} {r : List UInt8} (hw : ws c = false) (h : c.toNat ≠ 45) : blanks (c :: r) = 0 := by
  have := blanks_end (l := c :: r) (k := 0) (by simp) hw (no_dd (by simp) h)
  simpa using this
theorem glue_loose {a b : List UInt8} (h : Loose b) : glue (a ++ b) a.length = false := by
  cases b with
  | nil => exact noglue2 (by simp)
  | cons c r =>
    have hc := h c r rfl
    have hg : (a ++ c :: r).getD a.length 0 = c := by
      rw [List.getD_eq_getElem?_getD, List.getElem?_append_right (Nat.le_refl _)]
      simp
    exact noglue1 (by rw [hg, hc.1]; simp) (by rw [hg, hc.2]; simp)
theorem tok1_dec {n : Nat} (hn : n ≤ 9223372036854775807) {b : List UInt8} (hb : Loose b) : tok1 (dec n ++ b) = .ok (3, [], n, (dec n).length) := by
  have hd := dec_digit n
  cases h0 : dec n with
  | nil => exact absurd h0 (dec_ne n)
  | cons c r =>
    have hc := hd c (by rw [h0]; simp)
    obtain ⟨g1, g2, g3, _⟩ := dig_not hc
    have hg : (c :: r ++ b).getD 0 0 = c := rfl
    have hp : pre isDigit (c :: r ++ b) = (c :: r).length := by
      refine pre_full (fun x hx => hd x (by rw [h0]; exact hx)) (fun x r' hx => ?_)
      have := (hb x r' hx).1
      unfold isSmall at this
      simpa using (Bool.or_eq_false_iff.1 this).2
    unfold tok1
    rw [hg, if_neg g1, if_neg (by rw [g2]; simp), if_neg (by rw [g3]; simp), if_pos hc, hp]
    refine wl_ok (wordT_3 (glue_loose hb) ?_)
    rw [List.take_left, ← h0]
    exact num_dec n hn
theorem dec_head {n : Nat} {b : List UInt8} : blanks (dec n ++ b) = 0 := by
  cases h0 : dec n with
  | nil => exact absurd h0 (dec_ne n)
  | cons c r =>
    have hc := dec_digit n c (by rw [h0]; simp)
    obtain ⟨_, _, _, g4, g5⟩ := dig_not hc
    exact blanks_head g4 g5
/-! ### Texts -/
def quo : List UInt8 → List UInt8
  | [] => []
  | c :: r => if c = 39 then 39 :: 39 :: quo r else c :: quo r
/-- A text in quotes. -/
def quoteL (t : List UInt8) : List UInt8 := 39 :: (quo t ++ [39])
theorem qd_quo {b : List UInt8} (hb : ∀ c r, b = c :: r → c ≠ 39) : ∀ t : List UInt8, qd (quo t ++ 39 :: b) = some (t, (quo t).length + 1)
  | [] => qd_close hb
  | c :: r => by
    have ih := qd_quo hb r
    unfold quo
    split
    · rename_i h
      rw [List.cons_append, List.cons_append, qd_two, ih, h]
      simp [qa]
      omega
    · rename_i h
      rw [List.cons_append, qd_other h, ih]
      simp [qa]
      omega
theorem tok1_quote {t b : List UInt8} (ht : t.length ≤ 40) (hb : ∀ c r, b = c :: r → c ≠ 39) : tok1 (quoteL t ++ b) = .ok (4, t, 0, (quoteL t).length) := by
  have h0 : quoteL t ++ b = 39 :: (quo t ++ 39 :: b) := by unfold quoteL; simp
  have hq : qd ((39 :: (quo t ++ 39 :: b)).drop 1) = some (t, (quo t).length + 1) := qd_quo hb t
  rw [h0, tok1_q (by rfl), quotedT_ok hq (by omega)]
  have : (quoteL t).length = 1 + ((quo t).length + 1) := by unfold quoteL; simp; omega
  rw [this]
theorem quote_head {t b : List UInt8} : blanks (quoteL t ++ b) = 0 := blanks_head (by decide) (by decide)
/-- One token, and the end. -/
theorem toks_one {r : List UInt8} {k v : Nat} {t : List UInt8} (hr : r ≠ []) (hb : blanks r = 0) (ht : tok1 r = .ok (k, t, v, r.length)) (a : Nat) : toks r a = .ok [(k, t, v, a), (6, [], 0, a + r.length)] := by
  have hp : 0 < r.length := List.length_pos_iff.2 hr
  rw [toks_ok (by rw [hb]; exact hp) (by rw [hb]; exact ht), hb]
  have he : r.drop (0 + r.length) = [] := by rw [Nat.zero_add, List.drop_length]
  rw [he, toks_end (by simp)]
  have : blanks [] = 0 := blanks_stop rfl
  rw [this]
  simp [appE]
theorem quo_len : ∀ t : List UInt8, (quo t).length ≤ 2 * t.length
  | [] => Nat.le_refl _
  | c :: r => by
    have := quo_len r
    unfold quo
    split <;> simp <;> omega
theorem dec_len : ∀ n : Nat, ∀ k, n < 10 ^ (k + 1) → (dec n).length ≤ k + 1 := by
  intro n
  induction n using Nat.strongRecOn with
  | ind n ih =>
    intro k hk
    by_cases h : n < 10
    · rw [dec_lt h]; simp
    · cases k with
      | zero => omega
      | succ k =>
        rw [dec_ge h, List.length_append]
        have := ih (n / 10) (by omega) k (by rw [Nat.pow_succ] at hk; omega)
        simp
        omega
theorem lex_dec {n : Nat} (hn : n ≤ 9223372036854775807) : lexAll (dec n) = .ok [(3, [], n, 0), (6, [], 0, (dec n).length)] := by
  have hl := dec_len n 19 (by omega)
  have h1 := tok1_dec hn loose_nil
  have h2 := dec_head (n := n) (b := [])
  rw [List.append_nil] at h1 h2
  have := toks_one (dec_ne n) h2 h1 0
  rw [Nat.zero_add] at this
  exact lexAll_ok (by omega) this
theorem lex_quote {t : List UInt8} (ht : t.length ≤ 40) : lexAll (quoteL t) = .ok [(4, t, 0, 0), (6, [], 0, (quoteL t).length)] := by
  have hl := quo_len t
  have h1 := tok1_quote (b := []) ht (fun _ _ h => by cases h)
  have h2 := quote_head (t := t) (b := [])
  rw [List.append_nil] at h1 h2
  have := toks_one (r := quoteL t) (by unfold quoteL; simp) h2 h1 0
  rw [Nat.zero_add] at this
  exact lexAll_ok (by unfold quoteL; simp; omega) this
theorem lex_null : lexAll [78, 85, 76, 76] = .ok [(2, [78, 85, 76, 76], 0, 0), (6, [], 0, 4)] := by
  have h : (match lexAll [78, 85, 76, 76] with | .ok l => l | .error _ => []) = [(2, [78, 85, 76, 76], 0, 0), (6, [], 0, 4)] := by decide +kernel
  cases hl : lexAll [78, 85, 76, 76] with
  | ok l => rw [hl] at h; exact congrArg _ h
  | error e => rw [hl] at h; cases h
end Go.Lex

/- Digits as strconv writes them: pairs, and how many there are. -/
set_option linter.unusedVariables false
namespace Go.Lex
open Go.V Go.Proofs.YtpfancgcamclnaaDoor
/-- k digits. -/
def padD : Nat → Nat → List UInt8
  | 0, _ => []
  | k + 1, u => padD k (u / 10) ++ [UInt8.ofNat (48 + u % 10)]
theorem padD_len : ∀ k u, (padD k u).length = k
  | 0, u => rfl
  | k + 1, u => by rw [padD, List.length_append, padD_len k]; rfl
theorem padD_add (j : Nat) : ∀ k u, padD (j + k) u = padD j (u / 10 ^ k) ++ padD k u
  | 0, u => by rw [Nat.add_zero, Nat.pow_zero, Nat.div_one, padD, List.append_nil]
  | k + 1, u => by
    rw [← Nat.add_assoc, padD, padD_add j k, padD, Nat.div_div_eq_div_mul, Nat.pow_succ, Nat.mul_comm 10, List.append_assoc]
theorem dec_pad : ∀ (k u : Nat), (k = 0 ∨ 10 ^ k ≤ u) → u < 10 ^ (k + 1) → dec u = padD (k + 1) u
  | 0, u, _, h => by
    rw [dec_lt (by omega), padD, padD, List.nil_append, Nat.mod_eq_of_lt (by omega)]
  | k + 1, u, h1, h2 => by
    have h3 : 10 ^ (k + 1) ≤ u := by rcases h1 with h | h <;> omega
    rw [Nat.pow_succ] at h2 h3
    have hp : 1 ≤ 10 ^ k := Nat.one_le_pow _ _ (by decide)
    rw [dec_ge (by omega), padD, dec_pad k (u / 10) (.inr (by omega)) (by omega)]
theorem pad2 (u : Nat) : padD 2 u = [UInt8.ofNat (48 + u / 10 % 10), UInt8.ofNat (48 + u % 10)] := rfl
theorem pad4 (u : Nat) : padD 4 u = [UInt8.ofNat (48 + u / 10 / 10 / 10 % 10), UInt8.ofNat (48 + u / 10 / 10 % 10), UInt8.ofNat (48 + u / 10 % 10), UInt8.ofNat (48 + u % 10)] := rfl
theorem pad8 (u : Nat) : padD 8 u = [UInt8.ofNat (48 + u / 10 / 10 / 10 / 10 / 10 / 10 / 10 % 10), UInt8.ofNat (48 + u / 10 / 10 / 10 / 10 / 10 / 10 % 10), UInt8.ofNat (48 + u / 10 / 10 / 10 / 10 / 10 % 10), UInt8.ofNat (48 + u / 10 / 10 / 10 / 10 % 10), UInt8.ofNat (48 + u / 10 / 10 / 10 % 10), UInt8.ofNat (48 + u / 10 / 10 % 10), UInt8.ofNat (48 + u / 10 % 10), UInt8.ofNat (48 + u % 10)] := rfl
/-- How many digits a number of so many bits has, or one less. -/
def nd10 (len : Nat) : Nat := len * 78913 / 262144
theorem nd10_ok : ∀ len, len ≤ 64 → 1 ≤ len → 2 ^ len ≤ 10 ^ (nd10 len + 1) ∧ (nd10 len = 0 ∨ 10 ^ (nd10 len - 1) ≤ 2 ^ (len - 1)) ∧ nd10 len ≤ 19 := by decide +kernel
theorem digits_ok {len u : Nat} (h1 : 1 ≤ len) (h2 : len ≤ 64) (h3 : 2 ^ (len - 1) ≤ u) (h4 : u < 2 ^ len) :
    (10 ^ nd10 len ≤ u → dec u = padD (nd10 len + 1) u) ∧ (u < 10 ^ nd10 len → 1 ≤ nd10 len ∧ dec u = padD (nd10 len) u) := by
  obtain ⟨a, b, c⟩ := nd10_ok len h2 h1
  have hp : 1 ≤ 2 ^ (len - 1) := Nat.one_le_pow _ _ (by decide)
  refine ⟨fun h => dec_pad _ u (.inr h) (by omega), fun h => ?_⟩
  rcases b with b | b
  · rw [b] at h; omega
  · obtain ⟨m, hm⟩ : ∃ m, nd10 len = m + 1 := by
      cases hn : nd10 len with
      | zero => rw [hn] at h; omega
      | succ m => exact ⟨m, rfl⟩
    rw [hm] at b h ⊢
    exact ⟨by omega, dec_pad m u (.inr (by simpa using Nat.le_trans b h3)) h⟩
theorem dec_pow : ∀ n, n < 10 ^ (dec n).length := fun n => by
  induction n using Nat.strongRecOn with
  | ind n ih =>
    by_cases h : n < 10
    · rw [dec_lt h]; simpa using h
    · rw [dec_ge h, List.length_append, List.length_singleton, Nat.pow_succ]
      have := ih (n / 10) (by omega)
      omega
theorem dec_padlen : ∀ n, dec n = padD (dec n).length n := fun n => by
  induction n using Nat.strongRecOn with
  | ind n ih =>
    by_cases h : n < 10
    · rw [dec_lt h]
      show _ = padD 1 n
      rw [padD, padD, List.nil_append, Nat.mod_eq_of_lt h]
    · rw [dec_ge h, List.length_append, List.length_singleton, padD, ← ih (n / 10) (by omega)]
end Go.Lex
