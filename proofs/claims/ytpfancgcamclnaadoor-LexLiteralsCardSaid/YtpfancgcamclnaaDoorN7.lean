/- Part 7 of the proof: E5, E8, E9, E11, E10, V14, V16, V18. -/
import Derived.Test.YtpfancgcamclnaaDoorN6
import Derived.Test.YtpfancgcamclnaaDoorN5
import Derived.Test.YtpfancgcamclnaaDoorN3
import GoSem.ClaimChange
import Derived.Below
import Derived.Carry

set_option linter.unusedSimpArgs false
set_option linter.unusedVariables false
namespace Go.Proofs.YtpfancgcamclnaaDoor
open Go Go.V Go.Lex
theorem e47 (l : List UInt8) (c : UInt8) (σ : Sg) : VCalls Tryd.prog 47 [.s (bs l), .u8 c.toNat] σ (fun x σ' => x = .i (l.count c : Nat) ∧ σ' = σ) := by
  have := vCountString (P := Tryd.prog) (σ := σ) (s := bs l) (c := c) Tryd.func47 (by kernel_rfl) (by kernel_rfl) (by kernel_rfl) (by kernel_rfl)
  rw [bs_toList] at this
  exact this
theorem e58 (n : Nat) (hn : n ≤ 281474976710656) (σ : Sg) : VCalls Tryd.prog 58 [.i n] σ (fun y σ' => ∃ τ, σ τ = none ∧ y = .nz τ n 1 ∧ σ' = σ.set τ (.tok (some 5))) :=
  vMakeNoZero (P := Tryd.prog) (σ := σ) (ps := Tryd.f58.params) (t := 51) Tryd.func58 (by kernel_rfl) (by kernel_rfl) (by kernel_rfl) (by kernel_rfl) Tryd.underlying51 hn
set_option maxHeartbeats 400000 in
set_option maxRecDepth 100000 in
theorem e35 (l : List UInt8) (c : UInt8) (σ : Sg) : VCalls Tryd.prog 35 [.s (bs l), .s (bs [c])] σ (fun x σ' => x = .i (l.count c : Nat) ∧ σ' = σ) := by
  (refine vfun (fun _ => .no) mixed Tryd.func35 (by kernel_rfl) ?_; simp only [bodyOf, Tryd.f35, Option.getD_some])
  repeat' (first | with_reducible rfl | exact .inr trivial | with_reducible apply And.intro | with_reducible apply vqx_step | with_reducible apply vqm_step | with_reducible refine vkp_free (by decide +kernel) ?_ | with_reducible intro _ | ((first | (with_reducible first | refine .rs ?_ | refine .ds (by kernel_rfl) ?_ | refine .dg (by kernel_rfl) ?_ | refine .rg ?_ | refine .ite ?_ | refine .ret ?_ | refine .skip ?_ | refine .exit ?_ | refine .scope ?_ | refine .seq (.label ?_) | refine .block ?_ | refine .seq ?_) | (simp (disch := first | assumption | (apply Go.Cert.ne_of2; assumption; assumption) | (apply Go.Cert.ne_ob; assumption; assumption; (intro e; cases e; done)) | omega) only [w64, w8, tg_eq, Go.V.n1, Go.V.n2, Go.V.nn, Int.tdiv_eq_ediv_of_nonneg, Sg.set_same, Sg.set_ne, Sg.set_ne', Sg.del_ne, Sg.del_ne']) | ((with_reducible refine VCalls.mono (e47 l c _) ?_); rintro _ S ⟨rfl, rfl⟩)); (try simp only [vO, vQ, ↓vP, vE, vS, vB, vL, vF, vM, vN, vbs_full, Nat.reduceEqDiff, Nat.reduceAdd, Nat.reduceLeDiff, ne_eq, not_false_eq_true, Nat.reduceMul, Nat.reduceSub, Int.toNat_zero, Int.reduceToNat, Tryd.underlying3, info3, Tryd.underlying5, info5, Tryd.underlying9, info9, List.getD_cons_zero, vT])) | with_reducible refine vfresh_set ?_ | with_reducible refine vfresh_intro (fun _ _ => ?_) | with_reducible refine vif_intro (fun _ => ?_) (fun _ => ?_) | omega | ((with_reducible first | refine vop_at ?_ | refine vops_at ?_ | refine vquiet_at ?_ | refine vmix_at ?_ | refine Holds_at ?_); simp only [vO, vQ, ↓vP, vE, vS, vB, vL, vF, vM, vN, vbs_full, Nat.reduceEqDiff, Nat.reduceAdd, Nat.reduceLeDiff, ne_eq, not_false_eq_true, Nat.reduceMul, Nat.reduceSub, Int.toNat_zero, Int.reduceToNat, Tryd.underlying3, info3, Tryd.underlying5, info5, Tryd.underlying9, info9, List.getD_cons_zero, vT]))
  all_goals (first | ((first | refine ⟨_, ?_, rfl⟩ | refine ⟨_, ?_, rfl, rfl⟩ | refine ⟨_, ?_⟩); (first | exact Sg.sub.refl _ | ((repeat (first | exact Sg.sub.refl _ | refine Sg.sub.set_both ?_ | refine Sg.sub.set_fresh ?_ (by first | assumption | exact Sg.set_none (by assumption) (by first | assumption | (apply Go.Cert.ne_of2a; assumption; assumption))))); done) | (intro y p hy; simp only [Sg.set_apply, Sg.del_apply] at hy ⊢; grind))) | (exfalso; omega))
theorem cap51 (ty : TypeId) (l : List TypeId) (σ : Sg) (R : AV → Sg → Prop) : vbuiltin Tryd.prog .cap [.sl .nil []] (List.toArray (51 :: l)) ty σ R = R (.i 0) σ := cap_nil 51 5 ty l σ R Tryd.underlying51
theorem vsl_nz0 (e : TypeId) (τ n sz : Nat) (k : IntKind) (σ : Sg) (R : AV → Prop) : vsl Tryd.prog (some (.slice e)) (.nz τ n sz) none (some (.val (.int k ((0 : Nat) : Int)))) none σ R = vixE (tInfo Tryd.prog e) (fun s => s = sz ∧ R (.sl (.tok τ sz) [])) := vsl_nz e τ n sz k σ R
theorem cpy51 (x y : AV) (ty : TypeId) (l : List TypeId) (σ : Sg) (R : AV → Sg → Prop) : vbuiltin Tryd.prog .copy [x, y] (List.toArray (51 :: l)) ty σ R = vcopy Tryd.prog 51 x y σ R := rfl
theorem copy51 (τ sz : Nat) (σ : Sg) (R : AV → Sg → Prop) : vcopy Tryd.prog 51 (.sl (.tok τ sz) []) (.sl .nil []) σ R = R (.i 0) σ := vcopy_nil 51 5 τ sz σ R Tryd.underlying51 (by rw [info5]; rfl)
set_option maxHeartbeats 400000 in
set_option maxRecDepth 100000 in
theorem e48 (β n : Nat) (σ : Sg) (hβ : σ β = some (.cells 53 [.ref β 0, .sl .nil []])) (hn : n ≤ 281474976710656) : VCalls Tryd.prog 48 [.ref β 0, .i n] σ (fun x σ' => x = .tup [] ∧ ∃ τ, σ τ = none ∧ σ' = (σ.set τ (.tok (some 5))).set β (.cells 53 [.ref β 0, .sl (.tok τ 1) []])) := by
  have h58 := fun S => e58 n hn S
  (refine vfun (fun _ => .no) mixed Tryd.func48 (by kernel_rfl) ?_; simp only [bodyOf, Tryd.f48, Option.getD_some])
  repeat' (first | with_reducible rfl | exact .inr trivial | with_reducible apply And.intro | with_reducible apply vqx_step | with_reducible apply vqm_step | with_reducible refine vkp_free (by decide +kernel) ?_ | with_reducible intro _ | ((with_reducible refine .dms (fun x => x = β) [(0, false), (1, false), (2, false), (3, false), (4, false), (5, false), (6, false), (7, false), (9, false), (10, false), (11, false), (12, false), (13, false), (8, true), (14, false), (15, false)] (by decide) (by decide +kernel) ?_); (simp only [vO, vQ, ↓vP, vE, vS, vB, vL, vF, vM, vN, vbs_full, Nat.reduceEqDiff, Nat.reduceAdd, Nat.reduceLeDiff, ne_eq, not_false_eq_true, Nat.reduceMul, Nat.reduceSub, Int.toNat_zero, Int.reduceToNat, Tryd.underlying3, info3, Tryd.underlying50, info50, Tryd.underlying53, info53, Tryd.underlying51, info51, Tryd.underlying5, info5, hβ, cap51, cpy51, copy51, vsl_nz0, Int.mul_zero, Int.zero_add, vT])) | ((first | (with_reducible first | refine .rs ?_ | refine .ds (by kernel_rfl) ?_ | refine .dg (by kernel_rfl) ?_ | refine .rg ?_ | refine .ite ?_ | refine .ret ?_ | refine .skip ?_ | refine .exit ?_ | refine .scope ?_ | refine .seq (.label ?_) | refine .block ?_ | refine .seq ?_) | (simp (disch := first | assumption | (apply Go.Cert.ne_of2; assumption; assumption) | (apply Go.Cert.ne_ob; assumption; assumption; (intro e; cases e; done)) | omega) only [w64, w8, tg_eq, Go.V.n1, Go.V.n2, Go.V.nn, Int.tdiv_eq_ediv_of_nonneg, Sg.set_same, Sg.set_ne, Sg.set_ne', Sg.del_ne, Sg.del_ne']) | (refine vkp_keep (by intro β h; first | (rcases h with h | h <;> subst h <;> (simp (disch := first | assumption | (apply Go.Cert.ne_of2; assumption; assumption) | (apply Go.Cert.ne_ob; assumption; assumption; (intro e; cases e; done)) | omega) only [Sg.set_same, Sg.set_ne, Sg.set_ne', Sg.del_ne, Sg.del_ne'])) | (subst h; (simp (disch := first | assumption | (apply Go.Cert.ne_of2; assumption; assumption) | (apply Go.Cert.ne_ob; assumption; assumption; (intro e; cases e; done)) | omega) only [Sg.set_same, Sg.set_ne, Sg.set_ne', Sg.del_ne, Sg.del_ne']))) ?_) | ((with_reducible refine VCalls.mono (h58 _) ?_); rintro _ S ⟨τ, hτ, rfl, rfl⟩) | (refine vlo_app (o' := some (.cells 53 [.ref β 0, .sl .nil []])) (keepAt (by assumption) (by first | assumption | ((simp (disch := first | assumption | (apply Go.Cert.ne_of2; assumption; assumption) | (apply Go.Cert.ne_ob; assumption; assumption; (intro e; cases e; done)) | omega) only [Sg.set_same, Sg.set_ne, Sg.set_ne', Sg.del_ne, Sg.del_ne']); first | done | rfl | assumption))) ?_) | (refine vlo_app (by first | assumption | ((simp (disch := first | assumption | (apply Go.Cert.ne_of2; assumption; assumption) | (apply Go.Cert.ne_ob; assumption; assumption; (intro e; cases e; done)) | omega) only [Sg.set_same, Sg.set_ne, Sg.set_ne', Sg.del_ne, Sg.del_ne']); first | done | rfl | assumption)) ?_) | (refine vst_app (by first | assumption | ((simp (disch := first | assumption | (apply Go.Cert.ne_of2; assumption; assumption) | (apply Go.Cert.ne_ob; assumption; assumption; (intro e; cases e; done)) | omega) only [Sg.set_same, Sg.set_ne, Sg.set_ne', Sg.del_ne, Sg.del_ne']); first | done | rfl | assumption)) ?_)); (try simp only [vO, vQ, ↓vP, vE, vS, vB, vL, vF, vM, vN, vbs_full, Nat.reduceEqDiff, Nat.reduceAdd, Nat.reduceLeDiff, ne_eq, not_false_eq_true, Nat.reduceMul, Nat.reduceSub, Int.toNat_zero, Int.reduceToNat, Tryd.underlying3, info3, Tryd.underlying50, info50, Tryd.underlying53, info53, Tryd.underlying51, info51, Tryd.underlying5, info5, hβ, cap51, cpy51, copy51, vsl_nz0, Int.mul_zero, Int.zero_add, vT])) | with_reducible refine vfresh_set ?_ | with_reducible refine vfresh_intro (fun _ _ => ?_) | with_reducible refine vif_intro (fun _ => ?_) (fun _ => ?_) | omega | ((with_reducible first | refine vop_at ?_ | refine vops_at ?_ | refine vquiet_at ?_ | refine vmix_at ?_ | refine Holds_at ?_); simp only [vO, vQ, ↓vP, vE, vS, vB, vL, vF, vM, vN, vbs_full, Nat.reduceEqDiff, Nat.reduceAdd, Nat.reduceLeDiff, ne_eq, not_false_eq_true, Nat.reduceMul, Nat.reduceSub, Int.toNat_zero, Int.reduceToNat, Tryd.underlying3, info3, Tryd.underlying50, info50, Tryd.underlying53, info53, Tryd.underlying51, info51, Tryd.underlying5, info5, hβ, cap51, cpy51, copy51, vsl_nz0, Int.mul_zero, Int.zero_add, vT]))
  all_goals exact ⟨_, .refl _, _, hτ, rfl⟩
set_option maxHeartbeats 400000 in
set_option maxRecDepth 100000 in
theorem e36 (β n : Nat) (σ : Sg) (h0 : σ β = none) (hn0 : 0 < n) (hn : n ≤ 281474976710656) : VCalls Tryd.prog 36 [.ref β 0, .i n] (σ.set β (.cells 53 [.val (.pointer none), .sl .nil []])) (fun x σ' => x = .tup [] ∧ Bld β [] σ σ') := by
  have h48 := fun S hS => e48 β n S hS hn
  (refine vfun (fun _ => .no) mixed Tryd.func36 (by kernel_rfl) ?_; simp only [bodyOf, Tryd.f36, Option.getD_some])
  repeat' (first | with_reducible rfl | exact .inr trivial | with_reducible apply And.intro | with_reducible apply vqx_step | with_reducible apply vqm_step | with_reducible refine vkp_free (by decide +kernel) ?_ | with_reducible intro _ | ((first | (with_reducible first | refine .rs ?_ | refine .ds (by kernel_rfl) ?_ | refine .dg (by kernel_rfl) ?_ | refine .rg ?_ | refine .ite ?_ | refine .ret ?_ | refine .skip ?_ | refine .exit ?_ | refine .scope ?_ | refine .seq (.label ?_) | refine .block ?_ | refine .seq ?_) | (simp (disch := first | assumption | (apply Go.Cert.ne_of2; assumption; assumption) | (apply Go.Cert.ne_ob; assumption; assumption; (intro e; cases e; done)) | omega) only [w64, w8, tg_eq, Go.V.n1, Go.V.n2, Go.V.nn, Int.tdiv_eq_ediv_of_nonneg, Sg.set_same, Sg.set_ne, Sg.set_ne', Sg.del_ne, Sg.del_ne']) | with_reducible refine (t115 β _ _ _ (Sg.set_same _ _ _) (.inl rfl)).use ?_ | ((with_reducible refine VCalls.mono (h48 _ (by first | assumption | ((simp (disch := first | assumption | (apply Go.Cert.ne_of2; assumption; assumption) | (apply Go.Cert.ne_ob; assumption; assumption; (intro e; cases e; done)) | omega) only [Sg.set_same, Sg.set_ne, Sg.set_ne', Sg.del_ne, Sg.del_ne']); first | done | rfl | assumption))) ?_); rintro _ S ⟨rfl, τ, hτ, rfl⟩) | (refine vlo_app (by first | assumption | ((simp (disch := first | assumption | (apply Go.Cert.ne_of2; assumption; assumption) | (apply Go.Cert.ne_ob; assumption; assumption; (intro e; cases e; done)) | omega) only [Sg.set_same, Sg.set_ne, Sg.set_ne', Sg.del_ne, Sg.del_ne']); first | done | rfl | assumption)) ?_) | (refine vst_app (by first | assumption | ((simp (disch := first | assumption | (apply Go.Cert.ne_of2; assumption; assumption) | (apply Go.Cert.ne_ob; assumption; assumption; (intro e; cases e; done)) | omega) only [Sg.set_same, Sg.set_ne, Sg.set_ne', Sg.del_ne, Sg.del_ne']); first | done | rfl | assumption)) ?_)); (try simp only [vO, vQ, ↓vP, vE, vS, vB, vL, vF, vM, vN, vbs_full, Nat.reduceEqDiff, Nat.reduceAdd, Nat.reduceLeDiff, ne_eq, not_false_eq_true, Nat.reduceMul, Nat.reduceSub, Int.toNat_zero, Int.reduceToNat, Tryd.underlying3, info3, Tryd.underlying50, info50, Tryd.underlying53, info53, Tryd.underlying51, info51, Tryd.underlying5, info5, cap51, vT])) | with_reducible refine vfresh_set ?_ | with_reducible refine vfresh_intro (fun _ _ => ?_) | with_reducible refine vif_intro (fun _ => ?_) (fun _ => ?_) | omega | ((with_reducible first | refine vop_at ?_ | refine vops_at ?_ | refine vquiet_at ?_ | refine vmix_at ?_ | refine Holds_at ?_); simp only [vO, vQ, ↓vP, vE, vS, vB, vL, vF, vM, vN, vbs_full, Nat.reduceEqDiff, Nat.reduceAdd, Nat.reduceLeDiff, ne_eq, not_false_eq_true, Nat.reduceMul, Nat.reduceSub, Int.toNat_zero, Int.reduceToNat, Tryd.underlying3, info3, Tryd.underlying50, info50, Tryd.underlying53, info53, Tryd.underlying51, info51, Tryd.underlying5, info5, cap51, vT]))
  obtain ⟨hne, h1⟩ := Sg.of_set_none hτ
  exact ⟨(σ.set τ (.tok (some 5))).set β (.cells 53 [.ref β 0, .sl (.tok τ 1) []]), (by intro y p hy; simp only [Sg.set_apply, Sg.del_apply] at hy ⊢; grind), h0, .inr ⟨τ, hne, h1, rfl⟩⟩
set_option maxHeartbeats 400000 in
set_option maxRecDepth 100000 in
theorem e49 (l : List UInt8) (c : UInt8) (σ : Sg) : VCalls Tryd.prog 49 [.s (bs l), .s (bs [c])] σ (fun x σ' => x = .i (if upTo c l < l.length then (upTo c l : Nat) else -1) ∧ σ' = σ) := by
  have h39 := fun σ => t114 l c σ
  (refine vfun (fun _ => .no) mixed Tryd.func49 (by kernel_rfl) ?_; simp only [bodyOf, Tryd.f49, Option.getD_some])
  repeat' (first | with_reducible rfl | exact .inr trivial | with_reducible apply And.intro | with_reducible apply vqx_step | with_reducible apply vqm_step | with_reducible refine vkp_free (by decide +kernel) ?_ | with_reducible intro _ | ((first | (with_reducible first | refine .rs ?_ | refine .ds (by kernel_rfl) ?_ | refine .dg (by kernel_rfl) ?_ | refine .rg ?_ | refine .ite ?_ | refine .ret ?_ | refine .skip ?_ | refine .exit ?_ | refine .scope ?_ | refine .seq (.label ?_) | refine .block ?_ | refine .seq ?_) | (simp (disch := first | assumption | (apply Go.Cert.ne_of2; assumption; assumption) | (apply Go.Cert.ne_ob; assumption; assumption; (intro e; cases e; done)) | omega) only [w64, w8, tg_eq, Go.V.n1, Go.V.n2, Go.V.nn, Int.tdiv_eq_ediv_of_nonneg, Sg.set_same, Sg.set_ne, Sg.set_ne', Sg.del_ne, Sg.del_ne']) | ((with_reducible refine VCalls.mono (h39 _) ?_); rintro _ S ⟨rfl, rfl⟩)); (try simp only [vO, vQ, ↓vP, vE, vS, vB, vL, vF, vM, vN, vbs_full, Nat.reduceEqDiff, Nat.reduceAdd, Nat.reduceLeDiff, ne_eq, not_false_eq_true, Nat.reduceMul, Nat.reduceSub, Int.toNat_zero, Int.reduceToNat, Tryd.underlying3, info3, Tryd.underlying5, info5, Tryd.underlying9, info9, List.getD_cons_zero, vT])) | with_reducible refine vfresh_set ?_ | with_reducible refine vfresh_intro (fun _ _ => ?_) | with_reducible refine vif_intro (fun _ => ?_) (fun _ => ?_) | omega | ((with_reducible first | refine vop_at ?_ | refine vops_at ?_ | refine vquiet_at ?_ | refine vmix_at ?_ | refine Holds_at ?_); simp only [vO, vQ, ↓vP, vE, vS, vB, vL, vF, vM, vN, vbs_full, Nat.reduceEqDiff, Nat.reduceAdd, Nat.reduceLeDiff, ne_eq, not_false_eq_true, Nat.reduceMul, Nat.reduceSub, Int.toNat_zero, Int.reduceToNat, Tryd.underlying3, info3, Tryd.underlying5, info5, Tryd.underlying9, info9, List.getD_cons_zero, vT]))
  · rename_i hc
    subst hc
    exact ⟨_, .refl _, by simp [upTo], rfl⟩
  · exact ⟨_, .refl _, rfl⟩
set_option maxHeartbeats 400000 in
set_option maxRecDepth 100000 in
theorem e37 (l : List UInt8) (σ : Sg) : VCalls Tryd.prog 37 [.s (bs l), .s (bs [39])] σ (fun x σ' => x = .i (if upTo 39 l < l.length then (upTo 39 l : Nat) else -1) ∧ σ' = σ) := by
  have h49 : ∀ σ, VCalls Tryd.prog 49 [.s (bs l), .s (bs [39])] σ _ := fun σ => e49 l 39 σ
  (refine vfun (fun _ => .no) mixed Tryd.func37 (by kernel_rfl) ?_; simp only [bodyOf, Tryd.f37, Option.getD_some])
  repeat' (first | with_reducible rfl | exact .inr trivial | with_reducible apply And.intro | with_reducible apply vqx_step | with_reducible apply vqm_step | with_reducible refine vkp_free (by decide +kernel) ?_ | with_reducible intro _ | ((first | (with_reducible first | refine .rs ?_ | refine .ds (by kernel_rfl) ?_ | refine .dg (by kernel_rfl) ?_ | refine .rg ?_ | refine .ite ?_ | refine .ret ?_ | refine .skip ?_ | refine .exit ?_ | refine .scope ?_ | refine .seq (.label ?_) | refine .block ?_ | refine .seq ?_) | (simp (disch := first | assumption | (apply Go.Cert.ne_of2; assumption; assumption) | (apply Go.Cert.ne_ob; assumption; assumption; (intro e; cases e; done)) | omega) only [w64, w8, tg_eq, Go.V.n1, Go.V.n2, Go.V.nn, Int.tdiv_eq_ediv_of_nonneg, Sg.set_same, Sg.set_ne, Sg.set_ne', Sg.del_ne, Sg.del_ne']) | ((with_reducible refine VCalls.mono (h49 _) ?_); rintro _ S ⟨rfl, rfl⟩)); (try simp only [vO, vQ, ↓vP, vE, vS, vB, vL, vF, vM, vN, vbs_full, Nat.reduceEqDiff, Nat.reduceAdd, Nat.reduceLeDiff, ne_eq, not_false_eq_true, Nat.reduceMul, Nat.reduceSub, Int.toNat_zero, Int.reduceToNat, Tryd.underlying3, info3, Tryd.underlying5, info5, Tryd.underlying9, info9, vT])) | with_reducible refine vfresh_set ?_ | with_reducible refine vfresh_intro (fun _ _ => ?_) | with_reducible refine vif_intro (fun _ => ?_) (fun _ => ?_) | omega | ((with_reducible first | refine vop_at ?_ | refine vops_at ?_ | refine vquiet_at ?_ | refine vmix_at ?_ | refine Holds_at ?_); simp only [vO, vQ, ↓vP, vE, vS, vB, vL, vF, vM, vN, vbs_full, Nat.reduceEqDiff, Nat.reduceAdd, Nat.reduceLeDiff, ne_eq, not_false_eq_true, Nat.reduceMul, Nat.reduceSub, Int.toNat_zero, Int.reduceToNat, Tryd.underlying3, info3, Tryd.underlying5, info5, Tryd.underlying9, info9, vT]))
  all_goals (first | ((first | refine ⟨_, ?_, rfl⟩ | refine ⟨_, ?_, rfl, rfl⟩ | refine ⟨_, ?_⟩); (first | exact Sg.sub.refl _ | ((repeat (first | exact Sg.sub.refl _ | refine Sg.sub.set_both ?_ | refine Sg.sub.set_fresh ?_ (by first | assumption | exact Sg.set_none (by assumption) (by first | assumption | (apply Go.Cert.ne_of2a; assumption; assumption))))); done) | (intro y p hy; simp only [Sg.set_apply, Sg.del_apply] at hy ⊢; grind))) | (exfalso; omega))
end Go.Proofs.YtpfancgcamclnaaDoor
namespace Go.Lex
open Go.V Go.Proofs.YtpfancgcamclnaaDoor
theorem quo_count0 : ∀ {l : List UInt8}, l.count 39 = 0 → quo l = l
  | [], _ => rfl
  | c :: r, h => by
    rw [List.count_cons] at h
    have h1 : c ≠ 39 := fun e => by rw [e] at h; simp at h
    unfold quo
    rw [if_neg h1, quo_count0 (by omega)]
theorem quo_step : ∀ {l : List UInt8}, 0 < l.count 39 → upTo 39 l < l.length ∧ quo l = l.take (upTo 39 l) ++ ([39, 39] ++ quo (l.drop (upTo 39 l + 1))) ∧ l.count 39 = 1 + (l.drop (upTo 39 l + 1)).count 39
  | [], h => by simp at h
  | c :: r, h => by
    by_cases hc : c = 39
    · subst hc
      have : upTo 39 (39 :: r) = 0 := by simp [upTo]
      rw [this]
      refine ⟨by simp, ?_, ?_⟩
      · rw [quo, if_pos rfl]; rfl
      · rw [List.count_cons]; simp; omega
    · have hu : upTo 39 (c :: r) = upTo 39 r + 1 := by simp [upTo, hc]
      have hcc : (c :: r).count 39 = r.count 39 := by rw [List.count_cons]; simp [hc]
      rw [hcc] at h ⊢
      obtain ⟨h1, h2, h3⟩ := quo_step h
      rw [hu]
      refine ⟨by simpa using h1, ?_, ?_⟩
      · rw [quo, if_neg hc, h2]; simp
      · rw [List.drop_succ_cons]; exact h3
theorem quo_len2 : ∀ l : List UInt8, (quo l).length = l.length + l.count 39
  | [] => rfl
  | c :: r => by
    have := quo_len2 r
    unfold quo
    rw [List.count_cons]
    split
    · rename_i h; rw [h]; simp; omega
    · rename_i h; simp [h]; omega
end Go.Lex
namespace Go.Proofs.YtpfancgcamclnaaDoor
open Go Go.V Go.Lex
set_option maxHeartbeats 1000000 in
set_option maxRecDepth 100000 in
theorem e24 (l : List UInt8) (hl : l.length < 2 ^ 38) (σ : Sg) : VCalls Tryd.prog 24 [.s (bs l), .s (bs [39]), .s (bs [39, 39]), .i (-1)] σ (fun x σ' => x = .s (bs (quo l)) ∧ σ' = σ) := by
  have h35 : ∀ σ, VCalls Tryd.prog 35 [.s (bs l), .s (bs [39])] σ _ := fun σ => e35 l 39 σ
  have hcl : l.count 39 ≤ l.length := List.count_le_length
  by_cases h0 : l.count 39 = 0
  · rw [quo_count0 h0]
    simp only [h0] at h35
    (refine vfun (fun _ => .no) mixed Tryd.func24 (by kernel_rfl) ?_; simp only [bodyOf, Tryd.f24, Option.getD_some])
    repeat' (first | with_reducible rfl | exact .inr trivial | with_reducible apply And.intro | with_reducible apply vqx_step | with_reducible apply vqm_step | with_reducible refine vkp_free (by decide +kernel) ?_ | with_reducible intro _ | ((first | (with_reducible first | refine .rs ?_ | refine .ds (by kernel_rfl) ?_ | refine .dg (by kernel_rfl) ?_ | refine .rg ?_ | refine .ite ?_ | refine .ret ?_ | refine .skip ?_ | refine .exit ?_ | refine .scope ?_ | refine .seq (.label ?_) | refine .block ?_ | refine .seq ?_) | (simp (disch := first | assumption | (apply Go.Cert.ne_of2; assumption; assumption) | (apply Go.Cert.ne_ob; assumption; assumption; (intro e; cases e; done)) | omega) only [w64, w8, tg_eq, Go.V.n1, Go.V.n2, Go.V.nn, Int.tdiv_eq_ediv_of_nonneg, Sg.set_same, Sg.set_ne, Sg.set_ne', Sg.del_ne, Sg.del_ne']) | ((with_reducible refine VCalls.mono (h35 _) ?_); rintro _ S ⟨rfl, rfl⟩)); (try simp only [vO, vQ, ↓vP, vE, vS, vB, vL, vF, vM, vN, vbs_full, Nat.reduceEqDiff, Nat.reduceAdd, Nat.reduceLeDiff, ne_eq, not_false_eq_true, Nat.reduceMul, Nat.reduceSub, Int.toNat_zero, Int.reduceToNat, Tryd.underlying3, info3, Tryd.underlying5, info5, Tryd.underlying9, info9, vT])) | with_reducible refine vfresh_set ?_ | with_reducible refine vfresh_intro (fun _ _ => ?_) | with_reducible refine vif_intro (fun _ => ?_) (fun _ => ?_) | omega | ((with_reducible first | refine vop_at ?_ | refine vops_at ?_ | refine vquiet_at ?_ | refine vmix_at ?_ | refine Holds_at ?_); simp only [vO, vQ, ↓vP, vE, vS, vB, vL, vF, vM, vN, vbs_full, Nat.reduceEqDiff, Nat.reduceAdd, Nat.reduceLeDiff, ne_eq, not_false_eq_true, Nat.reduceMul, Nat.reduceSub, Int.toNat_zero, Int.reduceToNat, Tryd.underlying3, info3, Tryd.underlying5, info5, Tryd.underlying9, info9, vT]))
    all_goals (first | ((first | refine ⟨_, ?_, rfl⟩ | refine ⟨_, ?_, rfl, rfl⟩ | refine ⟨_, ?_⟩); (first | exact Sg.sub.refl _ | ((repeat (first | exact Sg.sub.refl _ | refine Sg.sub.set_both ?_ | refine Sg.sub.set_fresh ?_ (by first | assumption | exact Sg.set_none (by assumption) (by first | assumption | (apply Go.Cert.ne_of2a; assumption; assumption))))); done) | (intro y p hy; simp only [Sg.set_apply, Sg.del_apply] at hy ⊢; grind))) | (exfalso; omega))
  · have h36 : ∀ β S, S β = none → VCalls Tryd.prog 36 [.ref β 0, .val (.int .i64 ((l.length : Int) + (l.count 39 : Nat) * (((2 : Nat) : Int) - ((1 : Nat) : Int))))] (S.set β (.cells 53 [.val (.pointer none), .sl .nil []])) (fun x σ' => x = .tup [] ∧ Bld β [] S σ') := fun β S hS => by
      have e : (l.length : Int) + (l.count 39 : Nat) * (((2 : Nat) : Int) - ((1 : Nat) : Int)) = ((l.length + l.count 39 : Nat) : Int) := by omega
      rw [e]
      exact e36 β (l.length + l.count 39) S hS (by omega) (by omega)
    (refine vfun (fun _ => .no) mixed Tryd.func24 (by kernel_rfl) ?_; simp only [bodyOf, Tryd.f24, Option.getD_some])
    repeat' (first | with_reducible rfl | exact .inr trivial | with_reducible apply And.intro | with_reducible apply vqx_step | with_reducible apply vqm_step | with_reducible refine vkp_free (by decide +kernel) ?_ | with_reducible intro _ | ((first | (with_reducible first | refine .rs ?_ | refine .ds (by kernel_rfl) ?_ | refine .dg (by kernel_rfl) ?_ | refine .rg ?_ | refine .ite ?_ | refine .ret ?_ | refine .skip ?_ | refine .exit ?_ | refine .scope ?_ | refine .seq (.label ?_) | refine .block ?_ | refine .seq ?_) | (simp (disch := first | assumption | (apply Go.Cert.ne_of2; assumption; assumption) | (apply Go.Cert.ne_ob; assumption; assumption; (intro e; cases e; done)) | omega) only [w64, w8, tg_eq, Go.V.n1, Go.V.n2, Go.V.nn, Int.tdiv_eq_ediv_of_nonneg, Sg.set_same, Sg.set_ne, Sg.set_ne', Sg.del_ne, Sg.del_ne']) | ((with_reducible refine VCalls.mono (h35 _) ?_); rintro _ S ⟨rfl, rfl⟩) | ((with_reducible refine VCalls.mono (h36 _ _ (by assumption)) ?_); rintro _ S' ⟨rfl, hB⟩)); (try simp only [vO, vQ, ↓vP, vE, vS, vB, vL, vF, vM, vN, vbs_full, Nat.reduceEqDiff, Nat.reduceAdd, Nat.reduceLeDiff, ne_eq, not_false_eq_true, Nat.reduceMul, Nat.reduceSub, Int.toNat_zero, Int.reduceToNat, Tryd.underlying3, info3, Tryd.underlying5, info5, Tryd.underlying9, info9, Tryd.underlying53, info53, vT])) | with_reducible refine vfresh_set ?_ | with_reducible refine vfresh_intro (fun _ _ => ?_) | with_reducible refine vif_intro (fun _ => ?_) (fun _ => ?_) | omega | ((with_reducible first | refine vop_at ?_ | refine vops_at ?_ | refine vquiet_at ?_ | refine vmix_at ?_ | refine Holds_at ?_); simp only [vO, vQ, ↓vP, vE, vS, vB, vL, vF, vM, vN, vbs_full, Nat.reduceEqDiff, Nat.reduceAdd, Nat.reduceLeDiff, ne_eq, not_false_eq_true, Nat.reduceMul, Nat.reduceSub, Int.toNat_zero, Int.reduceToNat, Tryd.underlying3, info3, Tryd.underlying5, info5, Tryd.underlying9, info9, Tryd.underlying53, info53, vT]))
    · rename_i hx
      cases hx
    rename_i b hb _
    refine VW.loop3 (0 : Nat) (([], 0) : List UInt8 × Nat) S' (fun k p S' => k ≤ l.count 39 ∧ p.2 ≤ l.length ∧ p.1 ++ quo (l.drop p.2) = quo l ∧ (l.drop p.2).count 39 + k = l.count 39 ∧ p.1.length ≤ 2 * p.2 ∧ Bld b p.1 S S') (fun k p _ => [(0, .s (bs l)), (1, .s (bs [39])), (2, .s (bs [39, 39])), (10, .ref b 0), (11, .i p.2), (52, .i (l.count 39 : Nat)), (53, .i k)]) (fun _ _ S' => S') (fun k _ _ => l.count 39 - k) ⟨by omega, by simp, rfl, by simp, by simp, hB⟩ (.refl _) ?_ ?_
    · simp only [vO, vQ, ↓vP, vE, vS, vB, vL, vF, vM, vN, vbs_full, Nat.reduceEqDiff, Nat.reduceAdd, Nat.reduceLeDiff, ne_eq, not_false_eq_true, Nat.reduceMul, Nat.reduceSub, Int.toNat_zero, Int.reduceToNat, vT]
      all_goals exact ⟨rfl, rfl⟩
    clear hB
    rintro k ⟨acc, st⟩ S' ⟨g1, g2, g3, g4, g5, hB⟩
    simp only at g2 g3 g4 g5 hB
    by_cases hk : k < l.count 39
    · obtain ⟨q1, q2, q3⟩ := quo_step (l := l.drop st) (by omega)
      have h37 : VCalls Tryd.prog 37 [.s (bs (l.drop st)), .s (bs [39])] S' (fun x σ' => x = .i (upTo 39 (l.drop st) : Nat) ∧ σ' = S') := by
        have := e37 (l.drop st) S'
        rw [if_pos q1] at this
        exact this
      have hcut : (l.take (st + upTo 39 (l.drop st))).drop st = (l.drop st).take (upTo 39 (l.drop st)) := by rw [List.drop_take]; congr 1; omega
      rw [List.length_drop] at q1
      rw [List.drop_drop] at q2 q3
      generalize upTo 39 (l.drop st) = t at *
      repeat' (first | with_reducible rfl | exact .inr trivial | with_reducible apply And.intro | with_reducible apply vqx_step | with_reducible apply vqm_step | with_reducible refine vkp_free (by decide +kernel) ?_ | with_reducible intro _ | ((first | (with_reducible first | refine .rs ?_ | refine .ds (by kernel_rfl) ?_ | refine .dg (by kernel_rfl) ?_ | refine .rg ?_ | refine .ite ?_ | refine .ret ?_ | refine .skip ?_ | refine .exit ?_ | refine .scope ?_ | refine .seq (.label ?_) | refine .block ?_ | refine .seq ?_) | (simp (disch := first | assumption | (apply Go.Cert.ne_of2; assumption; assumption) | (apply Go.Cert.ne_ob; assumption; assumption; (intro e; cases e; done)) | omega) only [w64, w8, tg_eq, Go.V.n1, Go.V.n2, Go.V.nn, Int.tdiv_eq_ediv_of_nonneg, Sg.set_same, Sg.set_ne, Sg.set_ne', Sg.del_ne, Sg.del_ne']) | ((with_reducible refine VCalls.mono h37 ?_); rintro _ _ ⟨rfl, rfl⟩) | ((with_reducible refine VCalls.mono (t100 _ _ _ _ _ hB (by simp; omega)) ?_); rintro _ S'' ⟨rfl, hB⟩)); (try simp only [vO, vQ, ↓vP, vE, vS, vB, vL, vF, vM, vN, vbs_full, Nat.reduceEqDiff, Nat.reduceAdd, Nat.reduceLeDiff, ne_eq, not_false_eq_true, Nat.reduceMul, Nat.reduceSub, Int.toNat_zero, Int.reduceToNat, Tryd.underlying3, info3, Tryd.underlying5, info5, Tryd.underlying9, info9, Tryd.underlying53, info53, nadd, nadd1, nadd2, nadd3, n1add, n2add, vT])) | with_reducible refine vfresh_set ?_ | with_reducible refine vfresh_intro (fun _ _ => ?_) | with_reducible refine vif_intro (fun _ => ?_) (fun _ => ?_) | omega | ((with_reducible first | refine vop_at ?_ | refine vops_at ?_ | refine vquiet_at ?_ | refine vmix_at ?_ | refine Holds_at ?_); simp only [vO, vQ, ↓vP, vE, vS, vB, vL, vF, vM, vN, vbs_full, Nat.reduceEqDiff, Nat.reduceAdd, Nat.reduceLeDiff, ne_eq, not_false_eq_true, Nat.reduceMul, Nat.reduceSub, Int.toNat_zero, Int.reduceToNat, Tryd.underlying3, info3, Tryd.underlying5, info5, Tryd.underlying9, info9, Tryd.underlying53, info53, nadd, nadd1, nadd2, nadd3, n1add, n2add, vT]))
      rename_i _ S'' _ _ hB
      exact ⟨k + 1, (acc ++ (l.take (st + t)).drop st ++ [39, 39], st + t + 1), S'', ⟨⟨by omega, by simp only; omega, by simp only; rw [hcut, ← g3, q2, Nat.add_assoc]; simp only [List.append_assoc], by simp only; rw [Nat.add_assoc]; omega, by simp only [List.length_append, List.length_drop, List.length_take, List.length_cons, List.length_nil]; omega, hB⟩, by omega⟩, .refl _, rfl, rfl⟩
    · repeat' (first | with_reducible rfl | exact .inr trivial | with_reducible apply And.intro | with_reducible apply vqx_step | with_reducible apply vqm_step | with_reducible refine vkp_free (by decide +kernel) ?_ | with_reducible intro _ | ((first | (with_reducible first | refine .rs ?_ | refine .ds (by kernel_rfl) ?_ | refine .dg (by kernel_rfl) ?_ | refine .rg ?_ | refine .ite ?_ | refine .ret ?_ | refine .skip ?_ | refine .exit ?_ | refine .scope ?_ | refine .seq (.label ?_) | refine .block ?_ | refine .seq ?_) | (simp (disch := first | assumption | (apply Go.Cert.ne_of2; assumption; assumption) | (apply Go.Cert.ne_ob; assumption; assumption; (intro e; cases e; done)) | omega) only [w64, w8, tg_eq, Go.V.n1, Go.V.n2, Go.V.nn, Int.tdiv_eq_ediv_of_nonneg, Sg.set_same, Sg.set_ne, Sg.set_ne', Sg.del_ne, Sg.del_ne']) | ((with_reducible refine VCalls.mono (t100 _ _ _ _ _ hB (by simp; omega)) ?_); rintro _ S'' ⟨rfl, hB⟩) | with_reducible refine (t103 _ _ _ _ hB (by first | assumption | (simp; omega))).use ?_); (try simp only [vO, vQ, ↓vP, vE, vS, vB, vL, vF, vM, vN, vbs_full, Nat.reduceEqDiff, Nat.reduceAdd, Nat.reduceLeDiff, ne_eq, not_false_eq_true, Nat.reduceMul, Nat.reduceSub, Int.toNat_zero, Int.reduceToNat, Tryd.underlying3, info3, Tryd.underlying5, info5, Tryd.underlying9, info9, Tryd.underlying53, info53, nadd, nadd1, nadd2, nadd3, n1add, n2add, vT])) | with_reducible refine vfresh_set ?_ | with_reducible refine vfresh_intro (fun _ _ => ?_) | with_reducible refine vif_intro (fun _ => ?_) (fun _ => ?_) | omega | ((with_reducible first | refine vop_at ?_ | refine vops_at ?_ | refine vquiet_at ?_ | refine vmix_at ?_ | refine Holds_at ?_); simp only [vO, vQ, ↓vP, vE, vS, vB, vL, vF, vM, vN, vbs_full, Nat.reduceEqDiff, Nat.reduceAdd, Nat.reduceLeDiff, ne_eq, not_false_eq_true, Nat.reduceMul, Nat.reduceSub, Int.toNat_zero, Int.reduceToNat, Tryd.underlying3, info3, Tryd.underlying5, info5, Tryd.underlying9, info9, Tryd.underlying53, info53, nadd, nadd1, nadd2, nadd3, n1add, n2add, vT]))
      exact ⟨S, hB.sub, by rw [← g3, quo_count0 (by omega)], rfl⟩
end Go.Proofs.YtpfancgcamclnaaDoor

set_option linter.unusedSimpArgs false
set_option linter.unusedVariables false
namespace Go.V
open Go.Lex
variable {P : Program}
theorem vsl_arr {β off n e : Nat} {l h : Int} {k1 k2 : IntKind} {T : TypeId} {cs : List AV} {z : Option Value} {s b : Nat} {σ : Sg} {R : AV → Prop} (hc : σ β = some (.cells T cs)) (hi : tInfo P e = some (z, s, b)) (hl : off + n * s ≤ cs.length) (h1 : 0 ≤ l ∧ l ≤ h ∧ h ≤ n ∧ (l = 0 ∨ l < n)) (hR : R (.ms β (off + l.toNat * s) (h - l).toNat s)) :
    vsl P (some (.array n e)) (.ref β off) (some (.val (.int k1 l))) (some (.val (.int k2 h))) none σ R := by
  unfold vsl
  simp only [optInt, hi, hc]
  exact ⟨⟨hl, h1⟩, hR⟩
theorem vcv_ms {β off n e : Nat} {q : Bool} {T : TypeId} {cs : List AV} {l : List UInt8} {σ : Sg} {R : AV → Sg → Prop} (he : P.underlying e = some (.int .u8)) (hc : σ β = some (.cells T cs)) (hl : (cs.drop off).take n = l.map fun c => AV.u8 c.toNat) (hn : l.length = n) (hR : R (.s (bs l)) σ) :
    vcv P q (some (.slice e)) (some .string) (.ms β off n 1) σ R := by
  unfold vcv
  simp only [he, hc]
  exact ⟨bs l, trivial, hl, hn, hR⟩
end Go.V
namespace Go.Proofs.YtpfancgcamclnaaDoor
open Go Go.V Go.Lex
set_option maxHeartbeats 1000000 in
set_option maxRecDepth 100000 in
theorem e34 (n : Nat) (hn : n < 9223372036854775808) (σ : Sg) : VCalls Tryd.prog 34 [.i n, .i 10] σ (fun x σ' => x = .s (bs (dec n)) ∧ σ' = σ) := by
  by_cases h : n < 100
  · (refine vfun (fun _ => .no) mixed Tryd.func34 (by kernel_rfl) ?_; simp only [bodyOf, Tryd.f34, Option.getD_some])
    repeat' (first | with_reducible rfl | exact .inr trivial | with_reducible apply And.intro | with_reducible apply vqx_step | with_reducible apply vqm_step | with_reducible refine vkp_free (by decide +kernel) ?_ | with_reducible intro _ | ((first | (with_reducible first | refine .rs ?_ | refine .ds (by kernel_rfl) ?_ | refine .dg (by kernel_rfl) ?_ | refine .rg ?_ | refine .ite ?_ | refine .ret ?_ | refine .skip ?_ | refine .exit ?_ | refine .scope ?_ | refine .seq (.label ?_) | refine .block ?_ | refine .seq ?_) | (simp (disch := first | assumption | (apply Go.Cert.ne_of2; assumption; assumption) | (apply Go.Cert.ne_ob; assumption; assumption; (intro e; cases e; done)) | omega) only [w64, w8, tg_eq, Go.V.n1, Go.V.n2, Go.V.nn, Int.tdiv_eq_ediv_of_nonneg, Sg.set_same, Sg.set_ne, Sg.set_ne', Sg.del_ne, Sg.del_ne']) | ((with_reducible refine VCalls.mono (e42 n h _) ?_); rintro _ S ⟨rfl, rfl⟩)); (try simp only [vO, vQ, ↓vP, vE, vS, vB, vL, vF, vM, vN, vbs_full, Nat.reduceEqDiff, Nat.reduceAdd, Nat.reduceLeDiff, ne_eq, not_false_eq_true, Nat.reduceMul, Nat.reduceSub, Int.toNat_zero, Int.reduceToNat, Tryd.underlying3, info3, Tryd.underlying2, info2, Tryd.underlying4, info4, Tryd.underlying9, info9, vT])) | with_reducible refine vfresh_set ?_ | with_reducible refine vfresh_intro (fun _ _ => ?_) | with_reducible refine vif_intro (fun _ => ?_) (fun _ => ?_) | omega | ((with_reducible first | refine vop_at ?_ | refine vops_at ?_ | refine vquiet_at ?_ | refine vmix_at ?_ | refine Holds_at ?_); simp only [vO, vQ, ↓vP, vE, vS, vB, vL, vF, vM, vN, vbs_full, Nat.reduceEqDiff, Nat.reduceAdd, Nat.reduceLeDiff, ne_eq, not_false_eq_true, Nat.reduceMul, Nat.reduceSub, Int.toNat_zero, Int.reduceToNat, Tryd.underlying3, info3, Tryd.underlying2, info2, Tryd.underlying4, info4, Tryd.underlying9, info9, vT]))
    all_goals (first | ((first | refine ⟨_, ?_, rfl⟩ | refine ⟨_, ?_, rfl, rfl⟩ | refine ⟨_, ?_⟩); (first | exact Sg.sub.refl _ | ((repeat (first | exact Sg.sub.refl _ | refine Sg.sub.set_both ?_ | refine Sg.sub.set_fresh ?_ (by first | assumption | exact Sg.set_none (by assumption) (by first | assumption | (apply Go.Cert.ne_of2a; assumption; assumption))))); done) | (intro y p hy; simp only [Sg.set_apply, Sg.del_apply] at hy ⊢; grind))) | (exfalso; omega))
  · have hU : IntKind.u64.wrap (n : Int) = (n : Int) := wrM (by omega)
    have hL : (dec n).length ≤ 19 := dec_len n 18 (by omega)
    have h1 : 1 ≤ n := by omega
    have h43 : ∀ σ, VCalls Tryd.prog 43 [.val (.int .u64 n)] σ _ := fun σ => e43 n h1 (by omega) σ
    generalize hLe : (dec n).length = L at *
    have hs1 : (((1 + L : Nat) : Int) - 1).toNat = L := by omega
    have hdec : dec n = padD L n := by rw [← hLe]; exact dec_padlen n
    have hlt : n < 10 ^ L := by rw [← hLe]; exact dec_pow n
    have h44 : ∀ b S, S b = some (.cells 72 ([.u8 0] ++ List.replicate L (.u8 0) ++ List.replicate (23 - L) (.u8 0))) → VCalls Tryd.prog 44 [.ms b 1 L 1, .val (.int .u64 n)] S _ := fun b S hS => e44 b 1 L n _ _ _ S hS rfl (by simp) hlt (by omega) (by omega)
    have hz : ([.u8 0] ++ List.replicate L (AV.u8 0) ++ List.replicate (23 - L) (.u8 0)) = [AV.val (.int .u8 0), AV.val (.int .u8 0), AV.val (.int .u8 0), AV.val (.int .u8 0), AV.val (.int .u8 0), AV.val (.int .u8 0), AV.val (.int .u8 0), AV.val (.int .u8 0), AV.val (.int .u8 0), AV.val (.int .u8 0), AV.val (.int .u8 0), AV.val (.int .u8 0), AV.val (.int .u8 0), AV.val (.int .u8 0), AV.val (.int .u8 0), AV.val (.int .u8 0), AV.val (.int .u8 0), AV.val (.int .u8 0), AV.val (.int .u8 0), AV.val (.int .u8 0), AV.val (.int .u8 0), AV.val (.int .u8 0), AV.val (.int .u8 0), AV.val (.int .u8 0)] := by
      rw [← List.replicate_one, List.replicate_append_replicate, List.replicate_append_replicate]
      exact (congrArg (fun k => List.replicate k (AV.u8 0)) (show 1 + L + (23 - L) = 24 by omega)).trans rfl
    simp only [hz] at h44
    (refine vfun (fun _ => .no) mixed Tryd.func34 (by kernel_rfl) ?_; simp only [bodyOf, Tryd.f34, Option.getD_some])
    repeat' (first | with_reducible rfl | exact .inr trivial | with_reducible apply And.intro | with_reducible apply vqx_step | with_reducible apply vqm_step | with_reducible refine vkp_free (by decide +kernel) ?_ | with_reducible intro _ | ((first | (with_reducible first | refine .rs ?_ | refine .ds (by kernel_rfl) ?_ | refine .dg (by kernel_rfl) ?_ | refine .rg ?_ | refine .ite ?_ | refine .ret ?_ | refine .skip ?_ | refine .exit ?_ | refine .scope ?_ | refine .seq (.label ?_) | refine .block ?_ | refine .seq ?_) | (simp (disch := first | assumption | (apply Go.Cert.ne_of2; assumption; assumption) | (apply Go.Cert.ne_ob; assumption; assumption; (intro e; cases e; done)) | omega) only [w64, w8, tg_eq, Go.V.n1, Go.V.n2, Go.V.nn, Int.tdiv_eq_ediv_of_nonneg, Sg.set_same, Sg.set_ne, Sg.set_ne', Sg.del_ne, Sg.del_ne']) | ((with_reducible refine VCalls.mono (h43 _) ?_); rintro _ S ⟨rfl, rfl⟩) | ((with_reducible refine VCalls.mono (h44 _ _ (by first | assumption | ((simp (disch := first | assumption | (apply Go.Cert.ne_of2; assumption; assumption) | (apply Go.Cert.ne_ob; assumption; assumption; (intro e; cases e; done)) | omega) only [Sg.set_same, Sg.set_ne, Sg.set_ne', Sg.del_ne, Sg.del_ne']); first | done | rfl | assumption))) ?_); rintro _ S ⟨rfl, rfl⟩) | (refine vsl_arr (by first | assumption | ((simp (disch := first | assumption | (apply Go.Cert.ne_of2; assumption; assumption) | (apply Go.Cert.ne_ob; assumption; assumption; (intro e; cases e; done)) | omega) only [Sg.set_same, Sg.set_ne, Sg.set_ne', Sg.del_ne, Sg.del_ne']); first | done | rfl | assumption)) info5 (by simp [u8s_len, padD_len]; try omega) ?_ ?_) | (refine vcv_ms (l := padD L n) Tryd.underlying5 (by first | assumption | ((simp (disch := first | assumption | (apply Go.Cert.ne_of2; assumption; assumption) | (apply Go.Cert.ne_ob; assumption; assumption; (intro e; cases e; done)) | omega) only [Sg.set_same, Sg.set_ne, Sg.set_ne', Sg.del_ne, Sg.del_ne']); first | done | rfl | assumption)) ?_ ?_ ?_)); (try simp only [vO, vQ, ↓vP, vE, vS, vB, vL, vF, vM, vN, vbs_full, Nat.reduceEqDiff, Nat.reduceAdd, Nat.reduceLeDiff, ne_eq, not_false_eq_true, Nat.reduceMul, Nat.reduceSub, Int.toNat_zero, Int.reduceToNat, Tryd.underlying3, info3, Tryd.underlying2, info2, Tryd.underlying4, info4, Tryd.underlying9, info9, Tryd.underlying73, info73, Tryd.underlying72, info72, Tryd.underlying51, info51, Tryd.underlying5, info5, hU, nadd, nadd1, nadd2, nadd3, n1add, n2add, hs1, vT])) | with_reducible refine vfresh_set ?_ | with_reducible refine vfresh_intro (fun _ _ => ?_) | with_reducible refine vif_intro (fun _ => ?_) (fun _ => ?_) | omega | ((with_reducible first | refine vop_at ?_ | refine vops_at ?_ | refine vquiet_at ?_ | refine vmix_at ?_ | refine Holds_at ?_); simp only [vO, vQ, ↓vP, vE, vS, vB, vL, vF, vM, vN, vbs_full, Nat.reduceEqDiff, Nat.reduceAdd, Nat.reduceLeDiff, ne_eq, not_false_eq_true, Nat.reduceMul, Nat.reduceSub, Int.toNat_zero, Int.reduceToNat, Tryd.underlying3, info3, Tryd.underlying2, info2, Tryd.underlying4, info4, Tryd.underlying9, info9, Tryd.underlying73, info73, Tryd.underlying72, info72, Tryd.underlying51, info51, Tryd.underlying5, info5, hU, nadd, nadd1, nadd2, nadd3, n1add, n2add, hs1, vT]))
    · rw [List.take_append_of_le_length (by rw [u8s_len, padD_len]; exact Nat.le_refl _), List.take_of_length_le (by rw [u8s_len, padD_len]; exact Nat.le_refl _)]
      rfl
    · exact padD_len L n
    · exact ⟨σ, Sg.sub_set ‹_› _, by rw [hdec], rfl⟩
theorem e23 (n : Nat) (hn : n < 9223372036854775808) (σ : Sg) : VCalls Tryd.prog 23 [.i n] σ (fun x σ' => x = .s (bs (dec n)) ∧ σ' = σ) := by
  (refine vfun (fun _ => .no) mixed Tryd.func23 (by kernel_rfl) ?_; simp only [bodyOf, Tryd.f23, Option.getD_some])
  repeat' (first | with_reducible rfl | exact .inr trivial | with_reducible apply And.intro | with_reducible apply vqx_step | with_reducible apply vqm_step | with_reducible refine vkp_free (by decide +kernel) ?_ | with_reducible intro _ | ((first | (with_reducible first | refine .rs ?_ | refine .ds (by kernel_rfl) ?_ | refine .dg (by kernel_rfl) ?_ | refine .rg ?_ | refine .ite ?_ | refine .ret ?_ | refine .skip ?_ | refine .exit ?_ | refine .scope ?_ | refine .seq (.label ?_) | refine .block ?_ | refine .seq ?_) | (simp (disch := first | assumption | (apply Go.Cert.ne_of2; assumption; assumption) | (apply Go.Cert.ne_ob; assumption; assumption; (intro e; cases e; done)) | omega) only [w64, w8, tg_eq, Go.V.n1, Go.V.n2, Go.V.nn, Int.tdiv_eq_ediv_of_nonneg, Sg.set_same, Sg.set_ne, Sg.set_ne', Sg.del_ne, Sg.del_ne']) | ((with_reducible refine VCalls.mono (e34 n hn _) ?_); rintro _ S ⟨rfl, rfl⟩)); (try simp only [vO, vQ, ↓vP, vE, vS, vB, vL, vF, vM, vN, vbs_full, Nat.reduceEqDiff, Nat.reduceAdd, Nat.reduceLeDiff, ne_eq, not_false_eq_true, Nat.reduceMul, Nat.reduceSub, Int.toNat_zero, Int.reduceToNat, Tryd.underlying3, info3, Tryd.underlying2, info2, Tryd.underlying9, info9, vT])) | with_reducible refine vfresh_set ?_ | with_reducible refine vfresh_intro (fun _ _ => ?_) | with_reducible refine vif_intro (fun _ => ?_) (fun _ => ?_) | omega | ((with_reducible first | refine vop_at ?_ | refine vops_at ?_ | refine vquiet_at ?_ | refine vmix_at ?_ | refine Holds_at ?_); simp only [vO, vQ, ↓vP, vE, vS, vB, vL, vF, vM, vN, vbs_full, Nat.reduceEqDiff, Nat.reduceAdd, Nat.reduceLeDiff, ne_eq, not_false_eq_true, Nat.reduceMul, Nat.reduceSub, Int.toNat_zero, Int.reduceToNat, Tryd.underlying3, info3, Tryd.underlying2, info2, Tryd.underlying9, info9, vT]))
  all_goals (first | ((first | refine ⟨_, ?_, rfl⟩ | refine ⟨_, ?_, rfl, rfl⟩ | refine ⟨_, ?_⟩); (first | exact Sg.sub.refl _ | ((repeat (first | exact Sg.sub.refl _ | refine Sg.sub.set_both ?_ | refine Sg.sub.set_fresh ?_ (by first | assumption | exact Sg.set_none (by assumption) (by first | assumption | (apply Go.Cert.ne_of2a; assumption; assumption))))); done) | (intro y p hy; simp only [Sg.set_apply, Sg.del_apply] at hy ⊢; grind))) | (exfalso; omega))
theorem e11 (n : Nat) (hn : n < 9223372036854775808) (σ : Sg) : VCalls Tryd.prog 11 [.i n] σ (fun x σ' => x = .s (bs (dec n)) ∧ σ' = σ) := by
  (refine vfun (fun _ => .no) mixed Tryd.func11 (by kernel_rfl) ?_; simp only [bodyOf, Tryd.f11, Option.getD_some])
  repeat' (first | with_reducible rfl | exact .inr trivial | with_reducible apply And.intro | with_reducible apply vqx_step | with_reducible apply vqm_step | with_reducible refine vkp_free (by decide +kernel) ?_ | with_reducible intro _ | ((first | (with_reducible first | refine .rs ?_ | refine .ds (by kernel_rfl) ?_ | refine .dg (by kernel_rfl) ?_ | refine .rg ?_ | refine .ite ?_ | refine .ret ?_ | refine .skip ?_ | refine .exit ?_ | refine .scope ?_ | refine .seq (.label ?_) | refine .block ?_ | refine .seq ?_) | (simp (disch := first | assumption | (apply Go.Cert.ne_of2; assumption; assumption) | (apply Go.Cert.ne_ob; assumption; assumption; (intro e; cases e; done)) | omega) only [w64, w8, tg_eq, Go.V.n1, Go.V.n2, Go.V.nn, Int.tdiv_eq_ediv_of_nonneg, Sg.set_same, Sg.set_ne, Sg.set_ne', Sg.del_ne, Sg.del_ne']) | ((with_reducible refine VCalls.mono (e23 n hn _) ?_); rintro _ S ⟨rfl, rfl⟩)); (try simp only [vO, vQ, ↓vP, vE, vS, vB, vL, vF, vM, vN, vbs_full, Nat.reduceEqDiff, Nat.reduceAdd, Nat.reduceLeDiff, ne_eq, not_false_eq_true, Nat.reduceMul, Nat.reduceSub, Int.toNat_zero, Int.reduceToNat, Tryd.underlying3, info3, Tryd.underlying2, info2, Tryd.underlying9, info9, vT])) | with_reducible refine vfresh_set ?_ | with_reducible refine vfresh_intro (fun _ _ => ?_) | with_reducible refine vif_intro (fun _ => ?_) (fun _ => ?_) | omega | ((with_reducible first | refine vop_at ?_ | refine vops_at ?_ | refine vquiet_at ?_ | refine vmix_at ?_ | refine Holds_at ?_); simp only [vO, vQ, ↓vP, vE, vS, vB, vL, vF, vM, vN, vbs_full, Nat.reduceEqDiff, Nat.reduceAdd, Nat.reduceLeDiff, ne_eq, not_false_eq_true, Nat.reduceMul, Nat.reduceSub, Int.toNat_zero, Int.reduceToNat, Tryd.underlying3, info3, Tryd.underlying2, info2, Tryd.underlying9, info9, vT]))
  all_goals (first | ((first | refine ⟨_, ?_, rfl⟩ | refine ⟨_, ?_, rfl, rfl⟩ | refine ⟨_, ?_⟩); (first | exact Sg.sub.refl _ | ((repeat (first | exact Sg.sub.refl _ | refine Sg.sub.set_both ?_ | refine Sg.sub.set_fresh ?_ (by first | assumption | exact Sg.set_none (by assumption) (by first | assumption | (apply Go.Cert.ne_of2a; assumption; assumption))))); done) | (intro y p hy; simp only [Sg.set_apply, Sg.del_apply] at hy ⊢; grind))) | (exfalso; omega))
theorem e12 (l : List UInt8) (hl : l.length < 2 ^ 38) (σ : Sg) : VCalls Tryd.prog 12 [.s (bs l), .s (bs [39]), .s (bs [39, 39])] σ (fun x σ' => x = .s (bs (quo l)) ∧ σ' = σ) := by
  (refine vfun (fun _ => .no) mixed Tryd.func12 (by kernel_rfl) ?_; simp only [bodyOf, Tryd.f12, Option.getD_some])
  repeat' (first | with_reducible rfl | exact .inr trivial | with_reducible apply And.intro | with_reducible apply vqx_step | with_reducible apply vqm_step | with_reducible refine vkp_free (by decide +kernel) ?_ | with_reducible intro _ | ((first | (with_reducible first | refine .rs ?_ | refine .ds (by kernel_rfl) ?_ | refine .dg (by kernel_rfl) ?_ | refine .rg ?_ | refine .ite ?_ | refine .ret ?_ | refine .skip ?_ | refine .exit ?_ | refine .scope ?_ | refine .seq (.label ?_) | refine .block ?_ | refine .seq ?_) | (simp (disch := first | assumption | (apply Go.Cert.ne_of2; assumption; assumption) | (apply Go.Cert.ne_ob; assumption; assumption; (intro e; cases e; done)) | omega) only [w64, w8, tg_eq, Go.V.n1, Go.V.n2, Go.V.nn, Int.tdiv_eq_ediv_of_nonneg, Sg.set_same, Sg.set_ne, Sg.set_ne', Sg.del_ne, Sg.del_ne']) | ((with_reducible refine VCalls.mono (e24 l hl _) ?_); rintro _ S ⟨rfl, rfl⟩)); (try simp only [vO, vQ, ↓vP, vE, vS, vB, vL, vF, vM, vN, vbs_full, Nat.reduceEqDiff, Nat.reduceAdd, Nat.reduceLeDiff, ne_eq, not_false_eq_true, Nat.reduceMul, Nat.reduceSub, Int.toNat_zero, Int.reduceToNat, Tryd.underlying3, info3, Tryd.underlying9, info9, vT])) | with_reducible refine vfresh_set ?_ | with_reducible refine vfresh_intro (fun _ _ => ?_) | with_reducible refine vif_intro (fun _ => ?_) (fun _ => ?_) | omega | ((with_reducible first | refine vop_at ?_ | refine vops_at ?_ | refine vquiet_at ?_ | refine vmix_at ?_ | refine Holds_at ?_); simp only [vO, vQ, ↓vP, vE, vS, vB, vL, vF, vM, vN, vbs_full, Nat.reduceEqDiff, Nat.reduceAdd, Nat.reduceLeDiff, ne_eq, not_false_eq_true, Nat.reduceMul, Nat.reduceSub, Int.toNat_zero, Int.reduceToNat, Tryd.underlying3, info3, Tryd.underlying9, info9, vT]))
  all_goals (first | ((first | refine ⟨_, ?_, rfl⟩ | refine ⟨_, ?_, rfl, rfl⟩ | refine ⟨_, ?_⟩); (first | exact Sg.sub.refl _ | ((repeat (first | exact Sg.sub.refl _ | refine Sg.sub.set_both ?_ | refine Sg.sub.set_fresh ?_ (by first | assumption | exact Sg.set_none (by assumption) (by first | assumption | (apply Go.Cert.ne_of2a; assumption; assumption))))); done) | (intro y p hy; simp only [Sg.set_apply, Sg.del_apply] at hy ⊢; grind))) | (exfalso; omega))
end Go.Proofs.YtpfancgcamclnaaDoor

set_option linter.unusedSimpArgs false
set_option linter.unusedVariables false
namespace Go.Proofs.YtpfancgcamclnaaDoor
open Go Go.V Go.Lex
set_option maxHeartbeats 1000000 in
set_option maxRecDepth 100000 in
theorem e4 (σ : Sg) : VCalls Tryd.prog 4 [] σ (fun x σ' => x = .b true ∧ σ' = σ) := by
  have hs := t21 smallS
  rw [small_lex] at hs
  simp only [smallS] at hs
  (refine vfun (fun _ => .no) mixed Tryd.func4 (by kernel_rfl) ?_; simp only [bodyOf, Tryd.f4, Option.getD_some])
  repeat' (first | with_reducible rfl | exact .inr trivial | with_reducible apply And.intro | with_reducible apply vqx_step | with_reducible apply vqm_step | with_reducible refine vkp_free (by decide +kernel) ?_ | with_reducible intro _ | ((first | (with_reducible first | refine .rs ?_ | refine .ds (by kernel_rfl) ?_ | refine .dg (by kernel_rfl) ?_ | refine .rg ?_ | refine .ite ?_ | refine .ret ?_ | refine .skip ?_ | refine .exit ?_ | refine .scope ?_ | refine .seq (.label ?_) | refine .block ?_ | refine .seq ?_) | (simp (disch := first | assumption | (apply Go.Cert.ne_of2; assumption; assumption) | (apply Go.Cert.ne_ob; assumption; assumption; (intro e; cases e; done)) | omega) only [w64, w8, tg_eq, Go.V.n1, Go.V.n2, Go.V.nn, Int.tdiv_eq_ediv_of_nonneg, Sg.set_same, Sg.set_ne, Sg.set_ne', Sg.del_ne, Sg.del_ne']) | ((with_reducible refine (hs _).mono ?_); rintro y σ' ⟨⟨l, τ, ho, rfl⟩ | ⟨e, a, ho, he, rfl⟩, rfl⟩ <;> cases ho)); (try simp only [vO, vQ, ↓vP, vE, vS, vB, vL, vF, vM, vN, vbs_full, Nat.reduceEqDiff, Nat.reduceAdd, Nat.reduceLeDiff, ne_eq, not_false_eq_true, Nat.reduceMul, Nat.reduceSub, Int.toNat_zero, Int.reduceToNat, Tryd.underlying9, Tryd.underlying5, Tryd.underlying3, Tryd.underlying34, Tryd.underlying29, Tryd.underlying27, Tryd.underlying25, info9, info34, info3, info27, info29, info25, nadd, nadd1, nadd2, nadd3, n1add, n2add, tksA_len, eq59, eq53, tkA, smallL, tksA, decide_true, decide_false, castlit, List.getD_cons_zero, List.getD_cons_succ, vT])) | with_reducible refine vfresh_set ?_ | with_reducible refine vfresh_intro (fun _ _ => ?_) | with_reducible refine vif_intro (fun _ => ?_) (fun _ => ?_) | omega | ((with_reducible first | refine vop_at ?_ | refine vops_at ?_ | refine vquiet_at ?_ | refine vmix_at ?_ | refine Holds_at ?_); simp only [vO, vQ, ↓vP, vE, vS, vB, vL, vF, vM, vN, vbs_full, Nat.reduceEqDiff, Nat.reduceAdd, Nat.reduceLeDiff, ne_eq, not_false_eq_true, Nat.reduceMul, Nat.reduceSub, Int.toNat_zero, Int.reduceToNat, Tryd.underlying9, Tryd.underlying5, Tryd.underlying3, Tryd.underlying34, Tryd.underlying29, Tryd.underlying27, Tryd.underlying25, info9, info34, info3, info27, info29, info25, nadd, nadd1, nadd2, nadd3, n1add, n2add, tksA_len, eq59, eq53, tkA, smallL, tksA, decide_true, decide_false, castlit, List.getD_cons_zero, List.getD_cons_succ, vT]))
  all_goals first
    | exact ⟨_, (by repeat (first | exact Sg.sub.refl _ | refine Sg.sub.set_both ?_ | refine Sg.sub.set_fresh ?_ (by first | assumption | exact Sg.set_none ‹_› ‹_›) | refine Sg.sub.del_fresh ?_ (by first | assumption | exact Sg.set_none ‹_› ‹_›))), rfl, rfl⟩
    | exact absurd rfl ‹¬ _›
/-- What a value that is well made looks like. -/
theorem eq23 {d : TypeDesc} {a b a' b' : Int} {s t : ByteArray} : veqT Tryd.prog 23 d (.agg [.i a, .i b, .s s]) (.agg [.i a', .i b', .s t]) = some (decide (a = a') && (decide (b = b') && (sEq s t && true))) := by
  rw [veqT_agg (by kernel_rfl), veqIn_struct (d := 9999) Tryd.underlying23 (by kernel_rfl)]
  exact veqFs_cons (by decide) (partO_one info3 Tryd.underlying3 rfl) (partO_one info3 Tryd.underlying3 rfl) (veqIn_int Tryd.underlying3) (veqFs_cons (by decide) (partO_one info3 Tryd.underlying3 rfl) (partO_one info3 Tryd.underlying3 rfl) (veqIn_int Tryd.underlying3) (veqFs_cons (by decide) (partO_one info9 Tryd.underlying9 rfl) (partO_one info9 Tryd.underlying9 rfl) (veqIn_str Tryd.underlying9) rfl))
def bareV (k n : Int) (t : List UInt8) : Int × List UInt8 := if k = 0 then (0, []) else if k = 1 then (n, []) else if k = 2 then (0, t) else (n, t)
set_option maxHeartbeats 1000000 in
set_option maxRecDepth 100000 in
theorem e8 (k n : Int) (t : List UInt8) (σ : Sg) : VCalls Tryd.prog 8 [.agg [.i k, .i n, .s (bs t)]] σ (fun x σ' => x = .agg [.i k, .i (bareV k n t).1, .s (bs (bareV k n t).2)] ∧ σ' = σ) := by
  unfold bareV
  (refine vfun (fun _ => .no) mixed Tryd.func8 (by kernel_rfl) ?_; simp only [bodyOf, Tryd.f8, Option.getD_some])
  repeat' (first | with_reducible rfl | exact .inr trivial | with_reducible apply And.intro | with_reducible apply vqx_step | with_reducible apply vqm_step | with_reducible refine vkp_free (by decide +kernel) ?_ | with_reducible intro _ | ((first | (with_reducible first | refine .rs ?_ | refine .ds (by kernel_rfl) ?_ | refine .dg (by kernel_rfl) ?_ | refine .rg ?_ | refine .ite ?_ | refine .ret ?_ | refine .skip ?_ | refine .exit ?_ | refine .scope ?_ | refine .seq (.label ?_) | refine .block ?_ | refine .seq ?_) | (simp (disch := first | assumption | (apply Go.Cert.ne_of2; assumption; assumption) | (apply Go.Cert.ne_ob; assumption; assumption; (intro e; cases e; done)) | omega) only [w64, w8, tg_eq, Go.V.n1, Go.V.n2, Go.V.nn, Int.tdiv_eq_ediv_of_nonneg, Sg.set_same, Sg.set_ne, Sg.set_ne', Sg.del_ne, Sg.del_ne']) | (refine vlo_app (by first | assumption | ((simp (disch := first | assumption | (apply Go.Cert.ne_of2; assumption; assumption) | (apply Go.Cert.ne_ob; assumption; assumption; (intro e; cases e; done)) | omega) only [Sg.set_same, Sg.set_ne, Sg.set_ne', Sg.del_ne, Sg.del_ne']); first | done | rfl | assumption)) ?_) | (refine vst_app (by first | assumption | ((simp (disch := first | assumption | (apply Go.Cert.ne_of2; assumption; assumption) | (apply Go.Cert.ne_ob; assumption; assumption; (intro e; cases e; done)) | omega) only [Sg.set_same, Sg.set_ne, Sg.set_ne', Sg.del_ne, Sg.del_ne']); first | done | rfl | assumption)) ?_)); (try simp only [vO, vQ, ↓vP, vE, vS, vB, vL, vF, vM, vN, vbs_full, Nat.reduceEqDiff, Nat.reduceAdd, Nat.reduceLeDiff, ne_eq, not_false_eq_true, Nat.reduceMul, Nat.reduceSub, Int.toNat_zero, Int.reduceToNat, Tryd.underlying3, info3, Tryd.underlying9, info9, Tryd.underlying23, info23, vT])) | with_reducible refine vfresh_set ?_ | with_reducible refine vfresh_intro (fun _ _ => ?_) | with_reducible refine vif_intro (fun _ => ?_) (fun _ => ?_) | omega | ((with_reducible first | refine vop_at ?_ | refine vops_at ?_ | refine vquiet_at ?_ | refine vmix_at ?_ | refine Holds_at ?_); simp only [vO, vQ, ↓vP, vE, vS, vB, vL, vF, vM, vN, vbs_full, Nat.reduceEqDiff, Nat.reduceAdd, Nat.reduceLeDiff, ne_eq, not_false_eq_true, Nat.reduceMul, Nat.reduceSub, Int.toNat_zero, Int.reduceToNat, Tryd.underlying3, info3, Tryd.underlying9, info9, Tryd.underlying23, info23, vT]))
  all_goals exact ⟨σ, (by intro y p hy; simp only [Sg.set_apply, Sg.del_apply] at hy ⊢; grind), by simp_all, rfl⟩
theorem e8c (k n : Int) (t : List UInt8) (σ : Sg) : VCalls Tryd.prog 8 [.agg [.i k, .i n, .s (bs t)]] σ (fun x σ' => x = .agg [.i k, .i (bareV k n t).1, .s (bs (bareV k n t).2)] ∧ σ' = σ) := e8 k n t σ
/-- What Right says. -/
def rightV (k n : Int) (t : List UInt8) : Int := if k < 0 ∨ 2 < k ∨ bareV k n t ≠ (n, t) then 4 else if 40 < t.length then 2 else 0
set_option maxHeartbeats 1000000 in
set_option maxRecDepth 100000 in
theorem e5 (k n : Int) (t : List UInt8) (σ : Sg) : VCalls Tryd.prog 5 [.agg [.i k, .i n, .s (bs t)]] σ (fun x σ' => x = .i (rightV k n t) ∧ σ' = σ) := by
  unfold rightV
  have h8 := e8 k n t
  generalize bareV k n t = bv at *
  (refine vfun (fun _ => .ro) mixed Tryd.func5 (by kernel_rfl) ?_; simp only [bodyOf, Tryd.f5, Option.getD_some])
  repeat' (first | with_reducible rfl | exact .inr trivial | with_reducible apply And.intro | with_reducible apply vqx_step | with_reducible apply vqm_step | with_reducible refine vkp_free (by decide +kernel) ?_ | with_reducible intro _ | ((first | (with_reducible first | refine .rs ?_ | refine .ds (by kernel_rfl) ?_ | refine .dg (by kernel_rfl) ?_ | refine .rg ?_ | refine .ite ?_ | refine .ret ?_ | refine .skip ?_ | refine .exit ?_ | refine .scope ?_ | refine .seq (.label ?_) | refine .block ?_ | refine .seq ?_) | (simp (disch := first | assumption | (apply Go.Cert.ne_of2; assumption; assumption) | (apply Go.Cert.ne_ob; assumption; assumption; (intro e; cases e; done)) | omega) only [w64, w8, tg_eq, Go.V.n1, Go.V.n2, Go.V.nn, Int.tdiv_eq_ediv_of_nonneg, Sg.set_same, Sg.set_ne, Sg.set_ne', Sg.del_ne, Sg.del_ne']) | ((with_reducible refine VCalls.mono (h8 _) ?_); rintro _ S ⟨rfl, rfl⟩)); (try simp only [vO, vQ, ↓vP, vE, vS, vB, vL, vF, vM, vN, vbs_full, Nat.reduceEqDiff, Nat.reduceAdd, Nat.reduceLeDiff, ne_eq, not_false_eq_true, Nat.reduceMul, Nat.reduceSub, Int.toNat_zero, Int.reduceToNat, Tryd.underlying3, info3, Tryd.underlying4, info4, Tryd.underlying9, info9, Tryd.underlying23, info23, Tryd.underlying25, info25, eq23, vT])) | with_reducible refine vfresh_set ?_ | with_reducible refine vfresh_intro (fun _ _ => ?_) | with_reducible refine vif_intro (fun _ => ?_) (fun _ => ?_) | omega | ((with_reducible first | refine vop_at ?_ | refine vops_at ?_ | refine vquiet_at ?_ | refine vmix_at ?_ | refine Holds_at ?_); simp only [vO, vQ, ↓vP, vE, vS, vB, vL, vF, vM, vN, vbs_full, Nat.reduceEqDiff, Nat.reduceAdd, Nat.reduceLeDiff, ne_eq, not_false_eq_true, Nat.reduceMul, Nat.reduceSub, Int.toNat_zero, Int.reduceToNat, Tryd.underlying3, info3, Tryd.underlying4, info4, Tryd.underlying9, info9, Tryd.underlying23, info23, Tryd.underlying25, info25, eq23, vT]))
  all_goals (clear h8; obtain ⟨b1, b2⟩ := bv; refine ⟨σ, .refl _, congrArg (fun c => AV.val (Value.int IntKind.i64 c)) ?_, rfl⟩)
  all_goals simp only [Prod.mk.injEq, ne_eq, Bool.and_eq_true, decide_eq_true_eq, decide_true, true_and] at *
  all_goals grind
end Go.Proofs.YtpfancgcamclnaaDoor

set_option linter.unusedSimpArgs false
set_option linter.unusedVariables false
namespace Go.Proofs.YtpfancgcamclnaaDoor
open Go Go.V Go.Lex
/-- How a value is written. -/
def litL (k : Int) (n : Nat) (t : List UInt8) : List UInt8 := if k = 1 then dec n else if k = 2 then quoteL t else [78, 85, 76, 76]
theorem right_zero {k n : Int} {t : List UInt8} (h : rightV k n t = 0) : t.length ≤ 40 ∧ ((k = 0 ∧ n = 0 ∧ t = []) ∨ (k = 1 ∧ t = []) ∨ (k = 2 ∧ n = 0)) := by
  unfold rightV at h
  split at h
  · cases h
  · rename_i h1
    split at h
    · cases h
    · rename_i h2
      have h3 : k = 0 ∨ k = 1 ∨ k = 2 := by omega
      have h4 : bareV k n t = (n, t) := Classical.not_not.1 fun hh => h1 (.inr (.inr hh))
      refine ⟨by omega, ?_⟩
      rcases h3 with rfl | rfl | rfl <;> simp [bareV] at h4 ⊢
      · exact ⟨h4.1.symm, h4.2⟩
      · exact h4
      · exact h4.symm
set_option maxHeartbeats 1000000 in
set_option maxRecDepth 100000 in
theorem t3g (k n : Int) (t : List UInt8) (hn : n < 9223372036854775808)
    (h7 : ∀ (k : Int) (n : Nat) (t : List UInt8) (hn : n < 9223372036854775808) (ht : t.length ≤ 40) (σ : Sg), VCalls Tryd.prog 7 [.agg [.i k, .i n, .s (bs t)]] σ (fun x σ' => x = .s (bs (litL k n t)) ∧ σ' = σ)) (σ : Sg) :
    VCalls Tryd.prog 3 [.agg [.i k, .i n, .s (bs t)]] σ (fun x σ' => x = .b true ∧ σ' = σ) := by
  have h5 := e5 k n t
  by_cases hr : rightV k n t = 0
  · obtain ⟨ht, hk⟩ := right_zero hr
    rw [hr] at h5
    by_cases hneg : k = 1 ∧ n < 0
    · obtain ⟨rfl, hneg⟩ := hneg
      (refine vfun (fun d => if d = 1 then .ro else .no) mixed Tryd.func3 (by kernel_rfl) ?_; simp only [bodyOf, Tryd.f3, Option.getD_some])
      repeat' (first | with_reducible rfl | exact .inr trivial | with_reducible apply And.intro | with_reducible apply vqx_step | with_reducible apply vqm_step | with_reducible refine vkp_free (by decide +kernel) ?_ | with_reducible intro _ | ((first | (with_reducible first | refine .rs ?_ | refine .ds (by kernel_rfl) ?_ | refine .dg (by kernel_rfl) ?_ | refine .rg ?_ | refine .ite ?_ | refine .ret ?_ | refine .skip ?_ | refine .exit ?_ | refine .scope ?_ | refine .seq (.label ?_) | refine .block ?_ | refine .seq ?_) | (simp (disch := first | assumption | (apply Go.Cert.ne_of2; assumption; assumption) | (apply Go.Cert.ne_ob; assumption; assumption; (intro e; cases e; done)) | omega) only [w64, w8, tg_eq, Go.V.n1, Go.V.n2, Go.V.nn, Int.tdiv_eq_ediv_of_nonneg, Sg.set_same, Sg.set_ne, Sg.set_ne', Sg.del_ne, Sg.del_ne']) | ((with_reducible refine VCalls.mono (e4 _) ?_); rintro _ S ⟨rfl, rfl⟩) | ((with_reducible refine VCalls.mono (h5 _) ?_); rintro _ S ⟨rfl, rfl⟩)); (try simp only [vO, vQ, ↓vP, vE, vS, vB, vL, vF, vM, vN, vbs_full, Nat.reduceEqDiff, Nat.reduceAdd, Nat.reduceLeDiff, ne_eq, not_false_eq_true, Nat.reduceMul, Nat.reduceSub, Int.toNat_zero, Int.reduceToNat, Tryd.underlying3, info3, Tryd.underlying4, info4, Tryd.underlying9, info9, Tryd.underlying23, info23, Tryd.underlying25, info25, hneg, decide_true, decide_false, vT])) | with_reducible refine vfresh_set ?_ | with_reducible refine vfresh_intro (fun _ _ => ?_) | with_reducible refine vif_intro (fun _ => ?_) (fun _ => ?_) | omega | ((with_reducible first | refine vop_at ?_ | refine vops_at ?_ | refine vquiet_at ?_ | refine vmix_at ?_ | refine Holds_at ?_); simp only [vO, vQ, ↓vP, vE, vS, vB, vL, vF, vM, vN, vbs_full, Nat.reduceEqDiff, Nat.reduceAdd, Nat.reduceLeDiff, ne_eq, not_false_eq_true, Nat.reduceMul, Nat.reduceSub, Int.toNat_zero, Int.reduceToNat, Tryd.underlying3, info3, Tryd.underlying4, info4, Tryd.underlying9, info9, Tryd.underlying23, info23, Tryd.underlying25, info25, hneg, decide_true, decide_false, vT]))
      all_goals (first | ((first | refine ⟨_, ?_, rfl⟩ | refine ⟨_, ?_, rfl, rfl⟩ | refine ⟨_, ?_⟩); (first | exact Sg.sub.refl _ | ((repeat (first | exact Sg.sub.refl _ | refine Sg.sub.set_both ?_ | refine Sg.sub.set_fresh ?_ (by first | assumption | exact Sg.set_none (by assumption) (by first | assumption | (apply Go.Cert.ne_of2a; assumption; assumption))))); done) | (intro y p hy; simp only [Sg.set_apply, Sg.del_apply] at hy ⊢; grind))) | (exfalso; omega))
    · have hn0 : 0 ≤ n := by omega
      obtain ⟨m, rfl⟩ : ∃ m : Nat, n = m := ⟨n.toNat, by omega⟩
      have hm : m < 9223372036854775808 := by omega
      have h7' := h7 k m t hm ht
      rcases hk with ⟨rfl, h0, rfl⟩ | ⟨rfl, rfl⟩ | ⟨rfl, h0⟩
      · have hs := t21 (litL 0 m [])
        rw [show litL 0 m [] = [78, 85, 76, 76] from rfl] at hs h7'
        rw [lex_null] at hs
        (refine vfun (fun d => if d = 1 then .ro else .no) mixed Tryd.func3 (by kernel_rfl) ?_; simp only [bodyOf, Tryd.f3, Option.getD_some])
        repeat' (first | with_reducible rfl | exact .inr trivial | with_reducible apply And.intro | with_reducible apply vqx_step | with_reducible apply vqm_step | with_reducible refine vkp_free (by decide +kernel) ?_ | with_reducible intro _ | ((first | (with_reducible first | refine .rs ?_ | refine .ds (by kernel_rfl) ?_ | refine .dg (by kernel_rfl) ?_ | refine .rg ?_ | refine .ite ?_ | refine .ret ?_ | refine .skip ?_ | refine .exit ?_ | refine .scope ?_ | refine .seq (.label ?_) | refine .block ?_ | refine .seq ?_) | (simp (disch := first | assumption | (apply Go.Cert.ne_of2; assumption; assumption) | (apply Go.Cert.ne_ob; assumption; assumption; (intro e; cases e; done)) | omega) only [w64, w8, tg_eq, Go.V.n1, Go.V.n2, Go.V.nn, Int.tdiv_eq_ediv_of_nonneg, Sg.set_same, Sg.set_ne, Sg.set_ne', Sg.del_ne, Sg.del_ne']) | ((with_reducible refine VCalls.mono (e4 _) ?_); rintro _ S ⟨rfl, rfl⟩) | ((with_reducible refine VCalls.mono (h5 _) ?_); rintro _ S ⟨rfl, rfl⟩) | ((with_reducible refine VCalls.mono (h7' _) ?_); rintro _ S ⟨rfl, rfl⟩) | ((with_reducible refine (hs _).mono ?_); rintro y σ' ⟨⟨l, τ, ho, rfl⟩ | ⟨e, a, ho, he, rfl⟩, rfl⟩ <;> cases ho)); (try simp only [vO, vQ, ↓vP, vE, vS, vB, vL, vF, vM, vN, vbs_full, Nat.reduceEqDiff, Nat.reduceAdd, Nat.reduceLeDiff, ne_eq, not_false_eq_true, Nat.reduceMul, Nat.reduceSub, Int.toNat_zero, Int.reduceToNat, Tryd.underlying3, info3, Tryd.underlying4, info4, Tryd.underlying9, info9, Tryd.underlying23, info23, Tryd.underlying25, info25, Tryd.underlying27, info27, Tryd.underlying29, info29, Tryd.underlying34, info34, nadd, nadd1, nadd2, nadd3, n1add, n2add, tksA_len, tkA, tksA, decide_true, decide_false, castlit, List.getD_cons_zero, List.getD_cons_succ, vT])) | with_reducible refine vfresh_set ?_ | with_reducible refine vfresh_intro (fun _ _ => ?_) | with_reducible refine vif_intro (fun _ => ?_) (fun _ => ?_) | omega | ((with_reducible first | refine vop_at ?_ | refine vops_at ?_ | refine vquiet_at ?_ | refine vmix_at ?_ | refine Holds_at ?_); simp only [vO, vQ, ↓vP, vE, vS, vB, vL, vF, vM, vN, vbs_full, Nat.reduceEqDiff, Nat.reduceAdd, Nat.reduceLeDiff, ne_eq, not_false_eq_true, Nat.reduceMul, Nat.reduceSub, Int.toNat_zero, Int.reduceToNat, Tryd.underlying3, info3, Tryd.underlying4, info4, Tryd.underlying9, info9, Tryd.underlying23, info23, Tryd.underlying25, info25, Tryd.underlying27, info27, Tryd.underlying29, info29, Tryd.underlying34, info34, nadd, nadd1, nadd2, nadd3, n1add, n2add, tksA_len, tkA, tksA, decide_true, decide_false, castlit, List.getD_cons_zero, List.getD_cons_succ, vT]))
        all_goals first | (first | ((first | refine ⟨_, ?_, rfl⟩ | refine ⟨_, ?_, rfl, rfl⟩ | refine ⟨_, ?_⟩); (first | exact Sg.sub.refl _ | ((repeat (first | exact Sg.sub.refl _ | refine Sg.sub.set_both ?_ | refine Sg.sub.set_fresh ?_ (by first | assumption | exact Sg.set_none (by assumption) (by first | assumption | (apply Go.Cert.ne_of2a; assumption; assumption))))); done) | (intro y p hy; simp only [Sg.set_apply, Sg.del_apply] at hy ⊢; grind))) | (exfalso; omega)) | exact absurd rfl ‹¬ _› | skip
      · have hs := t21 (litL 1 m [])
        rw [show litL 1 m [] = dec m from rfl] at hs h7'
        rw [lex_dec (by omega)] at hs
        (refine vfun (fun d => if d = 1 then .ro else .no) mixed Tryd.func3 (by kernel_rfl) ?_; simp only [bodyOf, Tryd.f3, Option.getD_some])
        repeat' (first | with_reducible rfl | exact .inr trivial | with_reducible apply And.intro | with_reducible apply vqx_step | with_reducible apply vqm_step | with_reducible refine vkp_free (by decide +kernel) ?_ | with_reducible intro _ | ((first | (with_reducible first | refine .rs ?_ | refine .ds (by kernel_rfl) ?_ | refine .dg (by kernel_rfl) ?_ | refine .rg ?_ | refine .ite ?_ | refine .ret ?_ | refine .skip ?_ | refine .exit ?_ | refine .scope ?_ | refine .seq (.label ?_) | refine .block ?_ | refine .seq ?_) | (simp (disch := first | assumption | (apply Go.Cert.ne_of2; assumption; assumption) | (apply Go.Cert.ne_ob; assumption; assumption; (intro e; cases e; done)) | omega) only [w64, w8, tg_eq, Go.V.n1, Go.V.n2, Go.V.nn, Int.tdiv_eq_ediv_of_nonneg, Sg.set_same, Sg.set_ne, Sg.set_ne', Sg.del_ne, Sg.del_ne']) | ((with_reducible refine VCalls.mono (e4 _) ?_); rintro _ S ⟨rfl, rfl⟩) | ((with_reducible refine VCalls.mono (h5 _) ?_); rintro _ S ⟨rfl, rfl⟩) | ((with_reducible refine VCalls.mono (h7' _) ?_); rintro _ S ⟨rfl, rfl⟩) | ((with_reducible refine (hs _).mono ?_); rintro y σ' ⟨⟨l, τ, ho, rfl⟩ | ⟨e, a, ho, he, rfl⟩, rfl⟩ <;> cases ho)); (try simp only [vO, vQ, ↓vP, vE, vS, vB, vL, vF, vM, vN, vbs_full, Nat.reduceEqDiff, Nat.reduceAdd, Nat.reduceLeDiff, ne_eq, not_false_eq_true, Nat.reduceMul, Nat.reduceSub, Int.toNat_zero, Int.reduceToNat, Tryd.underlying3, info3, Tryd.underlying4, info4, Tryd.underlying9, info9, Tryd.underlying23, info23, Tryd.underlying25, info25, Tryd.underlying27, info27, Tryd.underlying29, info29, Tryd.underlying34, info34, nadd, nadd1, nadd2, nadd3, n1add, n2add, tksA_len, tkA, tksA, decide_true, decide_false, castlit, List.getD_cons_zero, List.getD_cons_succ, vT])) | with_reducible refine vfresh_set ?_ | with_reducible refine vfresh_intro (fun _ _ => ?_) | with_reducible refine vif_intro (fun _ => ?_) (fun _ => ?_) | omega | ((with_reducible first | refine vop_at ?_ | refine vops_at ?_ | refine vquiet_at ?_ | refine vmix_at ?_ | refine Holds_at ?_); simp only [vO, vQ, ↓vP, vE, vS, vB, vL, vF, vM, vN, vbs_full, Nat.reduceEqDiff, Nat.reduceAdd, Nat.reduceLeDiff, ne_eq, not_false_eq_true, Nat.reduceMul, Nat.reduceSub, Int.toNat_zero, Int.reduceToNat, Tryd.underlying3, info3, Tryd.underlying4, info4, Tryd.underlying9, info9, Tryd.underlying23, info23, Tryd.underlying25, info25, Tryd.underlying27, info27, Tryd.underlying29, info29, Tryd.underlying34, info34, nadd, nadd1, nadd2, nadd3, n1add, n2add, tksA_len, tkA, tksA, decide_true, decide_false, castlit, List.getD_cons_zero, List.getD_cons_succ, vT]))
        all_goals first | (first | ((first | refine ⟨_, ?_, rfl⟩ | refine ⟨_, ?_, rfl, rfl⟩ | refine ⟨_, ?_⟩); (first | exact Sg.sub.refl _ | ((repeat (first | exact Sg.sub.refl _ | refine Sg.sub.set_both ?_ | refine Sg.sub.set_fresh ?_ (by first | assumption | exact Sg.set_none (by assumption) (by first | assumption | (apply Go.Cert.ne_of2a; assumption; assumption))))); done) | (intro y p hy; simp only [Sg.set_apply, Sg.del_apply] at hy ⊢; grind))) | (exfalso; omega)) | exact absurd rfl ‹¬ _› | skip
      · have hs := t21 (litL 2 m t)
        rw [show litL 2 m t = quoteL t from rfl] at hs h7'
        rw [lex_quote ht] at hs
        (refine vfun (fun d => if d = 1 then .ro else .no) mixed Tryd.func3 (by kernel_rfl) ?_; simp only [bodyOf, Tryd.f3, Option.getD_some])
        repeat' (first | with_reducible rfl | exact .inr trivial | with_reducible apply And.intro | with_reducible apply vqx_step | with_reducible apply vqm_step | with_reducible refine vkp_free (by decide +kernel) ?_ | with_reducible intro _ | ((first | (with_reducible first | refine .rs ?_ | refine .ds (by kernel_rfl) ?_ | refine .dg (by kernel_rfl) ?_ | refine .rg ?_ | refine .ite ?_ | refine .ret ?_ | refine .skip ?_ | refine .exit ?_ | refine .scope ?_ | refine .seq (.label ?_) | refine .block ?_ | refine .seq ?_) | (simp (disch := first | assumption | (apply Go.Cert.ne_of2; assumption; assumption) | (apply Go.Cert.ne_ob; assumption; assumption; (intro e; cases e; done)) | omega) only [w64, w8, tg_eq, Go.V.n1, Go.V.n2, Go.V.nn, Int.tdiv_eq_ediv_of_nonneg, Sg.set_same, Sg.set_ne, Sg.set_ne', Sg.del_ne, Sg.del_ne']) | ((with_reducible refine VCalls.mono (e4 _) ?_); rintro _ S ⟨rfl, rfl⟩) | ((with_reducible refine VCalls.mono (h5 _) ?_); rintro _ S ⟨rfl, rfl⟩) | ((with_reducible refine VCalls.mono (h7' _) ?_); rintro _ S ⟨rfl, rfl⟩) | ((with_reducible refine (hs _).mono ?_); rintro y σ' ⟨⟨l, τ, ho, rfl⟩ | ⟨e, a, ho, he, rfl⟩, rfl⟩ <;> cases ho)); (try simp only [vO, vQ, ↓vP, vE, vS, vB, vL, vF, vM, vN, vbs_full, Nat.reduceEqDiff, Nat.reduceAdd, Nat.reduceLeDiff, ne_eq, not_false_eq_true, Nat.reduceMul, Nat.reduceSub, Int.toNat_zero, Int.reduceToNat, Tryd.underlying3, info3, Tryd.underlying4, info4, Tryd.underlying9, info9, Tryd.underlying23, info23, Tryd.underlying25, info25, Tryd.underlying27, info27, Tryd.underlying29, info29, Tryd.underlying34, info34, nadd, nadd1, nadd2, nadd3, n1add, n2add, tksA_len, tkA, tksA, decide_true, decide_false, castlit, List.getD_cons_zero, List.getD_cons_succ, vT])) | with_reducible refine vfresh_set ?_ | with_reducible refine vfresh_intro (fun _ _ => ?_) | with_reducible refine vif_intro (fun _ => ?_) (fun _ => ?_) | omega | ((with_reducible first | refine vop_at ?_ | refine vops_at ?_ | refine vquiet_at ?_ | refine vmix_at ?_ | refine Holds_at ?_); simp only [vO, vQ, ↓vP, vE, vS, vB, vL, vF, vM, vN, vbs_full, Nat.reduceEqDiff, Nat.reduceAdd, Nat.reduceLeDiff, ne_eq, not_false_eq_true, Nat.reduceMul, Nat.reduceSub, Int.toNat_zero, Int.reduceToNat, Tryd.underlying3, info3, Tryd.underlying4, info4, Tryd.underlying9, info9, Tryd.underlying23, info23, Tryd.underlying25, info25, Tryd.underlying27, info27, Tryd.underlying29, info29, Tryd.underlying34, info34, nadd, nadd1, nadd2, nadd3, n1add, n2add, tksA_len, tkA, tksA, decide_true, decide_false, castlit, List.getD_cons_zero, List.getD_cons_succ, vT]))
        all_goals first | (first | ((first | refine ⟨_, ?_, rfl⟩ | refine ⟨_, ?_, rfl, rfl⟩ | refine ⟨_, ?_⟩); (first | exact Sg.sub.refl _ | ((repeat (first | exact Sg.sub.refl _ | refine Sg.sub.set_both ?_ | refine Sg.sub.set_fresh ?_ (by first | assumption | exact Sg.set_none (by assumption) (by first | assumption | (apply Go.Cert.ne_of2a; assumption; assumption))))); done) | (intro y p hy; simp only [Sg.set_apply, Sg.del_apply] at hy ⊢; grind))) | (exfalso; omega)) | exact absurd rfl ‹¬ _› | skip
  · generalize rightV k n t = r at *
    (refine vfun (fun d => if d = 1 then .ro else .no) mixed Tryd.func3 (by kernel_rfl) ?_; simp only [bodyOf, Tryd.f3, Option.getD_some])
    repeat' (first | with_reducible rfl | exact .inr trivial | with_reducible apply And.intro | with_reducible apply vqx_step | with_reducible apply vqm_step | with_reducible refine vkp_free (by decide +kernel) ?_ | with_reducible intro _ | ((first | (with_reducible first | refine .rs ?_ | refine .ds (by kernel_rfl) ?_ | refine .dg (by kernel_rfl) ?_ | refine .rg ?_ | refine .ite ?_ | refine .ret ?_ | refine .skip ?_ | refine .exit ?_ | refine .scope ?_ | refine .seq (.label ?_) | refine .block ?_ | refine .seq ?_) | (simp (disch := first | assumption | (apply Go.Cert.ne_of2; assumption; assumption) | (apply Go.Cert.ne_ob; assumption; assumption; (intro e; cases e; done)) | omega) only [w64, w8, tg_eq, Go.V.n1, Go.V.n2, Go.V.nn, Int.tdiv_eq_ediv_of_nonneg, Sg.set_same, Sg.set_ne, Sg.set_ne', Sg.del_ne, Sg.del_ne']) | ((with_reducible refine VCalls.mono (e4 _) ?_); rintro _ S ⟨rfl, rfl⟩) | ((with_reducible refine VCalls.mono (h5 _) ?_); rintro _ S ⟨rfl, rfl⟩)); (try simp only [vO, vQ, ↓vP, vE, vS, vB, vL, vF, vM, vN, vbs_full, Nat.reduceEqDiff, Nat.reduceAdd, Nat.reduceLeDiff, ne_eq, not_false_eq_true, Nat.reduceMul, Nat.reduceSub, Int.toNat_zero, Int.reduceToNat, Tryd.underlying3, info3, Tryd.underlying4, info4, Tryd.underlying9, info9, Tryd.underlying23, info23, Tryd.underlying25, info25, hr, decide_true, decide_false, vT])) | with_reducible refine vfresh_set ?_ | with_reducible refine vfresh_intro (fun _ _ => ?_) | with_reducible refine vif_intro (fun _ => ?_) (fun _ => ?_) | omega | ((with_reducible first | refine vop_at ?_ | refine vops_at ?_ | refine vquiet_at ?_ | refine vmix_at ?_ | refine Holds_at ?_); simp only [vO, vQ, ↓vP, vE, vS, vB, vL, vF, vM, vN, vbs_full, Nat.reduceEqDiff, Nat.reduceAdd, Nat.reduceLeDiff, ne_eq, not_false_eq_true, Nat.reduceMul, Nat.reduceSub, Int.toNat_zero, Int.reduceToNat, Tryd.underlying3, info3, Tryd.underlying4, info4, Tryd.underlying9, info9, Tryd.underlying23, info23, Tryd.underlying25, info25, hr, decide_true, decide_false, vT]))
    all_goals (first | ((first | refine ⟨_, ?_, rfl⟩ | refine ⟨_, ?_, rfl, rfl⟩ | refine ⟨_, ?_⟩); (first | exact Sg.sub.refl _ | ((repeat (first | exact Sg.sub.refl _ | refine Sg.sub.set_both ?_ | refine Sg.sub.set_fresh ?_ (by first | assumption | exact Sg.set_none (by assumption) (by first | assumption | (apply Go.Cert.ne_of2a; assumption; assumption))))); done) | (intro y p hy; simp only [Sg.set_apply, Sg.del_apply] at hy ⊢; grind))) | (exfalso; omega))
end Go.Proofs.YtpfancgcamclnaaDoor

set_option linter.unusedSimpArgs false
set_option linter.unusedVariables false
namespace Go.Proofs.YtpfancgcamclnaaDoor
open Go Go.V Go.Lex
set_option maxHeartbeats 1000000 in
set_option maxRecDepth 100000 in
theorem e7 (k : Int) (n : Nat) (t : List UInt8) (hn : n < 9223372036854775808) (ht : t.length ≤ 40) (σ : Sg) : VCalls Tryd.prog 7 [.agg [.i k, .i n, .s (bs t)]] σ (fun x σ' => x = .s (bs (litL k n t)) ∧ σ' = σ) := by
  unfold litL quoteL
  have hq := quo_len t
  (refine vfun (fun _ => .ro) mixed Tryd.func7 (by kernel_rfl) ?_; simp only [bodyOf, Tryd.f7, Option.getD_some])
  repeat' (first | with_reducible rfl | exact .inr trivial | with_reducible apply And.intro | with_reducible apply vqx_step | with_reducible apply vqm_step | with_reducible refine vkp_free (by decide +kernel) ?_ | with_reducible intro _ | ((first | (with_reducible first | refine .rs ?_ | refine .ds (by kernel_rfl) ?_ | refine .dg (by kernel_rfl) ?_ | refine .rg ?_ | refine .ite ?_ | refine .ret ?_ | refine .skip ?_ | refine .exit ?_ | refine .scope ?_ | refine .seq (.label ?_) | refine .block ?_ | refine .seq ?_) | (simp (disch := first | assumption | (apply Go.Cert.ne_of2; assumption; assumption) | (apply Go.Cert.ne_ob; assumption; assumption; (intro e; cases e; done)) | omega) only [w64, w8, tg_eq, Go.V.n1, Go.V.n2, Go.V.nn, Int.tdiv_eq_ediv_of_nonneg, Sg.set_same, Sg.set_ne, Sg.set_ne', Sg.del_ne, Sg.del_ne']) | ((with_reducible refine VCalls.mono (e11 n hn _) ?_); rintro _ S ⟨rfl, rfl⟩) | ((with_reducible refine VCalls.mono (e12 t (by omega) _) ?_); rintro _ S ⟨rfl, rfl⟩)); (try simp only [vO, vQ, ↓vP, vE, vS, vB, vL, vF, vM, vN, vbs_full, Nat.reduceEqDiff, Nat.reduceAdd, Nat.reduceLeDiff, ne_eq, not_false_eq_true, Nat.reduceMul, Nat.reduceSub, Int.toNat_zero, Int.reduceToNat, Tryd.underlying3, info3, Tryd.underlying4, info4, Tryd.underlying9, info9, Tryd.underlying23, info23, vT])) | with_reducible refine vfresh_set ?_ | with_reducible refine vfresh_intro (fun _ _ => ?_) | with_reducible refine vif_intro (fun _ => ?_) (fun _ => ?_) | omega | ((with_reducible first | refine vop_at ?_ | refine vops_at ?_ | refine vquiet_at ?_ | refine vmix_at ?_ | refine Holds_at ?_); simp only [vO, vQ, ↓vP, vE, vS, vB, vL, vF, vM, vN, vbs_full, Nat.reduceEqDiff, Nat.reduceAdd, Nat.reduceLeDiff, ne_eq, not_false_eq_true, Nat.reduceMul, Nat.reduceSub, Int.toNat_zero, Int.reduceToNat, Tryd.underlying3, info3, Tryd.underlying4, info4, Tryd.underlying9, info9, Tryd.underlying23, info23, vT]))
  all_goals exact ⟨_, .refl _, by simp [*], rfl⟩
theorem t3 (k n : Int) (t : List UInt8) (hn : n < 9223372036854775808) (σ : Sg) : VCalls Tryd.prog 3 [.agg [.i k, .i n, .s (bs t)]] σ (fun x σ' => x = .b true ∧ σ' = σ) := t3g k n t hn e7 σ
end Go.Proofs.YtpfancgcamclnaaDoor

/- From a call's triple to the call as the rows have it. -/
namespace Go.V
open Go.RowKit
variable {P : Program}
/-- The ghost state at the start: nothing may be written, nothing has a name. -/
def K0 (w : World) : K := ⟨w, fun _ _ => False, fun _ => none, w.heap.size⟩
def S0 : Sg := fun _ => none
theorem st0 (w : World) (hg : Glob (K0 w)) : St (K0 w) S0 where
  ob _ _ h := by cases h
  apart _ _ _ _ _ _ _ _ _ _ h := by cases h
  fin := ⟨0, fun _ _ => rfl⟩
  mlt _ _ h := h.elim
  bas := Nat.le_refl _
  glob := hg
theorem VCalls.calls {f : FuncId} {fn : Func} {args : List AV} {vs : Array Value} {w : World} (hf : P.funcs[f]? = some fn) (hb : (fn.body.isSome && !(fn.name == "runtime.NumGoroutine")) = true)
    (h : VCalls P f args S0 (fun x _ => x = .b true)) (hr : RelArgs (K0 w) args vs) (hg : Glob (K0 w)) : Calls P f vs w fun e w' => e = .returned (.bool true) ∧ Below w.heap.size w w' := by
  simp only [Bool.and_eq_true] at hb
  obtain ⟨h1, h2⟩ := hb
  obtain ⟨c, hc⟩ : ∃ c, fn.body = some c := by
    cases hh : fn.body with
    | none => rw [hh] at h1; cases h1
    | some c => exact ⟨c, rfl⟩
  have hrun : (callFunc f vs).run P w = .ok (.enter f vs) w := by
    have h3 : fn.name ≠ "runtime.NumGoroutine" := by simpa using h2
    simp [callFunc, program, Sem.run, Bind.bind, Sem.bind, hf, h3, hc]
  have hd := h.go (K0 w) vs (st0 w hg) hr
  rw [show (K0 w).w = w from rfl, hrun] at hd
  have hcalls : Calls P f vs w (PostE (K0 w) (fun x _ => x = .b true)) := hd
  refine hcalls.mono fun e w' hp => ?_
  cases e with
  | returned v =>
    obtain ⟨κ', x, σ', rfl, hle, hst, hrel, rfl⟩ := hp
    refine ⟨?_, ⟨hle.os, hle.tape, hle.output, hle.size, fun k hk => hle.block k hk⟩⟩
    cases hrel
    rfl
  | _ => exact hp.elim
theorem rel_args1 {κ : K} {v : Value} : RelArgs κ [.val v] #[v] := ⟨rfl, fun i x u h1 h2 => by
  cases i with
  | zero => simp at h1 h2; subst h1; subst h2; exact .val _
  | succ i => simp at h1⟩
theorem rel_args2 {κ : K} {v v' : Value} : RelArgs κ [.val v, .val v'] #[v, v'] := ⟨rfl, fun i x u h1 h2 => by
  match i with
  | 0 => simp at h1 h2; subst h1; subst h2; exact .val _
  | 1 => simp at h1 h2; subst h1; subst h2; exact .val _
  | i + 2 => simp at h1⟩
end Go.V

/- Arguments: what a row's plain data are, as abstract values. -/
set_option linter.unusedVariables false
namespace Go.V
open Go.RowKit
variable {P : Program}

/-- The cells of a plain value of type t. -/
inductive AT (P : Program) : TypeId → List AV → Prop
  | bool {t : TypeId} {b : Bool} (h : P.underlying t = some .bool) : AT P t [.b b]
  | int {t : TypeId} {k : IntKind} {n : Int} (h : P.underlying t = some (.int k)) (hw : (Lit.int k n).wf = true) : AT P t [.val (.int k n)]
  | str {t : TypeId} {s : ByteArray} (h : P.underlying t = some .string) (hs : s.size ≤ maxLen) : AT P t [.s s]
  | nil {t e : TypeId} (h : P.underlying t = some (.slice e)) : AT P t [.sl .nil []]
  | sl {t e : TypeId} {es : List (List AV)} (h : P.underlying t = some (.slice e)) (hn : es.length ≤ maxLen) (hes : ∀ x ∈ es, AT P e x) : AT P t [.sl .view es]
  | struct {t : TypeId} {fs : Array Field} {cs : List AV} (h : P.underlying t = some (.struct fs)) (hl : cs.length = P.cellsOf t) (hf : ∀ f ∈ fs.toList, AT P f.type ((cs.drop f.offset).take (P.cellsOf f.type))) : AT P t cs
  | array {t e : TypeId} {n : Nat} {cs : List AV} (h : P.underlying t = some (.array n e)) (hl : cs.length = P.cellsOf t) (he : ∀ i, i < n → AT P e ((cs.drop (i * P.cellsOf e)).take (P.cellsOf e))) : AT P t cs

def laidF (P : Program) (total : Nat) : List Field → Nat → Bool
  | [], off => off == total
  | f :: r, off => f.offset == off && laidF P total r (off + P.cellsOf f.type)
/-- A set of types, closed, all plain. -/
def plainSet (P : Program) (l : List TypeId) : Bool := l.all fun t =>
  match P.underlying t with
  | some .bool | some (.int _) | some .string => true
  | some (.slice e) => l.contains e && decide (0 < P.cellsOf e)
  | some (.struct fs) => fs.toList.all (fun f => l.contains f.type) && laidF P (P.cellsOf t) fs.toList 0
  | some (.array n e) => l.contains e && n * P.cellsOf e == P.cellsOf t
  | _ => false

def RL (κ : K) (cs : List AV) (vs : List Value) : Prop := cs.length = vs.length ∧ ∀ (i : Nat) (x : AV) (v : Value), cs[i]? = some x → vs[i]? = some v → Rel κ x v
theorem RL.row {κ : K} {cs : List AV} {vs : List Value} (h : RL κ cs vs) : RelRow κ cs vs.toArray := ⟨by simpa using h.1, fun i x v h1 h2 => h.2 i x v h1 (by simpa using h2)⟩
theorem RL.one {κ : K} {x : AV} {v : Value} (h : Rel κ x v) : RL κ [x] [v] := ⟨rfl, fun i y u h1 h2 => by
  cases i with
  | zero => simp at h1 h2; subst h1; subst h2; exact h
  | succ i => simp at h1⟩
theorem RL.app {κ : K} {a b : List AV} {u v : List Value} (h : RL κ a u) (h' : RL κ b v) : RL κ (a ++ b) (u ++ v) := by
  refine ⟨by simp [h.1, h'.1], fun i x y h1 h2 => ?_⟩
  rcases Nat.lt_or_ge i a.length with hi | hi
  · rw [List.getElem?_append_left hi] at h1
    rw [List.getElem?_append_left (by rw [← h.1]; exact hi)] at h2
    exact h.2 i x y h1 h2
  · rw [List.getElem?_append_right hi] at h1
    rw [List.getElem?_append_right (by rw [← h.1]; exact hi), ← h.1] at h2
    exact h'.2 _ x y h1 h2

theorem mapM_each {α β : Type} {g : α → Option β} : ∀ {l : List α} {ys : List β}, l.mapM g = some ys → ∀ x ∈ l, ∃ y, g x = some y
  | [], _, _, x, hx => by cases hx
  | a :: l, ys, h, x, hx => by
    rw [List.mapM_cons] at h
    cases ha : g a with
    | none => rw [ha] at h; cases h
    | some y =>
      rw [ha] at h
      cases hr : l.mapM g with
      | none => rw [hr] at h; cases h
      | some zs =>
        rcases List.mem_cons.1 hx with rfl | hx
        · exact ⟨y, ha⟩
        · exact mapM_each hr x hx
theorem mapM_len {α β : Type} {g : α → Option β} : ∀ {l : List α} {ys : List β}, l.mapM g = some ys → ys.length = l.length
  | [], ys, h => by simp at h; subst h; rfl
  | a :: l, ys, h => by
    rw [List.mapM_cons] at h
    cases ha : g a with
    | none => rw [ha] at h; cases h
    | some y =>
      rw [ha] at h
      cases hr : l.mapM g with
      | none => rw [hr] at h; cases h
      | some zs =>
        rw [hr] at h
        cases h
        simp [mapM_len hr]
theorem mapM_get {α β : Type} {g : α → Option β} : ∀ {l : List α} {ys : List β} {i : Nat} {x : α}, l.mapM g = some ys → l[i]? = some x → ∃ y, ys[i]? = some y ∧ g x = some y
  | [], _, _, _, _, hx => by simp at hx
  | a :: l, ys, i, x, h, hx => by
    rw [List.mapM_cons] at h
    cases ha : g a with
    | none => rw [ha] at h; cases h
    | some y =>
      rw [ha] at h
      cases hr : l.mapM g with
      | none => rw [hr] at h; cases h
      | some zs =>
        rw [hr] at h
        cases h
        cases i with
        | zero => simp at hx; subst hx; exact ⟨y, rfl, ha⟩
        | succ i => simp at hx; simpa using mapM_get hr hx

theorem struct_row {κ : K} {vs : List Value} (P : Program) : ∀ (fs : List Field) (off : Nat), laidF P vs.length fs off = true → off ≤ vs.length → (∀ f ∈ fs, ∃ cs, AT P f.type cs ∧ RL κ cs ((vs.drop f.offset).take (P.cellsOf f.type)) ∧ f.offset + P.cellsOf f.type ≤ vs.length) →
    ∃ cs, RL κ cs (vs.drop off) ∧ ∀ f ∈ fs, off ≤ f.offset ∧ AT P f.type ((cs.drop (f.offset - off)).take (P.cellsOf f.type))
  | [], off, hl, _, _ => by
    simp only [laidF, beq_iff_eq] at hl
    exact ⟨[], by rw [List.drop_of_length_le (by omega)]; exact ⟨rfl, fun i x v h => by simp at h⟩, fun f hf => by cases hf⟩
  | f :: fs, off, hl, ho, hf => by
    simp only [laidF, Bool.and_eq_true, beq_iff_eq] at hl
    obtain ⟨he, hl⟩ := hl
    subst he
    obtain ⟨c, h1, h2, h3⟩ := hf f (by simp)
    obtain ⟨cs, h4, h5⟩ := struct_row (κ := κ) P fs _ hl h3 (fun g hg => hf g (by simp [hg]))
    have hclen : c.length = P.cellsOf f.type := by rw [h2.1]; simp; omega
    refine ⟨c ++ cs, ?_, fun g hg => ?_⟩
    · have := h2.app h4
      rw [← List.drop_drop, List.take_append_drop] at this
      exact this
    · rcases List.mem_cons.1 hg with rfl | hg
      · refine ⟨Nat.le_refl _, ?_⟩
        rw [Nat.sub_self, List.drop_zero, List.take_append_of_le_length (by omega), List.take_of_length_le (by omega)]
        exact h1
      · obtain ⟨h6, h7⟩ := h5 g hg
        refine ⟨by omega, ?_⟩
        rw [show g.offset - f.offset = c.length + (g.offset - (f.offset + P.cellsOf f.type)) by omega, ← List.drop_drop, List.drop_left]
        exact h7
theorem array_row {κ : K} {vs : List Value} (P : Program) (e : TypeId) (n : Nat) : ∀ (m k : Nat), k + m = n → vs.length = n * P.cellsOf e → (∀ i, i < n → ∃ cs, AT P e cs ∧ RL κ cs ((vs.drop (i * P.cellsOf e)).take (P.cellsOf e))) →
    ∃ cs, RL κ cs (vs.drop (k * P.cellsOf e)) ∧ ∀ i, i < m → AT P e ((cs.drop (i * P.cellsOf e)).take (P.cellsOf e))
  | 0, k, hk, hl, _ => ⟨[], by rw [List.drop_of_length_le (by rw [hl, show k = n by omega]; exact Nat.le_refl _)]; exact ⟨rfl, fun i x v h => by simp at h⟩, fun i hi => by omega⟩
  | m + 1, k, hk, hl, hf => by
    obtain ⟨c, h1, h2⟩ := hf k (by omega)
    obtain ⟨cs, h4, h5⟩ := array_row (κ := κ) P e n m (k + 1) (by omega) hl hf
    have hle : (k + 1) * P.cellsOf e ≤ n * P.cellsOf e := Nat.mul_le_mul_right _ (by omega)
    rw [Nat.succ_mul] at hle
    have hclen : c.length = P.cellsOf e := by rw [h2.1]; simp; omega
    refine ⟨c ++ cs, ?_, fun i hi => ?_⟩
    · have := h2.app h4
      rw [Nat.succ_mul, ← List.drop_drop, List.take_append_drop] at this
      exact this
    · cases i with
      | zero =>
        rw [Nat.zero_mul, List.drop_zero, List.take_append_of_le_length (by omega), List.take_of_length_le (by omega)]
        exact h1
      | succ i =>
        rw [show (i + 1) * P.cellsOf e = c.length + i * P.cellsOf e by rw [Nat.succ_mul]; omega, ← List.drop_drop, List.drop_left]
        exact h5 i (by omega)

theorem cells_reads {W : World} {a : Addr} {n : Nat} {l : List Value} (h : W.cells? 0 a n = some l) : l.length = n ∧ ∀ j v, l[j]? = some v → W.cell? (a.add j) = some v := by
  unfold World.cells? at h
  rw [if_pos (Nat.zero_le _)] at h
  refine ⟨by simpa using mapM_len h, fun j v hj => ?_⟩
  have hjn : j < n := by
    have := mapM_len h
    rcases Nat.lt_or_ge j l.length with h' | h'
    · simp at this; omega
    · rw [List.getElem?_eq_none h'] at hj; cases hj
  obtain ⟨y, h1, h2⟩ := mapM_get (i := j) (x := j) h (by simp [hjn])
  rw [hj] at h1
  cases h1
  exact h2
theorem spot_of_cell {W : World} {a : Addr} {v : Value} (h : W.cell? a = some v) : a.spot = none := by
  cases hs : a.spot with
  | none => rfl
  | some x =>
    exfalso
    simp only [World.cell?, hs] at h
    split at h <;> simp at h

theorem laidF_le (P : Program) (total : Nat) : ∀ (fs : List Field) (off : Nat), laidF P total fs off = true → off ≤ total ∧ ∀ f ∈ fs, f.offset + P.cellsOf f.type ≤ total
  | [], off, h => by
    simp only [laidF, beq_iff_eq] at h
    exact ⟨by omega, fun f hf => by cases hf⟩
  | f :: fs, off, h => by
    simp only [laidF, Bool.and_eq_true, beq_iff_eq] at h
    obtain ⟨he, h⟩ := h
    obtain ⟨h1, h2⟩ := laidF_le P total fs _ h
    refine ⟨by omega, fun g hg => ?_⟩
    rcases List.mem_cons.1 hg with rfl | hg
    · omega
    · exact h2 g hg
/-- **The opening.** -/
theorem open_plain {H : Type} {enc : TypeId × Value → H} {W : World} {l : List TypeId} (hl : plainSet P l = true) : ∀ (fuel : Nat) (t : TypeId) (vs : List Value) (d : DataW H) (ps : List MemPlace), t ∈ l →
    DataW.trod enc P W 0 (fun _ => true) true fuel t vs = some (d, ps) → ∃ cs, AT P t cs ∧ RL (K0 W) cs vs
  | 0, _, _, _, _, _, h => by cases h
  | fuel + 1, t, vs, d, ps, ht, h => by
    have hp := List.all_eq_true.1 hl t ht
    have ih := open_plain (enc := enc) (W := W) hl fuel
    unfold DataW.trod at h
    split at h
    all_goals try (rename_i hu; rw [hu] at hp)
    all_goals first | (cases hp; done) | (cases h; done) | skip
    · exact ⟨_, .bool hu, .one (.val _)⟩
    · split at h
      · rename_i hc
        obtain ⟨rfl, hw⟩ := hc
        exact ⟨_, .int hu hw, .one (.val _)⟩
      · cases h
    · split at h
      · rename_i hc
        exact ⟨_, .str hu hc, .one (.val _)⟩
      · cases h
    · exact ⟨_, .nil hu, .one (.slnil _ trivial)⟩
    · rename_i e a len cap
      simp only [Bool.and_eq_true, decide_eq_true_eq] at hp
      obtain ⟨hpe, hsz⟩ := hp
      have hpe' : e ∈ l := by simpa using hpe
      dsimp only at h
      split at h
      · rename_i hc
        obtain ⟨_, hlc, hcm⟩ := hc
        cases hm : List.mapM (fun i => (W.cells? 0 (a.add (i * P.cellsOf e)) (P.cellsOf e)).bind (DataW.trod enc P W 0 (fun x => true) true fuel e)) (List.range len) with
        | none => rw [hm] at h; cases h
        | some elems =>
          have key : ∀ i, i < len → ∃ cs li, AT P e cs ∧ RL (K0 W) cs li ∧ W.cells? 0 (a.add (i * P.cellsOf e)) (P.cellsOf e) = some li := by
            intro i hi
            obtain ⟨y, _, hy⟩ := mapM_get (i := i) (x := i) hm (by simp [hi])
            cases hli : W.cells? 0 (a.add (i * P.cellsOf e)) (P.cellsOf e) with
            | none => rw [hli] at hy; cases hy
            | some li =>
              rw [hli] at hy
              obtain ⟨cs, h1, h2⟩ := ih e li y.1 y.2 hpe' hy
              exact ⟨cs, li, h1, h2, rfl⟩
          rcases Nat.eq_zero_or_pos len with h0 | h0
          · subst h0
            exact ⟨_, .sl hu (Nat.zero_le _) (fun x hx => by cases hx), .one (.slemp .view (.inl rfl) a cap)⟩
          have hs : a.spot = none := by
            obtain ⟨cs, li, _, _, h3⟩ := key 0 h0
            obtain ⟨h4, h5⟩ := cells_reads h3
            have := h5 0 _ (List.getElem?_eq_getElem (by omega))
            rw [Nat.zero_mul] at this
            exact spot_of_cell (a := (a.add 0).add 0) this
          let g : Nat → List AV := fun i => if hi : i < len then (key i hi).choose else []
          have hg : ∀ i (hi : i < len), g i = (key i hi).choose := fun i hi => dif_pos hi
          have hes : ∀ i e', ((List.range len).map g)[i]? = some e' → ∃ hi : i < len, e' = (key i hi).choose := by
            intro i e' hi
            rw [List.getElem?_map] at hi
            rcases Nat.lt_or_ge i len with h' | h'
            · rw [List.getElem?_range h'] at hi
              cases hi
              exact ⟨h', hg i h'⟩
            · rw [List.getElem?_eq_none (by simpa using h')] at hi; cases hi
          have hcell : ∀ i (hi : i < len) j v, (key i hi).choose_spec.choose[j]? = some v → W.cell? ⟨a.block, a.off + i * P.cellsOf e + j, none⟩ = some v := by
            intro i hi j v hv
            obtain ⟨_, _, h3⟩ := (key i hi).choose_spec.choose_spec
            have := (cells_reads h3).2 j v hv
            rw [addr_add hs, addr_add rfl] at this
            exact this
          refine ⟨_, .sl (es := (List.range len).map g) hu (by simp; omega) (fun x hx => ?_), .one (.sl .view _ a len cap (P.cellsOf e) (fun i j => (W.cell? ⟨a.block, a.off + i * P.cellsOf e + j, none⟩).getD undef) trivial (by simp) hlc hs (fun i e' hi => ?_) (fun i j hi hj => ⟨?_, fun hM => hM⟩) (fun i j e' x hi hj => ?_))⟩
          · obtain ⟨i, hi, rfl⟩ := List.mem_map.1 hx
            have hi' : i < len := by simpa using hi
            rw [hg i hi']
            exact (key i hi').choose_spec.choose_spec.1
          · obtain ⟨hi', rfl⟩ := hes i e' hi
            obtain ⟨_, h2, h3⟩ := (key i hi').choose_spec.choose_spec
            rw [h2.1]
            exact (cells_reads h3).1
          · obtain ⟨_, h2, h3⟩ := (key i hi).choose_spec.choose_spec
            have hlen := (cells_reads h3).1
            have := hcell i hi j _ (List.getElem?_eq_getElem (by omega))
            show W.cell? _ = _
            rw [this]
            rfl
          · obtain ⟨hi', rfl⟩ := hes i e' hi
            obtain ⟨_, h2, h3⟩ := (key i hi').choose_spec.choose_spec
            have hjl : j < (key i hi').choose.length := by
              rcases Nat.lt_or_ge j (key i hi').choose.length with h' | h'
              · exact h'
              · rw [List.getElem?_eq_none h'] at hj; cases hj
            have hjl' : j < (key i hi').choose_spec.choose.length := by rw [← h2.1]; exact hjl
            have := h2.2 j x _ hj (List.getElem?_eq_getElem hjl')
            rw [hcell i hi' j _ (List.getElem?_eq_getElem hjl')]
            exact this
      · cases h
    · rename_i vs _ _ fs
      simp only [Bool.and_eq_true] at hp
      split at h
      · rename_i hc
        cases hm : List.mapM (fun f => DataW.trod enc P W 0 (fun x => true) true fuel f.type (List.take (P.cellsOf f.type) (List.drop f.offset vs))) fs.toList with
        | none => rw [hm] at h; cases h
        | some xs =>
          rw [← hc] at hp
          have hle := (laidF_le P vs.length fs.toList 0 hp.2).2
          obtain ⟨cs, h1, h2⟩ := struct_row (κ := K0 W) (vs := vs) P fs.toList 0 hp.2 (Nat.zero_le _) (fun f hf => by
            obtain ⟨y, hy⟩ := mapM_each hm f hf
            have hft : f.type ∈ l := by have := List.all_eq_true.1 hp.1 f hf; simpa using this
            obtain ⟨cs, h3, h4⟩ := ih f.type _ y.1 y.2 hft hy
            exact ⟨cs, h3, h4, hle f hf⟩)
          refine ⟨cs, .struct hu (by rw [h1.1, List.drop_zero]; exact hc) (fun f hf => ?_), by simpa using h1⟩
          have := (h2 f hf).2
          simpa using this
      · cases h
    · rename_i vs _ _ n e
      simp only [Bool.and_eq_true, beq_iff_eq] at hp
      have hpe' : e ∈ l := by simpa using hp.1
      split at h
      · rename_i hc
        cases hm : List.mapM (fun i => DataW.trod enc P W 0 (fun x => true) true fuel e (List.take (P.cellsOf e) (List.drop (i * P.cellsOf e) vs))) (List.range n) with
        | none => rw [hm] at h; cases h
        | some xs =>
          obtain ⟨cs, h1, h2⟩ := array_row (κ := K0 W) (vs := vs) P e n n 0 (by omega) (by rw [hc, hp.2]) (fun i hi => by
            obtain ⟨y, hy⟩ := mapM_each hm i (by simpa using hi)
            obtain ⟨cs, h3, h4⟩ := ih e _ y.1 y.2 hpe' hy
            exact ⟨cs, h3, h4⟩)
          rw [Nat.zero_mul, List.drop_zero] at h1
          exact ⟨cs, .array hu (by rw [h1.1]; exact hc) h2, h1⟩
      · cases h
end Go.V

/- Arguments that are slices and structs: opened. -/
set_option linter.unusedVariables false
namespace Go.V
open Go.RowKit
variable {P : Program}
theorem one_of {W : World} {cs : List AV} {v : Value} (hv : v.cells.toList = [v]) (h : RL (K0 W) cs v.cells.toList) : ∃ x, cs = [x] ∧ Rel (K0 W) x v := by
  rw [hv] at h
  match cs, h with
  | [x], h => exact ⟨x, rfl, h.2 0 x v rfl rfl⟩
theorem open_sl {H : Type} {enc : TypeId × Value → H} {W : World} {base : Nat} {t e : TypeId} {v : Value} {d : DataW H} {p : List MemPlace} (l : List TypeId) (hl : plainSet P l = true) (ht : t ∈ l) (hu : P.underlying t = some (.slice e))
    (hw : Value.okWide P W .any base t v) (h : DataW.Trod enc P W 0 (fun _ => true) true t v d p) : ∃ x, AT P t [x] ∧ Rel (K0 W) x v := by
  obtain ⟨fuel, h⟩ := h
  obtain ⟨cs, h1, h2⟩ := open_plain hl fuel t _ d p ht h
  have hv : v.cells.toList = [v] := by
    simp only [Value.okWide, hu, Cell.okWide] at hw
    cases v <;> simp_all [Cell.ok, Value.cells]
  obtain ⟨x, rfl, hx⟩ := one_of hv h2
  exact ⟨x, h1, hx⟩
theorem open_st {H : Type} {enc : TypeId × Value → H} {W : World} {base : Nat} {t : TypeId} {fs : Array Field} {v : Value} {d : DataW H} {p : List MemPlace} (l : List TypeId) (hl : plainSet P l = true) (ht : t ∈ l) (hu : P.underlying t = some (.struct fs))
    (hw : Value.okWide P W .any base t v) (h : DataW.Trod enc P W 0 (fun _ => true) true t v d p) : ∃ cs, AT P t cs ∧ Rel (K0 W) (.agg cs) v := by
  obtain ⟨fuel, h⟩ := h
  obtain ⟨cs, h1, h2⟩ := open_plain hl fuel t _ d p ht h
  simp only [Value.okWide, hu] at hw
  obtain ⟨vs, rfl, _, _⟩ := hw
  have h3 := h2.row
  exact ⟨cs, h1, .agg cs vs (by simpa [Value.cells] using h3.1) (fun i x u g1 g2 => h3.2 i x u g1 (by simpa [Value.cells] using g2))⟩
theorem trod_low {H : Type} {enc : TypeId × Value → H} {W : World} {t : TypeId} {v : Value} {d : DataW H} {p : List MemPlace} (h : DataW.Trod enc P W 0 (fun _ => true) true t v d p) : ∀ x ∈ p, x.block < W.heap.size := by
  obtain ⟨m, hm⟩ := h
  exact DataW.trod_lt m _ _ _ hm
/-! ### What the readings say -/
theorem AT.inv_int {t : TypeId} {k : IntKind} {cs : List AV} (hu : P.underlying t = some (.int k)) (h : AT P t cs) : ∃ n, cs = [.val (.int k n)] ∧ (Lit.int k n).wf = true := by
  cases h with
  | int h hw => rw [hu] at h; cases h; exact ⟨_, rfl, hw⟩
  | _ => simp_all
theorem AT.inv_slice {t e : TypeId} {cs : List AV} (hu : P.underlying t = some (.slice e)) (h : AT P t cs) : cs = [.sl .nil []] ∨ ∃ es, cs = [.sl .view es] ∧ es.length ≤ maxLen ∧ ∀ x ∈ es, AT P e x := by
  cases h with
  | nil h => exact .inl rfl
  | sl h hn hes => rw [hu] at h; cases h; exact .inr ⟨_, rfl, hn, hes⟩
  | _ => simp_all
theorem AT.inv_struct {t : TypeId} {fs : Array Field} {cs : List AV} (hu : P.underlying t = some (.struct fs)) (h : AT P t cs) : cs.length = P.cellsOf t ∧ ∀ f ∈ fs.toList, AT P f.type ((cs.drop f.offset).take (P.cellsOf f.type)) := by
  cases h with
  | struct h hl hf => rw [hu] at h; cases h; exact ⟨hl, hf⟩
  | _ => simp_all
theorem AT.inv_array {t e : TypeId} {n : Nat} {cs : List AV} (hu : P.underlying t = some (.array n e)) (h : AT P t cs) : cs.length = P.cellsOf t ∧ ∀ i, i < n → AT P e ((cs.drop (i * P.cellsOf e)).take (P.cellsOf e)) := by
  cases h with
  | array h hl he => rw [hu] at h; cases h; exact ⟨hl, he⟩
  | _ => simp_all
theorem AT.inv_str {t : TypeId} {cs : List AV} (hu : P.underlying t = some .string) (h : AT P t cs) : ∃ s, cs = [.s s] ∧ s.size ≤ maxLen := by
  cases h with
  | str h hs => exact ⟨_, rfl, hs⟩
  | _ => simp_all
theorem AT.inv_bool {t : TypeId} {cs : List AV} (hu : P.underlying t = some .bool) (h : AT P t cs) : ∃ b, cs = [.b b] := by
  cases h with
  | bool h => exact ⟨_, rfl⟩
  | _ => simp_all
theorem wf_i64 {n : Int} (h : (Lit.int .i64 n).wf = true) : -9223372036854775808 ≤ n ∧ n ≤ 9223372036854775807 := by
  simp only [Lit.wf, Bool.and_eq_true, decide_eq_true_eq] at h
  exact h
theorem relArgs_nil {κ : K} : RelArgs κ [] #[] := ⟨rfl, fun i x u h1 h2 => by simp at h1⟩
theorem relArgs_cons {κ : K} {x : AV} {v : Value} {xs : List AV} {vs : List Value} (h : Rel κ x v) (hr : RelArgs κ xs vs.toArray) : RelArgs κ (x :: xs) (v :: vs).toArray := by
  refine ⟨by have := hr.1; simp at this ⊢; omega, fun i y u h1 h2 => ?_⟩
  cases i with
  | zero => simp at h1 h2; subst h1; subst h2; exact h
  | succ i => exact hr.2 i y u (by simpa using h1) (by simpa using h2)
end Go.V
