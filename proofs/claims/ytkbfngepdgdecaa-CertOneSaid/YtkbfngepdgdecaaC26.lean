/-wraps2-/
import Derived.Test.YtkbfngepdgdecaaC25
import Derived.Test.YtkbfngepdgdecaaC14
set_option linter.unusedSimpArgs false
set_option linter.unusedVariables false
namespace Go.Proofs.Ytkbfngepdgdecaa
open Go Go.V Go.Cert
instance (w : Int) (l : List UInt8) : Decidable (signOK w l) := by unfold signOK; infer_instance
/-- What signing comes to: nothing, where it may not be. -/
def addS (ps : Ps) (w : Int) (l : List UInt8) : Ps := if signOK w l then add ps w l else ps
def RegA (σ : Sg) (ρ : Nat) (own : List Nat) (ps : Ps) : Prop := ∃ m1 m2 pv tv ts, Reg σ ρ own ps m1 m2 pv tv ts
theorem onlyR (own : List Nat) (σ : Sg) : Only own own σ σ := ⟨fun _ _ _ => rfl, fun _ h => .inl h⟩
theorem addS_len (ps : Ps) (w : Int) (l : List UInt8) : (addS ps w l).length ≤ ps.length + 1 := by
  unfold addS add
  split
  · split <;> simp
  · omega
set_option maxHeartbeats 1000000 in
set_option maxRecDepth 100000 in
theorem t19 (ρ : Nat) (own : List Nat) (ps : Ps) (k : Own) (w : Int) (l : List UInt8) (σ : Sg) (hR : RegA σ ρ own ps) (hlen : ps.length ≤ 2 ^ 32) : VCalls Try.prog 19 [.ref ρ 0, .i w, .sl k (bytesL l)] σ (fun x σ' => ∃ own', RegA σ' ρ own' (addS ps w l) ∧ Only own own' σ σ') := by
  obtain ⟨m1, m2, pv, tv, ts, hR⟩ := hR
  by_cases hs : signOK w l
  · obtain ⟨hs1, hs2, hs3⟩ := id hs
    have h42 : VCalls Try.prog 42 [.ref ρ 0, .agg [.i w, .s (bs l)]] σ (fun x σ' => ∃ own', RegA σ' ρ own' (addS ps w l) ∧ Only own own' σ σ') := by
      rw [addS, if_pos hs, add]
      by_cases hy : (w, l) ∈ ps
      · rw [if_pos hy]
        exact (t42y ρ m1 m2 _ ps w l σ hR.at0 hR.at1 hy).mono fun x σ' h => ⟨own, by rw [h]; exact ⟨_, _, _, _, _, hR⟩, by rw [h]; exact onlyR _ _⟩
      · rw [if_neg hy]
        exact (t42n ρ m1 m2 tv pv own ts ps w l σ hR hy hlen).mono fun x σ' h => by
          obtain ⟨own', pv', tv', ts', h1, h2⟩ := h
          exact ⟨own', ⟨_, _, _, _, _, h1⟩, h2⟩
    (refine vfun (fun _ => .no) mixed Try.func19 (by kernel_rfl) ?_; simp only [bodyOf, Try.f19, Option.getD_some])
    repeat' (first | with_reducible rfl | exact .inr trivial | with_reducible apply And.intro | with_reducible apply vqx_step | with_reducible apply vqm_step | with_reducible refine vkp_free (by decide +kernel) ?_ | with_reducible intro _ | ((first | (with_reducible first | refine .rs ?_ | refine .ds (by kernel_rfl) ?_ | refine .dg (by kernel_rfl) ?_ | refine .rg ?_ | refine .ite ?_ | refine .ret ?_ | refine .skip ?_ | refine .exit ?_ | refine .scope ?_ | refine .seq (.label ?_) | refine .block ?_ | refine .seq ?_)); (try simp only [vO, vQ, ↓vP, vE, vS, vB, vL, vF, vM, vN, vbs_full, Nat.reduceEqDiff, Nat.reduceAdd, Nat.reduceLeDiff, ne_eq, not_false_eq_true, Nat.reduceMul, Nat.reduceSub, Int.toNat_zero, Int.reduceToNat, Try.underlying3, info3, Try.underlying34, info34, Try.underlying9, info9, Try.underlying5, info5, Try.underlying35, info35, Try.underlying77, info77, bytesL_len, vT])) | ((simp (disch := first | assumption | (apply Go.Cert.ne_of2; assumption; assumption) | (apply Go.Cert.ne_ob; assumption; assumption; (intro e; cases e; done)) | omega) only [w64, w8, tg_eq, Go.V.n1, Go.V.n2, Go.V.nn, Int.tdiv_eq_ediv_of_nonneg, Sg.set_same, Sg.set_ne, Sg.set_ne', Sg.del_ne, Sg.del_ne']); (try simp only [vO, vQ, ↓vP, vE, vS, vB, vL, vF, vM, vN, vbs_full, Nat.reduceEqDiff, Nat.reduceAdd, Nat.reduceLeDiff, ne_eq, not_false_eq_true, Nat.reduceMul, Nat.reduceSub, Int.toNat_zero, Int.reduceToNat, Try.underlying3, info3, Try.underlying34, info34, Try.underlying9, info9, Try.underlying5, info5, Try.underlying35, info35, Try.underlying77, info77, bytesL_len, vT])) | ((with_reducible refine ⟨bs l, (bs_bytesAV l).symm, ?_⟩); (try simp only [vO, vQ, ↓vP, vE, vS, vB, vL, vF, vM, vN, vbs_full, Nat.reduceEqDiff, Nat.reduceAdd, Nat.reduceLeDiff, ne_eq, not_false_eq_true, Nat.reduceMul, Nat.reduceSub, Int.toNat_zero, Int.reduceToNat, Try.underlying3, info3, Try.underlying34, info34, Try.underlying9, info9, Try.underlying5, info5, Try.underlying35, info35, Try.underlying77, info77, bytesL_len, vT])) | ((((with_reducible refine h42.mono ?_); rintro _ σ' hx)); (try simp only [vO, vQ, ↓vP, vE, vS, vB, vL, vF, vM, vN, vbs_full, Nat.reduceEqDiff, Nat.reduceAdd, Nat.reduceLeDiff, ne_eq, not_false_eq_true, Nat.reduceMul, Nat.reduceSub, Int.toNat_zero, Int.reduceToNat, Try.underlying3, info3, Try.underlying34, info34, Try.underlying9, info9, Try.underlying5, info5, Try.underlying35, info35, Try.underlying77, info77, bytesL_len, vT])) | with_reducible refine vfresh_set ?_ | with_reducible refine vfresh_intro (fun _ _ => ?_) | with_reducible refine vif_intro (fun _ => ?_) (fun _ => ?_) | omega | ((with_reducible first | refine vop_at ?_ | refine vops_at ?_ | refine vquiet_at ?_ | refine vmix_at ?_ | refine Holds_at ?_); simp only [vO, vQ, ↓vP, vE, vS, vB, vL, vF, vM, vN, vbs_full, Nat.reduceEqDiff, Nat.reduceAdd, Nat.reduceLeDiff, ne_eq, not_false_eq_true, Nat.reduceMul, Nat.reduceSub, Int.toNat_zero, Int.reduceToNat, Try.underlying3, info3, Try.underlying34, info34, Try.underlying9, info9, Try.underlying5, info5, Try.underlying35, info35, Try.underlying77, info77, bytesL_len, vT]))
    all_goals exact ⟨_, .refl _, hx⟩
  · have hn : addS ps w l = ps := if_neg hs
    rw [hn]
    (refine vfun (fun _ => .no) mixed Try.func19 (by kernel_rfl) ?_; simp only [bodyOf, Try.f19, Option.getD_some])
    repeat' (first | with_reducible rfl | exact .inr trivial | with_reducible apply And.intro | with_reducible apply vqx_step | with_reducible apply vqm_step | with_reducible refine vkp_free (by decide +kernel) ?_ | with_reducible intro _ | ((first | (with_reducible first | refine .rs ?_ | refine .ds (by kernel_rfl) ?_ | refine .dg (by kernel_rfl) ?_ | refine .rg ?_ | refine .ite ?_ | refine .ret ?_ | refine .skip ?_ | refine .exit ?_ | refine .scope ?_ | refine .seq (.label ?_) | refine .block ?_ | refine .seq ?_)); (try simp only [vO, vQ, ↓vP, vE, vS, vB, vL, vF, vM, vN, vbs_full, Nat.reduceEqDiff, Nat.reduceAdd, Nat.reduceLeDiff, ne_eq, not_false_eq_true, Nat.reduceMul, Nat.reduceSub, Int.toNat_zero, Int.reduceToNat, Try.underlying3, info3, Try.underlying34, info34, Try.underlying9, info9, Try.underlying5, info5, Try.underlying35, info35, Try.underlying77, info77, bytesL_len, vT])) | ((simp (disch := first | assumption | (apply Go.Cert.ne_of2; assumption; assumption) | (apply Go.Cert.ne_ob; assumption; assumption; (intro e; cases e; done)) | omega) only [w64, w8, tg_eq, Go.V.n1, Go.V.n2, Go.V.nn, Int.tdiv_eq_ediv_of_nonneg, Sg.set_same, Sg.set_ne, Sg.set_ne', Sg.del_ne, Sg.del_ne']); (try simp only [vO, vQ, ↓vP, vE, vS, vB, vL, vF, vM, vN, vbs_full, Nat.reduceEqDiff, Nat.reduceAdd, Nat.reduceLeDiff, ne_eq, not_false_eq_true, Nat.reduceMul, Nat.reduceSub, Int.toNat_zero, Int.reduceToNat, Try.underlying3, info3, Try.underlying34, info34, Try.underlying9, info9, Try.underlying5, info5, Try.underlying35, info35, Try.underlying77, info77, bytesL_len, vT])) | ((with_reducible refine ⟨bs l, (bs_bytesAV l).symm, ?_⟩); (try simp only [vO, vQ, ↓vP, vE, vS, vB, vL, vF, vM, vN, vbs_full, Nat.reduceEqDiff, Nat.reduceAdd, Nat.reduceLeDiff, ne_eq, not_false_eq_true, Nat.reduceMul, Nat.reduceSub, Int.toNat_zero, Int.reduceToNat, Try.underlying3, info3, Try.underlying34, info34, Try.underlying9, info9, Try.underlying5, info5, Try.underlying35, info35, Try.underlying77, info77, bytesL_len, vT])) | with_reducible refine vfresh_set ?_ | with_reducible refine vfresh_intro (fun _ _ => ?_) | with_reducible refine vif_intro (fun _ => ?_) (fun _ => ?_) | omega | ((with_reducible first | refine vop_at ?_ | refine vops_at ?_ | refine vquiet_at ?_ | refine vmix_at ?_ | refine Holds_at ?_); simp only [vO, vQ, ↓vP, vE, vS, vB, vL, vF, vM, vN, vbs_full, Nat.reduceEqDiff, Nat.reduceAdd, Nat.reduceLeDiff, ne_eq, not_false_eq_true, Nat.reduceMul, Nat.reduceSub, Int.toNat_zero, Int.reduceToNat, Try.underlying3, info3, Try.underlying34, info34, Try.underlying9, info9, Try.underlying5, info5, Try.underlying35, info35, Try.underlying77, info77, bytesL_len, vT]))
    all_goals first | exact ⟨_, .refl _, own, ⟨_, _, _, _, _, hR⟩, onlyR _ _⟩ | (exfalso; exact hs ⟨by omega, by omega, by omega⟩)
/-- The reference's registry. -/
structure RegB (σ : Sg) (ρ : Nat) (own : List Nat) (ps : Ps) (tv : Option Nat) : Prop where
  own_eq : own = ρ :: tv.toList
  at0 : σ ρ = some (.cells 97 [match tv with | none => .sl .nil [] | some τ => .sl (.tok τ 2) (pairsA ps)])
  atv : ∀ τ, tv = some τ → σ τ = some (.tok (some 100))
  emp : tv = none → ps = []
def RegC (σ : Sg) (ρ : Nat) (own : List Nat) (ps : Ps) : Prop := ∃ tv, RegB σ ρ own ps tv
theorem RegC.at (σ : Sg) (ρ : Nat) (own : List Nat) (ps : Ps) (h : RegC σ ρ own ps) : ∃ k, σ ρ = some (.cells 97 [.sl k (pairsA ps)]) := by
  obtain ⟨tv, h⟩ := h
  cases tv with
  | none => rw [h.emp rfl]; exact ⟨.nil, h.at0⟩
  | some τ => exact ⟨_, h.at0⟩
theorem back2 {σ : Sg} {ρ τ : Nat} {a b : Ob} (hρ : σ ρ = some a) (hτ : σ τ = some b) (hn : τ ≠ ρ) : ((((σ.del ρ).del τ).set ρ a).set τ b) = σ := by
  funext x
  unfold Sg.set Sg.del
  by_cases h1 : x = τ
  · rw [if_pos h1, h1, hτ]
  · rw [if_neg h1]
    by_cases h2 : x = ρ
    · rw [if_pos h2, h2, hρ]
    · rw [if_neg h2, if_neg h1, if_neg h2]
theorem back1 {σ : Sg} {ρ : Nat} {a : Ob} (hρ : σ ρ = some a) : ((σ.del ρ).set ρ a) = σ := by
  funext x
  unfold Sg.set Sg.del
  by_cases h2 : x = ρ
  · rw [if_pos h2, h2, hρ]
  · rw [if_neg h2, if_neg h2]
set_option maxHeartbeats 1000000 in
set_option maxRecDepth 100000 in
theorem t32r (ρ : Nat) (k : Own) (w : Int) (l : List UInt8) (σ : Sg) (hs : ¬ signOK w l) : VCalls Try.prog 32 [.ref ρ 0, .i w, .sl k (bytesL l)] σ (fun x σ' => σ' = σ) := by
  (refine vfun (fun _ => .no) mixed Try.func32 (by kernel_rfl) ?_; simp only [bodyOf, Try.f32, Option.getD_some])
  repeat' (first | with_reducible rfl | exact .inr trivial | with_reducible apply And.intro | with_reducible apply vqx_step | with_reducible apply vqm_step | with_reducible refine vkp_free (by decide +kernel) ?_ | with_reducible intro _ | ((first | (with_reducible first | refine .rs ?_ | refine .ds (by kernel_rfl) ?_ | refine .dg (by kernel_rfl) ?_ | refine .rg ?_ | refine .ite ?_ | refine .ret ?_ | refine .skip ?_ | refine .exit ?_ | refine .scope ?_ | refine .seq (.label ?_) | refine .block ?_ | refine .seq ?_)); (try simp only [vO, vQ, ↓vP, vE, vS, vB, vL, vF, vM, vN, vbs_full, Nat.reduceEqDiff, Nat.reduceAdd, Nat.reduceLeDiff, ne_eq, not_false_eq_true, Nat.reduceMul, Nat.reduceSub, Int.toNat_zero, Int.reduceToNat, Try.underlying3, info3, Try.underlying34, info34, Try.underlying9, info9, Try.underlying5, info5, Try.underlying35, info35, Try.underlying77, info77, bytesL_len, vT])) | ((simp (disch := first | assumption | (apply Go.Cert.ne_of2; assumption; assumption) | (apply Go.Cert.ne_ob; assumption; assumption; (intro e; cases e; done)) | omega) only [w64, w8, tg_eq, Go.V.n1, Go.V.n2, Go.V.nn, Int.tdiv_eq_ediv_of_nonneg, Sg.set_same, Sg.set_ne, Sg.set_ne', Sg.del_ne, Sg.del_ne']); (try simp only [vO, vQ, ↓vP, vE, vS, vB, vL, vF, vM, vN, vbs_full, Nat.reduceEqDiff, Nat.reduceAdd, Nat.reduceLeDiff, ne_eq, not_false_eq_true, Nat.reduceMul, Nat.reduceSub, Int.toNat_zero, Int.reduceToNat, Try.underlying3, info3, Try.underlying34, info34, Try.underlying9, info9, Try.underlying5, info5, Try.underlying35, info35, Try.underlying77, info77, bytesL_len, vT])) | with_reducible refine vfresh_set ?_ | with_reducible refine vfresh_intro (fun _ _ => ?_) | with_reducible refine vif_intro (fun _ => ?_) (fun _ => ?_) | omega | ((with_reducible first | refine vop_at ?_ | refine vops_at ?_ | refine vquiet_at ?_ | refine vmix_at ?_ | refine Holds_at ?_); simp only [vO, vQ, ↓vP, vE, vS, vB, vL, vF, vM, vN, vbs_full, Nat.reduceEqDiff, Nat.reduceAdd, Nat.reduceLeDiff, ne_eq, not_false_eq_true, Nat.reduceMul, Nat.reduceSub, Int.toNat_zero, Int.reduceToNat, Try.underlying3, info3, Try.underlying34, info34, Try.underlying9, info9, Try.underlying5, info5, Try.underlying35, info35, Try.underlying77, info77, bytesL_len, vT]))
  all_goals first | exact ⟨_, .refl _, rfl⟩ | (exfalso; exact hs ⟨by omega, by omega, by omega⟩)
theorem t32c (ρ : Nat) (own : List Nat) (ps : Ps) (k : Own) (w : Int) (l : List UInt8) (σ : Sg) (hR : RegC σ ρ own ps) (hlen : ps.length ≤ 2 ^ 32) : VCalls Try.prog 32 [.ref ρ 0, .i w, .sl k (bytesL l)] σ (fun x σ' => ∃ own', RegC σ' ρ own' (addS ps w l) ∧ Only own own' σ σ') := by
  obtain ⟨tv, hR⟩ := hR
  by_cases hs : signOK w l
  · rw [addS, if_pos hs]
    cases tv with
    | none =>
      have h := t32n (σ.del ρ) ρ k w l hs (if_pos rfl)
      have hat := hR.at0
      simp only at hat
      rw [back1 hat] at h
      refine h.mono fun x σ' hx => ?_
      obtain ⟨_, τ', h1, h2, rfl⟩ := hx
      have h1' : σ τ' = none := by unfold Sg.del at h1; rwa [if_neg h2] at h1
      have hps := hR.emp rfl
      subst hps
      refine ⟨[ρ, τ'], ⟨some τ', rfl, ?_, ?_, fun e => by cases e⟩, ?_, ?_⟩
      · rw [Sg.set_other _ _ (Ne.symm h2), Sg.set_same]
        rfl
      · intro τ e; cases e; rw [Sg.set_same]
      · intro β hβ hb
        rw [hR.own_eq] at hβ
        have e1 : β ≠ ρ := by simpa using hβ
        have e2 : β ≠ τ' := fun e => hb (by rw [e]; exact h1')
        rw [Sg.set_other _ _ e2, Sg.set_other _ _ e1]
        exact if_neg e1
      · intro β hβ
        rw [hR.own_eq]
        rcases List.mem_cons.1 hβ with rfl | hβ
        · exact .inl (by simp)
        · have : β = τ' := by simpa using hβ
          exact .inr (by rw [this]; exact h1')
    | some τ =>
      have hτ := hR.atv τ rfl
      have hat := hR.at0
      simp only at hat
      have hn : τ ≠ ρ := ne_ob hτ hat (fun e => by cases e)
      have h := t32 ((σ.del ρ).del τ) ρ τ ps k w l hlen hs (by unfold Sg.del; simp) (by unfold Sg.del; simp) hn
      rw [back2 hat hτ hn] at h
      refine h.mono fun x σ' hx => ?_
      obtain ⟨_, τ', h1, h2, rfl⟩ := hx
      have h1' : τ' = τ ∨ σ τ' = none := by
        unfold Sg.del at h1
        by_cases e : τ' = τ
        · exact .inl e
        · rw [if_neg e, if_neg h2] at h1; exact .inr h1
      refine ⟨[ρ, τ'], ⟨some τ', rfl, ?_, ?_, fun e => by cases e⟩, ?_, ?_⟩
      · rw [Sg.set_other _ _ (Ne.symm h2), Sg.set_same]
      · intro τ e; cases e; rw [Sg.set_same]
      · intro β hβ hb
        rw [hR.own_eq] at hβ
        have e1 : β ≠ ρ ∧ β ≠ τ := by simpa using hβ
        have e2 : β ≠ τ' := fun e => h1'.elim (fun h => e1.2 (e.trans h)) (fun h => hb (by rw [e]; exact h))
        rw [Sg.set_other _ _ e2, Sg.set_other _ _ e1.1]
        unfold Sg.del
        rw [if_neg e1.2, if_neg e1.1]
      · intro β hβ
        rw [hR.own_eq]
        rcases List.mem_cons.1 hβ with rfl | hβ
        · exact .inl (by simp)
        · have : β = τ' := by simpa using hβ
          rcases h1' with h | h
          · exact .inl (by rw [this, h]; simp)
          · exact .inr (by rw [this]; exact h)
  · rw [addS, if_neg hs]
    exact (t32r ρ k w l σ hs).mono fun x σ' h => ⟨own, by rw [h]; exact ⟨tv, hR⟩, by rw [h]; exact onlyR _ _⟩
end Go.Proofs.Ytkbfngepdgdecaa
