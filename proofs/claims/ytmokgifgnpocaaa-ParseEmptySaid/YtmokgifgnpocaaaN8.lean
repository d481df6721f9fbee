/- Part 8 of the proof: B12, B13, B14, B20, B21, B22, B23. -/
import Derived.Test.YtmokgifgnpocaaaN7

set_option linter.unusedSimpArgs false
set_option linter.unusedVariables false
namespace Go.Parse
open Go.V Go.Lex Go.Proofs.Ytmokgifgnpocaaa
theorem WF_app : ∀ (i : List Tk) (t : Tk), t.1 = 6 → WF (i ++ [t])
  | [], t, h => h
  | [x], t, h => h
  | x :: y :: r, t, h => WF_app (y :: r) t h
theorem toks_wf {b : List UInt8} {l : List Tk} (h : lexAll b = .ok l) : WF l := by
  unfold lexAll at h
  split at h
  · cases h
  · cases ht : toks b 0 with
    | error q => rw [ht] at h; cases h
    | ok m =>
      rw [ht] at h
      cases h
      obtain ⟨i, rfl, _⟩ := toks_join_ok b.length b [] 0 l (Nat.le_refl _) ht
      exact WF_app _ _ rfl
theorem tok1_nz {r : List UInt8} {e : Nat} (h : tok1 r = .error e) : e ≠ 0 := by
  have hwl : ∀ kd n, wl kd r n = .error e → e ≠ 0 := fun kd n hw => by
    unfold wl at hw
    cases hw' : wordT kd r n with
    | ok q => rw [hw'] at hw; cases hw
    | error e' =>
      rw [hw'] at hw
      cases hw
      unfold wordT at hw'
      split at hw'
      · cases hw'; decide
      · split at hw'
        · split at hw'
          · cases hw'
          · cases hw'; decide
        · split at hw'
          · split at hw'
            · cases hw'; decide
            · cases hw'
          · split at hw'
            · cases hw'
            · cases hw'; decide
  unfold tok1 at h
  split at h
  · unfold quotedT at h
    split at h
    · cases h; decide
    · split at h
      · cases h; decide
      · cases h
  · split at h
    · exact hwl _ _ h
    · split at h
      · exact hwl _ _ h
      · split at h
        · exact hwl _ _ h
        · split at h
          · cases h
          · cases h; decide
theorem lexAll_nz {b : List UInt8} {e : Nat} {a : Int} (h : lexAll b = .error (e, a)) : e ≠ 0 := by
  unfold lexAll at h
  split at h
  · cases h; decide
  · cases ht : toks b 0 with
    | error q =>
      obtain ⟨e', a'⟩ := q
      rw [ht] at h
      cases h
      exact toks_nz b.length b 0 e a' (Nat.le_refl _) (fun m e he => tok1_nz he) ht
    | ok m => rw [ht] at h; cases h
/-- What a text is read as. -/
def oneR (l : List Tk) : Ex × Int × Int := if (oneT l).2.c = 0 then ((oneT l).1, 0, 0) else (ex0, (oneT l).2.c, (oneT l).2.a)
def oneAll (b : List UInt8) : Ex × Int × Int :=
  match lexAll b with
  | .ok l => oneR l
  | .error (e, a) => (ex0, (e : Int), a)
end Go.Parse
namespace Go.Proofs.Ytmokgifgnpocaaa
open Go Go.V Go.Lex Go.Parse
/-- Tokens, where the room behind them is forgotten. -/
theorem p9 (b : List UInt8) (σ : Sg) : VCalls Try.prog 9 [.s (bs b)] σ (fun x σ' => (x = match lexAll b with
    | .ok l => .tup [.sl .any (tksA l), .agg [.i 0, .i 0]]
    | .error (e, a) => .tup [.sl .nil [], .agg [.i e, .i a]]) ∧ σ' = σ) :=
  (t21 b σ).weak fun x σ' hx => by
    obtain ⟨⟨l', τ, h1, rfl⟩ | ⟨e, a, h1, he, rfl⟩, rfl⟩ := hx
    · rw [h1]
      exact ⟨_, .tup2 (.any _ _) (.refl _), rfl, rfl⟩
    · rw [h1]
      exact ⟨_, .refl _, rfl, rfl⟩
set_option maxHeartbeats 400000 in
set_option maxRecDepth 100000 in
theorem p11 (ρ : Nat) (s : Rd) (σ : Sg) (hρ : σ ρ = some (rdA s)) (hl : WF s.l) : VCalls Try.prog 11 [.ref ρ 0] σ (fun x σ' => x = .agg [.i s.fin.c, .i s.fin.a] ∧ σ' = σ.set ρ (rdA s.fin)) := by
  have h20 := fun S (hS : S ρ = some (rdA s)) => p20 ρ s S hS
  have h21 := fun S (hS : S ρ = some (rdA s)) => p21 ρ s S hS hl.pos
  have h14 := fun S (hS : S ρ = some (rdA s)) => p14 ρ s 4 S hS hl.pos
  rw [tkA_eq] at h21
  have hρ' := hρ
  unfold Rd.fin
  by_cases hc : s.c = 0
  · simp only [decide_eq_true hc] at h20
    by_cases h6 : (hd s.l).1 = 6
    · rw [if_neg (fun h => h.2 h6), Sg.set_id hρ']
      simp only [h6] at h21
      generalize (hd s.l).2.1 = t at *
      generalize (hd s.l).2.2.1 = n at *
      generalize (hd s.l).2.2.2 = a at *
      rw [rdA_eq] at hρ
      (refine vfun (fun _ => .no) mixed Try.func11 (by kernel_rfl) ?_; simp only [bodyOf, Try.f11, Option.getD_some])
      repeat' (first | with_reducible rfl | exact .inr trivial | with_reducible apply And.intro | with_reducible apply vqx_step | with_reducible apply vqm_step | with_reducible refine vkp_free (by decide +kernel) ?_ | with_reducible intro _ | ((first | (with_reducible first | refine .rs ?_ | refine .ds (by kernel_rfl) ?_ | refine .dg (by kernel_rfl) ?_ | refine .rg ?_ | refine .ite ?_ | refine .ret ?_ | refine .skip ?_ | refine .exit ?_ | refine .scope ?_ | refine .seq (.label ?_) | refine .block ?_ | refine .seq ?_) | (simp (disch := first | assumption | (apply Go.Cert.ne_of2; assumption; assumption) | (apply Go.Cert.ne_ob; assumption; assumption; (intro e; cases e; done)) | omega) only [w64, w8, tg_eq, Go.V.n1, Go.V.n2, Go.V.nn, Int.tdiv_eq_ediv_of_nonneg, Sg.set_same, Sg.set_ne, Sg.set_ne', Sg.del_ne, Sg.del_ne']) | ((with_reducible refine (h20 _ (by first | assumption | ((simp (disch := first | assumption | (apply Go.Cert.ne_of2; assumption; assumption) | (apply Go.Cert.ne_ob; assumption; assumption; (intro e; cases e; done)) | omega) only [Sg.set_same, Sg.set_ne, Sg.set_ne', Sg.del_ne, Sg.del_ne']); first | done | rfl | assumption))).mono ?_); rintro _ S ⟨rfl, rfl⟩) | ((with_reducible refine (h21 _ (by first | assumption | ((simp (disch := first | assumption | (apply Go.Cert.ne_of2; assumption; assumption) | (apply Go.Cert.ne_ob; assumption; assumption; (intro e; cases e; done)) | omega) only [Sg.set_same, Sg.set_ne, Sg.set_ne', Sg.del_ne, Sg.del_ne']); first | done | rfl | assumption))).mono ?_); rintro _ S ⟨rfl, rfl⟩) | (refine vlo_app (by first | assumption | ((simp (disch := first | assumption | (apply Go.Cert.ne_of2; assumption; assumption) | (apply Go.Cert.ne_ob; assumption; assumption; (intro e; cases e; done)) | omega) only [Sg.set_same, Sg.set_ne, Sg.set_ne', Sg.del_ne, Sg.del_ne']); first | done | rfl | assumption)) ?_) | (refine vst_app (by first | assumption | ((simp (disch := first | assumption | (apply Go.Cert.ne_of2; assumption; assumption) | (apply Go.Cert.ne_ob; assumption; assumption; (intro e; cases e; done)) | omega) only [Sg.set_same, Sg.set_ne, Sg.set_ne', Sg.del_ne, Sg.del_ne']); first | done | rfl | assumption)) ?_)); (try simp only [vO, vQ, ↓vP, vE, vS, vB, vL, vF, vM, vN, vbs_full, Nat.reduceEqDiff, Nat.reduceAdd, Nat.reduceLeDiff, ne_eq, not_false_eq_true, Nat.reduceMul, Nat.reduceSub, Int.toNat_zero, Int.reduceToNat, Try.underlying3, info3, Try.underlying4, info4, Try.underlying50, info50, Try.underlying30, info30, Try.underlying28, info28, Try.underlying45, info45, Try.underlying58, info58, Try.underlying9, info9, hρ, vT])) | with_reducible refine vfresh_set ?_ | with_reducible refine vfresh_intro (fun _ _ => ?_) | with_reducible refine vif_intro (fun _ => ?_) (fun _ => ?_) | omega | ((with_reducible first | refine vop_at ?_ | refine vops_at ?_ | refine vquiet_at ?_ | refine vmix_at ?_ | refine Holds_at ?_); simp only [vO, vQ, ↓vP, vE, vS, vB, vL, vF, vM, vN, vbs_full, Nat.reduceEqDiff, Nat.reduceAdd, Nat.reduceLeDiff, ne_eq, not_false_eq_true, Nat.reduceMul, Nat.reduceSub, Int.toNat_zero, Int.reduceToNat, Try.underlying3, info3, Try.underlying4, info4, Try.underlying50, info50, Try.underlying30, info30, Try.underlying28, info28, Try.underlying45, info45, Try.underlying58, info58, Try.underlying9, info9, hρ, vT]))
      all_goals (first | ((first | refine ⟨_, ?_, rfl⟩ | refine ⟨_, ?_, rfl, rfl⟩ | refine ⟨_, ?_⟩); (first | exact Sg.sub.refl _ | ((repeat (first | exact Sg.sub.refl _ | refine Sg.sub.set_both ?_ | refine Sg.sub.set_fresh ?_ (by first | assumption | exact Sg.set_none (by assumption) (by first | assumption | (apply Go.Cert.ne_of2a; assumption; assumption))))); done) | (intro y p hy; simp only [Sg.set_apply, Sg.del_apply] at hy ⊢; grind))) | (exfalso; omega))
    · rw [if_pos ⟨hc, h6⟩]
      generalize hd s.l = t at *
      generalize s.fail 4 = s4 at *
      simp only [rdA_eq] at h14 hρ ⊢
      (refine vfun (fun _ => .no) mixed Try.func11 (by kernel_rfl) ?_; simp only [bodyOf, Try.f11, Option.getD_some])
      repeat' (first | with_reducible rfl | exact .inr trivial | with_reducible apply And.intro | with_reducible apply vqx_step | with_reducible apply vqm_step | with_reducible refine vkp_free (by decide +kernel) ?_ | with_reducible intro _ | ((first | (with_reducible first | refine .rs ?_ | refine .ds (by kernel_rfl) ?_ | refine .dg (by kernel_rfl) ?_ | refine .rg ?_ | refine .ite ?_ | refine .ret ?_ | refine .skip ?_ | refine .exit ?_ | refine .scope ?_ | refine .seq (.label ?_) | refine .block ?_ | refine .seq ?_) | (simp (disch := first | assumption | (apply Go.Cert.ne_of2; assumption; assumption) | (apply Go.Cert.ne_ob; assumption; assumption; (intro e; cases e; done)) | omega) only [w64, w8, tg_eq, Go.V.n1, Go.V.n2, Go.V.nn, Int.tdiv_eq_ediv_of_nonneg, Sg.set_same, Sg.set_ne, Sg.set_ne', Sg.del_ne, Sg.del_ne']) | ((with_reducible refine (h20 _ (by first | assumption | ((simp (disch := first | assumption | (apply Go.Cert.ne_of2; assumption; assumption) | (apply Go.Cert.ne_ob; assumption; assumption; (intro e; cases e; done)) | omega) only [Sg.set_same, Sg.set_ne, Sg.set_ne', Sg.del_ne, Sg.del_ne']); first | done | rfl | assumption))).mono ?_); rintro _ S ⟨rfl, rfl⟩) | ((with_reducible refine (h21 _ (by first | assumption | ((simp (disch := first | assumption | (apply Go.Cert.ne_of2; assumption; assumption) | (apply Go.Cert.ne_ob; assumption; assumption; (intro e; cases e; done)) | omega) only [Sg.set_same, Sg.set_ne, Sg.set_ne', Sg.del_ne, Sg.del_ne']); first | done | rfl | assumption))).mono ?_); rintro _ S ⟨rfl, rfl⟩) | ((with_reducible refine (h14 _ (by first | assumption | ((simp (disch := first | assumption | (apply Go.Cert.ne_of2; assumption; assumption) | (apply Go.Cert.ne_ob; assumption; assumption; (intro e; cases e; done)) | omega) only [Sg.set_same, Sg.set_ne, Sg.set_ne', Sg.del_ne, Sg.del_ne']); first | done | rfl | assumption))).mono ?_); rintro _ S ⟨rfl, rfl⟩) | (refine vlo_app (by first | assumption | ((simp (disch := first | assumption | (apply Go.Cert.ne_of2; assumption; assumption) | (apply Go.Cert.ne_ob; assumption; assumption; (intro e; cases e; done)) | omega) only [Sg.set_same, Sg.set_ne, Sg.set_ne', Sg.del_ne, Sg.del_ne']); first | done | rfl | assumption)) ?_) | (refine vst_app (by first | assumption | ((simp (disch := first | assumption | (apply Go.Cert.ne_of2; assumption; assumption) | (apply Go.Cert.ne_ob; assumption; assumption; (intro e; cases e; done)) | omega) only [Sg.set_same, Sg.set_ne, Sg.set_ne', Sg.del_ne, Sg.del_ne']); first | done | rfl | assumption)) ?_)); (try simp only [vO, vQ, ↓vP, vE, vS, vB, vL, vF, vM, vN, vbs_full, Nat.reduceEqDiff, Nat.reduceAdd, Nat.reduceLeDiff, ne_eq, not_false_eq_true, Nat.reduceMul, Nat.reduceSub, Int.toNat_zero, Int.reduceToNat, Try.underlying3, info3, Try.underlying4, info4, Try.underlying50, info50, Try.underlying30, info30, Try.underlying28, info28, Try.underlying45, info45, Try.underlying58, info58, Try.underlying9, info9, hρ, vT])) | with_reducible refine vfresh_set ?_ | with_reducible refine vfresh_intro (fun _ _ => ?_) | with_reducible refine vif_intro (fun _ => ?_) (fun _ => ?_) | omega | ((with_reducible first | refine vop_at ?_ | refine vops_at ?_ | refine vquiet_at ?_ | refine vmix_at ?_ | refine Holds_at ?_); simp only [vO, vQ, ↓vP, vE, vS, vB, vL, vF, vM, vN, vbs_full, Nat.reduceEqDiff, Nat.reduceAdd, Nat.reduceLeDiff, ne_eq, not_false_eq_true, Nat.reduceMul, Nat.reduceSub, Int.toNat_zero, Int.reduceToNat, Try.underlying3, info3, Try.underlying4, info4, Try.underlying50, info50, Try.underlying30, info30, Try.underlying28, info28, Try.underlying45, info45, Try.underlying58, info58, Try.underlying9, info9, hρ, vT]))
      all_goals (first | ((first | refine ⟨_, ?_, rfl⟩ | refine ⟨_, ?_, rfl, rfl⟩ | refine ⟨_, ?_⟩); (first | exact Sg.sub.refl _ | ((repeat (first | exact Sg.sub.refl _ | refine Sg.sub.set_both ?_ | refine Sg.sub.set_fresh ?_ (by first | assumption | exact Sg.set_none (by assumption) (by first | assumption | (apply Go.Cert.ne_of2a; assumption; assumption))))); done) | (intro y p hy; simp only [Sg.set_apply, Sg.del_apply] at hy ⊢; grind))) | (exfalso; omega))
  · simp only [decide_eq_false hc] at h20
    rw [if_neg (fun h => hc h.1), Sg.set_id hρ']
    rw [rdA_eq] at hρ
    (refine vfun (fun _ => .no) mixed Try.func11 (by kernel_rfl) ?_; simp only [bodyOf, Try.f11, Option.getD_some])
    repeat' (first | with_reducible rfl | exact .inr trivial | with_reducible apply And.intro | with_reducible apply vqx_step | with_reducible apply vqm_step | with_reducible refine vkp_free (by decide +kernel) ?_ | with_reducible intro _ | ((first | (with_reducible first | refine .rs ?_ | refine .ds (by kernel_rfl) ?_ | refine .dg (by kernel_rfl) ?_ | refine .rg ?_ | refine .ite ?_ | refine .ret ?_ | refine .skip ?_ | refine .exit ?_ | refine .scope ?_ | refine .seq (.label ?_) | refine .block ?_ | refine .seq ?_) | (simp (disch := first | assumption | (apply Go.Cert.ne_of2; assumption; assumption) | (apply Go.Cert.ne_ob; assumption; assumption; (intro e; cases e; done)) | omega) only [w64, w8, tg_eq, Go.V.n1, Go.V.n2, Go.V.nn, Int.tdiv_eq_ediv_of_nonneg, Sg.set_same, Sg.set_ne, Sg.set_ne', Sg.del_ne, Sg.del_ne']) | ((with_reducible refine (h20 _ (by first | assumption | ((simp (disch := first | assumption | (apply Go.Cert.ne_of2; assumption; assumption) | (apply Go.Cert.ne_ob; assumption; assumption; (intro e; cases e; done)) | omega) only [Sg.set_same, Sg.set_ne, Sg.set_ne', Sg.del_ne, Sg.del_ne']); first | done | rfl | assumption))).mono ?_); rintro _ S ⟨rfl, rfl⟩) | ((with_reducible refine (h21 _ (by first | assumption | ((simp (disch := first | assumption | (apply Go.Cert.ne_of2; assumption; assumption) | (apply Go.Cert.ne_ob; assumption; assumption; (intro e; cases e; done)) | omega) only [Sg.set_same, Sg.set_ne, Sg.set_ne', Sg.del_ne, Sg.del_ne']); first | done | rfl | assumption))).mono ?_); rintro _ S ⟨rfl, rfl⟩) | (refine vlo_app (by first | assumption | ((simp (disch := first | assumption | (apply Go.Cert.ne_of2; assumption; assumption) | (apply Go.Cert.ne_ob; assumption; assumption; (intro e; cases e; done)) | omega) only [Sg.set_same, Sg.set_ne, Sg.set_ne', Sg.del_ne, Sg.del_ne']); first | done | rfl | assumption)) ?_) | (refine vst_app (by first | assumption | ((simp (disch := first | assumption | (apply Go.Cert.ne_of2; assumption; assumption) | (apply Go.Cert.ne_ob; assumption; assumption; (intro e; cases e; done)) | omega) only [Sg.set_same, Sg.set_ne, Sg.set_ne', Sg.del_ne, Sg.del_ne']); first | done | rfl | assumption)) ?_)); (try simp only [vO, vQ, ↓vP, vE, vS, vB, vL, vF, vM, vN, vbs_full, Nat.reduceEqDiff, Nat.reduceAdd, Nat.reduceLeDiff, ne_eq, not_false_eq_true, Nat.reduceMul, Nat.reduceSub, Int.toNat_zero, Int.reduceToNat, Try.underlying3, info3, Try.underlying4, info4, Try.underlying50, info50, Try.underlying30, info30, Try.underlying28, info28, Try.underlying45, info45, Try.underlying58, info58, Try.underlying9, info9, hρ, vT])) | with_reducible refine vfresh_set ?_ | with_reducible refine vfresh_intro (fun _ _ => ?_) | with_reducible refine vif_intro (fun _ => ?_) (fun _ => ?_) | omega | ((with_reducible first | refine vop_at ?_ | refine vops_at ?_ | refine vquiet_at ?_ | refine vmix_at ?_ | refine Holds_at ?_); simp only [vO, vQ, ↓vP, vE, vS, vB, vL, vF, vM, vN, vbs_full, Nat.reduceEqDiff, Nat.reduceAdd, Nat.reduceLeDiff, ne_eq, not_false_eq_true, Nat.reduceMul, Nat.reduceSub, Int.toNat_zero, Int.reduceToNat, Try.underlying3, info3, Try.underlying4, info4, Try.underlying50, info50, Try.underlying30, info30, Try.underlying28, info28, Try.underlying45, info45, Try.underlying58, info58, Try.underlying9, info9, hρ, vT]))
    all_goals (first | ((first | refine ⟨_, ?_, rfl⟩ | refine ⟨_, ?_, rfl, rfl⟩ | refine ⟨_, ?_⟩); (first | exact Sg.sub.refl _ | ((repeat (first | exact Sg.sub.refl _ | refine Sg.sub.set_both ?_ | refine Sg.sub.set_fresh ?_ (by first | assumption | exact Sg.set_none (by assumption) (by first | assumption | (apply Go.Cert.ne_of2a; assumption; assumption))))); done) | (intro y p hy; simp only [Sg.set_apply, Sg.del_apply] at hy ⊢; grind))) | (exfalso; omega))
theorem zero30 : ∃ z, tInfo Try.prog 30 = some (some z, 2, 16) ∧ ofValue z = .agg [.i 0, .i 0] := ⟨_, info30, by rfl⟩
theorem lose_ex2 {f : FuncId} {args : List AV} {e : Ex} {c a : Int} {σ S : Sg} (h : VCalls Try.prog f args σ (fun x σ' => ∃ o, x = .tup [.agg (exK o e), .agg [.i c, .i a]] ∧ S.sub σ')) : VCalls Try.prog f args σ (fun x σ' => x = .tup [.agg (exA e), .agg [.i c, .i a]] ∧ σ' = S) :=
  h.lose fun x σ' hx => by
    obtain ⟨o, rfl, hs⟩ := hx
    exact ⟨_, S, (AVw.ex o e).tup2 (AVw.refl _), hs, rfl, rfl⟩
set_option maxHeartbeats 400000 in
set_option maxRecDepth 100000 in
theorem p6 (b : List UInt8) (σ : Sg) : VCalls Try.prog 6 [.s (bs b)] σ (fun x σ' => x = .tup [.agg (exA (oneAll b).1), .agg [.i (oneAll b).2.1, .i (oneAll b).2.2]] ∧ σ' = σ) := by
  refine lose_ex2 ?_
  obtain ⟨z27, h27, hz27⟩ := zero27
  simp only [ex0, exK_mk, exsA_nil] at hz27
  have h9 := p9 b
  unfold oneAll
  cases hl : lexAll b with
  | error q =>
    obtain ⟨e, a⟩ := q
    have he := lexAll_nz hl
    simp only [hl] at h9
    simp only [ex0, exK_mk, exsA_nil]
    (refine vfun (fun _ => .no) mixed Try.func6 (by kernel_rfl) ?_; simp only [bodyOf, Try.f6, Option.getD_some])
    repeat' (first | with_reducible rfl | exact .inr trivial | with_reducible apply And.intro | with_reducible apply vqx_step | with_reducible apply vqm_step | with_reducible refine vkp_free (by decide +kernel) ?_ | with_reducible intro _ | ((with_reducible (rename_i a2 _ a3 _ _ a5 _ _ _ _; refine .dms (fun x => x = a5) [(0, false), (1, false), (2, true), (3, true)] (by decide) (by decide +kernel) ?_)); (simp only [vO, vQ, ↓vP, vE, vS, vB, vL, vF, vM, vN, vbs_full, Nat.reduceEqDiff, Nat.reduceAdd, Nat.reduceLeDiff, ne_eq, not_false_eq_true, Nat.reduceMul, Nat.reduceSub, Int.toNat_zero, Int.reduceToNat, Try.underlying3, info3, Try.underlying4, info4, Try.underlying27, h27, hz27, Try.underlying25, info25, Try.underlying24, info24, Try.underlying28, info28, Try.underlying30, info30, Try.underlying9, info9, Try.underlying68, info68, vT])) | ((first | (with_reducible first | refine .rs ?_ | refine .ds (by kernel_rfl) ?_ | refine .dg (by kernel_rfl) ?_ | refine .rg ?_ | refine .ite ?_ | refine .ret ?_ | refine .skip ?_ | refine .exit ?_ | refine .scope ?_ | refine .seq (.label ?_) | refine .block ?_ | refine .seq ?_) | (simp (disch := first | assumption | (apply Go.Cert.ne_of2; assumption; assumption) | (apply Go.Cert.ne_ob; assumption; assumption; (intro e; cases e; done)) | omega) only [w64, w8, tg_eq, Go.V.n1, Go.V.n2, Go.V.nn, Int.tdiv_eq_ediv_of_nonneg, Sg.set_same, Sg.set_ne, Sg.set_ne', Sg.del_ne, Sg.del_ne']) | ((with_reducible refine (h9 _).mono ?_); rintro _ S ⟨rfl, rfl⟩) | with_reducible refine vkp_keep (fun _ _ => rfl) ?_ | (refine vkp_keep (by intro β h; first | (rcases h with h | h <;> subst h <;> (simp (disch := first | assumption | (apply Go.Cert.ne_of2; assumption; assumption) | (apply Go.Cert.ne_ob; assumption; assumption; (intro e; cases e; done)) | omega) only [Sg.set_same, Sg.set_ne, Sg.set_ne', Sg.del_ne, Sg.del_ne'])) | (subst h; (simp (disch := first | assumption | (apply Go.Cert.ne_of2; assumption; assumption) | (apply Go.Cert.ne_ob; assumption; assumption; (intro e; cases e; done)) | omega) only [Sg.set_same, Sg.set_ne, Sg.set_ne', Sg.del_ne, Sg.del_ne']))) ?_) | (refine vlo_app (o' := some (.cells 30 [.i e, .i a])) (keepAt (by assumption) (by first | assumption | ((simp (disch := first | assumption | (apply Go.Cert.ne_of2; assumption; assumption) | (apply Go.Cert.ne_ob; assumption; assumption; (intro e; cases e; done)) | omega) only [Sg.set_same, Sg.set_ne, Sg.set_ne', Sg.del_ne, Sg.del_ne']); first | done | rfl | assumption))) ?_) | (refine vlo_app (by first | assumption | ((simp (disch := first | assumption | (apply Go.Cert.ne_of2; assumption; assumption) | (apply Go.Cert.ne_ob; assumption; assumption; (intro e; cases e; done)) | omega) only [Sg.set_same, Sg.set_ne, Sg.set_ne', Sg.del_ne, Sg.del_ne']); first | done | rfl | assumption)) ?_) | (refine vst_app (by first | assumption | ((simp (disch := first | assumption | (apply Go.Cert.ne_of2; assumption; assumption) | (apply Go.Cert.ne_ob; assumption; assumption; (intro e; cases e; done)) | omega) only [Sg.set_same, Sg.set_ne, Sg.set_ne', Sg.del_ne, Sg.del_ne']); first | done | rfl | assumption)) ?_)); (try simp only [vO, vQ, ↓vP, vE, vS, vB, vL, vF, vM, vN, vbs_full, Nat.reduceEqDiff, Nat.reduceAdd, Nat.reduceLeDiff, ne_eq, not_false_eq_true, Nat.reduceMul, Nat.reduceSub, Int.toNat_zero, Int.reduceToNat, Try.underlying3, info3, Try.underlying4, info4, Try.underlying27, h27, hz27, Try.underlying25, info25, Try.underlying24, info24, Try.underlying28, info28, Try.underlying30, info30, Try.underlying9, info9, Try.underlying68, info68, vT])) | with_reducible refine vfresh_set ?_ | with_reducible refine vfresh_intro (fun _ _ => ?_) | with_reducible refine vif_intro (fun _ => ?_) (fun _ => ?_) | omega | ((with_reducible first | refine vop_at ?_ | refine vops_at ?_ | refine vquiet_at ?_ | refine vmix_at ?_ | refine Holds_at ?_); simp only [vO, vQ, ↓vP, vE, vS, vB, vL, vF, vM, vN, vbs_full, Nat.reduceEqDiff, Nat.reduceAdd, Nat.reduceLeDiff, ne_eq, not_false_eq_true, Nat.reduceMul, Nat.reduceSub, Int.toNat_zero, Int.reduceToNat, Try.underlying3, info3, Try.underlying4, info4, Try.underlying27, h27, hz27, Try.underlying25, info25, Try.underlying24, info24, Try.underlying28, info28, Try.underlying30, info30, Try.underlying9, info9, Try.underlying68, info68, vT]))
    all_goals (refine ⟨_, .refl _, _, rfl, ?_⟩; (first | exact Sg.sub.refl _ | ((repeat (first | exact Sg.sub.refl _ | refine Sg.sub.set_both ?_ | refine Sg.sub.set_fresh ?_ (by first | assumption | exact Sg.set_none (by assumption) (by first | assumption | (apply Go.Cert.ne_of2a; assumption; assumption))))); done) | (intro y p hy; simp only [Sg.set_apply, Sg.del_apply] at hy ⊢; grind)))
  | ok l =>
    simp only [hl] at h9
    have hw := toks_wf hl
    have r10 := fun ρ S hS => (qRD 11 0 (by decide) (by decide) (by decide)).ex ρ (rd0 l) S hS hw rfl
    have o1 := (dp_nice 11).ex (rd0 l) hw
    have h11 := fun ρ S hS => p11 ρ ((dp 11).ex (rd0 l)).2 S hS o1.wf
    have hFl := exA_len ((dp 11).ex (rd0 l)).1
    have hFo := exA_one ((dp 11).ex (rd0 l)).1
    have hFt := exA_take ((dp 11).ex (rd0 l)).1
    have hFd := exA_drop ((dp 11).ex (rd0 l)).1
    have h0 : rdA (rd0 l) = .cells 50 [.sl .any (tksA l), .i 0, .i 0, .i 0] := rfl
    have hR : oneR l = if ((dp 11).ex (rd0 l)).2.fin.c = 0 then (((dp 11).ex (rd0 l)).1, 0, 0) else (ex0, ((dp 11).ex (rd0 l)).2.fin.c, ((dp 11).ex (rd0 l)).2.fin.a) := rfl
    simp only [hR, h0] at r10 ⊢
    generalize ((dp 11).ex (rd0 l)).1 = e at *
    generalize ((dp 11).ex (rd0 l)).2.fin = s2 at *
    generalize ((dp 11).ex (rd0 l)).2 = s1 at *
    by_cases hc : s2.c = 0
    · rw [if_pos hc]
      (refine vfun (fun _ => .no) mixed Try.func6 (by kernel_rfl) ?_; simp only [bodyOf, Try.f6, Option.getD_some])
      repeat' (first | with_reducible rfl | exact .inr trivial | with_reducible apply And.intro | with_reducible apply vqx_step | with_reducible apply vqm_step | with_reducible refine vkp_free (by decide +kernel) ?_ | with_reducible intro _ | ((first | (with_reducible first | refine .rs ?_ | refine .ds (by kernel_rfl) ?_ | refine .dg (by kernel_rfl) ?_ | refine .rg ?_ | refine .ite ?_ | refine .ret ?_ | refine .skip ?_ | refine .exit ?_ | refine .scope ?_ | refine .seq (.label ?_) | refine .block ?_ | refine .seq ?_) | (simp (disch := first | assumption | (apply Go.Cert.ne_of2; assumption; assumption) | (apply Go.Cert.ne_ob; assumption; assumption; (intro e; cases e; done)) | omega) only [w64, w8, tg_eq, Go.V.n1, Go.V.n2, Go.V.nn, Int.tdiv_eq_ediv_of_nonneg, Sg.set_same, Sg.set_ne, Sg.set_ne', Sg.del_ne, Sg.del_ne']) | ((with_reducible refine (h9 _).mono ?_); rintro _ S ⟨rfl, rfl⟩) | ((with_reducible refine (r10 _ _ (by first | assumption | ((simp (disch := first | assumption | (apply Go.Cert.ne_of2; assumption; assumption) | (apply Go.Cert.ne_ob; assumption; assumption; (intro e; cases e; done)) | omega) only [Sg.set_same, Sg.set_ne, Sg.set_ne', Sg.del_ne, Sg.del_ne']); first | done | rfl | assumption))).mono ?_); rintro _ S ⟨rfl, rfl⟩) | ((with_reducible refine (h11 _ _ (by first | assumption | ((simp (disch := first | assumption | (apply Go.Cert.ne_of2; assumption; assumption) | (apply Go.Cert.ne_ob; assumption; assumption; (intro e; cases e; done)) | omega) only [Sg.set_same, Sg.set_ne, Sg.set_ne', Sg.del_ne, Sg.del_ne']); first | done | rfl | assumption))).mono ?_); rintro _ S ⟨rfl, rfl⟩) | (refine vlo_app (by first | assumption | ((simp (disch := first | assumption | (apply Go.Cert.ne_of2; assumption; assumption) | (apply Go.Cert.ne_ob; assumption; assumption; (intro e; cases e; done)) | omega) only [Sg.set_same, Sg.set_ne, Sg.set_ne', Sg.del_ne, Sg.del_ne']); first | done | rfl | assumption)) ?_) | (refine vst_app (by first | assumption | ((simp (disch := first | assumption | (apply Go.Cert.ne_of2; assumption; assumption) | (apply Go.Cert.ne_ob; assumption; assumption; (intro e; cases e; done)) | omega) only [Sg.set_same, Sg.set_ne, Sg.set_ne', Sg.del_ne, Sg.del_ne']); first | done | rfl | assumption)) ?_)); (try simp only [vO, vQ, ↓vP, vE, vS, vB, vL, vF, vM, vN, vbs_full, Nat.reduceEqDiff, Nat.reduceAdd, Nat.reduceLeDiff, ne_eq, not_false_eq_true, Nat.reduceMul, Nat.reduceSub, Int.toNat_zero, Int.reduceToNat, Try.underlying3, info3, Try.underlying4, info4, Try.underlying27, h27, hz27, Try.underlying25, info25, Try.underlying24, info24, Try.underlying28, info28, Try.underlying30, info30, Try.underlying45, info45, Try.underlying50, info50, Try.underlying9, info9, Try.underlying68, info68, hFl, hFo, hFt, hFd, vT])) | with_reducible refine vfresh_set ?_ | with_reducible refine vfresh_intro (fun _ _ => ?_) | with_reducible refine vif_intro (fun _ => ?_) (fun _ => ?_) | omega | ((with_reducible first | refine vop_at ?_ | refine vops_at ?_ | refine vquiet_at ?_ | refine vmix_at ?_ | refine Holds_at ?_); simp only [vO, vQ, ↓vP, vE, vS, vB, vL, vF, vM, vN, vbs_full, Nat.reduceEqDiff, Nat.reduceAdd, Nat.reduceLeDiff, ne_eq, not_false_eq_true, Nat.reduceMul, Nat.reduceSub, Int.toNat_zero, Int.reduceToNat, Try.underlying3, info3, Try.underlying4, info4, Try.underlying27, h27, hz27, Try.underlying25, info25, Try.underlying24, info24, Try.underlying28, info28, Try.underlying30, info30, Try.underlying45, info45, Try.underlying50, info50, Try.underlying9, info9, Try.underlying68, info68, hFl, hFo, hFt, hFd, vT]))
      all_goals (refine ⟨_, .refl _, .any, by rw [exK_any], ?_⟩; (first | exact Sg.sub.refl _ | ((repeat (first | exact Sg.sub.refl _ | refine Sg.sub.set_both ?_ | refine Sg.sub.set_fresh ?_ (by first | assumption | exact Sg.set_none (by assumption) (by first | assumption | (apply Go.Cert.ne_of2a; assumption; assumption))))); done) | (intro y p hy; simp only [Sg.set_apply, Sg.del_apply] at hy ⊢; grind)))
    · rw [if_neg hc]
      simp only [exK_mk, exsA_nil]
      (refine vfun (fun _ => .no) mixed Try.func6 (by kernel_rfl) ?_; simp only [bodyOf, Try.f6, Option.getD_some])
      repeat' (first | with_reducible rfl | exact .inr trivial | with_reducible apply And.intro | with_reducible apply vqx_step | with_reducible apply vqm_step | with_reducible refine vkp_free (by decide +kernel) ?_ | with_reducible intro _ | ((with_reducible (rename_i x10 _ x8 _ _ x6 _ _ _ x4 _ _ _ _ x2 _ _ _ _ _ _; refine .dms (fun x => x = x6) [(0, false), (1, false), (2, true), (3, true)] (by decide) (by decide +kernel) ?_)); (simp only [vO, vQ, ↓vP, vE, vS, vB, vL, vF, vM, vN, vbs_full, Nat.reduceEqDiff, Nat.reduceAdd, Nat.reduceLeDiff, ne_eq, not_false_eq_true, Nat.reduceMul, Nat.reduceSub, Int.toNat_zero, Int.reduceToNat, Try.underlying3, info3, Try.underlying4, info4, Try.underlying27, h27, hz27, Try.underlying25, info25, Try.underlying24, info24, Try.underlying28, info28, Try.underlying30, info30, Try.underlying45, info45, Try.underlying50, info50, Try.underlying9, info9, Try.underlying68, info68, hFl, hFo, hFt, hFd, vT])) | ((first | (with_reducible first | refine .rs ?_ | refine .ds (by kernel_rfl) ?_ | refine .dg (by kernel_rfl) ?_ | refine .rg ?_ | refine .ite ?_ | refine .ret ?_ | refine .skip ?_ | refine .exit ?_ | refine .scope ?_ | refine .seq (.label ?_) | refine .block ?_ | refine .seq ?_) | (simp (disch := first | assumption | (apply Go.Cert.ne_of2; assumption; assumption) | (apply Go.Cert.ne_ob; assumption; assumption; (intro e; cases e; done)) | omega) only [w64, w8, tg_eq, Go.V.n1, Go.V.n2, Go.V.nn, Int.tdiv_eq_ediv_of_nonneg, Sg.set_same, Sg.set_ne, Sg.set_ne', Sg.del_ne, Sg.del_ne']) | ((with_reducible refine (h9 _).mono ?_); rintro _ S ⟨rfl, rfl⟩) | ((with_reducible refine (r10 _ _ (by first | assumption | ((simp (disch := first | assumption | (apply Go.Cert.ne_of2; assumption; assumption) | (apply Go.Cert.ne_ob; assumption; assumption; (intro e; cases e; done)) | omega) only [Sg.set_same, Sg.set_ne, Sg.set_ne', Sg.del_ne, Sg.del_ne']); first | done | rfl | assumption))).mono ?_); rintro _ S ⟨rfl, rfl⟩) | ((with_reducible refine (h11 _ _ (by first | assumption | ((simp (disch := first | assumption | (apply Go.Cert.ne_of2; assumption; assumption) | (apply Go.Cert.ne_ob; assumption; assumption; (intro e; cases e; done)) | omega) only [Sg.set_same, Sg.set_ne, Sg.set_ne', Sg.del_ne, Sg.del_ne']); first | done | rfl | assumption))).mono ?_); rintro _ S ⟨rfl, rfl⟩) | with_reducible refine vkp_keep (fun _ _ => rfl) ?_ | (refine vkp_keep (by intro β h; first | (rcases h with h | h <;> subst h <;> (simp (disch := first | assumption | (apply Go.Cert.ne_of2; assumption; assumption) | (apply Go.Cert.ne_ob; assumption; assumption; (intro e; cases e; done)) | omega) only [Sg.set_same, Sg.set_ne, Sg.set_ne', Sg.del_ne, Sg.del_ne'])) | (subst h; (simp (disch := first | assumption | (apply Go.Cert.ne_of2; assumption; assumption) | (apply Go.Cert.ne_ob; assumption; assumption; (intro e; cases e; done)) | omega) only [Sg.set_same, Sg.set_ne, Sg.set_ne', Sg.del_ne, Sg.del_ne']))) ?_) | (refine vlo_app (o' := some (.cells 30 [.i s2.c, .i s2.a])) (keepAt (by assumption) (by first | assumption | ((simp (disch := first | assumption | (apply Go.Cert.ne_of2; assumption; assumption) | (apply Go.Cert.ne_ob; assumption; assumption; (intro e; cases e; done)) | omega) only [Sg.set_same, Sg.set_ne, Sg.set_ne', Sg.del_ne, Sg.del_ne']); first | done | rfl | assumption))) ?_) | (refine vlo_app (by first | assumption | ((simp (disch := first | assumption | (apply Go.Cert.ne_of2; assumption; assumption) | (apply Go.Cert.ne_ob; assumption; assumption; (intro e; cases e; done)) | omega) only [Sg.set_same, Sg.set_ne, Sg.set_ne', Sg.del_ne, Sg.del_ne']); first | done | rfl | assumption)) ?_) | (refine vst_app (by first | assumption | ((simp (disch := first | assumption | (apply Go.Cert.ne_of2; assumption; assumption) | (apply Go.Cert.ne_ob; assumption; assumption; (intro e; cases e; done)) | omega) only [Sg.set_same, Sg.set_ne, Sg.set_ne', Sg.del_ne, Sg.del_ne']); first | done | rfl | assumption)) ?_)); (try simp only [vO, vQ, ↓vP, vE, vS, vB, vL, vF, vM, vN, vbs_full, Nat.reduceEqDiff, Nat.reduceAdd, Nat.reduceLeDiff, ne_eq, not_false_eq_true, Nat.reduceMul, Nat.reduceSub, Int.toNat_zero, Int.reduceToNat, Try.underlying3, info3, Try.underlying4, info4, Try.underlying27, h27, hz27, Try.underlying25, info25, Try.underlying24, info24, Try.underlying28, info28, Try.underlying30, info30, Try.underlying45, info45, Try.underlying50, info50, Try.underlying9, info9, Try.underlying68, info68, hFl, hFo, hFt, hFd, vT])) | with_reducible refine vfresh_set ?_ | with_reducible refine vfresh_intro (fun _ _ => ?_) | with_reducible refine vif_intro (fun _ => ?_) (fun _ => ?_) | omega | ((with_reducible first | refine vop_at ?_ | refine vops_at ?_ | refine vquiet_at ?_ | refine vmix_at ?_ | refine Holds_at ?_); simp only [vO, vQ, ↓vP, vE, vS, vB, vL, vF, vM, vN, vbs_full, Nat.reduceEqDiff, Nat.reduceAdd, Nat.reduceLeDiff, ne_eq, not_false_eq_true, Nat.reduceMul, Nat.reduceSub, Int.toNat_zero, Int.reduceToNat, Try.underlying3, info3, Try.underlying4, info4, Try.underlying27, h27, hz27, Try.underlying25, info25, Try.underlying24, info24, Try.underlying28, info28, Try.underlying30, info30, Try.underlying45, info45, Try.underlying50, info50, Try.underlying9, info9, Try.underlying68, info68, hFl, hFo, hFt, hFd, vT]))
      all_goals (refine ⟨_, .refl _, _, rfl, ?_⟩; (first | exact Sg.sub.refl _ | ((repeat (first | exact Sg.sub.refl _ | refine Sg.sub.set_both ?_ | refine Sg.sub.set_fresh ?_ (by first | assumption | exact Sg.set_none (by assumption) (by first | assumption | (apply Go.Cert.ne_of2a; assumption; assumption))))); done) | (intro y p hy; simp only [Sg.set_apply, Sg.del_apply] at hy ⊢; grind)))
end Go.Proofs.Ytmokgifgnpocaaa

set_option linter.unusedSimpArgs false
set_option linter.unusedVariables false
namespace Go.Parse
open Go.V Go.Lex Go.Proofs.Ytmokgifgnpocaaa
/-- No node has more than two below it. -/
inductive Sm : Ex → Prop
  | leaf (k op : Int) (t n : By) (v : Vl) : Sm (.mk k op t n v [])
  | one (k op : Int) (t n : By) (v : Vl) (e : Ex) (h : Sm e) : Sm (.mk k op t n v [e])
  | two (k op : Int) (t n : By) (v : Vl) (e f : Ex) (h : Sm e) (h2 : Sm f) : Sm (.mk k op t n v [e, f])
def SmF (F : Pr) : Prop := ∀ s, Sm (F s).1
theorem sm_column : SmF Rd.column := fun s => by
  unfold Rd.column
  split <;> exact .leaf _ _ _ _ _
theorem sm_within {F : Pr} (h : SmF F) : SmF (within F) := fun s => by
  unfold within
  split
  · exact h _
  · exact .leaf _ _ _ _ _
theorem sm_rowL {F : Pr} (h : SmF F) (first : Int) (ws : List By) : ∀ (n : Nat) (e : Ex) (s : Rd), Sm e → Sm (rowL F first ws n e s).1
  | 0, e, s, he => he
  | n + 1, e, s, he => by
    unfold rowL
    split
    · exact sm_rowL h first ws n _ _ (.two _ _ _ _ _ _ _ he (h _))
    · exact he
theorem sm_row {F : Pr} (h : SmF F) (first : Int) (ws : List By) : SmF (row F first ws) := fun s => sm_rowL h first ws _ _ _ (h s)
structure Dp.Sm (D : Dp) : Prop where
  fac : SmF D.fac
  not : SmF D.not
  ex : SmF D.ex
theorem sm_fac {D : Dp} (h : D.Sm) : SmF (facL D) := fun s => by
  unfold facL
  split
  · exact .leaf _ _ _ _ _
  · split
    · exact .one _ _ _ _ _ _ (sm_within h.fac _)
    · split
      · exact sm_within h.ex _
      · exact sm_column _
theorem sm_sum {D : Dp} (h : D.Sm) : SmF (sumL D) := sm_row (sm_row (sm_fac h) _ _) _ _
theorem sm_test {D : Dp} (h : D.Sm) : SmF (testL D) := fun s => by
  unfold testL
  split
  · exact sm_sum h s
  · split
    · exact .two _ _ _ _ _ _ _ (sm_sum h _) (sm_sum h _)
    · unfold isNull
      split
      · exact .one _ _ _ _ _ _ (.one _ _ _ _ _ _ (sm_sum h _))
      · exact .one _ _ _ _ _ _ (sm_sum h _)
theorem sm_not {D : Dp} (h : D.Sm) : SmF (notL D) := fun s => by
  unfold notL
  split
  · exact .one _ _ _ _ _ _ (sm_within h.not _)
  · exact sm_test h s
theorem dp_sm : ∀ n, (dp n).Sm
  | 0 => ⟨fun s => .leaf _ _ _ _ _, fun s => .leaf _ _ _ _ _, fun s => .leaf _ _ _ _ _⟩
  | n + 1 => ⟨sm_fac (dp_sm n), sm_not (dp_sm n), sm_row (sm_row (sm_not (dp_sm n)) _ _) _ _⟩
theorem sm_oneAll (b : List UInt8) : Sm (oneAll b).1 := by
  unfold oneAll
  split
  · unfold oneR
    split
    · exact (dp_sm 11).ex _
    · exact .leaf _ _ _ _ _
  · exact .leaf _ _ _ _ _
end Go.Parse
namespace Go.Proofs.Ytmokgifgnpocaaa
open Go Go.V Go.Lex Go.Parse
theorem exsA_get {l : List Ex} {k : Nat} (h : k < l.length) : (exsA l).getD k [] = exA l[k] := by
  induction l generalizing k with
  | nil => simp at h
  | cons e r ih =>
    rw [exsA_cons]
    cases k with
    | zero => rfl
    | succ k => exact ih (by simpa using h)
theorem exsA_all (l : List Ex) : allLen (exsA l) 8 = True := eq_true (by
  induction l with
  | nil => intro e he; rw [exsA_nil] at he; cases he
  | cons x r ih =>
    intro e he
    rw [exsA_cons] at he
    rcases List.mem_cons.1 he with rfl | he
    · exact exA_len x
    · exact ih e he)
set_option maxHeartbeats 400000 in
set_option maxRecDepth 100000 in
theorem p12 (l : List Ex) (h : ∀ (i : Nat) (hi : i < l.length) (σ : Sg), VCalls Try.prog 7 [.agg (exA l[i]), .agg (exA l[i])] σ (fun x σ' => x = .b true ∧ σ' = σ)) (hl : l.length ≤ 100) (σ : Sg) : VCalls Try.prog 12 [.sl .any (exsA l), .sl .any (exsA l)] σ (fun x σ' => x = .b true ∧ σ' = σ) := by
  have hn := exsA_len l
  have hall := exsA_all l
  (refine vfun (fun _ => .no) mixed Try.func12 (by kernel_rfl) ?_; simp only [bodyOf, Try.f12, Option.getD_some])
  repeat' (first | with_reducible rfl | exact .inr trivial | with_reducible apply And.intro | with_reducible apply vqx_step | with_reducible apply vqm_step | with_reducible refine vkp_free (by decide +kernel) ?_ | with_reducible intro _ | ((first | (with_reducible first | refine .rs ?_ | refine .ds (by kernel_rfl) ?_ | refine .dg (by kernel_rfl) ?_ | refine .rg ?_ | refine .ite ?_ | refine .ret ?_ | refine .skip ?_ | refine .exit ?_ | refine .scope ?_ | refine .seq (.label ?_) | refine .block ?_ | refine .seq ?_) | (simp (disch := first | assumption | (apply Go.Cert.ne_of2; assumption; assumption) | (apply Go.Cert.ne_ob; assumption; assumption; (intro e; cases e; done)) | omega) only [w64, w8, tg_eq, Go.V.n1, Go.V.n2, Go.V.nn, Int.tdiv_eq_ediv_of_nonneg, Sg.set_same, Sg.set_ne, Sg.set_ne', Sg.del_ne, Sg.del_ne'])); (try simp only [vO, vQ, ↓vP, vE, vS, vB, vL, vF, vM, vN, vbs_full, Nat.reduceEqDiff, Nat.reduceAdd, Nat.reduceLeDiff, ne_eq, not_false_eq_true, Nat.reduceMul, Nat.reduceSub, Int.toNat_zero, Int.reduceToNat, Try.underlying3, info3, Try.underlying4, info4, Try.underlying27, info27, Try.underlying25, info25, hn, hall, vT])) | with_reducible refine vfresh_set ?_ | with_reducible refine vfresh_intro (fun _ _ => ?_) | with_reducible refine vif_intro (fun _ => ?_) (fun _ => ?_) | omega | ((with_reducible first | refine vop_at ?_ | refine vops_at ?_ | refine vquiet_at ?_ | refine vmix_at ?_ | refine Holds_at ?_); simp only [vO, vQ, ↓vP, vE, vS, vB, vL, vF, vM, vN, vbs_full, Nat.reduceEqDiff, Nat.reduceAdd, Nat.reduceLeDiff, ne_eq, not_false_eq_true, Nat.reduceMul, Nat.reduceSub, Int.toNat_zero, Int.reduceToNat, Try.underlying3, info3, Try.underlying4, info4, Try.underlying27, info27, Try.underlying25, info25, hn, hall, vT]))
  refine VW.loop3 (0 : Nat) () () (fun k _ _ => k ≤ l.length) (fun k _ _ => [(0, .sl .any (exsA l)), (1, .sl .any (exsA l)), (5, .i k)]) (fun _ _ _ => σ) (fun k _ _ => l.length - k) (by omega) (.refl _) ?_ ?_
  · simp only [vO, vQ, ↓vP, vE, vS, vB, vL, vF, vM, vN, vbs_full, Nat.reduceEqDiff, Nat.reduceAdd, Nat.reduceLeDiff, ne_eq, not_false_eq_true, Nat.reduceMul, Nat.reduceSub, Int.toNat_zero, Int.reduceToNat, vT]
    all_goals rfl
  rintro k _ _ hk
  rcases Nat.lt_or_ge k l.length with hk2 | hk2
  · have hg := exsA_get hk2
    have hp := h k hk2
    have hFl := exA_len l[k]
    have hFt := exA_take l[k]
    generalize exA l[k] = E at *
    repeat' (first | with_reducible rfl | exact .inr trivial | with_reducible apply And.intro | with_reducible apply vqx_step | with_reducible apply vqm_step | with_reducible refine vkp_free (by decide +kernel) ?_ | with_reducible intro _ | ((first | (with_reducible first | refine .rs ?_ | refine .ds (by kernel_rfl) ?_ | refine .dg (by kernel_rfl) ?_ | refine .rg ?_ | refine .ite ?_ | refine .ret ?_ | refine .skip ?_ | refine .exit ?_ | refine .scope ?_ | refine .seq (.label ?_) | refine .block ?_ | refine .seq ?_) | (simp (disch := first | assumption | (apply Go.Cert.ne_of2; assumption; assumption) | (apply Go.Cert.ne_ob; assumption; assumption; (intro e; cases e; done)) | omega) only [w64, w8, tg_eq, Go.V.n1, Go.V.n2, Go.V.nn, Int.tdiv_eq_ediv_of_nonneg, Sg.set_same, Sg.set_ne, Sg.set_ne', Sg.del_ne, Sg.del_ne']) | ((with_reducible refine (hp _).mono ?_); rintro _ S ⟨rfl, rfl⟩)); (try simp only [vO, vQ, ↓vP, vE, vS, vB, vL, vF, vM, vN, vbs_full, Nat.reduceEqDiff, Nat.reduceAdd, Nat.reduceLeDiff, ne_eq, not_false_eq_true, Nat.reduceMul, Nat.reduceSub, Int.toNat_zero, Int.reduceToNat, Try.underlying3, info3, Try.underlying4, info4, Try.underlying27, info27, Try.underlying25, info25, hn, hall, hg, hFl, hFt, vT])) | with_reducible refine vfresh_set ?_ | with_reducible refine vfresh_intro (fun _ _ => ?_) | with_reducible refine vif_intro (fun _ => ?_) (fun _ => ?_) | omega | ((with_reducible first | refine vop_at ?_ | refine vops_at ?_ | refine vquiet_at ?_ | refine vmix_at ?_ | refine Holds_at ?_); simp only [vO, vQ, ↓vP, vE, vS, vB, vL, vF, vM, vN, vbs_full, Nat.reduceEqDiff, Nat.reduceAdd, Nat.reduceLeDiff, ne_eq, not_false_eq_true, Nat.reduceMul, Nat.reduceSub, Int.toNat_zero, Int.reduceToNat, Try.underlying3, info3, Try.underlying4, info4, Try.underlying27, info27, Try.underlying25, info25, hn, hall, hg, hFl, hFt, vT]))
    exact ⟨k + 1, (), (), ⟨hk2, by omega⟩, .refl _, rfl⟩
  · repeat' (first | with_reducible rfl | exact .inr trivial | with_reducible apply And.intro | with_reducible apply vqx_step | with_reducible apply vqm_step | with_reducible refine vkp_free (by decide +kernel) ?_ | with_reducible intro _ | ((first | (with_reducible first | refine .rs ?_ | refine .ds (by kernel_rfl) ?_ | refine .dg (by kernel_rfl) ?_ | refine .rg ?_ | refine .ite ?_ | refine .ret ?_ | refine .skip ?_ | refine .exit ?_ | refine .scope ?_ | refine .seq (.label ?_) | refine .block ?_ | refine .seq ?_) | (simp (disch := first | assumption | (apply Go.Cert.ne_of2; assumption; assumption) | (apply Go.Cert.ne_ob; assumption; assumption; (intro e; cases e; done)) | omega) only [w64, w8, tg_eq, Go.V.n1, Go.V.n2, Go.V.nn, Int.tdiv_eq_ediv_of_nonneg, Sg.set_same, Sg.set_ne, Sg.set_ne', Sg.del_ne, Sg.del_ne'])); (try simp only [vO, vQ, ↓vP, vE, vS, vB, vL, vF, vM, vN, vbs_full, Nat.reduceEqDiff, Nat.reduceAdd, Nat.reduceLeDiff, ne_eq, not_false_eq_true, Nat.reduceMul, Nat.reduceSub, Int.toNat_zero, Int.reduceToNat, Try.underlying3, info3, Try.underlying4, info4, Try.underlying27, info27, Try.underlying25, info25, hn, hall, vT])) | with_reducible refine vfresh_set ?_ | with_reducible refine vfresh_intro (fun _ _ => ?_) | with_reducible refine vif_intro (fun _ => ?_) (fun _ => ?_) | omega | ((with_reducible first | refine vop_at ?_ | refine vops_at ?_ | refine vquiet_at ?_ | refine vmix_at ?_ | refine Holds_at ?_); simp only [vO, vQ, ↓vP, vE, vS, vB, vL, vF, vM, vN, vbs_full, Nat.reduceEqDiff, Nat.reduceAdd, Nat.reduceLeDiff, ne_eq, not_false_eq_true, Nat.reduceMul, Nat.reduceSub, Int.toNat_zero, Int.reduceToNat, Try.underlying3, info3, Try.underlying4, info4, Try.underlying27, info27, Try.underlying25, info25, hn, hall, vT]))
    exact ⟨_, .refl _, rfl⟩
theorem eq24 {d : TypeDesc} {a b a' b' : Int} {s t : ByteArray} : veqT Try.prog 24 d (.agg [.i a, .i b, .s s]) (.agg [.i a', .i b', .s t]) = some (decide (a = a') && (decide (b = b') && (sEq s t && true))) := by
  rw [veqT_agg (by kernel_rfl), veqIn_struct (d := 9999) Try.underlying24 (by kernel_rfl)]
  exact veqFs_cons (by decide) (partO_one info3 Try.underlying3 rfl) (partO_one info3 Try.underlying3 rfl) (veqIn_int Try.underlying3) (veqFs_cons (by decide) (partO_one info3 Try.underlying3 rfl) (partO_one info3 Try.underlying3 rfl) (veqIn_int Try.underlying3) (veqFs_cons (by decide) (partO_one info9 Try.underlying9 rfl) (partO_one info9 Try.underlying9 rfl) (veqIn_str Try.underlying9) rfl))
set_option maxHeartbeats 400000 in
set_option maxRecDepth 100000 in
theorem p7w (k op : Int) (t n : By) (v : Vl) (l : List Ex) (h12 : ∀ σ, VCalls Try.prog 12 [.sl .any (exsA l), .sl .any (exsA l)] σ (fun x σ' => x = .b true ∧ σ' = σ)) (σ : Sg) : VCalls Try.prog 7 [.agg (exA (.mk k op t n v l)), .agg (exA (.mk k op t n v l))] σ (fun x σ' => x = .b true ∧ σ' = σ) := by
  rw [exA_mk]
  have he : ∀ d, veqT Try.prog 24 d (.agg [.i v.1, .i v.2.1, .s (bs v.2.2)]) (.agg [.i v.1, .i v.2.1, .s (bs v.2.2)]) = some true := fun d => by rw [eq24]; simp [sEq]
  generalize exsA l = L at *
  generalize v.1 = va at *
  generalize v.2.1 = vb at *
  generalize v.2.2 = vc at *
  (refine vfun (fun _ => .ro) mixed Try.func7 (by kernel_rfl) ?_; simp only [bodyOf, Try.f7, Option.getD_some])
  repeat' (first | with_reducible rfl | exact .inr trivial | with_reducible apply And.intro | with_reducible apply vqx_step | with_reducible apply vqm_step | with_reducible refine vkp_free (by decide +kernel) ?_ | with_reducible intro _ | ((first | (with_reducible first | refine .rs ?_ | refine .ds (by kernel_rfl) ?_ | refine .dg (by kernel_rfl) ?_ | refine .rg ?_ | refine .ite ?_ | refine .ret ?_ | refine .skip ?_ | refine .exit ?_ | refine .scope ?_ | refine .seq (.label ?_) | refine .block ?_ | refine .seq ?_) | (simp (disch := first | assumption | (apply Go.Cert.ne_of2; assumption; assumption) | (apply Go.Cert.ne_ob; assumption; assumption; (intro e; cases e; done)) | omega) only [w64, w8, tg_eq, Go.V.n1, Go.V.n2, Go.V.nn, Int.tdiv_eq_ediv_of_nonneg, Sg.set_same, Sg.set_ne, Sg.set_ne', Sg.del_ne, Sg.del_ne']) | ((with_reducible refine (h12 _).mono ?_); rintro _ S ⟨rfl, rfl⟩)); (try simp only [vO, vQ, ↓vP, vE, vS, vB, vL, vF, vM, vN, vbs_full, Nat.reduceEqDiff, Nat.reduceAdd, Nat.reduceLeDiff, ne_eq, not_false_eq_true, Nat.reduceMul, Nat.reduceSub, Int.toNat_zero, Int.reduceToNat, Try.underlying3, info3, Try.underlying4, info4, Try.underlying9, info9, Try.underlying24, info24, Try.underlying27, info27, Try.underlying25, info25, he, vT])) | with_reducible refine vfresh_set ?_ | with_reducible refine vfresh_intro (fun _ _ => ?_) | with_reducible refine vif_intro (fun _ => ?_) (fun _ => ?_) | omega | ((with_reducible first | refine vop_at ?_ | refine vops_at ?_ | refine vquiet_at ?_ | refine vmix_at ?_ | refine Holds_at ?_); simp only [vO, vQ, ↓vP, vE, vS, vB, vL, vF, vM, vN, vbs_full, Nat.reduceEqDiff, Nat.reduceAdd, Nat.reduceLeDiff, ne_eq, not_false_eq_true, Nat.reduceMul, Nat.reduceSub, Int.toNat_zero, Int.reduceToNat, Try.underlying3, info3, Try.underlying4, info4, Try.underlying9, info9, Try.underlying24, info24, Try.underlying27, info27, Try.underlying25, info25, he, vT]))
  exact ⟨_, .refl _, rfl⟩
/-- A tree of few arguments is the same as itself. -/
theorem p7 {e : Ex} (h : Sm e) : ∀ σ, VCalls Try.prog 7 [.agg (exA e), .agg (exA e)] σ (fun x σ' => x = .b true ∧ σ' = σ) := by
  induction h with
  | leaf k op t n v => exact fun σ => p7w k op t n v [] (p12 [] (fun i hi => by simp at hi) (by simp)) σ
  | one k op t n v e h ih =>
    exact fun σ => p7w k op t n v [e] (p12 [e] (fun i hi => by
      obtain rfl : i = 0 := by simp at hi; omega
      exact ih) (by simp)) σ
  | two k op t n v e f h h2 ih ih2 =>
    exact fun σ => p7w k op t n v [e, f] (p12 [e, f] (fun i hi => by
      match i, hi with
      | 0, _ => exact ih
      | 1, _ => exact ih2) (by simp)) σ
end Go.Proofs.Ytmokgifgnpocaaa

/- Reading on: what stands behind an expression that was read whole changes nothing of it. -/
set_option linter.unusedVariables false
namespace Go.Parse
open Go.V Go.Lex Go.Proofs.Ytmokgifgnpocaaa
/-- The same token elsewhere. -/
def tq (x y : Tk) : Prop := x.1 = y.1 ∧ x.2.1 = y.2.1 ∧ x.2.2.1 = y.2.2.1
inductive Tq : List Tk → List Tk → Prop
  | nil : Tq [] []
  | cons (x y : Tk) (i j : List Tk) (h : tq x y) (t : Tq i j) : Tq (x :: i) (y :: j)
/-- Two readers: the one ends where the other has a sign w; the other is δ deeper. -/
structure Sim (δ : Int) (w : By) (s s' : Rd) : Prop where
  c : s.c = 0
  c' : s'.c = 0
  d : s'.d = s.d + δ
  wf : WF s.l
  wf' : WF s'.l
  l : ∃ i j e z r, s.l = i ++ [e] ∧ s'.l = j ++ z :: r ∧ Tq i j ∧ e.1 = 6 ∧ z.1 = 5 ∧ z.2.1 = w ∧ (∀ x ∈ i, x.1 ≠ 6) ∧ r.length = 1
variable {δ : Int} {w : By}
theorem takeWhile_all {α : Type} (p : α → Bool) : ∀ (l : List α), (∀ x ∈ l, p x = true) → l.takeWhile p = l
  | [], _ => rfl
  | x :: l, h => by
    rw [List.takeWhile_cons, if_pos (h x (by simp)), takeWhile_all p l (fun y hy => h y (by simp [hy]))]
theorem Sim.is {s s' : Rd} (h : Sim δ w s s') (ws : List By) (hw : w ∉ ws) : s'.is ws = s.is ws := by
  obtain ⟨i, j, e, z, r, h1, h2, h3, h4, h5, h6⟩ := h.l
  have e1 := h.c
  have e2 := h.c'
  unfold Rd.is
  cases h3 with
  | nil =>
    have g1 : hd s.l = e := by rw [h1]; rfl
    have g2 : hd s'.l = z := by rw [h2]; rfl
    rw [g1, g2, if_pos (c := s.c ≠ 0 ∨ _) (.inr ⟨by omega, by omega⟩), if_neg (by omega), h6.1, if_neg]
    intro hlt
    have hall : ∀ x ∈ ws, (x != w) = true := fun x hx => by
      simp only [bne_iff_ne, ne_eq]
      exact fun e => hw (e ▸ hx)
    have : idx w ws = ws.length := by
      unfold idx
      rw [takeWhile_all _ ws hall]
    omega
  | cons x y i j hxy ht =>
    obtain ⟨q1, q2, q3⟩ := hxy
    have g1 : hd s.l = x := by rw [h1]; rfl
    have g2 : hd s'.l = y := by rw [h2]; rfl
    rw [g1, g2, q1, q2, e1, e2]
/-- Where a token is passed, it is the same. -/
theorem Sim.next {s s' : Rd} (h : Sim δ w s s') (hk : (hd s.l).1 ≠ 6) : Sim δ w s.next s'.next ∧ tq (hd s.l) (hd s'.l) := by
  obtain ⟨i, j, e, z, r, h1, h2, h3, h4, h5, h6⟩ := h.l
  cases h3 with
  | nil =>
    have g1 : hd s.l = e := by rw [h1]; rfl
    rw [g1] at hk
    exact absurd h4 hk
  | cons x y i j hxy ht =>
    have g1 : hd s.l = x := by rw [h1]; rfl
    have g2 : hd s'.l = y := by rw [h2]; rfl
    have hk' : (hd s'.l).1 ≠ 6 := by rw [g2, ← hxy.1, ← g1]; exact hk
    refine ⟨⟨h.c, h.c', h.d, (h.wf.tail hk).1, (h.wf'.tail hk').1, i, j, e, z, r, ?_, ?_, ht, h4, h5, h6.1, fun x hx => h6.2.1 x (List.mem_cons_of_mem _ hx), h6.2.2⟩, by rw [g1, g2]; exact hxy⟩
    · show s.l.tail = _
      rw [h1]; rfl
    · show s'.l.tail = _
      rw [h2]; rfl
theorem Sim.nextIs {s s' : Rd} (h : Sim δ w s s') {ws : List By} (hk : 0 ≤ s.is ws) : Sim δ w s.next s'.next := (h.next (by obtain ⟨_, h2, _⟩ := is_pos hk; omega)).1
theorem Sim.has {s s' : Rd} (h : Sim δ w s s') {v : By} (hv : s.has v = true) : s'.has v = true ∧ Sim δ w s.next s'.next := by
  have hk : 0 ≤ s.is [v] := of_decide_eq_true hv
  obtain ⟨h1, h2, h3, _⟩ := is_pos hk
  obtain ⟨g1, g2, g3, g4⟩ := h.next (by omega)
  refine ⟨decide_eq_true ?_, g1⟩
  unfold Rd.is
  rw [if_neg (by rw [h.c', ← g2]; simp only [ne_eq, not_true_eq_false, false_or]; omega), ← g3, if_pos h3]
  omega
theorem fail_c {s : Rd} {e : Int} (he : e ≠ 0) : (s.fail e).c ≠ 0 := by
  unfold Rd.fail
  split
  · exact he
  · assumption
theorem Sim.must {s s' : Rd} : ∀ (ws : List By) {s s' : Rd}, Sim δ w s s' → (s.must ws).c = 0 → Sim δ w (s.must ws) (s'.must ws)
  | [], s, s', h, _ => h
  | v :: ws, s, s', h, hc => by
    unfold Rd.must at hc ⊢
    by_cases hv : s.has v = true
    · obtain ⟨g1, g2⟩ := h.has hv
      rw [if_pos hv] at hc ⊢
      rw [if_pos g1]
      exact Sim.must (s := s) (s' := s') ws g2 hc
    · rw [if_neg hv] at hc
      exact absurd hc (by
        have o := ok_fail h.wf 4
        have hne := fail_c (s := s) (e := 4) (by decide)
        rw [((ok_must ws _ o.wf).c hne).1]
        exact hne)
theorem Sim.take {s s' : Rd} (h : Sim δ w s s') {k : Nat} (hk : k ≠ 6) (hc : (s.take k).c = 0) : Sim δ w (s.take k) (s'.take k) ∧ (s'.tok k).2.1 = (s.tok k).2.1 ∧ (s'.tok k).2.2.1 = (s.tok k).2.2.1 := by
  by_cases ht : s.takes k
  · obtain ⟨g1, g2, g3, g4⟩ := h.next (by rw [ht.2]; exact hk)
    have ht' : s'.takes k := ⟨h.c', by rw [← g2]; exact ht.2⟩
    unfold Rd.take Rd.tok
    rw [if_pos ht, if_pos ht', if_pos ht, if_pos ht']
    exact ⟨g1, g3.symm, g4.symm⟩
  · unfold Rd.take at hc
    rw [if_neg ht] at hc
    exact absurd hc (fail_c (by decide))
/-- What F reads, it reads there too, or it is too deep. -/
def SimF (δ : Int) (w : By) (d : Int) (F F' : Pr) : Prop := ∀ s s', s.d = d → Sim δ w s s' → (F s).2.c = 0 → (δ ≠ 0 ∧ (F' s').2.c = 10) ∨ ((F' s').1 = (F s).1 ∧ Sim δ w (F s).2 (F' s').2)
variable {d : Int}
theorem sim_column (hw : w ≠ [46]) : SimF δ w d Rd.column Rd.column := fun s s' _ h hc => by
  have o1 := ok_take (k := 1) h.wf (by decide)
  have h0 : (s.take 1).c = 0 := Classical.byContradiction fun hne => by
    unfold Rd.column at hc
    split at hc
    · rename_i hb
      exact absurd (is_pos (of_decide_eq_true hb)).1 hne
    · exact hne hc
  obtain ⟨g1, g2, g3⟩ := h.take (k := 1) (by decide) h0
  have hi := g1.is [[46]] (by simpa using hw)
  right
  unfold Rd.column at hc ⊢
  by_cases hb : (s.take 1).has [46] = true
  · have hb' : (s'.take 1).has [46] = true := by unfold Rd.has at hb ⊢; rw [hi]; exact hb
    rw [if_pos hb] at hc ⊢
    rw [if_pos hb']
    obtain ⟨k1, k2, k3⟩ := (g1.has hb).2.take (k := 1) (by decide) hc
    exact ⟨by rw [g2, k2], k1⟩
  · have hb' : ¬ (s'.take 1).has [46] = true := by unfold Rd.has at hb ⊢; rw [hi]; exact hb
    rw [if_neg hb, if_neg hb']
    exact ⟨by rw [g2], g1⟩
theorem lit3 {s : Rd} (hc : s.c = 0) (h3 : (hd s.l).1 = 3) : s.lit = (((1, ((hd s.l).2.2.1 : Nat), []) : Vl), true, s.next) := by
  unfold Rd.lit
  rw [if_neg (by rw [hc]; simp), if_pos h3]
theorem lit4 {s : Rd} (hc : s.c = 0) (h3 : (hd s.l).1 ≠ 3) (h4 : (hd s.l).1 = 4) : s.lit = (((2, 0, (hd s.l).2.1) : Vl), true, s.next) := by
  unfold Rd.lit
  rw [if_neg (by rw [hc]; simp), if_neg h3, if_pos h4]
theorem lite {s : Rd} (hc : s.c = 0) (h3 : (hd s.l).1 ≠ 3) (h4 : (hd s.l).1 ≠ 4) (h : s.is [wMinus] < 0 ∨ (hd s.next.l).1 ≠ 3) : s.lit = (v0, s.has wNull, s.pass [wNull]) := by
  have e1 : s.l.getD 1 (0, [], 0, 0) = hd s.next.l := by
    unfold hd Rd.next
    rw [List.getD_eq_getElem?_getD, List.getD_eq_getElem?_getD, List.getElem?_tail]
  unfold Rd.lit
  rw [if_neg (by rw [hc]; simp), if_neg h3, if_neg h4, e1, if_pos h]
theorem litm {s : Rd} (hc : s.c = 0) (h3 : (hd s.l).1 ≠ 3) (h4 : (hd s.l).1 ≠ 4) (h : ¬ (s.is [wMinus] < 0 ∨ (hd s.next.l).1 ≠ 3)) : s.lit = ((1, IntKind.i64.wrap (0 - ((hd s.next.l).2.2.1 : Int)), []), true, s.next.next) := by
  have e1 : s.l.getD 1 (0, [], 0, 0) = hd s.next.l := by
    unfold hd Rd.next
    rw [List.getD_eq_getElem?_getD, List.getD_eq_getElem?_getD, List.getElem?_tail]
  unfold Rd.lit
  rw [if_neg (by rw [hc]; simp), if_neg h3, if_neg h4, e1, if_neg h]
theorem Sim.end6 {s s' : Rd} (h : Sim δ w s s') (h6 : (hd s.l).1 = 6) : (hd s'.l).1 = 5 ∨ (hd s'.l).1 = 6 := by
  obtain ⟨i, j, e, z, r, g1, g2, g3, g4, g5, g6⟩ := h.l
  cases g3 with
  | nil => rw [g2]; exact .inl g5
  | cons x y i j hxy ht =>
    have a1 : hd s.l = x := by rw [g1]; rfl
    have a2 : hd s'.l = y := by rw [g2]; rfl
    rw [a2, ← hxy.1, ← a1]
    exact .inr h6
theorem Sim.lit {s s' : Rd} (h : Sim δ w s s') (h1 : w ≠ wMinus) (h2 : w ≠ wNull) : s'.lit.1 = s.lit.1 ∧ s'.lit.2.1 = s.lit.2.1 ∧ Sim δ w s.lit.2.2 s'.lit.2.2 := by
  have i1 := h.is [wMinus] (by simpa using h1)
  have i2 := h.is [wNull] (by simpa using h2)
  have hnull : s'.has wNull = s.has wNull ∧ Sim δ w (s.pass [wNull]) (s'.pass [wNull]) := by
    refine ⟨by unfold Rd.has; rw [i2], ?_⟩
    unfold Rd.pass
    rw [i2]
    split
    · exact h.nextIs ‹_›
    · exact h
  have hc := h.c
  have hc' := h.c'
  by_cases h6 : (hd s.l).1 = 6
  · have h5 := h.end6 h6
    have hm : s.is [wMinus] < 0 := by
      rcases Int.lt_or_le (s.is [wMinus]) 0 with h' | h'
      · exact h'
      · obtain ⟨_, q, _⟩ := is_pos h'; omega
    rw [lite hc (by omega) (by omega) (.inl hm), lite hc' (by omega) (by omega) (.inl (by rw [i1]; exact hm))]
    exact ⟨rfl, hnull.1, hnull.2⟩
  · obtain ⟨g1, g2, g3, g4⟩ := h.next h6
    by_cases h3 : (hd s.l).1 = 3
    · rw [lit3 hc h3, lit3 hc' (by omega)]
      exact ⟨by rw [g4], rfl, g1⟩
    · by_cases h4 : (hd s.l).1 = 4
      · rw [lit4 hc h3 h4, lit4 hc' (by omega) (by omega)]
        exact ⟨by rw [g3], rfl, g1⟩
      · by_cases hm : s.is [wMinus] < 0
        · rw [lite hc h3 h4 (.inl hm), lite hc' (by omega) (by omega) (.inl (by omega))]
          exact ⟨rfl, hnull.1, hnull.2⟩
        · by_cases hn : (hd s.next.l).1 = 3
          · obtain ⟨k1, k2, k3, k4⟩ := g1.next (by omega)
            rw [litm hc h3 h4 (by omega), litm hc' (by omega) (by omega) (by omega)]
            exact ⟨by rw [k4], rfl, k1⟩
          · have hn' : (hd s'.next.l).1 ≠ 3 := by
              by_cases h66 : (hd s.next.l).1 = 6
              · have := g1.end6 h66; omega
              · rw [← (g1.next h66).2.1]; exact hn
            rw [lite hc h3 h4 (.inr hn), lite hc' (by omega) (by omega) (.inr hn')]
            exact ⟨rfl, hnull.1, hnull.2⟩
theorem sim_within {F F' : Pr} (hF : d + 1 ≤ 10 → d + δ + 1 ≤ 10 → SimF δ w (d + 1) F F') (hN : Nice F) (hN' : Nice F') (h0 : 0 ≤ δ) : SimF δ w d (within F) (within F') := fun s s' hd h hc => by
  subst hd
  have hs1 : s.d + 1 ≤ 10 := Classical.byContradiction fun hn => by
    have e : s.down = Rd.fail { s with d := s.d + 1 } 10 := if_pos (by omega)
    have hne : ¬ s.down.c = 0 := by rw [e]; exact fail_c (by decide)
    unfold within at hc
    rw [if_neg hne] at hc
    exact hne hc
  have e1 : s.down = { s with d := s.d + 1 } := if_neg (by omega)
  by_cases hs2 : s'.d + 1 > 10
  · have e : s'.down = Rd.fail { s' with d := s'.d + 1 } 10 := if_pos hs2
    have hc10 : s'.down.c = 10 := by rw [e]; unfold Rd.fail; rw [if_pos h.c']
    left
    refine ⟨by have := h.d; omega, ?_⟩
    unfold within
    rw [if_neg (by omega)]
    exact hc10
  · have e2 : s'.down = { s' with d := s'.d + 1 } := if_neg hs2
    have hS : Sim δ w s.down s'.down := by
      rw [e1, e2]
      exact ⟨h.c, h.c', by show s'.d + 1 = s.d + 1 + δ; have := h.d; omega, h.wf, h.wf', h.l⟩
    unfold within at hc ⊢
    rw [if_pos hS.c] at hc ⊢
    rw [if_pos hS.c']
    have := hF hs1 (by have := h.d; omega) s.down s'.down (by rw [e1]) hS hc
    rcases this with ⟨q1, q2⟩ | ⟨q1, q2⟩
    · exact .inl ⟨q1, q2⟩
    · exact .inr ⟨q1, q2.c, q2.c', by show _ - 1 = _ - 1 + δ; have := q2.d; omega, q2.wf, q2.wf', q2.l⟩
end Go.Parse

/- Statements as data, and what the readers of statements read. -/
set_option linter.unusedVariables false
namespace Go.Parse
open Go.V Go.Lex Go.Proofs.Ytmokgifgnpocaaa
abbrev Co := By × Int × Bool × Bool
abbrev Se := By × Ex
abbrev It := Int × List Ex
structure Stm where
  k : Int
  t : By
  cols : List Co
  pk : By
  rows : List (List Vl)
  sets : List Se
  items : List It
  join : By
  on : List Ex
  wh : List Ex
  gr : List Ex
  or : List Ex
  desc : Bool
  lim : Int
abbrev stm0 : Stm := ⟨0, [], [], [], [], [], [], [], [], [], [], [], false, -1⟩
/-- Some, with a sign between. -/
def manyL {β : Type} (one : Rd → β × Rd) (sep : By) : Nat → List β → Rd → List β × Rd
  | 0, acc, s => (acc ++ [(one (s.fail 2)).1], (one (s.fail 2)).2.pass [sep])
  | k + 1, acc, s => if (one s).2.has sep then manyL one sep k (acc ++ [(one s).1]) ((one s).2.pass [sep]) else (acc ++ [(one s).1], (one s).2.pass [sep])
abbrev many {β : Type} (one : Rd → β × Rd) (most : Nat) (s : Rd) : List β × Rd := manyL one [44] most [] s
def exp : Pr := (dp 11).ex
def maybeL (w : By) (s : Rd) : List Ex × Rd := if s.has w then ([(exp (s.pass [w])).1], (exp (s.pass [w])).2) else ([], s.pass [w])
def byL (w : By) (s : Rd) : List Ex × Rd := if s.has w then ([((s.pass [w]).must [[66, 89]]).column.1], ((s.pass [w]).must [[66, 89]]).column.2) else ([], s.pass [w])
abbrev wTypes : List By := [[73, 78, 84], [84, 69, 88, 84]]
def coKind (s : Rd) : Int × Rd := if s.is wTypes = -1 then (1, (s.pass wTypes).fail 4) else (if s.is wTypes = 1 then 2 else 1, s.pass wTypes)
def coNull (s : Rd) : Bool × Rd := if s.has [78, 79, 84] then (true, (s.pass [[78, 79, 84]]).must [[78, 85, 76, 76]]) else (false, s.pass [[78, 79, 84]])
def Rd.columnOf (s : Rd) : Co × Rd :=
  (((s.tok 1).2.1, (coKind (s.take 1)).1, (coNull (coKind (s.take 1)).2).1, (coNull (coKind (s.take 1)).2).2.has [85, 78, 73, 81, 85, 69]), (coNull (coKind (s.take 1)).2).2.pass [[85, 78, 73, 81, 85, 69]])
def litV (s : Rd) : Vl × Rd := (s.lit.1, if s.lit.2.1 then s.lit.2.2 else s.lit.2.2.fail 4)
def tupleL (s : Rd) : List Vl × Rd := ((many litV 8 (s.must [[40]])).1, (many litV 8 (s.must [[40]])).2.must [[41]])
def setL (s : Rd) : Se × Rd := (((s.tok 1).2.1, (exp ((s.take 1).must [[61]])).1), (exp ((s.take 1).must [[61]])).2)
abbrev wItems : List By := [[67, 79, 85, 78, 84], [83, 85, 77], [77, 73, 78], [77, 65, 88], [42]]
def itemB (k : Int) (s : Rd) : It × Rd :=
  if 0 < k then ((4 + k, [(exp s).1]), (exp s).2.must [[41]]) else
  if s.has [42] then ((3, []), (s.pass [[42]]).must [[41]]) else
  ((4 + k, [(exp (s.pass [[42]])).1]), (exp (s.pass [[42]])).2.must [[41]])
def itemL (s : Rd) : It × Rd :=
  if s.is wItems < 0 then ((2, [(exp (s.pass wItems)).1]), (exp (s.pass wItems)).2) else
  if s.is wItems = 4 then ((1, []), s.pass wItems) else
  itemB (s.is wItems) ((s.pass wItems).must [[40]])
/-! ### One of each kind -/
def colsMore (acc : List Co) (s : Rd) : Bool := decide (s.c = 0) && (decide (acc = []) || !s.has [80, 82, 73, 77, 65, 82, 89])
def colsAt (acc : List Co) (s : Rd) : Rd := if s.c = 0 ∧ acc ≠ [] then s.pass [[80, 82, 73, 77, 65, 82, 89]] else s
def colsL : Nat → List Co → Rd → List Co × Rd
  | 0, acc, s => if colsMore acc s then (acc ++ [((colsAt acc s).fail 2).columnOf.1], ((colsAt acc s).fail 2).columnOf.2.must [[44]]) else (acc, colsAt acc s)
  | k + 1, acc, s => if colsMore acc s then colsL k (acc ++ [(colsAt acc s).columnOf.1]) ((colsAt acc s).columnOf.2.must [[44]]) else (acc, colsAt acc s)
def crA (s : Rd) : Rd := s.must [[84, 65, 66, 76, 69]]
def crB (s : Rd) : Rd := ((crA s).take 1).must [[40]]
def crC (s : Rd) : List Co × Rd := colsL 8 [] (crB s)
def crD (s : Rd) : Rd := (crC s).2.must [[75, 69, 89], [40]]
def createL (s : Rd) : Stm × Rd := ({ stm0 with k := 1, t := ((crA s).tok 1).2.1, cols := (crC s).1, pk := ((crD s).tok 1).2.1 }, ((crD s).take 1).must [[41], [41]])
def dropL (s : Rd) : Stm × Rd := ({ stm0 with k := 2, t := ((s.must [[84, 65, 66, 76, 69]]).tok 1).2.1 }, (s.must [[84, 65, 66, 76, 69]]).take 1)
def inA (s : Rd) : Rd := s.must [[73, 78, 84, 79]]
def inB (s : Rd) : List (List Vl) × Rd := many tupleL 16 (((inA s).take 1).must [[86, 65, 76, 85, 69, 83]])
def insertL (s : Rd) : Stm × Rd := ({ stm0 with k := 3, t := ((inA s).tok 1).2.1, rows := (inB s).1 }, (inB s).2)
def upA (s : Rd) : List Se × Rd := many setL 8 ((s.take 1).must [[83, 69, 84]])
def updateL (s : Rd) : Stm × Rd := ({ stm0 with k := 4, t := (s.tok 1).2.1, sets := (upA s).1, wh := (maybeL [87, 72, 69, 82, 69] (upA s).2).1 }, (maybeL [87, 72, 69, 82, 69] (upA s).2).2)
def removeL (s : Rd) : Stm × Rd := ({ stm0 with k := 5, t := ((s.must [[70, 82, 79, 77]]).tok 1).2.1, wh := (maybeL [87, 72, 69, 82, 69] ((s.must [[70, 82, 79, 77]]).take 1)).1 }, (maybeL [87, 72, 69, 82, 69] ((s.must [[70, 82, 79, 77]]).take 1)).2)
def joinB (s : Rd) : Rd := ((s.pass [[74, 79, 73, 78]]).take 1).must [[79, 78]]
def joinL (s : Rd) : By × List Ex × Rd := if s.has [74, 79, 73, 78] then (((s.pass [[74, 79, 73, 78]]).tok 1).2.1, [(exp (joinB s)).1], (exp (joinB s)).2) else ([], [], s.pass [[74, 79, 73, 78]])
def descL (o : List Ex) (s : Rd) : Bool × Rd := if o = [] then (false, s) else (s.has [68, 69, 83, 67], s.pass [[68, 69, 83, 67]])
def limL (s : Rd) : Int × Rd := if s.has [76, 73, 77, 73, 84] then ((((s.pass [[76, 73, 77, 73, 84]]).tok 3).2.2.1 : Nat), (s.pass [[76, 73, 77, 73, 84]]).take 3) else (-1, s.pass [[76, 73, 77, 73, 84]])
def seA (s : Rd) : List It × Rd := many itemL 8 s
def seB (s : Rd) : Rd := (seA s).2.must [[70, 82, 79, 77]]
def seC (s : Rd) : By × List Ex × Rd := joinL ((seB s).take 1)
def seD (s : Rd) : List Ex × Rd := maybeL [87, 72, 69, 82, 69] (seC s).2.2
def seE (s : Rd) : List Ex × Rd := byL [71, 82, 79, 85, 80] (seD s).2
def seF (s : Rd) : List Ex × Rd := byL [79, 82, 68, 69, 82] (seE s).2
def seG (s : Rd) : Bool × Rd := descL (seF s).1 (seF s).2
def seH (s : Rd) : Int × Rd := limL (seG s).2
def chooseL (s : Rd) : Stm × Rd := ({ stm0 with k := 6, t := ((seB s).tok 1).2.1, items := (seA s).1, join := (seC s).1, on := (seC s).2.1, wh := (seD s).1, gr := (seE s).1, or := (seF s).1, desc := (seG s).1, lim := (seH s).1 }, (seH s).2)
abbrev wKinds : List By := [[67, 82, 69, 65, 84, 69], [68, 82, 79, 80], [73, 78, 83, 69, 82, 84], [85, 80, 68, 65, 84, 69], [68, 69, 76, 69, 84, 69], [83, 69, 76, 69, 67, 84]]
def stateK (k : Int) (s : Rd) : Stm × Rd :=
  if k = -1 then (stm0, s.fail 4) else if k = 0 then createL s else if k = 1 then dropL s else if k = 2 then insertL s else if k = 3 then updateL s else if k = 4 then removeL s else if k = 5 then chooseL s else (stm0, s)
def stateL (s : Rd) : Stm × Rd := stateK (s.is wKinds) (s.pass wKinds)
/-- A script of tokens, or what is wrong. -/
def scriptT (l : List Tk) : List Stm × Rd := ((manyL stateL [59] 8 [] (rd0 l)).1, (manyL stateL [59] 8 [] (rd0 l)).2.fin)
def scriptR (l : List Tk) : List Stm × Int × Int := if (scriptT l).2.c = 0 then ((scriptT l).1, 0, 0) else ([], (scriptT l).2.c, (scriptT l).2.a)
def scriptAll (b : List UInt8) : List Stm × Int × Int :=
  match lexAll b with
  | .ok l => scriptR l
  | .error (e, a) => ([], (e : Int), a)
/-! ### All of them are nice -/
def NiceL {β : Type} (F : Rd → β × Rd) : Prop := ∀ s, WF s.l → Ok s (F s).2
theorem ok_many {β : Type} {one : Rd → β × Rd} (h : NiceL one) (sep : By) : ∀ (k : Nat) (acc : List β) (s : Rd), WF s.l → Ok s (manyL one sep k acc s).2
  | 0, acc, s, hw => by
    have o := ok_fail hw 2
    have o2 := o.trans (h _ o.wf)
    exact o2.trans (ok_pass o2.wf)
  | k + 1, acc, s, hw => by
    have o := h s hw
    have o2 := o.trans (ok_pass (ws := [sep]) o.wf)
    unfold manyL
    split
    · exact o2.trans (ok_many h sep k _ _ o2.wf)
    · exact o2
theorem nice_exp : NiceL exp := (dp_nice 11).ex
theorem nice_maybe (w : By) : NiceL (maybeL w) := fun s hw => by
  have o := ok_pass (ws := [w]) hw
  unfold maybeL
  split
  · exact o.trans (nice_exp _ o.wf)
  · exact o
theorem nice_by (w : By) : NiceL (byL w) := fun s hw => by
  have o := ok_pass (ws := [w]) hw
  unfold byL
  split
  · have o2 := o.trans (ok_must [[66, 89]] _ o.wf)
    exact o2.trans (nice_column _ o2.wf)
  · exact o
theorem nice_coKind : NiceL coKind := fun s hw => by
  have o := ok_pass (ws := wTypes) hw
  unfold coKind
  split
  · exact o.trans (ok_fail o.wf 4)
  · exact o
theorem nice_coNull : NiceL coNull := fun s hw => by
  have o := ok_pass (ws := [[78, 79, 84]]) hw
  unfold coNull
  split
  · exact o.trans (ok_must _ _ o.wf)
  · exact o
theorem nice_columnOf : NiceL Rd.columnOf := fun s hw => by
  have o1 := ok_take (k := 1) hw (by decide)
  have o2 := o1.trans (nice_coKind _ o1.wf)
  have o3 := o2.trans (nice_coNull _ o2.wf)
  exact o3.trans (ok_pass o3.wf)
theorem nice_litV : NiceL litV := fun s hw => by
  have o := ok_lit hw
  unfold litV
  split
  · exact o
  · exact o.trans (ok_fail o.wf 4)
theorem nice_tuple : NiceL tupleL := fun s hw => by
  have o := ok_must [[40]] s hw
  have o2 := o.trans (ok_many nice_litV [44] 8 [] _ o.wf)
  exact o2.trans (ok_must _ _ o2.wf)
theorem nice_set : NiceL setL := fun s hw => by
  have o := ok_take (k := 1) hw (by decide)
  have o2 := o.trans (ok_must [[61]] _ o.wf)
  exact o2.trans (nice_exp _ o2.wf)
theorem nice_itemB (k : Int) : NiceL (itemB k) := fun s hw => by
  unfold itemB
  split
  · have o := nice_exp s hw
    exact o.trans (ok_must _ _ o.wf)
  · have o := ok_pass (ws := [[42]]) hw
    split
    · exact o.trans (ok_must _ _ o.wf)
    · have o2 := o.trans (nice_exp _ o.wf)
      exact o2.trans (ok_must _ _ o2.wf)
theorem nice_item : NiceL itemL := fun s hw => by
  have o := ok_pass (ws := wItems) hw
  unfold itemL
  split
  · exact o.trans (nice_exp _ o.wf)
  · split
    · exact o
    · have o2 := o.trans (ok_must [[40]] _ o.wf)
      exact o2.trans (nice_itemB _ _ o2.wf)
theorem ok_colsAt {acc : List Co} {s : Rd} (hw : WF s.l) : Ok s (colsAt acc s) := by
  unfold colsAt
  split
  · exact ok_pass hw
  · exact .refl hw
theorem ok_cols : ∀ (k : Nat) (acc : List Co) (s : Rd), WF s.l → Ok s (colsL k acc s).2
  | 0, acc, s, hw => by
    have o := ok_colsAt (acc := acc) hw
    have o2 := o.trans (ok_fail o.wf 2)
    have o3 := o2.trans (nice_columnOf _ o2.wf)
    unfold colsL
    split
    · exact o3.trans (ok_must _ _ o3.wf)
    · exact o
  | k + 1, acc, s, hw => by
    have o := ok_colsAt (acc := acc) hw
    have o3 := o.trans (nice_columnOf _ o.wf)
    have o4 := o3.trans (ok_must [[44]] _ o3.wf)
    unfold colsL
    split
    · exact o4.trans (ok_cols k _ _ o4.wf)
    · exact o
theorem ok_crA {s : Rd} (hw : WF s.l) : Ok s (crA s) := ok_must _ _ hw
theorem ok_crB {s : Rd} (hw : WF s.l) : Ok s (crB s) := by
  have o := ok_crA hw
  have o2 := o.trans (ok_take (k := 1) o.wf (by decide))
  exact o2.trans (ok_must _ _ o2.wf)
theorem ok_crC {s : Rd} (hw : WF s.l) : Ok s (crC s).2 := (ok_crB hw).trans (ok_cols _ _ _ (ok_crB hw).wf)
theorem ok_crD {s : Rd} (hw : WF s.l) : Ok s (crD s) := (ok_crC hw).trans (ok_must _ _ (ok_crC hw).wf)
theorem nice_create : NiceL createL := fun s hw => by
  have o := ok_crD hw
  have o2 := o.trans (ok_take (k := 1) o.wf (by decide))
  exact o2.trans (ok_must _ _ o2.wf)
theorem nice_drop : NiceL dropL := fun s hw => by
  have o := ok_must [[84, 65, 66, 76, 69]] s hw
  exact o.trans (ok_take (k := 1) o.wf (by decide))
theorem ok_inB {s : Rd} (hw : WF s.l) : Ok s (inB s).2 := by
  have o := ok_must [[73, 78, 84, 79]] s hw
  have o2 := o.trans (ok_take (k := 1) o.wf (by decide))
  have o3 := o2.trans (ok_must [[86, 65, 76, 85, 69, 83]] _ o2.wf)
  exact o3.trans (ok_many nice_tuple _ _ _ _ o3.wf)
theorem nice_insert : NiceL insertL := fun s hw => ok_inB hw
theorem ok_upA {s : Rd} (hw : WF s.l) : Ok s (upA s).2 := by
  have o2 := ok_take (k := 1) hw (by decide)
  have o3 := o2.trans (ok_must [[83, 69, 84]] _ o2.wf)
  exact o3.trans (ok_many nice_set _ _ _ _ o3.wf)
theorem nice_update : NiceL updateL := fun s hw => (ok_upA hw).trans (nice_maybe _ _ (ok_upA hw).wf)
theorem nice_remove : NiceL removeL := fun s hw => by
  have o := ok_must [[70, 82, 79, 77]] s hw
  have o2 := o.trans (ok_take (k := 1) o.wf (by decide))
  exact o2.trans (nice_maybe _ _ o2.wf)
theorem ok_joinB {s : Rd} (hw : WF s.l) : Ok s (joinB s) := by
  have o := ok_pass (ws := [[74, 79, 73, 78]]) hw
  have o2 := o.trans (ok_take (k := 1) o.wf (by decide))
  exact o2.trans (ok_must _ _ o2.wf)
theorem ok_join {s : Rd} (hw : WF s.l) : Ok s (joinL s).2.2 := by
  unfold joinL
  split
  · exact (ok_joinB hw).trans (nice_exp _ (ok_joinB hw).wf)
  · exact ok_pass hw
theorem nice_desc (o : List Ex) : NiceL (descL o) := fun s hw => by
  unfold descL
  split
  · exact .refl hw
  · exact ok_pass hw
theorem nice_lim : NiceL limL := fun s hw => by
  have o := ok_pass (ws := [[76, 73, 77, 73, 84]]) hw
  unfold limL
  split
  · exact o.trans (ok_take o.wf (by decide))
  · exact o
theorem ok_seA {s : Rd} (hw : WF s.l) : Ok s (seA s).2 := ok_many nice_item _ _ _ _ hw
theorem ok_seB {s : Rd} (hw : WF s.l) : Ok s (seB s) := (ok_seA hw).trans (ok_must _ _ (ok_seA hw).wf)
theorem ok_seC {s : Rd} (hw : WF s.l) : Ok s (seC s).2.2 := by
  have o := (ok_seB hw).trans (ok_take (k := 1) (ok_seB hw).wf (by decide))
  exact o.trans (ok_join o.wf)
theorem ok_seD {s : Rd} (hw : WF s.l) : Ok s (seD s).2 := (ok_seC hw).trans (nice_maybe _ _ (ok_seC hw).wf)
theorem ok_seE {s : Rd} (hw : WF s.l) : Ok s (seE s).2 := (ok_seD hw).trans (nice_by _ _ (ok_seD hw).wf)
theorem ok_seF {s : Rd} (hw : WF s.l) : Ok s (seF s).2 := (ok_seE hw).trans (nice_by _ _ (ok_seE hw).wf)
theorem ok_seG {s : Rd} (hw : WF s.l) : Ok s (seG s).2 := (ok_seF hw).trans (nice_desc _ _ (ok_seF hw).wf)
theorem ok_seH {s : Rd} (hw : WF s.l) : Ok s (seH s).2 := (ok_seG hw).trans (nice_lim _ (ok_seG hw).wf)
theorem nice_choose : NiceL chooseL := fun s hw => ok_seH hw
theorem nice_stateK (k : Int) : NiceL (stateK k) := fun s hw => by
  unfold stateK
  repeat' split
  · exact ok_fail hw 4
  · exact nice_create s hw
  · exact nice_drop s hw
  · exact nice_insert s hw
  · exact nice_update s hw
  · exact nice_remove s hw
  · exact nice_choose s hw
  · exact .refl hw
theorem nice_state : NiceL stateL := fun s hw => by
  have o := ok_pass (ws := wKinds) hw
  exact o.trans (nice_stateK _ _ o.wf)
/-! ### A reader that stands at the outermost depth -/
structure Gd (s : Rd) : Prop where
  wf : WF s.l
  d : s.d = 0
theorem Gd.ok {s s' : Rd} (h : Gd s) (o : Ok s s') : Gd s' := ⟨o.wf, o.d.trans h.d⟩
theorem gd_must {s : Rd} {ws : List By} (h : Gd s) : Gd (s.must ws) := h.ok (ok_must ws s h.wf)
theorem gd_fail {s : Rd} {e : Int} (h : Gd s) : Gd (s.fail e) := h.ok (ok_fail h.wf e)
theorem gd_pass {s : Rd} {ws : List By} (h : Gd s) : Gd (s.pass ws) := h.ok (ok_pass h.wf)
theorem gd_take {s : Rd} {k : Nat} (hk : k ≠ 6) (h : Gd s) : Gd (s.take k) := h.ok (ok_take h.wf hk)
theorem gd_exp {s : Rd} (h : Gd s) : Gd (exp s).2 := h.ok (nice_exp s h.wf)
theorem gd_column {s : Rd} (h : Gd s) : Gd s.column.2 := h.ok (nice_column s h.wf)
theorem gd_lit {s : Rd} (h : Gd s) : Gd s.lit.2.2 := h.ok (ok_lit h.wf)
theorem gd_of {β : Type} {F : Rd → β × Rd} (hF : NiceL F) {s : Rd} (h : Gd s) : Gd (F s).2 := h.ok (hF s h.wf)
theorem gd_many {β : Type} {F : Rd → β × Rd} (hF : NiceL F) {sep : By} {k : Nat} {acc : List β} {s : Rd} (h : Gd s) : Gd (manyL F sep k acc s).2 := h.ok (ok_many hF sep k acc s h.wf)
theorem has_pass {s : Rd} {w : By} (h : s.has w = false) : s.pass [w] = s := by rw [pass1, h]; rfl
end Go.Parse

set_option linter.unusedSimpArgs false
set_option linter.unusedVariables false
namespace Go.Proofs.Ytmokgifgnpocaaa
open Go Go.V Go.Lex Go.Parse
variable (ρ : Nat) (s : Rd)
theorem c13 (w : By) (σ : Sg) (hρ : σ ρ = some (rdA s)) (hg : Gd s) : VCalls Try.prog 13 [.ref ρ 0, .s (bs w)] σ (fun x σ' => x = .b (s.has w) ∧ σ' = σ.set ρ (rdA (s.pass [w]))) := by
  rw [pass1]; exact p13 ρ s w σ hρ hg.wf.pos
theorem c14 (e : Int) (σ : Sg) (hρ : σ ρ = some (rdA s)) (hg : Gd s) : VCalls Try.prog 14 [.ref ρ 0, .i e] σ (fun x σ' => x = .tup [] ∧ σ' = σ.set ρ (rdA (s.fail e))) := p14 ρ s e σ hρ hg.wf.pos
theorem c20 (σ : Sg) (hρ : σ ρ = some (rdA s)) : VCalls Try.prog 20 [.ref ρ 0] σ (fun x σ' => x = .b (decide (s.c = 0)) ∧ σ' = σ) := p20 ρ s σ hρ
theorem c22 (o : Own) (ws : List By) (es : List (List AV)) (σ : Sg) (he : es = strs ws) (hρ : σ ρ = some (rdA s)) (hg : Gd s) (hw : ws.length < 2 ^ 60) : VCalls Try.prog 22 [.ref ρ 0, .sl o es] σ (fun x σ' => x = .i (s.is ws) ∧ σ' = σ.set ρ (rdA (s.pass ws))) := p22 ρ s o ws es σ he hρ hg.wf.pos hw
theorem c41 (o : Own) (ws : List By) (es : List (List AV)) (σ : Sg) (he : es = strs ws) (hρ : σ ρ = some (rdA s)) (hg : Gd s) (hw : ws.length < 2 ^ 60) : VCalls Try.prog 41 [.ref ρ 0, .sl o es] σ (fun x σ' => x = .tup [] ∧ σ' = σ.set ρ (rdA (s.must ws))) := p41 ρ s o ws es σ he hρ hg.wf hw
theorem c42 (σ : Sg) (hρ : σ ρ = some (rdA s)) (hg : Gd s) : VCalls Try.prog 42 [.ref ρ 0] σ (fun x σ' => x = .s (bs (s.tok 1).2.1) ∧ σ' = σ.set ρ (rdA (s.take 1))) := p42 ρ s σ hρ hg.wf.pos
theorem c52 (σ : Sg) (hρ : σ ρ = some (rdA s)) (hg : Gd s) : VCalls Try.prog 52 [.ref ρ 0, .i 3] σ (fun x σ' => x = .agg [.i (s.tok 3).1, .s (bs (s.tok 3).2.1), .i (s.tok 3).2.2.1, .i (s.tok 3).2.2.2] ∧ σ' = σ.set ρ (rdA (s.take 3))) := p52 ρ s 3 σ hρ hg.wf.pos
theorem c67 (σ : Sg) (hρ : σ ρ = some (rdA s)) (hg : Gd s) : VCalls Try.prog 67 [.ref ρ 0] σ (fun x σ' => x = .tup [.agg [.i s.lit.1.1, .i s.lit.1.2.1, .s (bs s.lit.1.2.2)], .b s.lit.2.1] ∧ σ' = σ.set ρ (rdA s.lit.2.2)) := p67 ρ s σ hρ hg.wf
theorem c68 (σ : Sg) (hρ : σ ρ = some (rdA s)) (hg : Gd s) : VCalls Try.prog 68 [.ref ρ 0] σ (fun x σ' => x = .agg (exA s.column.1) ∧ σ' = σ.set ρ (rdA s.column.2)) := p68 ρ s σ hρ hg.wf
theorem c10 (σ : Sg) (hρ : σ ρ = some (rdA s)) (hg : Gd s) : VCalls Try.prog 10 [.ref ρ 0] σ (fun x σ' => x = .agg (exA (exp s).1) ∧ σ' = σ.set ρ (rdA (exp s).2)) := (qRD 11 0 (by decide) (by decide) (by decide)).ex ρ s σ hρ hg.wf hg.d
def coA (c : Co) : List AV := [.s (bs c.1), .i c.2.1, .b c.2.2.1, .b c.2.2.2]
theorem zero75 : ∃ z, tInfo Try.prog 75 = some (some z, 4, 32) ∧ ofValue z = .agg [.s (bs []), .i 0, .b false, .b false] := ⟨_, info75, by rfl⟩
set_option maxHeartbeats 400000 in
set_option maxRecDepth 100000 in
theorem c43 (σ : Sg) (hρ : σ ρ = some (rdA s)) (hg : Gd s) : VCalls Try.prog 43 [.ref ρ 0] σ (fun x σ' => x = .agg (coA s.columnOf.1) ∧ σ' = σ.set ρ (rdA s.columnOf.2)) := by
  obtain ⟨z75, h75, hz75⟩ := zero75
  (refine vfun (fun _ => .no) mixed Try.func43 (by kernel_rfl) ?_; simp only [bodyOf, Try.f43, Option.getD_some])
  repeat' (first | with_reducible rfl | exact .inr trivial | with_reducible apply And.intro | with_reducible apply vqx_step | with_reducible apply vqm_step | with_reducible refine vkp_free (by decide +kernel) ?_ | with_reducible intro _ | ((first | (with_reducible first | refine .rs ?_ | refine .ds (by kernel_rfl) ?_ | refine .dg (by kernel_rfl) ?_ | refine .rg ?_ | refine .ite ?_ | refine .ret ?_ | refine .skip ?_ | refine .exit ?_ | refine .scope ?_ | refine .seq (.label ?_) | refine .block ?_ | refine .seq ?_) | (simp (disch := first | assumption | (apply Go.Cert.ne_of2; assumption; assumption) | (apply Go.Cert.ne_ob; assumption; assumption; (intro e; cases e; done)) | omega) only [w64, w8, tg_eq, Go.V.n1, Go.V.n2, Go.V.nn, Int.tdiv_eq_ediv_of_nonneg, Sg.set_same, Sg.set_ne, Sg.set_ne', Sg.del_ne, Sg.del_ne']) | ((with_reducible refine VCalls.mono (c42 _ _ _ (by first | assumption | ((simp (disch := first | assumption | (apply Go.Cert.ne_of2; assumption; assumption) | (apply Go.Cert.ne_ob; assumption; assumption; (intro e; cases e; done)) | omega) only [Sg.set_same, Sg.set_ne, Sg.set_ne', Sg.del_ne, Sg.del_ne']); first | done | rfl | assumption)) (by repeat' (first | assumption | refine gd_must ?_ | refine gd_fail ?_ | refine gd_pass ?_ | refine gd_take (by decide) ?_ | refine gd_exp ?_ | refine gd_column ?_ | refine gd_lit ?_ | refine gd_of (by assumption) ?_ | refine gd_many (by assumption) ?_))) ?_); rintro _ S ⟨rfl, rfl⟩) | ((with_reducible refine VCalls.mono (c22 _ _ _ [[73, 78, 84], [84, 69, 88, 84]] _ _ (by with_unfolding_all rfl) (by first | assumption | ((simp (disch := first | assumption | (apply Go.Cert.ne_of2; assumption; assumption) | (apply Go.Cert.ne_ob; assumption; assumption; (intro e; cases e; done)) | omega) only [Sg.set_same, Sg.set_ne, Sg.set_ne', Sg.del_ne, Sg.del_ne']); first | done | rfl | assumption)) (by repeat' (first | assumption | refine gd_must ?_ | refine gd_fail ?_ | refine gd_pass ?_ | refine gd_take (by decide) ?_ | refine gd_exp ?_ | refine gd_column ?_ | refine gd_lit ?_ | refine gd_of (by assumption) ?_ | refine gd_many (by assumption) ?_)) (by decide)) ?_); rintro _ S ⟨rfl, rfl⟩) | ((with_reducible refine VCalls.mono (c14 _ _ _ _ (by first | assumption | ((simp (disch := first | assumption | (apply Go.Cert.ne_of2; assumption; assumption) | (apply Go.Cert.ne_ob; assumption; assumption; (intro e; cases e; done)) | omega) only [Sg.set_same, Sg.set_ne, Sg.set_ne', Sg.del_ne, Sg.del_ne']); first | done | rfl | assumption)) (by repeat' (first | assumption | refine gd_must ?_ | refine gd_fail ?_ | refine gd_pass ?_ | refine gd_take (by decide) ?_ | refine gd_exp ?_ | refine gd_column ?_ | refine gd_lit ?_ | refine gd_of (by assumption) ?_ | refine gd_many (by assumption) ?_))) ?_); rintro _ S ⟨rfl, rfl⟩) | ((with_reducible refine VCalls.mono (c13 _ _ [78, 79, 84] _ (by first | assumption | ((simp (disch := first | assumption | (apply Go.Cert.ne_of2; assumption; assumption) | (apply Go.Cert.ne_ob; assumption; assumption; (intro e; cases e; done)) | omega) only [Sg.set_same, Sg.set_ne, Sg.set_ne', Sg.del_ne, Sg.del_ne']); first | done | rfl | assumption)) (by repeat' (first | assumption | refine gd_must ?_ | refine gd_fail ?_ | refine gd_pass ?_ | refine gd_take (by decide) ?_ | refine gd_exp ?_ | refine gd_column ?_ | refine gd_lit ?_ | refine gd_of (by assumption) ?_ | refine gd_many (by assumption) ?_))) ?_); rintro _ S ⟨rfl, rfl⟩) | ((with_reducible refine VCalls.mono (c13 _ _ [85, 78, 73, 81, 85, 69] _ (by first | assumption | ((simp (disch := first | assumption | (apply Go.Cert.ne_of2; assumption; assumption) | (apply Go.Cert.ne_ob; assumption; assumption; (intro e; cases e; done)) | omega) only [Sg.set_same, Sg.set_ne, Sg.set_ne', Sg.del_ne, Sg.del_ne']); first | done | rfl | assumption)) (by repeat' (first | assumption | refine gd_must ?_ | refine gd_fail ?_ | refine gd_pass ?_ | refine gd_take (by decide) ?_ | refine gd_exp ?_ | refine gd_column ?_ | refine gd_lit ?_ | refine gd_of (by assumption) ?_ | refine gd_many (by assumption) ?_))) ?_); rintro _ S ⟨rfl, rfl⟩) | ((with_reducible refine VCalls.mono (c41 _ _ _ [[78, 85, 76, 76]] _ _ (by with_unfolding_all rfl) (by first | assumption | ((simp (disch := first | assumption | (apply Go.Cert.ne_of2; assumption; assumption) | (apply Go.Cert.ne_ob; assumption; assumption; (intro e; cases e; done)) | omega) only [Sg.set_same, Sg.set_ne, Sg.set_ne', Sg.del_ne, Sg.del_ne']); first | done | rfl | assumption)) (by repeat' (first | assumption | refine gd_must ?_ | refine gd_fail ?_ | refine gd_pass ?_ | refine gd_take (by decide) ?_ | refine gd_exp ?_ | refine gd_column ?_ | refine gd_lit ?_ | refine gd_of (by assumption) ?_ | refine gd_many (by assumption) ?_)) (by decide)) ?_); rintro _ S ⟨rfl, rfl⟩) | (refine vlo_app (by first | assumption | ((simp (disch := first | assumption | (apply Go.Cert.ne_of2; assumption; assumption) | (apply Go.Cert.ne_ob; assumption; assumption; (intro e; cases e; done)) | omega) only [Sg.set_same, Sg.set_ne, Sg.set_ne', Sg.del_ne, Sg.del_ne']); first | done | rfl | assumption)) ?_) | (refine vst_app (by first | assumption | ((simp (disch := first | assumption | (apply Go.Cert.ne_of2; assumption; assumption) | (apply Go.Cert.ne_ob; assumption; assumption; (intro e; cases e; done)) | omega) only [Sg.set_same, Sg.set_ne, Sg.set_ne', Sg.del_ne, Sg.del_ne']); first | done | rfl | assumption)) ?_)); (try simp only [vO, vQ, ↓vP, vE, vS, vB, vL, vF, vM, vN, vbs_full, Nat.reduceEqDiff, Nat.reduceAdd, Nat.reduceLeDiff, ne_eq, not_false_eq_true, Nat.reduceMul, Nat.reduceSub, Int.toNat_zero, Int.reduceToNat, Try.underlying3, info3, Try.underlying4, info4, Try.underlying9, info9, Try.underlying75, h75, hz75, Try.underlying68, info68, vT])) | with_reducible refine vfresh_set ?_ | with_reducible refine vfresh_intro (fun _ _ => ?_) | with_reducible refine vif_intro (fun _ => ?_) (fun _ => ?_) | omega | ((with_reducible first | refine vop_at ?_ | refine vops_at ?_ | refine vquiet_at ?_ | refine vmix_at ?_ | refine Holds_at ?_); simp only [vO, vQ, ↓vP, vE, vS, vB, vL, vF, vM, vN, vbs_full, Nat.reduceEqDiff, Nat.reduceAdd, Nat.reduceLeDiff, ne_eq, not_false_eq_true, Nat.reduceMul, Nat.reduceSub, Int.toNat_zero, Int.reduceToNat, Try.underlying3, info3, Try.underlying4, info4, Try.underlying9, info9, Try.underlying75, h75, hz75, Try.underlying68, info68, vT]))
  all_goals (try simp only [Rd.columnOf, coKind, coNull, coA, wTypes, *, ↓reduceIte, if_true, if_false, not_true_eq_false, not_false_eq_true, Bool.false_eq_true, Bool.not_eq_true, Bool.true_eq_false, true_and, Int.reduceEq, Int.reduceNeg, Int.reduceLT, Int.reduceLE, Int.reduceAdd])
  all_goals (first | ((first | refine ⟨_, ?_, rfl⟩ | refine ⟨_, ?_, rfl, rfl⟩ | refine ⟨_, ?_⟩); (first | exact Sg.sub.refl _ | ((repeat (first | exact Sg.sub.refl _ | refine Sg.sub.set_both ?_ | refine Sg.sub.set_fresh ?_ (by first | assumption | exact Sg.set_none (by assumption) (by first | assumption | (apply Go.Cert.ne_of2a; assumption; assumption))))); done) | (intro y p hy; simp only [Sg.set_apply, Sg.del_apply] at hy ⊢; grind))) | (exfalso; omega))
end Go.Proofs.Ytmokgifgnpocaaa

set_option linter.unusedSimpArgs false
set_option linter.unusedVariables false
namespace Go.Proofs.Ytmokgifgnpocaaa
open Go Go.V Go.Lex Go.Parse
theorem manyL_yes {β : Type} {one : Rd → β × Rd} {sep : By} {k : Nat} {acc : List β} {s : Rd} (h : (one s).2.has sep = true) : manyL one sep (k + 1) acc s = manyL one sep k (acc ++ [(one s).1]) ((one s).2.pass [sep]) := by
  rw [manyL, if_pos h]
theorem manyL_no {β : Type} {one : Rd → β × Rd} {sep : By} {k : Nat} {acc : List β} {s : Rd} (h : ¬ (one s).2.has sep = true) : manyL one sep (k + 1) acc s = (acc ++ [(one s).1], (one s).2.pass [sep]) := by
  rw [manyL, if_neg h]
theorem bad_has {s : Rd} {w : By} (h : s.c ≠ 0) : s.has w = false := by
  unfold Rd.has
  refine decide_eq_false (fun hk => h (is_pos hk).1)
/-- What a function that reads one does to the store. -/
structure Ones {β : Type} (f : FuncId) (cap : List AV) (one : Rd → β × Rd) (ρ : Nat) (store : Nat → List β → Rd → Sg) (good : Nat → List β → Prop) : Prop where
  nice : NiceL one
  at0 : ∀ τ acc s, good τ acc → store τ acc s ρ = some (rdA s)
  set : ∀ τ acc s s', good τ acc → (store τ acc s).set ρ (rdA s') = store τ acc s'
  one : ∀ τ acc s, good τ acc → Gd s → acc.length ≤ 16 → VCalls Try.prog f cap (store τ acc s) (fun x σ' => x = .tup [] ∧ ∃ τ', good τ' (acc ++ [(one s).1]) ∧ σ' = store τ' (acc ++ [(one s).1]) (one s).2)
set_option maxHeartbeats 400000 in
set_option maxRecDepth 100000 in
theorem c44 {β : Type} {f : FuncId} {cap : List AV} {one : Rd → β × Rd} {ρ : Nat} {store : Nat → List β → Rd → Sg} {good : Nat → List β → Prop} (H : Ones f cap one ρ store good) (most : Nat) (hm : most ≤ 16) (τ0 : Nat) (s : Rd) (hg0 : good τ0 []) (hs : Gd s) :
    VCalls Try.prog 44 [.ref ρ 0, .i most, .fn f cap] (store τ0 [] s) (fun x σ' => x = .tup [] ∧ ∃ τ', good τ' (many one most s).1 ∧ σ' = store τ' (many one most s).1 (many one most s).2) := by
  have h14 := fun τ acc s (hg : good τ acc) (hs : Gd s) => c14 ρ s 2 (store τ acc s) (H.at0 τ acc s hg) hs
  have h13 := fun τ acc s (hg : good τ acc) (hs : Gd s) => c13 ρ s [44] (store τ acc s) (H.at0 τ acc s hg) hs
  (refine vfun (fun _ => .no) mixed Try.func44 (by kernel_rfl) ?_; simp only [bodyOf, Try.f44, Option.getD_some])
  repeat' (first | with_reducible rfl | exact .inr trivial | with_reducible apply And.intro | with_reducible apply vqx_step | with_reducible apply vqm_step | with_reducible refine vkp_free (by decide +kernel) ?_ | with_reducible intro _ | ((first | (with_reducible first | refine .rs ?_ | refine .ds (by kernel_rfl) ?_ | refine .dg (by kernel_rfl) ?_ | refine .rg ?_ | refine .ite ?_ | refine .ret ?_ | refine .skip ?_ | refine .exit ?_ | refine .scope ?_ | refine .seq (.label ?_) | refine .block ?_ | refine .seq ?_) | (simp (disch := first | assumption | (apply Go.Cert.ne_of2; assumption; assumption) | (apply Go.Cert.ne_ob; assumption; assumption; (intro e; cases e; done)) | omega) only [w64, w8, tg_eq, Go.V.n1, Go.V.n2, Go.V.nn, Int.tdiv_eq_ediv_of_nonneg, Sg.set_same, Sg.set_ne, Sg.set_ne', Sg.del_ne, Sg.del_ne'])); (try simp only [vO, vQ, ↓vP, vE, vS, vB, vL, vF, vM, vN, vbs_full, Nat.reduceEqDiff, Nat.reduceAdd, Nat.reduceLeDiff, ne_eq, not_false_eq_true, Nat.reduceMul, Nat.reduceSub, Int.toNat_zero, Int.reduceToNat, Try.underlying3, info3, Try.underlying9, info9, vT])) | with_reducible refine vfresh_set ?_ | with_reducible refine vfresh_intro (fun _ _ => ?_) | with_reducible refine vif_intro (fun _ => ?_) (fun _ => ?_) | omega | ((with_reducible first | refine vop_at ?_ | refine vops_at ?_ | refine vquiet_at ?_ | refine vmix_at ?_ | refine Holds_at ?_); simp only [vO, vQ, ↓vP, vE, vS, vB, vL, vF, vM, vN, vbs_full, Nat.reduceEqDiff, Nat.reduceAdd, Nat.reduceLeDiff, ne_eq, not_false_eq_true, Nat.reduceMul, Nat.reduceSub, Int.toNat_zero, Int.reduceToNat, Try.underlying3, info3, Try.underlying9, info9, vT]))
  refine VW.loop3 ([] : List β) s τ0 (fun acc s' τ => acc.length ≤ most ∧ manyL one [44] (most - acc.length) acc s' = many one most s ∧ Gd s' ∧ good τ acc) (fun acc _ _ => [(0, .ref ρ 0), (1, .i most), (2, .fn f cap), (6, .i acc.length)]) (fun acc s' τ => store τ acc s') (fun acc _ _ => most - acc.length) ⟨by simp, by simp, hs, hg0⟩ (.refl _) ?_ ?_
  · simp only [vO, vQ, ↓vP, vE, vS, vB, vL, vF, vM, vN, vbs_full, Nat.reduceEqDiff, Nat.reduceAdd, Nat.reduceLeDiff, ne_eq, not_false_eq_true, Nat.reduceMul, Nat.reduceSub, Int.toNat_zero, Int.reduceToNat, vT]
    all_goals rfl
  rintro acc s' τ ⟨h1, h2, h3, h4⟩
  have hN := H.nice
  by_cases hk : acc.length = most
  · have k14 := h14 τ acc s' h4 h3
    rw [H.set _ _ _ _ h4] at k14
    have g1 := gd_fail (e := 2) h3
    have k1 := H.one τ acc (s'.fail 2) h4 g1 (by omega)
    have g2 : Gd (one (s'.fail 2)).2 := gd_of hN g1
    have k13 := fun τ' hg' => h13 τ' (acc ++ [(one (s'.fail 2)).1]) (one (s'.fail 2)).2 hg' g2
    have hb : (one (s'.fail 2)).2.has [44] = false := by
      refine bad_has ?_
      have := fail_c (s := s') (e := 2) (by decide)
      rw [((hN _ g1.wf).c this).1]
      exact this
    simp only [hb] at k13
    have hr : many one most s = (acc ++ [(one (s'.fail 2)).1], (one (s'.fail 2)).2.pass [[44]]) := by
      rw [← h2, hk, Nat.sub_self]; rfl
    rw [hr]
    generalize acc ++ [(one (s'.fail 2)).1] = acc2 at *
    generalize (one (s'.fail 2)).2 = s2 at *
    generalize s2.pass [[44]] = s3 at *
    repeat' (first | with_reducible rfl | exact .inr trivial | with_reducible apply And.intro | with_reducible apply vqx_step | with_reducible apply vqm_step | with_reducible refine vkp_free (by decide +kernel) ?_ | with_reducible intro _ | ((first | (with_reducible first | refine .rs ?_ | refine .ds (by kernel_rfl) ?_ | refine .dg (by kernel_rfl) ?_ | refine .rg ?_ | refine .ite ?_ | refine .ret ?_ | refine .skip ?_ | refine .exit ?_ | refine .scope ?_ | refine .seq (.label ?_) | refine .block ?_ | refine .seq ?_) | (simp (disch := first | assumption | (apply Go.Cert.ne_of2; assumption; assumption) | (apply Go.Cert.ne_ob; assumption; assumption; (intro e; cases e; done)) | omega) only [w64, w8, tg_eq, Go.V.n1, Go.V.n2, Go.V.nn, Int.tdiv_eq_ediv_of_nonneg, Sg.set_same, Sg.set_ne, Sg.set_ne', Sg.del_ne, Sg.del_ne']) | ((with_reducible refine VCalls.mono k14 ?_); rintro _ S ⟨rfl, rfl⟩) | ((with_reducible refine VCalls.mono k1 ?_); rintro _ S ⟨rfl, τ', hg', rfl⟩) | ((with_reducible refine VCalls.mono (k13 _ (by assumption)) ?_); rintro _ S ⟨rfl, rfl⟩)); (try simp only [vO, vQ, ↓vP, vE, vS, vB, vL, vF, vM, vN, vbs_full, Nat.reduceEqDiff, Nat.reduceAdd, Nat.reduceLeDiff, ne_eq, not_false_eq_true, Nat.reduceMul, Nat.reduceSub, Int.toNat_zero, Int.reduceToNat, Try.underlying3, info3, Try.underlying9, info9, hk, vT])) | with_reducible refine vfresh_set ?_ | with_reducible refine vfresh_intro (fun _ _ => ?_) | with_reducible refine vif_intro (fun _ => ?_) (fun _ => ?_) | omega | ((with_reducible first | refine vop_at ?_ | refine vops_at ?_ | refine vquiet_at ?_ | refine vmix_at ?_ | refine Holds_at ?_); simp only [vO, vQ, ↓vP, vE, vS, vB, vL, vF, vM, vN, vbs_full, Nat.reduceEqDiff, Nat.reduceAdd, Nat.reduceLeDiff, ne_eq, not_false_eq_true, Nat.reduceMul, Nat.reduceSub, Int.toNat_zero, Int.reduceToNat, Try.underlying3, info3, Try.underlying9, info9, hk, vT]))
    rw [H.set _ _ _ _ hg']
    exact ⟨_, .refl _, τ', hg', rfl⟩

  · have k1 := H.one τ acc s' h4 h3 (by omega)
    have g2 : Gd (one s').2 := gd_of hN h3
    have k13 := fun τ' hg' => h13 τ' (acc ++ [(one s').1]) (one s').2 hg' g2
    obtain ⟨k, hk2⟩ : ∃ k, most - acc.length = k + 1 := ⟨most - acc.length - 1, by omega⟩
    rw [hk2] at h2
    have hl : (acc ++ [(one s').1]).length = acc.length + 1 := by simp
    by_cases hb : (one s').2.has [44] = true
    · rw [manyL_yes hb] at h2
      simp only [hb] at k13
      generalize acc ++ [(one s').1] = acc2 at *
      generalize (one s').2 = s2 at *
      repeat' (first | with_reducible rfl | exact .inr trivial | with_reducible apply And.intro | with_reducible apply vqx_step | with_reducible apply vqm_step | with_reducible refine vkp_free (by decide +kernel) ?_ | with_reducible intro _ | ((first | (with_reducible first | refine .rs ?_ | refine .ds (by kernel_rfl) ?_ | refine .dg (by kernel_rfl) ?_ | refine .rg ?_ | refine .ite ?_ | refine .ret ?_ | refine .skip ?_ | refine .exit ?_ | refine .scope ?_ | refine .seq (.label ?_) | refine .block ?_ | refine .seq ?_) | (simp (disch := first | assumption | (apply Go.Cert.ne_of2; assumption; assumption) | (apply Go.Cert.ne_ob; assumption; assumption; (intro e; cases e; done)) | omega) only [w64, w8, tg_eq, Go.V.n1, Go.V.n2, Go.V.nn, Int.tdiv_eq_ediv_of_nonneg, Sg.set_same, Sg.set_ne, Sg.set_ne', Sg.del_ne, Sg.del_ne']) | ((with_reducible refine VCalls.mono k1 ?_); rintro _ S ⟨rfl, τ', hg', rfl⟩) | ((with_reducible refine VCalls.mono (k13 _ (by assumption)) ?_); rintro _ S ⟨rfl, rfl⟩)); (try simp only [vO, vQ, ↓vP, vE, vS, vB, vL, vF, vM, vN, vbs_full, Nat.reduceEqDiff, Nat.reduceAdd, Nat.reduceLeDiff, ne_eq, not_false_eq_true, Nat.reduceMul, Nat.reduceSub, Int.toNat_zero, Int.reduceToNat, Try.underlying3, info3, Try.underlying9, info9, hk, vT])) | with_reducible refine vfresh_set ?_ | with_reducible refine vfresh_intro (fun _ _ => ?_) | with_reducible refine vif_intro (fun _ => ?_) (fun _ => ?_) | omega | ((with_reducible first | refine vop_at ?_ | refine vops_at ?_ | refine vquiet_at ?_ | refine vmix_at ?_ | refine Holds_at ?_); simp only [vO, vQ, ↓vP, vE, vS, vB, vL, vF, vM, vN, vbs_full, Nat.reduceEqDiff, Nat.reduceAdd, Nat.reduceLeDiff, ne_eq, not_false_eq_true, Nat.reduceMul, Nat.reduceSub, Int.toNat_zero, Int.reduceToNat, Try.underlying3, info3, Try.underlying9, info9, hk, vT]))
      rw [H.set _ _ _ _ hg']
      exact ⟨acc2, s2.pass [[44]], τ', ⟨⟨by omega, by rw [show most - acc2.length = k by omega]; exact h2, gd_pass g2, hg'⟩, by omega⟩, .refl _, by rw [hl]; rfl⟩

    · rw [manyL_no hb] at h2
      rw [← h2]
      simp only [hb] at k13
      generalize acc ++ [(one s').1] = acc2 at *
      generalize (one s').2 = s2 at *
      repeat' (first | with_reducible rfl | exact .inr trivial | with_reducible apply And.intro | with_reducible apply vqx_step | with_reducible apply vqm_step | with_reducible refine vkp_free (by decide +kernel) ?_ | with_reducible intro _ | ((first | (with_reducible first | refine .rs ?_ | refine .ds (by kernel_rfl) ?_ | refine .dg (by kernel_rfl) ?_ | refine .rg ?_ | refine .ite ?_ | refine .ret ?_ | refine .skip ?_ | refine .exit ?_ | refine .scope ?_ | refine .seq (.label ?_) | refine .block ?_ | refine .seq ?_) | (simp (disch := first | assumption | (apply Go.Cert.ne_of2; assumption; assumption) | (apply Go.Cert.ne_ob; assumption; assumption; (intro e; cases e; done)) | omega) only [w64, w8, tg_eq, Go.V.n1, Go.V.n2, Go.V.nn, Int.tdiv_eq_ediv_of_nonneg, Sg.set_same, Sg.set_ne, Sg.set_ne', Sg.del_ne, Sg.del_ne']) | ((with_reducible refine VCalls.mono k1 ?_); rintro _ S ⟨rfl, τ', hg', rfl⟩) | ((with_reducible refine VCalls.mono (k13 _ (by assumption)) ?_); rintro _ S ⟨rfl, rfl⟩)); (try simp only [vO, vQ, ↓vP, vE, vS, vB, vL, vF, vM, vN, vbs_full, Nat.reduceEqDiff, Nat.reduceAdd, Nat.reduceLeDiff, ne_eq, not_false_eq_true, Nat.reduceMul, Nat.reduceSub, Int.toNat_zero, Int.reduceToNat, Try.underlying3, info3, Try.underlying9, info9, hk, vT])) | with_reducible refine vfresh_set ?_ | with_reducible refine vfresh_intro (fun _ _ => ?_) | with_reducible refine vif_intro (fun _ => ?_) (fun _ => ?_) | omega | ((with_reducible first | refine vop_at ?_ | refine vops_at ?_ | refine vquiet_at ?_ | refine vmix_at ?_ | refine Holds_at ?_); simp only [vO, vQ, ↓vP, vE, vS, vB, vL, vF, vM, vN, vbs_full, Nat.reduceEqDiff, Nat.reduceAdd, Nat.reduceLeDiff, ne_eq, not_false_eq_true, Nat.reduceMul, Nat.reduceSub, Int.toNat_zero, Int.reduceToNat, Try.underlying3, info3, Try.underlying9, info9, hk, vT]))
      rw [H.set _ _ _ _ hg']
      exact ⟨_, .refl _, τ', hg', rfl⟩

end Go.Proofs.Ytmokgifgnpocaaa

set_option linter.unusedSimpArgs false
set_option linter.unusedVariables false
namespace Go.Proofs.Ytmokgifgnpocaaa
open Go Go.V Go.Lex Go.Parse
def valA (v : Vl) : List AV := [.i v.1, .i v.2.1, .s (bs v.2.2)]
def valsA (l : List Vl) : List (List AV) := l.map valA
/-- A slice that grows. -/
def grow (τ sz n : Nat) : Own := if n = 0 then .nil else .tok τ sz
def tset (σ : Sg) (τ n : Nat) (t : TypeId) : Sg := if n = 0 then σ else σ.set τ (.tok (some t))
theorem grow1 {τ sz n : Nat} : grow τ sz (n + 1) = .tok τ sz := by unfold grow; rw [if_neg (by omega)]
theorem tset1 {σ : Sg} {τ n : Nat} {t : TypeId} : tset σ τ (n + 1) t = σ.set τ (.tok (some t)) := by unfold tset; rw [if_neg (by omega)]
theorem many_len {β : Type} {one : Rd → β × Rd} {sep : By} : ∀ (k : Nat) (acc : List β) (s : Rd), acc.length < (manyL one sep k acc s).1.length ∧ (manyL one sep k acc s).1.length ≤ acc.length + k + 1
  | 0, acc, s => by simp [manyL]
  | k + 1, acc, s => by
    unfold manyL
    split
    · have := many_len (one := one) (sep := sep) k (acc ++ [(one s).1]) ((one s).2.pass [sep])
      simp only [List.length_append, List.length_cons, List.length_nil] at this
      omega
    · simp only [List.length_append, List.length_cons, List.length_nil]
      omega
theorem many_ne {β : Type} {one : Rd → β × Rd} {sep : By} {k : Nat} {s : Rd} : (manyL one sep k [] s).1 ≠ [] := fun h => by
  have := (many_len (one := one) (sep := sep) k [] s).1
  rw [h] at this
  cases this
/-- What a slice grows in: C is its object, of what stands there; elements of type t of sz cells. -/
structure Gr (β : Type) where
  C : Own → List (List AV) → Ob
  A : β → List AV
  sz : Nat
  t : TypeId
variable {β : Type}
def stG (G : Gr β) (σ : Sg) (ρ ω : Nat) (τ : Nat) (acc : List β) (s : Rd) : Sg := tset ((σ.set ω (G.C (grow τ G.sz acc.length) (acc.map G.A))).set ρ (rdA s)) τ acc.length G.t
def okG (σ : Sg) (ρ ω : Nat) (τ : Nat) (acc : List β) : Prop := acc ≠ [] → σ τ = none ∧ τ ≠ ρ ∧ τ ≠ ω
theorem stG_nil {G : Gr β} {σ : Sg} {ρ ω τ : Nat} {s : Rd} : stG G σ ρ ω τ [] s = (σ.set ω (G.C .nil [])).set ρ (rdA s) := rfl
theorem stG_ne {G : Gr β} {σ : Sg} {ρ ω τ : Nat} {acc : List β} {s : Rd} (h : acc ≠ []) : stG G σ ρ ω τ acc s = ((σ.set ω (G.C (.tok τ G.sz) (acc.map G.A))).set ρ (rdA s)).set τ (.tok (some G.t)) := by
  cases acc with
  | nil => exact absurd rfl h
  | cons v r =>
    unfold stG
    rw [List.length_cons, grow1, tset1]
theorem stG_at {G : Gr β} {σ : Sg} {ρ ω τ : Nat} {acc : List β} {s : Rd} (h : okG σ ρ ω τ acc) : stG G σ ρ ω τ acc s ρ = some (rdA s) := by
  cases acc with
  | nil => exact Sg.set_same _ _ _
  | cons v r =>
    rw [stG_ne (by simp), Sg.set_other _ _ (h (by simp)).2.1.symm, Sg.set_same]
theorem stG_set {G : Gr β} {σ : Sg} {ρ ω τ : Nat} {acc : List β} {s s' : Rd} (h : okG σ ρ ω τ acc) : (stG G σ ρ ω τ acc s).set ρ (rdA s') = stG G σ ρ ω τ acc s' := by
  cases acc with
  | nil => exact Sg.set_set _ _ _ _
  | cons v r =>
    have h1 := (h (by simp)).2.1
    rw [stG_ne (by simp), stG_ne (by simp)]
    funext y
    simp only [Sg.set_apply]
    grind
theorem ones {G : Gr β} {f : FuncId} {cap : List AV} {one : Rd → β × Rd} {ρ ω : Nat} {σ : Sg} (hN : NiceL one)
    (h0 : ∀ s, Gd s → VCalls Try.prog f cap ((σ.set ω (G.C .nil [])).set ρ (rdA s)) (fun x σ' => x = .tup [] ∧ ∃ τ', (σ τ' = none ∧ τ' ≠ ρ ∧ τ' ≠ ω) ∧ σ' = ((σ.set ω (G.C (.tok τ' G.sz) [G.A (one s).1])).set ρ (rdA (one s).2)).set τ' (.tok (some G.t))))
    (h1 : ∀ τ V s, σ τ = none → τ ≠ ρ → τ ≠ ω → Gd s → V.length ≤ 16 → allLen V G.sz = True → VCalls Try.prog f cap (((σ.set ω (G.C (.tok τ G.sz) V)).set ρ (rdA s)).set τ (.tok (some G.t))) (fun x σ' => x = .tup [] ∧ ∃ τ', (σ τ' = none ∧ τ' ≠ ρ ∧ τ' ≠ ω) ∧ σ' = ((σ.set ω (G.C (.tok τ' G.sz) (V ++ [G.A (one s).1]))).set ρ (rdA (one s).2)).set τ' (.tok (some G.t))))
    (hA : ∀ v, (G.A v).length = G.sz) : Ones f cap one ρ (stG G σ ρ ω) (okG σ ρ ω) where
  nice := hN
  at0 := fun τ acc s h => stG_at h
  set := fun τ acc s s' h => stG_set h
  one := fun τ acc s h hs hl => by
    cases acc with
    | nil =>
      refine (h0 s hs).mono (fun x σ' hx => ?_)
      obtain ⟨rfl, τ', h2, rfl⟩ := hx
      exact ⟨rfl, τ', fun _ => h2, by rw [stG_ne (by simp)]; rfl⟩
    | cons v r =>
      obtain ⟨g1, g2, g3⟩ := h (by simp)
      rw [stG_ne (by simp)]
      refine (h1 τ ((v :: r).map G.A) s g1 g2 g3 hs (by rw [List.length_map]; exact hl) (eq_true (fun e he => by
        obtain ⟨w, _, rfl⟩ := List.mem_map.1 he
        exact hA w))).mono (fun x σ' hx => ?_)
      obtain ⟨rfl, τ', h2, rfl⟩ := hx
      exact ⟨rfl, τ', fun _ => h2, by rw [stG_ne (by simp), List.map_append]; rfl⟩
/-- Some, from a reader and an object in which nothing stands yet. -/
theorem c44G {G : Gr β} {f : FuncId} {cap : List AV} {one : Rd → β × Rd} {ρ ω : Nat} {σ : Sg} (H : Ones f cap one ρ (stG G σ ρ ω) (okG σ ρ ω)) (most : Nat) (hm : most ≤ 16) (s : Rd) (hs : Gd s) :
    VCalls Try.prog 44 [.ref ρ 0, .i most, .fn f cap] ((σ.set ω (G.C .nil [])).set ρ (rdA s)) (fun x σ' => x = .tup [] ∧ ∃ τ', (σ τ' = none ∧ τ' ≠ ρ ∧ τ' ≠ ω) ∧ σ' = ((σ.set ω (G.C (.tok τ' G.sz) ((many one most s).1.map G.A))).set ρ (rdA (many one most s).2)).set τ' (.tok (some G.t))) := by
  refine (c44 H most hm 0 s (fun h => absurd rfl h) hs).mono (fun x σ' hx => ?_)
  obtain ⟨rfl, τ', h2, rfl⟩ := hx
  exact ⟨rfl, τ', h2 many_ne, by rw [stG_ne many_ne]⟩
theorem lose_sl {P : Program} {f : FuncId} {args : List AV} {es : List (List AV)} {σ S : Sg} (h : VCalls P f args σ (fun x σ' => ∃ o, x = .sl o es ∧ S.sub σ')) : VCalls P f args σ (fun x σ' => x = .sl .any es ∧ σ' = S) :=
  h.lose fun x σ' hx => by
    obtain ⟨o, rfl, hs⟩ := hx
    exact ⟨_, S, AVw.any _ _, hs, rfl, rfl⟩
theorem own_if (c : Prop) [Decidable c] (e : TypeId) (s : Nat) (es : List (List AV)) (σ : Sg) (R : AV → Sg → Prop) : vown2 (if c then .ro else .no) e s es σ R = R (.sl .full es) σ := by split <;> rfl
theorem vown2_ro (e : TypeId) (s : Nat) (es : List (List AV)) (σ : Sg) (R : AV → Sg → Prop) : vown2 .ro e s es σ R = R (.sl .full es) σ := rfl
def grT : Gr Vl := ⟨fun o V => .cells 78 [.sl o V], valA, 3, 24⟩
set_option maxHeartbeats 400000 in
set_option maxRecDepth 100000 in
theorem c66 (ρ ω : Nat) (σ : Sg) (hω : ω ≠ ρ) : Ones 66 [.ro [.ref ρ 0], .ref ω 0] litV ρ (stG grT σ ρ ω) (okG σ ρ ω) := by
  obtain ⟨z24, h24, hz24⟩ := zero24
  have hρω : ρ ≠ ω := hω.symm
  refine ones nice_litV ?_ ?_ (fun v => rfl)
  · intro s hs
    simp only [grT]
    (refine vfun (fun _ => .no) mixed Try.func66 (by kernel_rfl) ?_; simp only [bodyOf, Try.f66, Option.getD_some])
    repeat' (first | with_reducible rfl | exact .inr trivial | with_reducible apply And.intro | with_reducible apply vqx_step | with_reducible apply vqm_step | with_reducible refine vkp_free (by decide +kernel) ?_ | with_reducible intro _ | ((first | (with_reducible first | refine .rs ?_ | refine .ds (by kernel_rfl) ?_ | refine .dg (by kernel_rfl) ?_ | refine .rg ?_ | refine .ite ?_ | refine .ret ?_ | refine .skip ?_ | refine .exit ?_ | refine .scope ?_ | refine .seq (.label ?_) | refine .block ?_ | refine .seq ?_) | (simp (disch := first | assumption | (apply Go.Cert.ne_of2; assumption; assumption) | (apply Go.Cert.ne_ob; assumption; assumption; (intro e; cases e; done)) | omega) only [w64, w8, tg_eq, Go.V.n1, Go.V.n2, Go.V.nn, Int.tdiv_eq_ediv_of_nonneg, Sg.set_same, Sg.set_ne, Sg.set_ne', Sg.del_ne, Sg.del_ne']) | ((with_reducible refine VCalls.mono (c67 _ _ _ (by first | assumption | ((simp (disch := first | assumption | (apply Go.Cert.ne_of2; assumption; assumption) | (apply Go.Cert.ne_ob; assumption; assumption; (intro e; cases e; done)) | omega) only [Sg.set_same, Sg.set_ne, Sg.set_ne', Sg.del_ne, Sg.del_ne']); first | done | rfl | assumption)) (by repeat' (first | assumption | refine gd_must ?_ | refine gd_fail ?_ | refine gd_pass ?_ | refine gd_take (by decide) ?_ | refine gd_exp ?_ | refine gd_column ?_ | refine gd_lit ?_ | refine gd_of (by assumption) ?_ | refine gd_many (by assumption) ?_))) ?_); rintro _ S ⟨rfl, rfl⟩) | ((with_reducible refine VCalls.mono (c14 _ _ _ _ (by first | assumption | ((simp (disch := first | assumption | (apply Go.Cert.ne_of2; assumption; assumption) | (apply Go.Cert.ne_ob; assumption; assumption; (intro e; cases e; done)) | omega) only [Sg.set_same, Sg.set_ne, Sg.set_ne', Sg.del_ne, Sg.del_ne']); first | done | rfl | assumption)) (by repeat' (first | assumption | refine gd_must ?_ | refine gd_fail ?_ | refine gd_pass ?_ | refine gd_take (by decide) ?_ | refine gd_exp ?_ | refine gd_column ?_ | refine gd_lit ?_ | refine gd_of (by assumption) ?_ | refine gd_many (by assumption) ?_))) ?_); rintro _ S ⟨rfl, rfl⟩) | (refine vlo_app (by first | assumption | ((simp (disch := first | assumption | (apply Go.Cert.ne_of2; assumption; assumption) | (apply Go.Cert.ne_ob; assumption; assumption; (intro e; cases e; done)) | omega) only [Sg.set_same, Sg.set_ne, Sg.set_ne', Sg.del_ne, Sg.del_ne']); first | done | rfl | assumption)) ?_) | (refine vst_app (by first | assumption | ((simp (disch := first | assumption | (apply Go.Cert.ne_of2; assumption; assumption) | (apply Go.Cert.ne_ob; assumption; assumption; (intro e; cases e; done)) | omega) only [Sg.set_same, Sg.set_ne, Sg.set_ne', Sg.del_ne, Sg.del_ne']); first | done | rfl | assumption)) ?_)); (try simp only [vO, vQ, ↓vP, vE, vS, vB, vL, vF, vM, vN, vbs_full, Nat.reduceEqDiff, Nat.reduceAdd, Nat.reduceLeDiff, ne_eq, not_false_eq_true, Nat.reduceMul, Nat.reduceSub, Int.toNat_zero, Int.reduceToNat, Try.underlying3, info3, Try.underlying4, info4, Try.underlying9, info9, Try.underlying24, h24, hz24, Try.underlying48, info48, Try.underlying78, info78, vT])) | with_reducible refine vfresh_set ?_ | with_reducible refine vfresh_intro (fun _ _ => ?_) | with_reducible refine vif_intro (fun _ => ?_) (fun _ => ?_) | omega | ((with_reducible first | refine vop_at ?_ | refine vops_at ?_ | refine vquiet_at ?_ | refine vmix_at ?_ | refine Holds_at ?_); simp only [vO, vQ, ↓vP, vE, vS, vB, vL, vF, vM, vN, vbs_full, Nat.reduceEqDiff, Nat.reduceAdd, Nat.reduceLeDiff, ne_eq, not_false_eq_true, Nat.reduceMul, Nat.reduceSub, Int.toNat_zero, Int.reduceToNat, Try.underlying3, info3, Try.underlying4, info4, Try.underlying9, info9, Try.underlying24, h24, hz24, Try.underlying48, info48, Try.underlying78, info78, vT]))
    all_goals (refine ⟨_, ?_, _, ⟨‹σ _ = none›, by assumption, by assumption⟩, rfl⟩; simp only [valA, litV, *, ↓reduceIte, Bool.false_eq_true]; (first | exact Sg.sub.refl _ | ((repeat (first | exact Sg.sub.refl _ | refine Sg.sub.set_both ?_ | refine Sg.sub.set_fresh ?_ (by first | assumption | exact Sg.set_none (by assumption) (by first | assumption | (apply Go.Cert.ne_of2a; assumption; assumption))))); done) | (intro y p hy; simp only [Sg.set_apply, Sg.del_apply] at hy ⊢; grind)))
  · intro τ V s g1 g2 g3 hs hl ha
    simp only [grT] at ha ⊢
    (refine vfun (fun _ => .no) mixed Try.func66 (by kernel_rfl) ?_; simp only [bodyOf, Try.f66, Option.getD_some])
    repeat' (first | with_reducible rfl | exact .inr trivial | with_reducible apply And.intro | with_reducible apply vqx_step | with_reducible apply vqm_step | with_reducible refine vkp_free (by decide +kernel) ?_ | with_reducible intro _ | ((first | (with_reducible first | refine .rs ?_ | refine .ds (by kernel_rfl) ?_ | refine .dg (by kernel_rfl) ?_ | refine .rg ?_ | refine .ite ?_ | refine .ret ?_ | refine .skip ?_ | refine .exit ?_ | refine .scope ?_ | refine .seq (.label ?_) | refine .block ?_ | refine .seq ?_) | (simp (disch := first | assumption | (apply Go.Cert.ne_of2; assumption; assumption) | (apply Go.Cert.ne_ob; assumption; assumption; (intro e; cases e; done)) | omega) only [w64, w8, tg_eq, Go.V.n1, Go.V.n2, Go.V.nn, Int.tdiv_eq_ediv_of_nonneg, Sg.set_same, Sg.set_ne, Sg.set_ne', Sg.del_ne, Sg.del_ne']) | ((with_reducible refine VCalls.mono (c67 _ _ _ (by first | assumption | ((simp (disch := first | assumption | (apply Go.Cert.ne_of2; assumption; assumption) | (apply Go.Cert.ne_ob; assumption; assumption; (intro e; cases e; done)) | omega) only [Sg.set_same, Sg.set_ne, Sg.set_ne', Sg.del_ne, Sg.del_ne']); first | done | rfl | assumption)) (by repeat' (first | assumption | refine gd_must ?_ | refine gd_fail ?_ | refine gd_pass ?_ | refine gd_take (by decide) ?_ | refine gd_exp ?_ | refine gd_column ?_ | refine gd_lit ?_ | refine gd_of (by assumption) ?_ | refine gd_many (by assumption) ?_))) ?_); rintro _ S ⟨rfl, rfl⟩) | ((with_reducible refine VCalls.mono (c14 _ _ _ _ (by first | assumption | ((simp (disch := first | assumption | (apply Go.Cert.ne_of2; assumption; assumption) | (apply Go.Cert.ne_ob; assumption; assumption; (intro e; cases e; done)) | omega) only [Sg.set_same, Sg.set_ne, Sg.set_ne', Sg.del_ne, Sg.del_ne']); first | done | rfl | assumption)) (by repeat' (first | assumption | refine gd_must ?_ | refine gd_fail ?_ | refine gd_pass ?_ | refine gd_take (by decide) ?_ | refine gd_exp ?_ | refine gd_column ?_ | refine gd_lit ?_ | refine gd_of (by assumption) ?_ | refine gd_many (by assumption) ?_))) ?_); rintro _ S ⟨rfl, rfl⟩) | (refine vlo_app (by first | assumption | ((simp (disch := first | assumption | (apply Go.Cert.ne_of2; assumption; assumption) | (apply Go.Cert.ne_ob; assumption; assumption; (intro e; cases e; done)) | omega) only [Sg.set_same, Sg.set_ne, Sg.set_ne', Sg.del_ne, Sg.del_ne']); first | done | rfl | assumption)) ?_) | (refine vst_app (by first | assumption | ((simp (disch := first | assumption | (apply Go.Cert.ne_of2; assumption; assumption) | (apply Go.Cert.ne_ob; assumption; assumption; (intro e; cases e; done)) | omega) only [Sg.set_same, Sg.set_ne, Sg.set_ne', Sg.del_ne, Sg.del_ne']); first | done | rfl | assumption)) ?_)); (try simp only [vO, vQ, ↓vP, vE, vS, vB, vL, vF, vM, vN, vbs_full, Nat.reduceEqDiff, Nat.reduceAdd, Nat.reduceLeDiff, ne_eq, not_false_eq_true, Nat.reduceMul, Nat.reduceSub, Int.toNat_zero, Int.reduceToNat, Try.underlying3, info3, Try.underlying4, info4, Try.underlying9, info9, Try.underlying24, h24, hz24, Try.underlying48, info48, Try.underlying78, info78, ha, vT])) | with_reducible refine vfresh_set ?_ | with_reducible refine vfresh_intro (fun _ _ => ?_) | with_reducible refine vif_intro (fun _ => ?_) (fun _ => ?_) | omega | ((with_reducible first | refine vop_at ?_ | refine vops_at ?_ | refine vquiet_at ?_ | refine vmix_at ?_ | refine Holds_at ?_); simp only [vO, vQ, ↓vP, vE, vS, vB, vL, vF, vM, vN, vbs_full, Nat.reduceEqDiff, Nat.reduceAdd, Nat.reduceLeDiff, ne_eq, not_false_eq_true, Nat.reduceMul, Nat.reduceSub, Int.toNat_zero, Int.reduceToNat, Try.underlying3, info3, Try.underlying4, info4, Try.underlying9, info9, Try.underlying24, h24, hz24, Try.underlying48, info48, Try.underlying78, info78, ha, vT]))
    all_goals (refine ⟨_, ?_, _, ⟨‹σ _ = none›, by assumption, by assumption⟩, rfl⟩; simp only [valA, litV, *, ↓reduceIte, Bool.false_eq_true]; (first | exact Sg.sub.refl _ | ((repeat (first | exact Sg.sub.refl _ | refine Sg.sub.set_both ?_ | refine Sg.sub.set_fresh ?_ (by first | assumption | exact Sg.set_none (by assumption) (by first | assumption | (apply Go.Cert.ne_of2a; assumption; assumption))))); done) | (intro y p hy; simp only [Sg.set_apply, Sg.del_apply] at hy ⊢; grind)))
set_option maxHeartbeats 400000 in
set_option maxRecDepth 100000 in
theorem c46 (ρ : Nat) (s : Rd) (σ : Sg) (hρ : σ ρ = some (rdA s)) (hg : Gd s) : VCalls Try.prog 46 [.ref ρ 0] σ (fun x σ' => x = .sl .any (valsA (tupleL s).1) ∧ σ' = σ.set ρ (rdA (tupleL s).2)) := by
  refine lose_sl ?_
  have g1 : Gd (s.must [[40]]) := gd_must hg
  have h44 : ∀ ω, σ ω = none → VCalls Try.prog 44 [.ref ρ 0, .i 8, .fn 66 [.ro [.ref ρ 0], .ref ω 0]] ((σ.set ω (.cells 78 [.sl .nil []])).set ρ (rdA (s.must [[40]]))) (fun x σ' => x = .tup [] ∧ ∃ τ', (σ τ' = none ∧ τ' ≠ ρ ∧ τ' ≠ ω) ∧ σ' = ((σ.set ω (.cells 78 [.sl (.tok τ' 3) (valsA (tupleL s).1)])).set ρ (rdA (many litV 8 (s.must [[40]])).2)).set τ' (.tok (some 24))) := fun ω hω => c44G (c66 ρ ω σ (Go.Cert.ne_of2a hω hρ)) 8 (by decide) _ g1
  have g2 : Gd (many litV 8 (s.must [[40]])).2 := gd_many nice_litV g1
  have e2 : (tupleL s).2 = (many litV 8 (s.must [[40]])).2.must [[41]] := rfl
  rw [e2]
  generalize (many litV 8 (s.must [[40]])).2 = s2 at *
  generalize valsA (tupleL s).1 = V at *
  (refine vfun (fun k => if k = 1 then .ro else .no) mixed Try.func46 (by kernel_rfl) ?_; simp only [bodyOf, Try.f46, Option.getD_some])
  repeat' (first | with_reducible rfl | exact .inr trivial | with_reducible apply And.intro | with_reducible apply vqx_step | with_reducible apply vqm_step | with_reducible refine vkp_free (by decide +kernel) ?_ | with_reducible intro _ | ((first | (with_reducible first | refine .rs ?_ | refine .ds (by kernel_rfl) ?_ | refine .dg (by kernel_rfl) ?_ | refine .rg ?_ | refine .ite ?_ | refine .ret ?_ | refine .skip ?_ | refine .exit ?_ | refine .scope ?_ | refine .seq (.label ?_) | refine .block ?_ | refine .seq ?_) | (simp (disch := first | assumption | (apply Go.Cert.ne_of2; assumption; assumption) | (apply Go.Cert.ne_ob; assumption; assumption; (intro e; cases e; done)) | omega) only [w64, w8, tg_eq, Go.V.n1, Go.V.n2, Go.V.nn, Int.tdiv_eq_ediv_of_nonneg, Sg.set_same, Sg.set_ne, Sg.set_ne', Sg.del_ne, Sg.del_ne']) | ((with_reducible refine VCalls.mono (c41 _ _ _ [[40]] _ _ (by with_unfolding_all rfl) (by first | assumption | ((simp (disch := first | assumption | (apply Go.Cert.ne_of2; assumption; assumption) | (apply Go.Cert.ne_ob; assumption; assumption; (intro e; cases e; done)) | omega) only [Sg.set_same, Sg.set_ne, Sg.set_ne', Sg.del_ne, Sg.del_ne']); first | done | rfl | assumption)) (by repeat' (first | assumption | refine gd_must ?_ | refine gd_fail ?_ | refine gd_pass ?_ | refine gd_take (by decide) ?_ | refine gd_exp ?_ | refine gd_column ?_ | refine gd_lit ?_ | refine gd_of (by assumption) ?_ | refine gd_many (by assumption) ?_)) (by decide)) ?_); rintro _ S ⟨rfl, rfl⟩) | ((with_reducible refine VCalls.mono (c41 _ _ _ [[41]] _ _ (by with_unfolding_all rfl) (by first | assumption | ((simp (disch := first | assumption | (apply Go.Cert.ne_of2; assumption; assumption) | (apply Go.Cert.ne_ob; assumption; assumption; (intro e; cases e; done)) | omega) only [Sg.set_same, Sg.set_ne, Sg.set_ne', Sg.del_ne, Sg.del_ne']); first | done | rfl | assumption)) (by repeat' (first | assumption | refine gd_must ?_ | refine gd_fail ?_ | refine gd_pass ?_ | refine gd_take (by decide) ?_ | refine gd_exp ?_ | refine gd_column ?_ | refine gd_lit ?_ | refine gd_of (by assumption) ?_ | refine gd_many (by assumption) ?_)) (by decide)) ?_); rintro _ S ⟨rfl, rfl⟩) | ((with_reducible refine VCalls.mono (h44 _ (by assumption)) ?_); rintro _ S ⟨rfl, τ', hτ1, hτ2, hτ3, rfl⟩) | (refine vlo_app (by first | assumption | ((simp (disch := first | assumption | (apply Go.Cert.ne_of2; assumption; assumption) | (apply Go.Cert.ne_ob; assumption; assumption; (intro e; cases e; done)) | omega) only [Sg.set_same, Sg.set_ne, Sg.set_ne', Sg.del_ne, Sg.del_ne']); first | done | rfl | assumption)) ?_) | (refine vst_app (by first | assumption | ((simp (disch := first | assumption | (apply Go.Cert.ne_of2; assumption; assumption) | (apply Go.Cert.ne_ob; assumption; assumption; (intro e; cases e; done)) | omega) only [Sg.set_same, Sg.set_ne, Sg.set_ne', Sg.del_ne, Sg.del_ne']); first | done | rfl | assumption)) ?_)); (try simp only [vO, vQ, ↓vP, vE, vS, vB, vL, vF, vM, vN, vbs_full, Nat.reduceEqDiff, Nat.reduceAdd, Nat.reduceLeDiff, ne_eq, not_false_eq_true, Nat.reduceMul, Nat.reduceSub, Int.toNat_zero, Int.reduceToNat, Try.underlying3, info3, Try.underlying4, info4, Try.underlying9, info9, Try.underlying48, info48, Try.underlying78, info78, Try.underlying68, info68, own_if, vT])) | with_reducible refine vfresh_set ?_ | with_reducible refine vfresh_intro (fun _ _ => ?_) | with_reducible refine vif_intro (fun _ => ?_) (fun _ => ?_) | omega | ((with_reducible first | refine vop_at ?_ | refine vops_at ?_ | refine vquiet_at ?_ | refine vmix_at ?_ | refine Holds_at ?_); simp only [vO, vQ, ↓vP, vE, vS, vB, vL, vF, vM, vN, vbs_full, Nat.reduceEqDiff, Nat.reduceAdd, Nat.reduceLeDiff, ne_eq, not_false_eq_true, Nat.reduceMul, Nat.reduceSub, Int.toNat_zero, Int.reduceToNat, Try.underlying3, info3, Try.underlying4, info4, Try.underlying9, info9, Try.underlying48, info48, Try.underlying78, info78, Try.underlying68, info68, own_if, vT]))
  all_goals (refine ⟨_, .refl _, _, rfl, ?_⟩; (first | exact Sg.sub.refl _ | ((repeat (first | exact Sg.sub.refl _ | refine Sg.sub.set_both ?_ | refine Sg.sub.set_fresh ?_ (by first | assumption | exact Sg.set_none (by assumption) (by first | assumption | (apply Go.Cert.ne_of2a; assumption; assumption))))); done) | (intro y p hy; simp only [Sg.set_apply, Sg.del_apply] at hy ⊢; grind)))
end Go.Proofs.Ytmokgifgnpocaaa
