/- Part 12 of the proof: B30, B15, B16, B17, B18, B19, B31, B33, B34, B35, V14. -/
import Derived.Test.YtmokgifgnpocaaaN11
import Derived.Test.YtmokgifgnpocaaaN8
import Derived.Test.YtmokgifgnpocaaaN3

set_option linter.unusedSimpArgs false
set_option linter.unusedVariables false
namespace Go.Proofs.Ytmokgifgnpocaaa
open Go Go.V Go.Lex Go.Parse
theorem keepAll {ρ : Nat} {S σ' : Sg} {o : Option Ob} (h : Keep (fun _ => True) S σ') (hS : S ρ = o) : σ' ρ = o := (h ρ trivial).trans hS
theorem lose_script {f : FuncId} {args : List AV} {l : List Stm} {c a : Int} {σ S : Sg} (h : VCalls Try.prog f args σ (fun x σ' => ∃ o, x = .tup [.sl o (l.map stmA), .agg [.i c, .i a]] ∧ S.sub σ')) : VCalls Try.prog f args σ (fun x σ' => x = .tup [.sl .any (l.map stmA), .agg [.i c, .i a]] ∧ σ' = S) :=
  h.lose fun x σ' hx => by
    obtain ⟨o, rfl, hs⟩ := hx
    exact ⟨_, S, (AVw.any o _).tup2 (AVw.refl _), hs, rfl, rfl⟩
theorem stmA_one (x : Stm) : (stmA x).all AV.one = true := rfl
theorem stmA_take (x : Stm) : (stmA x).take 14 = stmA x := rfl
theorem stmA_drop (x : Stm) : (stmA x).drop 14 = [] := rfl
theorem grow00 {τ sz : Nat} : grow τ sz 0 = .nil := rfl
theorem grow_ne {τ sz n : Nat} (h : n ≠ 0) : grow τ sz n = .tok τ sz := if_neg h
/-- What stands where statements grow. -/
def stS (σ : Sg) (ρ : Nat) (τ : Nat) (acc : List Stm) (s : Rd) : Sg := tset (σ.set ρ (rdA s)) τ acc.length 44
def okS (σ : Sg) (ρ x3 x5 : Nat) (τ : Nat) (acc : List Stm) : Prop := acc ≠ [] → σ τ = none ∧ τ ≠ ρ ∧ τ ≠ x3 ∧ τ ≠ x5
theorem stS_ne {σ : Sg} {ρ τ : Nat} {acc : List Stm} {s : Rd} (h : acc ≠ []) : stS σ ρ τ acc s = (σ.set ρ (rdA s)).set τ (.tok (some 44)) := by
  cases acc with
  | nil => exact absurd rfl h
  | cons v r => unfold stS; rw [List.length_cons, tset1]
/-- What is left to read: b, are there more? -/
def More (R : List Stm × Rd) (acc : List Stm) (s : Rd) (b : Bool) : Prop := if b then acc.length ≤ 8 ∧ manyL stateL [59] (8 - acc.length) acc s = R else acc.length ≤ 9 ∧ acc ≠ [] ∧ R = (acc, s)
theorem scriptR_eq (l : List Tk) : scriptR l = if ((manyL stateL [59] 8 [] (rd0 l)).2.fin).c = 0 then ((manyL stateL [59] 8 [] (rd0 l)).1, 0, 0) else ([], ((manyL stateL [59] 8 [] (rd0 l)).2.fin).c, ((manyL stateL [59] 8 [] (rd0 l)).2.fin).a) := rfl
set_option maxHeartbeats 1000000 in
set_option maxRecDepth 100000 in
theorem c8 (b : List UInt8) (σ : Sg) : VCalls Try.prog 8 [.s (bs b)] σ (fun x σ' => x = .tup [.sl .any ((scriptAll b).1.map stmA), .agg [.i (scriptAll b).2.1, .i (scriptAll b).2.2]] ∧ σ' = σ) := by
  refine lose_script ?_
  obtain ⟨z30, h30, hz30⟩ := zero30
  have h9 := p9 b
  unfold scriptAll
  cases hl : lexAll b with
  | error q =>
    obtain ⟨e, a⟩ := q
    have he := lexAll_nz hl
    simp only [hl] at h9
    simp only [List.map_nil]
    (refine vfun (fun _ => .no) mixed Try.func8 (by kernel_rfl) ?_; simp only [bodyOf, Try.f8, Option.getD_some])
    repeat' (first | with_reducible rfl | exact .inr trivial | with_reducible apply And.intro | with_reducible apply vqx_step | with_reducible apply vqm_step | with_reducible refine vkp_free (by decide +kernel) ?_ | with_reducible intro _ | ((with_reducible refine .dms (fun _ => True) [(0, false), (1, false), (2, true)] (by decide) (by decide +kernel) ?_); (simp only [vO, vQ, ↓vP, vE, vS, vB, vL, vF, vM, vN, vbs_full, Nat.reduceEqDiff, Nat.reduceAdd, Nat.reduceLeDiff, ne_eq, not_false_eq_true, Nat.reduceMul, Nat.reduceSub, Int.toNat_zero, Int.reduceToNat, Try.underlying3, info3, Try.underlying4, info4, Try.underlying28, info28, Try.underlying30, h30, hz30, Try.underlying9, info9, vT])) | ((first | (with_reducible first | refine .rs ?_ | refine .ds (by kernel_rfl) ?_ | refine .dg (by kernel_rfl) ?_ | refine .rg ?_ | refine .ite ?_ | refine .ret ?_ | refine .skip ?_ | refine .exit ?_ | refine .scope ?_ | refine .seq (.label ?_) | refine .block ?_ | refine .seq ?_) | (simp (disch := first | assumption | (apply Go.Cert.ne_of2; assumption; assumption) | (apply Go.Cert.ne_ob; assumption; assumption; (intro e; cases e; done)) | omega) only [w64, w8, tg_eq, Go.V.n1, Go.V.n2, Go.V.nn, Int.tdiv_eq_ediv_of_nonneg, Sg.set_same, Sg.set_ne, Sg.set_ne', Sg.del_ne, Sg.del_ne']) | ((with_reducible refine (h9 _).mono ?_); rintro _ S ⟨rfl, rfl⟩) | (refine vlo_app (o' := some (.cells 30 [.i e, .i a])) (keepAll (by assumption) (by first | assumption | ((simp (disch := first | assumption | (apply Go.Cert.ne_of2; assumption; assumption) | (apply Go.Cert.ne_ob; assumption; assumption; (intro e; cases e; done)) | omega) only [Sg.set_same, Sg.set_ne, Sg.set_ne', Sg.del_ne, Sg.del_ne']); first | done | rfl | assumption))) ?_) | (refine vlo_app (by first | assumption | ((simp (disch := first | assumption | (apply Go.Cert.ne_of2; assumption; assumption) | (apply Go.Cert.ne_ob; assumption; assumption; (intro e; cases e; done)) | omega) only [Sg.set_same, Sg.set_ne, Sg.set_ne', Sg.del_ne, Sg.del_ne']); first | done | rfl | assumption)) ?_) | (refine vst_app (by first | assumption | ((simp (disch := first | assumption | (apply Go.Cert.ne_of2; assumption; assumption) | (apply Go.Cert.ne_ob; assumption; assumption; (intro e; cases e; done)) | omega) only [Sg.set_same, Sg.set_ne, Sg.set_ne', Sg.del_ne, Sg.del_ne']); first | done | rfl | assumption)) ?_)); (try simp only [vO, vQ, ↓vP, vE, vS, vB, vL, vF, vM, vN, vbs_full, Nat.reduceEqDiff, Nat.reduceAdd, Nat.reduceLeDiff, ne_eq, not_false_eq_true, Nat.reduceMul, Nat.reduceSub, Int.toNat_zero, Int.reduceToNat, Try.underlying3, info3, Try.underlying4, info4, Try.underlying28, info28, Try.underlying30, h30, hz30, Try.underlying9, info9, vT])) | with_reducible refine vfresh_set ?_ | with_reducible refine vfresh_intro (fun _ _ => ?_) | with_reducible refine vif_intro (fun _ => ?_) (fun _ => ?_) | omega | ((with_reducible first | refine vop_at ?_ | refine vops_at ?_ | refine vquiet_at ?_ | refine vmix_at ?_ | refine Holds_at ?_); simp only [vO, vQ, ↓vP, vE, vS, vB, vL, vF, vM, vN, vbs_full, Nat.reduceEqDiff, Nat.reduceAdd, Nat.reduceLeDiff, ne_eq, not_false_eq_true, Nat.reduceMul, Nat.reduceSub, Int.toNat_zero, Int.reduceToNat, Try.underlying3, info3, Try.underlying4, info4, Try.underlying28, info28, Try.underlying30, h30, hz30, Try.underlying9, info9, vT]))
    all_goals (refine ⟨_, .refl _, _, rfl, ?_⟩; (first | exact Sg.sub.refl _ | ((repeat (first | exact Sg.sub.refl _ | refine Sg.sub.set_both ?_ | refine Sg.sub.set_fresh ?_ (by first | assumption | exact Sg.set_none (by assumption) (by first | assumption | (apply Go.Cert.ne_of2a; assumption; assumption))))); done) | (intro y p hy; simp only [Sg.set_apply, Sg.del_apply] at hy ⊢; grind)))
  | ok l =>
    simp only [hl] at h9
    have hw := toks_wf hl
    have hg : Gd (rd0 l) := ⟨hw, rfl⟩
    have h0 : rdA (rd0 l) = .cells 50 [.sl .any (tksA l), .i 0, .i 0, .i 0] := rfl
    simp only [scriptR_eq]
    generalize hR : manyL stateL [59] 8 [] (rd0 l) = R
    (refine vfun (fun _ => .no) mixed Try.func8 (by kernel_rfl) ?_; simp only [bodyOf, Try.f8, Option.getD_some])
    repeat' (first | with_reducible rfl | exact .inr trivial | with_reducible apply And.intro | with_reducible apply vqx_step | with_reducible apply vqm_step | with_reducible refine vkp_free (by decide +kernel) ?_ | with_reducible intro _ | ((first | (with_reducible first | refine .rs ?_ | refine .ds (by kernel_rfl) ?_ | refine .dg (by kernel_rfl) ?_ | refine .rg ?_ | refine .ite ?_ | refine .ret ?_ | refine .skip ?_ | refine .exit ?_ | refine .scope ?_ | refine .seq (.label ?_) | refine .block ?_ | refine .seq ?_) | (simp (disch := first | assumption | (apply Go.Cert.ne_of2; assumption; assumption) | (apply Go.Cert.ne_ob; assumption; assumption; (intro e; cases e; done)) | omega) only [w64, w8, tg_eq, Go.V.n1, Go.V.n2, Go.V.nn, Int.tdiv_eq_ediv_of_nonneg, Sg.set_same, Sg.set_ne, Sg.set_ne', Sg.del_ne, Sg.del_ne']) | ((with_reducible refine (h9 _).mono ?_); rintro _ S ⟨rfl, rfl⟩) | (refine vlo_app (by first | assumption | ((simp (disch := first | assumption | (apply Go.Cert.ne_of2; assumption; assumption) | (apply Go.Cert.ne_ob; assumption; assumption; (intro e; cases e; done)) | omega) only [Sg.set_same, Sg.set_ne, Sg.set_ne', Sg.del_ne, Sg.del_ne']); first | done | rfl | assumption)) ?_) | (refine vst_app (by first | assumption | ((simp (disch := first | assumption | (apply Go.Cert.ne_of2; assumption; assumption) | (apply Go.Cert.ne_ob; assumption; assumption; (intro e; cases e; done)) | omega) only [Sg.set_same, Sg.set_ne, Sg.set_ne', Sg.del_ne, Sg.del_ne']); first | done | rfl | assumption)) ?_)); (try simp only [vO, vQ, ↓vP, vE, vS, vB, vL, vF, vM, vN, vbs_full, Nat.reduceEqDiff, Nat.reduceAdd, Nat.reduceLeDiff, ne_eq, not_false_eq_true, Nat.reduceMul, Nat.reduceSub, Int.toNat_zero, Int.reduceToNat, Try.underlying3, info3, Try.underlying4, info4, Try.underlying28, info28, Try.underlying30, h30, hz30, Try.underlying9, info9, Try.underlying50, info50, info45, vT])) | with_reducible refine vfresh_set ?_ | with_reducible refine vfresh_intro (fun _ _ => ?_) | with_reducible refine vif_intro (fun _ => ?_) (fun _ => ?_) | omega | ((with_reducible first | refine vop_at ?_ | refine vops_at ?_ | refine vquiet_at ?_ | refine vmix_at ?_ | refine Holds_at ?_); simp only [vO, vQ, ↓vP, vE, vS, vB, vL, vF, vM, vN, vbs_full, Nat.reduceEqDiff, Nat.reduceAdd, Nat.reduceLeDiff, ne_eq, not_false_eq_true, Nat.reduceMul, Nat.reduceSub, Int.toNat_zero, Int.reduceToNat, Try.underlying3, info3, Try.underlying4, info4, Try.underlying28, info28, Try.underlying30, h30, hz30, Try.underlying9, info9, Try.underlying50, info50, info45, vT]))
    rename_i x3 hx3 x5 hx5 n53 ρ hxρ nρ3 nρ5
    obtain ⟨z44, h44, hz44⟩ := zero44
    generalize hB : (σ.set x3 (.cells 30 [.i 0, .i 0])).set x5 (.cells 30 [.i 0, .i 0]) = σB
    have e3 : σB x3 = some (.cells 30 [.i 0, .i 0]) := by rw [← hB]; (simp (disch := first | assumption | (apply Go.Cert.ne_of2; assumption; assumption) | (apply Go.Cert.ne_ob; assumption; assumption; (intro e; cases e; done)) | omega) only [Sg.set_same, Sg.set_ne, Sg.set_ne', Sg.del_ne, Sg.del_ne'])
    have e5 : σB x5 = some (.cells 30 [.i 0, .i 0]) := by rw [← hB]; (simp (disch := first | assumption | (apply Go.Cert.ne_of2; assumption; assumption) | (apply Go.Cert.ne_ob; assumption; assumption; (intro e; cases e; done)) | omega) only [Sg.set_same, Sg.set_ne, Sg.set_ne', Sg.del_ne, Sg.del_ne'])
    have eσ : σ.sub σB := by rw [← hB]; exact Sg.sub.set_fresh (Sg.sub.set_fresh (.refl _) hx3) hx5
    have eN : ∀ τ, σB τ = none → σ τ = none ∧ τ ≠ x3 ∧ τ ≠ x5 := by
      intro τ h
      refine ⟨?_, ?_, ?_⟩
      · cases hh : σ τ with
        | none => rfl
        | some o => rw [eσ τ o hh] at h; cases h
      · intro e; rw [e, e3] at h; cases h
      · intro e; rw [e, e5] at h; cases h
    refine VW.loop3 ([] : List Stm) (rd0 l) (true, (0 : Nat)) (fun acc s' p => More R acc s' p.1 ∧ Gd s' ∧ okS σB ρ x3 x5 p.2 acc) (fun acc _ p => [(2, .sl .nil []), (3, .ref x3 0), (5, .ref x5 0), (6, .ref ρ 0), (7, .sl (grow p.2 14 acc.length) (acc.map stmA)), (8, .b p.1)]) (fun acc s' p => stS σB ρ p.2 acc s') (fun acc _ p => if p.1 then 20 - acc.length else 0) ⟨⟨by simp, hR⟩, hg, fun h => absurd rfl h⟩ (.refl _) ?_ ?_
    · simp only [vO, vQ, ↓vP, vE, vS, vB, vL, vF, vM, vN, vbs_full, Nat.reduceEqDiff, Nat.reduceAdd, Nat.reduceLeDiff, ne_eq, not_false_eq_true, Nat.reduceMul, Nat.reduceSub, Int.toNat_zero, Int.reduceToNat, vT]
      all_goals rfl
    rintro acc s' ⟨bb, τ⟩ ⟨h1, g0, h3⟩
    simp only at h1 h3
    cases bb with
    | true =>
      obtain ⟨hl8, hM⟩ : acc.length ≤ 8 ∧ manyL stateL [59] (8 - acc.length) acc s' = R := h1
      cases acc with
      | nil =>
        have hM' : manyL stateL [59] 8 [] s' = R := hM
        have e1 : stS σB ρ τ [] s' = σB.set ρ (rdA s') := rfl
        rw [e1]
        have hmk : More R [(stateL s').1] ((stateL s').2.pass [[59]]) ((stateL s').2.has [59]) := by
          unfold More
          rw [manyL] at hM'
          cases hb : (stateL s').2.has [59] with
          | true => rw [hb] at hM'; exact ⟨by simp, hM'⟩
          | false => rw [hb] at hM'; exact ⟨by simp, by simp, hM'.symm⟩
        have h15 := fun S (hS : S ρ = some (rdA s')) => c15 ρ _ S hS g0
        have g1 : Gd (stateL s').2 := gd_of nice_state g0
        have h13 : ∀ S, S ρ = some (rdA (stateL s').2) → VCalls Try.prog 13 [.ref ρ 0, .s (bs [59])] S _ := fun S hS => c13 ρ _ [59] S hS g1
        have g2 : Gd ((stateL s').2.pass [[59]]) := gd_pass g1
        generalize (stateL s').1 = x at *
        generalize (stateL s').2 = s2 at *
        repeat' (first | with_reducible rfl | exact .inr trivial | with_reducible apply And.intro | with_reducible apply vqx_step | with_reducible apply vqm_step | with_reducible refine vkp_free (by decide +kernel) ?_ | with_reducible intro _ | ((first | (with_reducible first | refine .rs ?_ | refine .ds (by kernel_rfl) ?_ | refine .dg (by kernel_rfl) ?_ | refine .rg ?_ | refine .ite ?_ | refine .ret ?_ | refine .skip ?_ | refine .exit ?_ | refine .scope ?_ | refine .seq (.label ?_) | refine .block ?_ | refine .seq ?_) | (simp (disch := first | assumption | (apply Go.Cert.ne_of2; assumption; assumption) | (apply Go.Cert.ne_ob; assumption; assumption; (intro e; cases e; done)) | omega) only [w64, w8, tg_eq, Go.V.n1, Go.V.n2, Go.V.nn, Int.tdiv_eq_ediv_of_nonneg, Sg.set_same, Sg.set_ne, Sg.set_ne', Sg.del_ne, Sg.del_ne']) | ((with_reducible refine VCalls.mono (h15 _ (by first | assumption | ((simp (disch := first | assumption | (apply Go.Cert.ne_of2; assumption; assumption) | (apply Go.Cert.ne_ob; assumption; assumption; (intro e; cases e; done)) | omega) only [Sg.set_same, Sg.set_ne, Sg.set_ne', Sg.del_ne, Sg.del_ne']); first | done | rfl | assumption))) ?_); rintro _ S ⟨rfl, rfl⟩) | ((with_reducible refine VCalls.mono (h13 _ (by first | assumption | ((simp (disch := first | assumption | (apply Go.Cert.ne_of2; assumption; assumption) | (apply Go.Cert.ne_ob; assumption; assumption; (intro e; cases e; done)) | omega) only [Sg.set_same, Sg.set_ne, Sg.set_ne', Sg.del_ne, Sg.del_ne']); first | done | rfl | assumption))) ?_); rintro _ S ⟨rfl, rfl⟩) | (refine vlo_app (by first | assumption | ((simp (disch := first | assumption | (apply Go.Cert.ne_of2; assumption; assumption) | (apply Go.Cert.ne_ob; assumption; assumption; (intro e; cases e; done)) | omega) only [Sg.set_same, Sg.set_ne, Sg.set_ne', Sg.del_ne, Sg.del_ne']); first | done | rfl | assumption)) ?_) | (refine vst_app (by first | assumption | ((simp (disch := first | assumption | (apply Go.Cert.ne_of2; assumption; assumption) | (apply Go.Cert.ne_ob; assumption; assumption; (intro e; cases e; done)) | omega) only [Sg.set_same, Sg.set_ne, Sg.set_ne', Sg.del_ne, Sg.del_ne']); first | done | rfl | assumption)) ?_)); (try simp only [vO, vQ, ↓vP, vE, vS, vB, vL, vF, vM, vN, vbs_full, Nat.reduceEqDiff, Nat.reduceAdd, Nat.reduceLeDiff, ne_eq, not_false_eq_true, Nat.reduceMul, Nat.reduceSub, Int.toNat_zero, Int.reduceToNat, Try.underlying3, info3, Try.underlying4, info4, Try.underlying28, info28, Try.underlying30, h30, hz30, Try.underlying9, info9, Try.underlying35, info35, Try.underlying44, h44, hz44, stmA_len, stmA_one, stmA_take, stmA_drop, grow00, vT])) | with_reducible refine vfresh_set ?_ | with_reducible refine vfresh_intro (fun _ _ => ?_) | with_reducible refine vif_intro (fun _ => ?_) (fun _ => ?_) | omega | ((with_reducible first | refine vop_at ?_ | refine vops_at ?_ | refine vquiet_at ?_ | refine vmix_at ?_ | refine Holds_at ?_); simp only [vO, vQ, ↓vP, vE, vS, vB, vL, vF, vM, vN, vbs_full, Nat.reduceEqDiff, Nat.reduceAdd, Nat.reduceLeDiff, ne_eq, not_false_eq_true, Nat.reduceMul, Nat.reduceSub, Int.toNat_zero, Int.reduceToNat, Try.underlying3, info3, Try.underlying4, info4, Try.underlying28, info28, Try.underlying30, h30, hz30, Try.underlying9, info9, Try.underlying35, info35, Try.underlying44, h44, hz44, stmA_len, stmA_one, stmA_take, stmA_drop, grow00, vT]))
        exact ⟨[x], s2.pass [[59]], (s2.has [59], _), ⟨⟨hmk, g2, fun _ => ⟨‹σB _ = none›, by assumption, (eN _ ‹σB _ = none›).2.1, (eN _ ‹σB _ = none›).2.2⟩⟩, by simp; split <;> omega⟩, by rw [stS_ne (by simp)]; (first | exact Sg.sub.refl _ | ((repeat (first | exact Sg.sub.refl _ | refine Sg.sub.set_both ?_ | refine Sg.sub.set_fresh ?_ (by first | assumption | exact Sg.set_none (by assumption) (by first | assumption | (apply Go.Cert.ne_of2a; assumption; assumption))))); done) | (intro y p hy; simp only [Sg.set_apply, Sg.del_apply] at hy ⊢; grind)), rfl, rfl⟩
      | cons v r =>
        obtain ⟨q1, q2, q3, q4⟩ := h3 (by simp)
        have hl2 : r.length + 1 ≤ 8 := hl8
        have hV : ((v :: r).map stmA).length = r.length + 1 := by simp
        have hA : allLen ((v :: r).map stmA) 14 = True := eq_true (fun e he => by
          obtain ⟨w, _, rfl⟩ := List.mem_map.1 he
          rfl)
        have hVx : ∀ x, (v :: r ++ [x]).map stmA = (v :: r).map stmA ++ [stmA x] := fun x => by rw [List.map_append]; rfl
        rw [stS_ne (by simp)]
        by_cases h8 : r.length + 1 = 8
        · have gf : Gd (s'.fail 2) := gd_fail g0
          have h14 := fun S (hS : S ρ = some (rdA s')) => c14 ρ s' 2 S hS g0
          have hcf := fail_c (s := s') (e := 2) (by decide)
          have hM' : manyL stateL [59] 0 (v :: r) s' = R := by rw [← hM]; congr 1; simp; omega
          have hmk : More R (v :: r ++ [(stateL (s'.fail 2)).1]) ((stateL (s'.fail 2)).2.pass [[59]]) ((stateL (s'.fail 2)).2.has [59]) := by
            have hb : (stateL (s'.fail 2)).2.has [59] = false := bad_has (by rw [((nice_state _ gf.wf).c hcf).1]; exact hcf)
            rw [hb]
            exact ⟨by simp; omega, by simp, hM'.symm⟩
          have gfx : (v :: r).length = 8 := h8
          clear hM hM'
          generalize hV' : (v :: r).map stmA = V at *
          have h15 := fun S (hS : S ρ = some (rdA (s'.fail 2))) => c15 ρ _ S hS gf
          have g1 : Gd (stateL (s'.fail 2)).2 := gd_of nice_state gf
          have h13 : ∀ S, S ρ = some (rdA (stateL (s'.fail 2)).2) → VCalls Try.prog 13 [.ref ρ 0, .s (bs [59])] S _ := fun S hS => c13 ρ _ [59] S hS g1
          have g2 : Gd ((stateL (s'.fail 2)).2.pass [[59]]) := gd_pass g1
          generalize (stateL (s'.fail 2)).1 = x at *
          generalize (stateL (s'.fail 2)).2 = s2 at *
          repeat' (first | with_reducible rfl | exact .inr trivial | with_reducible apply And.intro | with_reducible apply vqx_step | with_reducible apply vqm_step | with_reducible refine vkp_free (by decide +kernel) ?_ | with_reducible intro _ | ((first | (with_reducible first | refine .rs ?_ | refine .ds (by kernel_rfl) ?_ | refine .dg (by kernel_rfl) ?_ | refine .rg ?_ | refine .ite ?_ | refine .ret ?_ | refine .skip ?_ | refine .exit ?_ | refine .scope ?_ | refine .seq (.label ?_) | refine .block ?_ | refine .seq ?_) | (simp (disch := first | assumption | (apply Go.Cert.ne_of2; assumption; assumption) | (apply Go.Cert.ne_ob; assumption; assumption; (intro e; cases e; done)) | omega) only [w64, w8, tg_eq, Go.V.n1, Go.V.n2, Go.V.nn, Int.tdiv_eq_ediv_of_nonneg, Sg.set_same, Sg.set_ne, Sg.set_ne', Sg.del_ne, Sg.del_ne']) | ((with_reducible refine VCalls.mono (h15 _ (by first | assumption | ((simp (disch := first | assumption | (apply Go.Cert.ne_of2; assumption; assumption) | (apply Go.Cert.ne_ob; assumption; assumption; (intro e; cases e; done)) | omega) only [Sg.set_same, Sg.set_ne, Sg.set_ne', Sg.del_ne, Sg.del_ne']); first | done | rfl | assumption))) ?_); rintro _ S ⟨rfl, rfl⟩) | ((with_reducible refine VCalls.mono (h13 _ (by first | assumption | ((simp (disch := first | assumption | (apply Go.Cert.ne_of2; assumption; assumption) | (apply Go.Cert.ne_ob; assumption; assumption; (intro e; cases e; done)) | omega) only [Sg.set_same, Sg.set_ne, Sg.set_ne', Sg.del_ne, Sg.del_ne']); first | done | rfl | assumption))) ?_); rintro _ S ⟨rfl, rfl⟩) | ((with_reducible refine VCalls.mono (h14 _ (by first | assumption | ((simp (disch := first | assumption | (apply Go.Cert.ne_of2; assumption; assumption) | (apply Go.Cert.ne_ob; assumption; assumption; (intro e; cases e; done)) | omega) only [Sg.set_same, Sg.set_ne, Sg.set_ne', Sg.del_ne, Sg.del_ne']); first | done | rfl | assumption))) ?_); rintro _ S ⟨rfl, rfl⟩) | (refine vlo_app (by first | assumption | ((simp (disch := first | assumption | (apply Go.Cert.ne_of2; assumption; assumption) | (apply Go.Cert.ne_ob; assumption; assumption; (intro e; cases e; done)) | omega) only [Sg.set_same, Sg.set_ne, Sg.set_ne', Sg.del_ne, Sg.del_ne']); first | done | rfl | assumption)) ?_) | (refine vst_app (by first | assumption | ((simp (disch := first | assumption | (apply Go.Cert.ne_of2; assumption; assumption) | (apply Go.Cert.ne_ob; assumption; assumption; (intro e; cases e; done)) | omega) only [Sg.set_same, Sg.set_ne, Sg.set_ne', Sg.del_ne, Sg.del_ne']); first | done | rfl | assumption)) ?_)); (try simp only [vO, vQ, ↓vP, vE, vS, vB, vL, vF, vM, vN, vbs_full, Nat.reduceEqDiff, Nat.reduceAdd, Nat.reduceLeDiff, ne_eq, not_false_eq_true, Nat.reduceMul, Nat.reduceSub, Int.toNat_zero, Int.reduceToNat, Try.underlying3, info3, Try.underlying4, info4, Try.underlying28, info28, Try.underlying30, h30, hz30, Try.underlying9, info9, Try.underlying35, info35, Try.underlying44, h44, hz44, stmA_len, stmA_one, stmA_take, stmA_drop, hV, hA, h8, gfx, grow1, vT])) | with_reducible refine vfresh_set ?_ | with_reducible refine vfresh_intro (fun _ _ => ?_) | with_reducible refine vif_intro (fun _ => ?_) (fun _ => ?_) | omega | ((with_reducible first | refine vop_at ?_ | refine vops_at ?_ | refine vquiet_at ?_ | refine vmix_at ?_ | refine Holds_at ?_); simp only [vO, vQ, ↓vP, vE, vS, vB, vL, vF, vM, vN, vbs_full, Nat.reduceEqDiff, Nat.reduceAdd, Nat.reduceLeDiff, ne_eq, not_false_eq_true, Nat.reduceMul, Nat.reduceSub, Int.toNat_zero, Int.reduceToNat, Try.underlying3, info3, Try.underlying4, info4, Try.underlying28, info28, Try.underlying30, h30, hz30, Try.underlying9, info9, Try.underlying35, info35, Try.underlying44, h44, hz44, stmA_len, stmA_one, stmA_take, stmA_drop, hV, hA, h8, gfx, grow1, vT]))
          exact ⟨v :: r ++ [x], s2.pass [[59]], (s2.has [59], _), ⟨⟨hmk, g2, fun _ => ⟨‹σB _ = none›, by assumption, (eN _ ‹σB _ = none›).2.1, (eN _ ‹σB _ = none›).2.2⟩⟩, by simp; split <;> omega⟩, by rw [stS_ne (by simp)]; (first | exact Sg.sub.refl _ | ((repeat (first | exact Sg.sub.refl _ | refine Sg.sub.set_both ?_ | refine Sg.sub.set_fresh ?_ (by first | assumption | exact Sg.set_none (by assumption) (by first | assumption | (apply Go.Cert.ne_of2a; assumption; assumption))))); done) | (intro y p hy; simp only [Sg.set_apply, Sg.del_apply] at hy ⊢; grind)), by rw [hVx, grow_ne (by simp)], rfl⟩
        · obtain ⟨k, hk⟩ : ∃ k, 8 - (v :: r).length = k + 1 := ⟨8 - (r.length + 1) - 1, by show 8 - (r.length + 1) = _; omega⟩
          rw [hk] at hM
          have hmk : More R (v :: r ++ [(stateL s').1]) ((stateL s').2.pass [[59]]) ((stateL s').2.has [59]) := by
            unfold More
            rw [manyL] at hM
            have hkk : 8 - (v :: r ++ [(stateL s').1]).length = k := by simp at hk ⊢; omega
            cases hb : (stateL s').2.has [59] with
            | true => rw [hb] at hM; exact ⟨by simp; omega, by rw [hkk]; exact hM⟩
            | false => rw [hb] at hM; exact ⟨by simp; omega, by simp, hM.symm⟩
          clear hM
          generalize hV' : (v :: r).map stmA = V at *
          have h15 := fun S (hS : S ρ = some (rdA s')) => c15 ρ _ S hS g0
          have g1 : Gd (stateL s').2 := gd_of nice_state g0
          have h13 : ∀ S, S ρ = some (rdA (stateL s').2) → VCalls Try.prog 13 [.ref ρ 0, .s (bs [59])] S _ := fun S hS => c13 ρ _ [59] S hS g1
          have g2 : Gd ((stateL s').2.pass [[59]]) := gd_pass g1
          generalize (stateL s').1 = x at *
          generalize (stateL s').2 = s2 at *
          repeat' (first | with_reducible rfl | exact .inr trivial | with_reducible apply And.intro | with_reducible apply vqx_step | with_reducible apply vqm_step | with_reducible refine vkp_free (by decide +kernel) ?_ | with_reducible intro _ | ((first | (with_reducible first | refine .rs ?_ | refine .ds (by kernel_rfl) ?_ | refine .dg (by kernel_rfl) ?_ | refine .rg ?_ | refine .ite ?_ | refine .ret ?_ | refine .skip ?_ | refine .exit ?_ | refine .scope ?_ | refine .seq (.label ?_) | refine .block ?_ | refine .seq ?_) | (simp (disch := first | assumption | (apply Go.Cert.ne_of2; assumption; assumption) | (apply Go.Cert.ne_ob; assumption; assumption; (intro e; cases e; done)) | omega) only [w64, w8, tg_eq, Go.V.n1, Go.V.n2, Go.V.nn, Int.tdiv_eq_ediv_of_nonneg, Sg.set_same, Sg.set_ne, Sg.set_ne', Sg.del_ne, Sg.del_ne']) | ((with_reducible refine VCalls.mono (h15 _ (by first | assumption | ((simp (disch := first | assumption | (apply Go.Cert.ne_of2; assumption; assumption) | (apply Go.Cert.ne_ob; assumption; assumption; (intro e; cases e; done)) | omega) only [Sg.set_same, Sg.set_ne, Sg.set_ne', Sg.del_ne, Sg.del_ne']); first | done | rfl | assumption))) ?_); rintro _ S ⟨rfl, rfl⟩) | ((with_reducible refine VCalls.mono (h13 _ (by first | assumption | ((simp (disch := first | assumption | (apply Go.Cert.ne_of2; assumption; assumption) | (apply Go.Cert.ne_ob; assumption; assumption; (intro e; cases e; done)) | omega) only [Sg.set_same, Sg.set_ne, Sg.set_ne', Sg.del_ne, Sg.del_ne']); first | done | rfl | assumption))) ?_); rintro _ S ⟨rfl, rfl⟩) | (refine vlo_app (by first | assumption | ((simp (disch := first | assumption | (apply Go.Cert.ne_of2; assumption; assumption) | (apply Go.Cert.ne_ob; assumption; assumption; (intro e; cases e; done)) | omega) only [Sg.set_same, Sg.set_ne, Sg.set_ne', Sg.del_ne, Sg.del_ne']); first | done | rfl | assumption)) ?_) | (refine vst_app (by first | assumption | ((simp (disch := first | assumption | (apply Go.Cert.ne_of2; assumption; assumption) | (apply Go.Cert.ne_ob; assumption; assumption; (intro e; cases e; done)) | omega) only [Sg.set_same, Sg.set_ne, Sg.set_ne', Sg.del_ne, Sg.del_ne']); first | done | rfl | assumption)) ?_)); (try simp only [vO, vQ, ↓vP, vE, vS, vB, vL, vF, vM, vN, vbs_full, Nat.reduceEqDiff, Nat.reduceAdd, Nat.reduceLeDiff, ne_eq, not_false_eq_true, Nat.reduceMul, Nat.reduceSub, Int.toNat_zero, Int.reduceToNat, Try.underlying3, info3, Try.underlying4, info4, Try.underlying28, info28, Try.underlying30, h30, hz30, Try.underlying9, info9, Try.underlying35, info35, Try.underlying44, h44, hz44, stmA_len, stmA_one, stmA_take, stmA_drop, hV, hA, grow1, vT])) | with_reducible refine vfresh_set ?_ | with_reducible refine vfresh_intro (fun _ _ => ?_) | with_reducible refine vif_intro (fun _ => ?_) (fun _ => ?_) | omega | ((with_reducible first | refine vop_at ?_ | refine vops_at ?_ | refine vquiet_at ?_ | refine vmix_at ?_ | refine Holds_at ?_); simp only [vO, vQ, ↓vP, vE, vS, vB, vL, vF, vM, vN, vbs_full, Nat.reduceEqDiff, Nat.reduceAdd, Nat.reduceLeDiff, ne_eq, not_false_eq_true, Nat.reduceMul, Nat.reduceSub, Int.toNat_zero, Int.reduceToNat, Try.underlying3, info3, Try.underlying4, info4, Try.underlying28, info28, Try.underlying30, h30, hz30, Try.underlying9, info9, Try.underlying35, info35, Try.underlying44, h44, hz44, stmA_len, stmA_one, stmA_take, stmA_drop, hV, hA, grow1, vT]))
          exact ⟨v :: r ++ [x], s2.pass [[59]], (s2.has [59], _), ⟨⟨hmk, g2, fun _ => ⟨‹σB _ = none›, by assumption, (eN _ ‹σB _ = none›).2.1, (eN _ ‹σB _ = none›).2.2⟩⟩, by simp; split <;> omega⟩, by rw [stS_ne (by simp)]; (first | exact Sg.sub.refl _ | ((repeat (first | exact Sg.sub.refl _ | refine Sg.sub.set_both ?_ | refine Sg.sub.set_fresh ?_ (by first | assumption | exact Sg.set_none (by assumption) (by first | assumption | (apply Go.Cert.ne_of2a; assumption; assumption))))); done) | (intro y p hy; simp only [Sg.set_apply, Sg.del_apply] at hy ⊢; grind)), by rw [hVx, grow_ne (by simp)], rfl⟩
    | false =>
      obtain ⟨hl9, hne, rfl⟩ : acc.length ≤ 9 ∧ acc ≠ [] ∧ R = (acc, s') := h1
      obtain ⟨q1, q2, q3, q4⟩ := h3 hne
      rw [stS_ne hne]
      have h11 := fun S (hS : S ρ = some (rdA s')) => p11 ρ s' S hS g0.wf
      have hgr : grow τ 14 acc.length = .tok τ 14 := by
        cases acc with
        | nil => exact absurd rfl hne
        | cons v r => rw [List.length_cons, grow1]
      simp only
      generalize s'.fin = sF at *
      generalize hV' : acc.map stmA = V at *
      by_cases hc : sF.c = 0
      · simp only [if_pos hc]
        rw [hV']
        repeat' (first | with_reducible rfl | exact .inr trivial | with_reducible apply And.intro | with_reducible apply vqx_step | with_reducible apply vqm_step | with_reducible refine vkp_free (by decide +kernel) ?_ | with_reducible intro _ | ((with_reducible refine .dms (fun _ => True) [(0, false), (1, false), (2, true)] (by decide) (by decide +kernel) ?_); (simp only [vO, vQ, ↓vP, vE, vS, vB, vL, vF, vM, vN, vbs_full, Nat.reduceEqDiff, Nat.reduceAdd, Nat.reduceLeDiff, ne_eq, not_false_eq_true, Nat.reduceMul, Nat.reduceSub, Int.toNat_zero, Int.reduceToNat, Try.underlying3, info3, Try.underlying4, info4, Try.underlying28, info28, Try.underlying30, h30, hz30, Try.underlying9, info9, Try.underlying35, info35, Try.underlying44, h44, hz44, stmA_len, stmA_one, stmA_take, stmA_drop, hgr, vT])) | ((first | (with_reducible first | refine .rs ?_ | refine .ds (by kernel_rfl) ?_ | refine .dg (by kernel_rfl) ?_ | refine .rg ?_ | refine .ite ?_ | refine .ret ?_ | refine .skip ?_ | refine .exit ?_ | refine .scope ?_ | refine .seq (.label ?_) | refine .block ?_ | refine .seq ?_) | (simp (disch := first | assumption | (apply Go.Cert.ne_of2; assumption; assumption) | (apply Go.Cert.ne_ob; assumption; assumption; (intro e; cases e; done)) | omega) only [w64, w8, tg_eq, Go.V.n1, Go.V.n2, Go.V.nn, Int.tdiv_eq_ediv_of_nonneg, Sg.set_same, Sg.set_ne, Sg.set_ne', Sg.del_ne, Sg.del_ne']) | ((with_reducible refine VCalls.mono (h11 _ (by first | assumption | ((simp (disch := first | assumption | (apply Go.Cert.ne_of2; assumption; assumption) | (apply Go.Cert.ne_ob; assumption; assumption; (intro e; cases e; done)) | omega) only [Sg.set_same, Sg.set_ne, Sg.set_ne', Sg.del_ne, Sg.del_ne']); first | done | rfl | assumption))) ?_); rintro _ S ⟨rfl, rfl⟩) | (refine vlo_app (by first | assumption | ((simp (disch := first | assumption | (apply Go.Cert.ne_of2; assumption; assumption) | (apply Go.Cert.ne_ob; assumption; assumption; (intro e; cases e; done)) | omega) only [Sg.set_same, Sg.set_ne, Sg.set_ne', Sg.del_ne, Sg.del_ne']); first | done | rfl | assumption)) ?_) | (refine vst_app (by first | assumption | ((simp (disch := first | assumption | (apply Go.Cert.ne_of2; assumption; assumption) | (apply Go.Cert.ne_ob; assumption; assumption; (intro e; cases e; done)) | omega) only [Sg.set_same, Sg.set_ne, Sg.set_ne', Sg.del_ne, Sg.del_ne']); first | done | rfl | assumption)) ?_)); (try simp only [vO, vQ, ↓vP, vE, vS, vB, vL, vF, vM, vN, vbs_full, Nat.reduceEqDiff, Nat.reduceAdd, Nat.reduceLeDiff, ne_eq, not_false_eq_true, Nat.reduceMul, Nat.reduceSub, Int.toNat_zero, Int.reduceToNat, Try.underlying3, info3, Try.underlying4, info4, Try.underlying28, info28, Try.underlying30, h30, hz30, Try.underlying9, info9, Try.underlying35, info35, Try.underlying44, h44, hz44, stmA_len, stmA_one, stmA_take, stmA_drop, hgr, vT])) | with_reducible refine vfresh_set ?_ | with_reducible refine vfresh_intro (fun _ _ => ?_) | with_reducible refine vif_intro (fun _ => ?_) (fun _ => ?_) | omega | ((with_reducible first | refine vop_at ?_ | refine vops_at ?_ | refine vquiet_at ?_ | refine vmix_at ?_ | refine Holds_at ?_); simp only [vO, vQ, ↓vP, vE, vS, vB, vL, vF, vM, vN, vbs_full, Nat.reduceEqDiff, Nat.reduceAdd, Nat.reduceLeDiff, ne_eq, not_false_eq_true, Nat.reduceMul, Nat.reduceSub, Int.toNat_zero, Int.reduceToNat, Try.underlying3, info3, Try.underlying4, info4, Try.underlying28, info28, Try.underlying30, h30, hz30, Try.underlying9, info9, Try.underlying35, info35, Try.underlying44, h44, hz44, stmA_len, stmA_one, stmA_take, stmA_drop, hgr, vT]))
        all_goals (refine ⟨_, .refl _, _, rfl, ?_⟩; intro y p hy; have hy1 := Go.Cert.ne_of hy hx3; have hy2 := Go.Cert.ne_of hy hx5; have hy3 := Go.Cert.ne_of (eσ y p hy) q1; have hy4 := Go.Cert.ne_of hy hxρ; have hy5 := eσ y p hy; (simp (disch := first | assumption | (apply Go.Cert.ne_of2; assumption; assumption) | (apply Go.Cert.ne_ob; assumption; assumption; (intro e; cases e; done)) | omega) only [Sg.set_same, Sg.set_ne, Sg.set_ne', Sg.del_ne, Sg.del_ne']); exact hy5)
      · simp only [if_neg hc, List.map_nil]
        repeat' (first | with_reducible rfl | exact .inr trivial | with_reducible apply And.intro | with_reducible apply vqx_step | with_reducible apply vqm_step | with_reducible refine vkp_free (by decide +kernel) ?_ | with_reducible intro _ | ((with_reducible refine .dms (fun _ => True) [(0, false), (1, false), (2, true)] (by decide) (by decide +kernel) ?_); (simp only [vO, vQ, ↓vP, vE, vS, vB, vL, vF, vM, vN, vbs_full, Nat.reduceEqDiff, Nat.reduceAdd, Nat.reduceLeDiff, ne_eq, not_false_eq_true, Nat.reduceMul, Nat.reduceSub, Int.toNat_zero, Int.reduceToNat, Try.underlying3, info3, Try.underlying4, info4, Try.underlying28, info28, Try.underlying30, h30, hz30, Try.underlying9, info9, Try.underlying35, info35, Try.underlying44, h44, hz44, stmA_len, stmA_one, stmA_take, stmA_drop, hgr, vT])) | ((first | (with_reducible first | refine .rs ?_ | refine .ds (by kernel_rfl) ?_ | refine .dg (by kernel_rfl) ?_ | refine .rg ?_ | refine .ite ?_ | refine .ret ?_ | refine .skip ?_ | refine .exit ?_ | refine .scope ?_ | refine .seq (.label ?_) | refine .block ?_ | refine .seq ?_) | (simp (disch := first | assumption | (apply Go.Cert.ne_of2; assumption; assumption) | (apply Go.Cert.ne_ob; assumption; assumption; (intro e; cases e; done)) | omega) only [w64, w8, tg_eq, Go.V.n1, Go.V.n2, Go.V.nn, Int.tdiv_eq_ediv_of_nonneg, Sg.set_same, Sg.set_ne, Sg.set_ne', Sg.del_ne, Sg.del_ne']) | ((with_reducible refine VCalls.mono (h11 _ (by first | assumption | ((simp (disch := first | assumption | (apply Go.Cert.ne_of2; assumption; assumption) | (apply Go.Cert.ne_ob; assumption; assumption; (intro e; cases e; done)) | omega) only [Sg.set_same, Sg.set_ne, Sg.set_ne', Sg.del_ne, Sg.del_ne']); first | done | rfl | assumption))) ?_); rintro _ S ⟨rfl, rfl⟩) | (refine vlo_app (o' := some (.cells 30 [.i sF.c, .i sF.a])) (keepAll (by assumption) (by first | assumption | ((simp (disch := first | assumption | (apply Go.Cert.ne_of2; assumption; assumption) | (apply Go.Cert.ne_ob; assumption; assumption; (intro e; cases e; done)) | omega) only [Sg.set_same, Sg.set_ne, Sg.set_ne', Sg.del_ne, Sg.del_ne']); first | done | rfl | assumption))) ?_) | (refine vlo_app (by first | assumption | ((simp (disch := first | assumption | (apply Go.Cert.ne_of2; assumption; assumption) | (apply Go.Cert.ne_ob; assumption; assumption; (intro e; cases e; done)) | omega) only [Sg.set_same, Sg.set_ne, Sg.set_ne', Sg.del_ne, Sg.del_ne']); first | done | rfl | assumption)) ?_) | (refine vst_app (by first | assumption | ((simp (disch := first | assumption | (apply Go.Cert.ne_of2; assumption; assumption) | (apply Go.Cert.ne_ob; assumption; assumption; (intro e; cases e; done)) | omega) only [Sg.set_same, Sg.set_ne, Sg.set_ne', Sg.del_ne, Sg.del_ne']); first | done | rfl | assumption)) ?_)); (try simp only [vO, vQ, ↓vP, vE, vS, vB, vL, vF, vM, vN, vbs_full, Nat.reduceEqDiff, Nat.reduceAdd, Nat.reduceLeDiff, ne_eq, not_false_eq_true, Nat.reduceMul, Nat.reduceSub, Int.toNat_zero, Int.reduceToNat, Try.underlying3, info3, Try.underlying4, info4, Try.underlying28, info28, Try.underlying30, h30, hz30, Try.underlying9, info9, Try.underlying35, info35, Try.underlying44, h44, hz44, stmA_len, stmA_one, stmA_take, stmA_drop, hgr, vT])) | with_reducible refine vfresh_set ?_ | with_reducible refine vfresh_intro (fun _ _ => ?_) | with_reducible refine vif_intro (fun _ => ?_) (fun _ => ?_) | omega | ((with_reducible first | refine vop_at ?_ | refine vops_at ?_ | refine vquiet_at ?_ | refine vmix_at ?_ | refine Holds_at ?_); simp only [vO, vQ, ↓vP, vE, vS, vB, vL, vF, vM, vN, vbs_full, Nat.reduceEqDiff, Nat.reduceAdd, Nat.reduceLeDiff, ne_eq, not_false_eq_true, Nat.reduceMul, Nat.reduceSub, Int.toNat_zero, Int.reduceToNat, Try.underlying3, info3, Try.underlying4, info4, Try.underlying28, info28, Try.underlying30, h30, hz30, Try.underlying9, info9, Try.underlying35, info35, Try.underlying44, h44, hz44, stmA_len, stmA_one, stmA_take, stmA_drop, hgr, vT]))
        all_goals (refine ⟨_, .refl _, _, rfl, ?_⟩; intro y p hy; have hy1 := Go.Cert.ne_of hy hx3; have hy2 := Go.Cert.ne_of hy hx5; have hy3 := Go.Cert.ne_of (eσ y p hy) q1; have hy4 := Go.Cert.ne_of hy hxρ; have hy5 := eσ y p hy; (simp (disch := first | assumption | (apply Go.Cert.ne_of2; assumption; assumption) | (apply Go.Cert.ne_ob; assumption; assumption; (intro e; cases e; done)) | omega) only [Sg.set_same, Sg.set_ne, Sg.set_ne', Sg.del_ne, Sg.del_ne']); exact hy5)
end Go.Proofs.Ytmokgifgnpocaaa

/- Reading on, level by level. -/
set_option linter.unusedVariables false
namespace Go.Parse
open Go.V Go.Lex Go.Proofs.Ytmokgifgnpocaaa
variable {δ : Int} {w : By} {d : Int}
theorem c0_of {s s' : Rd} (o : Ok s s') (h : s'.c = 0) : s.c = 0 := Classical.byContradiction fun hn => by
  have := (o.c hn).1
  omega
theorem sim_rowL {F F' : Pr} (hF : SimF δ w d F F') (hN : Nice F) (hN' : Nice F') (first : Int) (ws : List By) (hw : w ∉ ws) : ∀ (n m : Nat) (e : Ex) (s s' : Rd), s.d = d → Sim δ w s s' → s.l.length ≤ n → s'.l.length ≤ m → (rowL F first ws n e s).2.c = 0 →
    (δ ≠ 0 ∧ (rowL F' first ws m e s').2.c = 10) ∨ ((rowL F' first ws m e s').1 = (rowL F first ws n e s).1 ∧ Sim δ w (rowL F first ws n e s).2 (rowL F' first ws m e s').2)
  | 0, m, e, s, s', hd, h, hn, hm, hc => absurd h.wf.pos (by omega)
  | n + 1, 0, e, s, s', hd, h, hn, hm, hc => absurd h.wf'.pos (by omega)
  | n + 1, m + 1, e, s, s', hd, h, hn, hm, hc => by
    have hi := h.is ws hw
    unfold rowL at hc ⊢
    rw [hi]
    by_cases hk : 0 ≤ s.is ws
    · rw [if_pos hk] at hc ⊢
      rw [if_pos hk]
      have g := h.nextIs hk
      have hk' : 0 ≤ s'.is ws := by rw [hi]; exact hk
      have o1 := ok_is h.wf hk
      have o1' := ok_is h.wf' hk'
      have o2 := hN s.next o1.wf
      have o2' := hN' s'.next o1'.wf
      have l1 : s.next.l.length + 1 = s.l.length := (h.wf.tail (by obtain ⟨_, q, _⟩ := is_pos hk; omega)).2
      have l1' : s'.next.l.length + 1 = s'.l.length := (h.wf'.tail (by obtain ⟨_, q, _⟩ := is_pos hk'; omega)).2
      have o3 := ok_rowL hN first ws n (opE (first + s.is ws) e (F s.next).1) (F s.next).2 o2.wf
      have hc2 := c0_of o3 hc
      have le2 := o2.le
      have le2' := o2'.le
      rcases hF s.next s'.next hd g hc2 with ⟨q1, q2⟩ | ⟨q1, q2⟩
      · left
        refine ⟨q1, ?_⟩
        have o3' := ok_rowL hN' first ws m (opE (first + s.is ws) e (F' s'.next).1) (F' s'.next).2 o2'.wf
        rw [(o3'.c (by omega)).1]
        exact q2
      · rw [q1]
        exact sim_rowL hF hN hN' first ws hw n m _ _ _ (o2.d.trans hd) q2 (by omega) (by omega) hc
    · rw [if_neg hk, if_neg hk]
      exact .inr ⟨rfl, h⟩
theorem sim_row {F F' : Pr} (hF : SimF δ w d F F') (hN : Nice F) (hN' : Nice F') (first : Int) (ws : List By) (hw : w ∉ ws) : SimF δ w d (row F first ws) (row F' first ws) := fun s s' hd h hc => by
  have o := hN s h.wf
  have o' := hN' s' h.wf'
  unfold row at hc ⊢
  have hc1 := c0_of (ok_rowL hN first ws _ (F s).1 (F s).2 o.wf) hc
  rcases hF s s' hd h hc1 with ⟨q1, q2⟩ | ⟨q1, q2⟩
  · left
    refine ⟨q1, ?_⟩
    rw [((ok_rowL hN' first ws _ (F' s').1 (F' s').2 o'.wf).c (by omega)).1]
    exact q2
  · rw [q1]
    exact sim_rowL hF hN hN' first ws hw _ _ _ _ _ (o.d.trans hd) q2 (Nat.le_refl _) (Nat.le_refl _) hc
/-- The signs that are asked for and not demanded. -/
def Dead (w : By) : Prop := w = [41] ∨ w = [59]
structure SimD (δ : Int) (w : By) (d : Int) (D D' : Dp) : Prop where
  fac : SimF δ w d D.fac D'.fac
  not : SimF δ w d D.not D'.not
  ex : SimF δ w d D.ex D'.ex
theorem sim_fac {D D' : Dp} (hw : Dead w) (hD : d + 1 ≤ 10 → d + δ + 1 ≤ 10 → SimD δ w (d + 1) D D') (hN : D.Nice) (hN' : D'.Nice) (h0 : 0 ≤ δ) : SimF δ w d (facL D) (facL D') := fun s s' hd h hc => by
  obtain ⟨e1, e2, e3⟩ := h.lit (by rcases hw with rfl | rfl <;> decide) (by rcases hw with rfl | rfl <;> decide)
  have hi := e3.is [wMinus, [40]] (by rcases hw with rfl | rfl <;> decide)
  have ol := ok_lit h.wf
  have ol' := ok_lit h.wf'
  have hld : s.lit.2.2.next.d = d := ol.d.trans hd
  unfold facL at hc ⊢
  rw [e1, e2, hi]
  by_cases hb : s.lit.2.1 = true
  · rw [if_pos hb, if_pos hb]
    exact .inr ⟨rfl, e3⟩
  · rw [if_neg hb] at hc ⊢
    rw [if_neg hb]
    by_cases k0 : s.lit.2.2.is [wMinus, [40]] = 0
    · rw [if_pos k0] at hc ⊢
      rw [if_pos k0]
      have g := e3.nextIs (ws := [wMinus, [40]]) (by omega)
      rcases sim_within (fun a b => (hD a b).fac) hN.fac hN'.fac h0 _ _ hld g hc with ⟨q1, q2⟩ | ⟨q1, q2⟩
      · exact .inl ⟨q1, q2⟩
      · exact .inr ⟨by rw [q1], q2⟩
    · rw [if_neg k0] at hc ⊢
      rw [if_neg k0]
      by_cases k1 : s.lit.2.2.is [wMinus, [40]] = 1
      · rw [if_pos k1] at hc ⊢
        rw [if_pos k1]
        have g := e3.nextIs (ws := [wMinus, [40]]) (by omega)
        have o2 := nice_within hN.ex _ g.wf
        have o2' := nice_within hN'.ex _ g.wf'
        have hc1 := c0_of (ok_must [[41]] _ o2.wf) hc
        rcases sim_within (fun a b => (hD a b).ex) hN.ex hN'.ex h0 _ _ hld g hc1 with ⟨q1, q2⟩ | ⟨q1, q2⟩
        · left
          refine ⟨q1, ?_⟩
          rw [((ok_must [[41]] _ o2'.wf).c (by omega)).1]
          exact q2
        · exact .inr ⟨by rw [q1], Sim.must (s := s) (s' := s') _ q2 hc⟩
      · rw [if_neg k1] at hc ⊢
        rw [if_neg k1]
        exact sim_column (d := s.lit.2.2.d) (by rcases hw with rfl | rfl <;> decide) _ _ rfl e3 hc
theorem sim_sum {D D' : Dp} (hw : Dead w) (hD : d + 1 ≤ 10 → d + δ + 1 ≤ 10 → SimD δ w (d + 1) D D') (hN : D.Nice) (hN' : D'.Nice) (h0 : 0 ≤ δ) : SimF δ w d (sumL D) (sumL D') :=
  sim_row (sim_row (sim_fac hw hD hN hN' h0) (nice_fac hN) (nice_fac hN') _ _ (by rcases hw with rfl | rfl <;> decide)) (nice_row (nice_fac hN) _ _) (nice_row (nice_fac hN') _ _) _ _ (by rcases hw with rfl | rfl <;> decide)
theorem sim_isNull {e : Ex} {s s' : Rd} (hw : Dead w) (h : Sim δ w s s') (hc : (isNull e s).2.c = 0) : (isNull e s').1 = (isNull e s).1 ∧ Sim δ w (isNull e s).2 (isNull e s').2 := by
  have hi := h.is [wNot] (by rcases hw with rfl | rfl <;> decide)
  unfold isNull at hc ⊢
  by_cases hb : s.has wNot = true
  · have hb' : s'.has wNot = true := by unfold Rd.has at hb ⊢; rw [hi]; exact hb
    rw [if_pos hb] at hc ⊢
    rw [if_pos hb']
    exact ⟨rfl, Sim.must (s := s) (s' := s') _ (h.has hb).2 hc⟩
  · have hb' : ¬ s'.has wNot = true := by unfold Rd.has at hb ⊢; rw [hi]; exact hb
    rw [if_neg hb] at hc ⊢
    rw [if_neg hb']
    exact ⟨rfl, Sim.must (s := s) (s' := s') _ h hc⟩
theorem sim_test {D D' : Dp} (hw : Dead w) (hD : d + 1 ≤ 10 → d + δ + 1 ≤ 10 → SimD δ w (d + 1) D D') (hN : D.Nice) (hN' : D'.Nice) (h0 : 0 ≤ δ) : SimF δ w d (testL D) (testL D') := fun s s' hd h hc => by
  have hS := sim_sum (d := d) hw hD hN hN' h0
  have hn := nice_sum hN
  have hn' := nice_sum hN'
  have o := hn s h.wf
  have o' := hn' s' h.wf'
  have hc1 : (sumL D s).2.c = 0 := Classical.byContradiction fun hne => by
    have hneg : (sumL D s).2.is tests < 0 := by
      rcases Int.lt_or_le ((sumL D s).2.is tests) 0 with h' | h'
      · exact h'
      · exact absurd (is_pos h').1 hne
    unfold testL at hc
    rw [if_pos hneg] at hc
    exact hne hc
  rcases hS s s' hd h hc1 with ⟨q1, q2⟩ | ⟨q1, q2⟩
  · left
    refine ⟨q1, ?_⟩
    have hneg : (sumL D' s').2.is tests < 0 := by
      rcases Int.lt_or_le ((sumL D' s').2.is tests) 0 with h' | h'
      · exact h'
      · have := (is_pos h').1; omega
    unfold testL
    rw [if_pos hneg]
    exact q2
  · have hi := q2.is tests (by rcases hw with rfl | rfl <;> decide)
    unfold testL at hc ⊢
    rw [hi]
    by_cases k : (sumL D s).2.is tests < 0
    · rw [if_pos k, if_pos k]
      exact .inr ⟨q1, q2⟩
    · rw [if_neg k] at hc ⊢
      rw [if_neg k]
      have g := q2.nextIs (ws := tests) (by omega)
      by_cases k8 : 3 + (sumL D s).2.is tests ≤ 8
      · rw [if_pos k8] at hc ⊢
        rw [if_pos k8]
        rcases hS (sumL D s).2.next (sumL D' s').2.next (o.d.trans hd) g hc with ⟨p1, p2⟩ | ⟨p1, p2⟩
        · exact .inl ⟨p1, p2⟩
        · exact .inr ⟨by rw [q1, p1], p2⟩
      · rw [if_neg k8] at hc ⊢
        rw [if_neg k8, q1]
        exact .inr (sim_isNull hw g hc)
theorem sim_not {D D' : Dp} (hw : Dead w) (hD : d + 1 ≤ 10 → d + δ + 1 ≤ 10 → SimD δ w (d + 1) D D') (hN : D.Nice) (hN' : D'.Nice) (h0 : 0 ≤ δ) : SimF δ w d (notL D) (notL D') := fun s s' hd h hc => by
  have hi := h.is [wNot] (by rcases hw with rfl | rfl <;> decide)
  unfold notL at hc ⊢
  by_cases hb : s.has wNot = true
  · have hb' : s'.has wNot = true := by unfold Rd.has at hb ⊢; rw [hi]; exact hb
    rw [if_pos hb] at hc ⊢
    rw [if_pos hb']
    rcases sim_within (fun a b => (hD a b).not) hN.not hN'.not h0 s.next s'.next hd (h.has hb).2 hc with ⟨q1, q2⟩ | ⟨q1, q2⟩
    · exact .inl ⟨q1, q2⟩
    · exact .inr ⟨by rw [q1], q2⟩
  · have hb' : ¬ s'.has wNot = true := by unfold Rd.has at hb ⊢; rw [hi]; exact hb
    rw [if_neg hb] at hc ⊢
    rw [if_neg hb']
    exact sim_test hw hD hN hN' h0 s s' hd h hc
theorem sim_ex {D D' : Dp} (hw : Dead w) (hD : d + 1 ≤ 10 → d + δ + 1 ≤ 10 → SimD δ w (d + 1) D D') (hN : D.Nice) (hN' : D'.Nice) (h0 : 0 ≤ δ) : SimF δ w d (exL D) (exL D') :=
  sim_row (sim_row (sim_not hw hD hN hN' h0) (nice_not hN) (nice_not hN') _ _ (by rcases hw with rfl | rfl <;> decide)) (nice_row (nice_not hN) _ _) (nice_row (nice_not hN') _ _) _ _ (by rcases hw with rfl | rfl <;> decide)
theorem sim_dp (hw : Dead w) (h0 : 0 ≤ δ) : ∀ (n m : Nat) (d : Int), 11 ≤ d + n → 11 ≤ d + δ + m → d ≤ 10 → d + δ ≤ 10 → SimD δ w d (dp n) (dp m)
  | 0, m, d, h1, h2, h3, h4 => by omega
  | n + 1, 0, d, h1, h2, h3, h4 => by omega
  | n + 1, m + 1, d, h1, h2, h3, h4 => by
    have hD : d + 1 ≤ 10 → d + δ + 1 ≤ 10 → SimD δ w (d + 1) (dp n) (dp m) := fun a b => sim_dp hw h0 n m (d + 1) (by omega) (by omega) a (by omega)
    exact ⟨sim_fac hw hD (dp_nice n) (dp_nice m) h0, sim_not hw hD (dp_nice n) (dp_nice m) h0, sim_ex hw hD (dp_nice n) (dp_nice m) h0⟩
end Go.Parse

/- The law of brackets, in plain Lean. -/
set_option linter.unusedVariables false
namespace Go.Parse
open Go.V Go.Lex Go.Proofs.Ytmokgifgnpocaaa
theorem is_end {s : Rd} {ws : List By} (h : (hd s.l).1 = 6) : s.is ws = -1 := by
  unfold Rd.is
  rw [if_pos (.inr ⟨by omega, by omega⟩)]
theorem row_end {F : Pr} {first : Int} {ws : List By} {s : Rd} (h : (hd (F s).2.l).1 = 6) : row F first ws s = F s := by
  unfold row
  rw [rowL_no (by rw [is_end h]; omega)]
theorem row_bad {F : Pr} {first : Int} {ws : List By} {s : Rd} (h : (F s).2.c ≠ 0) : row F first ws s = F s := by
  unfold row
  rw [rowL_no (fun hk => h (is_pos hk).1)]
/-- A reader at a bracket. -/
theorem lit_br {s : Rd} (hc : s.c = 0) (h5 : (hd s.l).1 = 5) (ht : (hd s.l).2.1 = [40]) : s.lit = (v0, false, s) := by
  have hm : s.is [wMinus] = -1 := by
    unfold Rd.is
    rw [if_neg (by rw [hc]; omega), ht, if_neg (by decide)]
  have hn : s.is [wNull] = -1 := by
    unfold Rd.is
    rw [if_neg (by rw [hc]; omega), ht, if_neg (by decide)]
  rw [lite hc (by omega) (by omega) (.inl (by omega))]
  unfold Rd.has Rd.pass
  rw [hn]
  rfl
theorem fac_br {D : Dp} {s : Rd} (hc : s.c = 0) (h5 : (hd s.l).1 = 5) (ht : (hd s.l).2.1 = [40]) : facL D s = ((within D.ex s.next).1, (within D.ex s.next).2.must [[41]]) := by
  have hb : s.is [wMinus, [40]] = 1 := by
    unfold Rd.is
    rw [if_neg (by rw [hc]; omega), ht]
    decide
  unfold facL
  rw [lit_br hc h5 ht]
  simp only [Bool.false_eq_true, if_false]
  rw [if_neg (by omega), if_pos hb]
theorem ex_of {D : Dp} {s : Rd} (hc : s.c = 0) (h5 : (hd s.l).1 = 5) (ht : (hd s.l).2.1 = [40]) (h : (hd (facL D s).2.l).1 = 6 ∨ (facL D s).2.c ≠ 0) : exL D s = facL D s := by
  have r : ∀ (F : Pr) (first : Int) (ws : List By), F s = facL D s → row F first ws s = facL D s := fun F first ws e => by
    rcases h with h | h
    · rw [row_end (by rw [e]; exact h), e]
    · rw [row_bad (by rw [e]; exact h), e]
  have e1 : termL D s = facL D s := r _ _ _ rfl
  have e2 : sumL D s = facL D s := r _ _ _ e1
  have hi : (facL D s).2.is tests < 0 := by
    rcases h with h | h
    · rw [is_end h]; omega
    · rcases Int.lt_or_le ((facL D s).2.is tests) 0 with h' | h'
      · exact h'
      · exact absurd (is_pos h').1 h
  have e3 : testL D s = facL D s := by
    unfold testL
    rw [e2, if_pos hi]
  have hn : ¬ s.has wNot = true := by
    unfold Rd.has Rd.is
    rw [if_neg (by rw [hc]; omega), ht, if_neg (by decide)]
    decide
  have e4 : notL D s = facL D s := by
    unfold notL
    rw [if_neg hn, e3]
  exact r _ _ _ (r _ _ _ e4)
theorem Tq_refl_len {i j : List Tk} (h : Tq i j) : True := trivial
/-- Brackets around all. -/
theorem brackets {l l2 i j : List Tk} {E E2 z b : Tk} (hl : l = i ++ [E]) (hl2 : l2 = b :: (j ++ [z, E2])) (hE : E.1 = 6) (hE2 : E2.1 = 6) (hb : b.1 = 5) (hb2 : b.2.1 = [40]) (hz : z.1 = 5) (hz2 : z.2.1 = [41]) (hq : Tq i j) (hn : ∀ x ∈ i, x.1 ≠ 6) (hc : (oneT l).2.c = 0) :
    (oneT l2).2.c = 10 ∨ ((oneT l2).2.c = 0 ∧ (oneT l2).1 = (oneT l).1) := by
  have hc0 : ((dp 11).ex (rd0 l)).2.c = 0 ∧ (hd ((dp 11).ex (rd0 l)).2.l).1 = 6 := by
    have : (((dp 11).ex (rd0 l)).2.fin).c = 0 := hc
    unfold Rd.fin at this
    split at this
    · exact absurd this (fail_c (by decide))
    · rename_i h
      refine ⟨this, Classical.byContradiction fun hne => h ⟨this, hne⟩⟩
  have hwf : WF l := by rw [hl]; exact WF_app _ _ hE
  have hwf' : WF (j ++ [z, E2]) := by
    have := WF_app (j ++ [z]) E2 hE2
    rwa [List.append_assoc] at this
  have hbn : (hd (rd0 l2).l).1 = 5 := by rw [hl2]; exact hb
  have hbt : (hd (rd0 l2).l).2.1 = [40] := by rw [hl2]; exact hb2
  have hf := fac_br (D := dp 10) (s := rd0 l2) rfl hbn hbt
  have hnx : (rd0 l2).next.l = j ++ [z, E2] := by rw [hl2]; rfl
  have hdn : (rd0 l2).next.down = ⟨j ++ [z, E2], 1, 0, 0⟩ := by
    unfold Rd.down
    rw [if_neg (by show ¬ (0 : Int) + 1 > 10; decide)]
    show (⟨(rd0 l2).next.l, 0 + 1, 0, 0⟩ : Rd) = _
    rw [hnx]; rfl
  have hS : Sim 1 [41] (rd0 l) ⟨j ++ [z, E2], 1, 0, 0⟩ := ⟨rfl, rfl, rfl, hwf, hwf', i, j, E, z, [E2], hl, rfl, hq, hE, hz, hz2, hn, rfl⟩
  have hsim := (sim_dp (δ := 1) (w := [41]) (.inl rfl) (by decide) 11 10 0 (by decide) (by decide) (by decide) (by decide)).ex (rd0 l) _ rfl hS hc0.1
  have hw : within (dp 10).ex (rd0 l2).next = (((dp 10).ex ⟨j ++ [z, E2], 1, 0, 0⟩).1, ((dp 10).ex ⟨j ++ [z, E2], 1, 0, 0⟩).2.up) := by
    unfold within
    rw [hdn, if_pos rfl]
  rw [hw] at hf
  have hone : oneT l2 = ((exL (dp 10) (rd0 l2)).1, (exL (dp 10) (rd0 l2)).2.fin) := rfl
  have o2 := (dp_nice 10).ex ⟨j ++ [z, E2], 1, 0, 0⟩ hwf'
  rcases hsim with ⟨_, q⟩ | ⟨q1, q2⟩
  · left
    have hcm : (facL (dp 10) (rd0 l2)).2.c = 10 := by
      rw [hf]
      have o3 := ok_must [[41]] ((dp 10).ex ⟨j ++ [z, E2], 1, 0, 0⟩).2.up o2.wf
      have hu : ((dp 10).ex ⟨j ++ [z, E2], 1, 0, 0⟩).2.up.c = 10 := q
      show (Rd.must _ _).c = 10
      rw [(o3.c (by omega)).1]
      exact hu
    rw [hone, ex_of rfl hbn hbt (.inr (by omega))]
    unfold Rd.fin
    rw [if_neg (fun h => by omega)]
    exact hcm
  · right
    obtain ⟨i0, j0, e0, z0, r0, a1, a2, a3, a4, a5, a6, a7, a8⟩ := q2.l
    have hj : j0 = [] := by
      cases a3 with
      | nil => rfl
      | cons x y i j hxy ht =>
        exfalso
        have : hd ((dp 11).ex (rd0 l)).2.l = x := by rw [a1]; rfl
        exact a7 x (by simp) (by rw [← this]; exact hc0.2)
    subst hj
    have hh : hd ((dp 10).ex ⟨j ++ [z, E2], 1, 0, 0⟩).2.up.l = z0 := by
      show hd ((dp 10).ex ⟨j ++ [z, E2], 1, 0, 0⟩).2.l = z0
      rw [a2]; rfl
    have hhas : ((dp 10).ex ⟨j ++ [z, E2], 1, 0, 0⟩).2.up.has [41] = true := by
      have hcu : ((dp 10).ex ⟨j ++ [z, E2], 1, 0, 0⟩).2.up.c = 0 := q2.c'
      unfold Rd.has Rd.is
      rw [hh, if_neg (by rw [hcu]; omega), a6]
      decide
    have hm : ((dp 10).ex ⟨j ++ [z, E2], 1, 0, 0⟩).2.up.must [[41]] = ((dp 10).ex ⟨j ++ [z, E2], 1, 0, 0⟩).2.up.next := by
      rw [Rd.must, if_pos hhas, Rd.must]
    have hw6 : (hd r0).1 = 6 := by
      have hwz := q2.wf'
      rw [a2] at hwz
      match r0, a8, hwz with
      | [x], _, hwz => exact hwz
    have hfl : (facL (dp 10) (rd0 l2)).2.l = r0 := by
      rw [hf]
      show (Rd.must _ _).l = r0
      rw [hm]
      show ((dp 10).ex ⟨j ++ [z, E2], 1, 0, 0⟩).2.l.tail = r0
      rw [a2]; rfl
    have hfc : (facL (dp 10) (rd0 l2)).2.c = 0 := by
      rw [hf]
      show (Rd.must _ _).c = 0
      rw [hm]
      exact q2.c'
    rw [hone, ex_of rfl hbn hbt (.inl (by rw [hfl]; exact hw6))]
    unfold Rd.fin
    rw [if_neg (fun h => h.2 (by rw [hfl]; exact hw6))]
    refine ⟨hfc, ?_⟩
    rw [hf]
    exact q1
end Go.Parse

/- The tokens of a text in brackets. -/
set_option linter.unusedVariables false
namespace Go.Parse
open Go.V Go.Lex Go.Proofs.Ytmokgifgnpocaaa
theorem tok1_kind {r : List UInt8} {k v n : Nat} {t : List UInt8} (h : tok1 r = .ok (k, t, v, n)) : k ≠ 6 := by
  have hwl : ∀ kd m, wl kd r m = .ok (k, t, v, n) → k ≠ 6 := fun kd m hw => by
    unfold wl at hw
    cases hw' : wordT kd r m with
    | error e => rw [hw'] at hw; cases hw
    | ok q =>
      obtain ⟨k', t', v'⟩ := q
      rw [hw'] at hw
      cases hw
      unfold wordT at hw'
      split at hw'
      · cases hw'
      · split at hw'
        · split at hw'
          · cases hw'; decide
          · cases hw'
        · split at hw'
          · split at hw'
            · cases hw'
            · cases hw'; decide
          · split at hw'
            · cases hw'; decide
            · cases hw'
  unfold tok1 at h
  split at h
  · unfold quotedT at h
    split at h
    · cases h
    · split at h
      · cases h
      · cases h; decide
  · split at h
    · exact hwl _ _ h
    · split at h
      · exact hwl _ _ h
      · split at h
        · exact hwl _ _ h
        · split at h
          · cases h; decide
          · cases h
theorem toks_kinds : ∀ (n : Nat) (r : List UInt8) (a : Nat) (l : List Tk), r.length ≤ n → toks r a = .ok l → ∃ i E, l = i ++ [E] ∧ E.1 = 6 ∧ ∀ x ∈ i, x.1 ≠ 6 := by
  intro n
  induction n with
  | zero =>
    intro r a l hn h
    rw [toks_end (by have := blanks_le r; omega)] at h
    cases h
    exact ⟨[], _, rfl, rfl, fun x hx => by simp at hx⟩
  | succ n ih =>
    intro r a l hn h
    by_cases hb : r.length ≤ blanks r
    · rw [toks_end hb] at h
      cases h
      exact ⟨[], _, rfl, rfl, fun x hx => by simp at hx⟩
    · cases ht : tok1 (r.drop (blanks r)) with
      | error e => rw [toks_err (by omega) ht] at h; cases h
      | ok p =>
        obtain ⟨k, t, v, m⟩ := p
        have hm := tok1_len (by simp; omega) ht
        rw [toks_ok (by omega) ht] at h
        cases hr : toks (r.drop (blanks r + m)) (a + blanks r + m) with
        | error q => rw [hr] at h; cases h
        | ok l' =>
          rw [hr] at h
          cases h
          obtain ⟨i, E, rfl, h2, h3⟩ := ih _ _ _ (by simp; omega) hr
          refine ⟨(k, t, v, a + blanks r) :: i, E, rfl, h2, fun x hx => ?_⟩
          rcases List.mem_cons.1 hx with rfl | hx
          · exact tok1_kind ht
          · exact h3 x hx
end Go.Parse

/- The first token of a text in brackets. -/
set_option linter.unusedVariables false
namespace Go.Parse
open Go.V Go.Lex Go.Proofs.Ytmokgifgnpocaaa
theorem tok1_br (r : List UInt8) : tok1 (40 :: r) = .ok (5, [40], 0, 1) := by
  have h0 : (List.getD (40 :: r) 0 0 : UInt8) = 40 := rfl
  have hf : signs.find? (fun x => hasPre x (40 :: r)) = some [40] := by simp [signs, hasPre]
  unfold tok1
  rw [h0, if_neg (by decide), if_neg (by decide), if_neg (by decide), if_neg (by decide), hf]
  rfl
theorem tok1_cl (r : List UInt8) : tok1 (41 :: r) = .ok (5, [41], 0, 1) := by
  have h0 : (List.getD (41 :: r) 0 0 : UInt8) = 41 := rfl
  have hf : signs.find? (fun x => hasPre x (41 :: r)) = some [41] := by simp [signs, hasPre]
  unfold tok1
  rw [h0, if_neg (by decide), if_neg (by decide), if_neg (by decide), if_neg (by decide), hf]
  rfl
theorem blanks_br (r : List UInt8) : blanks (40 :: r) = 0 := by
  refine blanks_stop ?_
  show (if ws 40 = true then 1 else if hasPre [45, 45] (40 :: r) = true then pre (· != 10) (40 :: r) else 0) = 0
  rw [if_neg (by decide), if_neg (by simp [hasPre])]
theorem toks_close (a : Nat) : toks [41] a = .ok [(5, [41], 0, a), (6, [], 0, a + 1)] := by
  have hb : blanks [41] = 0 := blanks_stop (by decide)
  have ht : tok1 ([41].drop (blanks [41])) = .ok (5, [41], 0, 1) := by rw [hb]; exact tok1_cl []
  rw [toks_ok (by rw [hb]; decide) ht, hb]
  have he : toks ([41].drop (0 + 1)) (a + 0 + 1) = .ok [(6, [], 0, a + 1)] := by
    rw [toks_end (by simp)]
    have : blanks (([41] : List UInt8).drop (0 + 1)) = 0 := blanks_stop (by decide)
    rw [this]
  rw [he]
  rfl
theorem toks_br (r : List UInt8) (a : Nat) : toks (40 :: r) a = appE [(5, [40], 0, a)] (toks r (a + 1)) := by
  have hb := blanks_br r
  have ht : tok1 ((40 :: r).drop (blanks (40 :: r))) = .ok (5, [40], 0, 1) := by rw [hb]; exact tok1_br r
  rw [toks_ok (by rw [hb]; simp) ht, hb]
  rfl
end Go.Parse

/- The law of brackets, of texts. -/
set_option linter.unusedVariables false
namespace Go.Parse
open Go.V Go.Lex Go.Proofs.Ytmokgifgnpocaaa
theorem Tq_map (f : Tk → Tk) (hf : ∀ x, tq x (f x)) : ∀ i : List Tk, Tq i (i.map f)
  | [] => .nil
  | x :: i => .cons _ _ _ _ (hf x) (Tq_map f hf i)
theorem brackets_all {s : List UInt8} (hs : s.length ≤ 1996) (h : (oneAll s).2.1 = 0) : (oneAll (40 :: (s ++ [10, 41]))).2.1 = 10 ∨ ((oneAll (40 :: (s ++ [10, 41]))).2.1 = 0 ∧ (oneAll (40 :: (s ++ [10, 41]))).1 = (oneAll s).1) := by
  cases hl : lexAll s with
  | error q =>
    obtain ⟨e, a⟩ := q
    have := lexAll_nz hl
    unfold oneAll at h
    rw [hl] at h
    have h' : (e : Int) = 0 := h
    omega
  | ok l =>
    have ht : toks s 0 = .ok l := by
      unfold lexAll at hl
      rw [if_neg (by omega)] at hl
      cases ht : toks s 0 with
      | ok m => rw [ht] at hl; cases hl; rfl
      | error q => rw [ht] at hl; cases hl
    obtain ⟨i, E, rfl, hE, hn⟩ := toks_kinds s.length s 0 l (Nat.le_refl _) ht
    obtain ⟨i', hi', hj⟩ := toks_join_ok s.length s [41] 0 _ (Nat.le_refl _) ht
    obtain ⟨rfl, _⟩ := List.append_inj' hi' rfl
    have h1 : toks (s ++ [10, 41]) 1 = shiftE 1 (toks (s ++ [10, 41]) 0) := toks_shift _ _ 0 1 (Nat.le_refl _)
    have hj' : toks (s ++ [10, 41]) 0 = appE i (toks [41] (0 + s.length + 1)) := hj
    rw [hj', toks_close] at h1
    have h2 := toks_br (s ++ [10, 41]) 0
    rw [Nat.zero_add] at h2
    rw [h1] at h2
    have h3 : lexAll (40 :: (s ++ [10, 41])) = .ok _ := lexAll_ok (by simp; omega) h2
    have ha : oneAll s = oneR (i ++ [E]) := by unfold oneAll; rw [hl]
    have hb : oneAll (40 :: (s ++ [10, 41])) = oneR ([(5, [40], 0, 0)] ++ List.map (fun x => (x.1, x.2.1, x.2.2.1, x.2.2.2 + 1)) (i ++ [(5, [41], 0, 0 + s.length + 1), (6, [], 0, 0 + s.length + 1 + 1)])) := by unfold oneAll; rw [h3]
    rw [ha] at h ⊢
    rw [hb]
    have hc : (oneT (i ++ [E])).2.c = 0 := Classical.byContradiction fun hne => by
      unfold oneR at h
      rw [if_neg hne] at h
      exact hne h
    have key := brackets (l := i ++ [E]) (i := i) (E := E) (b := (5, [40], 0, 0)) (j := i.map fun x => (x.1, x.2.1, x.2.2.1, x.2.2.2 + 1)) (z := (5, [41], 0, 0 + s.length + 1 + 1)) (E2 := (6, [], 0, 0 + s.length + 1 + 1 + 1)) rfl rfl hE rfl rfl rfl rfl rfl (Tq_map (fun x => (x.1, x.2.1, x.2.2.1, x.2.2.2 + 1)) (fun x => ⟨rfl, rfl, rfl⟩) i) hn hc
    have he : ([(5, [40], 0, 0)] ++ List.map (fun x => (x.1, x.2.1, x.2.2.1, x.2.2.2 + 1)) (i ++ [(5, [41], 0, 0 + s.length + 1), (6, [], 0, 0 + s.length + 1 + 1)])) = (5, [40], 0, 0) :: ((i.map fun x => (x.1, x.2.1, x.2.2.1, x.2.2.2 + 1)) ++ [((5, [41], 0, 0 + s.length + 1 + 1) : Tk), (6, [], 0, 0 + s.length + 1 + 1 + 1)]) := by simp
    rw [he]
    generalize (5, [40], 0, 0) :: ((i.map fun x => (x.1, x.2.1, x.2.2.1, x.2.2.2 + 1)) ++ [((5, [41], 0, 0 + s.length + 1 + 1) : Tk), (6, [], 0, 0 + s.length + 1 + 1 + 1)]) = L2 at key ⊢
    unfold oneR
    rw [if_pos hc]
    rcases key with k | ⟨k1, k2⟩
    · rw [if_neg (by omega)]
      exact .inl k
    · rw [if_pos k1]
      exact .inr ⟨rfl, k2⟩
end Go.Parse

set_option linter.unusedSimpArgs false
set_option linter.unusedVariables false
namespace Go.Parse
open Go.V Go.Lex Go.Proofs.Ytmokgifgnpocaaa
def Ex.opn : Ex → Int
  | .mk _ op _ _ _ _ => op
def Ex.args : Ex → List Ex
  | .mk _ _ _ _ _ l => l
end Go.Parse
namespace Go.Proofs.Ytmokgifgnpocaaa
open Go Go.V Go.Lex Go.Parse
abbrev smA : By := [83, 69, 76, 69, 67, 84, 32, 42, 32, 70, 82, 79, 77, 32, 116, 32, 76, 73, 77, 73, 84, 32, 50]
abbrev smB : By := [49, 32, 43, 32, 50, 32, 42, 32, 45, 51]
theorem smA_ok : (scriptAll smA).2 = (0, 0) ∧ ((scriptAll smA).1.map fun x => (x.k, x.t, x.lim)) = [(6, [116], 2)] := by decide +kernel
theorem smB_ok : (oneAll smB).2 = (0, 0) ∧ (oneAll smB).1.opn = 9 ∧ ((oneAll smB).1.args.map Ex.opn) = [0, 11] := by decide +kernel
theorem eq30 {d : TypeDesc} {a b a' b' : Int} : veqT Try.prog 30 d (.agg [.i a, .i b]) (.agg [.i a', .i b']) = some (decide (a = a') && (decide (b = b') && true)) := by
  rw [veqT_agg (by kernel_rfl), veqIn_struct (d := 9999) Try.underlying30 (by kernel_rfl)]
  exact veqFs_cons (by decide) (partO_one info28 Try.underlying28 rfl) (partO_one info28 Try.underlying28 rfl) (veqIn_int Try.underlying28) (veqFs_cons (by decide) (partO_one info3 Try.underlying3 rfl) (partO_one info3 Try.underlying3 rfl) (veqIn_int Try.underlying3) rfl)
theorem smA_form : ∃ x : Stm, (scriptAll smA).1 = [x] ∧ x.k = 6 ∧ x.t = [116] ∧ x.lim = 2 := by
  have h := smA_ok.2
  cases hl : (scriptAll smA).1 with
  | nil => rw [hl] at h; cases h
  | cons x r =>
    rw [hl] at h
    simp only [List.map_cons, List.cons.injEq, Prod.mk.injEq, List.map_eq_nil_iff] at h
    obtain ⟨⟨h1, h2, h3⟩, rfl⟩ := h
    exact ⟨x, rfl, h1, h2, h3⟩
theorem smB_form : ∃ k t n v a k2 t2 n2 v2 l2, (oneAll smB).1 = .mk k 9 t n v [a, .mk k2 11 t2 n2 v2 l2] := by
  obtain ⟨_, h1, h2⟩ := smB_ok
  generalize (oneAll smB).1 = e at *
  cases e with
  | mk k op t n v l =>
    cases h1
    cases l with
    | nil => simp [Ex.args] at h2
    | cons a l =>
      cases l with
      | nil => simp [Ex.args] at h2
      | cons b l =>
        cases b with
        | mk k2 op2 t2 n2 v2 l2 =>
          simp only [Ex.args, List.map_cons, List.cons.injEq, Ex.opn, List.map_eq_nil_iff] at h2
          obtain ⟨_, rfl, rfl⟩ := h2
          exact ⟨k, t, n, v, a, k2, t2, n2, v2, l2, rfl⟩
theorem gd0 {α : Type} (a : α) (l : List α) (d : α) : (a :: l).getD 0 d = a := rfl
theorem gd1 {α : Type} (a b : α) (l : List α) (d : α) : (a :: b :: l).getD 1 d = b := rfl
set_option maxHeartbeats 1000000 in
set_option maxRecDepth 100000 in
theorem c5 (σ : Sg) : VCalls Try.prog 5 [] σ (fun x σ' => x = .b true ∧ σ' = σ) := by
  obtain ⟨z30, h30, hz30⟩ := zero30
  obtain ⟨z27, h27, hz27⟩ := zero27
  obtain ⟨z44, h44, hz44⟩ := zero44
  simp only [ex0, exK_mk, exsA_nil] at hz27
  have h8 : ∀ σ, VCalls Try.prog 8 [.s (bs smA)] σ _ := fun σ => c8 smA σ
  have h6 : ∀ σ, VCalls Try.prog 6 [.s (bs smB)] σ _ := fun σ => p6 smB σ
  obtain ⟨x, e1, e2, e3, e4⟩ := smA_form
  obtain ⟨k, t, n, v, a, k2, t2, n2, v2, l2, e5⟩ := smB_form
  have hb : exsA [a, .mk k2 11 t2 n2 v2 l2] = [exA a, [.i k2, .i 11, .s (bs t2), .s (bs n2), .i v2.1, .i v2.2.1, .s (bs v2.2.2), .sl .any (exsA l2)]] := by rw [opA, exA_mk]
  have hal := exA_len a
  have e6 : (scriptAll smA).2.1 = 0 := by rw [smA_ok.1]
  have e7 : (scriptAll smA).2.2 = 0 := by rw [smA_ok.1]
  have e8 : (oneAll smB).2.1 = 0 := by rw [smB_ok.1]
  have e9 : (oneAll smB).2.2 = 0 := by rw [smB_ok.1]
  rw [e1, e6, e7] at h8
  rw [e5, e8, e9] at h6
  simp only [List.map_cons, List.map_nil, stmA, e2, e3, e4] at h8
  rw [exA_mk, hb] at h6
  generalize exA a = A at *
  (refine vfun (fun _ => .no) mixed Try.func5 (by kernel_rfl) ?_; simp only [bodyOf, Try.f5, Option.getD_some])
  repeat' (first | with_reducible rfl | exact .inr trivial | with_reducible apply And.intro | with_reducible apply vqx_step | with_reducible apply vqm_step | with_reducible refine vkp_free (by decide +kernel) ?_ | with_reducible intro _ | ((first | (with_reducible first | refine .rs ?_ | refine .ds (by kernel_rfl) ?_ | refine .dg (by kernel_rfl) ?_ | refine .rg ?_ | refine .ite ?_ | refine .ret ?_ | refine .skip ?_ | refine .exit ?_ | refine .scope ?_ | refine .seq (.label ?_) | refine .block ?_ | refine .seq ?_) | (simp (disch := first | assumption | (apply Go.Cert.ne_of2; assumption; assumption) | (apply Go.Cert.ne_ob; assumption; assumption; (intro e; cases e; done)) | omega) only [w64, w8, tg_eq, Go.V.n1, Go.V.n2, Go.V.nn, Int.tdiv_eq_ediv_of_nonneg, Sg.set_same, Sg.set_ne, Sg.set_ne', Sg.del_ne, Sg.del_ne']) | ((with_reducible refine VCalls.mono (h8 _) ?_); rintro _ S ⟨rfl, rfl⟩) | ((with_reducible refine VCalls.mono (h6 _) ?_); rintro _ S ⟨rfl, rfl⟩) | (refine vlo_app (by first | assumption | ((simp (disch := first | assumption | (apply Go.Cert.ne_of2; assumption; assumption) | (apply Go.Cert.ne_ob; assumption; assumption; (intro e; cases e; done)) | omega) only [Sg.set_same, Sg.set_ne, Sg.set_ne', Sg.del_ne, Sg.del_ne']); first | done | rfl | assumption)) ?_) | (refine vst_app (by first | assumption | ((simp (disch := first | assumption | (apply Go.Cert.ne_of2; assumption; assumption) | (apply Go.Cert.ne_ob; assumption; assumption; (intro e; cases e; done)) | omega) only [Sg.set_same, Sg.set_ne, Sg.set_ne', Sg.del_ne, Sg.del_ne']); first | done | rfl | assumption)) ?_)); (try simp only [vO, vQ, ↓vP, vE, vS, vB, vL, vF, vM, vN, vbs_full, Nat.reduceEqDiff, Nat.reduceAdd, Nat.reduceLeDiff, ne_eq, not_false_eq_true, Nat.reduceMul, Nat.reduceSub, Int.toNat_zero, Int.reduceToNat, Try.underlying3, info3, Try.underlying4, info4, Try.underlying9, info9, Try.underlying28, info28, Try.underlying30, h30, hz30, Try.underlying27, h27, hz27, Try.underlying25, info25, Try.underlying35, info35, Try.underlying44, h44, hz44, eq30, hal, gd0, gd1, decide_true, Bool.and_self, vT])) | with_reducible refine vfresh_set ?_ | with_reducible refine vfresh_intro (fun _ _ => ?_) | with_reducible refine vif_intro (fun _ => ?_) (fun _ => ?_) | omega | ((with_reducible first | refine vop_at ?_ | refine vops_at ?_ | refine vquiet_at ?_ | refine vmix_at ?_ | refine Holds_at ?_); simp only [vO, vQ, ↓vP, vE, vS, vB, vL, vF, vM, vN, vbs_full, Nat.reduceEqDiff, Nat.reduceAdd, Nat.reduceLeDiff, ne_eq, not_false_eq_true, Nat.reduceMul, Nat.reduceSub, Int.toNat_zero, Int.reduceToNat, Try.underlying3, info3, Try.underlying4, info4, Try.underlying9, info9, Try.underlying28, info28, Try.underlying30, h30, hz30, Try.underlying27, h27, hz27, Try.underlying25, info25, Try.underlying35, info35, Try.underlying44, h44, hz44, eq30, hal, gd0, gd1, decide_true, Bool.and_self, vT]))
  all_goals (first | ((first | refine ⟨_, ?_, rfl⟩ | refine ⟨_, ?_, rfl, rfl⟩ | refine ⟨_, ?_⟩); (first | exact Sg.sub.refl _ | ((repeat (first | exact Sg.sub.refl _ | refine Sg.sub.set_both ?_ | refine Sg.sub.set_fresh ?_ (by first | assumption | exact Sg.set_none (by assumption) (by first | assumption | (apply Go.Cert.ne_of2a; assumption; assumption))))); done) | (intro y p hy; simp only [Sg.set_apply, Sg.del_apply] at hy ⊢; grind))) | (exfalso; omega))
set_option maxHeartbeats 1000000 in
set_option maxRecDepth 100000 in
theorem c3 (b : By) (hb : b.length < 2 ^ 62) (σ : Sg) : VCalls Try.prog 3 [.s (bs b)] σ (fun x σ' => x = .b true ∧ σ' = σ) := by
  obtain ⟨z30, h30, hz30⟩ := zero30
  obtain ⟨z27, h27, hz27⟩ := zero27
  simp only [ex0, exK_mk, exsA_nil] at hz27
  have h5 := c5
  have h6 := p6 b
  have hs : (bs b).size = b.length := bs_size b
  have hs2 : (bs (40 :: b)).size = b.length + 1 := bs_size _
  have h6b : ∀ σ, VCalls Try.prog 6 [.s (bs (40 :: (b ++ [10, 41])))] σ _ := fun σ => p6 (40 :: (b ++ [10, 41])) σ
  have ha1 : bs [40] ++ bs b = bs (40 :: b) := bs_append _ _
  have ha2 : bs (40 :: b) ++ bs [10, 41] = bs (40 :: (b ++ [10, 41])) := bs_append _ _
  have hbr := fun h1 h2 => brackets_all (s := b) h1 h2
  have hSm := p7 (sm_oneAll b)
  have hel := exA_len (oneAll b).1
  have hoo := exA_one (oneAll b).1
  have ht := exA_take (oneAll b).1
  have hd := exA_drop (oneAll b).1
  have hel2 := exA_len (oneAll (40 :: (b ++ [10, 41]))).1
  have hoo2 := exA_one (oneAll (40 :: (b ++ [10, 41]))).1
  have ht2 := exA_take (oneAll (40 :: (b ++ [10, 41]))).1
  have hd2 := exA_drop (oneAll (40 :: (b ++ [10, 41]))).1
  generalize (oneAll (40 :: (b ++ [10, 41]))).1 = e2 at *
  generalize (oneAll (40 :: (b ++ [10, 41]))).2.1 = c2 at *
  generalize (oneAll (40 :: (b ++ [10, 41]))).2.2 = a2 at *
  generalize (oneAll b).1 = e1 at *
  generalize (oneAll b).2.1 = c1 at *
  generalize (oneAll b).2.2 = a1 at *
  have hb2 : b.length ≤ 1996 → c1 = 0 → c2 = 10 ∨ c2 = 0 := fun h1 h2 => (hbr h1 h2).imp id And.left
  have h7 : ∀ σ, b.length ≤ 1996 → c1 = 0 → ¬ c2 = 10 → VCalls Try.prog 7 [.agg (exA e1), .agg (exA e2)] σ (fun x σ' => x = .b true ∧ σ' = σ) := fun σ h1 h2 h3 => by
    rcases hbr h1 h2 with h | h
    · exact absurd h h3
    · rw [h.2]; exact hSm σ
  (refine vfun (fun _ => .no) mixed Try.func3 (by kernel_rfl) ?_; simp only [bodyOf, Try.f3, Option.getD_some])
  repeat' (first | with_reducible rfl | exact .inr trivial | with_reducible apply And.intro | with_reducible apply vqx_step | with_reducible apply vqm_step | with_reducible refine vkp_free (by decide +kernel) ?_ | with_reducible intro _ | ((first | (with_reducible first | refine .rs ?_ | refine .ds (by kernel_rfl) ?_ | refine .dg (by kernel_rfl) ?_ | refine .rg ?_ | refine .ite ?_ | refine .ret ?_ | refine .skip ?_ | refine .exit ?_ | refine .scope ?_ | refine .seq (.label ?_) | refine .block ?_ | refine .seq ?_) | (simp (disch := first | assumption | (apply Go.Cert.ne_of2; assumption; assumption) | (apply Go.Cert.ne_ob; assumption; assumption; (intro e; cases e; done)) | omega) only [w64, w8, tg_eq, Go.V.n1, Go.V.n2, Go.V.nn, Int.tdiv_eq_ediv_of_nonneg, Sg.set_same, Sg.set_ne, Sg.set_ne', Sg.del_ne, Sg.del_ne']) | ((with_reducible refine VCalls.mono (h5 _) ?_); rintro _ S ⟨rfl, rfl⟩) | ((with_reducible refine VCalls.mono (h6 _) ?_); rintro _ S ⟨rfl, rfl⟩) | ((with_reducible refine VCalls.mono (h6b _) ?_); rintro _ S ⟨rfl, rfl⟩) | ((with_reducible refine VCalls.mono (h7 _ (by omega) (by assumption) (by assumption)) ?_); rintro _ S ⟨rfl, rfl⟩) | (refine vlo_app (by first | assumption | ((simp (disch := first | assumption | (apply Go.Cert.ne_of2; assumption; assumption) | (apply Go.Cert.ne_ob; assumption; assumption; (intro e; cases e; done)) | omega) only [Sg.set_same, Sg.set_ne, Sg.set_ne', Sg.del_ne, Sg.del_ne']); first | done | rfl | assumption)) ?_) | (refine vst_app (by first | assumption | ((simp (disch := first | assumption | (apply Go.Cert.ne_of2; assumption; assumption) | (apply Go.Cert.ne_ob; assumption; assumption; (intro e; cases e; done)) | omega) only [Sg.set_same, Sg.set_ne, Sg.set_ne', Sg.del_ne, Sg.del_ne']); first | done | rfl | assumption)) ?_)); (try simp only [vO, vQ, ↓vP, vE, vS, vB, vL, vF, vM, vN, vbs_full, Nat.reduceEqDiff, Nat.reduceAdd, Nat.reduceLeDiff, ne_eq, not_false_eq_true, Nat.reduceMul, Nat.reduceSub, Int.toNat_zero, Int.reduceToNat, Try.underlying3, info3, Try.underlying4, info4, Try.underlying9, info9, Try.underlying28, info28, Try.underlying30, h30, hz30, Try.underlying27, h27, hz27, Try.underlying25, info25, hel, hoo, ht, hd, hel2, hoo2, ht2, hd2, hs, hs2, ha1, ha2, vT])) | with_reducible refine vfresh_set ?_ | with_reducible refine vfresh_intro (fun _ _ => ?_) | with_reducible refine vif_intro (fun _ => ?_) (fun _ => ?_) | omega | ((with_reducible first | refine vop_at ?_ | refine vops_at ?_ | refine vquiet_at ?_ | refine vmix_at ?_ | refine Holds_at ?_); simp only [vO, vQ, ↓vP, vE, vS, vB, vL, vF, vM, vN, vbs_full, Nat.reduceEqDiff, Nat.reduceAdd, Nat.reduceLeDiff, ne_eq, not_false_eq_true, Nat.reduceMul, Nat.reduceSub, Int.toNat_zero, Int.reduceToNat, Try.underlying3, info3, Try.underlying4, info4, Try.underlying9, info9, Try.underlying28, info28, Try.underlying30, h30, hz30, Try.underlying27, h27, hz27, Try.underlying25, info25, hel, hoo, ht, hd, hel2, hoo2, ht2, hd2, hs, hs2, ha1, ha2, vT]))
  all_goals (first | ((first | refine ⟨_, ?_, rfl⟩ | refine ⟨_, ?_, rfl, rfl⟩ | refine ⟨_, ?_⟩); (first | exact Sg.sub.refl _ | ((repeat (first | exact Sg.sub.refl _ | refine Sg.sub.set_both ?_ | refine Sg.sub.set_fresh ?_ (by first | assumption | exact Sg.set_none (by assumption) (by first | assumption | (apply Go.Cert.ne_of2a; assumption; assumption))))); done) | (intro y p hy; simp only [Sg.set_apply, Sg.del_apply] at hy ⊢; grind))) | (exfalso; omega))
end Go.Proofs.Ytmokgifgnpocaaa

/- Reading on, for statements: what stands behind a script that was read whole changes nothing of it. -/
set_option linter.unusedVariables false
namespace Go.Parse
open Go.V Go.Lex Go.Proofs.Ytmokgifgnpocaaa
/-- Two readers at the outermost depth: the one ends where the other has a sign w. -/
structure S0 (w : By) (s s' : Rd) : Prop where
  sim : Sim 0 w s s'
  d : s.d = 0
variable {w : By} {β : Type}
theorem S0.has {s s' : Rd} (h : S0 w s s') {v : By} (hv : w ≠ v) : s'.has v = s.has v := by
  unfold Rd.has
  rw [h.sim.is [v] (by simpa using hv)]
theorem S0.ok {s s' t t' : Rd} (h : S0 w s s') (o : Ok s t) (k : Sim 0 w t t') : S0 w t t' := ⟨k, o.d.trans h.d⟩
theorem S0.pass {s s' : Rd} (h : S0 w s s') {ws : List By} (hw : w ∉ ws) : s'.is ws = s.is ws ∧ S0 w (s.pass ws) (s'.pass ws) := by
  have hi := h.sim.is ws hw
  refine ⟨hi, h.ok (ok_pass h.sim.wf) ?_⟩
  unfold Rd.pass
  rw [hi]
  split
  · exact h.sim.nextIs ‹_›
  · exact h.sim
theorem S0.pass1 {s s' : Rd} (h : S0 w s s') {v : By} (hv : w ≠ v) : S0 w (s.pass [v]) (s'.pass [v]) := (h.pass (by simpa using hv)).2
theorem S0.must {s s' : Rd} (h : S0 w s s') {ws : List By} (hc : (s.must ws).c = 0) : S0 w (s.must ws) (s'.must ws) := h.ok (ok_must ws s h.sim.wf) (Sim.must (s := s) (s' := s') ws h.sim hc)
theorem S0.take {s s' : Rd} (h : S0 w s s') {k : Nat} (hk : k ≠ 6) (hc : (s.take k).c = 0) : S0 w (s.take k) (s'.take k) ∧ (s'.tok k).2.1 = (s.tok k).2.1 ∧ (s'.tok k).2.2.1 = (s.tok k).2.2.1 := by
  obtain ⟨g1, g2, g3⟩ := h.sim.take hk hc
  exact ⟨h.ok (ok_take h.sim.wf hk) g1, g2, g3⟩
theorem S0.wf {s s' : Rd} (h : S0 w s s') : WF s.l := h.sim.wf
/-- What F reads, it reads there too. -/
def SG (w : By) (F : Rd → β × Rd) : Prop := ∀ s s', S0 w s s' → (F s).2.c = 0 → (F s').1 = (F s).1 ∧ S0 w (F s).2 (F s').2
variable (hw : Dead w)
include hw
theorem Dead.ne {v : By} (h1 : v ≠ [41]) (h2 : v ≠ [59]) : w ≠ v := by
  rcases hw with rfl | rfl
  · exact h1.symm
  · exact h2.symm
theorem Dead.nin {ws : List By} (h1 : [41] ∉ ws) (h2 : [59] ∉ ws) : w ∉ ws := by
  rcases hw with rfl | rfl <;> assumption
theorem sg_exp : SG w exp := fun s s' h hc => by
  rcases (sim_dp (δ := 0) hw (by decide) 11 11 0 (by decide) (by decide) (by decide) (by decide)).ex s s' h.d h.sim hc with ⟨q, _⟩ | ⟨q1, q2⟩
  · exact absurd rfl q
  · exact ⟨q1, h.ok (nice_exp s h.wf) q2⟩
theorem sg_column : SG w Rd.column := fun s s' h hc => by
  rcases sim_column (δ := 0) (d := 0) (hw.ne (by decide) (by decide)) s s' h.d h.sim hc with ⟨q, _⟩ | ⟨q1, q2⟩
  · exact absurd rfl q
  · exact ⟨q1, h.ok (nice_column s h.wf) q2⟩
theorem sg_maybe {v : By} (h1 : v ≠ [41]) (h2 : v ≠ [59]) : SG w (maybeL v) := fun s s' h hc => by
  have e1 := h.has (hw.ne h1 h2)
  have e2 := h.pass1 (hw.ne h1 h2)
  unfold maybeL at hc ⊢
  rw [e1]
  cases hb : s.has v <;> simp only [hb, if_true, Bool.false_eq_true, if_false] at hc ⊢
  · exact ⟨trivial, e2⟩
  · obtain ⟨q1, q2⟩ := sg_exp hw _ _ e2 hc
    exact ⟨by rw [q1], q2⟩
theorem sg_by {v : By} (h1 : v ≠ [41]) (h2 : v ≠ [59]) : SG w (byL v) := fun s s' h hc => by
  have e1 := h.has (hw.ne h1 h2)
  have e2 := h.pass1 (hw.ne h1 h2)
  unfold byL at hc ⊢
  rw [e1]
  cases hb : s.has v <;> simp only [hb, if_true, Bool.false_eq_true, if_false] at hc ⊢
  · exact ⟨trivial, e2⟩
  · have o := ok_must [[66, 89]] (s.pass [v]) e2.wf
    have e3 := e2.must (c0_of (nice_column _ o.wf) hc)
    obtain ⟨q1, q2⟩ := sg_column hw _ _ e3 hc
    exact ⟨by rw [q1], q2⟩
theorem sg_coKind : SG w coKind := fun s s' h hc => by
  obtain ⟨e1, e2⟩ := h.pass (ws := wTypes) (hw.nin (by decide) (by decide))
  unfold coKind at hc ⊢
  rw [e1]
  by_cases hk : s.is wTypes = -1
  · rw [if_pos hk] at hc
    exact absurd hc (fail_c (by decide))
  · simp only [if_neg hk] at hc ⊢
    exact ⟨trivial, e2⟩
theorem sg_coNull : SG w coNull := fun s s' h hc => by
  have e1 := h.has (v := [78, 79, 84]) (hw.ne (by decide) (by decide))
  have e2 := h.pass1 (v := [78, 79, 84]) (hw.ne (by decide) (by decide))
  unfold coNull at hc ⊢
  rw [e1]
  cases hb : s.has [78, 79, 84] <;> simp only [hb, if_true, Bool.false_eq_true, if_false] at hc ⊢
  · exact ⟨trivial, e2⟩
  · exact ⟨trivial, e2.must hc⟩
theorem sg_columnOf : SG w Rd.columnOf := fun s s' h hc => by
  have o1 := ok_take (k := 1) h.wf (by decide)
  have o2 := nice_coKind _ o1.wf
  have o3 := nice_coNull _ o2.wf
  have o4 := ok_pass (ws := [[85, 78, 73, 81, 85, 69]]) o3.wf
  have c3 := c0_of o4 hc
  have c2 := c0_of o3 c3
  have c1 := c0_of o2 c2
  obtain ⟨e1, t1, _⟩ := h.take (k := 1) (by decide) c1
  obtain ⟨t2, e2⟩ := sg_coKind hw _ _ e1 c2
  obtain ⟨t3, e3⟩ := sg_coNull hw _ _ e2 c3
  have t4 := e3.has (v := [85, 78, 73, 81, 85, 69]) (hw.ne (by decide) (by decide))
  refine ⟨?_, e3.pass1 (hw.ne (by decide) (by decide))⟩
  unfold Rd.columnOf
  simp only [t1, t2, t3, t4]
theorem sg_litV : SG w litV := fun s s' h hc => by
  obtain ⟨e1, e2, e3⟩ := h.sim.lit (hw.ne (by decide) (by decide)) (hw.ne (by decide) (by decide))
  unfold litV at hc ⊢
  rw [e1, e2]
  cases hb : s.lit.2.1 <;> simp only [hb, if_true, Bool.false_eq_true, if_false] at hc ⊢
  · exact absurd hc (fail_c (by decide))
  · exact ⟨trivial, h.ok (ok_lit h.wf) e3⟩
omit hw in
theorem sg_many {one : Rd → β × Rd} (hF : SG w one) (hN : NiceL one) {sep : By} (hs : w ≠ sep) : ∀ (k : Nat) (acc : List β) (s s' : Rd), S0 w s s' → (manyL one sep k acc s).2.c = 0 → (manyL one sep k acc s').1 = (manyL one sep k acc s).1 ∧ S0 w (manyL one sep k acc s).2 (manyL one sep k acc s').2
  | 0, acc, s, s', h, hc => by
    exfalso
    have o := ok_fail h.wf 2
    have o2 := (o.trans (hN _ o.wf))
    have c1 := c0_of (ok_pass (ws := [sep]) o2.wf) hc
    exact fail_c (s := s) (e := 2) (by decide) (c0_of (hN _ o.wf) c1)
  | k + 1, acc, s, s', h, hc => by
    have o := hN s h.wf
    have o2 := ok_pass (ws := [sep]) o.wf
    have c1 : (one s).2.c = 0 := by
      rw [manyL] at hc
      split at hc
      · exact c0_of o2 (c0_of (ok_many hN sep k _ _ o2.wf) hc)
      · exact c0_of o2 hc
    obtain ⟨t1, e1⟩ := hF s s' h c1
    have t2 := e1.has hs
    have e2 := e1.pass1 hs
    rw [manyL, manyL] at *
    rw [t2, t1]
    cases hb : (one s).2.has sep <;> simp only [hb, if_true, Bool.false_eq_true, if_false] at hc ⊢
    · exact ⟨trivial, e2⟩
    · exact sg_many hF hN hs k _ _ _ e2 hc
theorem sg_tuple : SG w tupleL := fun s s' h hc => by
  have o1 := ok_must [[40]] s h.wf
  have o2 := ok_many nice_litV [44] 8 [] _ o1.wf
  have o3 := ok_must [[41]] _ o2.wf
  have c2 := c0_of o3 hc
  have c1 := c0_of o2 c2
  have e1 := h.must c1
  obtain ⟨t2, e2⟩ := sg_many (sg_litV hw) nice_litV (sep := [44]) (hw.ne (by decide) (by decide)) 8 [] _ _ e1 c2
  exact ⟨t2, e2.must hc⟩
theorem sg_set : SG w setL := fun s s' h hc => by
  have o1 := ok_take (k := 1) h.wf (by decide)
  have o2 := ok_must [[61]] _ o1.wf
  have o3 := nice_exp _ o2.wf
  have c2 := c0_of o3 hc
  have c1 := c0_of o2 c2
  obtain ⟨e1, t1, _⟩ := h.take (k := 1) (by decide) c1
  have e2 := e1.must c2
  obtain ⟨t3, e3⟩ := sg_exp hw _ _ e2 hc
  refine ⟨?_, e3⟩
  unfold setL
  simp only [t1, t3]
theorem sg_itemB (k : Int) : SG w (itemB k) := fun s s' h hc => by
  have t1 := h.has (v := [42]) (hw.ne (by decide) (by decide))
  have e1 := h.pass1 (v := [42]) (hw.ne (by decide) (by decide))
  unfold itemB at hc ⊢
  rw [t1]
  by_cases h0 : 0 < k
  · simp only [if_pos h0] at hc ⊢
    have o1 := nice_exp s h.wf
    obtain ⟨t2, e2⟩ := sg_exp hw _ _ h (c0_of (ok_must _ _ o1.wf) hc)
    exact ⟨by rw [t2], e2.must hc⟩
  · simp only [if_neg h0] at hc ⊢
    cases hb : s.has [42] <;> simp only [hb, if_true, Bool.false_eq_true, if_false] at hc ⊢
    · have o1 := nice_exp _ e1.wf
      obtain ⟨t2, e2⟩ := sg_exp hw _ _ e1 (c0_of (ok_must _ _ o1.wf) hc)
      exact ⟨by rw [t2], e2.must hc⟩
    · exact ⟨trivial, e1.must hc⟩
theorem sg_item : SG w itemL := fun s s' h hc => by
  obtain ⟨t1, e1⟩ := h.pass (ws := wItems) (hw.nin (by decide) (by decide))
  unfold itemL at hc ⊢
  rw [t1]
  by_cases h0 : s.is wItems < 0
  · simp only [if_pos h0] at hc ⊢
    obtain ⟨t2, e2⟩ := sg_exp hw _ _ e1 hc
    exact ⟨by rw [t2], e2⟩
  · simp only [if_neg h0] at hc ⊢
    by_cases h4 : s.is wItems = 4
    · simp only [if_pos h4] at hc ⊢
      exact ⟨trivial, e1⟩
    · simp only [if_neg h4] at hc ⊢
      have o2 := ok_must [[40]] _ e1.wf
      have e2 := e1.must (c0_of (nice_itemB _ _ o2.wf) hc)
      exact sg_itemB hw _ _ _ e2 hc
theorem sg_cols : ∀ (k : Nat) (acc : List Co) (s s' : Rd), S0 w s s' → (colsL k acc s).2.c = 0 → (colsL k acc s').1 = (colsL k acc s).1 ∧ S0 w (colsL k acc s).2 (colsL k acc s').2 := by
  have base : ∀ (acc : List Co) (s s' : Rd), S0 w s s' → colsMore acc s' = colsMore acc s ∧ S0 w (colsAt acc s) (colsAt acc s') := fun acc s s' h => by
    have c1 := h.sim.c
    have c2 := h.sim.c'
    have t1 := h.has (v := [80, 82, 73, 77, 65, 82, 89]) (hw.ne (by decide) (by decide))
    have e1 := h.pass1 (v := [80, 82, 73, 77, 65, 82, 89]) (hw.ne (by decide) (by decide))
    unfold colsMore colsAt
    rw [c1, c2, t1]
    refine ⟨rfl, ?_⟩
    by_cases ha : acc = []
    · rw [if_neg (fun hh => hh.2 ha), if_neg (fun hh => hh.2 ha)]; exact h
    · rw [if_pos ⟨rfl, ha⟩, if_pos ⟨rfl, ha⟩]; exact e1
  intro k
  induction k with
  | zero =>
    intro acc s s' h hc
    obtain ⟨t1, e1⟩ := base acc s s' h
    unfold colsL at hc ⊢
    rw [t1]
    cases hm : colsMore acc s <;> simp only [hm, if_true, Bool.false_eq_true, if_false] at hc ⊢
    · exact ⟨trivial, e1⟩
    · exfalso
      have o := ok_fail e1.wf 2
      have o2 := nice_columnOf _ o.wf
      exact fail_c (s := colsAt acc s) (e := 2) (by decide) (c0_of o2 (c0_of (ok_must _ _ o2.wf) hc))
  | succ k ih =>
    intro acc s s' h hc
    obtain ⟨t1, e1⟩ := base acc s s' h
    rw [colsL, colsL] at *
    rw [t1]
    cases hm : colsMore acc s <;> simp only [hm, if_true, Bool.false_eq_true, if_false] at hc ⊢
    · exact ⟨trivial, e1⟩
    · have o2 := nice_columnOf _ e1.wf
      have o3 := ok_must [[44]] _ o2.wf
      have c3 := c0_of (ok_cols k _ _ o3.wf) hc
      obtain ⟨t2, e2⟩ := sg_columnOf hw _ _ e1 (c0_of o3 c3)
      rw [t2]
      exact ih _ _ _ (e2.must c3) hc
theorem sg_create : SG w createL := fun s s' h hc => by
  have oA := ok_crA h.wf
  have oA1 := ok_take (k := 1) oA.wf (by decide)
  have oB := ok_must [[40]] _ oA1.wf
  have oC := ok_cols 8 [] _ oB.wf
  have oD := ok_must [[75, 69, 89], [40]] _ oC.wf
  have oD1 := ok_take (k := 1) oD.wf (by decide)
  have oE := ok_must [[41], [41]] _ oD1.wf
  have cD1 := c0_of oE hc
  have cD := c0_of oD1 cD1
  have cC := c0_of oD cD
  have cB := c0_of oC cC
  have cA1 := c0_of oB cB
  have cA := c0_of oA1 cA1
  have eA := h.must (ws := [[84, 65, 66, 76, 69]]) cA
  obtain ⟨eA1, tA, _⟩ := eA.take (k := 1) (by decide) cA1
  have eB := eA1.must (ws := [[40]]) cB
  obtain ⟨tC, eC⟩ := sg_cols hw 8 [] _ _ eB cC
  have eD := eC.must (ws := [[75, 69, 89], [40]]) cD
  obtain ⟨eD1, tD, _⟩ := eD.take (k := 1) (by decide) cD1
  refine ⟨?_, eD1.must hc⟩
  unfold createL
  have t1 : ((crA s').tok 1).2.1 = ((crA s).tok 1).2.1 := tA
  have t2 : (crC s').1 = (crC s).1 := tC
  have t3 : ((crD s').tok 1).2.1 = ((crD s).tok 1).2.1 := tD
  simp only [t1, t2, t3]
omit hw in
theorem sg_drop : SG w dropL := fun s s' h hc => by
  have o1 := ok_must [[84, 65, 66, 76, 69]] s h.wf
  have o2 := ok_take (k := 1) o1.wf (by decide)
  have e1 := h.must (c0_of o2 hc)
  obtain ⟨e2, t2, _⟩ := e1.take (k := 1) (by decide) hc
  refine ⟨?_, e2⟩
  unfold dropL
  simp only [t2]
theorem sg_insert : SG w insertL := fun s s' h hc => by
  have oA := ok_must [[73, 78, 84, 79]] s h.wf
  have oA1 := ok_take (k := 1) oA.wf (by decide)
  have oB := ok_must [[86, 65, 76, 85, 69, 83]] _ oA1.wf
  have oC := ok_many nice_tuple [44] 16 [] _ oB.wf
  have cB := c0_of oC hc
  have cA1 := c0_of oB cB
  have eA := h.must (c0_of oA1 cA1)
  obtain ⟨eA1, tA, _⟩ := eA.take (k := 1) (by decide) cA1
  have eB := eA1.must (ws := [[86, 65, 76, 85, 69, 83]]) cB
  obtain ⟨tC, eC⟩ := sg_many (sg_tuple hw) nice_tuple (sep := [44]) (hw.ne (by decide) (by decide)) 16 [] _ _ eB hc
  refine ⟨?_, eC⟩
  have t1 : ((inA s').tok 1).2.1 = ((inA s).tok 1).2.1 := tA
  have t2 : (inB s').1 = (inB s).1 := tC
  unfold insertL
  simp only [t1, t2]
theorem sg_update : SG w updateL := fun s s' h hc => by
  have oA := ok_take (k := 1) h.wf (by decide)
  have oB := ok_must [[83, 69, 84]] _ oA.wf
  have oC := ok_many nice_set [44] 8 [] _ oB.wf
  have oD := nice_maybe [87, 72, 69, 82, 69] _ oC.wf
  have cC := c0_of oD hc
  have cB := c0_of oC cC
  have cA := c0_of oB cB
  obtain ⟨eA, tA, _⟩ := h.take (k := 1) (by decide) cA
  have eB := eA.must (ws := [[83, 69, 84]]) cB
  obtain ⟨tC, eC⟩ := sg_many (sg_set hw) nice_set (sep := [44]) (hw.ne (by decide) (by decide)) 8 [] _ _ eB cC
  obtain ⟨tD, eD⟩ := sg_maybe hw (v := [87, 72, 69, 82, 69]) (by decide) (by decide) _ _ eC hc
  refine ⟨?_, eD⟩
  have t2 : (upA s').1 = (upA s).1 := tC
  have t3 : (maybeL [87, 72, 69, 82, 69] (upA s').2).1 = (maybeL [87, 72, 69, 82, 69] (upA s).2).1 := tD
  unfold updateL
  simp only [tA, t2, t3]
theorem sg_remove : SG w removeL := fun s s' h hc => by
  have o1 := ok_must [[70, 82, 79, 77]] s h.wf
  have o2 := ok_take (k := 1) o1.wf (by decide)
  have o3 := nice_maybe [87, 72, 69, 82, 69] _ o2.wf
  have c2 := c0_of o3 hc
  have e1 := h.must (c0_of o2 c2)
  obtain ⟨e2, t2, _⟩ := e1.take (k := 1) (by decide) c2
  obtain ⟨t3, e3⟩ := sg_maybe hw (v := [87, 72, 69, 82, 69]) (by decide) (by decide) _ _ e2 hc
  refine ⟨?_, e3⟩
  unfold removeL
  simp only [t2, t3]
theorem sg_join {s s' : Rd} (h : S0 w s s') (hc : (joinL s).2.2.c = 0) : (joinL s').1 = (joinL s).1 ∧ (joinL s').2.1 = (joinL s).2.1 ∧ S0 w (joinL s).2.2 (joinL s').2.2 := by
  have t1 := h.has (v := [74, 79, 73, 78]) (hw.ne (by decide) (by decide))
  have e1 := h.pass1 (v := [74, 79, 73, 78]) (hw.ne (by decide) (by decide))
  unfold joinL at hc ⊢
  rw [t1]
  cases hb : s.has [74, 79, 73, 78] <;> simp only [hb, if_true, Bool.false_eq_true, if_false] at hc ⊢
  · exact ⟨trivial, trivial, e1⟩
  · have oA := ok_take (k := 1) e1.wf (by decide)
    have oB := ok_must [[79, 78]] _ oA.wf
    have cB := c0_of (nice_exp _ oB.wf) hc
    have cA := c0_of oB cB
    obtain ⟨e2, t2, _⟩ := e1.take (k := 1) (by decide) cA
    have e3 := e2.must (ws := [[79, 78]]) cB
    obtain ⟨t4, e4⟩ := sg_exp hw _ _ e3 hc
    have t4' : (exp (joinB s')).1 = (exp (joinB s)).1 := t4
    exact ⟨t2, by rw [t4'], e4⟩
theorem sg_desc (o : List Ex) : SG w (descL o) := fun s s' h hc => by
  have t1 := h.has (v := [68, 69, 83, 67]) (hw.ne (by decide) (by decide))
  have e1 := h.pass1 (v := [68, 69, 83, 67]) (hw.ne (by decide) (by decide))
  unfold descL at hc ⊢
  rw [t1]
  by_cases ho : o = []
  · simp only [if_pos ho] at hc ⊢; exact ⟨trivial, h⟩
  · simp only [if_neg ho] at hc ⊢; exact ⟨trivial, e1⟩
theorem sg_lim : SG w limL := fun s s' h hc => by
  have t1 := h.has (v := [76, 73, 77, 73, 84]) (hw.ne (by decide) (by decide))
  have e1 := h.pass1 (v := [76, 73, 77, 73, 84]) (hw.ne (by decide) (by decide))
  unfold limL at hc ⊢
  rw [t1]
  cases hb : s.has [76, 73, 77, 73, 84] <;> simp only [hb, if_true, Bool.false_eq_true, if_false] at hc ⊢
  · exact ⟨trivial, e1⟩
  · obtain ⟨e2, _, t2⟩ := e1.take (k := 3) (by decide) hc
    exact ⟨by rw [t2], e2⟩
theorem sg_choose : SG w chooseL := fun s s' h hc => by
  have oB := ok_seB h.wf
  have oB1 := ok_take (k := 1) oB.wf (by decide)
  have oC := ok_join oB1.wf
  have oD := nice_maybe [87, 72, 69, 82, 69] _ oC.wf
  have oE := nice_by [71, 82, 79, 85, 80] _ oD.wf
  have oF := nice_by [79, 82, 68, 69, 82] _ oE.wf
  have oG := nice_desc (seF s).1 _ oF.wf
  have oH := nice_lim _ oG.wf
  have cG := c0_of oH hc
  have cF := c0_of oG cG
  have cE := c0_of oF cF
  have cD := c0_of oE cE
  have cC := c0_of oD cD
  have cB1 := c0_of oC cC
  have cB := c0_of oB1 cB1
  have cA := c0_of (ok_must [[70, 82, 79, 77]] _ (ok_seA h.wf).wf) cB
  obtain ⟨tA, eA⟩ := sg_many (sg_item hw) nice_item (sep := [44]) (hw.ne (by decide) (by decide)) 8 [] _ _ h cA
  have eB := eA.must (ws := [[70, 82, 79, 77]]) cB
  obtain ⟨eB1, tB, _⟩ := eB.take (k := 1) (by decide) cB1
  obtain ⟨tC, tC2, eC⟩ := sg_join hw eB1 cC
  obtain ⟨tD, eD⟩ := sg_maybe hw (v := [87, 72, 69, 82, 69]) (by decide) (by decide) _ _ eC cD
  obtain ⟨tE, eE⟩ := sg_by hw (v := [71, 82, 79, 85, 80]) (by decide) (by decide) _ _ eD cE
  obtain ⟨tF, eF⟩ := sg_by hw (v := [79, 82, 68, 69, 82]) (by decide) (by decide) _ _ eE cF
  have tF' : (seF s').1 = (seF s).1 := tF
  obtain ⟨tG, eG⟩ := sg_desc hw (seF s).1 _ _ eF cG
  have hG : ∀ x, seG x = descL (seF x).1 (seF x).2 := fun x => rfl
  have tG' : (seG s').1 = (seG s).1 := by rw [hG, hG, tF']; exact tG
  have eG' : S0 w (seG s).2 (seG s').2 := by rw [hG, hG, tF']; exact eG
  obtain ⟨tH, eH⟩ := sg_lim hw _ _ eG' hc
  refine ⟨?_, eH⟩
  have t1 : ((seB s').tok 1).2.1 = ((seB s).tok 1).2.1 := tB
  have t2 : (seA s').1 = (seA s).1 := tA
  have t3 : (seC s').1 = (seC s).1 := tC
  have t4 : (seC s').2.1 = (seC s).2.1 := tC2
  have t5 : (seD s').1 = (seD s).1 := tD
  have t6 : (seE s').1 = (seE s).1 := tE
  have t7 : (seH s').1 = (seH s).1 := tH
  unfold chooseL
  simp only [t1, t2, t3, t4, t5, t6, tF', tG', t7]
theorem sg_stateK (k : Int) : SG w (stateK k) := fun s s' h hc => by
  unfold stateK at hc ⊢
  by_cases hm : k = -1
  · simp only [if_pos hm] at hc
    exact absurd hc (fail_c (by decide))
  simp only [if_neg hm] at hc ⊢
  by_cases h0 : k = 0
  · simp only [if_pos h0] at hc ⊢; exact sg_create hw _ _ h hc
  simp only [if_neg h0] at hc ⊢
  by_cases h1 : k = 1
  · simp only [if_pos h1] at hc ⊢; exact sg_drop _ _ h hc
  simp only [if_neg h1] at hc ⊢
  by_cases h2 : k = 2
  · simp only [if_pos h2] at hc ⊢; exact sg_insert hw _ _ h hc
  simp only [if_neg h2] at hc ⊢
  by_cases h3 : k = 3
  · simp only [if_pos h3] at hc ⊢; exact sg_update hw _ _ h hc
  simp only [if_neg h3] at hc ⊢
  by_cases h4 : k = 4
  · simp only [if_pos h4] at hc ⊢; exact sg_remove hw _ _ h hc
  simp only [if_neg h4] at hc ⊢
  by_cases h5 : k = 5
  · simp only [if_pos h5] at hc ⊢; exact sg_choose hw _ _ h hc
  simp only [if_neg h5] at hc ⊢
  exact ⟨trivial, h⟩
theorem sg_state : SG w stateL := fun s s' h hc => by
  obtain ⟨t1, e1⟩ := h.pass (ws := wKinds) (hw.nin (by decide) (by decide))
  unfold stateL at hc ⊢
  rw [t1]
  exact sg_stateK hw _ _ _ e1 hc
end Go.Parse

/- What stands behind a whole script is at fault: the plain law. -/
set_option linter.unusedVariables false
namespace Go.Parse
open Go.V Go.Lex Go.Proofs.Ytmokgifgnpocaaa
theorem S0.behind {w : By} {s s' : Rd} (h : S0 w s s') (h6 : (hd s.l).1 = 6) : ∃ z r, s'.l = [z, r] ∧ z.1 = 5 ∧ z.2.1 = w := by
  obtain ⟨i, j, e, z, r, h1, h2, h3, h4, h5, h7, h8, h9⟩ := h.sim.l
  have hi : i = [] := by
    cases i with
    | nil => rfl
    | cons x i =>
      have : hd s.l = x := by rw [h1]; rfl
      exact absurd (this ▸ h6) (h8 x (by simp))
  subst hi
  cases h3
  match r, h9 with
  | [x], _ => exact ⟨z, x, h2, h5, h7⟩
theorem suf_last {l' : List Tk} {i : List Tk} {z e z0 e0 : Tk} (h : [z0, e0] <:+ i ++ [z, e]) : z0 = z ∧ e0 = e := by
  have h2 : [z, e] <:+ i ++ [z, e] := List.suffix_append _ _
  have h3 := List.suffix_of_suffix_length_le h h2 (by simp)
  have h4 := h3.eq_of_length (by simp)
  cases h4
  exact ⟨rfl, rfl⟩
theorem fail_a {s : Rd} {e : Int} (hc : s.c = 0) : s.fail e = { s with c := e, a := ((hd s.l).2.2.2 : Int) } := if_pos hc
theorem has_end {s : Rd} {v : By} (h : (hd s.l).1 = 6) : s.has v = false := by
  unfold Rd.has
  rw [is_end h]
  decide
/-- Behind the last sign: a statement that is missing. -/
theorem semi_end {sep : By} {k : Nat} {acc : List Stm} {s : Rd} (hc : s.c = 0) (hw : WF s.l) (h6 : (hd s.l).1 = 6) :
    (manyL stateL sep k acc s).2.a = (hd s.l).2.2.2 ∧ ((manyL stateL sep k acc s).2.c = 4 ∨ ((manyL stateL sep k acc s).2.c = 2 ∧ k = 0)) := by
  cases k with
  | zero =>
    have o := ok_fail hw 2
    have e := fail_a (e := 2) hc
    have ne : (s.fail 2).c ≠ 0 := fail_c (by decide)
    have o2 := nice_state _ o.wf
    have o3 := o2.trans (ok_pass (ws := [sep]) o2.wf)
    obtain ⟨q1, q2⟩ := o3.c ne
    have hcc : (s.fail 2).c = 2 := by rw [e]
    have haa : (s.fail 2).a = (hd s.l).2.2.2 := by rw [e]
    refine ⟨q2.trans haa, .inr ⟨q1.trans hcc, rfl⟩⟩
  | succ k =>
    have hi : s.is wKinds = -1 := is_end h6
    have hp : s.pass wKinds = s := by unfold Rd.pass; rw [if_neg (by omega)]
    have hs : stateL s = (stm0, s.fail 4) := by
      unfold stateL
      rw [hi, hp]
      rfl
    have e := fail_a (e := 4) hc
    have hb : (s.fail 4).has sep = false := by
      unfold Rd.has
      refine decide_eq_false (fun hk => fail_c (s := s) (e := 4) (by decide) (is_pos hk).1)
    rw [manyL, hs]
    simp only [hb, Bool.false_eq_true, if_false, has_pass hb]
    rw [e]
    exact ⟨rfl, .inl rfl⟩
theorem semi_many : ∀ (k : Nat) (acc : List Stm) (s s' : Rd), S0 [59] s s' → (manyL stateL [59] k acc s).2.c = 0 → (hd (manyL stateL [59] k acc s).2.l).1 = 6 →
    ∃ z e, [z, e] <:+ s'.l ∧ (manyL stateL [59] k acc s').2.a = e.2.2.2 ∧ ((manyL stateL [59] k acc s').2.c = 4 ∨ ((manyL stateL [59] k acc s').2.c = 2 ∧ (manyL stateL [59] k acc s).1.length = acc.length + k))
  | 0, acc, s, s', h, hc, h6 => by
    exfalso
    have o := ok_fail h.wf 2
    have o2 := (o.trans (nice_state _ o.wf))
    exact fail_c (s := s) (e := 2) (by decide) (c0_of (nice_state _ o.wf) (c0_of (ok_pass (ws := [[59]]) o2.wf) hc))
  | k + 1, acc, s, s', h, hc, h6 => by
    have o := nice_state s h.wf
    have o' := nice_state s' h.sim.wf'
    have o2 := ok_pass (ws := [[59]]) o.wf
    have c1 : (stateL s).2.c = 0 := by
      rw [manyL] at hc
      split at hc
      · exact c0_of o2 (c0_of (ok_many nice_state [59] k _ _ o2.wf) hc)
      · exact c0_of o2 hc
    obtain ⟨t1, e1⟩ := sg_state (w := [59]) (.inr rfl) s s' h c1
    rw [manyL] at hc h6
    by_cases hb : (stateL s).2.has [59] = true
    · obtain ⟨b1, b2⟩ := e1.sim.has hb
      have p1 : (stateL s).2.pass [[59]] = (stateL s).2.next := by rw [pass1, hb]; rfl
      have p2 : (stateL s').2.pass [[59]] = (stateL s').2.next := by rw [pass1, b1]; rfl
      rw [if_pos hb] at hc h6
      have e2 : S0 [59] ((stateL s).2.pass [[59]]) ((stateL s').2.pass [[59]]) := by
        rw [p1, p2]
        exact e1.ok (ok_has e1.wf hb) b2
      obtain ⟨z, e, g1, g2, g3⟩ := semi_many k _ _ _ e2 hc h6
      have hA : manyL stateL [59] (k + 1) acc s = manyL stateL [59] k (acc ++ [(stateL s).1]) ((stateL s).2.pass [[59]]) := by rw [manyL, if_pos hb]
      have hB : manyL stateL [59] (k + 1) acc s' = manyL stateL [59] k (acc ++ [(stateL s).1]) ((stateL s').2.pass [[59]]) := by rw [manyL, if_pos b1, t1]
      rw [hA, hB]
      refine ⟨z, e, g1.trans ((ok_pass (ws := [[59]]) o'.wf).suf.trans o'.suf), g2, ?_⟩
      rcases g3 with g3 | ⟨g3, g4⟩
      · exact .inl g3
      · refine .inr ⟨g3, ?_⟩
        rw [g4, List.length_append]
        simp
        omega
    · rw [if_neg hb] at hc h6
      have hbf : (stateL s).2.has [59] = false := by simpa using hb
      have p1 : (stateL s).2.pass [[59]] = (stateL s).2 := has_pass hbf
      rw [p1] at hc h6
      obtain ⟨z, e, g1, g2, g3⟩ := e1.behind h6
      have c2 := e1.sim.c'
      have hz : hd (stateL s').2.l = z := by rw [g1]; rfl
      have b1 : (stateL s').2.has [59] = true := by
        unfold Rd.has Rd.is
        rw [hz, if_neg (by rw [c2]; omega), g3]
        decide
      have p2 : (stateL s').2.pass [[59]] = (stateL s').2.next := by rw [pass1, b1]; rfl
      have hnl : (stateL s').2.next.l = [e] := by
        show (stateL s').2.l.tail = [e]
        rw [g1]; rfl
      have hwn : WF (stateL s').2.next.l := (ok_has o'.wf b1).wf
      have he6 : (hd (stateL s').2.next.l).1 = 6 := by
        rw [hnl] at hwn ⊢
        exact hwn
      have hA : manyL stateL [59] (k + 1) acc s = (acc ++ [(stateL s).1], (stateL s).2) := by rw [manyL, if_neg hb, p1]
      have hB : manyL stateL [59] (k + 1) acc s' = manyL stateL [59] k (acc ++ [(stateL s').1]) (stateL s').2.next := by rw [manyL, if_pos b1, p2]
      obtain ⟨q1, q2⟩ := semi_end (sep := [59]) (k := k) (acc := acc ++ [(stateL s').1]) (s := (stateL s').2.next) c2 hwn he6
      rw [hA, hB]
      refine ⟨z, e, by rw [← g1]; exact o'.suf, ?_, ?_⟩
      · rw [q1, hnl]; rfl
      · rcases q2 with q2 | ⟨q2, q3⟩
        · exact .inl q2
        · exact .inr ⟨q2, by simp [q3]⟩
theorem scriptR_eq0 (l : List Tk) : scriptR l = if ((manyL stateL [59] 8 [] (rd0 l)).2.fin).c = 0 then ((manyL stateL [59] 8 [] (rd0 l)).1, 0, 0) else ([], ((manyL stateL [59] 8 [] (rd0 l)).2.fin).c, ((manyL stateL [59] 8 [] (rd0 l)).2.fin).a) := rfl
theorem fin_bad {s : Rd} (h : s.c ≠ 0) : s.fin = s := by unfold Rd.fin; rw [if_neg (fun hh => h hh.1)]
theorem fin_good {s : Rd} (h : s.fin.c = 0) : s.c = 0 ∧ (hd s.l).1 = 6 := by
  unfold Rd.fin at h
  split at h
  · exact absurd h (fail_c (by decide))
  · rename_i hn
    exact ⟨h, Classical.byContradiction fun hne => hn ⟨h, hne⟩⟩
/-- The law, of tokens. -/
theorem behind_close {i : List Tk} {E z e : Tk} (hE : E.1 = 6) (hz : z.1 = 5) (hz2 : z.2.1 = [41]) (he : e.1 = 6) (hn : ∀ x ∈ i, x.1 ≠ 6) (hc : (scriptT (i ++ [E])).2.c = 0) :
    scriptR (i ++ [z, e]) = ([], 4, (z.2.2.2 : Int)) := by
  obtain ⟨h0, h6⟩ := fin_good hc
  have hwf : WF (i ++ [E]) := WF_app _ _ hE
  have hwf' : WF (i ++ [z, e]) := by
    have := WF_app (i ++ [z]) e he
    rwa [List.append_assoc] at this
  have hS : S0 [41] (rd0 (i ++ [E])) (rd0 (i ++ [z, e])) := ⟨⟨rfl, rfl, rfl, hwf, hwf', i, i, E, z, [e], rfl, rfl, by simpa using Tq_map id (fun x => ⟨rfl, rfl, rfl⟩) i, hE, hz, hz2, hn, rfl⟩, rfl⟩
  obtain ⟨t1, e1⟩ := sg_many (w := [41]) (sg_state (.inl rfl)) nice_state (sep := [59]) (by decide) 8 [] _ _ hS h0
  obtain ⟨z0, r0, g1, g2, g3⟩ := e1.behind h6
  have o := ok_many nice_state [59] 8 [] (rd0 (i ++ [z, e])) hwf'
  have hs := o.suf
  rw [g1] at hs
  obtain ⟨rfl, rfl⟩ := suf_last (l' := i) hs
  have hz0 : hd (manyL stateL [59] 8 [] (rd0 (i ++ [z0, r0]))).2.l = z0 := by rw [g1]; rfl
  have hf : (manyL stateL [59] 8 [] (rd0 (i ++ [z0, r0]))).2.fin = { (manyL stateL [59] 8 [] (rd0 (i ++ [z0, r0]))).2 with c := 4, a := (z0.2.2.2 : Int) } := by
    unfold Rd.fin
    rw [if_pos ⟨e1.sim.c', by rw [hz0]; omega⟩, fail_a e1.sim.c', hz0]
  rw [scriptR_eq0, hf]
  rfl
theorem behind_semi {i : List Tk} {E z e : Tk} (hE : E.1 = 6) (hz : z.1 = 5) (hz2 : z.2.1 = [59]) (he : e.1 = 6) (hn : ∀ x ∈ i, x.1 ≠ 6) (hc : (scriptT (i ++ [E])).2.c = 0) :
    scriptR (i ++ [z, e]) = ([], 4, (e.2.2.2 : Int)) ∨ (scriptR (i ++ [z, e]) = ([], 2, (e.2.2.2 : Int)) ∧ (scriptT (i ++ [E])).1.length = 8) := by
  obtain ⟨h0, h6⟩ := fin_good hc
  have hwf : WF (i ++ [E]) := WF_app _ _ hE
  have hwf' : WF (i ++ [z, e]) := by
    have := WF_app (i ++ [z]) e he
    rwa [List.append_assoc] at this
  have hS : S0 [59] (rd0 (i ++ [E])) (rd0 (i ++ [z, e])) := ⟨⟨rfl, rfl, rfl, hwf, hwf', i, i, E, z, [e], rfl, rfl, by simpa using Tq_map id (fun x => ⟨rfl, rfl, rfl⟩) i, hE, hz, hz2, hn, rfl⟩, rfl⟩
  obtain ⟨z0, e0, g1, g2, g3⟩ := semi_many 8 [] _ _ hS h0 h6
  have g1' : [z0, e0] <:+ i ++ [z, e] := g1
  obtain ⟨rfl, rfl⟩ := suf_last (l' := i) g1'
  rw [scriptR_eq0]
  have key : ∀ c : Int, c ≠ 0 → (manyL stateL [59] 8 [] (rd0 (i ++ [z0, e0]))).2.c = c → (if (manyL stateL [59] 8 [] (rd0 (i ++ [z0, e0]))).2.fin.c = 0 then ((manyL stateL [59] 8 [] (rd0 (i ++ [z0, e0]))).1, 0, 0) else ([], (manyL stateL [59] 8 [] (rd0 (i ++ [z0, e0]))).2.fin.c, (manyL stateL [59] 8 [] (rd0 (i ++ [z0, e0]))).2.fin.a)) = (([] : List Stm), c, (e0.2.2.2 : Int)) := fun c hc0 hcc => by
    rw [fin_bad (by rw [hcc]; exact hc0), if_neg (by rw [hcc]; exact hc0), hcc, g2]
  rcases g3 with g3 | ⟨g3, g4⟩
  · exact .inl (key 4 (by decide) g3)
  · exact .inr ⟨key 2 (by decide) g3, by show (manyL stateL [59] 8 [] (rd0 (i ++ [E]))).1.length = 8; simpa using g4⟩
theorem many_good {β : Type} {one : Rd → β × Rd} (hN : NiceL one) {sep : By} : ∀ (k : Nat) (acc : List β) (s : Rd), WF s.l → (manyL one sep k acc s).2.c = 0 → acc.length < (manyL one sep k acc s).1.length ∧ (manyL one sep k acc s).1.length ≤ acc.length + k
  | 0, acc, s, hw, hc => by
    exfalso
    have o := ok_fail hw 2
    have o2 := (o.trans (hN _ o.wf))
    exact fail_c (s := s) (e := 2) (by decide) (c0_of (hN _ o.wf) (c0_of (ok_pass (ws := [sep]) o2.wf) hc))
  | k + 1, acc, s, hw, hc => by
    have o := hN s hw
    rw [manyL] at hc ⊢
    split at hc
    · rename_i hb
      rw [if_pos hb]
      have := many_good hN (sep := sep) k _ _ (ok_pass (ws := [sep]) o.wf).wf hc
      simp only [List.length_append, List.length_cons, List.length_nil] at this
      omega
    · rename_i hb
      rw [if_neg hb]
      simp only [List.length_append, List.length_cons, List.length_nil]
      omega
theorem toks_close2 (a : Nat) : toks [41, 32] a = .ok [(5, [41], 0, a), (6, [], 0, a + 2)] := by
  have hb : blanks [41, 32] = 0 := blanks_stop (by decide)
  have ht : tok1 ([41, 32].drop (blanks [41, 32])) = .ok (5, [41], 0, 1) := by rw [hb]; exact tok1_cl [32]
  rw [toks_ok (by rw [hb]; decide) ht, hb]
  have h1 : blanks (([41, 32] : List UInt8).drop (0 + 1)) = 1 := by decide +kernel
  have he : toks ([41, 32].drop (0 + 1)) (a + 0 + 1) = .ok [(6, [], 0, a + 2)] := by
    rw [toks_end (by rw [h1]; decide), h1]
  rw [he]
  rfl
theorem tok1_semi : tok1 [59] = .ok (5, [59], 0, 1) := by
  have h0 : (List.getD [59] 0 0 : UInt8) = 59 := rfl
  have hf : signs.find? (fun x => hasPre x [59]) = some [59] := by simp [signs, hasPre]
  unfold tok1
  rw [h0, if_neg (by decide), if_neg (by decide), if_neg (by decide), if_neg (by decide), hf]
  rfl
theorem toks_semi (a : Nat) : toks [59] a = .ok [(5, [59], 0, a), (6, [], 0, a + 1)] := by
  have hb : blanks [59] = 0 := blanks_stop (by decide)
  have ht : tok1 ([59].drop (blanks [59])) = .ok (5, [59], 0, 1) := by rw [hb]; exact tok1_semi
  rw [toks_ok (by rw [hb]; decide) ht, hb]
  have he : toks ([59].drop (0 + 1)) (a + 0 + 1) = .ok [(6, [], 0, a + 1)] := by
    rw [toks_end (by simp)]
    have : blanks (([59] : List UInt8).drop (0 + 1)) = 0 := blanks_stop (by decide)
    rw [this]
  rw [he]
  rfl
theorem script_bad {s : List UInt8} (h : (scriptAll s).2.1 ≠ 0) : (scriptAll s).1 = [] := by
  unfold scriptAll at h ⊢
  split
  · rename_i l hl
    rw [hl] at h
    simp only at h
    unfold scriptR at h ⊢
    split
    · rename_i hc
      rw [if_pos hc] at h
      exact absurd rfl h
    · rfl
  · rfl
/-- The law, of texts. -/
theorem empty_all {s : List UInt8} (hs : s.length ≤ 1980) (h : (scriptAll s).2.1 = 0) : (1 ≤ (scriptAll s).1.length ∧ (scriptAll s).1.length ≤ 8) ∧ scriptAll (s ++ [10, 41, 32]) = ([], 4, ((s.length + 1 : Nat) : Int)) ∧
    (scriptAll (s ++ [10, 59]) = ([], 4, ((s.length + 2 : Nat) : Int)) ∨ (scriptAll (s ++ [10, 59]) = ([], 2, ((s.length + 2 : Nat) : Int)) ∧ (scriptAll s).1.length = 8)) := by
  cases hl : lexAll s with
  | error q =>
    obtain ⟨e, a⟩ := q
    have := lexAll_nz hl
    unfold scriptAll at h
    rw [hl] at h
    have h' : (e : Int) = 0 := h
    omega
  | ok l =>
    have ht : toks s 0 = .ok l := by
      unfold lexAll at hl
      rw [if_neg (by omega)] at hl
      cases ht : toks s 0 with
      | ok m => rw [ht] at hl; cases hl; rfl
      | error q => rw [ht] at hl; cases hl
    obtain ⟨i, E, rfl, hE, hn⟩ := toks_kinds s.length s 0 l (Nat.le_refl _) ht
    have hj : ∀ t, toks (s ++ 10 :: t) 0 = appE i (toks t (0 + s.length + 1)) := fun t => by
      obtain ⟨i', hi', hj⟩ := toks_join_ok s.length s t 0 _ (Nat.le_refl _) ht
      obtain ⟨rfl, _⟩ := List.append_inj' hi' rfl
      exact hj
    have j1 : toks (s ++ [10, 41, 32]) 0 = .ok (i ++ [(5, [41], 0, 0 + s.length + 1), (6, [], 0, 0 + s.length + 1 + 2)]) := by
      have := hj [41, 32]
      rw [toks_close2] at this
      exact this
    have j2 : toks (s ++ [10, 59]) 0 = .ok (i ++ [(5, [59], 0, 0 + s.length + 1), (6, [], 0, 0 + s.length + 1 + 1)]) := by
      have := hj [59]
      rw [toks_semi] at this
      exact this
    have k1 : scriptAll (s ++ [10, 41, 32]) = scriptR (i ++ [(5, [41], 0, 0 + s.length + 1), (6, [], 0, 0 + s.length + 1 + 2)]) := by
      unfold scriptAll; rw [lexAll_ok (by simp; omega) j1]
    have k2 : scriptAll (s ++ [10, 59]) = scriptR (i ++ [(5, [59], 0, 0 + s.length + 1), (6, [], 0, 0 + s.length + 1 + 1)]) := by
      unfold scriptAll; rw [lexAll_ok (by simp; omega) j2]
    have k0 : scriptAll s = scriptR (i ++ [E]) := by unfold scriptAll; rw [hl]
    have hc : (scriptT (i ++ [E])).2.c = 0 := Classical.byContradiction fun hne => by
      rw [k0] at h
      unfold scriptR at h
      rw [if_neg hne] at h
      exact hne h
    have kl : (scriptAll s).1 = (scriptT (i ++ [E])).1 := by
      rw [k0]; unfold scriptR; rw [if_pos hc]
    rw [kl, k1, k2]
    have hwf : WF (rd0 (i ++ [E])).l := WF_app _ _ hE
    refine ⟨?_, ?_, ?_⟩
    · have := many_good nice_state (sep := [59]) 8 [] (rd0 (i ++ [E])) hwf (fin_good hc).1
      have e : (scriptT (i ++ [E])).1 = (manyL stateL [59] 8 [] (rd0 (i ++ [E]))).1 := rfl
      rw [e]
      simp only [List.length_nil] at this
      omega
    · rw [behind_close hE rfl rfl rfl hn hc]
      simp
    · rcases behind_semi (z := (5, [59], 0, 0 + s.length + 1)) (e := (6, [], 0, 0 + s.length + 1 + 1)) hE rfl rfl rfl hn hc with q | ⟨q, q2⟩
      · left; rw [q]; simp; omega
      · right; rw [q]; exact ⟨by simp; omega, q2⟩
end Go.Parse

set_option linter.unusedSimpArgs false
set_option linter.unusedVariables false
namespace Go.Proofs.Ytmokgifgnpocaaa
open Go Go.V Go.Lex Go.Parse
set_option maxHeartbeats 1000000 in
set_option maxRecDepth 100000 in
theorem t4 (a b : By) (σ : Sg) (ha : a.length < 2 ^ 62) (hb : b.length < 2 ^ 62) : VCalls Try.prog 4 [.s (bs a), .s (bs b)] σ (fun x σ' => x = .b true ∧ σ' = σ) := by
  obtain ⟨z30, h30, hz30⟩ := zero30
  have h5 := c5
  have h8 : ∀ σ, VCalls Try.prog 8 [.s (bs a)] σ _ := c8 a
  have hs : (bs a).size = a.length := bs_size a
  have ha1 : bs a ++ bs [10, 41, 32] = bs (a ++ [10, 41, 32]) := bs_append _ _
  have ha2 : bs a ++ bs [10, 59] = bs (a ++ [10, 59]) := bs_append _ _
  have hlaw := fun h1 h2 => empty_all (s := a) h1 h2
  have hbad : (scriptAll a).2.1 ≠ 0 → ((scriptAll a).1.map stmA).length = 0 := fun h => by rw [script_bad h]; rfl
  have hn : a.length ≤ 1980 → (scriptAll a).2.1 = 0 → 1 ≤ ((scriptAll a).1.map stmA).length ∧ ((scriptAll a).1.map stmA).length ≤ 8 := fun h1 h2 => by
    rw [List.length_map]; exact (hlaw h1 h2).1
  have h8b : a.length ≤ 1980 → (scriptAll a).2.1 = 0 → ∀ σ, VCalls Try.prog 8 [.s (bs (a ++ [10, 41, 32]))] σ (fun x σ' => x = .tup [.sl .any [], .agg [.i 4, .i ((a.length : Int) + 1)]] ∧ σ' = σ) := fun h1 h2 σ => by
    have h := c8 (a ++ [10, 41, 32]) σ
    rw [(hlaw h1 h2).2.1] at h
    exact h
  have h8c : a.length ≤ 1980 → (scriptAll a).2.1 = 0 → ∀ σ, VCalls Try.prog 8 [.s (bs (a ++ [10, 59]))] σ (fun x σ' => x = .tup [.sl .any [], .agg [.i (scriptAll (a ++ [10, 59])).2.1, .i ((a.length : Int) + 2)]] ∧ σ' = σ) := fun h1 h2 σ => by
    have h := c8 (a ++ [10, 59]) σ
    rcases (hlaw h1 h2).2.2 with q | ⟨q, _⟩
    · rw [q] at h ⊢; exact h
    · rw [q] at h ⊢; exact h
  have h3 : a.length ≤ 1980 → (scriptAll a).2.1 = 0 → (scriptAll (a ++ [10, 59])).2.1 = 4 ∨ ((scriptAll (a ++ [10, 59])).2.1 = 2 ∧ ((scriptAll a).1.map stmA).length = 8) := fun h1 h2 => by
    rw [List.length_map]
    rcases (hlaw h1 h2).2.2 with q | ⟨q, q2⟩
    · left; rw [q]
    · right; rw [q]; exact ⟨rfl, q2⟩
  clear hlaw
  generalize (scriptAll (a ++ [10, 59])).2.1 = c3 at *
  generalize (scriptAll a).1.map stmA = L at *
  generalize (scriptAll a).2.1 = c1 at *
  generalize (scriptAll a).2.2 = a1 at *
  generalize hLn : L.length = n at *
  (refine vfun (fun _ => .no) mixed Try.func4 (by kernel_rfl) ?_; simp only [bodyOf, Try.f4, Option.getD_some])
  repeat' (first | with_reducible rfl | exact .inr trivial | with_reducible apply And.intro | with_reducible apply vqx_step | with_reducible apply vqm_step | with_reducible refine vkp_free (by decide +kernel) ?_ | with_reducible intro _ | ((first | (with_reducible first | refine .rs ?_ | refine .ds (by kernel_rfl) ?_ | refine .dg (by kernel_rfl) ?_ | refine .rg ?_ | refine .ite ?_ | refine .ret ?_ | refine .skip ?_ | refine .exit ?_ | refine .scope ?_ | refine .seq (.label ?_) | refine .block ?_ | refine .seq ?_) | (simp (disch := first | assumption | (apply Go.Cert.ne_of2; assumption; assumption) | (apply Go.Cert.ne_ob; assumption; assumption; (intro e; cases e; done)) | omega) only [w64, w8, tg_eq, Go.V.n1, Go.V.n2, Go.V.nn, Int.tdiv_eq_ediv_of_nonneg, Sg.set_same, Sg.set_ne, Sg.set_ne', Sg.del_ne, Sg.del_ne']) | ((with_reducible refine VCalls.mono (h5 _) ?_); rintro _ S ⟨rfl, rfl⟩) | ((with_reducible refine VCalls.mono (h8 _) ?_); rintro _ S ⟨rfl, rfl⟩) | ((with_reducible refine VCalls.mono (h8b (by omega) (by assumption) _) ?_); rintro _ S ⟨rfl, rfl⟩) | ((with_reducible refine VCalls.mono (h8c (by omega) (by assumption) _) ?_); rintro _ S ⟨rfl, rfl⟩) | (refine vlo_app (by first | assumption | ((simp (disch := first | assumption | (apply Go.Cert.ne_of2; assumption; assumption) | (apply Go.Cert.ne_ob; assumption; assumption; (intro e; cases e; done)) | omega) only [Sg.set_same, Sg.set_ne, Sg.set_ne', Sg.del_ne, Sg.del_ne']); first | done | rfl | assumption)) ?_) | (refine vst_app (by first | assumption | ((simp (disch := first | assumption | (apply Go.Cert.ne_of2; assumption; assumption) | (apply Go.Cert.ne_ob; assumption; assumption; (intro e; cases e; done)) | omega) only [Sg.set_same, Sg.set_ne, Sg.set_ne', Sg.del_ne, Sg.del_ne']); first | done | rfl | assumption)) ?_)); (try simp only [vO, vQ, ↓vP, vE, vS, vB, vL, vF, vM, vN, vbs_full, Nat.reduceEqDiff, Nat.reduceAdd, Nat.reduceLeDiff, ne_eq, not_false_eq_true, Nat.reduceMul, Nat.reduceSub, Int.toNat_zero, Int.reduceToNat, Try.underlying3, info3, Try.underlying4, info4, Try.underlying9, info9, Try.underlying28, info28, Try.underlying30, h30, hz30, Try.underlying35, info35, eq30, hs, ha1, ha2, hLn, decide_true, Bool.and_self, Bool.and_true, vT])) | with_reducible refine vfresh_set ?_ | with_reducible refine vfresh_intro (fun _ _ => ?_) | with_reducible refine vif_intro (fun _ => ?_) (fun _ => ?_) | omega | ((with_reducible first | refine vop_at ?_ | refine vops_at ?_ | refine vquiet_at ?_ | refine vmix_at ?_ | refine Holds_at ?_); simp only [vO, vQ, ↓vP, vE, vS, vB, vL, vF, vM, vN, vbs_full, Nat.reduceEqDiff, Nat.reduceAdd, Nat.reduceLeDiff, ne_eq, not_false_eq_true, Nat.reduceMul, Nat.reduceSub, Int.toNat_zero, Int.reduceToNat, Try.underlying3, info3, Try.underlying4, info4, Try.underlying9, info9, Try.underlying28, info28, Try.underlying30, h30, hz30, Try.underlying35, info35, eq30, hs, ha1, ha2, hLn, decide_true, Bool.and_self, Bool.and_true, vT]))
  all_goals (first | (refine ⟨_, ?_, rfl⟩; (first | exact Sg.sub.refl _ | ((repeat (first | exact Sg.sub.refl _ | refine Sg.sub.set_both ?_ | refine Sg.sub.set_fresh ?_ (by first | assumption | exact Sg.set_none (by assumption) (by first | assumption | (apply Go.Cert.ne_of2a; assumption; assumption))))); done) | (intro y p hy; simp only [Sg.set_apply, Sg.del_apply] at hy ⊢; grind))) | (refine ⟨_, ?_, by rw [decide_eq_true (by have := hbad (by assumption); omega)], rfl⟩; (first | exact Sg.sub.refl _ | ((repeat (first | exact Sg.sub.refl _ | refine Sg.sub.set_both ?_ | refine Sg.sub.set_fresh ?_ (by first | assumption | exact Sg.set_none (by assumption) (by first | assumption | (apply Go.Cert.ne_of2a; assumption; assumption))))); done) | (intro y p hy; simp only [Sg.set_apply, Sg.del_apply] at hy ⊢; grind))) | (refine ⟨_, ?_, by rw [decide_eq_true (by have := h3 (by omega) (by assumption); omega)], rfl⟩; (first | exact Sg.sub.refl _ | ((repeat (first | exact Sg.sub.refl _ | refine Sg.sub.set_both ?_ | refine Sg.sub.set_fresh ?_ (by first | assumption | exact Sg.set_none (by assumption) (by first | assumption | (apply Go.Cert.ne_of2a; assumption; assumption))))); done) | (intro y p hy; simp only [Sg.set_apply, Sg.del_apply] at hy ⊢; grind))) | (exfalso; have := hn (by omega) (by assumption); have := h3 (by omega) (by assumption); omega))
end Go.Proofs.Ytmokgifgnpocaaa

/- From a call's triple to the call as the rows have it. -/
namespace Go.V
open Go.RowKit
variable {P : Program}
/-- The ghost state at the start: nothing may be written, nothing has a name. -/
def K0 (w : World) : K := ⟨w, fun _ _ => False, fun _ => none, w.heap.size⟩
def S0 : Sg := fun _ => none
theorem st0 (w : World) : St (K0 w) S0 where
  ob _ _ h := by cases h
  apart _ _ _ _ _ _ _ _ _ _ h := by cases h
  fin := ⟨0, fun _ _ => rfl⟩
  mlt _ _ h := h.elim
  bas := Nat.le_refl _
theorem VCalls.calls {f : FuncId} {fn : Func} {args : List AV} {vs : Array Value} {w : World} (hf : P.funcs[f]? = some fn) (hb : (fn.body.isSome && !(fn.name == "runtime.NumGoroutine")) = true)
    (h : VCalls P f args S0 (fun x _ => x = .b true)) (hr : RelArgs (K0 w) args vs) : Calls P f vs w fun e w' => e = .returned (.bool true) ∧ Below w.heap.size w w' := by
  simp only [Bool.and_eq_true] at hb
  obtain ⟨h1, h2⟩ := hb
  obtain ⟨c, hc⟩ : ∃ c, fn.body = some c := by
    cases hh : fn.body with
    | none => rw [hh] at h1; cases h1
    | some c => exact ⟨c, rfl⟩
  have hrun : (callFunc f vs).run P w = .ok (.enter f vs) w := by
    have h3 : fn.name ≠ "runtime.NumGoroutine" := by simpa using h2
    simp [callFunc, program, Sem.run, Bind.bind, Sem.bind, hf, h3, hc]
  have hd := h.go (K0 w) vs (st0 w) hr
  rw [show (K0 w).w = w from rfl, hrun] at hd
  have hcalls : Calls P f vs w (PostE (K0 w) (fun x _ => x = .b true)) := hd
  refine hcalls.mono fun e w' hp => ?_
  cases e with
  | returned v =>
    obtain ⟨κ', x, σ', rfl, hle, hst, hrel, rfl⟩ := hp
    refine ⟨?_, ⟨hle.os, hle.tape, hle.output, hle.size, fun k hk => hle.block k hk⟩⟩
    cases hrel
    rfl
  | _ => exact hp.elim
theorem rel_args1 {κ : K} {v : Value} : RelArgs κ [.val v] #[v] := ⟨rfl, fun i x u h1 h2 => by
  cases i with
  | zero => simp at h1 h2; subst h1; subst h2; exact .val _
  | succ i => simp at h1⟩
theorem rel_args2 {κ : K} {v v' : Value} : RelArgs κ [.val v, .val v'] #[v, v'] := ⟨rfl, fun i x u h1 h2 => by
  match i with
  | 0 => simp at h1 h2; subst h1; subst h2; exact .val _
  | 1 => simp at h1 h2; subst h1; subst h2; exact .val _
  | i + 2 => simp at h1⟩
end Go.V
