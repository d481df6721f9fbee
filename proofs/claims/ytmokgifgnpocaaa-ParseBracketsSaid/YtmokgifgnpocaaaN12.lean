/- Part 12 of the proof: B30, B15, B16, B17, B18, B19, B31, B32, V14. -/
import Derived.Test.YtmokgifgnpocaaaN11
import Derived.Test.YtmokgifgnpocaaaN8
import Derived.Test.YtmokgifgnpocaaaN3

set_option linter.unusedSimpArgs false
set_option linter.unusedVariables false
namespace Go.Proofs.Ytmokgifgnpocaaa
open Go Go.V Go.Lex Go.Parse
theorem keepAll {ρ : Nat} {S σ' : Sg} {o : Option Ob} (h : Keep (fun _ => True) S σ') (hS : S ρ = o) : σ' ρ = o := (h ρ trivial).trans hS
theorem lose_script {f : FuncId} {args : List AV} {l : List Stm} {c a : Int} {σ S : Sg} (h : VCalls Try.prog f args σ (fun x σ' => ∃ o, x = .tup [.sl o (l.map stmA), .agg [.i c, .i a]] ∧ S.sub σ')) : VCalls Try.prog f args σ (fun x σ' => x = .tup [.sl .any (l.map stmA), .agg [.i c, .i a]] ∧ σ' = S) :=
  h.lose fun x σ' hx => by
    obtain ⟨o, rfl, hs⟩ := hx
    exact ⟨_, S, (AVw.any o _).tup2 (AVw.refl _), hs, rfl, rfl⟩
theorem stmA_one (x : Stm) : (stmA x).all AV.one = true := rfl
theorem stmA_take (x : Stm) : (stmA x).take 14 = stmA x := rfl
theorem stmA_drop (x : Stm) : (stmA x).drop 14 = [] := rfl
theorem grow00 {τ sz : Nat} : grow τ sz 0 = .nil := rfl
theorem grow_ne {τ sz n : Nat} (h : n ≠ 0) : grow τ sz n = .tok τ sz := if_neg h
/-- What stands where statements grow. -/
def stS (σ : Sg) (ρ : Nat) (τ : Nat) (acc : List Stm) (s : Rd) : Sg := tset (σ.set ρ (rdA s)) τ acc.length 44
def okS (σ : Sg) (ρ x3 x5 : Nat) (τ : Nat) (acc : List Stm) : Prop := acc ≠ [] → σ τ = none ∧ τ ≠ ρ ∧ τ ≠ x3 ∧ τ ≠ x5
theorem stS_ne {σ : Sg} {ρ τ : Nat} {acc : List Stm} {s : Rd} (h : acc ≠ []) : stS σ ρ τ acc s = (σ.set ρ (rdA s)).set τ (.tok (some 44)) := by
  cases acc with
  | nil => exact absurd rfl h
  | cons v r => unfold stS; rw [List.length_cons, tset1]
/-- What is left to read: b, are there more? -/
def More (R : List Stm × Rd) (acc : List Stm) (s : Rd) (b : Bool) : Prop := if b then acc.length ≤ 8 ∧ manyL stateL [59] (8 - acc.length) acc s = R else acc.length ≤ 9 ∧ acc ≠ [] ∧ R = (acc, s)
theorem scriptR_eq (l : List Tk) : scriptR l = if ((manyL stateL [59] 8 [] (rd0 l)).2.fin).c = 0 then ((manyL stateL [59] 8 [] (rd0 l)).1, 0, 0) else ([], ((manyL stateL [59] 8 [] (rd0 l)).2.fin).c, ((manyL stateL [59] 8 [] (rd0 l)).2.fin).a) := rfl
set_option maxHeartbeats 1000000 in
set_option maxRecDepth 100000 in
theorem c8 (b : List UInt8) (σ : Sg) : VCalls Try.prog 8 [.s (bs b)] σ (fun x σ' => x = .tup [.sl .any ((scriptAll b).1.map stmA), .agg [.i (scriptAll b).2.1, .i (scriptAll b).2.2]] ∧ σ' = σ) := by
  refine lose_script ?_
  obtain ⟨z30, h30, hz30⟩ := zero30
  have h9 := p9 b
  unfold scriptAll
  cases hl : lexAll b with
  | error q =>
    obtain ⟨e, a⟩ := q
    have he := lexAll_nz hl
    simp only [hl] at h9
    simp only [List.map_nil]
    (refine vfun (fun _ => .no) mixed Try.func8 (by kernel_rfl) ?_; simp only [bodyOf, Try.f8, Option.getD_some])
    repeat' (first | with_reducible rfl | exact .inr trivial | with_reducible apply And.intro | with_reducible apply vqx_step | with_reducible apply vqm_step | with_reducible refine vkp_free (by decide +kernel) ?_ | with_reducible intro _ | ((with_reducible refine .dms (fun _ => True) [(0, false), (1, false), (2, true)] (by decide) (by decide +kernel) ?_); (simp only [vO, vQ, ↓vP, vE, vS, vB, vL, vF, vM, vN, vbs_full, Nat.reduceEqDiff, Nat.reduceAdd, Nat.reduceLeDiff, ne_eq, not_false_eq_true, Nat.reduceMul, Nat.reduceSub, Int.toNat_zero, Int.reduceToNat, Try.underlying3, info3, Try.underlying4, info4, Try.underlying28, info28, Try.underlying30, h30, hz30, Try.underlying9, info9, vT])) | ((first | (with_reducible first | refine .rs ?_ | refine .ds (by kernel_rfl) ?_ | refine .dg (by kernel_rfl) ?_ | refine .rg ?_ | refine .ite ?_ | refine .ret ?_ | refine .skip ?_ | refine .exit ?_ | refine .scope ?_ | refine .seq (.label ?_) | refine .block ?_ | refine .seq ?_) | (simp (disch := first | assumption | (apply Go.Cert.ne_of2; assumption; assumption) | (apply Go.Cert.ne_ob; assumption; assumption; (intro e; cases e; done)) | omega) only [w64, w8, tg_eq, Go.V.n1, Go.V.n2, Go.V.nn, Int.tdiv_eq_ediv_of_nonneg, Sg.set_same, Sg.set_ne, Sg.set_ne', Sg.del_ne, Sg.del_ne']) | ((with_reducible refine (h9 _).mono ?_); rintro _ S ⟨rfl, rfl⟩) | (refine vlo_app (o' := some (.cells 30 [.i e, .i a])) (keepAll (by assumption) (by first | assumption | ((simp (disch := first | assumption | (apply Go.Cert.ne_of2; assumption; assumption) | (apply Go.Cert.ne_ob; assumption; assumption; (intro e; cases e; done)) | omega) only [Sg.set_same, Sg.set_ne, Sg.set_ne', Sg.del_ne, Sg.del_ne']); first | done | rfl | assumption))) ?_) | (refine vlo_app (by first | assumption | ((simp (disch := first | assumption | (apply Go.Cert.ne_of2; assumption; assumption) | (apply Go.Cert.ne_ob; assumption; assumption; (intro e; cases e; done)) | omega) only [Sg.set_same, Sg.set_ne, Sg.set_ne', Sg.del_ne, Sg.del_ne']); first | done | rfl | assumption)) ?_) | (refine vst_app (by first | assumption | ((simp (disch := first | assumption | (apply Go.Cert.ne_of2; assumption; assumption) | (apply Go.Cert.ne_ob; assumption; assumption; (intro e; cases e; done)) | omega) only [Sg.set_same, Sg.set_ne, Sg.set_ne', Sg.del_ne, Sg.del_ne']); first | done | rfl | assumption)) ?_)); (try simp only [vO, vQ, ↓vP, vE, vS, vB, vL, vF, vM, vN, vbs_full, Nat.reduceEqDiff, Nat.reduceAdd, Nat.reduceLeDiff, ne_eq, not_false_eq_true, Nat.reduceMul, Nat.reduceSub, Int.toNat_zero, Int.reduceToNat, Try.underlying3, info3, Try.underlying4, info4, Try.underlying28, info28, Try.underlying30, h30, hz30, Try.underlying9, info9, vT])) | with_reducible refine vfresh_set ?_ | with_reducible refine vfresh_intro (fun _ _ => ?_) | with_reducible refine vif_intro (fun _ => ?_) (fun _ => ?_) | omega | ((with_reducible first | refine vop_at ?_ | refine vops_at ?_ | refine vquiet_at ?_ | refine vmix_at ?_ | refine Holds_at ?_); simp only [vO, vQ, ↓vP, vE, vS, vB, vL, vF, vM, vN, vbs_full, Nat.reduceEqDiff, Nat.reduceAdd, Nat.reduceLeDiff, ne_eq, not_false_eq_true, Nat.reduceMul, Nat.reduceSub, Int.toNat_zero, Int.reduceToNat, Try.underlying3, info3, Try.underlying4, info4, Try.underlying28, info28, Try.underlying30, h30, hz30, Try.underlying9, info9, vT]))
    all_goals (refine ⟨_, .refl _, _, rfl, ?_⟩; (first | exact Sg.sub.refl _ | ((repeat (first | exact Sg.sub.refl _ | refine Sg.sub.set_both ?_ | refine Sg.sub.set_fresh ?_ (by first | assumption | exact Sg.set_none (by assumption) (by first | assumption | (apply Go.Cert.ne_of2a; assumption; assumption))))); done) | (intro y p hy; simp only [Sg.set_apply, Sg.del_apply] at hy ⊢; grind)))
  | ok l =>
    simp only [hl] at h9
    have hw := toks_wf hl
    have hg : Gd (rd0 l) := ⟨hw, rfl⟩
    have h0 : rdA (rd0 l) = .cells 50 [.sl .any (tksA l), .i 0, .i 0, .i 0] := rfl
    simp only [scriptR_eq]
    generalize hR : manyL stateL [59] 8 [] (rd0 l) = R
    (refine vfun (fun _ => .no) mixed Try.func8 (by kernel_rfl) ?_; simp only [bodyOf, Try.f8, Option.getD_some])
    repeat' (first | with_reducible rfl | exact .inr trivial | with_reducible apply And.intro | with_reducible apply vqx_step | with_reducible apply vqm_step | with_reducible refine vkp_free (by decide +kernel) ?_ | with_reducible intro _ | ((first | (with_reducible first | refine .rs ?_ | refine .ds (by kernel_rfl) ?_ | refine .dg (by kernel_rfl) ?_ | refine .rg ?_ | refine .ite ?_ | refine .ret ?_ | refine .skip ?_ | refine .exit ?_ | refine .scope ?_ | refine .seq (.label ?_) | refine .block ?_ | refine .seq ?_) | (simp (disch := first | assumption | (apply Go.Cert.ne_of2; assumption; assumption) | (apply Go.Cert.ne_ob; assumption; assumption; (intro e; cases e; done)) | omega) only [w64, w8, tg_eq, Go.V.n1, Go.V.n2, Go.V.nn, Int.tdiv_eq_ediv_of_nonneg, Sg.set_same, Sg.set_ne, Sg.set_ne', Sg.del_ne, Sg.del_ne']) | ((with_reducible refine (h9 _).mono ?_); rintro _ S ⟨rfl, rfl⟩) | (refine vlo_app (by first | assumption | ((simp (disch := first | assumption | (apply Go.Cert.ne_of2; assumption; assumption) | (apply Go.Cert.ne_ob; assumption; assumption; (intro e; cases e; done)) | omega) only [Sg.set_same, Sg.set_ne, Sg.set_ne', Sg.del_ne, Sg.del_ne']); first | done | rfl | assumption)) ?_) | (refine vst_app (by first | assumption | ((simp (disch := first | assumption | (apply Go.Cert.ne_of2; assumption; assumption) | (apply Go.Cert.ne_ob; assumption; assumption; (intro e; cases e; done)) | omega) only [Sg.set_same, Sg.set_ne, Sg.set_ne', Sg.del_ne, Sg.del_ne']); first | done | rfl | assumption)) ?_)); (try simp only [vO, vQ, ↓vP, vE, vS, vB, vL, vF, vM, vN, vbs_full, Nat.reduceEqDiff, Nat.reduceAdd, Nat.reduceLeDiff, ne_eq, not_false_eq_true, Nat.reduceMul, Nat.reduceSub, Int.toNat_zero, Int.reduceToNat, Try.underlying3, info3, Try.underlying4, info4, Try.underlying28, info28, Try.underlying30, h30, hz30, Try.underlying9, info9, Try.underlying50, info50, info45, vT])) | with_reducible refine vfresh_set ?_ | with_reducible refine vfresh_intro (fun _ _ => ?_) | with_reducible refine vif_intro (fun _ => ?_) (fun _ => ?_) | omega | ((with_reducible first | refine vop_at ?_ | refine vops_at ?_ | refine vquiet_at ?_ | refine vmix_at ?_ | refine Holds_at ?_); simp only [vO, vQ, ↓vP, vE, vS, vB, vL, vF, vM, vN, vbs_full, Nat.reduceEqDiff, Nat.reduceAdd, Nat.reduceLeDiff, ne_eq, not_false_eq_true, Nat.reduceMul, Nat.reduceSub, Int.toNat_zero, Int.reduceToNat, Try.underlying3, info3, Try.underlying4, info4, Try.underlying28, info28, Try.underlying30, h30, hz30, Try.underlying9, info9, Try.underlying50, info50, info45, vT]))
    rename_i x3 hx3 x5 hx5 n53 ρ hxρ nρ3 nρ5
    obtain ⟨z44, h44, hz44⟩ := zero44
    generalize hB : (σ.set x3 (.cells 30 [.i 0, .i 0])).set x5 (.cells 30 [.i 0, .i 0]) = σB
    have e3 : σB x3 = some (.cells 30 [.i 0, .i 0]) := by rw [← hB]; (simp (disch := first | assumption | (apply Go.Cert.ne_of2; assumption; assumption) | (apply Go.Cert.ne_ob; assumption; assumption; (intro e; cases e; done)) | omega) only [Sg.set_same, Sg.set_ne, Sg.set_ne', Sg.del_ne, Sg.del_ne'])
    have e5 : σB x5 = some (.cells 30 [.i 0, .i 0]) := by rw [← hB]; (simp (disch := first | assumption | (apply Go.Cert.ne_of2; assumption; assumption) | (apply Go.Cert.ne_ob; assumption; assumption; (intro e; cases e; done)) | omega) only [Sg.set_same, Sg.set_ne, Sg.set_ne', Sg.del_ne, Sg.del_ne'])
    have eσ : σ.sub σB := by rw [← hB]; exact Sg.sub.set_fresh (Sg.sub.set_fresh (.refl _) hx3) hx5
    have eN : ∀ τ, σB τ = none → σ τ = none ∧ τ ≠ x3 ∧ τ ≠ x5 := by
      intro τ h
      refine ⟨?_, ?_, ?_⟩
      · cases hh : σ τ with
        | none => rfl
        | some o => rw [eσ τ o hh] at h; cases h
      · intro e; rw [e, e3] at h; cases h
      · intro e; rw [e, e5] at h; cases h
    refine VW.loop3 ([] : List Stm) (rd0 l) (true, (0 : Nat)) (fun acc s' p => More R acc s' p.1 ∧ Gd s' ∧ okS σB ρ x3 x5 p.2 acc) (fun acc _ p => [(2, .sl .nil []), (3, .ref x3 0), (5, .ref x5 0), (6, .ref ρ 0), (7, .sl (grow p.2 14 acc.length) (acc.map stmA)), (8, .b p.1)]) (fun acc s' p => stS σB ρ p.2 acc s') (fun acc _ p => if p.1 then 20 - acc.length else 0) ⟨⟨by simp, hR⟩, hg, fun h => absurd rfl h⟩ (.refl _) ?_ ?_
    · simp only [vO, vQ, ↓vP, vE, vS, vB, vL, vF, vM, vN, vbs_full, Nat.reduceEqDiff, Nat.reduceAdd, Nat.reduceLeDiff, ne_eq, not_false_eq_true, Nat.reduceMul, Nat.reduceSub, Int.toNat_zero, Int.reduceToNat, vT]
      all_goals rfl
    rintro acc s' ⟨bb, τ⟩ ⟨h1, g0, h3⟩
    simp only at h1 h3
    cases bb with
    | true =>
      obtain ⟨hl8, hM⟩ : acc.length ≤ 8 ∧ manyL stateL [59] (8 - acc.length) acc s' = R := h1
      cases acc with
      | nil =>
        have hM' : manyL stateL [59] 8 [] s' = R := hM
        have e1 : stS σB ρ τ [] s' = σB.set ρ (rdA s') := rfl
        rw [e1]
        have hmk : More R [(stateL s').1] ((stateL s').2.pass [[59]]) ((stateL s').2.has [59]) := by
          unfold More
          rw [manyL] at hM'
          cases hb : (stateL s').2.has [59] with
          | true => rw [hb] at hM'; exact ⟨by simp, hM'⟩
          | false => rw [hb] at hM'; exact ⟨by simp, by simp, hM'.symm⟩
        have h15 := fun S (hS : S ρ = some (rdA s')) => c15 ρ _ S hS g0
        have g1 : Gd (stateL s').2 := gd_of nice_state g0
        have h13 : ∀ S, S ρ = some (rdA (stateL s').2) → VCalls Try.prog 13 [.ref ρ 0, .s (bs [59])] S _ := fun S hS => c13 ρ _ [59] S hS g1
        have g2 : Gd ((stateL s').2.pass [[59]]) := gd_pass g1
        generalize (stateL s').1 = x at *
        generalize (stateL s').2 = s2 at *
        repeat' (first | with_reducible rfl | exact .inr trivial | with_reducible apply And.intro | with_reducible apply vqx_step | with_reducible apply vqm_step | with_reducible refine vkp_free (by decide +kernel) ?_ | with_reducible intro _ | ((first | (with_reducible first | refine .rs ?_ | refine .ds (by kernel_rfl) ?_ | refine .dg (by kernel_rfl) ?_ | refine .rg ?_ | refine .ite ?_ | refine .ret ?_ | refine .skip ?_ | refine .exit ?_ | refine .scope ?_ | refine .seq (.label ?_) | refine .block ?_ | refine .seq ?_) | (simp (disch := first | assumption | (apply Go.Cert.ne_of2; assumption; assumption) | (apply Go.Cert.ne_ob; assumption; assumption; (intro e; cases e; done)) | omega) only [w64, w8, tg_eq, Go.V.n1, Go.V.n2, Go.V.nn, Int.tdiv_eq_ediv_of_nonneg, Sg.set_same, Sg.set_ne, Sg.set_ne', Sg.del_ne, Sg.del_ne']) | ((with_reducible refine VCalls.mono (h15 _ (by first | assumption | ((simp (disch := first | assumption | (apply Go.Cert.ne_of2; assumption; assumption) | (apply Go.Cert.ne_ob; assumption; assumption; (intro e; cases e; done)) | omega) only [Sg.set_same, Sg.set_ne, Sg.set_ne', Sg.del_ne, Sg.del_ne']); first | done | rfl | assumption))) ?_); rintro _ S ⟨rfl, rfl⟩) | ((with_reducible refine VCalls.mono (h13 _ (by first | assumption | ((simp (disch := first | assumption | (apply Go.Cert.ne_of2; assumption; assumption) | (apply Go.Cert.ne_ob; assumption; assumption; (intro e; cases e; done)) | omega) only [Sg.set_same, Sg.set_ne, Sg.set_ne', Sg.del_ne, Sg.del_ne']); first | done | rfl | assumption))) ?_); rintro _ S ⟨rfl, rfl⟩) | (refine vlo_app (by first | assumption | ((simp (disch := first | assumption | (apply Go.Cert.ne_of2; assumption; assumption) | (apply Go.Cert.ne_ob; assumption; assumption; (intro e; cases e; done)) | omega) only [Sg.set_same, Sg.set_ne, Sg.set_ne', Sg.del_ne, Sg.del_ne']); first | done | rfl | assumption)) ?_) | (refine vst_app (by first | assumption | ((simp (disch := first | assumption | (apply Go.Cert.ne_of2; assumption; assumption) | (apply Go.Cert.ne_ob; assumption; assumption; (intro e; cases e; done)) | omega) only [Sg.set_same, Sg.set_ne, Sg.set_ne', Sg.del_ne, Sg.del_ne']); first | done | rfl | assumption)) ?_)); (try simp only [vO, vQ, ↓vP, vE, vS, vB, vL, vF, vM, vN, vbs_full, Nat.reduceEqDiff, Nat.reduceAdd, Nat.reduceLeDiff, ne_eq, not_false_eq_true, Nat.reduceMul, Nat.reduceSub, Int.toNat_zero, Int.reduceToNat, Try.underlying3, info3, Try.underlying4, info4, Try.underlying28, info28, Try.underlying30, h30, hz30, Try.underlying9, info9, Try.underlying35, info35, Try.underlying44, h44, hz44, stmA_len, stmA_one, stmA_take, stmA_drop, grow00, vT])) | with_reducible refine vfresh_set ?_ | with_reducible refine vfresh_intro (fun _ _ => ?_) | with_reducible refine vif_intro (fun _ => ?_) (fun _ => ?_) | omega | ((with_reducible first | refine vop_at ?_ | refine vops_at ?_ | refine vquiet_at ?_ | refine vmix_at ?_ | refine Holds_at ?_); simp only [vO, vQ, ↓vP, vE, vS, vB, vL, vF, vM, vN, vbs_full, Nat.reduceEqDiff, Nat.reduceAdd, Nat.reduceLeDiff, ne_eq, not_false_eq_true, Nat.reduceMul, Nat.reduceSub, Int.toNat_zero, Int.reduceToNat, Try.underlying3, info3, Try.underlying4, info4, Try.underlying28, info28, Try.underlying30, h30, hz30, Try.underlying9, info9, Try.underlying35, info35, Try.underlying44, h44, hz44, stmA_len, stmA_one, stmA_take, stmA_drop, grow00, vT]))
        exact ⟨[x], s2.pass [[59]], (s2.has [59], _), ⟨⟨hmk, g2, fun _ => ⟨‹σB _ = none›, by assumption, (eN _ ‹σB _ = none›).2.1, (eN _ ‹σB _ = none›).2.2⟩⟩, by simp; split <;> omega⟩, by rw [stS_ne (by simp)]; (first | exact Sg.sub.refl _ | ((repeat (first | exact Sg.sub.refl _ | refine Sg.sub.set_both ?_ | refine Sg.sub.set_fresh ?_ (by first | assumption | exact Sg.set_none (by assumption) (by first | assumption | (apply Go.Cert.ne_of2a; assumption; assumption))))); done) | (intro y p hy; simp only [Sg.set_apply, Sg.del_apply] at hy ⊢; grind)), rfl, rfl⟩
      | cons v r =>
        obtain ⟨q1, q2, q3, q4⟩ := h3 (by simp)
        have hl2 : r.length + 1 ≤ 8 := hl8
        have hV : ((v :: r).map stmA).length = r.length + 1 := by simp
        have hA : allLen ((v :: r).map stmA) 14 = True := eq_true (fun e he => by
          obtain ⟨w, _, rfl⟩ := List.mem_map.1 he
          rfl)
        have hVx : ∀ x, (v :: r ++ [x]).map stmA = (v :: r).map stmA ++ [stmA x] := fun x => by rw [List.map_append]; rfl
        rw [stS_ne (by simp)]
        by_cases h8 : r.length + 1 = 8
        · have gf : Gd (s'.fail 2) := gd_fail g0
          have h14 := fun S (hS : S ρ = some (rdA s')) => c14 ρ s' 2 S hS g0
          have hcf := fail_c (s := s') (e := 2) (by decide)
          have hM' : manyL stateL [59] 0 (v :: r) s' = R := by rw [← hM]; congr 1; simp; omega
          have hmk : More R (v :: r ++ [(stateL (s'.fail 2)).1]) ((stateL (s'.fail 2)).2.pass [[59]]) ((stateL (s'.fail 2)).2.has [59]) := by
            have hb : (stateL (s'.fail 2)).2.has [59] = false := bad_has (by rw [((nice_state _ gf.wf).c hcf).1]; exact hcf)
            rw [hb]
            exact ⟨by simp; omega, by simp, hM'.symm⟩
          have gfx : (v :: r).length = 8 := h8
          clear hM hM'
          generalize hV' : (v :: r).map stmA = V at *
          have h15 := fun S (hS : S ρ = some (rdA (s'.fail 2))) => c15 ρ _ S hS gf
          have g1 : Gd (stateL (s'.fail 2)).2 := gd_of nice_state gf
          have h13 : ∀ S, S ρ = some (rdA (stateL (s'.fail 2)).2) → VCalls Try.prog 13 [.ref ρ 0, .s (bs [59])] S _ := fun S hS => c13 ρ _ [59] S hS g1
          have g2 : Gd ((stateL (s'.fail 2)).2.pass [[59]]) := gd_pass g1
          generalize (stateL (s'.fail 2)).1 = x at *
          generalize (stateL (s'.fail 2)).2 = s2 at *
          repeat' (first | with_reducible rfl | exact .inr trivial | with_reducible apply And.intro | with_reducible apply vqx_step | with_reducible apply vqm_step | with_reducible refine vkp_free (by decide +kernel) ?_ | with_reducible intro _ | ((first | (with_reducible first | refine .rs ?_ | refine .ds (by kernel_rfl) ?_ | refine .dg (by kernel_rfl) ?_ | refine .rg ?_ | refine .ite ?_ | refine .ret ?_ | refine .skip ?_ | refine .exit ?_ | refine .scope ?_ | refine .seq (.label ?_) | refine .block ?_ | refine .seq ?_) | (simp (disch := first | assumption | (apply Go.Cert.ne_of2; assumption; assumption) | (apply Go.Cert.ne_ob; assumption; assumption; (intro e; cases e; done)) | omega) only [w64, w8, tg_eq, Go.V.n1, Go.V.n2, Go.V.nn, Int.tdiv_eq_ediv_of_nonneg, Sg.set_same, Sg.set_ne, Sg.set_ne', Sg.del_ne, Sg.del_ne']) | ((with_reducible refine VCalls.mono (h15 _ (by first | assumption | ((simp (disch := first | assumption | (apply Go.Cert.ne_of2; assumption; assumption) | (apply Go.Cert.ne_ob; assumption; assumption; (intro e; cases e; done)) | omega) only [Sg.set_same, Sg.set_ne, Sg.set_ne', Sg.del_ne, Sg.del_ne']); first | done | rfl | assumption))) ?_); rintro _ S ⟨rfl, rfl⟩) | ((with_reducible refine VCalls.mono (h13 _ (by first | assumption | ((simp (disch := first | assumption | (apply Go.Cert.ne_of2; assumption; assumption) | (apply Go.Cert.ne_ob; assumption; assumption; (intro e; cases e; done)) | omega) only [Sg.set_same, Sg.set_ne, Sg.set_ne', Sg.del_ne, Sg.del_ne']); first | done | rfl | assumption))) ?_); rintro _ S ⟨rfl, rfl⟩) | ((with_reducible refine VCalls.mono (h14 _ (by first | assumption | ((simp (disch := first | assumption | (apply Go.Cert.ne_of2; assumption; assumption) | (apply Go.Cert.ne_ob; assumption; assumption; (intro e; cases e; done)) | omega) only [Sg.set_same, Sg.set_ne, Sg.set_ne', Sg.del_ne, Sg.del_ne']); first | done | rfl | assumption))) ?_); rintro _ S ⟨rfl, rfl⟩) | (refine vlo_app (by first | assumption | ((simp (disch := first | assumption | (apply Go.Cert.ne_of2; assumption; assumption) | (apply Go.Cert.ne_ob; assumption; assumption; (intro e; cases e; done)) | omega) only [Sg.set_same, Sg.set_ne, Sg.set_ne', Sg.del_ne, Sg.del_ne']); first | done | rfl | assumption)) ?_) | (refine vst_app (by first | assumption | ((simp (disch := first | assumption | (apply Go.Cert.ne_of2; assumption; assumption) | (apply Go.Cert.ne_ob; assumption; assumption; (intro e; cases e; done)) | omega) only [Sg.set_same, Sg.set_ne, Sg.set_ne', Sg.del_ne, Sg.del_ne']); first | done | rfl | assumption)) ?_)); (try simp only [vO, vQ, ↓vP, vE, vS, vB, vL, vF, vM, vN, vbs_full, Nat.reduceEqDiff, Nat.reduceAdd, Nat.reduceLeDiff, ne_eq, not_false_eq_true, Nat.reduceMul, Nat.reduceSub, Int.toNat_zero, Int.reduceToNat, Try.underlying3, info3, Try.underlying4, info4, Try.underlying28, info28, Try.underlying30, h30, hz30, Try.underlying9, info9, Try.underlying35, info35, Try.underlying44, h44, hz44, stmA_len, stmA_one, stmA_take, stmA_drop, hV, hA, h8, gfx, grow1, vT])) | with_reducible refine vfresh_set ?_ | with_reducible refine vfresh_intro (fun _ _ => ?_) | with_reducible refine vif_intro (fun _ => ?_) (fun _ => ?_) | omega | ((with_reducible first | refine vop_at ?_ | refine vops_at ?_ | refine vquiet_at ?_ | refine vmix_at ?_ | refine Holds_at ?_); simp only [vO, vQ, ↓vP, vE, vS, vB, vL, vF, vM, vN, vbs_full, Nat.reduceEqDiff, Nat.reduceAdd, Nat.reduceLeDiff, ne_eq, not_false_eq_true, Nat.reduceMul, Nat.reduceSub, Int.toNat_zero, Int.reduceToNat, Try.underlying3, info3, Try.underlying4, info4, Try.underlying28, info28, Try.underlying30, h30, hz30, Try.underlying9, info9, Try.underlying35, info35, Try.underlying44, h44, hz44, stmA_len, stmA_one, stmA_take, stmA_drop, hV, hA, h8, gfx, grow1, vT]))
          exact ⟨v :: r ++ [x], s2.pass [[59]], (s2.has [59], _), ⟨⟨hmk, g2, fun _ => ⟨‹σB _ = none›, by assumption, (eN _ ‹σB _ = none›).2.1, (eN _ ‹σB _ = none›).2.2⟩⟩, by simp; split <;> omega⟩, by rw [stS_ne (by simp)]; (first | exact Sg.sub.refl _ | ((repeat (first | exact Sg.sub.refl _ | refine Sg.sub.set_both ?_ | refine Sg.sub.set_fresh ?_ (by first | assumption | exact Sg.set_none (by assumption) (by first | assumption | (apply Go.Cert.ne_of2a; assumption; assumption))))); done) | (intro y p hy; simp only [Sg.set_apply, Sg.del_apply] at hy ⊢; grind)), by rw [hVx, grow_ne (by simp)], rfl⟩
        · obtain ⟨k, hk⟩ : ∃ k, 8 - (v :: r).length = k + 1 := ⟨8 - (r.length + 1) - 1, by show 8 - (r.length + 1) = _; omega⟩
          rw [hk] at hM
          have hmk : More R (v :: r ++ [(stateL s').1]) ((stateL s').2.pass [[59]]) ((stateL s').2.has [59]) := by
            unfold More
            rw [manyL] at hM
            have hkk : 8 - (v :: r ++ [(stateL s').1]).length = k := by simp at hk ⊢; omega
            cases hb : (stateL s').2.has [59] with
            | true => rw [hb] at hM; exact ⟨by simp; omega, by rw [hkk]; exact hM⟩
            | false => rw [hb] at hM; exact ⟨by simp; omega, by simp, hM.symm⟩
          clear hM
          generalize hV' : (v :: r).map stmA = V at *
          have h15 := fun S (hS : S ρ = some (rdA s')) => c15 ρ _ S hS g0
          have g1 : Gd (stateL s').2 := gd_of nice_state g0
          have h13 : ∀ S, S ρ = some (rdA (stateL s').2) → VCalls Try.prog 13 [.ref ρ 0, .s (bs [59])] S _ := fun S hS => c13 ρ _ [59] S hS g1
          have g2 : Gd ((stateL s').2.pass [[59]]) := gd_pass g1
          generalize (stateL s').1 = x at *
          generalize (stateL s').2 = s2 at *
          repeat' (first | with_reducible rfl | exact .inr trivial | with_reducible apply And.intro | with_reducible apply vqx_step | with_reducible apply vqm_step | with_reducible refine vkp_free (by decide +kernel) ?_ | with_reducible intro _ | ((first | (with_reducible first | refine .rs ?_ | refine .ds (by kernel_rfl) ?_ | refine .dg (by kernel_rfl) ?_ | refine .rg ?_ | refine .ite ?_ | refine .ret ?_ | refine .skip ?_ | refine .exit ?_ | refine .scope ?_ | refine .seq (.label ?_) | refine .block ?_ | refine .seq ?_) | (simp (disch := first | assumption | (apply Go.Cert.ne_of2; assumption; assumption) | (apply Go.Cert.ne_ob; assumption; assumption; (intro e; cases e; done)) | omega) only [w64, w8, tg_eq, Go.V.n1, Go.V.n2, Go.V.nn, Int.tdiv_eq_ediv_of_nonneg, Sg.set_same, Sg.set_ne, Sg.set_ne', Sg.del_ne, Sg.del_ne']) | ((with_reducible refine VCalls.mono (h15 _ (by first | assumption | ((simp (disch := first | assumption | (apply Go.Cert.ne_of2; assumption; assumption) | (apply Go.Cert.ne_ob; assumption; assumption; (intro e; cases e; done)) | omega) only [Sg.set_same, Sg.set_ne, Sg.set_ne', Sg.del_ne, Sg.del_ne']); first | done | rfl | assumption))) ?_); rintro _ S ⟨rfl, rfl⟩) | ((with_reducible refine VCalls.mono (h13 _ (by first | assumption | ((simp (disch := first | assumption | (apply Go.Cert.ne_of2; assumption; assumption) | (apply Go.Cert.ne_ob; assumption; assumption; (intro e; cases e; done)) | omega) only [Sg.set_same, Sg.set_ne, Sg.set_ne', Sg.del_ne, Sg.del_ne']); first | done | rfl | assumption))) ?_); rintro _ S ⟨rfl, rfl⟩) | (refine vlo_app (by first | assumption | ((simp (disch := first | assumption | (apply Go.Cert.ne_of2; assumption; assumption) | (apply Go.Cert.ne_ob; assumption; assumption; (intro e; cases e; done)) | omega) only [Sg.set_same, Sg.set_ne, Sg.set_ne', Sg.del_ne, Sg.del_ne']); first | done | rfl | assumption)) ?_) | (refine vst_app (by first | assumption | ((simp (disch := first | assumption | (apply Go.Cert.ne_of2; assumption; assumption) | (apply Go.Cert.ne_ob; assumption; assumption; (intro e; cases e; done)) | omega) only [Sg.set_same, Sg.set_ne, Sg.set_ne', Sg.del_ne, Sg.del_ne']); first | done | rfl | assumption)) ?_)); (try simp only [vO, vQ, ↓vP, vE, vS, vB, vL, vF, vM, vN, vbs_full, Nat.reduceEqDiff, Nat.reduceAdd, Nat.reduceLeDiff, ne_eq, not_false_eq_true, Nat.reduceMul, Nat.reduceSub, Int.toNat_zero, Int.reduceToNat, Try.underlying3, info3, Try.underlying4, info4, Try.underlying28, info28, Try.underlying30, h30, hz30, Try.underlying9, info9, Try.underlying35, info35, Try.underlying44, h44, hz44, stmA_len, stmA_one, stmA_take, stmA_drop, hV, hA, grow1, vT])) | with_reducible refine vfresh_set ?_ | with_reducible refine vfresh_intro (fun _ _ => ?_) | with_reducible refine vif_intro (fun _ => ?_) (fun _ => ?_) | omega | ((with_reducible first | refine vop_at ?_ | refine vops_at ?_ | refine vquiet_at ?_ | refine vmix_at ?_ | refine Holds_at ?_); simp only [vO, vQ, ↓vP, vE, vS, vB, vL, vF, vM, vN, vbs_full, Nat.reduceEqDiff, Nat.reduceAdd, Nat.reduceLeDiff, ne_eq, not_false_eq_true, Nat.reduceMul, Nat.reduceSub, Int.toNat_zero, Int.reduceToNat, Try.underlying3, info3, Try.underlying4, info4, Try.underlying28, info28, Try.underlying30, h30, hz30, Try.underlying9, info9, Try.underlying35, info35, Try.underlying44, h44, hz44, stmA_len, stmA_one, stmA_take, stmA_drop, hV, hA, grow1, vT]))
          exact ⟨v :: r ++ [x], s2.pass [[59]], (s2.has [59], _), ⟨⟨hmk, g2, fun _ => ⟨‹σB _ = none›, by assumption, (eN _ ‹σB _ = none›).2.1, (eN _ ‹σB _ = none›).2.2⟩⟩, by simp; split <;> omega⟩, by rw [stS_ne (by simp)]; (first | exact Sg.sub.refl _ | ((repeat (first | exact Sg.sub.refl _ | refine Sg.sub.set_both ?_ | refine Sg.sub.set_fresh ?_ (by first | assumption | exact Sg.set_none (by assumption) (by first | assumption | (apply Go.Cert.ne_of2a; assumption; assumption))))); done) | (intro y p hy; simp only [Sg.set_apply, Sg.del_apply] at hy ⊢; grind)), by rw [hVx, grow_ne (by simp)], rfl⟩
    | false =>
      obtain ⟨hl9, hne, rfl⟩ : acc.length ≤ 9 ∧ acc ≠ [] ∧ R = (acc, s') := h1
      obtain ⟨q1, q2, q3, q4⟩ := h3 hne
      rw [stS_ne hne]
      have h11 := fun S (hS : S ρ = some (rdA s')) => p11 ρ s' S hS g0.wf
      have hgr : grow τ 14 acc.length = .tok τ 14 := by
        cases acc with
        | nil => exact absurd rfl hne
        | cons v r => rw [List.length_cons, grow1]
      simp only
      generalize s'.fin = sF at *
      generalize hV' : acc.map stmA = V at *
      by_cases hc : sF.c = 0
      · simp only [if_pos hc]
        rw [hV']
        repeat' (first | with_reducible rfl | exact .inr trivial | with_reducible apply And.intro | with_reducible apply vqx_step | with_reducible apply vqm_step | with_reducible refine vkp_free (by decide +kernel) ?_ | with_reducible intro _ | ((with_reducible refine .dms (fun _ => True) [(0, false), (1, false), (2, true)] (by decide) (by decide +kernel) ?_); (simp only [vO, vQ, ↓vP, vE, vS, vB, vL, vF, vM, vN, vbs_full, Nat.reduceEqDiff, Nat.reduceAdd, Nat.reduceLeDiff, ne_eq, not_false_eq_true, Nat.reduceMul, Nat.reduceSub, Int.toNat_zero, Int.reduceToNat, Try.underlying3, info3, Try.underlying4, info4, Try.underlying28, info28, Try.underlying30, h30, hz30, Try.underlying9, info9, Try.underlying35, info35, Try.underlying44, h44, hz44, stmA_len, stmA_one, stmA_take, stmA_drop, hgr, vT])) | ((first | (with_reducible first | refine .rs ?_ | refine .ds (by kernel_rfl) ?_ | refine .dg (by kernel_rfl) ?_ | refine .rg ?_ | refine .ite ?_ | refine .ret ?_ | refine .skip ?_ | refine .exit ?_ | refine .scope ?_ | refine .seq (.label ?_) | refine .block ?_ | refine .seq ?_) | (simp (disch := first | assumption | (apply Go.Cert.ne_of2; assumption; assumption) | (apply Go.Cert.ne_ob; assumption; assumption; (intro e; cases e; done)) | omega) only [w64, w8, tg_eq, Go.V.n1, Go.V.n2, Go.V.nn, Int.tdiv_eq_ediv_of_nonneg, Sg.set_same, Sg.set_ne, Sg.set_ne', Sg.del_ne, Sg.del_ne']) | ((with_reducible refine VCalls.mono (h11 _ (by first | assumption | ((simp (disch := first | assumption | (apply Go.Cert.ne_of2; assumption; assumption) | (apply Go.Cert.ne_ob; assumption; assumption; (intro e; cases e; done)) | omega) only [Sg.set_same, Sg.set_ne, Sg.set_ne', Sg.del_ne, Sg.del_ne']); first | done | rfl | assumption))) ?_); rintro _ S ⟨rfl, rfl⟩) | (refine vlo_app (by first | assumption | ((simp (disch := first | assumption | (apply Go.Cert.ne_of2; assumption; assumption) | (apply Go.Cert.ne_ob; assumption; assumption; (intro e; cases e; done)) | omega) only [Sg.set_same, Sg.set_ne, Sg.set_ne', Sg.del_ne, Sg.del_ne']); first | done | rfl | assumption)) ?_) | (refine vst_app (by first | assumption | ((simp (disch := first | assumption | (apply Go.Cert.ne_of2; assumption; assumption) | (apply Go.Cert.ne_ob; assumption; assumption; (intro e; cases e; done)) | omega) only [Sg.set_same, Sg.set_ne, Sg.set_ne', Sg.del_ne, Sg.del_ne']); first | done | rfl | assumption)) ?_)); (try simp only [vO, vQ, ↓vP, vE, vS, vB, vL, vF, vM, vN, vbs_full, Nat.reduceEqDiff, Nat.reduceAdd, Nat.reduceLeDiff, ne_eq, not_false_eq_true, Nat.reduceMul, Nat.reduceSub, Int.toNat_zero, Int.reduceToNat, Try.underlying3, info3, Try.underlying4, info4, Try.underlying28, info28, Try.underlying30, h30, hz30, Try.underlying9, info9, Try.underlying35, info35, Try.underlying44, h44, hz44, stmA_len, stmA_one, stmA_take, stmA_drop, hgr, vT])) | with_reducible refine vfresh_set ?_ | with_reducible refine vfresh_intro (fun _ _ => ?_) | with_reducible refine vif_intro (fun _ => ?_) (fun _ => ?_) | omega | ((with_reducible first | refine vop_at ?_ | refine vops_at ?_ | refine vquiet_at ?_ | refine vmix_at ?_ | refine Holds_at ?_); simp only [vO, vQ, ↓vP, vE, vS, vB, vL, vF, vM, vN, vbs_full, Nat.reduceEqDiff, Nat.reduceAdd, Nat.reduceLeDiff, ne_eq, not_false_eq_true, Nat.reduceMul, Nat.reduceSub, Int.toNat_zero, Int.reduceToNat, Try.underlying3, info3, Try.underlying4, info4, Try.underlying28, info28, Try.underlying30, h30, hz30, Try.underlying9, info9, Try.underlying35, info35, Try.underlying44, h44, hz44, stmA_len, stmA_one, stmA_take, stmA_drop, hgr, vT]))
        all_goals (refine ⟨_, .refl _, _, rfl, ?_⟩; intro y p hy; have hy1 := Go.Cert.ne_of hy hx3; have hy2 := Go.Cert.ne_of hy hx5; have hy3 := Go.Cert.ne_of (eσ y p hy) q1; have hy4 := Go.Cert.ne_of hy hxρ; have hy5 := eσ y p hy; (simp (disch := first | assumption | (apply Go.Cert.ne_of2; assumption; assumption) | (apply Go.Cert.ne_ob; assumption; assumption; (intro e; cases e; done)) | omega) only [Sg.set_same, Sg.set_ne, Sg.set_ne', Sg.del_ne, Sg.del_ne']); exact hy5)
      · simp only [if_neg hc, List.map_nil]
        repeat' (first | with_reducible rfl | exact .inr trivial | with_reducible apply And.intro | with_reducible apply vqx_step | with_reducible apply vqm_step | with_reducible refine vkp_free (by decide +kernel) ?_ | with_reducible intro _ | ((with_reducible refine .dms (fun _ => True) [(0, false), (1, false), (2, true)] (by decide) (by decide +kernel) ?_); (simp only [vO, vQ, ↓vP, vE, vS, vB, vL, vF, vM, vN, vbs_full, Nat.reduceEqDiff, Nat.reduceAdd, Nat.reduceLeDiff, ne_eq, not_false_eq_true, Nat.reduceMul, Nat.reduceSub, Int.toNat_zero, Int.reduceToNat, Try.underlying3, info3, Try.underlying4, info4, Try.underlying28, info28, Try.underlying30, h30, hz30, Try.underlying9, info9, Try.underlying35, info35, Try.underlying44, h44, hz44, stmA_len, stmA_one, stmA_take, stmA_drop, hgr, vT])) | ((first | (with_reducible first | refine .rs ?_ | refine .ds (by kernel_rfl) ?_ | refine .dg (by kernel_rfl) ?_ | refine .rg ?_ | refine .ite ?_ | refine .ret ?_ | refine .skip ?_ | refine .exit ?_ | refine .scope ?_ | refine .seq (.label ?_) | refine .block ?_ | refine .seq ?_) | (simp (disch := first | assumption | (apply Go.Cert.ne_of2; assumption; assumption) | (apply Go.Cert.ne_ob; assumption; assumption; (intro e; cases e; done)) | omega) only [w64, w8, tg_eq, Go.V.n1, Go.V.n2, Go.V.nn, Int.tdiv_eq_ediv_of_nonneg, Sg.set_same, Sg.set_ne, Sg.set_ne', Sg.del_ne, Sg.del_ne']) | ((with_reducible refine VCalls.mono (h11 _ (by first | assumption | ((simp (disch := first | assumption | (apply Go.Cert.ne_of2; assumption; assumption) | (apply Go.Cert.ne_ob; assumption; assumption; (intro e; cases e; done)) | omega) only [Sg.set_same, Sg.set_ne, Sg.set_ne', Sg.del_ne, Sg.del_ne']); first | done | rfl | assumption))) ?_); rintro _ S ⟨rfl, rfl⟩) | (refine vlo_app (o' := some (.cells 30 [.i sF.c, .i sF.a])) (keepAll (by assumption) (by first | assumption | ((simp (disch := first | assumption | (apply Go.Cert.ne_of2; assumption; assumption) | (apply Go.Cert.ne_ob; assumption; assumption; (intro e; cases e; done)) | omega) only [Sg.set_same, Sg.set_ne, Sg.set_ne', Sg.del_ne, Sg.del_ne']); first | done | rfl | assumption))) ?_) | (refine vlo_app (by first | assumption | ((simp (disch := first | assumption | (apply Go.Cert.ne_of2; assumption; assumption) | (apply Go.Cert.ne_ob; assumption; assumption; (intro e; cases e; done)) | omega) only [Sg.set_same, Sg.set_ne, Sg.set_ne', Sg.del_ne, Sg.del_ne']); first | done | rfl | assumption)) ?_) | (refine vst_app (by first | assumption | ((simp (disch := first | assumption | (apply Go.Cert.ne_of2; assumption; assumption) | (apply Go.Cert.ne_ob; assumption; assumption; (intro e; cases e; done)) | omega) only [Sg.set_same, Sg.set_ne, Sg.set_ne', Sg.del_ne, Sg.del_ne']); first | done | rfl | assumption)) ?_)); (try simp only [vO, vQ, ↓vP, vE, vS, vB, vL, vF, vM, vN, vbs_full, Nat.reduceEqDiff, Nat.reduceAdd, Nat.reduceLeDiff, ne_eq, not_false_eq_true, Nat.reduceMul, Nat.reduceSub, Int.toNat_zero, Int.reduceToNat, Try.underlying3, info3, Try.underlying4, info4, Try.underlying28, info28, Try.underlying30, h30, hz30, Try.underlying9, info9, Try.underlying35, info35, Try.underlying44, h44, hz44, stmA_len, stmA_one, stmA_take, stmA_drop, hgr, vT])) | with_reducible refine vfresh_set ?_ | with_reducible refine vfresh_intro (fun _ _ => ?_) | with_reducible refine vif_intro (fun _ => ?_) (fun _ => ?_) | omega | ((with_reducible first | refine vop_at ?_ | refine vops_at ?_ | refine vquiet_at ?_ | refine vmix_at ?_ | refine Holds_at ?_); simp only [vO, vQ, ↓vP, vE, vS, vB, vL, vF, vM, vN, vbs_full, Nat.reduceEqDiff, Nat.reduceAdd, Nat.reduceLeDiff, ne_eq, not_false_eq_true, Nat.reduceMul, Nat.reduceSub, Int.toNat_zero, Int.reduceToNat, Try.underlying3, info3, Try.underlying4, info4, Try.underlying28, info28, Try.underlying30, h30, hz30, Try.underlying9, info9, Try.underlying35, info35, Try.underlying44, h44, hz44, stmA_len, stmA_one, stmA_take, stmA_drop, hgr, vT]))
        all_goals (refine ⟨_, .refl _, _, rfl, ?_⟩; intro y p hy; have hy1 := Go.Cert.ne_of hy hx3; have hy2 := Go.Cert.ne_of hy hx5; have hy3 := Go.Cert.ne_of (eσ y p hy) q1; have hy4 := Go.Cert.ne_of hy hxρ; have hy5 := eσ y p hy; (simp (disch := first | assumption | (apply Go.Cert.ne_of2; assumption; assumption) | (apply Go.Cert.ne_ob; assumption; assumption; (intro e; cases e; done)) | omega) only [Sg.set_same, Sg.set_ne, Sg.set_ne', Sg.del_ne, Sg.del_ne']); exact hy5)
end Go.Proofs.Ytmokgifgnpocaaa

/- Reading on, level by level. -/
set_option linter.unusedVariables false
namespace Go.Parse
open Go.V Go.Lex Go.Proofs.Ytmokgifgnpocaaa
variable {δ : Int} {w : By} {d : Int}
theorem c0_of {s s' : Rd} (o : Ok s s') (h : s'.c = 0) : s.c = 0 := Classical.byContradiction fun hn => by
  have := (o.c hn).1
  omega
theorem sim_rowL {F F' : Pr} (hF : SimF δ w d F F') (hN : Nice F) (hN' : Nice F') (first : Int) (ws : List By) (hw : w ∉ ws) : ∀ (n m : Nat) (e : Ex) (s s' : Rd), s.d = d → Sim δ w s s' → s.l.length ≤ n → s'.l.length ≤ m → (rowL F first ws n e s).2.c = 0 →
    (δ ≠ 0 ∧ (rowL F' first ws m e s').2.c = 10) ∨ ((rowL F' first ws m e s').1 = (rowL F first ws n e s).1 ∧ Sim δ w (rowL F first ws n e s).2 (rowL F' first ws m e s').2)
  | 0, m, e, s, s', hd, h, hn, hm, hc => absurd h.wf.pos (by omega)
  | n + 1, 0, e, s, s', hd, h, hn, hm, hc => absurd h.wf'.pos (by omega)
  | n + 1, m + 1, e, s, s', hd, h, hn, hm, hc => by
    have hi := h.is ws hw
    unfold rowL at hc ⊢
    rw [hi]
    by_cases hk : 0 ≤ s.is ws
    · rw [if_pos hk] at hc ⊢
      rw [if_pos hk]
      have g := h.nextIs hk
      have hk' : 0 ≤ s'.is ws := by rw [hi]; exact hk
      have o1 := ok_is h.wf hk
      have o1' := ok_is h.wf' hk'
      have o2 := hN s.next o1.wf
      have o2' := hN' s'.next o1'.wf
      have l1 : s.next.l.length + 1 = s.l.length := (h.wf.tail (by obtain ⟨_, q, _⟩ := is_pos hk; omega)).2
      have l1' : s'.next.l.length + 1 = s'.l.length := (h.wf'.tail (by obtain ⟨_, q, _⟩ := is_pos hk'; omega)).2
      have o3 := ok_rowL hN first ws n (opE (first + s.is ws) e (F s.next).1) (F s.next).2 o2.wf
      have hc2 := c0_of o3 hc
      have le2 := o2.le
      have le2' := o2'.le
      rcases hF s.next s'.next hd g hc2 with ⟨q1, q2⟩ | ⟨q1, q2⟩
      · left
        refine ⟨q1, ?_⟩
        have o3' := ok_rowL hN' first ws m (opE (first + s.is ws) e (F' s'.next).1) (F' s'.next).2 o2'.wf
        rw [(o3'.c (by omega)).1]
        exact q2
      · rw [q1]
        exact sim_rowL hF hN hN' first ws hw n m _ _ _ (o2.d.trans hd) q2 (by omega) (by omega) hc
    · rw [if_neg hk, if_neg hk]
      exact .inr ⟨rfl, h⟩
theorem sim_row {F F' : Pr} (hF : SimF δ w d F F') (hN : Nice F) (hN' : Nice F') (first : Int) (ws : List By) (hw : w ∉ ws) : SimF δ w d (row F first ws) (row F' first ws) := fun s s' hd h hc => by
  have o := hN s h.wf
  have o' := hN' s' h.wf'
  unfold row at hc ⊢
  have hc1 := c0_of (ok_rowL hN first ws _ (F s).1 (F s).2 o.wf) hc
  rcases hF s s' hd h hc1 with ⟨q1, q2⟩ | ⟨q1, q2⟩
  · left
    refine ⟨q1, ?_⟩
    rw [((ok_rowL hN' first ws _ (F' s').1 (F' s').2 o'.wf).c (by omega)).1]
    exact q2
  · rw [q1]
    exact sim_rowL hF hN hN' first ws hw _ _ _ _ _ (o.d.trans hd) q2 (Nat.le_refl _) (Nat.le_refl _) hc
/-- The signs that are asked for and not demanded. -/
def Dead (w : By) : Prop := w = [41] ∨ w = [59]
structure SimD (δ : Int) (w : By) (d : Int) (D D' : Dp) : Prop where
  fac : SimF δ w d D.fac D'.fac
  not : SimF δ w d D.not D'.not
  ex : SimF δ w d D.ex D'.ex
theorem sim_fac {D D' : Dp} (hw : Dead w) (hD : d + 1 ≤ 10 → d + δ + 1 ≤ 10 → SimD δ w (d + 1) D D') (hN : D.Nice) (hN' : D'.Nice) (h0 : 0 ≤ δ) : SimF δ w d (facL D) (facL D') := fun s s' hd h hc => by
  obtain ⟨e1, e2, e3⟩ := h.lit (by rcases hw with rfl | rfl <;> decide) (by rcases hw with rfl | rfl <;> decide)
  have hi := e3.is [wMinus, [40]] (by rcases hw with rfl | rfl <;> decide)
  have ol := ok_lit h.wf
  have ol' := ok_lit h.wf'
  have hld : s.lit.2.2.next.d = d := ol.d.trans hd
  unfold facL at hc ⊢
  rw [e1, e2, hi]
  by_cases hb : s.lit.2.1 = true
  · rw [if_pos hb, if_pos hb]
    exact .inr ⟨rfl, e3⟩
  · rw [if_neg hb] at hc ⊢
    rw [if_neg hb]
    by_cases k0 : s.lit.2.2.is [wMinus, [40]] = 0
    · rw [if_pos k0] at hc ⊢
      rw [if_pos k0]
      have g := e3.nextIs (ws := [wMinus, [40]]) (by omega)
      rcases sim_within (fun a b => (hD a b).fac) hN.fac hN'.fac h0 _ _ hld g hc with ⟨q1, q2⟩ | ⟨q1, q2⟩
      · exact .inl ⟨q1, q2⟩
      · exact .inr ⟨by rw [q1], q2⟩
    · rw [if_neg k0] at hc ⊢
      rw [if_neg k0]
      by_cases k1 : s.lit.2.2.is [wMinus, [40]] = 1
      · rw [if_pos k1] at hc ⊢
        rw [if_pos k1]
        have g := e3.nextIs (ws := [wMinus, [40]]) (by omega)
        have o2 := nice_within hN.ex _ g.wf
        have o2' := nice_within hN'.ex _ g.wf'
        have hc1 := c0_of (ok_must [[41]] _ o2.wf) hc
        rcases sim_within (fun a b => (hD a b).ex) hN.ex hN'.ex h0 _ _ hld g hc1 with ⟨q1, q2⟩ | ⟨q1, q2⟩
        · left
          refine ⟨q1, ?_⟩
          rw [((ok_must [[41]] _ o2'.wf).c (by omega)).1]
          exact q2
        · exact .inr ⟨by rw [q1], Sim.must (s := s) (s' := s') _ q2 hc⟩
      · rw [if_neg k1] at hc ⊢
        rw [if_neg k1]
        exact sim_column (d := s.lit.2.2.d) (by rcases hw with rfl | rfl <;> decide) _ _ rfl e3 hc
theorem sim_sum {D D' : Dp} (hw : Dead w) (hD : d + 1 ≤ 10 → d + δ + 1 ≤ 10 → SimD δ w (d + 1) D D') (hN : D.Nice) (hN' : D'.Nice) (h0 : 0 ≤ δ) : SimF δ w d (sumL D) (sumL D') :=
  sim_row (sim_row (sim_fac hw hD hN hN' h0) (nice_fac hN) (nice_fac hN') _ _ (by rcases hw with rfl | rfl <;> decide)) (nice_row (nice_fac hN) _ _) (nice_row (nice_fac hN') _ _) _ _ (by rcases hw with rfl | rfl <;> decide)
theorem sim_isNull {e : Ex} {s s' : Rd} (hw : Dead w) (h : Sim δ w s s') (hc : (isNull e s).2.c = 0) : (isNull e s').1 = (isNull e s).1 ∧ Sim δ w (isNull e s).2 (isNull e s').2 := by
  have hi := h.is [wNot] (by rcases hw with rfl | rfl <;> decide)
  unfold isNull at hc ⊢
  by_cases hb : s.has wNot = true
  · have hb' : s'.has wNot = true := by unfold Rd.has at hb ⊢; rw [hi]; exact hb
    rw [if_pos hb] at hc ⊢
    rw [if_pos hb']
    exact ⟨rfl, Sim.must (s := s) (s' := s') _ (h.has hb).2 hc⟩
  · have hb' : ¬ s'.has wNot = true := by unfold Rd.has at hb ⊢; rw [hi]; exact hb
    rw [if_neg hb] at hc ⊢
    rw [if_neg hb']
    exact ⟨rfl, Sim.must (s := s) (s' := s') _ h hc⟩
theorem sim_test {D D' : Dp} (hw : Dead w) (hD : d + 1 ≤ 10 → d + δ + 1 ≤ 10 → SimD δ w (d + 1) D D') (hN : D.Nice) (hN' : D'.Nice) (h0 : 0 ≤ δ) : SimF δ w d (testL D) (testL D') := fun s s' hd h hc => by
  have hS := sim_sum (d := d) hw hD hN hN' h0
  have hn := nice_sum hN
  have hn' := nice_sum hN'
  have o := hn s h.wf
  have o' := hn' s' h.wf'
  have hc1 : (sumL D s).2.c = 0 := Classical.byContradiction fun hne => by
    have hneg : (sumL D s).2.is tests < 0 := by
      rcases Int.lt_or_le ((sumL D s).2.is tests) 0 with h' | h'
      · exact h'
      · exact absurd (is_pos h').1 hne
    unfold testL at hc
    rw [if_pos hneg] at hc
    exact hne hc
  rcases hS s s' hd h hc1 with ⟨q1, q2⟩ | ⟨q1, q2⟩
  · left
    refine ⟨q1, ?_⟩
    have hneg : (sumL D' s').2.is tests < 0 := by
      rcases Int.lt_or_le ((sumL D' s').2.is tests) 0 with h' | h'
      · exact h'
      · have := (is_pos h').1; omega
    unfold testL
    rw [if_pos hneg]
    exact q2
  · have hi := q2.is tests (by rcases hw with rfl | rfl <;> decide)
    unfold testL at hc ⊢
    rw [hi]
    by_cases k : (sumL D s).2.is tests < 0
    · rw [if_pos k, if_pos k]
      exact .inr ⟨q1, q2⟩
    · rw [if_neg k] at hc ⊢
      rw [if_neg k]
      have g := q2.nextIs (ws := tests) (by omega)
      by_cases k8 : 3 + (sumL D s).2.is tests ≤ 8
      · rw [if_pos k8] at hc ⊢
        rw [if_pos k8]
        rcases hS (sumL D s).2.next (sumL D' s').2.next (o.d.trans hd) g hc with ⟨p1, p2⟩ | ⟨p1, p2⟩
        · exact .inl ⟨p1, p2⟩
        · exact .inr ⟨by rw [q1, p1], p2⟩
      · rw [if_neg k8] at hc ⊢
        rw [if_neg k8, q1]
        exact .inr (sim_isNull hw g hc)
theorem sim_not {D D' : Dp} (hw : Dead w) (hD : d + 1 ≤ 10 → d + δ + 1 ≤ 10 → SimD δ w (d + 1) D D') (hN : D.Nice) (hN' : D'.Nice) (h0 : 0 ≤ δ) : SimF δ w d (notL D) (notL D') := fun s s' hd h hc => by
  have hi := h.is [wNot] (by rcases hw with rfl | rfl <;> decide)
  unfold notL at hc ⊢
  by_cases hb : s.has wNot = true
  · have hb' : s'.has wNot = true := by unfold Rd.has at hb ⊢; rw [hi]; exact hb
    rw [if_pos hb] at hc ⊢
    rw [if_pos hb']
    rcases sim_within (fun a b => (hD a b).not) hN.not hN'.not h0 s.next s'.next hd (h.has hb).2 hc with ⟨q1, q2⟩ | ⟨q1, q2⟩
    · exact .inl ⟨q1, q2⟩
    · exact .inr ⟨by rw [q1], q2⟩
  · have hb' : ¬ s'.has wNot = true := by unfold Rd.has at hb ⊢; rw [hi]; exact hb
    rw [if_neg hb] at hc ⊢
    rw [if_neg hb']
    exact sim_test hw hD hN hN' h0 s s' hd h hc
theorem sim_ex {D D' : Dp} (hw : Dead w) (hD : d + 1 ≤ 10 → d + δ + 1 ≤ 10 → SimD δ w (d + 1) D D') (hN : D.Nice) (hN' : D'.Nice) (h0 : 0 ≤ δ) : SimF δ w d (exL D) (exL D') :=
  sim_row (sim_row (sim_not hw hD hN hN' h0) (nice_not hN) (nice_not hN') _ _ (by rcases hw with rfl | rfl <;> decide)) (nice_row (nice_not hN) _ _) (nice_row (nice_not hN') _ _) _ _ (by rcases hw with rfl | rfl <;> decide)
theorem sim_dp (hw : Dead w) (h0 : 0 ≤ δ) : ∀ (n m : Nat) (d : Int), 11 ≤ d + n → 11 ≤ d + δ + m → d ≤ 10 → d + δ ≤ 10 → SimD δ w d (dp n) (dp m)
  | 0, m, d, h1, h2, h3, h4 => by omega
  | n + 1, 0, d, h1, h2, h3, h4 => by omega
  | n + 1, m + 1, d, h1, h2, h3, h4 => by
    have hD : d + 1 ≤ 10 → d + δ + 1 ≤ 10 → SimD δ w (d + 1) (dp n) (dp m) := fun a b => sim_dp hw h0 n m (d + 1) (by omega) (by omega) a (by omega)
    exact ⟨sim_fac hw hD (dp_nice n) (dp_nice m) h0, sim_not hw hD (dp_nice n) (dp_nice m) h0, sim_ex hw hD (dp_nice n) (dp_nice m) h0⟩
end Go.Parse

/- The law of brackets, in plain Lean. -/
set_option linter.unusedVariables false
namespace Go.Parse
open Go.V Go.Lex Go.Proofs.Ytmokgifgnpocaaa
theorem is_end {s : Rd} {ws : List By} (h : (hd s.l).1 = 6) : s.is ws = -1 := by
  unfold Rd.is
  rw [if_pos (.inr ⟨by omega, by omega⟩)]
theorem row_end {F : Pr} {first : Int} {ws : List By} {s : Rd} (h : (hd (F s).2.l).1 = 6) : row F first ws s = F s := by
  unfold row
  rw [rowL_no (by rw [is_end h]; omega)]
theorem row_bad {F : Pr} {first : Int} {ws : List By} {s : Rd} (h : (F s).2.c ≠ 0) : row F first ws s = F s := by
  unfold row
  rw [rowL_no (fun hk => h (is_pos hk).1)]
/-- A reader at a bracket. -/
theorem lit_br {s : Rd} (hc : s.c = 0) (h5 : (hd s.l).1 = 5) (ht : (hd s.l).2.1 = [40]) : s.lit = (v0, false, s) := by
  have hm : s.is [wMinus] = -1 := by
    unfold Rd.is
    rw [if_neg (by rw [hc]; omega), ht, if_neg (by decide)]
  have hn : s.is [wNull] = -1 := by
    unfold Rd.is
    rw [if_neg (by rw [hc]; omega), ht, if_neg (by decide)]
  rw [lite hc (by omega) (by omega) (.inl (by omega))]
  unfold Rd.has Rd.pass
  rw [hn]
  rfl
theorem fac_br {D : Dp} {s : Rd} (hc : s.c = 0) (h5 : (hd s.l).1 = 5) (ht : (hd s.l).2.1 = [40]) : facL D s = ((within D.ex s.next).1, (within D.ex s.next).2.must [[41]]) := by
  have hb : s.is [wMinus, [40]] = 1 := by
    unfold Rd.is
    rw [if_neg (by rw [hc]; omega), ht]
    decide
  unfold facL
  rw [lit_br hc h5 ht]
  simp only [Bool.false_eq_true, if_false]
  rw [if_neg (by omega), if_pos hb]
theorem ex_of {D : Dp} {s : Rd} (hc : s.c = 0) (h5 : (hd s.l).1 = 5) (ht : (hd s.l).2.1 = [40]) (h : (hd (facL D s).2.l).1 = 6 ∨ (facL D s).2.c ≠ 0) : exL D s = facL D s := by
  have r : ∀ (F : Pr) (first : Int) (ws : List By), F s = facL D s → row F first ws s = facL D s := fun F first ws e => by
    rcases h with h | h
    · rw [row_end (by rw [e]; exact h), e]
    · rw [row_bad (by rw [e]; exact h), e]
  have e1 : termL D s = facL D s := r _ _ _ rfl
  have e2 : sumL D s = facL D s := r _ _ _ e1
  have hi : (facL D s).2.is tests < 0 := by
    rcases h with h | h
    · rw [is_end h]; omega
    · rcases Int.lt_or_le ((facL D s).2.is tests) 0 with h' | h'
      · exact h'
      · exact absurd (is_pos h').1 h
  have e3 : testL D s = facL D s := by
    unfold testL
    rw [e2, if_pos hi]
  have hn : ¬ s.has wNot = true := by
    unfold Rd.has Rd.is
    rw [if_neg (by rw [hc]; omega), ht, if_neg (by decide)]
    decide
  have e4 : notL D s = facL D s := by
    unfold notL
    rw [if_neg hn, e3]
  exact r _ _ _ (r _ _ _ e4)
theorem Tq_refl_len {i j : List Tk} (h : Tq i j) : True := trivial
/-- Brackets around all. -/
theorem brackets {l l2 i j : List Tk} {E E2 z b : Tk} (hl : l = i ++ [E]) (hl2 : l2 = b :: (j ++ [z, E2])) (hE : E.1 = 6) (hE2 : E2.1 = 6) (hb : b.1 = 5) (hb2 : b.2.1 = [40]) (hz : z.1 = 5) (hz2 : z.2.1 = [41]) (hq : Tq i j) (hn : ∀ x ∈ i, x.1 ≠ 6) (hc : (oneT l).2.c = 0) :
    (oneT l2).2.c = 10 ∨ ((oneT l2).2.c = 0 ∧ (oneT l2).1 = (oneT l).1) := by
  have hc0 : ((dp 11).ex (rd0 l)).2.c = 0 ∧ (hd ((dp 11).ex (rd0 l)).2.l).1 = 6 := by
    have : (((dp 11).ex (rd0 l)).2.fin).c = 0 := hc
    unfold Rd.fin at this
    split at this
    · exact absurd this (fail_c (by decide))
    · rename_i h
      refine ⟨this, Classical.byContradiction fun hne => h ⟨this, hne⟩⟩
  have hwf : WF l := by rw [hl]; exact WF_app _ _ hE
  have hwf' : WF (j ++ [z, E2]) := by
    have := WF_app (j ++ [z]) E2 hE2
    rwa [List.append_assoc] at this
  have hbn : (hd (rd0 l2).l).1 = 5 := by rw [hl2]; exact hb
  have hbt : (hd (rd0 l2).l).2.1 = [40] := by rw [hl2]; exact hb2
  have hf := fac_br (D := dp 10) (s := rd0 l2) rfl hbn hbt
  have hnx : (rd0 l2).next.l = j ++ [z, E2] := by rw [hl2]; rfl
  have hdn : (rd0 l2).next.down = ⟨j ++ [z, E2], 1, 0, 0⟩ := by
    unfold Rd.down
    rw [if_neg (by show ¬ (0 : Int) + 1 > 10; decide)]
    show (⟨(rd0 l2).next.l, 0 + 1, 0, 0⟩ : Rd) = _
    rw [hnx]; rfl
  have hS : Sim 1 [41] (rd0 l) ⟨j ++ [z, E2], 1, 0, 0⟩ := ⟨rfl, rfl, rfl, hwf, hwf', i, j, E, z, [E2], hl, rfl, hq, hE, hz, hz2, hn, rfl⟩
  have hsim := (sim_dp (δ := 1) (w := [41]) (.inl rfl) (by decide) 11 10 0 (by decide) (by decide) (by decide) (by decide)).ex (rd0 l) _ rfl hS hc0.1
  have hw : within (dp 10).ex (rd0 l2).next = (((dp 10).ex ⟨j ++ [z, E2], 1, 0, 0⟩).1, ((dp 10).ex ⟨j ++ [z, E2], 1, 0, 0⟩).2.up) := by
    unfold within
    rw [hdn, if_pos rfl]
  rw [hw] at hf
  have hone : oneT l2 = ((exL (dp 10) (rd0 l2)).1, (exL (dp 10) (rd0 l2)).2.fin) := rfl
  have o2 := (dp_nice 10).ex ⟨j ++ [z, E2], 1, 0, 0⟩ hwf'
  rcases hsim with ⟨_, q⟩ | ⟨q1, q2⟩
  · left
    have hcm : (facL (dp 10) (rd0 l2)).2.c = 10 := by
      rw [hf]
      have o3 := ok_must [[41]] ((dp 10).ex ⟨j ++ [z, E2], 1, 0, 0⟩).2.up o2.wf
      have hu : ((dp 10).ex ⟨j ++ [z, E2], 1, 0, 0⟩).2.up.c = 10 := q
      show (Rd.must _ _).c = 10
      rw [(o3.c (by omega)).1]
      exact hu
    rw [hone, ex_of rfl hbn hbt (.inr (by omega))]
    unfold Rd.fin
    rw [if_neg (fun h => by omega)]
    exact hcm
  · right
    obtain ⟨i0, j0, e0, z0, r0, a1, a2, a3, a4, a5, a6, a7, a8⟩ := q2.l
    have hj : j0 = [] := by
      cases a3 with
      | nil => rfl
      | cons x y i j hxy ht =>
        exfalso
        have : hd ((dp 11).ex (rd0 l)).2.l = x := by rw [a1]; rfl
        exact a7 x (by simp) (by rw [← this]; exact hc0.2)
    subst hj
    have hh : hd ((dp 10).ex ⟨j ++ [z, E2], 1, 0, 0⟩).2.up.l = z0 := by
      show hd ((dp 10).ex ⟨j ++ [z, E2], 1, 0, 0⟩).2.l = z0
      rw [a2]; rfl
    have hhas : ((dp 10).ex ⟨j ++ [z, E2], 1, 0, 0⟩).2.up.has [41] = true := by
      have hcu : ((dp 10).ex ⟨j ++ [z, E2], 1, 0, 0⟩).2.up.c = 0 := q2.c'
      unfold Rd.has Rd.is
      rw [hh, if_neg (by rw [hcu]; omega), a6]
      decide
    have hm : ((dp 10).ex ⟨j ++ [z, E2], 1, 0, 0⟩).2.up.must [[41]] = ((dp 10).ex ⟨j ++ [z, E2], 1, 0, 0⟩).2.up.next := by
      rw [Rd.must, if_pos hhas, Rd.must]
    have hw6 : (hd r0).1 = 6 := by
      have hwz := q2.wf'
      rw [a2] at hwz
      match r0, a8, hwz with
      | [x], _, hwz => exact hwz
    have hfl : (facL (dp 10) (rd0 l2)).2.l = r0 := by
      rw [hf]
      show (Rd.must _ _).l = r0
      rw [hm]
      show ((dp 10).ex ⟨j ++ [z, E2], 1, 0, 0⟩).2.l.tail = r0
      rw [a2]; rfl
    have hfc : (facL (dp 10) (rd0 l2)).2.c = 0 := by
      rw [hf]
      show (Rd.must _ _).c = 0
      rw [hm]
      exact q2.c'
    rw [hone, ex_of rfl hbn hbt (.inl (by rw [hfl]; exact hw6))]
    unfold Rd.fin
    rw [if_neg (fun h => h.2 (by rw [hfl]; exact hw6))]
    refine ⟨hfc, ?_⟩
    rw [hf]
    exact q1
end Go.Parse

/- The tokens of a text in brackets. -/
set_option linter.unusedVariables false
namespace Go.Parse
open Go.V Go.Lex Go.Proofs.Ytmokgifgnpocaaa
theorem tok1_kind {r : List UInt8} {k v n : Nat} {t : List UInt8} (h : tok1 r = .ok (k, t, v, n)) : k ≠ 6 := by
  have hwl : ∀ kd m, wl kd r m = .ok (k, t, v, n) → k ≠ 6 := fun kd m hw => by
    unfold wl at hw
    cases hw' : wordT kd r m with
    | error e => rw [hw'] at hw; cases hw
    | ok q =>
      obtain ⟨k', t', v'⟩ := q
      rw [hw'] at hw
      cases hw
      unfold wordT at hw'
      split at hw'
      · cases hw'
      · split at hw'
        · split at hw'
          · cases hw'; decide
          · cases hw'
        · split at hw'
          · split at hw'
            · cases hw'
            · cases hw'; decide
          · split at hw'
            · cases hw'; decide
            · cases hw'
  unfold tok1 at h
  split at h
  · unfold quotedT at h
    split at h
    · cases h
    · split at h
      · cases h
      · cases h; decide
  · split at h
    · exact hwl _ _ h
    · split at h
      · exact hwl _ _ h
      · split at h
        · exact hwl _ _ h
        · split at h
          · cases h; decide
          · cases h
theorem toks_kinds : ∀ (n : Nat) (r : List UInt8) (a : Nat) (l : List Tk), r.length ≤ n → toks r a = .ok l → ∃ i E, l = i ++ [E] ∧ E.1 = 6 ∧ ∀ x ∈ i, x.1 ≠ 6 := by
  intro n
  induction n with
  | zero =>
    intro r a l hn h
    rw [toks_end (by have := blanks_le r; omega)] at h
    cases h
    exact ⟨[], _, rfl, rfl, fun x hx => by simp at hx⟩
  | succ n ih =>
    intro r a l hn h
    by_cases hb : r.length ≤ blanks r
    · rw [toks_end hb] at h
      cases h
      exact ⟨[], _, rfl, rfl, fun x hx => by simp at hx⟩
    · cases ht : tok1 (r.drop (blanks r)) with
      | error e => rw [toks_err (by omega) ht] at h; cases h
      | ok p =>
        obtain ⟨k, t, v, m⟩ := p
        have hm := tok1_len (by simp; omega) ht
        rw [toks_ok (by omega) ht] at h
        cases hr : toks (r.drop (blanks r + m)) (a + blanks r + m) with
        | error q => rw [hr] at h; cases h
        | ok l' =>
          rw [hr] at h
          cases h
          obtain ⟨i, E, rfl, h2, h3⟩ := ih _ _ _ (by simp; omega) hr
          refine ⟨(k, t, v, a + blanks r) :: i, E, rfl, h2, fun x hx => ?_⟩
          rcases List.mem_cons.1 hx with rfl | hx
          · exact tok1_kind ht
          · exact h3 x hx
end Go.Parse

/- The first token of a text in brackets. -/
set_option linter.unusedVariables false
namespace Go.Parse
open Go.V Go.Lex Go.Proofs.Ytmokgifgnpocaaa
theorem tok1_br (r : List UInt8) : tok1 (40 :: r) = .ok (5, [40], 0, 1) := by
  have h0 : (List.getD (40 :: r) 0 0 : UInt8) = 40 := rfl
  have hf : signs.find? (fun x => hasPre x (40 :: r)) = some [40] := by simp [signs, hasPre]
  unfold tok1
  rw [h0, if_neg (by decide), if_neg (by decide), if_neg (by decide), if_neg (by decide), hf]
  rfl
theorem tok1_cl (r : List UInt8) : tok1 (41 :: r) = .ok (5, [41], 0, 1) := by
  have h0 : (List.getD (41 :: r) 0 0 : UInt8) = 41 := rfl
  have hf : signs.find? (fun x => hasPre x (41 :: r)) = some [41] := by simp [signs, hasPre]
  unfold tok1
  rw [h0, if_neg (by decide), if_neg (by decide), if_neg (by decide), if_neg (by decide), hf]
  rfl
theorem blanks_br (r : List UInt8) : blanks (40 :: r) = 0 := by
  refine blanks_stop ?_
  show (if ws 40 = true then 1 else if hasPre [45, 45] (40 :: r) = true then pre (· != 10) (40 :: r) else 0) = 0
  rw [if_neg (by decide), if_neg (by simp [hasPre])]
theorem toks_close (a : Nat) : toks [41] a = .ok [(5, [41], 0, a), (6, [], 0, a + 1)] := by
  have hb : blanks [41] = 0 := blanks_stop (by decide)
  have ht : tok1 ([41].drop (blanks [41])) = .ok (5, [41], 0, 1) := by rw [hb]; exact tok1_cl []
  rw [toks_ok (by rw [hb]; decide) ht, hb]
  have he : toks ([41].drop (0 + 1)) (a + 0 + 1) = .ok [(6, [], 0, a + 1)] := by
    rw [toks_end (by simp)]
    have : blanks (([41] : List UInt8).drop (0 + 1)) = 0 := blanks_stop (by decide)
    rw [this]
  rw [he]
  rfl
theorem toks_br (r : List UInt8) (a : Nat) : toks (40 :: r) a = appE [(5, [40], 0, a)] (toks r (a + 1)) := by
  have hb := blanks_br r
  have ht : tok1 ((40 :: r).drop (blanks (40 :: r))) = .ok (5, [40], 0, 1) := by rw [hb]; exact tok1_br r
  rw [toks_ok (by rw [hb]; simp) ht, hb]
  rfl
end Go.Parse

/- The law of brackets, of texts. -/
set_option linter.unusedVariables false
namespace Go.Parse
open Go.V Go.Lex Go.Proofs.Ytmokgifgnpocaaa
theorem Tq_map (f : Tk → Tk) (hf : ∀ x, tq x (f x)) : ∀ i : List Tk, Tq i (i.map f)
  | [] => .nil
  | x :: i => .cons _ _ _ _ (hf x) (Tq_map f hf i)
theorem brackets_all {s : List UInt8} (hs : s.length ≤ 1996) (h : (oneAll s).2.1 = 0) : (oneAll (40 :: (s ++ [10, 41]))).2.1 = 10 ∨ ((oneAll (40 :: (s ++ [10, 41]))).2.1 = 0 ∧ (oneAll (40 :: (s ++ [10, 41]))).1 = (oneAll s).1) := by
  cases hl : lexAll s with
  | error q =>
    obtain ⟨e, a⟩ := q
    have := lexAll_nz hl
    unfold oneAll at h
    rw [hl] at h
    have h' : (e : Int) = 0 := h
    omega
  | ok l =>
    have ht : toks s 0 = .ok l := by
      unfold lexAll at hl
      rw [if_neg (by omega)] at hl
      cases ht : toks s 0 with
      | ok m => rw [ht] at hl; cases hl; rfl
      | error q => rw [ht] at hl; cases hl
    obtain ⟨i, E, rfl, hE, hn⟩ := toks_kinds s.length s 0 l (Nat.le_refl _) ht
    obtain ⟨i', hi', hj⟩ := toks_join_ok s.length s [41] 0 _ (Nat.le_refl _) ht
    obtain ⟨rfl, _⟩ := List.append_inj' hi' rfl
    have h1 : toks (s ++ [10, 41]) 1 = shiftE 1 (toks (s ++ [10, 41]) 0) := toks_shift _ _ 0 1 (Nat.le_refl _)
    have hj' : toks (s ++ [10, 41]) 0 = appE i (toks [41] (0 + s.length + 1)) := hj
    rw [hj', toks_close] at h1
    have h2 := toks_br (s ++ [10, 41]) 0
    rw [Nat.zero_add] at h2
    rw [h1] at h2
    have h3 : lexAll (40 :: (s ++ [10, 41])) = .ok _ := lexAll_ok (by simp; omega) h2
    have ha : oneAll s = oneR (i ++ [E]) := by unfold oneAll; rw [hl]
    have hb : oneAll (40 :: (s ++ [10, 41])) = oneR ([(5, [40], 0, 0)] ++ List.map (fun x => (x.1, x.2.1, x.2.2.1, x.2.2.2 + 1)) (i ++ [(5, [41], 0, 0 + s.length + 1), (6, [], 0, 0 + s.length + 1 + 1)])) := by unfold oneAll; rw [h3]
    rw [ha] at h ⊢
    rw [hb]
    have hc : (oneT (i ++ [E])).2.c = 0 := Classical.byContradiction fun hne => by
      unfold oneR at h
      rw [if_neg hne] at h
      exact hne h
    have key := brackets (l := i ++ [E]) (i := i) (E := E) (b := (5, [40], 0, 0)) (j := i.map fun x => (x.1, x.2.1, x.2.2.1, x.2.2.2 + 1)) (z := (5, [41], 0, 0 + s.length + 1 + 1)) (E2 := (6, [], 0, 0 + s.length + 1 + 1 + 1)) rfl rfl hE rfl rfl rfl rfl rfl (Tq_map (fun x => (x.1, x.2.1, x.2.2.1, x.2.2.2 + 1)) (fun x => ⟨rfl, rfl, rfl⟩) i) hn hc
    have he : ([(5, [40], 0, 0)] ++ List.map (fun x => (x.1, x.2.1, x.2.2.1, x.2.2.2 + 1)) (i ++ [(5, [41], 0, 0 + s.length + 1), (6, [], 0, 0 + s.length + 1 + 1)])) = (5, [40], 0, 0) :: ((i.map fun x => (x.1, x.2.1, x.2.2.1, x.2.2.2 + 1)) ++ [((5, [41], 0, 0 + s.length + 1 + 1) : Tk), (6, [], 0, 0 + s.length + 1 + 1 + 1)]) := by simp
    rw [he]
    generalize (5, [40], 0, 0) :: ((i.map fun x => (x.1, x.2.1, x.2.2.1, x.2.2.2 + 1)) ++ [((5, [41], 0, 0 + s.length + 1 + 1) : Tk), (6, [], 0, 0 + s.length + 1 + 1 + 1)]) = L2 at key ⊢
    unfold oneR
    rw [if_pos hc]
    rcases key with k | ⟨k1, k2⟩
    · rw [if_neg (by omega)]
      exact .inl k
    · rw [if_pos k1]
      exact .inr ⟨rfl, k2⟩
end Go.Parse

set_option linter.unusedSimpArgs false
set_option linter.unusedVariables false
namespace Go.Parse
open Go.V Go.Lex Go.Proofs.Ytmokgifgnpocaaa
def Ex.opn : Ex → Int
  | .mk _ op _ _ _ _ => op
def Ex.args : Ex → List Ex
  | .mk _ _ _ _ _ l => l
end Go.Parse
namespace Go.Proofs.Ytmokgifgnpocaaa
open Go Go.V Go.Lex Go.Parse
abbrev smA : By := [83, 69, 76, 69, 67, 84, 32, 42, 32, 70, 82, 79, 77, 32, 116, 32, 76, 73, 77, 73, 84, 32, 50]
abbrev smB : By := [49, 32, 43, 32, 50, 32, 42, 32, 45, 51]
theorem smA_ok : (scriptAll smA).2 = (0, 0) ∧ ((scriptAll smA).1.map fun x => (x.k, x.t, x.lim)) = [(6, [116], 2)] := by decide +kernel
theorem smB_ok : (oneAll smB).2 = (0, 0) ∧ (oneAll smB).1.opn = 9 ∧ ((oneAll smB).1.args.map Ex.opn) = [0, 11] := by decide +kernel
theorem eq30 {d : TypeDesc} {a b a' b' : Int} : veqT Try.prog 30 d (.agg [.i a, .i b]) (.agg [.i a', .i b']) = some (decide (a = a') && (decide (b = b') && true)) := by
  rw [veqT_agg (by kernel_rfl), veqIn_struct (d := 9999) Try.underlying30 (by kernel_rfl)]
  exact veqFs_cons (by decide) (partO_one info28 Try.underlying28 rfl) (partO_one info28 Try.underlying28 rfl) (veqIn_int Try.underlying28) (veqFs_cons (by decide) (partO_one info3 Try.underlying3 rfl) (partO_one info3 Try.underlying3 rfl) (veqIn_int Try.underlying3) rfl)
theorem smA_form : ∃ x : Stm, (scriptAll smA).1 = [x] ∧ x.k = 6 ∧ x.t = [116] ∧ x.lim = 2 := by
  have h := smA_ok.2
  cases hl : (scriptAll smA).1 with
  | nil => rw [hl] at h; cases h
  | cons x r =>
    rw [hl] at h
    simp only [List.map_cons, List.cons.injEq, Prod.mk.injEq, List.map_eq_nil_iff] at h
    obtain ⟨⟨h1, h2, h3⟩, rfl⟩ := h
    exact ⟨x, rfl, h1, h2, h3⟩
theorem smB_form : ∃ k t n v a k2 t2 n2 v2 l2, (oneAll smB).1 = .mk k 9 t n v [a, .mk k2 11 t2 n2 v2 l2] := by
  obtain ⟨_, h1, h2⟩ := smB_ok
  generalize (oneAll smB).1 = e at *
  cases e with
  | mk k op t n v l =>
    cases h1
    cases l with
    | nil => simp [Ex.args] at h2
    | cons a l =>
      cases l with
      | nil => simp [Ex.args] at h2
      | cons b l =>
        cases b with
        | mk k2 op2 t2 n2 v2 l2 =>
          simp only [Ex.args, List.map_cons, List.cons.injEq, Ex.opn, List.map_eq_nil_iff] at h2
          obtain ⟨_, rfl, rfl⟩ := h2
          exact ⟨k, t, n, v, a, k2, t2, n2, v2, l2, rfl⟩
theorem gd0 {α : Type} (a : α) (l : List α) (d : α) : (a :: l).getD 0 d = a := rfl
theorem gd1 {α : Type} (a b : α) (l : List α) (d : α) : (a :: b :: l).getD 1 d = b := rfl
set_option maxHeartbeats 1000000 in
set_option maxRecDepth 100000 in
theorem c5 (σ : Sg) : VCalls Try.prog 5 [] σ (fun x σ' => x = .b true ∧ σ' = σ) := by
  obtain ⟨z30, h30, hz30⟩ := zero30
  obtain ⟨z27, h27, hz27⟩ := zero27
  obtain ⟨z44, h44, hz44⟩ := zero44
  simp only [ex0, exK_mk, exsA_nil] at hz27
  have h8 : ∀ σ, VCalls Try.prog 8 [.s (bs smA)] σ _ := fun σ => c8 smA σ
  have h6 : ∀ σ, VCalls Try.prog 6 [.s (bs smB)] σ _ := fun σ => p6 smB σ
  obtain ⟨x, e1, e2, e3, e4⟩ := smA_form
  obtain ⟨k, t, n, v, a, k2, t2, n2, v2, l2, e5⟩ := smB_form
  have hb : exsA [a, .mk k2 11 t2 n2 v2 l2] = [exA a, [.i k2, .i 11, .s (bs t2), .s (bs n2), .i v2.1, .i v2.2.1, .s (bs v2.2.2), .sl .any (exsA l2)]] := by rw [opA, exA_mk]
  have hal := exA_len a
  have e6 : (scriptAll smA).2.1 = 0 := by rw [smA_ok.1]
  have e7 : (scriptAll smA).2.2 = 0 := by rw [smA_ok.1]
  have e8 : (oneAll smB).2.1 = 0 := by rw [smB_ok.1]
  have e9 : (oneAll smB).2.2 = 0 := by rw [smB_ok.1]
  rw [e1, e6, e7] at h8
  rw [e5, e8, e9] at h6
  simp only [List.map_cons, List.map_nil, stmA, e2, e3, e4] at h8
  rw [exA_mk, hb] at h6
  generalize exA a = A at *
  (refine vfun (fun _ => .no) mixed Try.func5 (by kernel_rfl) ?_; simp only [bodyOf, Try.f5, Option.getD_some])
  repeat' (first | with_reducible rfl | exact .inr trivial | with_reducible apply And.intro | with_reducible apply vqx_step | with_reducible apply vqm_step | with_reducible refine vkp_free (by decide +kernel) ?_ | with_reducible intro _ | ((first | (with_reducible first | refine .rs ?_ | refine .ds (by kernel_rfl) ?_ | refine .dg (by kernel_rfl) ?_ | refine .rg ?_ | refine .ite ?_ | refine .ret ?_ | refine .skip ?_ | refine .exit ?_ | refine .scope ?_ | refine .seq (.label ?_) | refine .block ?_ | refine .seq ?_) | (simp (disch := first | assumption | (apply Go.Cert.ne_of2; assumption; assumption) | (apply Go.Cert.ne_ob; assumption; assumption; (intro e; cases e; done)) | omega) only [w64, w8, tg_eq, Go.V.n1, Go.V.n2, Go.V.nn, Int.tdiv_eq_ediv_of_nonneg, Sg.set_same, Sg.set_ne, Sg.set_ne', Sg.del_ne, Sg.del_ne']) | ((with_reducible refine VCalls.mono (h8 _) ?_); rintro _ S ⟨rfl, rfl⟩) | ((with_reducible refine VCalls.mono (h6 _) ?_); rintro _ S ⟨rfl, rfl⟩) | (refine vlo_app (by first | assumption | ((simp (disch := first | assumption | (apply Go.Cert.ne_of2; assumption; assumption) | (apply Go.Cert.ne_ob; assumption; assumption; (intro e; cases e; done)) | omega) only [Sg.set_same, Sg.set_ne, Sg.set_ne', Sg.del_ne, Sg.del_ne']); first | done | rfl | assumption)) ?_) | (refine vst_app (by first | assumption | ((simp (disch := first | assumption | (apply Go.Cert.ne_of2; assumption; assumption) | (apply Go.Cert.ne_ob; assumption; assumption; (intro e; cases e; done)) | omega) only [Sg.set_same, Sg.set_ne, Sg.set_ne', Sg.del_ne, Sg.del_ne']); first | done | rfl | assumption)) ?_)); (try simp only [vO, vQ, ↓vP, vE, vS, vB, vL, vF, vM, vN, vbs_full, Nat.reduceEqDiff, Nat.reduceAdd, Nat.reduceLeDiff, ne_eq, not_false_eq_true, Nat.reduceMul, Nat.reduceSub, Int.toNat_zero, Int.reduceToNat, Try.underlying3, info3, Try.underlying4, info4, Try.underlying9, info9, Try.underlying28, info28, Try.underlying30, h30, hz30, Try.underlying27, h27, hz27, Try.underlying25, info25, Try.underlying35, info35, Try.underlying44, h44, hz44, eq30, hal, gd0, gd1, decide_true, Bool.and_self, vT])) | with_reducible refine vfresh_set ?_ | with_reducible refine vfresh_intro (fun _ _ => ?_) | with_reducible refine vif_intro (fun _ => ?_) (fun _ => ?_) | omega | ((with_reducible first | refine vop_at ?_ | refine vops_at ?_ | refine vquiet_at ?_ | refine vmix_at ?_ | refine Holds_at ?_); simp only [vO, vQ, ↓vP, vE, vS, vB, vL, vF, vM, vN, vbs_full, Nat.reduceEqDiff, Nat.reduceAdd, Nat.reduceLeDiff, ne_eq, not_false_eq_true, Nat.reduceMul, Nat.reduceSub, Int.toNat_zero, Int.reduceToNat, Try.underlying3, info3, Try.underlying4, info4, Try.underlying9, info9, Try.underlying28, info28, Try.underlying30, h30, hz30, Try.underlying27, h27, hz27, Try.underlying25, info25, Try.underlying35, info35, Try.underlying44, h44, hz44, eq30, hal, gd0, gd1, decide_true, Bool.and_self, vT]))
  all_goals (first | ((first | refine ⟨_, ?_, rfl⟩ | refine ⟨_, ?_, rfl, rfl⟩ | refine ⟨_, ?_⟩); (first | exact Sg.sub.refl _ | ((repeat (first | exact Sg.sub.refl _ | refine Sg.sub.set_both ?_ | refine Sg.sub.set_fresh ?_ (by first | assumption | exact Sg.set_none (by assumption) (by first | assumption | (apply Go.Cert.ne_of2a; assumption; assumption))))); done) | (intro y p hy; simp only [Sg.set_apply, Sg.del_apply] at hy ⊢; grind))) | (exfalso; omega))
set_option maxHeartbeats 1000000 in
set_option maxRecDepth 100000 in
theorem c3 (b : By) (hb : b.length < 2 ^ 62) (σ : Sg) : VCalls Try.prog 3 [.s (bs b)] σ (fun x σ' => x = .b true ∧ σ' = σ) := by
  obtain ⟨z30, h30, hz30⟩ := zero30
  obtain ⟨z27, h27, hz27⟩ := zero27
  simp only [ex0, exK_mk, exsA_nil] at hz27
  have h5 := c5
  have h6 := p6 b
  have hs : (bs b).size = b.length := bs_size b
  have hs2 : (bs (40 :: b)).size = b.length + 1 := bs_size _
  have h6b : ∀ σ, VCalls Try.prog 6 [.s (bs (40 :: (b ++ [10, 41])))] σ _ := fun σ => p6 (40 :: (b ++ [10, 41])) σ
  have ha1 : bs [40] ++ bs b = bs (40 :: b) := bs_append _ _
  have ha2 : bs (40 :: b) ++ bs [10, 41] = bs (40 :: (b ++ [10, 41])) := bs_append _ _
  have hbr := fun h1 h2 => brackets_all (s := b) h1 h2
  have hSm := p7 (sm_oneAll b)
  have hel := exA_len (oneAll b).1
  have hoo := exA_one (oneAll b).1
  have ht := exA_take (oneAll b).1
  have hd := exA_drop (oneAll b).1
  have hel2 := exA_len (oneAll (40 :: (b ++ [10, 41]))).1
  have hoo2 := exA_one (oneAll (40 :: (b ++ [10, 41]))).1
  have ht2 := exA_take (oneAll (40 :: (b ++ [10, 41]))).1
  have hd2 := exA_drop (oneAll (40 :: (b ++ [10, 41]))).1
  generalize (oneAll (40 :: (b ++ [10, 41]))).1 = e2 at *
  generalize (oneAll (40 :: (b ++ [10, 41]))).2.1 = c2 at *
  generalize (oneAll (40 :: (b ++ [10, 41]))).2.2 = a2 at *
  generalize (oneAll b).1 = e1 at *
  generalize (oneAll b).2.1 = c1 at *
  generalize (oneAll b).2.2 = a1 at *
  have hb2 : b.length ≤ 1996 → c1 = 0 → c2 = 10 ∨ c2 = 0 := fun h1 h2 => (hbr h1 h2).imp id And.left
  have h7 : ∀ σ, b.length ≤ 1996 → c1 = 0 → ¬ c2 = 10 → VCalls Try.prog 7 [.agg (exA e1), .agg (exA e2)] σ (fun x σ' => x = .b true ∧ σ' = σ) := fun σ h1 h2 h3 => by
    rcases hbr h1 h2 with h | h
    · exact absurd h h3
    · rw [h.2]; exact hSm σ
  (refine vfun (fun _ => .no) mixed Try.func3 (by kernel_rfl) ?_; simp only [bodyOf, Try.f3, Option.getD_some])
  repeat' (first | with_reducible rfl | exact .inr trivial | with_reducible apply And.intro | with_reducible apply vqx_step | with_reducible apply vqm_step | with_reducible refine vkp_free (by decide +kernel) ?_ | with_reducible intro _ | ((first | (with_reducible first | refine .rs ?_ | refine .ds (by kernel_rfl) ?_ | refine .dg (by kernel_rfl) ?_ | refine .rg ?_ | refine .ite ?_ | refine .ret ?_ | refine .skip ?_ | refine .exit ?_ | refine .scope ?_ | refine .seq (.label ?_) | refine .block ?_ | refine .seq ?_) | (simp (disch := first | assumption | (apply Go.Cert.ne_of2; assumption; assumption) | (apply Go.Cert.ne_ob; assumption; assumption; (intro e; cases e; done)) | omega) only [w64, w8, tg_eq, Go.V.n1, Go.V.n2, Go.V.nn, Int.tdiv_eq_ediv_of_nonneg, Sg.set_same, Sg.set_ne, Sg.set_ne', Sg.del_ne, Sg.del_ne']) | ((with_reducible refine VCalls.mono (h5 _) ?_); rintro _ S ⟨rfl, rfl⟩) | ((with_reducible refine VCalls.mono (h6 _) ?_); rintro _ S ⟨rfl, rfl⟩) | ((with_reducible refine VCalls.mono (h6b _) ?_); rintro _ S ⟨rfl, rfl⟩) | ((with_reducible refine VCalls.mono (h7 _ (by omega) (by assumption) (by assumption)) ?_); rintro _ S ⟨rfl, rfl⟩) | (refine vlo_app (by first | assumption | ((simp (disch := first | assumption | (apply Go.Cert.ne_of2; assumption; assumption) | (apply Go.Cert.ne_ob; assumption; assumption; (intro e; cases e; done)) | omega) only [Sg.set_same, Sg.set_ne, Sg.set_ne', Sg.del_ne, Sg.del_ne']); first | done | rfl | assumption)) ?_) | (refine vst_app (by first | assumption | ((simp (disch := first | assumption | (apply Go.Cert.ne_of2; assumption; assumption) | (apply Go.Cert.ne_ob; assumption; assumption; (intro e; cases e; done)) | omega) only [Sg.set_same, Sg.set_ne, Sg.set_ne', Sg.del_ne, Sg.del_ne']); first | done | rfl | assumption)) ?_)); (try simp only [vO, vQ, ↓vP, vE, vS, vB, vL, vF, vM, vN, vbs_full, Nat.reduceEqDiff, Nat.reduceAdd, Nat.reduceLeDiff, ne_eq, not_false_eq_true, Nat.reduceMul, Nat.reduceSub, Int.toNat_zero, Int.reduceToNat, Try.underlying3, info3, Try.underlying4, info4, Try.underlying9, info9, Try.underlying28, info28, Try.underlying30, h30, hz30, Try.underlying27, h27, hz27, Try.underlying25, info25, hel, hoo, ht, hd, hel2, hoo2, ht2, hd2, hs, hs2, ha1, ha2, vT])) | with_reducible refine vfresh_set ?_ | with_reducible refine vfresh_intro (fun _ _ => ?_) | with_reducible refine vif_intro (fun _ => ?_) (fun _ => ?_) | omega | ((with_reducible first | refine vop_at ?_ | refine vops_at ?_ | refine vquiet_at ?_ | refine vmix_at ?_ | refine Holds_at ?_); simp only [vO, vQ, ↓vP, vE, vS, vB, vL, vF, vM, vN, vbs_full, Nat.reduceEqDiff, Nat.reduceAdd, Nat.reduceLeDiff, ne_eq, not_false_eq_true, Nat.reduceMul, Nat.reduceSub, Int.toNat_zero, Int.reduceToNat, Try.underlying3, info3, Try.underlying4, info4, Try.underlying9, info9, Try.underlying28, info28, Try.underlying30, h30, hz30, Try.underlying27, h27, hz27, Try.underlying25, info25, hel, hoo, ht, hd, hel2, hoo2, ht2, hd2, hs, hs2, ha1, ha2, vT]))
  all_goals (first | ((first | refine ⟨_, ?_, rfl⟩ | refine ⟨_, ?_, rfl, rfl⟩ | refine ⟨_, ?_⟩); (first | exact Sg.sub.refl _ | ((repeat (first | exact Sg.sub.refl _ | refine Sg.sub.set_both ?_ | refine Sg.sub.set_fresh ?_ (by first | assumption | exact Sg.set_none (by assumption) (by first | assumption | (apply Go.Cert.ne_of2a; assumption; assumption))))); done) | (intro y p hy; simp only [Sg.set_apply, Sg.del_apply] at hy ⊢; grind))) | (exfalso; omega))
end Go.Proofs.Ytmokgifgnpocaaa

namespace Go.Proofs.Ytmokgifgnpocaaa
open Go Go.V Go.Lex Go.Parse
theorem t3 (b : By) (σ : Sg) (hb : b.length < 2 ^ 62) : VCalls Try.prog 3 [.s (bs b)] σ (fun x σ' => x = .b true ∧ σ' = σ) := c3 b hb σ
end Go.Proofs.Ytmokgifgnpocaaa

/- From a call's triple to the call as the rows have it. -/
namespace Go.V
open Go.RowKit
variable {P : Program}
/-- The ghost state at the start: nothing may be written, nothing has a name. -/
def K0 (w : World) : K := ⟨w, fun _ _ => False, fun _ => none, w.heap.size⟩
def S0 : Sg := fun _ => none
theorem st0 (w : World) : St (K0 w) S0 where
  ob _ _ h := by cases h
  apart _ _ _ _ _ _ _ _ _ _ h := by cases h
  fin := ⟨0, fun _ _ => rfl⟩
  mlt _ _ h := h.elim
  bas := Nat.le_refl _
theorem VCalls.calls {f : FuncId} {fn : Func} {args : List AV} {vs : Array Value} {w : World} (hf : P.funcs[f]? = some fn) (hb : (fn.body.isSome && !(fn.name == "runtime.NumGoroutine")) = true)
    (h : VCalls P f args S0 (fun x _ => x = .b true)) (hr : RelArgs (K0 w) args vs) : Calls P f vs w fun e w' => e = .returned (.bool true) ∧ Below w.heap.size w w' := by
  simp only [Bool.and_eq_true] at hb
  obtain ⟨h1, h2⟩ := hb
  obtain ⟨c, hc⟩ : ∃ c, fn.body = some c := by
    cases hh : fn.body with
    | none => rw [hh] at h1; cases h1
    | some c => exact ⟨c, rfl⟩
  have hrun : (callFunc f vs).run P w = .ok (.enter f vs) w := by
    have h3 : fn.name ≠ "runtime.NumGoroutine" := by simpa using h2
    simp [callFunc, program, Sem.run, Bind.bind, Sem.bind, hf, h3, hc]
  have hd := h.go (K0 w) vs (st0 w) hr
  rw [show (K0 w).w = w from rfl, hrun] at hd
  have hcalls : Calls P f vs w (PostE (K0 w) (fun x _ => x = .b true)) := hd
  refine hcalls.mono fun e w' hp => ?_
  cases e with
  | returned v =>
    obtain ⟨κ', x, σ', rfl, hle, hst, hrel, rfl⟩ := hp
    refine ⟨?_, ⟨hle.os, hle.tape, hle.output, hle.size, fun k hk => hle.block k hk⟩⟩
    cases hrel
    rfl
  | _ => exact hp.elim
theorem rel_args1 {κ : K} {v : Value} : RelArgs κ [.val v] #[v] := ⟨rfl, fun i x u h1 h2 => by
  cases i with
  | zero => simp at h1 h2; subst h1; subst h2; exact .val _
  | succ i => simp at h1⟩
theorem rel_args2 {κ : K} {v v' : Value} : RelArgs κ [.val v, .val v'] #[v, v'] := ⟨rfl, fun i x u h1 h2 => by
  match i with
  | 0 => simp at h1 h2; subst h1; subst h2; exact .val _
  | 1 => simp at h1 h2; subst h1; subst h2; exact .val _
  | i + 2 => simp at h1⟩
end Go.V
