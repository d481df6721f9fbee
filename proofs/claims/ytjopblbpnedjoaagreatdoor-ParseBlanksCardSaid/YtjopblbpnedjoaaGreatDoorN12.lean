/- Part 12 of the proof: B30, V22, S1, B15, B16, B17, B18, B19. -/
import Derived.Test.YtjopblbpnedjoaaGreatDoorN11
import Derived.Test.YtjopblbpnedjoaaGreatDoorN5
import Derived.Test.YtjopblbpnedjoaaGreatDoorN7

set_option linter.all false
set_option maxRecDepth 100000
set_option maxHeartbeats 1000000
open Nat renaming reduceEqDiff → za, reduceAdd → zb, reduceLeDiff → zc, reduceMul → zd, reduceSub → ze
open Int renaming toNat_zero → zh, reduceToNat → zi, tdiv_eq_ediv_of_nonneg → zj
open Go.V.Sg renaming set_same → zk, set_ne → zl, set_ne' → zm, del_ne → zn, del_ne' → zo
open Option renaming getD_some → zp
open Go.Cert renaming ne_of2 → zq, ne_ob → zr, lk → zs
open Go.V.VCalls renaming mono → zt
open Go.Proofs.Tryz renaming underlying0 → Z0, underlying3 → Z3, underlying4 → Z4, underlying9 → Z9, underlying24 → Z24, underlying26 → Z26, underlying30 → Z30, underlying33 → Z33, underlying34 → Z34, underlying35 → Z35, underlying36 → Z36, underlying37 → Z37, underlying49 → Z49, underlying50 → Z50, underlying51 → Z51, underlying52 → Z52, underlying53 → Z53, underlying54 → Z54, underlying75 → Z75, underlying76 → Z76, underlying109 → Z109, underlying110 → Z110, underlying112 → Z112, underlying113 → Z113, underlying188 → Z188
set_option linter.unusedSimpArgs false
set_option linter.unusedVariables false
namespace Go.Proofs.YtjopblbpnedjoaaGreatDoor
open Go Go.V Go.Lex Go.Parse
theorem keepAll {ρ : Nat} {S σ' : Sg} {o : Option Ob} (h : Keep (fun _ => True) S σ') (hS : S ρ = o) : σ' ρ = o := (h ρ trivial).trans hS
theorem lose_script {f : FuncId} {args : List AV} {l : List Stm} {c a : Int} {σ S : Sg} (h : VCalls Tryz.prog f args σ (fun x σ' => ∃ o, x = .tup [.sl o (l.map stmA), .agg [.i c, .i a]] ∧ S.sub σ')) : VCalls Tryz.prog f args σ (fun x σ' => x = .tup [.sl .any (l.map stmA), .agg [.i c, .i a]] ∧ σ' = S) :=
  h.lose fun x σ' hx => by
    obtain ⟨o, rfl, hs⟩ := hx
    exact ⟨_, S, (AVw.any o _).tup2 (AVw.refl _), hs, rfl, rfl⟩
theorem stmA_one (x : Stm) : (stmA x).all AV.one = true := rfl
theorem stmA_take (x : Stm) : (stmA x).take 14 = stmA x := rfl
theorem stmA_drop (x : Stm) : (stmA x).drop 14 = [] := rfl
theorem grow00 {τ sz : Nat} : grow τ sz 0 = .nil := rfl
theorem grow_ne {τ sz n : Nat} (h : n ≠ 0) : grow τ sz n = .tok τ sz := if_neg h
def stS (σ : Sg) (ρ : Nat) (τ : Nat) (acc : List Stm) (s : Rd) : Sg := tset (σ.set ρ (rdA s)) τ acc.length 54
def okS (σ : Sg) (ρ x3 x5 : Nat) (τ : Nat) (acc : List Stm) : Prop := acc ≠ [] → σ τ = none ∧ τ ≠ ρ ∧ τ ≠ x3 ∧ τ ≠ x5
theorem stS_ne {σ : Sg} {ρ τ : Nat} {acc : List Stm} {s : Rd} (h : acc ≠ []) : stS σ ρ τ acc s = (σ.set ρ (rdA s)).set τ (.tok (some 54)) := by
  cases acc with
  | nil => exact absurd rfl h
  | cons v r => unfold stS; rw [List.length_cons, tset1]
def More (R : List Stm × Rd) (acc : List Stm) (s : Rd) (b : Bool) : Prop := if b then acc.length ≤ 8 ∧ manyL stateL [59] (8 - acc.length) acc s = R else acc.length ≤ 9 ∧ acc ≠ [] ∧ R = (acc, s)
theorem scriptR_eq (l : List Tk) : scriptR l = if ((manyL stateL [59] 8 [] (rd0 l)).2.fin).c = 0 then ((manyL stateL [59] 8 [] (rd0 l)).1, 0, 0) else ([], ((manyL stateL [59] 8 [] (rd0 l)).2.fin).c, ((manyL stateL [59] 8 [] (rd0 l)).2.fin).a) := rfl
theorem c8 (b : List UInt8) (σ : Sg) : VCalls Tryz.prog 18 [.s (bs b)] σ (fun x σ' => x = .tup [.sl .any ((scriptAll b).1.map stmA), .agg [.i (scriptAll b).2.1, .i (scriptAll b).2.2]] ∧ σ' = σ) := by
  refine lose_script ?_
  obtain ⟨z30, h30, hz30⟩ := zero30
  have h9 := p9 b
  unfold scriptAll
  cases hl : lexAll b with
  | error q =>
    obtain ⟨e, a⟩ := q
    have he := lexAll_nz hl
    simp only [hl] at h9
    simp only [List.map_nil]
    (refine vfun (fun _ => .no) mixed Tryz.func18 (by kernel_rfl) ?_; simp only [bodyOf, Tryz.f18, zp])
    repeat' (first | with_reducible rfl | exact .inr trivial | (with_reducible first | apply And.intro | apply vqx_step | apply vqm_step | refine vkp_free (by decide +kernel) ?_ | intro _) | ((with_reducible refine .dms (fun _ => True) [(0, false), (1, false), (2, true)] (by decide) (by decide +kernel) ?_); (simp only [vO, vQ, ↓vP, vE, vS, vB, vL, vF, vM, vN, vbs_full, za, zb, zc, ne_eq, not_false_eq_true, zd, ze, zh, zi, Z3, info3, Z4, info4, Z24, info24, Z26, h30, hz30, Z9, info9, vT])) | ((first | (with_reducible first | refine .rs ?_ | refine .ds (by kernel_rfl) ?_ | refine .dg (by kernel_rfl) ?_ | refine .rg ?_ | refine .ite ?_ | refine .ret ?_ | refine .skip ?_ | refine .exit ?_ | refine .scope ?_ | refine .seq (.label ?_) | refine .block ?_ | refine .seq ?_) | (simp (disch := first | assumption | (apply zq; assumption; assumption) | (apply zr; assumption; assumption; (intro e; cases e; done)) | omega) only [w64, w8, tg_eq, Go.V.n1, Go.V.n2, Go.V.nn, zj, zk, zl, zm, zn, zo]) | ((with_reducible refine (h9 _).mono ?_); rintro _ S ⟨rfl, rfl⟩) | (refine vlo_app (o' := some (.cells 26 [.i e, .i a])) (keepAll (by assumption) (by first | assumption | ((simp (disch := first | assumption | (apply zq; assumption; assumption) | (apply zr; assumption; assumption; (intro e; cases e; done)) | omega) only [zk, zl, zm, zn, zo]); first | done | rfl | assumption))) ?_) | (refine vlo_app zs ?_) | (refine vst_app zs ?_)); (try simp only [vO, vQ, ↓vP, vE, vS, vB, vL, vF, vM, vN, vbs_full, za, zb, zc, ne_eq, not_false_eq_true, zd, ze, zh, zi, Z3, info3, Z4, info4, Z24, info24, Z26, h30, hz30, Z9, info9, vT])) | (with_reducible first | refine vfresh_set ?_ | refine vfresh_intro (fun _ _ => ?_) | refine vif_intro (fun _ => ?_) (fun _ => ?_)) | omega | ((with_reducible first | refine vop_at ?_ | refine vops_at ?_ | refine vquiet_at ?_ | refine vmix_at ?_ | refine Holds_at ?_); simp only [vO, vQ, ↓vP, vE, vS, vB, vL, vF, vM, vN, vbs_full, za, zb, zc, ne_eq, not_false_eq_true, zd, ze, zh, zi, Z3, info3, Z4, info4, Z24, info24, Z26, h30, hz30, Z9, info9, vT]))
    all_goals (refine ⟨_, .refl _, _, rfl, ?_⟩; (first | exact Sg.sub.refl _ | ((repeat (first | exact Sg.sub.refl _ | refine Sg.sub.set_both ?_ | refine Sg.sub.set_fresh ?_ (by first | assumption | exact Sg.set_none (by assumption) (by first | assumption | (apply Go.Cert.ne_of2a; assumption; assumption))))); done) | (intro y p hy; simp only [Sg.set_apply, Sg.del_apply] at hy ⊢; grind)))
  | ok l =>
    simp only [hl] at h9
    have hw := toks_wf hl
    have hg : Gd (rd0 l) := ⟨hw, rfl⟩
    have h0 : rdA (rd0 l) = .cells 92 [.sl .any (tksA l), .i 0, .i 0, .i 0] := rfl
    simp only [scriptR_eq]
    generalize hR : manyL stateL [59] 8 [] (rd0 l) = R
    (refine vfun (fun _ => .no) mixed Tryz.func18 (by kernel_rfl) ?_; simp only [bodyOf, Tryz.f18, zp])
    repeat' (first | with_reducible rfl | exact .inr trivial | (with_reducible first | apply And.intro | apply vqx_step | apply vqm_step | refine vkp_free (by decide +kernel) ?_ | intro _) | ((first | (with_reducible first | refine .rs ?_ | refine .ds (by kernel_rfl) ?_ | refine .dg (by kernel_rfl) ?_ | refine .rg ?_ | refine .ite ?_ | refine .ret ?_ | refine .skip ?_ | refine .exit ?_ | refine .scope ?_ | refine .seq (.label ?_) | refine .block ?_ | refine .seq ?_) | (simp (disch := first | assumption | (apply zq; assumption; assumption) | (apply zr; assumption; assumption; (intro e; cases e; done)) | omega) only [w64, w8, tg_eq, Go.V.n1, Go.V.n2, Go.V.nn, zj, zk, zl, zm, zn, zo]) | ((with_reducible refine (h9 _).mono ?_); rintro _ S ⟨rfl, rfl⟩) | (refine vlo_app zs ?_) | (refine vst_app zs ?_)); (try simp only [vO, vQ, ↓vP, vE, vS, vB, vL, vF, vM, vN, vbs_full, za, zb, zc, ne_eq, not_false_eq_true, zd, ze, zh, zi, Z3, info3, Z4, info4, Z24, info24, Z26, h30, hz30, Z9, info9, Tryz.underlying92, info92, info23, vT])) | (with_reducible first | refine vfresh_set ?_ | refine vfresh_intro (fun _ _ => ?_) | refine vif_intro (fun _ => ?_) (fun _ => ?_)) | omega | ((with_reducible first | refine vop_at ?_ | refine vops_at ?_ | refine vquiet_at ?_ | refine vmix_at ?_ | refine Holds_at ?_); simp only [vO, vQ, ↓vP, vE, vS, vB, vL, vF, vM, vN, vbs_full, za, zb, zc, ne_eq, not_false_eq_true, zd, ze, zh, zi, Z3, info3, Z4, info4, Z24, info24, Z26, h30, hz30, Z9, info9, Tryz.underlying92, info92, info23, vT]))
    rename_i x3 hx3 x5 hx5 n53 ρ hxρ nρ3 nρ5
    obtain ⟨z44, h44, hz44⟩ := zero44
    generalize hB : (σ.set x3 (.cells 26 [.i 0, .i 0])).set x5 (.cells 26 [.i 0, .i 0]) = σB
    have e3 : σB x3 = some (.cells 26 [.i 0, .i 0]) := by rw [← hB]; (simp (disch := first | assumption | (apply zq; assumption; assumption) | (apply zr; assumption; assumption; (intro e; cases e; done)) | omega) only [zk, zl, zm, zn, zo])
    have e5 : σB x5 = some (.cells 26 [.i 0, .i 0]) := by rw [← hB]; (simp (disch := first | assumption | (apply zq; assumption; assumption) | (apply zr; assumption; assumption; (intro e; cases e; done)) | omega) only [zk, zl, zm, zn, zo])
    have eσ : σ.sub σB := by rw [← hB]; exact Sg.sub.set_fresh (Sg.sub.set_fresh (.refl _) hx3) hx5
    have eN : ∀ τ, σB τ = none → σ τ = none ∧ τ ≠ x3 ∧ τ ≠ x5 := by
      intro τ h
      refine ⟨?_, ?_, ?_⟩
      · cases hh : σ τ with
        | none => rfl
        | some o => rw [eσ τ o hh] at h; cases h
      · intro e; rw [e, e3] at h; cases h
      · intro e; rw [e, e5] at h; cases h
    refine VW.loop3 ([] : List Stm) (rd0 l) (true, (0 : Nat)) (fun acc s' p => More R acc s' p.1 ∧ Gd s' ∧ okS σB ρ x3 x5 p.2 acc) (fun acc _ p => [(2, .sl .nil []), (3, .ref x3 0), (5, .ref x5 0), (6, .ref ρ 0), (7, .sl (grow p.2 14 acc.length) (acc.map stmA)), (8, .b p.1)]) (fun acc s' p => stS σB ρ p.2 acc s') (fun acc _ p => if p.1 then 20 - acc.length else 0) ⟨⟨by simp, hR⟩, hg, fun h => absurd rfl h⟩ (.refl _) ?_ ?_
    · simp only [vO, vQ, ↓vP, vE, vS, vB, vL, vF, vM, vN, vbs_full, za, zb, zc, ne_eq, not_false_eq_true, zd, ze, zh, zi, vT]
      all_goals rfl
    rintro acc s' ⟨bb, τ⟩ ⟨h1, g0, h3⟩
    simp only at h1 h3
    cases bb with
    | true =>
      obtain ⟨hl8, hM⟩ : acc.length ≤ 8 ∧ manyL stateL [59] (8 - acc.length) acc s' = R := h1
      cases acc with
      | nil =>
        have hM' : manyL stateL [59] 8 [] s' = R := hM
        have e1 : stS σB ρ τ [] s' = σB.set ρ (rdA s') := rfl
        rw [e1]
        have hmk : More R [(stateL s').1] ((stateL s').2.pass [[59]]) ((stateL s').2.has [59]) := by
          unfold More
          rw [manyL] at hM'
          cases hb : (stateL s').2.has [59] with
          | true => rw [hb] at hM'; exact ⟨by simp, hM'⟩
          | false => rw [hb] at hM'; exact ⟨by simp, by simp, hM'.symm⟩
        have h15 := fun S (hS : S ρ = some (rdA s')) => c15 ρ _ S hS g0
        have g1 : Gd (stateL s').2 := gd_of nice_state g0
        have h13 : ∀ S, S ρ = some (rdA (stateL s').2) → VCalls Tryz.prog 50 [.ref ρ 0, .s (bs [59])] S _ := fun S hS => c13 ρ _ [59] S hS g1
        have g2 : Gd ((stateL s').2.pass [[59]]) := gd_pass g1
        generalize (stateL s').1 = x at *
        generalize (stateL s').2 = s2 at *
        repeat' (first | with_reducible rfl | exact .inr trivial | (with_reducible first | apply And.intro | apply vqx_step | apply vqm_step | refine vkp_free (by decide +kernel) ?_ | intro _) | ((first | (with_reducible first | refine .rs ?_ | refine .ds (by kernel_rfl) ?_ | refine .dg (by kernel_rfl) ?_ | refine .rg ?_ | refine .ite ?_ | refine .ret ?_ | refine .skip ?_ | refine .exit ?_ | refine .scope ?_ | refine .seq (.label ?_) | refine .block ?_ | refine .seq ?_) | (simp (disch := first | assumption | (apply zq; assumption; assumption) | (apply zr; assumption; assumption; (intro e; cases e; done)) | omega) only [w64, w8, tg_eq, Go.V.n1, Go.V.n2, Go.V.nn, zj, zk, zl, zm, zn, zo]) | ((with_reducible refine zt (h15 _ (by first | assumption | ((simp (disch := first | assumption | (apply zq; assumption; assumption) | (apply zr; assumption; assumption; (intro e; cases e; done)) | omega) only [zk, zl, zm, zn, zo]); first | done | rfl | assumption))) ?_); rintro _ S ⟨rfl, rfl⟩) | ((with_reducible refine zt (h13 _ (by first | assumption | ((simp (disch := first | assumption | (apply zq; assumption; assumption) | (apply zr; assumption; assumption; (intro e; cases e; done)) | omega) only [zk, zl, zm, zn, zo]); first | done | rfl | assumption))) ?_); rintro _ S ⟨rfl, rfl⟩) | (refine vlo_app zs ?_) | (refine vst_app zs ?_)); (try simp only [vO, vQ, ↓vP, vE, vS, vB, vL, vF, vM, vN, vbs_full, za, zb, zc, ne_eq, not_false_eq_true, zd, ze, zh, zi, Z3, info3, Z4, info4, Z24, info24, Z26, h30, hz30, Z9, info9, Z30, info30, Z54, h44, hz44, stmA_len, stmA_one, stmA_take, stmA_drop, grow00, vT])) | (with_reducible first | refine vfresh_set ?_ | refine vfresh_intro (fun _ _ => ?_) | refine vif_intro (fun _ => ?_) (fun _ => ?_)) | omega | ((with_reducible first | refine vop_at ?_ | refine vops_at ?_ | refine vquiet_at ?_ | refine vmix_at ?_ | refine Holds_at ?_); simp only [vO, vQ, ↓vP, vE, vS, vB, vL, vF, vM, vN, vbs_full, za, zb, zc, ne_eq, not_false_eq_true, zd, ze, zh, zi, Z3, info3, Z4, info4, Z24, info24, Z26, h30, hz30, Z9, info9, Z30, info30, Z54, h44, hz44, stmA_len, stmA_one, stmA_take, stmA_drop, grow00, vT]))
        exact ⟨[x], s2.pass [[59]], (s2.has [59], _), ⟨⟨hmk, g2, fun _ => ⟨‹σB _ = none›, by assumption, (eN _ ‹σB _ = none›).2.1, (eN _ ‹σB _ = none›).2.2⟩⟩, by simp; split <;> omega⟩, by rw [stS_ne (by simp)]; (first | exact Sg.sub.refl _ | ((repeat (first | exact Sg.sub.refl _ | refine Sg.sub.set_both ?_ | refine Sg.sub.set_fresh ?_ (by first | assumption | exact Sg.set_none (by assumption) (by first | assumption | (apply Go.Cert.ne_of2a; assumption; assumption))))); done) | (intro y p hy; simp only [Sg.set_apply, Sg.del_apply] at hy ⊢; grind)), rfl, rfl⟩
      | cons v r =>
        obtain ⟨q1, q2, q3, q4⟩ := h3 (by simp)
        have hl2 : r.length + 1 ≤ 8 := hl8
        have hV : ((v :: r).map stmA).length = r.length + 1 := by simp
        have hA : allLen ((v :: r).map stmA) 14 = True := eq_true (fun e he => by
          obtain ⟨w, _, rfl⟩ := List.mem_map.1 he
          rfl)
        have hVx : ∀ x, (v :: r ++ [x]).map stmA = (v :: r).map stmA ++ [stmA x] := fun x => by rw [List.map_append]; rfl
        rw [stS_ne (by simp)]
        by_cases h8 : r.length + 1 = 8
        · have gf : Gd (s'.fail 2) := gd_fail g0
          have h14 := fun S (hS : S ρ = some (rdA s')) => c14 ρ s' 2 S hS g0
          have hcf := fail_c (s := s') (e := 2) (by decide)
          have hM' : manyL stateL [59] 0 (v :: r) s' = R := by rw [← hM]; congr 1; simp; omega
          have hmk : More R (v :: r ++ [(stateL (s'.fail 2)).1]) ((stateL (s'.fail 2)).2.pass [[59]]) ((stateL (s'.fail 2)).2.has [59]) := by
            have hb : (stateL (s'.fail 2)).2.has [59] = false := bad_has (by rw [((nice_state _ gf.wf).c hcf).1]; exact hcf)
            rw [hb]
            exact ⟨by simp; omega, by simp, hM'.symm⟩
          have gfx : (v :: r).length = 8 := h8
          clear hM hM'
          generalize hV' : (v :: r).map stmA = V at *
          have h15 := fun S (hS : S ρ = some (rdA (s'.fail 2))) => c15 ρ _ S hS gf
          have g1 : Gd (stateL (s'.fail 2)).2 := gd_of nice_state gf
          have h13 : ∀ S, S ρ = some (rdA (stateL (s'.fail 2)).2) → VCalls Tryz.prog 50 [.ref ρ 0, .s (bs [59])] S _ := fun S hS => c13 ρ _ [59] S hS g1
          have g2 : Gd ((stateL (s'.fail 2)).2.pass [[59]]) := gd_pass g1
          generalize (stateL (s'.fail 2)).1 = x at *
          generalize (stateL (s'.fail 2)).2 = s2 at *
          repeat' (first | with_reducible rfl | exact .inr trivial | (with_reducible first | apply And.intro | apply vqx_step | apply vqm_step | refine vkp_free (by decide +kernel) ?_ | intro _) | ((first | (with_reducible first | refine .rs ?_ | refine .ds (by kernel_rfl) ?_ | refine .dg (by kernel_rfl) ?_ | refine .rg ?_ | refine .ite ?_ | refine .ret ?_ | refine .skip ?_ | refine .exit ?_ | refine .scope ?_ | refine .seq (.label ?_) | refine .block ?_ | refine .seq ?_) | (simp (disch := first | assumption | (apply zq; assumption; assumption) | (apply zr; assumption; assumption; (intro e; cases e; done)) | omega) only [w64, w8, tg_eq, Go.V.n1, Go.V.n2, Go.V.nn, zj, zk, zl, zm, zn, zo]) | ((with_reducible refine zt (h15 _ (by first | assumption | ((simp (disch := first | assumption | (apply zq; assumption; assumption) | (apply zr; assumption; assumption; (intro e; cases e; done)) | omega) only [zk, zl, zm, zn, zo]); first | done | rfl | assumption))) ?_); rintro _ S ⟨rfl, rfl⟩) | ((with_reducible refine zt (h13 _ (by first | assumption | ((simp (disch := first | assumption | (apply zq; assumption; assumption) | (apply zr; assumption; assumption; (intro e; cases e; done)) | omega) only [zk, zl, zm, zn, zo]); first | done | rfl | assumption))) ?_); rintro _ S ⟨rfl, rfl⟩) | ((with_reducible refine zt (h14 _ (by first | assumption | ((simp (disch := first | assumption | (apply zq; assumption; assumption) | (apply zr; assumption; assumption; (intro e; cases e; done)) | omega) only [zk, zl, zm, zn, zo]); first | done | rfl | assumption))) ?_); rintro _ S ⟨rfl, rfl⟩) | (refine vlo_app zs ?_) | (refine vst_app zs ?_)); (try simp only [vO, vQ, ↓vP, vE, vS, vB, vL, vF, vM, vN, vbs_full, za, zb, zc, ne_eq, not_false_eq_true, zd, ze, zh, zi, Z3, info3, Z4, info4, Z24, info24, Z26, h30, hz30, Z9, info9, Z30, info30, Z54, h44, hz44, stmA_len, stmA_one, stmA_take, stmA_drop, hV, hA, h8, gfx, grow1, vT])) | (with_reducible first | refine vfresh_set ?_ | refine vfresh_intro (fun _ _ => ?_) | refine vif_intro (fun _ => ?_) (fun _ => ?_)) | omega | ((with_reducible first | refine vop_at ?_ | refine vops_at ?_ | refine vquiet_at ?_ | refine vmix_at ?_ | refine Holds_at ?_); simp only [vO, vQ, ↓vP, vE, vS, vB, vL, vF, vM, vN, vbs_full, za, zb, zc, ne_eq, not_false_eq_true, zd, ze, zh, zi, Z3, info3, Z4, info4, Z24, info24, Z26, h30, hz30, Z9, info9, Z30, info30, Z54, h44, hz44, stmA_len, stmA_one, stmA_take, stmA_drop, hV, hA, h8, gfx, grow1, vT]))
          exact ⟨v :: r ++ [x], s2.pass [[59]], (s2.has [59], _), ⟨⟨hmk, g2, fun _ => ⟨‹σB _ = none›, by assumption, (eN _ ‹σB _ = none›).2.1, (eN _ ‹σB _ = none›).2.2⟩⟩, by simp; split <;> omega⟩, by rw [stS_ne (by simp)]; (first | exact Sg.sub.refl _ | ((repeat (first | exact Sg.sub.refl _ | refine Sg.sub.set_both ?_ | refine Sg.sub.set_fresh ?_ (by first | assumption | exact Sg.set_none (by assumption) (by first | assumption | (apply Go.Cert.ne_of2a; assumption; assumption))))); done) | (intro y p hy; simp only [Sg.set_apply, Sg.del_apply] at hy ⊢; grind)), by rw [hVx, grow_ne (by simp)], rfl⟩
        · obtain ⟨k, hk⟩ : ∃ k, 8 - (v :: r).length = k + 1 := ⟨8 - (r.length + 1) - 1, by show 8 - (r.length + 1) = _; omega⟩
          rw [hk] at hM
          have hmk : More R (v :: r ++ [(stateL s').1]) ((stateL s').2.pass [[59]]) ((stateL s').2.has [59]) := by
            unfold More
            rw [manyL] at hM
            have hkk : 8 - (v :: r ++ [(stateL s').1]).length = k := by simp at hk ⊢; omega
            cases hb : (stateL s').2.has [59] with
            | true => rw [hb] at hM; exact ⟨by simp; omega, by rw [hkk]; exact hM⟩
            | false => rw [hb] at hM; exact ⟨by simp; omega, by simp, hM.symm⟩
          clear hM
          generalize hV' : (v :: r).map stmA = V at *
          have h15 := fun S (hS : S ρ = some (rdA s')) => c15 ρ _ S hS g0
          have g1 : Gd (stateL s').2 := gd_of nice_state g0
          have h13 : ∀ S, S ρ = some (rdA (stateL s').2) → VCalls Tryz.prog 50 [.ref ρ 0, .s (bs [59])] S _ := fun S hS => c13 ρ _ [59] S hS g1
          have g2 : Gd ((stateL s').2.pass [[59]]) := gd_pass g1
          generalize (stateL s').1 = x at *
          generalize (stateL s').2 = s2 at *
          repeat' (first | with_reducible rfl | exact .inr trivial | (with_reducible first | apply And.intro | apply vqx_step | apply vqm_step | refine vkp_free (by decide +kernel) ?_ | intro _) | ((first | (with_reducible first | refine .rs ?_ | refine .ds (by kernel_rfl) ?_ | refine .dg (by kernel_rfl) ?_ | refine .rg ?_ | refine .ite ?_ | refine .ret ?_ | refine .skip ?_ | refine .exit ?_ | refine .scope ?_ | refine .seq (.label ?_) | refine .block ?_ | refine .seq ?_) | (simp (disch := first | assumption | (apply zq; assumption; assumption) | (apply zr; assumption; assumption; (intro e; cases e; done)) | omega) only [w64, w8, tg_eq, Go.V.n1, Go.V.n2, Go.V.nn, zj, zk, zl, zm, zn, zo]) | ((with_reducible refine zt (h15 _ (by first | assumption | ((simp (disch := first | assumption | (apply zq; assumption; assumption) | (apply zr; assumption; assumption; (intro e; cases e; done)) | omega) only [zk, zl, zm, zn, zo]); first | done | rfl | assumption))) ?_); rintro _ S ⟨rfl, rfl⟩) | ((with_reducible refine zt (h13 _ (by first | assumption | ((simp (disch := first | assumption | (apply zq; assumption; assumption) | (apply zr; assumption; assumption; (intro e; cases e; done)) | omega) only [zk, zl, zm, zn, zo]); first | done | rfl | assumption))) ?_); rintro _ S ⟨rfl, rfl⟩) | (refine vlo_app zs ?_) | (refine vst_app zs ?_)); (try simp only [vO, vQ, ↓vP, vE, vS, vB, vL, vF, vM, vN, vbs_full, za, zb, zc, ne_eq, not_false_eq_true, zd, ze, zh, zi, Z3, info3, Z4, info4, Z24, info24, Z26, h30, hz30, Z9, info9, Z30, info30, Z54, h44, hz44, stmA_len, stmA_one, stmA_take, stmA_drop, hV, hA, grow1, vT])) | (with_reducible first | refine vfresh_set ?_ | refine vfresh_intro (fun _ _ => ?_) | refine vif_intro (fun _ => ?_) (fun _ => ?_)) | omega | ((with_reducible first | refine vop_at ?_ | refine vops_at ?_ | refine vquiet_at ?_ | refine vmix_at ?_ | refine Holds_at ?_); simp only [vO, vQ, ↓vP, vE, vS, vB, vL, vF, vM, vN, vbs_full, za, zb, zc, ne_eq, not_false_eq_true, zd, ze, zh, zi, Z3, info3, Z4, info4, Z24, info24, Z26, h30, hz30, Z9, info9, Z30, info30, Z54, h44, hz44, stmA_len, stmA_one, stmA_take, stmA_drop, hV, hA, grow1, vT]))
          exact ⟨v :: r ++ [x], s2.pass [[59]], (s2.has [59], _), ⟨⟨hmk, g2, fun _ => ⟨‹σB _ = none›, by assumption, (eN _ ‹σB _ = none›).2.1, (eN _ ‹σB _ = none›).2.2⟩⟩, by simp; split <;> omega⟩, by rw [stS_ne (by simp)]; (first | exact Sg.sub.refl _ | ((repeat (first | exact Sg.sub.refl _ | refine Sg.sub.set_both ?_ | refine Sg.sub.set_fresh ?_ (by first | assumption | exact Sg.set_none (by assumption) (by first | assumption | (apply Go.Cert.ne_of2a; assumption; assumption))))); done) | (intro y p hy; simp only [Sg.set_apply, Sg.del_apply] at hy ⊢; grind)), by rw [hVx, grow_ne (by simp)], rfl⟩
    | false =>
      obtain ⟨hl9, hne, rfl⟩ : acc.length ≤ 9 ∧ acc ≠ [] ∧ R = (acc, s') := h1
      obtain ⟨q1, q2, q3, q4⟩ := h3 hne
      rw [stS_ne hne]
      have h11 := fun S (hS : S ρ = some (rdA s')) => p11 ρ s' S hS g0.wf
      have hgr : grow τ 14 acc.length = .tok τ 14 := by
        cases acc with
        | nil => exact absurd rfl hne
        | cons v r => rw [List.length_cons, grow1]
      simp only
      generalize s'.fin = sF at *
      generalize hV' : acc.map stmA = V at *
      by_cases hc : sF.c = 0
      · simp only [if_pos hc]
        rw [hV']
        repeat' (first | with_reducible rfl | exact .inr trivial | (with_reducible first | apply And.intro | apply vqx_step | apply vqm_step | refine vkp_free (by decide +kernel) ?_ | intro _) | ((with_reducible refine .dms (fun _ => True) [(0, false), (1, false), (2, true)] (by decide) (by decide +kernel) ?_); (simp only [vO, vQ, ↓vP, vE, vS, vB, vL, vF, vM, vN, vbs_full, za, zb, zc, ne_eq, not_false_eq_true, zd, ze, zh, zi, Z3, info3, Z4, info4, Z24, info24, Z26, h30, hz30, Z9, info9, Z30, info30, Z54, h44, hz44, stmA_len, stmA_one, stmA_take, stmA_drop, hgr, vT])) | ((first | (with_reducible first | refine .rs ?_ | refine .ds (by kernel_rfl) ?_ | refine .dg (by kernel_rfl) ?_ | refine .rg ?_ | refine .ite ?_ | refine .ret ?_ | refine .skip ?_ | refine .exit ?_ | refine .scope ?_ | refine .seq (.label ?_) | refine .block ?_ | refine .seq ?_) | (simp (disch := first | assumption | (apply zq; assumption; assumption) | (apply zr; assumption; assumption; (intro e; cases e; done)) | omega) only [w64, w8, tg_eq, Go.V.n1, Go.V.n2, Go.V.nn, zj, zk, zl, zm, zn, zo]) | ((with_reducible refine zt (h11 _ (by first | assumption | ((simp (disch := first | assumption | (apply zq; assumption; assumption) | (apply zr; assumption; assumption; (intro e; cases e; done)) | omega) only [zk, zl, zm, zn, zo]); first | done | rfl | assumption))) ?_); rintro _ S ⟨rfl, rfl⟩) | (refine vlo_app zs ?_) | (refine vst_app zs ?_)); (try simp only [vO, vQ, ↓vP, vE, vS, vB, vL, vF, vM, vN, vbs_full, za, zb, zc, ne_eq, not_false_eq_true, zd, ze, zh, zi, Z3, info3, Z4, info4, Z24, info24, Z26, h30, hz30, Z9, info9, Z30, info30, Z54, h44, hz44, stmA_len, stmA_one, stmA_take, stmA_drop, hgr, vT])) | (with_reducible first | refine vfresh_set ?_ | refine vfresh_intro (fun _ _ => ?_) | refine vif_intro (fun _ => ?_) (fun _ => ?_)) | omega | ((with_reducible first | refine vop_at ?_ | refine vops_at ?_ | refine vquiet_at ?_ | refine vmix_at ?_ | refine Holds_at ?_); simp only [vO, vQ, ↓vP, vE, vS, vB, vL, vF, vM, vN, vbs_full, za, zb, zc, ne_eq, not_false_eq_true, zd, ze, zh, zi, Z3, info3, Z4, info4, Z24, info24, Z26, h30, hz30, Z9, info9, Z30, info30, Z54, h44, hz44, stmA_len, stmA_one, stmA_take, stmA_drop, hgr, vT]))
        all_goals (refine ⟨_, .refl _, _, rfl, ?_⟩; intro y p hy; have hy1 := Go.Cert.ne_of hy hx3; have hy2 := Go.Cert.ne_of hy hx5; have hy3 := Go.Cert.ne_of (eσ y p hy) q1; have hy4 := Go.Cert.ne_of hy hxρ; have hy5 := eσ y p hy; (simp (disch := first | assumption | (apply zq; assumption; assumption) | (apply zr; assumption; assumption; (intro e; cases e; done)) | omega) only [zk, zl, zm, zn, zo]); exact hy5)
      · simp only [if_neg hc, List.map_nil]
        repeat' (first | with_reducible rfl | exact .inr trivial | (with_reducible first | apply And.intro | apply vqx_step | apply vqm_step | refine vkp_free (by decide +kernel) ?_ | intro _) | ((with_reducible refine .dms (fun _ => True) [(0, false), (1, false), (2, true)] (by decide) (by decide +kernel) ?_); (simp only [vO, vQ, ↓vP, vE, vS, vB, vL, vF, vM, vN, vbs_full, za, zb, zc, ne_eq, not_false_eq_true, zd, ze, zh, zi, Z3, info3, Z4, info4, Z24, info24, Z26, h30, hz30, Z9, info9, Z30, info30, Z54, h44, hz44, stmA_len, stmA_one, stmA_take, stmA_drop, hgr, vT])) | ((first | (with_reducible first | refine .rs ?_ | refine .ds (by kernel_rfl) ?_ | refine .dg (by kernel_rfl) ?_ | refine .rg ?_ | refine .ite ?_ | refine .ret ?_ | refine .skip ?_ | refine .exit ?_ | refine .scope ?_ | refine .seq (.label ?_) | refine .block ?_ | refine .seq ?_) | (simp (disch := first | assumption | (apply zq; assumption; assumption) | (apply zr; assumption; assumption; (intro e; cases e; done)) | omega) only [w64, w8, tg_eq, Go.V.n1, Go.V.n2, Go.V.nn, zj, zk, zl, zm, zn, zo]) | ((with_reducible refine zt (h11 _ (by first | assumption | ((simp (disch := first | assumption | (apply zq; assumption; assumption) | (apply zr; assumption; assumption; (intro e; cases e; done)) | omega) only [zk, zl, zm, zn, zo]); first | done | rfl | assumption))) ?_); rintro _ S ⟨rfl, rfl⟩) | (refine vlo_app (o' := some (.cells 26 [.i sF.c, .i sF.a])) (keepAll (by assumption) (by first | assumption | ((simp (disch := first | assumption | (apply zq; assumption; assumption) | (apply zr; assumption; assumption; (intro e; cases e; done)) | omega) only [zk, zl, zm, zn, zo]); first | done | rfl | assumption))) ?_) | (refine vlo_app zs ?_) | (refine vst_app zs ?_)); (try simp only [vO, vQ, ↓vP, vE, vS, vB, vL, vF, vM, vN, vbs_full, za, zb, zc, ne_eq, not_false_eq_true, zd, ze, zh, zi, Z3, info3, Z4, info4, Z24, info24, Z26, h30, hz30, Z9, info9, Z30, info30, Z54, h44, hz44, stmA_len, stmA_one, stmA_take, stmA_drop, hgr, vT])) | (with_reducible first | refine vfresh_set ?_ | refine vfresh_intro (fun _ _ => ?_) | refine vif_intro (fun _ => ?_) (fun _ => ?_)) | omega | ((with_reducible first | refine vop_at ?_ | refine vops_at ?_ | refine vquiet_at ?_ | refine vmix_at ?_ | refine Holds_at ?_); simp only [vO, vQ, ↓vP, vE, vS, vB, vL, vF, vM, vN, vbs_full, za, zb, zc, ne_eq, not_false_eq_true, zd, ze, zh, zi, Z3, info3, Z4, info4, Z24, info24, Z26, h30, hz30, Z9, info9, Z30, info30, Z54, h44, hz44, stmA_len, stmA_one, stmA_take, stmA_drop, hgr, vT]))
        all_goals (refine ⟨_, .refl _, _, rfl, ?_⟩; intro y p hy; have hy1 := Go.Cert.ne_of hy hx3; have hy2 := Go.Cert.ne_of hy hx5; have hy3 := Go.Cert.ne_of (eσ y p hy) q1; have hy4 := Go.Cert.ne_of hy hxρ; have hy5 := eσ y p hy; (simp (disch := first | assumption | (apply zq; assumption; assumption) | (apply zr; assumption; assumption; (intro e; cases e; done)) | omega) only [zk, zl, zm, zn, zo]); exact hy5)
end Go.Proofs.YtjopblbpnedjoaaGreatDoor

set_option linter.unusedVariables false
namespace Go.V
open Go.RowKit
variable {P : Program}
theorem Post.le {κ κ' : K} (h : κ.le κ') {R : AV → Sg → Prop} {v : Value} {w : World} (hp : Post κ' R v w) : Post κ R v w := by
  obtain ⟨k, x, s, h1, h2, h3, h4, h5⟩ := hp
  exact ⟨k, x, s, h1, h.trans h2, h3, h4, h5⟩
theorem vown2_r (e : TypeId) (s : Nat) (es : List (List AV)) (σ : Sg) (R : AV → Sg → Prop) : vown2 .ro e s es σ R = R (.sl .full es) σ := rfl
theorem vown2_pos {c : Prop} [Decidable c] {a b : Hint} (h : c) (e : TypeId) (s : Nat) (es : List (List AV)) (σ : Sg) (R : AV → Sg → Prop) : vown2 (if c then a else b) e s es σ R = vown2 a e s es σ R := by rw [if_pos h]
theorem vown2_neg {c : Prop} [Decidable c] {a b : Hint} (h : ¬ c) (e : TypeId) (s : Nat) (es : List (List AV)) (σ : Sg) (R : AV → Sg → Prop) : vown2 (if c then a else b) e s es σ R = vown2 b e s es σ R := by rw [if_neg h]
end Go.V

set_option linter.unusedSimpArgs false
set_option linter.unusedVariables false
namespace Go.Parse
open Go.V Go.Lex Go.Proofs.YtjopblbpnedjoaaGreatDoor
def SmL (l : List Ex) : Prop := l.length ≤ 100 ∧ ∀ e ∈ l, Sm e
structure SmS (x : Stm) : Prop where
  cols : x.cols.length ≤ 100
  rows : x.rows.length ≤ 100
  row : ∀ r ∈ x.rows, r.length ≤ 100
  sets : x.sets.length ≤ 100
  set : ∀ y ∈ x.sets, Sm y.2
  items : x.items.length ≤ 100
  item : ∀ y ∈ x.items, SmL y.2
  on : SmL x.on
  wh : SmL x.wh
  gr : SmL x.gr
  or : SmL x.or
theorem SmL.nil : SmL [] := ⟨by decide, fun e h => by cases h⟩
theorem SmL.one {e : Ex} (h : Sm e) : SmL [e] := ⟨by simp, fun f hf => by simp at hf; rw [hf]; exact h⟩
theorem sm_exp (s : Rd) : Sm (exp s).1 := (dp_sm 11).ex s
theorem sm_many {β : Type} {one : Rd → β × Rd} {P : β → Prop} (h : ∀ s, P (one s).1) (sep : By) : ∀ (k : Nat) (acc : List β) (s : Rd), (∀ x ∈ acc, P x) → (∀ x ∈ (manyL one sep k acc s).1, P x) ∧ (manyL one sep k acc s).1.length ≤ acc.length + k + 1
  | 0, acc, s, ha => ⟨fun x hx => by
      rcases List.mem_append.1 hx with q | q
      · exact ha x q
      · simp at q; rw [q]; exact h _, by simp [manyL]⟩
  | k + 1, acc, s, ha => by
    have ha2 : ∀ x ∈ acc ++ [(one s).1], P x := fun x hx => by
      rcases List.mem_append.1 hx with q | q
      · exact ha x q
      · simp at q; rw [q]; exact h _
    unfold manyL
    split
    · obtain ⟨h1, h2⟩ := sm_many h sep k (acc ++ [(one s).1]) ((one s).2.pass [sep]) ha2
      refine ⟨h1, ?_⟩
      simp at h2; omega
    · refine ⟨ha2, ?_⟩
      simp
theorem sm_maybe (w : By) (s : Rd) : SmL (maybeL w s).1 := by
  unfold maybeL
  split
  · exact .one (sm_exp _)
  · exact .nil
theorem sm_by (w : By) (s : Rd) : SmL (byL w s).1 := by
  unfold byL
  split
  · exact .one (sm_column _)
  · exact .nil
theorem sm_tuple (s : Rd) : (tupleL s).1.length ≤ 100 := by
  have := (sm_many (one := litV) (P := fun _ => True) (fun _ => trivial) [44] 8 [] (s.must [[40]]) (fun x h => by cases h)).2
  show (many litV 8 (s.must [[40]])).1.length ≤ 100
  exact Nat.le_trans this (by decide)
theorem sm_itemB (k : Int) (s : Rd) : SmL (itemB k s).1.2 := by
  unfold itemB
  split
  · exact .one (sm_exp _)
  · split
    · exact .nil
    · exact .one (sm_exp _)
theorem sm_item (s : Rd) : SmL (itemL s).1.2 := by
  unfold itemL
  split
  · exact .one (sm_exp _)
  · split
    · exact .nil
    · exact sm_itemB _ _
theorem sm_cols : ∀ (k : Nat) (acc : List Co) (s : Rd), (colsL k acc s).1.length ≤ acc.length + k + 1
  | 0, acc, s => by unfold colsL; split <;> simp
  | k + 1, acc, s => by
    unfold colsL
    split
    · have := sm_cols k (acc ++ [(colsAt acc s).columnOf.1]) ((colsAt acc s).columnOf.2.must [[44]])
      simp at this; omega
    · simp; omega
theorem sm_join (s : Rd) : SmL (joinL s).2.1 := by
  unfold joinL
  split
  · exact .one (sm_exp _)
  · exact .nil
theorem sms0 : SmS stm0 := ⟨by decide, by decide, fun r h => (by cases h), by decide, fun r h => (by cases h), by decide, fun r h => (by cases h), .nil, .nil, .nil, .nil⟩
theorem sm_state (s : Rd) : SmS (stateL s).1 := by
  unfold stateL stateK
  split
  · exact sms0
  split
  · exact { sms0 with cols := Nat.le_trans (sm_cols 8 [] (crB (s.pass wKinds))) (by decide) }
  split
  · exact { sms0 with }
  split
  · obtain ⟨h1, h2⟩ := sm_many (one := tupleL) (P := fun r => r.length ≤ 100) sm_tuple [44] 16 [] (((inA (s.pass wKinds)).take 1).must [[86, 65, 76, 85, 69, 83]]) (fun x h => by cases h)
    exact { sms0 with rows := Nat.le_trans h2 (by decide), row := h1 }
  split
  · obtain ⟨h1, h2⟩ := sm_many (one := setL) (P := fun r => Sm r.2) (fun s => sm_exp _) [44] 8 [] (((s.pass wKinds).take 1).must [[83, 69, 84]]) (fun x h => by cases h)
    exact { sms0 with sets := Nat.le_trans h2 (by decide), set := h1, wh := sm_maybe _ _ }
  split
  · exact { sms0 with wh := sm_maybe _ _ }
  split
  · obtain ⟨h1, h2⟩ := sm_many (one := itemL) (P := fun r => SmL r.2) (fun s => sm_item _) [44] 8 [] (s.pass wKinds) (fun x h => by cases h)
    exact { sms0 with items := Nat.le_trans h2 (by decide), item := h1, on := sm_join _, wh := sm_maybe _ _, gr := sm_by _ _, or := sm_by _ _ }
  · exact sms0
theorem sm_script (b : By) : (scriptAll b).1.length ≤ 100 ∧ ∀ x ∈ (scriptAll b).1, SmS x := by
  unfold scriptAll
  split
  · rename_i l _
    unfold scriptR
    split
    · obtain ⟨h1, h2⟩ := sm_many (one := stateL) (P := SmS) sm_state [59] 8 [] (rd0 l) (fun x h => by cases h)
      refine ⟨?_, h1⟩
      exact Nat.le_trans h2 (by decide)
    · exact ⟨Nat.zero_le _, fun x h => by cases h⟩
  · exact ⟨Nat.zero_le _, fun x h => by cases h⟩
end Go.Parse
namespace Go.Proofs.YtjopblbpnedjoaaGreatDoor
open Go Go.V Go.Lex Go.Parse
theorem map_get {α : Type} {f : α → List AV} {l : List α} {k : Nat} (h : k < l.length) : (l.map f).getD k [] = f l[k] := by
  rw [List.getD_eq_getElem?_getD, List.getElem?_map, List.getElem?_eq_getElem h]; rfl
theorem map_all {α : Type} {f : α → List AV} {n : Nat} (l : List α) (h : ∀ x, (f x).length = n) : allLen (l.map f) n = True := eq_true fun e he => by
  obtain ⟨x, _, rfl⟩ := List.mem_map.1 he
  exact h x
theorem veqIn_bool {P : Program} {d : Nat} {t : TypeId} {a b : Bool} (hu : P.underlying t = some .bool) : veqIn P (d + 1) t (.b a) (.b b) = some (a == b) := by
  simp only [veqIn, hu, veq]
theorem eqCo {d : TypeDesc} {s s' : ByteArray} {a a' : Int} {p p' q q' : Bool} : veqT Tryz.prog 76 d (.agg [.s s, .i a, .b p, .b q]) (.agg [.s s', .i a', .b p', .b q']) = some (sEq s s' && (decide (a = a') && ((p == p') && ((q == q') && true)))) := by
  rw [veqT_agg (by kernel_rfl), veqIn_struct (d := 9999) Z76 (by kernel_rfl)]
  exact veqFs_cons (by decide) (partO_one info9 Z9 rfl) (partO_one info9 Z9 rfl) (veqIn_str Z9) (veqFs_cons (by decide) (partO_one info3 Z3 rfl) (partO_one info3 Z3 rfl) (veqIn_int Z3) (veqFs_cons (by decide) (partO_one info4 Z4 rfl) (partO_one info4 Z4 rfl) (veqIn_bool Z4) (veqFs_cons (by decide) (partO_one info4 Z4 rfl) (partO_one info4 Z4 rfl) (veqIn_bool Z4) rfl)))
theorem q_vals (l : List Vl) (hl : l.length ≤ 100) (σ : Sg) : VCalls Tryz.prog 211 [.sl .any (valsA l), .sl .any (valsA l)] σ (fun x σ' => x = .b true ∧ σ' = σ) := by
  unfold valsA
  have hn : (l.map valA).length = l.length := List.length_map ..
  have hall := map_all (f := valA) (n := 3) l (fun _ => rfl)
  have hgt := fun k (h : k < l.length) => map_get (f := valA) h
  generalize l.map valA = L at *
  (refine vfun (fun _ => .ro) mixed Tryz.func211 (by kernel_rfl) ?_; simp only [bodyOf, Tryz.f211, zp])
  repeat' (first | with_reducible rfl | exact .inr trivial | (with_reducible first | apply And.intro | apply vqx_step | apply vqm_step | refine vkp_free (by decide +kernel) ?_ | intro _) | ((first | (with_reducible first | refine .rs ?_ | refine .ds (by kernel_rfl) ?_ | refine .dg (by kernel_rfl) ?_ | refine .rg ?_ | refine .ite ?_ | refine .ret ?_ | refine .skip ?_ | refine .exit ?_ | refine .scope ?_ | refine .seq (.label ?_) | refine .block ?_ | refine .seq ?_) | (simp (disch := first | assumption | (apply zq; assumption; assumption) | (apply zr; assumption; assumption; (intro e; cases e; done)) | omega) only [w64, w8, tg_eq, Go.V.n1, Go.V.n2, Go.V.nn, zj, zk, zl, zm, zn, zo]) | (refine vlo_app zs ?_) | (refine vst_app zs ?_)); (try simp only [vO, vQ, ↓vP, vE, vS, vB, vL, vF, vM, vN, vbs_full, za, zb, zc, ne_eq, not_false_eq_true, zd, ze, zh, zi, Z0, info0, Z3, info3, Z4, info4, Z9, info9, Z33, info33, Z34, info34, Z188, info188, hn, hall, vown2_r, vown2_pos, vown2_neg, zp, ↓reduceIte, List.getD_cons_zero, List.getD_cons_succ, vT])) | (with_reducible first | refine vfresh_set ?_ | refine vfresh_intro (fun _ _ => ?_) | refine vif_intro (fun _ => ?_) (fun _ => ?_)) | omega | ((with_reducible first | refine vop_at ?_ | refine vops_at ?_ | refine vquiet_at ?_ | refine vmix_at ?_ | refine Holds_at ?_); simp only [vO, vQ, ↓vP, vE, vS, vB, vL, vF, vM, vN, vbs_full, za, zb, zc, ne_eq, not_false_eq_true, zd, ze, zh, zi, Z0, info0, Z3, info3, Z4, info4, Z9, info9, Z33, info33, Z34, info34, Z188, info188, hn, hall, vown2_r, vown2_pos, vown2_neg, zp, ↓reduceIte, List.getD_cons_zero, List.getD_cons_succ, vT]))
  refine VW.loop3 (0 : Nat) () () (fun k _ _ => k ≤ l.length) (fun k _ _ => [(0, .sl .any L), (1, .sl .any L), (5, .i k)]) (fun _ _ _ => σ) (fun k _ _ => l.length - k) (by omega) (.refl _) ?_ ?_
  · simp only [vO, vQ, ↓vP, vE, vS, vB, vL, vF, vM, vN, vbs_full, za, zb, zc, ne_eq, not_false_eq_true, zd, ze, zh, zi, vT]
    all_goals rfl
  rintro k _ _ hk
  rcases Nat.lt_or_ge k l.length with hk2 | hk2
  · have hg := hgt k hk2
    have hg2 : valA l[k] = [.i l[k].1, .i l[k].2.1, .s (bs l[k].2.2)] := rfl
    rw [hg2] at hg
    have he : ∀ d, veqT Tryz.prog 34 d (.agg [.i l[k].1, .i l[k].2.1, .s (bs l[k].2.2)]) (.agg [.i l[k].1, .i l[k].2.1, .s (bs l[k].2.2)]) = some true := fun d => by rw [eq24]; simp [sEq]
    clear hg2
    generalize l[k].1 = va at *
    generalize l[k].2.1 = vb at *
    generalize l[k].2.2 = vc at *
    repeat' (first | with_reducible rfl | exact .inr trivial | (with_reducible first | apply And.intro | apply vqx_step | apply vqm_step | refine vkp_free (by decide +kernel) ?_ | intro _) | ((first | (with_reducible first | refine .rs ?_ | refine .ds (by kernel_rfl) ?_ | refine .dg (by kernel_rfl) ?_ | refine .rg ?_ | refine .ite ?_ | refine .ret ?_ | refine .skip ?_ | refine .exit ?_ | refine .scope ?_ | refine .seq (.label ?_) | refine .block ?_ | refine .seq ?_) | (simp (disch := first | assumption | (apply zq; assumption; assumption) | (apply zr; assumption; assumption; (intro e; cases e; done)) | omega) only [w64, w8, tg_eq, Go.V.n1, Go.V.n2, Go.V.nn, zj, zk, zl, zm, zn, zo]) | (refine vlo_app zs ?_) | (refine vst_app zs ?_)); (try simp only [vO, vQ, ↓vP, vE, vS, vB, vL, vF, vM, vN, vbs_full, za, zb, zc, ne_eq, not_false_eq_true, zd, ze, zh, zi, Z0, info0, Z3, info3, Z4, info4, Z9, info9, Z33, info33, Z34, info34, Z188, info188, hn, hall, hg, he, vown2_r, vown2_pos, vown2_neg, zp, ↓reduceIte, List.getD_cons_zero, List.getD_cons_succ, vT])) | (with_reducible first | refine vfresh_set ?_ | refine vfresh_intro (fun _ _ => ?_) | refine vif_intro (fun _ => ?_) (fun _ => ?_)) | omega | ((with_reducible first | refine vop_at ?_ | refine vops_at ?_ | refine vquiet_at ?_ | refine vmix_at ?_ | refine Holds_at ?_); simp only [vO, vQ, ↓vP, vE, vS, vB, vL, vF, vM, vN, vbs_full, za, zb, zc, ne_eq, not_false_eq_true, zd, ze, zh, zi, Z0, info0, Z3, info3, Z4, info4, Z9, info9, Z33, info33, Z34, info34, Z188, info188, hn, hall, hg, he, vown2_r, vown2_pos, vown2_neg, zp, ↓reduceIte, List.getD_cons_zero, List.getD_cons_succ, vT]))
    exact ⟨k + 1, (), (), ⟨hk2, by omega⟩, .refl _, rfl⟩
  · repeat' (first | with_reducible rfl | exact .inr trivial | (with_reducible first | apply And.intro | apply vqx_step | apply vqm_step | refine vkp_free (by decide +kernel) ?_ | intro _) | ((first | (with_reducible first | refine .rs ?_ | refine .ds (by kernel_rfl) ?_ | refine .dg (by kernel_rfl) ?_ | refine .rg ?_ | refine .ite ?_ | refine .ret ?_ | refine .skip ?_ | refine .exit ?_ | refine .scope ?_ | refine .seq (.label ?_) | refine .block ?_ | refine .seq ?_) | (simp (disch := first | assumption | (apply zq; assumption; assumption) | (apply zr; assumption; assumption; (intro e; cases e; done)) | omega) only [w64, w8, tg_eq, Go.V.n1, Go.V.n2, Go.V.nn, zj, zk, zl, zm, zn, zo]) | (refine vlo_app zs ?_) | (refine vst_app zs ?_)); (try simp only [vO, vQ, ↓vP, vE, vS, vB, vL, vF, vM, vN, vbs_full, za, zb, zc, ne_eq, not_false_eq_true, zd, ze, zh, zi, Z0, info0, Z3, info3, Z4, info4, Z9, info9, Z33, info33, Z34, info34, Z188, info188, hn, hall, vown2_r, vown2_pos, vown2_neg, zp, ↓reduceIte, List.getD_cons_zero, List.getD_cons_succ, vT])) | (with_reducible first | refine vfresh_set ?_ | refine vfresh_intro (fun _ _ => ?_) | refine vif_intro (fun _ => ?_) (fun _ => ?_)) | omega | ((with_reducible first | refine vop_at ?_ | refine vops_at ?_ | refine vquiet_at ?_ | refine vmix_at ?_ | refine Holds_at ?_); simp only [vO, vQ, ↓vP, vE, vS, vB, vL, vF, vM, vN, vbs_full, za, zb, zc, ne_eq, not_false_eq_true, zd, ze, zh, zi, Z0, info0, Z3, info3, Z4, info4, Z9, info9, Z33, info33, Z34, info34, Z188, info188, hn, hall, vown2_r, vown2_pos, vown2_neg, zp, ↓reduceIte, List.getD_cons_zero, List.getD_cons_succ, vT]))
    exact ⟨_, .refl _, rfl⟩
theorem q_rows (l : List (List Vl)) (hl : l.length ≤ 100) (hr : ∀ r ∈ l, r.length ≤ 100) (σ : Sg) : VCalls Tryz.prog 123 [.sl .any (l.map rowA), .sl .any (l.map rowA)] σ (fun x σ' => x = .b true ∧ σ' = σ) := by
  have hn : (l.map rowA).length = l.length := List.length_map ..
  have hall := map_all (f := rowA) (n := 1) l (fun _ => rfl)
  have hgt := fun k (h : k < l.length) => map_get (f := rowA) h
  generalize l.map rowA = L at *
  (refine vfun (fun _ => .no) mixed Tryz.func123 (by kernel_rfl) ?_; simp only [bodyOf, Tryz.f123, zp])
  repeat' (first | with_reducible rfl | exact .inr trivial | (with_reducible first | apply And.intro | apply vqx_step | apply vqm_step | refine vkp_free (by decide +kernel) ?_ | intro _) | ((first | (with_reducible first | refine .rs ?_ | refine .ds (by kernel_rfl) ?_ | refine .dg (by kernel_rfl) ?_ | refine .rg ?_ | refine .ite ?_ | refine .ret ?_ | refine .skip ?_ | refine .exit ?_ | refine .scope ?_ | refine .seq (.label ?_) | refine .block ?_ | refine .seq ?_) | (simp (disch := first | assumption | (apply zq; assumption; assumption) | (apply zr; assumption; assumption; (intro e; cases e; done)) | omega) only [w64, w8, tg_eq, Go.V.n1, Go.V.n2, Go.V.nn, zj, zk, zl, zm, zn, zo]) | ((with_reducible refine zt (q_vals _ (by assumption) _) ?_); rintro _ S ⟨rfl, rfl⟩) | (refine vlo_app zs ?_) | (refine vst_app zs ?_)); (try simp only [vO, vQ, ↓vP, vE, vS, vB, vL, vF, vM, vN, vbs_full, za, zb, zc, ne_eq, not_false_eq_true, zd, ze, zh, zi, Z0, info0, Z3, info3, Z4, info4, Z9, info9, Z33, info33, Z34, info34, Z50, info50, Z188, info188, hn, hall, vown2_r, vown2_pos, vown2_neg, zp, ↓reduceIte, List.getD_cons_zero, List.getD_cons_succ, vT])) | (with_reducible first | refine vfresh_set ?_ | refine vfresh_intro (fun _ _ => ?_) | refine vif_intro (fun _ => ?_) (fun _ => ?_)) | omega | ((with_reducible first | refine vop_at ?_ | refine vops_at ?_ | refine vquiet_at ?_ | refine vmix_at ?_ | refine Holds_at ?_); simp only [vO, vQ, ↓vP, vE, vS, vB, vL, vF, vM, vN, vbs_full, za, zb, zc, ne_eq, not_false_eq_true, zd, ze, zh, zi, Z0, info0, Z3, info3, Z4, info4, Z9, info9, Z33, info33, Z34, info34, Z50, info50, Z188, info188, hn, hall, vown2_r, vown2_pos, vown2_neg, zp, ↓reduceIte, List.getD_cons_zero, List.getD_cons_succ, vT]))
  refine VW.loop3 (0 : Nat) () () (fun k _ _ => k ≤ l.length) (fun k _ _ => [(0, .sl .any L), (1, .sl .any L), (5, .i k)]) (fun _ _ _ => σ) (fun k _ _ => l.length - k) (by omega) (.refl _) ?_ ?_
  · simp only [vO, vQ, ↓vP, vE, vS, vB, vL, vF, vM, vN, vbs_full, za, zb, zc, ne_eq, not_false_eq_true, zd, ze, zh, zi, vT]
    all_goals rfl
  rintro k _ _ hk
  rcases Nat.lt_or_ge k l.length with hk2 | hk2
  · have hg := hgt k hk2
    have h1 : (l[k]).length ≤ 100 := hr _ (List.getElem_mem hk2)
    unfold rowA at hg
    generalize l[k] = R at *
    repeat' (first | with_reducible rfl | exact .inr trivial | (with_reducible first | apply And.intro | apply vqx_step | apply vqm_step | refine vkp_free (by decide +kernel) ?_ | intro _) | ((first | (with_reducible first | refine .rs ?_ | refine .ds (by kernel_rfl) ?_ | refine .dg (by kernel_rfl) ?_ | refine .rg ?_ | refine .ite ?_ | refine .ret ?_ | refine .skip ?_ | refine .exit ?_ | refine .scope ?_ | refine .seq (.label ?_) | refine .block ?_ | refine .seq ?_) | (simp (disch := first | assumption | (apply zq; assumption; assumption) | (apply zr; assumption; assumption; (intro e; cases e; done)) | omega) only [w64, w8, tg_eq, Go.V.n1, Go.V.n2, Go.V.nn, zj, zk, zl, zm, zn, zo]) | ((with_reducible refine zt (q_vals _ (by assumption) _) ?_); rintro _ S ⟨rfl, rfl⟩) | (refine vlo_app zs ?_) | (refine vst_app zs ?_)); (try simp only [vO, vQ, ↓vP, vE, vS, vB, vL, vF, vM, vN, vbs_full, za, zb, zc, ne_eq, not_false_eq_true, zd, ze, zh, zi, Z0, info0, Z3, info3, Z4, info4, Z9, info9, Z33, info33, Z34, info34, Z50, info50, Z188, info188, hn, hall, hg, vown2_r, vown2_pos, vown2_neg, zp, ↓reduceIte, List.getD_cons_zero, List.getD_cons_succ, vT])) | (with_reducible first | refine vfresh_set ?_ | refine vfresh_intro (fun _ _ => ?_) | refine vif_intro (fun _ => ?_) (fun _ => ?_)) | omega | ((with_reducible first | refine vop_at ?_ | refine vops_at ?_ | refine vquiet_at ?_ | refine vmix_at ?_ | refine Holds_at ?_); simp only [vO, vQ, ↓vP, vE, vS, vB, vL, vF, vM, vN, vbs_full, za, zb, zc, ne_eq, not_false_eq_true, zd, ze, zh, zi, Z0, info0, Z3, info3, Z4, info4, Z9, info9, Z33, info33, Z34, info34, Z50, info50, Z188, info188, hn, hall, hg, vown2_r, vown2_pos, vown2_neg, zp, ↓reduceIte, List.getD_cons_zero, List.getD_cons_succ, vT]))
    exact ⟨k + 1, (), (), ⟨hk2, by omega⟩, .refl _, rfl⟩
  · repeat' (first | with_reducible rfl | exact .inr trivial | (with_reducible first | apply And.intro | apply vqx_step | apply vqm_step | refine vkp_free (by decide +kernel) ?_ | intro _) | ((first | (with_reducible first | refine .rs ?_ | refine .ds (by kernel_rfl) ?_ | refine .dg (by kernel_rfl) ?_ | refine .rg ?_ | refine .ite ?_ | refine .ret ?_ | refine .skip ?_ | refine .exit ?_ | refine .scope ?_ | refine .seq (.label ?_) | refine .block ?_ | refine .seq ?_) | (simp (disch := first | assumption | (apply zq; assumption; assumption) | (apply zr; assumption; assumption; (intro e; cases e; done)) | omega) only [w64, w8, tg_eq, Go.V.n1, Go.V.n2, Go.V.nn, zj, zk, zl, zm, zn, zo]) | ((with_reducible refine zt (q_vals _ (by assumption) _) ?_); rintro _ S ⟨rfl, rfl⟩) | (refine vlo_app zs ?_) | (refine vst_app zs ?_)); (try simp only [vO, vQ, ↓vP, vE, vS, vB, vL, vF, vM, vN, vbs_full, za, zb, zc, ne_eq, not_false_eq_true, zd, ze, zh, zi, Z0, info0, Z3, info3, Z4, info4, Z9, info9, Z33, info33, Z34, info34, Z50, info50, Z188, info188, hn, hall, vown2_r, vown2_pos, vown2_neg, zp, ↓reduceIte, List.getD_cons_zero, List.getD_cons_succ, vT])) | (with_reducible first | refine vfresh_set ?_ | refine vfresh_intro (fun _ _ => ?_) | refine vif_intro (fun _ => ?_) (fun _ => ?_)) | omega | ((with_reducible first | refine vop_at ?_ | refine vops_at ?_ | refine vquiet_at ?_ | refine vmix_at ?_ | refine Holds_at ?_); simp only [vO, vQ, ↓vP, vE, vS, vB, vL, vF, vM, vN, vbs_full, za, zb, zc, ne_eq, not_false_eq_true, zd, ze, zh, zi, Z0, info0, Z3, info3, Z4, info4, Z9, info9, Z33, info33, Z34, info34, Z50, info50, Z188, info188, hn, hall, vown2_r, vown2_pos, vown2_neg, zp, ↓reduceIte, List.getD_cons_zero, List.getD_cons_succ, vT]))
    exact ⟨_, .refl _, rfl⟩
theorem q_cols (l : List Co) (hl : l.length ≤ 100) (σ : Sg) : VCalls Tryz.prog 122 [.sl .any (l.map coA), .sl .any (l.map coA)] σ (fun x σ' => x = .b true ∧ σ' = σ) := by
  have hn : (l.map coA).length = l.length := List.length_map ..
  have hall := map_all (f := coA) (n := 4) l (fun _ => rfl)
  have hgt := fun k (h : k < l.length) => map_get (f := coA) h
  generalize l.map coA = L at *
  (refine vfun (fun _ => .ro) mixed Tryz.func122 (by kernel_rfl) ?_; simp only [bodyOf, Tryz.f122, zp])
  repeat' (first | with_reducible rfl | exact .inr trivial | (with_reducible first | apply And.intro | apply vqx_step | apply vqm_step | refine vkp_free (by decide +kernel) ?_ | intro _) | ((first | (with_reducible first | refine .rs ?_ | refine .ds (by kernel_rfl) ?_ | refine .dg (by kernel_rfl) ?_ | refine .rg ?_ | refine .ite ?_ | refine .ret ?_ | refine .skip ?_ | refine .exit ?_ | refine .scope ?_ | refine .seq (.label ?_) | refine .block ?_ | refine .seq ?_) | (simp (disch := first | assumption | (apply zq; assumption; assumption) | (apply zr; assumption; assumption; (intro e; cases e; done)) | omega) only [w64, w8, tg_eq, Go.V.n1, Go.V.n2, Go.V.nn, zj, zk, zl, zm, zn, zo]) | (refine vlo_app zs ?_) | (refine vst_app zs ?_)); (try simp only [vO, vQ, ↓vP, vE, vS, vB, vL, vF, vM, vN, vbs_full, za, zb, zc, ne_eq, not_false_eq_true, zd, ze, zh, zi, Z0, info0, Z3, info3, Z4, info4, Z9, info9, Z49, info49, Z75, info75, Z76, info76, hn, hall, vown2_r, vown2_pos, vown2_neg, zp, ↓reduceIte, List.getD_cons_zero, List.getD_cons_succ, vT])) | (with_reducible first | refine vfresh_set ?_ | refine vfresh_intro (fun _ _ => ?_) | refine vif_intro (fun _ => ?_) (fun _ => ?_)) | omega | ((with_reducible first | refine vop_at ?_ | refine vops_at ?_ | refine vquiet_at ?_ | refine vmix_at ?_ | refine Holds_at ?_); simp only [vO, vQ, ↓vP, vE, vS, vB, vL, vF, vM, vN, vbs_full, za, zb, zc, ne_eq, not_false_eq_true, zd, ze, zh, zi, Z0, info0, Z3, info3, Z4, info4, Z9, info9, Z49, info49, Z75, info75, Z76, info76, hn, hall, vown2_r, vown2_pos, vown2_neg, zp, ↓reduceIte, List.getD_cons_zero, List.getD_cons_succ, vT]))
  refine VW.loop3 (0 : Nat) () () (fun k _ _ => k ≤ l.length) (fun k _ _ => [(0, .sl .any L), (1, .sl .any L), (5, .i k)]) (fun _ _ _ => σ) (fun k _ _ => l.length - k) (by omega) (.refl _) ?_ ?_
  · simp only [vO, vQ, ↓vP, vE, vS, vB, vL, vF, vM, vN, vbs_full, za, zb, zc, ne_eq, not_false_eq_true, zd, ze, zh, zi, vT]
    all_goals rfl
  rintro k _ _ hk
  rcases Nat.lt_or_ge k l.length with hk2 | hk2
  · have hg := hgt k hk2
    have hg2 : coA l[k] = [.s (bs l[k].1), .i l[k].2.1, .b l[k].2.2.1, .b l[k].2.2.2] := rfl
    rw [hg2] at hg
    have he : ∀ d, veqT Tryz.prog 76 d (.agg [.s (bs l[k].1), .i l[k].2.1, .b l[k].2.2.1, .b l[k].2.2.2]) (.agg [.s (bs l[k].1), .i l[k].2.1, .b l[k].2.2.1, .b l[k].2.2.2]) = some true := fun d => by rw [eqCo]; simp [sEq]
    clear hg2
    generalize l[k].1 = va at *
    generalize l[k].2.1 = vb at *
    generalize l[k].2.2.1 = vc at *
    generalize l[k].2.2.2 = vd at *
    repeat' (first | with_reducible rfl | exact .inr trivial | (with_reducible first | apply And.intro | apply vqx_step | apply vqm_step | refine vkp_free (by decide +kernel) ?_ | intro _) | ((first | (with_reducible first | refine .rs ?_ | refine .ds (by kernel_rfl) ?_ | refine .dg (by kernel_rfl) ?_ | refine .rg ?_ | refine .ite ?_ | refine .ret ?_ | refine .skip ?_ | refine .exit ?_ | refine .scope ?_ | refine .seq (.label ?_) | refine .block ?_ | refine .seq ?_) | (simp (disch := first | assumption | (apply zq; assumption; assumption) | (apply zr; assumption; assumption; (intro e; cases e; done)) | omega) only [w64, w8, tg_eq, Go.V.n1, Go.V.n2, Go.V.nn, zj, zk, zl, zm, zn, zo]) | (refine vlo_app zs ?_) | (refine vst_app zs ?_)); (try simp only [vO, vQ, ↓vP, vE, vS, vB, vL, vF, vM, vN, vbs_full, za, zb, zc, ne_eq, not_false_eq_true, zd, ze, zh, zi, Z0, info0, Z3, info3, Z4, info4, Z9, info9, Z49, info49, Z75, info75, Z76, info76, hn, hall, hg, he, vown2_r, vown2_pos, vown2_neg, zp, ↓reduceIte, List.getD_cons_zero, List.getD_cons_succ, vT])) | (with_reducible first | refine vfresh_set ?_ | refine vfresh_intro (fun _ _ => ?_) | refine vif_intro (fun _ => ?_) (fun _ => ?_)) | omega | ((with_reducible first | refine vop_at ?_ | refine vops_at ?_ | refine vquiet_at ?_ | refine vmix_at ?_ | refine Holds_at ?_); simp only [vO, vQ, ↓vP, vE, vS, vB, vL, vF, vM, vN, vbs_full, za, zb, zc, ne_eq, not_false_eq_true, zd, ze, zh, zi, Z0, info0, Z3, info3, Z4, info4, Z9, info9, Z49, info49, Z75, info75, Z76, info76, hn, hall, hg, he, vown2_r, vown2_pos, vown2_neg, zp, ↓reduceIte, List.getD_cons_zero, List.getD_cons_succ, vT]))
    exact ⟨k + 1, (), (), ⟨hk2, by omega⟩, .refl _, rfl⟩
  · repeat' (first | with_reducible rfl | exact .inr trivial | (with_reducible first | apply And.intro | apply vqx_step | apply vqm_step | refine vkp_free (by decide +kernel) ?_ | intro _) | ((first | (with_reducible first | refine .rs ?_ | refine .ds (by kernel_rfl) ?_ | refine .dg (by kernel_rfl) ?_ | refine .rg ?_ | refine .ite ?_ | refine .ret ?_ | refine .skip ?_ | refine .exit ?_ | refine .scope ?_ | refine .seq (.label ?_) | refine .block ?_ | refine .seq ?_) | (simp (disch := first | assumption | (apply zq; assumption; assumption) | (apply zr; assumption; assumption; (intro e; cases e; done)) | omega) only [w64, w8, tg_eq, Go.V.n1, Go.V.n2, Go.V.nn, zj, zk, zl, zm, zn, zo]) | (refine vlo_app zs ?_) | (refine vst_app zs ?_)); (try simp only [vO, vQ, ↓vP, vE, vS, vB, vL, vF, vM, vN, vbs_full, za, zb, zc, ne_eq, not_false_eq_true, zd, ze, zh, zi, Z0, info0, Z3, info3, Z4, info4, Z9, info9, Z49, info49, Z75, info75, Z76, info76, hn, hall, vown2_r, vown2_pos, vown2_neg, zp, ↓reduceIte, List.getD_cons_zero, List.getD_cons_succ, vT])) | (with_reducible first | refine vfresh_set ?_ | refine vfresh_intro (fun _ _ => ?_) | refine vif_intro (fun _ => ?_) (fun _ => ?_)) | omega | ((with_reducible first | refine vop_at ?_ | refine vops_at ?_ | refine vquiet_at ?_ | refine vmix_at ?_ | refine Holds_at ?_); simp only [vO, vQ, ↓vP, vE, vS, vB, vL, vF, vM, vN, vbs_full, za, zb, zc, ne_eq, not_false_eq_true, zd, ze, zh, zi, Z0, info0, Z3, info3, Z4, info4, Z9, info9, Z49, info49, Z75, info75, Z76, info76, hn, hall, vown2_r, vown2_pos, vown2_neg, zp, ↓reduceIte, List.getD_cons_zero, List.getD_cons_succ, vT]))
    exact ⟨_, .refl _, rfl⟩
theorem q_exps {l : List Ex} (h : SmL l) (σ : Sg) : VCalls Tryz.prog 56 [.sl .any (exsA l), .sl .any (exsA l)] σ (fun x σ' => x = .b true ∧ σ' = σ) := p12 l (fun i hi σ => p7 (h.2 _ (List.getElem_mem hi)) σ) h.1 σ
theorem q_sets (l : List Se) (hl : l.length ≤ 100) (hr : ∀ r ∈ l, Sm r.2) (σ : Sg) : VCalls Tryz.prog 124 [.sl .any (l.map setA), .sl .any (l.map setA)] σ (fun x σ' => x = .b true ∧ σ' = σ) := by
  have hn : (l.map setA).length = l.length := List.length_map ..
  have hall := map_all (f := setA) (n := 9) l (fun x => by simp [setA, exA_len])
  have hgt := fun k (h : k < l.length) => map_get (f := setA) h
  generalize l.map setA = L at *
  (refine vfun (fun _ => .no) mixed Tryz.func124 (by kernel_rfl) ?_; simp only [bodyOf, Tryz.f124, zp])
  repeat' (first | with_reducible rfl | exact .inr trivial | (with_reducible first | apply And.intro | apply vqx_step | apply vqm_step | refine vkp_free (by decide +kernel) ?_ | intro _) | ((first | (with_reducible first | refine .rs ?_ | refine .ds (by kernel_rfl) ?_ | refine .dg (by kernel_rfl) ?_ | refine .rg ?_ | refine .ite ?_ | refine .ret ?_ | refine .skip ?_ | refine .exit ?_ | refine .scope ?_ | refine .seq (.label ?_) | refine .block ?_ | refine .seq ?_) | (simp (disch := first | assumption | (apply zq; assumption; assumption) | (apply zr; assumption; assumption; (intro e; cases e; done)) | omega) only [w64, w8, tg_eq, Go.V.n1, Go.V.n2, Go.V.nn, zj, zk, zl, zm, zn, zo]) | ((with_reducible refine zt (p7 (by assumption) _) ?_); rintro _ S ⟨rfl, rfl⟩) | (refine vlo_app zs ?_) | (refine vst_app zs ?_)); (try simp only [vO, vQ, ↓vP, vE, vS, vB, vL, vF, vM, vN, vbs_full, za, zb, zc, ne_eq, not_false_eq_true, zd, ze, zh, zi, Z0, info0, Z3, info3, Z4, info4, Z9, info9, Z33, info33, Z34, info34, Z35, info35, Z36, info36, Z37, info37, Z51, info51, Z109, info109, Z110, info110, hn, hall, vown2_r, vown2_pos, vown2_neg, zp, ↓reduceIte, List.getD_cons_zero, List.getD_cons_succ, vT])) | (with_reducible first | refine vfresh_set ?_ | refine vfresh_intro (fun _ _ => ?_) | refine vif_intro (fun _ => ?_) (fun _ => ?_)) | omega | ((with_reducible first | refine vop_at ?_ | refine vops_at ?_ | refine vquiet_at ?_ | refine vmix_at ?_ | refine Holds_at ?_); simp only [vO, vQ, ↓vP, vE, vS, vB, vL, vF, vM, vN, vbs_full, za, zb, zc, ne_eq, not_false_eq_true, zd, ze, zh, zi, Z0, info0, Z3, info3, Z4, info4, Z9, info9, Z33, info33, Z34, info34, Z35, info35, Z36, info36, Z37, info37, Z51, info51, Z109, info109, Z110, info110, hn, hall, vown2_r, vown2_pos, vown2_neg, zp, ↓reduceIte, List.getD_cons_zero, List.getD_cons_succ, vT]))
  refine VW.loop3 (0 : Nat) () () (fun k _ _ => k ≤ l.length) (fun k _ _ => [(0, .sl .any L), (1, .sl .any L), (5, .i k)]) (fun _ _ _ => σ) (fun k _ _ => l.length - k) (by omega) (.refl _) ?_ ?_
  · simp only [vO, vQ, ↓vP, vE, vS, vB, vL, vF, vM, vN, vbs_full, za, zb, zc, ne_eq, not_false_eq_true, zd, ze, zh, zi, vT]
    all_goals rfl
  rintro k _ _ hk
  rcases Nat.lt_or_ge k l.length with hk2 | hk2
  · have hg := hgt k hk2
    have h1 : Sm (l[k]).2 := hr _ (List.getElem_mem hk2)
    have h7 := p7 h1
    have hFl := exA_len (l[k]).2
    have hFt := exA_take (l[k]).2
    have hFd := exA_drop (l[k]).2
    unfold setA at hg
    generalize exA (l[k]).2 = E at *
    generalize (l[k]).1 = nm at *
    repeat' (first | with_reducible rfl | exact .inr trivial | (with_reducible first | apply And.intro | apply vqx_step | apply vqm_step | refine vkp_free (by decide +kernel) ?_ | intro _) | ((first | (with_reducible first | refine .rs ?_ | refine .ds (by kernel_rfl) ?_ | refine .dg (by kernel_rfl) ?_ | refine .rg ?_ | refine .ite ?_ | refine .ret ?_ | refine .skip ?_ | refine .exit ?_ | refine .scope ?_ | refine .seq (.label ?_) | refine .block ?_ | refine .seq ?_) | (simp (disch := first | assumption | (apply zq; assumption; assumption) | (apply zr; assumption; assumption; (intro e; cases e; done)) | omega) only [w64, w8, tg_eq, Go.V.n1, Go.V.n2, Go.V.nn, zj, zk, zl, zm, zn, zo]) | ((with_reducible refine zt (h7 _) ?_); rintro _ S ⟨rfl, rfl⟩) | ((with_reducible refine zt (p7 (by assumption) _) ?_); rintro _ S ⟨rfl, rfl⟩) | (refine vlo_app zs ?_) | (refine vst_app zs ?_)); (try simp only [vO, vQ, ↓vP, vE, vS, vB, vL, vF, vM, vN, vbs_full, za, zb, zc, ne_eq, not_false_eq_true, zd, ze, zh, zi, Z0, info0, Z3, info3, Z4, info4, Z9, info9, Z33, info33, Z34, info34, Z35, info35, Z36, info36, Z37, info37, Z51, info51, Z109, info109, Z110, info110, hn, hall, hg, hFl, hFt, hFd, vown2_r, vown2_pos, vown2_neg, zp, ↓reduceIte, List.getD_cons_zero, List.getD_cons_succ, vT])) | (with_reducible first | refine vfresh_set ?_ | refine vfresh_intro (fun _ _ => ?_) | refine vif_intro (fun _ => ?_) (fun _ => ?_)) | omega | ((with_reducible first | refine vop_at ?_ | refine vops_at ?_ | refine vquiet_at ?_ | refine vmix_at ?_ | refine Holds_at ?_); simp only [vO, vQ, ↓vP, vE, vS, vB, vL, vF, vM, vN, vbs_full, za, zb, zc, ne_eq, not_false_eq_true, zd, ze, zh, zi, Z0, info0, Z3, info3, Z4, info4, Z9, info9, Z33, info33, Z34, info34, Z35, info35, Z36, info36, Z37, info37, Z51, info51, Z109, info109, Z110, info110, hn, hall, hg, hFl, hFt, hFd, vown2_r, vown2_pos, vown2_neg, zp, ↓reduceIte, List.getD_cons_zero, List.getD_cons_succ, vT]))
    exact ⟨k + 1, (), (), ⟨hk2, by omega⟩, .refl _, rfl⟩
  · repeat' (first | with_reducible rfl | exact .inr trivial | (with_reducible first | apply And.intro | apply vqx_step | apply vqm_step | refine vkp_free (by decide +kernel) ?_ | intro _) | ((first | (with_reducible first | refine .rs ?_ | refine .ds (by kernel_rfl) ?_ | refine .dg (by kernel_rfl) ?_ | refine .rg ?_ | refine .ite ?_ | refine .ret ?_ | refine .skip ?_ | refine .exit ?_ | refine .scope ?_ | refine .seq (.label ?_) | refine .block ?_ | refine .seq ?_) | (simp (disch := first | assumption | (apply zq; assumption; assumption) | (apply zr; assumption; assumption; (intro e; cases e; done)) | omega) only [w64, w8, tg_eq, Go.V.n1, Go.V.n2, Go.V.nn, zj, zk, zl, zm, zn, zo]) | ((with_reducible refine zt (p7 (by assumption) _) ?_); rintro _ S ⟨rfl, rfl⟩) | (refine vlo_app zs ?_) | (refine vst_app zs ?_)); (try simp only [vO, vQ, ↓vP, vE, vS, vB, vL, vF, vM, vN, vbs_full, za, zb, zc, ne_eq, not_false_eq_true, zd, ze, zh, zi, Z0, info0, Z3, info3, Z4, info4, Z9, info9, Z33, info33, Z34, info34, Z35, info35, Z36, info36, Z37, info37, Z51, info51, Z109, info109, Z110, info110, hn, hall, vown2_r, vown2_pos, vown2_neg, zp, ↓reduceIte, List.getD_cons_zero, List.getD_cons_succ, vT])) | (with_reducible first | refine vfresh_set ?_ | refine vfresh_intro (fun _ _ => ?_) | refine vif_intro (fun _ => ?_) (fun _ => ?_)) | omega | ((with_reducible first | refine vop_at ?_ | refine vops_at ?_ | refine vquiet_at ?_ | refine vmix_at ?_ | refine Holds_at ?_); simp only [vO, vQ, ↓vP, vE, vS, vB, vL, vF, vM, vN, vbs_full, za, zb, zc, ne_eq, not_false_eq_true, zd, ze, zh, zi, Z0, info0, Z3, info3, Z4, info4, Z9, info9, Z33, info33, Z34, info34, Z35, info35, Z36, info36, Z37, info37, Z51, info51, Z109, info109, Z110, info110, hn, hall, vown2_r, vown2_pos, vown2_neg, zp, ↓reduceIte, List.getD_cons_zero, List.getD_cons_succ, vT]))
    exact ⟨_, .refl _, rfl⟩
theorem q_items (l : List It) (hl : l.length ≤ 100) (hr : ∀ r ∈ l, SmL r.2) (σ : Sg) : VCalls Tryz.prog 125 [.sl .any (l.map itemA), .sl .any (l.map itemA)] σ (fun x σ' => x = .b true ∧ σ' = σ) := by
  have hn : (l.map itemA).length = l.length := List.length_map ..
  have hall := map_all (f := itemA) (n := 2) l (fun _ => rfl)
  have hgt := fun k (h : k < l.length) => map_get (f := itemA) h
  generalize l.map itemA = L at *
  (refine vfun (fun _ => .no) mixed Tryz.func125 (by kernel_rfl) ?_; simp only [bodyOf, Tryz.f125, zp])
  repeat' (first | with_reducible rfl | exact .inr trivial | (with_reducible first | apply And.intro | apply vqx_step | apply vqm_step | refine vkp_free (by decide +kernel) ?_ | intro _) | ((first | (with_reducible first | refine .rs ?_ | refine .ds (by kernel_rfl) ?_ | refine .dg (by kernel_rfl) ?_ | refine .rg ?_ | refine .ite ?_ | refine .ret ?_ | refine .skip ?_ | refine .exit ?_ | refine .scope ?_ | refine .seq (.label ?_) | refine .block ?_ | refine .seq ?_) | (simp (disch := first | assumption | (apply zq; assumption; assumption) | (apply zr; assumption; assumption; (intro e; cases e; done)) | omega) only [w64, w8, tg_eq, Go.V.n1, Go.V.n2, Go.V.nn, zj, zk, zl, zm, zn, zo]) | ((with_reducible refine zt (q_exps (by assumption) _) ?_); rintro _ S ⟨rfl, rfl⟩) | (refine vlo_app zs ?_) | (refine vst_app zs ?_)); (try simp only [vO, vQ, ↓vP, vE, vS, vB, vL, vF, vM, vN, vbs_full, za, zb, zc, ne_eq, not_false_eq_true, zd, ze, zh, zi, Z0, info0, Z3, info3, Z4, info4, Z9, info9, Z33, info33, Z34, info34, Z35, info35, Z36, info36, Z37, info37, Z52, info52, Z112, info112, Z113, info113, hn, hall, vown2_r, vown2_pos, vown2_neg, zp, ↓reduceIte, List.getD_cons_zero, List.getD_cons_succ, vT])) | (with_reducible first | refine vfresh_set ?_ | refine vfresh_intro (fun _ _ => ?_) | refine vif_intro (fun _ => ?_) (fun _ => ?_)) | omega | ((with_reducible first | refine vop_at ?_ | refine vops_at ?_ | refine vquiet_at ?_ | refine vmix_at ?_ | refine Holds_at ?_); simp only [vO, vQ, ↓vP, vE, vS, vB, vL, vF, vM, vN, vbs_full, za, zb, zc, ne_eq, not_false_eq_true, zd, ze, zh, zi, Z0, info0, Z3, info3, Z4, info4, Z9, info9, Z33, info33, Z34, info34, Z35, info35, Z36, info36, Z37, info37, Z52, info52, Z112, info112, Z113, info113, hn, hall, vown2_r, vown2_pos, vown2_neg, zp, ↓reduceIte, List.getD_cons_zero, List.getD_cons_succ, vT]))
  refine VW.loop3 (0 : Nat) () () (fun k _ _ => k ≤ l.length) (fun k _ _ => [(0, .sl .any L), (1, .sl .any L), (5, .i k)]) (fun _ _ _ => σ) (fun k _ _ => l.length - k) (by omega) (.refl _) ?_ ?_
  · simp only [vO, vQ, ↓vP, vE, vS, vB, vL, vF, vM, vN, vbs_full, za, zb, zc, ne_eq, not_false_eq_true, zd, ze, zh, zi, vT]
    all_goals rfl
  rintro k _ _ hk
  rcases Nat.lt_or_ge k l.length with hk2 | hk2
  · have hg := hgt k hk2
    have h1 : SmL (l[k]).2 := hr _ (List.getElem_mem hk2)
    unfold itemA at hg
    generalize (l[k]).2 = E at *
    generalize (l[k]).1 = nm at *
    repeat' (first | with_reducible rfl | exact .inr trivial | (with_reducible first | apply And.intro | apply vqx_step | apply vqm_step | refine vkp_free (by decide +kernel) ?_ | intro _) | ((first | (with_reducible first | refine .rs ?_ | refine .ds (by kernel_rfl) ?_ | refine .dg (by kernel_rfl) ?_ | refine .rg ?_ | refine .ite ?_ | refine .ret ?_ | refine .skip ?_ | refine .exit ?_ | refine .scope ?_ | refine .seq (.label ?_) | refine .block ?_ | refine .seq ?_) | (simp (disch := first | assumption | (apply zq; assumption; assumption) | (apply zr; assumption; assumption; (intro e; cases e; done)) | omega) only [w64, w8, tg_eq, Go.V.n1, Go.V.n2, Go.V.nn, zj, zk, zl, zm, zn, zo]) | ((with_reducible refine zt (q_exps (by assumption) _) ?_); rintro _ S ⟨rfl, rfl⟩) | (refine vlo_app zs ?_) | (refine vst_app zs ?_)); (try simp only [vO, vQ, ↓vP, vE, vS, vB, vL, vF, vM, vN, vbs_full, za, zb, zc, ne_eq, not_false_eq_true, zd, ze, zh, zi, Z0, info0, Z3, info3, Z4, info4, Z9, info9, Z33, info33, Z34, info34, Z35, info35, Z36, info36, Z37, info37, Z52, info52, Z112, info112, Z113, info113, hn, hall, hg, vown2_r, vown2_pos, vown2_neg, zp, ↓reduceIte, List.getD_cons_zero, List.getD_cons_succ, vT])) | (with_reducible first | refine vfresh_set ?_ | refine vfresh_intro (fun _ _ => ?_) | refine vif_intro (fun _ => ?_) (fun _ => ?_)) | omega | ((with_reducible first | refine vop_at ?_ | refine vops_at ?_ | refine vquiet_at ?_ | refine vmix_at ?_ | refine Holds_at ?_); simp only [vO, vQ, ↓vP, vE, vS, vB, vL, vF, vM, vN, vbs_full, za, zb, zc, ne_eq, not_false_eq_true, zd, ze, zh, zi, Z0, info0, Z3, info3, Z4, info4, Z9, info9, Z33, info33, Z34, info34, Z35, info35, Z36, info36, Z37, info37, Z52, info52, Z112, info112, Z113, info113, hn, hall, hg, vown2_r, vown2_pos, vown2_neg, zp, ↓reduceIte, List.getD_cons_zero, List.getD_cons_succ, vT]))
    exact ⟨k + 1, (), (), ⟨hk2, by omega⟩, .refl _, rfl⟩
  · repeat' (first | with_reducible rfl | exact .inr trivial | (with_reducible first | apply And.intro | apply vqx_step | apply vqm_step | refine vkp_free (by decide +kernel) ?_ | intro _) | ((first | (with_reducible first | refine .rs ?_ | refine .ds (by kernel_rfl) ?_ | refine .dg (by kernel_rfl) ?_ | refine .rg ?_ | refine .ite ?_ | refine .ret ?_ | refine .skip ?_ | refine .exit ?_ | refine .scope ?_ | refine .seq (.label ?_) | refine .block ?_ | refine .seq ?_) | (simp (disch := first | assumption | (apply zq; assumption; assumption) | (apply zr; assumption; assumption; (intro e; cases e; done)) | omega) only [w64, w8, tg_eq, Go.V.n1, Go.V.n2, Go.V.nn, zj, zk, zl, zm, zn, zo]) | ((with_reducible refine zt (q_exps (by assumption) _) ?_); rintro _ S ⟨rfl, rfl⟩) | (refine vlo_app zs ?_) | (refine vst_app zs ?_)); (try simp only [vO, vQ, ↓vP, vE, vS, vB, vL, vF, vM, vN, vbs_full, za, zb, zc, ne_eq, not_false_eq_true, zd, ze, zh, zi, Z0, info0, Z3, info3, Z4, info4, Z9, info9, Z33, info33, Z34, info34, Z35, info35, Z36, info36, Z37, info37, Z52, info52, Z112, info112, Z113, info113, hn, hall, vown2_r, vown2_pos, vown2_neg, zp, ↓reduceIte, List.getD_cons_zero, List.getD_cons_succ, vT])) | (with_reducible first | refine vfresh_set ?_ | refine vfresh_intro (fun _ _ => ?_) | refine vif_intro (fun _ => ?_) (fun _ => ?_)) | omega | ((with_reducible first | refine vop_at ?_ | refine vops_at ?_ | refine vquiet_at ?_ | refine vmix_at ?_ | refine Holds_at ?_); simp only [vO, vQ, ↓vP, vE, vS, vB, vL, vF, vM, vN, vbs_full, za, zb, zc, ne_eq, not_false_eq_true, zd, ze, zh, zi, Z0, info0, Z3, info3, Z4, info4, Z9, info9, Z33, info33, Z34, info34, Z35, info35, Z36, info36, Z37, info37, Z52, info52, Z112, info112, Z113, info113, hn, hall, vown2_r, vown2_pos, vown2_neg, zp, ↓reduceIte, List.getD_cons_zero, List.getD_cons_succ, vT]))
    exact ⟨_, .refl _, rfl⟩
theorem q_state {x : Stm} (h : SmS x) (σ : Sg) : VCalls Tryz.prog 55 [.agg (stmA x), .agg (stmA x)] σ (fun x σ' => x = .b true ∧ σ' = σ) := by
  obtain ⟨h1, h2, h3, h4, h5, h6, h7, h8, h9, h10, h11⟩ := h
  unfold stmA
  cases x with
  | mk k t cols pk rows sets items join on wh gr or desc lim =>
  (refine vfun (fun _ => .no) mixed Tryz.func55 (by kernel_rfl) ?_; simp only [bodyOf, Tryz.f55, zp])
  repeat' (first | with_reducible rfl | exact .inr trivial | (with_reducible first | apply And.intro | apply vqx_step | apply vqm_step | refine vkp_free (by decide +kernel) ?_ | intro _) | ((first | (with_reducible first | refine .rs ?_ | refine .ds (by kernel_rfl) ?_ | refine .dg (by kernel_rfl) ?_ | refine .rg ?_ | refine .ite ?_ | refine .ret ?_ | refine .skip ?_ | refine .exit ?_ | refine .scope ?_ | refine .seq (.label ?_) | refine .block ?_ | refine .seq ?_) | (simp (disch := first | assumption | (apply zq; assumption; assumption) | (apply zr; assumption; assumption; (intro e; cases e; done)) | omega) only [w64, w8, tg_eq, Go.V.n1, Go.V.n2, Go.V.nn, zj, zk, zl, zm, zn, zo]) | ((with_reducible refine zt (q_exps (by assumption) _) ?_); rintro _ S ⟨rfl, rfl⟩) | ((with_reducible refine zt (q_cols _ (by assumption) _) ?_); rintro _ S ⟨rfl, rfl⟩) | ((with_reducible refine zt (q_rows _ (by assumption) (by assumption) _) ?_); rintro _ S ⟨rfl, rfl⟩) | ((with_reducible refine zt (q_sets _ (by assumption) (by assumption) _) ?_); rintro _ S ⟨rfl, rfl⟩) | ((with_reducible refine zt (q_items _ (by assumption) (by assumption) _) ?_); rintro _ S ⟨rfl, rfl⟩) | (refine vlo_app zs ?_) | (refine vst_app zs ?_)); (try simp only [vO, vQ, ↓vP, vE, vS, vB, vL, vF, vM, vN, vbs_full, za, zb, zc, ne_eq, not_false_eq_true, zd, ze, zh, zi, Z0, info0, Z3, info3, Z4, info4, Z9, info9, Z33, info33, Z34, info34, Z35, info35, Z36, info36, Z37, info37, Z49, info49, Z50, info50, Z51, info51, Z52, info52, Z53, info53, Z54, info54, Z75, info75, Z76, info76, Z109, info109, Z110, info110, Z112, info112, Z113, info113, Z188, info188, vown2_r, vown2_pos, vown2_neg, zp, ↓reduceIte, List.getD_cons_zero, List.getD_cons_succ, vT])) | (with_reducible first | refine vfresh_set ?_ | refine vfresh_intro (fun _ _ => ?_) | refine vif_intro (fun _ => ?_) (fun _ => ?_)) | omega | ((with_reducible first | refine vop_at ?_ | refine vops_at ?_ | refine vquiet_at ?_ | refine vmix_at ?_ | refine Holds_at ?_); simp only [vO, vQ, ↓vP, vE, vS, vB, vL, vF, vM, vN, vbs_full, za, zb, zc, ne_eq, not_false_eq_true, zd, ze, zh, zi, Z0, info0, Z3, info3, Z4, info4, Z9, info9, Z33, info33, Z34, info34, Z35, info35, Z36, info36, Z37, info37, Z49, info49, Z50, info50, Z51, info51, Z52, info52, Z53, info53, Z54, info54, Z75, info75, Z76, info76, Z109, info109, Z110, info110, Z112, info112, Z113, info113, Z188, info188, vown2_r, vown2_pos, vown2_neg, zp, ↓reduceIte, List.getD_cons_zero, List.getD_cons_succ, vT]))
  all_goals (first | (first | ((first | refine ⟨_, ?_, rfl⟩ | refine ⟨_, ?_, rfl, rfl⟩ | refine ⟨_, ?_⟩); (first | exact Sg.sub.refl _ | ((repeat (first | exact Sg.sub.refl _ | refine Sg.sub.set_both ?_ | refine Sg.sub.set_fresh ?_ (by first | assumption | exact Sg.set_none (by assumption) (by first | assumption | (apply Go.Cert.ne_of2a; assumption; assumption))))); done) | (intro y p hy; simp only [Sg.set_apply, Sg.del_apply] at hy ⊢; grind))) | (exfalso; omega)) | exact absurd (beq_self_eq_true _) (by assumption))
theorem q_all (l : List Stm) (hl : l.length ≤ 100) (hr : ∀ r ∈ l, SmS r) (σ : Sg) : VCalls Tryz.prog 20 [.sl .any (l.map stmA), .sl .any (l.map stmA)] σ (fun x σ' => x = .b true ∧ σ' = σ) := by
  have hn : (l.map stmA).length = l.length := List.length_map ..
  have hall := map_all (f := stmA) (n := 14) l (fun _ => rfl)
  have hgt := fun k (h : k < l.length) => map_get (f := stmA) h
  generalize l.map stmA = L at *
  (refine vfun (fun _ => .no) mixed Tryz.func20 (by kernel_rfl) ?_; simp only [bodyOf, Tryz.f20, zp])
  repeat' (first | with_reducible rfl | exact .inr trivial | (with_reducible first | apply And.intro | apply vqx_step | apply vqm_step | refine vkp_free (by decide +kernel) ?_ | intro _) | ((first | (with_reducible first | refine .rs ?_ | refine .ds (by kernel_rfl) ?_ | refine .dg (by kernel_rfl) ?_ | refine .rg ?_ | refine .ite ?_ | refine .ret ?_ | refine .skip ?_ | refine .exit ?_ | refine .scope ?_ | refine .seq (.label ?_) | refine .block ?_ | refine .seq ?_) | (simp (disch := first | assumption | (apply zq; assumption; assumption) | (apply zr; assumption; assumption; (intro e; cases e; done)) | omega) only [w64, w8, tg_eq, Go.V.n1, Go.V.n2, Go.V.nn, zj, zk, zl, zm, zn, zo]) | ((with_reducible refine zt (q_state (by assumption) _) ?_); rintro _ S ⟨rfl, rfl⟩) | (refine vlo_app zs ?_) | (refine vst_app zs ?_)); (try simp only [vO, vQ, ↓vP, vE, vS, vB, vL, vF, vM, vN, vbs_full, za, zb, zc, ne_eq, not_false_eq_true, zd, ze, zh, zi, Z0, info0, Z3, info3, Z4, info4, Z9, info9, Z30, info30, Z33, info33, Z34, info34, Z35, info35, Z36, info36, Z37, info37, Z49, info49, Z50, info50, Z51, info51, Z52, info52, Z53, info53, Z54, info54, Z75, info75, Z76, info76, Z109, info109, Z110, info110, Z112, info112, Z113, info113, Z188, info188, hn, hall, vown2_r, vown2_pos, vown2_neg, zp, ↓reduceIte, List.getD_cons_zero, List.getD_cons_succ, vT])) | (with_reducible first | refine vfresh_set ?_ | refine vfresh_intro (fun _ _ => ?_) | refine vif_intro (fun _ => ?_) (fun _ => ?_)) | omega | ((with_reducible first | refine vop_at ?_ | refine vops_at ?_ | refine vquiet_at ?_ | refine vmix_at ?_ | refine Holds_at ?_); simp only [vO, vQ, ↓vP, vE, vS, vB, vL, vF, vM, vN, vbs_full, za, zb, zc, ne_eq, not_false_eq_true, zd, ze, zh, zi, Z0, info0, Z3, info3, Z4, info4, Z9, info9, Z30, info30, Z33, info33, Z34, info34, Z35, info35, Z36, info36, Z37, info37, Z49, info49, Z50, info50, Z51, info51, Z52, info52, Z53, info53, Z54, info54, Z75, info75, Z76, info76, Z109, info109, Z110, info110, Z112, info112, Z113, info113, Z188, info188, hn, hall, vown2_r, vown2_pos, vown2_neg, zp, ↓reduceIte, List.getD_cons_zero, List.getD_cons_succ, vT]))
  refine VW.loop3 (0 : Nat) () () (fun k _ _ => k ≤ l.length) (fun k _ _ => [(0, .sl .any L), (1, .sl .any L), (5, .i k)]) (fun _ _ _ => σ) (fun k _ _ => l.length - k) (by omega) (.refl _) ?_ ?_
  · simp only [vO, vQ, ↓vP, vE, vS, vB, vL, vF, vM, vN, vbs_full, za, zb, zc, ne_eq, not_false_eq_true, zd, ze, zh, zi, vT]
    all_goals rfl
  rintro k _ _ hk
  rcases Nat.lt_or_ge k l.length with hk2 | hk2
  · have hg := hgt k hk2
    have h1 : SmS l[k] := hr _ (List.getElem_mem hk2)
    have h7 := q_state h1
    have hFl := stmA_len l[k]
    have hFt := stmA_take l[k]
    generalize stmA l[k] = R at *
    repeat' (first | with_reducible rfl | exact .inr trivial | (with_reducible first | apply And.intro | apply vqx_step | apply vqm_step | refine vkp_free (by decide +kernel) ?_ | intro _) | ((first | (with_reducible first | refine .rs ?_ | refine .ds (by kernel_rfl) ?_ | refine .dg (by kernel_rfl) ?_ | refine .rg ?_ | refine .ite ?_ | refine .ret ?_ | refine .skip ?_ | refine .exit ?_ | refine .scope ?_ | refine .seq (.label ?_) | refine .block ?_ | refine .seq ?_) | (simp (disch := first | assumption | (apply zq; assumption; assumption) | (apply zr; assumption; assumption; (intro e; cases e; done)) | omega) only [w64, w8, tg_eq, Go.V.n1, Go.V.n2, Go.V.nn, zj, zk, zl, zm, zn, zo]) | ((with_reducible refine zt (h7 _) ?_); rintro _ S ⟨rfl, rfl⟩) | ((with_reducible refine zt (q_state (by assumption) _) ?_); rintro _ S ⟨rfl, rfl⟩) | (refine vlo_app zs ?_) | (refine vst_app zs ?_)); (try simp only [vO, vQ, ↓vP, vE, vS, vB, vL, vF, vM, vN, vbs_full, za, zb, zc, ne_eq, not_false_eq_true, zd, ze, zh, zi, Z0, info0, Z3, info3, Z4, info4, Z9, info9, Z30, info30, Z33, info33, Z34, info34, Z35, info35, Z36, info36, Z37, info37, Z49, info49, Z50, info50, Z51, info51, Z52, info52, Z53, info53, Z54, info54, Z75, info75, Z76, info76, Z109, info109, Z110, info110, Z112, info112, Z113, info113, Z188, info188, hn, hall, hg, hFl, hFt, vown2_r, vown2_pos, vown2_neg, zp, ↓reduceIte, List.getD_cons_zero, List.getD_cons_succ, vT])) | (with_reducible first | refine vfresh_set ?_ | refine vfresh_intro (fun _ _ => ?_) | refine vif_intro (fun _ => ?_) (fun _ => ?_)) | omega | ((with_reducible first | refine vop_at ?_ | refine vops_at ?_ | refine vquiet_at ?_ | refine vmix_at ?_ | refine Holds_at ?_); simp only [vO, vQ, ↓vP, vE, vS, vB, vL, vF, vM, vN, vbs_full, za, zb, zc, ne_eq, not_false_eq_true, zd, ze, zh, zi, Z0, info0, Z3, info3, Z4, info4, Z9, info9, Z30, info30, Z33, info33, Z34, info34, Z35, info35, Z36, info36, Z37, info37, Z49, info49, Z50, info50, Z51, info51, Z52, info52, Z53, info53, Z54, info54, Z75, info75, Z76, info76, Z109, info109, Z110, info110, Z112, info112, Z113, info113, Z188, info188, hn, hall, hg, hFl, hFt, vown2_r, vown2_pos, vown2_neg, zp, ↓reduceIte, List.getD_cons_zero, List.getD_cons_succ, vT]))
    exact ⟨k + 1, (), (), ⟨hk2, by omega⟩, .refl _, rfl⟩
  · repeat' (first | with_reducible rfl | exact .inr trivial | (with_reducible first | apply And.intro | apply vqx_step | apply vqm_step | refine vkp_free (by decide +kernel) ?_ | intro _) | ((first | (with_reducible first | refine .rs ?_ | refine .ds (by kernel_rfl) ?_ | refine .dg (by kernel_rfl) ?_ | refine .rg ?_ | refine .ite ?_ | refine .ret ?_ | refine .skip ?_ | refine .exit ?_ | refine .scope ?_ | refine .seq (.label ?_) | refine .block ?_ | refine .seq ?_) | (simp (disch := first | assumption | (apply zq; assumption; assumption) | (apply zr; assumption; assumption; (intro e; cases e; done)) | omega) only [w64, w8, tg_eq, Go.V.n1, Go.V.n2, Go.V.nn, zj, zk, zl, zm, zn, zo]) | ((with_reducible refine zt (q_state (by assumption) _) ?_); rintro _ S ⟨rfl, rfl⟩) | (refine vlo_app zs ?_) | (refine vst_app zs ?_)); (try simp only [vO, vQ, ↓vP, vE, vS, vB, vL, vF, vM, vN, vbs_full, za, zb, zc, ne_eq, not_false_eq_true, zd, ze, zh, zi, Z0, info0, Z3, info3, Z4, info4, Z9, info9, Z30, info30, Z33, info33, Z34, info34, Z35, info35, Z36, info36, Z37, info37, Z49, info49, Z50, info50, Z51, info51, Z52, info52, Z53, info53, Z54, info54, Z75, info75, Z76, info76, Z109, info109, Z110, info110, Z112, info112, Z113, info113, Z188, info188, hn, hall, vown2_r, vown2_pos, vown2_neg, zp, ↓reduceIte, List.getD_cons_zero, List.getD_cons_succ, vT])) | (with_reducible first | refine vfresh_set ?_ | refine vfresh_intro (fun _ _ => ?_) | refine vif_intro (fun _ => ?_) (fun _ => ?_)) | omega | ((with_reducible first | refine vop_at ?_ | refine vops_at ?_ | refine vquiet_at ?_ | refine vmix_at ?_ | refine Holds_at ?_); simp only [vO, vQ, ↓vP, vE, vS, vB, vL, vF, vM, vN, vbs_full, za, zb, zc, ne_eq, not_false_eq_true, zd, ze, zh, zi, Z0, info0, Z3, info3, Z4, info4, Z9, info9, Z30, info30, Z33, info33, Z34, info34, Z35, info35, Z36, info36, Z37, info37, Z49, info49, Z50, info50, Z51, info51, Z52, info52, Z53, info53, Z54, info54, Z75, info75, Z76, info76, Z109, info109, Z110, info110, Z112, info112, Z113, info113, Z188, info188, hn, hall, vown2_r, vown2_pos, vown2_neg, zp, ↓reduceIte, List.getD_cons_zero, List.getD_cons_succ, vT]))
    exact ⟨_, .refl _, rfl⟩
end Go.Proofs.YtjopblbpnedjoaaGreatDoor

set_option linter.unusedVariables false
namespace Go.Parse
open Go.V Go.Lex Go.Proofs.YtjopblbpnedjoaaGreatDoor
variable {δ : Int} {w : By} {d : Int}
end Go.Parse

set_option linter.unusedVariables false
namespace Go.Parse
open Go.V Go.Lex Go.Proofs.YtjopblbpnedjoaaGreatDoor
end Go.Parse

set_option linter.unusedVariables false
namespace Go.Parse
open Go.V Go.Lex Go.Proofs.YtjopblbpnedjoaaGreatDoor
end Go.Parse

set_option linter.unusedVariables false
namespace Go.Parse
open Go.V Go.Lex Go.Proofs.YtjopblbpnedjoaaGreatDoor
end Go.Parse

set_option linter.unusedVariables false
namespace Go.Parse
open Go.V Go.Lex Go.Proofs.YtjopblbpnedjoaaGreatDoor
end Go.Parse
