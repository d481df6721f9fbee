/- Part 7 of the proof: B10, B11, K17, B12, B13, B14. -/
import Derived.Test.YtjopblbpnedjoaaGreatDoorN6
import Derived.Test.YtjopblbpnedjoaaGreatDoorN5

set_option linter.all false
set_option maxRecDepth 100000
set_option maxHeartbeats 400000
open Nat renaming reduceEqDiff → za, reduceAdd → zb, reduceLeDiff → zc, reduceMul → zd, reduceSub → ze
open Int renaming toNat_zero → zh, reduceToNat → zi, tdiv_eq_ediv_of_nonneg → zj
open Go.V.Sg renaming set_same → zk, set_ne → zl, set_ne' → zm, del_ne → zn, del_ne' → zo
open Option renaming getD_some → zp
open Go.Cert renaming ne_of2 → zq, ne_ob → zr, lk → zs
open Go.Proofs.Tryz renaming underlying3 → Z3, underlying4 → Z4, underlying9 → Z9, underlying23 → Z23, underlying24 → Z24, underlying26 → Z26, underlying34 → Z34, underlying35 → Z35, underlying37 → Z37, underlying84 → Z84, underlying87 → Z87, underlying92 → Z92
set_option linter.unusedSimpArgs false
set_option linter.unusedVariables false
namespace Go.Proofs.YtjopblbpnedjoaaGreatDoor
open Go Go.V Go.Lex Go.Parse
theorem q74 (D : Dp) (d : Int) (hB : Reads 319 (facL D) d) (hN : Nice (facL D)) : Reads 312 (termL D) d := by
  intro ρ s σ hρ hl hs
  subst hs
  refine lose_ex ?_
  obtain ⟨z27, h27, hz27⟩ := zero27
  simp only [ex0, exK_mk, exsA_nil] at hz27
  have h18 : ∀ S es, S ρ = some (rdA s) → es = strs [[42], [47], [37]] → VCalls Tryz.prog 120 [.ref ρ 0, .bm 319 [.ref ρ 0], .i 11, .sl .full es] S _ := fun S es hS he => p18 ρ s S 319 (facL D) 11 .full [[42], [47], [37]] es he hB hN hS hl (by decide) (by decide)
  have e : termL D s = row (facL D) 11 [[42], [47], [37]] s := rfl
  rw [e]
  have hFl := exA_len (row (facL D) 11 [[42], [47], [37]] s).1
  have hFo := exA_one (row (facL D) 11 [[42], [47], [37]] s).1
  have hFt := exA_take (row (facL D) 11 [[42], [47], [37]] s).1
  have hFd := exA_drop (row (facL D) 11 [[42], [47], [37]] s).1
  generalize (row (facL D) 11 [[42], [47], [37]] s).1 = e at *
  generalize (row (facL D) 11 [[42], [47], [37]] s).2 = s3 at *
  (refine vfun (fun _ => .no) mixed Tryz.func312 (by kernel_rfl) ?_; simp only [bodyOf, Tryz.f312, zp])
  repeat' (first | with_reducible rfl | exact .inr trivial | (with_reducible first | apply And.intro | apply vqx_step | apply vqm_step | refine vkp_free (by decide +kernel) ?_ | intro _) | ((first | (with_reducible first | refine .rs ?_ | refine .ds (by kernel_rfl) ?_ | refine .dg (by kernel_rfl) ?_ | refine .rg ?_ | refine .ite ?_ | refine .ret ?_ | refine .skip ?_ | refine .exit ?_ | refine .scope ?_ | refine .seq (.label ?_) | refine .block ?_ | refine .seq ?_) | (simp (disch := first | assumption | (apply zq; assumption; assumption) | (apply zr; assumption; assumption; (intro e; cases e; done)) | omega) only [w64, w8, tg_eq, Go.V.n1, Go.V.n2, Go.V.nn, zj, zk, zl, zm, zn, zo]) | ((with_reducible refine (h18 _ _ (by first | assumption | ((simp (disch := first | assumption | (apply zq; assumption; assumption) | (apply zr; assumption; assumption; (intro e; cases e; done)) | omega) only [zk, zl, zm, zn, zo]); first | done | rfl | assumption)) (by with_unfolding_all rfl)).mono ?_); rintro _ S ⟨rfl, rfl⟩) | (refine vlo_app zs ?_) | (refine vst_app zs ?_)); (try simp only [vO, vQ, ↓vP, vE, vS, vB, vL, vF, vM, vN, vbs_full, za, zb, zc, ne_eq, not_false_eq_true, zd, ze, zh, zi, Z3, info3, Z4, info4, Z37, h27, hz27, Z35, info35, Z9, info9, Z87, info87, hFl, hFo, hFt, hFd, vT])) | (with_reducible first | refine vfresh_set ?_ | refine vfresh_intro (fun _ _ => ?_) | refine vif_intro (fun _ => ?_) (fun _ => ?_)) | omega | ((with_reducible first | refine vop_at ?_ | refine vops_at ?_ | refine vquiet_at ?_ | refine vmix_at ?_ | refine Holds_at ?_); simp only [vO, vQ, ↓vP, vE, vS, vB, vL, vF, vM, vN, vbs_full, za, zb, zc, ne_eq, not_false_eq_true, zd, ze, zh, zi, Z3, info3, Z4, info4, Z37, h27, hz27, Z35, info35, Z9, info9, Z87, info87, hFl, hFo, hFt, hFd, vT]))
  all_goals (refine ⟨_, .refl _, .any, by rw [exK_any], ?_⟩; (first | exact Sg.sub.refl _ | ((repeat (first | exact Sg.sub.refl _ | refine Sg.sub.set_both ?_ | refine Sg.sub.set_fresh ?_ (by first | assumption | exact Sg.set_none (by assumption) (by first | assumption | (apply Go.Cert.ne_of2a; assumption; assumption))))); done) | (intro y p hy; simp only [Sg.set_apply, Sg.del_apply] at hy ⊢; grind)))
theorem q71 (D : Dp) (d : Int) (hB : Reads 312 (termL D) d) (hN : Nice (termL D)) : Reads 295 (sumL D) d := by
  intro ρ s σ hρ hl hs
  subst hs
  refine lose_ex ?_
  obtain ⟨z27, h27, hz27⟩ := zero27
  simp only [ex0, exK_mk, exsA_nil] at hz27
  have h18 : ∀ S es, S ρ = some (rdA s) → es = strs [[43], [45]] → VCalls Tryz.prog 120 [.ref ρ 0, .bm 312 [.ref ρ 0], .i 9, .sl .full es] S _ := fun S es hS he => p18 ρ s S 312 (termL D) 9 .full [[43], [45]] es he hB hN hS hl (by decide) (by decide)
  have e : sumL D s = row (termL D) 9 [[43], [45]] s := rfl
  rw [e]
  have hFl := exA_len (row (termL D) 9 [[43], [45]] s).1
  have hFo := exA_one (row (termL D) 9 [[43], [45]] s).1
  have hFt := exA_take (row (termL D) 9 [[43], [45]] s).1
  have hFd := exA_drop (row (termL D) 9 [[43], [45]] s).1
  generalize (row (termL D) 9 [[43], [45]] s).1 = e at *
  generalize (row (termL D) 9 [[43], [45]] s).2 = s3 at *
  (refine vfun (fun _ => .no) mixed Tryz.func295 (by kernel_rfl) ?_; simp only [bodyOf, Tryz.f295, zp])
  repeat' (first | with_reducible rfl | exact .inr trivial | (with_reducible first | apply And.intro | apply vqx_step | apply vqm_step | refine vkp_free (by decide +kernel) ?_ | intro _) | ((first | (with_reducible first | refine .rs ?_ | refine .ds (by kernel_rfl) ?_ | refine .dg (by kernel_rfl) ?_ | refine .rg ?_ | refine .ite ?_ | refine .ret ?_ | refine .skip ?_ | refine .exit ?_ | refine .scope ?_ | refine .seq (.label ?_) | refine .block ?_ | refine .seq ?_) | (simp (disch := first | assumption | (apply zq; assumption; assumption) | (apply zr; assumption; assumption; (intro e; cases e; done)) | omega) only [w64, w8, tg_eq, Go.V.n1, Go.V.n2, Go.V.nn, zj, zk, zl, zm, zn, zo]) | ((with_reducible refine (h18 _ _ (by first | assumption | ((simp (disch := first | assumption | (apply zq; assumption; assumption) | (apply zr; assumption; assumption; (intro e; cases e; done)) | omega) only [zk, zl, zm, zn, zo]); first | done | rfl | assumption)) (by with_unfolding_all rfl)).mono ?_); rintro _ S ⟨rfl, rfl⟩) | (refine vlo_app zs ?_) | (refine vst_app zs ?_)); (try simp only [vO, vQ, ↓vP, vE, vS, vB, vL, vF, vM, vN, vbs_full, za, zb, zc, ne_eq, not_false_eq_true, zd, ze, zh, zi, Z3, info3, Z4, info4, Z37, h27, hz27, Z35, info35, Z9, info9, Z87, info87, hFl, hFo, hFt, hFd, vT])) | (with_reducible first | refine vfresh_set ?_ | refine vfresh_intro (fun _ _ => ?_) | refine vif_intro (fun _ => ?_) (fun _ => ?_)) | omega | ((with_reducible first | refine vop_at ?_ | refine vops_at ?_ | refine vquiet_at ?_ | refine vmix_at ?_ | refine Holds_at ?_); simp only [vO, vQ, ↓vP, vE, vS, vB, vL, vF, vM, vN, vbs_full, za, zb, zc, ne_eq, not_false_eq_true, zd, ze, zh, zi, Z3, info3, Z4, info4, Z37, h27, hz27, Z35, info35, Z9, info9, Z87, info87, hFl, hFo, hFt, hFd, vT]))
  all_goals (refine ⟨_, .refl _, .any, by rw [exK_any], ?_⟩; (first | exact Sg.sub.refl _ | ((repeat (first | exact Sg.sub.refl _ | refine Sg.sub.set_both ?_ | refine Sg.sub.set_fresh ?_ (by first | assumption | exact Sg.set_none (by assumption) (by first | assumption | (apply Go.Cert.ne_of2a; assumption; assumption))))); done) | (intro y p hy; simp only [Sg.set_apply, Sg.del_apply] at hy ⊢; grind)))
theorem q19 (D : Dp) (d : Int) (hB : Reads 210 (notL D) d) (hN : Nice (notL D)) : Reads 121 (andL D) d := by
  intro ρ s σ hρ hl hs
  subst hs
  refine lose_ex ?_
  obtain ⟨z27, h27, hz27⟩ := zero27
  simp only [ex0, exK_mk, exsA_nil] at hz27
  have h18 : ∀ S es, S ρ = some (rdA s) → es = strs [[65, 78, 68]] → VCalls Tryz.prog 120 [.ref ρ 0, .bm 210 [.ref ρ 0], .i 2, .sl .full es] S _ := fun S es hS he => p18 ρ s S 210 (notL D) 2 .full [[65, 78, 68]] es he hB hN hS hl (by decide) (by decide)
  have e : andL D s = row (notL D) 2 [[65, 78, 68]] s := rfl
  rw [e]
  have hFl := exA_len (row (notL D) 2 [[65, 78, 68]] s).1
  have hFo := exA_one (row (notL D) 2 [[65, 78, 68]] s).1
  have hFt := exA_take (row (notL D) 2 [[65, 78, 68]] s).1
  have hFd := exA_drop (row (notL D) 2 [[65, 78, 68]] s).1
  generalize (row (notL D) 2 [[65, 78, 68]] s).1 = e at *
  generalize (row (notL D) 2 [[65, 78, 68]] s).2 = s3 at *
  (refine vfun (fun _ => .no) mixed Tryz.func121 (by kernel_rfl) ?_; simp only [bodyOf, Tryz.f121, zp])
  repeat' (first | with_reducible rfl | exact .inr trivial | (with_reducible first | apply And.intro | apply vqx_step | apply vqm_step | refine vkp_free (by decide +kernel) ?_ | intro _) | ((first | (with_reducible first | refine .rs ?_ | refine .ds (by kernel_rfl) ?_ | refine .dg (by kernel_rfl) ?_ | refine .rg ?_ | refine .ite ?_ | refine .ret ?_ | refine .skip ?_ | refine .exit ?_ | refine .scope ?_ | refine .seq (.label ?_) | refine .block ?_ | refine .seq ?_) | (simp (disch := first | assumption | (apply zq; assumption; assumption) | (apply zr; assumption; assumption; (intro e; cases e; done)) | omega) only [w64, w8, tg_eq, Go.V.n1, Go.V.n2, Go.V.nn, zj, zk, zl, zm, zn, zo]) | ((with_reducible refine (h18 _ _ (by first | assumption | ((simp (disch := first | assumption | (apply zq; assumption; assumption) | (apply zr; assumption; assumption; (intro e; cases e; done)) | omega) only [zk, zl, zm, zn, zo]); first | done | rfl | assumption)) (by with_unfolding_all rfl)).mono ?_); rintro _ S ⟨rfl, rfl⟩) | (refine vlo_app zs ?_) | (refine vst_app zs ?_)); (try simp only [vO, vQ, ↓vP, vE, vS, vB, vL, vF, vM, vN, vbs_full, za, zb, zc, ne_eq, not_false_eq_true, zd, ze, zh, zi, Z3, info3, Z4, info4, Z37, h27, hz27, Z35, info35, Z9, info9, Z87, info87, hFl, hFo, hFt, hFd, vT])) | (with_reducible first | refine vfresh_set ?_ | refine vfresh_intro (fun _ _ => ?_) | refine vif_intro (fun _ => ?_) (fun _ => ?_)) | omega | ((with_reducible first | refine vop_at ?_ | refine vops_at ?_ | refine vquiet_at ?_ | refine vmix_at ?_ | refine Holds_at ?_); simp only [vO, vQ, ↓vP, vE, vS, vB, vL, vF, vM, vN, vbs_full, za, zb, zc, ne_eq, not_false_eq_true, zd, ze, zh, zi, Z3, info3, Z4, info4, Z37, h27, hz27, Z35, info35, Z9, info9, Z87, info87, hFl, hFo, hFt, hFd, vT]))
  all_goals (refine ⟨_, .refl _, .any, by rw [exK_any], ?_⟩; (first | exact Sg.sub.refl _ | ((repeat (first | exact Sg.sub.refl _ | refine Sg.sub.set_both ?_ | refine Sg.sub.set_fresh ?_ (by first | assumption | exact Sg.set_none (by assumption) (by first | assumption | (apply Go.Cert.ne_of2a; assumption; assumption))))); done) | (intro y p hy; simp only [Sg.set_apply, Sg.del_apply] at hy ⊢; grind)))
theorem q10 (D : Dp) (d : Int) (hB : Reads 121 (andL D) d) (hN : Nice (andL D)) : Reads 54 (exL D) d := by
  intro ρ s σ hρ hl hs
  subst hs
  refine lose_ex ?_
  obtain ⟨z27, h27, hz27⟩ := zero27
  simp only [ex0, exK_mk, exsA_nil] at hz27
  have h18 : ∀ S es, S ρ = some (rdA s) → es = strs [[79, 82]] → VCalls Tryz.prog 120 [.ref ρ 0, .bm 121 [.ref ρ 0], .i 1, .sl .full es] S _ := fun S es hS he => p18 ρ s S 121 (andL D) 1 .full [[79, 82]] es he hB hN hS hl (by decide) (by decide)
  have e : exL D s = row (andL D) 1 [[79, 82]] s := rfl
  rw [e]
  have hFl := exA_len (row (andL D) 1 [[79, 82]] s).1
  have hFo := exA_one (row (andL D) 1 [[79, 82]] s).1
  have hFt := exA_take (row (andL D) 1 [[79, 82]] s).1
  have hFd := exA_drop (row (andL D) 1 [[79, 82]] s).1
  generalize (row (andL D) 1 [[79, 82]] s).1 = e at *
  generalize (row (andL D) 1 [[79, 82]] s).2 = s3 at *
  (refine vfun (fun _ => .no) mixed Tryz.func54 (by kernel_rfl) ?_; simp only [bodyOf, Tryz.f54, zp])
  repeat' (first | with_reducible rfl | exact .inr trivial | (with_reducible first | apply And.intro | apply vqx_step | apply vqm_step | refine vkp_free (by decide +kernel) ?_ | intro _) | ((first | (with_reducible first | refine .rs ?_ | refine .ds (by kernel_rfl) ?_ | refine .dg (by kernel_rfl) ?_ | refine .rg ?_ | refine .ite ?_ | refine .ret ?_ | refine .skip ?_ | refine .exit ?_ | refine .scope ?_ | refine .seq (.label ?_) | refine .block ?_ | refine .seq ?_) | (simp (disch := first | assumption | (apply zq; assumption; assumption) | (apply zr; assumption; assumption; (intro e; cases e; done)) | omega) only [w64, w8, tg_eq, Go.V.n1, Go.V.n2, Go.V.nn, zj, zk, zl, zm, zn, zo]) | ((with_reducible refine (h18 _ _ (by first | assumption | ((simp (disch := first | assumption | (apply zq; assumption; assumption) | (apply zr; assumption; assumption; (intro e; cases e; done)) | omega) only [zk, zl, zm, zn, zo]); first | done | rfl | assumption)) (by with_unfolding_all rfl)).mono ?_); rintro _ S ⟨rfl, rfl⟩) | (refine vlo_app zs ?_) | (refine vst_app zs ?_)); (try simp only [vO, vQ, ↓vP, vE, vS, vB, vL, vF, vM, vN, vbs_full, za, zb, zc, ne_eq, not_false_eq_true, zd, ze, zh, zi, Z3, info3, Z4, info4, Z37, h27, hz27, Z35, info35, Z9, info9, Z87, info87, hFl, hFo, hFt, hFd, vT])) | (with_reducible first | refine vfresh_set ?_ | refine vfresh_intro (fun _ _ => ?_) | refine vif_intro (fun _ => ?_) (fun _ => ?_)) | omega | ((with_reducible first | refine vop_at ?_ | refine vops_at ?_ | refine vquiet_at ?_ | refine vmix_at ?_ | refine Holds_at ?_); simp only [vO, vQ, ↓vP, vE, vS, vB, vL, vF, vM, vN, vbs_full, za, zb, zc, ne_eq, not_false_eq_true, zd, ze, zh, zi, Z3, info3, Z4, info4, Z37, h27, hz27, Z35, info35, Z9, info9, Z87, info87, hFl, hFo, hFt, hFd, vT]))
  all_goals (refine ⟨_, .refl _, .any, by rw [exK_any], ?_⟩; (first | exact Sg.sub.refl _ | ((repeat (first | exact Sg.sub.refl _ | refine Sg.sub.set_both ?_ | refine Sg.sub.set_fresh ?_ (by first | assumption | exact Sg.set_none (by assumption) (by first | assumption | (apply Go.Cert.ne_of2a; assumption; assumption))))); done) | (intro y p hy; simp only [Sg.set_apply, Sg.del_apply] at hy ⊢; grind)))
end Go.Proofs.YtjopblbpnedjoaaGreatDoor

set_option linter.unusedSimpArgs false
set_option linter.unusedVariables false
namespace Go.Proofs.YtjopblbpnedjoaaGreatDoor
open Go Go.V Go.Lex Go.Parse
theorem q64 (D : Dp) (d : Int) (hB : Reads 295 (sumL D) d) (hD : D.Nice) : Reads 270 (testL D) d := by
  intro ρ s σ hρ hl hs
  subst hs
  refine lose_ex ?_
  obtain ⟨z27, h27, hz27⟩ := zero27
  simp only [ex0, exK_mk, exsA_nil] at hz27
  have hN := nice_sum hD
  have o1 := hN s hl
  have h71 := fun S hS => hB ρ s S hS hl rfl
  have hlt := is_lt (sumL D s).2 tests
  simp only [List.length_cons, List.length_nil] at hlt
  have h22 := fun S hS es he => p22 ρ (sumL D s).2 .full tests es S he hS o1.wf.pos (by simp)
  rw [pass_val] at h22
  have hFl := exA_len (sumL D s).1
  have hFo := exA_one (sumL D s).1
  have hFt := exA_take (sumL D s).1
  have hFd := exA_drop (sumL D s).1
  unfold testL
  by_cases h0 : (sumL D s).2.is tests < 0
  · rw [if_pos h0]
    rw [if_neg (by omega)] at h22
    generalize (sumL D s).2.is tests = k at *
    generalize (sumL D s).1 = e at *
    generalize (sumL D s).2 = s1 at *
    (refine vfun (fun _ => .no) mixed Tryz.func270 (by kernel_rfl) ?_; simp only [bodyOf, Tryz.f270, zp])
    repeat' (first | with_reducible rfl | exact .inr trivial | (with_reducible first | apply And.intro | apply vqx_step | apply vqm_step | refine vkp_free (by decide +kernel) ?_ | intro _) | ((first | (with_reducible first | refine .rs ?_ | refine .ds (by kernel_rfl) ?_ | refine .dg (by kernel_rfl) ?_ | refine .rg ?_ | refine .ite ?_ | refine .ret ?_ | refine .skip ?_ | refine .exit ?_ | refine .scope ?_ | refine .seq (.label ?_) | refine .block ?_ | refine .seq ?_) | (simp (disch := first | assumption | (apply zq; assumption; assumption) | (apply zr; assumption; assumption; (intro e; cases e; done)) | omega) only [w64, w8, tg_eq, Go.V.n1, Go.V.n2, Go.V.nn, zj, zk, zl, zm, zn, zo]) | ((with_reducible refine (h71 _ (by first | assumption | ((simp (disch := first | assumption | (apply zq; assumption; assumption) | (apply zr; assumption; assumption; (intro e; cases e; done)) | omega) only [zk, zl, zm, zn, zo]); first | done | rfl | assumption))).mono ?_); rintro _ S ⟨rfl, rfl⟩) | ((with_reducible refine (h22 _ (by first | assumption | ((simp (disch := first | assumption | (apply zq; assumption; assumption) | (apply zr; assumption; assumption; (intro e; cases e; done)) | omega) only [zk, zl, zm, zn, zo]); first | done | rfl | assumption)) _ (by with_unfolding_all rfl)).mono ?_); rintro _ S ⟨rfl, rfl⟩) | (refine vlo_app zs ?_) | (refine vst_app zs ?_)); (try simp only [vO, vQ, ↓vP, vE, vS, vB, vL, vF, vM, vN, vbs_full, za, zb, zc, ne_eq, not_false_eq_true, zd, ze, zh, zi, Z3, info3, Z4, info4, Z37, h27, hz27, Z35, info35, Z9, info9, Z87, info87, hFl, hFo, hFt, hFd, vT])) | (with_reducible first | refine vfresh_set ?_ | refine vfresh_intro (fun _ _ => ?_) | refine vif_intro (fun _ => ?_) (fun _ => ?_)) | omega | ((with_reducible first | refine vop_at ?_ | refine vops_at ?_ | refine vquiet_at ?_ | refine vmix_at ?_ | refine Holds_at ?_); simp only [vO, vQ, ↓vP, vE, vS, vB, vL, vF, vM, vN, vbs_full, za, zb, zc, ne_eq, not_false_eq_true, zd, ze, zh, zi, Z3, info3, Z4, info4, Z37, h27, hz27, Z35, info35, Z9, info9, Z87, info87, hFl, hFo, hFt, hFd, vT]))
    all_goals (refine ⟨_, .refl _, .any, by rw [exK_any], ?_⟩; (first | exact Sg.sub.refl _ | ((repeat (first | exact Sg.sub.refl _ | refine Sg.sub.set_both ?_ | refine Sg.sub.set_fresh ?_ (by first | assumption | exact Sg.set_none (by assumption) (by first | assumption | (apply Go.Cert.ne_of2a; assumption; assumption))))); done) | (intro y p hy; simp only [Sg.set_apply, Sg.del_apply] at hy ⊢; grind)))
  · rw [if_neg h0]
    rw [if_pos (by omega)] at h22
    have o2 := ok_is (ws := tests) o1.wf (by omega)
    by_cases h8 : 3 + (sumL D s).2.is tests ≤ 8
    · rw [if_pos h8]
      have h71b := fun S hS => hB ρ (sumL D s).2.next S hS o2.wf (by show (sumL D s).2.d = s.d; exact o1.d)
      have hFl2 := exA_len (sumL D (sumL D s).2.next).1
      have hFo2 := exA_one (sumL D (sumL D s).2.next).1
      have hFt2 := exA_take (sumL D (sumL D s).2.next).1
      have hFd2 := exA_drop (sumL D (sumL D s).2.next).1
      generalize (sumL D (sumL D s).2.next).1 = e2 at *
      generalize (sumL D (sumL D s).2.next).2 = s3 at *
      generalize (sumL D s).2.next = s2 at *
      generalize (sumL D s).2.is tests = k at *
      generalize (sumL D s).1 = e at *
      generalize (sumL D s).2 = s1 at *
      simp only [exK_mk, opA]
      (refine vfun (fun _ => .no) mixed Tryz.func270 (by kernel_rfl) ?_; simp only [bodyOf, Tryz.f270, zp])
      repeat' (first | with_reducible rfl | exact .inr trivial | (with_reducible first | apply And.intro | apply vqx_step | apply vqm_step | refine vkp_free (by decide +kernel) ?_ | intro _) | ((first | (with_reducible first | refine .rs ?_ | refine .ds (by kernel_rfl) ?_ | refine .dg (by kernel_rfl) ?_ | refine .rg ?_ | refine .ite ?_ | refine .ret ?_ | refine .skip ?_ | refine .exit ?_ | refine .scope ?_ | refine .seq (.label ?_) | refine .block ?_ | refine .seq ?_) | (simp (disch := first | assumption | (apply zq; assumption; assumption) | (apply zr; assumption; assumption; (intro e; cases e; done)) | omega) only [w64, w8, tg_eq, Go.V.n1, Go.V.n2, Go.V.nn, zj, zk, zl, zm, zn, zo]) | ((with_reducible refine (h71 _ (by first | assumption | ((simp (disch := first | assumption | (apply zq; assumption; assumption) | (apply zr; assumption; assumption; (intro e; cases e; done)) | omega) only [zk, zl, zm, zn, zo]); first | done | rfl | assumption))).mono ?_); rintro _ S ⟨rfl, rfl⟩) | ((with_reducible refine (h22 _ (by first | assumption | ((simp (disch := first | assumption | (apply zq; assumption; assumption) | (apply zr; assumption; assumption; (intro e; cases e; done)) | omega) only [zk, zl, zm, zn, zo]); first | done | rfl | assumption)) _ (by with_unfolding_all rfl)).mono ?_); rintro _ S ⟨rfl, rfl⟩) | ((with_reducible refine (h71b _ (by first | assumption | ((simp (disch := first | assumption | (apply zq; assumption; assumption) | (apply zr; assumption; assumption; (intro e; cases e; done)) | omega) only [zk, zl, zm, zn, zo]); first | done | rfl | assumption))).mono ?_); rintro _ S ⟨rfl, rfl⟩) | (refine vlo_app zs ?_) | (refine vst_app zs ?_)); (try simp only [vO, vQ, ↓vP, vE, vS, vB, vL, vF, vM, vN, vbs_full, za, zb, zc, ne_eq, not_false_eq_true, zd, ze, zh, zi, Z3, info3, Z4, info4, Z37, h27, hz27, Z35, info35, Z34, info34, Z9, info9, Z87, info87, hFl, hFo, hFt, hFd, hFl2, hFo2, hFt2, hFd2, vT])) | (with_reducible first | refine vfresh_set ?_ | refine vfresh_intro (fun _ _ => ?_) | refine vif_intro (fun _ => ?_) (fun _ => ?_)) | omega | ((with_reducible first | refine vop_at ?_ | refine vops_at ?_ | refine vquiet_at ?_ | refine vmix_at ?_ | refine Holds_at ?_); simp only [vO, vQ, ↓vP, vE, vS, vB, vL, vF, vM, vN, vbs_full, za, zb, zc, ne_eq, not_false_eq_true, zd, ze, zh, zi, Z3, info3, Z4, info4, Z37, h27, hz27, Z35, info35, Z34, info34, Z9, info9, Z87, info87, hFl, hFo, hFt, hFd, hFl2, hFo2, hFt2, hFd2, vT]))
      all_goals (refine ⟨_, .refl _, _, rfl, ?_⟩; (first | exact Sg.sub.refl _ | ((repeat (first | exact Sg.sub.refl _ | refine Sg.sub.set_both ?_ | refine Sg.sub.set_fresh ?_ (by first | assumption | exact Sg.set_none (by assumption) (by first | assumption | (apply Go.Cert.ne_of2a; assumption; assumption))))); done) | (intro y p hy; simp only [Sg.set_apply, Sg.del_apply] at hy ⊢; grind)))
    · rw [if_neg h8]
      have h13 : ∀ S, S ρ = some (rdA (sumL D s).2.next) → VCalls Tryz.prog 50 [.ref ρ 0, .s (bs wNot)] S _ := fun S hS => p13 ρ (sumL D s).2.next wNot S hS o2.wf.pos
      unfold isNull
      cases hb : (sumL D s).2.next.has wNot with
      | true =>
        simp only [hb, if_true] at h13 ⊢
        have o3 := ok_has o2.wf hb
        have h41 := fun S hS es he => p41 ρ (sumL D s).2.next.next .full [wNull] es S he hS o3.wf (by simp)
        have h62 : ∀ σ, VCalls Tryz.prog 268 [.i 6, .agg (exA (sumL D s).1)] σ _ := fun σ => p62 6 (sumL D s).1 σ
        have hGl := exA_len (ofE 6 (sumL D s).1)
        have hGo := exA_one (ofE 6 (sumL D s).1)
        have hGt := exA_take (ofE 6 (sumL D s).1)
        have hGd := exA_drop (ofE 6 (sumL D s).1)
        have h62b : ∀ σ, VCalls Tryz.prog 268 [.i 4, .agg (exA (ofE 6 (sumL D s).1))] σ _ := fun σ => p62 4 (ofE 6 (sumL D s).1) σ
        have hHl := exA_len (ofE 4 (ofE 6 (sumL D s).1))
        have hHo := exA_one (ofE 4 (ofE 6 (sumL D s).1))
        have hHt := exA_take (ofE 4 (ofE 6 (sumL D s).1))
        have hHd := exA_drop (ofE 4 (ofE 6 (sumL D s).1))
        generalize ofE 4 (ofE 6 (sumL D s).1) = e4 at *
        generalize ofE 6 (sumL D s).1 = e6 at *
        generalize (sumL D s).2.next.next.must [wNull] = s4 at *
        generalize (sumL D s).2.next.next = s3 at *
        generalize (sumL D s).2.next = s2 at *
        generalize (sumL D s).2.is tests = k at *
        generalize (sumL D s).1 = e at *
        generalize (sumL D s).2 = s1 at *
        (refine vfun (fun _ => .no) mixed Tryz.func270 (by kernel_rfl) ?_; simp only [bodyOf, Tryz.f270, zp])
        repeat' (first | with_reducible rfl | exact .inr trivial | (with_reducible first | apply And.intro | apply vqx_step | apply vqm_step | refine vkp_free (by decide +kernel) ?_ | intro _) | ((first | (with_reducible first | refine .rs ?_ | refine .ds (by kernel_rfl) ?_ | refine .dg (by kernel_rfl) ?_ | refine .rg ?_ | refine .ite ?_ | refine .ret ?_ | refine .skip ?_ | refine .exit ?_ | refine .scope ?_ | refine .seq (.label ?_) | refine .block ?_ | refine .seq ?_) | (simp (disch := first | assumption | (apply zq; assumption; assumption) | (apply zr; assumption; assumption; (intro e; cases e; done)) | omega) only [w64, w8, tg_eq, Go.V.n1, Go.V.n2, Go.V.nn, zj, zk, zl, zm, zn, zo]) | ((with_reducible refine (h71 _ (by first | assumption | ((simp (disch := first | assumption | (apply zq; assumption; assumption) | (apply zr; assumption; assumption; (intro e; cases e; done)) | omega) only [zk, zl, zm, zn, zo]); first | done | rfl | assumption))).mono ?_); rintro _ S ⟨rfl, rfl⟩) | ((with_reducible refine (h22 _ (by first | assumption | ((simp (disch := first | assumption | (apply zq; assumption; assumption) | (apply zr; assumption; assumption; (intro e; cases e; done)) | omega) only [zk, zl, zm, zn, zo]); first | done | rfl | assumption)) _ (by with_unfolding_all rfl)).mono ?_); rintro _ S ⟨rfl, rfl⟩) | ((with_reducible refine (h13 _ (by first | assumption | ((simp (disch := first | assumption | (apply zq; assumption; assumption) | (apply zr; assumption; assumption; (intro e; cases e; done)) | omega) only [zk, zl, zm, zn, zo]); first | done | rfl | assumption))).mono ?_); rintro _ S ⟨rfl, rfl⟩) | ((with_reducible refine (h41 _ (by first | assumption | ((simp (disch := first | assumption | (apply zq; assumption; assumption) | (apply zr; assumption; assumption; (intro e; cases e; done)) | omega) only [zk, zl, zm, zn, zo]); first | done | rfl | assumption)) _ (by with_unfolding_all rfl)).mono ?_); rintro _ S ⟨rfl, rfl⟩) | ((with_reducible refine (h62 _).mono ?_); rintro _ S ⟨rfl, rfl⟩) | ((with_reducible refine (h62b _).mono ?_); rintro _ S ⟨rfl, rfl⟩) | (refine vlo_app zs ?_) | (refine vst_app zs ?_)); (try simp only [vO, vQ, ↓vP, vE, vS, vB, vL, vF, vM, vN, vbs_full, za, zb, zc, ne_eq, not_false_eq_true, zd, ze, zh, zi, Z3, info3, Z4, info4, Z37, h27, hz27, Z35, info35, Z34, info34, Z9, info9, Z87, info87, hFl, hFo, hFt, hFd, hGl, hGo, hGt, hGd, hHl, hHo, hHt, hHd, vT])) | (with_reducible first | refine vfresh_set ?_ | refine vfresh_intro (fun _ _ => ?_) | refine vif_intro (fun _ => ?_) (fun _ => ?_)) | omega | ((with_reducible first | refine vop_at ?_ | refine vops_at ?_ | refine vquiet_at ?_ | refine vmix_at ?_ | refine Holds_at ?_); simp only [vO, vQ, ↓vP, vE, vS, vB, vL, vF, vM, vN, vbs_full, za, zb, zc, ne_eq, not_false_eq_true, zd, ze, zh, zi, Z3, info3, Z4, info4, Z37, h27, hz27, Z35, info35, Z34, info34, Z9, info9, Z87, info87, hFl, hFo, hFt, hFd, hGl, hGo, hGt, hGd, hHl, hHo, hHt, hHd, vT]))
        all_goals (refine ⟨_, .refl _, .any, by rw [exK_any], ?_⟩; (first | exact Sg.sub.refl _ | ((repeat (first | exact Sg.sub.refl _ | refine Sg.sub.set_both ?_ | refine Sg.sub.set_fresh ?_ (by first | assumption | exact Sg.set_none (by assumption) (by first | assumption | (apply Go.Cert.ne_of2a; assumption; assumption))))); done) | (intro y p hy; simp only [Sg.set_apply, Sg.del_apply] at hy ⊢; grind)))
      | false =>
        simp only [hb, Bool.false_eq_true, if_false] at h13 ⊢
        have h41 := fun S hS es he => p41 ρ (sumL D s).2.next .full [wNull] es S he hS o2.wf (by simp)
        have h62 : ∀ σ, VCalls Tryz.prog 268 [.i 6, .agg (exA (sumL D s).1)] σ _ := fun σ => p62 6 (sumL D s).1 σ
        have hGl := exA_len (ofE 6 (sumL D s).1)
        have hGo := exA_one (ofE 6 (sumL D s).1)
        have hGt := exA_take (ofE 6 (sumL D s).1)
        have hGd := exA_drop (ofE 6 (sumL D s).1)
        generalize ofE 6 (sumL D s).1 = e6 at *
        generalize (sumL D s).2.next.must [wNull] = s4 at *
        generalize (sumL D s).2.next = s2 at *
        generalize (sumL D s).2.is tests = k at *
        generalize (sumL D s).1 = e at *
        generalize (sumL D s).2 = s1 at *
        (refine vfun (fun _ => .no) mixed Tryz.func270 (by kernel_rfl) ?_; simp only [bodyOf, Tryz.f270, zp])
        repeat' (first | with_reducible rfl | exact .inr trivial | (with_reducible first | apply And.intro | apply vqx_step | apply vqm_step | refine vkp_free (by decide +kernel) ?_ | intro _) | ((first | (with_reducible first | refine .rs ?_ | refine .ds (by kernel_rfl) ?_ | refine .dg (by kernel_rfl) ?_ | refine .rg ?_ | refine .ite ?_ | refine .ret ?_ | refine .skip ?_ | refine .exit ?_ | refine .scope ?_ | refine .seq (.label ?_) | refine .block ?_ | refine .seq ?_) | (simp (disch := first | assumption | (apply zq; assumption; assumption) | (apply zr; assumption; assumption; (intro e; cases e; done)) | omega) only [w64, w8, tg_eq, Go.V.n1, Go.V.n2, Go.V.nn, zj, zk, zl, zm, zn, zo]) | ((with_reducible refine (h71 _ (by first | assumption | ((simp (disch := first | assumption | (apply zq; assumption; assumption) | (apply zr; assumption; assumption; (intro e; cases e; done)) | omega) only [zk, zl, zm, zn, zo]); first | done | rfl | assumption))).mono ?_); rintro _ S ⟨rfl, rfl⟩) | ((with_reducible refine (h22 _ (by first | assumption | ((simp (disch := first | assumption | (apply zq; assumption; assumption) | (apply zr; assumption; assumption; (intro e; cases e; done)) | omega) only [zk, zl, zm, zn, zo]); first | done | rfl | assumption)) _ (by with_unfolding_all rfl)).mono ?_); rintro _ S ⟨rfl, rfl⟩) | ((with_reducible refine (h13 _ (by first | assumption | ((simp (disch := first | assumption | (apply zq; assumption; assumption) | (apply zr; assumption; assumption; (intro e; cases e; done)) | omega) only [zk, zl, zm, zn, zo]); first | done | rfl | assumption))).mono ?_); rintro _ S ⟨rfl, rfl⟩) | ((with_reducible refine (h41 _ (by first | assumption | ((simp (disch := first | assumption | (apply zq; assumption; assumption) | (apply zr; assumption; assumption; (intro e; cases e; done)) | omega) only [zk, zl, zm, zn, zo]); first | done | rfl | assumption)) _ (by with_unfolding_all rfl)).mono ?_); rintro _ S ⟨rfl, rfl⟩) | ((with_reducible refine (h62 _).mono ?_); rintro _ S ⟨rfl, rfl⟩) | (refine vlo_app zs ?_) | (refine vst_app zs ?_)); (try simp only [vO, vQ, ↓vP, vE, vS, vB, vL, vF, vM, vN, vbs_full, za, zb, zc, ne_eq, not_false_eq_true, zd, ze, zh, zi, Z3, info3, Z4, info4, Z37, h27, hz27, Z35, info35, Z34, info34, Z9, info9, Z87, info87, hFl, hFo, hFt, hFd, hGl, hGo, hGt, hGd, vT])) | (with_reducible first | refine vfresh_set ?_ | refine vfresh_intro (fun _ _ => ?_) | refine vif_intro (fun _ => ?_) (fun _ => ?_)) | omega | ((with_reducible first | refine vop_at ?_ | refine vops_at ?_ | refine vquiet_at ?_ | refine vmix_at ?_ | refine Holds_at ?_); simp only [vO, vQ, ↓vP, vE, vS, vB, vL, vF, vM, vN, vbs_full, za, zb, zc, ne_eq, not_false_eq_true, zd, ze, zh, zi, Z3, info3, Z4, info4, Z37, h27, hz27, Z35, info35, Z34, info34, Z9, info9, Z87, info87, hFl, hFo, hFt, hFd, hGl, hGo, hGt, hGd, vT]))
        all_goals (refine ⟨_, .refl _, .any, by rw [exK_any], ?_⟩; (first | exact Sg.sub.refl _ | ((repeat (first | exact Sg.sub.refl _ | refine Sg.sub.set_both ?_ | refine Sg.sub.set_fresh ?_ (by first | assumption | exact Sg.set_none (by assumption) (by first | assumption | (apply Go.Cert.ne_of2a; assumption; assumption))))); done) | (intro y p hy; simp only [Sg.set_apply, Sg.del_apply] at hy ⊢; grind)))
theorem q39 (D : Dp) (d : Int) (hB : Reads 270 (testL D) d) (hD : d < 10 → RD D (d + 1)) (hN : D.Nice) (hd : 0 ≤ d ∧ d ≤ 10) : Reads 210 (notL D) d := by
  intro ρ s σ hρ hl hs
  subst hs
  refine lose_ex ?_
  obtain ⟨z27, h27, hz27⟩ := zero27
  simp only [ex0, exK_mk, exsA_nil] at hz27
  have h13 : ∀ S, S ρ = some (rdA s) → VCalls Tryz.prog 50 [.ref ρ 0, .s (bs wNot)] S _ := fun S hS => p13 ρ s wNot S hS hl.pos
  unfold notL
  cases hb : s.has wNot with
  | true =>
    simp only [hb, if_true] at h13 ⊢
    have o1 := ok_has hl hb
    have h63 := fun S hS => p63 ρ s.next S 210 D.not (fun h => (hD h).not) hN.not hS o1.wf hd
    have h62 : ∀ σ, VCalls Tryz.prog 268 [.i 4, .agg (exA (within D.not s.next).1)] σ _ := fun σ => p62 4 (within D.not s.next).1 σ
    have hFl := exA_len (ofE 4 (within D.not s.next).1)
    have hFo := exA_one (ofE 4 (within D.not s.next).1)
    have hFt := exA_take (ofE 4 (within D.not s.next).1)
    have hFd := exA_drop (ofE 4 (within D.not s.next).1)
    generalize ofE 4 (within D.not s.next).1 = e4 at *
    generalize (within D.not s.next).1 = e at *
    generalize (within D.not s.next).2 = s2 at *
    generalize s.next = s1 at *
    (refine vfun (fun _ => .no) mixed Tryz.func210 (by kernel_rfl) ?_; simp only [bodyOf, Tryz.f210, zp])
    repeat' (first | with_reducible rfl | exact .inr trivial | (with_reducible first | apply And.intro | apply vqx_step | apply vqm_step | refine vkp_free (by decide +kernel) ?_ | intro _) | ((first | (with_reducible first | refine .rs ?_ | refine .ds (by kernel_rfl) ?_ | refine .dg (by kernel_rfl) ?_ | refine .rg ?_ | refine .ite ?_ | refine .ret ?_ | refine .skip ?_ | refine .exit ?_ | refine .scope ?_ | refine .seq (.label ?_) | refine .block ?_ | refine .seq ?_) | (simp (disch := first | assumption | (apply zq; assumption; assumption) | (apply zr; assumption; assumption; (intro e; cases e; done)) | omega) only [w64, w8, tg_eq, Go.V.n1, Go.V.n2, Go.V.nn, zj, zk, zl, zm, zn, zo]) | ((with_reducible refine (h13 _ (by first | assumption | ((simp (disch := first | assumption | (apply zq; assumption; assumption) | (apply zr; assumption; assumption; (intro e; cases e; done)) | omega) only [zk, zl, zm, zn, zo]); first | done | rfl | assumption))).mono ?_); rintro _ S ⟨rfl, rfl⟩) | ((with_reducible refine (h63 _ (by first | assumption | ((simp (disch := first | assumption | (apply zq; assumption; assumption) | (apply zr; assumption; assumption; (intro e; cases e; done)) | omega) only [zk, zl, zm, zn, zo]); first | done | rfl | assumption))).mono ?_); rintro _ S ⟨rfl, rfl⟩) | ((with_reducible refine (h62 _).mono ?_); rintro _ S ⟨rfl, rfl⟩) | (refine vlo_app zs ?_) | (refine vst_app zs ?_)); (try simp only [vO, vQ, ↓vP, vE, vS, vB, vL, vF, vM, vN, vbs_full, za, zb, zc, ne_eq, not_false_eq_true, zd, ze, zh, zi, Z3, info3, Z4, info4, Z37, h27, hz27, Z35, info35, Z34, info34, Z9, info9, Z87, info87, hFl, hFo, hFt, hFd, vT])) | (with_reducible first | refine vfresh_set ?_ | refine vfresh_intro (fun _ _ => ?_) | refine vif_intro (fun _ => ?_) (fun _ => ?_)) | omega | ((with_reducible first | refine vop_at ?_ | refine vops_at ?_ | refine vquiet_at ?_ | refine vmix_at ?_ | refine Holds_at ?_); simp only [vO, vQ, ↓vP, vE, vS, vB, vL, vF, vM, vN, vbs_full, za, zb, zc, ne_eq, not_false_eq_true, zd, ze, zh, zi, Z3, info3, Z4, info4, Z37, h27, hz27, Z35, info35, Z34, info34, Z9, info9, Z87, info87, hFl, hFo, hFt, hFd, vT]))
    all_goals (refine ⟨_, .refl _, .any, by rw [exK_any], ?_⟩; (first | exact Sg.sub.refl _ | ((repeat (first | exact Sg.sub.refl _ | refine Sg.sub.set_both ?_ | refine Sg.sub.set_fresh ?_ (by first | assumption | exact Sg.set_none (by assumption) (by first | assumption | (apply Go.Cert.ne_of2a; assumption; assumption))))); done) | (intro y p hy; simp only [Sg.set_apply, Sg.del_apply] at hy ⊢; grind)))
  | false =>
    simp only [hb, Bool.false_eq_true, if_false] at h13 ⊢
    have h64 := fun S hS => hB ρ s S hS hl rfl
    have hFl := exA_len (testL D s).1
    have hFo := exA_one (testL D s).1
    have hFt := exA_take (testL D s).1
    have hFd := exA_drop (testL D s).1
    generalize (testL D s).1 = e at *
    generalize (testL D s).2 = s2 at *
    (refine vfun (fun _ => .no) mixed Tryz.func210 (by kernel_rfl) ?_; simp only [bodyOf, Tryz.f210, zp])
    repeat' (first | with_reducible rfl | exact .inr trivial | (with_reducible first | apply And.intro | apply vqx_step | apply vqm_step | refine vkp_free (by decide +kernel) ?_ | intro _) | ((first | (with_reducible first | refine .rs ?_ | refine .ds (by kernel_rfl) ?_ | refine .dg (by kernel_rfl) ?_ | refine .rg ?_ | refine .ite ?_ | refine .ret ?_ | refine .skip ?_ | refine .exit ?_ | refine .scope ?_ | refine .seq (.label ?_) | refine .block ?_ | refine .seq ?_) | (simp (disch := first | assumption | (apply zq; assumption; assumption) | (apply zr; assumption; assumption; (intro e; cases e; done)) | omega) only [w64, w8, tg_eq, Go.V.n1, Go.V.n2, Go.V.nn, zj, zk, zl, zm, zn, zo]) | ((with_reducible refine (h13 _ (by first | assumption | ((simp (disch := first | assumption | (apply zq; assumption; assumption) | (apply zr; assumption; assumption; (intro e; cases e; done)) | omega) only [zk, zl, zm, zn, zo]); first | done | rfl | assumption))).mono ?_); rintro _ S ⟨rfl, rfl⟩) | ((with_reducible refine (h64 _ (by first | assumption | ((simp (disch := first | assumption | (apply zq; assumption; assumption) | (apply zr; assumption; assumption; (intro e; cases e; done)) | omega) only [zk, zl, zm, zn, zo]); first | done | rfl | assumption))).mono ?_); rintro _ S ⟨rfl, rfl⟩) | (refine vlo_app zs ?_) | (refine vst_app zs ?_)); (try simp only [vO, vQ, ↓vP, vE, vS, vB, vL, vF, vM, vN, vbs_full, za, zb, zc, ne_eq, not_false_eq_true, zd, ze, zh, zi, Z3, info3, Z4, info4, Z37, h27, hz27, Z35, info35, Z34, info34, Z9, info9, Z87, info87, hFl, hFo, hFt, hFd, vT])) | (with_reducible first | refine vfresh_set ?_ | refine vfresh_intro (fun _ _ => ?_) | refine vif_intro (fun _ => ?_) (fun _ => ?_)) | omega | ((with_reducible first | refine vop_at ?_ | refine vops_at ?_ | refine vquiet_at ?_ | refine vmix_at ?_ | refine Holds_at ?_); simp only [vO, vQ, ↓vP, vE, vS, vB, vL, vF, vM, vN, vbs_full, za, zb, zc, ne_eq, not_false_eq_true, zd, ze, zh, zi, Z3, info3, Z4, info4, Z37, h27, hz27, Z35, info35, Z34, info34, Z9, info9, Z87, info87, hFl, hFo, hFt, hFd, vT]))
    all_goals (refine ⟨_, .refl _, .any, by rw [exK_any], ?_⟩; (first | exact Sg.sub.refl _ | ((repeat (first | exact Sg.sub.refl _ | refine Sg.sub.set_both ?_ | refine Sg.sub.set_fresh ?_ (by first | assumption | exact Sg.set_none (by assumption) (by first | assumption | (apply Go.Cert.ne_of2a; assumption; assumption))))); done) | (intro y p hy; simp only [Sg.set_apply, Sg.del_apply] at hy ⊢; grind)))
theorem qRD : ∀ (n : Nat) (d : Int), d + n = 11 → 0 ≤ d → d ≤ 10 → RD (dp n) d
  | 0, d, h, h0, h1 => by omega
  | n + 1, d, h, h0, h1 => by
    have hD : d < 10 → RD (dp n) (d + 1) := fun h2 => qRD n (d + 1) (by omega) (by omega) (by omega)
    have hN := dp_nice n
    have r75 := q75 (dp n) d hD hN ⟨h0, h1⟩
    have r74 := q74 (dp n) d r75 (nice_fac hN)
    have r71 := q71 (dp n) d r74 (nice_row (nice_fac hN) _ _)
    have r64 := q64 (dp n) d r71 hN
    have r39 := q39 (dp n) d r64 hD hN ⟨h0, h1⟩
    have r19 := q19 (dp n) d r39 (nice_not hN)
    have r10 := q10 (dp n) d r19 (nice_row (nice_not hN) _ _)
    exact ⟨r75, r39, r10⟩
end Go.Proofs.YtjopblbpnedjoaaGreatDoor

namespace Go.Lex
open Go.V Go.Proofs.YtjopblbpnedjoaaGreatDoor
theorem pre_join {p : UInt8 → Bool} (hp : p 10 = false) (r t : List UInt8) : pre p (r ++ 10 :: t) = pre p r := by
  unfold pre
  induction r with
  | nil => simp [hp]
  | cons c r ih =>
    simp only [List.cons_append, List.takeWhile_cons]
    split
    · simp only [List.length_cons, ih]
    · rfl
theorem hasPre_cons (x : List UInt8) (a c : UInt8) (r : List UInt8) : hasPre (a :: x) (c :: r) = (decide (c = a) && hasPre x r) := by
  simp only [hasPre, List.length_cons, List.take_succ_cons, List.cons.injEq, Bool.decide_and]
theorem hasPre_join : ∀ (x r t : List UInt8), 10 ∉ x → hasPre x (r ++ 10 :: t) = hasPre x r
  | [], _, _, _ => rfl
  | a :: x, [], t, h => by
    rw [List.nil_append, hasPre_cons, decide_eq_false (fun e => h (by rw [e]; simp))]
    rfl
  | a :: x, c :: r, t, h => by
    rw [List.cons_append, hasPre_cons, hasPre_cons, hasPre_join x r t (fun e => h (by simp [e]))]
theorem bstep_join : ∀ (r t : List UInt8), r ≠ [] → bstep (r ++ 10 :: t) = bstep r
  | [], _, h => absurd rfl h
  | c :: r, t, _ => by
    show (if ws c then 1 else if hasPre [45, 45] (c :: (r ++ 10 :: t)) then pre (· != 10) (c :: (r ++ 10 :: t)) else 0) = _
    rw [← List.cons_append, hasPre_join _ _ _ (by decide), pre_join rfl]
    rfl
theorem blanks_join_lt : ∀ (n : Nat) (r t : List UInt8), r.length ≤ n → blanks r < r.length → blanks (r ++ 10 :: t) = blanks r := by
  intro n
  induction n with
  | zero => intro r t h h'; omega
  | succ n ih =>
    intro r t h h'
    have hne : r ≠ [] := fun e => by subst e; simp at h'
    have hj := bstep_join r t hne
    by_cases hb : bstep r = 0
    · rw [blanks_stop hb, blanks_stop (by rw [hj]; exact hb)]
    · have hl := bstep_le r
      rw [blanks_step hb] at h'
      rw [blanks_step hb, blanks_step (by rw [hj]; exact hb), hj, List.drop_append_of_le_length hl]
      rw [ih _ _ (by simp; omega) (by simp; omega)]
theorem blanks_join_eq : ∀ (n : Nat) (r t : List UInt8), r.length ≤ n → r.length ≤ blanks r → blanks (r ++ 10 :: t) = r.length + 1 + blanks t := by
  intro n
  induction n with
  | zero =>
    intro r t h _
    obtain rfl : r = [] := List.eq_nil_of_length_eq_zero (by omega)
    have hb : bstep (10 :: t) = 1 := rfl
    rw [List.nil_append, blanks_step (by rw [hb]; decide), hb]
    rfl
  | succ n ih =>
    intro r t h h'
    by_cases hne : r = []
    · subst hne
      have hb : bstep (10 :: t) = 1 := rfl
      rw [List.nil_append, blanks_step (by rw [hb]; decide), hb]
      rfl
    · have hj := bstep_join r t hne
      have hpos := List.length_pos_iff.2 hne
      by_cases hb : bstep r = 0
      · rw [blanks_stop hb] at h'; omega
      · have hl := bstep_le r
        rw [blanks_step hb] at h'
        rw [blanks_step (by rw [hj]; exact hb), hj, List.drop_append_of_le_length hl]
        rw [ih _ _ (by simp; omega) (by simp; omega)]
        simp; omega
theorem qd_join : ∀ (r t x : List UInt8) (n : Nat), qd r = some (x, n) → qd (r ++ 10 :: t) = some (x, n)
  | [], _, _, _, h => by cases h
  | [c], t, x, n, h => by
    simp only [qd] at h
    split at h
    · rename_i hc
      subst hc
      cases h
      rfl
    · cases h
  | c :: d :: r, t, x, n, h => by
    by_cases hc : c = 39
    · subst hc
      by_cases hd : d = 39
      · subst hd
        rw [qd_two] at h
        show qd (39 :: 39 :: (r ++ 10 :: t)) = _
        rw [qd_two]
        cases hq : qd r with
        | none => rw [hq] at h; cases h
        | some p => rw [hq] at h; rw [qd_join r t p.1 p.2 hq]; exact h
      · rw [qd_close (fun d' r' e => by injection e with e1 e2; rw [← e1]; exact hd)] at h
        show qd (39 :: d :: (r ++ 10 :: t)) = _
        rw [qd_close (fun d' r' e => by injection e with e1 e2; rw [← e1]; exact hd)]
        exact h
    · rw [qd_other hc] at h
      show qd (c :: (d :: r ++ 10 :: t)) = _
      rw [qd_other hc]
      cases hq : qd (d :: r) with
      | none => rw [hq] at h; cases h
      | some p => rw [hq] at h; rw [qd_join (d :: r) t p.1 p.2 hq]; exact h
theorem getD_join {r t : List UInt8} {n : Nat} (h : n < r.length) : (r ++ 10 :: t).getD n 0 = r.getD n 0 := by
  simp [List.getD_eq_getElem?_getD, List.getElem?_append_left h]
theorem glue_join (r t : List UInt8) (n : Nat) (h : n ≤ r.length) : glue (r ++ 10 :: t) n = glue r n := by
  unfold glue
  rcases Nat.lt_or_ge n r.length with h' | h'
  · rw [getD_join h', decide_eq_true h', decide_eq_true (by simp; omega)]
  · have e : (r ++ 10 :: t).getD n 0 = 10 := by
      obtain rfl : n = r.length := by omega
      simp [List.getD_eq_getElem?_getD]
    have h1 : (isSmall 10 || isGreat 10) = false := rfl
    rw [e, h1, Bool.and_false, decide_eq_false (by omega), Bool.false_and]
theorem wl_join (kd : Nat) (p : UInt8 → Bool) (hp : p 10 = false) (r t : List UInt8) : wl kd (r ++ 10 :: t) (pre p (r ++ 10 :: t)) = wl kd r (pre p r) := by
  have hl := pre_le p r
  rw [pre_join hp]
  unfold wl wordT
  rw [glue_join r t _ hl, List.take_append_of_le_length hl]
theorem find_congr {α : Type} (l : List α) (p q : α → Bool) (h : ∀ x ∈ l, p x = q x) : l.find? p = l.find? q := by
  induction l with
  | nil => rfl
  | cons a r ih => rw [List.find?_cons, List.find?_cons, h a (by simp), ih (fun x hx => h x (by simp [hx]))]
theorem tok1_join (r t : List UInt8) (h0 : 0 < r.length) (h : tok1 r ≠ .error 3) : tok1 (r ++ 10 :: t) = tok1 r := by
  have hg := getD_join (t := t) h0
  by_cases h1 : (r.getD 0 0).toNat = 39
  · rw [tok1_q h1] at h ⊢
    rw [tok1_q (by rw [hg]; exact h1)]
    unfold quotedT at h ⊢
    cases hq : qd (r.drop 1) with
    | none => rw [hq] at h; exact absurd rfl h
    | some p =>
      have := qd_join (r.drop 1) t p.1 p.2 hq
      rw [List.drop_append_of_le_length (by omega), this]
  · by_cases h2 : isFirst (r.getD 0 0) = true
    · rw [tok1_1 h2, tok1_1 (by rw [hg]; exact h2), wl_join _ _ rfl]
    · by_cases h3 : isGreat (r.getD 0 0) = true
      · rw [tok1_2 h3, tok1_2 (by rw [hg]; exact h3), wl_join _ _ rfl]
      · by_cases h4 : isDigit (r.getD 0 0) = true
        · rw [tok1_3 h4, tok1_3 (by rw [hg]; exact h4), wl_join _ _ rfl]
        · rw [tok1_s h1 h2 h3 h4, tok1_s (by rw [hg]; exact h1) (by rw [hg]; exact h2) (by rw [hg]; exact h3) (by rw [hg]; exact h4)]
          rw [find_congr signs (fun x => hasPre x (r ++ 10 :: t)) (fun x => hasPre x r) (fun x hx => hasPre_join x r t (by revert x; decide))]
theorem toks_skip {R : List UInt8} {a c : Nat} (hc : c ≤ R.length) (h : blanks R = c + blanks (R.drop c)) : toks R a = toks (R.drop c) (a + c) := by
  by_cases hb : R.length ≤ blanks R
  · rw [toks_end hb, toks_end (by simp; omega), h, Nat.add_assoc]
  · have hd : R.drop (blanks R) = (R.drop c).drop (blanks (R.drop c)) := by rw [List.drop_drop, ← h]
    cases ht : tok1 (R.drop (blanks R)) with
    | error e =>
      rw [toks_err (by omega) ht, toks_err (by simp; omega) (by rw [← hd]; exact ht), h, Nat.add_assoc]
    | ok p =>
      obtain ⟨k, t, v, m⟩ := p
      have hA := toks_ok (r := R) (a := a) (by omega) ht
      have hB := toks_ok (r := R.drop c) (a := a + c) (k := k) (v := v) (n := m) (t := t) (by simp; omega) (by rw [← hd]; exact ht)
      rw [hA, hB, List.drop_drop, h, show a + (c + blanks (R.drop c)) = a + c + blanks (R.drop c) by omega, show c + blanks (R.drop c) + m = c + (blanks (R.drop c) + m) by omega]
theorem toks_join_end {r t : List UInt8} {a : Nat} (hb : r.length ≤ blanks r) : toks (r ++ 10 :: t) a = toks t (a + r.length + 1) := by
  have h1 := blanks_join_eq _ r t (Nat.le_refl _) hb
  have h2 : (r ++ 10 :: t).drop (r.length + 1) = t := by simp
  rw [toks_skip (c := r.length + 1) (by simp) (by rw [h2, h1]), h2, Nat.add_assoc]
theorem toks_join_ok : ∀ (n : Nat) (r t : List UInt8) (a : Nat) (l : List Tk), r.length ≤ n → toks r a = .ok l → ∃ i, l = i ++ [(6, [], 0, a + r.length)] ∧ toks (r ++ 10 :: t) a = appE i (toks t (a + r.length + 1)) := by
  intro n
  induction n with
  | zero =>
    intro r t a l h hl
    have hb := blanks_le r
    rw [toks_end (by omega)] at hl
    cases hl
    exact ⟨[], by simp; omega, by rw [appE_nil, toks_join_end (by omega)]⟩
  | succ n ih =>
    intro r t a l h hl
    have hbl := blanks_le r
    by_cases hb : r.length ≤ blanks r
    · rw [toks_end hb] at hl
      cases hl
      exact ⟨[], by simp; omega, by rw [appE_nil, toks_join_end hb]⟩
    · cases ht : tok1 (r.drop (blanks r)) with
      | error e => rw [toks_err (by omega) ht] at hl; cases hl
      | ok p =>
        obtain ⟨k, x, v, m⟩ := p
        have hm := tok1_len (by simp; omega) ht
        simp only [List.length_drop] at hm
        rw [toks_ok (by omega) ht] at hl
        have hj := blanks_join_lt _ r t (Nat.le_refl _) (by omega)
        have htj := tok1_join (r.drop (blanks r)) t (by simp; omega) (by rw [ht]; intro e; cases e)
        cases hr : toks (r.drop (blanks r + m)) (a + blanks r + m) with
        | error q => rw [hr] at hl; cases hl
        | ok l' =>
          rw [hr] at hl
          cases hl
          obtain ⟨i, h1, h2⟩ := ih _ t _ _ (by simp; omega) hr
          refine ⟨(k, x, v, a + blanks r) :: i, ?_, ?_⟩
          · rw [h1]; simp; omega
          · rw [toks_ok (by rw [hj]; simp; omega) (by rw [hj, List.drop_append_of_le_length hbl, htj, ht]), hj, List.drop_append_of_le_length (by omega), h2, appE_appE]
            simp only [List.length_drop, List.cons_append, List.nil_append]
            congr 2; omega
end Go.Lex

set_option linter.unusedSimpArgs false
set_option linter.unusedVariables false
namespace Go.Parse
open Go.V Go.Lex Go.Proofs.YtjopblbpnedjoaaGreatDoor
theorem WF_app : ∀ (i : List Tk) (t : Tk), t.1 = 6 → WF (i ++ [t])
  | [], t, h => h
  | [x], t, h => h
  | x :: y :: r, t, h => WF_app (y :: r) t h
theorem toks_wf {b : List UInt8} {l : List Tk} (h : lexAll b = .ok l) : WF l := by
  unfold lexAll at h
  split at h
  · cases h
  · cases ht : toks b 0 with
    | error q => rw [ht] at h; cases h
    | ok m =>
      rw [ht] at h
      cases h
      obtain ⟨i, rfl, _⟩ := toks_join_ok b.length b [] 0 l (Nat.le_refl _) ht
      exact WF_app _ _ rfl
theorem tok1_nz {r : List UInt8} {e : Nat} (h : tok1 r = .error e) : e ≠ 0 := by
  have hwl : ∀ kd n, wl kd r n = .error e → e ≠ 0 := fun kd n hw => by
    unfold wl at hw
    cases hw' : wordT kd r n with
    | ok q => rw [hw'] at hw; cases hw
    | error e' =>
      rw [hw'] at hw
      cases hw
      unfold wordT at hw'
      split at hw'
      · cases hw'; decide
      · split at hw'
        · split at hw'
          · cases hw'
          · cases hw'; decide
        · split at hw'
          · split at hw'
            · cases hw'; decide
            · cases hw'
          · split at hw'
            · cases hw'
            · cases hw'; decide
  unfold tok1 at h
  split at h
  · unfold quotedT at h
    split at h
    · cases h; decide
    · split at h
      · cases h; decide
      · cases h
  · split at h
    · exact hwl _ _ h
    · split at h
      · exact hwl _ _ h
      · split at h
        · exact hwl _ _ h
        · split at h
          · cases h
          · cases h; decide
theorem lexAll_nz {b : List UInt8} {e : Nat} {a : Int} (h : lexAll b = .error (e, a)) : e ≠ 0 := by
  unfold lexAll at h
  split at h
  · cases h; decide
  · cases ht : toks b 0 with
    | error q =>
      obtain ⟨e', a'⟩ := q
      rw [ht] at h
      cases h
      exact toks_nz b.length b 0 e a' (Nat.le_refl _) (fun m e he => tok1_nz he) ht
    | ok m => rw [ht] at h; cases h
def oneR (l : List Tk) : Ex × Int × Int := if (oneT l).2.c = 0 then ((oneT l).1, 0, 0) else (ex0, (oneT l).2.c, (oneT l).2.a)
def oneAll (b : List UInt8) : Ex × Int × Int :=
  match lexAll b with
  | .ok l => oneR l
  | .error (e, a) => (ex0, (e : Int), a)
end Go.Parse
namespace Go.Proofs.YtjopblbpnedjoaaGreatDoor
open Go Go.V Go.Lex Go.Parse
theorem p9 (b : List UInt8) (σ : Sg) : VCalls Tryz.prog 16 [.s (bs b)] σ (fun x σ' => (x = match lexAll b with
    | .ok l => .tup [.sl .any (tksA l), .agg [.i 0, .i 0]]
    | .error (e, a) => .tup [.sl .nil [], .agg [.i e, .i a]]) ∧ σ' = σ) :=
  (t21 b σ).weak fun x σ' hx => by
    obtain ⟨⟨l', τ, h1, rfl⟩ | ⟨e, a, h1, he, rfl⟩, rfl⟩ := hx
    · rw [h1]
      exact ⟨_, .tup2 (.any _ _) (.refl _), rfl, rfl⟩
    · rw [h1]
      exact ⟨_, .refl _, rfl, rfl⟩
theorem p11 (ρ : Nat) (s : Rd) (σ : Sg) (hρ : σ ρ = some (rdA s)) (hl : WF s.l) : VCalls Tryz.prog 53 [.ref ρ 0] σ (fun x σ' => x = .agg [.i s.fin.c, .i s.fin.a] ∧ σ' = σ.set ρ (rdA s.fin)) := by
  have h20 := fun S (hS : S ρ = some (rdA s)) => p20 ρ s S hS
  have h21 := fun S (hS : S ρ = some (rdA s)) => p21 ρ s S hS hl.pos
  have h14 := fun S (hS : S ρ = some (rdA s)) => p14 ρ s 4 S hS hl.pos
  rw [tkA_eq] at h21
  have hρ' := hρ
  unfold Rd.fin
  by_cases hc : s.c = 0
  · simp only [decide_eq_true hc] at h20
    by_cases h6 : (hd s.l).1 = 6
    · rw [if_neg (fun h => h.2 h6), Sg.set_id hρ']
      simp only [h6] at h21
      generalize (hd s.l).2.1 = t at *
      generalize (hd s.l).2.2.1 = n at *
      generalize (hd s.l).2.2.2 = a at *
      rw [rdA_eq] at hρ
      (refine vfun (fun _ => .no) mixed Tryz.func53 (by kernel_rfl) ?_; simp only [bodyOf, Tryz.f53, zp])
      repeat' (first | with_reducible rfl | exact .inr trivial | (with_reducible first | apply And.intro | apply vqx_step | apply vqm_step | refine vkp_free (by decide +kernel) ?_ | intro _) | ((first | (with_reducible first | refine .rs ?_ | refine .ds (by kernel_rfl) ?_ | refine .dg (by kernel_rfl) ?_ | refine .rg ?_ | refine .ite ?_ | refine .ret ?_ | refine .skip ?_ | refine .exit ?_ | refine .scope ?_ | refine .seq (.label ?_) | refine .block ?_ | refine .seq ?_) | (simp (disch := first | assumption | (apply zq; assumption; assumption) | (apply zr; assumption; assumption; (intro e; cases e; done)) | omega) only [w64, w8, tg_eq, Go.V.n1, Go.V.n2, Go.V.nn, zj, zk, zl, zm, zn, zo]) | ((with_reducible refine (h20 _ (by first | assumption | ((simp (disch := first | assumption | (apply zq; assumption; assumption) | (apply zr; assumption; assumption; (intro e; cases e; done)) | omega) only [zk, zl, zm, zn, zo]); first | done | rfl | assumption))).mono ?_); rintro _ S ⟨rfl, rfl⟩) | ((with_reducible refine (h21 _ (by first | assumption | ((simp (disch := first | assumption | (apply zq; assumption; assumption) | (apply zr; assumption; assumption; (intro e; cases e; done)) | omega) only [zk, zl, zm, zn, zo]); first | done | rfl | assumption))).mono ?_); rintro _ S ⟨rfl, rfl⟩) | (refine vlo_app zs ?_) | (refine vst_app zs ?_)); (try simp only [vO, vQ, ↓vP, vE, vS, vB, vL, vF, vM, vN, vbs_full, za, zb, zc, ne_eq, not_false_eq_true, zd, ze, zh, zi, Z3, info3, Z4, info4, Z92, info92, Z26, info26, Z24, info24, Z23, info23, Z84, info84, Z9, info9, hρ, vT])) | (with_reducible first | refine vfresh_set ?_ | refine vfresh_intro (fun _ _ => ?_) | refine vif_intro (fun _ => ?_) (fun _ => ?_)) | omega | ((with_reducible first | refine vop_at ?_ | refine vops_at ?_ | refine vquiet_at ?_ | refine vmix_at ?_ | refine Holds_at ?_); simp only [vO, vQ, ↓vP, vE, vS, vB, vL, vF, vM, vN, vbs_full, za, zb, zc, ne_eq, not_false_eq_true, zd, ze, zh, zi, Z3, info3, Z4, info4, Z92, info92, Z26, info26, Z24, info24, Z23, info23, Z84, info84, Z9, info9, hρ, vT]))
      all_goals (first | ((first | refine ⟨_, ?_, rfl⟩ | refine ⟨_, ?_, rfl, rfl⟩ | refine ⟨_, ?_⟩); (first | exact Sg.sub.refl _ | ((repeat (first | exact Sg.sub.refl _ | refine Sg.sub.set_both ?_ | refine Sg.sub.set_fresh ?_ (by first | assumption | exact Sg.set_none (by assumption) (by first | assumption | (apply Go.Cert.ne_of2a; assumption; assumption))))); done) | (intro y p hy; simp only [Sg.set_apply, Sg.del_apply] at hy ⊢; grind))) | (exfalso; omega))
    · rw [if_pos ⟨hc, h6⟩]
      generalize hd s.l = t at *
      generalize s.fail 4 = s4 at *
      simp only [rdA_eq] at h14 hρ ⊢
      (refine vfun (fun _ => .no) mixed Tryz.func53 (by kernel_rfl) ?_; simp only [bodyOf, Tryz.f53, zp])
      repeat' (first | with_reducible rfl | exact .inr trivial | (with_reducible first | apply And.intro | apply vqx_step | apply vqm_step | refine vkp_free (by decide +kernel) ?_ | intro _) | ((first | (with_reducible first | refine .rs ?_ | refine .ds (by kernel_rfl) ?_ | refine .dg (by kernel_rfl) ?_ | refine .rg ?_ | refine .ite ?_ | refine .ret ?_ | refine .skip ?_ | refine .exit ?_ | refine .scope ?_ | refine .seq (.label ?_) | refine .block ?_ | refine .seq ?_) | (simp (disch := first | assumption | (apply zq; assumption; assumption) | (apply zr; assumption; assumption; (intro e; cases e; done)) | omega) only [w64, w8, tg_eq, Go.V.n1, Go.V.n2, Go.V.nn, zj, zk, zl, zm, zn, zo]) | ((with_reducible refine (h20 _ (by first | assumption | ((simp (disch := first | assumption | (apply zq; assumption; assumption) | (apply zr; assumption; assumption; (intro e; cases e; done)) | omega) only [zk, zl, zm, zn, zo]); first | done | rfl | assumption))).mono ?_); rintro _ S ⟨rfl, rfl⟩) | ((with_reducible refine (h21 _ (by first | assumption | ((simp (disch := first | assumption | (apply zq; assumption; assumption) | (apply zr; assumption; assumption; (intro e; cases e; done)) | omega) only [zk, zl, zm, zn, zo]); first | done | rfl | assumption))).mono ?_); rintro _ S ⟨rfl, rfl⟩) | ((with_reducible refine (h14 _ (by first | assumption | ((simp (disch := first | assumption | (apply zq; assumption; assumption) | (apply zr; assumption; assumption; (intro e; cases e; done)) | omega) only [zk, zl, zm, zn, zo]); first | done | rfl | assumption))).mono ?_); rintro _ S ⟨rfl, rfl⟩) | (refine vlo_app zs ?_) | (refine vst_app zs ?_)); (try simp only [vO, vQ, ↓vP, vE, vS, vB, vL, vF, vM, vN, vbs_full, za, zb, zc, ne_eq, not_false_eq_true, zd, ze, zh, zi, Z3, info3, Z4, info4, Z92, info92, Z26, info26, Z24, info24, Z23, info23, Z84, info84, Z9, info9, hρ, vT])) | (with_reducible first | refine vfresh_set ?_ | refine vfresh_intro (fun _ _ => ?_) | refine vif_intro (fun _ => ?_) (fun _ => ?_)) | omega | ((with_reducible first | refine vop_at ?_ | refine vops_at ?_ | refine vquiet_at ?_ | refine vmix_at ?_ | refine Holds_at ?_); simp only [vO, vQ, ↓vP, vE, vS, vB, vL, vF, vM, vN, vbs_full, za, zb, zc, ne_eq, not_false_eq_true, zd, ze, zh, zi, Z3, info3, Z4, info4, Z92, info92, Z26, info26, Z24, info24, Z23, info23, Z84, info84, Z9, info9, hρ, vT]))
      all_goals (first | ((first | refine ⟨_, ?_, rfl⟩ | refine ⟨_, ?_, rfl, rfl⟩ | refine ⟨_, ?_⟩); (first | exact Sg.sub.refl _ | ((repeat (first | exact Sg.sub.refl _ | refine Sg.sub.set_both ?_ | refine Sg.sub.set_fresh ?_ (by first | assumption | exact Sg.set_none (by assumption) (by first | assumption | (apply Go.Cert.ne_of2a; assumption; assumption))))); done) | (intro y p hy; simp only [Sg.set_apply, Sg.del_apply] at hy ⊢; grind))) | (exfalso; omega))
  · simp only [decide_eq_false hc] at h20
    rw [if_neg (fun h => hc h.1), Sg.set_id hρ']
    rw [rdA_eq] at hρ
    (refine vfun (fun _ => .no) mixed Tryz.func53 (by kernel_rfl) ?_; simp only [bodyOf, Tryz.f53, zp])
    repeat' (first | with_reducible rfl | exact .inr trivial | (with_reducible first | apply And.intro | apply vqx_step | apply vqm_step | refine vkp_free (by decide +kernel) ?_ | intro _) | ((first | (with_reducible first | refine .rs ?_ | refine .ds (by kernel_rfl) ?_ | refine .dg (by kernel_rfl) ?_ | refine .rg ?_ | refine .ite ?_ | refine .ret ?_ | refine .skip ?_ | refine .exit ?_ | refine .scope ?_ | refine .seq (.label ?_) | refine .block ?_ | refine .seq ?_) | (simp (disch := first | assumption | (apply zq; assumption; assumption) | (apply zr; assumption; assumption; (intro e; cases e; done)) | omega) only [w64, w8, tg_eq, Go.V.n1, Go.V.n2, Go.V.nn, zj, zk, zl, zm, zn, zo]) | ((with_reducible refine (h20 _ (by first | assumption | ((simp (disch := first | assumption | (apply zq; assumption; assumption) | (apply zr; assumption; assumption; (intro e; cases e; done)) | omega) only [zk, zl, zm, zn, zo]); first | done | rfl | assumption))).mono ?_); rintro _ S ⟨rfl, rfl⟩) | ((with_reducible refine (h21 _ (by first | assumption | ((simp (disch := first | assumption | (apply zq; assumption; assumption) | (apply zr; assumption; assumption; (intro e; cases e; done)) | omega) only [zk, zl, zm, zn, zo]); first | done | rfl | assumption))).mono ?_); rintro _ S ⟨rfl, rfl⟩) | (refine vlo_app zs ?_) | (refine vst_app zs ?_)); (try simp only [vO, vQ, ↓vP, vE, vS, vB, vL, vF, vM, vN, vbs_full, za, zb, zc, ne_eq, not_false_eq_true, zd, ze, zh, zi, Z3, info3, Z4, info4, Z92, info92, Z26, info26, Z24, info24, Z23, info23, Z84, info84, Z9, info9, hρ, vT])) | (with_reducible first | refine vfresh_set ?_ | refine vfresh_intro (fun _ _ => ?_) | refine vif_intro (fun _ => ?_) (fun _ => ?_)) | omega | ((with_reducible first | refine vop_at ?_ | refine vops_at ?_ | refine vquiet_at ?_ | refine vmix_at ?_ | refine Holds_at ?_); simp only [vO, vQ, ↓vP, vE, vS, vB, vL, vF, vM, vN, vbs_full, za, zb, zc, ne_eq, not_false_eq_true, zd, ze, zh, zi, Z3, info3, Z4, info4, Z92, info92, Z26, info26, Z24, info24, Z23, info23, Z84, info84, Z9, info9, hρ, vT]))
    all_goals (first | ((first | refine ⟨_, ?_, rfl⟩ | refine ⟨_, ?_, rfl, rfl⟩ | refine ⟨_, ?_⟩); (first | exact Sg.sub.refl _ | ((repeat (first | exact Sg.sub.refl _ | refine Sg.sub.set_both ?_ | refine Sg.sub.set_fresh ?_ (by first | assumption | exact Sg.set_none (by assumption) (by first | assumption | (apply Go.Cert.ne_of2a; assumption; assumption))))); done) | (intro y p hy; simp only [Sg.set_apply, Sg.del_apply] at hy ⊢; grind))) | (exfalso; omega))
theorem zero30 : ∃ z, tInfo Tryz.prog 26 = some (some z, 2, 16) ∧ ofValue z = .agg [.i 0, .i 0] := ⟨_, info26, by rfl⟩
theorem lose_ex2 {f : FuncId} {args : List AV} {e : Ex} {c a : Int} {σ S : Sg} (h : VCalls Tryz.prog f args σ (fun x σ' => ∃ o, x = .tup [.agg (exK o e), .agg [.i c, .i a]] ∧ S.sub σ')) : VCalls Tryz.prog f args σ (fun x σ' => x = .tup [.agg (exA e), .agg [.i c, .i a]] ∧ σ' = S) :=
  h.lose fun x σ' hx => by
    obtain ⟨o, rfl, hs⟩ := hx
    exact ⟨_, S, (AVw.ex o e).tup2 (AVw.refl _), hs, rfl, rfl⟩
theorem p6 (b : List UInt8) (σ : Sg) : VCalls Tryz.prog 19 [.s (bs b)] σ (fun x σ' => x = .tup [.agg (exA (oneAll b).1), .agg [.i (oneAll b).2.1, .i (oneAll b).2.2]] ∧ σ' = σ) := by
  refine lose_ex2 ?_
  obtain ⟨z27, h27, hz27⟩ := zero27
  simp only [ex0, exK_mk, exsA_nil] at hz27
  have h9 := p9 b
  unfold oneAll
  cases hl : lexAll b with
  | error q =>
    obtain ⟨e, a⟩ := q
    have he := lexAll_nz hl
    simp only [hl] at h9
    simp only [ex0, exK_mk, exsA_nil]
    (refine vfun (fun _ => .no) mixed Tryz.func19 (by kernel_rfl) ?_; simp only [bodyOf, Tryz.f19, zp])
    repeat' (first | with_reducible rfl | exact .inr trivial | (with_reducible first | apply And.intro | apply vqx_step | apply vqm_step | refine vkp_free (by decide +kernel) ?_ | intro _) | ((with_reducible (rename_i a2 _ a3 _ _ a5 _ _ _ _; refine .dms (fun x => x = a5) [(0, false), (1, false), (2, true), (3, true)] (by decide) (by decide +kernel) ?_)); (simp only [vO, vQ, ↓vP, vE, vS, vB, vL, vF, vM, vN, vbs_full, za, zb, zc, ne_eq, not_false_eq_true, zd, ze, zh, zi, Z3, info3, Z4, info4, Z37, h27, hz27, Z35, info35, Z34, info34, Z24, info24, Z26, info26, Z9, info9, Z87, info87, vT])) | ((first | (with_reducible first | refine .rs ?_ | refine .ds (by kernel_rfl) ?_ | refine .dg (by kernel_rfl) ?_ | refine .rg ?_ | refine .ite ?_ | refine .ret ?_ | refine .skip ?_ | refine .exit ?_ | refine .scope ?_ | refine .seq (.label ?_) | refine .block ?_ | refine .seq ?_) | (simp (disch := first | assumption | (apply zq; assumption; assumption) | (apply zr; assumption; assumption; (intro e; cases e; done)) | omega) only [w64, w8, tg_eq, Go.V.n1, Go.V.n2, Go.V.nn, zj, zk, zl, zm, zn, zo]) | ((with_reducible refine (h9 _).mono ?_); rintro _ S ⟨rfl, rfl⟩) | with_reducible refine vkp_keep (fun _ _ => rfl) ?_ | (refine vkp_keep (by intro β h; first | (rcases h with h | h <;> subst h <;> (simp (disch := first | assumption | (apply zq; assumption; assumption) | (apply zr; assumption; assumption; (intro e; cases e; done)) | omega) only [zk, zl, zm, zn, zo])) | (subst h; (simp (disch := first | assumption | (apply zq; assumption; assumption) | (apply zr; assumption; assumption; (intro e; cases e; done)) | omega) only [zk, zl, zm, zn, zo]))) ?_) | (refine vlo_app (o' := some (.cells 26 [.i e, .i a])) (keepAt (by assumption) (by first | assumption | ((simp (disch := first | assumption | (apply zq; assumption; assumption) | (apply zr; assumption; assumption; (intro e; cases e; done)) | omega) only [zk, zl, zm, zn, zo]); first | done | rfl | assumption))) ?_) | (refine vlo_app zs ?_) | (refine vst_app zs ?_)); (try simp only [vO, vQ, ↓vP, vE, vS, vB, vL, vF, vM, vN, vbs_full, za, zb, zc, ne_eq, not_false_eq_true, zd, ze, zh, zi, Z3, info3, Z4, info4, Z37, h27, hz27, Z35, info35, Z34, info34, Z24, info24, Z26, info26, Z9, info9, Z87, info87, vT])) | (with_reducible first | refine vfresh_set ?_ | refine vfresh_intro (fun _ _ => ?_) | refine vif_intro (fun _ => ?_) (fun _ => ?_)) | omega | ((with_reducible first | refine vop_at ?_ | refine vops_at ?_ | refine vquiet_at ?_ | refine vmix_at ?_ | refine Holds_at ?_); simp only [vO, vQ, ↓vP, vE, vS, vB, vL, vF, vM, vN, vbs_full, za, zb, zc, ne_eq, not_false_eq_true, zd, ze, zh, zi, Z3, info3, Z4, info4, Z37, h27, hz27, Z35, info35, Z34, info34, Z24, info24, Z26, info26, Z9, info9, Z87, info87, vT]))
    all_goals (refine ⟨_, .refl _, _, rfl, ?_⟩; (first | exact Sg.sub.refl _ | ((repeat (first | exact Sg.sub.refl _ | refine Sg.sub.set_both ?_ | refine Sg.sub.set_fresh ?_ (by first | assumption | exact Sg.set_none (by assumption) (by first | assumption | (apply Go.Cert.ne_of2a; assumption; assumption))))); done) | (intro y p hy; simp only [Sg.set_apply, Sg.del_apply] at hy ⊢; grind)))
  | ok l =>
    simp only [hl] at h9
    have hw := toks_wf hl
    have r10 := fun ρ S hS => (qRD 11 0 (by decide) (by decide) (by decide)).ex ρ (rd0 l) S hS hw rfl
    have o1 := (dp_nice 11).ex (rd0 l) hw
    have h11 := fun ρ S hS => p11 ρ ((dp 11).ex (rd0 l)).2 S hS o1.wf
    have hFl := exA_len ((dp 11).ex (rd0 l)).1
    have hFo := exA_one ((dp 11).ex (rd0 l)).1
    have hFt := exA_take ((dp 11).ex (rd0 l)).1
    have hFd := exA_drop ((dp 11).ex (rd0 l)).1
    have h0 : rdA (rd0 l) = .cells 92 [.sl .any (tksA l), .i 0, .i 0, .i 0] := rfl
    have hR : oneR l = if ((dp 11).ex (rd0 l)).2.fin.c = 0 then (((dp 11).ex (rd0 l)).1, 0, 0) else (ex0, ((dp 11).ex (rd0 l)).2.fin.c, ((dp 11).ex (rd0 l)).2.fin.a) := rfl
    simp only [hR, h0] at r10 ⊢
    generalize ((dp 11).ex (rd0 l)).1 = e at *
    generalize ((dp 11).ex (rd0 l)).2.fin = s2 at *
    generalize ((dp 11).ex (rd0 l)).2 = s1 at *
    by_cases hc : s2.c = 0
    · rw [if_pos hc]
      (refine vfun (fun _ => .no) mixed Tryz.func19 (by kernel_rfl) ?_; simp only [bodyOf, Tryz.f19, zp])
      repeat' (first | with_reducible rfl | exact .inr trivial | (with_reducible first | apply And.intro | apply vqx_step | apply vqm_step | refine vkp_free (by decide +kernel) ?_ | intro _) | ((first | (with_reducible first | refine .rs ?_ | refine .ds (by kernel_rfl) ?_ | refine .dg (by kernel_rfl) ?_ | refine .rg ?_ | refine .ite ?_ | refine .ret ?_ | refine .skip ?_ | refine .exit ?_ | refine .scope ?_ | refine .seq (.label ?_) | refine .block ?_ | refine .seq ?_) | (simp (disch := first | assumption | (apply zq; assumption; assumption) | (apply zr; assumption; assumption; (intro e; cases e; done)) | omega) only [w64, w8, tg_eq, Go.V.n1, Go.V.n2, Go.V.nn, zj, zk, zl, zm, zn, zo]) | ((with_reducible refine (h9 _).mono ?_); rintro _ S ⟨rfl, rfl⟩) | ((with_reducible refine (r10 _ _ (by first | assumption | ((simp (disch := first | assumption | (apply zq; assumption; assumption) | (apply zr; assumption; assumption; (intro e; cases e; done)) | omega) only [zk, zl, zm, zn, zo]); first | done | rfl | assumption))).mono ?_); rintro _ S ⟨rfl, rfl⟩) | ((with_reducible refine (h11 _ _ (by first | assumption | ((simp (disch := first | assumption | (apply zq; assumption; assumption) | (apply zr; assumption; assumption; (intro e; cases e; done)) | omega) only [zk, zl, zm, zn, zo]); first | done | rfl | assumption))).mono ?_); rintro _ S ⟨rfl, rfl⟩) | (refine vlo_app zs ?_) | (refine vst_app zs ?_)); (try simp only [vO, vQ, ↓vP, vE, vS, vB, vL, vF, vM, vN, vbs_full, za, zb, zc, ne_eq, not_false_eq_true, zd, ze, zh, zi, Z3, info3, Z4, info4, Z37, h27, hz27, Z35, info35, Z34, info34, Z24, info24, Z26, info26, Z23, info23, Z92, info92, Z9, info9, Z87, info87, hFl, hFo, hFt, hFd, vT])) | (with_reducible first | refine vfresh_set ?_ | refine vfresh_intro (fun _ _ => ?_) | refine vif_intro (fun _ => ?_) (fun _ => ?_)) | omega | ((with_reducible first | refine vop_at ?_ | refine vops_at ?_ | refine vquiet_at ?_ | refine vmix_at ?_ | refine Holds_at ?_); simp only [vO, vQ, ↓vP, vE, vS, vB, vL, vF, vM, vN, vbs_full, za, zb, zc, ne_eq, not_false_eq_true, zd, ze, zh, zi, Z3, info3, Z4, info4, Z37, h27, hz27, Z35, info35, Z34, info34, Z24, info24, Z26, info26, Z23, info23, Z92, info92, Z9, info9, Z87, info87, hFl, hFo, hFt, hFd, vT]))
      all_goals (refine ⟨_, .refl _, .any, by rw [exK_any], ?_⟩; (first | exact Sg.sub.refl _ | ((repeat (first | exact Sg.sub.refl _ | refine Sg.sub.set_both ?_ | refine Sg.sub.set_fresh ?_ (by first | assumption | exact Sg.set_none (by assumption) (by first | assumption | (apply Go.Cert.ne_of2a; assumption; assumption))))); done) | (intro y p hy; simp only [Sg.set_apply, Sg.del_apply] at hy ⊢; grind)))
    · rw [if_neg hc]
      simp only [exK_mk, exsA_nil]
      (refine vfun (fun _ => .no) mixed Tryz.func19 (by kernel_rfl) ?_; simp only [bodyOf, Tryz.f19, zp])
      repeat' (first | with_reducible rfl | exact .inr trivial | (with_reducible first | apply And.intro | apply vqx_step | apply vqm_step | refine vkp_free (by decide +kernel) ?_ | intro _) | ((with_reducible (rename_i x10 _ x8 _ _ x6 _ _ _ x4 _ _ _ _ x2 _ _ _ _ _ _; refine .dms (fun x => x = x6) [(0, false), (1, false), (2, true), (3, true)] (by decide) (by decide +kernel) ?_)); (simp only [vO, vQ, ↓vP, vE, vS, vB, vL, vF, vM, vN, vbs_full, za, zb, zc, ne_eq, not_false_eq_true, zd, ze, zh, zi, Z3, info3, Z4, info4, Z37, h27, hz27, Z35, info35, Z34, info34, Z24, info24, Z26, info26, Z23, info23, Z92, info92, Z9, info9, Z87, info87, hFl, hFo, hFt, hFd, vT])) | ((first | (with_reducible first | refine .rs ?_ | refine .ds (by kernel_rfl) ?_ | refine .dg (by kernel_rfl) ?_ | refine .rg ?_ | refine .ite ?_ | refine .ret ?_ | refine .skip ?_ | refine .exit ?_ | refine .scope ?_ | refine .seq (.label ?_) | refine .block ?_ | refine .seq ?_) | (simp (disch := first | assumption | (apply zq; assumption; assumption) | (apply zr; assumption; assumption; (intro e; cases e; done)) | omega) only [w64, w8, tg_eq, Go.V.n1, Go.V.n2, Go.V.nn, zj, zk, zl, zm, zn, zo]) | ((with_reducible refine (h9 _).mono ?_); rintro _ S ⟨rfl, rfl⟩) | ((with_reducible refine (r10 _ _ (by first | assumption | ((simp (disch := first | assumption | (apply zq; assumption; assumption) | (apply zr; assumption; assumption; (intro e; cases e; done)) | omega) only [zk, zl, zm, zn, zo]); first | done | rfl | assumption))).mono ?_); rintro _ S ⟨rfl, rfl⟩) | ((with_reducible refine (h11 _ _ (by first | assumption | ((simp (disch := first | assumption | (apply zq; assumption; assumption) | (apply zr; assumption; assumption; (intro e; cases e; done)) | omega) only [zk, zl, zm, zn, zo]); first | done | rfl | assumption))).mono ?_); rintro _ S ⟨rfl, rfl⟩) | with_reducible refine vkp_keep (fun _ _ => rfl) ?_ | (refine vkp_keep (by intro β h; first | (rcases h with h | h <;> subst h <;> (simp (disch := first | assumption | (apply zq; assumption; assumption) | (apply zr; assumption; assumption; (intro e; cases e; done)) | omega) only [zk, zl, zm, zn, zo])) | (subst h; (simp (disch := first | assumption | (apply zq; assumption; assumption) | (apply zr; assumption; assumption; (intro e; cases e; done)) | omega) only [zk, zl, zm, zn, zo]))) ?_) | (refine vlo_app (o' := some (.cells 26 [.i s2.c, .i s2.a])) (keepAt (by assumption) (by first | assumption | ((simp (disch := first | assumption | (apply zq; assumption; assumption) | (apply zr; assumption; assumption; (intro e; cases e; done)) | omega) only [zk, zl, zm, zn, zo]); first | done | rfl | assumption))) ?_) | (refine vlo_app zs ?_) | (refine vst_app zs ?_)); (try simp only [vO, vQ, ↓vP, vE, vS, vB, vL, vF, vM, vN, vbs_full, za, zb, zc, ne_eq, not_false_eq_true, zd, ze, zh, zi, Z3, info3, Z4, info4, Z37, h27, hz27, Z35, info35, Z34, info34, Z24, info24, Z26, info26, Z23, info23, Z92, info92, Z9, info9, Z87, info87, hFl, hFo, hFt, hFd, vT])) | (with_reducible first | refine vfresh_set ?_ | refine vfresh_intro (fun _ _ => ?_) | refine vif_intro (fun _ => ?_) (fun _ => ?_)) | omega | ((with_reducible first | refine vop_at ?_ | refine vops_at ?_ | refine vquiet_at ?_ | refine vmix_at ?_ | refine Holds_at ?_); simp only [vO, vQ, ↓vP, vE, vS, vB, vL, vF, vM, vN, vbs_full, za, zb, zc, ne_eq, not_false_eq_true, zd, ze, zh, zi, Z3, info3, Z4, info4, Z37, h27, hz27, Z35, info35, Z34, info34, Z24, info24, Z26, info26, Z23, info23, Z92, info92, Z9, info9, Z87, info87, hFl, hFo, hFt, hFd, vT]))
      all_goals (refine ⟨_, .refl _, _, rfl, ?_⟩; (first | exact Sg.sub.refl _ | ((repeat (first | exact Sg.sub.refl _ | refine Sg.sub.set_both ?_ | refine Sg.sub.set_fresh ?_ (by first | assumption | exact Sg.set_none (by assumption) (by first | assumption | (apply Go.Cert.ne_of2a; assumption; assumption))))); done) | (intro y p hy; simp only [Sg.set_apply, Sg.del_apply] at hy ⊢; grind)))
end Go.Proofs.YtjopblbpnedjoaaGreatDoor

set_option linter.unusedSimpArgs false
set_option linter.unusedVariables false
namespace Go.Parse
open Go.V Go.Lex Go.Proofs.YtjopblbpnedjoaaGreatDoor
inductive Sm : Ex → Prop
  | leaf (k op : Int) (t n : By) (v : Vl) : Sm (.mk k op t n v [])
  | one (k op : Int) (t n : By) (v : Vl) (e : Ex) (h : Sm e) : Sm (.mk k op t n v [e])
  | two (k op : Int) (t n : By) (v : Vl) (e f : Ex) (h : Sm e) (h2 : Sm f) : Sm (.mk k op t n v [e, f])
def SmF (F : Pr) : Prop := ∀ s, Sm (F s).1
theorem sm_column : SmF Rd.column := fun s => by
  unfold Rd.column
  split <;> exact .leaf _ _ _ _ _
theorem sm_within {F : Pr} (h : SmF F) : SmF (within F) := fun s => by
  unfold within
  split
  · exact h _
  · exact .leaf _ _ _ _ _
theorem sm_rowL {F : Pr} (h : SmF F) (first : Int) (ws : List By) : ∀ (n : Nat) (e : Ex) (s : Rd), Sm e → Sm (rowL F first ws n e s).1
  | 0, e, s, he => he
  | n + 1, e, s, he => by
    unfold rowL
    split
    · exact sm_rowL h first ws n _ _ (.two _ _ _ _ _ _ _ he (h _))
    · exact he
theorem sm_row {F : Pr} (h : SmF F) (first : Int) (ws : List By) : SmF (row F first ws) := fun s => sm_rowL h first ws _ _ _ (h s)
structure Dp.Sm (D : Dp) : Prop where
  fac : SmF D.fac
  not : SmF D.not
  ex : SmF D.ex
theorem sm_fac {D : Dp} (h : D.Sm) : SmF (facL D) := fun s => by
  unfold facL
  split
  · exact .leaf _ _ _ _ _
  · split
    · exact .one _ _ _ _ _ _ (sm_within h.fac _)
    · split
      · exact sm_within h.ex _
      · exact sm_column _
theorem sm_sum {D : Dp} (h : D.Sm) : SmF (sumL D) := sm_row (sm_row (sm_fac h) _ _) _ _
theorem sm_test {D : Dp} (h : D.Sm) : SmF (testL D) := fun s => by
  unfold testL
  split
  · exact sm_sum h s
  · split
    · exact .two _ _ _ _ _ _ _ (sm_sum h _) (sm_sum h _)
    · unfold isNull
      split
      · exact .one _ _ _ _ _ _ (.one _ _ _ _ _ _ (sm_sum h _))
      · exact .one _ _ _ _ _ _ (sm_sum h _)
theorem sm_not {D : Dp} (h : D.Sm) : SmF (notL D) := fun s => by
  unfold notL
  split
  · exact .one _ _ _ _ _ _ (sm_within h.not _)
  · exact sm_test h s
theorem dp_sm : ∀ n, (dp n).Sm
  | 0 => ⟨fun s => .leaf _ _ _ _ _, fun s => .leaf _ _ _ _ _, fun s => .leaf _ _ _ _ _⟩
  | n + 1 => ⟨sm_fac (dp_sm n), sm_not (dp_sm n), sm_row (sm_row (sm_not (dp_sm n)) _ _) _ _⟩
theorem sm_oneAll (b : List UInt8) : Sm (oneAll b).1 := by
  unfold oneAll
  split
  · unfold oneR
    split
    · exact (dp_sm 11).ex _
    · exact .leaf _ _ _ _ _
  · exact .leaf _ _ _ _ _
end Go.Parse
namespace Go.Proofs.YtjopblbpnedjoaaGreatDoor
open Go Go.V Go.Lex Go.Parse
theorem exsA_get {l : List Ex} {k : Nat} (h : k < l.length) : (exsA l).getD k [] = exA l[k] := by
  induction l generalizing k with
  | nil => simp at h
  | cons e r ih =>
    rw [exsA_cons]
    cases k with
    | zero => rfl
    | succ k => exact ih (by simpa using h)
theorem exsA_all (l : List Ex) : allLen (exsA l) 8 = True := eq_true (by
  induction l with
  | nil => intro e he; rw [exsA_nil] at he; cases he
  | cons x r ih =>
    intro e he
    rw [exsA_cons] at he
    rcases List.mem_cons.1 he with rfl | he
    · exact exA_len x
    · exact ih e he)
theorem p12 (l : List Ex) (h : ∀ (i : Nat) (hi : i < l.length) (σ : Sg), VCalls Tryz.prog 21 [.agg (exA l[i]), .agg (exA l[i])] σ (fun x σ' => x = .b true ∧ σ' = σ)) (hl : l.length ≤ 100) (σ : Sg) : VCalls Tryz.prog 56 [.sl .any (exsA l), .sl .any (exsA l)] σ (fun x σ' => x = .b true ∧ σ' = σ) := by
  have hn := exsA_len l
  have hall := exsA_all l
  (refine vfun (fun _ => .no) mixed Tryz.func56 (by kernel_rfl) ?_; simp only [bodyOf, Tryz.f56, zp])
  repeat' (first | with_reducible rfl | exact .inr trivial | (with_reducible first | apply And.intro | apply vqx_step | apply vqm_step | refine vkp_free (by decide +kernel) ?_ | intro _) | ((first | (with_reducible first | refine .rs ?_ | refine .ds (by kernel_rfl) ?_ | refine .dg (by kernel_rfl) ?_ | refine .rg ?_ | refine .ite ?_ | refine .ret ?_ | refine .skip ?_ | refine .exit ?_ | refine .scope ?_ | refine .seq (.label ?_) | refine .block ?_ | refine .seq ?_) | (simp (disch := first | assumption | (apply zq; assumption; assumption) | (apply zr; assumption; assumption; (intro e; cases e; done)) | omega) only [w64, w8, tg_eq, Go.V.n1, Go.V.n2, Go.V.nn, zj, zk, zl, zm, zn, zo])); (try simp only [vO, vQ, ↓vP, vE, vS, vB, vL, vF, vM, vN, vbs_full, za, zb, zc, ne_eq, not_false_eq_true, zd, ze, zh, zi, Z3, info3, Z4, info4, Z37, info37, Z35, info35, hn, hall, vT])) | (with_reducible first | refine vfresh_set ?_ | refine vfresh_intro (fun _ _ => ?_) | refine vif_intro (fun _ => ?_) (fun _ => ?_)) | omega | ((with_reducible first | refine vop_at ?_ | refine vops_at ?_ | refine vquiet_at ?_ | refine vmix_at ?_ | refine Holds_at ?_); simp only [vO, vQ, ↓vP, vE, vS, vB, vL, vF, vM, vN, vbs_full, za, zb, zc, ne_eq, not_false_eq_true, zd, ze, zh, zi, Z3, info3, Z4, info4, Z37, info37, Z35, info35, hn, hall, vT]))
  refine VW.loop3 (0 : Nat) () () (fun k _ _ => k ≤ l.length) (fun k _ _ => [(0, .sl .any (exsA l)), (1, .sl .any (exsA l)), (5, .i k)]) (fun _ _ _ => σ) (fun k _ _ => l.length - k) (by omega) (.refl _) ?_ ?_
  · simp only [vO, vQ, ↓vP, vE, vS, vB, vL, vF, vM, vN, vbs_full, za, zb, zc, ne_eq, not_false_eq_true, zd, ze, zh, zi, vT]
    all_goals rfl
  rintro k _ _ hk
  rcases Nat.lt_or_ge k l.length with hk2 | hk2
  · have hg := exsA_get hk2
    have hp := h k hk2
    have hFl := exA_len l[k]
    have hFt := exA_take l[k]
    generalize exA l[k] = E at *
    repeat' (first | with_reducible rfl | exact .inr trivial | (with_reducible first | apply And.intro | apply vqx_step | apply vqm_step | refine vkp_free (by decide +kernel) ?_ | intro _) | ((first | (with_reducible first | refine .rs ?_ | refine .ds (by kernel_rfl) ?_ | refine .dg (by kernel_rfl) ?_ | refine .rg ?_ | refine .ite ?_ | refine .ret ?_ | refine .skip ?_ | refine .exit ?_ | refine .scope ?_ | refine .seq (.label ?_) | refine .block ?_ | refine .seq ?_) | (simp (disch := first | assumption | (apply zq; assumption; assumption) | (apply zr; assumption; assumption; (intro e; cases e; done)) | omega) only [w64, w8, tg_eq, Go.V.n1, Go.V.n2, Go.V.nn, zj, zk, zl, zm, zn, zo]) | ((with_reducible refine (hp _).mono ?_); rintro _ S ⟨rfl, rfl⟩)); (try simp only [vO, vQ, ↓vP, vE, vS, vB, vL, vF, vM, vN, vbs_full, za, zb, zc, ne_eq, not_false_eq_true, zd, ze, zh, zi, Z3, info3, Z4, info4, Z37, info37, Z35, info35, hn, hall, hg, hFl, hFt, vT])) | (with_reducible first | refine vfresh_set ?_ | refine vfresh_intro (fun _ _ => ?_) | refine vif_intro (fun _ => ?_) (fun _ => ?_)) | omega | ((with_reducible first | refine vop_at ?_ | refine vops_at ?_ | refine vquiet_at ?_ | refine vmix_at ?_ | refine Holds_at ?_); simp only [vO, vQ, ↓vP, vE, vS, vB, vL, vF, vM, vN, vbs_full, za, zb, zc, ne_eq, not_false_eq_true, zd, ze, zh, zi, Z3, info3, Z4, info4, Z37, info37, Z35, info35, hn, hall, hg, hFl, hFt, vT]))
    exact ⟨k + 1, (), (), ⟨hk2, by omega⟩, .refl _, rfl⟩
  · repeat' (first | with_reducible rfl | exact .inr trivial | (with_reducible first | apply And.intro | apply vqx_step | apply vqm_step | refine vkp_free (by decide +kernel) ?_ | intro _) | ((first | (with_reducible first | refine .rs ?_ | refine .ds (by kernel_rfl) ?_ | refine .dg (by kernel_rfl) ?_ | refine .rg ?_ | refine .ite ?_ | refine .ret ?_ | refine .skip ?_ | refine .exit ?_ | refine .scope ?_ | refine .seq (.label ?_) | refine .block ?_ | refine .seq ?_) | (simp (disch := first | assumption | (apply zq; assumption; assumption) | (apply zr; assumption; assumption; (intro e; cases e; done)) | omega) only [w64, w8, tg_eq, Go.V.n1, Go.V.n2, Go.V.nn, zj, zk, zl, zm, zn, zo])); (try simp only [vO, vQ, ↓vP, vE, vS, vB, vL, vF, vM, vN, vbs_full, za, zb, zc, ne_eq, not_false_eq_true, zd, ze, zh, zi, Z3, info3, Z4, info4, Z37, info37, Z35, info35, hn, hall, vT])) | (with_reducible first | refine vfresh_set ?_ | refine vfresh_intro (fun _ _ => ?_) | refine vif_intro (fun _ => ?_) (fun _ => ?_)) | omega | ((with_reducible first | refine vop_at ?_ | refine vops_at ?_ | refine vquiet_at ?_ | refine vmix_at ?_ | refine Holds_at ?_); simp only [vO, vQ, ↓vP, vE, vS, vB, vL, vF, vM, vN, vbs_full, za, zb, zc, ne_eq, not_false_eq_true, zd, ze, zh, zi, Z3, info3, Z4, info4, Z37, info37, Z35, info35, hn, hall, vT]))
    exact ⟨_, .refl _, rfl⟩
theorem eq24 {d : TypeDesc} {a b a' b' : Int} {s t : ByteArray} : veqT Tryz.prog 34 d (.agg [.i a, .i b, .s s]) (.agg [.i a', .i b', .s t]) = some (decide (a = a') && (decide (b = b') && (sEq s t && true))) := by
  rw [veqT_agg (by kernel_rfl), veqIn_struct (d := 9999) Z34 (by kernel_rfl)]
  exact veqFs_cons (by decide) (partO_one info3 Z3 rfl) (partO_one info3 Z3 rfl) (veqIn_int Z3) (veqFs_cons (by decide) (partO_one info3 Z3 rfl) (partO_one info3 Z3 rfl) (veqIn_int Z3) (veqFs_cons (by decide) (partO_one info9 Z9 rfl) (partO_one info9 Z9 rfl) (veqIn_str Z9) rfl))
theorem p7w (k op : Int) (t n : By) (v : Vl) (l : List Ex) (h12 : ∀ σ, VCalls Tryz.prog 56 [.sl .any (exsA l), .sl .any (exsA l)] σ (fun x σ' => x = .b true ∧ σ' = σ)) (σ : Sg) : VCalls Tryz.prog 21 [.agg (exA (.mk k op t n v l)), .agg (exA (.mk k op t n v l))] σ (fun x σ' => x = .b true ∧ σ' = σ) := by
  rw [exA_mk]
  have he : ∀ d, veqT Tryz.prog 34 d (.agg [.i v.1, .i v.2.1, .s (bs v.2.2)]) (.agg [.i v.1, .i v.2.1, .s (bs v.2.2)]) = some true := fun d => by rw [eq24]; simp [sEq]
  generalize exsA l = L at *
  generalize v.1 = va at *
  generalize v.2.1 = vb at *
  generalize v.2.2 = vc at *
  (refine vfun (fun _ => .ro) mixed Tryz.func21 (by kernel_rfl) ?_; simp only [bodyOf, Tryz.f21, zp])
  repeat' (first | with_reducible rfl | exact .inr trivial | (with_reducible first | apply And.intro | apply vqx_step | apply vqm_step | refine vkp_free (by decide +kernel) ?_ | intro _) | ((first | (with_reducible first | refine .rs ?_ | refine .ds (by kernel_rfl) ?_ | refine .dg (by kernel_rfl) ?_ | refine .rg ?_ | refine .ite ?_ | refine .ret ?_ | refine .skip ?_ | refine .exit ?_ | refine .scope ?_ | refine .seq (.label ?_) | refine .block ?_ | refine .seq ?_) | (simp (disch := first | assumption | (apply zq; assumption; assumption) | (apply zr; assumption; assumption; (intro e; cases e; done)) | omega) only [w64, w8, tg_eq, Go.V.n1, Go.V.n2, Go.V.nn, zj, zk, zl, zm, zn, zo]) | ((with_reducible refine (h12 _).mono ?_); rintro _ S ⟨rfl, rfl⟩)); (try simp only [vO, vQ, ↓vP, vE, vS, vB, vL, vF, vM, vN, vbs_full, za, zb, zc, ne_eq, not_false_eq_true, zd, ze, zh, zi, Z3, info3, Z4, info4, Z9, info9, Z34, info34, Z37, info37, Z35, info35, he, vT])) | (with_reducible first | refine vfresh_set ?_ | refine vfresh_intro (fun _ _ => ?_) | refine vif_intro (fun _ => ?_) (fun _ => ?_)) | omega | ((with_reducible first | refine vop_at ?_ | refine vops_at ?_ | refine vquiet_at ?_ | refine vmix_at ?_ | refine Holds_at ?_); simp only [vO, vQ, ↓vP, vE, vS, vB, vL, vF, vM, vN, vbs_full, za, zb, zc, ne_eq, not_false_eq_true, zd, ze, zh, zi, Z3, info3, Z4, info4, Z9, info9, Z34, info34, Z37, info37, Z35, info35, he, vT]))
  exact ⟨_, .refl _, rfl⟩
theorem p7 {e : Ex} (h : Sm e) : ∀ σ, VCalls Tryz.prog 21 [.agg (exA e), .agg (exA e)] σ (fun x σ' => x = .b true ∧ σ' = σ) := by
  induction h with
  | leaf k op t n v => exact fun σ => p7w k op t n v [] (p12 [] (fun i hi => by simp at hi) (by simp)) σ
  | one k op t n v e h ih =>
    exact fun σ => p7w k op t n v [e] (p12 [e] (fun i hi => by
      obtain rfl : i = 0 := by simp at hi; omega
      exact ih) (by simp)) σ
  | two k op t n v e f h h2 ih ih2 =>
    exact fun σ => p7w k op t n v [e, f] (p12 [e, f] (fun i hi => by
      match i, hi with
      | 0, _ => exact ih
      | 1, _ => exact ih2) (by simp)) σ
end Go.Proofs.YtjopblbpnedjoaaGreatDoor

set_option linter.unusedVariables false
namespace Go.Parse
open Go.V Go.Lex Go.Proofs.YtjopblbpnedjoaaGreatDoor
def tq (x y : Tk) : Prop := x.1 = y.1 ∧ x.2.1 = y.2.1 ∧ x.2.2.1 = y.2.2.1
inductive Tq : List Tk → List Tk → Prop
  | nil : Tq [] []
  | cons (x y : Tk) (i j : List Tk) (h : tq x y) (t : Tq i j) : Tq (x :: i) (y :: j)
structure Sim (δ : Int) (w : By) (s s' : Rd) : Prop where
  c : s.c = 0
  c' : s'.c = 0
  d : s'.d = s.d + δ
  wf : WF s.l
  wf' : WF s'.l
  l : ∃ i j e z r, s.l = i ++ [e] ∧ s'.l = j ++ z :: r ∧ Tq i j ∧ e.1 = 6 ∧ z.1 = 5 ∧ z.2.1 = w ∧ (∀ x ∈ i, x.1 ≠ 6) ∧ r.length = 1
variable {δ : Int} {w : By}
theorem takeWhile_all {α : Type} (p : α → Bool) : ∀ (l : List α), (∀ x ∈ l, p x = true) → l.takeWhile p = l
  | [], _ => rfl
  | x :: l, h => by
    rw [List.takeWhile_cons, if_pos (h x (by simp)), takeWhile_all p l (fun y hy => h y (by simp [hy]))]
theorem Sim.is {s s' : Rd} (h : Sim δ w s s') (ws : List By) (hw : w ∉ ws) : s'.is ws = s.is ws := by
  obtain ⟨i, j, e, z, r, h1, h2, h3, h4, h5, h6⟩ := h.l
  have e1 := h.c
  have e2 := h.c'
  unfold Rd.is
  cases h3 with
  | nil =>
    have g1 : hd s.l = e := by rw [h1]; rfl
    have g2 : hd s'.l = z := by rw [h2]; rfl
    rw [g1, g2, if_pos (c := s.c ≠ 0 ∨ _) (.inr ⟨by omega, by omega⟩), if_neg (by omega), h6.1, if_neg]
    intro hlt
    have hall : ∀ x ∈ ws, (x != w) = true := fun x hx => by
      simp only [bne_iff_ne, ne_eq]
      exact fun e => hw (e ▸ hx)
    have : idx w ws = ws.length := by
      unfold idx
      rw [takeWhile_all _ ws hall]
    omega
  | cons x y i j hxy ht =>
    obtain ⟨q1, q2, q3⟩ := hxy
    have g1 : hd s.l = x := by rw [h1]; rfl
    have g2 : hd s'.l = y := by rw [h2]; rfl
    rw [g1, g2, q1, q2, e1, e2]
theorem Sim.next {s s' : Rd} (h : Sim δ w s s') (hk : (hd s.l).1 ≠ 6) : Sim δ w s.next s'.next ∧ tq (hd s.l) (hd s'.l) := by
  obtain ⟨i, j, e, z, r, h1, h2, h3, h4, h5, h6⟩ := h.l
  cases h3 with
  | nil =>
    have g1 : hd s.l = e := by rw [h1]; rfl
    rw [g1] at hk
    exact absurd h4 hk
  | cons x y i j hxy ht =>
    have g1 : hd s.l = x := by rw [h1]; rfl
    have g2 : hd s'.l = y := by rw [h2]; rfl
    have hk' : (hd s'.l).1 ≠ 6 := by rw [g2, ← hxy.1, ← g1]; exact hk
    refine ⟨⟨h.c, h.c', h.d, (h.wf.tail hk).1, (h.wf'.tail hk').1, i, j, e, z, r, ?_, ?_, ht, h4, h5, h6.1, fun x hx => h6.2.1 x (List.mem_cons_of_mem _ hx), h6.2.2⟩, by rw [g1, g2]; exact hxy⟩
    · show s.l.tail = _
      rw [h1]; rfl
    · show s'.l.tail = _
      rw [h2]; rfl
theorem Sim.nextIs {s s' : Rd} (h : Sim δ w s s') {ws : List By} (hk : 0 ≤ s.is ws) : Sim δ w s.next s'.next := (h.next (by obtain ⟨_, h2, _⟩ := is_pos hk; omega)).1
theorem Sim.has {s s' : Rd} (h : Sim δ w s s') {v : By} (hv : s.has v = true) : s'.has v = true ∧ Sim δ w s.next s'.next := by
  have hk : 0 ≤ s.is [v] := of_decide_eq_true hv
  obtain ⟨h1, h2, h3, _⟩ := is_pos hk
  obtain ⟨g1, g2, g3, g4⟩ := h.next (by omega)
  refine ⟨decide_eq_true ?_, g1⟩
  unfold Rd.is
  rw [if_neg (by rw [h.c', ← g2]; simp only [ne_eq, not_true_eq_false, false_or]; omega), ← g3, if_pos h3]
  omega
theorem fail_c {s : Rd} {e : Int} (he : e ≠ 0) : (s.fail e).c ≠ 0 := by
  unfold Rd.fail
  split
  · exact he
  · assumption
theorem Sim.must {s s' : Rd} : ∀ (ws : List By) {s s' : Rd}, Sim δ w s s' → (s.must ws).c = 0 → Sim δ w (s.must ws) (s'.must ws)
  | [], s, s', h, _ => h
  | v :: ws, s, s', h, hc => by
    unfold Rd.must at hc ⊢
    by_cases hv : s.has v = true
    · obtain ⟨g1, g2⟩ := h.has hv
      rw [if_pos hv] at hc ⊢
      rw [if_pos g1]
      exact Sim.must (s := s) (s' := s') ws g2 hc
    · rw [if_neg hv] at hc
      exact absurd hc (by
        have o := ok_fail h.wf 4
        have hne := fail_c (s := s) (e := 4) (by decide)
        rw [((ok_must ws _ o.wf).c hne).1]
        exact hne)
theorem Sim.take {s s' : Rd} (h : Sim δ w s s') {k : Nat} (hk : k ≠ 6) (hc : (s.take k).c = 0) : Sim δ w (s.take k) (s'.take k) ∧ (s'.tok k).2.1 = (s.tok k).2.1 ∧ (s'.tok k).2.2.1 = (s.tok k).2.2.1 := by
  by_cases ht : s.takes k
  · obtain ⟨g1, g2, g3, g4⟩ := h.next (by rw [ht.2]; exact hk)
    have ht' : s'.takes k := ⟨h.c', by rw [← g2]; exact ht.2⟩
    unfold Rd.take Rd.tok
    rw [if_pos ht, if_pos ht', if_pos ht, if_pos ht']
    exact ⟨g1, g3.symm, g4.symm⟩
  · unfold Rd.take at hc
    rw [if_neg ht] at hc
    exact absurd hc (fail_c (by decide))
variable {d : Int}
theorem lit3 {s : Rd} (hc : s.c = 0) (h3 : (hd s.l).1 = 3) : s.lit = (((1, ((hd s.l).2.2.1 : Nat), []) : Vl), true, s.next) := by
  unfold Rd.lit
  rw [if_neg (by rw [hc]; simp), if_pos h3]
theorem lit4 {s : Rd} (hc : s.c = 0) (h3 : (hd s.l).1 ≠ 3) (h4 : (hd s.l).1 = 4) : s.lit = (((2, 0, (hd s.l).2.1) : Vl), true, s.next) := by
  unfold Rd.lit
  rw [if_neg (by rw [hc]; simp), if_neg h3, if_pos h4]
theorem lite {s : Rd} (hc : s.c = 0) (h3 : (hd s.l).1 ≠ 3) (h4 : (hd s.l).1 ≠ 4) (h : s.is [wMinus] < 0 ∨ (hd s.next.l).1 ≠ 3) : s.lit = (v0, s.has wNull, s.pass [wNull]) := by
  have e1 : s.l.getD 1 (0, [], 0, 0) = hd s.next.l := by
    unfold hd Rd.next
    rw [List.getD_eq_getElem?_getD, List.getD_eq_getElem?_getD, List.getElem?_tail]
  unfold Rd.lit
  rw [if_neg (by rw [hc]; simp), if_neg h3, if_neg h4, e1, if_pos h]
theorem litm {s : Rd} (hc : s.c = 0) (h3 : (hd s.l).1 ≠ 3) (h4 : (hd s.l).1 ≠ 4) (h : ¬ (s.is [wMinus] < 0 ∨ (hd s.next.l).1 ≠ 3)) : s.lit = ((1, IntKind.i64.wrap (0 - ((hd s.next.l).2.2.1 : Int)), []), true, s.next.next) := by
  have e1 : s.l.getD 1 (0, [], 0, 0) = hd s.next.l := by
    unfold hd Rd.next
    rw [List.getD_eq_getElem?_getD, List.getD_eq_getElem?_getD, List.getElem?_tail]
  unfold Rd.lit
  rw [if_neg (by rw [hc]; simp), if_neg h3, if_neg h4, e1, if_neg h]
theorem Sim.end6 {s s' : Rd} (h : Sim δ w s s') (h6 : (hd s.l).1 = 6) : (hd s'.l).1 = 5 ∨ (hd s'.l).1 = 6 := by
  obtain ⟨i, j, e, z, r, g1, g2, g3, g4, g5, g6⟩ := h.l
  cases g3 with
  | nil => rw [g2]; exact .inl g5
  | cons x y i j hxy ht =>
    have a1 : hd s.l = x := by rw [g1]; rfl
    have a2 : hd s'.l = y := by rw [g2]; rfl
    rw [a2, ← hxy.1, ← a1]
    exact .inr h6
theorem Sim.lit {s s' : Rd} (h : Sim δ w s s') (h1 : w ≠ wMinus) (h2 : w ≠ wNull) : s'.lit.1 = s.lit.1 ∧ s'.lit.2.1 = s.lit.2.1 ∧ Sim δ w s.lit.2.2 s'.lit.2.2 := by
  have i1 := h.is [wMinus] (by simpa using h1)
  have i2 := h.is [wNull] (by simpa using h2)
  have hnull : s'.has wNull = s.has wNull ∧ Sim δ w (s.pass [wNull]) (s'.pass [wNull]) := by
    refine ⟨by unfold Rd.has; rw [i2], ?_⟩
    unfold Rd.pass
    rw [i2]
    split
    · exact h.nextIs ‹_›
    · exact h
  have hc := h.c
  have hc' := h.c'
  by_cases h6 : (hd s.l).1 = 6
  · have h5 := h.end6 h6
    have hm : s.is [wMinus] < 0 := by
      rcases Int.lt_or_le (s.is [wMinus]) 0 with h' | h'
      · exact h'
      · obtain ⟨_, q, _⟩ := is_pos h'; omega
    rw [lite hc (by omega) (by omega) (.inl hm), lite hc' (by omega) (by omega) (.inl (by rw [i1]; exact hm))]
    exact ⟨rfl, hnull.1, hnull.2⟩
  · obtain ⟨g1, g2, g3, g4⟩ := h.next h6
    by_cases h3 : (hd s.l).1 = 3
    · rw [lit3 hc h3, lit3 hc' (by omega)]
      exact ⟨by rw [g4], rfl, g1⟩
    · by_cases h4 : (hd s.l).1 = 4
      · rw [lit4 hc h3 h4, lit4 hc' (by omega) (by omega)]
        exact ⟨by rw [g3], rfl, g1⟩
      · by_cases hm : s.is [wMinus] < 0
        · rw [lite hc h3 h4 (.inl hm), lite hc' (by omega) (by omega) (.inl (by omega))]
          exact ⟨rfl, hnull.1, hnull.2⟩
        · by_cases hn : (hd s.next.l).1 = 3
          · obtain ⟨k1, k2, k3, k4⟩ := g1.next (by omega)
            rw [litm hc h3 h4 (by omega), litm hc' (by omega) (by omega) (by omega)]
            exact ⟨by rw [k4], rfl, k1⟩
          · have hn' : (hd s'.next.l).1 ≠ 3 := by
              by_cases h66 : (hd s.next.l).1 = 6
              · have := g1.end6 h66; omega
              · rw [← (g1.next h66).2.1]; exact hn
            rw [lite hc h3 h4 (.inr hn), lite hc' (by omega) (by omega) (.inr hn')]
            exact ⟨rfl, hnull.1, hnull.2⟩
end Go.Parse
