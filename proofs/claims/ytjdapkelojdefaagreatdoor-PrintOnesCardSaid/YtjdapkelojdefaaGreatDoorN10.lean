/- Part 10 of the proof: B10, B11, B12, B13, B14, B20, G5, G11, B21, B22, B23, B24, B25, B26, B27, B28, B29, B30, S1, B15, B16, B17, B18, B19, B31, E2, V17, V20, V21, E3. -/
import Derived.Test.YtjdapkelojdefaaGreatDoorN7
import Derived.Test.YtjdapkelojdefaaGreatDoorN9
import Derived.Test.YtjdapkelojdefaaGreatDoorN8
import Derived.Test.YtjdapkelojdefaaGreatDoorN4
import Derived.Lib.Bytealg
import Derived.Lib.MakeNoZero
import Derived.Test.YtjdapkelojdefaaGreatDoorN6

set_option linter.all false
set_option maxRecDepth 100000
set_option maxHeartbeats 400000
open Go.V.Sg renaming set_same → zm, set_ne → zn, set_ne' → zo, del_ne → zp, del_ne' → zq
open Option renaming getD_some → zr
open Go.Cert renaming ne_of2 → zv, ne_ob → zw, lk → zx
open Go.Proofs.Tryz renaming underlying3 → Z3, underlying26 → Z26
set_option linter.unusedSimpArgs false
set_option linter.unusedVariables false
namespace Go.Proofs.YtjdapkelojdefaaGreatDoor
open Go Go.V Go.Lex Go.Parse
theorem q74 (D : Dp) (d : Int) (hB : Reads 197 (facL D) d) (hN : Nice (facL D)) : Reads 188 (termL D) d := by
  intro ρ s σ hρ hl hs
  subst hs
  refine lose_ex ?_
  obtain ⟨z27, h27, hz27⟩ := zero27
  simp only [ex0, exK_mk, exsA_nil] at hz27
  have h18 : ∀ S es, S ρ = some (rdA s) → es = strs [[42], [47], [37]] → VCalls Tryz.prog 83 [.ref ρ 0, .bm 197 [.ref ρ 0], .i 11, .sl .full es] S _ := fun S es hS he => p18 ρ s S 197 (facL D) 11 .full [[42], [47], [37]] es he hB hN hS hl (by decide) (by decide)
  have e : termL D s = row (facL D) 11 [[42], [47], [37]] s := rfl
  rw [e]
  have hFl := exA_len (row (facL D) 11 [[42], [47], [37]] s).1
  have hFo := exA_one (row (facL D) 11 [[42], [47], [37]] s).1
  have hFt := exA_take (row (facL D) 11 [[42], [47], [37]] s).1
  have hFd := exA_drop (row (facL D) 11 [[42], [47], [37]] s).1
  generalize (row (facL D) 11 [[42], [47], [37]] s).1 = e at *
  generalize (row (facL D) 11 [[42], [47], [37]] s).2 = s3 at *
  (refine vfun (fun _ => .no) mixed Tryz.func188 (by kernel_rfl) ?_; simp only [bodyOf, Tryz.f188, zr])
  repeat' (first | with_reducible rfl | exact trivial | exact .inr trivial | (with_reducible first | apply And.intro | apply vqx_step | apply vqm_step | refine vkp_free (by decide +kernel) ?_ | intro _) | refine zaW (j4 ui3 ui4 Z26 (j9 h27 hz27 ui24 ui9 ui75 hFl hFo hFt hFd)) ?_ | ((first | ((with_reducible refine (h18 _ _ (by first | assumption | ((simp (disch := first | assumption | (apply zv; assumption; assumption) | (apply zw; assumption; assumption; (intro e; cases e; done)) | omega) only [zm, zn, zo, zp, zq]); first | done | rfl | assumption)) (by with_unfolding_all rfl)).mono ?_); rintro _ S ⟨rfl, rfl⟩) | (refine vlo_app zx ?_) | (refine vst_app zx ?_)); (try refine zs (j4 ui3 ui4 Z26 (j9 h27 hz27 ui24 ui9 ui75 hFl hFo hFt hFd)) ?_)) | (with_reducible first | refine vfresh_set ?_ | refine vfresh_intro (fun _ _ => ?_) | refine vif_intro (fun _ => ?_) (fun _ => ?_)) | omega | refine zt (j4 ui3 ui4 Z26 (j9 h27 hz27 ui24 ui9 ui75 hFl hFo hFt hFd)) ?_ | fail)
  all_goals (refine ⟨_, .refl _, .any, by rw [exK_any], ?_⟩; (first | exact Sg.sub.refl _ | ((repeat (first | exact Sg.sub.refl _ | refine Sg.sub.set_both ?_ | refine Sg.sub.set_fresh ?_ (by first | assumption | exact Sg.set_none (by assumption) (by first | assumption | (apply Go.Cert.ne_of2a; assumption; assumption))))); done) | (intro y p hy; simp only [Sg.set_apply, Sg.del_apply] at hy ⊢; grind)))
theorem q71 (D : Dp) (d : Int) (hB : Reads 188 (termL D) d) (hN : Nice (termL D)) : Reads 180 (sumL D) d := by
  intro ρ s σ hρ hl hs
  subst hs
  refine lose_ex ?_
  obtain ⟨z27, h27, hz27⟩ := zero27
  simp only [ex0, exK_mk, exsA_nil] at hz27
  have h18 : ∀ S es, S ρ = some (rdA s) → es = strs [[43], [45]] → VCalls Tryz.prog 83 [.ref ρ 0, .bm 188 [.ref ρ 0], .i 9, .sl .full es] S _ := fun S es hS he => p18 ρ s S 188 (termL D) 9 .full [[43], [45]] es he hB hN hS hl (by decide) (by decide)
  have e : sumL D s = row (termL D) 9 [[43], [45]] s := rfl
  rw [e]
  have hFl := exA_len (row (termL D) 9 [[43], [45]] s).1
  have hFo := exA_one (row (termL D) 9 [[43], [45]] s).1
  have hFt := exA_take (row (termL D) 9 [[43], [45]] s).1
  have hFd := exA_drop (row (termL D) 9 [[43], [45]] s).1
  generalize (row (termL D) 9 [[43], [45]] s).1 = e at *
  generalize (row (termL D) 9 [[43], [45]] s).2 = s3 at *
  (refine vfun (fun _ => .no) mixed Tryz.func180 (by kernel_rfl) ?_; simp only [bodyOf, Tryz.f180, zr])
  repeat' (first | with_reducible rfl | exact trivial | exact .inr trivial | (with_reducible first | apply And.intro | apply vqx_step | apply vqm_step | refine vkp_free (by decide +kernel) ?_ | intro _) | refine zaW (j4 ui3 ui4 Z26 (j9 h27 hz27 ui24 ui9 ui75 hFl hFo hFt hFd)) ?_ | ((first | ((with_reducible refine (h18 _ _ (by first | assumption | ((simp (disch := first | assumption | (apply zv; assumption; assumption) | (apply zw; assumption; assumption; (intro e; cases e; done)) | omega) only [zm, zn, zo, zp, zq]); first | done | rfl | assumption)) (by with_unfolding_all rfl)).mono ?_); rintro _ S ⟨rfl, rfl⟩) | (refine vlo_app zx ?_) | (refine vst_app zx ?_)); (try refine zs (j4 ui3 ui4 Z26 (j9 h27 hz27 ui24 ui9 ui75 hFl hFo hFt hFd)) ?_)) | (with_reducible first | refine vfresh_set ?_ | refine vfresh_intro (fun _ _ => ?_) | refine vif_intro (fun _ => ?_) (fun _ => ?_)) | omega | refine zt (j4 ui3 ui4 Z26 (j9 h27 hz27 ui24 ui9 ui75 hFl hFo hFt hFd)) ?_ | fail)
  all_goals (refine ⟨_, .refl _, .any, by rw [exK_any], ?_⟩; (first | exact Sg.sub.refl _ | ((repeat (first | exact Sg.sub.refl _ | refine Sg.sub.set_both ?_ | refine Sg.sub.set_fresh ?_ (by first | assumption | exact Sg.set_none (by assumption) (by first | assumption | (apply Go.Cert.ne_of2a; assumption; assumption))))); done) | (intro y p hy; simp only [Sg.set_apply, Sg.del_apply] at hy ⊢; grind)))
theorem q19 (D : Dp) (d : Int) (hB : Reads 135 (notL D) d) (hN : Nice (notL D)) : Reads 84 (andL D) d := by
  intro ρ s σ hρ hl hs
  subst hs
  refine lose_ex ?_
  obtain ⟨z27, h27, hz27⟩ := zero27
  simp only [ex0, exK_mk, exsA_nil] at hz27
  have h18 : ∀ S es, S ρ = some (rdA s) → es = strs [[65, 78, 68]] → VCalls Tryz.prog 83 [.ref ρ 0, .bm 135 [.ref ρ 0], .i 2, .sl .full es] S _ := fun S es hS he => p18 ρ s S 135 (notL D) 2 .full [[65, 78, 68]] es he hB hN hS hl (by decide) (by decide)
  have e : andL D s = row (notL D) 2 [[65, 78, 68]] s := rfl
  rw [e]
  have hFl := exA_len (row (notL D) 2 [[65, 78, 68]] s).1
  have hFo := exA_one (row (notL D) 2 [[65, 78, 68]] s).1
  have hFt := exA_take (row (notL D) 2 [[65, 78, 68]] s).1
  have hFd := exA_drop (row (notL D) 2 [[65, 78, 68]] s).1
  generalize (row (notL D) 2 [[65, 78, 68]] s).1 = e at *
  generalize (row (notL D) 2 [[65, 78, 68]] s).2 = s3 at *
  (refine vfun (fun _ => .no) mixed Tryz.func84 (by kernel_rfl) ?_; simp only [bodyOf, Tryz.f84, zr])
  repeat' (first | with_reducible rfl | exact trivial | exact .inr trivial | (with_reducible first | apply And.intro | apply vqx_step | apply vqm_step | refine vkp_free (by decide +kernel) ?_ | intro _) | refine zaW (j4 ui3 ui4 Z26 (j9 h27 hz27 ui24 ui9 ui75 hFl hFo hFt hFd)) ?_ | ((first | ((with_reducible refine (h18 _ _ (by first | assumption | ((simp (disch := first | assumption | (apply zv; assumption; assumption) | (apply zw; assumption; assumption; (intro e; cases e; done)) | omega) only [zm, zn, zo, zp, zq]); first | done | rfl | assumption)) (by with_unfolding_all rfl)).mono ?_); rintro _ S ⟨rfl, rfl⟩) | (refine vlo_app zx ?_) | (refine vst_app zx ?_)); (try refine zs (j4 ui3 ui4 Z26 (j9 h27 hz27 ui24 ui9 ui75 hFl hFo hFt hFd)) ?_)) | (with_reducible first | refine vfresh_set ?_ | refine vfresh_intro (fun _ _ => ?_) | refine vif_intro (fun _ => ?_) (fun _ => ?_)) | omega | refine zt (j4 ui3 ui4 Z26 (j9 h27 hz27 ui24 ui9 ui75 hFl hFo hFt hFd)) ?_ | fail)
  all_goals (refine ⟨_, .refl _, .any, by rw [exK_any], ?_⟩; (first | exact Sg.sub.refl _ | ((repeat (first | exact Sg.sub.refl _ | refine Sg.sub.set_both ?_ | refine Sg.sub.set_fresh ?_ (by first | assumption | exact Sg.set_none (by assumption) (by first | assumption | (apply Go.Cert.ne_of2a; assumption; assumption))))); done) | (intro y p hy; simp only [Sg.set_apply, Sg.del_apply] at hy ⊢; grind)))
theorem q10 (D : Dp) (d : Int) (hB : Reads 84 (andL D) d) (hN : Nice (andL D)) : Reads 35 (exL D) d := by
  intro ρ s σ hρ hl hs
  subst hs
  refine lose_ex ?_
  obtain ⟨z27, h27, hz27⟩ := zero27
  simp only [ex0, exK_mk, exsA_nil] at hz27
  have h18 : ∀ S es, S ρ = some (rdA s) → es = strs [[79, 82]] → VCalls Tryz.prog 83 [.ref ρ 0, .bm 84 [.ref ρ 0], .i 1, .sl .full es] S _ := fun S es hS he => p18 ρ s S 84 (andL D) 1 .full [[79, 82]] es he hB hN hS hl (by decide) (by decide)
  have e : exL D s = row (andL D) 1 [[79, 82]] s := rfl
  rw [e]
  have hFl := exA_len (row (andL D) 1 [[79, 82]] s).1
  have hFo := exA_one (row (andL D) 1 [[79, 82]] s).1
  have hFt := exA_take (row (andL D) 1 [[79, 82]] s).1
  have hFd := exA_drop (row (andL D) 1 [[79, 82]] s).1
  generalize (row (andL D) 1 [[79, 82]] s).1 = e at *
  generalize (row (andL D) 1 [[79, 82]] s).2 = s3 at *
  (refine vfun (fun _ => .no) mixed Tryz.func35 (by kernel_rfl) ?_; simp only [bodyOf, Tryz.f35, zr])
  repeat' (first | with_reducible rfl | exact trivial | exact .inr trivial | (with_reducible first | apply And.intro | apply vqx_step | apply vqm_step | refine vkp_free (by decide +kernel) ?_ | intro _) | refine zaW (j4 ui3 ui4 Z26 (j9 h27 hz27 ui24 ui9 ui75 hFl hFo hFt hFd)) ?_ | ((first | ((with_reducible refine (h18 _ _ (by first | assumption | ((simp (disch := first | assumption | (apply zv; assumption; assumption) | (apply zw; assumption; assumption; (intro e; cases e; done)) | omega) only [zm, zn, zo, zp, zq]); first | done | rfl | assumption)) (by with_unfolding_all rfl)).mono ?_); rintro _ S ⟨rfl, rfl⟩) | (refine vlo_app zx ?_) | (refine vst_app zx ?_)); (try refine zs (j4 ui3 ui4 Z26 (j9 h27 hz27 ui24 ui9 ui75 hFl hFo hFt hFd)) ?_)) | (with_reducible first | refine vfresh_set ?_ | refine vfresh_intro (fun _ _ => ?_) | refine vif_intro (fun _ => ?_) (fun _ => ?_)) | omega | refine zt (j4 ui3 ui4 Z26 (j9 h27 hz27 ui24 ui9 ui75 hFl hFo hFt hFd)) ?_ | fail)
  all_goals (refine ⟨_, .refl _, .any, by rw [exK_any], ?_⟩; (first | exact Sg.sub.refl _ | ((repeat (first | exact Sg.sub.refl _ | refine Sg.sub.set_both ?_ | refine Sg.sub.set_fresh ?_ (by first | assumption | exact Sg.set_none (by assumption) (by first | assumption | (apply Go.Cert.ne_of2a; assumption; assumption))))); done) | (intro y p hy; simp only [Sg.set_apply, Sg.del_apply] at hy ⊢; grind)))
end Go.Proofs.YtjdapkelojdefaaGreatDoor

set_option linter.unusedSimpArgs false
set_option linter.unusedVariables false
namespace Go.Proofs.YtjdapkelojdefaaGreatDoor
open Go Go.V Go.Lex Go.Parse
theorem q64 (D : Dp) (d : Int) (hB : Reads 180 (sumL D) d) (hD : D.Nice) : Reads 170 (testL D) d := by
  intro ρ s σ hρ hl hs
  subst hs
  refine lose_ex ?_
  obtain ⟨z27, h27, hz27⟩ := zero27
  simp only [ex0, exK_mk, exsA_nil] at hz27
  have hN := nice_sum hD
  have o1 := hN s hl
  have h71 := fun S hS => hB ρ s S hS hl rfl
  have hlt := is_lt (sumL D s).2 tests
  simp only [List.length_cons, List.length_nil] at hlt
  have h22 := fun S hS es he => p22 ρ (sumL D s).2 .full tests es S he hS o1.wf.pos (by simp)
  rw [pass_val] at h22
  have hFl := exA_len (sumL D s).1
  have hFo := exA_one (sumL D s).1
  have hFt := exA_take (sumL D s).1
  have hFd := exA_drop (sumL D s).1
  unfold testL
  by_cases h0 : (sumL D s).2.is tests < 0
  · rw [if_pos h0]
    rw [if_neg (by omega)] at h22
    generalize (sumL D s).2.is tests = k at *
    generalize (sumL D s).1 = e at *
    generalize (sumL D s).2 = s1 at *
    (refine vfun (fun _ => .no) mixed Tryz.func170 (by kernel_rfl) ?_; simp only [bodyOf, Tryz.f170, zr])
    repeat' (first | with_reducible rfl | exact trivial | exact .inr trivial | (with_reducible first | apply And.intro | apply vqx_step | apply vqm_step | refine vkp_free (by decide +kernel) ?_ | intro _) | refine zaW (j4 ui3 ui4 Z26 (j9 h27 hz27 ui24 ui9 ui75 hFl hFo hFt hFd)) ?_ | ((first | ((with_reducible refine (h71 _ (by first | assumption | ((simp (disch := first | assumption | (apply zv; assumption; assumption) | (apply zw; assumption; assumption; (intro e; cases e; done)) | omega) only [zm, zn, zo, zp, zq]); first | done | rfl | assumption))).mono ?_); rintro _ S ⟨rfl, rfl⟩) | ((with_reducible refine (h22 _ (by first | assumption | ((simp (disch := first | assumption | (apply zv; assumption; assumption) | (apply zw; assumption; assumption; (intro e; cases e; done)) | omega) only [zm, zn, zo, zp, zq]); first | done | rfl | assumption)) _ (by with_unfolding_all rfl)).mono ?_); rintro _ S ⟨rfl, rfl⟩) | (refine vlo_app zx ?_) | (refine vst_app zx ?_)); (try refine zs (j4 ui3 ui4 Z26 (j9 h27 hz27 ui24 ui9 ui75 hFl hFo hFt hFd)) ?_)) | (with_reducible first | refine vfresh_set ?_ | refine vfresh_intro (fun _ _ => ?_) | refine vif_intro (fun _ => ?_) (fun _ => ?_)) | omega | refine zt (j4 ui3 ui4 Z26 (j9 h27 hz27 ui24 ui9 ui75 hFl hFo hFt hFd)) ?_ | fail)
    all_goals (refine ⟨_, .refl _, .any, by rw [exK_any], ?_⟩; (first | exact Sg.sub.refl _ | ((repeat (first | exact Sg.sub.refl _ | refine Sg.sub.set_both ?_ | refine Sg.sub.set_fresh ?_ (by first | assumption | exact Sg.set_none (by assumption) (by first | assumption | (apply Go.Cert.ne_of2a; assumption; assumption))))); done) | (intro y p hy; simp only [Sg.set_apply, Sg.del_apply] at hy ⊢; grind)))
  · rw [if_neg h0]
    rw [if_pos (by omega)] at h22
    have o2 := ok_is (ws := tests) o1.wf (by omega)
    by_cases h8 : 3 + (sumL D s).2.is tests ≤ 8
    · rw [if_pos h8]
      have h71b := fun S hS => hB ρ (sumL D s).2.next S hS o2.wf (by show (sumL D s).2.d = s.d; exact o1.d)
      have hFl2 := exA_len (sumL D (sumL D s).2.next).1
      have hFo2 := exA_one (sumL D (sumL D s).2.next).1
      have hFt2 := exA_take (sumL D (sumL D s).2.next).1
      have hFd2 := exA_drop (sumL D (sumL D s).2.next).1
      generalize (sumL D (sumL D s).2.next).1 = e2 at *
      generalize (sumL D (sumL D s).2.next).2 = s3 at *
      generalize (sumL D s).2.next = s2 at *
      generalize (sumL D s).2.is tests = k at *
      generalize (sumL D s).1 = e at *
      generalize (sumL D s).2 = s1 at *
      simp only [exK_mk, opA]
      (refine vfun (fun _ => .no) mixed Tryz.func170 (by kernel_rfl) ?_; simp only [bodyOf, Tryz.f170, zr])
      repeat' (first | with_reducible rfl | exact trivial | exact .inr trivial | (with_reducible first | apply And.intro | apply vqx_step | apply vqm_step | refine vkp_free (by decide +kernel) ?_ | intro _) | refine zaW (j9 ui3 ui4 Z26 h27 hz27 ui24 ui23 ui9 (j9 ui75 hFl hFo hFt hFd hFl2 hFo2 hFt2 hFd2)) ?_ | ((first | ((with_reducible refine (h71 _ (by first | assumption | ((simp (disch := first | assumption | (apply zv; assumption; assumption) | (apply zw; assumption; assumption; (intro e; cases e; done)) | omega) only [zm, zn, zo, zp, zq]); first | done | rfl | assumption))).mono ?_); rintro _ S ⟨rfl, rfl⟩) | ((with_reducible refine (h22 _ (by first | assumption | ((simp (disch := first | assumption | (apply zv; assumption; assumption) | (apply zw; assumption; assumption; (intro e; cases e; done)) | omega) only [zm, zn, zo, zp, zq]); first | done | rfl | assumption)) _ (by with_unfolding_all rfl)).mono ?_); rintro _ S ⟨rfl, rfl⟩) | ((with_reducible refine (h71b _ (by first | assumption | ((simp (disch := first | assumption | (apply zv; assumption; assumption) | (apply zw; assumption; assumption; (intro e; cases e; done)) | omega) only [zm, zn, zo, zp, zq]); first | done | rfl | assumption))).mono ?_); rintro _ S ⟨rfl, rfl⟩) | (refine vlo_app zx ?_) | (refine vst_app zx ?_)); (try refine zs (j9 ui3 ui4 Z26 h27 hz27 ui24 ui23 ui9 (j9 ui75 hFl hFo hFt hFd hFl2 hFo2 hFt2 hFd2)) ?_)) | (with_reducible first | refine vfresh_set ?_ | refine vfresh_intro (fun _ _ => ?_) | refine vif_intro (fun _ => ?_) (fun _ => ?_)) | omega | refine zt (j9 ui3 ui4 Z26 h27 hz27 ui24 ui23 ui9 (j9 ui75 hFl hFo hFt hFd hFl2 hFo2 hFt2 hFd2)) ?_ | fail)
      all_goals (refine ⟨_, .refl _, _, rfl, ?_⟩; (first | exact Sg.sub.refl _ | ((repeat (first | exact Sg.sub.refl _ | refine Sg.sub.set_both ?_ | refine Sg.sub.set_fresh ?_ (by first | assumption | exact Sg.set_none (by assumption) (by first | assumption | (apply Go.Cert.ne_of2a; assumption; assumption))))); done) | (intro y p hy; simp only [Sg.set_apply, Sg.del_apply] at hy ⊢; grind)))
    · rw [if_neg h8]
      have h13 : ∀ S, S ρ = some (rdA (sumL D s).2.next) → VCalls Tryz.prog 37 [.ref ρ 0, .s (bs wNot)] S _ := fun S hS => p13 ρ (sumL D s).2.next wNot S hS o2.wf.pos
      unfold isNull
      cases hb : (sumL D s).2.next.has wNot with
      | true =>
        simp only [hb, if_true] at h13 ⊢
        have o3 := ok_has o2.wf hb
        have h41 := fun S hS es he => p41 ρ (sumL D s).2.next.next .full [wNull] es S he hS o3.wf (by simp)
        have h62 : ∀ σ, VCalls Tryz.prog 168 [.i 6, .agg (exA (sumL D s).1)] σ _ := fun σ => p62 6 (sumL D s).1 σ
        have hGl := exA_len (ofE 6 (sumL D s).1)
        have hGo := exA_one (ofE 6 (sumL D s).1)
        have hGt := exA_take (ofE 6 (sumL D s).1)
        have hGd := exA_drop (ofE 6 (sumL D s).1)
        have h62b : ∀ σ, VCalls Tryz.prog 168 [.i 4, .agg (exA (ofE 6 (sumL D s).1))] σ _ := fun σ => p62 4 (ofE 6 (sumL D s).1) σ
        have hHl := exA_len (ofE 4 (ofE 6 (sumL D s).1))
        have hHo := exA_one (ofE 4 (ofE 6 (sumL D s).1))
        have hHt := exA_take (ofE 4 (ofE 6 (sumL D s).1))
        have hHd := exA_drop (ofE 4 (ofE 6 (sumL D s).1))
        generalize ofE 4 (ofE 6 (sumL D s).1) = e4 at *
        generalize ofE 6 (sumL D s).1 = e6 at *
        generalize (sumL D s).2.next.next.must [wNull] = s4 at *
        generalize (sumL D s).2.next.next = s3 at *
        generalize (sumL D s).2.next = s2 at *
        generalize (sumL D s).2.is tests = k at *
        generalize (sumL D s).1 = e at *
        generalize (sumL D s).2 = s1 at *
        (refine vfun (fun _ => .no) mixed Tryz.func170 (by kernel_rfl) ?_; simp only [bodyOf, Tryz.f170, zr])
        repeat' (first | with_reducible rfl | exact trivial | exact .inr trivial | (with_reducible first | apply And.intro | apply vqx_step | apply vqm_step | refine vkp_free (by decide +kernel) ?_ | intro _) | refine zaW (j5 ui3 ui4 Z26 h27 (j9 hz27 ui24 ui23 ui9 ui75 hFl hFo hFt (j9 hFd hGl hGo hGt hGd hHl hHo hHt hHd))) ?_ | ((first | ((with_reducible refine (h71 _ (by first | assumption | ((simp (disch := first | assumption | (apply zv; assumption; assumption) | (apply zw; assumption; assumption; (intro e; cases e; done)) | omega) only [zm, zn, zo, zp, zq]); first | done | rfl | assumption))).mono ?_); rintro _ S ⟨rfl, rfl⟩) | ((with_reducible refine (h22 _ (by first | assumption | ((simp (disch := first | assumption | (apply zv; assumption; assumption) | (apply zw; assumption; assumption; (intro e; cases e; done)) | omega) only [zm, zn, zo, zp, zq]); first | done | rfl | assumption)) _ (by with_unfolding_all rfl)).mono ?_); rintro _ S ⟨rfl, rfl⟩) | ((with_reducible refine (h13 _ (by first | assumption | ((simp (disch := first | assumption | (apply zv; assumption; assumption) | (apply zw; assumption; assumption; (intro e; cases e; done)) | omega) only [zm, zn, zo, zp, zq]); first | done | rfl | assumption))).mono ?_); rintro _ S ⟨rfl, rfl⟩) | ((with_reducible refine (h41 _ (by first | assumption | ((simp (disch := first | assumption | (apply zv; assumption; assumption) | (apply zw; assumption; assumption; (intro e; cases e; done)) | omega) only [zm, zn, zo, zp, zq]); first | done | rfl | assumption)) _ (by with_unfolding_all rfl)).mono ?_); rintro _ S ⟨rfl, rfl⟩) | ((with_reducible refine (h62 _).mono ?_); rintro _ S ⟨rfl, rfl⟩) | ((with_reducible refine (h62b _).mono ?_); rintro _ S ⟨rfl, rfl⟩) | (refine vlo_app zx ?_) | (refine vst_app zx ?_)); (try refine zs (j5 ui3 ui4 Z26 h27 (j9 hz27 ui24 ui23 ui9 ui75 hFl hFo hFt (j9 hFd hGl hGo hGt hGd hHl hHo hHt hHd))) ?_)) | (with_reducible first | refine vfresh_set ?_ | refine vfresh_intro (fun _ _ => ?_) | refine vif_intro (fun _ => ?_) (fun _ => ?_)) | omega | refine zt (j5 ui3 ui4 Z26 h27 (j9 hz27 ui24 ui23 ui9 ui75 hFl hFo hFt (j9 hFd hGl hGo hGt hGd hHl hHo hHt hHd))) ?_ | fail)
        all_goals (refine ⟨_, .refl _, .any, by rw [exK_any], ?_⟩; (first | exact Sg.sub.refl _ | ((repeat (first | exact Sg.sub.refl _ | refine Sg.sub.set_both ?_ | refine Sg.sub.set_fresh ?_ (by first | assumption | exact Sg.set_none (by assumption) (by first | assumption | (apply Go.Cert.ne_of2a; assumption; assumption))))); done) | (intro y p hy; simp only [Sg.set_apply, Sg.del_apply] at hy ⊢; grind)))
      | false =>
        simp only [hb, Bool.false_eq_true, if_false] at h13 ⊢
        have h41 := fun S hS es he => p41 ρ (sumL D s).2.next .full [wNull] es S he hS o2.wf (by simp)
        have h62 : ∀ σ, VCalls Tryz.prog 168 [.i 6, .agg (exA (sumL D s).1)] σ _ := fun σ => p62 6 (sumL D s).1 σ
        have hGl := exA_len (ofE 6 (sumL D s).1)
        have hGo := exA_one (ofE 6 (sumL D s).1)
        have hGt := exA_take (ofE 6 (sumL D s).1)
        have hGd := exA_drop (ofE 6 (sumL D s).1)
        generalize ofE 6 (sumL D s).1 = e6 at *
        generalize (sumL D s).2.next.must [wNull] = s4 at *
        generalize (sumL D s).2.next = s2 at *
        generalize (sumL D s).2.is tests = k at *
        generalize (sumL D s).1 = e at *
        generalize (sumL D s).2 = s1 at *
        (refine vfun (fun _ => .no) mixed Tryz.func170 (by kernel_rfl) ?_; simp only [bodyOf, Tryz.f170, zr])
        repeat' (first | with_reducible rfl | exact trivial | exact .inr trivial | (with_reducible first | apply And.intro | apply vqx_step | apply vqm_step | refine vkp_free (by decide +kernel) ?_ | intro _) | refine zaW (j9 ui3 ui4 Z26 h27 hz27 ui24 ui23 ui9 (j9 ui75 hFl hFo hFt hFd hGl hGo hGt hGd)) ?_ | ((first | ((with_reducible refine (h71 _ (by first | assumption | ((simp (disch := first | assumption | (apply zv; assumption; assumption) | (apply zw; assumption; assumption; (intro e; cases e; done)) | omega) only [zm, zn, zo, zp, zq]); first | done | rfl | assumption))).mono ?_); rintro _ S ⟨rfl, rfl⟩) | ((with_reducible refine (h22 _ (by first | assumption | ((simp (disch := first | assumption | (apply zv; assumption; assumption) | (apply zw; assumption; assumption; (intro e; cases e; done)) | omega) only [zm, zn, zo, zp, zq]); first | done | rfl | assumption)) _ (by with_unfolding_all rfl)).mono ?_); rintro _ S ⟨rfl, rfl⟩) | ((with_reducible refine (h13 _ (by first | assumption | ((simp (disch := first | assumption | (apply zv; assumption; assumption) | (apply zw; assumption; assumption; (intro e; cases e; done)) | omega) only [zm, zn, zo, zp, zq]); first | done | rfl | assumption))).mono ?_); rintro _ S ⟨rfl, rfl⟩) | ((with_reducible refine (h41 _ (by first | assumption | ((simp (disch := first | assumption | (apply zv; assumption; assumption) | (apply zw; assumption; assumption; (intro e; cases e; done)) | omega) only [zm, zn, zo, zp, zq]); first | done | rfl | assumption)) _ (by with_unfolding_all rfl)).mono ?_); rintro _ S ⟨rfl, rfl⟩) | ((with_reducible refine (h62 _).mono ?_); rintro _ S ⟨rfl, rfl⟩) | (refine vlo_app zx ?_) | (refine vst_app zx ?_)); (try refine zs (j9 ui3 ui4 Z26 h27 hz27 ui24 ui23 ui9 (j9 ui75 hFl hFo hFt hFd hGl hGo hGt hGd)) ?_)) | (with_reducible first | refine vfresh_set ?_ | refine vfresh_intro (fun _ _ => ?_) | refine vif_intro (fun _ => ?_) (fun _ => ?_)) | omega | refine zt (j9 ui3 ui4 Z26 h27 hz27 ui24 ui23 ui9 (j9 ui75 hFl hFo hFt hFd hGl hGo hGt hGd)) ?_ | fail)
        all_goals (refine ⟨_, .refl _, .any, by rw [exK_any], ?_⟩; (first | exact Sg.sub.refl _ | ((repeat (first | exact Sg.sub.refl _ | refine Sg.sub.set_both ?_ | refine Sg.sub.set_fresh ?_ (by first | assumption | exact Sg.set_none (by assumption) (by first | assumption | (apply Go.Cert.ne_of2a; assumption; assumption))))); done) | (intro y p hy; simp only [Sg.set_apply, Sg.del_apply] at hy ⊢; grind)))
theorem q39 (D : Dp) (d : Int) (hB : Reads 170 (testL D) d) (hD : d < 10 → RD D (d + 1)) (hN : D.Nice) (hd : 0 ≤ d ∧ d ≤ 10) : Reads 135 (notL D) d := by
  intro ρ s σ hρ hl hs
  subst hs
  refine lose_ex ?_
  obtain ⟨z27, h27, hz27⟩ := zero27
  simp only [ex0, exK_mk, exsA_nil] at hz27
  have h13 : ∀ S, S ρ = some (rdA s) → VCalls Tryz.prog 37 [.ref ρ 0, .s (bs wNot)] S _ := fun S hS => p13 ρ s wNot S hS hl.pos
  unfold notL
  cases hb : s.has wNot with
  | true =>
    simp only [hb, if_true] at h13 ⊢
    have o1 := ok_has hl hb
    have h63 := fun S hS => p63 ρ s.next S 135 D.not (fun h => (hD h).not) hN.not hS o1.wf hd
    have h62 : ∀ σ, VCalls Tryz.prog 168 [.i 4, .agg (exA (within D.not s.next).1)] σ _ := fun σ => p62 4 (within D.not s.next).1 σ
    have hFl := exA_len (ofE 4 (within D.not s.next).1)
    have hFo := exA_one (ofE 4 (within D.not s.next).1)
    have hFt := exA_take (ofE 4 (within D.not s.next).1)
    have hFd := exA_drop (ofE 4 (within D.not s.next).1)
    generalize ofE 4 (within D.not s.next).1 = e4 at *
    generalize (within D.not s.next).1 = e at *
    generalize (within D.not s.next).2 = s2 at *
    generalize s.next = s1 at *
    (refine vfun (fun _ => .no) mixed Tryz.func135 (by kernel_rfl) ?_; simp only [bodyOf, Tryz.f135, zr])
    repeat' (first | with_reducible rfl | exact trivial | exact .inr trivial | (with_reducible first | apply And.intro | apply vqx_step | apply vqm_step | refine vkp_free (by decide +kernel) ?_ | intro _) | refine zaW (j5 ui3 ui4 Z26 h27 (j9 hz27 ui24 ui23 ui9 ui75 hFl hFo hFt hFd)) ?_ | ((first | ((with_reducible refine (h13 _ (by first | assumption | ((simp (disch := first | assumption | (apply zv; assumption; assumption) | (apply zw; assumption; assumption; (intro e; cases e; done)) | omega) only [zm, zn, zo, zp, zq]); first | done | rfl | assumption))).mono ?_); rintro _ S ⟨rfl, rfl⟩) | ((with_reducible refine (h63 _ (by first | assumption | ((simp (disch := first | assumption | (apply zv; assumption; assumption) | (apply zw; assumption; assumption; (intro e; cases e; done)) | omega) only [zm, zn, zo, zp, zq]); first | done | rfl | assumption))).mono ?_); rintro _ S ⟨rfl, rfl⟩) | ((with_reducible refine (h62 _).mono ?_); rintro _ S ⟨rfl, rfl⟩) | (refine vlo_app zx ?_) | (refine vst_app zx ?_)); (try refine zs (j5 ui3 ui4 Z26 h27 (j9 hz27 ui24 ui23 ui9 ui75 hFl hFo hFt hFd)) ?_)) | (with_reducible first | refine vfresh_set ?_ | refine vfresh_intro (fun _ _ => ?_) | refine vif_intro (fun _ => ?_) (fun _ => ?_)) | omega | refine zt (j5 ui3 ui4 Z26 h27 (j9 hz27 ui24 ui23 ui9 ui75 hFl hFo hFt hFd)) ?_ | fail)
    all_goals (refine ⟨_, .refl _, .any, by rw [exK_any], ?_⟩; (first | exact Sg.sub.refl _ | ((repeat (first | exact Sg.sub.refl _ | refine Sg.sub.set_both ?_ | refine Sg.sub.set_fresh ?_ (by first | assumption | exact Sg.set_none (by assumption) (by first | assumption | (apply Go.Cert.ne_of2a; assumption; assumption))))); done) | (intro y p hy; simp only [Sg.set_apply, Sg.del_apply] at hy ⊢; grind)))
  | false =>
    simp only [hb, Bool.false_eq_true, if_false] at h13 ⊢
    have h64 := fun S hS => hB ρ s S hS hl rfl
    have hFl := exA_len (testL D s).1
    have hFo := exA_one (testL D s).1
    have hFt := exA_take (testL D s).1
    have hFd := exA_drop (testL D s).1
    generalize (testL D s).1 = e at *
    generalize (testL D s).2 = s2 at *
    (refine vfun (fun _ => .no) mixed Tryz.func135 (by kernel_rfl) ?_; simp only [bodyOf, Tryz.f135, zr])
    repeat' (first | with_reducible rfl | exact trivial | exact .inr trivial | (with_reducible first | apply And.intro | apply vqx_step | apply vqm_step | refine vkp_free (by decide +kernel) ?_ | intro _) | refine zaW (j5 ui3 ui4 Z26 h27 (j9 hz27 ui24 ui23 ui9 ui75 hFl hFo hFt hFd)) ?_ | ((first | ((with_reducible refine (h13 _ (by first | assumption | ((simp (disch := first | assumption | (apply zv; assumption; assumption) | (apply zw; assumption; assumption; (intro e; cases e; done)) | omega) only [zm, zn, zo, zp, zq]); first | done | rfl | assumption))).mono ?_); rintro _ S ⟨rfl, rfl⟩) | ((with_reducible refine (h64 _ (by first | assumption | ((simp (disch := first | assumption | (apply zv; assumption; assumption) | (apply zw; assumption; assumption; (intro e; cases e; done)) | omega) only [zm, zn, zo, zp, zq]); first | done | rfl | assumption))).mono ?_); rintro _ S ⟨rfl, rfl⟩) | (refine vlo_app zx ?_) | (refine vst_app zx ?_)); (try refine zs (j5 ui3 ui4 Z26 h27 (j9 hz27 ui24 ui23 ui9 ui75 hFl hFo hFt hFd)) ?_)) | (with_reducible first | refine vfresh_set ?_ | refine vfresh_intro (fun _ _ => ?_) | refine vif_intro (fun _ => ?_) (fun _ => ?_)) | omega | refine zt (j5 ui3 ui4 Z26 h27 (j9 hz27 ui24 ui23 ui9 ui75 hFl hFo hFt hFd)) ?_ | fail)
    all_goals (refine ⟨_, .refl _, .any, by rw [exK_any], ?_⟩; (first | exact Sg.sub.refl _ | ((repeat (first | exact Sg.sub.refl _ | refine Sg.sub.set_both ?_ | refine Sg.sub.set_fresh ?_ (by first | assumption | exact Sg.set_none (by assumption) (by first | assumption | (apply Go.Cert.ne_of2a; assumption; assumption))))); done) | (intro y p hy; simp only [Sg.set_apply, Sg.del_apply] at hy ⊢; grind)))
theorem qRD : ∀ (n : Nat) (d : Int), d + n = 11 → 0 ≤ d → d ≤ 10 → RD (dp n) d
  | 0, d, h, h0, h1 => by omega
  | n + 1, d, h, h0, h1 => by
    have hD : d < 10 → RD (dp n) (d + 1) := fun h2 => qRD n (d + 1) (by omega) (by omega) (by omega)
    have hN := dp_nice n
    have r75 := q75 (dp n) d hD hN ⟨h0, h1⟩
    have r74 := q74 (dp n) d r75 (nice_fac hN)
    have r71 := q71 (dp n) d r74 (nice_row (nice_fac hN) _ _)
    have r64 := q64 (dp n) d r71 hN
    have r39 := q39 (dp n) d r64 hD hN ⟨h0, h1⟩
    have r19 := q19 (dp n) d r39 (nice_not hN)
    have r10 := q10 (dp n) d r19 (nice_row (nice_not hN) _ _)
    exact ⟨r75, r39, r10⟩
end Go.Proofs.YtjdapkelojdefaaGreatDoor

set_option linter.unusedSimpArgs false
set_option linter.unusedVariables false
namespace Go.Parse
open Go.V Go.Lex Go.Proofs.YtjdapkelojdefaaGreatDoor
theorem WF_app : ∀ (i : List Tk) (t : Tk), t.1 = 6 → WF (i ++ [t])
  | [], t, h => h
  | [x], t, h => h
  | x :: y :: r, t, h => WF_app (y :: r) t h
theorem toks_wf {b : List UInt8} {l : List Tk} (h : lexAll b = .ok l) : WF l := by
  unfold lexAll at h
  split at h
  · cases h
  · cases ht : toks b 0 with
    | error q => rw [ht] at h; cases h
    | ok m =>
      rw [ht] at h
      cases h
      obtain ⟨i, rfl, _⟩ := toks_join_ok b.length b [] 0 l (Nat.le_refl _) ht
      exact WF_app _ _ rfl
theorem tok1_nz {r : List UInt8} {e : Nat} (h : tok1 r = .error e) : e ≠ 0 := by
  have hwl : ∀ kd n, wl kd r n = .error e → e ≠ 0 := fun kd n hw => by
    unfold wl at hw
    cases hw' : wordT kd r n with
    | ok q => rw [hw'] at hw; cases hw
    | error e' =>
      rw [hw'] at hw
      cases hw
      unfold wordT at hw'
      split at hw'
      · cases hw'; decide
      · split at hw'
        · split at hw'
          · cases hw'
          · cases hw'; decide
        · split at hw'
          · split at hw'
            · cases hw'; decide
            · cases hw'
          · split at hw'
            · cases hw'
            · cases hw'; decide
  unfold tok1 at h
  split at h
  · unfold quotedT at h
    split at h
    · cases h; decide
    · split at h
      · cases h; decide
      · cases h
  · split at h
    · exact hwl _ _ h
    · split at h
      · exact hwl _ _ h
      · split at h
        · exact hwl _ _ h
        · split at h
          · cases h
          · cases h; decide
theorem lexAll_nz {b : List UInt8} {e : Nat} {a : Int} (h : lexAll b = .error (e, a)) : e ≠ 0 := by
  unfold lexAll at h
  split at h
  · cases h; decide
  · cases ht : toks b 0 with
    | error q =>
      obtain ⟨e', a'⟩ := q
      rw [ht] at h
      cases h
      exact toks_nz b.length b 0 e a' (Nat.le_refl _) (fun m e he => tok1_nz he) ht
    | ok m => rw [ht] at h; cases h
def oneR (l : List Tk) : Ex × Int × Int := if (oneT l).2.c = 0 then ((oneT l).1, 0, 0) else (ex0, (oneT l).2.c, (oneT l).2.a)
def oneAll (b : List UInt8) : Ex × Int × Int :=
  match lexAll b with
  | .ok l => oneR l
  | .error (e, a) => (ex0, (e : Int), a)
end Go.Parse
namespace Go.Proofs.YtjdapkelojdefaaGreatDoor
open Go Go.V Go.Lex Go.Parse
theorem p9 (b : List UInt8) (σ : Sg) : VCalls Tryz.prog 34 [.s (bs b)] σ (fun x σ' => (x = match lexAll b with
    | .ok l => .tup [.sl .any (tksA l), .agg [.i 0, .i 0]]
    | .error (e, a) => .tup [.sl .nil [], .agg [.i e, .i a]]) ∧ σ' = σ) :=
  (t21 b σ).weak fun x σ' hx => by
    obtain ⟨⟨l', τ, h1, rfl⟩ | ⟨e, a, h1, he, rfl⟩, rfl⟩ := hx
    · rw [h1]
      exact ⟨_, .tup2 (.any _ _) (.refl _), rfl, rfl⟩
    · rw [h1]
      exact ⟨_, .refl _, rfl, rfl⟩
theorem p11 (ρ : Nat) (s : Rd) (σ : Sg) (hρ : σ ρ = some (rdA s)) (hl : WF s.l) : VCalls Tryz.prog 36 [.ref ρ 0] σ (fun x σ' => x = .agg [.i s.fin.c, .i s.fin.a] ∧ σ' = σ.set ρ (rdA s.fin)) := by
  have h20 := fun S (hS : S ρ = some (rdA s)) => p20 ρ s S hS
  have h21 := fun S (hS : S ρ = some (rdA s)) => p21 ρ s S hS hl.pos
  have h14 := fun S (hS : S ρ = some (rdA s)) => p14 ρ s 4 S hS hl.pos
  rw [tkA_eq] at h21
  have hρ' := hρ
  unfold Rd.fin
  by_cases hc : s.c = 0
  · simp only [decide_eq_true hc] at h20
    by_cases h6 : (hd s.l).1 = 6
    · rw [if_neg (fun h => h.2 h6), Sg.set_id hρ']
      simp only [h6] at h21
      generalize (hd s.l).2.1 = t at *
      generalize (hd s.l).2.2.1 = n at *
      generalize (hd s.l).2.2.2 = a at *
      rw [rdA_eq] at hρ
      (refine vfun (fun _ => .no) mixed Tryz.func36 (by kernel_rfl) ?_; simp only [bodyOf, Tryz.f36, zr])
      repeat' (first | with_reducible rfl | exact trivial | exact .inr trivial | (with_reducible first | apply And.intro | apply vqx_step | apply vqm_step | refine vkp_free (by decide +kernel) ?_ | intro _) | refine zaW (j9 ui3 ui4 ui80 ui47 ui30 ui56 ui102 ui9 hρ) ?_ | ((first | ((with_reducible refine (h20 _ (by first | assumption | ((simp (disch := first | assumption | (apply zv; assumption; assumption) | (apply zw; assumption; assumption; (intro e; cases e; done)) | omega) only [zm, zn, zo, zp, zq]); first | done | rfl | assumption))).mono ?_); rintro _ S ⟨rfl, rfl⟩) | ((with_reducible refine (h21 _ (by first | assumption | ((simp (disch := first | assumption | (apply zv; assumption; assumption) | (apply zw; assumption; assumption; (intro e; cases e; done)) | omega) only [zm, zn, zo, zp, zq]); first | done | rfl | assumption))).mono ?_); rintro _ S ⟨rfl, rfl⟩) | (refine vlo_app zx ?_) | (refine vst_app zx ?_)); (try refine zs (j9 ui3 ui4 ui80 ui47 ui30 ui56 ui102 ui9 hρ) ?_)) | (with_reducible first | refine vfresh_set ?_ | refine vfresh_intro (fun _ _ => ?_) | refine vif_intro (fun _ => ?_) (fun _ => ?_)) | omega | refine zt (j9 ui3 ui4 ui80 ui47 ui30 ui56 ui102 ui9 hρ) ?_ | fail)
      all_goals (exact Go.V.zE)
    · rw [if_pos ⟨hc, h6⟩]
      generalize hd s.l = t at *
      generalize s.fail 4 = s4 at *
      simp only [rdA_eq] at h14 hρ ⊢
      (refine vfun (fun _ => .no) mixed Tryz.func36 (by kernel_rfl) ?_; simp only [bodyOf, Tryz.f36, zr])
      repeat' (first | with_reducible rfl | exact trivial | exact .inr trivial | (with_reducible first | apply And.intro | apply vqx_step | apply vqm_step | refine vkp_free (by decide +kernel) ?_ | intro _) | refine zaW (j9 ui3 ui4 ui80 ui47 ui30 ui56 ui102 ui9 hρ) ?_ | ((first | ((with_reducible refine (h20 _ (by first | assumption | ((simp (disch := first | assumption | (apply zv; assumption; assumption) | (apply zw; assumption; assumption; (intro e; cases e; done)) | omega) only [zm, zn, zo, zp, zq]); first | done | rfl | assumption))).mono ?_); rintro _ S ⟨rfl, rfl⟩) | ((with_reducible refine (h21 _ (by first | assumption | ((simp (disch := first | assumption | (apply zv; assumption; assumption) | (apply zw; assumption; assumption; (intro e; cases e; done)) | omega) only [zm, zn, zo, zp, zq]); first | done | rfl | assumption))).mono ?_); rintro _ S ⟨rfl, rfl⟩) | ((with_reducible refine (h14 _ (by first | assumption | ((simp (disch := first | assumption | (apply zv; assumption; assumption) | (apply zw; assumption; assumption; (intro e; cases e; done)) | omega) only [zm, zn, zo, zp, zq]); first | done | rfl | assumption))).mono ?_); rintro _ S ⟨rfl, rfl⟩) | (refine vlo_app zx ?_) | (refine vst_app zx ?_)); (try refine zs (j9 ui3 ui4 ui80 ui47 ui30 ui56 ui102 ui9 hρ) ?_)) | (with_reducible first | refine vfresh_set ?_ | refine vfresh_intro (fun _ _ => ?_) | refine vif_intro (fun _ => ?_) (fun _ => ?_)) | omega | refine zt (j9 ui3 ui4 ui80 ui47 ui30 ui56 ui102 ui9 hρ) ?_ | fail)
      all_goals (exact Go.V.zE)
  · simp only [decide_eq_false hc] at h20
    rw [if_neg (fun h => hc h.1), Sg.set_id hρ']
    rw [rdA_eq] at hρ
    (refine vfun (fun _ => .no) mixed Tryz.func36 (by kernel_rfl) ?_; simp only [bodyOf, Tryz.f36, zr])
    repeat' (first | with_reducible rfl | exact trivial | exact .inr trivial | (with_reducible first | apply And.intro | apply vqx_step | apply vqm_step | refine vkp_free (by decide +kernel) ?_ | intro _) | refine zaW (j9 ui3 ui4 ui80 ui47 ui30 ui56 ui102 ui9 hρ) ?_ | ((first | ((with_reducible refine (h20 _ (by first | assumption | ((simp (disch := first | assumption | (apply zv; assumption; assumption) | (apply zw; assumption; assumption; (intro e; cases e; done)) | omega) only [zm, zn, zo, zp, zq]); first | done | rfl | assumption))).mono ?_); rintro _ S ⟨rfl, rfl⟩) | ((with_reducible refine (h21 _ (by first | assumption | ((simp (disch := first | assumption | (apply zv; assumption; assumption) | (apply zw; assumption; assumption; (intro e; cases e; done)) | omega) only [zm, zn, zo, zp, zq]); first | done | rfl | assumption))).mono ?_); rintro _ S ⟨rfl, rfl⟩) | (refine vlo_app zx ?_) | (refine vst_app zx ?_)); (try refine zs (j9 ui3 ui4 ui80 ui47 ui30 ui56 ui102 ui9 hρ) ?_)) | (with_reducible first | refine vfresh_set ?_ | refine vfresh_intro (fun _ _ => ?_) | refine vif_intro (fun _ => ?_) (fun _ => ?_)) | omega | refine zt (j9 ui3 ui4 ui80 ui47 ui30 ui56 ui102 ui9 hρ) ?_ | fail)
    all_goals (exact Go.V.zE)
theorem zero30 : ∃ z, tInfo Tryz.prog 47 = some (some z, 2, 16) ∧ ofValue z = .agg [.i 0, .i 0] := ⟨_, info47, by rfl⟩
theorem lose_ex2 {f : FuncId} {args : List AV} {e : Ex} {c a : Int} {σ S : Sg} (h : VCalls Tryz.prog f args σ (fun x σ' => ∃ o, x = .tup [.agg (exK o e), .agg [.i c, .i a]] ∧ S.sub σ')) : VCalls Tryz.prog f args σ (fun x σ' => x = .tup [.agg (exA e), .agg [.i c, .i a]] ∧ σ' = S) :=
  h.lose fun x σ' hx => by
    obtain ⟨o, rfl, hs⟩ := hx
    exact ⟨_, S, (AVw.ex o e).tup2 (AVw.refl _), hs, rfl, rfl⟩
theorem p6 (b : List UInt8) (σ : Sg) : VCalls Tryz.prog 17 [.s (bs b)] σ (fun x σ' => x = .tup [.agg (exA (oneAll b).1), .agg [.i (oneAll b).2.1, .i (oneAll b).2.2]] ∧ σ' = σ) := by
  refine lose_ex2 ?_
  obtain ⟨z27, h27, hz27⟩ := zero27
  simp only [ex0, exK_mk, exsA_nil] at hz27
  have h9 := p9 b
  unfold oneAll
  cases hl : lexAll b with
  | error q =>
    obtain ⟨e, a⟩ := q
    have he := lexAll_nz hl
    simp only [hl] at h9
    simp only [ex0, exK_mk, exsA_nil]
    (refine vfun (fun _ => .no) mixed Tryz.func17 (by kernel_rfl) ?_; simp only [bodyOf, Tryz.f17, zr])
    repeat' (first | with_reducible rfl | exact trivial | exact .inr trivial | (with_reducible first | apply And.intro | apply vqx_step | apply vqm_step | refine vkp_free (by decide +kernel) ?_ | intro _) | ((with_reducible (rename_i a2 _ a3 _ _ a5 _ _ _ _; refine .dms (fun x => x = a5) [(0, false), (1, false), (2, true), (3, true)] (by decide) (by decide +kernel) ?_)); (refine zs (j3 ui3 ui4 (j9 Z26 h27 hz27 ui24 ui23 ui30 ui47 ui9 ui75)) ?_)) | refine zaW (j3 ui3 ui4 (j9 Z26 h27 hz27 ui24 ui23 ui30 ui47 ui9 ui75)) ?_ | ((first | ((with_reducible refine (h9 _).mono ?_); rintro _ S ⟨rfl, rfl⟩) | with_reducible refine vkp_keep (fun _ _ => rfl) ?_ | (refine vkp_keep (by intro β h; first | (rcases h with h | h <;> subst h <;> (simp (disch := first | assumption | (apply zv; assumption; assumption) | (apply zw; assumption; assumption; (intro e; cases e; done)) | omega) only [zm, zn, zo, zp, zq])) | (subst h; (simp (disch := first | assumption | (apply zv; assumption; assumption) | (apply zw; assumption; assumption; (intro e; cases e; done)) | omega) only [zm, zn, zo, zp, zq]))) ?_) | (refine vlo_app (o' := some (.cells 47 [.i e, .i a])) (keepAt (by assumption) (by first | assumption | ((simp (disch := first | assumption | (apply zv; assumption; assumption) | (apply zw; assumption; assumption; (intro e; cases e; done)) | omega) only [zm, zn, zo, zp, zq]); first | done | rfl | assumption))) ?_) | (refine vlo_app zx ?_) | (refine vst_app zx ?_)); (try refine zs (j3 ui3 ui4 (j9 Z26 h27 hz27 ui24 ui23 ui30 ui47 ui9 ui75)) ?_)) | (with_reducible first | refine vfresh_set ?_ | refine vfresh_intro (fun _ _ => ?_) | refine vif_intro (fun _ => ?_) (fun _ => ?_)) | omega | refine zt (j3 ui3 ui4 (j9 Z26 h27 hz27 ui24 ui23 ui30 ui47 ui9 ui75)) ?_ | fail)
    all_goals (refine ⟨_, .refl _, _, rfl, ?_⟩; (first | exact Sg.sub.refl _ | ((repeat (first | exact Sg.sub.refl _ | refine Sg.sub.set_both ?_ | refine Sg.sub.set_fresh ?_ (by first | assumption | exact Sg.set_none (by assumption) (by first | assumption | (apply Go.Cert.ne_of2a; assumption; assumption))))); done) | (intro y p hy; simp only [Sg.set_apply, Sg.del_apply] at hy ⊢; grind)))
  | ok l =>
    simp only [hl] at h9
    have hw := toks_wf hl
    have r10 := fun ρ S hS => (qRD 11 0 (by decide) (by decide) (by decide)).ex ρ (rd0 l) S hS hw rfl
    have o1 := (dp_nice 11).ex (rd0 l) hw
    have h11 := fun ρ S hS => p11 ρ ((dp 11).ex (rd0 l)).2 S hS o1.wf
    have hFl := exA_len ((dp 11).ex (rd0 l)).1
    have hFo := exA_one ((dp 11).ex (rd0 l)).1
    have hFt := exA_take ((dp 11).ex (rd0 l)).1
    have hFd := exA_drop ((dp 11).ex (rd0 l)).1
    have h0 : rdA (rd0 l) = .cells 80 [.sl .any (tksA l), .i 0, .i 0, .i 0] := rfl
    have hR : oneR l = if ((dp 11).ex (rd0 l)).2.fin.c = 0 then (((dp 11).ex (rd0 l)).1, 0, 0) else (ex0, ((dp 11).ex (rd0 l)).2.fin.c, ((dp 11).ex (rd0 l)).2.fin.a) := rfl
    simp only [hR, h0] at r10 ⊢
    generalize ((dp 11).ex (rd0 l)).1 = e at *
    generalize ((dp 11).ex (rd0 l)).2.fin = s2 at *
    generalize ((dp 11).ex (rd0 l)).2 = s1 at *
    by_cases hc : s2.c = 0
    · rw [if_pos hc]
      (refine vfun (fun _ => .no) mixed Tryz.func17 (by kernel_rfl) ?_; simp only [bodyOf, Tryz.f17, zr])
      repeat' (first | with_reducible rfl | exact trivial | exact .inr trivial | (with_reducible first | apply And.intro | apply vqx_step | apply vqm_step | refine vkp_free (by decide +kernel) ?_ | intro _) | refine zaW (j9 ui3 ui4 Z26 h27 hz27 ui24 ui23 ui30 (j9 ui47 ui56 ui80 ui9 ui75 hFl hFo hFt hFd)) ?_ | ((first | ((with_reducible refine (h9 _).mono ?_); rintro _ S ⟨rfl, rfl⟩) | ((with_reducible refine (r10 _ _ (by first | assumption | ((simp (disch := first | assumption | (apply zv; assumption; assumption) | (apply zw; assumption; assumption; (intro e; cases e; done)) | omega) only [zm, zn, zo, zp, zq]); first | done | rfl | assumption))).mono ?_); rintro _ S ⟨rfl, rfl⟩) | ((with_reducible refine (h11 _ _ (by first | assumption | ((simp (disch := first | assumption | (apply zv; assumption; assumption) | (apply zw; assumption; assumption; (intro e; cases e; done)) | omega) only [zm, zn, zo, zp, zq]); first | done | rfl | assumption))).mono ?_); rintro _ S ⟨rfl, rfl⟩) | (refine vlo_app zx ?_) | (refine vst_app zx ?_)); (try refine zs (j9 ui3 ui4 Z26 h27 hz27 ui24 ui23 ui30 (j9 ui47 ui56 ui80 ui9 ui75 hFl hFo hFt hFd)) ?_)) | (with_reducible first | refine vfresh_set ?_ | refine vfresh_intro (fun _ _ => ?_) | refine vif_intro (fun _ => ?_) (fun _ => ?_)) | omega | refine zt (j9 ui3 ui4 Z26 h27 hz27 ui24 ui23 ui30 (j9 ui47 ui56 ui80 ui9 ui75 hFl hFo hFt hFd)) ?_ | fail)
      all_goals (refine ⟨_, .refl _, .any, by rw [exK_any], ?_⟩; (first | exact Sg.sub.refl _ | ((repeat (first | exact Sg.sub.refl _ | refine Sg.sub.set_both ?_ | refine Sg.sub.set_fresh ?_ (by first | assumption | exact Sg.set_none (by assumption) (by first | assumption | (apply Go.Cert.ne_of2a; assumption; assumption))))); done) | (intro y p hy; simp only [Sg.set_apply, Sg.del_apply] at hy ⊢; grind)))
    · rw [if_neg hc]
      simp only [exK_mk, exsA_nil]
      (refine vfun (fun _ => .no) mixed Tryz.func17 (by kernel_rfl) ?_; simp only [bodyOf, Tryz.f17, zr])
      repeat' (first | with_reducible rfl | exact trivial | exact .inr trivial | (with_reducible first | apply And.intro | apply vqx_step | apply vqm_step | refine vkp_free (by decide +kernel) ?_ | intro _) | ((with_reducible (rename_i x10 _ x8 _ _ x6 _ _ _ x4 _ _ _ _ x2 _ _ _ _ _ _; refine .dms (fun x => x = x6) [(0, false), (1, false), (2, true), (3, true)] (by decide) (by decide +kernel) ?_)); (refine zs (j9 ui3 ui4 Z26 h27 hz27 ui24 ui23 ui30 (j9 ui47 ui56 ui80 ui9 ui75 hFl hFo hFt hFd)) ?_)) | refine zaW (j9 ui3 ui4 Z26 h27 hz27 ui24 ui23 ui30 (j9 ui47 ui56 ui80 ui9 ui75 hFl hFo hFt hFd)) ?_ | ((first | ((with_reducible refine (h9 _).mono ?_); rintro _ S ⟨rfl, rfl⟩) | ((with_reducible refine (r10 _ _ (by first | assumption | ((simp (disch := first | assumption | (apply zv; assumption; assumption) | (apply zw; assumption; assumption; (intro e; cases e; done)) | omega) only [zm, zn, zo, zp, zq]); first | done | rfl | assumption))).mono ?_); rintro _ S ⟨rfl, rfl⟩) | ((with_reducible refine (h11 _ _ (by first | assumption | ((simp (disch := first | assumption | (apply zv; assumption; assumption) | (apply zw; assumption; assumption; (intro e; cases e; done)) | omega) only [zm, zn, zo, zp, zq]); first | done | rfl | assumption))).mono ?_); rintro _ S ⟨rfl, rfl⟩) | with_reducible refine vkp_keep (fun _ _ => rfl) ?_ | (refine vkp_keep (by intro β h; first | (rcases h with h | h <;> subst h <;> (simp (disch := first | assumption | (apply zv; assumption; assumption) | (apply zw; assumption; assumption; (intro e; cases e; done)) | omega) only [zm, zn, zo, zp, zq])) | (subst h; (simp (disch := first | assumption | (apply zv; assumption; assumption) | (apply zw; assumption; assumption; (intro e; cases e; done)) | omega) only [zm, zn, zo, zp, zq]))) ?_) | (refine vlo_app (o' := some (.cells 47 [.i s2.c, .i s2.a])) (keepAt (by assumption) (by first | assumption | ((simp (disch := first | assumption | (apply zv; assumption; assumption) | (apply zw; assumption; assumption; (intro e; cases e; done)) | omega) only [zm, zn, zo, zp, zq]); first | done | rfl | assumption))) ?_) | (refine vlo_app zx ?_) | (refine vst_app zx ?_)); (try refine zs (j9 ui3 ui4 Z26 h27 hz27 ui24 ui23 ui30 (j9 ui47 ui56 ui80 ui9 ui75 hFl hFo hFt hFd)) ?_)) | (with_reducible first | refine vfresh_set ?_ | refine vfresh_intro (fun _ _ => ?_) | refine vif_intro (fun _ => ?_) (fun _ => ?_)) | omega | refine zt (j9 ui3 ui4 Z26 h27 hz27 ui24 ui23 ui30 (j9 ui47 ui56 ui80 ui9 ui75 hFl hFo hFt hFd)) ?_ | fail)
      all_goals (refine ⟨_, .refl _, _, rfl, ?_⟩; (first | exact Sg.sub.refl _ | ((repeat (first | exact Sg.sub.refl _ | refine Sg.sub.set_both ?_ | refine Sg.sub.set_fresh ?_ (by first | assumption | exact Sg.set_none (by assumption) (by first | assumption | (apply Go.Cert.ne_of2a; assumption; assumption))))); done) | (intro y p hy; simp only [Sg.set_apply, Sg.del_apply] at hy ⊢; grind)))
end Go.Proofs.YtjdapkelojdefaaGreatDoor

set_option linter.unusedSimpArgs false
set_option linter.unusedVariables false
namespace Go.Parse
open Go.V Go.Lex Go.Proofs.YtjdapkelojdefaaGreatDoor
inductive Sm : Ex → Prop
  | leaf (k op : Int) (t n : By) (v : Vl) : Sm (.mk k op t n v [])
  | one (k op : Int) (t n : By) (v : Vl) (e : Ex) (h : Sm e) : Sm (.mk k op t n v [e])
  | two (k op : Int) (t n : By) (v : Vl) (e f : Ex) (h : Sm e) (h2 : Sm f) : Sm (.mk k op t n v [e, f])
def SmF (F : Pr) : Prop := ∀ s, Sm (F s).1
theorem sm_column : SmF Rd.column := fun s => by
  unfold Rd.column
  split <;> exact .leaf _ _ _ _ _
theorem sm_within {F : Pr} (h : SmF F) : SmF (within F) := fun s => by
  unfold within
  split
  · exact h _
  · exact .leaf _ _ _ _ _
theorem sm_rowL {F : Pr} (h : SmF F) (first : Int) (ws : List By) : ∀ (n : Nat) (e : Ex) (s : Rd), Sm e → Sm (rowL F first ws n e s).1
  | 0, e, s, he => he
  | n + 1, e, s, he => by
    unfold rowL
    split
    · exact sm_rowL h first ws n _ _ (.two _ _ _ _ _ _ _ he (h _))
    · exact he
theorem sm_row {F : Pr} (h : SmF F) (first : Int) (ws : List By) : SmF (row F first ws) := fun s => sm_rowL h first ws _ _ _ (h s)
structure Dp.Sm (D : Dp) : Prop where
  fac : SmF D.fac
  not : SmF D.not
  ex : SmF D.ex
theorem sm_fac {D : Dp} (h : D.Sm) : SmF (facL D) := fun s => by
  unfold facL
  split
  · exact .leaf _ _ _ _ _
  · split
    · exact .one _ _ _ _ _ _ (sm_within h.fac _)
    · split
      · exact sm_within h.ex _
      · exact sm_column _
theorem sm_sum {D : Dp} (h : D.Sm) : SmF (sumL D) := sm_row (sm_row (sm_fac h) _ _) _ _
theorem sm_test {D : Dp} (h : D.Sm) : SmF (testL D) := fun s => by
  unfold testL
  split
  · exact sm_sum h s
  · split
    · exact .two _ _ _ _ _ _ _ (sm_sum h _) (sm_sum h _)
    · unfold isNull
      split
      · exact .one _ _ _ _ _ _ (.one _ _ _ _ _ _ (sm_sum h _))
      · exact .one _ _ _ _ _ _ (sm_sum h _)
theorem sm_not {D : Dp} (h : D.Sm) : SmF (notL D) := fun s => by
  unfold notL
  split
  · exact .one _ _ _ _ _ _ (sm_within h.not _)
  · exact sm_test h s
theorem dp_sm : ∀ n, (dp n).Sm
  | 0 => ⟨fun s => .leaf _ _ _ _ _, fun s => .leaf _ _ _ _ _, fun s => .leaf _ _ _ _ _⟩
  | n + 1 => ⟨sm_fac (dp_sm n), sm_not (dp_sm n), sm_row (sm_row (sm_not (dp_sm n)) _ _) _ _⟩
theorem sm_oneAll (b : List UInt8) : Sm (oneAll b).1 := by
  unfold oneAll
  split
  · unfold oneR
    split
    · exact (dp_sm 11).ex _
    · exact .leaf _ _ _ _ _
  · exact .leaf _ _ _ _ _
end Go.Parse
namespace Go.Proofs.YtjdapkelojdefaaGreatDoor
open Go Go.V Go.Lex Go.Parse
theorem exsA_get {l : List Ex} {k : Nat} (h : k < l.length) : (exsA l).getD k [] = exA l[k] := by
  induction l generalizing k with
  | nil => simp at h
  | cons e r ih =>
    rw [exsA_cons]
    cases k with
    | zero => rfl
    | succ k => exact ih (by simpa using h)
theorem exsA_all (l : List Ex) : allLen (exsA l) 8 = True := eq_true (by
  induction l with
  | nil => intro e he; rw [exsA_nil] at he; cases he
  | cons x r ih =>
    intro e he
    rw [exsA_cons] at he
    rcases List.mem_cons.1 he with rfl | he
    · exact exA_len x
    · exact ih e he)
theorem p12 (l : List Ex) (h : ∀ (i : Nat) (hi : i < l.length) (σ : Sg), VCalls Tryz.prog 13 [.agg (exA l[i]), .agg (exA l[i])] σ (fun x σ' => x = .b true ∧ σ' = σ)) (hl : l.length ≤ 100) (σ : Sg) : VCalls Tryz.prog 26 [.sl .any (exsA l), .sl .any (exsA l)] σ (fun x σ' => x = .b true ∧ σ' = σ) := by
  have hn := exsA_len l
  have hall := exsA_all l
  (refine vfun (fun _ => .no) mixed Tryz.func26 (by kernel_rfl) ?_; simp only [bodyOf, Tryz.f26, zr])
  repeat' (first | with_reducible rfl | exact trivial | exact .inr trivial | (with_reducible first | apply And.intro | apply vqx_step | apply vqm_step | refine vkp_free (by decide +kernel) ?_ | intro _) | refine zaW (j6 ui3 ui4 ui26 ui24 hn hall) ?_ | (with_reducible first | refine vfresh_set ?_ | refine vfresh_intro (fun _ _ => ?_) | refine vif_intro (fun _ => ?_) (fun _ => ?_)) | omega | refine zt (j6 ui3 ui4 ui26 ui24 hn hall) ?_ | fail)
  refine VW.loop3 (0 : Nat) () () (fun k _ _ => k ≤ l.length) (fun k _ _ => [(0, .sl .any (exsA l)), (1, .sl .any (exsA l)), (5, .i k)]) (fun _ _ _ => σ) (fun k _ _ => l.length - k) (by omega) (.refl _) ?_ ?_
  · simp only [vO, vQ, ↓vP, vE, vS, vB, vL, vF, vM, vN, vbs_full, Nat.reduceEqDiff, Nat.reduceAdd, Nat.reduceLeDiff, ne_eq, not_false_eq_true, Nat.reduceMul, Nat.reduceSub, Int.toNat_zero, Int.reduceToNat, vT]
    all_goals rfl
  rintro k _ _ hk
  rcases Nat.lt_or_ge k l.length with hk2 | hk2
  · have hg := exsA_get hk2
    have hp := h k hk2
    have hFl := exA_len l[k]
    have hFt := exA_take l[k]
    generalize exA l[k] = E at *
    repeat' (first | with_reducible rfl | exact trivial | exact .inr trivial | (with_reducible first | apply And.intro | apply vqx_step | apply vqm_step | refine vkp_free (by decide +kernel) ?_ | intro _) | refine zaW (j9 ui3 ui4 ui26 ui24 hn hall hg hFl hFt) ?_ | (((with_reducible refine (hp _).mono ?_); rintro _ S ⟨rfl, rfl⟩); (try refine zs (j9 ui3 ui4 ui26 ui24 hn hall hg hFl hFt) ?_)) | (with_reducible first | refine vfresh_set ?_ | refine vfresh_intro (fun _ _ => ?_) | refine vif_intro (fun _ => ?_) (fun _ => ?_)) | omega | refine zt (j9 ui3 ui4 ui26 ui24 hn hall hg hFl hFt) ?_ | fail)
    exact ⟨k + 1, (), (), ⟨hk2, by omega⟩, .refl _, rfl⟩
  · repeat' (first | with_reducible rfl | exact trivial | exact .inr trivial | (with_reducible first | apply And.intro | apply vqx_step | apply vqm_step | refine vkp_free (by decide +kernel) ?_ | intro _) | refine zaW (j6 ui3 ui4 ui26 ui24 hn hall) ?_ | (with_reducible first | refine vfresh_set ?_ | refine vfresh_intro (fun _ _ => ?_) | refine vif_intro (fun _ => ?_) (fun _ => ?_)) | omega | refine zt (j6 ui3 ui4 ui26 ui24 hn hall) ?_ | fail)
    exact ⟨_, .refl _, rfl⟩
theorem eq24 {d : TypeDesc} {a b a' b' : Int} {s t : ByteArray} : veqT Tryz.prog 23 d (.agg [.i a, .i b, .s s]) (.agg [.i a', .i b', .s t]) = some (decide (a = a') && (decide (b = b') && (sEq s t && true))) := by
  rw [veqT_agg (by kernel_rfl), veqIn_struct (d := 9999) Tryz.underlying23 (by kernel_rfl)]
  exact veqFs_cons (by decide) (partO_one info3 Z3 rfl) (partO_one info3 Z3 rfl) (veqIn_int Z3) (veqFs_cons (by decide) (partO_one info3 Z3 rfl) (partO_one info3 Z3 rfl) (veqIn_int Z3) (veqFs_cons (by decide) (partO_one info9 Tryz.underlying9 rfl) (partO_one info9 Tryz.underlying9 rfl) (veqIn_str Tryz.underlying9) rfl))
theorem p7w (k op : Int) (t n : By) (v : Vl) (l : List Ex) (h12 : ∀ σ, VCalls Tryz.prog 26 [.sl .any (exsA l), .sl .any (exsA l)] σ (fun x σ' => x = .b true ∧ σ' = σ)) (σ : Sg) : VCalls Tryz.prog 13 [.agg (exA (.mk k op t n v l)), .agg (exA (.mk k op t n v l))] σ (fun x σ' => x = .b true ∧ σ' = σ) := by
  rw [exA_mk]
  have he : ∀ d, veqT Tryz.prog 23 d (.agg [.i v.1, .i v.2.1, .s (bs v.2.2)]) (.agg [.i v.1, .i v.2.1, .s (bs v.2.2)]) = some true := fun d => by rw [eq24]; simp [sEq]
  generalize exsA l = L at *
  generalize v.1 = va at *
  generalize v.2.1 = vb at *
  generalize v.2.2 = vc at *
  (refine vfun (fun _ => .ro) mixed Tryz.func13 (by kernel_rfl) ?_; simp only [bodyOf, Tryz.f13, zr])
  repeat' (first | with_reducible rfl | exact trivial | exact .inr trivial | (with_reducible first | apply And.intro | apply vqx_step | apply vqm_step | refine vkp_free (by decide +kernel) ?_ | intro _) | refine zaW (j7 ui3 ui4 ui9 ui23 ui26 ui24 he) ?_ | (((with_reducible refine (h12 _).mono ?_); rintro _ S ⟨rfl, rfl⟩); (try refine zs (j7 ui3 ui4 ui9 ui23 ui26 ui24 he) ?_)) | (with_reducible first | refine vfresh_set ?_ | refine vfresh_intro (fun _ _ => ?_) | refine vif_intro (fun _ => ?_) (fun _ => ?_)) | omega | refine zt (j7 ui3 ui4 ui9 ui23 ui26 ui24 he) ?_ | fail)
  exact ⟨_, .refl _, rfl⟩
theorem p7 {e : Ex} (h : Sm e) : ∀ σ, VCalls Tryz.prog 13 [.agg (exA e), .agg (exA e)] σ (fun x σ' => x = .b true ∧ σ' = σ) := by
  induction h with
  | leaf k op t n v => exact fun σ => p7w k op t n v [] (p12 [] (fun i hi => by simp at hi) (by simp)) σ
  | one k op t n v e h ih =>
    exact fun σ => p7w k op t n v [e] (p12 [e] (fun i hi => by
      obtain rfl : i = 0 := by simp at hi; omega
      exact ih) (by simp)) σ
  | two k op t n v e f h h2 ih ih2 =>
    exact fun σ => p7w k op t n v [e, f] (p12 [e, f] (fun i hi => by
      match i, hi with
      | 0, _ => exact ih
      | 1, _ => exact ih2) (by simp)) σ
end Go.Proofs.YtjdapkelojdefaaGreatDoor

set_option linter.unusedVariables false
namespace Go.Parse
open Go.V Go.Lex Go.Proofs.YtjdapkelojdefaaGreatDoor
def tq (x y : Tk) : Prop := x.1 = y.1 ∧ x.2.1 = y.2.1 ∧ x.2.2.1 = y.2.2.1
inductive Tq : List Tk → List Tk → Prop
  | nil : Tq [] []
  | cons (x y : Tk) (i j : List Tk) (h : tq x y) (t : Tq i j) : Tq (x :: i) (y :: j)
structure Sim (δ : Int) (w : By) (s s' : Rd) : Prop where
  c : s.c = 0
  c' : s'.c = 0
  d : s'.d = s.d + δ
  wf : WF s.l
  wf' : WF s'.l
  l : ∃ i j e z r, s.l = i ++ [e] ∧ s'.l = j ++ z :: r ∧ Tq i j ∧ e.1 = 6 ∧ z.1 = 5 ∧ z.2.1 = w ∧ (∀ x ∈ i, x.1 ≠ 6) ∧ r.length = 1
variable {δ : Int} {w : By}
theorem takeWhile_all {α : Type} (p : α → Bool) : ∀ (l : List α), (∀ x ∈ l, p x = true) → l.takeWhile p = l
  | [], _ => rfl
  | x :: l, h => by
    rw [List.takeWhile_cons, if_pos (h x (by simp)), takeWhile_all p l (fun y hy => h y (by simp [hy]))]
theorem Sim.is {s s' : Rd} (h : Sim δ w s s') (ws : List By) (hw : w ∉ ws) : s'.is ws = s.is ws := by
  obtain ⟨i, j, e, z, r, h1, h2, h3, h4, h5, h6⟩ := h.l
  have e1 := h.c
  have e2 := h.c'
  unfold Rd.is
  cases h3 with
  | nil =>
    have g1 : hd s.l = e := by rw [h1]; rfl
    have g2 : hd s'.l = z := by rw [h2]; rfl
    rw [g1, g2, if_pos (c := s.c ≠ 0 ∨ _) (.inr ⟨by omega, by omega⟩), if_neg (by omega), h6.1, if_neg]
    intro hlt
    have hall : ∀ x ∈ ws, (x != w) = true := fun x hx => by
      simp only [bne_iff_ne, ne_eq]
      exact fun e => hw (e ▸ hx)
    have : idx w ws = ws.length := by
      unfold idx
      rw [takeWhile_all _ ws hall]
    omega
  | cons x y i j hxy ht =>
    obtain ⟨q1, q2, q3⟩ := hxy
    have g1 : hd s.l = x := by rw [h1]; rfl
    have g2 : hd s'.l = y := by rw [h2]; rfl
    rw [g1, g2, q1, q2, e1, e2]
theorem Sim.next {s s' : Rd} (h : Sim δ w s s') (hk : (hd s.l).1 ≠ 6) : Sim δ w s.next s'.next ∧ tq (hd s.l) (hd s'.l) := by
  obtain ⟨i, j, e, z, r, h1, h2, h3, h4, h5, h6⟩ := h.l
  cases h3 with
  | nil =>
    have g1 : hd s.l = e := by rw [h1]; rfl
    rw [g1] at hk
    exact absurd h4 hk
  | cons x y i j hxy ht =>
    have g1 : hd s.l = x := by rw [h1]; rfl
    have g2 : hd s'.l = y := by rw [h2]; rfl
    have hk' : (hd s'.l).1 ≠ 6 := by rw [g2, ← hxy.1, ← g1]; exact hk
    refine ⟨⟨h.c, h.c', h.d, (h.wf.tail hk).1, (h.wf'.tail hk').1, i, j, e, z, r, ?_, ?_, ht, h4, h5, h6.1, fun x hx => h6.2.1 x (List.mem_cons_of_mem _ hx), h6.2.2⟩, by rw [g1, g2]; exact hxy⟩
    · show s.l.tail = _
      rw [h1]; rfl
    · show s'.l.tail = _
      rw [h2]; rfl
theorem Sim.nextIs {s s' : Rd} (h : Sim δ w s s') {ws : List By} (hk : 0 ≤ s.is ws) : Sim δ w s.next s'.next := (h.next (by obtain ⟨_, h2, _⟩ := is_pos hk; omega)).1
theorem Sim.has {s s' : Rd} (h : Sim δ w s s') {v : By} (hv : s.has v = true) : s'.has v = true ∧ Sim δ w s.next s'.next := by
  have hk : 0 ≤ s.is [v] := of_decide_eq_true hv
  obtain ⟨h1, h2, h3, _⟩ := is_pos hk
  obtain ⟨g1, g2, g3, g4⟩ := h.next (by omega)
  refine ⟨decide_eq_true ?_, g1⟩
  unfold Rd.is
  rw [if_neg (by rw [h.c', ← g2]; simp only [ne_eq, not_true_eq_false, false_or]; omega), ← g3, if_pos h3]
  omega
theorem fail_c {s : Rd} {e : Int} (he : e ≠ 0) : (s.fail e).c ≠ 0 := by
  unfold Rd.fail
  split
  · exact he
  · assumption
theorem Sim.must {s s' : Rd} : ∀ (ws : List By) {s s' : Rd}, Sim δ w s s' → (s.must ws).c = 0 → Sim δ w (s.must ws) (s'.must ws)
  | [], s, s', h, _ => h
  | v :: ws, s, s', h, hc => by
    unfold Rd.must at hc ⊢
    by_cases hv : s.has v = true
    · obtain ⟨g1, g2⟩ := h.has hv
      rw [if_pos hv] at hc ⊢
      rw [if_pos g1]
      exact Sim.must (s := s) (s' := s') ws g2 hc
    · rw [if_neg hv] at hc
      exact absurd hc (by
        have o := ok_fail h.wf 4
        have hne := fail_c (s := s) (e := 4) (by decide)
        rw [((ok_must ws _ o.wf).c hne).1]
        exact hne)
theorem Sim.take {s s' : Rd} (h : Sim δ w s s') {k : Nat} (hk : k ≠ 6) (hc : (s.take k).c = 0) : Sim δ w (s.take k) (s'.take k) ∧ (s'.tok k).2.1 = (s.tok k).2.1 ∧ (s'.tok k).2.2.1 = (s.tok k).2.2.1 := by
  by_cases ht : s.takes k
  · obtain ⟨g1, g2, g3, g4⟩ := h.next (by rw [ht.2]; exact hk)
    have ht' : s'.takes k := ⟨h.c', by rw [← g2]; exact ht.2⟩
    unfold Rd.take Rd.tok
    rw [if_pos ht, if_pos ht', if_pos ht, if_pos ht']
    exact ⟨g1, g3.symm, g4.symm⟩
  · unfold Rd.take at hc
    rw [if_neg ht] at hc
    exact absurd hc (fail_c (by decide))
variable {d : Int}
theorem lit3 {s : Rd} (hc : s.c = 0) (h3 : (hd s.l).1 = 3) : s.lit = (((1, ((hd s.l).2.2.1 : Nat), []) : Vl), true, s.next) := by
  unfold Rd.lit
  rw [if_neg (by rw [hc]; simp), if_pos h3]
theorem lit4 {s : Rd} (hc : s.c = 0) (h3 : (hd s.l).1 ≠ 3) (h4 : (hd s.l).1 = 4) : s.lit = (((2, 0, (hd s.l).2.1) : Vl), true, s.next) := by
  unfold Rd.lit
  rw [if_neg (by rw [hc]; simp), if_neg h3, if_pos h4]
theorem lite {s : Rd} (hc : s.c = 0) (h3 : (hd s.l).1 ≠ 3) (h4 : (hd s.l).1 ≠ 4) (h : s.is [wMinus] < 0 ∨ (hd s.next.l).1 ≠ 3) : s.lit = (v0, s.has wNull, s.pass [wNull]) := by
  have e1 : s.l.getD 1 (0, [], 0, 0) = hd s.next.l := by
    unfold hd Rd.next
    rw [List.getD_eq_getElem?_getD, List.getD_eq_getElem?_getD, List.getElem?_tail]
  unfold Rd.lit
  rw [if_neg (by rw [hc]; simp), if_neg h3, if_neg h4, e1, if_pos h]
theorem litm {s : Rd} (hc : s.c = 0) (h3 : (hd s.l).1 ≠ 3) (h4 : (hd s.l).1 ≠ 4) (h : ¬ (s.is [wMinus] < 0 ∨ (hd s.next.l).1 ≠ 3)) : s.lit = ((1, IntKind.i64.wrap (0 - ((hd s.next.l).2.2.1 : Int)), []), true, s.next.next) := by
  have e1 : s.l.getD 1 (0, [], 0, 0) = hd s.next.l := by
    unfold hd Rd.next
    rw [List.getD_eq_getElem?_getD, List.getD_eq_getElem?_getD, List.getElem?_tail]
  unfold Rd.lit
  rw [if_neg (by rw [hc]; simp), if_neg h3, if_neg h4, e1, if_neg h]
theorem Sim.end6 {s s' : Rd} (h : Sim δ w s s') (h6 : (hd s.l).1 = 6) : (hd s'.l).1 = 5 ∨ (hd s'.l).1 = 6 := by
  obtain ⟨i, j, e, z, r, g1, g2, g3, g4, g5, g6⟩ := h.l
  cases g3 with
  | nil => rw [g2]; exact .inl g5
  | cons x y i j hxy ht =>
    have a1 : hd s.l = x := by rw [g1]; rfl
    have a2 : hd s'.l = y := by rw [g2]; rfl
    rw [a2, ← hxy.1, ← a1]
    exact .inr h6
theorem Sim.lit {s s' : Rd} (h : Sim δ w s s') (h1 : w ≠ wMinus) (h2 : w ≠ wNull) : s'.lit.1 = s.lit.1 ∧ s'.lit.2.1 = s.lit.2.1 ∧ Sim δ w s.lit.2.2 s'.lit.2.2 := by
  have i1 := h.is [wMinus] (by simpa using h1)
  have i2 := h.is [wNull] (by simpa using h2)
  have hnull : s'.has wNull = s.has wNull ∧ Sim δ w (s.pass [wNull]) (s'.pass [wNull]) := by
    refine ⟨by unfold Rd.has; rw [i2], ?_⟩
    unfold Rd.pass
    rw [i2]
    split
    · exact h.nextIs ‹_›
    · exact h
  have hc := h.c
  have hc' := h.c'
  by_cases h6 : (hd s.l).1 = 6
  · have h5 := h.end6 h6
    have hm : s.is [wMinus] < 0 := by
      rcases Int.lt_or_le (s.is [wMinus]) 0 with h' | h'
      · exact h'
      · obtain ⟨_, q, _⟩ := is_pos h'; omega
    rw [lite hc (by omega) (by omega) (.inl hm), lite hc' (by omega) (by omega) (.inl (by rw [i1]; exact hm))]
    exact ⟨rfl, hnull.1, hnull.2⟩
  · obtain ⟨g1, g2, g3, g4⟩ := h.next h6
    by_cases h3 : (hd s.l).1 = 3
    · rw [lit3 hc h3, lit3 hc' (by omega)]
      exact ⟨by rw [g4], rfl, g1⟩
    · by_cases h4 : (hd s.l).1 = 4
      · rw [lit4 hc h3 h4, lit4 hc' (by omega) (by omega)]
        exact ⟨by rw [g3], rfl, g1⟩
      · by_cases hm : s.is [wMinus] < 0
        · rw [lite hc h3 h4 (.inl hm), lite hc' (by omega) (by omega) (.inl (by omega))]
          exact ⟨rfl, hnull.1, hnull.2⟩
        · by_cases hn : (hd s.next.l).1 = 3
          · obtain ⟨k1, k2, k3, k4⟩ := g1.next (by omega)
            rw [litm hc h3 h4 (by omega), litm hc' (by omega) (by omega) (by omega)]
            exact ⟨by rw [k4], rfl, k1⟩
          · have hn' : (hd s'.next.l).1 ≠ 3 := by
              by_cases h66 : (hd s.next.l).1 = 6
              · have := g1.end6 h66; omega
              · rw [← (g1.next h66).2.1]; exact hn
            rw [lite hc h3 h4 (.inr hn), lite hc' (by omega) (by omega) (.inr hn')]
            exact ⟨rfl, hnull.1, hnull.2⟩
end Go.Parse

set_option linter.unusedVariables false
namespace Go.Parse
open Go.V Go.Lex Go.Proofs.YtjdapkelojdefaaGreatDoor
def manyL {β : Type} (one : Rd → β × Rd) (sep : By) : Nat → List β → Rd → List β × Rd
  | 0, acc, s => (acc ++ [(one (s.fail 2)).1], (one (s.fail 2)).2.pass [sep])
  | k + 1, acc, s => if (one s).2.has sep then manyL one sep k (acc ++ [(one s).1]) ((one s).2.pass [sep]) else (acc ++ [(one s).1], (one s).2.pass [sep])
abbrev many {β : Type} (one : Rd → β × Rd) (most : Nat) (s : Rd) : List β × Rd := manyL one [44] most [] s
structure Gd (s : Rd) : Prop where
  wf : WF s.l
  d : s.d = 0
theorem Gd.ok {s s' : Rd} (h : Gd s) (o : Ok s s') : Gd s' := ⟨o.wf, o.d.trans h.d⟩
end Go.Parse

set_option linter.unusedVariables false
namespace Go.Parse
open Go.V Go.Lex Go.Proofs.YtjdapkelojdefaaGreatDoor
def fT (t : Tk) : Tk := (t.1, t.2.1, t.2.2.1, 0)
def Rd.fg (s : Rd) : Rd := ⟨s.l.map fT, s.d, s.c, 0⟩
def Fg {β : Type} (F : Rd → β × Rd) : Prop := ∀ s, F s.fg = ((F s).1, (F s).2.fg)
theorem getD_fg (l : List Tk) (k : Nat) : (l.map fT).getD k (0, [], 0, 0) = fT (l.getD k (0, [], 0, 0)) := by
  simp only [List.getD_eq_getElem?_getD, List.getElem?_map]
  cases l[k]? <;> rfl
theorem hd_fg (s : Rd) : hd s.fg.l = fT (hd s.l) := getD_fg s.l 0
theorem c_fg (s : Rd) : s.fg.c = s.c := rfl
theorem len_fg (s : Rd) : s.fg.l.length = s.l.length := by unfold Rd.fg; simp
theorem next_fg (s : Rd) : s.fg.next = s.next.fg := by
  unfold Rd.fg Rd.next
  simp [List.map_tail]
theorem fail_fg (s : Rd) (e : Int) : s.fg.fail e = (s.fail e).fg := by
  unfold Rd.fail
  rw [hd_fg, c_fg]
  by_cases h : s.c = 0
  · rw [if_pos h, if_pos h]; rfl
  · rw [if_neg h, if_neg h]
theorem is_fg (s : Rd) (ws : List By) : s.fg.is ws = s.is ws := by
  unfold Rd.is
  rw [hd_fg, c_fg]
  rfl
theorem pass_fg (s : Rd) (ws : List By) : s.fg.pass ws = (s.pass ws).fg := by
  unfold Rd.pass
  rw [is_fg, next_fg]
  split <;> rfl
theorem has_fg (s : Rd) (w : By) : s.fg.has w = s.has w := by
  unfold Rd.has
  rw [is_fg]
theorem must_fg : ∀ (ws : List By) (s : Rd), s.fg.must ws = (s.must ws).fg
  | [], s => rfl
  | w :: ws, s => by
    unfold Rd.must
    rw [has_fg, next_fg, fail_fg]
    split
    · exact must_fg ws s.next
    · exact must_fg ws (s.fail 4)
theorem takes_fg (s : Rd) (k : Nat) : s.fg.takes k ↔ s.takes k := by
  unfold Rd.takes
  rw [hd_fg, c_fg]
  exact Iff.rfl
theorem tok_fg (s : Rd) (k : Nat) : s.fg.tok k = fT (s.tok k) := by
  unfold Rd.tok
  rw [hd_fg]
  by_cases h : s.takes k
  · rw [if_pos h, if_pos ((takes_fg s k).2 h)]
  · rw [if_neg h, if_neg (fun h' => h ((takes_fg s k).1 h'))]
    rfl
theorem take_fg (s : Rd) (k : Nat) : s.fg.take k = (s.take k).fg := by
  unfold Rd.take
  rw [next_fg, fail_fg]
  by_cases h : s.takes k
  · rw [if_pos h, if_pos ((takes_fg s k).2 h)]
  · rw [if_neg h, if_neg (fun h' => h ((takes_fg s k).1 h'))]
theorem fT1 (t : Tk) : (fT t).1 = t.1 := rfl
theorem fT2 (t : Tk) : (fT t).2.1 = t.2.1 := rfl
theorem fT3 (t : Tk) : (fT t).2.2.1 = t.2.2.1 := rfl
theorem lit_fg (s : Rd) : s.fg.lit = (s.lit.1, s.lit.2.1, s.lit.2.2.fg) := by
  have hg : s.fg.l.getD 1 (0, [], 0, 0) = fT (s.l.getD 1 (0, [], 0, 0)) := getD_fg s.l 1
  unfold Rd.lit
  simp only [hd_fg, c_fg, is_fg, hg, next_fg, has_fg, pass_fg, fT1, fT2, fT3]
  repeat' split
  all_goals rfl
theorem fg_column : Fg Rd.column := fun s => by
  unfold Rd.column
  simp only [take_fg, has_fg, tok_fg, next_fg, fT2]
  split <;> rfl
theorem down_fg (s : Rd) : s.fg.down = s.down.fg := by
  unfold Rd.down
  have : ({ s.fg with d := s.fg.d + 1 } : Rd) = ({ s with d := s.d + 1 } : Rd).fg := rfl
  rw [this, fail_fg]
  show (if s.d + 1 > 10 then _ else _) = _
  split <;> rfl
theorem fg_within {F : Pr} (h : Fg F) : Fg (within F) := fun s => by
  unfold within
  rw [down_fg, c_fg, h]
  split <;> rfl
theorem rowL_fg {F : Pr} (h : Fg F) (first : Int) (ws : List By) : ∀ (n : Nat) (e : Ex) (s : Rd), rowL F first ws n e s.fg = ((rowL F first ws n e s).1, (rowL F first ws n e s).2.fg)
  | 0, e, s => rfl
  | n + 1, e, s => by
    unfold rowL
    rw [is_fg, next_fg, h]
    split
    · exact rowL_fg h first ws n _ _
    · rfl
theorem fg_row {F : Pr} (h : Fg F) (first : Int) (ws : List By) : Fg (row F first ws) := fun s => by
  unfold row
  rw [h, len_fg]
  exact rowL_fg h first ws _ _ _
structure Dp.Fg (D : Dp) : Prop where
  fac : Go.Parse.Fg D.fac
  not : Go.Parse.Fg D.not
  ex : Go.Parse.Fg D.ex
theorem fg_fac {D : Dp} (h : D.Fg) : Fg (facL D) := fun s => by
  unfold facL
  simp only [lit_fg, is_fg, next_fg, fg_within h.fac _, fg_within h.ex _, must_fg, fg_column _]
  repeat' split
  all_goals rfl
theorem fg_sum {D : Dp} (h : D.Fg) : Fg (sumL D) := fg_row (fg_row (fg_fac h) _ _) _ _
theorem isNull_fg (e : Ex) (s : Rd) : isNull e s.fg = ((isNull e s).1, (isNull e s).2.fg) := by
  unfold isNull
  simp only [has_fg, next_fg, must_fg]
  split <;> rfl
theorem fg_test {D : Dp} (h : D.Fg) : Fg (testL D) := fun s => by
  unfold testL
  simp only [fg_sum h _, is_fg, next_fg, isNull_fg]
  repeat' split
  all_goals rfl
theorem fg_not {D : Dp} (h : D.Fg) : Fg (notL D) := fun s => by
  unfold notL
  simp only [has_fg, next_fg, fg_within h.not _, fg_test h _]
  split <;> rfl
theorem fg_ex {D : Dp} (h : D.Fg) : Fg (exL D) := fg_row (fg_row (fg_not h) _ _) _ _
theorem dp_fg : ∀ n, (dp n).Fg
  | 0 => ⟨fun s => rfl, fun s => rfl, fun s => rfl⟩
  | n + 1 => ⟨fg_fac (dp_fg n), fg_not (dp_fg n), fg_ex (dp_fg n)⟩
theorem fin_fg (s : Rd) : s.fg.fin = s.fin.fg := by
  unfold Rd.fin
  rw [hd_fg, c_fg, fail_fg, fT1]
  split <;> rfl
theorem rd0_fg (l : List Tk) : (rd0 l).fg = rd0 (l.map fT) := rfl
theorem oneT_fg (l : List Tk) : oneT (l.map fT) = ((oneT l).1, (oneT l).2.fg) := by
  unfold oneT
  rw [← rd0_fg, (dp_fg 11).ex, fin_fg]
theorem one_alike {l m : List Tk} (h : l.map fT = m.map fT) : (oneR l).1 = (oneR m).1 ∧ (oneR l).2.1 = (oneR m).2.1 := by
  have h1 := oneT_fg l
  have h2 := oneT_fg m
  have h1 := h1.symm.trans ((congrArg oneT h).trans h2)
  have e1 : (oneT m).1 = (oneT l).1 := (congrArg Prod.fst h1).symm
  have e2 : (oneT m).2.c = (oneT l).2.c := (congrArg (fun x => x.2.c) h1).symm
  unfold oneR
  rw [e1, e2]
  split <;> exact ⟨rfl, rfl⟩
end Go.Parse

set_option linter.unusedVariables false
set_option linter.unusedSimpArgs false
namespace Go.Print
open Go.V Go.Lex Go.Parse Go.Proofs.YtjdapkelojdefaaGreatDoor
structure DpR (k : Int) (D : Dp) : Prop where
  fac : Rgt k D.fac
  not : Rgt k D.not
  ex : Rgt k D.ex
theorem rg_fac {k : Int} {D : Dp} (hN : D.Nice) (h : DpR (k + 1) D) : Rgt k (facL D) := fun s hd hw hg hc => by
  have o := ok_lit hw
  unfold facL at hc ⊢
  split
  · rename_i h1
    rw [if_pos h1] at hc
    exact rg_lit s hw hg hc h1
  · rename_i h1
    rw [if_neg h1] at hc
    have hg1 := hg.suf o.suf
    have ol := o.le
    split
    · rename_i h2
      rw [if_pos h2] at hc
      have h0 : 0 ≤ s.lit.2.2.is [wMinus, [40]] := by omega
      have o1 := ok_is o.wf h0
      have l1 := is_next o.wf h0
      have q := rg_within h.fac _ ((hd.ok o).ok o1) o1.wf (hg1.suf o1.suf) hc
      refine ⟨?_, (tre_neg q.2).mono ?_⟩
      · have := q.1; dsimp only at this ⊢; omega
      · have := q.1; dsimp only at this ⊢; omega
    · rename_i h2
      rw [if_neg h2] at hc
      split
      · rename_i h3
        rw [if_pos h3] at hc
        have h0 : 0 ≤ s.lit.2.2.is [wMinus, [40]] := by omega
        have o1 := ok_is o.wf h0
        have l1 := is_next o.wf h0
        obtain ⟨m1, m2⟩ := must1 hc
        have o2 := nice_within hN.ex _ o1.wf
        have hc2 : (within D.ex s.lit.2.2.next).2.c = 0 := (is_pos (of_decide_eq_true m1 : 0 ≤ (within D.ex s.lit.2.2.next).2.is [[41]])).1
        have l2 := is_next o2.wf (of_decide_eq_true m1 : 0 ≤ (within D.ex s.lit.2.2.next).2.is [[41]])
        have q := rg_within h.ex _ ((hd.ok o).ok o1) o1.wf (hg1.suf o1.suf) hc2
        have q1 := q.1
        dsimp only
        rw [m2]
        exact ⟨by omega, q.2.mono (by omega)⟩
      · rename_i h3
        rw [if_neg h3] at hc
        have q := rg_column (k := k) _ (hd.ok o) o.wf hg1 hc
        have q1 := q.1
        exact ⟨by omega, q.2.mono (by omega)⟩
theorem rg_sum {k : Int} {D : Dp} (hN : D.Nice) (h : DpR (k + 1) D) : Rgt k (sumL D) := rg_row (nice_row (nice_fac hN) _ _) (rg_row (nice_fac hN) (rg_fac hN h) _ _ (by decide) (by decide)) _ _ (by decide) (by decide)
theorem rg_isNull {e : Ex} {s : Rd} {m : Nat} (hw : WF s.l) (he : TrE e m) (hc : (isNull e s).2.c = 0) : (isNull e s).2.l.length ≤ s.l.length ∧ TrE (isNull e s).1 (m + 6) := by
  unfold isNull at hc ⊢
  split
  · rename_i h
    rw [if_pos h] at hc
    have o := ok_has hw h
    obtain ⟨m1, m2⟩ := must1 hc
    have := (ok_must [wNull] s.next o.wf).le
    have := o.le
    exact ⟨by dsimp only; omega, tre_notnull he⟩
  · rename_i h
    rw [if_neg h] at hc
    have := (ok_must [wNull] s hw).le
    exact ⟨by dsimp only; omega, tre_null he⟩
theorem rg_test {k : Int} {D : Dp} (hN : D.Nice) (h : DpR (k + 1) D) : Rgt k (testL D) := fun s hd hw hg hc => by
  have o := nice_sum hN s hw
  have hS := rg_sum hN h
  unfold testL at hc ⊢
  split
  · rename_i h1
    rw [if_pos h1] at hc
    exact hS s hd hw hg hc
  · rename_i h1
    rw [if_neg h1] at hc
    have h0 : 0 ≤ (sumL D s).2.is tests := by omega
    have hlt := is_lt (sumL D s).2 tests
    have o1 := ok_is o.wf h0
    have l1 := is_next o.wf h0
    have c1 := (is_pos h0).1
    have q := hS s hd hw hg c1
    have q1 := q.1
    split
    · rename_i h2
      rw [if_pos h2] at hc
      have p := hS _ ((hd.ok o).ok o1) o1.wf ((hg.suf o.suf).suf o1.suf) hc
      have p1 := p.1
      dsimp only at p1 ⊢
      exact ⟨by omega, (tre_op (by omega) (by omega) q.2 p.2).mono (by omega)⟩
    · rename_i h2
      rw [if_neg h2] at hc
      have p := rg_isNull o1.wf q.2 hc
      have p1 := p.1
      exact ⟨by omega, p.2.mono (by omega)⟩
theorem rg_not {k : Int} {D : Dp} (hN : D.Nice) (h : DpR (k + 1) D) : Rgt k (notL D) := fun s hd hw hg hc => by
  unfold notL at hc ⊢
  split
  · rename_i h1
    rw [if_pos h1] at hc
    have o1 := ok_has hw h1
    have l1 := is_next hw (of_decide_eq_true h1 : 0 ≤ s.is [wNot])
    have q := rg_within h.not _ (hd.ok o1) o1.wf (hg.suf o1.suf) hc
    have q1 := q.1
    dsimp only at q1 ⊢
    exact ⟨by omega, (tre_not q.2).mono (by omega)⟩
  · rename_i h1
    rw [if_neg h1] at hc
    exact rg_test hN h s hd hw hg hc
theorem rg_ex {k : Int} {D : Dp} (hN : D.Nice) (h : DpR (k + 1) D) : Rgt k (exL D) := rg_row (nice_row (nice_not hN) _ _) (rg_row (nice_not hN) (rg_not hN h) _ _ (by decide) (by decide)) _ _ (by decide) (by decide)
theorem dp_rg : ∀ n : Nat, DpR (11 - (n : Int)) (dp n)
  | 0 => ⟨fun s hd => absurd hd (by unfold Dk; omega), fun s hd => absurd hd (by unfold Dk; omega), fun s hd => absurd hd (by unfold Dk; omega)⟩
  | n + 1 => by
    have h : DpR ((11 - ((n + 1 : Nat) : Int)) + 1) (dp n) := by
      rw [show (11 - ((n + 1 : Nat) : Int)) + 1 = 11 - (n : Int) by omega]
      exact dp_rg n
    exact ⟨rg_fac (dp_nice n) h, rg_not (dp_nice n) h, rg_ex (dp_nice n) h⟩
theorem rg_lim : ∀ t : Tr, t.wf → t.rg → Lim t.ex
  | .val v, hw, hg => by
    have r0 : inR 0 := by unfold inR; omega
    have hv : okV v = true := hw
    have : inR v.1 := by
      rcases okV_cases hv with rfl | ⟨h1, _⟩ | ⟨h1, _⟩
      · exact r0
      · rw [h1]; unfold inR; omega
      · rw [h1]; unfold inR; omega
    exact .mk _ _ _ _ _ _ (by simp) ⟨by unfold inR; omega, r0, this, hg⟩ (fun e he => by cases he)
  | .col t n, hw, hg => by
    have r0 : inR 0 := by unfold inR; omega
    exact .mk _ _ _ _ _ _ (by simp) ⟨by unfold inR; omega, r0, r0, r0⟩ (fun e he => by cases he)
  | .op k a b, hw, hg => by
    have r0 : inR 0 := by unfold inR; omega
    have hk := hw.1
    refine .mk _ _ _ _ _ _ (by simp) ⟨by unfold inR; omega, by unfold inR; omega, r0, r0⟩ (fun e he => ?_)
    simp at he
    rcases he with rfl | rfl
    · exact rg_lim a hw.2.1 hg.1
    · exact rg_lim b hw.2.2 hg.2
  | .not a, hw, hg => by
    have r0 : inR 0 := by unfold inR; omega
    refine .mk _ _ _ _ _ _ (by simp) ⟨by unfold inR; omega, r0, r0, r0⟩ (fun e he => ?_)
    simp at he
    subst he
    exact rg_lim a hw hg
  | .neg a, hw, hg => by
    have r0 : inR 0 := by unfold inR; omega
    refine .mk _ _ _ _ _ _ (by simp) ⟨by unfold inR; omega, r0, r0, r0⟩ (fun e he => ?_)
    simp at he
    subst he
    exact rg_lim a hw hg
  | .null a, hw, hg => by
    have r0 : inR 0 := by unfold inR; omega
    refine .mk _ _ _ _ _ _ (by simp) ⟨by unfold inR; omega, r0, r0, r0⟩ (fun e he => ?_)
    simp at he
    subst he
    exact rg_lim a hw hg
end Go.Print

set_option linter.unusedSimpArgs false
set_option linter.unusedVariables false
namespace Go.Proofs.YtjdapkelojdefaaGreatDoor
open Go Go.V Go.Lex Go.Parse
variable (ρ : Nat) (s : Rd)
end Go.Proofs.YtjdapkelojdefaaGreatDoor

set_option linter.unusedSimpArgs false
set_option linter.unusedVariables false
namespace Go.Proofs.YtjdapkelojdefaaGreatDoor
open Go Go.V Go.Lex Go.Parse
end Go.Proofs.YtjdapkelojdefaaGreatDoor

set_option linter.unusedSimpArgs false
set_option linter.unusedVariables false
namespace Go.Proofs.YtjdapkelojdefaaGreatDoor
open Go Go.V Go.Lex Go.Parse
def grow (τ sz n : Nat) : Own := if n = 0 then .nil else .tok τ sz
variable {β : Type}
end Go.Proofs.YtjdapkelojdefaaGreatDoor

set_option linter.unusedSimpArgs false
set_option linter.unusedVariables false
namespace Go.Proofs.YtjdapkelojdefaaGreatDoor
open Go Go.V Go.Lex Go.Parse
def optA : List Ex → AV
  | [] => .sl .nil []
  | e :: r => .sl .any (exsA (e :: r))
end Go.Proofs.YtjdapkelojdefaaGreatDoor

set_option linter.unusedSimpArgs false
set_option linter.unusedVariables false
namespace Go.Proofs.YtjdapkelojdefaaGreatDoor
open Go Go.V Go.Lex Go.Parse
end Go.Proofs.YtjdapkelojdefaaGreatDoor

set_option linter.unusedSimpArgs false
set_option linter.unusedVariables false
namespace Go.Proofs.YtjdapkelojdefaaGreatDoor
open Go Go.V Go.Lex Go.Parse
end Go.Proofs.YtjdapkelojdefaaGreatDoor

set_option linter.unusedSimpArgs false
set_option linter.unusedVariables false
namespace Go.Proofs.YtjdapkelojdefaaGreatDoor
open Go Go.V Go.Lex Go.Parse
theorem optA_cons (e : Ex) (r : List Ex) : optA (e :: r) = .sl .any (exsA (e :: r)) := rfl
theorem AVw.on (o : Own) (e : Ex) : AVw (.sl o [exA e]) (optA [e]) := by
  rw [optA_cons, ofA]
  exact AVw.any _ _
end Go.Proofs.YtjdapkelojdefaaGreatDoor

set_option linter.unusedSimpArgs false
set_option linter.unusedVariables false
namespace Go.Proofs.YtjdapkelojdefaaGreatDoor
open Go Go.V Go.Lex Go.Parse
end Go.Proofs.YtjdapkelojdefaaGreatDoor

set_option linter.unusedSimpArgs false
set_option linter.unusedVariables false
namespace Go.Proofs.YtjdapkelojdefaaGreatDoor
open Go Go.V Go.Lex Go.Parse
theorem AVw.optA (l : List Ex) : AVw (optA l) (.sl .any (exsA l)) := by
  cases l with
  | nil => rw [exsA_nil]; exact AVw.any _ _
  | cons e r => exact AVw.refl _
end Go.Proofs.YtjdapkelojdefaaGreatDoor

set_option linter.unusedSimpArgs false
set_option linter.unusedVariables false
namespace Go.Proofs.YtjdapkelojdefaaGreatDoor
open Go Go.V Go.Lex Go.Parse
end Go.Proofs.YtjdapkelojdefaaGreatDoor

set_option linter.unusedSimpArgs false
set_option linter.unusedVariables false
namespace Go.Parse
open Go.V Go.Lex Go.Proofs.YtjdapkelojdefaaGreatDoor
def SmL (l : List Ex) : Prop := l.length ≤ 100 ∧ ∀ e ∈ l, Sm e
theorem SmL.nil : SmL [] := ⟨by decide, fun e h => by cases h⟩
theorem SmL.one {e : Ex} (h : Sm e) : SmL [e] := ⟨by simp, fun f hf => by simp at hf; rw [hf]; exact h⟩
end Go.Parse
namespace Go.Proofs.YtjdapkelojdefaaGreatDoor
open Go Go.V Go.Lex Go.Parse
end Go.Proofs.YtjdapkelojdefaaGreatDoor

set_option linter.unusedVariables false
namespace Go.Parse
open Go.V Go.Lex Go.Proofs.YtjdapkelojdefaaGreatDoor
variable {δ : Int} {w : By} {d : Int}
end Go.Parse

set_option linter.unusedVariables false
namespace Go.Parse
open Go.V Go.Lex Go.Proofs.YtjdapkelojdefaaGreatDoor
end Go.Parse

set_option linter.unusedVariables false
namespace Go.Parse
open Go.V Go.Lex Go.Proofs.YtjdapkelojdefaaGreatDoor
end Go.Parse

set_option linter.unusedVariables false
namespace Go.Parse
open Go.V Go.Lex Go.Proofs.YtjdapkelojdefaaGreatDoor
end Go.Parse

set_option linter.unusedVariables false
namespace Go.Parse
open Go.V Go.Lex Go.Proofs.YtjdapkelojdefaaGreatDoor
end Go.Parse

set_option linter.unusedSimpArgs false
set_option linter.unusedVariables false
namespace Go.Parse
open Go.V Go.Lex Go.Proofs.YtjdapkelojdefaaGreatDoor
def Ex.args : Ex → List Ex
  | .mk _ _ _ _ _ l => l
end Go.Parse
namespace Go.Proofs.YtjdapkelojdefaaGreatDoor
open Go Go.V Go.Lex Go.Parse
end Go.Proofs.YtjdapkelojdefaaGreatDoor

set_option linter.unusedVariables false
namespace Go.Lex
open Go.V Go.Proofs.YtjdapkelojdefaaGreatDoor
def padD : Nat → Nat → List UInt8
  | 0, _ => []
  | k + 1, u => padD k (u / 10) ++ [UInt8.ofNat (48 + u % 10)]
theorem padD_len : ∀ k u, (padD k u).length = k
  | 0, u => rfl
  | k + 1, u => by rw [padD, List.length_append, padD_len k]; rfl
theorem padD_add (j : Nat) : ∀ k u, padD (j + k) u = padD j (u / 10 ^ k) ++ padD k u
  | 0, u => by rw [Nat.add_zero, Nat.pow_zero, Nat.div_one, padD, List.append_nil]
  | k + 1, u => by
    rw [← Nat.add_assoc, padD, padD_add j k, padD, Nat.div_div_eq_div_mul, Nat.pow_succ, Nat.mul_comm 10, List.append_assoc]
theorem dec_pad : ∀ (k u : Nat), (k = 0 ∨ 10 ^ k ≤ u) → u < 10 ^ (k + 1) → dec u = padD (k + 1) u
  | 0, u, _, h => by
    rw [dec_lt (by omega), padD, padD, List.nil_append, Nat.mod_eq_of_lt (by omega)]
  | k + 1, u, h1, h2 => by
    have h3 : 10 ^ (k + 1) ≤ u := by rcases h1 with h | h <;> omega
    rw [Nat.pow_succ] at h2 h3
    have hp : 1 ≤ 10 ^ k := Nat.one_le_pow _ _ (by decide)
    rw [dec_ge (by omega), padD, dec_pad k (u / 10) (.inr (by omega)) (by omega)]
theorem pad2 (u : Nat) : padD 2 u = [UInt8.ofNat (48 + u / 10 % 10), UInt8.ofNat (48 + u % 10)] := rfl
theorem pad4 (u : Nat) : padD 4 u = [UInt8.ofNat (48 + u / 10 / 10 / 10 % 10), UInt8.ofNat (48 + u / 10 / 10 % 10), UInt8.ofNat (48 + u / 10 % 10), UInt8.ofNat (48 + u % 10)] := rfl
theorem pad8 (u : Nat) : padD 8 u = [UInt8.ofNat (48 + u / 10 / 10 / 10 / 10 / 10 / 10 / 10 % 10), UInt8.ofNat (48 + u / 10 / 10 / 10 / 10 / 10 / 10 % 10), UInt8.ofNat (48 + u / 10 / 10 / 10 / 10 / 10 % 10), UInt8.ofNat (48 + u / 10 / 10 / 10 / 10 % 10), UInt8.ofNat (48 + u / 10 / 10 / 10 % 10), UInt8.ofNat (48 + u / 10 / 10 % 10), UInt8.ofNat (48 + u / 10 % 10), UInt8.ofNat (48 + u % 10)] := rfl
def nd10 (len : Nat) : Nat := len * 78913 / 262144
theorem nd10_ok : ∀ len, len ≤ 64 → 1 ≤ len → 2 ^ len ≤ 10 ^ (nd10 len + 1) ∧ (nd10 len = 0 ∨ 10 ^ (nd10 len - 1) ≤ 2 ^ (len - 1)) ∧ nd10 len ≤ 19 := by decide +kernel
theorem digits_ok {len u : Nat} (h1 : 1 ≤ len) (h2 : len ≤ 64) (h3 : 2 ^ (len - 1) ≤ u) (h4 : u < 2 ^ len) :
    (10 ^ nd10 len ≤ u → dec u = padD (nd10 len + 1) u) ∧ (u < 10 ^ nd10 len → 1 ≤ nd10 len ∧ dec u = padD (nd10 len) u) := by
  obtain ⟨a, b, c⟩ := nd10_ok len h2 h1
  have hp : 1 ≤ 2 ^ (len - 1) := Nat.one_le_pow _ _ (by decide)
  refine ⟨fun h => dec_pad _ u (.inr h) (by omega), fun h => ?_⟩
  rcases b with b | b
  · rw [b] at h; omega
  · obtain ⟨m, hm⟩ : ∃ m, nd10 len = m + 1 := by
      cases hn : nd10 len with
      | zero => rw [hn] at h; omega
      | succ m => exact ⟨m, rfl⟩
    rw [hm] at b h ⊢
    exact ⟨by omega, dec_pad m u (.inr (by simpa using Nat.le_trans b h3)) h⟩
theorem dec_pow : ∀ n, n < 10 ^ (dec n).length := fun n => by
  induction n using Nat.strongRecOn with
  | ind n ih =>
    by_cases h : n < 10
    · rw [dec_lt h]; simpa using h
    · rw [dec_ge h, List.length_append, List.length_singleton, Nat.pow_succ]
      have := ih (n / 10) (by omega)
      omega
theorem dec_padlen : ∀ n, dec n = padD (dec n).length n := fun n => by
  induction n using Nat.strongRecOn with
  | ind n ih =>
    by_cases h : n < 10
    · rw [dec_lt h]
      show _ = padD 1 n
      rw [padD, padD, List.nil_append, Nat.mod_eq_of_lt h]
    · rw [dec_ge h, List.length_append, List.length_singleton, padD, ← ih (n / 10) (by omega)]
end Go.Lex

set_option linter.unusedVariables false
namespace Go.V
open Go.RowKit
variable {P : Program}
end Go.V

set_option linter.unusedVariables false
namespace Go.V
open Go.RowKit
variable {P : Program}
end Go.V

set_option linter.unusedVariables false
namespace Go.V
open Go.RowKit
variable {P : Program} {σ : Sg}
theorem vCountString {f : FuncId} {fn : Func} {s : ByteArray} {c : UInt8} (hf : P.funcs[f]? = some fn) (hname : (fn.name == "runtime.NumGoroutine") = false) (hb : fn.body.isNone = true) (hn : Extern.findNext fn = none) (he : Extern.find fn = some Extern.BytealgCount.count) :
    VCalls P f [.s s, .u8 c.toNat] σ (fun y σ' => y = .i (s.data.toList.count c : Nat) ∧ σ' = σ) :=
  vextern hf hname hb hn he (fun κ vs hst hargs => by
    obtain ⟨u, v, rfl, hx, hy⟩ := relRow2 hargs
    cases hx
    cases hy
    have h := Lib.run_countString (P := P) s (c.toNat : Int) κ.w
    have hcc : ((c.toNat : Int).toNat).toUInt8 = c := by simp
    rw [hcc] at h
    exact ⟨_, κ.w, h, post_same hst (.val _) ⟨rfl, rfl⟩⟩)
theorem vMakeNoZero {f : FuncId} {fn : Func} {ps : Array TypeId} {t e : TypeId} {n : Nat} (hf : P.funcs[f]? = some fn) (hname : (fn.name == "runtime.NumGoroutine") = false) (hb : fn.body.isNone = true) (hn : Extern.findNext fn = none) (he : Extern.find fn = some (Extern.BytealgMakeNoZero.makeNoZero ps #[t]))
    (ht : P.underlying t = some (.slice e)) (hsz : n ≤ 281474976710656) :
    VCalls P f [.i n] σ (fun y σ' => ∃ τ, σ τ = none ∧ y = .nz τ n 1 ∧ σ' = σ.set τ (.tok (some e))) :=
  vextern hf hname hb hn he (fun κ vs hst hargs => by
    obtain ⟨u, rfl, hx⟩ := relRow1 hargs
    cases hx
    obtain ⟨cs, h1, h2, _⟩ := Lib.run_makeNoZero (P := P) κ.w ps t e ht n hsz
    have hst2 := hst.drew.drew
    obtain ⟨τ, hτ, hτσ⟩ := hst2.fresh
    obtain ⟨hle, hs⟩ := hst2.newTok (τ := τ) (lo := 0) (c := cs) (t := e) (fz := (0, 0)) (e := some e) (Nat.zero_le _) (fun i _ h => by simp at h) (fun t' h => by cases h; exact ⟨rfl, rfl⟩) hτ
    refine ⟨_, _, h1, ⟨_, _, _, ?_, (K.le_drew κ).trans ((K.le_drew _).trans hle), hs, ?_, τ, hτσ σ (.refl σ), rfl, rfl⟩⟩
    · rfl
    · refine .nz τ n 1 κ.w.heap.size cs.size ?_ h2
      simp [K.named, K.drew])
theorem cap_nil (t e ty : TypeId) (l : List TypeId) (σ : Sg) (R : AV → Sg → Prop) (he : P.underlying t = some (.slice e)) : vbuiltin P .cap [.sl .nil []] (List.toArray (t :: l)) ty σ R = R (.i 0) σ := by
  simp only [vbuiltin, true_and, List.getElem?_toArray, List.getElem?_cons_zero, Option.bind_some, he]
  refine propext ⟨fun h => h.2, fun h => ⟨⟨e, rfl⟩, h⟩⟩
theorem vsl_nz (e : TypeId) (τ n sz : Nat) (k : IntKind) (σ : Sg) (R : AV → Prop) : vsl P (some (.slice e)) (.nz τ n sz) none (some (.val (.int k 0))) none σ R = vixE (tInfo P e) (fun s => s = sz ∧ R (.sl (.tok τ sz) [])) := by
  unfold vsl vixE
  simp only [optInt]
  cases tInfo P e <;> simp
theorem vcopy_nil (t e : TypeId) (τ sz : Nat) (σ : Sg) (R : AV → Sg → Prop) (he : P.underlying t = some (.slice e)) (hi : (tInfo P e).isSome = true) : vcopy P t (.sl (.tok τ sz) []) (.sl .nil []) σ R = R (.i 0) σ := by
  unfold vcopy
  simp only [he, elems, hi, true_and]
theorem ev_global (ρ : Nat → AV) (g : Nat) (cs : List Value) (h : gtab g = some cs) : ev ρ (.global g) = .ro (cs.map .val) := by
  show (match gtab g with | some cs => AV.ro (cs.map .val) | none => .val (.pointer (some ⟨g, 0, none⟩))) = _
  rw [h]
end Go.V

set_option linter.unusedSimpArgs false
set_option linter.unusedVariables false
namespace Go.Lex
open Go.V Go.Proofs.YtjdapkelojdefaaGreatDoor
theorem shr_nat (x k : Nat) (t : IntKind) (h : k ≤ t.bits) : ((x : Nat) : Int).fdiv (2 ^ min k t.bits) = ((x / 2 ^ k : Nat) : Int) := by
  rw [Nat.min_eq_left h, Int.fdiv_eq_ediv_of_nonneg _ (by exact_mod_cast Nat.zero_le (2 ^ k))]
  norm_cast
theorem shr32 (x : Nat) : ((x : Nat) : Int).fdiv (2 ^ min 32 IntKind.u64.bits) = ((x / 4294967296 : Nat) : Int) := shr_nat x 32 _ (by decide)
theorem shr16 (x : Nat) : ((x : Nat) : Int).fdiv (2 ^ min 16 IntKind.u64.bits) = ((x / 65536 : Nat) : Int) := shr_nat x 16 _ (by decide)
theorem shr8 (x : Nat) : ((x : Nat) : Int).fdiv (2 ^ min 8 IntKind.u64.bits) = ((x / 256 : Nat) : Int) := shr_nat x 8 _ (by decide)
theorem shr18 (x : Nat) : ((x : Nat) : Int).fdiv (2 ^ min 18 IntKind.i64.bits) = ((x / 262144 : Nat) : Int) := shr_nat x 18 _ (by decide)
theorem len_leaf {L : List UInt8} {b u v : Nat} {c : Int} (hc : c = (b : Nat)) (hv : u / 2 ^ b = v) (h8 : v < 256) (hb : b ≤ 56) (h0 : 1 ≤ v)
    (hL : ∀ k, k < 256 → k < 2 ^ (L.getD k 0).toNat ∧ (1 ≤ k → 1 ≤ (L.getD k 0).toNat ∧ 2 ^ ((L.getD k 0).toNat - 1) ≤ k) ∧ (L.getD k 0).toNat ≤ 8) : ∃ n : Nat, 1 ≤ n ∧ n ≤ 64 ∧ 2 ^ (n - 1) ≤ u ∧ u < 2 ^ n ∧ AV.val (.int .i64 (IntKind.i64.wrap (c + IntKind.i64.wrap ((L.getD v 0).toNat : Int)))) = AV.i n := by
  obtain ⟨a1, a2, a3⟩ := hL v h8
  obtain ⟨a4, a5⟩ := a2 h0
  generalize (L.getD v 0).toNat = t at *
  have hp : 0 < 2 ^ b := Nat.pow_pos (by decide)
  refine ⟨b + t, by omega, by omega, ?_, ?_, by rw [w64 (n := (t : Int)) (by omega) (by omega), w64 (by omega) (by omega), hc]; rfl⟩
  · rw [show b + t - 1 = b + (t - 1) by omega, Nat.pow_add]
    calc 2 ^ b * 2 ^ (t - 1) ≤ 2 ^ b * v := Nat.mul_le_mul_left _ a5
      _ ≤ u := by rw [← hv]; exact Nat.mul_div_le u (2 ^ b)
  · rw [Nat.pow_add]
    have h1 : u < 2 ^ b * (v + 1) := by
      have := Nat.lt_mul_div_succ u hp
      rwa [hv] at this
    exact Nat.lt_of_lt_of_le h1 (Nat.mul_le_mul_left _ a1)
end Go.Lex
namespace Go.Proofs.YtjdapkelojdefaaGreatDoor
open Go Go.V Go.Lex
theorem e55 (b : Bool) (σ : Sg) : VCalls Tryz.prog 200 [.b b] σ (fun x σ' => x = .i (if b then 1 else 0) ∧ σ' = σ) := by
  cases b
  · (refine vfun (fun _ => .no) mixed Tryz.func200 (by kernel_rfl) ?_; simp only [bodyOf, Tryz.f200, zr])
    repeat' (first | with_reducible rfl | exact trivial | exact .inr trivial | (with_reducible first | apply And.intro | apply vqx_step | apply vqm_step | refine vkp_free (by decide +kernel) ?_ | intro _) | refine zaW (j2 ui3 ui4) ?_ | (with_reducible first | refine vfresh_set ?_ | refine vfresh_intro (fun _ _ => ?_) | refine vif_intro (fun _ => ?_) (fun _ => ?_)) | omega | refine zt (j2 ui3 ui4) ?_ | fail)
    all_goals (exact Go.V.zE)
  · (refine vfun (fun _ => .no) mixed Tryz.func200 (by kernel_rfl) ?_; simp only [bodyOf, Tryz.f200, zr])
    repeat' (first | with_reducible rfl | exact trivial | exact .inr trivial | (with_reducible first | apply And.intro | apply vqx_step | apply vqm_step | refine vkp_free (by decide +kernel) ?_ | intro _) | refine zaW (j2 ui3 ui4) ?_ | (with_reducible first | refine vfresh_set ?_ | refine vfresh_intro (fun _ _ => ?_) | refine vif_intro (fun _ => ?_) (fun _ => ?_)) | omega | refine zt (j2 ui3 ui4) ?_ | fail)
    all_goals (exact Go.V.zE)
theorem e53 (n : Nat) (hn : n ≤ 64) (σ : Sg) : VCalls Tryz.prog 198 [.i n] σ (fun x σ' => x = .i (nd10 n) ∧ σ' = σ) := by
  (refine vfun (fun _ => .no) mixed Tryz.func198 (by kernel_rfl) ?_; simp only [bodyOf, Tryz.f198, zr])
  repeat' (first | with_reducible rfl | exact trivial | exact .inr trivial | (with_reducible first | apply And.intro | apply vqx_step | apply vqm_step | refine vkp_free (by decide +kernel) ?_ | intro _) | refine zaW (j2 ui3 ui4) ?_ | (with_reducible first | refine vfresh_set ?_ | refine vfresh_intro (fun _ _ => ?_) | refine vif_intro (fun _ => ?_) (fun _ => ?_)) | omega | refine zt (j2 ui3 ui4) ?_ | fail)
  refine ⟨_, .refl _, ?_, rfl⟩
  have : ((n : Nat) : Int) * 78913 = ((n * 78913 : Nat) : Int) := by omega
  rw [this, shr18]
  rfl
theorem e54 (u : Nat) (h1 : 1 ≤ u) (h2 : u < 2 ^ 64) (σ : Sg) : VCalls Tryz.prog 199 [.val (.int .u64 u)] σ (fun x σ' => (∃ n : Nat, 1 ≤ n ∧ n ≤ 64 ∧ 2 ^ (n - 1) ≤ u ∧ u < 2 ^ n ∧ x = .i n) ∧ σ' = σ) := by
  (refine vfun (fun _ => .no) mixed Tryz.func199 (by kernel_rfl) ?_; simp only [bodyOf, Tryz.f199, zr])
  repeat' (first | with_reducible rfl | exact trivial | exact .inr trivial | (with_reducible first | apply And.intro | apply vqx_step | apply vqm_step | refine vkp_free (by decide +kernel) ?_ | intro _) | refine zaW (j8 ui3 ui4 ui179 ui5 ui9 @shr32 @shr16 @shr8) ?_ | (with_reducible first | refine vfresh_set ?_ | refine vfresh_intro (fun _ _ => ?_) | refine vif_intro (fun _ => ?_) (fun _ => ?_)) | omega | refine zt (j8 ui3 ui4 ui179 ui5 ui9 @shr32 @shr16 @shr8) ?_ | fail)
  all_goals first
    | exact Nat.lt_of_lt_of_le (m := 256) (by omega) (by decide +kernel)
    | exact ⟨_, .refl _, len_leaf (b := 56) (u := u) (by decide) (by omega) (by omega) (by decide) (by omega) (by decide +kernel), rfl⟩
    | exact ⟨_, .refl _, len_leaf (b := 48) (u := u) (by decide) (by omega) (by omega) (by decide) (by omega) (by decide +kernel), rfl⟩
    | exact ⟨_, .refl _, len_leaf (b := 40) (u := u) (by decide) (by omega) (by omega) (by decide) (by omega) (by decide +kernel), rfl⟩
    | exact ⟨_, .refl _, len_leaf (b := 32) (u := u) (by decide) (by omega) (by omega) (by decide) (by omega) (by decide +kernel), rfl⟩
    | exact ⟨_, .refl _, len_leaf (b := 24) (u := u) (by decide) (by omega) (by omega) (by decide) (by omega) (by decide +kernel), rfl⟩
    | exact ⟨_, .refl _, len_leaf (b := 16) (u := u) (by decide) (by omega) (by omega) (by decide) (by omega) (by decide +kernel), rfl⟩
    | exact ⟨_, .refl _, len_leaf (b := 8) (u := u) (by decide) (by omega) (by omega) (by decide) (by omega) (by decide +kernel), rfl⟩
    | exact ⟨_, .refl _, len_leaf (b := 0) (u := u) (by decide) (by omega) (by omega) (by decide) (by omega) (by decide +kernel), rfl⟩
theorem dec_len1 {u r : Nat} (h : dec u = padD r u) : (dec u).length = r := by rw [h, padD_len]
theorem pow_drop : ∀ k, k ≤ 19 → List.drop (k * 1) (List.map AV.val pow10tab) = .val (.int .u64 ((10 ^ k : Nat) : Int)) :: List.drop (k + 1) (List.map AV.val pow10tab)
  | 0, _ => rfl
  | 1, _ => rfl
  | 2, _ => rfl
  | 3, _ => rfl
  | 4, _ => rfl
  | 5, _ => rfl
  | 6, _ => rfl
  | 7, _ => rfl
  | 8, _ => rfl
  | 9, _ => rfl
  | 10, _ => rfl
  | 11, _ => rfl
  | 12, _ => rfl
  | 13, _ => rfl
  | 14, _ => rfl
  | 15, _ => rfl
  | 16, _ => rfl
  | 17, _ => rfl
  | 18, _ => rfl
  | 19, _ => rfl
  | k + 20, h => by omega
theorem nd_le {n : Nat} (h2 : n ≤ 64) (h1 : 1 ≤ n) : nd10 n ≤ 19 := (nd10_ok n h2 h1).2.2
theorem e43 (u : Nat) (h1 : 1 ≤ u) (h2 : u < 2 ^ 64) (σ : Sg) : VCalls Tryz.prog 190 [.val (.int .u64 u)] σ (fun x σ' => x = .i (dec u).length ∧ σ' = σ) := by
  have h54 := fun σ => e54 u h1 h2 σ
  have h53 := fun n hn σ => e53 n hn σ
  have h55 := fun b σ => e55 b σ
  have hg := fun ρ => ev_global ρ 1 pow10tab rfl
  (refine vfun (fun _ => .no) mixed Tryz.func190 (by kernel_rfl) ?_; simp only [bodyOf, Tryz.f190, zr])
  repeat' (first | with_reducible rfl | exact trivial | exact .inr trivial | (with_reducible first | apply And.intro | apply vqx_step | apply vqm_step | refine vkp_free (by decide +kernel) ?_ | intro _) | refine zaW (j5 ui3 ui4 ui179 ui186 hg) ?_ | ((first | ((with_reducible refine VCalls.mono (h54 _) ?_); rintro _ S ⟨⟨n, hn1, hn2, hn3, hn4, rfl⟩, rfl⟩; have hnd := nd_le hn2 hn1) | ((with_reducible refine VCalls.mono (h53 _ (by assumption) _) ?_); rintro _ S ⟨rfl, rfl⟩) | ((with_reducible refine VCalls.mono (h55 _ _) ?_); rintro _ S ⟨rfl, rfl⟩) | with_reducible rw [pow_drop _ (by assumption)]); (try refine zs (j5 ui3 ui4 ui179 ui186 hg) ?_)) | (with_reducible first | refine vfresh_set ?_ | refine vfresh_intro (fun _ _ => ?_) | refine vif_intro (fun _ => ?_) (fun _ => ?_)) | omega | refine zt (j5 ui3 ui4 ui179 ui186 hg) ?_ | fail)

  obtain ⟨d1, d2⟩ := digits_ok hn1 hn2 hn3 hn4
  refine ⟨_, .refl _, ?_, rfl⟩
  by_cases hc : 10 ^ nd10 n ≤ u
  · rw [if_pos (by exact_mod_cast hc), dec_len1 (d1 hc)]
    rfl
  · rw [if_neg (by exact_mod_cast hc), dec_len1 (d2 (by omega)).2]
    simp
theorem small1 : ∀ n, n < 10 → List.drop n (48 :: List.take n [49, 50, 51, 52, 53, 54, 55, 56, 57, 97, 98, 99, 100, 101, 102, 103, 104, 105, 106, 107, 108, 109, 110, 111, 112, 113, 114, 115, 116, 117, 118, 119, 120, 121, 122]) = [UInt8.ofNat (48 + n)] := by decide +kernel
theorem small2 {L : List UInt8} {n : Nat} (h1 : 10 ≤ n) (h2 : n < 100) (hL : ∀ n, n < 100 → List.drop (n * 2) (List.take (n * 2 + 2) L) = padD 2 n) : AV.s (bs (List.drop ((n : Int) * 2).toNat (List.take ((n : Int) * 2 + 2).toNat L))) = AV.s (bs (dec n)) := by
  have e1 : ((n : Int) * 2).toNat = n * 2 := by omega
  have e2 : ((n : Int) * 2 + 2).toNat = n * 2 + 2 := by omega
  rw [e1, e2, hL n h2, dec_pad 1 n (.inr (by omega)) (by omega)]
theorem e42 (n : Nat) (hn : n < 100) (σ : Sg) : VCalls Tryz.prog 189 [.i n] σ (fun x σ' => x = .s (bs (dec n)) ∧ σ' = σ) := by
  (refine vfun (fun _ => .no) mixed Tryz.func189 (by kernel_rfl) ?_; simp only [bodyOf, Tryz.f189, zr])
  repeat' (first | with_reducible rfl | exact trivial | exact .inr trivial | (with_reducible first | apply And.intro | apply vqx_step | apply vqm_step | refine vkp_free (by decide +kernel) ?_ | intro _) | refine zaW (j3 ui3 ui4 ui9) ?_ | (with_reducible first | refine vfresh_set ?_ | refine vfresh_intro (fun _ _ => ?_) | refine vif_intro (fun _ => ?_) (fun _ => ?_)) | omega | refine zt (j3 ui3 ui4 ui9) ?_ | fail)
  all_goals first
    | exact ⟨_, .refl _, by rw [dec_lt (by omega), small1 n (by omega)], rfl⟩
    | exact Int.le_trans (b := 200) (by omega) (by decide +kernel)
    | exact ⟨_, .refl _, small2 (by omega) hn (by decide +kernel), rfl⟩
end Go.Proofs.YtjdapkelojdefaaGreatDoor
