/- Part 13 of the proof: W16, W17, W18, W19, W20, W21, W22, V14. -/
import Derived.Test.YtjdapkelojdefaaGreatDoorN7
import Derived.Test.YtjdapkelojdefaaGreatDoorN12
import Derived.Test.YtjdapkelojdefaaGreatDoorN9
import Derived.Test.YtjdapkelojdefaaGreatDoorN4
import Derived.Test.YtjdapkelojdefaaGreatDoorN3

set_option linter.all false
set_option maxRecDepth 100000
set_option maxHeartbeats 1000000
open Nat renaming reduceEqDiff → zb, reduceAdd → zc, reduceLeDiff → zd, reduceMul → ze, reduceSub → zf
open Int renaming toNat_zero → zj, reduceToNat → zk
open Go.V.Sg renaming set_same → zm, set_ne → zn, set_ne' → zo, del_ne → zp, del_ne' → zq
open Option renaming getD_some → zr
open Go.Cert renaming ne_of2 → zv, ne_ob → zw, lk → zx
open Go.V.VCalls renaming mono → zy
open Go.Proofs.Tryz renaming underlying0 → Z0, underlying3 → Z3, underlying4 → Z4, underlying9 → Z9, underlying22 → Z22, underlying23 → Z23, underlying24 → Z24, underlying25 → Z25, underlying26 → Z26
set_option linter.unusedSimpArgs false
set_option linter.unusedVariables false
namespace Go.Proofs.YtjdapkelojdefaaGreatDoor
open Go Go.V Go.Lex Go.Parse Go.Print
theorem y_value (v : Vl) (σ : Sg) : VCalls Tryz.prog 53 [.agg [.i v.1, .i v.2.1, .s (bs v.2.2)]] σ (fun x σ' => x = .b (okV v) ∧ σ' = σ) := by
  have h5 := y_rightV v
  obtain ⟨k, n, t⟩ := v
  unfold okV
  simp only at h5 ⊢
  generalize rightV k n t = R at *
  (refine vfun (fun _ => .ro) mixed Tryz.func53 (by kernel_rfl) ?_; simp only [bodyOf, Tryz.f53, zr])
  repeat' (first | with_reducible rfl | exact trivial | exact .inr trivial | (with_reducible first | apply And.intro | apply vqx_step | apply vqm_step | refine vkp_free (by decide +kernel) ?_ | intro _) | refine zaY (j7 ui0 ui3 ui4 ui9 ui22 ui23 ui30) ?_ | ((first | ((with_reducible refine zy (h5 _) ?_); rintro _ S ⟨rfl, rfl⟩) | (refine vlo_app zx ?_) | (refine vst_app zx ?_)); (try refine zsY (j7 ui0 ui3 ui4 ui9 ui22 ui23 ui30) ?_)) | (with_reducible first | refine vfresh_set ?_ | refine vfresh_intro (fun _ _ => ?_) | refine vif_intro (fun _ => ?_) (fun _ => ?_)) | omega | refine ztY (j7 ui0 ui3 ui4 ui9 ui22 ui23 ui30) ?_ | fail)
  all_goals exact ⟨_, .refl _, b_eq (by simp_all <;> omega), rfl⟩
theorem y_rights (l : List Ex) (h : ∀ e ∈ l, ∀ σ, VCalls Tryz.prog 23 [.agg (exA e)] σ (fun x σ' => x = .b (rt e) ∧ σ' = σ)) (hl : l.length ≤ 9223372036854775807) (σ : Sg) : VCalls Tryz.prog 55 [.sl .any (exsA l)] σ (fun x σ' => x = .b (rts l) ∧ σ' = σ) := by
  have hn := exsA_len l
  have hall := exsA_all l
  (refine vfun (fun _ => .no) mixed Tryz.func55 (by kernel_rfl) ?_; simp only [bodyOf, Tryz.f55, zr])
  repeat' (first | with_reducible rfl | exact trivial | exact .inr trivial | (with_reducible first | apply And.intro | apply vqx_step | apply vqm_step | refine vkp_free (by decide +kernel) ?_ | intro _) | refine zaY (j3 ui0 ui3 (j9 ui4 ui9 ui22 ui23 ui24 ui25 ui26 hn hall)) ?_ | ((first | ((with_reducible refine zy (y_right _ (by assumption) _) ?_); rintro _ S ⟨rfl, rfl⟩) | (refine vlo_app zx ?_) | (refine vst_app zx ?_)); (try refine zsY (j3 ui0 ui3 (j9 ui4 ui9 ui22 ui23 ui24 ui25 ui26 hn hall)) ?_)) | (with_reducible first | refine vfresh_set ?_ | refine vfresh_intro (fun _ _ => ?_) | refine vif_intro (fun _ => ?_) (fun _ => ?_)) | omega | refine ztY (j3 ui0 ui3 (j9 ui4 ui9 ui22 ui23 ui24 ui25 ui26 hn hall)) ?_ | fail)
  refine VW.loop3 (0 : Nat) () () (fun k _ _ => k ≤ l.length ∧ rts l = rts (l.drop k)) (fun k _ _ => [(0, .sl .any (exsA l)), (3, .i k)]) (fun _ _ _ => σ) (fun k _ _ => l.length - k) ⟨Nat.zero_le _, rfl⟩ (.refl _) ?_ ?_
  · simp only [vO, vQ, ↓vP, vE, vS, vB, vL, vF, vM, vN, vbs_full, zb, zc, zd, ne_eq, not_false_eq_true, ze, zf, zj, zk, vT]
    all_goals rfl
  rintro k _ _ ⟨hk, hr⟩
  rcases Nat.lt_or_ge k l.length with hk2 | hk2
  · have hg := exsA_get hk2
    have hp := h _ (List.getElem_mem hk2)
    have hd : rts (l.drop k) = (rt l[k] && rts (l.drop (k + 1))) := by rw [List.drop_eq_getElem_cons hk2, rts_cons]
    have hFl := exA_len l[k]
    have hFt := exA_take l[k]
    generalize exA l[k] = E at *
    generalize rt l[k] = b at *
    cases b with
    | false =>
      rw [hr, hd]
      repeat' (first | with_reducible rfl | exact trivial | exact .inr trivial | (with_reducible first | apply And.intro | apply vqx_step | apply vqm_step | refine vkp_free (by decide +kernel) ?_ | intro _) | refine zaY (j6 ui0 ui3 ui4 ui9 ui22 (j9 ui23 ui24 ui25 ui26 hn hall hg hFl hFt)) ?_ | ((first | ((with_reducible refine zy (hp _) ?_); rintro _ S ⟨rfl, rfl⟩) | ((with_reducible refine zy (y_right _ (by assumption) _) ?_); rintro _ S ⟨rfl, rfl⟩) | (refine vlo_app zx ?_) | (refine vst_app zx ?_)); (try refine zsY (j6 ui0 ui3 ui4 ui9 ui22 (j9 ui23 ui24 ui25 ui26 hn hall hg hFl hFt)) ?_)) | (with_reducible first | refine vfresh_set ?_ | refine vfresh_intro (fun _ _ => ?_) | refine vif_intro (fun _ => ?_) (fun _ => ?_)) | omega | refine ztY (j6 ui0 ui3 ui4 ui9 ui22 (j9 ui23 ui24 ui25 ui26 hn hall hg hFl hFt)) ?_ | fail)
      all_goals first | exact ⟨_, .refl _, rfl⟩ | exact ⟨_, .refl _, rfl, rfl⟩
    | true =>
      repeat' (first | with_reducible rfl | exact trivial | exact .inr trivial | (with_reducible first | apply And.intro | apply vqx_step | apply vqm_step | refine vkp_free (by decide +kernel) ?_ | intro _) | refine zaY (j6 ui0 ui3 ui4 ui9 ui22 (j9 ui23 ui24 ui25 ui26 hn hall hg hFl hFt)) ?_ | ((first | ((with_reducible refine zy (hp _) ?_); rintro _ S ⟨rfl, rfl⟩) | ((with_reducible refine zy (y_right _ (by assumption) _) ?_); rintro _ S ⟨rfl, rfl⟩) | (refine vlo_app zx ?_) | (refine vst_app zx ?_)); (try refine zsY (j6 ui0 ui3 ui4 ui9 ui22 (j9 ui23 ui24 ui25 ui26 hn hall hg hFl hFt)) ?_)) | (with_reducible first | refine vfresh_set ?_ | refine vfresh_intro (fun _ _ => ?_) | refine vif_intro (fun _ => ?_) (fun _ => ?_)) | omega | refine ztY (j6 ui0 ui3 ui4 ui9 ui22 (j9 ui23 ui24 ui25 ui26 hn hall hg hFl hFt)) ?_ | fail)
      exact ⟨k + 1, (), (), ⟨⟨hk2, by rw [hr, hd]; rfl⟩, by omega⟩, .refl _, rfl⟩
  · rw [hr, List.drop_of_length_le hk2, rts_nil]
    repeat' (first | with_reducible rfl | exact trivial | exact .inr trivial | (with_reducible first | apply And.intro | apply vqx_step | apply vqm_step | refine vkp_free (by decide +kernel) ?_ | intro _) | refine zaY (j3 ui0 ui3 (j9 ui4 ui9 ui22 ui23 ui24 ui25 ui26 hn hall)) ?_ | ((first | ((with_reducible refine zy (y_right _ (by assumption) _) ?_); rintro _ S ⟨rfl, rfl⟩) | (refine vlo_app zx ?_) | (refine vst_app zx ?_)); (try refine zsY (j3 ui0 ui3 (j9 ui4 ui9 ui22 ui23 ui24 ui25 ui26 hn hall)) ?_)) | (with_reducible first | refine vfresh_set ?_ | refine vfresh_intro (fun _ _ => ?_) | refine vif_intro (fun _ => ?_) (fun _ => ?_)) | omega | refine ztY (j3 ui0 ui3 (j9 ui4 ui9 ui22 ui23 ui24 ui25 ui26 hn hall)) ?_ | fail)
    all_goals exact ⟨_, .refl _, rfl⟩
theorem y_right (e : Ex) (hL : Lim e) : ∀ σ, VCalls Tryz.prog 23 [.agg (exA e)] σ (fun x σ' => x = .b (rt e) ∧ σ' = σ) := by
  induction hL with
  | mk k op t n v l hl hr hall ih =>
    intro σ
    have hcon := y_rights l (fun e he σ => ih e he σ) (by omega)
    rw [exA_mk, rt_mk]
    have hn := exsA_len l
    clear hr hall ih
    have hwr := y_value v
    have hb0 : l = [] → rts l = true := fun h => by rw [h, rts_nil]
    generalize rts l = b at *
    generalize exsA l = LL at *
    unfold rtN
    generalize hov : okV v = ov at *
    obtain ⟨v1, v2, v3⟩ := v
    simp only at hwr
    by_cases h1 : k = 1
    · subst h1
      (refine vfun (fun k => if k = 1 then .ro else .no) mixed Tryz.func23 (by kernel_rfl) ?_; simp only [bodyOf, Tryz.f23, zr])
      repeat' (first | with_reducible rfl | exact trivial | exact .inr trivial | (with_reducible first | apply And.intro | apply vqx_step | apply vqm_step | refine vkp_free (by decide +kernel) ?_ | intro _) | refine zaR (j3 ui0 ui3 (j9 ui4 ui9 ui22 ui23 ui24 ui25 ui26 hn @eq23)) ?_ | refine zkN (j3 ui0 ui3 (j9 ui4 ui9 ui22 ui23 ui24 ui25 ui26 hn @eq23)) ?_ | ((first | (refine vkp_keep (by intro β h; first | (rcases h with h | h <;> subst h <;> (simp (disch := first | assumption | (apply zv; assumption; assumption) | (apply zw; assumption; assumption; (intro e; cases e; done)) | omega) only [zm, zn, zo, zp, zq])) | (subst h; (simp (disch := first | assumption | (apply zv; assumption; assumption) | (apply zw; assumption; assumption; (intro e; cases e; done)) | omega) only [zm, zn, zo, zp, zq]))) ?_) | ((with_reducible refine zy (hwr _) ?_); rintro _ S ⟨rfl, rfl⟩) | ((with_reducible refine zy (hcon _) ?_); rintro _ S ⟨rfl, rfl⟩) | ((with_reducible refine zy (y_value _ _) ?_); rintro _ S ⟨rfl, rfl⟩) | ((with_reducible refine zy (y_name _ _) ?_); rintro _ S ⟨rfl, rfl⟩) | (refine vlo_app zx ?_) | (refine vst_app zx ?_)); (try refine zsR (j3 ui0 ui3 (j9 ui4 ui9 ui22 ui23 ui24 ui25 ui26 hn @eq23)) ?_)) | refine zmR (j3 ui0 ui3 (j9 ui4 ui9 ui22 ui23 ui24 ui25 ui26 hn @eq23)) ?_ | (with_reducible first | refine vfresh_set ?_ | refine vfresh_intro (fun _ _ => ?_) | refine vif_intro (fun _ => ?_) (fun _ => ?_)) | omega | refine ztR (j3 ui0 ui3 (j9 ui4 ui9 ui22 ui23 ui24 ui25 ui26 hn @eq23)) ?_ | fail)
      all_goals exact ⟨σ, (by (exact Go.V.zu)), b_eq (by simp_all <;> omega), rfl⟩
    by_cases h2 : k = 2
    · subst h2
      rw [if_neg h1]
      have hnn : isNm [] = false := rfl
      generalize hq1 : isNm n = bn at *
      generalize hq2 : isNm t = bt at *
      have hN1 : ∀ σ, VCalls Tryz.prog 54 [.s (bs n)] σ (fun x σ' => x = .b bn ∧ σ' = σ) := fun σ => by rw [← hq1]; exact y_name n σ
      have hN2 : ∀ σ, VCalls Tryz.prog 54 [.s (bs t)] σ (fun x σ' => x = .b bt ∧ σ' = σ) := fun σ => by rw [← hq2]; exact y_name t σ
      (refine vfun (fun k => if k = 1 then .ro else .no) mixed Tryz.func23 (by kernel_rfl) ?_; simp only [bodyOf, Tryz.f23, zr])
      repeat' (first | with_reducible rfl | exact trivial | exact .inr trivial | (with_reducible first | apply And.intro | apply vqx_step | apply vqm_step | refine vkp_free (by decide +kernel) ?_ | intro _) | refine zaR (j3 ui0 ui3 (j9 ui4 ui9 ui22 ui23 ui24 ui25 ui26 hn @eq23)) ?_ | refine zkN (j3 ui0 ui3 (j9 ui4 ui9 ui22 ui23 ui24 ui25 ui26 hn @eq23)) ?_ | ((first | (refine vkp_keep (by intro β h; first | (rcases h with h | h <;> subst h <;> (simp (disch := first | assumption | (apply zv; assumption; assumption) | (apply zw; assumption; assumption; (intro e; cases e; done)) | omega) only [zm, zn, zo, zp, zq])) | (subst h; (simp (disch := first | assumption | (apply zv; assumption; assumption) | (apply zw; assumption; assumption; (intro e; cases e; done)) | omega) only [zm, zn, zo, zp, zq]))) ?_) | ((with_reducible refine zy (hN1 _) ?_); rintro _ S ⟨rfl, rfl⟩) | ((with_reducible refine zy (hN2 _) ?_); rintro _ S ⟨rfl, rfl⟩) | ((with_reducible refine zy (hcon _) ?_); rintro _ S ⟨rfl, rfl⟩) | ((with_reducible refine zy (y_value _ _) ?_); rintro _ S ⟨rfl, rfl⟩) | ((with_reducible refine zy (y_name _ _) ?_); rintro _ S ⟨rfl, rfl⟩) | (refine vlo_app zx ?_) | (refine vst_app zx ?_)); (try refine zsR (j3 ui0 ui3 (j9 ui4 ui9 ui22 ui23 ui24 ui25 ui26 hn @eq23)) ?_)) | refine zmR (j3 ui0 ui3 (j9 ui4 ui9 ui22 ui23 ui24 ui25 ui26 hn @eq23)) ?_ | (with_reducible first | refine vfresh_set ?_ | refine vfresh_intro (fun _ _ => ?_) | refine vif_intro (fun _ => ?_) (fun _ => ?_)) | omega | refine ztR (j3 ui0 ui3 (j9 ui4 ui9 ui22 ui23 ui24 ui25 ui26 hn @eq23)) ?_ | fail)
      all_goals exact ⟨σ, (by (exact Go.V.zu)), b_eq (by simp_all <;> omega), rfl⟩
    by_cases h3 : k = 3
    · subst h3
      rw [if_neg h1, if_neg h2]
      (refine vfun (fun k => if k = 1 then .ro else .no) mixed Tryz.func23 (by kernel_rfl) ?_; simp only [bodyOf, Tryz.f23, zr])
      repeat' (first | with_reducible rfl | exact trivial | exact .inr trivial | (with_reducible first | apply And.intro | apply vqx_step | apply vqm_step | refine vkp_free (by decide +kernel) ?_ | intro _) | refine zaR (j3 ui0 ui3 (j9 ui4 ui9 ui22 ui23 ui24 ui25 ui26 hn @eq23)) ?_ | refine zkN (j3 ui0 ui3 (j9 ui4 ui9 ui22 ui23 ui24 ui25 ui26 hn @eq23)) ?_ | ((first | (refine vkp_keep (by intro β h; first | (rcases h with h | h <;> subst h <;> (simp (disch := first | assumption | (apply zv; assumption; assumption) | (apply zw; assumption; assumption; (intro e; cases e; done)) | omega) only [zm, zn, zo, zp, zq])) | (subst h; (simp (disch := first | assumption | (apply zv; assumption; assumption) | (apply zw; assumption; assumption; (intro e; cases e; done)) | omega) only [zm, zn, zo, zp, zq]))) ?_) | ((with_reducible refine zy (hcon _) ?_); rintro _ S ⟨rfl, rfl⟩) | ((with_reducible refine zy (y_value _ _) ?_); rintro _ S ⟨rfl, rfl⟩) | ((with_reducible refine zy (y_name _ _) ?_); rintro _ S ⟨rfl, rfl⟩) | (refine vlo_app zx ?_) | (refine vst_app zx ?_)); (try refine zsR (j3 ui0 ui3 (j9 ui4 ui9 ui22 ui23 ui24 ui25 ui26 hn @eq23)) ?_)) | refine zmR (j3 ui0 ui3 (j9 ui4 ui9 ui22 ui23 ui24 ui25 ui26 hn @eq23)) ?_ | (with_reducible first | refine vfresh_set ?_ | refine vfresh_intro (fun _ _ => ?_) | refine vif_intro (fun _ => ?_) (fun _ => ?_)) | omega | refine ztR (j3 ui0 ui3 (j9 ui4 ui9 ui22 ui23 ui24 ui25 ui26 hn @eq23)) ?_ | fail)
      all_goals exact ⟨σ, (by (exact Go.V.zu)), b_eq (by simp_all <;> omega), rfl⟩
    by_cases h4 : k = 4 ∨ k = 5 ∨ k = 6
    · rw [if_neg h1, if_neg h2, if_neg h3, if_pos h4]
      (refine vfun (fun k => if k = 1 then .ro else .no) mixed Tryz.func23 (by kernel_rfl) ?_; simp only [bodyOf, Tryz.f23, zr])
      repeat' (first | with_reducible rfl | exact trivial | exact .inr trivial | (with_reducible first | apply And.intro | apply vqx_step | apply vqm_step | refine vkp_free (by decide +kernel) ?_ | intro _) | refine zaR (j3 ui0 ui3 (j9 ui4 ui9 ui22 ui23 ui24 ui25 ui26 hn @eq23)) ?_ | refine zkN (j3 ui0 ui3 (j9 ui4 ui9 ui22 ui23 ui24 ui25 ui26 hn @eq23)) ?_ | ((first | (refine vkp_keep (by intro β h; first | (rcases h with h | h <;> subst h <;> (simp (disch := first | assumption | (apply zv; assumption; assumption) | (apply zw; assumption; assumption; (intro e; cases e; done)) | omega) only [zm, zn, zo, zp, zq])) | (subst h; (simp (disch := first | assumption | (apply zv; assumption; assumption) | (apply zw; assumption; assumption; (intro e; cases e; done)) | omega) only [zm, zn, zo, zp, zq]))) ?_) | ((with_reducible refine zy (hcon _) ?_); rintro _ S ⟨rfl, rfl⟩) | ((with_reducible refine zy (y_value _ _) ?_); rintro _ S ⟨rfl, rfl⟩) | ((with_reducible refine zy (y_name _ _) ?_); rintro _ S ⟨rfl, rfl⟩) | (refine vlo_app zx ?_) | (refine vst_app zx ?_)); (try refine zsR (j3 ui0 ui3 (j9 ui4 ui9 ui22 ui23 ui24 ui25 ui26 hn @eq23)) ?_)) | refine zmR (j3 ui0 ui3 (j9 ui4 ui9 ui22 ui23 ui24 ui25 ui26 hn @eq23)) ?_ | (with_reducible first | refine vfresh_set ?_ | refine vfresh_intro (fun _ _ => ?_) | refine vif_intro (fun _ => ?_) (fun _ => ?_)) | omega | refine ztR (j3 ui0 ui3 (j9 ui4 ui9 ui22 ui23 ui24 ui25 ui26 hn @eq23)) ?_ | fail)
      all_goals exact ⟨σ, (by (exact Go.V.zu)), b_eq (by simp_all <;> omega), rfl⟩
    · rw [if_neg h1, if_neg h2, if_neg h3, if_neg h4]
      (refine vfun (fun k => if k = 1 then .ro else .no) mixed Tryz.func23 (by kernel_rfl) ?_; simp only [bodyOf, Tryz.f23, zr])
      repeat' (first | with_reducible rfl | exact trivial | exact .inr trivial | (with_reducible first | apply And.intro | apply vqx_step | apply vqm_step | refine vkp_free (by decide +kernel) ?_ | intro _) | refine zaR (j3 ui0 ui3 (j9 ui4 ui9 ui22 ui23 ui24 ui25 ui26 hn @eq23)) ?_ | refine zkN (j3 ui0 ui3 (j9 ui4 ui9 ui22 ui23 ui24 ui25 ui26 hn @eq23)) ?_ | ((first | (refine vkp_keep (by intro β h; first | (rcases h with h | h <;> subst h <;> (simp (disch := first | assumption | (apply zv; assumption; assumption) | (apply zw; assumption; assumption; (intro e; cases e; done)) | omega) only [zm, zn, zo, zp, zq])) | (subst h; (simp (disch := first | assumption | (apply zv; assumption; assumption) | (apply zw; assumption; assumption; (intro e; cases e; done)) | omega) only [zm, zn, zo, zp, zq]))) ?_) | ((with_reducible refine zy (hcon _) ?_); rintro _ S ⟨rfl, rfl⟩) | ((with_reducible refine zy (y_value _ _) ?_); rintro _ S ⟨rfl, rfl⟩) | ((with_reducible refine zy (y_name _ _) ?_); rintro _ S ⟨rfl, rfl⟩) | (refine vlo_app zx ?_) | (refine vst_app zx ?_)); (try refine zsR (j3 ui0 ui3 (j9 ui4 ui9 ui22 ui23 ui24 ui25 ui26 hn @eq23)) ?_)) | refine zmR (j3 ui0 ui3 (j9 ui4 ui9 ui22 ui23 ui24 ui25 ui26 hn @eq23)) ?_ | (with_reducible first | refine vfresh_set ?_ | refine vfresh_intro (fun _ _ => ?_) | refine vif_intro (fun _ => ?_) (fun _ => ?_)) | omega | refine ztR (j3 ui0 ui3 (j9 ui4 ui9 ui22 ui23 ui24 ui25 ui26 hn @eq23)) ?_ | fail)
      all_goals exact ⟨σ, (by (exact Go.V.zu)), b_eq (by simp_all <;> omega), rfl⟩
end Go.Proofs.YtjdapkelojdefaaGreatDoor

set_option linter.unusedSimpArgs false
set_option linter.unusedVariables false
namespace Go.Proofs.YtjdapkelojdefaaGreatDoor
open Go Go.V Go.Lex Go.Parse Go.Print
abbrev TW : TypeId := 64
theorem x_words0 (ω : Nat) (σ : Sg) : VCalls Tryz.prog 32 [.ref ω 0, .sl .nil []] σ (fun x σ' => x = .tup [] ∧ σ' = σ) := by
  (refine vfun (fun _ => .no) mixed Tryz.func32 (by kernel_rfl) ?_; simp only [bodyOf, Tryz.f32, zr])
  repeat' (first | with_reducible rfl | exact trivial | exact .inr trivial | (with_reducible first | apply And.intro | apply vqx_step | apply vqm_step | refine vkp_free (by decide +kernel) ?_ | intro _) | refine zaY (j4 ui0 ui3 ui4 (j9 ui5 ui9 ui56 ui62 ui63 ui64 ui75 ui101 ui102)) ?_ | ((first | ((with_reducible refine zy (d_word _ _) ?_); rintro _ S ⟨rfl, rfl⟩) | ((with_reducible refine zy (d_sign _ _) ?_); rintro _ S ⟨rfl, rfl⟩) | (refine vlo_app zx ?_) | (refine vst_app zx ?_)); (try refine zsY (j4 ui0 ui3 ui4 (j9 ui5 ui9 ui56 ui62 ui63 ui64 ui75 ui101 ui102)) ?_)) | (with_reducible first | refine vfresh_set ?_ | refine vfresh_intro (fun _ _ => ?_) | refine vif_intro (fun _ => ?_) (fun _ => ?_)) | omega | refine ztY (j4 ui0 ui3 ui4 (j9 ui5 ui9 ui56 ui62 ui63 ui64 ui75 ui101 ui102)) ?_ | fail)
  refine VW.loop3 (0 : Nat) () () (fun k _ _ => k = 0) (fun k _ _ => [(0, .ref ω 0), (1, .sl .nil []), (4, .i k)]) (fun _ _ _ => σ) (fun k _ _ => 0) rfl (.refl _) ?_ ?_
  · simp only [vO, vQ, ↓vP, vE, vS, vB, vL, vF, vM, vN, vbs_full, zb, zc, zd, ne_eq, not_false_eq_true, ze, zf, zj, zk, vT]
    all_goals rfl
  rintro k _ _ hk
  subst hk
  repeat' (first | with_reducible rfl | exact trivial | exact .inr trivial | (with_reducible first | apply And.intro | apply vqx_step | apply vqm_step | refine vkp_free (by decide +kernel) ?_ | intro _) | refine zaY (j4 ui0 ui3 ui4 (j9 ui5 ui9 ui56 ui62 ui63 ui64 ui75 ui101 ui102)) ?_ | ((first | ((with_reducible refine zy (d_word _ _) ?_); rintro _ S ⟨rfl, rfl⟩) | ((with_reducible refine zy (d_sign _ _) ?_); rintro _ S ⟨rfl, rfl⟩) | (refine vlo_app zx ?_) | (refine vst_app zx ?_)); (try refine zsY (j4 ui0 ui3 ui4 (j9 ui5 ui9 ui56 ui62 ui63 ui64 ui75 ui101 ui102)) ?_)) | (with_reducible first | refine vfresh_set ?_ | refine vfresh_intro (fun _ _ => ?_) | refine vif_intro (fun _ => ?_) (fun _ => ?_)) | omega | refine ztY (j4 ui0 ui3 ui4 (j9 ui5 ui9 ui56 ui62 ui63 ui64 ui75 ui101 ui102)) ?_ | fail)
  all_goals exact ⟨_, .refl _, rfl⟩
theorem x_exprs0 (t : Tr) (hX : Dx t) (E : List AV) (hE : E = exA t.ex) (B : Sg) (ω τ : Nat) (hok : okS B ω τ) (hlen : t.tk.length ≤ 2 ^ 30) : VCalls Tryz.prog 24 [.ref ω 0, .sl .nil [], .sl .full [E]] (WB TW [.i 0] B ω τ []) (fun x σ' => x = .tup [] ∧ ∃ τ', okS B ω τ' ∧ σ' = WB TW [.i (t.dp : Nat)] B ω τ' t.tk) := by
  have hX := hX (by omega)
  unfold NewD at hX
  rw [← hE] at hX
  have hEl : E.length = 8 := by rw [hE]; exact exA_len _
  have hEt : E.take 8 = E := by rw [hE]; exact exA_take _
  have hEd : E.drop 8 = [] := by rw [hE]; exact exA_drop _
  obtain ⟨h1, h2⟩ := hok
  have h2' := h2.symm
  rw [WB_eq]
  have hl0 := tksA_len t.tk
  have hall := tksA_all t.tk
  have hnil : tksA ([] : List Tk) = [] := rfl
  rw [hnil]
  have hW := x_words0 ω
  generalize t.tk = TT at *
  generalize t.dp = D at *
  (refine vfun (fun _ => .no) mixed Tryz.func24 (by kernel_rfl) ?_; simp only [bodyOf, Tryz.f24, zr])
  repeat' (first | with_reducible rfl | exact trivial | exact .inr trivial | (with_reducible first | apply And.intro | apply vqx_step | apply vqm_step | refine vkp_free (by decide +kernel) ?_ | intro _) | refine zaY (j7 ui0 ui3 ui4 ui9 ui22 ui23 (j9 ui24 ui25 ui26 ui56 ui62 ui63 ui64 ui75 (j9 ui94 ui101 ui102 @tksA_len @tksA_all @tksA_one @List.length_append.{0} @List.length_cons.{0} (j9 @List.length_nil.{0} @wds_len @wdsE_nil @wdsE_cons @splice0 @allOne_app @allLen_app @allOne_cons (j9 @allLen_cons @allOne_nil @allLen_nil hEl hEt hEd hl0 hall @splice0))))) ?_ | ((first | ((with_reducible refine zy (hW _) ?_); rintro _ S ⟨rfl, rfl⟩) | ((with_reducible refine VCalls.fr (hX _) ?_)) | (refine vlo_app zx ?_) | (refine vst_app zx ?_)); (try refine zsY (j7 ui0 ui3 ui4 ui9 ui22 ui23 (j9 ui24 ui25 ui26 ui56 ui62 ui63 ui64 ui75 (j9 ui94 ui101 ui102 @tksA_len @tksA_all @tksA_one @List.length_append.{0} @List.length_cons.{0} (j9 @List.length_nil.{0} @wds_len @wdsE_nil @wdsE_cons @splice0 @allOne_app @allLen_app @allOne_cons (j9 @allLen_cons @allOne_nil @allLen_nil hEl hEt hEd hl0 hall @splice0))))) ?_)) | (with_reducible first | refine vfresh_set ?_ | refine vfresh_intro (fun _ _ => ?_) | refine vif_intro (fun _ => ?_) (fun _ => ?_)) | omega | refine ztY (j7 ui0 ui3 ui4 ui9 ui22 ui23 (j9 ui24 ui25 ui26 ui56 ui62 ui63 ui64 ui75 (j9 ui94 ui101 ui102 @tksA_len @tksA_all @tksA_one @List.length_append.{0} @List.length_cons.{0} (j9 @List.length_nil.{0} @wds_len @wdsE_nil @wdsE_cons @splice0 @allOne_app @allLen_app @allOne_cons (j9 @allLen_cons @allOne_nil @allLen_nil hEl hEt hEd hl0 hall @splice0))))) ?_ | fail)
  all_goals rename_i q0 x2 q2 _ _ τ1 q1 _ _ _
  all_goals (
    refine ⟨WB TW [.i (D : Nat)] B ω τ1 TT, ?_, τ1, ⟨q1, by assumption⟩, rfl⟩
    have hm : (if (0 : Int) < ((D : Nat) : Int) then ((D : Nat) : Int) else 0) = (D : Nat) := by split <;> omega
    rw [hm, WB_eq]
    intro y p hy
    simp only [Sg.set_apply, Sg.del_apply] at hy ⊢
    grind)
theorem x_end (B B' : Sg) (ω τ : Nat) (l : List Tk) (m : Nat) (hsub : B'.sub (WB TW [.i (m : Nat)] B ω τ l)) (hg : ∀ x ∈ l, GoodT x) (hl : l.length ≤ 2 ^ 30) : VCalls Tryz.prog 25 [.ref ω 0] (WB TW [.i (m : Nat)] B ω τ l) (fun x σ' => x = .tup [.s (bs (fin l m).1), .i (fin l m).2] ∧ σ' = B') := by
  have hwl := writeT_len hg
  have hW := k_write l (.tok τ 4) (fun x hx => good_wr (hg x hx)) (by omega) (by omega)
  unfold fin
  (refine vfun (fun _ => .no) mixed Tryz.func25 (by kernel_rfl) ?_; simp only [bodyOf, Tryz.f25, zr])
  repeat' (first | with_reducible rfl | exact trivial | exact .inr trivial | (with_reducible first | apply And.intro | apply vqx_step | apply vqm_step | refine vkp_free (by decide +kernel) ?_ | intro _) | refine zaY (j3 ui0 ui3 (j9 ui4 ui9 ui30 ui56 ui62 ui63 ui64 ui101 ui102)) ?_ | ((first | ((with_reducible refine zy (hW _) ?_); rintro _ S ⟨rfl, rfl⟩) | ((with_reducible refine zy (k_write _ _ (by assumption) (by assumption) (by assumption) _) ?_); rintro _ S ⟨rfl, rfl⟩) | (refine vlo_app zx ?_) | (refine vst_app zx ?_)); (try refine zsY (j3 ui0 ui3 (j9 ui4 ui9 ui30 ui56 ui62 ui63 ui64 ui101 ui102)) ?_)) | (with_reducible first | refine vfresh_set ?_ | refine vfresh_intro (fun _ _ => ?_) | refine vif_intro (fun _ => ?_) (fun _ => ?_)) | omega | refine ztY (j3 ui0 ui3 (j9 ui4 ui9 ui30 ui56 ui62 ui63 ui64 ui101 ui102)) ?_ | fail)
  · exact ⟨B', hsub, by rw [if_pos (by omega)], rfl⟩
  · exact ⟨B', hsub, by rw [if_neg (by omega), if_pos (by omega)], rfl⟩
  · exact ⟨B', hsub, by rw [if_neg (by omega), if_neg (by omega)], rfl⟩
theorem x_Expr (e : Ex) (hL : Lim e) (hlen : rt e = true → (toTr e).tk.length ≤ 2 ^ 30) (σ : Sg) : VCalls Tryz.prog 12 [.agg (exA e)] σ (fun x σ' => x = .tup [.s (bs (exprR e).1), .i (exprR e).2] ∧ σ' = σ) := by
  have hel := exA_len e
  have het := exA_take e
  have hed := exA_drop e
  have hone := exA_one e
  have hr := y_right e hL
  unfold exprR
  cases hb : rt e with
  | false =>
    rw [hb] at hr
    generalize exA e = E at *
    (refine vfun (fun k => if k = 1 then .ro else .no) mixed Tryz.func12 (by kernel_rfl) ?_; simp only [bodyOf, Tryz.f12, zr])
    repeat' (first | with_reducible rfl | exact trivial | exact .inr trivial | (with_reducible first | apply And.intro | apply vqx_step | apply vqm_step | refine vkp_free (by decide +kernel) ?_ | intro _) | refine zaY (j4 ui0 ui3 ui4 (j9 ui9 ui22 ui23 ui24 ui25 ui26 ui30 ui31 (j9 ui56 ui62 ui63 ui64 ui75 ui101 ui102 hel het))) ?_ | ((first | ((with_reducible refine zy (hr _) ?_); rintro _ S ⟨rfl, rfl⟩) | ((with_reducible refine zy (y_right _ (by assumption) _) ?_); rintro _ S ⟨rfl, rfl⟩) | (refine vlo_app zx ?_) | (refine vst_app zx ?_)); (try refine zsY (j4 ui0 ui3 ui4 (j9 ui9 ui22 ui23 ui24 ui25 ui26 ui30 ui31 (j9 ui56 ui62 ui63 ui64 ui75 ui101 ui102 hel het))) ?_)) | (with_reducible first | refine vfresh_set ?_ | refine vfresh_intro (fun _ _ => ?_) | refine vif_intro (fun _ => ?_) (fun _ => ?_)) | omega | refine ztY (j4 ui0 ui3 ui4 (j9 ui9 ui22 ui23 ui24 ui25 ui26 ui30 ui31 (j9 ui56 ui62 ui63 ui64 ui75 ui101 ui102 hel het))) ?_ | fail)
    all_goals exact ⟨_, .refl _, rfl⟩
  | true =>
    rw [hb] at hr
    obtain ⟨q1, q2⟩ := toTr_ok e hb
    have hlen := hlen hb
    have hrg := lim_rg (toTr e) (by rw [q1]; exact hL)
    have hD : Dx (toTr e) := dx_all (toTr e) q2 hrg
    have hgd := tk_good (toTr e) q2 hrg
    have hX := fun B ω τ hok => x_exprs0 (toTr e) hD (exA e) (by rw [q1]) B ω τ hok hlen
    generalize (toTr e).tk = TT at *
    generalize (toTr e).dp = D at *
    generalize exA e = E at *
    have hX0 : ∀ (S : Sg) (ω : Nat), S ω = some (.cells TW [.sl .nil [], .i 0]) → VCalls Tryz.prog 24 [.ref ω 0, .sl .nil [], .sl .full [E]] S (fun x σ' => x = .tup [] ∧ ∃ τ', okS S ω τ' ∧ σ' = WB TW [.i (D : Nat)] S ω τ' TT) := fun S ω hS => by
      refine VCalls.tok0 (e := 102) 0 4 hS rfl (fun τ hτ hne => ?_)
      exact hX S ω τ ⟨hτ, hne⟩
    (refine vfun (fun k => if k = 1 then .ro else .no) mixed Tryz.func12 (by kernel_rfl) ?_; simp only [bodyOf, Tryz.f12, zr])
    repeat' (first | with_reducible rfl | exact trivial | exact .inr trivial | (with_reducible first | apply And.intro | apply vqx_step | apply vqm_step | refine vkp_free (by decide +kernel) ?_ | intro _) | refine zaY (j6 ui0 ui3 ui4 ui9 ui22 (j9 ui23 ui24 ui25 ui26 ui30 ui31 ui56 ui62 (j9 ui63 ui64 ui75 ui101 ui102 hel het hed hone))) ?_ | ((first | ((with_reducible refine zy (hr _) ?_); rintro _ S ⟨rfl, rfl⟩) | ((with_reducible refine zy (hX0 _ _ (by first | assumption | ((simp (disch := first | assumption | (apply zv; assumption; assumption) | (apply zw; assumption; assumption; (intro e; cases e; done)) | omega) only [zm, zn, zo, zp, zq]); first | done | rfl | assumption))) ?_); rintro _ S ⟨rfl, τ1, hok, rfl⟩) | ((with_reducible refine zy (y_right _ (by assumption) _) ?_); rintro _ S ⟨rfl, rfl⟩) | (refine vlo_app zx ?_) | (refine vst_app zx ?_)); (try refine zsY (j6 ui0 ui3 ui4 ui9 ui22 (j9 ui23 ui24 ui25 ui26 ui30 ui31 ui56 ui62 (j9 ui63 ui64 ui75 ui101 ui102 hel het hed hone))) ?_)) | (with_reducible first | refine vfresh_set ?_ | refine vfresh_intro (fun _ _ => ?_) | refine vif_intro (fun _ => ?_) (fun _ => ?_)) | omega | refine ztY (j6 ui0 ui3 ui4 ui9 ui22 (j9 ui23 ui24 ui25 ui26 ui30 ui31 ui56 ui62 (j9 ui63 ui64 ui75 ui101 ui102 hel het hed hone))) ?_ | fail)
    rename_i ω hω
    obtain ⟨f1, n1⟩ := hok
    have f1 := (Sg.none_set f1).2
    refine zy (x_end _ S ω τ1 TT D ?_ hgd hlen) ?_
    · (exact Go.V.zu)
    rintro _ S2 ⟨rfl, rfl⟩
    simp only [vO, vQ, ↓vP, vE, vS, vB, vL, vF, vM, vN, vbs_full, zb, zc, zd, ne_eq, not_false_eq_true, ze, zf, zj, zk, vT]
    repeat' (first | with_reducible rfl | exact trivial | exact .inr trivial | (with_reducible first | apply And.intro | apply vqx_step | apply vqm_step | refine vkp_free (by decide +kernel) ?_ | intro _) | refine zaY (j2 ui0 (j9 ui3 ui4 ui9 ui22 ui23 ui24 ui25 ui26 (j9 ui30 ui31 ui56 ui62 ui63 ui64 ui75 ui101 ui102))) ?_ | ((first | ((with_reducible refine zy (y_right _ (by assumption) _) ?_); rintro _ S ⟨rfl, rfl⟩) | (refine vlo_app zx ?_) | (refine vst_app zx ?_)); (try refine zsY (j2 ui0 (j9 ui3 ui4 ui9 ui22 ui23 ui24 ui25 ui26 (j9 ui30 ui31 ui56 ui62 ui63 ui64 ui75 ui101 ui102))) ?_)) | (with_reducible first | refine vfresh_set ?_ | refine vfresh_intro (fun _ _ => ?_) | refine vif_intro (fun _ => ?_) (fun _ => ?_)) | omega | refine ztY (j2 ui0 (j9 ui3 ui4 ui9 ui22 ui23 ui24 ui25 ui26 (j9 ui30 ui31 ui56 ui62 ui63 ui64 ui75 ui101 ui102))) ?_ | fail)
    all_goals exact ⟨_, .refl _, rfl⟩
end Go.Proofs.YtjdapkelojdefaaGreatDoor

set_option linter.unusedSimpArgs false
set_option linter.unusedVariables false
namespace Go.Proofs.YtjdapkelojdefaaGreatDoor
open Go Go.V Go.Lex Go.Parse Go.Print
def dropA : List AV := [.i 2, .s (bs [116]), .sl .nil [], .s (bs []), .sl .nil [], .sl .nil [], .sl .nil [], .s (bs []), .sl .nil [], .sl .nil [], .sl .nil [], .sl .nil [], .b false, .i (-1)]
def dropTk : List Tk := [wT [68, 82, 79, 80], wT [84, 65, 66, 76, 69], nT [116]]
theorem z_one0 (o : Own) (σ : Sg) : VCalls Tryz.prog 58 [.sl o []] σ (fun x σ' => x = .b true ∧ σ' = σ) := by
  have hc := r_contains [] 44 (fun e => !rt e) o (by simp) (fun e he => by cases he)
  rw [exsA_nil] at hc
  simp only [List.any_nil] at hc
  (refine vfun (fun _ => .no) mixed Tryz.func58 (by kernel_rfl) ?_; simp only [bodyOf, Tryz.f58, zr])
  repeat' (first | with_reducible rfl | exact trivial | exact .inr trivial | (with_reducible first | apply And.intro | apply vqx_step | apply vqm_step | refine vkp_free (by decide +kernel) ?_ | intro _) | refine zaY (j9 ui3 ui4 ui9 ui22 ui23 ui24 ui25 ui26 ui34) ?_ | ((first | ((with_reducible refine zy (hc _) ?_); rintro _ S ⟨rfl, rfl⟩) | (refine vlo_app zx ?_) | (refine vst_app zx ?_)); (try refine zsY (j9 ui3 ui4 ui9 ui22 ui23 ui24 ui25 ui26 ui34) ?_)) | (with_reducible first | refine vfresh_set ?_ | refine vfresh_intro (fun _ _ => ?_) | refine vif_intro (fun _ => ?_) (fun _ => ?_)) | omega | refine ztY (j9 ui3 ui4 ui9 ui22 ui23 ui24 ui25 ui26 ui34) ?_ | fail)
  all_goals exact ⟨_, .refl _, rfl⟩
theorem z_fits (σ : Sg) : VCalls Tryz.prog 28 [.agg dropA] σ (fun x σ' => x = .b true ∧ σ' = σ) := by
  have h1 := z_one0 .nil
  have hN : ∀ σ, VCalls Tryz.prog 42 [.s (bs [116])] σ (fun x σ' => x = .b true ∧ σ' = σ) := fun σ => r_name [116] σ
  unfold dropA
  (refine vfun (fun _ => .ro) mixed Tryz.func28 (by kernel_rfl) ?_; simp only [bodyOf, Tryz.f28, zr])
  repeat' (first | with_reducible rfl | exact trivial | exact .inr trivial | (with_reducible first | apply And.intro | apply vqx_step | apply vqm_step | refine vkp_free (by decide +kernel) ?_ | intro _) | refine zaY (j6 ui0 ui3 ui4 ui9 ui22 (j9 ui23 ui24 ui25 ui26 ui37 ui38 ui39 ui40 (j9 ui41 ui42 ui67 ui68 ui70 ui71 ui107 ui131 ui132))) ?_ | ((first | ((with_reducible refine zy (h1 _) ?_); rintro _ S ⟨rfl, rfl⟩) | ((with_reducible refine zy (hN _) ?_); rintro _ S ⟨rfl, rfl⟩) | ((with_reducible refine zy (r_name _ _) ?_); rintro _ S ⟨rfl, rfl⟩) | ((with_reducible refine zy (v_one _ (by assumption) _) ?_); rintro _ S ⟨rfl, rfl⟩) | ((with_reducible refine zy (v_columns _ (by assumption) _) ?_); rintro _ S ⟨rfl, rfl⟩) | ((with_reducible refine zy (v_rows _ (by assumption) (by assumption) _) ?_); rintro _ S ⟨rfl, rfl⟩) | ((with_reducible refine zy (v_sets _ (by assumption) (by assumption) _) ?_); rintro _ S ⟨rfl, rfl⟩) | ((with_reducible refine zy (v_selects _ (by assumption) _) ?_); rintro _ S ⟨rfl, rfl⟩) | (refine vlo_app zx ?_) | (refine vst_app zx ?_)); (try refine zsY (j6 ui0 ui3 ui4 ui9 ui22 (j9 ui23 ui24 ui25 ui26 ui37 ui38 ui39 ui40 (j9 ui41 ui42 ui67 ui68 ui70 ui71 ui107 ui131 ui132))) ?_)) | (with_reducible first | refine vfresh_set ?_ | refine vfresh_intro (fun _ _ => ?_) | refine vif_intro (fun _ => ?_) (fun _ => ?_)) | omega | refine ztY (j6 ui0 ui3 ui4 ui9 ui22 (j9 ui23 ui24 ui25 ui26 ui37 ui38 ui39 ui40 (j9 ui41 ui42 ui67 ui68 ui70 ui71 ui107 ui131 ui132))) ?_ | fail)
  all_goals exact ⟨_, .refl _, rfl⟩
theorem z_state (B : Sg) (ω τ : Nat) (hok : okS B ω τ) : VCalls Tryz.prog 30 [.ref ω 0, .agg dropA] (WS B ω τ [] 0 0) (fun x σ' => x = .tup [] ∧ ∃ τ', okS B ω τ' ∧ σ' = WS B ω τ' dropTk 0 0) := by
  unfold dropA
  (refine vfun (fun _ => .ro) mixed Tryz.func30 (by kernel_rfl) ?_; simp only [bodyOf, Tryz.f30, zr])
  repeat' (first | with_reducible rfl | exact trivial | exact .inr trivial | (with_reducible first | apply And.intro | apply vqx_step | apply vqm_step | refine vkp_free (by decide +kernel) ?_ | intro _) | ((with_reducible refine .dms (fun x => False) [(0, false), (1, false), (2, false), (3, true), (4, false), (5, true)] (by decide) (by decide +kernel) ?_); (refine zsR (j6 ui0 ui3 ui4 ui9 ui22 (j9 ui23 ui24 ui25 ui26 ui37 ui38 ui39 ui40 (j9 ui41 ui42 ui55 ui56 ui57 ui58 ui59 ui67 (j9 ui68 ui70 ui71 ui75 ui101 ui102 ui107 ui131 (j9 ui132 @tksA_len @tksA_all @tksA_one @List.length_append.{0} @List.length_cons.{0} @List.length_nil.{0} @wds_len (j9 @wdsE_nil @wdsE_cons @splice0 @allOne_app @allLen_app @allOne_cons @allLen_cons @allOne_nil @allLen_nil)))))) ?_)) | ((with_reducible refine .dm (fun x => False) [(0, false), (1, false), (2, false), (3, true), (4, false), (5, true)] (by decide) (by decide +kernel) ?_); (refine zsR (j6 ui0 ui3 ui4 ui9 ui22 (j9 ui23 ui24 ui25 ui26 ui37 ui38 ui39 ui40 (j9 ui41 ui42 ui55 ui56 ui57 ui58 ui59 ui67 (j9 ui68 ui70 ui71 ui75 ui101 ui102 ui107 ui131 (j9 ui132 @tksA_len @tksA_all @tksA_one @List.length_append.{0} @List.length_cons.{0} @List.length_nil.{0} @wds_len (j9 @wdsE_nil @wdsE_cons @splice0 @allOne_app @allLen_app @allOne_cons @allLen_cons @allOne_nil @allLen_nil)))))) ?_)) | ((with_reducible refine .dms (fun x => False) [(0, false), (1, false), (2, false), (3, true), (4, false), (5, true)] (by decide) (by decide +kernel) ?_); (refine zsR (j6 ui0 ui3 ui4 ui9 ui22 (j9 ui23 ui24 ui25 ui26 ui37 ui38 ui39 ui40 (j9 ui41 ui42 ui55 ui56 ui57 ui58 ui59 ui67 (j9 ui68 ui70 ui71 ui75 ui101 ui102 ui107 ui131 (j9 ui132 @tksA_len @tksA_all @tksA_one @List.length_append.{0} @List.length_cons.{0} @List.length_nil.{0} @wds_len (j9 @wdsE_nil @wdsE_cons @splice0 @allOne_app @allLen_app @allOne_cons @allLen_cons @allOne_nil @allLen_nil)))))) ?_)) | ((with_reducible refine .dm (fun x => False) [(0, false), (1, false), (2, false), (3, true), (4, false), (5, true)] (by decide) (by decide +kernel) ?_); (refine zsR (j6 ui0 ui3 ui4 ui9 ui22 (j9 ui23 ui24 ui25 ui26 ui37 ui38 ui39 ui40 (j9 ui41 ui42 ui55 ui56 ui57 ui58 ui59 ui67 (j9 ui68 ui70 ui71 ui75 ui101 ui102 ui107 ui131 (j9 ui132 @tksA_len @tksA_all @tksA_one @List.length_append.{0} @List.length_cons.{0} @List.length_nil.{0} @wds_len (j9 @wdsE_nil @wdsE_cons @splice0 @allOne_app @allLen_app @allOne_cons @allLen_cons @allOne_nil @allLen_nil)))))) ?_)) | refine zaR (j6 ui0 ui3 ui4 ui9 ui22 (j9 ui23 ui24 ui25 ui26 ui37 ui38 ui39 ui40 (j9 ui41 ui42 ui55 ui56 ui57 ui58 ui59 ui67 (j9 ui68 ui70 ui71 ui75 ui101 ui102 ui107 ui131 (j9 ui132 @tksA_len @tksA_all @tksA_one @List.length_append.{0} @List.length_cons.{0} @List.length_nil.{0} @wds_len (j9 @wdsE_nil @wdsE_cons @splice0 @allOne_app @allLen_app @allOne_cons @allLen_cons @allOne_nil @allLen_nil)))))) ?_ | refine zkN (j6 ui0 ui3 ui4 ui9 ui22 (j9 ui23 ui24 ui25 ui26 ui37 ui38 ui39 ui40 (j9 ui41 ui42 ui55 ui56 ui57 ui58 ui59 ui67 (j9 ui68 ui70 ui71 ui75 ui101 ui102 ui107 ui131 (j9 ui132 @tksA_len @tksA_all @tksA_one @List.length_append.{0} @List.length_cons.{0} @List.length_nil.{0} @wds_len (j9 @wdsE_nil @wdsE_cons @splice0 @allOne_app @allLen_app @allOne_cons @allLen_cons @allOne_nil @allLen_nil)))))) ?_ | ((first | (refine vkp_keep (by intro β h; first | (rcases h with h | h <;> subst h <;> (simp (disch := first | assumption | (apply zv; assumption; assumption) | (apply zw; assumption; assumption; (intro e; cases e; done)) | omega) only [zm, zn, zo, zp, zq])) | (subst h; (simp (disch := first | assumption | (apply zv; assumption; assumption) | (apply zw; assumption; assumption; (intro e; cases e; done)) | omega) only [zm, zn, zo, zp, zq]))) ?_) | ((with_reducible refine zy (w_wordsE _ _ _ _ _ _ _ _ (by repeat (first | exact okW_nil | refine okW_cons ?_ (by simp))) (by first | assumption | exact ⟨by assumption, by assumption⟩) (by first | omega | (simp only [List.length_append, List.length_cons, List.length_nil, List.length_map]; omega))) ?_); rintro _ S ⟨rfl, τ1, ⟨f1, n1⟩, rfl⟩; have n1s := n1.symm) | ((with_reducible refine zy (w_name _ _ _ _ _ _ _ (by first | assumption | exact ⟨by assumption, by assumption⟩) (by first | omega | (simp only [List.length_append, List.length_cons, List.length_nil, List.length_map]; omega))) ?_); rintro _ S ⟨rfl, τ1, ⟨f1, n1⟩, rfl⟩; have n1s := n1.symm) | ((with_reducible refine zy (w_wordsE _ _ _ _ _ _ _ _ (by repeat (first | exact okW_nil | refine okW_cons ?_ (by simp))) (by first | assumption | exact ⟨by assumption, by assumption⟩) (by first | omega | (simp only [List.length_append, List.length_cons, List.length_nil, List.length_map]; omega))) ?_); rintro _ S ⟨rfl, τ1, ⟨f1, n1⟩, rfl⟩; have n1s := n1.symm) | ((with_reducible refine zy (w_name _ _ _ _ _ _ _ (by first | assumption | exact ⟨by assumption, by assumption⟩) (by first | omega | (simp only [List.length_append, List.length_cons, List.length_nil, List.length_map]; omega))) ?_); rintro _ S ⟨rfl, τ1, ⟨f1, n1⟩, rfl⟩; have n1s := n1.symm) | (refine vlo_app zx ?_) | (refine vst_app zx ?_)); (try refine zsR (j6 ui0 ui3 ui4 ui9 ui22 (j9 ui23 ui24 ui25 ui26 ui37 ui38 ui39 ui40 (j9 ui41 ui42 ui55 ui56 ui57 ui58 ui59 ui67 (j9 ui68 ui70 ui71 ui75 ui101 ui102 ui107 ui131 (j9 ui132 @tksA_len @tksA_all @tksA_one @List.length_append.{0} @List.length_cons.{0} @List.length_nil.{0} @wds_len (j9 @wdsE_nil @wdsE_cons @splice0 @allOne_app @allLen_app @allOne_cons @allLen_cons @allOne_nil @allLen_nil)))))) ?_)) | refine zmR (j6 ui0 ui3 ui4 ui9 ui22 (j9 ui23 ui24 ui25 ui26 ui37 ui38 ui39 ui40 (j9 ui41 ui42 ui55 ui56 ui57 ui58 ui59 ui67 (j9 ui68 ui70 ui71 ui75 ui101 ui102 ui107 ui131 (j9 ui132 @tksA_len @tksA_all @tksA_one @List.length_append.{0} @List.length_cons.{0} @List.length_nil.{0} @wds_len (j9 @wdsE_nil @wdsE_cons @splice0 @allOne_app @allLen_app @allOne_cons @allLen_cons @allOne_nil @allLen_nil)))))) ?_ | (with_reducible first | refine vfresh_set ?_ | refine vfresh_intro (fun _ _ => ?_) | refine vif_intro (fun _ => ?_) (fun _ => ?_)) | omega | refine ztR (j6 ui0 ui3 ui4 ui9 ui22 (j9 ui23 ui24 ui25 ui26 ui37 ui38 ui39 ui40 (j9 ui41 ui42 ui55 ui56 ui57 ui58 ui59 ui67 (j9 ui68 ui70 ui71 ui75 ui101 ui102 ui107 ui131 (j9 ui132 @tksA_len @tksA_all @tksA_one @List.length_append.{0} @List.length_cons.{0} @List.length_nil.{0} @wds_len (j9 @wdsE_nil @wdsE_cons @splice0 @allOne_app @allLen_app @allOne_cons @allLen_cons @allOne_nil @allLen_nil)))))) ?_ | fail)
  exact ⟨_, .refl _, _, ⟨by assumption, by assumption⟩, rfl⟩
theorem drop_good : ∀ x ∈ dropTk, GoodT x := by
  intro x hx
  simp only [dropTk, List.mem_cons, List.not_mem_nil, or_false] at hx
  rcases hx with rfl | rfl | rfl
  · exact .inr (.inl ⟨rfl, by decide, rfl⟩)
  · exact .inr (.inl ⟨rfl, by decide, rfl⟩)
  · exact .inl ⟨rfl, by decide, rfl⟩
theorem drop_fin : fin dropTk 0 = ([68, 82, 79, 80, 32, 84, 65, 66, 76, 69, 32, 116], 0) := by decide +kernel
theorem z_script (σ : Sg) : VCalls Tryz.prog 15 [.sl .full [dropA]] σ (fun x σ' => x = .tup [.s (bs [68, 82, 79, 80, 32, 84, 65, 66, 76, 69, 32, 116]), .i 0] ∧ σ' = σ) := by
  have hf := z_fits
  have hl : dropA.length = 14 := rfl
  have hone : dropA.all AV.one = true := rfl
  have ht : dropA.take 14 = dropA := rfl
  have hst : ∀ (S : Sg) (ω : Nat), S ω = some (.cells 59 [.sl .nil [], .i 0, .i 0]) → VCalls Tryz.prog 30 [.ref ω 0, .agg dropA] S (fun x σ' => x = .tup [] ∧ ∃ τ', okS S ω τ' ∧ σ' = WS S ω τ' dropTk 0 0) := fun S ω hS => by
    refine VCalls.tok0 (e := 102) 0 4 hS rfl (fun τ hτ hne => ?_)
    exact z_state S ω τ ⟨hτ, hne⟩
  generalize dropA = D at *
  (refine vfun (fun _ => .no) mixed Tryz.func15 (by kernel_rfl) ?_; simp only [bodyOf, Tryz.f15, zr])
  repeat' (first | with_reducible rfl | exact trivial | exact .inr trivial | (with_reducible first | apply And.intro | apply vqx_step | apply vqm_step | refine vkp_free (by decide +kernel) ?_ | intro _) | refine zaY (j4 ui0 ui3 ui4 (j9 ui9 ui22 ui23 ui24 ui25 ui26 ui30 ui31 (j9 ui35 ui37 ui38 ui39 ui40 ui41 ui42 ui55 (j9 ui56 ui57 ui58 ui59 ui67 ui68 ui70 ui71 (j9 ui75 ui101 ui102 ui107 ui131 ui132 hl hone ht))))) ?_ | ((first | ((with_reducible refine zy (v_fits _ (by assumption) (by assumption) _) ?_); rintro _ S ⟨rfl, rfl⟩) | ((with_reducible refine zy (w_wordsE _ _ _ _ _ _ _ _ (by repeat (first | exact okW_nil | refine okW_cons ?_ (by simp))) (by first | assumption | exact ⟨by assumption, by assumption⟩) (by first | omega | (simp only [List.length_append, List.length_cons, List.length_nil, List.length_map]; omega))) ?_); rintro _ S ⟨rfl, τ1, ⟨f1, n1⟩, rfl⟩; have n1s := n1.symm) | (refine vlo_app zx ?_) | (refine vst_app zx ?_)); (try refine zsY (j4 ui0 ui3 ui4 (j9 ui9 ui22 ui23 ui24 ui25 ui26 ui30 ui31 (j9 ui35 ui37 ui38 ui39 ui40 ui41 ui42 ui55 (j9 ui56 ui57 ui58 ui59 ui67 ui68 ui70 ui71 (j9 ui75 ui101 ui102 ui107 ui131 ui132 hl hone ht))))) ?_)) | (with_reducible first | refine vfresh_set ?_ | refine vfresh_intro (fun _ _ => ?_) | refine vif_intro (fun _ => ?_) (fun _ => ?_)) | omega | refine ztY (j4 ui0 ui3 ui4 (j9 ui9 ui22 ui23 ui24 ui25 ui26 ui30 ui31 (j9 ui35 ui37 ui38 ui39 ui40 ui41 ui42 ui55 (j9 ui56 ui57 ui58 ui59 ui67 ui68 ui70 ui71 (j9 ui75 ui101 ui102 ui107 ui131 ui132 hl hone ht))))) ?_ | fail)
  rename_i ω hω
  refine VW.loop3 (0 : Nat) (0 : Nat) () (fun k τ _ => (k = 0 ∨ k = 1) ∧ (k = 1 → okS (σ.set ω (.cells 59 [.sl .nil [], .i 0, .i 0])) ω τ)) (fun k _ _ => [(2, .s (bs [])), (3, .i 0), (4, .ref ω 0), (17, .sl .full [D]), (18, .i 1), (19, .i k)]) (fun k τ _ => if k = 0 then σ.set ω (.cells 59 [.sl .nil [], .i 0, .i 0]) else WS (σ.set ω (.cells 59 [.sl .nil [], .i 0, .i 0])) ω τ dropTk 0 0) (fun k _ _ => 1 - k) ⟨.inl rfl, fun h => by cases h⟩ (.refl _) ?_ ?_
  · simp only [vO, vQ, ↓vP, vE, vS, vB, vL, vF, vM, vN, vbs_full, zb, zc, zd, ne_eq, not_false_eq_true, ze, zf, zj, zk, vT]
    all_goals first | rfl | exact ⟨rfl, rfl⟩
  rintro k τ _ ⟨hk, hτ⟩
  rcases hk with rfl | rfl
  · simp only [↓reduceIte]
    repeat' (first | with_reducible rfl | exact trivial | exact .inr trivial | (with_reducible first | apply And.intro | apply vqx_step | apply vqm_step | refine vkp_free (by decide +kernel) ?_ | intro _) | refine zaY (j4 ui0 ui3 ui4 (j9 ui9 ui22 ui23 ui24 ui25 ui26 ui30 ui31 (j9 ui35 ui37 ui38 ui39 ui40 ui41 ui42 ui55 (j9 ui56 ui57 ui58 ui59 ui67 ui68 ui70 ui71 (j9 ui75 ui101 ui102 ui107 ui131 ui132 hl hone ht))))) ?_ | ((first | ((with_reducible refine zy (hf _) ?_); rintro _ S ⟨rfl, rfl⟩) | ((with_reducible refine zy (hst _ _ (by first | assumption | ((simp (disch := first | assumption | (apply zv; assumption; assumption) | (apply zw; assumption; assumption; (intro e; cases e; done)) | omega) only [zm, zn, zo, zp, zq]); first | done | rfl | assumption))) ?_); rintro _ S ⟨rfl, τ1, hok, rfl⟩) | ((with_reducible refine zy (v_fits _ (by assumption) (by assumption) _) ?_); rintro _ S ⟨rfl, rfl⟩) | ((with_reducible refine zy (w_wordsE _ _ _ _ _ _ _ _ (by repeat (first | exact okW_nil | refine okW_cons ?_ (by simp))) (by first | assumption | exact ⟨by assumption, by assumption⟩) (by first | omega | (simp only [List.length_append, List.length_cons, List.length_nil, List.length_map]; omega))) ?_); rintro _ S ⟨rfl, τ1, ⟨f1, n1⟩, rfl⟩; have n1s := n1.symm) | (refine vlo_app zx ?_) | (refine vst_app zx ?_)); (try refine zsY (j4 ui0 ui3 ui4 (j9 ui9 ui22 ui23 ui24 ui25 ui26 ui30 ui31 (j9 ui35 ui37 ui38 ui39 ui40 ui41 ui42 ui55 (j9 ui56 ui57 ui58 ui59 ui67 ui68 ui70 ui71 (j9 ui75 ui101 ui102 ui107 ui131 ui132 hl hone ht))))) ?_)) | (with_reducible first | refine vfresh_set ?_ | refine vfresh_intro (fun _ _ => ?_) | refine vif_intro (fun _ => ?_) (fun _ => ?_)) | omega | refine ztY (j4 ui0 ui3 ui4 (j9 ui9 ui22 ui23 ui24 ui25 ui26 ui30 ui31 (j9 ui35 ui37 ui38 ui39 ui40 ui41 ui42 ui55 (j9 ui56 ui57 ui58 ui59 ui67 ui68 ui70 ui71 (j9 ui75 ui101 ui102 ui107 ui131 ui132 hl hone ht))))) ?_ | fail)
    rename_i x hx hne _
    have f1 := (Sg.none_set hok.free).2
    refine ⟨1, τ1, (), ⟨⟨.inr rfl, fun _ => ⟨f1, hok.ne⟩⟩, by decide⟩, ?_, rfl⟩
    rw [if_neg (by decide)]
    have f2 := (Sg.none_set hok.free).1
    have f3 := (Sg.none_set f1).2
    intro y p hy
    simp only [WS, WB_eq, Sg.set_apply] at hy ⊢
    grind
  · have hτ := hτ rfl
    simp only [show ¬ ((1 : Nat) = 0) from by decide, ↓reduceIte]
    repeat' (first | with_reducible rfl | exact trivial | exact .inr trivial | (with_reducible first | apply And.intro | apply vqx_step | apply vqm_step | refine vkp_free (by decide +kernel) ?_ | intro _) | refine zaY (j4 ui0 ui3 ui4 (j9 ui9 ui22 ui23 ui24 ui25 ui26 ui30 ui31 (j9 ui35 ui37 ui38 ui39 ui40 ui41 ui42 ui55 (j9 ui56 ui57 ui58 ui59 ui67 ui68 ui70 ui71 (j9 ui75 ui101 ui102 ui107 ui131 ui132 hl hone ht))))) ?_ | ((first | ((with_reducible refine zy (v_fits _ (by assumption) (by assumption) _) ?_); rintro _ S ⟨rfl, rfl⟩) | ((with_reducible refine zy (w_wordsE _ _ _ _ _ _ _ _ (by repeat (first | exact okW_nil | refine okW_cons ?_ (by simp))) (by first | assumption | exact ⟨by assumption, by assumption⟩) (by first | omega | (simp only [List.length_append, List.length_cons, List.length_nil, List.length_map]; omega))) ?_); rintro _ S ⟨rfl, τ1, ⟨f1, n1⟩, rfl⟩; have n1s := n1.symm) | (refine vlo_app zx ?_) | (refine vst_app zx ?_)); (try refine zsY (j4 ui0 ui3 ui4 (j9 ui9 ui22 ui23 ui24 ui25 ui26 ui30 ui31 (j9 ui35 ui37 ui38 ui39 ui40 ui41 ui42 ui55 (j9 ui56 ui57 ui58 ui59 ui67 ui68 ui70 ui71 (j9 ui75 ui101 ui102 ui107 ui131 ui132 hl hone ht))))) ?_)) | (with_reducible first | refine vfresh_set ?_ | refine vfresh_intro (fun _ _ => ?_) | refine vif_intro (fun _ => ?_) (fun _ => ?_)) | omega | refine ztY (j4 ui0 ui3 ui4 (j9 ui9 ui22 ui23 ui24 ui25 ui26 ui30 ui31 (j9 ui35 ui37 ui38 ui39 ui40 ui41 ui42 ui55 (j9 ui56 ui57 ui58 ui59 ui67 ui68 ui70 ui71 (j9 ui75 ui101 ui102 ui107 ui131 ui132 hl hone ht))))) ?_ | fail)
    have f1 := (Sg.none_set hτ.free).2
    have n1 := hτ.ne
    refine zy (w_end _ σ ω τ dropTk 0 0 ?_ drop_good (by decide)) ?_
    · intro y p hy
      show (WS _ ω τ dropTk 0 0) y = some p
      simp only [WS, WB_eq, Sg.set_apply]
      grind
    rw [drop_fin]
    rintro _ S2 ⟨rfl, rfl⟩
    simp only [vO, vQ, ↓vP, vE, vS, vB, vL, vF, vM, vN, vbs_full, zb, zc, zd, ne_eq, not_false_eq_true, ze, zf, zj, zk, vT]
    repeat' (first | with_reducible rfl | exact trivial | exact .inr trivial | (with_reducible first | apply And.intro | apply vqx_step | apply vqm_step | refine vkp_free (by decide +kernel) ?_ | intro _) | refine zaY (j9 ui0 ui3 ui4 ui9 ui22 ui23 ui24 ui25 (j9 ui26 ui30 ui31 ui35 ui37 ui38 ui39 ui40 (j9 ui41 ui42 ui55 ui56 ui57 ui58 ui59 ui67 (j9 ui68 ui70 ui71 ui75 ui101 ui102 ui107 ui131 ui132)))) ?_ | ((first | ((with_reducible refine zy (v_fits _ (by assumption) (by assumption) _) ?_); rintro _ S ⟨rfl, rfl⟩) | ((with_reducible refine zy (w_wordsE _ _ _ _ _ _ _ _ (by repeat (first | exact okW_nil | refine okW_cons ?_ (by simp))) (by first | assumption | exact ⟨by assumption, by assumption⟩) (by first | omega | (simp only [List.length_append, List.length_cons, List.length_nil, List.length_map]; omega))) ?_); rintro _ S ⟨rfl, τ1, ⟨f1, n1⟩, rfl⟩; have n1s := n1.symm) | (refine vlo_app zx ?_) | (refine vst_app zx ?_)); (try refine zsY (j9 ui0 ui3 ui4 ui9 ui22 ui23 ui24 ui25 (j9 ui26 ui30 ui31 ui35 ui37 ui38 ui39 ui40 (j9 ui41 ui42 ui55 ui56 ui57 ui58 ui59 ui67 (j9 ui68 ui70 ui71 ui75 ui101 ui102 ui107 ui131 ui132)))) ?_)) | (with_reducible first | refine vfresh_set ?_ | refine vfresh_intro (fun _ _ => ?_) | refine vif_intro (fun _ => ?_) (fun _ => ?_)) | omega | refine ztY (j9 ui0 ui3 ui4 ui9 ui22 ui23 ui24 ui25 (j9 ui26 ui30 ui31 ui35 ui37 ui38 ui39 ui40 (j9 ui41 ui42 ui55 ui56 ui57 ui58 ui59 ui67 (j9 ui68 ui70 ui71 ui75 ui101 ui102 ui107 ui131 ui132)))) ?_ | fail)
    all_goals exact ⟨_, .refl _, rfl⟩
end Go.Proofs.YtjdapkelojdefaaGreatDoor

set_option linter.unusedSimpArgs false
set_option linter.unusedVariables false
namespace Go.V
theorem AVw.els {es es' : List (List AV)} (hl : es.length = es'.length) (h : ∀ (i : Nat) (e e' : List AV), es[i]? = some e → es'[i]? = some e' → e.length = e'.length ∧ ∀ (j : Nat) (x x' : AV), e[j]? = some x → e'[j]? = some x' → AVw x x') : AVw (.sl .any es) (.sl .any es') := fun κ v hr => by
  have hget : ∀ (i : Nat) (e' : List AV), es'[i]? = some e' → ∃ e, es[i]? = some e := fun i e' h' => by
    have hi : i < es.length := by rw [hl]; exact (List.getElem?_eq_some_iff.1 h').1
    exact ⟨_, List.getElem?_eq_getElem hi⟩
  cases hr with
  | slnil _ hk =>
    obtain rfl : es' = [] := List.eq_nil_of_length_eq_zero hl.symm
    exact .slnil _ hk
  | slemp _ hk a c =>
    obtain rfl : es' = [] := List.eq_nil_of_length_eq_zero hl.symm
    exact .slemp _ hk a c
  | sl _ _ a n c sz f hk hn hc hs hz hrd hx =>
    refine .sl _ es' a n c sz f hk (by omega) hc hs (fun i e' h' => ?_) hrd (fun i j e' x' h1 h2 => ?_)
    · obtain ⟨e, he⟩ := hget i e' h'
      rw [← (h i e e' he h').1]; exact hz i e he
    · obtain ⟨e, he⟩ := hget i e' h1
      obtain ⟨q1, q2⟩ := h i e e' he h1
      have hj : j < e.length := by rw [q1]; exact (List.getElem?_eq_some_iff.1 h2).1
      exact q2 j _ x' (List.getElem?_eq_getElem hj) h2 κ _ (hx i j e _ he (List.getElem?_eq_getElem hj))
end Go.V
namespace Go.Proofs.YtjdapkelojdefaaGreatDoor
open Go Go.V Go.Lex Go.Parse Go.Print
abbrev five : Ex := .mk 1 0 [] [] (1, 5, []) []
abbrev negFive : Ex := .mk 5 0 [] [] (0, 0, []) [five]
theorem AVw.one (o : Own) (e : Ex) (k op : Int) (t n : By) (v : Vl) (q : Own) : AVw (.agg [.i k, .i op, .s (bs t), .s (bs n), .i v.1, .i v.2.1, .s (bs v.2.2), .sl o [exK q e]]) (.agg (exA (.mk k op t n v [e]))) := by
  rw [exA_mk, exsA_cons, exsA_nil]
  refine AVw.agg rfl (fun i x x' h1 h2 => ?_)
  match i, h1, h2 with
  | 0, h1, h2 | 1, h1, h2 | 2, h1, h2 | 3, h1, h2 | 4, h1, h2 | 5, h1, h2 | 6, h1, h2 => cases h1; cases h2; exact AVw.refl _
  | 7, h1, h2 =>
    cases h1; cases h2
    have hh : AVw (.sl .any [exK q e]) (.sl .any [exA e]) := by
      refine AVw.els rfl (fun i a a' h1 h2 => ?_)
      match i, h1, h2 with
      | 0, h1, h2 =>
        cases h1; cases h2
        cases e with
        | mk k2 op2 t2 n2 v2 l2 =>
        rw [exA_mk, exK_mk]
        refine ⟨rfl, fun j y y' g1 g2 => ?_⟩
        match j, g1, g2 with
        | 0, g1, g2 | 1, g1, g2 | 2, g1, g2 | 3, g1, g2 | 4, g1, g2 | 5, g1, g2 | 6, g1, g2 => cases g1; cases g2; exact AVw.refl _
        | 7, g1, g2 => cases g1; cases g2; exact AVw.any _ _
    exact fun κ v hr => hh κ v (AVw.any _ _ κ v hr)
theorem five_lim : Lim negFive := by
  have r0 : inR 0 := by unfold inR; omega
  refine .mk _ _ _ _ _ _ (by simp) ⟨by unfold inR; omega, r0, r0, r0⟩ (fun e he => ?_)
  simp at he
  subst he
  exact .mk _ _ _ _ _ _ (by simp) ⟨by unfold inR; omega, r0, by unfold inR; simp, by unfold inR; simp⟩ (fun e he => by cases he)
theorem five_txt : rt negFive = true ∧ (toTr negFive).tk.length ≤ 2 ^ 30 ∧ exprR negFive = ([45, 32, 40, 32, 53, 32, 41], 0) := by decide +kernel
theorem z_small (σ : Sg) : VCalls Tryz.prog 8 [] σ (fun x σ' => x = .b true ∧ σ' = σ) := by
  obtain ⟨_, q2, q3⟩ := five_txt
  have hE : ∀ σ, VCalls Tryz.prog 11 [.agg [.i 5, .i 0, .s (bs []), .s (bs []), .i 0, .i 0, .s (bs []), .sl .full [[.i 1, .i 0, .s (bs []), .s (bs []), .i 1, .i 5, .s (bs []), .sl .nil []]]]] σ (fun x σ' => x = .tup [.s (bs [45, 32, 40, 32, 53, 32, 41]), .i 0] ∧ σ' = σ) := fun σ => by
    have h := w_Expr negFive five_lim (fun _ => q2) σ
    rw [q3] at h
    exact VCalls.arg1 (AVw.one .full five 5 0 [] [] (0, 0, []) .nil) h
  have hS := z_script
  unfold dropA at hS
  (refine vfun (fun _ => .no) mixed Tryz.func8 (by kernel_rfl) ?_; simp only [bodyOf, Tryz.f8, zr])
  repeat' (first | with_reducible rfl | exact trivial | exact .inr trivial | (with_reducible first | apply And.intro | apply vqx_step | apply vqm_step | refine vkp_free (by decide +kernel) ?_ | intro _) | refine zaY (j9 ui0 ui3 ui4 ui9 ui22 ui23 ui24 ui25 (j9 ui26 ui30 ui31 ui35 ui37 ui38 ui39 ui40 (j9 ui41 ui42 ui67 ui68 ui70 ui71 ui107 ui131 ui132))) ?_ | ((first | ((with_reducible refine zy (hE _) ?_); rintro _ S ⟨rfl, rfl⟩) | ((with_reducible refine zy (hS _) ?_); rintro _ S ⟨rfl, rfl⟩) | ((with_reducible refine zy (w_Expr _ (by assumption) (by assumption) _) ?_); rintro _ S ⟨rfl, rfl⟩) | (refine vlo_app zx ?_) | (refine vst_app zx ?_)); (try refine zsY (j9 ui0 ui3 ui4 ui9 ui22 ui23 ui24 ui25 (j9 ui26 ui30 ui31 ui35 ui37 ui38 ui39 ui40 (j9 ui41 ui42 ui67 ui68 ui70 ui71 ui107 ui131 ui132))) ?_)) | (with_reducible first | refine vfresh_set ?_ | refine vfresh_intro (fun _ _ => ?_) | refine vif_intro (fun _ => ?_) (fun _ => ?_)) | omega | refine ztY (j9 ui0 ui3 ui4 ui9 ui22 ui23 ui24 ui25 (j9 ui26 ui30 ui31 ui35 ui37 ui38 ui39 ui40 (j9 ui41 ui42 ui67 ui68 ui70 ui71 ui107 ui131 ui132))) ?_ | fail)
  all_goals (exact Go.V.zE)
end Go.Proofs.YtjdapkelojdefaaGreatDoor

set_option linter.unusedSimpArgs false
set_option linter.unusedVariables false
namespace Go.Proofs.YtjdapkelojdefaaGreatDoor
open Go Go.V Go.Lex Go.Parse Go.Print
theorem x_few : ∀ (d : Nat), d ≤ 100 → ∀ (e : Ex) (σ : Sg), VCalls Tryz.prog 9 [.agg (exA e), .i d] σ (fun x σ' => x = .b (fewB d e) ∧ σ' = σ)
  | 0, _, e, σ => by
    have hel := exA_len e
    unfold fewB
    generalize exA e = E at *
    (refine vfun (fun k => if k = 2 then .ro else .no) mixed Tryz.func9 (by kernel_rfl) ?_; simp only [bodyOf, Tryz.f9, zr])
    repeat' (first | with_reducible rfl | exact trivial | exact .inr trivial | (with_reducible first | apply And.intro | apply vqx_step | apply vqm_step | refine vkp_free (by decide +kernel) ?_ | intro _) | refine zaY (j2 ui0 (j9 ui3 ui4 ui9 ui22 ui23 ui24 ui25 ui26 hel)) ?_ | ((first | (refine vlo_app zx ?_) | (refine vst_app zx ?_)); (try refine zsY (j2 ui0 (j9 ui3 ui4 ui9 ui22 ui23 ui24 ui25 ui26 hel)) ?_)) | (with_reducible first | refine vfresh_set ?_ | refine vfresh_intro (fun _ _ => ?_) | refine vif_intro (fun _ => ?_) (fun _ => ?_)) | omega | refine ztY (j2 ui0 (j9 ui3 ui4 ui9 ui22 ui23 ui24 ui25 ui26 hel)) ?_ | fail)
    all_goals exact ⟨_, .refl _, rfl⟩
  | d + 1, hd, .mk kk op t n v l, σ => by
    have ih := fun e σ => x_few d (by omega) e σ
    have hn := exsA_len l
    have hall := exsA_all l
    have hgt := fun k (h : k < l.length) => exsA_get (l := l) h
    have hst := bs_size t
    have hsn := bs_size n
    have hsv := bs_size v.2.2
    rw [exA_mk]
    unfold fewB
    have hd1 : (((d + 1 : Nat) : Int)) = (d : Int) + 1 := by omega
    rw [hd1]
    by_cases hf : l.length ≤ 3 ∧ t.length ≤ 4096 ∧ n.length ≤ 4096 ∧ v.2.2.length ≤ 4096
    · rw [decide_eq_true hf, Bool.true_and]
      obtain ⟨f1, f2, f3, f4⟩ := hf
      (refine vfun (fun k => if k = 2 then .ro else .no) mixed Tryz.func9 (by kernel_rfl) ?_; simp only [bodyOf, Tryz.f9, zr])
      repeat' (first | with_reducible rfl | exact trivial | exact .inr trivial | (with_reducible first | apply And.intro | apply vqx_step | apply vqm_step | refine vkp_free (by decide +kernel) ?_ | intro _) | refine zaY (j6 ui0 ui3 ui4 ui9 ui22 (j9 ui23 ui24 ui25 ui26 hn hall hst hsn hsv)) ?_ | ((first | (refine vlo_app zx ?_) | (refine vst_app zx ?_)); (try refine zsY (j6 ui0 ui3 ui4 ui9 ui22 (j9 ui23 ui24 ui25 ui26 hn hall hst hsn hsv)) ?_)) | (with_reducible first | refine vfresh_set ?_ | refine vfresh_intro (fun _ _ => ?_) | refine vif_intro (fun _ => ?_) (fun _ => ?_)) | omega | refine ztY (j6 ui0 ui3 ui4 ui9 ui22 (j9 ui23 ui24 ui25 ui26 hn hall hst hsn hsv)) ?_ | fail)
      refine VW.loop3 (0 : Nat) () () (fun k _ _ => k ≤ l.length ∧ l.all (fewB d) = (l.drop k).all (fewB d)) (fun k _ _ => [(1, .i ((d : Int) + 1)), (2, .ro [.i kk, .i op, .s (bs t), .s (bs n), .i v.1, .i v.2.1, .s (bs v.2.2), .sl .any (exsA l)]), (5, .i k)]) (fun _ _ _ => σ) (fun k _ _ => l.length - k) ⟨Nat.zero_le _, rfl⟩ (.refl _) ?_ ?_
      · simp only [vO, vQ, ↓vP, vE, vS, vB, vL, vF, vM, vN, vbs_full, zb, zc, zd, ne_eq, not_false_eq_true, ze, zf, zj, zk, vT]
        all_goals rfl
      rintro k _ _ ⟨hk, hr⟩
      have hsub : (d : Int) + 1 - 1 = d := by omega
      rcases Nat.lt_or_ge k l.length with hk2 | hk2
      · have hg := hgt k hk2
        have hp := ih l[k]
        have hdr : (l.drop k).all (fewB d) = (fewB d l[k] && (l.drop (k + 1)).all (fewB d)) := by rw [List.drop_eq_getElem_cons hk2, List.all_cons]
        have hFl := exA_len l[k]
        have hFt := exA_take l[k]
        generalize exA l[k] = E at *
        generalize fewB d l[k] = b at *
        cases b with
        | false =>
          rw [hr, hdr]
          repeat' (first | with_reducible rfl | exact trivial | exact .inr trivial | (with_reducible first | apply And.intro | apply vqx_step | apply vqm_step | refine vkp_free (by decide +kernel) ?_ | intro _) | refine zaY (j7 ui0 ui3 ui4 ui9 ui22 ui23 (j9 ui24 ui25 ui26 hn hall hg hFl hFt hsub)) ?_ | ((first | ((with_reducible refine zy (hp _) ?_); rintro _ S ⟨rfl, rfl⟩) | (refine vlo_app zx ?_) | (refine vst_app zx ?_)); (try refine zsY (j7 ui0 ui3 ui4 ui9 ui22 ui23 (j9 ui24 ui25 ui26 hn hall hg hFl hFt hsub)) ?_)) | (with_reducible first | refine vfresh_set ?_ | refine vfresh_intro (fun _ _ => ?_) | refine vif_intro (fun _ => ?_) (fun _ => ?_)) | omega | refine ztY (j7 ui0 ui3 ui4 ui9 ui22 ui23 (j9 ui24 ui25 ui26 hn hall hg hFl hFt hsub)) ?_ | fail)
          all_goals first | exact ⟨_, .refl _, rfl⟩ | exact ⟨_, .refl _, rfl, rfl⟩
        | true =>
          repeat' (first | with_reducible rfl | exact trivial | exact .inr trivial | (with_reducible first | apply And.intro | apply vqx_step | apply vqm_step | refine vkp_free (by decide +kernel) ?_ | intro _) | refine zaY (j7 ui0 ui3 ui4 ui9 ui22 ui23 (j9 ui24 ui25 ui26 hn hall hg hFl hFt hsub)) ?_ | ((first | ((with_reducible refine zy (hp _) ?_); rintro _ S ⟨rfl, rfl⟩) | (refine vlo_app zx ?_) | (refine vst_app zx ?_)); (try refine zsY (j7 ui0 ui3 ui4 ui9 ui22 ui23 (j9 ui24 ui25 ui26 hn hall hg hFl hFt hsub)) ?_)) | (with_reducible first | refine vfresh_set ?_ | refine vfresh_intro (fun _ _ => ?_) | refine vif_intro (fun _ => ?_) (fun _ => ?_)) | omega | refine ztY (j7 ui0 ui3 ui4 ui9 ui22 ui23 (j9 ui24 ui25 ui26 hn hall hg hFl hFt hsub)) ?_ | fail)
          exact ⟨k + 1, (), (), ⟨⟨hk2, by rw [hr, hdr]; rfl⟩, by omega⟩, .refl _, rfl⟩
      · rw [hr, List.drop_of_length_le hk2]
        repeat' (first | with_reducible rfl | exact trivial | exact .inr trivial | (with_reducible first | apply And.intro | apply vqx_step | apply vqm_step | refine vkp_free (by decide +kernel) ?_ | intro _) | refine zaY (j3 ui0 ui3 (j9 ui4 ui9 ui22 ui23 ui24 ui25 ui26 hn hall)) ?_ | ((first | (refine vlo_app zx ?_) | (refine vst_app zx ?_)); (try refine zsY (j3 ui0 ui3 (j9 ui4 ui9 ui22 ui23 ui24 ui25 ui26 hn hall)) ?_)) | (with_reducible first | refine vfresh_set ?_ | refine vfresh_intro (fun _ _ => ?_) | refine vif_intro (fun _ => ?_) (fun _ => ?_)) | omega | refine ztY (j3 ui0 ui3 (j9 ui4 ui9 ui22 ui23 ui24 ui25 ui26 hn hall)) ?_ | fail)
        all_goals first | exact ⟨_, .refl _, rfl⟩ | exact ⟨_, .refl _, rfl, rfl⟩
    · rw [decide_eq_false hf, Bool.false_and]
      (refine vfun (fun k => if k = 2 then .ro else .no) mixed Tryz.func9 (by kernel_rfl) ?_; simp only [bodyOf, Tryz.f9, zr])
      repeat' (first | with_reducible rfl | exact trivial | exact .inr trivial | (with_reducible first | apply And.intro | apply vqx_step | apply vqm_step | refine vkp_free (by decide +kernel) ?_ | intro _) | refine zaY (j6 ui0 ui3 ui4 ui9 ui22 (j9 ui23 ui24 ui25 ui26 hn hall hst hsn hsv)) ?_ | ((first | (refine vlo_app zx ?_) | (refine vst_app zx ?_)); (try refine zsY (j6 ui0 ui3 ui4 ui9 ui22 (j9 ui23 ui24 ui25 ui26 hn hall hst hsn hsv)) ?_)) | (with_reducible first | refine vfresh_set ?_ | refine vfresh_intro (fun _ _ => ?_) | refine vif_intro (fun _ => ?_) (fun _ => ?_)) | omega | refine ztY (j6 ui0 ui3 ui4 ui9 ui22 (j9 ui23 ui24 ui25 ui26 hn hall hst hsn hsv)) ?_ | fail)
      all_goals first | exact ⟨_, .refl _, rfl⟩ | (exfalso; omega)
theorem x_same : ∀ (d : Nat) (e : Ex), fewB d e = true → ∀ σ, VCalls Tryz.prog 13 [.agg (exA e), .agg (exA e)] σ (fun x σ' => x = .b true ∧ σ' = σ)
  | 0, e, h, σ => by unfold fewB at h; cases h
  | d + 1, .mk k op t n v l, h, σ => by
    obtain ⟨h1, h2⟩ := few_mk h
    exact p7w k op t n v l (p12 l (fun i hi σ => x_same d _ (h2 _ (List.getElem_mem hi)) σ) (by omega)) σ
end Go.Proofs.YtjdapkelojdefaaGreatDoor

set_option linter.unusedSimpArgs false
set_option linter.unusedVariables false
namespace Go.Proofs.YtjdapkelojdefaaGreatDoor
open Go Go.V Go.Lex Go.Parse Go.Print
theorem exsA_one1 (l : List Ex) : allOne (exsA l) 8 = True := eq_true (by
  induction l with
  | nil => intro e he; rw [exsA_nil] at he; cases he
  | cons x r ih =>
    intro e he
    rw [exsA_cons] at he
    rcases List.mem_cons.1 he with rfl | he
    · exact ⟨exA_len x, exA_one x⟩
    · exact ih e he)
theorem exsA_snoc (l : List Ex) (e : Ex) : exsA (l ++ [e]) = exsA l ++ [exA e] := by
  induction l with
  | nil => rw [List.nil_append, exsA_cons, exsA_nil]; rfl
  | cons x r ih => rw [List.cons_append, exsA_cons, exsA_cons, ih]; rfl
theorem x_copied : ∀ (d : Nat) (e : Ex), fewB d e = true → ∀ σ, VCalls Tryz.prog 10 [.agg (exA e)] σ (fun x σ' => x = .agg (exA e) ∧ σ' = σ)
  | 0, e, h, σ => by unfold fewB at h; cases h
  | d + 1, .mk kk op t n v l, h, σ => by
    obtain ⟨h1, h2⟩ := few_mk h
    have ih := fun e he σ => x_copied d e (h2 e he) σ
    have hn := exsA_len l
    have hall := exsA_all l
    have hgt := fun k (h : k < l.length) => exsA_get (l := l) h
    refine lose_ex ?_
    obtain ⟨z27, h27, hz27⟩ := zero27
    simp only [ex0, exK_mk, exsA_nil] at hz27
    rw [exA_mk]
    (refine vfun (fun _ => .no) mixed Tryz.func10 (by kernel_rfl) ?_; simp only [bodyOf, Tryz.f10, zr])
    repeat' (first | with_reducible rfl | exact trivial | exact .inr trivial | (with_reducible first | apply And.intro | apply vqx_step | apply vqm_step | refine vkp_free (by decide +kernel) ?_ | intro _) | refine zaY (j5 ui0 ui3 ui4 ui9 (j9 ui22 ui23 ui24 ui25 hn hall ui26 h27 hz27)) ?_ | ((first | (refine vlo_app zx ?_) | (refine vst_app zx ?_)); (try refine zsY (j5 ui0 ui3 ui4 ui9 (j9 ui22 ui23 ui24 ui25 hn hall ui26 h27 hz27)) ?_)) | (with_reducible first | refine vfresh_set ?_ | refine vfresh_intro (fun _ _ => ?_) | refine vif_intro (fun _ => ?_) (fun _ => ?_)) | omega | refine ztY (j5 ui0 ui3 ui4 ui9 (j9 ui22 ui23 ui24 ui25 hn hall ui26 h27 hz27)) ?_ | fail)
    rename_i x1 g1 x2 g2 n2
    refine VW.loop4 (0 : Nat) (AV.sl .nil []) ((σ.set x1 (.cells 26 [.i kk, .i op, .s (bs t), .s (bs n), .i v.1, .i v.2.1, .s (bs v.2.2), .sl .any (exsA l)])).set x2 (.cells 26 [.i 0, .i 0, .s (bs []), .s (bs []), .i 0, .i 0, .s (bs []), .sl .nil []])) () (fun k V S _ => k ≤ l.length ∧ Grown 26 8 (exsA (l.take k)) ((σ.set x1 (.cells 26 [.i kk, .i op, .s (bs t), .s (bs n), .i v.1, .i v.2.1, .s (bs v.2.2), .sl .any (exsA l)])).set x2 (.cells 26 [.i 0, .i 0, .s (bs []), .s (bs []), .i 0, .i 0, .s (bs []), .sl .nil []])) V S) (fun k V _ _ => [(1, .ref x1 0), (2, .ref x2 0), (3, V), (4, .i k)]) (fun _ _ S _ => S) (fun k _ _ _ => l.length - k) ⟨Nat.zero_le _, by rw [List.take_zero, exsA_nil]; exact .nil _ _ _⟩ (.refl _) ?_ ?_
    · simp only [vO, vQ, ↓vP, vE, vS, vB, vL, vF, vM, vN, vbs_full, zb, zc, zd, ne_eq, not_false_eq_true, ze, zf, zj, zk, vT]
      all_goals rfl
    rintro k V S _ ⟨hk, hG⟩
    rcases Nat.lt_or_ge k l.length with hk2 | hk2
    · have hg := hgt k hk2
      have hp := ih l[k] (List.getElem_mem hk2)
      have htt : exsA (l.take (k + 1)) = exsA (l.take k) ++ [exA l[k]] := by rw [List.take_succ_eq_append_getElem hk2, exsA_snoc]
      have hFl := exA_len l[k]
      have hFt := exA_take l[k]
      have hFd := exA_drop l[k]
      have hFo := exA_one l[k]
      have hw1 : (exsA (l.take k)).length = k := by rw [exsA_len, List.length_take]; omega
      have hw2 := exsA_all (l.take k)
      have hw3 := exsA_one1 (l.take k)
      generalize exA l[k] = E at *
      generalize exsA (l.take k) = W at *
      rcases hG with ⟨e1, rfl, rfl⟩ | ⟨τ, hτ, rfl, rfl⟩
      · rw [e1] at hw1 hw2 hw3
        repeat' (first | with_reducible rfl | exact trivial | exact .inr trivial | (with_reducible first | apply And.intro | apply vqx_step | apply vqm_step | refine vkp_free (by decide +kernel) ?_ | intro _) | refine zaY (j3 ui0 ui3 (j9 ui4 ui9 ui22 ui23 ui24 ui25 hn hall (j9 hg e1 hFl hFt hFd hFo ui26 h27 hz27))) ?_ | ((first | ((with_reducible refine zy (hp _) ?_); rintro _ S ⟨rfl, rfl⟩) | (refine vlo_app zx ?_) | (refine vst_app zx ?_)); (try refine zsY (j3 ui0 ui3 (j9 ui4 ui9 ui22 ui23 ui24 ui25 hn hall (j9 hg e1 hFl hFt hFd hFo ui26 h27 hz27))) ?_)) | (with_reducible first | refine vfresh_set ?_ | refine vfresh_intro (fun _ _ => ?_) | refine vif_intro (fun _ => ?_) (fun _ => ?_)) | omega | refine ztY (j3 ui0 ui3 (j9 ui4 ui9 ui22 ui23 ui24 ui25 hn hall (j9 hg e1 hFl hFt hFd hFo ui26 h27 hz27))) ?_ | fail)
        rename_i x3 g3 _ _ x4 g4 m1 m2 m3
        exact ⟨k + 1, _, _, (), ⟨⟨hk2, .tok (τ := x4) (by simp only [Sg.set_apply]; grind)⟩, by omega⟩, by (intro y p hy; simp only [Sg.set_apply] at hy ⊢; grind), by rw [htt, e1]; rfl, rfl⟩
      · obtain ⟨c2, c⟩ := Sg.none_set hτ
        obtain ⟨c1, c0⟩ := Sg.none_set c
        have c1' := c1.symm
        have c2' := c2.symm
        repeat' (first | with_reducible rfl | exact trivial | exact .inr trivial | (with_reducible first | apply And.intro | apply vqx_step | apply vqm_step | refine vkp_free (by decide +kernel) ?_ | intro _) | refine zaY (j5 ui0 ui3 ui4 ui9 (j9 ui22 ui23 ui24 ui25 hn hall hg hw1 (j9 hw2 hw3 hFl hFt hFd hFo ui26 h27 hz27))) ?_ | ((first | ((with_reducible refine zy (hp _) ?_); rintro _ S ⟨rfl, rfl⟩) | (refine vlo_app zx ?_) | (refine vst_app zx ?_)); (try refine zsY (j5 ui0 ui3 ui4 ui9 (j9 ui22 ui23 ui24 ui25 hn hall hg hw1 (j9 hw2 hw3 hFl hFt hFd hFo ui26 h27 hz27))) ?_)) | (with_reducible first | refine vfresh_set ?_ | refine vfresh_intro (fun _ _ => ?_) | refine vif_intro (fun _ => ?_) (fun _ => ?_)) | omega | refine ztY (j5 ui0 ui3 ui4 ui9 (j9 ui22 ui23 ui24 ui25 hn hall hg hw1 (j9 hw2 hw3 hFl hFt hFd hFo ui26 h27 hz27))) ?_ | fail)
        rename_i x3 g3 _ _ _ x4 g4 m1 m2 m3 m4
        exact ⟨k + 1, _, _, (), ⟨⟨hk2, .tok (τ := x4) (by simp only [Sg.set_apply]; grind)⟩, by omega⟩, by (intro y p hy; simp only [Sg.set_apply, Sg.del_apply] at hy ⊢; grind), by rw [htt], rfl⟩
    · rw [List.take_of_length_le hk2] at hG
      rcases hG with ⟨e1, rfl, rfl⟩ | ⟨τ, hτ, rfl, rfl⟩
      · repeat' (first | with_reducible rfl | exact .inr trivial | (with_reducible first | apply And.intro | apply vqx_step | apply vqm_step | refine vkp_free (by decide +kernel) ?_ | intro _) | ((first | (with_reducible first | refine .rs ?_ | refine .ds (by kernel_rfl) ?_ | refine .dg (by kernel_rfl) ?_ | refine .rg ?_ | refine .ite ?_ | refine .ret ?_ | refine .skip ?_ | refine .exit ?_ | refine .scope ?_ | refine .seq (.label ?_) | refine .block ?_ | refine .seq ?_) | (simp (disch := first | assumption | (apply zv; assumption; assumption) | (apply zw; assumption; assumption; (intro e; cases e; done)) | omega) only [w64, w8, tg_eq, Go.V.n1, Go.V.n2, Go.V.nn, Int.tdiv_eq_ediv_of_nonneg, zm, zn, zo, zp, zq]) | (refine vlo_app zx ?_) | (refine vst_app zx ?_)); (try simp only [vO, vQ, ↓vP, vE, vS, vB, vL, vF, vM, vN, vbs_full, zb, zc, zd, ne_eq, not_false_eq_true, ze, zf, zj, zk, Z0, info0, Z3, info3, Z4, info4, Z9, info9, Z22, info22, Z23, info23, Z24, info24, Z25, info25, Z26, info26, hn, hall, splice, vown2_r, vown2_pos, vown2_neg, zr, ↓reduceIte, List.getD_cons_zero, List.getD_cons_succ, vT])) | (with_reducible first | refine vfresh_set ?_ | refine vfresh_intro (fun _ _ => ?_) | refine vif_intro (fun _ => ?_) (fun _ => ?_)) | omega | ((with_reducible first | refine vop_at ?_ | refine vops_at ?_ | refine vquiet_at ?_ | refine vmix_at ?_ | refine Holds_at ?_); simp only [vO, vQ, ↓vP, vE, vS, vB, vL, vF, vM, vN, vbs_full, zb, zc, zd, ne_eq, not_false_eq_true, ze, zf, zj, zk, Z0, info0, Z3, info3, Z4, info4, Z9, info9, Z22, info22, Z23, info23, Z24, info24, Z25, info25, Z26, info26, hn, hall, splice, vown2_r, vown2_pos, vown2_neg, zr, ↓reduceIte, List.getD_cons_zero, List.getD_cons_succ, vT]))
        all_goals (refine ⟨_, .refl _, .nil, by rw [exK_mk, e1], ?_⟩; intro y p hy; simp only [Sg.set_apply] at hy ⊢; grind)
      · obtain ⟨c2, c⟩ := Sg.none_set hτ
        obtain ⟨c1, c0⟩ := Sg.none_set c
        have c1' := c1.symm
        have c2' := c2.symm
        repeat' (first | with_reducible rfl | exact .inr trivial | (with_reducible first | apply And.intro | apply vqx_step | apply vqm_step | refine vkp_free (by decide +kernel) ?_ | intro _) | ((first | (with_reducible first | refine .rs ?_ | refine .ds (by kernel_rfl) ?_ | refine .dg (by kernel_rfl) ?_ | refine .rg ?_ | refine .ite ?_ | refine .ret ?_ | refine .skip ?_ | refine .exit ?_ | refine .scope ?_ | refine .seq (.label ?_) | refine .block ?_ | refine .seq ?_) | (simp (disch := first | assumption | (apply zv; assumption; assumption) | (apply zw; assumption; assumption; (intro e; cases e; done)) | omega) only [w64, w8, tg_eq, Go.V.n1, Go.V.n2, Go.V.nn, Int.tdiv_eq_ediv_of_nonneg, zm, zn, zo, zp, zq]) | (refine vlo_app zx ?_) | (refine vst_app zx ?_)); (try simp only [vO, vQ, ↓vP, vE, vS, vB, vL, vF, vM, vN, vbs_full, zb, zc, zd, ne_eq, not_false_eq_true, ze, zf, zj, zk, Z0, info0, Z3, info3, Z4, info4, Z9, info9, Z22, info22, Z23, info23, Z24, info24, Z25, info25, Z26, info26, hn, hall, splice, vown2_r, vown2_pos, vown2_neg, zr, ↓reduceIte, List.getD_cons_zero, List.getD_cons_succ, vT])) | (with_reducible first | refine vfresh_set ?_ | refine vfresh_intro (fun _ _ => ?_) | refine vif_intro (fun _ => ?_) (fun _ => ?_)) | omega | ((with_reducible first | refine vop_at ?_ | refine vops_at ?_ | refine vquiet_at ?_ | refine vmix_at ?_ | refine Holds_at ?_); simp only [vO, vQ, ↓vP, vE, vS, vB, vL, vF, vM, vN, vbs_full, zb, zc, zd, ne_eq, not_false_eq_true, ze, zf, zj, zk, Z0, info0, Z3, info3, Z4, info4, Z9, info9, Z22, info22, Z23, info23, Z24, info24, Z25, info25, Z26, info26, hn, hall, splice, vown2_r, vown2_pos, vown2_neg, zr, ↓reduceIte, List.getD_cons_zero, List.getD_cons_succ, vT]))
        all_goals (refine ⟨_, .refl _, .tok τ 8, by rw [exK_mk], ?_⟩; intro y p hy; simp only [Sg.set_apply, Sg.del_apply] at hy ⊢; grind)
end Go.Proofs.YtjdapkelojdefaaGreatDoor

set_option linter.unusedSimpArgs false
set_option linter.unusedVariables false
namespace Go.Proofs.YtjdapkelojdefaaGreatDoor
open Go Go.V Go.Lex Go.Parse Go.Print
theorem law_exprs (e : Ex) (hL : Lim e) (σ : Sg) : VCalls Tryz.prog 3 [.agg (exA e)] σ (fun x σ' => x = .b true ∧ σ' = σ) := by
  have hel := exA_len e
  have het := exA_take e
  have hed := exA_drop e
  have hone := exA_one e
  have hf : ∀ σ, VCalls Tryz.prog 9 [.agg (exA e), .i 12] σ _ := fun σ => x_few 12 (by decide) e σ
  cases hb : fewB 12 e with
  | false =>
    rw [hb] at hf
    generalize exA e = E at *
    (refine vfun (fun k => if k = 1 then .ro else .no) mixed Tryz.func3 (by kernel_rfl) ?_; simp only [bodyOf, Tryz.f3, zr])
    repeat' (first | with_reducible rfl | exact trivial | exact .inr trivial | (with_reducible first | apply And.intro | apply vqx_step | apply vqm_step | refine vkp_free (by decide +kernel) ?_ | intro _) | refine zaY (j5 ui0 ui3 ui4 ui9 (j9 ui22 ui23 ui24 ui25 ui26 ui30 ui31 hel het)) ?_ | ((first | ((with_reducible refine zy (hf _) ?_); rintro _ S ⟨rfl, rfl⟩) | ((with_reducible refine zy (z_small _) ?_); rintro _ S ⟨rfl, rfl⟩) | ((with_reducible refine zy (w_Expr _ (by assumption) (by assumption) _) ?_); rintro _ S ⟨rfl, rfl⟩) | ((with_reducible refine zy (x_Expr _ (by assumption) (by assumption) _) ?_); rintro _ S ⟨rfl, rfl⟩) | ((with_reducible refine zy (p7 (by assumption) _) ?_); rintro _ S ⟨rfl, rfl⟩) | (refine vlo_app zx ?_) | (refine vst_app zx ?_)); (try refine zsY (j5 ui0 ui3 ui4 ui9 (j9 ui22 ui23 ui24 ui25 ui26 ui30 ui31 hel het)) ?_)) | (with_reducible first | refine vfresh_set ?_ | refine vfresh_intro (fun _ _ => ?_) | refine vif_intro (fun _ => ?_) (fun _ => ?_)) | omega | refine ztY (j5 ui0 ui3 ui4 ui9 (j9 ui22 ui23 ui24 ui25 ui26 ui30 ui31 hel het)) ?_ | fail)
    all_goals exact ⟨_, .refl _, rfl⟩
  | true =>
    rw [hb] at hf
    have hlen : rt e = true → (toTr e).tk.length ≤ 2 ^ 30 := fun hr => by
      have := few_tk 12 (toTr e) (by rw [(toTr_ok e hr).1]; exact hb)
      omega
    have h1 := w_Expr e hL hlen
    have h2 := x_Expr e hL hlen
    have h3 := x_copied 12 e hb
    have h4 := x_same 12 e hb
    generalize exA e = E at *
    generalize (exprR e).1 = s at *
    generalize (exprR e).2 = c at *
    (refine vfun (fun k => if k = 1 then .ro else .no) mixed Tryz.func3 (by kernel_rfl) ?_; simp only [bodyOf, Tryz.f3, zr])
    repeat' (first | with_reducible rfl | exact trivial | exact .inr trivial | (with_reducible first | apply And.intro | apply vqx_step | apply vqm_step | refine vkp_free (by decide +kernel) ?_ | intro _) | refine zaY (j7 ui0 ui3 ui4 ui9 ui22 ui23 (j9 ui24 ui25 ui26 ui30 ui31 hel het hed hone)) ?_ | ((first | ((with_reducible refine zy (hf _) ?_); rintro _ S ⟨rfl, rfl⟩) | ((with_reducible refine zy (h1 _) ?_); rintro _ S ⟨rfl, rfl⟩) | ((with_reducible refine zy (h2 _) ?_); rintro _ S ⟨rfl, rfl⟩) | ((with_reducible refine zy (h3 _) ?_); rintro _ S ⟨rfl, rfl⟩) | ((with_reducible refine zy (h4 _) ?_); rintro _ S ⟨rfl, rfl⟩) | ((with_reducible refine zy (z_small _) ?_); rintro _ S ⟨rfl, rfl⟩) | ((with_reducible refine zy (w_Expr _ (by assumption) (by assumption) _) ?_); rintro _ S ⟨rfl, rfl⟩) | ((with_reducible refine zy (x_Expr _ (by assumption) (by assumption) _) ?_); rintro _ S ⟨rfl, rfl⟩) | ((with_reducible refine zy (p7 (by assumption) _) ?_); rintro _ S ⟨rfl, rfl⟩) | (refine vlo_app zx ?_) | (refine vst_app zx ?_)); (try refine zsY (j7 ui0 ui3 ui4 ui9 ui22 ui23 (j9 ui24 ui25 ui26 ui30 ui31 hel het hed hone)) ?_)) | (with_reducible first | refine vfresh_set ?_ | refine vfresh_intro (fun _ _ => ?_) | refine vif_intro (fun _ => ?_) (fun _ => ?_)) | omega | refine ztY (j7 ui0 ui3 ui4 ui9 ui22 ui23 (j9 ui24 ui25 ui26 ui30 ui31 hel het hed hone)) ?_ | fail)
    all_goals (first | (exact Go.V.zE) | (exfalso; simp_all))
end Go.Proofs.YtjdapkelojdefaaGreatDoor

namespace Go.V
open Go.RowKit
variable {P : Program}
def K0 (w : World) : K := ⟨w, fun _ _ => False, fun _ => none, w.heap.size⟩
def S0 : Sg := fun _ => none
theorem st0 (w : World) (hg : Glob (K0 w)) : St (K0 w) S0 where
  ob _ _ h := by cases h
  apart _ _ _ _ _ _ _ _ _ _ h := by cases h
  fin := ⟨0, fun _ _ => rfl⟩
  mlt _ _ h := h.elim
  bas := Nat.le_refl _
  glob := hg
theorem VCalls.calls {f : FuncId} {fn : Func} {args : List AV} {vs : Array Value} {w : World} (hf : P.funcs[f]? = some fn) (hb : (fn.body.isSome && !(fn.name == "runtime.NumGoroutine")) = true)
    (h : VCalls P f args S0 (fun x _ => x = .b true)) (hr : RelArgs (K0 w) args vs) (hg : Glob (K0 w)) : Calls P f vs w fun e w' => e = .returned (.bool true) ∧ Below w.heap.size w w' := by
  simp only [Bool.and_eq_true] at hb
  obtain ⟨h1, h2⟩ := hb
  obtain ⟨c, hc⟩ : ∃ c, fn.body = some c := by
    cases hh : fn.body with
    | none => rw [hh] at h1; cases h1
    | some c => exact ⟨c, rfl⟩
  have hrun : (callFunc f vs).run P w = .ok (.enter f vs) w := by
    have h3 : fn.name ≠ "runtime.NumGoroutine" := by simpa using h2
    simp [callFunc, program, Sem.run, Bind.bind, Sem.bind, hf, h3, hc]
  have hd := h.go (K0 w) vs (st0 w hg) hr
  rw [show (K0 w).w = w from rfl, hrun] at hd
  have hcalls : Calls P f vs w (PostE (K0 w) (fun x _ => x = .b true)) := hd
  refine hcalls.mono fun e w' hp => ?_
  cases e with
  | returned v =>
    obtain ⟨κ', x, σ', rfl, hle, hst, hrel, rfl⟩ := hp
    refine ⟨?_, ⟨hle.os, hle.tape, hle.output, hle.size, fun k hk => hle.block k hk⟩⟩
    cases hrel
    rfl
  | _ => exact hp.elim
end Go.V
