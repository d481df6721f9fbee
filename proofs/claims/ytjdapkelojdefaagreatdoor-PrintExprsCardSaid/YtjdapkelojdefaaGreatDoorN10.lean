/- Part 10 of the proof: W5, W6, E2, V17, V20, V21, E3, E4, E7. -/
import Derived.Test.YtjdapkelojdefaaGreatDoorN7
import Derived.Test.YtjdapkelojdefaaGreatDoorN9
import Derived.Test.YtjdapkelojdefaaGreatDoorN8
import Derived.Test.YtjdapkelojdefaaGreatDoorN4
import Derived.Lib.Bytealg
import Derived.Lib.MakeNoZero
import Derived.Test.YtjdapkelojdefaaGreatDoorN6

set_option linter.all false
set_option maxRecDepth 100000
set_option maxHeartbeats 1000000
open Go.V.Sg renaming set_same → zm, set_ne → zn, set_ne' → zo, del_ne → zp, del_ne' → zq
open Option renaming getD_some → zr
open Go.Cert renaming ne_of2 → zv, ne_ob → zw, lk → zx
open Go.V.VCalls renaming mono → zy
set_option linter.unusedSimpArgs false
set_option linter.unusedVariables false
namespace Go.Proofs.YtjdapkelojdefaaGreatDoor
open Go Go.V Go.Lex Go.Parse Go.Print
theorem ops_get (k : Nat) (h : k < 14) : (strs ops).getD k [] = [.s (bs (ops.getD k []))] := strs_get h
theorem ops_ne : ∀ k, k < 14 → 1 ≤ k → ops.getD k [] ≠ [] := by decide +kernel
theorem ops_len : (strs ops).length = 14 := rfl
theorem wdDot : wd [46] = sT [46] := rfl
theorem rgV {v : Vl} (h1 : okV v = true) (h2 : inR v.2.1) : inR' v.2.1 ∧ (v.1 = 0 ∨ v.1 = 1 ∨ v.1 = 2) := by
  unfold inR at h2
  unfold inR'
  rcases okV_cases h1 with rfl | ⟨q1, q2, q3⟩ | ⟨q1, q2, q3⟩
  · exact ⟨⟨by decide, by decide⟩, .inl rfl⟩
  · exact ⟨by omega, .inr (.inl q1)⟩
  · exact ⟨by omega, .inr (.inr q1)⟩
theorem x_val (v : Vl) (hw : (Tr.val v).wf) (hg : (Tr.val v).rg) : Cx (.val v) := by
  intro B ω τ l d m h h0 h1 h2 h3 h4
  obtain ⟨q1, q2⟩ := rgV hw hg
  have hl := (litT_len v).2
  have hL : ∀ T r, _ := fun T r => w_literal T r B ω τ l v h (by omega) q1 q2
  rw [ex_val]
  have e1 : (Tr.val v).tk = litT v := rfl
  have e2 : (Tr.val v).dp = 0 := rfl
  rw [e1, e2]
  generalize v.1 = v1 at *
  generalize v.2.1 = v2 at *
  generalize v.2.2 = v3 at *
  (refine vfun (fun _ => .ro) mixed Tryz.func21 (by kernel_rfl) ?_; simp only [bodyOf, Tryz.f21, zr])
  repeat' (first | with_reducible rfl | exact trivial | exact .inr trivial | (with_reducible first | apply And.intro | apply vqx_step | apply vqm_step | refine vkp_free (by decide +kernel) ?_ | intro _) | ((with_reducible refine .dms (fun x => False) [(0, false), (1, false), (2, false), (3, true), (4, false), (5, true)] (by decide) (by decide +kernel) ?_); (refine zsR (j3 ui0 ui3 (j9 ui4 ui9 ui22 ui23 ui24 ui25 ui26 ui55 (j9 ui56 ui57 ui58 ui59 ui75 ui101 ui102 @tksA_len (j9 @tksA_all @tksA_one @List.length_append.{0} @List.length_cons.{0} @List.length_nil.{0} @wds_len @wdsE_nil @wdsE_cons @splice0)))) ?_)) | ((with_reducible refine .dm (fun x => False) [(0, false), (1, false), (2, false), (3, true), (4, false), (5, true)] (by decide) (by decide +kernel) ?_); (refine zsR (j3 ui0 ui3 (j9 ui4 ui9 ui22 ui23 ui24 ui25 ui26 ui55 (j9 ui56 ui57 ui58 ui59 ui75 ui101 ui102 @tksA_len (j9 @tksA_all @tksA_one @List.length_append.{0} @List.length_cons.{0} @List.length_nil.{0} @wds_len @wdsE_nil @wdsE_cons @splice0)))) ?_)) | ((with_reducible refine .dms (fun x => False) [(0, false), (1, false), (2, false), (3, true), (4, false), (5, true)] (by decide) (by decide +kernel) ?_); (refine zsR (j3 ui0 ui3 (j9 ui4 ui9 ui22 ui23 ui24 ui25 ui26 ui55 (j9 ui56 ui57 ui58 ui59 ui75 ui101 ui102 @tksA_len (j9 @tksA_all @tksA_one @List.length_append.{0} @List.length_cons.{0} @List.length_nil.{0} @wds_len @wdsE_nil @wdsE_cons @splice0)))) ?_)) | ((with_reducible refine .dm (fun x => False) [(0, false), (1, false), (2, false), (3, true), (4, false), (5, true)] (by decide) (by decide +kernel) ?_); (refine zsR (j3 ui0 ui3 (j9 ui4 ui9 ui22 ui23 ui24 ui25 ui26 ui55 (j9 ui56 ui57 ui58 ui59 ui75 ui101 ui102 @tksA_len (j9 @tksA_all @tksA_one @List.length_append.{0} @List.length_cons.{0} @List.length_nil.{0} @wds_len @wdsE_nil @wdsE_cons @splice0)))) ?_)) | ((with_reducible refine .dms (fun x => False) [(0, false), (1, false), (2, false), (3, true), (4, false), (5, true)] (by decide) (by decide +kernel) ?_); (refine zsR (j3 ui0 ui3 (j9 ui4 ui9 ui22 ui23 ui24 ui25 ui26 ui55 (j9 ui56 ui57 ui58 ui59 ui75 ui101 ui102 @tksA_len (j9 @tksA_all @tksA_one @List.length_append.{0} @List.length_cons.{0} @List.length_nil.{0} @wds_len @wdsE_nil @wdsE_cons @splice0)))) ?_)) | ((with_reducible refine .dm (fun x => False) [(0, false), (1, false), (2, false), (3, true), (4, false), (5, true)] (by decide) (by decide +kernel) ?_); (refine zsR (j3 ui0 ui3 (j9 ui4 ui9 ui22 ui23 ui24 ui25 ui26 ui55 (j9 ui56 ui57 ui58 ui59 ui75 ui101 ui102 @tksA_len (j9 @tksA_all @tksA_one @List.length_append.{0} @List.length_cons.{0} @List.length_nil.{0} @wds_len @wdsE_nil @wdsE_cons @splice0)))) ?_)) | ((with_reducible refine .dms (fun x => False) [(0, false), (1, false), (2, false), (3, false), (4, true), (5, true), (6, true), (7, true), (8, false), (9, true)] (by decide) (by decide +kernel) ?_); (refine zsR (j3 ui0 ui3 (j9 ui4 ui9 ui22 ui23 ui24 ui25 ui26 ui55 (j9 ui56 ui57 ui58 ui59 ui75 ui101 ui102 @tksA_len (j9 @tksA_all @tksA_one @List.length_append.{0} @List.length_cons.{0} @List.length_nil.{0} @wds_len @wdsE_nil @wdsE_cons @splice0)))) ?_)) | ((with_reducible refine .dm (fun x => False) [(0, false), (1, false), (2, false), (3, false), (4, true), (5, true), (6, true), (7, true), (8, false), (9, true)] (by decide) (by decide +kernel) ?_); (refine zsR (j3 ui0 ui3 (j9 ui4 ui9 ui22 ui23 ui24 ui25 ui26 ui55 (j9 ui56 ui57 ui58 ui59 ui75 ui101 ui102 @tksA_len (j9 @tksA_all @tksA_one @List.length_append.{0} @List.length_cons.{0} @List.length_nil.{0} @wds_len @wdsE_nil @wdsE_cons @splice0)))) ?_)) | refine zaR (j3 ui0 ui3 (j9 ui4 ui9 ui22 ui23 ui24 ui25 ui26 ui55 (j9 ui56 ui57 ui58 ui59 ui75 ui101 ui102 @tksA_len (j9 @tksA_all @tksA_one @List.length_append.{0} @List.length_cons.{0} @List.length_nil.{0} @wds_len @wdsE_nil @wdsE_cons @splice0)))) ?_ | refine zkN (j3 ui0 ui3 (j9 ui4 ui9 ui22 ui23 ui24 ui25 ui26 ui55 (j9 ui56 ui57 ui58 ui59 ui75 ui101 ui102 @tksA_len (j9 @tksA_all @tksA_one @List.length_append.{0} @List.length_cons.{0} @List.length_nil.{0} @wds_len @wdsE_nil @wdsE_cons @splice0)))) ?_ | ((first | (refine vkp_keep (by intro β h; first | (rcases h with h | h <;> subst h <;> (simp (disch := first | assumption | (apply zv; assumption; assumption) | (apply zw; assumption; assumption; (intro e; cases e; done)) | omega) only [zm, zn, zo, zp, zq])) | (subst h; (simp (disch := first | assumption | (apply zv; assumption; assumption) | (apply zw; assumption; assumption; (intro e; cases e; done)) | omega) only [zm, zn, zo, zp, zq]))) ?_) | ((with_reducible refine zy (hL _ _) ?_); rintro _ S ⟨rfl, τ1, ⟨f1, n1⟩, rfl⟩; have n1s := n1.symm) | ((with_reducible refine zy (w_wordsE _ _ _ _ _ _ _ _ (by repeat (first | exact okW_nil | refine okW_cons ?_ (by simp))) (by first | assumption | exact ⟨by assumption, by assumption⟩) (by first | omega | (simp only [List.length_append, List.length_cons, List.length_nil, List.length_map]; omega))) ?_); rintro _ S ⟨rfl, τ1, ⟨f1, n1⟩, rfl⟩; have n1s := n1.symm) | ((with_reducible refine zy (w_literal _ _ _ _ _ _ _ (by first | assumption | exact ⟨by assumption, by assumption⟩) (by first | omega | (simp only [List.length_append, List.length_cons, List.length_nil, List.length_map]; omega)) (by assumption) (by assumption)) ?_); rintro _ S ⟨rfl, τ1, ⟨f1, n1⟩, rfl⟩; have n1s := n1.symm) | ((with_reducible refine zy (w_name _ _ _ _ _ _ _ (by first | assumption | exact ⟨by assumption, by assumption⟩) (by first | omega | (simp only [List.length_append, List.length_cons, List.length_nil, List.length_map]; omega))) ?_); rintro _ S ⟨rfl, τ1, ⟨f1, n1⟩, rfl⟩; have n1s := n1.symm) | ((with_reducible refine zy (w_level _ (by assumption) _ (by first | assumption | rfl) _) ?_); rintro _ S ⟨rfl, rfl⟩) | ((with_reducible refine zy (w_ops _) ?_); rintro _ S ⟨rfl, rfl⟩) | (refine vlo_app zx ?_) | (refine vst_app zx ?_)); (try refine zsR (j3 ui0 ui3 (j9 ui4 ui9 ui22 ui23 ui24 ui25 ui26 ui55 (j9 ui56 ui57 ui58 ui59 ui75 ui101 ui102 @tksA_len (j9 @tksA_all @tksA_one @List.length_append.{0} @List.length_cons.{0} @List.length_nil.{0} @wds_len @wdsE_nil @wdsE_cons @splice0)))) ?_)) | refine zmR (j3 ui0 ui3 (j9 ui4 ui9 ui22 ui23 ui24 ui25 ui26 ui55 (j9 ui56 ui57 ui58 ui59 ui75 ui101 ui102 @tksA_len (j9 @tksA_all @tksA_one @List.length_append.{0} @List.length_cons.{0} @List.length_nil.{0} @wds_len @wdsE_nil @wdsE_cons @splice0)))) ?_ | (with_reducible first | refine vfresh_set ?_ | refine vfresh_intro (fun _ _ => ?_) | refine vif_intro (fun _ => ?_) (fun _ => ?_)) | omega | refine ztR (j3 ui0 ui3 (j9 ui4 ui9 ui22 ui23 ui24 ui25 ui26 ui55 (j9 ui56 ui57 ui58 ui59 ui75 ui101 ui102 @tksA_len (j9 @tksA_all @tksA_one @List.length_append.{0} @List.length_cons.{0} @List.length_nil.{0} @wds_len @wdsE_nil @wdsE_cons @splice0)))) ?_ | fail)
  all_goals exact ⟨_, .refl _, τ1, ⟨f1, n1⟩, WS_eq rfl rfl (by omega)⟩
theorem x_col (t n : By) : Cx (.col t n) := by
  intro B ω τ l d m h h0 h1 h2 h3 h4
  have e2 : (Tr.col t n).dp = 0 := rfl
  rw [ex_col, e2]
  rw [Tr.tk] at h4 ⊢
  by_cases ht : t = []
  · rw [if_pos ht] at h4 ⊢
    subst ht
    (refine vfun (fun _ => .ro) mixed Tryz.func21 (by kernel_rfl) ?_; simp only [bodyOf, Tryz.f21, zr])
    repeat' (first | with_reducible rfl | exact trivial | exact .inr trivial | (with_reducible first | apply And.intro | apply vqx_step | apply vqm_step | refine vkp_free (by decide +kernel) ?_ | intro _) | ((with_reducible refine .dms (fun x => False) [(0, false), (1, false), (2, false), (3, true), (4, false), (5, true)] (by decide) (by decide +kernel) ?_); (refine zsR (j3 ui0 ui3 (j9 ui4 ui9 ui22 ui23 ui24 ui25 ui26 ui55 (j9 ui56 ui57 ui58 ui59 ui75 ui101 ui102 @tksA_len (j9 @tksA_all @tksA_one @List.length_append.{0} @List.length_cons.{0} @List.length_nil.{0} @wds_len @wdsE_nil @wdsE_cons @splice0)))) ?_)) | ((with_reducible refine .dm (fun x => False) [(0, false), (1, false), (2, false), (3, true), (4, false), (5, true)] (by decide) (by decide +kernel) ?_); (refine zsR (j3 ui0 ui3 (j9 ui4 ui9 ui22 ui23 ui24 ui25 ui26 ui55 (j9 ui56 ui57 ui58 ui59 ui75 ui101 ui102 @tksA_len (j9 @tksA_all @tksA_one @List.length_append.{0} @List.length_cons.{0} @List.length_nil.{0} @wds_len @wdsE_nil @wdsE_cons @splice0)))) ?_)) | ((with_reducible refine .dms (fun x => False) [(0, false), (1, false), (2, false), (3, true), (4, false), (5, true)] (by decide) (by decide +kernel) ?_); (refine zsR (j3 ui0 ui3 (j9 ui4 ui9 ui22 ui23 ui24 ui25 ui26 ui55 (j9 ui56 ui57 ui58 ui59 ui75 ui101 ui102 @tksA_len (j9 @tksA_all @tksA_one @List.length_append.{0} @List.length_cons.{0} @List.length_nil.{0} @wds_len @wdsE_nil @wdsE_cons @splice0)))) ?_)) | ((with_reducible refine .dm (fun x => False) [(0, false), (1, false), (2, false), (3, true), (4, false), (5, true)] (by decide) (by decide +kernel) ?_); (refine zsR (j3 ui0 ui3 (j9 ui4 ui9 ui22 ui23 ui24 ui25 ui26 ui55 (j9 ui56 ui57 ui58 ui59 ui75 ui101 ui102 @tksA_len (j9 @tksA_all @tksA_one @List.length_append.{0} @List.length_cons.{0} @List.length_nil.{0} @wds_len @wdsE_nil @wdsE_cons @splice0)))) ?_)) | ((with_reducible refine .dms (fun x => False) [(0, false), (1, false), (2, false), (3, true), (4, false), (5, true)] (by decide) (by decide +kernel) ?_); (refine zsR (j3 ui0 ui3 (j9 ui4 ui9 ui22 ui23 ui24 ui25 ui26 ui55 (j9 ui56 ui57 ui58 ui59 ui75 ui101 ui102 @tksA_len (j9 @tksA_all @tksA_one @List.length_append.{0} @List.length_cons.{0} @List.length_nil.{0} @wds_len @wdsE_nil @wdsE_cons @splice0)))) ?_)) | ((with_reducible refine .dm (fun x => False) [(0, false), (1, false), (2, false), (3, true), (4, false), (5, true)] (by decide) (by decide +kernel) ?_); (refine zsR (j3 ui0 ui3 (j9 ui4 ui9 ui22 ui23 ui24 ui25 ui26 ui55 (j9 ui56 ui57 ui58 ui59 ui75 ui101 ui102 @tksA_len (j9 @tksA_all @tksA_one @List.length_append.{0} @List.length_cons.{0} @List.length_nil.{0} @wds_len @wdsE_nil @wdsE_cons @splice0)))) ?_)) | ((with_reducible refine .dms (fun x => False) [(0, false), (1, false), (2, false), (3, false), (4, true), (5, true), (6, true), (7, true), (8, false), (9, true)] (by decide) (by decide +kernel) ?_); (refine zsR (j3 ui0 ui3 (j9 ui4 ui9 ui22 ui23 ui24 ui25 ui26 ui55 (j9 ui56 ui57 ui58 ui59 ui75 ui101 ui102 @tksA_len (j9 @tksA_all @tksA_one @List.length_append.{0} @List.length_cons.{0} @List.length_nil.{0} @wds_len @wdsE_nil @wdsE_cons @splice0)))) ?_)) | ((with_reducible refine .dm (fun x => False) [(0, false), (1, false), (2, false), (3, false), (4, true), (5, true), (6, true), (7, true), (8, false), (9, true)] (by decide) (by decide +kernel) ?_); (refine zsR (j3 ui0 ui3 (j9 ui4 ui9 ui22 ui23 ui24 ui25 ui26 ui55 (j9 ui56 ui57 ui58 ui59 ui75 ui101 ui102 @tksA_len (j9 @tksA_all @tksA_one @List.length_append.{0} @List.length_cons.{0} @List.length_nil.{0} @wds_len @wdsE_nil @wdsE_cons @splice0)))) ?_)) | refine zaR (j3 ui0 ui3 (j9 ui4 ui9 ui22 ui23 ui24 ui25 ui26 ui55 (j9 ui56 ui57 ui58 ui59 ui75 ui101 ui102 @tksA_len (j9 @tksA_all @tksA_one @List.length_append.{0} @List.length_cons.{0} @List.length_nil.{0} @wds_len @wdsE_nil @wdsE_cons @splice0)))) ?_ | refine zkN (j3 ui0 ui3 (j9 ui4 ui9 ui22 ui23 ui24 ui25 ui26 ui55 (j9 ui56 ui57 ui58 ui59 ui75 ui101 ui102 @tksA_len (j9 @tksA_all @tksA_one @List.length_append.{0} @List.length_cons.{0} @List.length_nil.{0} @wds_len @wdsE_nil @wdsE_cons @splice0)))) ?_ | ((first | (refine vkp_keep (by intro β h; first | (rcases h with h | h <;> subst h <;> (simp (disch := first | assumption | (apply zv; assumption; assumption) | (apply zw; assumption; assumption; (intro e; cases e; done)) | omega) only [zm, zn, zo, zp, zq])) | (subst h; (simp (disch := first | assumption | (apply zv; assumption; assumption) | (apply zw; assumption; assumption; (intro e; cases e; done)) | omega) only [zm, zn, zo, zp, zq]))) ?_) | ((with_reducible refine zy (w_wordsE _ _ _ _ _ _ _ _ (by repeat (first | exact okW_nil | refine okW_cons ?_ (by simp))) (by first | assumption | exact ⟨by assumption, by assumption⟩) (by first | omega | (simp only [List.length_append, List.length_cons, List.length_nil, List.length_map]; omega))) ?_); rintro _ S ⟨rfl, τ1, ⟨f1, n1⟩, rfl⟩; have n1s := n1.symm) | ((with_reducible refine zy (w_literal _ _ _ _ _ _ _ (by first | assumption | exact ⟨by assumption, by assumption⟩) (by first | omega | (simp only [List.length_append, List.length_cons, List.length_nil, List.length_map]; omega)) (by assumption) (by assumption)) ?_); rintro _ S ⟨rfl, τ1, ⟨f1, n1⟩, rfl⟩; have n1s := n1.symm) | ((with_reducible refine zy (w_name _ _ _ _ _ _ _ (by first | assumption | exact ⟨by assumption, by assumption⟩) (by first | omega | (simp only [List.length_append, List.length_cons, List.length_nil, List.length_map]; omega))) ?_); rintro _ S ⟨rfl, τ1, ⟨f1, n1⟩, rfl⟩; have n1s := n1.symm) | ((with_reducible refine zy (w_level _ (by assumption) _ (by first | assumption | rfl) _) ?_); rintro _ S ⟨rfl, rfl⟩) | ((with_reducible refine zy (w_ops _) ?_); rintro _ S ⟨rfl, rfl⟩) | (refine vlo_app zx ?_) | (refine vst_app zx ?_)); (try refine zsR (j3 ui0 ui3 (j9 ui4 ui9 ui22 ui23 ui24 ui25 ui26 ui55 (j9 ui56 ui57 ui58 ui59 ui75 ui101 ui102 @tksA_len (j9 @tksA_all @tksA_one @List.length_append.{0} @List.length_cons.{0} @List.length_nil.{0} @wds_len @wdsE_nil @wdsE_cons @splice0)))) ?_)) | refine zmR (j3 ui0 ui3 (j9 ui4 ui9 ui22 ui23 ui24 ui25 ui26 ui55 (j9 ui56 ui57 ui58 ui59 ui75 ui101 ui102 @tksA_len (j9 @tksA_all @tksA_one @List.length_append.{0} @List.length_cons.{0} @List.length_nil.{0} @wds_len @wdsE_nil @wdsE_cons @splice0)))) ?_ | (with_reducible first | refine vfresh_set ?_ | refine vfresh_intro (fun _ _ => ?_) | refine vif_intro (fun _ => ?_) (fun _ => ?_)) | omega | refine ztR (j3 ui0 ui3 (j9 ui4 ui9 ui22 ui23 ui24 ui25 ui26 ui55 (j9 ui56 ui57 ui58 ui59 ui75 ui101 ui102 @tksA_len (j9 @tksA_all @tksA_one @List.length_append.{0} @List.length_cons.{0} @List.length_nil.{0} @wds_len @wdsE_nil @wdsE_cons @splice0)))) ?_ | fail)
    all_goals first | exact ⟨_, .refl _, τ1, ⟨f1, n1⟩, WS_eq rfl rfl (by omega)⟩ | (exfalso; simp_all; done)
  · rw [if_neg ht] at h4 ⊢
    simp only [List.length_cons, List.length_nil] at h4
    (refine vfun (fun _ => .ro) mixed Tryz.func21 (by kernel_rfl) ?_; simp only [bodyOf, Tryz.f21, zr])
    repeat' (first | with_reducible rfl | exact trivial | exact .inr trivial | (with_reducible first | apply And.intro | apply vqx_step | apply vqm_step | refine vkp_free (by decide +kernel) ?_ | intro _) | ((with_reducible refine .dms (fun x => False) [(0, false), (1, false), (2, false), (3, true), (4, false), (5, true)] (by decide) (by decide +kernel) ?_); (refine zsR (j4 ui0 ui3 ui4 (j9 ui9 ui22 ui23 ui24 ui25 ui26 ui55 ui56 (j9 ui57 ui58 ui59 ui75 ui101 ui102 @tksA_len @tksA_all (j9 @tksA_one @List.length_append.{0} @List.length_cons.{0} @List.length_nil.{0} @wds_len @wdsE_nil @wdsE_cons @splice0 ht)))) ?_)) | ((with_reducible refine .dm (fun x => False) [(0, false), (1, false), (2, false), (3, true), (4, false), (5, true)] (by decide) (by decide +kernel) ?_); (refine zsR (j4 ui0 ui3 ui4 (j9 ui9 ui22 ui23 ui24 ui25 ui26 ui55 ui56 (j9 ui57 ui58 ui59 ui75 ui101 ui102 @tksA_len @tksA_all (j9 @tksA_one @List.length_append.{0} @List.length_cons.{0} @List.length_nil.{0} @wds_len @wdsE_nil @wdsE_cons @splice0 ht)))) ?_)) | ((with_reducible refine .dms (fun x => False) [(0, false), (1, false), (2, false), (3, true), (4, false), (5, true)] (by decide) (by decide +kernel) ?_); (refine zsR (j4 ui0 ui3 ui4 (j9 ui9 ui22 ui23 ui24 ui25 ui26 ui55 ui56 (j9 ui57 ui58 ui59 ui75 ui101 ui102 @tksA_len @tksA_all (j9 @tksA_one @List.length_append.{0} @List.length_cons.{0} @List.length_nil.{0} @wds_len @wdsE_nil @wdsE_cons @splice0 ht)))) ?_)) | ((with_reducible refine .dm (fun x => False) [(0, false), (1, false), (2, false), (3, true), (4, false), (5, true)] (by decide) (by decide +kernel) ?_); (refine zsR (j4 ui0 ui3 ui4 (j9 ui9 ui22 ui23 ui24 ui25 ui26 ui55 ui56 (j9 ui57 ui58 ui59 ui75 ui101 ui102 @tksA_len @tksA_all (j9 @tksA_one @List.length_append.{0} @List.length_cons.{0} @List.length_nil.{0} @wds_len @wdsE_nil @wdsE_cons @splice0 ht)))) ?_)) | ((with_reducible refine .dms (fun x => False) [(0, false), (1, false), (2, false), (3, true), (4, false), (5, true)] (by decide) (by decide +kernel) ?_); (refine zsR (j4 ui0 ui3 ui4 (j9 ui9 ui22 ui23 ui24 ui25 ui26 ui55 ui56 (j9 ui57 ui58 ui59 ui75 ui101 ui102 @tksA_len @tksA_all (j9 @tksA_one @List.length_append.{0} @List.length_cons.{0} @List.length_nil.{0} @wds_len @wdsE_nil @wdsE_cons @splice0 ht)))) ?_)) | ((with_reducible refine .dm (fun x => False) [(0, false), (1, false), (2, false), (3, true), (4, false), (5, true)] (by decide) (by decide +kernel) ?_); (refine zsR (j4 ui0 ui3 ui4 (j9 ui9 ui22 ui23 ui24 ui25 ui26 ui55 ui56 (j9 ui57 ui58 ui59 ui75 ui101 ui102 @tksA_len @tksA_all (j9 @tksA_one @List.length_append.{0} @List.length_cons.{0} @List.length_nil.{0} @wds_len @wdsE_nil @wdsE_cons @splice0 ht)))) ?_)) | ((with_reducible refine .dms (fun x => False) [(0, false), (1, false), (2, false), (3, false), (4, true), (5, true), (6, true), (7, true), (8, false), (9, true)] (by decide) (by decide +kernel) ?_); (refine zsR (j4 ui0 ui3 ui4 (j9 ui9 ui22 ui23 ui24 ui25 ui26 ui55 ui56 (j9 ui57 ui58 ui59 ui75 ui101 ui102 @tksA_len @tksA_all (j9 @tksA_one @List.length_append.{0} @List.length_cons.{0} @List.length_nil.{0} @wds_len @wdsE_nil @wdsE_cons @splice0 ht)))) ?_)) | ((with_reducible refine .dm (fun x => False) [(0, false), (1, false), (2, false), (3, false), (4, true), (5, true), (6, true), (7, true), (8, false), (9, true)] (by decide) (by decide +kernel) ?_); (refine zsR (j4 ui0 ui3 ui4 (j9 ui9 ui22 ui23 ui24 ui25 ui26 ui55 ui56 (j9 ui57 ui58 ui59 ui75 ui101 ui102 @tksA_len @tksA_all (j9 @tksA_one @List.length_append.{0} @List.length_cons.{0} @List.length_nil.{0} @wds_len @wdsE_nil @wdsE_cons @splice0 ht)))) ?_)) | refine zaR (j4 ui0 ui3 ui4 (j9 ui9 ui22 ui23 ui24 ui25 ui26 ui55 ui56 (j9 ui57 ui58 ui59 ui75 ui101 ui102 @tksA_len @tksA_all (j9 @tksA_one @List.length_append.{0} @List.length_cons.{0} @List.length_nil.{0} @wds_len @wdsE_nil @wdsE_cons @splice0 ht)))) ?_ | refine zkN (j4 ui0 ui3 ui4 (j9 ui9 ui22 ui23 ui24 ui25 ui26 ui55 ui56 (j9 ui57 ui58 ui59 ui75 ui101 ui102 @tksA_len @tksA_all (j9 @tksA_one @List.length_append.{0} @List.length_cons.{0} @List.length_nil.{0} @wds_len @wdsE_nil @wdsE_cons @splice0 ht)))) ?_ | ((first | (refine vkp_keep (by intro β h; first | (rcases h with h | h <;> subst h <;> (simp (disch := first | assumption | (apply zv; assumption; assumption) | (apply zw; assumption; assumption; (intro e; cases e; done)) | omega) only [zm, zn, zo, zp, zq])) | (subst h; (simp (disch := first | assumption | (apply zv; assumption; assumption) | (apply zw; assumption; assumption; (intro e; cases e; done)) | omega) only [zm, zn, zo, zp, zq]))) ?_) | ((with_reducible refine zy (w_wordsE _ _ _ _ _ _ _ _ (by repeat (first | exact okW_nil | refine okW_cons ?_ (by simp))) (by first | assumption | exact ⟨by assumption, by assumption⟩) (by first | omega | (simp only [List.length_append, List.length_cons, List.length_nil, List.length_map]; omega))) ?_); rintro _ S ⟨rfl, τ1, ⟨f1, n1⟩, rfl⟩; have n1s := n1.symm) | ((with_reducible refine zy (w_literal _ _ _ _ _ _ _ (by first | assumption | exact ⟨by assumption, by assumption⟩) (by first | omega | (simp only [List.length_append, List.length_cons, List.length_nil, List.length_map]; omega)) (by assumption) (by assumption)) ?_); rintro _ S ⟨rfl, τ1, ⟨f1, n1⟩, rfl⟩; have n1s := n1.symm) | ((with_reducible refine zy (w_name _ _ _ _ _ _ _ (by first | assumption | exact ⟨by assumption, by assumption⟩) (by first | omega | (simp only [List.length_append, List.length_cons, List.length_nil, List.length_map]; omega))) ?_); rintro _ S ⟨rfl, τ1, ⟨f1, n1⟩, rfl⟩; have n1s := n1.symm) | ((with_reducible refine zy (w_level _ (by assumption) _ (by first | assumption | rfl) _) ?_); rintro _ S ⟨rfl, rfl⟩) | ((with_reducible refine zy (w_ops _) ?_); rintro _ S ⟨rfl, rfl⟩) | (refine vlo_app zx ?_) | (refine vst_app zx ?_)); (try refine zsR (j4 ui0 ui3 ui4 (j9 ui9 ui22 ui23 ui24 ui25 ui26 ui55 ui56 (j9 ui57 ui58 ui59 ui75 ui101 ui102 @tksA_len @tksA_all (j9 @tksA_one @List.length_append.{0} @List.length_cons.{0} @List.length_nil.{0} @wds_len @wdsE_nil @wdsE_cons @splice0 ht)))) ?_)) | refine zmR (j4 ui0 ui3 ui4 (j9 ui9 ui22 ui23 ui24 ui25 ui26 ui55 ui56 (j9 ui57 ui58 ui59 ui75 ui101 ui102 @tksA_len @tksA_all (j9 @tksA_one @List.length_append.{0} @List.length_cons.{0} @List.length_nil.{0} @wds_len @wdsE_nil @wdsE_cons @splice0 ht)))) ?_ | (with_reducible first | refine vfresh_set ?_ | refine vfresh_intro (fun _ _ => ?_) | refine vif_intro (fun _ => ?_) (fun _ => ?_)) | omega | refine ztR (j4 ui0 ui3 ui4 (j9 ui9 ui22 ui23 ui24 ui25 ui26 ui55 ui56 (j9 ui57 ui58 ui59 ui75 ui101 ui102 @tksA_len @tksA_all (j9 @tksA_one @List.length_append.{0} @List.length_cons.{0} @List.length_nil.{0} @wds_len @wdsE_nil @wdsE_cons @splice0 ht)))) ?_ | fail)
    all_goals first | exact ⟨_, .refl _, τ1, ⟨f1, n1⟩, WS_eq (by simp [wdDot]) rfl (by omega)⟩ | (exfalso; simp_all; done)
theorem x_null (e : Tr) (hw : e.wf) (hC : Cx e) : Cx (.null e) := by
  intro B ω τ l d m h h0 h1 h2 h3 h4
  have hA := w_at e hw hC 5 (by decide) B ω
  have hxl := exA_len e.ex
  have hxt := exA_take e.ex
  rw [tk_null] at h4 ⊢
  rw [Tr.dp] at h3 ⊢
  simp only [List.length_append, List.length_cons, List.length_nil] at h4
  rw [ex_null]
  generalize br (lo e 5) e.tk = TT at *
  generalize bd (lo e 5) + e.dp = D at *
  generalize exA e.ex = X at *
  (refine vfun (fun _ => .ro) mixed Tryz.func21 (by kernel_rfl) ?_; simp only [bodyOf, Tryz.f21, zr])
  repeat' (first | with_reducible rfl | exact trivial | exact .inr trivial | (with_reducible first | apply And.intro | apply vqx_step | apply vqm_step | refine vkp_free (by decide +kernel) ?_ | intro _) | ((with_reducible refine .dms (fun x => False) [(0, false), (1, false), (2, false), (3, true), (4, false), (5, true)] (by decide) (by decide +kernel) ?_); (refine zsR (j5 ui0 ui3 ui4 ui9 (j9 ui22 ui23 ui24 ui25 ui26 ui55 ui56 ui57 (j9 ui58 ui59 ui75 ui101 ui102 @tksA_len @tksA_all @tksA_one (j9 @List.length_append.{0} @List.length_cons.{0} @List.length_nil.{0} @wds_len @wdsE_nil @wdsE_cons @splice0 hxl hxt)))) ?_)) | ((with_reducible refine .dm (fun x => False) [(0, false), (1, false), (2, false), (3, true), (4, false), (5, true)] (by decide) (by decide +kernel) ?_); (refine zsR (j5 ui0 ui3 ui4 ui9 (j9 ui22 ui23 ui24 ui25 ui26 ui55 ui56 ui57 (j9 ui58 ui59 ui75 ui101 ui102 @tksA_len @tksA_all @tksA_one (j9 @List.length_append.{0} @List.length_cons.{0} @List.length_nil.{0} @wds_len @wdsE_nil @wdsE_cons @splice0 hxl hxt)))) ?_)) | ((with_reducible refine .dms (fun x => False) [(0, false), (1, false), (2, false), (3, true), (4, false), (5, true)] (by decide) (by decide +kernel) ?_); (refine zsR (j5 ui0 ui3 ui4 ui9 (j9 ui22 ui23 ui24 ui25 ui26 ui55 ui56 ui57 (j9 ui58 ui59 ui75 ui101 ui102 @tksA_len @tksA_all @tksA_one (j9 @List.length_append.{0} @List.length_cons.{0} @List.length_nil.{0} @wds_len @wdsE_nil @wdsE_cons @splice0 hxl hxt)))) ?_)) | ((with_reducible refine .dm (fun x => False) [(0, false), (1, false), (2, false), (3, true), (4, false), (5, true)] (by decide) (by decide +kernel) ?_); (refine zsR (j5 ui0 ui3 ui4 ui9 (j9 ui22 ui23 ui24 ui25 ui26 ui55 ui56 ui57 (j9 ui58 ui59 ui75 ui101 ui102 @tksA_len @tksA_all @tksA_one (j9 @List.length_append.{0} @List.length_cons.{0} @List.length_nil.{0} @wds_len @wdsE_nil @wdsE_cons @splice0 hxl hxt)))) ?_)) | ((with_reducible refine .dms (fun x => False) [(0, false), (1, false), (2, false), (3, true), (4, false), (5, true)] (by decide) (by decide +kernel) ?_); (refine zsR (j5 ui0 ui3 ui4 ui9 (j9 ui22 ui23 ui24 ui25 ui26 ui55 ui56 ui57 (j9 ui58 ui59 ui75 ui101 ui102 @tksA_len @tksA_all @tksA_one (j9 @List.length_append.{0} @List.length_cons.{0} @List.length_nil.{0} @wds_len @wdsE_nil @wdsE_cons @splice0 hxl hxt)))) ?_)) | ((with_reducible refine .dm (fun x => False) [(0, false), (1, false), (2, false), (3, true), (4, false), (5, true)] (by decide) (by decide +kernel) ?_); (refine zsR (j5 ui0 ui3 ui4 ui9 (j9 ui22 ui23 ui24 ui25 ui26 ui55 ui56 ui57 (j9 ui58 ui59 ui75 ui101 ui102 @tksA_len @tksA_all @tksA_one (j9 @List.length_append.{0} @List.length_cons.{0} @List.length_nil.{0} @wds_len @wdsE_nil @wdsE_cons @splice0 hxl hxt)))) ?_)) | ((with_reducible refine .dms (fun x => False) [(0, false), (1, false), (2, false), (3, false), (4, true), (5, true), (6, true), (7, true), (8, false), (9, true)] (by decide) (by decide +kernel) ?_); (refine zsR (j5 ui0 ui3 ui4 ui9 (j9 ui22 ui23 ui24 ui25 ui26 ui55 ui56 ui57 (j9 ui58 ui59 ui75 ui101 ui102 @tksA_len @tksA_all @tksA_one (j9 @List.length_append.{0} @List.length_cons.{0} @List.length_nil.{0} @wds_len @wdsE_nil @wdsE_cons @splice0 hxl hxt)))) ?_)) | ((with_reducible refine .dm (fun x => False) [(0, false), (1, false), (2, false), (3, false), (4, true), (5, true), (6, true), (7, true), (8, false), (9, true)] (by decide) (by decide +kernel) ?_); (refine zsR (j5 ui0 ui3 ui4 ui9 (j9 ui22 ui23 ui24 ui25 ui26 ui55 ui56 ui57 (j9 ui58 ui59 ui75 ui101 ui102 @tksA_len @tksA_all @tksA_one (j9 @List.length_append.{0} @List.length_cons.{0} @List.length_nil.{0} @wds_len @wdsE_nil @wdsE_cons @splice0 hxl hxt)))) ?_)) | refine zaR (j5 ui0 ui3 ui4 ui9 (j9 ui22 ui23 ui24 ui25 ui26 ui55 ui56 ui57 (j9 ui58 ui59 ui75 ui101 ui102 @tksA_len @tksA_all @tksA_one (j9 @List.length_append.{0} @List.length_cons.{0} @List.length_nil.{0} @wds_len @wdsE_nil @wdsE_cons @splice0 hxl hxt)))) ?_ | refine zkN (j5 ui0 ui3 ui4 ui9 (j9 ui22 ui23 ui24 ui25 ui26 ui55 ui56 ui57 (j9 ui58 ui59 ui75 ui101 ui102 @tksA_len @tksA_all @tksA_one (j9 @List.length_append.{0} @List.length_cons.{0} @List.length_nil.{0} @wds_len @wdsE_nil @wdsE_cons @splice0 hxl hxt)))) ?_ | ((first | (refine vkp_keep (by intro β h; first | (rcases h with h | h <;> subst h <;> (simp (disch := first | assumption | (apply zv; assumption; assumption) | (apply zw; assumption; assumption; (intro e; cases e; done)) | omega) only [zm, zn, zo, zp, zq])) | (subst h; (simp (disch := first | assumption | (apply zv; assumption; assumption) | (apply zw; assumption; assumption; (intro e; cases e; done)) | omega) only [zm, zn, zo, zp, zq]))) ?_) | ((with_reducible refine zy (hA _ _ _ _ (by first | assumption | exact ⟨by assumption, by assumption⟩) (by omega) (by omega) (by omega) (by omega) (by first | omega | (simp only [List.length_append, List.length_cons, List.length_nil, List.length_map]; omega))) ?_); rintro _ S ⟨rfl, τ1, ⟨f1, n1⟩, rfl⟩; have n1s := n1.symm) | ((with_reducible refine zy (w_wordsE _ _ _ _ _ _ _ _ (by repeat (first | exact okW_nil | refine okW_cons ?_ (by simp))) (by first | assumption | exact ⟨by assumption, by assumption⟩) (by first | omega | (simp only [List.length_append, List.length_cons, List.length_nil, List.length_map]; omega))) ?_); rintro _ S ⟨rfl, τ1, ⟨f1, n1⟩, rfl⟩; have n1s := n1.symm) | ((with_reducible refine zy (w_literal _ _ _ _ _ _ _ (by first | assumption | exact ⟨by assumption, by assumption⟩) (by first | omega | (simp only [List.length_append, List.length_cons, List.length_nil, List.length_map]; omega)) (by assumption) (by assumption)) ?_); rintro _ S ⟨rfl, τ1, ⟨f1, n1⟩, rfl⟩; have n1s := n1.symm) | ((with_reducible refine zy (w_name _ _ _ _ _ _ _ (by first | assumption | exact ⟨by assumption, by assumption⟩) (by first | omega | (simp only [List.length_append, List.length_cons, List.length_nil, List.length_map]; omega))) ?_); rintro _ S ⟨rfl, τ1, ⟨f1, n1⟩, rfl⟩; have n1s := n1.symm) | ((with_reducible refine zy (w_level _ (by assumption) _ (by first | assumption | rfl) _) ?_); rintro _ S ⟨rfl, rfl⟩) | ((with_reducible refine zy (w_ops _) ?_); rintro _ S ⟨rfl, rfl⟩) | (refine vlo_app zx ?_) | (refine vst_app zx ?_)); (try refine zsR (j5 ui0 ui3 ui4 ui9 (j9 ui22 ui23 ui24 ui25 ui26 ui55 ui56 ui57 (j9 ui58 ui59 ui75 ui101 ui102 @tksA_len @tksA_all @tksA_one (j9 @List.length_append.{0} @List.length_cons.{0} @List.length_nil.{0} @wds_len @wdsE_nil @wdsE_cons @splice0 hxl hxt)))) ?_)) | refine zmR (j5 ui0 ui3 ui4 ui9 (j9 ui22 ui23 ui24 ui25 ui26 ui55 ui56 ui57 (j9 ui58 ui59 ui75 ui101 ui102 @tksA_len @tksA_all @tksA_one (j9 @List.length_append.{0} @List.length_cons.{0} @List.length_nil.{0} @wds_len @wdsE_nil @wdsE_cons @splice0 hxl hxt)))) ?_ | (with_reducible first | refine vfresh_set ?_ | refine vfresh_intro (fun _ _ => ?_) | refine vif_intro (fun _ => ?_) (fun _ => ?_)) | omega | refine ztR (j5 ui0 ui3 ui4 ui9 (j9 ui22 ui23 ui24 ui25 ui26 ui55 ui56 ui57 (j9 ui58 ui59 ui75 ui101 ui102 @tksA_len @tksA_all @tksA_one (j9 @List.length_append.{0} @List.length_cons.{0} @List.length_nil.{0} @wds_len @wdsE_nil @wdsE_cons @splice0 hxl hxt)))) ?_ | fail)
  all_goals exact ⟨_, .refl _, τ1, ⟨f1, n1⟩, WS_eq (by simp [wdIs, wdNull]) rfl (by omega)⟩
theorem x_neg (e : Tr) (hw : e.wf) (hC : Cx e) : Cx (.neg e) := by
  intro B ω τ l d m h h0 h1 h2 h3 h4
  have hA := w_neg e hw hC B ω τ l d m h h0 h1 h2 h3 h4
  have hxl := exA_len e.ex
  have hxt := exA_take e.ex
  rw [ex_neg]
  generalize (Tr.neg e).tk = TT at *
  generalize (Tr.neg e).dp = D at *
  generalize exA e.ex = X at *
  (refine vfun (fun _ => .ro) mixed Tryz.func21 (by kernel_rfl) ?_; simp only [bodyOf, Tryz.f21, zr])
  repeat' (first | with_reducible rfl | exact trivial | exact .inr trivial | (with_reducible first | apply And.intro | apply vqx_step | apply vqm_step | refine vkp_free (by decide +kernel) ?_ | intro _) | ((with_reducible refine .dms (fun x => False) [(0, false), (1, false), (2, false), (3, true), (4, false), (5, true)] (by decide) (by decide +kernel) ?_); (refine zsR (j5 ui0 ui3 ui4 ui9 (j9 ui22 ui23 ui24 ui25 ui26 ui55 ui56 ui57 (j9 ui58 ui59 ui75 ui101 ui102 @tksA_len @tksA_all @tksA_one (j9 @List.length_append.{0} @List.length_cons.{0} @List.length_nil.{0} @wds_len @wdsE_nil @wdsE_cons @splice0 hxl hxt)))) ?_)) | ((with_reducible refine .dm (fun x => False) [(0, false), (1, false), (2, false), (3, true), (4, false), (5, true)] (by decide) (by decide +kernel) ?_); (refine zsR (j5 ui0 ui3 ui4 ui9 (j9 ui22 ui23 ui24 ui25 ui26 ui55 ui56 ui57 (j9 ui58 ui59 ui75 ui101 ui102 @tksA_len @tksA_all @tksA_one (j9 @List.length_append.{0} @List.length_cons.{0} @List.length_nil.{0} @wds_len @wdsE_nil @wdsE_cons @splice0 hxl hxt)))) ?_)) | ((with_reducible refine .dms (fun x => False) [(0, false), (1, false), (2, false), (3, true), (4, false), (5, true)] (by decide) (by decide +kernel) ?_); (refine zsR (j5 ui0 ui3 ui4 ui9 (j9 ui22 ui23 ui24 ui25 ui26 ui55 ui56 ui57 (j9 ui58 ui59 ui75 ui101 ui102 @tksA_len @tksA_all @tksA_one (j9 @List.length_append.{0} @List.length_cons.{0} @List.length_nil.{0} @wds_len @wdsE_nil @wdsE_cons @splice0 hxl hxt)))) ?_)) | ((with_reducible refine .dm (fun x => False) [(0, false), (1, false), (2, false), (3, true), (4, false), (5, true)] (by decide) (by decide +kernel) ?_); (refine zsR (j5 ui0 ui3 ui4 ui9 (j9 ui22 ui23 ui24 ui25 ui26 ui55 ui56 ui57 (j9 ui58 ui59 ui75 ui101 ui102 @tksA_len @tksA_all @tksA_one (j9 @List.length_append.{0} @List.length_cons.{0} @List.length_nil.{0} @wds_len @wdsE_nil @wdsE_cons @splice0 hxl hxt)))) ?_)) | ((with_reducible refine .dms (fun x => False) [(0, false), (1, false), (2, false), (3, true), (4, false), (5, true)] (by decide) (by decide +kernel) ?_); (refine zsR (j5 ui0 ui3 ui4 ui9 (j9 ui22 ui23 ui24 ui25 ui26 ui55 ui56 ui57 (j9 ui58 ui59 ui75 ui101 ui102 @tksA_len @tksA_all @tksA_one (j9 @List.length_append.{0} @List.length_cons.{0} @List.length_nil.{0} @wds_len @wdsE_nil @wdsE_cons @splice0 hxl hxt)))) ?_)) | ((with_reducible refine .dm (fun x => False) [(0, false), (1, false), (2, false), (3, true), (4, false), (5, true)] (by decide) (by decide +kernel) ?_); (refine zsR (j5 ui0 ui3 ui4 ui9 (j9 ui22 ui23 ui24 ui25 ui26 ui55 ui56 ui57 (j9 ui58 ui59 ui75 ui101 ui102 @tksA_len @tksA_all @tksA_one (j9 @List.length_append.{0} @List.length_cons.{0} @List.length_nil.{0} @wds_len @wdsE_nil @wdsE_cons @splice0 hxl hxt)))) ?_)) | ((with_reducible refine .dms (fun x => False) [(0, false), (1, false), (2, false), (3, false), (4, true), (5, true), (6, true), (7, true), (8, false), (9, true)] (by decide) (by decide +kernel) ?_); (refine zsR (j5 ui0 ui3 ui4 ui9 (j9 ui22 ui23 ui24 ui25 ui26 ui55 ui56 ui57 (j9 ui58 ui59 ui75 ui101 ui102 @tksA_len @tksA_all @tksA_one (j9 @List.length_append.{0} @List.length_cons.{0} @List.length_nil.{0} @wds_len @wdsE_nil @wdsE_cons @splice0 hxl hxt)))) ?_)) | ((with_reducible refine .dm (fun x => False) [(0, false), (1, false), (2, false), (3, false), (4, true), (5, true), (6, true), (7, true), (8, false), (9, true)] (by decide) (by decide +kernel) ?_); (refine zsR (j5 ui0 ui3 ui4 ui9 (j9 ui22 ui23 ui24 ui25 ui26 ui55 ui56 ui57 (j9 ui58 ui59 ui75 ui101 ui102 @tksA_len @tksA_all @tksA_one (j9 @List.length_append.{0} @List.length_cons.{0} @List.length_nil.{0} @wds_len @wdsE_nil @wdsE_cons @splice0 hxl hxt)))) ?_)) | refine zaR (j5 ui0 ui3 ui4 ui9 (j9 ui22 ui23 ui24 ui25 ui26 ui55 ui56 ui57 (j9 ui58 ui59 ui75 ui101 ui102 @tksA_len @tksA_all @tksA_one (j9 @List.length_append.{0} @List.length_cons.{0} @List.length_nil.{0} @wds_len @wdsE_nil @wdsE_cons @splice0 hxl hxt)))) ?_ | refine zkN (j5 ui0 ui3 ui4 ui9 (j9 ui22 ui23 ui24 ui25 ui26 ui55 ui56 ui57 (j9 ui58 ui59 ui75 ui101 ui102 @tksA_len @tksA_all @tksA_one (j9 @List.length_append.{0} @List.length_cons.{0} @List.length_nil.{0} @wds_len @wdsE_nil @wdsE_cons @splice0 hxl hxt)))) ?_ | ((first | (refine vkp_keep (by intro β h; first | (rcases h with h | h <;> subst h <;> (simp (disch := first | assumption | (apply zv; assumption; assumption) | (apply zw; assumption; assumption; (intro e; cases e; done)) | omega) only [zm, zn, zo, zp, zq])) | (subst h; (simp (disch := first | assumption | (apply zv; assumption; assumption) | (apply zw; assumption; assumption; (intro e; cases e; done)) | omega) only [zm, zn, zo, zp, zq]))) ?_) | ((with_reducible refine zy (hA) ?_); rintro _ S ⟨rfl, τ1, ⟨f1, n1⟩, rfl⟩; have n1s := n1.symm) | ((with_reducible refine zy (w_wordsE _ _ _ _ _ _ _ _ (by repeat (first | exact okW_nil | refine okW_cons ?_ (by simp))) (by first | assumption | exact ⟨by assumption, by assumption⟩) (by first | omega | (simp only [List.length_append, List.length_cons, List.length_nil, List.length_map]; omega))) ?_); rintro _ S ⟨rfl, τ1, ⟨f1, n1⟩, rfl⟩; have n1s := n1.symm) | ((with_reducible refine zy (w_literal _ _ _ _ _ _ _ (by first | assumption | exact ⟨by assumption, by assumption⟩) (by first | omega | (simp only [List.length_append, List.length_cons, List.length_nil, List.length_map]; omega)) (by assumption) (by assumption)) ?_); rintro _ S ⟨rfl, τ1, ⟨f1, n1⟩, rfl⟩; have n1s := n1.symm) | ((with_reducible refine zy (w_name _ _ _ _ _ _ _ (by first | assumption | exact ⟨by assumption, by assumption⟩) (by first | omega | (simp only [List.length_append, List.length_cons, List.length_nil, List.length_map]; omega))) ?_); rintro _ S ⟨rfl, τ1, ⟨f1, n1⟩, rfl⟩; have n1s := n1.symm) | ((with_reducible refine zy (w_level _ (by assumption) _ (by first | assumption | rfl) _) ?_); rintro _ S ⟨rfl, rfl⟩) | ((with_reducible refine zy (w_ops _) ?_); rintro _ S ⟨rfl, rfl⟩) | (refine vlo_app zx ?_) | (refine vst_app zx ?_)); (try refine zsR (j5 ui0 ui3 ui4 ui9 (j9 ui22 ui23 ui24 ui25 ui26 ui55 ui56 ui57 (j9 ui58 ui59 ui75 ui101 ui102 @tksA_len @tksA_all @tksA_one (j9 @List.length_append.{0} @List.length_cons.{0} @List.length_nil.{0} @wds_len @wdsE_nil @wdsE_cons @splice0 hxl hxt)))) ?_)) | refine zmR (j5 ui0 ui3 ui4 ui9 (j9 ui22 ui23 ui24 ui25 ui26 ui55 ui56 ui57 (j9 ui58 ui59 ui75 ui101 ui102 @tksA_len @tksA_all @tksA_one (j9 @List.length_append.{0} @List.length_cons.{0} @List.length_nil.{0} @wds_len @wdsE_nil @wdsE_cons @splice0 hxl hxt)))) ?_ | (with_reducible first | refine vfresh_set ?_ | refine vfresh_intro (fun _ _ => ?_) | refine vif_intro (fun _ => ?_) (fun _ => ?_)) | omega | refine ztR (j5 ui0 ui3 ui4 ui9 (j9 ui22 ui23 ui24 ui25 ui26 ui55 ui56 ui57 (j9 ui58 ui59 ui75 ui101 ui102 @tksA_len @tksA_all @tksA_one (j9 @List.length_append.{0} @List.length_cons.{0} @List.length_nil.{0} @wds_len @wdsE_nil @wdsE_cons @splice0 hxl hxt)))) ?_ | fail)
  all_goals exact ⟨_, .refl _, τ1, ⟨f1, n1⟩, rfl⟩
theorem x_not (e : Tr) (hw : e.wf) (hC : Cx e) (hx : ∀ x, e = .null x → Cx x) : Cx (.not e) := by
  intro B ω τ l d m h h0 h1 h2 h3 h4
  have hA := w_not e hw hC hx B ω τ l d m h h0 h1 h2 h3 h4
  have hxl := exA_len e.ex
  have hxt := exA_take e.ex
  rw [ex_not]
  generalize (Tr.not e).tk = TT at *
  generalize (Tr.not e).dp = D at *
  generalize exA e.ex = X at *
  (refine vfun (fun _ => .ro) mixed Tryz.func21 (by kernel_rfl) ?_; simp only [bodyOf, Tryz.f21, zr])
  repeat' (first | with_reducible rfl | exact trivial | exact .inr trivial | (with_reducible first | apply And.intro | apply vqx_step | apply vqm_step | refine vkp_free (by decide +kernel) ?_ | intro _) | ((with_reducible refine .dms (fun x => False) [(0, false), (1, false), (2, false), (3, true), (4, false), (5, true)] (by decide) (by decide +kernel) ?_); (refine zsR (j5 ui0 ui3 ui4 ui9 (j9 ui22 ui23 ui24 ui25 ui26 ui55 ui56 ui57 (j9 ui58 ui59 ui75 ui101 ui102 @tksA_len @tksA_all @tksA_one (j9 @List.length_append.{0} @List.length_cons.{0} @List.length_nil.{0} @wds_len @wdsE_nil @wdsE_cons @splice0 hxl hxt)))) ?_)) | ((with_reducible refine .dm (fun x => False) [(0, false), (1, false), (2, false), (3, true), (4, false), (5, true)] (by decide) (by decide +kernel) ?_); (refine zsR (j5 ui0 ui3 ui4 ui9 (j9 ui22 ui23 ui24 ui25 ui26 ui55 ui56 ui57 (j9 ui58 ui59 ui75 ui101 ui102 @tksA_len @tksA_all @tksA_one (j9 @List.length_append.{0} @List.length_cons.{0} @List.length_nil.{0} @wds_len @wdsE_nil @wdsE_cons @splice0 hxl hxt)))) ?_)) | ((with_reducible refine .dms (fun x => False) [(0, false), (1, false), (2, false), (3, true), (4, false), (5, true)] (by decide) (by decide +kernel) ?_); (refine zsR (j5 ui0 ui3 ui4 ui9 (j9 ui22 ui23 ui24 ui25 ui26 ui55 ui56 ui57 (j9 ui58 ui59 ui75 ui101 ui102 @tksA_len @tksA_all @tksA_one (j9 @List.length_append.{0} @List.length_cons.{0} @List.length_nil.{0} @wds_len @wdsE_nil @wdsE_cons @splice0 hxl hxt)))) ?_)) | ((with_reducible refine .dm (fun x => False) [(0, false), (1, false), (2, false), (3, true), (4, false), (5, true)] (by decide) (by decide +kernel) ?_); (refine zsR (j5 ui0 ui3 ui4 ui9 (j9 ui22 ui23 ui24 ui25 ui26 ui55 ui56 ui57 (j9 ui58 ui59 ui75 ui101 ui102 @tksA_len @tksA_all @tksA_one (j9 @List.length_append.{0} @List.length_cons.{0} @List.length_nil.{0} @wds_len @wdsE_nil @wdsE_cons @splice0 hxl hxt)))) ?_)) | ((with_reducible refine .dms (fun x => False) [(0, false), (1, false), (2, false), (3, true), (4, false), (5, true)] (by decide) (by decide +kernel) ?_); (refine zsR (j5 ui0 ui3 ui4 ui9 (j9 ui22 ui23 ui24 ui25 ui26 ui55 ui56 ui57 (j9 ui58 ui59 ui75 ui101 ui102 @tksA_len @tksA_all @tksA_one (j9 @List.length_append.{0} @List.length_cons.{0} @List.length_nil.{0} @wds_len @wdsE_nil @wdsE_cons @splice0 hxl hxt)))) ?_)) | ((with_reducible refine .dm (fun x => False) [(0, false), (1, false), (2, false), (3, true), (4, false), (5, true)] (by decide) (by decide +kernel) ?_); (refine zsR (j5 ui0 ui3 ui4 ui9 (j9 ui22 ui23 ui24 ui25 ui26 ui55 ui56 ui57 (j9 ui58 ui59 ui75 ui101 ui102 @tksA_len @tksA_all @tksA_one (j9 @List.length_append.{0} @List.length_cons.{0} @List.length_nil.{0} @wds_len @wdsE_nil @wdsE_cons @splice0 hxl hxt)))) ?_)) | ((with_reducible refine .dms (fun x => False) [(0, false), (1, false), (2, false), (3, false), (4, true), (5, true), (6, true), (7, true), (8, false), (9, true)] (by decide) (by decide +kernel) ?_); (refine zsR (j5 ui0 ui3 ui4 ui9 (j9 ui22 ui23 ui24 ui25 ui26 ui55 ui56 ui57 (j9 ui58 ui59 ui75 ui101 ui102 @tksA_len @tksA_all @tksA_one (j9 @List.length_append.{0} @List.length_cons.{0} @List.length_nil.{0} @wds_len @wdsE_nil @wdsE_cons @splice0 hxl hxt)))) ?_)) | ((with_reducible refine .dm (fun x => False) [(0, false), (1, false), (2, false), (3, false), (4, true), (5, true), (6, true), (7, true), (8, false), (9, true)] (by decide) (by decide +kernel) ?_); (refine zsR (j5 ui0 ui3 ui4 ui9 (j9 ui22 ui23 ui24 ui25 ui26 ui55 ui56 ui57 (j9 ui58 ui59 ui75 ui101 ui102 @tksA_len @tksA_all @tksA_one (j9 @List.length_append.{0} @List.length_cons.{0} @List.length_nil.{0} @wds_len @wdsE_nil @wdsE_cons @splice0 hxl hxt)))) ?_)) | refine zaR (j5 ui0 ui3 ui4 ui9 (j9 ui22 ui23 ui24 ui25 ui26 ui55 ui56 ui57 (j9 ui58 ui59 ui75 ui101 ui102 @tksA_len @tksA_all @tksA_one (j9 @List.length_append.{0} @List.length_cons.{0} @List.length_nil.{0} @wds_len @wdsE_nil @wdsE_cons @splice0 hxl hxt)))) ?_ | refine zkN (j5 ui0 ui3 ui4 ui9 (j9 ui22 ui23 ui24 ui25 ui26 ui55 ui56 ui57 (j9 ui58 ui59 ui75 ui101 ui102 @tksA_len @tksA_all @tksA_one (j9 @List.length_append.{0} @List.length_cons.{0} @List.length_nil.{0} @wds_len @wdsE_nil @wdsE_cons @splice0 hxl hxt)))) ?_ | ((first | (refine vkp_keep (by intro β h; first | (rcases h with h | h <;> subst h <;> (simp (disch := first | assumption | (apply zv; assumption; assumption) | (apply zw; assumption; assumption; (intro e; cases e; done)) | omega) only [zm, zn, zo, zp, zq])) | (subst h; (simp (disch := first | assumption | (apply zv; assumption; assumption) | (apply zw; assumption; assumption; (intro e; cases e; done)) | omega) only [zm, zn, zo, zp, zq]))) ?_) | ((with_reducible refine zy (hA) ?_); rintro _ S ⟨rfl, τ1, ⟨f1, n1⟩, rfl⟩; have n1s := n1.symm) | ((with_reducible refine zy (w_wordsE _ _ _ _ _ _ _ _ (by repeat (first | exact okW_nil | refine okW_cons ?_ (by simp))) (by first | assumption | exact ⟨by assumption, by assumption⟩) (by first | omega | (simp only [List.length_append, List.length_cons, List.length_nil, List.length_map]; omega))) ?_); rintro _ S ⟨rfl, τ1, ⟨f1, n1⟩, rfl⟩; have n1s := n1.symm) | ((with_reducible refine zy (w_literal _ _ _ _ _ _ _ (by first | assumption | exact ⟨by assumption, by assumption⟩) (by first | omega | (simp only [List.length_append, List.length_cons, List.length_nil, List.length_map]; omega)) (by assumption) (by assumption)) ?_); rintro _ S ⟨rfl, τ1, ⟨f1, n1⟩, rfl⟩; have n1s := n1.symm) | ((with_reducible refine zy (w_name _ _ _ _ _ _ _ (by first | assumption | exact ⟨by assumption, by assumption⟩) (by first | omega | (simp only [List.length_append, List.length_cons, List.length_nil, List.length_map]; omega))) ?_); rintro _ S ⟨rfl, τ1, ⟨f1, n1⟩, rfl⟩; have n1s := n1.symm) | ((with_reducible refine zy (w_level _ (by assumption) _ (by first | assumption | rfl) _) ?_); rintro _ S ⟨rfl, rfl⟩) | ((with_reducible refine zy (w_ops _) ?_); rintro _ S ⟨rfl, rfl⟩) | (refine vlo_app zx ?_) | (refine vst_app zx ?_)); (try refine zsR (j5 ui0 ui3 ui4 ui9 (j9 ui22 ui23 ui24 ui25 ui26 ui55 ui56 ui57 (j9 ui58 ui59 ui75 ui101 ui102 @tksA_len @tksA_all @tksA_one (j9 @List.length_append.{0} @List.length_cons.{0} @List.length_nil.{0} @wds_len @wdsE_nil @wdsE_cons @splice0 hxl hxt)))) ?_)) | refine zmR (j5 ui0 ui3 ui4 ui9 (j9 ui22 ui23 ui24 ui25 ui26 ui55 ui56 ui57 (j9 ui58 ui59 ui75 ui101 ui102 @tksA_len @tksA_all @tksA_one (j9 @List.length_append.{0} @List.length_cons.{0} @List.length_nil.{0} @wds_len @wdsE_nil @wdsE_cons @splice0 hxl hxt)))) ?_ | (with_reducible first | refine vfresh_set ?_ | refine vfresh_intro (fun _ _ => ?_) | refine vif_intro (fun _ => ?_) (fun _ => ?_)) | omega | refine ztR (j5 ui0 ui3 ui4 ui9 (j9 ui22 ui23 ui24 ui25 ui26 ui55 ui56 ui57 (j9 ui58 ui59 ui75 ui101 ui102 @tksA_len @tksA_all @tksA_one (j9 @List.length_append.{0} @List.length_cons.{0} @List.length_nil.{0} @wds_len @wdsE_nil @wdsE_cons @splice0 hxl hxt)))) ?_ | fail)
  all_goals exact ⟨_, .refl _, τ1, ⟨f1, n1⟩, rfl⟩
end Go.Proofs.YtjdapkelojdefaaGreatDoor

set_option linter.unusedSimpArgs false
set_option linter.unusedVariables false
namespace Go.Proofs.YtjdapkelojdefaaGreatDoor
open Go Go.V Go.Lex Go.Parse Go.Print
theorem x_op (k : Nat) (a b : Tr) (hw : (Tr.op k a b).wf) (ha : Cx a) (hb : Cx b) : Cx (.op k a b) := by
  intro B ω τ l d m h h0 h1 h2 h3 h4
  have hw' := hw
  obtain ⟨⟨hk1, hk2⟩, hwa, hwb⟩ := hw
  have hlk : 1 ≤ lvK k ∧ lvK k ≤ 6 := by
    have := lvK_le k hk1
    omega
  have hA := w_at a hwa ha (lftK k) (by unfold lftK; split <;> omega) B ω
  have hB := w_at b hwb hb (lvK k + 1) (by omega) B ω
  have hl : ∀ E, E = exA (Tr.op k a b).ex → ∀ σ, VCalls Tryz.prog 50 [.agg E] σ (fun x σ' => x = .i (lvK k : Nat) ∧ σ' = σ) := fun E hE σ => w_level _ hw' E hE σ
  have hxl := exA_len a.ex
  have hxt := exA_take a.ex
  have hyl := exA_len b.ex
  have hyt := exA_take b.ex
  have hog := ops_get k (by omega)
  have hone := ops_ne k (by omega) hk1
  have hf4 : lvK k = 4 → lftK k = 5 := fun h => if_pos h
  have hf5 : lvK k ≠ 4 → lftK k = lvK k := fun h => if_neg h
  rw [tk_op] at h4 ⊢
  rw [Tr.dp] at h3 ⊢
  simp only [List.length_append, List.length_cons, List.length_nil] at h4
  rw [ex_op] at hl ⊢
  generalize br (lo a (lftK k)) a.tk = TA at *
  generalize bd (lo a (lftK k)) + a.dp = DA at *
  generalize br (lo b (lvK k + 1)) b.tk = TB at *
  generalize bd (lo b (lvK k + 1)) + b.dp = DB at *
  generalize exA a.ex = X at *
  generalize exA b.ex = Y at *
  generalize ops.getD k [] = W at *
  have hlv : lvK k = 4 ∨ lvK k ≠ 4 := by omega
  have hB : ∀ τ l d m, okS B ω τ → 0 ≤ d → d ≤ m → m ≤ 2 ^ 41 → d + ((DB : Nat) : Int) ≤ 2 ^ 40 → l.length + TB.length ≤ 2 ^ 36 → VCalls Tryz.prog 47 [.ref ω 0, .agg Y, .i ((lvK k : Nat) + 1)] (WS B ω τ l d m) _ := hB
  rcases hlv with hc | hc
  · rw [hf4 hc] at hA
    have hA : ∀ τ l d m, okS B ω τ → 0 ≤ d → d ≤ m → m ≤ 2 ^ 41 → d + ((DA : Nat) : Int) ≤ 2 ^ 40 → l.length + TA.length ≤ 2 ^ 36 → VCalls Tryz.prog 47 [.ref ω 0, .agg X, .i 5] (WS B ω τ l d m) _ := hA
    rw [hc] at hl hB
    clear hf4 hf5
    (refine vfun (fun _ => .ro) mixed Tryz.func21 (by kernel_rfl) ?_; simp only [bodyOf, Tryz.f21, zr])
    repeat' (first | with_reducible rfl | exact trivial | exact .inr trivial | (with_reducible first | apply And.intro | apply vqx_step | apply vqm_step | refine vkp_free (by decide +kernel) ?_ | intro _) | ((with_reducible refine .dms (fun x => False) [(0, false), (1, false), (2, false), (3, true), (4, false), (5, true)] (by decide) (by decide +kernel) ?_); (refine zsR (j9 ui0 ui3 ui4 ui9 ui22 ui23 ui24 ui25 (j9 ui26 ui55 ui56 ui57 ui58 ui59 ui75 ui101 (j9 ui102 @tksA_len @tksA_all @tksA_one @List.length_append.{0} @List.length_cons.{0} @List.length_nil.{0} @wds_len (j9 @wdsE_nil @wdsE_cons @splice0 hxl hxt hyl hyt hog @ops_len)))) ?_)) | ((with_reducible refine .dm (fun x => False) [(0, false), (1, false), (2, false), (3, true), (4, false), (5, true)] (by decide) (by decide +kernel) ?_); (refine zsR (j9 ui0 ui3 ui4 ui9 ui22 ui23 ui24 ui25 (j9 ui26 ui55 ui56 ui57 ui58 ui59 ui75 ui101 (j9 ui102 @tksA_len @tksA_all @tksA_one @List.length_append.{0} @List.length_cons.{0} @List.length_nil.{0} @wds_len (j9 @wdsE_nil @wdsE_cons @splice0 hxl hxt hyl hyt hog @ops_len)))) ?_)) | ((with_reducible refine .dms (fun x => False) [(0, false), (1, false), (2, false), (3, true), (4, false), (5, true)] (by decide) (by decide +kernel) ?_); (refine zsR (j9 ui0 ui3 ui4 ui9 ui22 ui23 ui24 ui25 (j9 ui26 ui55 ui56 ui57 ui58 ui59 ui75 ui101 (j9 ui102 @tksA_len @tksA_all @tksA_one @List.length_append.{0} @List.length_cons.{0} @List.length_nil.{0} @wds_len (j9 @wdsE_nil @wdsE_cons @splice0 hxl hxt hyl hyt hog @ops_len)))) ?_)) | ((with_reducible refine .dm (fun x => False) [(0, false), (1, false), (2, false), (3, true), (4, false), (5, true)] (by decide) (by decide +kernel) ?_); (refine zsR (j9 ui0 ui3 ui4 ui9 ui22 ui23 ui24 ui25 (j9 ui26 ui55 ui56 ui57 ui58 ui59 ui75 ui101 (j9 ui102 @tksA_len @tksA_all @tksA_one @List.length_append.{0} @List.length_cons.{0} @List.length_nil.{0} @wds_len (j9 @wdsE_nil @wdsE_cons @splice0 hxl hxt hyl hyt hog @ops_len)))) ?_)) | ((with_reducible refine .dms (fun x => False) [(0, false), (1, false), (2, false), (3, true), (4, false), (5, true)] (by decide) (by decide +kernel) ?_); (refine zsR (j9 ui0 ui3 ui4 ui9 ui22 ui23 ui24 ui25 (j9 ui26 ui55 ui56 ui57 ui58 ui59 ui75 ui101 (j9 ui102 @tksA_len @tksA_all @tksA_one @List.length_append.{0} @List.length_cons.{0} @List.length_nil.{0} @wds_len (j9 @wdsE_nil @wdsE_cons @splice0 hxl hxt hyl hyt hog @ops_len)))) ?_)) | ((with_reducible refine .dm (fun x => False) [(0, false), (1, false), (2, false), (3, true), (4, false), (5, true)] (by decide) (by decide +kernel) ?_); (refine zsR (j9 ui0 ui3 ui4 ui9 ui22 ui23 ui24 ui25 (j9 ui26 ui55 ui56 ui57 ui58 ui59 ui75 ui101 (j9 ui102 @tksA_len @tksA_all @tksA_one @List.length_append.{0} @List.length_cons.{0} @List.length_nil.{0} @wds_len (j9 @wdsE_nil @wdsE_cons @splice0 hxl hxt hyl hyt hog @ops_len)))) ?_)) | ((with_reducible refine .dms (fun x => False) [(0, false), (1, false), (2, false), (3, false), (4, true), (5, true), (6, true), (7, true), (8, false), (9, true)] (by decide) (by decide +kernel) ?_); (refine zsR (j9 ui0 ui3 ui4 ui9 ui22 ui23 ui24 ui25 (j9 ui26 ui55 ui56 ui57 ui58 ui59 ui75 ui101 (j9 ui102 @tksA_len @tksA_all @tksA_one @List.length_append.{0} @List.length_cons.{0} @List.length_nil.{0} @wds_len (j9 @wdsE_nil @wdsE_cons @splice0 hxl hxt hyl hyt hog @ops_len)))) ?_)) | ((with_reducible refine .dm (fun x => False) [(0, false), (1, false), (2, false), (3, false), (4, true), (5, true), (6, true), (7, true), (8, false), (9, true)] (by decide) (by decide +kernel) ?_); (refine zsR (j9 ui0 ui3 ui4 ui9 ui22 ui23 ui24 ui25 (j9 ui26 ui55 ui56 ui57 ui58 ui59 ui75 ui101 (j9 ui102 @tksA_len @tksA_all @tksA_one @List.length_append.{0} @List.length_cons.{0} @List.length_nil.{0} @wds_len (j9 @wdsE_nil @wdsE_cons @splice0 hxl hxt hyl hyt hog @ops_len)))) ?_)) | refine zaR (j9 ui0 ui3 ui4 ui9 ui22 ui23 ui24 ui25 (j9 ui26 ui55 ui56 ui57 ui58 ui59 ui75 ui101 (j9 ui102 @tksA_len @tksA_all @tksA_one @List.length_append.{0} @List.length_cons.{0} @List.length_nil.{0} @wds_len (j9 @wdsE_nil @wdsE_cons @splice0 hxl hxt hyl hyt hog @ops_len)))) ?_ | refine zkN (j9 ui0 ui3 ui4 ui9 ui22 ui23 ui24 ui25 (j9 ui26 ui55 ui56 ui57 ui58 ui59 ui75 ui101 (j9 ui102 @tksA_len @tksA_all @tksA_one @List.length_append.{0} @List.length_cons.{0} @List.length_nil.{0} @wds_len (j9 @wdsE_nil @wdsE_cons @splice0 hxl hxt hyl hyt hog @ops_len)))) ?_ | ((first | (refine vkp_keep (by intro β h; first | (rcases h with h | h <;> subst h <;> (simp (disch := first | assumption | (apply zv; assumption; assumption) | (apply zw; assumption; assumption; (intro e; cases e; done)) | omega) only [zm, zn, zo, zp, zq])) | (subst h; (simp (disch := first | assumption | (apply zv; assumption; assumption) | (apply zw; assumption; assumption; (intro e; cases e; done)) | omega) only [zm, zn, zo, zp, zq]))) ?_) | ((with_reducible refine zy (hl _ rfl _) ?_); rintro _ S ⟨rfl, rfl⟩) | ((with_reducible refine zy (hA _ _ _ _ (by first | assumption | exact ⟨by assumption, by assumption⟩) (by omega) (by omega) (by omega) (by omega) (by first | omega | (simp only [List.length_append, List.length_cons, List.length_nil, List.length_map]; omega))) ?_); rintro _ S ⟨rfl, τ1, ⟨f1, n1⟩, rfl⟩; have n1s := n1.symm) | ((with_reducible refine zy (hB _ _ _ _ (by first | assumption | exact ⟨by assumption, by assumption⟩) (by omega) (by omega) (by omega) (by omega) (by first | omega | (simp only [List.length_append, List.length_cons, List.length_nil, List.length_map]; omega))) ?_); rintro _ S ⟨rfl, τ1, ⟨f1, n1⟩, rfl⟩; have n1s := n1.symm) | ((with_reducible refine zy (w_wordsE _ _ _ _ _ _ _ _ (okW_cons okW_nil (by assumption)) (by first | assumption | exact ⟨by assumption, by assumption⟩) (by first | omega | (simp only [List.length_append, List.length_cons, List.length_nil, List.length_map]; omega))) ?_); rintro _ S ⟨rfl, τ1, ⟨f1, n1⟩, rfl⟩; have n1s := n1.symm) | ((with_reducible refine zy (w_wordsE _ _ _ _ _ _ _ _ (by repeat (first | exact okW_nil | refine okW_cons ?_ (by simp))) (by first | assumption | exact ⟨by assumption, by assumption⟩) (by first | omega | (simp only [List.length_append, List.length_cons, List.length_nil, List.length_map]; omega))) ?_); rintro _ S ⟨rfl, τ1, ⟨f1, n1⟩, rfl⟩; have n1s := n1.symm) | ((with_reducible refine zy (w_literal _ _ _ _ _ _ _ (by first | assumption | exact ⟨by assumption, by assumption⟩) (by first | omega | (simp only [List.length_append, List.length_cons, List.length_nil, List.length_map]; omega)) (by assumption) (by assumption)) ?_); rintro _ S ⟨rfl, τ1, ⟨f1, n1⟩, rfl⟩; have n1s := n1.symm) | ((with_reducible refine zy (w_name _ _ _ _ _ _ _ (by first | assumption | exact ⟨by assumption, by assumption⟩) (by first | omega | (simp only [List.length_append, List.length_cons, List.length_nil, List.length_map]; omega))) ?_); rintro _ S ⟨rfl, τ1, ⟨f1, n1⟩, rfl⟩; have n1s := n1.symm) | ((with_reducible refine zy (w_level _ (by assumption) _ (by first | assumption | rfl) _) ?_); rintro _ S ⟨rfl, rfl⟩) | ((with_reducible refine zy (w_ops _) ?_); rintro _ S ⟨rfl, rfl⟩) | (refine vlo_app zx ?_) | (refine vst_app zx ?_)); (try refine zsR (j9 ui0 ui3 ui4 ui9 ui22 ui23 ui24 ui25 (j9 ui26 ui55 ui56 ui57 ui58 ui59 ui75 ui101 (j9 ui102 @tksA_len @tksA_all @tksA_one @List.length_append.{0} @List.length_cons.{0} @List.length_nil.{0} @wds_len (j9 @wdsE_nil @wdsE_cons @splice0 hxl hxt hyl hyt hog @ops_len)))) ?_)) | refine zmR (j9 ui0 ui3 ui4 ui9 ui22 ui23 ui24 ui25 (j9 ui26 ui55 ui56 ui57 ui58 ui59 ui75 ui101 (j9 ui102 @tksA_len @tksA_all @tksA_one @List.length_append.{0} @List.length_cons.{0} @List.length_nil.{0} @wds_len (j9 @wdsE_nil @wdsE_cons @splice0 hxl hxt hyl hyt hog @ops_len)))) ?_ | (with_reducible first | refine vfresh_set ?_ | refine vfresh_intro (fun _ _ => ?_) | refine vif_intro (fun _ => ?_) (fun _ => ?_)) | omega | refine ztR (j9 ui0 ui3 ui4 ui9 ui22 ui23 ui24 ui25 (j9 ui26 ui55 ui56 ui57 ui58 ui59 ui75 ui101 (j9 ui102 @tksA_len @tksA_all @tksA_one @List.length_append.{0} @List.length_cons.{0} @List.length_nil.{0} @wds_len (j9 @wdsE_nil @wdsE_cons @splice0 hxl hxt hyl hyt hog @ops_len)))) ?_ | fail)
    all_goals first | exact ⟨_, .refl _, τ1, ⟨f1, n1⟩, WS_eq (by simp) rfl (by omega)⟩ | (exfalso; omega)
  · rw [hf5 hc] at hA
    have hA : ∀ τ l d m, okS B ω τ → 0 ≤ d → d ≤ m → m ≤ 2 ^ 41 → d + ((DA : Nat) : Int) ≤ 2 ^ 40 → l.length + TA.length ≤ 2 ^ 36 → VCalls Tryz.prog 47 [.ref ω 0, .agg X, .i (lvK k : Nat)] (WS B ω τ l d m) _ := hA
    clear hf4 hf5
    generalize lvK k = K at *
    (refine vfun (fun _ => .ro) mixed Tryz.func21 (by kernel_rfl) ?_; simp only [bodyOf, Tryz.f21, zr])
    repeat' (first | with_reducible rfl | exact trivial | exact .inr trivial | (with_reducible first | apply And.intro | apply vqx_step | apply vqm_step | refine vkp_free (by decide +kernel) ?_ | intro _) | ((with_reducible refine .dms (fun x => False) [(0, false), (1, false), (2, false), (3, true), (4, false), (5, true)] (by decide) (by decide +kernel) ?_); (refine zsR (j9 ui0 ui3 ui4 ui9 ui22 ui23 ui24 ui25 (j9 ui26 ui55 ui56 ui57 ui58 ui59 ui75 ui101 (j9 ui102 @tksA_len @tksA_all @tksA_one @List.length_append.{0} @List.length_cons.{0} @List.length_nil.{0} @wds_len (j9 @wdsE_nil @wdsE_cons @splice0 hxl hxt hyl hyt hog @ops_len)))) ?_)) | ((with_reducible refine .dm (fun x => False) [(0, false), (1, false), (2, false), (3, true), (4, false), (5, true)] (by decide) (by decide +kernel) ?_); (refine zsR (j9 ui0 ui3 ui4 ui9 ui22 ui23 ui24 ui25 (j9 ui26 ui55 ui56 ui57 ui58 ui59 ui75 ui101 (j9 ui102 @tksA_len @tksA_all @tksA_one @List.length_append.{0} @List.length_cons.{0} @List.length_nil.{0} @wds_len (j9 @wdsE_nil @wdsE_cons @splice0 hxl hxt hyl hyt hog @ops_len)))) ?_)) | ((with_reducible refine .dms (fun x => False) [(0, false), (1, false), (2, false), (3, true), (4, false), (5, true)] (by decide) (by decide +kernel) ?_); (refine zsR (j9 ui0 ui3 ui4 ui9 ui22 ui23 ui24 ui25 (j9 ui26 ui55 ui56 ui57 ui58 ui59 ui75 ui101 (j9 ui102 @tksA_len @tksA_all @tksA_one @List.length_append.{0} @List.length_cons.{0} @List.length_nil.{0} @wds_len (j9 @wdsE_nil @wdsE_cons @splice0 hxl hxt hyl hyt hog @ops_len)))) ?_)) | ((with_reducible refine .dm (fun x => False) [(0, false), (1, false), (2, false), (3, true), (4, false), (5, true)] (by decide) (by decide +kernel) ?_); (refine zsR (j9 ui0 ui3 ui4 ui9 ui22 ui23 ui24 ui25 (j9 ui26 ui55 ui56 ui57 ui58 ui59 ui75 ui101 (j9 ui102 @tksA_len @tksA_all @tksA_one @List.length_append.{0} @List.length_cons.{0} @List.length_nil.{0} @wds_len (j9 @wdsE_nil @wdsE_cons @splice0 hxl hxt hyl hyt hog @ops_len)))) ?_)) | ((with_reducible refine .dms (fun x => False) [(0, false), (1, false), (2, false), (3, true), (4, false), (5, true)] (by decide) (by decide +kernel) ?_); (refine zsR (j9 ui0 ui3 ui4 ui9 ui22 ui23 ui24 ui25 (j9 ui26 ui55 ui56 ui57 ui58 ui59 ui75 ui101 (j9 ui102 @tksA_len @tksA_all @tksA_one @List.length_append.{0} @List.length_cons.{0} @List.length_nil.{0} @wds_len (j9 @wdsE_nil @wdsE_cons @splice0 hxl hxt hyl hyt hog @ops_len)))) ?_)) | ((with_reducible refine .dm (fun x => False) [(0, false), (1, false), (2, false), (3, true), (4, false), (5, true)] (by decide) (by decide +kernel) ?_); (refine zsR (j9 ui0 ui3 ui4 ui9 ui22 ui23 ui24 ui25 (j9 ui26 ui55 ui56 ui57 ui58 ui59 ui75 ui101 (j9 ui102 @tksA_len @tksA_all @tksA_one @List.length_append.{0} @List.length_cons.{0} @List.length_nil.{0} @wds_len (j9 @wdsE_nil @wdsE_cons @splice0 hxl hxt hyl hyt hog @ops_len)))) ?_)) | ((with_reducible refine .dms (fun x => False) [(0, false), (1, false), (2, false), (3, false), (4, true), (5, true), (6, true), (7, true), (8, false), (9, true)] (by decide) (by decide +kernel) ?_); (refine zsR (j9 ui0 ui3 ui4 ui9 ui22 ui23 ui24 ui25 (j9 ui26 ui55 ui56 ui57 ui58 ui59 ui75 ui101 (j9 ui102 @tksA_len @tksA_all @tksA_one @List.length_append.{0} @List.length_cons.{0} @List.length_nil.{0} @wds_len (j9 @wdsE_nil @wdsE_cons @splice0 hxl hxt hyl hyt hog @ops_len)))) ?_)) | ((with_reducible refine .dm (fun x => False) [(0, false), (1, false), (2, false), (3, false), (4, true), (5, true), (6, true), (7, true), (8, false), (9, true)] (by decide) (by decide +kernel) ?_); (refine zsR (j9 ui0 ui3 ui4 ui9 ui22 ui23 ui24 ui25 (j9 ui26 ui55 ui56 ui57 ui58 ui59 ui75 ui101 (j9 ui102 @tksA_len @tksA_all @tksA_one @List.length_append.{0} @List.length_cons.{0} @List.length_nil.{0} @wds_len (j9 @wdsE_nil @wdsE_cons @splice0 hxl hxt hyl hyt hog @ops_len)))) ?_)) | refine zaR (j9 ui0 ui3 ui4 ui9 ui22 ui23 ui24 ui25 (j9 ui26 ui55 ui56 ui57 ui58 ui59 ui75 ui101 (j9 ui102 @tksA_len @tksA_all @tksA_one @List.length_append.{0} @List.length_cons.{0} @List.length_nil.{0} @wds_len (j9 @wdsE_nil @wdsE_cons @splice0 hxl hxt hyl hyt hog @ops_len)))) ?_ | refine zkN (j9 ui0 ui3 ui4 ui9 ui22 ui23 ui24 ui25 (j9 ui26 ui55 ui56 ui57 ui58 ui59 ui75 ui101 (j9 ui102 @tksA_len @tksA_all @tksA_one @List.length_append.{0} @List.length_cons.{0} @List.length_nil.{0} @wds_len (j9 @wdsE_nil @wdsE_cons @splice0 hxl hxt hyl hyt hog @ops_len)))) ?_ | ((first | (refine vkp_keep (by intro β h; first | (rcases h with h | h <;> subst h <;> (simp (disch := first | assumption | (apply zv; assumption; assumption) | (apply zw; assumption; assumption; (intro e; cases e; done)) | omega) only [zm, zn, zo, zp, zq])) | (subst h; (simp (disch := first | assumption | (apply zv; assumption; assumption) | (apply zw; assumption; assumption; (intro e; cases e; done)) | omega) only [zm, zn, zo, zp, zq]))) ?_) | ((with_reducible refine zy (hl _ rfl _) ?_); rintro _ S ⟨rfl, rfl⟩) | ((with_reducible refine zy (hA _ _ _ _ (by first | assumption | exact ⟨by assumption, by assumption⟩) (by omega) (by omega) (by omega) (by omega) (by first | omega | (simp only [List.length_append, List.length_cons, List.length_nil, List.length_map]; omega))) ?_); rintro _ S ⟨rfl, τ1, ⟨f1, n1⟩, rfl⟩; have n1s := n1.symm) | ((with_reducible refine zy (hB _ _ _ _ (by first | assumption | exact ⟨by assumption, by assumption⟩) (by omega) (by omega) (by omega) (by omega) (by first | omega | (simp only [List.length_append, List.length_cons, List.length_nil, List.length_map]; omega))) ?_); rintro _ S ⟨rfl, τ1, ⟨f1, n1⟩, rfl⟩; have n1s := n1.symm) | ((with_reducible refine zy (w_wordsE _ _ _ _ _ _ _ _ (okW_cons okW_nil (by assumption)) (by first | assumption | exact ⟨by assumption, by assumption⟩) (by first | omega | (simp only [List.length_append, List.length_cons, List.length_nil, List.length_map]; omega))) ?_); rintro _ S ⟨rfl, τ1, ⟨f1, n1⟩, rfl⟩; have n1s := n1.symm) | ((with_reducible refine zy (w_wordsE _ _ _ _ _ _ _ _ (by repeat (first | exact okW_nil | refine okW_cons ?_ (by simp))) (by first | assumption | exact ⟨by assumption, by assumption⟩) (by first | omega | (simp only [List.length_append, List.length_cons, List.length_nil, List.length_map]; omega))) ?_); rintro _ S ⟨rfl, τ1, ⟨f1, n1⟩, rfl⟩; have n1s := n1.symm) | ((with_reducible refine zy (w_literal _ _ _ _ _ _ _ (by first | assumption | exact ⟨by assumption, by assumption⟩) (by first | omega | (simp only [List.length_append, List.length_cons, List.length_nil, List.length_map]; omega)) (by assumption) (by assumption)) ?_); rintro _ S ⟨rfl, τ1, ⟨f1, n1⟩, rfl⟩; have n1s := n1.symm) | ((with_reducible refine zy (w_name _ _ _ _ _ _ _ (by first | assumption | exact ⟨by assumption, by assumption⟩) (by first | omega | (simp only [List.length_append, List.length_cons, List.length_nil, List.length_map]; omega))) ?_); rintro _ S ⟨rfl, τ1, ⟨f1, n1⟩, rfl⟩; have n1s := n1.symm) | ((with_reducible refine zy (w_level _ (by assumption) _ (by first | assumption | rfl) _) ?_); rintro _ S ⟨rfl, rfl⟩) | ((with_reducible refine zy (w_ops _) ?_); rintro _ S ⟨rfl, rfl⟩) | (refine vlo_app zx ?_) | (refine vst_app zx ?_)); (try refine zsR (j9 ui0 ui3 ui4 ui9 ui22 ui23 ui24 ui25 (j9 ui26 ui55 ui56 ui57 ui58 ui59 ui75 ui101 (j9 ui102 @tksA_len @tksA_all @tksA_one @List.length_append.{0} @List.length_cons.{0} @List.length_nil.{0} @wds_len (j9 @wdsE_nil @wdsE_cons @splice0 hxl hxt hyl hyt hog @ops_len)))) ?_)) | refine zmR (j9 ui0 ui3 ui4 ui9 ui22 ui23 ui24 ui25 (j9 ui26 ui55 ui56 ui57 ui58 ui59 ui75 ui101 (j9 ui102 @tksA_len @tksA_all @tksA_one @List.length_append.{0} @List.length_cons.{0} @List.length_nil.{0} @wds_len (j9 @wdsE_nil @wdsE_cons @splice0 hxl hxt hyl hyt hog @ops_len)))) ?_ | (with_reducible first | refine vfresh_set ?_ | refine vfresh_intro (fun _ _ => ?_) | refine vif_intro (fun _ => ?_) (fun _ => ?_)) | omega | refine ztR (j9 ui0 ui3 ui4 ui9 ui22 ui23 ui24 ui25 (j9 ui26 ui55 ui56 ui57 ui58 ui59 ui75 ui101 (j9 ui102 @tksA_len @tksA_all @tksA_one @List.length_append.{0} @List.length_cons.{0} @List.length_nil.{0} @wds_len (j9 @wdsE_nil @wdsE_cons @splice0 hxl hxt hyl hyt hog @ops_len)))) ?_ | fail)
    all_goals first | exact ⟨_, .refl _, τ1, ⟨f1, n1⟩, WS_eq (by simp) rfl (by omega)⟩ | (exfalso; omega)
end Go.Proofs.YtjdapkelojdefaaGreatDoor

set_option linter.unusedVariables false
namespace Go.Lex
open Go.V Go.Proofs.YtjdapkelojdefaaGreatDoor
def padD : Nat → Nat → List UInt8
  | 0, _ => []
  | k + 1, u => padD k (u / 10) ++ [UInt8.ofNat (48 + u % 10)]
theorem padD_len : ∀ k u, (padD k u).length = k
  | 0, u => rfl
  | k + 1, u => by rw [padD, List.length_append, padD_len k]; rfl
theorem padD_add (j : Nat) : ∀ k u, padD (j + k) u = padD j (u / 10 ^ k) ++ padD k u
  | 0, u => by rw [Nat.add_zero, Nat.pow_zero, Nat.div_one, padD, List.append_nil]
  | k + 1, u => by
    rw [← Nat.add_assoc, padD, padD_add j k, padD, Nat.div_div_eq_div_mul, Nat.pow_succ, Nat.mul_comm 10, List.append_assoc]
theorem dec_pad : ∀ (k u : Nat), (k = 0 ∨ 10 ^ k ≤ u) → u < 10 ^ (k + 1) → dec u = padD (k + 1) u
  | 0, u, _, h => by
    rw [dec_lt (by omega), padD, padD, List.nil_append, Nat.mod_eq_of_lt (by omega)]
  | k + 1, u, h1, h2 => by
    have h3 : 10 ^ (k + 1) ≤ u := by rcases h1 with h | h <;> omega
    rw [Nat.pow_succ] at h2 h3
    have hp : 1 ≤ 10 ^ k := Nat.one_le_pow _ _ (by decide)
    rw [dec_ge (by omega), padD, dec_pad k (u / 10) (.inr (by omega)) (by omega)]
theorem pad2 (u : Nat) : padD 2 u = [UInt8.ofNat (48 + u / 10 % 10), UInt8.ofNat (48 + u % 10)] := rfl
theorem pad4 (u : Nat) : padD 4 u = [UInt8.ofNat (48 + u / 10 / 10 / 10 % 10), UInt8.ofNat (48 + u / 10 / 10 % 10), UInt8.ofNat (48 + u / 10 % 10), UInt8.ofNat (48 + u % 10)] := rfl
theorem pad8 (u : Nat) : padD 8 u = [UInt8.ofNat (48 + u / 10 / 10 / 10 / 10 / 10 / 10 / 10 % 10), UInt8.ofNat (48 + u / 10 / 10 / 10 / 10 / 10 / 10 % 10), UInt8.ofNat (48 + u / 10 / 10 / 10 / 10 / 10 % 10), UInt8.ofNat (48 + u / 10 / 10 / 10 / 10 % 10), UInt8.ofNat (48 + u / 10 / 10 / 10 % 10), UInt8.ofNat (48 + u / 10 / 10 % 10), UInt8.ofNat (48 + u / 10 % 10), UInt8.ofNat (48 + u % 10)] := rfl
def nd10 (len : Nat) : Nat := len * 78913 / 262144
theorem nd10_ok : ∀ len, len ≤ 64 → 1 ≤ len → 2 ^ len ≤ 10 ^ (nd10 len + 1) ∧ (nd10 len = 0 ∨ 10 ^ (nd10 len - 1) ≤ 2 ^ (len - 1)) ∧ nd10 len ≤ 19 := by decide +kernel
theorem digits_ok {len u : Nat} (h1 : 1 ≤ len) (h2 : len ≤ 64) (h3 : 2 ^ (len - 1) ≤ u) (h4 : u < 2 ^ len) :
    (10 ^ nd10 len ≤ u → dec u = padD (nd10 len + 1) u) ∧ (u < 10 ^ nd10 len → 1 ≤ nd10 len ∧ dec u = padD (nd10 len) u) := by
  obtain ⟨a, b, c⟩ := nd10_ok len h2 h1
  have hp : 1 ≤ 2 ^ (len - 1) := Nat.one_le_pow _ _ (by decide)
  refine ⟨fun h => dec_pad _ u (.inr h) (by omega), fun h => ?_⟩
  rcases b with b | b
  · rw [b] at h; omega
  · obtain ⟨m, hm⟩ : ∃ m, nd10 len = m + 1 := by
      cases hn : nd10 len with
      | zero => rw [hn] at h; omega
      | succ m => exact ⟨m, rfl⟩
    rw [hm] at b h ⊢
    exact ⟨by omega, dec_pad m u (.inr (by simpa using Nat.le_trans b h3)) h⟩
theorem dec_pow : ∀ n, n < 10 ^ (dec n).length := fun n => by
  induction n using Nat.strongRecOn with
  | ind n ih =>
    by_cases h : n < 10
    · rw [dec_lt h]; simpa using h
    · rw [dec_ge h, List.length_append, List.length_singleton, Nat.pow_succ]
      have := ih (n / 10) (by omega)
      omega
theorem dec_padlen : ∀ n, dec n = padD (dec n).length n := fun n => by
  induction n using Nat.strongRecOn with
  | ind n ih =>
    by_cases h : n < 10
    · rw [dec_lt h]
      show _ = padD 1 n
      rw [padD, padD, List.nil_append, Nat.mod_eq_of_lt h]
    · rw [dec_ge h, List.length_append, List.length_singleton, padD, ← ih (n / 10) (by omega)]
end Go.Lex

set_option linter.unusedVariables false
namespace Go.V
open Go.RowKit
variable {P : Program}
end Go.V

set_option linter.unusedVariables false
namespace Go.V
open Go.RowKit
variable {P : Program}
end Go.V

set_option linter.unusedVariables false
namespace Go.V
open Go.RowKit
variable {P : Program} {σ : Sg}
theorem vCountString {f : FuncId} {fn : Func} {s : ByteArray} {c : UInt8} (hf : P.funcs[f]? = some fn) (hname : (fn.name == "runtime.NumGoroutine") = false) (hb : fn.body.isNone = true) (hn : Extern.findNext fn = none) (he : Extern.find fn = some Extern.BytealgCount.count) :
    VCalls P f [.s s, .u8 c.toNat] σ (fun y σ' => y = .i (s.data.toList.count c : Nat) ∧ σ' = σ) :=
  vextern hf hname hb hn he (fun κ vs hst hargs => by
    obtain ⟨u, v, rfl, hx, hy⟩ := relRow2 hargs
    cases hx
    cases hy
    have h := Lib.run_countString (P := P) s (c.toNat : Int) κ.w
    have hcc : ((c.toNat : Int).toNat).toUInt8 = c := by simp
    rw [hcc] at h
    exact ⟨_, κ.w, h, post_same hst (.val _) ⟨rfl, rfl⟩⟩)
theorem vMakeNoZero {f : FuncId} {fn : Func} {ps : Array TypeId} {t e : TypeId} {n : Nat} (hf : P.funcs[f]? = some fn) (hname : (fn.name == "runtime.NumGoroutine") = false) (hb : fn.body.isNone = true) (hn : Extern.findNext fn = none) (he : Extern.find fn = some (Extern.BytealgMakeNoZero.makeNoZero ps #[t]))
    (ht : P.underlying t = some (.slice e)) (hsz : n ≤ 281474976710656) :
    VCalls P f [.i n] σ (fun y σ' => ∃ τ, σ τ = none ∧ y = .nz τ n 1 ∧ σ' = σ.set τ (.tok (some e))) :=
  vextern hf hname hb hn he (fun κ vs hst hargs => by
    obtain ⟨u, rfl, hx⟩ := relRow1 hargs
    cases hx
    obtain ⟨cs, h1, h2, _⟩ := Lib.run_makeNoZero (P := P) κ.w ps t e ht n hsz
    have hst2 := hst.drew.drew
    obtain ⟨τ, hτ, hτσ⟩ := hst2.fresh
    obtain ⟨hle, hs⟩ := hst2.newTok (τ := τ) (lo := 0) (c := cs) (t := e) (fz := (0, 0)) (e := some e) (Nat.zero_le _) (fun i _ h => by simp at h) (fun t' h => by cases h; exact ⟨rfl, rfl⟩) hτ
    refine ⟨_, _, h1, ⟨_, _, _, ?_, (K.le_drew κ).trans ((K.le_drew _).trans hle), hs, ?_, τ, hτσ σ (.refl σ), rfl, rfl⟩⟩
    · rfl
    · refine .nz τ n 1 κ.w.heap.size cs.size ?_ h2
      simp [K.named, K.drew])
theorem cap_nil (t e ty : TypeId) (l : List TypeId) (σ : Sg) (R : AV → Sg → Prop) (he : P.underlying t = some (.slice e)) : vbuiltin P .cap [.sl .nil []] (List.toArray (t :: l)) ty σ R = R (.i 0) σ := by
  simp only [vbuiltin, true_and, List.getElem?_toArray, List.getElem?_cons_zero, Option.bind_some, he]
  refine propext ⟨fun h => h.2, fun h => ⟨⟨e, rfl⟩, h⟩⟩
theorem vsl_nz (e : TypeId) (τ n sz : Nat) (k : IntKind) (σ : Sg) (R : AV → Prop) : vsl P (some (.slice e)) (.nz τ n sz) none (some (.val (.int k 0))) none σ R = vixE (tInfo P e) (fun s => s = sz ∧ R (.sl (.tok τ sz) [])) := by
  unfold vsl vixE
  simp only [optInt]
  cases tInfo P e <;> simp
theorem vcopy_nil (t e : TypeId) (τ sz : Nat) (σ : Sg) (R : AV → Sg → Prop) (he : P.underlying t = some (.slice e)) (hi : (tInfo P e).isSome = true) : vcopy P t (.sl (.tok τ sz) []) (.sl .nil []) σ R = R (.i 0) σ := by
  unfold vcopy
  simp only [he, elems, hi, true_and]
theorem ev_global (ρ : Nat → AV) (g : Nat) (cs : List Value) (h : gtab g = some cs) : ev ρ (.global g) = .ro (cs.map .val) := by
  show (match gtab g with | some cs => AV.ro (cs.map .val) | none => .val (.pointer (some ⟨g, 0, none⟩))) = _
  rw [h]
end Go.V

set_option linter.unusedSimpArgs false
set_option linter.unusedVariables false
namespace Go.Lex
open Go.V Go.Proofs.YtjdapkelojdefaaGreatDoor
theorem shr_nat (x k : Nat) (t : IntKind) (h : k ≤ t.bits) : ((x : Nat) : Int).fdiv (2 ^ min k t.bits) = ((x / 2 ^ k : Nat) : Int) := by
  rw [Nat.min_eq_left h, Int.fdiv_eq_ediv_of_nonneg _ (by exact_mod_cast Nat.zero_le (2 ^ k))]
  norm_cast
theorem shr32 (x : Nat) : ((x : Nat) : Int).fdiv (2 ^ min 32 IntKind.u64.bits) = ((x / 4294967296 : Nat) : Int) := shr_nat x 32 _ (by decide)
theorem shr16 (x : Nat) : ((x : Nat) : Int).fdiv (2 ^ min 16 IntKind.u64.bits) = ((x / 65536 : Nat) : Int) := shr_nat x 16 _ (by decide)
theorem shr8 (x : Nat) : ((x : Nat) : Int).fdiv (2 ^ min 8 IntKind.u64.bits) = ((x / 256 : Nat) : Int) := shr_nat x 8 _ (by decide)
theorem shr18 (x : Nat) : ((x : Nat) : Int).fdiv (2 ^ min 18 IntKind.i64.bits) = ((x / 262144 : Nat) : Int) := shr_nat x 18 _ (by decide)
theorem len_leaf {L : List UInt8} {b u v : Nat} {c : Int} (hc : c = (b : Nat)) (hv : u / 2 ^ b = v) (h8 : v < 256) (hb : b ≤ 56) (h0 : 1 ≤ v)
    (hL : ∀ k, k < 256 → k < 2 ^ (L.getD k 0).toNat ∧ (1 ≤ k → 1 ≤ (L.getD k 0).toNat ∧ 2 ^ ((L.getD k 0).toNat - 1) ≤ k) ∧ (L.getD k 0).toNat ≤ 8) : ∃ n : Nat, 1 ≤ n ∧ n ≤ 64 ∧ 2 ^ (n - 1) ≤ u ∧ u < 2 ^ n ∧ AV.val (.int .i64 (IntKind.i64.wrap (c + IntKind.i64.wrap ((L.getD v 0).toNat : Int)))) = AV.i n := by
  obtain ⟨a1, a2, a3⟩ := hL v h8
  obtain ⟨a4, a5⟩ := a2 h0
  generalize (L.getD v 0).toNat = t at *
  have hp : 0 < 2 ^ b := Nat.pow_pos (by decide)
  refine ⟨b + t, by omega, by omega, ?_, ?_, by rw [w64 (n := (t : Int)) (by omega) (by omega), w64 (by omega) (by omega), hc]; rfl⟩
  · rw [show b + t - 1 = b + (t - 1) by omega, Nat.pow_add]
    calc 2 ^ b * 2 ^ (t - 1) ≤ 2 ^ b * v := Nat.mul_le_mul_left _ a5
      _ ≤ u := by rw [← hv]; exact Nat.mul_div_le u (2 ^ b)
  · rw [Nat.pow_add]
    have h1 : u < 2 ^ b * (v + 1) := by
      have := Nat.lt_mul_div_succ u hp
      rwa [hv] at this
    exact Nat.lt_of_lt_of_le h1 (Nat.mul_le_mul_left _ a1)
end Go.Lex
namespace Go.Proofs.YtjdapkelojdefaaGreatDoor
open Go Go.V Go.Lex
theorem e55 (b : Bool) (σ : Sg) : VCalls Tryz.prog 200 [.b b] σ (fun x σ' => x = .i (if b then 1 else 0) ∧ σ' = σ) := by
  cases b
  · (refine vfun (fun _ => .no) mixed Tryz.func200 (by kernel_rfl) ?_; simp only [bodyOf, Tryz.f200, zr])
    repeat' (first | with_reducible rfl | exact trivial | exact .inr trivial | (with_reducible first | apply And.intro | apply vqx_step | apply vqm_step | refine vkp_free (by decide +kernel) ?_ | intro _) | refine zaW (j2 ui3 ui4) ?_ | (with_reducible first | refine vfresh_set ?_ | refine vfresh_intro (fun _ _ => ?_) | refine vif_intro (fun _ => ?_) (fun _ => ?_)) | omega | refine zt (j2 ui3 ui4) ?_ | fail)
    all_goals (exact Go.V.zE)
  · (refine vfun (fun _ => .no) mixed Tryz.func200 (by kernel_rfl) ?_; simp only [bodyOf, Tryz.f200, zr])
    repeat' (first | with_reducible rfl | exact trivial | exact .inr trivial | (with_reducible first | apply And.intro | apply vqx_step | apply vqm_step | refine vkp_free (by decide +kernel) ?_ | intro _) | refine zaW (j2 ui3 ui4) ?_ | (with_reducible first | refine vfresh_set ?_ | refine vfresh_intro (fun _ _ => ?_) | refine vif_intro (fun _ => ?_) (fun _ => ?_)) | omega | refine zt (j2 ui3 ui4) ?_ | fail)
    all_goals (exact Go.V.zE)
theorem e53 (n : Nat) (hn : n ≤ 64) (σ : Sg) : VCalls Tryz.prog 198 [.i n] σ (fun x σ' => x = .i (nd10 n) ∧ σ' = σ) := by
  (refine vfun (fun _ => .no) mixed Tryz.func198 (by kernel_rfl) ?_; simp only [bodyOf, Tryz.f198, zr])
  repeat' (first | with_reducible rfl | exact trivial | exact .inr trivial | (with_reducible first | apply And.intro | apply vqx_step | apply vqm_step | refine vkp_free (by decide +kernel) ?_ | intro _) | refine zaW (j2 ui3 ui4) ?_ | (with_reducible first | refine vfresh_set ?_ | refine vfresh_intro (fun _ _ => ?_) | refine vif_intro (fun _ => ?_) (fun _ => ?_)) | omega | refine zt (j2 ui3 ui4) ?_ | fail)
  refine ⟨_, .refl _, ?_, rfl⟩
  have : ((n : Nat) : Int) * 78913 = ((n * 78913 : Nat) : Int) := by omega
  rw [this, shr18]
  rfl
theorem e54 (u : Nat) (h1 : 1 ≤ u) (h2 : u < 2 ^ 64) (σ : Sg) : VCalls Tryz.prog 199 [.val (.int .u64 u)] σ (fun x σ' => (∃ n : Nat, 1 ≤ n ∧ n ≤ 64 ∧ 2 ^ (n - 1) ≤ u ∧ u < 2 ^ n ∧ x = .i n) ∧ σ' = σ) := by
  (refine vfun (fun _ => .no) mixed Tryz.func199 (by kernel_rfl) ?_; simp only [bodyOf, Tryz.f199, zr])
  repeat' (first | with_reducible rfl | exact trivial | exact .inr trivial | (with_reducible first | apply And.intro | apply vqx_step | apply vqm_step | refine vkp_free (by decide +kernel) ?_ | intro _) | refine zaW (j8 ui3 ui4 ui179 ui5 ui9 @shr32 @shr16 @shr8) ?_ | (with_reducible first | refine vfresh_set ?_ | refine vfresh_intro (fun _ _ => ?_) | refine vif_intro (fun _ => ?_) (fun _ => ?_)) | omega | refine zt (j8 ui3 ui4 ui179 ui5 ui9 @shr32 @shr16 @shr8) ?_ | fail)
  all_goals first
    | exact Nat.lt_of_lt_of_le (m := 256) (by omega) (by decide +kernel)
    | exact ⟨_, .refl _, len_leaf (b := 56) (u := u) (by decide) (by omega) (by omega) (by decide) (by omega) (by decide +kernel), rfl⟩
    | exact ⟨_, .refl _, len_leaf (b := 48) (u := u) (by decide) (by omega) (by omega) (by decide) (by omega) (by decide +kernel), rfl⟩
    | exact ⟨_, .refl _, len_leaf (b := 40) (u := u) (by decide) (by omega) (by omega) (by decide) (by omega) (by decide +kernel), rfl⟩
    | exact ⟨_, .refl _, len_leaf (b := 32) (u := u) (by decide) (by omega) (by omega) (by decide) (by omega) (by decide +kernel), rfl⟩
    | exact ⟨_, .refl _, len_leaf (b := 24) (u := u) (by decide) (by omega) (by omega) (by decide) (by omega) (by decide +kernel), rfl⟩
    | exact ⟨_, .refl _, len_leaf (b := 16) (u := u) (by decide) (by omega) (by omega) (by decide) (by omega) (by decide +kernel), rfl⟩
    | exact ⟨_, .refl _, len_leaf (b := 8) (u := u) (by decide) (by omega) (by omega) (by decide) (by omega) (by decide +kernel), rfl⟩
    | exact ⟨_, .refl _, len_leaf (b := 0) (u := u) (by decide) (by omega) (by omega) (by decide) (by omega) (by decide +kernel), rfl⟩
theorem dec_len1 {u r : Nat} (h : dec u = padD r u) : (dec u).length = r := by rw [h, padD_len]
theorem pow_drop : ∀ k, k ≤ 19 → List.drop (k * 1) (List.map AV.val pow10tab) = .val (.int .u64 ((10 ^ k : Nat) : Int)) :: List.drop (k + 1) (List.map AV.val pow10tab)
  | 0, _ => rfl
  | 1, _ => rfl
  | 2, _ => rfl
  | 3, _ => rfl
  | 4, _ => rfl
  | 5, _ => rfl
  | 6, _ => rfl
  | 7, _ => rfl
  | 8, _ => rfl
  | 9, _ => rfl
  | 10, _ => rfl
  | 11, _ => rfl
  | 12, _ => rfl
  | 13, _ => rfl
  | 14, _ => rfl
  | 15, _ => rfl
  | 16, _ => rfl
  | 17, _ => rfl
  | 18, _ => rfl
  | 19, _ => rfl
  | k + 20, h => by omega
theorem nd_le {n : Nat} (h2 : n ≤ 64) (h1 : 1 ≤ n) : nd10 n ≤ 19 := (nd10_ok n h2 h1).2.2
theorem e43 (u : Nat) (h1 : 1 ≤ u) (h2 : u < 2 ^ 64) (σ : Sg) : VCalls Tryz.prog 190 [.val (.int .u64 u)] σ (fun x σ' => x = .i (dec u).length ∧ σ' = σ) := by
  have h54 := fun σ => e54 u h1 h2 σ
  have h53 := fun n hn σ => e53 n hn σ
  have h55 := fun b σ => e55 b σ
  have hg := fun ρ => ev_global ρ 1 pow10tab rfl
  (refine vfun (fun _ => .no) mixed Tryz.func190 (by kernel_rfl) ?_; simp only [bodyOf, Tryz.f190, zr])
  repeat' (first | with_reducible rfl | exact trivial | exact .inr trivial | (with_reducible first | apply And.intro | apply vqx_step | apply vqm_step | refine vkp_free (by decide +kernel) ?_ | intro _) | refine zaW (j5 ui3 ui4 ui179 ui186 hg) ?_ | ((first | ((with_reducible refine zy (h54 _) ?_); rintro _ S ⟨⟨n, hn1, hn2, hn3, hn4, rfl⟩, rfl⟩; have hnd := nd_le hn2 hn1) | ((with_reducible refine zy (h53 _ (by assumption) _) ?_); rintro _ S ⟨rfl, rfl⟩) | ((with_reducible refine zy (h55 _ _) ?_); rintro _ S ⟨rfl, rfl⟩) | with_reducible rw [pow_drop _ (by assumption)]); (try refine zs (j5 ui3 ui4 ui179 ui186 hg) ?_)) | (with_reducible first | refine vfresh_set ?_ | refine vfresh_intro (fun _ _ => ?_) | refine vif_intro (fun _ => ?_) (fun _ => ?_)) | omega | refine zt (j5 ui3 ui4 ui179 ui186 hg) ?_ | fail)

  obtain ⟨d1, d2⟩ := digits_ok hn1 hn2 hn3 hn4
  refine ⟨_, .refl _, ?_, rfl⟩
  by_cases hc : 10 ^ nd10 n ≤ u
  · rw [if_pos (by exact_mod_cast hc), dec_len1 (d1 hc)]
    rfl
  · rw [if_neg (by exact_mod_cast hc), dec_len1 (d2 (by omega)).2]
    simp
theorem small1 : ∀ n, n < 10 → List.drop n (48 :: List.take n [49, 50, 51, 52, 53, 54, 55, 56, 57, 97, 98, 99, 100, 101, 102, 103, 104, 105, 106, 107, 108, 109, 110, 111, 112, 113, 114, 115, 116, 117, 118, 119, 120, 121, 122]) = [UInt8.ofNat (48 + n)] := by decide +kernel
theorem small2 {L : List UInt8} {n : Nat} (h1 : 10 ≤ n) (h2 : n < 100) (hL : ∀ n, n < 100 → List.drop (n * 2) (List.take (n * 2 + 2) L) = padD 2 n) : AV.s (bs (List.drop ((n : Int) * 2).toNat (List.take ((n : Int) * 2 + 2).toNat L))) = AV.s (bs (dec n)) := by
  have e1 : ((n : Int) * 2).toNat = n * 2 := by omega
  have e2 : ((n : Int) * 2 + 2).toNat = n * 2 + 2 := by omega
  rw [e1, e2, hL n h2, dec_pad 1 n (.inr (by omega)) (by omega)]
theorem e42 (n : Nat) (hn : n < 100) (σ : Sg) : VCalls Tryz.prog 189 [.i n] σ (fun x σ' => x = .s (bs (dec n)) ∧ σ' = σ) := by
  (refine vfun (fun _ => .no) mixed Tryz.func189 (by kernel_rfl) ?_; simp only [bodyOf, Tryz.f189, zr])
  repeat' (first | with_reducible rfl | exact trivial | exact .inr trivial | (with_reducible first | apply And.intro | apply vqx_step | apply vqm_step | refine vkp_free (by decide +kernel) ?_ | intro _) | refine zaW (j3 ui3 ui4 ui9) ?_ | (with_reducible first | refine vfresh_set ?_ | refine vfresh_intro (fun _ _ => ?_) | refine vif_intro (fun _ => ?_) (fun _ => ?_)) | omega | refine zt (j3 ui3 ui4 ui9) ?_ | fail)
  all_goals first
    | exact ⟨_, .refl _, by rw [dec_lt (by omega), small1 n (by omega)], rfl⟩
    | exact Int.le_trans (b := 200) (by omega) (by decide +kernel)
    | exact ⟨_, .refl _, small2 (by omega) hn (by decide +kernel), rfl⟩
end Go.Proofs.YtjdapkelojdefaaGreatDoor

set_option linter.unusedSimpArgs false
set_option linter.unusedVariables false
namespace Go.Lex
open Go.V Go.Proofs.YtjdapkelojdefaaGreatDoor
def smallsL : List UInt8 := (([48, 48, 48, 49, 48, 50, 48, 51, 48, 52, 48, 53, 48, 54, 48, 55, 48, 56, 48, 57, 49, 48, 49, 49, 49, 50, 49, 51, 49, 52, 49, 53, 49, 54, 49, 55, 49, 56, 49, 57, 50, 48, 50, 49, 50, 50, 50, 51, 50, 52].append [50, 53, 50, 54, 50, 55, 50, 56, 50, 57, 51, 48, 51, 49, 51, 50, 51, 51, 51, 52, 51, 53, 51, 54, 51, 55, 51, 56, 51, 57, 52, 48, 52, 49, 52, 50, 52, 51, 52, 52, 52, 53, 52, 54, 52, 55, 52, 56, 52, 57]).append ([53, 48, 53, 49, 53, 50, 53, 51, 53, 52, 53, 53, 53, 54, 53, 55, 53, 56, 53, 57, 54, 48, 54, 49, 54, 50, 54, 51, 54, 52, 54, 53, 54, 54, 54, 55, 54, 56, 54, 57, 55, 48, 55, 49, 55, 50, 55, 51, 55, 52].append [55, 53, 55, 54, 55, 55, 55, 56, 55, 57, 56, 48, 56, 49, 56, 50, 56, 51, 56, 52, 56, 53, 56, 54, 56, 55, 56, 56, 56, 57, 57, 48, 57, 49, 57, 50, 57, 51, 57, 52, 57, 53, 57, 54, 57, 55, 57, 56, 57, 57]))
theorem sm_fold : (⟨((([48, 48, 48, 49, 48, 50, 48, 51, 48, 52, 48, 53, 48, 54, 48, 55, 48, 56, 48, 57, 49, 48, 49, 49, 49, 50, 49, 51, 49, 52, 49, 53, 49, 54, 49, 55, 49, 56, 49, 57, 50, 48, 50, 49, 50, 50, 50, 51, 50, 52].append [50, 53, 50, 54, 50, 55, 50, 56, 50, 57, 51, 48, 51, 49, 51, 50, 51, 51, 51, 52, 51, 53, 51, 54, 51, 55, 51, 56, 51, 57, 52, 48, 52, 49, 52, 50, 52, 51, 52, 52, 52, 53, 52, 54, 52, 55, 52, 56, 52, 57]).append ([53, 48, 53, 49, 53, 50, 53, 51, 53, 52, 53, 53, 53, 54, 53, 55, 53, 56, 53, 57, 54, 48, 54, 49, 54, 50, 54, 51, 54, 52, 54, 53, 54, 54, 54, 55, 54, 56, 54, 57, 55, 48, 55, 49, 55, 50, 55, 51, 55, 52].append [55, 53, 55, 54, 55, 55, 55, 56, 55, 57, 56, 48, 56, 49, 56, 50, 56, 51, 56, 52, 56, 53, 56, 54, 56, 55, 56, 56, 56, 57, 57, 48, 57, 49, 57, 50, 57, 51, 57, 52, 57, 53, 57, 54, 57, 55, 57, 56, 57, 57]))).toArray⟩ : ByteArray) = bs smallsL := rfl
theorem sm_len : smallsL.length = 200 := by decide +kernel
theorem sm_even : ∀ j, j < 100 → smallsL.getD (j * 2) 0 = UInt8.ofNat (48 + j / 10) := by decide +kernel
theorem sm_odd : ∀ j, j < 100 → smallsL.getD (j * 2 + 1) 0 = UInt8.ofNat (48 + j % 10) := by decide +kernel
theorem take_app {α : Type} (P L : List α) (k : Nat) : List.take (P.length + k) (P ++ L) = P ++ List.take k L := by simp [List.take_append, List.take_of_length_le]
theorem drop_app {α : Type} (P L : List α) (k : Nat) : List.drop (P.length + k + 1) (P ++ L) = List.drop (k + 1) L := by
  rw [Nat.add_assoc]
  simp [List.drop_append, List.drop_of_length_le]
theorem take_app0 {α : Type} (P L : List α) : List.take P.length (P ++ L) = P := by simp
theorem drop_app0 {α : Type} (P L : List α) : List.drop (P.length + 1) (P ++ L) = List.drop 1 L := by
  simp [List.drop_append, List.drop_of_length_le]
theorem smE {k : Nat} (h : k < 100) : (smallsL.getD (k * 2) 0).toNat = 48 + k / 10 := by
  rw [sm_even k h, UInt8.toNat_ofNat']
  omega
theorem smO {k : Nat} (h : k < 100) : (smallsL.getD (k * 2 + 1) 0).toNat = 48 + k % 10 := by
  rw [sm_odd k h, UInt8.toNat_ofNat']
  omega
theorem nz8 : ((100000000 : Int) = 0) = False := by simp
theorem nz4 : ((10000 : Int) = 0) = False := by simp
theorem nz2 : ((100 : Int) = 0) = False := by simp
theorem tm8 (v : Nat) : (v : Int).tmod 100000000 = ((v % 100000000 : Nat) : Int) := rfl
theorem tm4 (v : Nat) : (v : Int).tmod 10000 = ((v % 10000 : Nat) : Int) := rfl
theorem tm2 (v : Nat) : (v : Int).tmod 100 = ((v % 100 : Nat) : Int) := rfl
theorem td8 (v : Nat) : (v : Int).tdiv 100000000 = ((v / 100000000 : Nat) : Int) := rfl
theorem td4 (v : Nat) : (v : Int).tdiv 10000 = ((v / 10000 : Nat) : Int) := rfl
theorem td2 (v : Nat) : (v : Int).tdiv 100 = ((v / 100 : Nat) : Int) := rfl
theorem cm2 (v : Nat) : (v : Int) * 2 = ((v * 2 : Nat) : Int) := rfl
theorem ca1 (v : Nat) : (v : Int) + 1 = ((v + 1 : Nat) : Int) := rfl
theorem wr32 (v : Nat) : IntKind.u32.wrap (v : Int) = ((v % 4294967296 : Nat) : Int) := rfl
theorem wr64 (v : Nat) : IntKind.u64.wrap (v : Int) = ((v % 18446744073709551616 : Nat) : Int) := rfl
theorem wrN {n : Nat} (h : n < 4294967296) : IntKind.u32.wrap (n : Int) = n := by rw [wr32, Nat.mod_eq_of_lt h]
theorem wrM {n : Nat} (h : n < 18446744073709551616) : IntKind.u64.wrap (n : Int) = n := by rw [wr64, Nat.mod_eq_of_lt h]
def u8s (l : List UInt8) : List AV := l.map fun c => AV.u8 c.toNat
theorem u8s_app (a b : List UInt8) : u8s (a ++ b) = u8s a ++ u8s b := by simp [u8s]
theorem u8s_len (a : List UInt8) : (u8s a).length = a.length := by simp [u8s]
end Go.Lex
namespace Go.Proofs.YtjdapkelojdefaaGreatDoor
open Go Go.V Go.Lex
theorem len8 {l : List AV} (h : l.length = 8) : ∃ a b c d e f g i, l = [a, b, c, d, e, f, g, i] := by
  match l, h with
  | [a, b, c, d, e, f, g, i], _ => exact ⟨a, b, c, d, e, f, g, i, rfl⟩
end Go.Proofs.YtjdapkelojdefaaGreatDoor

set_option linter.unusedSimpArgs false
set_option linter.unusedVariables false
namespace Go.Proofs.YtjdapkelojdefaaGreatDoor
open Go Go.V Go.Lex
theorem cutq {P : Program} {H : Nat → Hint} {n : Nat} {Q : VX → (Nat → AV) → Sg → Prop} {ρ : Nat → AV} {σ : Sg} {α : Type} {x y : Code} (Inv : α → Prop) (vals : α → List (Nat × AV)) (sg : α → Sg) (h : VW P H n x (sq (At Inv vals sg) Q) ρ σ) (h' : ∀ z, Inv z → VW P H n y Q (env (vals z)) (sg z)) : VW P H n x (sq (VW P H n y Q) Q) ρ σ := by
  refine h.mono (fun e ρ σ hq => ?_)
  cases e with
  | normal =>
    obtain ⟨z, hz, hs, hv⟩ := hq
    exact ((h' z hz).weak (Holds.weak hv)).forget hs
  | exit id => exact hq
  | ret => exact hq
theorem cut_list (A mid : List AV) (m n off : Nat) (hA : A.length = off) (hmn : m + n ≤ mid.length) : ∃ P E : List AV, A ++ mid.take m = P ∧ P.length = off + m ∧ E.length = n ∧ A ++ mid.take (m + n) = P ++ E :=
  ⟨_, (mid.drop m).take n, rfl, by simp; omega, by simp; omega, by rw [List.take_add, List.append_assoc]⟩
theorem len4 {l : List AV} (h : l.length = 4) : ∃ a b c d, l = [a, b, c, d] := by
  match l, h with
  | [a, b, c, d], _ => exact ⟨a, b, c, d, rfl⟩
theorem len2 {l : List AV} (h : l.length = 2) : ∃ a b, l = [a, b] := by
  match l, h with
  | [a, b], _ => exact ⟨a, b, rfl⟩
theorem cons_u8 {a b : Nat} {T T' : List AV} (h : a = b) (h' : T = T') : AV.u8 a :: T = AV.u8 b :: T' := by rw [h, h']
theorem u8s8 (x : Nat) (hx : x < 100000000) (T : List AV) : u8s (padD 8 x) ++ T = .u8 (48 + x / 10000 / 100 / 10 : Nat) :: .u8 (48 + x / 10000 / 100 % 10 : Nat) :: .u8 (48 + x / 10000 % 100 / 10 : Nat) :: .u8 (48 + x / 10000 % 100 % 10 : Nat) :: .u8 (48 + x % 10000 / 100 / 10 : Nat) :: .u8 (48 + x % 10000 / 100 % 10 : Nat) :: .u8 (48 + x % 10000 % 100 / 10 : Nat) :: .u8 (48 + x % 10000 % 100 % 10 : Nat) :: T := by
  rw [pad8]
  simp only [u8s, List.map_cons, List.map_nil, List.cons_append, List.nil_append, UInt8.toNat_ofNat']
  repeat (refine cons_u8 (by omega) ?_)
  rfl
theorem u8s4 (x : Nat) (hx : x < 10000) (T : List AV) : u8s (padD 4 x) ++ T = .u8 (48 + x / 100 / 10 : Nat) :: .u8 (48 + x / 100 % 10 : Nat) :: .u8 (48 + x % 100 / 10 : Nat) :: .u8 (48 + x % 100 % 10 : Nat) :: T := by
  rw [pad4]
  simp only [u8s, List.map_cons, List.map_nil, List.cons_append, List.nil_append, UInt8.toNat_ofNat']
  repeat (refine cons_u8 (by omega) ?_)
  rfl
theorem u8s2 (x : Nat) (hx : x < 100) (T : List AV) : u8s (padD 2 x) ++ T = .u8 (48 + x / 10 : Nat) :: .u8 (48 + x % 10 : Nat) :: T := by
  rw [pad2]
  simp only [u8s, List.map_cons, List.map_nil, List.cons_append, List.nil_append, UInt8.toNat_ofNat']
  repeat (refine cons_u8 (by omega) ?_)
  rfl
theorem pad_lt (k m v : Nat) (h : v < 10 ^ (m + k)) : v / 10 ^ k < 10 ^ m := Nat.div_lt_of_lt_mul (by rw [Nat.pow_add, Nat.mul_comm] at h; exact h)
theorem padD_mod : ∀ (k v : Nat), padD k (v % 10 ^ k) = padD k v
  | 0, _ => rfl
  | k + 1, v => by
    have e1 : v % 10 ^ (k + 1) / 10 = v / 10 % 10 ^ k := by rw [Nat.pow_succ, Nat.mul_comm]; exact Nat.mod_mul_right_div_self ..
    have e2 : v % 10 ^ (k + 1) % 10 = v % 10 := by rw [Nat.pow_succ, Nat.mul_comm]; exact Nat.mod_mul_right_mod ..
    rw [padD, e1, e2, padD_mod k, padD]
theorem pad_next (k m v : Nat) (dn L : List UInt8) (h : padD (m + k) v ++ dn = L) : padD m (v / 10 ^ k) ++ (padD k (v % 10 ^ k) ++ dn) = L := by
  rw [← h, padD_add, padD_mod, List.append_assoc]
end Go.Proofs.YtjdapkelojdefaaGreatDoor
