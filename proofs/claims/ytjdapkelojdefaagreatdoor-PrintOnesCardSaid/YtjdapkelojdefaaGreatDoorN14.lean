/- Part 14 of the proof: W8, W13, W14, W15, W16, W17, W18, W19, W24, V14, V16, V18, R13. -/
import Derived.Test.YtjdapkelojdefaaGreatDoorN7
import Derived.Test.YtjdapkelojdefaaGreatDoorN12
import Derived.Test.YtjdapkelojdefaaGreatDoorN11
import Derived.Test.YtjdapkelojdefaaGreatDoorN13
import Derived.Test.YtjdapkelojdefaaGreatDoorN8
import Derived.Test.YtjdapkelojdefaaGreatDoorN10
import Derived.Test.YtjdapkelojdefaaGreatDoorN4
import Derived.Test.YtjdapkelojdefaaGreatDoorN3
import GoSem.ClaimChange
import Derived.Below
import Derived.Carry
import Derived.Test.YtjdapkelojdefaaGreatDoorRows
import Derived.Test.YtjdapkelojdefaaGreatDoorN0
import Derived.WalkKit
import Derived.ProofKit
import Derived.OpenShut
import Derived.LaidMore
import Derived.Lay
import Derived.SevenTiedAt
import Derived.Stop.Joined

set_option linter.all false
set_option maxRecDepth 100000
set_option maxHeartbeats 1000000
open Go.V.Sg renaming set_same → zm, set_ne → zn, set_ne' → zo, del_ne → zp, del_ne' → zq
open Option renaming getD_some → zr
open Go.Cert renaming ne_of2 → zv, ne_ob → zw, lk → zx
open Go.V.VCalls renaming mono → zy
set_option linter.unusedSimpArgs false
set_option linter.unusedVariables false
namespace Go.Proofs.YtjdapkelojdefaaGreatDoor
open Go Go.V Go.Lex Go.Parse Go.Print
theorem r_name (s : By) (σ : Sg) : VCalls Tryz.prog 42 [.s (bs s)] σ (fun x σ' => x = .b (isNm s) ∧ σ' = σ) := by
  unfold isNm
  by_cases hs : s.length ≤ 16
  · have hrow := t69 s 101 [] isSmall σ (by omega) (fun c => t73 c σ)
    (refine vfun (fun _ => .no) mixed Tryz.func42 (by kernel_rfl) ?_; simp only [bodyOf, Tryz.f42, zr])
    repeat' (first | with_reducible rfl | exact trivial | exact .inr trivial | (with_reducible first | apply And.intro | apply vqx_step | apply vqm_step | refine vkp_free (by decide +kernel) ?_ | intro _) | refine zaY (j5 ui3 ui4 ui5 ui9 ui122) ?_ | ((first | ((with_reducible refine zy (hrow) ?_); rintro _ S ⟨rfl, rfl⟩) | ((with_reducible refine zy (t72 _ _) ?_); rintro _ S ⟨rfl, rfl⟩) | (refine vlo_app zx ?_) | (refine vst_app zx ?_)); (try refine zsY (j5 ui3 ui4 ui5 ui9 ui122) ?_)) | (with_reducible first | refine vfresh_set ?_ | refine vfresh_intro (fun _ _ => ?_) | refine vif_intro (fun _ => ?_) (fun _ => ?_)) | omega | refine ztY (j5 ui3 ui4 ui5 ui9 ui122) ?_ | fail)
    all_goals first | exact List.length_pos_iff.2 ‹_› | exact ⟨_, .refl _, b_eq (by simp_all <;> omega), rfl⟩
  · (refine vfun (fun _ => .no) mixed Tryz.func42 (by kernel_rfl) ?_; simp only [bodyOf, Tryz.f42, zr])
    repeat' (first | with_reducible rfl | exact trivial | exact .inr trivial | (with_reducible first | apply And.intro | apply vqx_step | apply vqm_step | refine vkp_free (by decide +kernel) ?_ | intro _) | refine zaY (j5 ui3 ui4 ui5 ui9 ui122) ?_ | ((first | ((with_reducible refine zy (t72 _ _) ?_); rintro _ S ⟨rfl, rfl⟩) | (refine vlo_app zx ?_) | (refine vst_app zx ?_)); (try refine zsY (j5 ui3 ui4 ui5 ui9 ui122) ?_)) | (with_reducible first | refine vfresh_set ?_ | refine vfresh_intro (fun _ _ => ?_) | refine vif_intro (fun _ => ?_) (fun _ => ?_)) | omega | refine ztY (j5 ui3 ui4 ui5 ui9 ui122) ?_ | fail)
    all_goals first | exact List.length_pos_iff.2 ‹_› | exact ⟨_, .refl _, b_eq (by simp_all <;> omega), rfl⟩ | (exfalso; omega)
theorem r_written (v : Vl) (σ : Sg) : VCalls Tryz.prog 41 [.agg [.i v.1, .i v.2.1, .s (bs v.2.2)]] σ (fun x σ' => x = .b (okV v) ∧ σ' = σ) := by
  obtain ⟨k, n, t⟩ := v
  have h5 := e5 k n t
  unfold okV
  simp only
  generalize rightV k n t = R at *
  (refine vfun (fun _ => .ro) mixed Tryz.func41 (by kernel_rfl) ?_; simp only [bodyOf, Tryz.f41, zr])
  repeat' (first | with_reducible rfl | exact trivial | exact .inr trivial | (with_reducible first | apply And.intro | apply vqx_step | apply vqm_step | refine vkp_free (by decide +kernel) ?_ | intro _) | refine zaY (j7 ui0 ui3 ui4 ui9 ui22 ui23 ui30) ?_ | ((first | ((with_reducible refine zy (h5 _) ?_); rintro _ S ⟨rfl, rfl⟩) | ((with_reducible refine zy (e5 _ _ _ _) ?_); rintro _ S ⟨rfl, rfl⟩) | (refine vlo_app zx ?_) | (refine vst_app zx ?_)); (try refine zsY (j7 ui0 ui3 ui4 ui9 ui22 ui23 ui30) ?_)) | (with_reducible first | refine vfresh_set ?_ | refine vfresh_intro (fun _ _ => ?_) | refine vif_intro (fun _ => ?_) (fun _ => ?_)) | omega | refine ztY (j7 ui0 ui3 ui4 ui9 ui22 ui23 ui30) ?_ | fail)
  all_goals exact ⟨_, .refl _, b_eq (by simp_all <;> omega), rfl⟩
theorem rts_any : ∀ l : List Ex, rts l = !(l.any fun e => !rt e)
  | [] => by rw [rts_nil]; rfl
  | e :: r => by rw [rts_cons, rts_any r, List.any_cons]; cases rt e <;> simp
theorem exsA_get' {l : List Ex} {k : Nat} (h : k < l.length) : (exsA l).getD k [] = exA l[k] := by
  induction l generalizing k with
  | nil => simp at h
  | cons e r ih =>
    rw [exsA_cons]
    cases k with
    | zero => rfl
    | succ k => exact ih (by simpa using h)
theorem r_index (l : List Ex) (f : FuncId) (p : Ex → Bool) (o : Own) (hl : l.length ≤ 9223372036854775807) (h : ∀ e ∈ l, ∀ σ, VCalls Tryz.prog f [.agg (exA e)] σ (fun x σ' => x = .b (p e) ∧ σ' = σ)) (σ : Sg) :
    VCalls Tryz.prog 102 [.sl o (exsA l), .fn f []] σ (fun x σ' => ∃ n : Int, (0 ≤ n ↔ l.any p = true) ∧ x = .i n ∧ σ' = σ) := by
  have hn := exsA_len l
  (refine vfun (fun _ => .no) mixed Tryz.func102 (by kernel_rfl) ?_; simp only [bodyOf, Tryz.f102, zr])
  repeat' (first | with_reducible rfl | exact trivial | exact .inr trivial | (with_reducible first | apply And.intro | apply vqx_step | apply vqm_step | refine vkp_free (by decide +kernel) ?_ | intro _) | refine zaY (j3 ui0 ui3 (j9 ui4 ui9 ui22 ui23 ui24 ui25 ui26 ui34 hn)) ?_ | ((first | (refine vlo_app zx ?_) | (refine vst_app zx ?_)); (try refine zsY (j3 ui0 ui3 (j9 ui4 ui9 ui22 ui23 ui24 ui25 ui26 ui34 hn)) ?_)) | (with_reducible first | refine vfresh_set ?_ | refine vfresh_intro (fun _ _ => ?_) | refine vif_intro (fun _ => ?_) (fun _ => ?_)) | omega | refine ztY (j3 ui0 ui3 (j9 ui4 ui9 ui22 ui23 ui24 ui25 ui26 ui34 hn)) ?_ | fail)
  refine VW.loop3 (0 : Nat) () () (fun k _ _ => k ≤ l.length ∧ ∀ j (hj : j < l.length), j < k → p l[j] = false) (fun k _ _ => [(0, .sl o (exsA l)), (1, .fn f []), (6, .sl o (exsA l)), (7, .i l.length), (8, .i k)]) (fun _ _ _ => σ) (fun k _ _ => l.length - k) ⟨Nat.zero_le _, fun j hj h => by omega⟩ (.refl _) ?_ ?_
  · simp only [vO, vQ, ↓vP, vE, vS, vB, vL, vF, vM, vN, vbs_full, Nat.reduceEqDiff, Nat.reduceAdd, Nat.reduceLeDiff, ne_eq, not_false_eq_true, Nat.reduceMul, Nat.reduceSub, Int.toNat_zero, Int.reduceToNat, vT]
    all_goals rfl
  rintro k _ _ ⟨hk, hp⟩
  rcases Nat.lt_or_ge k l.length with hk2 | hk2
  · have hg := exsA_get' hk2
    have hc := h l[k] (List.getElem_mem hk2)
    have hel := exA_len l[k]
    have het := exA_take l[k]
    have hpk : p l[k] = true → l.any p = true := fun hh => List.any_eq_true.2 ⟨_, List.getElem_mem hk2, hh⟩
    have hpn : p l[k] = false → ∀ j (hj : j < l.length), j < k + 1 → p l[j] = false := fun hh j hj hjk => by
      rcases Nat.lt_or_ge j k with h' | h'
      · exact hp j hj h'
      · have : j = k := by omega
        subst this; exact hh
    generalize p l[k] = b at *
    generalize exA l[k] = E at *
    repeat' (first | with_reducible rfl | exact trivial | exact .inr trivial | (with_reducible first | apply And.intro | apply vqx_step | apply vqm_step | refine vkp_free (by decide +kernel) ?_ | intro _) | refine zaY (j6 ui0 ui3 ui4 ui9 ui22 (j9 ui23 ui24 ui25 ui26 ui34 hn hg hel het)) ?_ | ((first | ((with_reducible refine zy (hc _) ?_); rintro _ S ⟨rfl, rfl⟩) | (refine vlo_app zx ?_) | (refine vst_app zx ?_)); (try refine zsY (j6 ui0 ui3 ui4 ui9 ui22 (j9 ui23 ui24 ui25 ui26 ui34 hn hg hel het)) ?_)) | (with_reducible first | refine vfresh_set ?_ | refine vfresh_intro (fun _ _ => ?_) | refine vif_intro (fun _ => ?_) (fun _ => ?_)) | omega | refine ztY (j6 ui0 ui3 ui4 ui9 ui22 (j9 ui23 ui24 ui25 ui26 ui34 hn hg hel het)) ?_ | fail)
    · exact ⟨_, .refl _, k, ⟨fun _ => hpk ‹_›, fun _ => by omega⟩, rfl, rfl⟩
    · exact ⟨k + 1, (), (), ⟨⟨hk2, hpn (by simpa using ‹¬ b = true›)⟩, by omega⟩, .refl _, rfl⟩
  · repeat' (first | with_reducible rfl | exact trivial | exact .inr trivial | (with_reducible first | apply And.intro | apply vqx_step | apply vqm_step | refine vkp_free (by decide +kernel) ?_ | intro _) | refine zaY (j3 ui0 ui3 (j9 ui4 ui9 ui22 ui23 ui24 ui25 ui26 ui34 hn)) ?_ | ((first | (refine vlo_app zx ?_) | (refine vst_app zx ?_)); (try refine zsY (j3 ui0 ui3 (j9 ui4 ui9 ui22 ui23 ui24 ui25 ui26 ui34 hn)) ?_)) | (with_reducible first | refine vfresh_set ?_ | refine vfresh_intro (fun _ _ => ?_) | refine vif_intro (fun _ => ?_) (fun _ => ?_)) | omega | refine ztY (j3 ui0 ui3 (j9 ui4 ui9 ui22 ui23 ui24 ui25 ui26 ui34 hn)) ?_ | fail)
    refine ⟨σ, .refl σ, -1, ?_, rfl, rfl⟩
    refine ⟨fun h => by omega, fun h => ?_⟩
    obtain ⟨e, he, hpe⟩ := List.any_eq_true.1 h
    obtain ⟨j, hj, rfl⟩ := List.getElem_of_mem he
    rw [hp j hj (by omega)] at hpe
    cases hpe
theorem r_contains (l : List Ex) (f : FuncId) (p : Ex → Bool) (o : Own) (hl : l.length ≤ 9223372036854775807) (h : ∀ e ∈ l, ∀ σ, VCalls Tryz.prog f [.agg (exA e)] σ (fun x σ' => x = .b (p e) ∧ σ' = σ)) (σ : Sg) :
    VCalls Tryz.prog 43 [.sl o (exsA l), .fn f []] σ (fun x σ' => x = .b (l.any p) ∧ σ' = σ) := by
  have hi := r_index l f p o hl h
  generalize l.any p = b at *
  (refine vfun (fun _ => .no) mixed Tryz.func43 (by kernel_rfl) ?_; simp only [bodyOf, Tryz.f43, zr])
  repeat' (first | with_reducible rfl | exact trivial | exact .inr trivial | (with_reducible first | apply And.intro | apply vqx_step | apply vqm_step | refine vkp_free (by decide +kernel) ?_ | intro _) | refine zaY (j9 ui3 ui4 ui9 ui22 ui23 ui24 ui25 ui26 ui34) ?_ | ((first | ((with_reducible refine zy (hi _) ?_); rintro _ S ⟨n, hn, rfl, rfl⟩) | (refine vlo_app zx ?_) | (refine vst_app zx ?_)); (try refine zsY (j9 ui3 ui4 ui9 ui22 ui23 ui24 ui25 ui26 ui34) ?_)) | (with_reducible first | refine vfresh_set ?_ | refine vfresh_intro (fun _ _ => ?_) | refine vif_intro (fun _ => ?_) (fun _ => ?_)) | omega | refine ztY (j9 ui3 ui4 ui9 ui22 ui23 ui24 ui25 ui26 ui34) ?_ | fail)
  all_goals exact ⟨_, .refl _, b_eq (by simpa using hn), rfl⟩
theorem r_wrong (e : Ex) (h : ∀ σ, VCalls Tryz.prog 20 [.agg (exA e)] σ (fun x σ' => x = .b (rt e) ∧ σ' = σ)) (σ : Sg) : VCalls Tryz.prog 44 [.agg (exA e)] σ (fun x σ' => x = .b (!rt e) ∧ σ' = σ) := by
  have hel := exA_len e
  have het := exA_take e
  generalize exA e = E at *
  generalize rt e = b at *
  (refine vfun (fun _ => .ro) mixed Tryz.func44 (by kernel_rfl) ?_; simp only [bodyOf, Tryz.f44, zr])
  repeat' (first | with_reducible rfl | exact trivial | exact .inr trivial | (with_reducible first | apply And.intro | apply vqx_step | apply vqm_step | refine vkp_free (by decide +kernel) ?_ | intro _) | refine zaY (j3 ui0 ui3 (j9 ui4 ui9 ui22 ui23 ui24 ui25 ui26 hel het)) ?_ | ((first | ((with_reducible refine zy (h _) ?_); rintro _ S ⟨rfl, rfl⟩) | ((with_reducible refine zy (r_right _ (by assumption) _) ?_); rintro _ S ⟨rfl, rfl⟩) | (refine vlo_app zx ?_) | (refine vst_app zx ?_)); (try refine zsY (j3 ui0 ui3 (j9 ui4 ui9 ui22 ui23 ui24 ui25 ui26 hel het)) ?_)) | (with_reducible first | refine vfresh_set ?_ | refine vfresh_intro (fun _ _ => ?_) | refine vif_intro (fun _ => ?_) (fun _ => ?_)) | omega | refine ztY (j3 ui0 ui3 (j9 ui4 ui9 ui22 ui23 ui24 ui25 ui26 hel het)) ?_ | fail)
  all_goals first | exact ⟨_, .refl _, rfl⟩ | exact ⟨_, .refl _, rfl, rfl⟩
theorem r_right (e : Ex) (hL : Lim e) : ∀ σ, VCalls Tryz.prog 20 [.agg (exA e)] σ (fun x σ' => x = .b (rt e) ∧ σ' = σ) := by
  induction hL with
  | mk k op t n v l hl hr hall ih =>
    intro σ
    have hcon := r_contains l 44 (fun e => !rt e) .any (by omega) (fun e he σ => r_wrong e (ih e he) σ)
    have hra := rts_any l
    rw [exA_mk, rt_mk]
    have hn := exsA_len l
    clear hr hall ih
    have hwr := r_written v
    generalize (l.any fun e => !rt e) = b at *
    rw [hra]
    generalize exsA l = LL at *
    unfold rtN
    generalize hov : okV v = ov at *
    obtain ⟨v1, v2, v3⟩ := v
    simp only at hwr
    by_cases h1 : k = 1
    · subst h1
      (refine vfun (fun k => if k = 1 then .ro else .no) mixed Tryz.func20 (by kernel_rfl) ?_; simp only [bodyOf, Tryz.f20, zr])
      repeat' (first | with_reducible rfl | exact trivial | exact .inr trivial | (with_reducible first | apply And.intro | apply vqx_step | apply vqm_step | refine vkp_free (by decide +kernel) ?_ | intro _) | ((with_reducible refine .dms (fun x => False) [(0, false), (1, false), (2, false), (3, false), (4, false), (5, true), (6, true), (7, true), (8, true)] (by decide) (by decide +kernel) ?_); (refine zsR (j4 ui0 ui3 ui4 (j9 ui9 ui22 ui23 ui24 ui25 ui26 ui34 hn @eq23)) ?_)) | ((with_reducible refine .dm (fun x => False) [(0, false), (1, false), (2, false), (3, false), (4, false), (5, true), (6, true), (7, true), (8, true)] (by decide) (by decide +kernel) ?_); (refine zsR (j4 ui0 ui3 ui4 (j9 ui9 ui22 ui23 ui24 ui25 ui26 ui34 hn @eq23)) ?_)) | refine zaR (j4 ui0 ui3 ui4 (j9 ui9 ui22 ui23 ui24 ui25 ui26 ui34 hn @eq23)) ?_ | refine zkN (j4 ui0 ui3 ui4 (j9 ui9 ui22 ui23 ui24 ui25 ui26 ui34 hn @eq23)) ?_ | ((first | (refine vkp_keep (by intro β h; first | (rcases h with h | h <;> subst h <;> (simp (disch := first | assumption | (apply zv; assumption; assumption) | (apply zw; assumption; assumption; (intro e; cases e; done)) | omega) only [zm, zn, zo, zp, zq])) | (subst h; (simp (disch := first | assumption | (apply zv; assumption; assumption) | (apply zw; assumption; assumption; (intro e; cases e; done)) | omega) only [zm, zn, zo, zp, zq]))) ?_) | ((with_reducible refine zy (hwr _) ?_); rintro _ S ⟨rfl, rfl⟩) | ((with_reducible refine zy (hcon _) ?_); rintro _ S ⟨rfl, rfl⟩) | ((with_reducible refine zy (r_written _ _) ?_); rintro _ S ⟨rfl, rfl⟩) | ((with_reducible refine zy (r_name _ _) ?_); rintro _ S ⟨rfl, rfl⟩) | (refine vlo_app zx ?_) | (refine vst_app zx ?_)); (try refine zsR (j4 ui0 ui3 ui4 (j9 ui9 ui22 ui23 ui24 ui25 ui26 ui34 hn @eq23)) ?_)) | refine zmR (j4 ui0 ui3 ui4 (j9 ui9 ui22 ui23 ui24 ui25 ui26 ui34 hn @eq23)) ?_ | (with_reducible first | refine vfresh_set ?_ | refine vfresh_intro (fun _ _ => ?_) | refine vif_intro (fun _ => ?_) (fun _ => ?_)) | omega | refine ztR (j4 ui0 ui3 ui4 (j9 ui9 ui22 ui23 ui24 ui25 ui26 ui34 hn @eq23)) ?_ | fail)
      all_goals exact ⟨σ, (by (exact Go.V.zu)), b_eq (by simp_all <;> omega), rfl⟩
    by_cases h2 : k = 2
    · subst h2
      rw [if_neg h1]
      have hnn : isNm [] = false := rfl
      generalize hq1 : isNm n = bn at *
      generalize hq2 : isNm t = bt at *
      have hN1 : ∀ σ, VCalls Tryz.prog 42 [.s (bs n)] σ (fun x σ' => x = .b bn ∧ σ' = σ) := fun σ => by rw [← hq1]; exact r_name n σ
      have hN2 : ∀ σ, VCalls Tryz.prog 42 [.s (bs t)] σ (fun x σ' => x = .b bt ∧ σ' = σ) := fun σ => by rw [← hq2]; exact r_name t σ
      (refine vfun (fun k => if k = 1 then .ro else .no) mixed Tryz.func20 (by kernel_rfl) ?_; simp only [bodyOf, Tryz.f20, zr])
      repeat' (first | with_reducible rfl | exact trivial | exact .inr trivial | (with_reducible first | apply And.intro | apply vqx_step | apply vqm_step | refine vkp_free (by decide +kernel) ?_ | intro _) | ((with_reducible refine .dms (fun x => False) [(0, false), (1, false), (2, false), (3, false), (4, false), (5, true), (6, true), (7, true), (8, true)] (by decide) (by decide +kernel) ?_); (refine zsR (j4 ui0 ui3 ui4 (j9 ui9 ui22 ui23 ui24 ui25 ui26 ui34 hn @eq23)) ?_)) | ((with_reducible refine .dm (fun x => False) [(0, false), (1, false), (2, false), (3, false), (4, false), (5, true), (6, true), (7, true), (8, true)] (by decide) (by decide +kernel) ?_); (refine zsR (j4 ui0 ui3 ui4 (j9 ui9 ui22 ui23 ui24 ui25 ui26 ui34 hn @eq23)) ?_)) | refine zaR (j4 ui0 ui3 ui4 (j9 ui9 ui22 ui23 ui24 ui25 ui26 ui34 hn @eq23)) ?_ | refine zkN (j4 ui0 ui3 ui4 (j9 ui9 ui22 ui23 ui24 ui25 ui26 ui34 hn @eq23)) ?_ | ((first | (refine vkp_keep (by intro β h; first | (rcases h with h | h <;> subst h <;> (simp (disch := first | assumption | (apply zv; assumption; assumption) | (apply zw; assumption; assumption; (intro e; cases e; done)) | omega) only [zm, zn, zo, zp, zq])) | (subst h; (simp (disch := first | assumption | (apply zv; assumption; assumption) | (apply zw; assumption; assumption; (intro e; cases e; done)) | omega) only [zm, zn, zo, zp, zq]))) ?_) | ((with_reducible refine zy (hN1 _) ?_); rintro _ S ⟨rfl, rfl⟩) | ((with_reducible refine zy (hN2 _) ?_); rintro _ S ⟨rfl, rfl⟩) | ((with_reducible refine zy (hcon _) ?_); rintro _ S ⟨rfl, rfl⟩) | ((with_reducible refine zy (r_written _ _) ?_); rintro _ S ⟨rfl, rfl⟩) | ((with_reducible refine zy (r_name _ _) ?_); rintro _ S ⟨rfl, rfl⟩) | (refine vlo_app zx ?_) | (refine vst_app zx ?_)); (try refine zsR (j4 ui0 ui3 ui4 (j9 ui9 ui22 ui23 ui24 ui25 ui26 ui34 hn @eq23)) ?_)) | refine zmR (j4 ui0 ui3 ui4 (j9 ui9 ui22 ui23 ui24 ui25 ui26 ui34 hn @eq23)) ?_ | (with_reducible first | refine vfresh_set ?_ | refine vfresh_intro (fun _ _ => ?_) | refine vif_intro (fun _ => ?_) (fun _ => ?_)) | omega | refine ztR (j4 ui0 ui3 ui4 (j9 ui9 ui22 ui23 ui24 ui25 ui26 ui34 hn @eq23)) ?_ | fail)
      all_goals exact ⟨σ, (by (exact Go.V.zu)), b_eq (by simp_all <;> omega), rfl⟩
    by_cases h3 : k = 3
    · subst h3
      rw [if_neg h1, if_neg h2]
      (refine vfun (fun k => if k = 1 then .ro else .no) mixed Tryz.func20 (by kernel_rfl) ?_; simp only [bodyOf, Tryz.f20, zr])
      repeat' (first | with_reducible rfl | exact trivial | exact .inr trivial | (with_reducible first | apply And.intro | apply vqx_step | apply vqm_step | refine vkp_free (by decide +kernel) ?_ | intro _) | ((with_reducible refine .dms (fun x => False) [(0, false), (1, false), (2, false), (3, false), (4, false), (5, true), (6, true), (7, true), (8, true)] (by decide) (by decide +kernel) ?_); (refine zsR (j4 ui0 ui3 ui4 (j9 ui9 ui22 ui23 ui24 ui25 ui26 ui34 hn @eq23)) ?_)) | ((with_reducible refine .dm (fun x => False) [(0, false), (1, false), (2, false), (3, false), (4, false), (5, true), (6, true), (7, true), (8, true)] (by decide) (by decide +kernel) ?_); (refine zsR (j4 ui0 ui3 ui4 (j9 ui9 ui22 ui23 ui24 ui25 ui26 ui34 hn @eq23)) ?_)) | refine zaR (j4 ui0 ui3 ui4 (j9 ui9 ui22 ui23 ui24 ui25 ui26 ui34 hn @eq23)) ?_ | refine zkN (j4 ui0 ui3 ui4 (j9 ui9 ui22 ui23 ui24 ui25 ui26 ui34 hn @eq23)) ?_ | ((first | (refine vkp_keep (by intro β h; first | (rcases h with h | h <;> subst h <;> (simp (disch := first | assumption | (apply zv; assumption; assumption) | (apply zw; assumption; assumption; (intro e; cases e; done)) | omega) only [zm, zn, zo, zp, zq])) | (subst h; (simp (disch := first | assumption | (apply zv; assumption; assumption) | (apply zw; assumption; assumption; (intro e; cases e; done)) | omega) only [zm, zn, zo, zp, zq]))) ?_) | ((with_reducible refine zy (hcon _) ?_); rintro _ S ⟨rfl, rfl⟩) | ((with_reducible refine zy (r_written _ _) ?_); rintro _ S ⟨rfl, rfl⟩) | ((with_reducible refine zy (r_name _ _) ?_); rintro _ S ⟨rfl, rfl⟩) | (refine vlo_app zx ?_) | (refine vst_app zx ?_)); (try refine zsR (j4 ui0 ui3 ui4 (j9 ui9 ui22 ui23 ui24 ui25 ui26 ui34 hn @eq23)) ?_)) | refine zmR (j4 ui0 ui3 ui4 (j9 ui9 ui22 ui23 ui24 ui25 ui26 ui34 hn @eq23)) ?_ | (with_reducible first | refine vfresh_set ?_ | refine vfresh_intro (fun _ _ => ?_) | refine vif_intro (fun _ => ?_) (fun _ => ?_)) | omega | refine ztR (j4 ui0 ui3 ui4 (j9 ui9 ui22 ui23 ui24 ui25 ui26 ui34 hn @eq23)) ?_ | fail)
      all_goals exact ⟨σ, (by (exact Go.V.zu)), b_eq (by simp_all <;> omega), rfl⟩
    by_cases h4 : k = 4 ∨ k = 5 ∨ k = 6
    · rw [if_neg h1, if_neg h2, if_neg h3, if_pos h4]
      (refine vfun (fun k => if k = 1 then .ro else .no) mixed Tryz.func20 (by kernel_rfl) ?_; simp only [bodyOf, Tryz.f20, zr])
      repeat' (first | with_reducible rfl | exact trivial | exact .inr trivial | (with_reducible first | apply And.intro | apply vqx_step | apply vqm_step | refine vkp_free (by decide +kernel) ?_ | intro _) | ((with_reducible refine .dms (fun x => False) [(0, false), (1, false), (2, false), (3, false), (4, false), (5, true), (6, true), (7, true), (8, true)] (by decide) (by decide +kernel) ?_); (refine zsR (j4 ui0 ui3 ui4 (j9 ui9 ui22 ui23 ui24 ui25 ui26 ui34 hn @eq23)) ?_)) | ((with_reducible refine .dm (fun x => False) [(0, false), (1, false), (2, false), (3, false), (4, false), (5, true), (6, true), (7, true), (8, true)] (by decide) (by decide +kernel) ?_); (refine zsR (j4 ui0 ui3 ui4 (j9 ui9 ui22 ui23 ui24 ui25 ui26 ui34 hn @eq23)) ?_)) | refine zaR (j4 ui0 ui3 ui4 (j9 ui9 ui22 ui23 ui24 ui25 ui26 ui34 hn @eq23)) ?_ | refine zkN (j4 ui0 ui3 ui4 (j9 ui9 ui22 ui23 ui24 ui25 ui26 ui34 hn @eq23)) ?_ | ((first | (refine vkp_keep (by intro β h; first | (rcases h with h | h <;> subst h <;> (simp (disch := first | assumption | (apply zv; assumption; assumption) | (apply zw; assumption; assumption; (intro e; cases e; done)) | omega) only [zm, zn, zo, zp, zq])) | (subst h; (simp (disch := first | assumption | (apply zv; assumption; assumption) | (apply zw; assumption; assumption; (intro e; cases e; done)) | omega) only [zm, zn, zo, zp, zq]))) ?_) | ((with_reducible refine zy (hcon _) ?_); rintro _ S ⟨rfl, rfl⟩) | ((with_reducible refine zy (r_written _ _) ?_); rintro _ S ⟨rfl, rfl⟩) | ((with_reducible refine zy (r_name _ _) ?_); rintro _ S ⟨rfl, rfl⟩) | (refine vlo_app zx ?_) | (refine vst_app zx ?_)); (try refine zsR (j4 ui0 ui3 ui4 (j9 ui9 ui22 ui23 ui24 ui25 ui26 ui34 hn @eq23)) ?_)) | refine zmR (j4 ui0 ui3 ui4 (j9 ui9 ui22 ui23 ui24 ui25 ui26 ui34 hn @eq23)) ?_ | (with_reducible first | refine vfresh_set ?_ | refine vfresh_intro (fun _ _ => ?_) | refine vif_intro (fun _ => ?_) (fun _ => ?_)) | omega | refine ztR (j4 ui0 ui3 ui4 (j9 ui9 ui22 ui23 ui24 ui25 ui26 ui34 hn @eq23)) ?_ | fail)
      all_goals exact ⟨σ, (by (exact Go.V.zu)), b_eq (by simp_all <;> omega), rfl⟩
    · rw [if_neg h1, if_neg h2, if_neg h3, if_neg h4]
      (refine vfun (fun k => if k = 1 then .ro else .no) mixed Tryz.func20 (by kernel_rfl) ?_; simp only [bodyOf, Tryz.f20, zr])
      repeat' (first | with_reducible rfl | exact trivial | exact .inr trivial | (with_reducible first | apply And.intro | apply vqx_step | apply vqm_step | refine vkp_free (by decide +kernel) ?_ | intro _) | ((with_reducible refine .dms (fun x => False) [(0, false), (1, false), (2, false), (3, false), (4, false), (5, true), (6, true), (7, true), (8, true)] (by decide) (by decide +kernel) ?_); (refine zsR (j4 ui0 ui3 ui4 (j9 ui9 ui22 ui23 ui24 ui25 ui26 ui34 hn @eq23)) ?_)) | ((with_reducible refine .dm (fun x => False) [(0, false), (1, false), (2, false), (3, false), (4, false), (5, true), (6, true), (7, true), (8, true)] (by decide) (by decide +kernel) ?_); (refine zsR (j4 ui0 ui3 ui4 (j9 ui9 ui22 ui23 ui24 ui25 ui26 ui34 hn @eq23)) ?_)) | refine zaR (j4 ui0 ui3 ui4 (j9 ui9 ui22 ui23 ui24 ui25 ui26 ui34 hn @eq23)) ?_ | refine zkN (j4 ui0 ui3 ui4 (j9 ui9 ui22 ui23 ui24 ui25 ui26 ui34 hn @eq23)) ?_ | ((first | (refine vkp_keep (by intro β h; first | (rcases h with h | h <;> subst h <;> (simp (disch := first | assumption | (apply zv; assumption; assumption) | (apply zw; assumption; assumption; (intro e; cases e; done)) | omega) only [zm, zn, zo, zp, zq])) | (subst h; (simp (disch := first | assumption | (apply zv; assumption; assumption) | (apply zw; assumption; assumption; (intro e; cases e; done)) | omega) only [zm, zn, zo, zp, zq]))) ?_) | ((with_reducible refine zy (hcon _) ?_); rintro _ S ⟨rfl, rfl⟩) | ((with_reducible refine zy (r_written _ _) ?_); rintro _ S ⟨rfl, rfl⟩) | ((with_reducible refine zy (r_name _ _) ?_); rintro _ S ⟨rfl, rfl⟩) | (refine vlo_app zx ?_) | (refine vst_app zx ?_)); (try refine zsR (j4 ui0 ui3 ui4 (j9 ui9 ui22 ui23 ui24 ui25 ui26 ui34 hn @eq23)) ?_)) | refine zmR (j4 ui0 ui3 ui4 (j9 ui9 ui22 ui23 ui24 ui25 ui26 ui34 hn @eq23)) ?_ | (with_reducible first | refine vfresh_set ?_ | refine vfresh_intro (fun _ _ => ?_) | refine vif_intro (fun _ => ?_) (fun _ => ?_)) | omega | refine ztR (j4 ui0 ui3 ui4 (j9 ui9 ui22 ui23 ui24 ui25 ui26 ui34 hn @eq23)) ?_ | fail)
      all_goals exact ⟨σ, (by (exact Go.V.zu)), b_eq (by simp_all <;> omega), rfl⟩
end Go.Proofs.YtjdapkelojdefaaGreatDoor

set_option linter.unusedSimpArgs false
set_option linter.unusedVariables false
namespace Go.Proofs.YtjdapkelojdefaaGreatDoor
open Go Go.V Go.Lex Go.Parse Go.Print
theorem good_wr {t : Tk} (h : GoodT t) : WrOK t := by
  obtain ⟨k, s, n, a⟩ := t
  rcases h with ⟨rfl, h1, rfl⟩ | ⟨rfl, h1, rfl⟩ | ⟨rfl, rfl, h1⟩ | ⟨rfl, h1, rfl⟩ | ⟨rfl, h1, rfl⟩
  · have h2 : s.length ≤ 16 := (isNm_iff h1).2.1
    exact ⟨by show 0 < _; omega, fun h => (by cases h), by show s.length ≤ 2000; omega⟩
  · have h2 : s.length ≤ 16 := words_len s (known_mem h1)
    exact ⟨by show 0 < _; omega, fun h => (by cases h), by show s.length ≤ 2000; omega⟩
  · have h2 : n ≤ 9223372036854775807 := h1
    exact ⟨by show n < _; omega, fun h => (by cases h), by show ([] : By).length ≤ 2000; simp⟩
  · have h2 : s.length ≤ 40 := h1
    exact ⟨by show 0 < _; omega, fun h => h2, by show s.length ≤ 2000; omega⟩
  · have h2 : s.length ≤ 2 := signs_len s h1
    exact ⟨by show 0 < _; omega, fun h => (by cases h), by show s.length ≤ 2000; omega⟩
theorem w_end (B B' : Sg) (ω τ : Nat) (l : List Tk) (d : Int) (m : Nat) (hsub : B'.sub (WS B ω τ l d m)) (hg : ∀ x ∈ l, GoodT x) (hl : l.length ≤ 2 ^ 30) : VCalls Tryz.prog 22 [.ref ω 0] (WS B ω τ l d m) (fun x σ' => x = .tup [.s (bs (fin l m).1), .i (fin l m).2] ∧ σ' = B') := by
  have hwl := writeT_len hg
  have hW := j_write l (.tok τ 4) (fun x hx => good_wr (hg x hx)) (by omega) (by omega)
  unfold fin
  (refine vfun (fun _ => .no) mixed Tryz.func22 (by kernel_rfl) ?_; simp only [bodyOf, Tryz.f22, zr])
  repeat' (first | with_reducible rfl | exact trivial | exact .inr trivial | (with_reducible first | apply And.intro | apply vqx_step | apply vqm_step | refine vkp_free (by decide +kernel) ?_ | intro _) | refine zaY (j4 ui0 ui3 ui4 (j9 ui9 ui30 ui55 ui56 ui57 ui58 ui59 ui101 ui102)) ?_ | ((first | ((with_reducible refine zy (hW _) ?_); rintro _ S ⟨rfl, rfl⟩) | ((with_reducible refine zy (j_write _ _ (by assumption) (by assumption) (by assumption) _) ?_); rintro _ S ⟨rfl, rfl⟩) | (refine vlo_app zx ?_) | (refine vst_app zx ?_)); (try refine zsY (j4 ui0 ui3 ui4 (j9 ui9 ui30 ui55 ui56 ui57 ui58 ui59 ui101 ui102)) ?_)) | (with_reducible first | refine vfresh_set ?_ | refine vfresh_intro (fun _ _ => ?_) | refine vif_intro (fun _ => ?_) (fun _ => ?_)) | omega | refine ztY (j4 ui0 ui3 ui4 (j9 ui9 ui30 ui55 ui56 ui57 ui58 ui59 ui101 ui102)) ?_ | fail)
  · exact ⟨B', hsub, by rw [if_pos (by omega)], rfl⟩
  · exact ⟨B', hsub, by rw [if_neg (by omega), if_pos (by omega)], rfl⟩
  · exact ⟨B', hsub, by rw [if_neg (by omega), if_neg (by omega)], rfl⟩
theorem w_Expr (e : Ex) (hL : Lim e) (hlen : rt e = true → (toTr e).tk.length ≤ 2 ^ 30) (σ : Sg) : VCalls Tryz.prog 11 [.agg (exA e)] σ (fun x σ' => x = .tup [.s (bs (exprR e).1), .i (exprR e).2] ∧ σ' = σ) := by
  have hel := exA_len e
  have het := exA_take e
  have hr := r_right e hL
  unfold exprR
  cases hb : rt e with
  | false =>
    rw [hb] at hr
    generalize exA e = E at *
    (refine vfun (fun k => if k = 1 then .ro else .no) mixed Tryz.func11 (by kernel_rfl) ?_; simp only [bodyOf, Tryz.f11, zr])
    repeat' (first | with_reducible rfl | exact trivial | exact .inr trivial | (with_reducible first | apply And.intro | apply vqx_step | apply vqm_step | refine vkp_free (by decide +kernel) ?_ | intro _) | refine zaY (j4 ui0 ui3 ui4 (j9 ui9 ui22 ui23 ui24 ui25 ui26 ui30 ui31 (j9 ui55 ui56 ui57 ui58 ui59 ui101 ui102 hel het))) ?_ | ((first | ((with_reducible refine zy (hr _) ?_); rintro _ S ⟨rfl, rfl⟩) | ((with_reducible refine zy (r_right _ (by assumption) _) ?_); rintro _ S ⟨rfl, rfl⟩) | (refine vlo_app zx ?_) | (refine vst_app zx ?_)); (try refine zsY (j4 ui0 ui3 ui4 (j9 ui9 ui22 ui23 ui24 ui25 ui26 ui30 ui31 (j9 ui55 ui56 ui57 ui58 ui59 ui101 ui102 hel het))) ?_)) | (with_reducible first | refine vfresh_set ?_ | refine vfresh_intro (fun _ _ => ?_) | refine vif_intro (fun _ => ?_) (fun _ => ?_)) | omega | refine ztY (j4 ui0 ui3 ui4 (j9 ui9 ui22 ui23 ui24 ui25 ui26 ui30 ui31 (j9 ui55 ui56 ui57 ui58 ui59 ui101 ui102 hel het))) ?_ | fail)
    all_goals exact ⟨_, .refl _, rfl⟩
  | true =>
    rw [hb] at hr
    obtain ⟨q1, q2⟩ := toTr_ok e hb
    have hlen := hlen hb
    have hrg := lim_rg (toTr e) (by rw [q1]; exact hL)
    have hX : Cx (toTr e) := cx_all (toTr e) q2 hrg
    have hdp := dp_le (toTr e)
    have hgd := tk_good (toTr e) q2 hrg
    unfold Cx Wr at hX
    rw [q1] at hX
    generalize (toTr e).tk = TT at *
    generalize (toTr e).dp = D at *
    generalize exA e = E at *
    have hX0 : ∀ (S : Sg) (ω : Nat), S ω = some (.cells 59 [.sl .nil [], .i 0, .i 0]) → VCalls Tryz.prog 21 [.ref ω 0, .agg E] S (fun x σ' => x = .tup [] ∧ ∃ τ', okS S ω τ' ∧ σ' = WS S ω τ' TT 0 (D : Nat)) := fun S ω hS => by
      refine VCalls.tok0 (e := 102) 0 4 hS rfl (fun τ hτ hne => ?_)
      have := hX S ω τ [] 0 0 ⟨hτ, hne⟩ (by omega) (by omega) (by omega) (by omega) (by simp; omega)
      rw [List.nil_append] at this
      refine zy this (fun x σ' hx => ?_)
      obtain ⟨rfl, τ', ok, rfl⟩ := hx
      exact ⟨rfl, τ', ok, WS_eq rfl rfl (by omega)⟩
    (refine vfun (fun k => if k = 1 then .ro else .no) mixed Tryz.func11 (by kernel_rfl) ?_; simp only [bodyOf, Tryz.f11, zr])
    repeat' (first | with_reducible rfl | exact trivial | exact .inr trivial | (with_reducible first | apply And.intro | apply vqx_step | apply vqm_step | refine vkp_free (by decide +kernel) ?_ | intro _) | refine zaY (j4 ui0 ui3 ui4 (j9 ui9 ui22 ui23 ui24 ui25 ui26 ui30 ui31 (j9 ui55 ui56 ui57 ui58 ui59 ui101 ui102 hel het))) ?_ | ((first | ((with_reducible refine zy (hr _) ?_); rintro _ S ⟨rfl, rfl⟩) | ((with_reducible refine zy (hX0 _ _ (by first | assumption | ((simp (disch := first | assumption | (apply zv; assumption; assumption) | (apply zw; assumption; assumption; (intro e; cases e; done)) | omega) only [zm, zn, zo, zp, zq]); first | done | rfl | assumption))) ?_); rintro _ S ⟨rfl, τ1, hok, rfl⟩) | ((with_reducible refine zy (r_right _ (by assumption) _) ?_); rintro _ S ⟨rfl, rfl⟩) | (refine vlo_app zx ?_) | (refine vst_app zx ?_)); (try refine zsY (j4 ui0 ui3 ui4 (j9 ui9 ui22 ui23 ui24 ui25 ui26 ui30 ui31 (j9 ui55 ui56 ui57 ui58 ui59 ui101 ui102 hel het))) ?_)) | (with_reducible first | refine vfresh_set ?_ | refine vfresh_intro (fun _ _ => ?_) | refine vif_intro (fun _ => ?_) (fun _ => ?_)) | omega | refine ztY (j4 ui0 ui3 ui4 (j9 ui9 ui22 ui23 ui24 ui25 ui26 ui30 ui31 (j9 ui55 ui56 ui57 ui58 ui59 ui101 ui102 hel het))) ?_ | fail)
    rename_i ω hω
    obtain ⟨f1, n1⟩ := hok
    have f1 := (Sg.none_set f1).2
    refine zy (w_end _ S ω τ1 TT 0 D ?_ hgd hlen) ?_
    · (exact Go.V.zu)
    rintro _ S2 ⟨rfl, rfl⟩
    simp only [vO, vQ, ↓vP, vE, vS, vB, vL, vF, vM, vN, vbs_full, Nat.reduceEqDiff, Nat.reduceAdd, Nat.reduceLeDiff, ne_eq, not_false_eq_true, Nat.reduceMul, Nat.reduceSub, Int.toNat_zero, Int.reduceToNat, vT]
    repeat' (first | with_reducible rfl | exact trivial | exact .inr trivial | (with_reducible first | apply And.intro | apply vqx_step | apply vqm_step | refine vkp_free (by decide +kernel) ?_ | intro _) | refine zaY (j2 ui0 (j9 ui3 ui4 ui9 ui22 ui23 ui24 ui25 ui26 (j9 ui30 ui31 ui55 ui56 ui57 ui58 ui59 ui101 ui102))) ?_ | ((first | ((with_reducible refine zy (r_right _ (by assumption) _) ?_); rintro _ S ⟨rfl, rfl⟩) | (refine vlo_app zx ?_) | (refine vst_app zx ?_)); (try refine zsY (j2 ui0 (j9 ui3 ui4 ui9 ui22 ui23 ui24 ui25 ui26 (j9 ui30 ui31 ui55 ui56 ui57 ui58 ui59 ui101 ui102))) ?_)) | (with_reducible first | refine vfresh_set ?_ | refine vfresh_intro (fun _ _ => ?_) | refine vif_intro (fun _ => ?_) (fun _ => ?_)) | omega | refine ztY (j2 ui0 (j9 ui3 ui4 ui9 ui22 ui23 ui24 ui25 ui26 (j9 ui30 ui31 ui55 ui56 ui57 ui58 ui59 ui101 ui102))) ?_ | fail)
    all_goals exact ⟨_, .refl _, rfl⟩
end Go.Proofs.YtjdapkelojdefaaGreatDoor

set_option linter.unusedSimpArgs false
set_option linter.unusedVariables false
namespace Go.Proofs.YtjdapkelojdefaaGreatDoor
open Go Go.V Go.Lex Go.Parse Go.Print
end Go.Proofs.YtjdapkelojdefaaGreatDoor

set_option linter.unusedSimpArgs false
set_option linter.unusedVariables false
namespace Go.Proofs.YtjdapkelojdefaaGreatDoor
open Go Go.V Go.Lex Go.Parse Go.Print
end Go.Proofs.YtjdapkelojdefaaGreatDoor

set_option linter.unusedSimpArgs false
set_option linter.unusedVariables false
namespace Go.Proofs.YtjdapkelojdefaaGreatDoor
open Go Go.V Go.Lex Go.Parse Go.Print
end Go.Proofs.YtjdapkelojdefaaGreatDoor

set_option linter.unusedSimpArgs false
set_option linter.unusedVariables false
namespace Go.Proofs.YtjdapkelojdefaaGreatDoor
open Go Go.V Go.Lex Go.Parse Go.Print
end Go.Proofs.YtjdapkelojdefaaGreatDoor

set_option linter.unusedSimpArgs false
set_option linter.unusedVariables false
namespace Go.Proofs.YtjdapkelojdefaaGreatDoor
open Go Go.V Go.Lex Go.Parse Go.Print
def dropA : List AV := [.i 2, .s (bs [116]), .sl .nil [], .s (bs []), .sl .nil [], .sl .nil [], .sl .nil [], .s (bs []), .sl .nil [], .sl .nil [], .sl .nil [], .sl .nil [], .b false, .i (-1)]
def dropTk : List Tk := [wT [68, 82, 79, 80], wT [84, 65, 66, 76, 69], nT [116]]
theorem z_one0 (o : Own) (σ : Sg) : VCalls Tryz.prog 58 [.sl o []] σ (fun x σ' => x = .b true ∧ σ' = σ) := by
  have hc := r_contains [] 44 (fun e => !rt e) o (by simp) (fun e he => by cases he)
  rw [exsA_nil] at hc
  simp only [List.any_nil] at hc
  (refine vfun (fun _ => .no) mixed Tryz.func58 (by kernel_rfl) ?_; simp only [bodyOf, Tryz.f58, zr])
  repeat' (first | with_reducible rfl | exact trivial | exact .inr trivial | (with_reducible first | apply And.intro | apply vqx_step | apply vqm_step | refine vkp_free (by decide +kernel) ?_ | intro _) | refine zaY (j9 ui3 ui4 ui9 ui22 ui23 ui24 ui25 ui26 ui34) ?_ | ((first | ((with_reducible refine zy (hc _) ?_); rintro _ S ⟨rfl, rfl⟩) | (refine vlo_app zx ?_) | (refine vst_app zx ?_)); (try refine zsY (j9 ui3 ui4 ui9 ui22 ui23 ui24 ui25 ui26 ui34) ?_)) | (with_reducible first | refine vfresh_set ?_ | refine vfresh_intro (fun _ _ => ?_) | refine vif_intro (fun _ => ?_) (fun _ => ?_)) | omega | refine ztY (j9 ui3 ui4 ui9 ui22 ui23 ui24 ui25 ui26 ui34) ?_ | fail)
  all_goals exact ⟨_, .refl _, rfl⟩
theorem z_fits (σ : Sg) : VCalls Tryz.prog 28 [.agg dropA] σ (fun x σ' => x = .b true ∧ σ' = σ) := by
  have h1 := z_one0 .nil
  have hN : ∀ σ, VCalls Tryz.prog 42 [.s (bs [116])] σ (fun x σ' => x = .b true ∧ σ' = σ) := fun σ => r_name [116] σ
  unfold dropA
  (refine vfun (fun _ => .ro) mixed Tryz.func28 (by kernel_rfl) ?_; simp only [bodyOf, Tryz.f28, zr])
  repeat' (first | with_reducible rfl | exact trivial | exact .inr trivial | (with_reducible first | apply And.intro | apply vqx_step | apply vqm_step | refine vkp_free (by decide +kernel) ?_ | intro _) | refine zaY (j6 ui0 ui3 ui4 ui9 ui22 (j9 ui23 ui24 ui25 ui26 ui37 ui38 ui39 ui40 (j9 ui41 ui42 ui67 ui68 ui70 ui71 ui107 ui131 ui132))) ?_ | ((first | ((with_reducible refine zy (h1 _) ?_); rintro _ S ⟨rfl, rfl⟩) | ((with_reducible refine zy (hN _) ?_); rintro _ S ⟨rfl, rfl⟩) | ((with_reducible refine zy (r_name _ _) ?_); rintro _ S ⟨rfl, rfl⟩) | ((with_reducible refine zy (v_one _ (by assumption) _) ?_); rintro _ S ⟨rfl, rfl⟩) | ((with_reducible refine zy (v_columns _ (by assumption) _) ?_); rintro _ S ⟨rfl, rfl⟩) | ((with_reducible refine zy (v_rows _ (by assumption) (by assumption) _) ?_); rintro _ S ⟨rfl, rfl⟩) | ((with_reducible refine zy (v_sets _ (by assumption) (by assumption) _) ?_); rintro _ S ⟨rfl, rfl⟩) | ((with_reducible refine zy (v_selects _ (by assumption) _) ?_); rintro _ S ⟨rfl, rfl⟩) | (refine vlo_app zx ?_) | (refine vst_app zx ?_)); (try refine zsY (j6 ui0 ui3 ui4 ui9 ui22 (j9 ui23 ui24 ui25 ui26 ui37 ui38 ui39 ui40 (j9 ui41 ui42 ui67 ui68 ui70 ui71 ui107 ui131 ui132))) ?_)) | (with_reducible first | refine vfresh_set ?_ | refine vfresh_intro (fun _ _ => ?_) | refine vif_intro (fun _ => ?_) (fun _ => ?_)) | omega | refine ztY (j6 ui0 ui3 ui4 ui9 ui22 (j9 ui23 ui24 ui25 ui26 ui37 ui38 ui39 ui40 (j9 ui41 ui42 ui67 ui68 ui70 ui71 ui107 ui131 ui132))) ?_ | fail)
  all_goals exact ⟨_, .refl _, rfl⟩
theorem z_state (B : Sg) (ω τ : Nat) (hok : okS B ω τ) : VCalls Tryz.prog 30 [.ref ω 0, .agg dropA] (WS B ω τ [] 0 0) (fun x σ' => x = .tup [] ∧ ∃ τ', okS B ω τ' ∧ σ' = WS B ω τ' dropTk 0 0) := by
  unfold dropA
  (refine vfun (fun _ => .ro) mixed Tryz.func30 (by kernel_rfl) ?_; simp only [bodyOf, Tryz.f30, zr])
  repeat' (first | with_reducible rfl | exact trivial | exact .inr trivial | (with_reducible first | apply And.intro | apply vqx_step | apply vqm_step | refine vkp_free (by decide +kernel) ?_ | intro _) | ((with_reducible refine .dms (fun x => False) [(0, false), (1, false), (2, false), (3, true), (4, false), (5, true)] (by decide) (by decide +kernel) ?_); (refine zsR (j6 ui0 ui3 ui4 ui9 ui22 (j9 ui23 ui24 ui25 ui26 ui37 ui38 ui39 ui40 (j9 ui41 ui42 ui55 ui56 ui57 ui58 ui59 ui67 (j9 ui68 ui70 ui71 ui75 ui101 ui102 ui107 ui131 (j9 ui132 @tksA_len @tksA_all @tksA_one @List.length_append.{0} @List.length_cons.{0} @List.length_nil.{0} @wds_len (j9 @wdsE_nil @wdsE_cons @splice0 @allOne_app @allLen_app @allOne_cons @allLen_cons @allOne_nil @allLen_nil)))))) ?_)) | ((with_reducible refine .dm (fun x => False) [(0, false), (1, false), (2, false), (3, true), (4, false), (5, true)] (by decide) (by decide +kernel) ?_); (refine zsR (j6 ui0 ui3 ui4 ui9 ui22 (j9 ui23 ui24 ui25 ui26 ui37 ui38 ui39 ui40 (j9 ui41 ui42 ui55 ui56 ui57 ui58 ui59 ui67 (j9 ui68 ui70 ui71 ui75 ui101 ui102 ui107 ui131 (j9 ui132 @tksA_len @tksA_all @tksA_one @List.length_append.{0} @List.length_cons.{0} @List.length_nil.{0} @wds_len (j9 @wdsE_nil @wdsE_cons @splice0 @allOne_app @allLen_app @allOne_cons @allLen_cons @allOne_nil @allLen_nil)))))) ?_)) | ((with_reducible refine .dms (fun x => False) [(0, false), (1, false), (2, false), (3, true), (4, false), (5, true)] (by decide) (by decide +kernel) ?_); (refine zsR (j6 ui0 ui3 ui4 ui9 ui22 (j9 ui23 ui24 ui25 ui26 ui37 ui38 ui39 ui40 (j9 ui41 ui42 ui55 ui56 ui57 ui58 ui59 ui67 (j9 ui68 ui70 ui71 ui75 ui101 ui102 ui107 ui131 (j9 ui132 @tksA_len @tksA_all @tksA_one @List.length_append.{0} @List.length_cons.{0} @List.length_nil.{0} @wds_len (j9 @wdsE_nil @wdsE_cons @splice0 @allOne_app @allLen_app @allOne_cons @allLen_cons @allOne_nil @allLen_nil)))))) ?_)) | ((with_reducible refine .dm (fun x => False) [(0, false), (1, false), (2, false), (3, true), (4, false), (5, true)] (by decide) (by decide +kernel) ?_); (refine zsR (j6 ui0 ui3 ui4 ui9 ui22 (j9 ui23 ui24 ui25 ui26 ui37 ui38 ui39 ui40 (j9 ui41 ui42 ui55 ui56 ui57 ui58 ui59 ui67 (j9 ui68 ui70 ui71 ui75 ui101 ui102 ui107 ui131 (j9 ui132 @tksA_len @tksA_all @tksA_one @List.length_append.{0} @List.length_cons.{0} @List.length_nil.{0} @wds_len (j9 @wdsE_nil @wdsE_cons @splice0 @allOne_app @allLen_app @allOne_cons @allLen_cons @allOne_nil @allLen_nil)))))) ?_)) | refine zaR (j6 ui0 ui3 ui4 ui9 ui22 (j9 ui23 ui24 ui25 ui26 ui37 ui38 ui39 ui40 (j9 ui41 ui42 ui55 ui56 ui57 ui58 ui59 ui67 (j9 ui68 ui70 ui71 ui75 ui101 ui102 ui107 ui131 (j9 ui132 @tksA_len @tksA_all @tksA_one @List.length_append.{0} @List.length_cons.{0} @List.length_nil.{0} @wds_len (j9 @wdsE_nil @wdsE_cons @splice0 @allOne_app @allLen_app @allOne_cons @allLen_cons @allOne_nil @allLen_nil)))))) ?_ | refine zkN (j6 ui0 ui3 ui4 ui9 ui22 (j9 ui23 ui24 ui25 ui26 ui37 ui38 ui39 ui40 (j9 ui41 ui42 ui55 ui56 ui57 ui58 ui59 ui67 (j9 ui68 ui70 ui71 ui75 ui101 ui102 ui107 ui131 (j9 ui132 @tksA_len @tksA_all @tksA_one @List.length_append.{0} @List.length_cons.{0} @List.length_nil.{0} @wds_len (j9 @wdsE_nil @wdsE_cons @splice0 @allOne_app @allLen_app @allOne_cons @allLen_cons @allOne_nil @allLen_nil)))))) ?_ | ((first | (refine vkp_keep (by intro β h; first | (rcases h with h | h <;> subst h <;> (simp (disch := first | assumption | (apply zv; assumption; assumption) | (apply zw; assumption; assumption; (intro e; cases e; done)) | omega) only [zm, zn, zo, zp, zq])) | (subst h; (simp (disch := first | assumption | (apply zv; assumption; assumption) | (apply zw; assumption; assumption; (intro e; cases e; done)) | omega) only [zm, zn, zo, zp, zq]))) ?_) | ((with_reducible refine zy (w_wordsE _ _ _ _ _ _ _ _ (by repeat (first | exact okW_nil | refine okW_cons ?_ (by simp))) (by first | assumption | exact ⟨by assumption, by assumption⟩) (by first | omega | (simp only [List.length_append, List.length_cons, List.length_nil, List.length_map]; omega))) ?_); rintro _ S ⟨rfl, τ1, ⟨f1, n1⟩, rfl⟩; have n1s := n1.symm) | ((with_reducible refine zy (w_name _ _ _ _ _ _ _ (by first | assumption | exact ⟨by assumption, by assumption⟩) (by first | omega | (simp only [List.length_append, List.length_cons, List.length_nil, List.length_map]; omega))) ?_); rintro _ S ⟨rfl, τ1, ⟨f1, n1⟩, rfl⟩; have n1s := n1.symm) | ((with_reducible refine zy (w_wordsE _ _ _ _ _ _ _ _ (by repeat (first | exact okW_nil | refine okW_cons ?_ (by simp))) (by first | assumption | exact ⟨by assumption, by assumption⟩) (by first | omega | (simp only [List.length_append, List.length_cons, List.length_nil, List.length_map]; omega))) ?_); rintro _ S ⟨rfl, τ1, ⟨f1, n1⟩, rfl⟩; have n1s := n1.symm) | ((with_reducible refine zy (w_name _ _ _ _ _ _ _ (by first | assumption | exact ⟨by assumption, by assumption⟩) (by first | omega | (simp only [List.length_append, List.length_cons, List.length_nil, List.length_map]; omega))) ?_); rintro _ S ⟨rfl, τ1, ⟨f1, n1⟩, rfl⟩; have n1s := n1.symm) | (refine vlo_app zx ?_) | (refine vst_app zx ?_)); (try refine zsR (j6 ui0 ui3 ui4 ui9 ui22 (j9 ui23 ui24 ui25 ui26 ui37 ui38 ui39 ui40 (j9 ui41 ui42 ui55 ui56 ui57 ui58 ui59 ui67 (j9 ui68 ui70 ui71 ui75 ui101 ui102 ui107 ui131 (j9 ui132 @tksA_len @tksA_all @tksA_one @List.length_append.{0} @List.length_cons.{0} @List.length_nil.{0} @wds_len (j9 @wdsE_nil @wdsE_cons @splice0 @allOne_app @allLen_app @allOne_cons @allLen_cons @allOne_nil @allLen_nil)))))) ?_)) | refine zmR (j6 ui0 ui3 ui4 ui9 ui22 (j9 ui23 ui24 ui25 ui26 ui37 ui38 ui39 ui40 (j9 ui41 ui42 ui55 ui56 ui57 ui58 ui59 ui67 (j9 ui68 ui70 ui71 ui75 ui101 ui102 ui107 ui131 (j9 ui132 @tksA_len @tksA_all @tksA_one @List.length_append.{0} @List.length_cons.{0} @List.length_nil.{0} @wds_len (j9 @wdsE_nil @wdsE_cons @splice0 @allOne_app @allLen_app @allOne_cons @allLen_cons @allOne_nil @allLen_nil)))))) ?_ | (with_reducible first | refine vfresh_set ?_ | refine vfresh_intro (fun _ _ => ?_) | refine vif_intro (fun _ => ?_) (fun _ => ?_)) | omega | refine ztR (j6 ui0 ui3 ui4 ui9 ui22 (j9 ui23 ui24 ui25 ui26 ui37 ui38 ui39 ui40 (j9 ui41 ui42 ui55 ui56 ui57 ui58 ui59 ui67 (j9 ui68 ui70 ui71 ui75 ui101 ui102 ui107 ui131 (j9 ui132 @tksA_len @tksA_all @tksA_one @List.length_append.{0} @List.length_cons.{0} @List.length_nil.{0} @wds_len (j9 @wdsE_nil @wdsE_cons @splice0 @allOne_app @allLen_app @allOne_cons @allLen_cons @allOne_nil @allLen_nil)))))) ?_ | fail)
  exact ⟨_, .refl _, _, ⟨by assumption, by assumption⟩, rfl⟩
theorem drop_good : ∀ x ∈ dropTk, GoodT x := by
  intro x hx
  simp only [dropTk, List.mem_cons, List.not_mem_nil, or_false] at hx
  rcases hx with rfl | rfl | rfl
  · exact .inr (.inl ⟨rfl, by decide, rfl⟩)
  · exact .inr (.inl ⟨rfl, by decide, rfl⟩)
  · exact .inl ⟨rfl, by decide, rfl⟩
theorem drop_fin : fin dropTk 0 = ([68, 82, 79, 80, 32, 84, 65, 66, 76, 69, 32, 116], 0) := by decide +kernel
theorem z_script (σ : Sg) : VCalls Tryz.prog 15 [.sl .full [dropA]] σ (fun x σ' => x = .tup [.s (bs [68, 82, 79, 80, 32, 84, 65, 66, 76, 69, 32, 116]), .i 0] ∧ σ' = σ) := by
  have hf := z_fits
  have hl : dropA.length = 14 := rfl
  have hone : dropA.all AV.one = true := rfl
  have ht : dropA.take 14 = dropA := rfl
  have hst : ∀ (S : Sg) (ω : Nat), S ω = some (.cells 59 [.sl .nil [], .i 0, .i 0]) → VCalls Tryz.prog 30 [.ref ω 0, .agg dropA] S (fun x σ' => x = .tup [] ∧ ∃ τ', okS S ω τ' ∧ σ' = WS S ω τ' dropTk 0 0) := fun S ω hS => by
    refine VCalls.tok0 (e := 102) 0 4 hS rfl (fun τ hτ hne => ?_)
    exact z_state S ω τ ⟨hτ, hne⟩
  generalize dropA = D at *
  (refine vfun (fun _ => .no) mixed Tryz.func15 (by kernel_rfl) ?_; simp only [bodyOf, Tryz.f15, zr])
  repeat' (first | with_reducible rfl | exact trivial | exact .inr trivial | (with_reducible first | apply And.intro | apply vqx_step | apply vqm_step | refine vkp_free (by decide +kernel) ?_ | intro _) | refine zaY (j4 ui0 ui3 ui4 (j9 ui9 ui22 ui23 ui24 ui25 ui26 ui30 ui31 (j9 ui35 ui37 ui38 ui39 ui40 ui41 ui42 ui55 (j9 ui56 ui57 ui58 ui59 ui67 ui68 ui70 ui71 (j9 ui75 ui101 ui102 ui107 ui131 ui132 hl hone ht))))) ?_ | ((first | ((with_reducible refine zy (v_fits _ (by assumption) (by assumption) _) ?_); rintro _ S ⟨rfl, rfl⟩) | ((with_reducible refine zy (w_wordsE _ _ _ _ _ _ _ _ (by repeat (first | exact okW_nil | refine okW_cons ?_ (by simp))) (by first | assumption | exact ⟨by assumption, by assumption⟩) (by first | omega | (simp only [List.length_append, List.length_cons, List.length_nil, List.length_map]; omega))) ?_); rintro _ S ⟨rfl, τ1, ⟨f1, n1⟩, rfl⟩; have n1s := n1.symm) | (refine vlo_app zx ?_) | (refine vst_app zx ?_)); (try refine zsY (j4 ui0 ui3 ui4 (j9 ui9 ui22 ui23 ui24 ui25 ui26 ui30 ui31 (j9 ui35 ui37 ui38 ui39 ui40 ui41 ui42 ui55 (j9 ui56 ui57 ui58 ui59 ui67 ui68 ui70 ui71 (j9 ui75 ui101 ui102 ui107 ui131 ui132 hl hone ht))))) ?_)) | (with_reducible first | refine vfresh_set ?_ | refine vfresh_intro (fun _ _ => ?_) | refine vif_intro (fun _ => ?_) (fun _ => ?_)) | omega | refine ztY (j4 ui0 ui3 ui4 (j9 ui9 ui22 ui23 ui24 ui25 ui26 ui30 ui31 (j9 ui35 ui37 ui38 ui39 ui40 ui41 ui42 ui55 (j9 ui56 ui57 ui58 ui59 ui67 ui68 ui70 ui71 (j9 ui75 ui101 ui102 ui107 ui131 ui132 hl hone ht))))) ?_ | fail)
  rename_i ω hω
  refine VW.loop3 (0 : Nat) (0 : Nat) () (fun k τ _ => (k = 0 ∨ k = 1) ∧ (k = 1 → okS (σ.set ω (.cells 59 [.sl .nil [], .i 0, .i 0])) ω τ)) (fun k _ _ => [(2, .s (bs [])), (3, .i 0), (4, .ref ω 0), (17, .sl .full [D]), (18, .i 1), (19, .i k)]) (fun k τ _ => if k = 0 then σ.set ω (.cells 59 [.sl .nil [], .i 0, .i 0]) else WS (σ.set ω (.cells 59 [.sl .nil [], .i 0, .i 0])) ω τ dropTk 0 0) (fun k _ _ => 1 - k) ⟨.inl rfl, fun h => by cases h⟩ (.refl _) ?_ ?_
  · simp only [vO, vQ, ↓vP, vE, vS, vB, vL, vF, vM, vN, vbs_full, Nat.reduceEqDiff, Nat.reduceAdd, Nat.reduceLeDiff, ne_eq, not_false_eq_true, Nat.reduceMul, Nat.reduceSub, Int.toNat_zero, Int.reduceToNat, vT]
    all_goals first | rfl | exact ⟨rfl, rfl⟩
  rintro k τ _ ⟨hk, hτ⟩
  rcases hk with rfl | rfl
  · simp only [↓reduceIte]
    repeat' (first | with_reducible rfl | exact trivial | exact .inr trivial | (with_reducible first | apply And.intro | apply vqx_step | apply vqm_step | refine vkp_free (by decide +kernel) ?_ | intro _) | refine zaY (j4 ui0 ui3 ui4 (j9 ui9 ui22 ui23 ui24 ui25 ui26 ui30 ui31 (j9 ui35 ui37 ui38 ui39 ui40 ui41 ui42 ui55 (j9 ui56 ui57 ui58 ui59 ui67 ui68 ui70 ui71 (j9 ui75 ui101 ui102 ui107 ui131 ui132 hl hone ht))))) ?_ | ((first | ((with_reducible refine zy (hf _) ?_); rintro _ S ⟨rfl, rfl⟩) | ((with_reducible refine zy (hst _ _ (by first | assumption | ((simp (disch := first | assumption | (apply zv; assumption; assumption) | (apply zw; assumption; assumption; (intro e; cases e; done)) | omega) only [zm, zn, zo, zp, zq]); first | done | rfl | assumption))) ?_); rintro _ S ⟨rfl, τ1, hok, rfl⟩) | ((with_reducible refine zy (v_fits _ (by assumption) (by assumption) _) ?_); rintro _ S ⟨rfl, rfl⟩) | ((with_reducible refine zy (w_wordsE _ _ _ _ _ _ _ _ (by repeat (first | exact okW_nil | refine okW_cons ?_ (by simp))) (by first | assumption | exact ⟨by assumption, by assumption⟩) (by first | omega | (simp only [List.length_append, List.length_cons, List.length_nil, List.length_map]; omega))) ?_); rintro _ S ⟨rfl, τ1, ⟨f1, n1⟩, rfl⟩; have n1s := n1.symm) | (refine vlo_app zx ?_) | (refine vst_app zx ?_)); (try refine zsY (j4 ui0 ui3 ui4 (j9 ui9 ui22 ui23 ui24 ui25 ui26 ui30 ui31 (j9 ui35 ui37 ui38 ui39 ui40 ui41 ui42 ui55 (j9 ui56 ui57 ui58 ui59 ui67 ui68 ui70 ui71 (j9 ui75 ui101 ui102 ui107 ui131 ui132 hl hone ht))))) ?_)) | (with_reducible first | refine vfresh_set ?_ | refine vfresh_intro (fun _ _ => ?_) | refine vif_intro (fun _ => ?_) (fun _ => ?_)) | omega | refine ztY (j4 ui0 ui3 ui4 (j9 ui9 ui22 ui23 ui24 ui25 ui26 ui30 ui31 (j9 ui35 ui37 ui38 ui39 ui40 ui41 ui42 ui55 (j9 ui56 ui57 ui58 ui59 ui67 ui68 ui70 ui71 (j9 ui75 ui101 ui102 ui107 ui131 ui132 hl hone ht))))) ?_ | fail)
    rename_i x hx hne _
    have f1 := (Sg.none_set hok.free).2
    refine ⟨1, τ1, (), ⟨⟨.inr rfl, fun _ => ⟨f1, hok.ne⟩⟩, by decide⟩, ?_, rfl⟩
    rw [if_neg (by decide)]
    have f2 := (Sg.none_set hok.free).1
    have f3 := (Sg.none_set f1).2
    intro y p hy
    simp only [WS, WB_eq, Sg.set_apply] at hy ⊢
    grind
  · have hτ := hτ rfl
    simp only [show ¬ ((1 : Nat) = 0) from by decide, ↓reduceIte]
    repeat' (first | with_reducible rfl | exact trivial | exact .inr trivial | (with_reducible first | apply And.intro | apply vqx_step | apply vqm_step | refine vkp_free (by decide +kernel) ?_ | intro _) | refine zaY (j4 ui0 ui3 ui4 (j9 ui9 ui22 ui23 ui24 ui25 ui26 ui30 ui31 (j9 ui35 ui37 ui38 ui39 ui40 ui41 ui42 ui55 (j9 ui56 ui57 ui58 ui59 ui67 ui68 ui70 ui71 (j9 ui75 ui101 ui102 ui107 ui131 ui132 hl hone ht))))) ?_ | ((first | ((with_reducible refine zy (v_fits _ (by assumption) (by assumption) _) ?_); rintro _ S ⟨rfl, rfl⟩) | ((with_reducible refine zy (w_wordsE _ _ _ _ _ _ _ _ (by repeat (first | exact okW_nil | refine okW_cons ?_ (by simp))) (by first | assumption | exact ⟨by assumption, by assumption⟩) (by first | omega | (simp only [List.length_append, List.length_cons, List.length_nil, List.length_map]; omega))) ?_); rintro _ S ⟨rfl, τ1, ⟨f1, n1⟩, rfl⟩; have n1s := n1.symm) | (refine vlo_app zx ?_) | (refine vst_app zx ?_)); (try refine zsY (j4 ui0 ui3 ui4 (j9 ui9 ui22 ui23 ui24 ui25 ui26 ui30 ui31 (j9 ui35 ui37 ui38 ui39 ui40 ui41 ui42 ui55 (j9 ui56 ui57 ui58 ui59 ui67 ui68 ui70 ui71 (j9 ui75 ui101 ui102 ui107 ui131 ui132 hl hone ht))))) ?_)) | (with_reducible first | refine vfresh_set ?_ | refine vfresh_intro (fun _ _ => ?_) | refine vif_intro (fun _ => ?_) (fun _ => ?_)) | omega | refine ztY (j4 ui0 ui3 ui4 (j9 ui9 ui22 ui23 ui24 ui25 ui26 ui30 ui31 (j9 ui35 ui37 ui38 ui39 ui40 ui41 ui42 ui55 (j9 ui56 ui57 ui58 ui59 ui67 ui68 ui70 ui71 (j9 ui75 ui101 ui102 ui107 ui131 ui132 hl hone ht))))) ?_ | fail)
    have f1 := (Sg.none_set hτ.free).2
    have n1 := hτ.ne
    refine zy (w_end _ σ ω τ dropTk 0 0 ?_ drop_good (by decide)) ?_
    · intro y p hy
      show (WS _ ω τ dropTk 0 0) y = some p
      simp only [WS, WB_eq, Sg.set_apply]
      grind
    rw [drop_fin]
    rintro _ S2 ⟨rfl, rfl⟩
    simp only [vO, vQ, ↓vP, vE, vS, vB, vL, vF, vM, vN, vbs_full, Nat.reduceEqDiff, Nat.reduceAdd, Nat.reduceLeDiff, ne_eq, not_false_eq_true, Nat.reduceMul, Nat.reduceSub, Int.toNat_zero, Int.reduceToNat, vT]
    repeat' (first | with_reducible rfl | exact trivial | exact .inr trivial | (with_reducible first | apply And.intro | apply vqx_step | apply vqm_step | refine vkp_free (by decide +kernel) ?_ | intro _) | refine zaY (j9 ui0 ui3 ui4 ui9 ui22 ui23 ui24 ui25 (j9 ui26 ui30 ui31 ui35 ui37 ui38 ui39 ui40 (j9 ui41 ui42 ui55 ui56 ui57 ui58 ui59 ui67 (j9 ui68 ui70 ui71 ui75 ui101 ui102 ui107 ui131 ui132)))) ?_ | ((first | ((with_reducible refine zy (v_fits _ (by assumption) (by assumption) _) ?_); rintro _ S ⟨rfl, rfl⟩) | ((with_reducible refine zy (w_wordsE _ _ _ _ _ _ _ _ (by repeat (first | exact okW_nil | refine okW_cons ?_ (by simp))) (by first | assumption | exact ⟨by assumption, by assumption⟩) (by first | omega | (simp only [List.length_append, List.length_cons, List.length_nil, List.length_map]; omega))) ?_); rintro _ S ⟨rfl, τ1, ⟨f1, n1⟩, rfl⟩; have n1s := n1.symm) | (refine vlo_app zx ?_) | (refine vst_app zx ?_)); (try refine zsY (j9 ui0 ui3 ui4 ui9 ui22 ui23 ui24 ui25 (j9 ui26 ui30 ui31 ui35 ui37 ui38 ui39 ui40 (j9 ui41 ui42 ui55 ui56 ui57 ui58 ui59 ui67 (j9 ui68 ui70 ui71 ui75 ui101 ui102 ui107 ui131 ui132)))) ?_)) | (with_reducible first | refine vfresh_set ?_ | refine vfresh_intro (fun _ _ => ?_) | refine vif_intro (fun _ => ?_) (fun _ => ?_)) | omega | refine ztY (j9 ui0 ui3 ui4 ui9 ui22 ui23 ui24 ui25 (j9 ui26 ui30 ui31 ui35 ui37 ui38 ui39 ui40 (j9 ui41 ui42 ui55 ui56 ui57 ui58 ui59 ui67 (j9 ui68 ui70 ui71 ui75 ui101 ui102 ui107 ui131 ui132)))) ?_ | fail)
    all_goals exact ⟨_, .refl _, rfl⟩
end Go.Proofs.YtjdapkelojdefaaGreatDoor

set_option linter.unusedSimpArgs false
set_option linter.unusedVariables false
namespace Go.V
theorem AVw.els {es es' : List (List AV)} (hl : es.length = es'.length) (h : ∀ (i : Nat) (e e' : List AV), es[i]? = some e → es'[i]? = some e' → e.length = e'.length ∧ ∀ (j : Nat) (x x' : AV), e[j]? = some x → e'[j]? = some x' → AVw x x') : AVw (.sl .any es) (.sl .any es') := fun κ v hr => by
  have hget : ∀ (i : Nat) (e' : List AV), es'[i]? = some e' → ∃ e, es[i]? = some e := fun i e' h' => by
    have hi : i < es.length := by rw [hl]; exact (List.getElem?_eq_some_iff.1 h').1
    exact ⟨_, List.getElem?_eq_getElem hi⟩
  cases hr with
  | slnil _ hk =>
    obtain rfl : es' = [] := List.eq_nil_of_length_eq_zero hl.symm
    exact .slnil _ hk
  | slemp _ hk a c =>
    obtain rfl : es' = [] := List.eq_nil_of_length_eq_zero hl.symm
    exact .slemp _ hk a c
  | sl _ _ a n c sz f hk hn hc hs hz hrd hx =>
    refine .sl _ es' a n c sz f hk (by omega) hc hs (fun i e' h' => ?_) hrd (fun i j e' x' h1 h2 => ?_)
    · obtain ⟨e, he⟩ := hget i e' h'
      rw [← (h i e e' he h').1]; exact hz i e he
    · obtain ⟨e, he⟩ := hget i e' h1
      obtain ⟨q1, q2⟩ := h i e e' he h1
      have hj : j < e.length := by rw [q1]; exact (List.getElem?_eq_some_iff.1 h2).1
      exact q2 j _ x' (List.getElem?_eq_getElem hj) h2 κ _ (hx i j e _ he (List.getElem?_eq_getElem hj))
end Go.V
namespace Go.Proofs.YtjdapkelojdefaaGreatDoor
open Go Go.V Go.Lex Go.Parse Go.Print
abbrev five : Ex := .mk 1 0 [] [] (1, 5, []) []
abbrev negFive : Ex := .mk 5 0 [] [] (0, 0, []) [five]
theorem AVw.one (o : Own) (e : Ex) (k op : Int) (t n : By) (v : Vl) (q : Own) : AVw (.agg [.i k, .i op, .s (bs t), .s (bs n), .i v.1, .i v.2.1, .s (bs v.2.2), .sl o [exK q e]]) (.agg (exA (.mk k op t n v [e]))) := by
  rw [exA_mk, exsA_cons, exsA_nil]
  refine AVw.agg rfl (fun i x x' h1 h2 => ?_)
  match i, h1, h2 with
  | 0, h1, h2 | 1, h1, h2 | 2, h1, h2 | 3, h1, h2 | 4, h1, h2 | 5, h1, h2 | 6, h1, h2 => cases h1; cases h2; exact AVw.refl _
  | 7, h1, h2 =>
    cases h1; cases h2
    have hh : AVw (.sl .any [exK q e]) (.sl .any [exA e]) := by
      refine AVw.els rfl (fun i a a' h1 h2 => ?_)
      match i, h1, h2 with
      | 0, h1, h2 =>
        cases h1; cases h2
        cases e with
        | mk k2 op2 t2 n2 v2 l2 =>
        rw [exA_mk, exK_mk]
        refine ⟨rfl, fun j y y' g1 g2 => ?_⟩
        match j, g1, g2 with
        | 0, g1, g2 | 1, g1, g2 | 2, g1, g2 | 3, g1, g2 | 4, g1, g2 | 5, g1, g2 | 6, g1, g2 => cases g1; cases g2; exact AVw.refl _
        | 7, g1, g2 => cases g1; cases g2; exact AVw.any _ _
    exact fun κ v hr => hh κ v (AVw.any _ _ κ v hr)
theorem five_lim : Lim negFive := by
  have r0 : inR 0 := by unfold inR; omega
  refine .mk _ _ _ _ _ _ (by simp) ⟨by unfold inR; omega, r0, r0, r0⟩ (fun e he => ?_)
  simp at he
  subst he
  exact .mk _ _ _ _ _ _ (by simp) ⟨by unfold inR; omega, r0, by unfold inR; simp, by unfold inR; simp⟩ (fun e he => by cases he)
theorem five_txt : rt negFive = true ∧ (toTr negFive).tk.length ≤ 2 ^ 30 ∧ exprR negFive = ([45, 32, 40, 32, 53, 32, 41], 0) := by decide +kernel
theorem z_small (σ : Sg) : VCalls Tryz.prog 8 [] σ (fun x σ' => x = .b true ∧ σ' = σ) := by
  obtain ⟨_, q2, q3⟩ := five_txt
  have hE : ∀ σ, VCalls Tryz.prog 11 [.agg [.i 5, .i 0, .s (bs []), .s (bs []), .i 0, .i 0, .s (bs []), .sl .full [[.i 1, .i 0, .s (bs []), .s (bs []), .i 1, .i 5, .s (bs []), .sl .nil []]]]] σ (fun x σ' => x = .tup [.s (bs [45, 32, 40, 32, 53, 32, 41]), .i 0] ∧ σ' = σ) := fun σ => by
    have h := w_Expr negFive five_lim (fun _ => q2) σ
    rw [q3] at h
    exact VCalls.arg1 (AVw.one .full five 5 0 [] [] (0, 0, []) .nil) h
  have hS := z_script
  unfold dropA at hS
  (refine vfun (fun _ => .no) mixed Tryz.func8 (by kernel_rfl) ?_; simp only [bodyOf, Tryz.f8, zr])
  repeat' (first | with_reducible rfl | exact trivial | exact .inr trivial | (with_reducible first | apply And.intro | apply vqx_step | apply vqm_step | refine vkp_free (by decide +kernel) ?_ | intro _) | refine zaY (j9 ui0 ui3 ui4 ui9 ui22 ui23 ui24 ui25 (j9 ui26 ui30 ui31 ui35 ui37 ui38 ui39 ui40 (j9 ui41 ui42 ui67 ui68 ui70 ui71 ui107 ui131 ui132))) ?_ | ((first | ((with_reducible refine zy (hE _) ?_); rintro _ S ⟨rfl, rfl⟩) | ((with_reducible refine zy (hS _) ?_); rintro _ S ⟨rfl, rfl⟩) | ((with_reducible refine zy (w_Expr _ (by assumption) (by assumption) _) ?_); rintro _ S ⟨rfl, rfl⟩) | (refine vlo_app zx ?_) | (refine vst_app zx ?_)); (try refine zsY (j9 ui0 ui3 ui4 ui9 ui22 ui23 ui24 ui25 (j9 ui26 ui30 ui31 ui35 ui37 ui38 ui39 ui40 (j9 ui41 ui42 ui67 ui68 ui70 ui71 ui107 ui131 ui132))) ?_)) | (with_reducible first | refine vfresh_set ?_ | refine vfresh_intro (fun _ _ => ?_) | refine vif_intro (fun _ => ?_) (fun _ => ?_)) | omega | refine ztY (j9 ui0 ui3 ui4 ui9 ui22 ui23 ui24 ui25 (j9 ui26 ui30 ui31 ui35 ui37 ui38 ui39 ui40 (j9 ui41 ui42 ui67 ui68 ui70 ui71 ui107 ui131 ui132))) ?_ | fail)
  all_goals (exact Go.V.zE)
end Go.Proofs.YtjdapkelojdefaaGreatDoor

set_option linter.unusedSimpArgs false
set_option linter.unusedVariables false
namespace Go.Proofs.YtjdapkelojdefaaGreatDoor
open Go Go.V Go.Lex Go.Parse Go.Print
theorem law_ones (b : By) (σ : Sg) : VCalls Tryz.prog 5 [.s (bs b)] σ (fun x σ' => x = .b true ∧ σ' = σ) := by
  obtain ⟨zF, hF, hzF⟩ := zero30
  obtain ⟨zE, hE, hzE⟩ := zero27
  simp only [ex0, exK_mk, exsA_nil] at hzE
  have k1 := fun S => p6 b S
  have hel := exA_len (oneAll b).1
  have hoo := exA_one (oneAll b).1
  have het := exA_take (oneAll b).1
  have hed := exA_drop (oneAll b).1
  by_cases hc : (oneAll b).2.1 = 0
  · obtain ⟨t, t1, t2, t3, t4⟩ := one_right hc
    have hL : Lim (oneAll b).1 := by rw [← t3]; exact rg_lim t t1 t2
    have hrt : rt (oneAll b).1 = true := by rw [← t3]; exact rt_ex t t1
    have hlen : rt (oneAll b).1 = true → (toTr (oneAll b).1).tk.length ≤ 2 ^ 30 := fun _ => by
      rw [← t3, toTr_ex t]; omega
    have k2 := fun S => w_Expr (oneAll b).1 hL hlen S
    have m4 := p7 (sm_oneAll b)
    have hx : exprR (oneAll b).1 = fin t.tk t.dp := by
      unfold exprR
      rw [if_pos hrt, ← t3, toTr_ex t]
    have hcase : (fin t.tk t.dp).2 = 10 ∨ (fin t.tk t.dp).2 = 2 ∨ ((fin t.tk t.dp) = (writeT t.tk, 0) ∧ t.dp ≤ 10 ∧ (writeT t.tk).length ≤ 2000) := by
      unfold fin
      split
      · exact .inl rfl
      · split
        · exact .inr (.inl rfl)
        · exact .inr (.inr ⟨rfl, by omega, by omega⟩)
    rw [hc] at k1
    rw [hx] at k2
    rcases hcase with h10 | h2 | ⟨h0, hd, hl⟩
    · rw [h10] at k2
      generalize exA (oneAll b).1 = E at *
      generalize (oneAll b).2.2 = a1 at *
      generalize (fin t.tk t.dp).1 = tx at *
      (refine vfun (fun _ => .no) mixed Tryz.func5 (by kernel_rfl) ?_; simp only [bodyOf, Tryz.f5, zr])
      repeat' (first | with_reducible rfl | exact trivial | exact .inr trivial | (with_reducible first | apply And.intro | apply vqx_step | apply vqm_step | refine vkp_free (by decide +kernel) ?_ | intro _) | refine zaY (j6 ui0 ui3 ui4 ui9 ui22 (j9 ui23 ui24 ui25 ui26 ui30 ui31 ui46 ui47 (j9 ui48 hF hzF hE hzE hel hoo het hed))) ?_ | ((first | ((with_reducible refine zy (k1 _) ?_); rintro _ S ⟨rfl, rfl⟩) | ((with_reducible refine zy (k2 _) ?_); rintro _ S ⟨rfl, rfl⟩) | ((with_reducible refine zy (z_small _) ?_); rintro _ S ⟨rfl, rfl⟩) | ((with_reducible refine zy (w_Expr _ (by assumption) (by assumption) _) ?_); rintro _ S ⟨rfl, rfl⟩) | ((with_reducible refine zy (p7 (by assumption) _) ?_); rintro _ S ⟨rfl, rfl⟩) | (refine vlo_app zx ?_) | (refine vst_app zx ?_)); (try refine zsY (j6 ui0 ui3 ui4 ui9 ui22 (j9 ui23 ui24 ui25 ui26 ui30 ui31 ui46 ui47 (j9 ui48 hF hzF hE hzE hel hoo het hed))) ?_)) | (with_reducible first | refine vfresh_set ?_ | refine vfresh_intro (fun _ _ => ?_) | refine vif_intro (fun _ => ?_) (fun _ => ?_)) | omega | refine ztY (j6 ui0 ui3 ui4 ui9 ui22 (j9 ui23 ui24 ui25 ui26 ui30 ui31 ui46 ui47 (j9 ui48 hF hzF hE hzE hel hoo het hed))) ?_ | fail)
      all_goals (exact Go.V.zE)
    · rw [h2] at k2
      generalize exA (oneAll b).1 = E at *
      generalize (oneAll b).2.2 = a1 at *
      generalize (fin t.tk t.dp).1 = tx at *
      (refine vfun (fun _ => .no) mixed Tryz.func5 (by kernel_rfl) ?_; simp only [bodyOf, Tryz.f5, zr])
      repeat' (first | with_reducible rfl | exact trivial | exact .inr trivial | (with_reducible first | apply And.intro | apply vqx_step | apply vqm_step | refine vkp_free (by decide +kernel) ?_ | intro _) | refine zaY (j6 ui0 ui3 ui4 ui9 ui22 (j9 ui23 ui24 ui25 ui26 ui30 ui31 ui46 ui47 (j9 ui48 hF hzF hE hzE hel hoo het hed))) ?_ | ((first | ((with_reducible refine zy (k1 _) ?_); rintro _ S ⟨rfl, rfl⟩) | ((with_reducible refine zy (k2 _) ?_); rintro _ S ⟨rfl, rfl⟩) | ((with_reducible refine zy (z_small _) ?_); rintro _ S ⟨rfl, rfl⟩) | ((with_reducible refine zy (w_Expr _ (by assumption) (by assumption) _) ?_); rintro _ S ⟨rfl, rfl⟩) | ((with_reducible refine zy (p7 (by assumption) _) ?_); rintro _ S ⟨rfl, rfl⟩) | (refine vlo_app zx ?_) | (refine vst_app zx ?_)); (try refine zsY (j6 ui0 ui3 ui4 ui9 ui22 (j9 ui23 ui24 ui25 ui26 ui30 ui31 ui46 ui47 (j9 ui48 hF hzF hE hzE hel hoo het hed))) ?_)) | (with_reducible first | refine vfresh_set ?_ | refine vfresh_intro (fun _ _ => ?_) | refine vif_intro (fun _ => ?_) (fun _ => ?_)) | omega | refine ztY (j6 ui0 ui3 ui4 ui9 ui22 (j9 ui23 ui24 ui25 ui26 ui30 ui31 ui46 ui47 (j9 ui48 hF hzF hE hzE hel hoo het hed))) ?_ | fail)
      all_goals (exact Go.V.zE)
    · rw [h0] at k2
      obtain ⟨e1, e2⟩ := one_back t1 t2 hd hl
      have k3 := fun S => p6 (writeT t.tk) S
      rw [e1, e2, t3] at k3
      generalize exA (oneAll b).1 = E at *
      generalize (oneAll b).2.2 = a1 at *
      generalize (oneAll (writeT t.tk)).2.2 = a2 at *
      generalize writeT t.tk = W at *
      (refine vfun (fun _ => .no) mixed Tryz.func5 (by kernel_rfl) ?_; simp only [bodyOf, Tryz.f5, zr])
      repeat' (first | with_reducible rfl | exact trivial | exact .inr trivial | (with_reducible first | apply And.intro | apply vqx_step | apply vqm_step | refine vkp_free (by decide +kernel) ?_ | intro _) | refine zaY (j6 ui0 ui3 ui4 ui9 ui22 (j9 ui23 ui24 ui25 ui26 ui30 ui31 ui46 ui47 (j9 ui48 hF hzF hE hzE hel hoo het hed))) ?_ | ((first | ((with_reducible refine zy (k1 _) ?_); rintro _ S ⟨rfl, rfl⟩) | ((with_reducible refine zy (k2 _) ?_); rintro _ S ⟨rfl, rfl⟩) | ((with_reducible refine zy (k3 _) ?_); rintro _ S ⟨rfl, rfl⟩) | ((with_reducible refine zy (m4 _) ?_); rintro _ S ⟨rfl, rfl⟩) | ((with_reducible refine zy (z_small _) ?_); rintro _ S ⟨rfl, rfl⟩) | ((with_reducible refine zy (w_Expr _ (by assumption) (by assumption) _) ?_); rintro _ S ⟨rfl, rfl⟩) | ((with_reducible refine zy (p7 (by assumption) _) ?_); rintro _ S ⟨rfl, rfl⟩) | (refine vlo_app zx ?_) | (refine vst_app zx ?_)); (try refine zsY (j6 ui0 ui3 ui4 ui9 ui22 (j9 ui23 ui24 ui25 ui26 ui30 ui31 ui46 ui47 (j9 ui48 hF hzF hE hzE hel hoo het hed))) ?_)) | (with_reducible first | refine vfresh_set ?_ | refine vfresh_intro (fun _ _ => ?_) | refine vif_intro (fun _ => ?_) (fun _ => ?_)) | omega | refine ztY (j6 ui0 ui3 ui4 ui9 ui22 (j9 ui23 ui24 ui25 ui26 ui30 ui31 ui46 ui47 (j9 ui48 hF hzF hE hzE hel hoo het hed))) ?_ | fail)
      all_goals (first | (exact Go.V.zE) | (exfalso; simp_all))
  · generalize exA (oneAll b).1 = E at *
    generalize (oneAll b).2.1 = c1 at *
    generalize (oneAll b).2.2 = a1 at *
    (refine vfun (fun _ => .no) mixed Tryz.func5 (by kernel_rfl) ?_; simp only [bodyOf, Tryz.f5, zr])
    repeat' (first | with_reducible rfl | exact trivial | exact .inr trivial | (with_reducible first | apply And.intro | apply vqx_step | apply vqm_step | refine vkp_free (by decide +kernel) ?_ | intro _) | refine zaY (j7 ui0 ui3 ui4 ui9 ui22 ui23 (j9 ui24 ui25 ui26 ui30 ui31 ui46 ui47 ui48 (j9 hF hzF hE hzE hel hoo het hed hc))) ?_ | ((first | ((with_reducible refine zy (k1 _) ?_); rintro _ S ⟨rfl, rfl⟩) | ((with_reducible refine zy (z_small _) ?_); rintro _ S ⟨rfl, rfl⟩) | ((with_reducible refine zy (w_Expr _ (by assumption) (by assumption) _) ?_); rintro _ S ⟨rfl, rfl⟩) | ((with_reducible refine zy (p7 (by assumption) _) ?_); rintro _ S ⟨rfl, rfl⟩) | (refine vlo_app zx ?_) | (refine vst_app zx ?_)); (try refine zsY (j7 ui0 ui3 ui4 ui9 ui22 ui23 (j9 ui24 ui25 ui26 ui30 ui31 ui46 ui47 ui48 (j9 hF hzF hE hzE hel hoo het hed hc))) ?_)) | (with_reducible first | refine vfresh_set ?_ | refine vfresh_intro (fun _ _ => ?_) | refine vif_intro (fun _ => ?_) (fun _ => ?_)) | omega | refine ztY (j7 ui0 ui3 ui4 ui9 ui22 ui23 (j9 ui24 ui25 ui26 ui30 ui31 ui46 ui47 ui48 (j9 hF hzF hE hzE hel hoo het hed hc))) ?_ | fail)
    all_goals (first | (exact Go.V.zE) | (exfalso; omega))
end Go.Proofs.YtjdapkelojdefaaGreatDoor

namespace Go.V
open Go.RowKit
variable {P : Program}
def K0 (w : World) : K := ⟨w, fun _ _ => False, fun _ => none, w.heap.size⟩
def S0 : Sg := fun _ => none
theorem st0 (w : World) (hg : Glob (K0 w)) : St (K0 w) S0 where
  ob _ _ h := by cases h
  apart _ _ _ _ _ _ _ _ _ _ h := by cases h
  fin := ⟨0, fun _ _ => rfl⟩
  mlt _ _ h := h.elim
  bas := Nat.le_refl _
  glob := hg
theorem VCalls.calls {f : FuncId} {fn : Func} {args : List AV} {vs : Array Value} {w : World} (hf : P.funcs[f]? = some fn) (hb : (fn.body.isSome && !(fn.name == "runtime.NumGoroutine")) = true)
    (h : VCalls P f args S0 (fun x _ => x = .b true)) (hr : RelArgs (K0 w) args vs) (hg : Glob (K0 w)) : Calls P f vs w fun e w' => e = .returned (.bool true) ∧ Below w.heap.size w w' := by
  simp only [Bool.and_eq_true] at hb
  obtain ⟨h1, h2⟩ := hb
  obtain ⟨c, hc⟩ : ∃ c, fn.body = some c := by
    cases hh : fn.body with
    | none => rw [hh] at h1; cases h1
    | some c => exact ⟨c, rfl⟩
  have hrun : (callFunc f vs).run P w = .ok (.enter f vs) w := by
    have h3 : fn.name ≠ "runtime.NumGoroutine" := by simpa using h2
    simp [callFunc, program, Sem.run, Bind.bind, Sem.bind, hf, h3, hc]
  have hd := h.go (K0 w) vs (st0 w hg) hr
  rw [show (K0 w).w = w from rfl, hrun] at hd
  have hcalls : Calls P f vs w (PostE (K0 w) (fun x _ => x = .b true)) := hd
  refine hcalls.mono fun e w' hp => ?_
  cases e with
  | returned v =>
    obtain ⟨κ', x, σ', rfl, hle, hst, hrel, rfl⟩ := hp
    refine ⟨?_, ⟨hle.os, hle.tape, hle.output, hle.size, fun k hk => hle.block k hk⟩⟩
    cases hrel
    rfl
  | _ => exact hp.elim
theorem rel_args1 {κ : K} {v : Value} : RelArgs κ [.val v] #[v] := ⟨rfl, fun i x u h1 h2 => by
  cases i with
  | zero => simp at h1 h2; subst h1; subst h2; exact .val _
  | succ i => simp at h1⟩
end Go.V

set_option linter.unusedVariables false
namespace Go.V
open Go.RowKit
variable {P : Program}

def RL (κ : K) (cs : List AV) (vs : List Value) : Prop := cs.length = vs.length ∧ ∀ (i : Nat) (x : AV) (v : Value), cs[i]? = some x → vs[i]? = some v → Rel κ x v
theorem RL.row {κ : K} {cs : List AV} {vs : List Value} (h : RL κ cs vs) : RelRow κ cs vs.toArray := ⟨by simpa using h.1, fun i x v h1 h2 => h.2 i x v h1 (by simpa using h2)⟩
theorem RL.one {κ : K} {x : AV} {v : Value} (h : Rel κ x v) : RL κ [x] [v] := ⟨rfl, fun i y u h1 h2 => by
  cases i with
  | zero => simp at h1 h2; subst h1; subst h2; exact h
  | succ i => simp at h1⟩
end Go.V

set_option linter.unusedVariables false
namespace Go.V
open Go.RowKit
variable {P : Program}
end Go.V

namespace Go.Proofs.YtjdapkelojdefaaGreatDoor
open Go.ChangeShapes Go.WideShapes Go.ChangeAt Go.RowKit Go.V
set_option linter.unusedVariables false
theorem own : ownKnob Tryz.prog.godebug = none := by kernel_rfl
abbrev laid : List (String × DataW Unit) := [("math/bits.deBruijn32tab", Rows.laid_math_bits_deBruijn32tab), ("math/bits.deBruijn64tab", Rows.laid_math_bits_deBruijn64tab), ("internal/strconv.uint64pow10", Rows.laid_internal_strconv_uint64pow10), ("unicode/utf8.acceptRanges", Rows.laid_unicode_utf8_acceptRanges), ("unicode/utf8.first", Rows.laid_unicode_utf8_first)]
theorem glob {W : World} (h : laidMetH Tryz.prog laid W) : Glob (K0 W) := by
  rw [MakeChecks.laidMetH_plain _ _ _ (by kernel_rfl)] at h
  obtain ⟨ps, ⟨g0, t0, cs0, f0, p0, q0, hg0, ht0, hv0, hd0, ⟨g1, t1, cs1, f1, p1, q1, hg1, ht1, hv1, hd1, ⟨g, t, cs, fuel, p, q, hg, ht, hv, hd, _, _⟩, _⟩, _⟩, _, _⟩ := h
  obtain rfl := Option.some.inj ((show Tryz.prog.globalNamed "internal/strconv.uint64pow10" = some 1 by kernel_rfl).symm.trans hg)
  obtain rfl := Option.some.inj ((show (Tryz.prog.globals[1]?).map (·.type) = some 186 by kernel_rfl).symm.trans ht)
  obtain ⟨xs, m, _, ex, _, hl, hel⟩ := DataW.trod_array Tryz.underlying186 hd
  have c5 : Tryz.prog.cellsOf 179 = 1 := by kernel_rfl
  have hlen : pow10tab.length = 20 := by kernel_rfl
  have e3 : (xs.map (·.1)) = pow10tab.map fun v => match v with | .int k n => (DataW.lit (.int k n) : DataW Unit) | _ => .nil := (DataW.agg.inj (Prod.mk.inj ex).1).symm
  intro g cs' hg' r v hr
  by_cases hgg : g = 1
  · subst hgg
    obtain rfl : pow10tab = cs' := Option.some.inj ((if_pos rfl).symm.trans hg')
    refine ⟨?_, fun hh => hh⟩
    have hr20 : r < 20 := by rw [← hlen]; exact (List.getElem?_eq_some_iff.1 hr).1
    have hE := hel r hr20
    rw [c5, Nat.mul_one, List.getElem?_eq_getElem (by omega)] at hE
    obtain ⟨z, e1, e2, _⟩ := DataW.trod_int Tryz.underlying179 hE
    have e4 : (xs.map (·.1))[r]? = (pow10tab.map fun v => match v with | .int k n => (DataW.lit (.int k n) : DataW Unit) | _ => .nil)[r]? := by rw [e3]
    rw [List.getElem?_map, List.getElem?_map, List.getElem?_eq_getElem (by omega : r < xs.length), hr, e2] at e4
    have hz : v = .int .u64 z := by
      cases v <;> simp at e4
      rw [← e4.1, ← e4.2]
    show W.cell? _ = _
    rw [World.var?_cell hg hv r, hz]
    have : cs.toList[r]? = some (.int .u64 z) := by
      have h0 : ((cs.toList.drop r).take 1)[0]? = some (.int .u64 z) := by rw [e1]; rfl
      simpa using h0
    simpa using this
  · have : gtab g = none := if_neg hgg
    rw [this] at hg'; cases hg'
end Go.Proofs.YtjdapkelojdefaaGreatDoor
