/- Part 11 of the proof: W16, W17, W18, W19, W20, W21, W22, V14, V16, V18, W23, G9, G10, B14, B20, G5, G11, B21, B22, B23, B24, B25, B26, B27, B28, B29, B30, S1, B15, B16, B17, B18, B19, B31, S2, G12, G2, W25, W26, W27, W28, W29. -/
import Derived.Test.YtjdapkelojdefaaGreatDoorN7
import Derived.Test.YtjdapkelojdefaaGreatDoorN10
import Derived.Test.YtjdapkelojdefaaGreatDoorN8
import Derived.Test.YtjdapkelojdefaaGreatDoorN4
import Derived.Test.YtjdapkelojdefaaGreatDoorN3
import GoSem.ClaimChange
import GoSem.ClaimJoined
import Derived.Below
import Derived.Carry

set_option linter.all false
set_option maxRecDepth 100000
set_option maxHeartbeats 1000000
open Nat renaming reduceEqDiff → zb, reduceAdd → zd, reduceLeDiff → ze, reduceMul → zf, reduceSub → zg
open Int renaming toNat_zero → zk, reduceToNat → zl
open Go.V.Sg renaming set_same → zn, set_ne → zp, set_ne' → zq, del_ne → zr, del_ne' → zv
open Option renaming getD_some → zw
open List renaming length_map → zB
open Go.Cert renaming ne_of2 → zP, ne_ob → zQ
open Go.V.VCalls renaming mono → zS
open Go.Proofs.Tryz renaming underlying3 → Z3, underlying24 → Z24, underlying26 → Z26
namespace Go.Proofs.YtjdapkelojdefaaGreatDoor
open Go Go.V Go.Lex Go.Parse Go.Print
theorem Q3y (v : Vl) (σ : Sg) : VCalls Tryz.prog 53 [.agg [.i v.1, .i v.2.1, .s (bs v.2.2)]] σ (fun x σ' => x = .b (okV v) ∧ σ' = σ) := by
  have h5 := y_rightV v
  obtain ⟨k, n, t⟩ := v
  unfold okV
  simp only at h5 ⊢
  generalize X0x k n t = R at *
  (refine vfun (fun _ => .ro) Q0k Tryz.func53 (by kernel_rfl) ?_; simp only [Q0f, Tryz.f53, zw])
  (have zz := Bx.mk (j7 ui0 ui3 ui4 ui9 ui22 ui23 ui30); (repeat' (first | exact zc | (with_reducible first | apply And.intro | apply Q0a | apply Q0b | refine Q0c (by decide +kernel) ?_ | intro _) | refine zaY zz.out ?_ | ((first | (with_reducible refine uc (h5 _) ?_) | (refine Q0d (by exact zK) ?_) | (refine Q0e (by exact zK) ?_)); (try refine zsY zz.out ?_)) | refine zo ?_ | omega | refine ztY zz.out ?_ | fail)); try (all_goals clear zz))
  all_goals exact ⟨_, .refl _, b_eq (by simp_all <;> omega), rfl⟩
theorem X3y (l : List Ex) (h : ∀ e ∈ l, ∀ σ, VCalls Tryz.prog 23 [.agg (exA e)] σ (fun x σ' => x = .b (rt e) ∧ σ' = σ)) (hl : l.length ≤ 9223372036854775807) (σ : Sg) : VCalls Tryz.prog 55 [.sl .any (exsA l)] σ (fun x σ' => x = .b (rts l) ∧ σ' = σ) := by
  have hn := Q1c l
  have hall := Q9l l
  (refine vfun (fun _ => .no) Q0k Tryz.func55 (by kernel_rfl) ?_; simp only [Q0f, Tryz.f55, zw])
  (have zz := Bx.mk (j3 ui0 ui3 (j9 ui4 ui9 ui22 ui23 ui24 ui25 ui26 hn hall)); (repeat' (first | exact zc | (with_reducible first | apply And.intro | apply Q0a | apply Q0b | refine Q0c (by decide +kernel) ?_ | intro _) | refine zaY zz.out ?_ | ((first | (with_reducible refine uc (Q5s _ (by assumption) _) ?_) | (refine Q0d (by exact zK) ?_) | (refine Q0e (by exact zK) ?_)); (try refine zsY zz.out ?_)) | refine zo ?_ | omega | refine ztY zz.out ?_ | fail)); try (all_goals clear zz))
  refine VW.loop3 (0 : Nat) () () (fun k _ _ => k ≤ l.length ∧ rts l = rts (l.drop k)) (fun k _ _ => [(0, .sl .any (exsA l)), (3, .i k)]) (fun _ _ _ => σ) (fun k _ _ => l.length - k) ⟨Nat.zero_le _, rfl⟩ (.refl _) ?_ ?_
  · simp only [vO, vQ, ↓vP, vE, vS, vB, vL, vF, vM, vN, Q0i, zb, zd, ze, ne_eq, not_false_eq_true, zf, zg, zk, zl, vT]
    all_goals rfl
  rintro k _ _ ⟨hk, hr⟩
  rcases Nat.lt_or_ge k l.length with hk2 | hk2
  · have hg := X3x hk2
    have hp := h _ (List.getElem_mem hk2)
    have hd : rts (l.drop k) = (rt l[k] && rts (l.drop (k + 1))) := by rw [List.drop_eq_getElem_cons hk2, Q3b]
    have hFl := Q1a l[k]
    have hFt := Q1b l[k]
    generalize exA l[k] = E at *
    generalize rt l[k] = b at *
    cases b with
    | false =>
      rw [hr, hd]
      (have zz := Bx.mk (j6 ui0 ui3 ui4 ui9 ui22 (j9 ui23 ui24 ui25 ui26 hn hall hg hFl hFt)); (repeat' (first | exact zc | (with_reducible first | apply And.intro | apply Q0a | apply Q0b | refine Q0c (by decide +kernel) ?_ | intro _) | refine zaY zz.out ?_ | ((first | (with_reducible refine uc (hp _) ?_) | (with_reducible refine uc (Q5s _ (by assumption) _) ?_) | (refine Q0d (by exact zK) ?_) | (refine Q0e (by exact zK) ?_)); (try refine zsY zz.out ?_)) | refine zo ?_ | omega | refine ztY zz.out ?_ | fail)); try (all_goals clear zz))
      all_goals first | exact ⟨_, .refl _, rfl⟩ | exact ⟨_, .refl _, rfl, rfl⟩
    | true =>
      (have zz := Bx.mk (j6 ui0 ui3 ui4 ui9 ui22 (j9 ui23 ui24 ui25 ui26 hn hall hg hFl hFt)); (repeat' (first | exact zc | (with_reducible first | apply And.intro | apply Q0a | apply Q0b | refine Q0c (by decide +kernel) ?_ | intro _) | refine zaY zz.out ?_ | ((first | (with_reducible refine uc (hp _) ?_) | (with_reducible refine uc (Q5s _ (by assumption) _) ?_) | (refine Q0d (by exact zK) ?_) | (refine Q0e (by exact zK) ?_)); (try refine zsY zz.out ?_)) | refine zo ?_ | omega | refine ztY zz.out ?_ | fail)); try (all_goals clear zz))
      exact ⟨k + 1, (), (), ⟨⟨hk2, by rw [hr, hd]; rfl⟩, by omega⟩, .refl _, rfl⟩
  · rw [hr, List.drop_of_length_le hk2, X1t]
    (have zz := Bx.mk (j3 ui0 ui3 (j9 ui4 ui9 ui22 ui23 ui24 ui25 ui26 hn hall)); (repeat' (first | exact zc | (with_reducible first | apply And.intro | apply Q0a | apply Q0b | refine Q0c (by decide +kernel) ?_ | intro _) | refine zaY zz.out ?_ | ((first | (with_reducible refine uc (Q5s _ (by assumption) _) ?_) | (refine Q0d (by exact zK) ?_) | (refine Q0e (by exact zK) ?_)); (try refine zsY zz.out ?_)) | refine zo ?_ | omega | refine ztY zz.out ?_ | fail)); try (all_goals clear zz))
    all_goals exact ⟨_, .refl _, rfl⟩
theorem Q5s (e : Ex) (hL : Lim e) : ∀ σ, VCalls Tryz.prog 23 [.agg (exA e)] σ (fun x σ' => x = .b (rt e) ∧ σ' = σ) := by
  induction hL with
  | mk k op t n v l hl hr hall ih =>
    intro σ
    have hcon := X3y l (fun e he σ => ih e he σ) (by omega)
    rw [Q4d, rt_mk]
    have hn := Q1c l
    clear hr hall ih
    have hwr := Q3y v
    have hb0 : l = [] → rts l = true := fun h => by rw [h, X1t]
    generalize rts l = b at *
    generalize exsA l = LL at *
    unfold rtN
    generalize hov : okV v = ov at *
    obtain ⟨v1, v2, v3⟩ := v
    simp only at hwr
    by_cases h1 : k = 1
    · subst h1
      (refine vfun (fun k => if k = 1 then .ro else .no) Q0k Tryz.func23 (by kernel_rfl) ?_; simp only [Q0f, Tryz.f23, zw])
      (have zz := Bx.mk (j3 ui0 ui3 (j9 ui4 ui9 ui22 ui23 ui24 ui25 ui26 hn @eq23)); (repeat' (first | exact zc | (with_reducible first | apply And.intro | apply Q0a | apply Q0b | refine Q0c (by decide +kernel) ?_ | intro _) | refine zaR zz.out ?_ | refine zkN zz.out ?_ | ((first | (refine Q0l (by intro β h; first | (rcases h with h | h <;> subst h <;> (simp (disch := first | assumption | (apply zP; assumption; assumption) | (apply zQ; assumption; assumption; (intro e; cases e; done)) | omega) only [zn, zp, zq, zr, zv])) | (subst h; (simp (disch := first | assumption | (apply zP; assumption; assumption) | (apply zQ; assumption; assumption; (intro e; cases e; done)) | omega) only [zn, zp, zq, zr, zv]))) ?_) | (with_reducible refine uc (hwr _) ?_) | (with_reducible refine uc (hcon _) ?_) | (with_reducible refine uc (Q3y _ _) ?_) | (with_reducible refine uc (Q2d _ _) ?_) | (refine Q0d (by exact zK) ?_) | (refine Q0e (by exact zK) ?_)); (try refine zsR zz.out ?_)) | refine zmR zz.out ?_ | refine zo ?_ | omega | refine ztR zz.out ?_ | fail)); try (all_goals clear zz))
      all_goals exact ⟨σ, (by (exact zu)), b_eq (by simp_all <;> omega), rfl⟩
    by_cases h2 : k = 2
    · subst h2
      rw [if_neg h1]
      have hnn : isNm [] = false := rfl
      generalize hq1 : isNm n = bn at *
      generalize hq2 : isNm t = bt at *
      have hN1 : ∀ σ, VCalls Tryz.prog 54 [.s (bs n)] σ (fun x σ' => x = .b bn ∧ σ' = σ) := fun σ => by rw [← hq1]; exact Q2d n σ
      have hN2 : ∀ σ, VCalls Tryz.prog 54 [.s (bs t)] σ (fun x σ' => x = .b bt ∧ σ' = σ) := fun σ => by rw [← hq2]; exact Q2d t σ
      (refine vfun (fun k => if k = 1 then .ro else .no) Q0k Tryz.func23 (by kernel_rfl) ?_; simp only [Q0f, Tryz.f23, zw])
      (have zz := Bx.mk (j3 ui0 ui3 (j9 ui4 ui9 ui22 ui23 ui24 ui25 ui26 hn @eq23)); (repeat' (first | exact zc | (with_reducible first | apply And.intro | apply Q0a | apply Q0b | refine Q0c (by decide +kernel) ?_ | intro _) | refine zaR zz.out ?_ | refine zkN zz.out ?_ | ((first | (refine Q0l (by intro β h; first | (rcases h with h | h <;> subst h <;> (simp (disch := first | assumption | (apply zP; assumption; assumption) | (apply zQ; assumption; assumption; (intro e; cases e; done)) | omega) only [zn, zp, zq, zr, zv])) | (subst h; (simp (disch := first | assumption | (apply zP; assumption; assumption) | (apply zQ; assumption; assumption; (intro e; cases e; done)) | omega) only [zn, zp, zq, zr, zv]))) ?_) | (with_reducible refine uc (hN1 _) ?_) | (with_reducible refine uc (hN2 _) ?_) | (with_reducible refine uc (hcon _) ?_) | (with_reducible refine uc (Q3y _ _) ?_) | (with_reducible refine uc (Q2d _ _) ?_) | (refine Q0d (by exact zK) ?_) | (refine Q0e (by exact zK) ?_)); (try refine zsR zz.out ?_)) | refine zmR zz.out ?_ | refine zo ?_ | omega | refine ztR zz.out ?_ | fail)); try (all_goals clear zz))
      all_goals exact ⟨σ, (by (exact zu)), b_eq (by simp_all <;> omega), rfl⟩
    by_cases h3 : k = 3
    · subst h3
      rw [if_neg h1, if_neg h2]
      (refine vfun (fun k => if k = 1 then .ro else .no) Q0k Tryz.func23 (by kernel_rfl) ?_; simp only [Q0f, Tryz.f23, zw])
      (have zz := Bx.mk (j3 ui0 ui3 (j9 ui4 ui9 ui22 ui23 ui24 ui25 ui26 hn @eq23)); (repeat' (first | exact zc | (with_reducible first | apply And.intro | apply Q0a | apply Q0b | refine Q0c (by decide +kernel) ?_ | intro _) | refine zaR zz.out ?_ | refine zkN zz.out ?_ | ((first | (refine Q0l (by intro β h; first | (rcases h with h | h <;> subst h <;> (simp (disch := first | assumption | (apply zP; assumption; assumption) | (apply zQ; assumption; assumption; (intro e; cases e; done)) | omega) only [zn, zp, zq, zr, zv])) | (subst h; (simp (disch := first | assumption | (apply zP; assumption; assumption) | (apply zQ; assumption; assumption; (intro e; cases e; done)) | omega) only [zn, zp, zq, zr, zv]))) ?_) | (with_reducible refine uc (hcon _) ?_) | (with_reducible refine uc (Q3y _ _) ?_) | (with_reducible refine uc (Q2d _ _) ?_) | (refine Q0d (by exact zK) ?_) | (refine Q0e (by exact zK) ?_)); (try refine zsR zz.out ?_)) | refine zmR zz.out ?_ | refine zo ?_ | omega | refine ztR zz.out ?_ | fail)); try (all_goals clear zz))
      all_goals exact ⟨σ, (by (exact zu)), b_eq (by simp_all <;> omega), rfl⟩
    by_cases h4 : k = 4 ∨ k = 5 ∨ k = 6
    · rw [if_neg h1, if_neg h2, if_neg h3, if_pos h4]
      (refine vfun (fun k => if k = 1 then .ro else .no) Q0k Tryz.func23 (by kernel_rfl) ?_; simp only [Q0f, Tryz.f23, zw])
      (have zz := Bx.mk (j3 ui0 ui3 (j9 ui4 ui9 ui22 ui23 ui24 ui25 ui26 hn @eq23)); (repeat' (first | exact zc | (with_reducible first | apply And.intro | apply Q0a | apply Q0b | refine Q0c (by decide +kernel) ?_ | intro _) | refine zaR zz.out ?_ | refine zkN zz.out ?_ | ((first | (refine Q0l (by intro β h; first | (rcases h with h | h <;> subst h <;> (simp (disch := first | assumption | (apply zP; assumption; assumption) | (apply zQ; assumption; assumption; (intro e; cases e; done)) | omega) only [zn, zp, zq, zr, zv])) | (subst h; (simp (disch := first | assumption | (apply zP; assumption; assumption) | (apply zQ; assumption; assumption; (intro e; cases e; done)) | omega) only [zn, zp, zq, zr, zv]))) ?_) | (with_reducible refine uc (hcon _) ?_) | (with_reducible refine uc (Q3y _ _) ?_) | (with_reducible refine uc (Q2d _ _) ?_) | (refine Q0d (by exact zK) ?_) | (refine Q0e (by exact zK) ?_)); (try refine zsR zz.out ?_)) | refine zmR zz.out ?_ | refine zo ?_ | omega | refine ztR zz.out ?_ | fail)); try (all_goals clear zz))
      all_goals exact ⟨σ, (by (exact zu)), b_eq (by simp_all <;> omega), rfl⟩
    · rw [if_neg h1, if_neg h2, if_neg h3, if_neg h4]
      (refine vfun (fun k => if k = 1 then .ro else .no) Q0k Tryz.func23 (by kernel_rfl) ?_; simp only [Q0f, Tryz.f23, zw])
      (have zz := Bx.mk (j3 ui0 ui3 (j9 ui4 ui9 ui22 ui23 ui24 ui25 ui26 hn @eq23)); (repeat' (first | exact zc | (with_reducible first | apply And.intro | apply Q0a | apply Q0b | refine Q0c (by decide +kernel) ?_ | intro _) | refine zaR zz.out ?_ | refine zkN zz.out ?_ | ((first | (refine Q0l (by intro β h; first | (rcases h with h | h <;> subst h <;> (simp (disch := first | assumption | (apply zP; assumption; assumption) | (apply zQ; assumption; assumption; (intro e; cases e; done)) | omega) only [zn, zp, zq, zr, zv])) | (subst h; (simp (disch := first | assumption | (apply zP; assumption; assumption) | (apply zQ; assumption; assumption; (intro e; cases e; done)) | omega) only [zn, zp, zq, zr, zv]))) ?_) | (with_reducible refine uc (hcon _) ?_) | (with_reducible refine uc (Q3y _ _) ?_) | (with_reducible refine uc (Q2d _ _) ?_) | (refine Q0d (by exact zK) ?_) | (refine Q0e (by exact zK) ?_)); (try refine zsR zz.out ?_)) | refine zmR zz.out ?_ | refine zo ?_ | omega | refine ztR zz.out ?_ | fail)); try (all_goals clear zz))
      all_goals exact ⟨σ, (by (exact zu)), b_eq (by simp_all <;> omega), rfl⟩
abbrev TW : TypeId := 64
theorem x_end (B B' : Sg) (ω τ : Nat) (l : List Tk) (m : Nat) (hsub : B'.sub (WB TW [.i (m : Nat)] B ω τ l)) (hg : ∀ x ∈ l, GoodT x) (hl : l.length ≤ 2 ^ 30) : VCalls Tryz.prog 25 [.ref ω 0] (WB TW [.i (m : Nat)] B ω τ l) (fun x σ' => x = .tup [.s (bs (fin l m).1), .i (fin l m).2] ∧ σ' = B') := by
  have hwl := X2x hg
  have hW := k_write l (.tok τ 4) (fun x hx => good_wr (hg x hx)) (by omega) (by omega)
  unfold fin
  (refine vfun (fun _ => .no) Q0k Tryz.func25 (by kernel_rfl) ?_; simp only [Q0f, Tryz.f25, zw])
  (have zz := Bx.mk (j3 ui0 ui3 (j9 ui4 ui9 ui30 ui56 ui62 ui63 ui64 Q0q Q0r)); (repeat' (first | exact zc | (with_reducible first | apply And.intro | apply Q0a | apply Q0b | refine Q0c (by decide +kernel) ?_ | intro _) | refine zaY zz.out ?_ | ((first | (with_reducible refine uc (hW _) ?_) | (with_reducible refine uc (k_write _ _ (by assumption) (by assumption) (by assumption) _) ?_) | (refine Q0d (by exact zK) ?_) | (refine Q0e (by exact zK) ?_)); (try refine zsY zz.out ?_)) | refine zo ?_ | omega | refine ztY zz.out ?_ | fail)); try (all_goals clear zz))
  · exact ⟨B', hsub, by rw [if_pos (by omega)], rfl⟩
  · exact ⟨B', hsub, by rw [if_neg (by omega), if_pos (by omega)], rfl⟩
  · exact ⟨B', hsub, by rw [if_neg (by omega), if_neg (by omega)], rfl⟩
def dropA : List AV := [.i 2, .s (bs [116]), .sl .nil [], .s (bs []), .sl .nil [], .sl .nil [], .sl .nil [], .s (bs []), .sl .nil [], .sl .nil [], .sl .nil [], .sl .nil [], .b false, .i (-1)]
def X0y : List Tk := [wT [68, 82, 79, 80], wT [84, 65, 66, 76, 69], nT [116]]
theorem z_one0 (o : Own) (σ : Sg) : VCalls Tryz.prog 58 [.sl o []] σ (fun x σ' => x = .b true ∧ σ' = σ) := by
  have hc := X0k [] 44 (fun e => !rt e) o (by simp) (fun e he => by cases he)
  rw [Q1h] at hc
  simp only [List.any_nil] at hc
  (refine vfun (fun _ => .no) Q0k Tryz.func58 (by kernel_rfl) ?_; simp only [Q0f, Tryz.f58, zw])
  (have zz := Bx.mk (j9 ui3 ui4 ui9 ui22 ui23 ui24 ui25 ui26 ui34); (repeat' (first | exact zc | (with_reducible first | apply And.intro | apply Q0a | apply Q0b | refine Q0c (by decide +kernel) ?_ | intro _) | refine zaY zz.out ?_ | ((first | (with_reducible refine uc (hc _) ?_) | (refine Q0d (by exact zK) ?_) | (refine Q0e (by exact zK) ?_)); (try refine zsY zz.out ?_)) | refine zo ?_ | omega | refine ztY zz.out ?_ | fail)); try (all_goals clear zz))
  all_goals exact ⟨_, .refl _, rfl⟩
theorem z_fits (σ : Sg) : VCalls Tryz.prog 28 [.agg dropA] σ (fun x σ' => x = .b true ∧ σ' = σ) := by
  have h1 := z_one0 .nil
  have hN : ∀ σ, VCalls Tryz.prog 42 [.s (bs [116])] σ (fun x σ' => x = .b true ∧ σ' = σ) := fun σ => Q1z [116] σ
  unfold dropA
  (refine vfun (fun _ => .ro) Q0k Tryz.func28 (by kernel_rfl) ?_; simp only [Q0f, Tryz.f28, zw])
  (have zz := Bx.mk (j6 ui0 ui3 ui4 ui9 ui22 (j9 ui23 ui24 ui25 ui26 ui37 ui38 ui39 ui40 (j9 ui41 ui42 ui67 ui68 ui70 ui71 Q0t Q0u Q0v))); (repeat' (first | exact zc | (with_reducible first | apply And.intro | apply Q0a | apply Q0b | refine Q0c (by decide +kernel) ?_ | intro _) | refine zaY zz.out ?_ | ((first | (with_reducible refine uc (h1 _) ?_) | (with_reducible refine uc (hN _) ?_) | (with_reducible refine uc (Q1z _ _) ?_) | (with_reducible refine uc (Q5d _ (by assumption) _) ?_) | (with_reducible refine uc (Q2j _ (by assumption) _) ?_) | (with_reducible refine uc (Q6e _ (by assumption) (by assumption) _) ?_) | (with_reducible refine uc (Q6d _ (by assumption) (by assumption) _) ?_) | (with_reducible refine uc (Q2k _ (by assumption) _) ?_) | (refine Q0d (by exact zK) ?_) | (refine Q0e (by exact zK) ?_)); (try refine zsY zz.out ?_)) | refine zo ?_ | omega | refine ztY zz.out ?_ | fail)); try (all_goals clear zz))
  all_goals exact ⟨_, .refl _, rfl⟩
theorem z_state (B : Sg) (ω τ : Nat) (hok : okS B ω τ) : VCalls Tryz.prog 30 [.ref ω 0, .agg dropA] (WS B ω τ [] 0 0) (fun x σ' => x = .tup [] ∧ ∃ τ', okS B ω τ' ∧ σ' = WS B ω τ' X0y 0 0) := by
  unfold dropA
  (refine vfun (fun _ => .ro) Q0k Tryz.func30 (by kernel_rfl) ?_; simp only [Q0f, Tryz.f30, zw])
  (have zz := Bx.mk (j5 ui0 ui3 ui4 ui9 (j9 ui22 ui23 ui24 ui25 ui26 ui37 ui38 ui39 (j9 ui40 ui41 ui42 ui55 ui56 ui57 ui58 ui59 (j9 ui67 ui68 ui70 ui71 ui75 Q0q Q0r Q0t (j9 Q0u Q0v @Q1t @Q1u @Q1n @Q1o @Q1v @Q1w WLg))))); (repeat' (first | exact zc | (with_reducible first | apply And.intro | apply Q0a | apply Q0b | refine Q0c (by decide +kernel) ?_ | intro _) | ((with_reducible first | refine .dms (fun x => False) [(0, false), (1, false), (2, false), (3, true), (4, false), (5, true)] (by decide) (by decide +kernel) ?_ | refine .dm (fun x => False) [(0, false), (1, false), (2, false), (3, true), (4, false), (5, true)] (by decide) (by decide +kernel) ?_); (refine zsR zz.out ?_)) | ((with_reducible first | refine .dms (fun x => False) [(0, false), (1, false), (2, false), (3, true), (4, false), (5, true)] (by decide) (by decide +kernel) ?_ | refine .dm (fun x => False) [(0, false), (1, false), (2, false), (3, true), (4, false), (5, true)] (by decide) (by decide +kernel) ?_); (refine zsR zz.out ?_)) | refine zaR zz.out ?_ | refine zkN zz.out ?_ | ((first | (refine Q0l (by intro β h; first | (rcases h with h | h <;> subst h <;> (simp (disch := first | assumption | (apply zP; assumption; assumption) | (apply zQ; assumption; assumption; (intro e; cases e; done)) | omega) only [zn, zp, zq, zr, zv])) | (subst h; (simp (disch := first | assumption | (apply zP; assumption; assumption) | (apply zQ; assumption; assumption; (intro e; cases e; done)) | omega) only [zn, zp, zq, zr, zv]))) ?_) | ((with_reducible refine zS (Q0n _ _ _ _ _ _ _ _ (by repeat (first | exact Q0j | refine Q0g ?_ (by simp))) (by exact zO) (by exact zN)) ?_); rintro _ S ⟨rfl, τ1, ⟨f1, n1⟩, rfl⟩; have n1s := n1.symm) | ((with_reducible refine zS (Q2n _ _ _ _ _ _ _ (by exact zO) (by exact zN)) ?_); rintro _ S ⟨rfl, τ1, ⟨f1, n1⟩, rfl⟩; have n1s := n1.symm) | ((with_reducible refine zS (Q0n _ _ _ _ _ _ _ _ (by repeat (first | exact Q0j | refine Q0g ?_ (by simp))) (by exact zO) (by exact zN)) ?_); rintro _ S ⟨rfl, τ1, ⟨f1, n1⟩, rfl⟩; have n1s := n1.symm) | ((with_reducible refine zS (Q2n _ _ _ _ _ _ _ (by exact zO) (by exact zN)) ?_); rintro _ S ⟨rfl, τ1, ⟨f1, n1⟩, rfl⟩; have n1s := n1.symm) | (refine Q0d (by exact zK) ?_) | (refine Q0e (by exact zK) ?_)); (try refine zsR zz.out ?_)) | refine zmR zz.out ?_ | refine zo ?_ | omega | refine ztR zz.out ?_ | fail)); try (all_goals clear zz))
  exact ⟨_, .refl _, _, ⟨by assumption, by assumption⟩, rfl⟩
theorem drop_good : ∀ x ∈ X0y, GoodT x := by
  intro x hx
  simp only [X0y, List.mem_cons, List.not_mem_nil, or_false] at hx
  rcases hx with rfl | rfl | rfl
  · exact .inr (.inl ⟨rfl, by decide, rfl⟩)
  · exact .inr (.inl ⟨rfl, by decide, rfl⟩)
  · exact .inl ⟨rfl, by decide, rfl⟩
theorem drop_fin : fin X0y 0 = ([68, 82, 79, 80, 32, 84, 65, 66, 76, 69, 32, 116], 0) := by decide +kernel
theorem z_script (σ : Sg) : VCalls Tryz.prog 15 [.sl .full [dropA]] σ (fun x σ' => x = .tup [.s (bs [68, 82, 79, 80, 32, 84, 65, 66, 76, 69, 32, 116]), .i 0] ∧ σ' = σ) := by
  have hf := z_fits
  have hl : dropA.length = 14 := rfl
  have hone : dropA.all AV.one = true := rfl
  have ht : dropA.take 14 = dropA := rfl
  have hst : ∀ (S : Sg) (ω : Nat), S ω = some (.cells 59 [.sl .nil [], .i 0, .i 0]) → VCalls Tryz.prog 30 [.ref ω 0, .agg dropA] S (fun x σ' => x = .tup [] ∧ ∃ τ', okS S ω τ' ∧ σ' = WS S ω τ' X0y 0 0) := fun S ω hS => by
    refine VCalls.tok0 (e := 102) 0 4 hS rfl (fun τ hτ hne => ?_)
    exact z_state S ω τ ⟨hτ, hne⟩
  generalize dropA = D at *
  (refine vfun (fun _ => .no) Q0k Tryz.func15 (by kernel_rfl) ?_; simp only [Q0f, Tryz.f15, zw])
  (have zz := Bx.mk (j4 ui0 ui3 ui4 (j9 ui9 ui22 ui23 ui24 ui25 ui26 ui30 ui31 (j9 ui35 ui37 ui38 ui39 ui40 ui41 ui42 ui55 (j9 ui56 ui57 ui58 ui59 ui67 ui68 ui70 ui71 (j9 ui75 Q0q Q0r Q0t Q0u Q0v hl hone ht))))); (repeat' (first | exact zc | (with_reducible first | apply And.intro | apply Q0a | apply Q0b | refine Q0c (by decide +kernel) ?_ | intro _) | refine zaY zz.out ?_ | ((first | (with_reducible refine uc (Q6f _ (by assumption) (by assumption) _) ?_) | ((with_reducible refine zS (Q0n _ _ _ _ _ _ _ _ (by repeat (first | exact Q0j | refine Q0g ?_ (by simp))) (by exact zO) (by exact zN)) ?_); rintro _ S ⟨rfl, τ1, ⟨f1, n1⟩, rfl⟩; have n1s := n1.symm) | (refine Q0d (by exact zK) ?_) | (refine Q0e (by exact zK) ?_)); (try refine zsY zz.out ?_)) | refine zo ?_ | omega | refine ztY zz.out ?_ | fail)); try (all_goals clear zz))
  rename_i ω hω
  refine VW.loop3 (0 : Nat) (0 : Nat) () (fun k τ _ => (k = 0 ∨ k = 1) ∧ (k = 1 → okS (σ.set ω (.cells 59 [.sl .nil [], .i 0, .i 0])) ω τ)) (fun k _ _ => [(2, .s (bs [])), (3, .i 0), (4, .ref ω 0), (17, .sl .full [D]), (18, .i 1), (19, .i k)]) (fun k τ _ => if k = 0 then σ.set ω (.cells 59 [.sl .nil [], .i 0, .i 0]) else WS (σ.set ω (.cells 59 [.sl .nil [], .i 0, .i 0])) ω τ X0y 0 0) (fun k _ _ => 1 - k) ⟨.inl rfl, fun h => by cases h⟩ (.refl _) ?_ ?_
  · simp only [vO, vQ, ↓vP, vE, vS, vB, vL, vF, vM, vN, Q0i, zb, zd, ze, ne_eq, not_false_eq_true, zf, zg, zk, zl, vT]
    all_goals first | rfl | exact ⟨rfl, rfl⟩
  rintro k τ _ ⟨hk, hτ⟩
  rcases hk with rfl | rfl
  · simp only [↓reduceIte]
    (have zz := Bx.mk (j4 ui0 ui3 ui4 (j9 ui9 ui22 ui23 ui24 ui25 ui26 ui30 ui31 (j9 ui35 ui37 ui38 ui39 ui40 ui41 ui42 ui55 (j9 ui56 ui57 ui58 ui59 ui67 ui68 ui70 ui71 (j9 ui75 Q0q Q0r Q0t Q0u Q0v hl hone ht))))); (repeat' (first | exact zc | (with_reducible first | apply And.intro | apply Q0a | apply Q0b | refine Q0c (by decide +kernel) ?_ | intro _) | refine zaY zz.out ?_ | ((first | (with_reducible refine uc (hf _) ?_) | ((with_reducible refine zS (hst _ _ (by exact zK)) ?_); rintro _ S ⟨rfl, τ1, hok, rfl⟩) | (with_reducible refine uc (Q6f _ (by assumption) (by assumption) _) ?_) | ((with_reducible refine zS (Q0n _ _ _ _ _ _ _ _ (by repeat (first | exact Q0j | refine Q0g ?_ (by simp))) (by exact zO) (by exact zN)) ?_); rintro _ S ⟨rfl, τ1, ⟨f1, n1⟩, rfl⟩; have n1s := n1.symm) | (refine Q0d (by exact zK) ?_) | (refine Q0e (by exact zK) ?_)); (try refine zsY zz.out ?_)) | refine zo ?_ | omega | refine ztY zz.out ?_ | fail)); try (all_goals clear zz))
    rename_i x hx hne _
    have f1 := (Sg.none_set hok.free).2
    refine ⟨1, τ1, (), ⟨⟨.inr rfl, fun _ => ⟨f1, hok.ne⟩⟩, by decide⟩, ?_, rfl⟩
    rw [if_neg (by decide)]
    have f2 := (Sg.none_set hok.free).1
    have f3 := (Sg.none_set f1).2
    intro y p hy
    simp only [WS, Q8c, Sg.set_apply] at hy ⊢
    grind
  · have hτ := hτ rfl
    simp only [show ¬ ((1 : Nat) = 0) from by decide, ↓reduceIte]
    (have zz := Bx.mk (j4 ui0 ui3 ui4 (j9 ui9 ui22 ui23 ui24 ui25 ui26 ui30 ui31 (j9 ui35 ui37 ui38 ui39 ui40 ui41 ui42 ui55 (j9 ui56 ui57 ui58 ui59 ui67 ui68 ui70 ui71 (j9 ui75 Q0q Q0r Q0t Q0u Q0v hl hone ht))))); (repeat' (first | exact zc | (with_reducible first | apply And.intro | apply Q0a | apply Q0b | refine Q0c (by decide +kernel) ?_ | intro _) | refine zaY zz.out ?_ | ((first | (with_reducible refine uc (Q6f _ (by assumption) (by assumption) _) ?_) | ((with_reducible refine zS (Q0n _ _ _ _ _ _ _ _ (by repeat (first | exact Q0j | refine Q0g ?_ (by simp))) (by exact zO) (by exact zN)) ?_); rintro _ S ⟨rfl, τ1, ⟨f1, n1⟩, rfl⟩; have n1s := n1.symm) | (refine Q0d (by exact zK) ?_) | (refine Q0e (by exact zK) ?_)); (try refine zsY zz.out ?_)) | refine zo ?_ | omega | refine ztY zz.out ?_ | fail)); try (all_goals clear zz))
    have f1 := (Sg.none_set hτ.free).2
    have n1 := hτ.ne
    refine zS (w_end _ σ ω τ X0y 0 0 ?_ drop_good (by decide)) ?_
    · intro y p hy
      show (WS _ ω τ X0y 0 0) y = some p
      simp only [WS, Q8c, Sg.set_apply]
      grind
    rw [drop_fin]
    rintro _ S2 ⟨rfl, rfl⟩
    simp only [vO, vQ, ↓vP, vE, vS, vB, vL, vF, vM, vN, Q0i, zb, zd, ze, ne_eq, not_false_eq_true, zf, zg, zk, zl, vT]
    (have zz := Bx.mk (j9 ui0 ui3 ui4 ui9 ui22 ui23 ui24 ui25 (j9 ui26 ui30 ui31 ui35 ui37 ui38 ui39 ui40 (j9 ui41 ui42 ui55 ui56 ui57 ui58 ui59 ui67 (j9 ui68 ui70 ui71 ui75 Q0q Q0r Q0t Q0u Q0v)))); (repeat' (first | exact zc | (with_reducible first | apply And.intro | apply Q0a | apply Q0b | refine Q0c (by decide +kernel) ?_ | intro _) | refine zaY zz.out ?_ | ((first | (with_reducible refine uc (Q6f _ (by assumption) (by assumption) _) ?_) | ((with_reducible refine zS (Q0n _ _ _ _ _ _ _ _ (by repeat (first | exact Q0j | refine Q0g ?_ (by simp))) (by exact zO) (by exact zN)) ?_); rintro _ S ⟨rfl, τ1, ⟨f1, n1⟩, rfl⟩; have n1s := n1.symm) | (refine Q0d (by exact zK) ?_) | (refine Q0e (by exact zK) ?_)); (try refine zsY zz.out ?_)) | refine zo ?_ | omega | refine ztY zz.out ?_ | fail)); try (all_goals clear zz))
    all_goals exact ⟨_, .refl _, rfl⟩
end Go.Proofs.YtjdapkelojdefaaGreatDoor
namespace Go.V
theorem AVw.els {es es' : List (List AV)} (hl : es.length = es'.length) (h : ∀ (i : Nat) (e e' : List AV), es[i]? = some e → es'[i]? = some e' → e.length = e'.length ∧ ∀ (j : Nat) (x x' : AV), e[j]? = some x → e'[j]? = some x' → AVw x x') : AVw (.sl .any es) (.sl .any es') := fun κ v hr => by
  have hget : ∀ (i : Nat) (e' : List AV), es'[i]? = some e' → ∃ e, es[i]? = some e := fun i e' h' => by
    have hi : i < es.length := by rw [hl]; exact (List.getElem?_eq_some_iff.1 h').1
    exact ⟨_, List.getElem?_eq_getElem hi⟩
  cases hr with
  | slnil _ hk =>
    obtain rfl : es' = [] := List.eq_nil_of_length_eq_zero hl.symm
    exact .slnil _ hk
  | slemp _ hk a c =>
    obtain rfl : es' = [] := List.eq_nil_of_length_eq_zero hl.symm
    exact .slemp _ hk a c
  | sl _ _ a n c sz f hk hn hc hs hz hrd hx =>
    refine .sl _ es' a n c sz f hk (by omega) hc hs (fun i e' h' => ?_) hrd (fun i j e' x' h1 h2 => ?_)
    · obtain ⟨e, he⟩ := hget i e' h'
      rw [← (h i e e' he h').1]; exact hz i e he
    · obtain ⟨e, he⟩ := hget i e' h1
      obtain ⟨q1, q2⟩ := h i e e' he h1
      have hj : j < e.length := by rw [q1]; exact (List.getElem?_eq_some_iff.1 h2).1
      exact q2 j _ x' (List.getElem?_eq_getElem hj) h2 κ _ (hx i j e _ he (List.getElem?_eq_getElem hj))
end Go.V
namespace Go.Proofs.YtjdapkelojdefaaGreatDoor
open Go Go.V Go.Lex Go.Parse Go.Print
abbrev five : Ex := .mk 1 0 [] [] (1, 5, []) []
abbrev X2c : Ex := .mk 5 0 [] [] (0, 0, []) [five]
theorem AVw.one (o : Own) (e : Ex) (k op : Int) (t n : By) (v : Vl) (q : Own) : AVw (.agg [.i k, .i op, .s (bs t), .s (bs n), .i v.1, .i v.2.1, .s (bs v.2.2), .sl o [exK q e]]) (.agg (exA (.mk k op t n v [e]))) := by
  rw [Q4d, Q1j, Q1h]
  refine AVw.agg rfl (fun i x x' h1 h2 => ?_)
  match i, h1, h2 with
  | 0, h1, h2 | 1, h1, h2 | 2, h1, h2 | 3, h1, h2 | 4, h1, h2 | 5, h1, h2 | 6, h1, h2 => cases h1; cases h2; exact AVw.refl _
  | 7, h1, h2 =>
    cases h1; cases h2
    have hh : AVw (.sl .any [exK q e]) (.sl .any [exA e]) := by
      refine AVw.els rfl (fun i a a' h1 h2 => ?_)
      match i, h1, h2 with
      | 0, h1, h2 =>
        cases h1; cases h2
        cases e with
        | mk k2 op2 t2 n2 v2 l2 =>
        rw [Q4d, exK_mk]
        refine ⟨rfl, fun j y y' g1 g2 => ?_⟩
        match j, g1, g2 with
        | 0, g1, g2 | 1, g1, g2 | 2, g1, g2 | 3, g1, g2 | 4, g1, g2 | 5, g1, g2 | 6, g1, g2 => cases g1; cases g2; exact AVw.refl _
        | 7, g1, g2 => cases g1; cases g2; exact AVw.any _ _
    exact fun κ v hr => hh κ v (AVw.any _ _ κ v hr)
theorem five_lim : Lim X2c := by
  have r0 : inR 0 := by unfold inR; omega
  refine .mk _ _ _ _ _ _ (by simp) ⟨by unfold inR; omega, r0, r0, r0⟩ (fun e he => ?_)
  simp at he
  subst he
  exact .mk _ _ _ _ _ _ (by simp) ⟨by unfold inR; omega, r0, by unfold inR; simp, by unfold inR; simp⟩ (fun e he => by cases he)
theorem five_txt : rt X2c = true ∧ (toTr X2c).tk.length ≤ 2 ^ 30 ∧ exprR X2c = ([45, 32, 40, 32, 53, 32, 41], 0) := by decide +kernel
theorem z_small (σ : Sg) : VCalls Tryz.prog 8 [] σ (fun x σ' => x = .b true ∧ σ' = σ) := by
  obtain ⟨_, q2, q3⟩ := five_txt
  have hE : ∀ σ, VCalls Tryz.prog 11 [.agg [.i 5, .i 0, .s (bs []), .s (bs []), .i 0, .i 0, .s (bs []), .sl .full [[.i 1, .i 0, .s (bs []), .s (bs []), .i 1, .i 5, .s (bs []), .sl .nil []]]]] σ (fun x σ' => x = .tup [.s (bs [45, 32, 40, 32, 53, 32, 41]), .i 0] ∧ σ' = σ) := fun σ => by
    have h := w_Expr X2c five_lim (fun _ => q2) σ
    rw [q3] at h
    exact VCalls.arg1 (AVw.one .full five 5 0 [] [] (0, 0, []) .nil) h
  have hS := z_script
  unfold dropA at hS
  (refine vfun (fun _ => .no) Q0k Tryz.func8 (by kernel_rfl) ?_; simp only [Q0f, Tryz.f8, zw])
  (have zz := Bx.mk (j9 ui0 ui3 ui4 ui9 ui22 ui23 ui24 ui25 (j9 ui26 ui30 ui31 ui35 ui37 ui38 ui39 ui40 (j9 ui41 ui42 ui67 ui68 ui70 ui71 Q0t Q0u Q0v))); (repeat' (first | exact zc | (with_reducible first | apply And.intro | apply Q0a | apply Q0b | refine Q0c (by decide +kernel) ?_ | intro _) | refine zaY zz.out ?_ | ((first | (with_reducible refine uc (hE _) ?_) | (with_reducible refine uc (hS _) ?_) | (with_reducible refine uc (w_Expr _ (by assumption) (by assumption) _) ?_) | (refine Q0d (by exact zK) ?_) | (refine Q0e (by exact zK) ?_)); (try refine zsY zz.out ?_)) | refine zo ?_ | omega | refine ztY zz.out ?_ | fail)); try (all_goals clear zz))
  all_goals (exact zE)
theorem x_few : ∀ (d : Nat), d ≤ 100 → ∀ (e : Ex) (σ : Sg), VCalls Tryz.prog 9 [.agg (exA e), .i d] σ (fun x σ' => x = .b (fewB d e) ∧ σ' = σ)
  | 0, _, e, σ => by
    have hel := Q1a e
    unfold fewB
    generalize exA e = E at *
    (refine vfun (fun k => if k = 2 then .ro else .no) Q0k Tryz.func9 (by kernel_rfl) ?_; simp only [Q0f, Tryz.f9, zw])
    (have zz := Bx.mk (j2 ui0 (j9 ui3 ui4 ui9 ui22 ui23 ui24 ui25 ui26 hel)); (repeat' (first | exact zc | (with_reducible first | apply And.intro | apply Q0a | apply Q0b | refine Q0c (by decide +kernel) ?_ | intro _) | refine zaY zz.out ?_ | ((first | (refine Q0d (by exact zK) ?_) | (refine Q0e (by exact zK) ?_)); (try refine zsY zz.out ?_)) | refine zo ?_ | omega | refine ztY zz.out ?_ | fail)); try (all_goals clear zz))
    all_goals exact ⟨_, .refl _, rfl⟩
  | d + 1, hd, .mk kk op t n v l, σ => by
    have ih := fun e σ => x_few d (by omega) e σ
    have hn := Q1c l
    have hall := Q9l l
    have hgt := fun k (h : k < l.length) => X3x (l := l) h
    have hst := Q4h t
    have hsn := Q4h n
    have hsv := Q4h v.2.2
    rw [Q4d]
    unfold fewB
    have hd1 : (((d + 1 : Nat) : Int)) = (d : Int) + 1 := by omega
    rw [hd1]
    by_cases hf : l.length ≤ 3 ∧ t.length ≤ 4096 ∧ n.length ≤ 4096 ∧ v.2.2.length ≤ 4096
    · rw [decide_eq_true hf, Bool.true_and]
      obtain ⟨f1, f2, f3, f4⟩ := hf
      (refine vfun (fun k => if k = 2 then .ro else .no) Q0k Tryz.func9 (by kernel_rfl) ?_; simp only [Q0f, Tryz.f9, zw])
      (have zz := Bx.mk (j6 ui0 ui3 ui4 ui9 ui22 (j9 ui23 ui24 ui25 ui26 hn hall hst hsn hsv)); (repeat' (first | exact zc | (with_reducible first | apply And.intro | apply Q0a | apply Q0b | refine Q0c (by decide +kernel) ?_ | intro _) | refine zaY zz.out ?_ | ((first | (refine Q0d (by exact zK) ?_) | (refine Q0e (by exact zK) ?_)); (try refine zsY zz.out ?_)) | refine zo ?_ | omega | refine ztY zz.out ?_ | fail)); try (all_goals clear zz))
      refine VW.loop3 (0 : Nat) () () (fun k _ _ => k ≤ l.length ∧ l.all (fewB d) = (l.drop k).all (fewB d)) (fun k _ _ => [(1, .i ((d : Int) + 1)), (2, .ro [.i kk, .i op, .s (bs t), .s (bs n), .i v.1, .i v.2.1, .s (bs v.2.2), .sl .any (exsA l)]), (5, .i k)]) (fun _ _ _ => σ) (fun k _ _ => l.length - k) ⟨Nat.zero_le _, rfl⟩ (.refl _) ?_ ?_
      · simp only [vO, vQ, ↓vP, vE, vS, vB, vL, vF, vM, vN, Q0i, zb, zd, ze, ne_eq, not_false_eq_true, zf, zg, zk, zl, vT]
        all_goals rfl
      rintro k _ _ ⟨hk, hr⟩
      have hsub : (d : Int) + 1 - 1 = d := by omega
      rcases Nat.lt_or_ge k l.length with hk2 | hk2
      · have hg := hgt k hk2
        have hp := ih l[k]
        have hdr : (l.drop k).all (fewB d) = (fewB d l[k] && (l.drop (k + 1)).all (fewB d)) := by rw [List.drop_eq_getElem_cons hk2, List.all_cons]
        have hFl := Q1a l[k]
        have hFt := Q1b l[k]
        generalize exA l[k] = E at *
        generalize fewB d l[k] = b at *
        cases b with
        | false =>
          rw [hr, hdr]
          (have zz := Bx.mk (j7 ui0 ui3 ui4 ui9 ui22 ui23 (j9 ui24 ui25 ui26 hn hall hg hFl hFt hsub)); (repeat' (first | exact zc | (with_reducible first | apply And.intro | apply Q0a | apply Q0b | refine Q0c (by decide +kernel) ?_ | intro _) | refine zaY zz.out ?_ | ((first | (with_reducible refine uc (hp _) ?_) | (refine Q0d (by exact zK) ?_) | (refine Q0e (by exact zK) ?_)); (try refine zsY zz.out ?_)) | refine zo ?_ | omega | refine ztY zz.out ?_ | fail)); try (all_goals clear zz))
          all_goals first | exact ⟨_, .refl _, rfl⟩ | exact ⟨_, .refl _, rfl, rfl⟩
        | true =>
          (have zz := Bx.mk (j7 ui0 ui3 ui4 ui9 ui22 ui23 (j9 ui24 ui25 ui26 hn hall hg hFl hFt hsub)); (repeat' (first | exact zc | (with_reducible first | apply And.intro | apply Q0a | apply Q0b | refine Q0c (by decide +kernel) ?_ | intro _) | refine zaY zz.out ?_ | ((first | (with_reducible refine uc (hp _) ?_) | (refine Q0d (by exact zK) ?_) | (refine Q0e (by exact zK) ?_)); (try refine zsY zz.out ?_)) | refine zo ?_ | omega | refine ztY zz.out ?_ | fail)); try (all_goals clear zz))
          exact ⟨k + 1, (), (), ⟨⟨hk2, by rw [hr, hdr]; rfl⟩, by omega⟩, .refl _, rfl⟩
      · rw [hr, List.drop_of_length_le hk2]
        (have zz := Bx.mk (j3 ui0 ui3 (j9 ui4 ui9 ui22 ui23 ui24 ui25 ui26 hn hall)); (repeat' (first | exact zc | (with_reducible first | apply And.intro | apply Q0a | apply Q0b | refine Q0c (by decide +kernel) ?_ | intro _) | refine zaY zz.out ?_ | ((first | (refine Q0d (by exact zK) ?_) | (refine Q0e (by exact zK) ?_)); (try refine zsY zz.out ?_)) | refine zo ?_ | omega | refine ztY zz.out ?_ | fail)); try (all_goals clear zz))
        all_goals first | exact ⟨_, .refl _, rfl⟩ | exact ⟨_, .refl _, rfl, rfl⟩
    · rw [decide_eq_false hf, Bool.false_and]
      (refine vfun (fun k => if k = 2 then .ro else .no) Q0k Tryz.func9 (by kernel_rfl) ?_; simp only [Q0f, Tryz.f9, zw])
      (have zz := Bx.mk (j6 ui0 ui3 ui4 ui9 ui22 (j9 ui23 ui24 ui25 ui26 hn hall hst hsn hsv)); (repeat' (first | exact zc | (with_reducible first | apply And.intro | apply Q0a | apply Q0b | refine Q0c (by decide +kernel) ?_ | intro _) | refine zaY zz.out ?_ | ((first | (refine Q0d (by exact zK) ?_) | (refine Q0e (by exact zK) ?_)); (try refine zsY zz.out ?_)) | refine zo ?_ | omega | refine ztY zz.out ?_ | fail)); try (all_goals clear zz))
      all_goals first | exact ⟨_, .refl _, rfl⟩ | (exfalso; omega)
end Go.Proofs.YtjdapkelojdefaaGreatDoor
namespace Go.V
open Go.RowKit
variable {P : Program}
def K0 (w : World) : K := ⟨w, fun _ _ => False, fun _ => none, w.heap.size⟩
def S0 : Sg := fun _ => none
theorem st0 (w : World) (hg : Glob (K0 w)) : St (K0 w) S0 where
  ob _ _ h := by cases h
  apart _ _ _ _ _ _ _ _ _ _ h := by cases h
  fin := ⟨0, fun _ _ => rfl⟩
  mlt _ _ h := h.elim
  bas := Nat.le_refl _
  glob := hg
theorem VCalls.calls {f : FuncId} {fn : Func} {args : List AV} {vs : Array Value} {w : World} (hf : P.funcs[f]? = some fn) (hb : (fn.body.isSome && !(fn.name == "runtime.NumGoroutine")) = true)
    (h : VCalls P f args S0 (fun x _ => x = .b true)) (hr : Q7b (K0 w) args vs) (hg : Glob (K0 w)) : Calls P f vs w fun e w' => e = .returned (.bool true) ∧ Below w.heap.size w w' := by
  simp only [Bool.and_eq_true] at hb
  obtain ⟨h1, h2⟩ := hb
  obtain ⟨c, hc⟩ : ∃ c, fn.body = some c := by
    cases hh : fn.body with
    | none => rw [hh] at h1; cases h1
    | some c => exact ⟨c, rfl⟩
  have hrun : (callFunc f vs).run P w = .ok (.enter f vs) w := by
    have h3 : fn.name ≠ "runtime.NumGoroutine" := by simpa using h2
    simp [callFunc, program, Sem.run, Bind.bind, Sem.bind, hf, h3, hc]
  have hd := h.go (K0 w) vs (st0 w hg) hr
  rw [show (K0 w).w = w from rfl, hrun] at hd
  have hcalls : Calls P f vs w (PostE (K0 w) (fun x _ => x = .b true)) := hd
  refine hcalls.mono fun e w' hp => ?_
  cases e with
  | returned v =>
    obtain ⟨κ', x, σ', rfl, hle, hst, hrel, rfl⟩ := hp
    refine ⟨?_, ⟨hle.os, hle.tape, hle.output, hle.size, fun k hk => hle.block k hk⟩⟩
    cases hrel
    rfl
  | _ => exact hp.elim
end Go.V
namespace Go.V
open Go.RowKit
variable {P : Program}
inductive AT (P : Program) : TypeId → List AV → Prop
  | bool {t : TypeId} {b : Bool} (h : P.underlying t = some .bool) : AT P t [.b b]
  | int {t : TypeId} {k : IntKind} {n : Int} (h : P.underlying t = some (.int k)) (hw : (Lit.int k n).wf = true) : AT P t [.val (.int k n)]
  | str {t : TypeId} {s : ByteArray} (h : P.underlying t = some .string) (hs : s.size ≤ maxLen) : AT P t [.s s]
  | nil {t e : TypeId} (h : P.underlying t = some (.slice e)) : AT P t [.sl .nil []]
  | sl {t e : TypeId} {es : List (List AV)} (h : P.underlying t = some (.slice e)) (hn : es.length ≤ reachBytes) (hes : ∀ x ∈ es, AT P e x) : AT P t [.sl .view es]
  | struct {t : TypeId} {fs : Array Field} {cs : List AV} (h : P.underlying t = some (.struct fs)) (hl : cs.length = P.cellsOf t) (hf : ∀ f ∈ fs.toList, AT P f.type ((cs.drop f.offset).take (P.cellsOf f.type))) : AT P t cs
  | array {t e : TypeId} {n : Nat} {cs : List AV} (h : P.underlying t = some (.array n e)) (hl : cs.length = P.cellsOf t) (he : ∀ i, i < n → AT P e ((cs.drop (i * P.cellsOf e)).take (P.cellsOf e))) : AT P t cs
def laidF (P : Program) (total : Nat) : List Field → Nat → Bool
  | [], off => off == total
  | f :: r, off => f.offset == off && laidF P total r (off + P.cellsOf f.type)
def X3z (P : Program) (l : List TypeId) : Bool := l.all fun t =>
  match P.underlying t with
  | some .bool | some (.int _) | some .string => true
  | some (.slice e) => l.contains e && decide (0 < P.cellsOf e) && decide (0 < P.bytesOf e)
  | some (.struct fs) => fs.toList.all (fun f => l.contains f.type) && laidF P (P.cellsOf t) fs.toList 0
  | some (.array n e) => l.contains e && n * P.cellsOf e == P.cellsOf t
  | _ => false
def RL (κ : K) (cs : List AV) (vs : List Value) : Prop := cs.length = vs.length ∧ ∀ (i : Nat) (x : AV) (v : Value), cs[i]? = some x → vs[i]? = some v → Rel κ x v
theorem RL.one {κ : K} {x : AV} {v : Value} (h : Rel κ x v) : RL κ [x] [v] := ⟨rfl, fun i y u h1 h2 => by
  cases i with
  | zero => simp at h1 h2; subst h1; subst h2; exact h
  | succ i => simp at h1⟩
theorem RL.app {κ : K} {a b : List AV} {u v : List Value} (h : RL κ a u) (h' : RL κ b v) : RL κ (a ++ b) (u ++ v) := by
  refine ⟨by simp [h.1, h'.1], fun i x y h1 h2 => ?_⟩
  rcases Nat.lt_or_ge i a.length with hi | hi
  · rw [List.getElem?_append_left hi] at h1
    rw [List.getElem?_append_left (by rw [← h.1]; exact hi)] at h2
    exact h.2 i x y h1 h2
  · rw [List.getElem?_append_right hi] at h1
    rw [List.getElem?_append_right (by rw [← h.1]; exact hi), ← h.1] at h2
    exact h'.2 _ x y h1 h2
theorem X1f {α β : Type} {g : α → Option β} : ∀ {l : List α} {ys : List β}, l.mapM g = some ys → ys.length = l.length
  | [], ys, h => by simp at h; subst h; rfl
  | a :: l, ys, h => by
    rw [List.mapM_cons] at h
    cases ha : g a with
    | none => rw [ha] at h; cases h
    | some y =>
      rw [ha] at h
      cases hr : l.mapM g with
      | none => rw [hr] at h; cases h
      | some zs =>
        rw [hr] at h
        cases h
        simp [X1f hr]
theorem Q9m {α β : Type} {g : α → Option β} : ∀ {l : List α} {ys : List β} {i : Nat} {x : α}, l.mapM g = some ys → l[i]? = some x → ∃ y, ys[i]? = some y ∧ g x = some y
  | [], _, _, _, _, hx => by simp at hx
  | a :: l, ys, i, x, h, hx => by
    rw [List.mapM_cons] at h
    cases ha : g a with
    | none => rw [ha] at h; cases h
    | some y =>
      rw [ha] at h
      cases hr : l.mapM g with
      | none => rw [hr] at h; cases h
      | some zs =>
        rw [hr] at h
        cases h
        cases i with
        | zero => simp at hx; subst hx; exact ⟨y, rfl, ha⟩
        | succ i => simp at hx; simpa using Q9m hr hx
theorem X2y {κ : K} {vs : List Value} (P : Program) : ∀ (fs : List Field) (off : Nat), laidF P vs.length fs off = true → off ≤ vs.length → (∀ f ∈ fs, ∃ cs, AT P f.type cs ∧ RL κ cs ((vs.drop f.offset).take (P.cellsOf f.type)) ∧ f.offset + P.cellsOf f.type ≤ vs.length) →
    ∃ cs, RL κ cs (vs.drop off) ∧ ∀ f ∈ fs, off ≤ f.offset ∧ AT P f.type ((cs.drop (f.offset - off)).take (P.cellsOf f.type))
  | [], off, hl, _, _ => by
    simp only [laidF, beq_iff_eq] at hl
    exact ⟨[], by rw [List.drop_of_length_le (by omega)]; exact ⟨rfl, fun i x v h => by simp at h⟩, fun f hf => by cases hf⟩
  | f :: fs, off, hl, ho, hf => by
    simp only [laidF, Bool.and_eq_true, beq_iff_eq] at hl
    obtain ⟨he, hl⟩ := hl
    subst he
    obtain ⟨c, h1, h2, h3⟩ := hf f (by simp)
    obtain ⟨cs, h4, h5⟩ := X2y (κ := κ) P fs _ hl h3 (fun g hg => hf g (by simp [hg]))
    have hclen : c.length = P.cellsOf f.type := by rw [h2.1]; simp; omega
    refine ⟨c ++ cs, ?_, fun g hg => ?_⟩
    · have := h2.app h4
      rw [← List.drop_drop, List.take_append_drop] at this
      exact this
    · rcases List.mem_cons.1 hg with rfl | hg
      · refine ⟨Nat.le_refl _, ?_⟩
        rw [Nat.sub_self, List.drop_zero, List.take_append_of_le_length (by omega), List.take_of_length_le (by omega)]
        exact h1
      · obtain ⟨h6, h7⟩ := h5 g hg
        refine ⟨by omega, ?_⟩
        rw [show g.offset - f.offset = c.length + (g.offset - (f.offset + P.cellsOf f.type)) by omega, ← List.drop_drop, List.drop_left]
        exact h7
theorem array_row {κ : K} {vs : List Value} (P : Program) (e : TypeId) (n : Nat) : ∀ (m k : Nat), k + m = n → vs.length = n * P.cellsOf e → (∀ i, i < n → ∃ cs, AT P e cs ∧ RL κ cs ((vs.drop (i * P.cellsOf e)).take (P.cellsOf e))) →
    ∃ cs, RL κ cs (vs.drop (k * P.cellsOf e)) ∧ ∀ i, i < m → AT P e ((cs.drop (i * P.cellsOf e)).take (P.cellsOf e))
  | 0, k, hk, hl, _ => ⟨[], by rw [List.drop_of_length_le (by rw [hl, show k = n by omega]; exact Nat.le_refl _)]; exact ⟨rfl, fun i x v h => by simp at h⟩, fun i hi => by omega⟩
  | m + 1, k, hk, hl, hf => by
    obtain ⟨c, h1, h2⟩ := hf k (by omega)
    obtain ⟨cs, h4, h5⟩ := array_row (κ := κ) P e n m (k + 1) (by omega) hl hf
    have hle : (k + 1) * P.cellsOf e ≤ n * P.cellsOf e := Nat.mul_le_mul_right _ (by omega)
    rw [Nat.succ_mul] at hle
    have hclen : c.length = P.cellsOf e := by rw [h2.1]; simp; omega
    refine ⟨c ++ cs, ?_, fun i hi => ?_⟩
    · have := h2.app h4
      rw [Nat.succ_mul, ← List.drop_drop, List.take_append_drop] at this
      exact this
    · cases i with
      | zero =>
        rw [Nat.zero_mul, List.drop_zero, List.take_append_of_le_length (by omega), List.take_of_length_le (by omega)]
        exact h1
      | succ i =>
        rw [show (i + 1) * P.cellsOf e = c.length + i * P.cellsOf e by rw [Nat.succ_mul]; omega, ← List.drop_drop, List.drop_left]
        exact h5 i (by omega)
theorem Q6s {W : World} {a : Addr} {n : Nat} {l : List Value} (h : W.cells? 0 a n = some l) : l.length = n ∧ ∀ j v, l[j]? = some v → W.cell? (a.add j) = some v := by
  unfold World.cells? at h
  rw [if_pos (Nat.zero_le _)] at h
  refine ⟨by simpa using X1f h, fun j v hj => ?_⟩
  have hjn : j < n := by
    have := X1f h
    rcases Nat.lt_or_ge j l.length with h' | h'
    · simp at this; omega
    · rw [List.getElem?_eq_none h'] at hj; cases hj
  obtain ⟨y, h1, h2⟩ := Q9m (i := j) (x := j) h (by simp [hjn])
  rw [hj] at h1
  cases h1
  exact h2
theorem spot_of_cell {W : World} {a : Addr} {v : Value} (h : W.cell? a = some v) : a.spot = none := by
  cases hs : a.spot with
  | none => rfl
  | some x =>
    exfalso
    simp only [World.cell?, hs] at h
    split at h <;> simp at h
theorem laidF_le (P : Program) (total : Nat) : ∀ (fs : List Field) (off : Nat), laidF P total fs off = true → off ≤ total ∧ ∀ f ∈ fs, f.offset + P.cellsOf f.type ≤ total
  | [], off, h => by
    simp only [laidF, beq_iff_eq] at h
    exact ⟨by omega, fun f hf => by cases hf⟩
  | f :: fs, off, h => by
    simp only [laidF, Bool.and_eq_true, beq_iff_eq] at h
    obtain ⟨he, h⟩ := h
    obtain ⟨h1, h2⟩ := laidF_le P total fs _ h
    refine ⟨by omega, fun g hg => ?_⟩
    rcases List.mem_cons.1 hg with rfl | hg
    · omega
    · exact h2 g hg
theorem Q5t {H : Type} {P : Program} {e : TypeId} : ∀ {l : List (DataW H)} {d : DataW H}, d ∈ l → ∀ n ∈ d.weights P e, n ∈ DataW.weightsAll P e l
  | x :: l, d, h, n, hn => by
    rw [DataW.weightsAll, List.mem_append]
    rcases List.mem_cons.1 h with rfl | h
    · exact .inl hn
    · exact .inr (Q5t h n hn)
theorem Q5b {H : Type} {P : Program} : ∀ {ts : List TypeId} {ds : List (DataW H)} {j : Nat} {t : TypeId} {d : DataW H}, ts[j]? = some t → ds[j]? = some d → ∀ n ∈ d.weights P t, n ∈ DataW.weightsEach P ts ds
  | t0 :: ts, d0 :: ds, 0, t, d, ht, hd, n, hn => by
    simp only [List.getElem?_cons_zero, Option.some.injEq] at ht hd
    subst ht; subst hd
    simp only [DataW.weightsEach, List.mem_append]
    exact Or.inl hn
  | t0 :: ts, d0 :: ds, j + 1, t, d, ht, hd, n, hn => by
    simp only [List.getElem?_cons_succ] at ht hd
    simp only [DataW.weightsEach, List.mem_append]
    exact Or.inr (Q5b ht hd n hn)
  | [], _, _, _, _, ht, _, _, _ => by simp at ht
  | _ :: _, [], _, _, _, _, hd, _, _ => by simp at hd
theorem X2z {H : Type} {enc : TypeId × Value → H} {W : World} {l : List TypeId} (hl : X3z P l = true) : ∀ (fuel : Nat) (t : TypeId) (vs : List Value) (d : DataW H) (ps : List MemPlace), t ∈ l → (∀ n ∈ d.weights P t, n ≤ reachBytes) →
    DataW.trod enc P W 0 (fun _ => true) true fuel t vs = some (d, ps) → ∃ cs, AT P t cs ∧ RL (K0 W) cs vs
  | 0, _, _, _, _, _, _, h => by cases h
  | fuel + 1, t, vs, d, ps, ht, hwt, h => by
    have hp := List.all_eq_true.1 hl t ht
    have ih := X2z (enc := enc) (W := W) hl fuel
    unfold DataW.trod at h
    split at h
    all_goals try (rename_i hu; rw [hu] at hp)
    all_goals first | (cases hp; done) | (cases h; done) | skip
    · exact ⟨_, .bool hu, .one (.val _)⟩
    · split at h
      · rename_i hc
        obtain ⟨rfl, hw⟩ := hc
        exact ⟨_, .int hu hw, .one (.val _)⟩
      · cases h
    · split at h
      · rename_i hc
        exact ⟨_, .str hu hc, .one (.val _)⟩
      · cases h
    · exact ⟨_, .nil hu, .one (.slnil _ trivial)⟩
    · rename_i e a len cap
      simp only [Bool.and_eq_true, decide_eq_true_eq] at hp
      obtain ⟨⟨hpe, hsz⟩, hby⟩ := hp
      have hpe' : e ∈ l := by simpa using hpe
      dsimp only at h
      split at h
      · rename_i hc
        obtain ⟨_, hlc, hcm⟩ := hc
        cases hm : List.mapM (fun i => (W.cells? 0 (a.add (i * P.cellsOf e)) (P.cellsOf e)).bind (DataW.trod enc P W 0 (fun x => true) true fuel e)) (List.range len) with
        | none => rw [hm] at h; cases h
        | some elems =>
          have hlen : elems.length = len := by simpa using X1f hm
          have hwa : len ≤ reachBytes ∧ ∀ y ∈ elems, ∀ n ∈ y.1.weights P e, n ≤ reachBytes := by
            rw [hm] at h
            simp only [Option.bind_some, if_true] at h
            cases hr : List.mapM (fun j => (W.cells? 0 (a.add ((len + j) * P.cellsOf e)) (P.cellsOf e)).bind (DataW.trod enc P W 0 (fun x => true) true fuel e)) (List.range (cap - len)) with
            | none => rw [hr] at h; cases h
            | some rest =>
              rw [hr] at h
              simp only [Option.map_some, Option.some.injEq, Prod.mk.injEq] at h
              rw [← h.1] at hwt
              simp only [DataW.weights, hu] at hwt
              refine ⟨?_, fun y hy n hn => ?_⟩
              · have h1 := hwt _ (List.mem_cons_self ..)
                rw [zB, zB, hlen] at h1
                have h2 : (len + rest.length) * 1 ≤ (len + rest.length) * P.bytesOf e := Nat.mul_le_mul_left _ hby
                omega
              · exact hwt n (List.mem_cons_of_mem _ (List.mem_append_left _ (Q5t (List.mem_map.2 ⟨y, hy, rfl⟩) n hn)))
          have key : ∀ i, i < len → ∃ cs li, AT P e cs ∧ RL (K0 W) cs li ∧ W.cells? 0 (a.add (i * P.cellsOf e)) (P.cellsOf e) = some li := by
            intro i hi
            obtain ⟨y, hyi, hy⟩ := Q9m (i := i) (x := i) hm (by simp [hi])
            have hwy := hwa.2 y (List.mem_of_getElem? hyi)
            cases hli : W.cells? 0 (a.add (i * P.cellsOf e)) (P.cellsOf e) with
            | none => rw [hli] at hy; cases hy
            | some li =>
              rw [hli] at hy
              obtain ⟨cs, h1, h2⟩ := ih e li y.1 y.2 hpe' hwy hy
              exact ⟨cs, li, h1, h2, rfl⟩
          rcases Nat.eq_zero_or_pos len with h0 | h0
          · subst h0
            exact ⟨_, .sl hu (Nat.zero_le _) (fun x hx => by cases hx), .one (.slemp .view (.inl rfl) a cap)⟩
          have hs : a.spot = none := by
            obtain ⟨cs, li, _, _, h3⟩ := key 0 h0
            obtain ⟨h4, h5⟩ := Q6s h3
            have := h5 0 _ (List.getElem?_eq_getElem (by omega))
            rw [Nat.zero_mul] at this
            exact spot_of_cell (a := (a.add 0).add 0) this
          let g : Nat → List AV := fun i => if hi : i < len then (key i hi).choose else []
          have hg : ∀ i (hi : i < len), g i = (key i hi).choose := fun i hi => dif_pos hi
          have hes : ∀ i e', ((List.range len).map g)[i]? = some e' → ∃ hi : i < len, e' = (key i hi).choose := by
            intro i e' hi
            rw [List.getElem?_map] at hi
            rcases Nat.lt_or_ge i len with h' | h'
            · rw [List.getElem?_range h'] at hi
              cases hi
              exact ⟨h', hg i h'⟩
            · rw [List.getElem?_eq_none (by simpa using h')] at hi; cases hi
          have hcell : ∀ i (hi : i < len) j v, (key i hi).choose_spec.choose[j]? = some v → W.cell? ⟨a.block, a.off + i * P.cellsOf e + j, none⟩ = some v := by
            intro i hi j v hv
            obtain ⟨_, _, h3⟩ := (key i hi).choose_spec.choose_spec
            have := (Q6s h3).2 j v hv
            rw [Q1m hs, Q1m rfl] at this
            exact this
          refine ⟨_, .sl (es := (List.range len).map g) hu (by simpa using hwa.1) (fun x hx => ?_), .one (.sl .view _ a len cap (P.cellsOf e) (fun i j => (W.cell? ⟨a.block, a.off + i * P.cellsOf e + j, none⟩).getD undef) trivial (by simp) hlc hs (fun i e' hi => ?_) (fun i j hi hj => ⟨?_, fun hM => hM⟩) (fun i j e' x hi hj => ?_))⟩
          · obtain ⟨i, hi, rfl⟩ := List.mem_map.1 hx
            have hi' : i < len := by simpa using hi
            rw [hg i hi']
            exact (key i hi').choose_spec.choose_spec.1
          · obtain ⟨hi', rfl⟩ := hes i e' hi
            obtain ⟨_, h2, h3⟩ := (key i hi').choose_spec.choose_spec
            rw [h2.1]
            exact (Q6s h3).1
          · obtain ⟨_, h2, h3⟩ := (key i hi).choose_spec.choose_spec
            have hlen := (Q6s h3).1
            have := hcell i hi j _ (List.getElem?_eq_getElem (by omega))
            show W.cell? _ = _
            rw [this]
            rfl
          · obtain ⟨hi', rfl⟩ := hes i e' hi
            obtain ⟨_, h2, h3⟩ := (key i hi').choose_spec.choose_spec
            have hjl : j < (key i hi').choose.length := by
              rcases Nat.lt_or_ge j (key i hi').choose.length with h' | h'
              · exact h'
              · rw [List.getElem?_eq_none h'] at hj; cases hj
            have hjl' : j < (key i hi').choose_spec.choose.length := by rw [← h2.1]; exact hjl
            have := h2.2 j x _ hj (List.getElem?_eq_getElem hjl')
            rw [hcell i hi' j _ (List.getElem?_eq_getElem hjl')]
            exact this
      · cases h
    · rename_i vs _ _ fs
      simp only [Bool.and_eq_true] at hp
      split at h
      · rename_i hc
        cases hm : List.mapM (fun f => DataW.trod enc P W 0 (fun x => true) true fuel f.type (List.take (P.cellsOf f.type) (List.drop f.offset vs))) fs.toList with
        | none => rw [hm] at h; cases h
        | some xs =>
          rw [← hc] at hp
          have hle := (laidF_le P vs.length fs.toList 0 hp.2).2
          obtain ⟨cs, h1, h2⟩ := X2y (κ := K0 W) (vs := vs) P fs.toList 0 hp.2 (Nat.zero_le _) (fun f hf => by
            obtain ⟨j, hj⟩ := List.mem_iff_getElem?.1 hf
            obtain ⟨y, hyi, hy⟩ := Q9m (i := j) (x := f) hm hj
            have hwy : ∀ n ∈ y.1.weights P f.type, n ≤ reachBytes := fun n hn => by
              rw [hm] at h
              simp only [Option.map_some, Option.some.injEq, Prod.mk.injEq] at h
              rw [← h.1] at hwt
              simp only [DataW.weights, hu] at hwt
              exact hwt n (Q5b (j := j) (by rw [List.getElem?_map, hj]; rfl) (by rw [List.getElem?_map, hyi]; rfl) n hn)
            have hft : f.type ∈ l := by have := List.all_eq_true.1 hp.1 f hf; simpa using this
            obtain ⟨cs, h3, h4⟩ := ih f.type _ y.1 y.2 hft hwy hy
            exact ⟨cs, h3, h4, hle f hf⟩)
          refine ⟨cs, .struct hu (by rw [h1.1, List.drop_zero]; exact hc) (fun f hf => ?_), by simpa using h1⟩
          have := (h2 f hf).2
          simpa using this
      · cases h
    · rename_i vs _ _ n e
      simp only [Bool.and_eq_true, beq_iff_eq] at hp
      have hpe' : e ∈ l := by simpa using hp.1
      split at h
      · rename_i hc
        cases hm : List.mapM (fun i => DataW.trod enc P W 0 (fun x => true) true fuel e (List.take (P.cellsOf e) (List.drop (i * P.cellsOf e) vs))) (List.range n) with
        | none => rw [hm] at h; cases h
        | some xs =>
          obtain ⟨cs, h1, h2⟩ := array_row (κ := K0 W) (vs := vs) P e n n 0 (by omega) (by rw [hc, hp.2]) (fun i hi => by
            obtain ⟨y, hyi, hy⟩ := Q9m (i := i) (x := i) hm (by simp [hi])
            have hwy : ∀ n ∈ y.1.weights P e, n ≤ reachBytes := fun n hn => by
              rw [hm] at h
              simp only [Option.map_some, Option.some.injEq, Prod.mk.injEq] at h
              rw [← h.1] at hwt
              simp only [DataW.weights, hu] at hwt
              exact hwt n (Q5t (List.mem_map.2 ⟨y, List.mem_of_getElem? hyi, rfl⟩) n hn)
            obtain ⟨cs, h3, h4⟩ := ih e _ y.1 y.2 hpe' hwy hy
            exact ⟨cs, h3, h4⟩)
          rw [Nat.zero_mul, List.drop_zero] at h1
          exact ⟨cs, .array hu (by rw [h1.1]; exact hc) h2, h1⟩
      · cases h
end Go.V
namespace Go.V
open Go.RowKit
variable {P : Program}
theorem one_of {W : World} {cs : List AV} {v : Value} (hv : v.cells.toList = [v]) (h : RL (K0 W) cs v.cells.toList) : ∃ x, cs = [x] ∧ Rel (K0 W) x v := by
  rw [hv] at h
  match cs, h with
  | [x], h => exact ⟨x, rfl, h.2 0 x v rfl rfl⟩
theorem open_sl {H : Type} {enc : TypeId × Value → H} {W : World} {base : Nat} {t e : TypeId} {v : Value} {d : DataW H} {p : List MemPlace} (l : List TypeId) (hl : X3z P l = true) (ht : t ∈ l) (hu : P.underlying t = some (.slice e))
    (hw : Value.okWide P W .any base t v) (h : DataW.Trod enc P W 0 (fun _ => true) true t v d p) (hwt : ∀ n ∈ d.weights P t, n ≤ reachBytes) : ∃ x, AT P t [x] ∧ Rel (K0 W) x v := by
  obtain ⟨fuel, h⟩ := h
  obtain ⟨cs, h1, h2⟩ := X2z hl fuel t _ d p ht hwt h
  have hv : v.cells.toList = [v] := by
    simp only [Value.okWide, hu, Cell.okWide] at hw
    cases v <;> simp_all [Cell.ok, Value.cells]
  obtain ⟨x, rfl, hx⟩ := one_of hv h2
  exact ⟨x, h1, hx⟩
theorem trod_low {H : Type} {enc : TypeId × Value → H} {W : World} {t : TypeId} {v : Value} {d : DataW H} {p : List MemPlace} (h : DataW.Trod enc P W 0 (fun _ => true) true t v d p) : ∀ x ∈ p, x.block < W.heap.size := by
  obtain ⟨m, hm⟩ := h
  exact DataW.trod_lt m _ _ _ hm
theorem AT.inv_int {t : TypeId} {k : IntKind} {cs : List AV} (hu : P.underlying t = some (.int k)) (h : AT P t cs) : ∃ n, cs = [.val (.int k n)] ∧ (Lit.int k n).wf = true := by
  cases h with
  | int h hw => rw [hu] at h; cases h; exact ⟨_, rfl, hw⟩
  | _ => simp_all
theorem AT.inv_slice {t e : TypeId} {cs : List AV} (hu : P.underlying t = some (.slice e)) (h : AT P t cs) : cs = [.sl .nil []] ∨ ∃ es, cs = [.sl .view es] ∧ es.length ≤ reachBytes ∧ ∀ x ∈ es, AT P e x := by
  cases h with
  | nil h => exact .inl rfl
  | sl h hn hes => rw [hu] at h; cases h; exact .inr ⟨_, rfl, hn, hes⟩
  | _ => simp_all
theorem AT.inv_struct {t : TypeId} {fs : Array Field} {cs : List AV} (hu : P.underlying t = some (.struct fs)) (h : AT P t cs) : cs.length = P.cellsOf t ∧ ∀ f ∈ fs.toList, AT P f.type ((cs.drop f.offset).take (P.cellsOf f.type)) := by
  cases h with
  | struct h hl hf => rw [hu] at h; cases h; exact ⟨hl, hf⟩
  | _ => simp_all
theorem AT.inv_str {t : TypeId} {cs : List AV} (hu : P.underlying t = some .string) (h : AT P t cs) : ∃ s, cs = [.s s] ∧ s.size ≤ maxLen := by
  cases h with
  | str h hs => exact ⟨_, rfl, hs⟩
  | _ => simp_all
theorem AT.inv_bool {t : TypeId} {cs : List AV} (hu : P.underlying t = some .bool) (h : AT P t cs) : ∃ b, cs = [.b b] := by
  cases h with
  | bool h => exact ⟨_, rfl⟩
  | _ => simp_all
theorem X3a {n : Int} (h : (Lit.int .i64 n).wf = true) : -9223372036854775808 ≤ n ∧ n ≤ 9223372036854775807 := by
  simp only [Lit.wf, Bool.and_eq_true, decide_eq_true_eq] at h
  exact h
theorem relArgs_nil {κ : K} : Q7b κ [] #[] := ⟨rfl, fun i x u h1 h2 => by simp at h1⟩
theorem relArgs_cons {κ : K} {x : AV} {v : Value} {xs : List AV} {vs : List Value} (h : Rel κ x v) (hr : Q7b κ xs vs.toArray) : Q7b κ (x :: xs) (v :: vs).toArray := by
  refine ⟨by have := hr.1; simp at this ⊢; omega, fun i y u h1 h2 => ?_⟩
  cases i with
  | zero => simp at h1 h2; subst h1; subst h2; exact h
  | succ i => exact hr.2 i y u (by simpa using h1) (by simpa using h2)
end Go.V
namespace Go.Proofs.YtjdapkelojdefaaGreatDoor
open Go Go.V Go.Lex Go.Parse Go.Print
def CW (cs cs' : List AV) : Prop := cs.length = cs'.length ∧ ∀ (i : Nat) (x x' : AV), cs[i]? = some x → cs'[i]? = some x' → AVw x x'
theorem cw_list {es : List (List AV)} (h : ∀ x ∈ es, ∃ e, Lim e ∧ CW x (exA e)) : ∃ l : List Ex, l.length = es.length ∧ (∀ e ∈ l, Lim e) ∧ AVw (.sl .any es) (.sl .any (exsA l)) := by
  have : ∃ l : List Ex, l.length = es.length ∧ (∀ e ∈ l, Lim e) ∧ ∀ (i : Nat) (e e' : List AV), es[i]? = some e → (exsA l)[i]? = some e' → CW e e' := by
    induction es with
    | nil => exact ⟨[], rfl, fun e he => (by cases he), fun i e e' h1 => (by simp at h1)⟩
    | cons x r ih =>
      obtain ⟨l, h1, h2, h3⟩ := ih (fun y hy => h y (List.mem_cons_of_mem _ hy))
      obtain ⟨e, h4, h5⟩ := h x (List.mem_cons_self ..)
      refine ⟨e :: l, by simp [h1], fun f hf => ?_, fun i a b q1 q2 => ?_⟩
      · rcases List.mem_cons.1 hf with rfl | hf
        · exact h4
        · exact h2 f hf
      · rw [Q1j] at q2
        cases i with
        | zero => simp at q1 q2; subst q1 q2; exact h5
        | succ i => exact h3 i a b (by simpa using q1) (by simpa using q2)
  obtain ⟨l, h1, h2, h3⟩ := this
  exact ⟨l, h1, h2, AVw.els (by rw [Q1c, h1]) h3⟩
abbrev tE : TypeId := 26
abbrev tS : TypeId := 24
theorem dec_val {cs : List AV} (h : AT Tryz.prog 23 cs) : ∃ (k n : Int) (s : ByteArray), cs = [.i k, .i n, .s s] ∧ inR k ∧ inR n := by
  obtain ⟨hl, hf⟩ := AT.inv_struct Tryz.underlying23 h
  have c3 : Tryz.prog.cellsOf 3 = 1 := by kernel_rfl
  have c9 : Tryz.prog.cellsOf 9 = 1 := by kernel_rfl
  have c23 : Tryz.prog.cellsOf 23 = 3 := by kernel_rfl
  rw [c23] at hl
  simp only [List.forall_mem_cons, c3, c9] at hf
  obtain ⟨f0, f1, f2, _⟩ := hf
  match cs, hl with
  | [a, b, c], _ =>
    obtain ⟨k, hk, hw0⟩ := AT.inv_int Z3 f0
    obtain ⟨n, hn, hw⟩ := AT.inv_int Z3 f1
    obtain ⟨s, hs, _⟩ := AT.inv_str Tryz.underlying9 f2
    simp only [List.drop_zero, List.drop_succ_cons, List.take_succ_cons, List.take_zero, List.cons.injEq, and_true] at hk hn hs
    subst hk hn hs
    exact ⟨k, n, s, rfl, X3a hw0, X3a hw⟩
theorem X3b : ∀ {t : TypeId} {cs : List AV}, AT Tryz.prog t cs → (t = tE → ∃ e, Lim e ∧ CW cs (exA e)) ∧ (t = tS → ∃ (l : List Ex) (x : AV), cs = [x] ∧ l.length ≤ reachBytes ∧ (∀ e ∈ l, Lim e) ∧ AVw x (.sl .any (exsA l))) := by
  intro t cs h
  induction h with
  | bool h => exact ⟨fun ht => (by subst ht; rw [Z26] at h; cases h), fun ht => (by subst ht; rw [Z24] at h; cases h)⟩
  | int h => exact ⟨fun ht => (by subst ht; rw [Z26] at h; cases h), fun ht => (by subst ht; rw [Z24] at h; cases h)⟩
  | str h => exact ⟨fun ht => (by subst ht; rw [Z26] at h; cases h), fun ht => (by subst ht; rw [Z24] at h; cases h)⟩
  | array h => exact ⟨fun ht => (by subst ht; rw [Z26] at h; cases h), fun ht => (by subst ht; rw [Z24] at h; cases h)⟩
  | nil h =>
    refine ⟨fun ht => (by subst ht; rw [Z26] at h; cases h), fun ht => ⟨[], _, rfl, Nat.zero_le _, fun e he => (by cases he), ?_⟩⟩
    rw [Q1h]; exact AVw.any _ _
  | sl h hn hes ih =>
    refine ⟨fun ht => (by subst ht; rw [Z26] at h; cases h), fun ht => ?_⟩
    subst ht
    rw [Z24] at h
    cases h
    obtain ⟨l, h1, h2, h3⟩ := cw_list (fun x hx => (ih x hx).1 rfl)
    exact ⟨l, _, rfl, by omega, h2, fun κ v hr => h3 κ v (AVw.any _ _ κ v hr)⟩
  | @struct t' fs cs h hl hf ih =>
    refine ⟨fun ht => ?_, fun ht => (by subst ht; rw [Z24] at h; cases h)⟩
    subst ht
    rw [Z26] at h
    cases h
    have c3 : Tryz.prog.cellsOf 3 = 1 := by kernel_rfl
    have c9 : Tryz.prog.cellsOf 9 = 1 := by kernel_rfl
    have c23 : Tryz.prog.cellsOf 23 = 3 := by kernel_rfl
    have c27 : Tryz.prog.cellsOf tE = 8 := by kernel_rfl
    have c28 : Tryz.prog.cellsOf tS = 1 := by kernel_rfl
    rw [c27] at hl
    simp only [List.forall_mem_cons, c3, c9, c23, c28] at hf ih
    obtain ⟨f0, f1, f2, f3, f4, f5, _⟩ := hf
    obtain ⟨_, _, _, _, _, i5, _⟩ := ih
    match cs, hl with
    | [a, b, c, d, e, f, g, x], _ =>
      obtain ⟨k, hk, hw0⟩ := AT.inv_int Z3 f0
      obtain ⟨op, hop, hw1⟩ := AT.inv_int Z3 f1
      obtain ⟨t, ht, _⟩ := AT.inv_str Tryz.underlying9 f2
      obtain ⟨n, hn, _⟩ := AT.inv_str Tryz.underlying9 f3
      obtain ⟨vk, vn, vs, hv, r1, r2⟩ := dec_val f4
      obtain ⟨l, y, hy, hll, hL, hw⟩ := i5.2 trivial
      simp only [List.drop_zero, List.drop_succ_cons, List.take_succ_cons, List.take_zero, List.cons.injEq, and_true] at hk hop ht hn hv hy
      obtain ⟨rfl, rfl, rfl⟩ := hv
      subst hk hop ht hn hy
      refine ⟨.mk k op t.data.toList n.data.toList (vk, vn, vs.data.toList) l, .mk _ _ _ _ _ _ (Nat.le_trans hll (by decide)) ⟨X3a hw0, X3a hw1, r1, r2⟩ hL, ?_⟩
      rw [Q4d]
      simp only [X1p]
      refine ⟨rfl, fun i z z' g1 g2 => ?_⟩
      match i, g1, g2 with
      | 0, g1, g2 | 1, g1, g2 | 2, g1, g2 | 3, g1, g2 | 4, g1, g2 | 5, g1, g2 | 6, g1, g2 => cases g1; cases g2; exact AVw.refl _
      | 7, g1, g2 => cases g1; cases g2; exact hw
end Go.Proofs.YtjdapkelojdefaaGreatDoor
namespace Go.Print
open Go.V Go.Lex Go.Parse Go.Proofs.YtjdapkelojdefaaGreatDoor
end Go.Print
namespace Go.Parse
open Go.V Go.Lex Go.Proofs.YtjdapkelojdefaaGreatDoor
variable {δ : Int} {w : By}
variable {d : Int}
end Go.Parse
namespace Go.Parse
open Go.V Go.Lex Go.Proofs.YtjdapkelojdefaaGreatDoor
abbrev Co := By × Int × Bool × Bool
abbrev Se := By × Ex
abbrev It := Int × List Ex
structure Stm where
  k : Int
  t : By
  cols : List Co
  pk : By
  rows : List (List Vl)
  sets : List Se
  items : List It
  join : By
  on : List Ex
  wh : List Ex
  gr : List Ex
  or : List Ex
  desc : Bool
  lim : Int
def manyL {β : Type} (one : Rd → β × Rd) (sep : By) : Nat → List β → Rd → List β × Rd
  | 0, acc, s => (acc ++ [(one (s.fail 2)).1], (one (s.fail 2)).2.pass [sep])
  | k + 1, acc, s => if (one s).2.has sep then manyL one sep k (acc ++ [(one s).1]) ((one s).2.pass [sep]) else (acc ++ [(one s).1], (one s).2.pass [sep])
abbrev many {β : Type} (one : Rd → β × Rd) (most : Nat) (s : Rd) : List β × Rd := manyL one [44] most [] s
def joinB (s : Rd) : Rd := ((s.pass [[74, 79, 73, 78]]).take 1).must [[79, 78]]
end Go.Parse
namespace Go.Print
open Go.V Go.Lex Go.Parse Go.Proofs.YtjdapkelojdefaaGreatDoor
end Go.Print
namespace Go.Proofs.YtjdapkelojdefaaGreatDoor
open Go Go.V Go.Lex Go.Parse
variable (ρ : Nat) (s : Rd)
def coA (c : Co) : List AV := [.s (bs c.1), .i c.2.1, .b c.2.2.1, .b c.2.2.2]
end Go.Proofs.YtjdapkelojdefaaGreatDoor
namespace Go.Proofs.YtjdapkelojdefaaGreatDoor
open Go Go.V Go.Lex Go.Parse
def valA (v : Vl) : List AV := [.i v.1, .i v.2.1, .s (bs v.2.2)]
def Q5h (l : List Vl) : List (List AV) := l.map valA
def grow (τ sz n : Nat) : Own := if n = 0 then .nil else .tok τ sz
variable {β : Type}
end Go.Proofs.YtjdapkelojdefaaGreatDoor
namespace Go.Proofs.YtjdapkelojdefaaGreatDoor
open Go Go.V Go.Lex Go.Parse
def rowA (r : List Vl) : List AV := [.sl .any (Q5h r)]
def setA (x : Se) : List AV := .s (bs x.1) :: exA x.2
def Q2e (x : It) : List AV := [.i x.1, .sl .any (exsA x.2)]
def stmA (x : Stm) : List AV := [.i x.k, .s (bs x.t), .sl .any (x.cols.map coA), .s (bs x.pk), .sl .any (x.rows.map rowA), .sl .any (x.sets.map setA), .sl .any (x.items.map Q2e), .s (bs x.join), .sl .any (exsA x.on), .sl .any (exsA x.wh), .sl .any (exsA x.gr), .sl .any (exsA x.or), .b x.desc, .i x.lim]
theorem X4a (x : Stm) : (stmA x).length = 14 := rfl
theorem X4b (x : Stm) : (stmA x).all AV.one = true := rfl
theorem X2d (x : Stm) : (stmA x).take 14 = stmA x := rfl
theorem X2e (x : Stm) : (stmA x).drop 14 = [] := rfl
end Go.Proofs.YtjdapkelojdefaaGreatDoor
namespace Go.Parse
open Go.V Go.Lex Go.Proofs.YtjdapkelojdefaaGreatDoor
end Go.Parse
namespace Go.Proofs.YtjdapkelojdefaaGreatDoor
open Go Go.V Go.Lex Go.Parse
theorem Q1q {α : Type} {f : α → List AV} {l : List α} {k : Nat} (h : k < l.length) : (l.map f).getD k [] = f l[k] := by
  rw [List.getD_eq_getElem?_getD, List.getElem?_map, List.getElem?_eq_getElem h]; rfl
theorem Q1r {α : Type} {f : α → List AV} {n : Nat} (l : List α) (h : ∀ x, (f x).length = n) : Q1i (l.map f) n = True := eq_true fun e he => by
  obtain ⟨x, _, rfl⟩ := List.mem_map.1 he
  exact h x
end Go.Proofs.YtjdapkelojdefaaGreatDoor
namespace Go.Parse
open Go.V Go.Lex Go.Proofs.YtjdapkelojdefaaGreatDoor
variable {δ : Int} {w : By} {d : Int}
end Go.Parse
namespace Go.Parse
open Go.V Go.Lex Go.Proofs.YtjdapkelojdefaaGreatDoor
def Ex.args : Ex → List Ex
  | .mk _ _ _ _ _ l => l
end Go.Parse
namespace Go.Proofs.YtjdapkelojdefaaGreatDoor
open Go Go.V Go.Lex Go.Parse
end Go.Proofs.YtjdapkelojdefaaGreatDoor
namespace Go.Print
open Go.V Go.Lex Go.Parse Go.Proofs.YtjdapkelojdefaaGreatDoor
end Go.Print
namespace Go.Proofs.YtjdapkelojdefaaGreatDoor
open Go Go.V Go.Lex Go.Parse Go.Print
end Go.Proofs.YtjdapkelojdefaaGreatDoor
namespace Go.Print
open Go.V Go.Lex Go.Parse Go.Proofs.YtjdapkelojdefaaGreatDoor
def expT (ws : List By) : List Ex → List Tk
  | [] => []
  | e :: _ => wds ws ++ (toTr e).tk
def expD : List Ex → Nat
  | [] => 0
  | e :: _ => (toTr e).dp
def sepT {β : Type} (one : β → List Tk) : List β → List Tk
  | [] => []
  | [x] => one x
  | x :: y :: r => one x ++ wd [44] :: sepT one (y :: r)
def maxD {β : Type} (one : β → Nat) : List β → Nat
  | [] => 0
  | x :: r => max (one x) (maxD one r)
def colT (c : Co) : List Tk := nT c.1 :: wd (if c.2.1 = 1 then [73, 78, 84] else [84, 69, 88, 84]) :: ((if c.2.2.1 then wds [[78, 79, 84], [78, 85, 76, 76]] else []) ++ ((if c.2.2.2 then wds [[85, 78, 73, 81, 85, 69]] else []) ++ [wd [44]]))
def rowT (r : List Vl) : List Tk := wd [40] :: (sepT litT r ++ [wd [41]])
def setT (x : Se) : List Tk := nT x.1 :: wd [61] :: (toTr x.2).tk
def Q2t (x : It) : List Tk :=
  if x.1 = 1 then wds [[42]] else
  if x.1 = 3 then wds [[67, 79, 85, 78, 84], [40], [42], [41]] else
  if x.1 = 2 then expT [] x.2 else
  expT [(if x.1 = 4 then [67, 79, 85, 78, 84] else if x.1 = 5 then [83, 85, 77] else if x.1 = 6 then [77, 73, 78] else [77, 65, 88]), [40]] x.2 ++ [wd [41]]
def X0m (s : Stm) : List Tk := wds [[67, 82, 69, 65, 84, 69], [84, 65, 66, 76, 69]] ++ (nT s.t :: wd [40] :: ((s.cols.map colT).flatten ++ (wds [[80, 82, 73, 77, 65, 82, 89], [75, 69, 89], [40]] ++ (nT s.pk :: wds [[41], [41]]))))
def dropT (s : Stm) : List Tk := wds [[68, 82, 79, 80], [84, 65, 66, 76, 69]] ++ [nT s.t]
def Q6t (s : Stm) : List Tk := wds [[73, 78, 83, 69, 82, 84], [73, 78, 84, 79]] ++ (nT s.t :: wd [86, 65, 76, 85, 69, 83] :: sepT rowT s.rows)
def Q6u (s : Stm) : List Tk := wd [85, 80, 68, 65, 84, 69] :: nT s.t :: wd [83, 69, 84] :: (sepT setT s.sets ++ expT [[87, 72, 69, 82, 69]] s.wh)
def removeT (s : Stm) : List Tk := wds [[68, 69, 76, 69, 84, 69], [70, 82, 79, 77]] ++ (nT s.t :: expT [[87, 72, 69, 82, 69]] s.wh)
def joinT (s : Stm) : List Tk := if s.join = [] then [] else wd [74, 79, 73, 78] :: nT s.join :: expT [[79, 78]] s.on
def Q5u (s : Stm) : List Tk := wd [83, 69, 76, 69, 67, 84] :: (sepT Q2t s.items ++ (wd [70, 82, 79, 77] :: nT s.t :: (joinT s ++ (expT [[87, 72, 69, 82, 69]] s.wh ++ (expT [[71, 82, 79, 85, 80], [66, 89]] s.gr ++ (expT [[79, 82, 68, 69, 82], [66, 89]] s.or ++
  ((if s.desc then [wd [68, 69, 83, 67]] else []) ++ (if 0 ≤ s.lim then [wd [76, 73, 77, 73, 84], iT s.lim] else []))))))))
def stT (s : Stm) : List Tk :=
  if s.k = 1 then X0m s else if s.k = 2 then dropT s else if s.k = 3 then Q6t s else if s.k = 4 then Q6u s else if s.k = 5 then removeT s else if s.k = 6 then Q5u s else []
def stD (s : Stm) : Nat :=
  if s.k = 4 then max (maxD (fun x => (toTr x.2).dp) s.sets) (expD s.wh) else if s.k = 5 then expD s.wh else
  if s.k = 6 then max (maxD (fun x => expD x.2) s.items) (max (if s.join = [] then 0 else expD s.on) (max (expD s.wh) (max (expD s.gr) (expD s.or)))) else 0
def oneB (l : List Ex) : Bool := decide (l.length ≤ 1) && rts l
def colB (l : List Ex) : Bool := oneB l && (match l with | [] => true | e :: _ => decide (e.kd = 2))
def Q7m (c : Co) : Bool := isNm c.1 && decide (c.2.1 = 1 ∨ c.2.1 = 2)
def Q9n (l : List Co) : Bool := l.all Q7m && decide (1 ≤ l.length ∧ l.length ≤ 8)
def rowB (r : List Vl) : Bool := r.all okV && decide (1 ≤ r.length ∧ r.length ≤ 8)
def Q9o (l : List (List Vl)) : Bool := l.all rowB && decide (1 ≤ l.length ∧ l.length ≤ 16)
def Q6c (x : Se) : Bool := isNm x.1 && rt x.2
def Q8z (l : List Se) : Bool := l.all Q6c && decide (1 ≤ l.length ∧ l.length ≤ 8)
def Q3c (x : It) : Bool := decide (1 ≤ x.1 ∧ x.1 ≤ 7) && (decide (x.2.length = if x.1 = 1 ∨ x.1 = 3 then 0 else 1) && rts x.2)
def Q5c (l : List It) : Bool := l.all Q3c && decide (1 ≤ l.length ∧ l.length ≤ 8)
def joinB (s : Stm) : Bool := (decide (s.join = []) && decide (s.on.length = 0)) || (isNm s.join && decide (s.on.length = 1))
def selB (s : Stm) : Bool := joinB s && (Q5c s.items && (oneB s.on && (colB s.gr && (colB s.or && ((decide (s.or.length = 1) || !s.desc) && decide (-1 ≤ s.lim))))))
def X2f (s : Stm) : Bool := decide (0 < s.cols.length) || decide (s.pk ≠ [])
def X2g (s : Stm) : Bool := decide (0 < s.items.length + s.on.length + s.gr.length + s.or.length) || (decide (s.join ≠ []) || (s.desc || decide (s.lim ≠ -1)))
def bareB (s : Stm) : Bool :=
  isNm s.t && (decide (1 ≤ s.k ∧ s.k ≤ 6) && ((decide (s.k = 1) || !X2f s) && ((decide (s.k = 3) || decide (s.rows.length = 0)) && ((decide (s.k = 4) || decide (s.sets.length = 0)) &&
    ((decide (s.k = 6) || !X2g s) && (decide (4 ≤ s.k) || decide (s.wh.length = 0)))))))
def fitB (s : Stm) : Bool :=
  bareB s && (oneB s.wh && (if s.k = 1 then Q9n s.cols && isNm s.pk else if s.k = 3 then Q9o s.rows else if s.k = 4 then Q8z s.sets else if s.k = 6 then selB s else true))
def scT (l : List Stm) : List Tk := match l with
  | [] => []
  | x :: r => stT x ++ (r.map fun s => wd [59] :: stT s).flatten
def scD (l : List Stm) : Nat := maxD stD l
def Q5v (l : List Stm) : By × Int :=
  if 8 < l.length then ([], 2) else if l = [] then ([], 4) else if l.all fitB then fin (scT l) (scD l) else ([], 4)
end Go.Print
namespace Go.Proofs.YtjdapkelojdefaaGreatDoor
open Go Go.V Go.Lex Go.Parse Go.Print
def LimL (l : List Ex) : Prop := l.length ≤ 9223372036854775807 ∧ ∀ e ∈ l, Lim e
theorem Q5d (l : List Ex) (hL : LimL l) (σ : Sg) : VCalls Tryz.prog 58 [.sl .any (exsA l)] σ (fun x σ' => x = .b (oneB l) ∧ σ' = σ) := by
  have hc := X0k l 44 (fun e => !rt e) .any hL.1 (fun e he σ => r_wrong e (Q5r e (hL.2 e he)) σ)
  have hn := Q1c l
  unfold oneB
  rw [rts_any]
  generalize (l.any fun e => !rt e) = b at *
  generalize exsA l = L at *
  (refine vfun (fun _ => .no) Q0k Tryz.func58 (by kernel_rfl) ?_; simp only [Q0f, Tryz.f58, zw])
  (have zz := Bx.mk (j2 ui3 (j9 ui4 ui9 ui22 ui23 ui24 ui25 ui26 ui34 hn)); (repeat' (first | exact zc | (with_reducible first | apply And.intro | apply Q0a | apply Q0b | refine Q0c (by decide +kernel) ?_ | intro _) | refine zaY zz.out ?_ | ((first | (with_reducible refine uc (hc _) ?_) | (refine Q0d (by exact zK) ?_) | (refine Q0e (by exact zK) ?_)); (try refine zsY zz.out ?_)) | refine zo ?_ | omega | refine ztY zz.out ?_ | fail)); try (all_goals clear zz))
  all_goals exact ⟨_, .refl _, b_eq (by simp_all <;> omega), rfl⟩
theorem X4c (l : List Ex) (hL : LimL l) (σ : Sg) : VCalls Tryz.prog 119 [.sl .any (exsA l)] σ (fun x σ' => x = .b (colB l) ∧ σ' = σ) := by
  have hc := Q5d l hL
  unfold colB
  cases l with
  | nil =>
    have h1 : oneB [] = true := by unfold oneB; rw [X1t]; rfl
    rw [h1, Q1h] at hc
    rw [h1, Q1h]
    (refine vfun (fun _ => .no) Q0k Tryz.func119 (by kernel_rfl) ?_; simp only [Q0f, Tryz.f119, zw])
    (have zz := Bx.mk (j9 ui0 ui3 ui4 ui9 ui22 ui23 ui24 ui25 ui26); (repeat' (first | exact zc | (with_reducible first | apply And.intro | apply Q0a | apply Q0b | refine Q0c (by decide +kernel) ?_ | intro _) | refine zaY zz.out ?_ | ((first | (with_reducible refine uc (hc _) ?_) | (with_reducible refine uc (Q5d _ (by assumption) _) ?_) | (refine Q0d (by exact zK) ?_) | (refine Q0e (by exact zK) ?_)); (try refine zsY zz.out ?_)) | refine zo ?_ | omega | refine ztY zz.out ?_ | fail)); try (all_goals clear zz))
    all_goals first | exact ⟨_, .refl _, rfl⟩ | exact ⟨_, .refl _, rfl, rfl⟩
  | cons e r =>
    have hn : (exsA (e :: r)).length = r.length + 1 := by rw [Q1c]; rfl
    have hg : (exsA (e :: r)).getD 0 [] = exA e := by rw [Q1j]; rfl
    have hall := Q9l (e :: r)
    obtain ⟨k, op, t, n, v, l2⟩ := e
    rw [Q4d] at hg
    generalize oneB (Ex.mk k op t n v l2 :: r) = b at *
    generalize exsA (Ex.mk k op t n v l2 :: r) = L at *
    have hk : (Ex.mk k op t n v l2).kd = k := rfl
    simp only [hk]
    cases b with
    | false =>
      (refine vfun (fun _ => .no) Q0k Tryz.func119 (by kernel_rfl) ?_; simp only [Q0f, Tryz.f119, zw])
      (have zz := Bx.mk (j4 ui0 ui3 ui4 (j9 ui9 ui22 ui23 ui24 ui25 ui26 hn hg hall)); (repeat' (first | exact zc | (with_reducible first | apply And.intro | apply Q0a | apply Q0b | refine Q0c (by decide +kernel) ?_ | intro _) | refine zaY zz.out ?_ | ((first | (with_reducible refine uc (hc _) ?_) | (with_reducible refine uc (Q5d _ (by assumption) _) ?_) | (refine Q0d (by exact zK) ?_) | (refine Q0e (by exact zK) ?_)); (try refine zsY zz.out ?_)) | refine zo ?_ | omega | refine ztY zz.out ?_ | fail)); try (all_goals clear zz))
      all_goals first | exact ⟨_, .refl _, rfl⟩ | exact ⟨_, .refl _, rfl, rfl⟩ | exact ⟨_, .refl _, b_eq (by simp_all <;> omega), rfl⟩
    | true =>
      (refine vfun (fun _ => .no) Q0k Tryz.func119 (by kernel_rfl) ?_; simp only [Q0f, Tryz.f119, zw])
      (have zz := Bx.mk (j4 ui0 ui3 ui4 (j9 ui9 ui22 ui23 ui24 ui25 ui26 hn hg hall)); (repeat' (first | exact zc | (with_reducible first | apply And.intro | apply Q0a | apply Q0b | refine Q0c (by decide +kernel) ?_ | intro _) | refine zaY zz.out ?_ | ((first | (with_reducible refine uc (hc _) ?_) | (with_reducible refine uc (Q5d _ (by assumption) _) ?_) | (refine Q0d (by exact zK) ?_) | (refine Q0e (by exact zK) ?_)); (try refine zsY zz.out ?_)) | refine zo ?_ | omega | refine ztY zz.out ?_ | fail)); try (all_goals clear zz))
      all_goals first | exact ⟨_, .refl _, b_eq (by simp_all <;> omega), rfl⟩ | exact ⟨_, .refl _, rfl⟩ | (exfalso; omega)
theorem Q2j (l : List Co) (hl : l.length ≤ 9223372036854775807) (σ : Sg) : VCalls Tryz.prog 59 [.sl .any (l.map coA)] σ (fun x σ' => x = .b (Q9n l) ∧ σ' = σ) := by
  have hn : (l.map coA).length = l.length := zB ..
  have hall := Q1r (f := coA) (n := 4) l (fun _ => rfl)
  have hgt := fun k (h : k < l.length) => Q1q (f := coA) h
  unfold Q9n
  generalize l.map coA = L at *
  (refine vfun (fun _ => .no) Q0k Tryz.func59 (by kernel_rfl) ?_; simp only [Q0f, Tryz.f59, zw])
  (have zz := Bx.mk (j9 ui0 ui3 ui4 ui9 ui37 Q0u Q0v hn hall); (repeat' (first | exact zc | (with_reducible first | apply And.intro | apply Q0a | apply Q0b | refine Q0c (by decide +kernel) ?_ | intro _) | refine zaY zz.out ?_ | ((first | (with_reducible refine uc (Q1z _ _) ?_) | (refine Q0d (by exact zK) ?_) | (refine Q0e (by exact zK) ?_)); (try refine zsY zz.out ?_)) | refine zo ?_ | omega | refine ztY zz.out ?_ | fail)); try (all_goals clear zz))
  refine VW.loop3 (0 : Nat) () () (fun k _ _ => k ≤ l.length ∧ l.all Q7m = (l.drop k).all Q7m) (fun k _ _ => [(0, .sl .any L), (5, .sl .any L), (6, .i l.length), (7, .i k)]) (fun _ _ _ => σ) (fun k _ _ => l.length - k) ⟨Nat.zero_le _, rfl⟩ (.refl _) ?_ ?_
  · simp only [vO, vQ, ↓vP, vE, vS, vB, vL, vF, vM, vN, Q0i, zb, zd, ze, ne_eq, not_false_eq_true, zf, zg, zk, zl, vT]
    all_goals rfl
  rintro k _ _ ⟨hk, hr⟩
  rcases Nat.lt_or_ge k l.length with hk2 | hk2
  · have hg := hgt k hk2
    have hg2 : coA l[k] = [.s (bs l[k].1), .i l[k].2.1, .b l[k].2.2.1, .b l[k].2.2.2] := rfl
    rw [hg2] at hg
    have hN := Q1z l[k].1
    have hdr : (l.drop k).all Q7m = (Q7m l[k] && (l.drop (k + 1)).all Q7m) := by rw [List.drop_eq_getElem_cons hk2, List.all_cons]
    have hco : Q7m l[k] = (isNm l[k].1 && decide (l[k].2.1 = 1 ∨ l[k].2.1 = 2)) := rfl
    clear hg2
    rw [hco] at hdr
    clear hco
    generalize isNm l[k].1 = nb at *
    generalize l[k].1 = va at *
    generalize l[k].2.1 = vb at *
    generalize l[k].2.2.1 = vc at *
    generalize l[k].2.2.2 = vd at *
    rw [hr, hdr]
    (have zz := Bx.mk (j2 ui0 (j9 ui3 ui4 ui9 ui37 Q0u Q0v hn hall hg)); (repeat' (first | exact zc | (with_reducible first | apply And.intro | apply Q0a | apply Q0b | refine Q0c (by decide +kernel) ?_ | intro _) | refine zaY zz.out ?_ | ((first | (with_reducible refine uc (hN _) ?_) | (with_reducible refine uc (Q1z _ _) ?_) | (refine Q0d (by exact zK) ?_) | (refine Q0e (by exact zK) ?_)); (try refine zsY zz.out ?_)) | refine zo ?_ | omega | refine ztY zz.out ?_ | fail)); try (all_goals clear zz))
    all_goals first | exact ⟨k + 1, (), (), ⟨⟨hk2, by simp_all⟩, by omega⟩, by (exact zu), rfl⟩ | exact ⟨σ, by (exact zu), b_eq (by simp_all <;> omega), rfl⟩ | (exfalso; omega)
  · rw [hr, List.drop_of_length_le hk2]
    (have zz := Bx.mk (j9 ui0 ui3 ui4 ui9 ui37 Q0u Q0v hn hall); (repeat' (first | exact zc | (with_reducible first | apply And.intro | apply Q0a | apply Q0b | refine Q0c (by decide +kernel) ?_ | intro _) | refine zaY zz.out ?_ | ((first | (with_reducible refine uc (Q1z _ _) ?_) | (refine Q0d (by exact zK) ?_) | (refine Q0e (by exact zK) ?_)); (try refine zsY zz.out ?_)) | refine zo ?_ | omega | refine ztY zz.out ?_ | fail)); try (all_goals clear zz))
    all_goals exact ⟨_, .refl _, b_eq (by simp_all <;> omega), rfl⟩
theorem v_items (l : List It) (hl : l.length ≤ 9223372036854775807) (hL : ∀ x ∈ l, LimL x.2) (σ : Sg) : VCalls Tryz.prog 118 [.sl .any (l.map Q2e)] σ (fun x σ' => x = .b (Q5c l) ∧ σ' = σ) := by
  have hn : (l.map Q2e).length = l.length := zB ..
  have hall := Q1r (f := Q2e) (n := 2) l (fun _ => rfl)
  have hgt := fun k (h : k < l.length) => Q1q (f := Q2e) h
  unfold Q5c
  generalize l.map Q2e = L at *
  (refine vfun (fun _ => .no) Q0k Tryz.func118 (by kernel_rfl) ?_; simp only [Q0f, Tryz.f118, zw])
  (have zz := Bx.mk (j6 ui0 ui3 ui4 ui9 ui22 (j9 ui23 ui24 ui25 ui26 ui40 ui70 ui71 hn hall)); (repeat' (first | exact zc | (with_reducible first | apply And.intro | apply Q0a | apply Q0b | refine Q0c (by decide +kernel) ?_ | intro _) | refine zaY zz.out ?_ | ((first | (with_reducible refine uc (Q5d _ (by assumption) _) ?_) | (refine Q0d (by exact zK) ?_) | (refine Q0e (by exact zK) ?_)); (try refine zsY zz.out ?_)) | refine zo ?_ | omega | refine ztY zz.out ?_ | fail)); try (all_goals clear zz))
  refine VW.loop3 (0 : Nat) () () (fun k _ _ => k ≤ l.length ∧ l.all Q3c = (l.drop k).all Q3c) (fun k _ _ => [(0, .sl .any L), (6, .sl .any L), (7, .i l.length), (8, .i k)]) (fun _ _ _ => σ) (fun k _ _ => l.length - k) ⟨Nat.zero_le _, rfl⟩ (.refl _) ?_ ?_
  · simp only [vO, vQ, ↓vP, vE, vS, vB, vL, vF, vM, vN, Q0i, zb, zd, ze, ne_eq, not_false_eq_true, zf, zg, zk, zl, vT]
    all_goals rfl
  rintro k _ _ ⟨hk, hr⟩
  rcases Nat.lt_or_ge k l.length with hk2 | hk2
  · have hg := hgt k hk2
    have hO := Q5d l[k].2 (hL _ (List.getElem_mem hk2))
    have hn2 := Q1c l[k].2
    have hdr : (l.drop k).all Q3c = (Q3c l[k] && (l.drop (k + 1)).all Q3c) := by rw [List.drop_eq_getElem_cons hk2, List.all_cons]
    have hco : Q3c l[k] = (decide (1 ≤ l[k].1 ∧ l[k].1 ≤ 7) && (decide (l[k].2.length = if l[k].1 = 1 ∨ l[k].1 = 3 then 0 else 1) && rts l[k].2)) := rfl
    have hob : oneB l[k].2 = (decide (l[k].2.length ≤ 1) && rts l[k].2) := rfl
    rw [hco] at hdr
    rw [hob] at hO
    clear hco hob
    unfold Q2e at hg
    generalize rts l[k].2 = rb at *
    generalize l[k].2.length = nl at *
    generalize exsA l[k].2 = EE at *
    generalize l[k].1 = kk at *
    rw [hr, hdr]
    (have zz := Bx.mk (j8 ui0 ui3 ui4 ui9 ui22 ui23 ui24 (j9 ui25 ui26 ui40 ui70 ui71 hn hall hg hn2)); (repeat' (first | exact zc | (with_reducible first | apply And.intro | apply Q0a | apply Q0b | refine Q0c (by decide +kernel) ?_ | intro _) | refine zaY zz.out ?_ | ((first | (with_reducible refine uc (hO _) ?_) | (with_reducible refine uc (Q5d _ (by assumption) _) ?_) | (refine Q0d (by exact zK) ?_) | (refine Q0e (by exact zK) ?_)); (try refine zsY zz.out ?_)) | refine zo ?_ | omega | refine ztY zz.out ?_ | fail)); try (all_goals clear zz))
    all_goals first | exact ⟨k + 1, (), (), ⟨⟨hk2, by simp_all <;> omega⟩, by omega⟩, by (exact zu), rfl⟩ | exact ⟨σ, by (exact zu), b_eq (by simp_all <;> omega), rfl⟩ | (exfalso; omega)
  · rw [hr, List.drop_of_length_le hk2]
    (have zz := Bx.mk (j6 ui0 ui3 ui4 ui9 ui22 (j9 ui23 ui24 ui25 ui26 ui40 ui70 ui71 hn hall)); (repeat' (first | exact zc | (with_reducible first | apply And.intro | apply Q0a | apply Q0b | refine Q0c (by decide +kernel) ?_ | intro _) | refine zaY zz.out ?_ | ((first | (with_reducible refine uc (Q5d _ (by assumption) _) ?_) | (refine Q0d (by exact zK) ?_) | (refine Q0e (by exact zK) ?_)); (try refine zsY zz.out ?_)) | refine zo ?_ | omega | refine ztY zz.out ?_ | fail)); try (all_goals clear zz))
    all_goals exact ⟨_, .refl _, b_eq (by simp_all <;> omega), rfl⟩
theorem Q6d (l : List Se) (hl : l.length ≤ 9223372036854775807) (hL : ∀ x ∈ l, Lim x.2) (σ : Sg) : VCalls Tryz.prog 61 [.sl .any (l.map setA)] σ (fun x σ' => x = .b (Q8z l) ∧ σ' = σ) := by
  have hn : (l.map setA).length = l.length := zB ..
  have hall := Q1r (f := setA) (n := 9) l (fun x => by simp [setA, Q1a])
  have hgt := fun k (h : k < l.length) => Q1q (f := setA) h
  unfold Q8z
  generalize l.map setA = L at *
  (refine vfun (fun _ => .no) Q0k Tryz.func61 (by kernel_rfl) ?_; simp only [Q0f, Tryz.f61, zw])
  (have zz := Bx.mk (j6 ui0 ui3 ui4 ui9 ui22 (j9 ui23 ui24 ui25 ui26 ui39 ui67 ui68 hn hall)); (repeat' (first | exact zc | (with_reducible first | apply And.intro | apply Q0a | apply Q0b | refine Q0c (by decide +kernel) ?_ | intro _) | refine zaY zz.out ?_ | ((first | (with_reducible refine uc (Q5r _ (by assumption) _) ?_) | (with_reducible refine uc (Q1z _ _) ?_) | (refine Q0d (by exact zK) ?_) | (refine Q0e (by exact zK) ?_)); (try refine zsY zz.out ?_)) | refine zo ?_ | omega | refine ztY zz.out ?_ | fail)); try (all_goals clear zz))
  refine VW.loop3 (0 : Nat) () () (fun k _ _ => k ≤ l.length ∧ l.all Q6c = (l.drop k).all Q6c) (fun k _ _ => [(0, .sl .any L), (5, .sl .any L), (6, .i l.length), (7, .i k)]) (fun _ _ _ => σ) (fun k _ _ => l.length - k) ⟨Nat.zero_le _, rfl⟩ (.refl _) ?_ ?_
  · simp only [vO, vQ, ↓vP, vE, vS, vB, vL, vF, vM, vN, Q0i, zb, zd, ze, ne_eq, not_false_eq_true, zf, zg, zk, zl, vT]
    all_goals rfl
  rintro k _ _ ⟨hk, hr⟩
  rcases Nat.lt_or_ge k l.length with hk2 | hk2
  · have hg := hgt k hk2
    have hO := Q5r l[k].2 (hL _ (List.getElem_mem hk2))
    have hN := Q1z l[k].1
    have hFl := Q1a l[k].2
    have hFt := Q1b l[k].2
    have hFd := Q2q l[k].2
    have hFo := Q3r l[k].2
    have hdr : (l.drop k).all Q6c = (Q6c l[k] && (l.drop (k + 1)).all Q6c) := by rw [List.drop_eq_getElem_cons hk2, List.all_cons]
    have hco : Q6c l[k] = (isNm l[k].1 && rt l[k].2) := rfl
    rw [hco] at hdr
    clear hco
    unfold setA at hg
    generalize rt l[k].2 = rb at *
    generalize isNm l[k].1 = nb at *
    generalize exA l[k].2 = EE at *
    generalize l[k].1 = kk at *
    rw [hr, hdr]
    (have zz := Bx.mk (j3 ui0 ui3 (j9 ui4 ui9 ui22 ui23 ui24 ui25 ui26 ui39 (j9 ui67 ui68 hn hall hg hFl hFt hFd hFo))); (repeat' (first | exact zc | (with_reducible first | apply And.intro | apply Q0a | apply Q0b | refine Q0c (by decide +kernel) ?_ | intro _) | refine zaY zz.out ?_ | ((first | (with_reducible refine uc (hO _) ?_) | (with_reducible refine uc (hN _) ?_) | (with_reducible refine uc (Q5r _ (by assumption) _) ?_) | (with_reducible refine uc (Q1z _ _) ?_) | (refine Q0d (by exact zK) ?_) | (refine Q0e (by exact zK) ?_)); (try refine zsY zz.out ?_)) | refine zo ?_ | omega | refine ztY zz.out ?_ | fail)); try (all_goals clear zz))
    all_goals first | exact ⟨k + 1, (), (), ⟨⟨hk2, by simp_all <;> omega⟩, by omega⟩, by (exact zu), rfl⟩ | exact ⟨σ, by (exact zu), b_eq (by simp_all <;> omega), rfl⟩ | (exfalso; omega) | trace_state
  · rw [hr, List.drop_of_length_le hk2]
    (have zz := Bx.mk (j6 ui0 ui3 ui4 ui9 ui22 (j9 ui23 ui24 ui25 ui26 ui39 ui67 ui68 hn hall)); (repeat' (first | exact zc | (with_reducible first | apply And.intro | apply Q0a | apply Q0b | refine Q0c (by decide +kernel) ?_ | intro _) | refine zaY zz.out ?_ | ((first | (with_reducible refine uc (Q5r _ (by assumption) _) ?_) | (with_reducible refine uc (Q1z _ _) ?_) | (refine Q0d (by exact zK) ?_) | (refine Q0e (by exact zK) ?_)); (try refine zsY zz.out ?_)) | refine zo ?_ | omega | refine ztY zz.out ?_ | fail)); try (all_goals clear zz))
    all_goals exact ⟨_, .refl _, b_eq (by simp_all <;> omega), rfl⟩
theorem v_bad (v : Vl) (σ : Sg) : VCalls Tryz.prog 117 [.agg (valA v)] σ (fun x σ' => x = .b (!okV v) ∧ σ' = σ) := by
  have hw := Q4e v
  unfold valA
  generalize okV v = b at *
  generalize v.1 = v1 at *
  generalize v.2.1 = v2 at *
  generalize v.2.2 = v3 at *
  (refine vfun (fun _ => .ro) Q0k Tryz.func117 (by kernel_rfl) ?_; simp only [Q0f, Tryz.f117, zw])
  (have zz := Bx.mk (j6 ui0 ui3 ui4 ui9 ui22 ui23); (repeat' (first | exact zc | (with_reducible first | apply And.intro | apply Q0a | apply Q0b | refine Q0c (by decide +kernel) ?_ | intro _) | refine zaY zz.out ?_ | ((first | (with_reducible refine uc (hw _) ?_) | (with_reducible refine uc (Q4e _ _) ?_) | (refine Q0d (by exact zK) ?_) | (refine Q0e (by exact zK) ?_)); (try refine zsY zz.out ?_)) | refine zo ?_ | omega | refine ztY zz.out ?_ | fail)); try (all_goals clear zz))
  all_goals first | exact ⟨_, .refl _, rfl⟩ | exact ⟨_, .refl _, rfl, rfl⟩
theorem v_index (l : List Vl) (hl : l.length ≤ 9223372036854775807) (σ : Sg) :
    VCalls Tryz.prog 160 [.sl .any (Q5h l), .fn 117 []] σ (fun x σ' => ∃ n : Int, (0 ≤ n ↔ l.any (fun v => !okV v) = true) ∧ x = .i n ∧ σ' = σ) := by
  unfold Q5h
  have hn : (l.map valA).length = l.length := zB ..
  have hgt := fun k (h : k < l.length) => Q1q (f := valA) h
  have hall := Q1r (f := valA) (n := 3) l (fun _ => rfl)
  generalize l.map valA = L at *
  (refine vfun (fun _ => .no) Q0k Tryz.func160 (by kernel_rfl) ?_; simp only [Q0f, Tryz.f160, zw])
  (have zz := Bx.mk (j2 ui0 (j9 ui3 ui4 ui9 ui22 ui23 ui86 Q0t hn hall)); (repeat' (first | exact zc | (with_reducible first | apply And.intro | apply Q0a | apply Q0b | refine Q0c (by decide +kernel) ?_ | intro _) | refine zaY zz.out ?_ | ((first | (refine Q0d (by exact zK) ?_) | (refine Q0e (by exact zK) ?_)); (try refine zsY zz.out ?_)) | refine zo ?_ | omega | refine ztY zz.out ?_ | fail)); try (all_goals clear zz))
  refine VW.loop3 (0 : Nat) () () (fun k _ _ => k ≤ l.length ∧ ∀ j (hj : j < l.length), j < k → okV l[j] = true) (fun k _ _ => [(0, .sl .any L), (1, .fn 117 []), (6, .sl .any L), (7, .i l.length), (8, .i k)]) (fun _ _ _ => σ) (fun k _ _ => l.length - k) ⟨Nat.zero_le _, fun j hj h => by omega⟩ (.refl _) ?_ ?_
  · simp only [vO, vQ, ↓vP, vE, vS, vB, vL, vF, vM, vN, Q0i, zb, zd, ze, ne_eq, not_false_eq_true, zf, zg, zk, zl, vT]
    all_goals rfl
  rintro k _ _ ⟨hk, hp⟩
  rcases Nat.lt_or_ge k l.length with hk2 | hk2
  · have hg := hgt k hk2
    have hc := v_bad l[k]
    have hpk : okV l[k] = false → l.any (fun v => !okV v) = true := fun hh => List.any_eq_true.2 ⟨_, List.getElem_mem hk2, by rw [hh]; rfl⟩
    have hkk : okV l[k] = true → ∀ j (hj : j < l.length), j < k + 1 → okV l[j] = true := fun hh j hj h => by
      rcases Nat.lt_or_ge j k with q | q
      · exact hp j hj q
      · obtain rfl : j = k := by omega
        exact hh
    have hg2 : valA l[k] = [.i l[k].1, .i l[k].2.1, .s (bs l[k].2.2)] := rfl
    rw [hg2] at hg hc
    clear hg2 hp
    generalize okV l[k] = b at *
    generalize l[k].1 = v1 at *
    generalize l[k].2.1 = v2 at *
    generalize l[k].2.2 = v3 at *
    cases b with
    | true =>
      (have zz := Bx.mk (j3 ui0 ui3 (j9 ui4 ui9 ui22 ui23 ui86 Q0t hn hall hg)); (repeat' (first | exact zc | (with_reducible first | apply And.intro | apply Q0a | apply Q0b | refine Q0c (by decide +kernel) ?_ | intro _) | refine zaY zz.out ?_ | ((first | (with_reducible refine uc (hc _) ?_) | (refine Q0d (by exact zK) ?_) | (refine Q0e (by exact zK) ?_)); (try refine zsY zz.out ?_)) | refine zo ?_ | omega | refine ztY zz.out ?_ | fail)); try (all_goals clear zz))
      all_goals exact ⟨k + 1, (), (), ⟨⟨hk2, hkk rfl⟩, by omega⟩, .refl _, rfl⟩
    | false =>
      (have zz := Bx.mk (j3 ui0 ui3 (j9 ui4 ui9 ui22 ui23 ui86 Q0t hn hall hg)); (repeat' (first | exact zc | (with_reducible first | apply And.intro | apply Q0a | apply Q0b | refine Q0c (by decide +kernel) ?_ | intro _) | refine zaY zz.out ?_ | ((first | (with_reducible refine uc (hc _) ?_) | (refine Q0d (by exact zK) ?_) | (refine Q0e (by exact zK) ?_)); (try refine zsY zz.out ?_)) | refine zo ?_ | omega | refine ztY zz.out ?_ | fail)); try (all_goals clear zz))
      all_goals exact ⟨_, .refl _, k, ⟨fun _ => hpk rfl, fun _ => by omega⟩, rfl, rfl⟩
  · have hno : l.any (fun v => !okV v) = false := by
      rw [List.any_eq_false]
      intro x hx
      obtain ⟨j, hj, rfl⟩ := List.getElem_of_mem hx
      rw [hp j hj (by omega)]; decide
    rw [hno]
    (have zz := Bx.mk (j2 ui0 (j9 ui3 ui4 ui9 ui22 ui23 ui86 Q0t hn hall)); (repeat' (first | exact zc | (with_reducible first | apply And.intro | apply Q0a | apply Q0b | refine Q0c (by decide +kernel) ?_ | intro _) | refine zaY zz.out ?_ | ((first | (refine Q0d (by exact zK) ?_) | (refine Q0e (by exact zK) ?_)); (try refine zsY zz.out ?_)) | refine zo ?_ | omega | refine ztY zz.out ?_ | fail)); try (all_goals clear zz))
    all_goals exact ⟨_, .refl _, -1, ⟨fun h => by omega, fun h => by cases h⟩, rfl, rfl⟩
theorem any_not (l : List Vl) : l.any (fun v => !okV v) = !l.all okV := by
  induction l with
  | nil => rfl
  | cons x r ih => rw [List.any_cons, List.all_cons, ih]; cases okV x <;> simp
theorem v_contains (l : List Vl) (hl : l.length ≤ 9223372036854775807) (σ : Sg) :
    VCalls Tryz.prog 116 [.sl .any (Q5h l), .fn 117 []] σ (fun x σ' => x = .b (!l.all okV) ∧ σ' = σ) := by
  have hi := v_index l hl
  rw [any_not] at hi
  generalize (!l.all okV) = b at *
  (refine vfun (fun _ => .no) Q0k Tryz.func116 (by kernel_rfl) ?_; simp only [Q0f, Tryz.f116, zw])
  (have zz := Bx.mk (j7 ui3 ui4 ui9 ui22 ui23 ui86 Q0t); (repeat' (first | exact zc | (with_reducible first | apply And.intro | apply Q0a | apply Q0b | refine Q0c (by decide +kernel) ?_ | intro _) | refine zaY zz.out ?_ | ((first | ((with_reducible refine zS (hi _) ?_); rintro _ S ⟨n, hn, rfl, rfl⟩) | (refine Q0d (by exact zK) ?_) | (refine Q0e (by exact zK) ?_)); (try refine zsY zz.out ?_)) | refine zo ?_ | omega | refine ztY zz.out ?_ | fail)); try (all_goals clear zz))
  all_goals exact ⟨_, .refl _, b_eq (by simpa using hn), rfl⟩
theorem Q6e (l : List (List Vl)) (hl : l.length ≤ 9223372036854775807) (hL : ∀ r ∈ l, r.length ≤ 9223372036854775807) (σ : Sg) : VCalls Tryz.prog 60 [.sl .any (l.map rowA)] σ (fun x σ' => x = .b (Q9o l) ∧ σ' = σ) := by
  have hn : (l.map rowA).length = l.length := zB ..
  have hall := Q1r (f := rowA) (n := 1) l (fun _ => rfl)
  have hgt := fun k (h : k < l.length) => Q1q (f := rowA) h
  unfold Q9o
  generalize l.map rowA = L at *
  (refine vfun (fun _ => .no) Q0k Tryz.func60 (by kernel_rfl) ?_; simp only [Q0f, Tryz.f60, zw])
  (have zz := Bx.mk (j3 ui0 ui3 (j9 ui4 ui9 ui22 ui23 ui38 ui86 Q0t hn hall)); (repeat' (first | exact zc | (with_reducible first | apply And.intro | apply Q0a | apply Q0b | refine Q0c (by decide +kernel) ?_ | intro _) | refine zaY zz.out ?_ | ((first | (refine Q0d (by exact zK) ?_) | (refine Q0e (by exact zK) ?_)); (try refine zsY zz.out ?_)) | refine zo ?_ | omega | refine ztY zz.out ?_ | fail)); try (all_goals clear zz))
  refine VW.loop3 (0 : Nat) () () (fun k _ _ => k ≤ l.length ∧ l.all rowB = (l.drop k).all rowB) (fun k _ _ => [(0, .sl .any L), (5, .sl .any L), (6, .i l.length), (7, .i k)]) (fun _ _ _ => σ) (fun k _ _ => l.length - k) ⟨Nat.zero_le _, rfl⟩ (.refl _) ?_ ?_
  · simp only [vO, vQ, ↓vP, vE, vS, vB, vL, vF, vM, vN, Q0i, zb, zd, ze, ne_eq, not_false_eq_true, zf, zg, zk, zl, vT]
    all_goals rfl
  rintro k _ _ ⟨hk, hr⟩
  rcases Nat.lt_or_ge k l.length with hk2 | hk2
  · have hg := hgt k hk2
    have hO := v_contains l[k] (hL _ (List.getElem_mem hk2))
    have hn2 : (Q5h l[k]).length = l[k].length := zB ..
    have hdr : (l.drop k).all rowB = (rowB l[k] && (l.drop (k + 1)).all rowB) := by rw [List.drop_eq_getElem_cons hk2, List.all_cons]
    have hco : rowB l[k] = (l[k].all okV && decide (1 ≤ l[k].length ∧ l[k].length ≤ 8)) := rfl
    rw [hco] at hdr
    clear hco
    unfold rowA at hg
    generalize l[k].all okV = rb at *
    generalize l[k].length = nl at *
    generalize Q5h l[k] = EE at *
    rw [hr, hdr]
    (have zz := Bx.mk (j5 ui0 ui3 ui4 ui9 (j9 ui22 ui23 ui38 ui86 Q0t hn hall hg hn2)); (repeat' (first | exact zc | (with_reducible first | apply And.intro | apply Q0a | apply Q0b | refine Q0c (by decide +kernel) ?_ | intro _) | refine zaY zz.out ?_ | ((first | (with_reducible refine uc (hO _) ?_) | (refine Q0d (by exact zK) ?_) | (refine Q0e (by exact zK) ?_)); (try refine zsY zz.out ?_)) | refine zo ?_ | omega | refine ztY zz.out ?_ | fail)); try (all_goals clear zz))
    all_goals first | exact ⟨k + 1, (), (), ⟨⟨hk2, by simp_all <;> omega⟩, by omega⟩, .refl _, rfl⟩ | exact ⟨_, .refl _, b_eq (by simp_all <;> omega), rfl⟩ | (exfalso; omega)
  · rw [hr, List.drop_of_length_le hk2]
    (have zz := Bx.mk (j3 ui0 ui3 (j9 ui4 ui9 ui22 ui23 ui38 ui86 Q0t hn hall)); (repeat' (first | exact zc | (with_reducible first | apply And.intro | apply Q0a | apply Q0b | refine Q0c (by decide +kernel) ?_ | intro _) | refine zaY zz.out ?_ | ((first | (refine Q0d (by exact zK) ?_) | (refine Q0e (by exact zK) ?_)); (try refine zsY zz.out ?_)) | refine zo ?_ | omega | refine ztY zz.out ?_ | fail)); try (all_goals clear zz))
    all_goals exact ⟨_, .refl _, b_eq (by simp_all <;> omega), rfl⟩
end Go.Proofs.YtjdapkelojdefaaGreatDoor
