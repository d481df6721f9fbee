/- Part 9 of the proof: W4, W5, W6, E2, V17, V20, V21, E3, E4, E7, E6. -/
import Derived.Test.YtjdapkelojdefaaGreatDoorN7
import Derived.Test.YtjdapkelojdefaaGreatDoorN8
import Derived.Test.YtjdapkelojdefaaGreatDoorN3
import Derived.Lib.Bytealg
import Derived.Lib.MakeNoZero
import Derived.Test.YtjdapkelojdefaaGreatDoorN6

set_option linter.all false
set_option maxRecDepth 100000
set_option maxHeartbeats 4000000
open Nat renaming reduceEqDiff → zb, reduceAdd → zd, reduceLeDiff → ze, reduceMul → zf, reduceSub → zg, lt_of_lt_of_le → zj
open Int renaming toNat_zero → zk, reduceToNat → zl
open Go.V.Sg renaming set_same → zn, set_ne → zp, set_ne' → zq, del_ne → zr, del_ne' → zv
open Option renaming getD_some → zw
open List renaming length_append → zx, length_cons → zy, append_assoc → zC, nil_append → zG
open Go.Cert renaming ne_of2 → zP, ne_ob → zQ
open Go.V.VCalls renaming mono → zS
open Go.Proofs.Tryz renaming underlying3 → Z3, underlying5 → Z5, underlying9 → Z9, underlying150 → Z150, underlying179 → Z179, underlying187 → Z187
namespace Go.Proofs.YtjdapkelojdefaaGreatDoor
open Go Go.V Go.Lex Go.Parse Go.Print
theorem kd_val {e : Tr} (h : e.ex.kd = 1) : ∃ v, e = .val v := by
  cases e <;> first | exact ⟨_, rfl⟩ | (simp [Tr.ex, Ex.kd] at h; done)
theorem wdM : wd [45] = sT [45] := rfl
theorem wdNot : wd [78, 79, 84] = wT [78, 79, 84] := rfl
theorem wdIs : wd [73, 83] = wT [73, 83] := rfl
theorem wdNull : wd [78, 85, 76, 76] = wT [78, 85, 76, 76] := rfl
theorem w_neg (e : Tr) (hw : e.wf) (hC : Cx e) : Wr 48 (exA e.ex) (Tr.neg e).tk (Tr.neg e).dp := by
  rw [tk_neg, Tr.dp]
  intro B ω τ l d m h h0 h1 h2 h3 h4
  rw [zy] at h4
  cases hp : e.pos with
  | true =>
    obtain ⟨v, rfl⟩ : ∃ v, e = .val v := by
      cases e <;> first | exact ⟨_, rfl⟩ | (cases hp; done)
    have hv : v.1 = 1 ∧ 0 ≤ v.2.1 := of_decide_eq_true hp
    have hl : lo (.val v) 7 = false := rfl
    rw [hp, hl] at h3 h4
    have hbl := (Q7k true (Tr.val v).tk).2
    simp only [bd, if_true, Bool.false_eq_true, if_false] at h3
    have hb0 : br false (Tr.val v).tk = (Tr.val v).tk := rfl
    rw [hb0] at h4
    have hW := X2w (.val v) hC B ω
    obtain ⟨q1, q2⟩ := hv
    rw [Q8l, q1] at hW ⊢
    rw [hl, hb0]
    simp only [bd, if_true, Bool.false_eq_true, if_false]
    generalize hT : br true (Tr.val v).tk = TT at *
    generalize (Tr.val v).dp = D at *
    (refine vfun (fun _ => .ro) Q0k Tryz.func48 (by kernel_rfl) ?_; simp only [Q0f, Tryz.f48, zw])
    (have zz := Bx.mk (j2 ui0 (j9 ui3 ui4 ui9 ui22 ui23 ui24 ui25 ui26 (j9 ui55 ui56 ui57 ui58 ui59 ui75 Q0q Q0r WLg))); (repeat' (first | exact zc | (with_reducible first | apply And.intro | apply Q0a | apply Q0b | refine Q0c (by decide +kernel) ?_ | intro _) | ((with_reducible first | refine .dms (fun x => x = ω) [(0, false), (1, false), (2, false), (3, false), (4, false), (5, false), (6, false), (7, false), (8, false), (9, false), (10, true), (11, false), (12, true)] (by decide) (by decide +kernel) ?_ | refine .dm (fun x => x = ω) [(0, false), (1, false), (2, false), (3, false), (4, false), (5, false), (6, false), (7, false), (8, false), (9, false), (10, true), (11, false), (12, true)] (by decide) (by decide +kernel) ?_); (refine zsR zz.out ?_)) | refine zaR zz.out ?_ | refine zkK zz.out ?_ | ((first | (refine Q0l (by intro β h; first | (rcases h with h | h <;> subst h <;> (simp (disch := first | assumption | (apply zP; assumption; assumption) | (apply zQ; assumption; assumption; (intro e; cases e; done)) | omega) only [zn, zp, zq, zr, zv])) | (subst h; (simp (disch := first | assumption | (apply zP; assumption; assumption) | (apply zQ; assumption; assumption; (intro e; cases e; done)) | omega) only [zn, zp, zq, zr, zv]))) ?_) | ((with_reducible refine zS (hW _ _ _ _ (by exact zO) (by omega) (by omega) (by omega) (by omega) (by exact zN)) ?_); rintro _ S ⟨rfl, τ1, ⟨f1, n1⟩, rfl⟩; have n1s := n1.symm) | ((with_reducible refine zS (Q0n _ _ _ _ _ _ _ _ (by repeat (first | exact Q0j | refine Q0g ?_ (by simp))) (by exact zO) (by exact zN)) ?_); rintro _ S ⟨rfl, τ1, ⟨f1, n1⟩, rfl⟩; have n1s := n1.symm) | (refine Q0d (by exact zK) ?_) | (refine Q0e (by exact zK) ?_)); (try refine zsR zz.out ?_)) | refine zmR zz.out ?_ | refine zo ?_ | omega | refine ztR zz.out ?_ | fail)); try (all_goals clear zz))
    all_goals exact ⟨_, .refl _, τ1, ⟨f1, n1⟩, Q2g (by simp [wdM]) (by omega) (by omega)⟩
  | false =>
    have hA := w_at e hw hC 7 (by decide) B ω
    have hbf : br false (br (lo e 7) e.tk) = br (lo e 7) e.tk := rfl
    rw [hp, hbf] at h4
    rw [hp] at h3
    rw [hbf]
    simp only [bd, Bool.false_eq_true, if_false, Nat.zero_add] at h3 ⊢
    simp only [bd] at hA
    by_cases hk : e.ex.kd = 1
    · obtain ⟨v, rfl⟩ := kd_val hk
      have hv : ¬ (v.1 = 1 ∧ 0 ≤ v.2.1) := of_decide_eq_false hp
      rw [Q8l] at hA ⊢
      generalize br (lo (Tr.val v) 7) (Tr.val v).tk = TT at *
      generalize (if lo (Tr.val v) 7 = true then 1 else 0) + (Tr.val v).dp = D at *
      (refine vfun (fun _ => .ro) Q0k Tryz.func48 (by kernel_rfl) ?_; simp only [Q0f, Tryz.f48, zw])
      (have zz := Bx.mk (j2 ui0 (j9 ui3 ui4 ui9 ui22 ui23 ui24 ui25 ui26 (j9 ui55 ui56 ui57 ui58 ui59 ui75 Q0q Q0r WLg))); (repeat' (first | exact zc | (with_reducible first | apply And.intro | apply Q0a | apply Q0b | refine Q0c (by decide +kernel) ?_ | intro _) | ((with_reducible first | refine .dms (fun x => x = ω) [(0, false), (1, false), (2, false), (3, false), (4, false), (5, false), (6, false), (7, false), (8, false), (9, false), (10, true), (11, false), (12, true)] (by decide) (by decide +kernel) ?_ | refine .dm (fun x => x = ω) [(0, false), (1, false), (2, false), (3, false), (4, false), (5, false), (6, false), (7, false), (8, false), (9, false), (10, true), (11, false), (12, true)] (by decide) (by decide +kernel) ?_); (refine zsR zz.out ?_)) | refine zaR zz.out ?_ | refine zkK zz.out ?_ | ((first | (refine Q0l (by intro β h; first | (rcases h with h | h <;> subst h <;> (simp (disch := first | assumption | (apply zP; assumption; assumption) | (apply zQ; assumption; assumption; (intro e; cases e; done)) | omega) only [zn, zp, zq, zr, zv])) | (subst h; (simp (disch := first | assumption | (apply zP; assumption; assumption) | (apply zQ; assumption; assumption; (intro e; cases e; done)) | omega) only [zn, zp, zq, zr, zv]))) ?_) | ((with_reducible refine zS (hA _ _ _ _ (by exact zO) (by omega) (by omega) (by omega) (by omega) (by exact zN)) ?_); rintro _ S ⟨rfl, τ1, ⟨f1, n1⟩, rfl⟩; have n1s := n1.symm) | ((with_reducible refine zS (Q0n _ _ _ _ _ _ _ _ (by repeat (first | exact Q0j | refine Q0g ?_ (by simp))) (by exact zO) (by exact zN)) ?_); rintro _ S ⟨rfl, τ1, ⟨f1, n1⟩, rfl⟩; have n1s := n1.symm) | (refine Q0d (by exact zK) ?_) | (refine Q0e (by exact zK) ?_)); (try refine zsR zz.out ?_)) | refine zmR zz.out ?_ | refine zo ?_ | omega | refine ztR zz.out ?_ | fail)); try (all_goals clear zz))
      all_goals first | exact ⟨_, .refl _, τ1, ⟨f1, n1⟩, Q2g (by simp [wdM]) (by omega) (by omega)⟩ | (exfalso; omega)
    · obtain ⟨op, t, n, v, ll, hf⟩ := X0i e.ex
      rw [hf] at hA ⊢
      generalize br (lo e 7) e.tk = TT at *
      generalize (if lo e 7 = true then 1 else 0) + e.dp = D at *
      (refine vfun (fun _ => .ro) Q0k Tryz.func48 (by kernel_rfl) ?_; simp only [Q0f, Tryz.f48, zw])
      (have zz := Bx.mk (j3 ui0 ui3 (j9 ui4 ui9 ui22 ui23 ui24 ui25 ui26 ui55 (j9 ui56 ui57 ui58 ui59 ui75 Q0q Q0r hk WLg))); (repeat' (first | exact zc | (with_reducible first | apply And.intro | apply Q0a | apply Q0b | refine Q0c (by decide +kernel) ?_ | intro _) | ((with_reducible first | refine .dms (fun x => x = ω) [(0, false), (1, false), (2, false), (3, false), (4, false), (5, false), (6, false), (7, false), (8, false), (9, false), (10, true), (11, false), (12, true)] (by decide) (by decide +kernel) ?_ | refine .dm (fun x => x = ω) [(0, false), (1, false), (2, false), (3, false), (4, false), (5, false), (6, false), (7, false), (8, false), (9, false), (10, true), (11, false), (12, true)] (by decide) (by decide +kernel) ?_); (refine zsR zz.out ?_)) | refine zaR zz.out ?_ | refine zkK zz.out ?_ | ((first | (refine Q0l (by intro β h; first | (rcases h with h | h <;> subst h <;> (simp (disch := first | assumption | (apply zP; assumption; assumption) | (apply zQ; assumption; assumption; (intro e; cases e; done)) | omega) only [zn, zp, zq, zr, zv])) | (subst h; (simp (disch := first | assumption | (apply zP; assumption; assumption) | (apply zQ; assumption; assumption; (intro e; cases e; done)) | omega) only [zn, zp, zq, zr, zv]))) ?_) | ((with_reducible refine zS (hA _ _ _ _ (by exact zO) (by omega) (by omega) (by omega) (by omega) (by exact zN)) ?_); rintro _ S ⟨rfl, τ1, ⟨f1, n1⟩, rfl⟩; have n1s := n1.symm) | ((with_reducible refine zS (Q0n _ _ _ _ _ _ _ _ (by repeat (first | exact Q0j | refine Q0g ?_ (by simp))) (by exact zO) (by exact zN)) ?_); rintro _ S ⟨rfl, τ1, ⟨f1, n1⟩, rfl⟩; have n1s := n1.symm) | (refine Q0d (by exact zK) ?_) | (refine Q0e (by exact zK) ?_)); (try refine zsR zz.out ?_)) | refine zmR zz.out ?_ | refine zo ?_ | omega | refine ztR zz.out ?_ | fail)); try (all_goals clear zz))
      all_goals first | exact ⟨_, .refl _, τ1, ⟨f1, n1⟩, Q2g (by simp [wdM]) (by omega) (by omega)⟩ | (exfalso; omega)
theorem w_not (e : Tr) (hw : e.wf) (hC : Cx e) (hx : ∀ x, e = .null x → Cx x) : Wr 49 (exA e.ex) (Tr.not e).tk (Tr.not e).dp := by
  intro B ω τ l d m h h0 h1 h2 h3 h4
  cases hn : e.isNull with
  | true =>
    obtain ⟨x, rfl⟩ : ∃ x, e = .null x := by
      cases e <;> first | exact ⟨_, rfl⟩ | (cases hn; done)
    rw [X0f] at h3 ⊢
    rw [Q6a] at h4 ⊢
    simp only [zx, zy, List.length_nil] at h4
    have hA := w_at x hw (hx x rfl) 5 (by decide) B ω
    have hxl := Q1a x.ex
    have hxt := Q1b x.ex
    rw [X0h]
    generalize br (lo x 5) x.tk = TT at *
    generalize bd (lo x 5) + x.dp = D at *
    generalize exA x.ex = X at *
    (refine vfun (fun _ => .ro) Q0k Tryz.func49 (by kernel_rfl) ?_; simp only [Q0f, Tryz.f49, zw])
    (have zz := Bx.mk (j4 ui0 ui3 ui4 (j9 ui9 ui22 ui23 ui24 ui25 ui26 ui55 ui56 (j9 ui57 ui58 ui59 ui75 Q0q Q0r hxl hxt WLg))); (repeat' (first | exact zc | (with_reducible first | apply And.intro | apply Q0a | apply Q0b | refine Q0c (by decide +kernel) ?_ | intro _) | ((with_reducible first | refine .dms (fun x => x = ω) [(0, false), (1, false), (2, false), (3, false), (4, false), (5, false), (6, false), (7, false), (8, false), (9, false), (10, true), (11, false), (12, true)] (by decide) (by decide +kernel) ?_ | refine .dm (fun x => x = ω) [(0, false), (1, false), (2, false), (3, false), (4, false), (5, false), (6, false), (7, false), (8, false), (9, false), (10, true), (11, false), (12, true)] (by decide) (by decide +kernel) ?_); (refine zsR zz.out ?_)) | refine zaR zz.out ?_ | refine zkK zz.out ?_ | ((first | (refine Q0l (by intro β h; first | (rcases h with h | h <;> subst h <;> (simp (disch := first | assumption | (apply zP; assumption; assumption) | (apply zQ; assumption; assumption; (intro e; cases e; done)) | omega) only [zn, zp, zq, zr, zv])) | (subst h; (simp (disch := first | assumption | (apply zP; assumption; assumption) | (apply zQ; assumption; assumption; (intro e; cases e; done)) | omega) only [zn, zp, zq, zr, zv]))) ?_) | ((with_reducible refine zS (hA _ _ _ _ (by exact zO) (by omega) (by omega) (by omega) (by omega) (by exact zN)) ?_); rintro _ S ⟨rfl, τ1, ⟨f1, n1⟩, rfl⟩; have n1s := n1.symm) | ((with_reducible refine zS (Q0n _ _ _ _ _ _ _ _ (by repeat (first | exact Q0j | refine Q0g ?_ (by simp))) (by exact zO) (by exact zN)) ?_); rintro _ S ⟨rfl, τ1, ⟨f1, n1⟩, rfl⟩; have n1s := n1.symm) | (refine Q0d (by exact zK) ?_) | (refine Q0e (by exact zK) ?_)); (try refine zsR zz.out ?_)) | refine zmR zz.out ?_ | refine zo ?_ | omega | refine ztR zz.out ?_ | fail)); try (all_goals clear zz))
    all_goals exact ⟨_, .refl _, τ1, ⟨f1, n1⟩, Q2g (by simp [wdIs, wdNot, wdNull]) (by omega) (by omega)⟩
  | false =>
    rw [X1v hn] at h3 ⊢
    rw [Q9i hn] at h4 ⊢
    rw [zy] at h4
    have hA := w_at e hw hC 3 (by decide) B ω
    have hk : ¬ e.ex.kd = 6 := fun hh => by rw [(X3s e).1 hh] at hn; cases hn
    obtain ⟨op, t, n, v, ll, hf⟩ := X0i e.ex
    rw [hf] at hA ⊢
    generalize br (lo e 3) e.tk = TT at *
    generalize bd (lo e 3) + e.dp = D at *
    (refine vfun (fun _ => .ro) Q0k Tryz.func49 (by kernel_rfl) ?_; simp only [Q0f, Tryz.f49, zw])
    (have zz := Bx.mk (j3 ui0 ui3 (j9 ui4 ui9 ui22 ui23 ui24 ui25 ui26 ui55 (j9 ui56 ui57 ui58 ui59 ui75 Q0q Q0r hk WLg))); (repeat' (first | exact zc | (with_reducible first | apply And.intro | apply Q0a | apply Q0b | refine Q0c (by decide +kernel) ?_ | intro _) | ((with_reducible first | refine .dms (fun x => x = ω) [(0, false), (1, false), (2, false), (3, false), (4, false), (5, false), (6, false), (7, false), (8, false), (9, false), (10, true), (11, false), (12, true)] (by decide) (by decide +kernel) ?_ | refine .dm (fun x => x = ω) [(0, false), (1, false), (2, false), (3, false), (4, false), (5, false), (6, false), (7, false), (8, false), (9, false), (10, true), (11, false), (12, true)] (by decide) (by decide +kernel) ?_); (refine zsR zz.out ?_)) | refine zaR zz.out ?_ | refine zkK zz.out ?_ | ((first | (refine Q0l (by intro β h; first | (rcases h with h | h <;> subst h <;> (simp (disch := first | assumption | (apply zP; assumption; assumption) | (apply zQ; assumption; assumption; (intro e; cases e; done)) | omega) only [zn, zp, zq, zr, zv])) | (subst h; (simp (disch := first | assumption | (apply zP; assumption; assumption) | (apply zQ; assumption; assumption; (intro e; cases e; done)) | omega) only [zn, zp, zq, zr, zv]))) ?_) | ((with_reducible refine zS (hA _ _ _ _ (by exact zO) (by omega) (by omega) (by omega) (by omega) (by exact zN)) ?_); rintro _ S ⟨rfl, τ1, ⟨f1, n1⟩, rfl⟩; have n1s := n1.symm) | ((with_reducible refine zS (Q0n _ _ _ _ _ _ _ _ (by repeat (first | exact Q0j | refine Q0g ?_ (by simp))) (by exact zO) (by exact zN)) ?_); rintro _ S ⟨rfl, τ1, ⟨f1, n1⟩, rfl⟩; have n1s := n1.symm) | (refine Q0d (by exact zK) ?_) | (refine Q0e (by exact zK) ?_)); (try refine zsR zz.out ?_)) | refine zmR zz.out ?_ | refine zo ?_ | omega | refine ztR zz.out ?_ | fail)); try (all_goals clear zz))
    all_goals exact ⟨_, .refl _, τ1, ⟨f1, n1⟩, Q2g (by simp [wdNot]) (by omega) (by omega)⟩
theorem ops_get (k : Nat) (h : k < 14) : (strs ops).getD k [] = [.s (bs (ops.getD k []))] := Q7u h
theorem ops_ne : ∀ k, k < 14 → 1 ≤ k → ops.getD k [] ≠ [] := by decide +kernel
theorem ops_len : (strs ops).length = 14 := rfl
theorem wdDot : wd [46] = sT [46] := rfl
theorem rgV {v : Vl} (h1 : okV v = true) (h2 : inR v.2.1) : inR' v.2.1 ∧ (v.1 = 0 ∨ v.1 = 1 ∨ v.1 = 2) := by
  unfold inR at h2
  unfold inR'
  rcases X1x h1 with rfl | ⟨q1, q2, q3⟩ | ⟨q1, q2, q3⟩
  · exact ⟨⟨by decide, by decide⟩, .inl rfl⟩
  · exact ⟨by omega, .inr (.inl q1)⟩
  · exact ⟨by omega, .inr (.inr q1)⟩
theorem x_val (v : Vl) (hw : (Tr.val v).wf) (hg : (Tr.val v).rg) : Cx (.val v) := by
  intro B ω τ l d m h h0 h1 h2 h3 h4
  obtain ⟨q1, q2⟩ := rgV hw hg
  have hl := (X1d v).2
  have hL : ∀ T r, _ := fun T r => Q2z T r B ω τ l v h (by omega) q1 q2
  rw [Q8l]
  have e1 : (Tr.val v).tk = litT v := rfl
  have e2 : (Tr.val v).dp = 0 := rfl
  rw [e1, e2]
  generalize v.1 = v1 at *
  generalize v.2.1 = v2 at *
  generalize v.2.2 = v3 at *
  (refine vfun (fun _ => .ro) Q0k Tryz.func21 (by kernel_rfl) ?_; simp only [Q0f, Tryz.f21, zw])
  (have zz := Bx.mk (j2 ui0 (j9 ui3 ui4 ui9 ui22 ui23 ui24 ui25 ui26 (j9 ui55 ui56 ui57 ui58 ui59 ui75 Q0q Q0r WLg))); (repeat' (first | exact zc | (with_reducible first | apply And.intro | apply Q0a | apply Q0b | refine Q0c (by decide +kernel) ?_ | intro _) | ((with_reducible first | refine .dms (fun x => False) [(0, false), (1, false), (2, false), (3, true), (4, false), (5, true)] (by decide) (by decide +kernel) ?_ | refine .dm (fun x => False) [(0, false), (1, false), (2, false), (3, true), (4, false), (5, true)] (by decide) (by decide +kernel) ?_); (refine zsR zz.out ?_)) | ((with_reducible first | refine .dms (fun x => False) [(0, false), (1, false), (2, false), (3, true), (4, false), (5, true)] (by decide) (by decide +kernel) ?_ | refine .dm (fun x => False) [(0, false), (1, false), (2, false), (3, true), (4, false), (5, true)] (by decide) (by decide +kernel) ?_); (refine zsR zz.out ?_)) | ((with_reducible first | refine .dms (fun x => False) [(0, false), (1, false), (2, false), (3, true), (4, false), (5, true)] (by decide) (by decide +kernel) ?_ | refine .dm (fun x => False) [(0, false), (1, false), (2, false), (3, true), (4, false), (5, true)] (by decide) (by decide +kernel) ?_); (refine zsR zz.out ?_)) | ((with_reducible first | refine .dms (fun x => False) [(0, false), (1, false), (2, false), (3, false), (4, true), (5, true), (6, true), (7, true), (8, false), (9, true)] (by decide) (by decide +kernel) ?_ | refine .dm (fun x => False) [(0, false), (1, false), (2, false), (3, false), (4, true), (5, true), (6, true), (7, true), (8, false), (9, true)] (by decide) (by decide +kernel) ?_); (refine zsR zz.out ?_)) | refine zaR zz.out ?_ | refine zkN zz.out ?_ | ((first | (refine Q0l (by intro β h; first | (rcases h with h | h <;> subst h <;> (simp (disch := first | assumption | (apply zP; assumption; assumption) | (apply zQ; assumption; assumption; (intro e; cases e; done)) | omega) only [zn, zp, zq, zr, zv])) | (subst h; (simp (disch := first | assumption | (apply zP; assumption; assumption) | (apply zQ; assumption; assumption; (intro e; cases e; done)) | omega) only [zn, zp, zq, zr, zv]))) ?_) | ((with_reducible refine zS (hL _ _) ?_); rintro _ S ⟨rfl, τ1, ⟨f1, n1⟩, rfl⟩; have n1s := n1.symm) | ((with_reducible refine zS (Q0n _ _ _ _ _ _ _ _ (by repeat (first | exact Q0j | refine Q0g ?_ (by simp))) (by exact zO) (by exact zN)) ?_); rintro _ S ⟨rfl, τ1, ⟨f1, n1⟩, rfl⟩; have n1s := n1.symm) | ((with_reducible refine zS (Q2z _ _ _ _ _ _ _ (by exact zO) (by exact zN) (by assumption) (by assumption)) ?_); rintro _ S ⟨rfl, τ1, ⟨f1, n1⟩, rfl⟩; have n1s := n1.symm) | ((with_reducible refine zS (Q2n _ _ _ _ _ _ _ (by exact zO) (by exact zN)) ?_); rintro _ S ⟨rfl, τ1, ⟨f1, n1⟩, rfl⟩; have n1s := n1.symm) | (with_reducible refine uc (Q4l _ (by assumption) _ (by first | assumption | rfl) _) ?_) | (with_reducible refine uc (w_ops _) ?_) | (refine Q0d (by exact zK) ?_) | (refine Q0e (by exact zK) ?_)); (try refine zsR zz.out ?_)) | refine zmR zz.out ?_ | refine zo ?_ | omega | refine ztR zz.out ?_ | fail)); try (all_goals clear zz))
  all_goals exact ⟨_, .refl _, τ1, ⟨f1, n1⟩, Q2g rfl rfl (by omega)⟩
theorem x_col (t n : By) : Cx (.col t n) := by
  intro B ω τ l d m h h0 h1 h2 h3 h4
  have e2 : (Tr.col t n).dp = 0 := rfl
  rw [ex_col, e2]
  rw [Tr.tk] at h4 ⊢
  by_cases ht : t = []
  · rw [if_pos ht] at h4 ⊢
    subst ht
    (refine vfun (fun _ => .ro) Q0k Tryz.func21 (by kernel_rfl) ?_; simp only [Q0f, Tryz.f21, zw])
    (have zz := Bx.mk (j2 ui0 (j9 ui3 ui4 ui9 ui22 ui23 ui24 ui25 ui26 (j9 ui55 ui56 ui57 ui58 ui59 ui75 Q0q Q0r WLg))); (repeat' (first | exact zc | (with_reducible first | apply And.intro | apply Q0a | apply Q0b | refine Q0c (by decide +kernel) ?_ | intro _) | ((with_reducible first | refine .dms (fun x => False) [(0, false), (1, false), (2, false), (3, true), (4, false), (5, true)] (by decide) (by decide +kernel) ?_ | refine .dm (fun x => False) [(0, false), (1, false), (2, false), (3, true), (4, false), (5, true)] (by decide) (by decide +kernel) ?_); (refine zsR zz.out ?_)) | ((with_reducible first | refine .dms (fun x => False) [(0, false), (1, false), (2, false), (3, true), (4, false), (5, true)] (by decide) (by decide +kernel) ?_ | refine .dm (fun x => False) [(0, false), (1, false), (2, false), (3, true), (4, false), (5, true)] (by decide) (by decide +kernel) ?_); (refine zsR zz.out ?_)) | ((with_reducible first | refine .dms (fun x => False) [(0, false), (1, false), (2, false), (3, true), (4, false), (5, true)] (by decide) (by decide +kernel) ?_ | refine .dm (fun x => False) [(0, false), (1, false), (2, false), (3, true), (4, false), (5, true)] (by decide) (by decide +kernel) ?_); (refine zsR zz.out ?_)) | ((with_reducible first | refine .dms (fun x => False) [(0, false), (1, false), (2, false), (3, false), (4, true), (5, true), (6, true), (7, true), (8, false), (9, true)] (by decide) (by decide +kernel) ?_ | refine .dm (fun x => False) [(0, false), (1, false), (2, false), (3, false), (4, true), (5, true), (6, true), (7, true), (8, false), (9, true)] (by decide) (by decide +kernel) ?_); (refine zsR zz.out ?_)) | refine zaR zz.out ?_ | refine zkN zz.out ?_ | ((first | (refine Q0l (by intro β h; first | (rcases h with h | h <;> subst h <;> (simp (disch := first | assumption | (apply zP; assumption; assumption) | (apply zQ; assumption; assumption; (intro e; cases e; done)) | omega) only [zn, zp, zq, zr, zv])) | (subst h; (simp (disch := first | assumption | (apply zP; assumption; assumption) | (apply zQ; assumption; assumption; (intro e; cases e; done)) | omega) only [zn, zp, zq, zr, zv]))) ?_) | ((with_reducible refine zS (Q0n _ _ _ _ _ _ _ _ (by repeat (first | exact Q0j | refine Q0g ?_ (by simp))) (by exact zO) (by exact zN)) ?_); rintro _ S ⟨rfl, τ1, ⟨f1, n1⟩, rfl⟩; have n1s := n1.symm) | ((with_reducible refine zS (Q2z _ _ _ _ _ _ _ (by exact zO) (by exact zN) (by assumption) (by assumption)) ?_); rintro _ S ⟨rfl, τ1, ⟨f1, n1⟩, rfl⟩; have n1s := n1.symm) | ((with_reducible refine zS (Q2n _ _ _ _ _ _ _ (by exact zO) (by exact zN)) ?_); rintro _ S ⟨rfl, τ1, ⟨f1, n1⟩, rfl⟩; have n1s := n1.symm) | (with_reducible refine uc (Q4l _ (by assumption) _ (by first | assumption | rfl) _) ?_) | (with_reducible refine uc (w_ops _) ?_) | (refine Q0d (by exact zK) ?_) | (refine Q0e (by exact zK) ?_)); (try refine zsR zz.out ?_)) | refine zmR zz.out ?_ | refine zo ?_ | omega | refine ztR zz.out ?_ | fail)); try (all_goals clear zz))
    all_goals first | exact ⟨_, .refl _, τ1, ⟨f1, n1⟩, Q2g rfl rfl (by omega)⟩ | (exfalso; simp_all; done)
  · rw [if_neg ht] at h4 ⊢
    simp only [zy, List.length_nil] at h4
    (refine vfun (fun _ => .ro) Q0k Tryz.func21 (by kernel_rfl) ?_; simp only [Q0f, Tryz.f21, zw])
    (have zz := Bx.mk (j3 ui0 ui3 (j9 ui4 ui9 ui22 ui23 ui24 ui25 ui26 ui55 (j9 ui56 ui57 ui58 ui59 ui75 Q0q Q0r ht WLg))); (repeat' (first | exact zc | (with_reducible first | apply And.intro | apply Q0a | apply Q0b | refine Q0c (by decide +kernel) ?_ | intro _) | ((with_reducible first | refine .dms (fun x => False) [(0, false), (1, false), (2, false), (3, true), (4, false), (5, true)] (by decide) (by decide +kernel) ?_ | refine .dm (fun x => False) [(0, false), (1, false), (2, false), (3, true), (4, false), (5, true)] (by decide) (by decide +kernel) ?_); (refine zsR zz.out ?_)) | ((with_reducible first | refine .dms (fun x => False) [(0, false), (1, false), (2, false), (3, true), (4, false), (5, true)] (by decide) (by decide +kernel) ?_ | refine .dm (fun x => False) [(0, false), (1, false), (2, false), (3, true), (4, false), (5, true)] (by decide) (by decide +kernel) ?_); (refine zsR zz.out ?_)) | ((with_reducible first | refine .dms (fun x => False) [(0, false), (1, false), (2, false), (3, true), (4, false), (5, true)] (by decide) (by decide +kernel) ?_ | refine .dm (fun x => False) [(0, false), (1, false), (2, false), (3, true), (4, false), (5, true)] (by decide) (by decide +kernel) ?_); (refine zsR zz.out ?_)) | ((with_reducible first | refine .dms (fun x => False) [(0, false), (1, false), (2, false), (3, false), (4, true), (5, true), (6, true), (7, true), (8, false), (9, true)] (by decide) (by decide +kernel) ?_ | refine .dm (fun x => False) [(0, false), (1, false), (2, false), (3, false), (4, true), (5, true), (6, true), (7, true), (8, false), (9, true)] (by decide) (by decide +kernel) ?_); (refine zsR zz.out ?_)) | refine zaR zz.out ?_ | refine zkN zz.out ?_ | ((first | (refine Q0l (by intro β h; first | (rcases h with h | h <;> subst h <;> (simp (disch := first | assumption | (apply zP; assumption; assumption) | (apply zQ; assumption; assumption; (intro e; cases e; done)) | omega) only [zn, zp, zq, zr, zv])) | (subst h; (simp (disch := first | assumption | (apply zP; assumption; assumption) | (apply zQ; assumption; assumption; (intro e; cases e; done)) | omega) only [zn, zp, zq, zr, zv]))) ?_) | ((with_reducible refine zS (Q0n _ _ _ _ _ _ _ _ (by repeat (first | exact Q0j | refine Q0g ?_ (by simp))) (by exact zO) (by exact zN)) ?_); rintro _ S ⟨rfl, τ1, ⟨f1, n1⟩, rfl⟩; have n1s := n1.symm) | ((with_reducible refine zS (Q2z _ _ _ _ _ _ _ (by exact zO) (by exact zN) (by assumption) (by assumption)) ?_); rintro _ S ⟨rfl, τ1, ⟨f1, n1⟩, rfl⟩; have n1s := n1.symm) | ((with_reducible refine zS (Q2n _ _ _ _ _ _ _ (by exact zO) (by exact zN)) ?_); rintro _ S ⟨rfl, τ1, ⟨f1, n1⟩, rfl⟩; have n1s := n1.symm) | (with_reducible refine uc (Q4l _ (by assumption) _ (by first | assumption | rfl) _) ?_) | (with_reducible refine uc (w_ops _) ?_) | (refine Q0d (by exact zK) ?_) | (refine Q0e (by exact zK) ?_)); (try refine zsR zz.out ?_)) | refine zmR zz.out ?_ | refine zo ?_ | omega | refine ztR zz.out ?_ | fail)); try (all_goals clear zz))
    all_goals first | exact ⟨_, .refl _, τ1, ⟨f1, n1⟩, Q2g (by simp [wdDot]) rfl (by omega)⟩ | (exfalso; simp_all; done)
theorem x_null (e : Tr) (hw : e.wf) (hC : Cx e) : Cx (.null e) := by
  intro B ω τ l d m h h0 h1 h2 h3 h4
  have hA := w_at e hw hC 5 (by decide) B ω
  have hxl := Q1a e.ex
  have hxt := Q1b e.ex
  rw [X1u] at h4 ⊢
  rw [Tr.dp] at h3 ⊢
  simp only [zx, zy, List.length_nil] at h4
  rw [X0h]
  generalize br (lo e 5) e.tk = TT at *
  generalize bd (lo e 5) + e.dp = D at *
  generalize exA e.ex = X at *
  (refine vfun (fun _ => .ro) Q0k Tryz.func21 (by kernel_rfl) ?_; simp only [Q0f, Tryz.f21, zw])
  (have zz := Bx.mk (j4 ui0 ui3 ui4 (j9 ui9 ui22 ui23 ui24 ui25 ui26 ui55 ui56 (j9 ui57 ui58 ui59 ui75 Q0q Q0r hxl hxt WLg))); (repeat' (first | exact zc | (with_reducible first | apply And.intro | apply Q0a | apply Q0b | refine Q0c (by decide +kernel) ?_ | intro _) | ((with_reducible first | refine .dms (fun x => False) [(0, false), (1, false), (2, false), (3, true), (4, false), (5, true)] (by decide) (by decide +kernel) ?_ | refine .dm (fun x => False) [(0, false), (1, false), (2, false), (3, true), (4, false), (5, true)] (by decide) (by decide +kernel) ?_); (refine zsR zz.out ?_)) | ((with_reducible first | refine .dms (fun x => False) [(0, false), (1, false), (2, false), (3, true), (4, false), (5, true)] (by decide) (by decide +kernel) ?_ | refine .dm (fun x => False) [(0, false), (1, false), (2, false), (3, true), (4, false), (5, true)] (by decide) (by decide +kernel) ?_); (refine zsR zz.out ?_)) | ((with_reducible first | refine .dms (fun x => False) [(0, false), (1, false), (2, false), (3, true), (4, false), (5, true)] (by decide) (by decide +kernel) ?_ | refine .dm (fun x => False) [(0, false), (1, false), (2, false), (3, true), (4, false), (5, true)] (by decide) (by decide +kernel) ?_); (refine zsR zz.out ?_)) | ((with_reducible first | refine .dms (fun x => False) [(0, false), (1, false), (2, false), (3, false), (4, true), (5, true), (6, true), (7, true), (8, false), (9, true)] (by decide) (by decide +kernel) ?_ | refine .dm (fun x => False) [(0, false), (1, false), (2, false), (3, false), (4, true), (5, true), (6, true), (7, true), (8, false), (9, true)] (by decide) (by decide +kernel) ?_); (refine zsR zz.out ?_)) | refine zaR zz.out ?_ | refine zkN zz.out ?_ | ((first | (refine Q0l (by intro β h; first | (rcases h with h | h <;> subst h <;> (simp (disch := first | assumption | (apply zP; assumption; assumption) | (apply zQ; assumption; assumption; (intro e; cases e; done)) | omega) only [zn, zp, zq, zr, zv])) | (subst h; (simp (disch := first | assumption | (apply zP; assumption; assumption) | (apply zQ; assumption; assumption; (intro e; cases e; done)) | omega) only [zn, zp, zq, zr, zv]))) ?_) | ((with_reducible refine zS (hA _ _ _ _ (by exact zO) (by omega) (by omega) (by omega) (by omega) (by exact zN)) ?_); rintro _ S ⟨rfl, τ1, ⟨f1, n1⟩, rfl⟩; have n1s := n1.symm) | ((with_reducible refine zS (Q0n _ _ _ _ _ _ _ _ (by repeat (first | exact Q0j | refine Q0g ?_ (by simp))) (by exact zO) (by exact zN)) ?_); rintro _ S ⟨rfl, τ1, ⟨f1, n1⟩, rfl⟩; have n1s := n1.symm) | ((with_reducible refine zS (Q2z _ _ _ _ _ _ _ (by exact zO) (by exact zN) (by assumption) (by assumption)) ?_); rintro _ S ⟨rfl, τ1, ⟨f1, n1⟩, rfl⟩; have n1s := n1.symm) | ((with_reducible refine zS (Q2n _ _ _ _ _ _ _ (by exact zO) (by exact zN)) ?_); rintro _ S ⟨rfl, τ1, ⟨f1, n1⟩, rfl⟩; have n1s := n1.symm) | (with_reducible refine uc (Q4l _ (by assumption) _ (by first | assumption | rfl) _) ?_) | (with_reducible refine uc (w_ops _) ?_) | (refine Q0d (by exact zK) ?_) | (refine Q0e (by exact zK) ?_)); (try refine zsR zz.out ?_)) | refine zmR zz.out ?_ | refine zo ?_ | omega | refine ztR zz.out ?_ | fail)); try (all_goals clear zz))
  all_goals exact ⟨_, .refl _, τ1, ⟨f1, n1⟩, Q2g (by simp [wdIs, wdNull]) rfl (by omega)⟩
theorem x_neg (e : Tr) (hw : e.wf) (hC : Cx e) : Cx (.neg e) := by
  intro B ω τ l d m h h0 h1 h2 h3 h4
  have hA := w_neg e hw hC B ω τ l d m h h0 h1 h2 h3 h4
  have hxl := Q1a e.ex
  have hxt := Q1b e.ex
  rw [X2u]
  generalize (Tr.neg e).tk = TT at *
  generalize (Tr.neg e).dp = D at *
  generalize exA e.ex = X at *
  (refine vfun (fun _ => .ro) Q0k Tryz.func21 (by kernel_rfl) ?_; simp only [Q0f, Tryz.f21, zw])
  (have zz := Bx.mk (j4 ui0 ui3 ui4 (j9 ui9 ui22 ui23 ui24 ui25 ui26 ui55 ui56 (j9 ui57 ui58 ui59 ui75 Q0q Q0r hxl hxt WLg))); (repeat' (first | exact zc | (with_reducible first | apply And.intro | apply Q0a | apply Q0b | refine Q0c (by decide +kernel) ?_ | intro _) | ((with_reducible first | refine .dms (fun x => False) [(0, false), (1, false), (2, false), (3, true), (4, false), (5, true)] (by decide) (by decide +kernel) ?_ | refine .dm (fun x => False) [(0, false), (1, false), (2, false), (3, true), (4, false), (5, true)] (by decide) (by decide +kernel) ?_); (refine zsR zz.out ?_)) | ((with_reducible first | refine .dms (fun x => False) [(0, false), (1, false), (2, false), (3, true), (4, false), (5, true)] (by decide) (by decide +kernel) ?_ | refine .dm (fun x => False) [(0, false), (1, false), (2, false), (3, true), (4, false), (5, true)] (by decide) (by decide +kernel) ?_); (refine zsR zz.out ?_)) | ((with_reducible first | refine .dms (fun x => False) [(0, false), (1, false), (2, false), (3, true), (4, false), (5, true)] (by decide) (by decide +kernel) ?_ | refine .dm (fun x => False) [(0, false), (1, false), (2, false), (3, true), (4, false), (5, true)] (by decide) (by decide +kernel) ?_); (refine zsR zz.out ?_)) | ((with_reducible first | refine .dms (fun x => False) [(0, false), (1, false), (2, false), (3, false), (4, true), (5, true), (6, true), (7, true), (8, false), (9, true)] (by decide) (by decide +kernel) ?_ | refine .dm (fun x => False) [(0, false), (1, false), (2, false), (3, false), (4, true), (5, true), (6, true), (7, true), (8, false), (9, true)] (by decide) (by decide +kernel) ?_); (refine zsR zz.out ?_)) | refine zaR zz.out ?_ | refine zkN zz.out ?_ | ((first | (refine Q0l (by intro β h; first | (rcases h with h | h <;> subst h <;> (simp (disch := first | assumption | (apply zP; assumption; assumption) | (apply zQ; assumption; assumption; (intro e; cases e; done)) | omega) only [zn, zp, zq, zr, zv])) | (subst h; (simp (disch := first | assumption | (apply zP; assumption; assumption) | (apply zQ; assumption; assumption; (intro e; cases e; done)) | omega) only [zn, zp, zq, zr, zv]))) ?_) | ((with_reducible refine zS (hA) ?_); rintro _ S ⟨rfl, τ1, ⟨f1, n1⟩, rfl⟩; have n1s := n1.symm) | ((with_reducible refine zS (Q0n _ _ _ _ _ _ _ _ (by repeat (first | exact Q0j | refine Q0g ?_ (by simp))) (by exact zO) (by exact zN)) ?_); rintro _ S ⟨rfl, τ1, ⟨f1, n1⟩, rfl⟩; have n1s := n1.symm) | ((with_reducible refine zS (Q2z _ _ _ _ _ _ _ (by exact zO) (by exact zN) (by assumption) (by assumption)) ?_); rintro _ S ⟨rfl, τ1, ⟨f1, n1⟩, rfl⟩; have n1s := n1.symm) | ((with_reducible refine zS (Q2n _ _ _ _ _ _ _ (by exact zO) (by exact zN)) ?_); rintro _ S ⟨rfl, τ1, ⟨f1, n1⟩, rfl⟩; have n1s := n1.symm) | (with_reducible refine uc (Q4l _ (by assumption) _ (by first | assumption | rfl) _) ?_) | (with_reducible refine uc (w_ops _) ?_) | (refine Q0d (by exact zK) ?_) | (refine Q0e (by exact zK) ?_)); (try refine zsR zz.out ?_)) | refine zmR zz.out ?_ | refine zo ?_ | omega | refine ztR zz.out ?_ | fail)); try (all_goals clear zz))
  all_goals exact ⟨_, .refl _, τ1, ⟨f1, n1⟩, rfl⟩
theorem x_not (e : Tr) (hw : e.wf) (hC : Cx e) (hx : ∀ x, e = .null x → Cx x) : Cx (.not e) := by
  intro B ω τ l d m h h0 h1 h2 h3 h4
  have hA := w_not e hw hC hx B ω τ l d m h h0 h1 h2 h3 h4
  have hxl := Q1a e.ex
  have hxt := Q1b e.ex
  rw [ex_not]
  generalize (Tr.not e).tk = TT at *
  generalize (Tr.not e).dp = D at *
  generalize exA e.ex = X at *
  (refine vfun (fun _ => .ro) Q0k Tryz.func21 (by kernel_rfl) ?_; simp only [Q0f, Tryz.f21, zw])
  (have zz := Bx.mk (j4 ui0 ui3 ui4 (j9 ui9 ui22 ui23 ui24 ui25 ui26 ui55 ui56 (j9 ui57 ui58 ui59 ui75 Q0q Q0r hxl hxt WLg))); (repeat' (first | exact zc | (with_reducible first | apply And.intro | apply Q0a | apply Q0b | refine Q0c (by decide +kernel) ?_ | intro _) | ((with_reducible first | refine .dms (fun x => False) [(0, false), (1, false), (2, false), (3, true), (4, false), (5, true)] (by decide) (by decide +kernel) ?_ | refine .dm (fun x => False) [(0, false), (1, false), (2, false), (3, true), (4, false), (5, true)] (by decide) (by decide +kernel) ?_); (refine zsR zz.out ?_)) | ((with_reducible first | refine .dms (fun x => False) [(0, false), (1, false), (2, false), (3, true), (4, false), (5, true)] (by decide) (by decide +kernel) ?_ | refine .dm (fun x => False) [(0, false), (1, false), (2, false), (3, true), (4, false), (5, true)] (by decide) (by decide +kernel) ?_); (refine zsR zz.out ?_)) | ((with_reducible first | refine .dms (fun x => False) [(0, false), (1, false), (2, false), (3, true), (4, false), (5, true)] (by decide) (by decide +kernel) ?_ | refine .dm (fun x => False) [(0, false), (1, false), (2, false), (3, true), (4, false), (5, true)] (by decide) (by decide +kernel) ?_); (refine zsR zz.out ?_)) | ((with_reducible first | refine .dms (fun x => False) [(0, false), (1, false), (2, false), (3, false), (4, true), (5, true), (6, true), (7, true), (8, false), (9, true)] (by decide) (by decide +kernel) ?_ | refine .dm (fun x => False) [(0, false), (1, false), (2, false), (3, false), (4, true), (5, true), (6, true), (7, true), (8, false), (9, true)] (by decide) (by decide +kernel) ?_); (refine zsR zz.out ?_)) | refine zaR zz.out ?_ | refine zkN zz.out ?_ | ((first | (refine Q0l (by intro β h; first | (rcases h with h | h <;> subst h <;> (simp (disch := first | assumption | (apply zP; assumption; assumption) | (apply zQ; assumption; assumption; (intro e; cases e; done)) | omega) only [zn, zp, zq, zr, zv])) | (subst h; (simp (disch := first | assumption | (apply zP; assumption; assumption) | (apply zQ; assumption; assumption; (intro e; cases e; done)) | omega) only [zn, zp, zq, zr, zv]))) ?_) | ((with_reducible refine zS (hA) ?_); rintro _ S ⟨rfl, τ1, ⟨f1, n1⟩, rfl⟩; have n1s := n1.symm) | ((with_reducible refine zS (Q0n _ _ _ _ _ _ _ _ (by repeat (first | exact Q0j | refine Q0g ?_ (by simp))) (by exact zO) (by exact zN)) ?_); rintro _ S ⟨rfl, τ1, ⟨f1, n1⟩, rfl⟩; have n1s := n1.symm) | ((with_reducible refine zS (Q2z _ _ _ _ _ _ _ (by exact zO) (by exact zN) (by assumption) (by assumption)) ?_); rintro _ S ⟨rfl, τ1, ⟨f1, n1⟩, rfl⟩; have n1s := n1.symm) | ((with_reducible refine zS (Q2n _ _ _ _ _ _ _ (by exact zO) (by exact zN)) ?_); rintro _ S ⟨rfl, τ1, ⟨f1, n1⟩, rfl⟩; have n1s := n1.symm) | (with_reducible refine uc (Q4l _ (by assumption) _ (by first | assumption | rfl) _) ?_) | (with_reducible refine uc (w_ops _) ?_) | (refine Q0d (by exact zK) ?_) | (refine Q0e (by exact zK) ?_)); (try refine zsR zz.out ?_)) | refine zmR zz.out ?_ | refine zo ?_ | omega | refine ztR zz.out ?_ | fail)); try (all_goals clear zz))
  all_goals exact ⟨_, .refl _, τ1, ⟨f1, n1⟩, rfl⟩
theorem x_op (k : Nat) (a b : Tr) (hw : (Tr.op k a b).wf) (ha : Cx a) (hb : Cx b) : Cx (.op k a b) := by
  intro B ω τ l d m h h0 h1 h2 h3 h4
  have hw' := hw
  obtain ⟨⟨hk1, hk2⟩, hwa, hwb⟩ := hw
  have hlk : 1 ≤ lvK k ∧ lvK k ≤ 6 := by
    have := lvK_le k hk1
    omega
  have hA := w_at a hwa ha (lftK k) (by unfold lftK; split <;> omega) B ω
  have hB := w_at b hwb hb (lvK k + 1) (by omega) B ω
  have hl : ∀ E, E = exA (Tr.op k a b).ex → ∀ σ, VCalls Tryz.prog 50 [.agg E] σ (fun x σ' => x = .i (lvK k : Nat) ∧ σ' = σ) := fun E hE σ => Q4l _ hw' E hE σ
  have hxl := Q1a a.ex
  have hxt := Q1b a.ex
  have hyl := Q1a b.ex
  have hyt := Q1b b.ex
  have hog := ops_get k (by omega)
  have hone := ops_ne k (by omega) hk1
  have hf4 : lvK k = 4 → lftK k = 5 := fun h => if_pos h
  have hf5 : lvK k ≠ 4 → lftK k = lvK k := fun h => if_neg h
  rw [tk_op] at h4 ⊢
  rw [Tr.dp] at h3 ⊢
  simp only [zx, zy, List.length_nil] at h4
  rw [ex_op] at hl ⊢
  generalize br (lo a (lftK k)) a.tk = TA at *
  generalize bd (lo a (lftK k)) + a.dp = DA at *
  generalize br (lo b (lvK k + 1)) b.tk = TB at *
  generalize bd (lo b (lvK k + 1)) + b.dp = DB at *
  generalize exA a.ex = X at *
  generalize exA b.ex = Y at *
  generalize ops.getD k [] = W at *
  have hlv : lvK k = 4 ∨ lvK k ≠ 4 := by omega
  have hB : ∀ τ l d m, okS B ω τ → 0 ≤ d → d ≤ m → m ≤ 2 ^ 41 → d + ((DB : Nat) : Int) ≤ 2 ^ 40 → l.length + TB.length ≤ 2 ^ 36 → VCalls Tryz.prog 47 [.ref ω 0, .agg Y, .i ((lvK k : Nat) + 1)] (WS B ω τ l d m) _ := hB
  rcases hlv with hc | hc
  · rw [hf4 hc] at hA
    have hA : ∀ τ l d m, okS B ω τ → 0 ≤ d → d ≤ m → m ≤ 2 ^ 41 → d + ((DA : Nat) : Int) ≤ 2 ^ 40 → l.length + TA.length ≤ 2 ^ 36 → VCalls Tryz.prog 47 [.ref ω 0, .agg X, .i 5] (WS B ω τ l d m) _ := hA
    rw [hc] at hl hB
    clear hf4 hf5
    (refine vfun (fun _ => .ro) Q0k Tryz.func21 (by kernel_rfl) ?_; simp only [Q0f, Tryz.f21, zw])
    (have zz := Bx.mk (j8 ui0 ui3 ui4 ui9 ui22 ui23 ui24 (j9 ui25 ui26 ui55 ui56 ui57 ui58 ui59 ui75 (j9 Q0q Q0r hxl hxt hyl hyt hog @ops_len WLg))); (repeat' (first | exact zc | (with_reducible first | apply And.intro | apply Q0a | apply Q0b | refine Q0c (by decide +kernel) ?_ | intro _) | ((with_reducible first | refine .dms (fun x => False) [(0, false), (1, false), (2, false), (3, true), (4, false), (5, true)] (by decide) (by decide +kernel) ?_ | refine .dm (fun x => False) [(0, false), (1, false), (2, false), (3, true), (4, false), (5, true)] (by decide) (by decide +kernel) ?_); (refine zsR zz.out ?_)) | ((with_reducible first | refine .dms (fun x => False) [(0, false), (1, false), (2, false), (3, true), (4, false), (5, true)] (by decide) (by decide +kernel) ?_ | refine .dm (fun x => False) [(0, false), (1, false), (2, false), (3, true), (4, false), (5, true)] (by decide) (by decide +kernel) ?_); (refine zsR zz.out ?_)) | ((with_reducible first | refine .dms (fun x => False) [(0, false), (1, false), (2, false), (3, true), (4, false), (5, true)] (by decide) (by decide +kernel) ?_ | refine .dm (fun x => False) [(0, false), (1, false), (2, false), (3, true), (4, false), (5, true)] (by decide) (by decide +kernel) ?_); (refine zsR zz.out ?_)) | ((with_reducible first | refine .dms (fun x => False) [(0, false), (1, false), (2, false), (3, false), (4, true), (5, true), (6, true), (7, true), (8, false), (9, true)] (by decide) (by decide +kernel) ?_ | refine .dm (fun x => False) [(0, false), (1, false), (2, false), (3, false), (4, true), (5, true), (6, true), (7, true), (8, false), (9, true)] (by decide) (by decide +kernel) ?_); (refine zsR zz.out ?_)) | refine zaR zz.out ?_ | refine zkN zz.out ?_ | ((first | (refine Q0l (by intro β h; first | (rcases h with h | h <;> subst h <;> (simp (disch := first | assumption | (apply zP; assumption; assumption) | (apply zQ; assumption; assumption; (intro e; cases e; done)) | omega) only [zn, zp, zq, zr, zv])) | (subst h; (simp (disch := first | assumption | (apply zP; assumption; assumption) | (apply zQ; assumption; assumption; (intro e; cases e; done)) | omega) only [zn, zp, zq, zr, zv]))) ?_) | (with_reducible refine uc (hl _ rfl _) ?_) | ((with_reducible refine zS (hA _ _ _ _ (by exact zO) (by omega) (by omega) (by omega) (by omega) (by exact zN)) ?_); rintro _ S ⟨rfl, τ1, ⟨f1, n1⟩, rfl⟩; have n1s := n1.symm) | ((with_reducible refine zS (hB _ _ _ _ (by exact zO) (by omega) (by omega) (by omega) (by omega) (by exact zN)) ?_); rintro _ S ⟨rfl, τ1, ⟨f1, n1⟩, rfl⟩; have n1s := n1.symm) | ((with_reducible refine zS (Q0n _ _ _ _ _ _ _ _ (Q0g Q0j (by assumption)) (by exact zO) (by exact zN)) ?_); rintro _ S ⟨rfl, τ1, ⟨f1, n1⟩, rfl⟩; have n1s := n1.symm) | ((with_reducible refine zS (Q0n _ _ _ _ _ _ _ _ (by repeat (first | exact Q0j | refine Q0g ?_ (by simp))) (by exact zO) (by exact zN)) ?_); rintro _ S ⟨rfl, τ1, ⟨f1, n1⟩, rfl⟩; have n1s := n1.symm) | ((with_reducible refine zS (Q2z _ _ _ _ _ _ _ (by exact zO) (by exact zN) (by assumption) (by assumption)) ?_); rintro _ S ⟨rfl, τ1, ⟨f1, n1⟩, rfl⟩; have n1s := n1.symm) | ((with_reducible refine zS (Q2n _ _ _ _ _ _ _ (by exact zO) (by exact zN)) ?_); rintro _ S ⟨rfl, τ1, ⟨f1, n1⟩, rfl⟩; have n1s := n1.symm) | (with_reducible refine uc (Q4l _ (by assumption) _ (by first | assumption | rfl) _) ?_) | (with_reducible refine uc (w_ops _) ?_) | (refine Q0d (by exact zK) ?_) | (refine Q0e (by exact zK) ?_)); (try refine zsR zz.out ?_)) | refine zmR zz.out ?_ | refine zo ?_ | omega | refine ztR zz.out ?_ | fail)); try (all_goals clear zz))
    all_goals first | exact ⟨_, .refl _, τ1, ⟨f1, n1⟩, Q2g (by simp) rfl (by omega)⟩ | (exfalso; omega)
  · rw [hf5 hc] at hA
    have hA : ∀ τ l d m, okS B ω τ → 0 ≤ d → d ≤ m → m ≤ 2 ^ 41 → d + ((DA : Nat) : Int) ≤ 2 ^ 40 → l.length + TA.length ≤ 2 ^ 36 → VCalls Tryz.prog 47 [.ref ω 0, .agg X, .i (lvK k : Nat)] (WS B ω τ l d m) _ := hA
    clear hf4 hf5
    generalize lvK k = K at *
    (refine vfun (fun _ => .ro) Q0k Tryz.func21 (by kernel_rfl) ?_; simp only [Q0f, Tryz.f21, zw])
    (have zz := Bx.mk (j8 ui0 ui3 ui4 ui9 ui22 ui23 ui24 (j9 ui25 ui26 ui55 ui56 ui57 ui58 ui59 ui75 (j9 Q0q Q0r hxl hxt hyl hyt hog @ops_len WLg))); (repeat' (first | exact zc | (with_reducible first | apply And.intro | apply Q0a | apply Q0b | refine Q0c (by decide +kernel) ?_ | intro _) | ((with_reducible first | refine .dms (fun x => False) [(0, false), (1, false), (2, false), (3, true), (4, false), (5, true)] (by decide) (by decide +kernel) ?_ | refine .dm (fun x => False) [(0, false), (1, false), (2, false), (3, true), (4, false), (5, true)] (by decide) (by decide +kernel) ?_); (refine zsR zz.out ?_)) | ((with_reducible first | refine .dms (fun x => False) [(0, false), (1, false), (2, false), (3, true), (4, false), (5, true)] (by decide) (by decide +kernel) ?_ | refine .dm (fun x => False) [(0, false), (1, false), (2, false), (3, true), (4, false), (5, true)] (by decide) (by decide +kernel) ?_); (refine zsR zz.out ?_)) | ((with_reducible first | refine .dms (fun x => False) [(0, false), (1, false), (2, false), (3, true), (4, false), (5, true)] (by decide) (by decide +kernel) ?_ | refine .dm (fun x => False) [(0, false), (1, false), (2, false), (3, true), (4, false), (5, true)] (by decide) (by decide +kernel) ?_); (refine zsR zz.out ?_)) | ((with_reducible first | refine .dms (fun x => False) [(0, false), (1, false), (2, false), (3, false), (4, true), (5, true), (6, true), (7, true), (8, false), (9, true)] (by decide) (by decide +kernel) ?_ | refine .dm (fun x => False) [(0, false), (1, false), (2, false), (3, false), (4, true), (5, true), (6, true), (7, true), (8, false), (9, true)] (by decide) (by decide +kernel) ?_); (refine zsR zz.out ?_)) | refine zaR zz.out ?_ | refine zkN zz.out ?_ | ((first | (refine Q0l (by intro β h; first | (rcases h with h | h <;> subst h <;> (simp (disch := first | assumption | (apply zP; assumption; assumption) | (apply zQ; assumption; assumption; (intro e; cases e; done)) | omega) only [zn, zp, zq, zr, zv])) | (subst h; (simp (disch := first | assumption | (apply zP; assumption; assumption) | (apply zQ; assumption; assumption; (intro e; cases e; done)) | omega) only [zn, zp, zq, zr, zv]))) ?_) | (with_reducible refine uc (hl _ rfl _) ?_) | ((with_reducible refine zS (hA _ _ _ _ (by exact zO) (by omega) (by omega) (by omega) (by omega) (by exact zN)) ?_); rintro _ S ⟨rfl, τ1, ⟨f1, n1⟩, rfl⟩; have n1s := n1.symm) | ((with_reducible refine zS (hB _ _ _ _ (by exact zO) (by omega) (by omega) (by omega) (by omega) (by exact zN)) ?_); rintro _ S ⟨rfl, τ1, ⟨f1, n1⟩, rfl⟩; have n1s := n1.symm) | ((with_reducible refine zS (Q0n _ _ _ _ _ _ _ _ (Q0g Q0j (by assumption)) (by exact zO) (by exact zN)) ?_); rintro _ S ⟨rfl, τ1, ⟨f1, n1⟩, rfl⟩; have n1s := n1.symm) | ((with_reducible refine zS (Q0n _ _ _ _ _ _ _ _ (by repeat (first | exact Q0j | refine Q0g ?_ (by simp))) (by exact zO) (by exact zN)) ?_); rintro _ S ⟨rfl, τ1, ⟨f1, n1⟩, rfl⟩; have n1s := n1.symm) | ((with_reducible refine zS (Q2z _ _ _ _ _ _ _ (by exact zO) (by exact zN) (by assumption) (by assumption)) ?_); rintro _ S ⟨rfl, τ1, ⟨f1, n1⟩, rfl⟩; have n1s := n1.symm) | ((with_reducible refine zS (Q2n _ _ _ _ _ _ _ (by exact zO) (by exact zN)) ?_); rintro _ S ⟨rfl, τ1, ⟨f1, n1⟩, rfl⟩; have n1s := n1.symm) | (with_reducible refine uc (Q4l _ (by assumption) _ (by first | assumption | rfl) _) ?_) | (with_reducible refine uc (w_ops _) ?_) | (refine Q0d (by exact zK) ?_) | (refine Q0e (by exact zK) ?_)); (try refine zsR zz.out ?_)) | refine zmR zz.out ?_ | refine zo ?_ | omega | refine ztR zz.out ?_ | fail)); try (all_goals clear zz))
    all_goals first | exact ⟨_, .refl _, τ1, ⟨f1, n1⟩, Q2g (by simp) rfl (by omega)⟩ | (exfalso; omega)
end Go.Proofs.YtjdapkelojdefaaGreatDoor
namespace Go.Lex
open Go.V Go.Proofs.YtjdapkelojdefaaGreatDoor
def padD : Nat → Nat → List UInt8
  | 0, _ => []
  | k + 1, u => padD k (u / 10) ++ [UInt8.ofNat (48 + u % 10)]
theorem Q7w : ∀ k u, (padD k u).length = k
  | 0, u => rfl
  | k + 1, u => by rw [padD, zx, Q7w k]; rfl
theorem padD_add (j : Nat) : ∀ k u, padD (j + k) u = padD j (u / 10 ^ k) ++ padD k u
  | 0, u => by rw [Nat.add_zero, Nat.pow_zero, Nat.div_one, padD, List.append_nil]
  | k + 1, u => by
    rw [← Nat.add_assoc, padD, padD_add j k, padD, Nat.div_div_eq_div_mul, Nat.pow_succ, Nat.mul_comm 10, zC]
theorem X3t : ∀ (k u : Nat), (k = 0 ∨ 10 ^ k ≤ u) → u < 10 ^ (k + 1) → dec u = padD (k + 1) u
  | 0, u, _, h => by
    rw [X2s (by omega), padD, padD, zG, Nat.mod_eq_of_lt (by omega)]
  | k + 1, u, h1, h2 => by
    have h3 : 10 ^ (k + 1) ≤ u := by rcases h1 with h | h <;> omega
    rw [Nat.pow_succ] at h2 h3
    have hp : 1 ≤ 10 ^ k := Nat.one_le_pow _ _ (by decide)
    rw [dec_ge (by omega), padD, X3t k (u / 10) (.inr (by omega)) (by omega)]
theorem pad2 (u : Nat) : padD 2 u = [UInt8.ofNat (48 + u / 10 % 10), UInt8.ofNat (48 + u % 10)] := rfl
theorem pad4 (u : Nat) : padD 4 u = [UInt8.ofNat (48 + u / 10 / 10 / 10 % 10), UInt8.ofNat (48 + u / 10 / 10 % 10), UInt8.ofNat (48 + u / 10 % 10), UInt8.ofNat (48 + u % 10)] := rfl
theorem pad8 (u : Nat) : padD 8 u = [UInt8.ofNat (48 + u / 10 / 10 / 10 / 10 / 10 / 10 / 10 % 10), UInt8.ofNat (48 + u / 10 / 10 / 10 / 10 / 10 / 10 % 10), UInt8.ofNat (48 + u / 10 / 10 / 10 / 10 / 10 % 10), UInt8.ofNat (48 + u / 10 / 10 / 10 / 10 % 10), UInt8.ofNat (48 + u / 10 / 10 / 10 % 10), UInt8.ofNat (48 + u / 10 / 10 % 10), UInt8.ofNat (48 + u / 10 % 10), UInt8.ofNat (48 + u % 10)] := rfl
def nd10 (len : Nat) : Nat := len * 78913 / 262144
theorem nd10_ok : ∀ len, len ≤ 64 → 1 ≤ len → 2 ^ len ≤ 10 ^ (nd10 len + 1) ∧ (nd10 len = 0 ∨ 10 ^ (nd10 len - 1) ≤ 2 ^ (len - 1)) ∧ nd10 len ≤ 19 := by decide +kernel
theorem digits_ok {len u : Nat} (h1 : 1 ≤ len) (h2 : len ≤ 64) (h3 : 2 ^ (len - 1) ≤ u) (h4 : u < 2 ^ len) :
    (10 ^ nd10 len ≤ u → dec u = padD (nd10 len + 1) u) ∧ (u < 10 ^ nd10 len → 1 ≤ nd10 len ∧ dec u = padD (nd10 len) u) := by
  obtain ⟨a, b, c⟩ := nd10_ok len h2 h1
  have hp : 1 ≤ 2 ^ (len - 1) := Nat.one_le_pow _ _ (by decide)
  refine ⟨fun h => X3t _ u (.inr h) (by omega), fun h => ?_⟩
  rcases b with b | b
  · rw [b] at h; omega
  · obtain ⟨m, hm⟩ : ∃ m, nd10 len = m + 1 := by
      cases hn : nd10 len with
      | zero => rw [hn] at h; omega
      | succ m => exact ⟨m, rfl⟩
    rw [hm] at b h ⊢
    exact ⟨by omega, X3t m u (.inr (by simpa using Nat.le_trans b h3)) h⟩
theorem dec_pow : ∀ n, n < 10 ^ (dec n).length := fun n => by
  induction n using Nat.strongRecOn with
  | ind n ih =>
    by_cases h : n < 10
    · rw [X2s h]; simpa using h
    · rw [dec_ge h, zx, List.length_singleton, Nat.pow_succ]
      have := ih (n / 10) (by omega)
      omega
theorem dec_padlen : ∀ n, dec n = padD (dec n).length n := fun n => by
  induction n using Nat.strongRecOn with
  | ind n ih =>
    by_cases h : n < 10
    · rw [X2s h]
      show _ = padD 1 n
      rw [padD, padD, zG, Nat.mod_eq_of_lt h]
    · rw [dec_ge h, zx, List.length_singleton, padD, ← ih (n / 10) (by omega)]
end Go.Lex
namespace Go.V
open Go.RowKit
variable {P : Program}
end Go.V
namespace Go.V
open Go.RowKit
variable {P : Program}
end Go.V
namespace Go.V
open Go.RowKit
variable {P : Program} {σ : Sg}
theorem vCountString {f : FuncId} {fn : Func} {s : ByteArray} {c : UInt8} (hf : P.funcs[f]? = some fn) (hname : (fn.name == "runtime.NumGoroutine") = false) (hb : fn.body.isNone = true) (hn : Extern.findNext fn = none) (he : Extern.find fn = some Extern.BytealgCount.count) :
    VCalls P f [.s s, .u8 c.toNat] σ (fun y σ' => y = .i (s.data.toList.count c : Nat) ∧ σ' = σ) :=
  X3m hf hname hb hn he (fun κ vs hst hargs => by
    obtain ⟨u, v, rfl, hx, hy⟩ := Q8u hargs
    cases hx
    cases hy
    have h := Lib.run_countString (P := P) s (c.toNat : Int) κ.w
    have hcc : ((c.toNat : Int).toNat).toUInt8 = c := by simp
    rw [hcc] at h
    exact ⟨_, κ.w, h, Q0h hst (.val _) ⟨rfl, rfl⟩⟩)
theorem vMakeNoZero {f : FuncId} {fn : Func} {ps : Array TypeId} {t e : TypeId} {n : Nat} (hf : P.funcs[f]? = some fn) (hname : (fn.name == "runtime.NumGoroutine") = false) (hb : fn.body.isNone = true) (hn : Extern.findNext fn = none) (he : Extern.find fn = some (Extern.BytealgMakeNoZero.makeNoZero ps #[t]))
    (ht : P.underlying t = some (.slice e)) (hsz : n ≤ 281474976710656) :
    VCalls P f [.i n] σ (fun y σ' => ∃ τ, σ τ = none ∧ y = .nz τ n 1 ∧ σ' = σ.set τ (.tok (some e))) :=
  X3m hf hname hb hn he (fun κ vs hst hargs => by
    obtain ⟨u, rfl, hx⟩ := X0b hargs
    cases hx
    obtain ⟨cs, h1, h2, _⟩ := Lib.run_makeNoZero (P := P) κ.w ps t e ht n hsz
    have hst2 := hst.drew.drew
    obtain ⟨τ, hτ, hτσ⟩ := hst2.fresh
    obtain ⟨hle, hs⟩ := hst2.newTok (τ := τ) (lo := 0) (c := cs) (t := e) (fz := (0, 0)) (e := some e) (Nat.zero_le _) (fun i _ h => by simp at h) (fun t' h => by cases h; exact ⟨rfl, rfl⟩) hτ
    refine ⟨_, _, h1, ⟨_, _, _, ?_, (K.le_drew κ).trans ((K.le_drew _).trans hle), hs, ?_, τ, hτσ σ (.refl σ), rfl, rfl⟩⟩
    · rfl
    · refine .nz τ n 1 κ.w.heap.size cs.size ?_ h2
      simp [K.named, K.drew])
theorem cap_nil (t e ty : TypeId) (l : List TypeId) (σ : Sg) (R : AV → Sg → Prop) (he : P.underlying t = some (.slice e)) : Q1s P .cap [.sl .nil []] (List.toArray (t :: l)) ty σ R = R (.i 0) σ := by
  simp only [Q1s, true_and, List.getElem?_toArray, List.getElem?_cons_zero, Option.bind_some, he]
  refine propext ⟨fun h => h.2, fun h => ⟨⟨e, rfl⟩, h⟩⟩
theorem vsl_nz (e : TypeId) (τ n sz : Nat) (k : IntKind) (σ : Sg) (R : AV → Prop) : vsl P (some (.slice e)) (.nz τ n sz) none (some (.val (.int k 0))) none σ R = vixE (Q0m P e) (fun s => s = sz ∧ R (.sl (.tok τ sz) [])) := by
  unfold vsl vixE
  simp only [Q1l]
  cases Q0m P e <;> simp
theorem vcopy_nil (t e : TypeId) (τ sz : Nat) (σ : Sg) (R : AV → Sg → Prop) (he : P.underlying t = some (.slice e)) (hi : (Q0m P e).isSome = true) : X3d P t (.sl (.tok τ sz) []) (.sl .nil []) σ R = R (.i 0) σ := by
  unfold X3d
  simp only [he, elems, hi, true_and]
theorem ev_global (ρ : Nat → AV) (g : Nat) (cs : List Value) (h : gtab g = some cs) : ev ρ (.global g) = .ro (cs.map .val) := by
  show (match gtab g with | some cs => AV.ro (cs.map .val) | none => .val (.pointer (some ⟨g, 0, none⟩))) = _
  rw [h]
end Go.V
namespace Go.Lex
open Go.V Go.Proofs.YtjdapkelojdefaaGreatDoor
theorem X3u (x k : Nat) (t : IntKind) (h : k ≤ t.bits) : ((x : Nat) : Int).fdiv (2 ^ min k t.bits) = ((x / 2 ^ k : Nat) : Int) := by
  rw [Nat.min_eq_left h, Int.fdiv_eq_ediv_of_nonneg _ (by exact_mod_cast Nat.zero_le (2 ^ k))]
  norm_cast
theorem shr32 (x : Nat) : ((x : Nat) : Int).fdiv (2 ^ min 32 IntKind.u64.bits) = ((x / 4294967296 : Nat) : Int) := X3u x 32 _ (by decide)
theorem shr16 (x : Nat) : ((x : Nat) : Int).fdiv (2 ^ min 16 IntKind.u64.bits) = ((x / 65536 : Nat) : Int) := X3u x 16 _ (by decide)
theorem shr8 (x : Nat) : ((x : Nat) : Int).fdiv (2 ^ min 8 IntKind.u64.bits) = ((x / 256 : Nat) : Int) := X3u x 8 _ (by decide)
theorem shr18 (x : Nat) : ((x : Nat) : Int).fdiv (2 ^ min 18 IntKind.i64.bits) = ((x / 262144 : Nat) : Int) := X3u x 18 _ (by decide)
theorem Q5j {L : List UInt8} {b u v : Nat} {c : Int} (hc : c = (b : Nat)) (hv : u / 2 ^ b = v) (h8 : v < 256) (hb : b ≤ 56) (h0 : 1 ≤ v)
    (hL : ∀ k, k < 256 → k < 2 ^ (L.getD k 0).toNat ∧ (1 ≤ k → 1 ≤ (L.getD k 0).toNat ∧ 2 ^ ((L.getD k 0).toNat - 1) ≤ k) ∧ (L.getD k 0).toNat ≤ 8) : ∃ n : Nat, 1 ≤ n ∧ n ≤ 64 ∧ 2 ^ (n - 1) ≤ u ∧ u < 2 ^ n ∧ AV.val (.int .i64 (IntKind.i64.wrap (c + IntKind.i64.wrap ((L.getD v 0).toNat : Int)))) = AV.i n := by
  obtain ⟨a1, a2, a3⟩ := hL v h8
  obtain ⟨a4, a5⟩ := a2 h0
  generalize (L.getD v 0).toNat = t at *
  have hp : 0 < 2 ^ b := Nat.pow_pos (by decide)
  refine ⟨b + t, by omega, by omega, ?_, ?_, by rw [w64 (n := (t : Int)) (by omega) (by omega), w64 (by omega) (by omega), hc]; rfl⟩
  · rw [show b + t - 1 = b + (t - 1) by omega, Nat.pow_add]
    calc 2 ^ b * 2 ^ (t - 1) ≤ 2 ^ b * v := Nat.mul_le_mul_left _ a5
      _ ≤ u := by rw [← hv]; exact Nat.mul_div_le u (2 ^ b)
  · rw [Nat.pow_add]
    have h1 : u < 2 ^ b * (v + 1) := by
      have := Nat.lt_mul_div_succ u hp
      rwa [hv] at this
    exact zj h1 (Nat.mul_le_mul_left _ a1)
end Go.Lex
namespace Go.Proofs.YtjdapkelojdefaaGreatDoor
open Go Go.V Go.Lex
theorem e55 (b : Bool) (σ : Sg) : VCalls Tryz.prog 200 [.b b] σ (fun x σ' => x = .i (if b then 1 else 0) ∧ σ' = σ) := by
  cases b
  · (refine vfun (fun _ => .no) Q0k Tryz.func200 (by kernel_rfl) ?_; simp only [Q0f, Tryz.f200, zw])
    repeat' (first | exact zc | (with_reducible first | apply And.intro | apply Q0a | apply Q0b | refine Q0c (by decide +kernel) ?_ | intro _) | refine zaW (j2 ui3 ui4) ?_ | refine zo ?_ | omega | refine zt (j2 ui3 ui4) ?_ | fail)
    all_goals (exact zE)
  · (refine vfun (fun _ => .no) Q0k Tryz.func200 (by kernel_rfl) ?_; simp only [Q0f, Tryz.f200, zw])
    repeat' (first | exact zc | (with_reducible first | apply And.intro | apply Q0a | apply Q0b | refine Q0c (by decide +kernel) ?_ | intro _) | refine zaW (j2 ui3 ui4) ?_ | refine zo ?_ | omega | refine zt (j2 ui3 ui4) ?_ | fail)
    all_goals (exact zE)
theorem e53 (n : Nat) (hn : n ≤ 64) (σ : Sg) : VCalls Tryz.prog 198 [.i n] σ (fun x σ' => x = .i (nd10 n) ∧ σ' = σ) := by
  (refine vfun (fun _ => .no) Q0k Tryz.func198 (by kernel_rfl) ?_; simp only [Q0f, Tryz.f198, zw])
  repeat' (first | exact zc | (with_reducible first | apply And.intro | apply Q0a | apply Q0b | refine Q0c (by decide +kernel) ?_ | intro _) | refine zaW (j2 ui3 ui4) ?_ | refine zo ?_ | omega | refine zt (j2 ui3 ui4) ?_ | fail)
  refine ⟨_, .refl _, ?_, rfl⟩
  have : ((n : Nat) : Int) * 78913 = ((n * 78913 : Nat) : Int) := by omega
  rw [this, shr18]
  rfl
theorem e54 (u : Nat) (h1 : 1 ≤ u) (h2 : u < 2 ^ 64) (σ : Sg) : VCalls Tryz.prog 199 [.val (.int .u64 u)] σ (fun x σ' => (∃ n : Nat, 1 ≤ n ∧ n ≤ 64 ∧ 2 ^ (n - 1) ≤ u ∧ u < 2 ^ n ∧ x = .i n) ∧ σ' = σ) := by
  (refine vfun (fun _ => .no) Q0k Tryz.func199 (by kernel_rfl) ?_; simp only [Q0f, Tryz.f199, zw])
  (have zz := Bx.mk (j8 ui3 ui4 Q7a ui5 ui9 @shr32 @shr16 @shr8); (repeat' (first | exact zc | (with_reducible first | apply And.intro | apply Q0a | apply Q0b | refine Q0c (by decide +kernel) ?_ | intro _) | refine zaW zz.out ?_ | refine zo ?_ | omega | refine zt zz.out ?_ | fail)); try (all_goals clear zz))
  all_goals first
    | exact zj (m := 256) (by omega) (by decide +kernel)
    | exact ⟨_, .refl _, Q5j (b := 56) (u := u) (by decide) (by omega) (by omega) (by decide) (by omega) (by decide +kernel), rfl⟩
    | exact ⟨_, .refl _, Q5j (b := 48) (u := u) (by decide) (by omega) (by omega) (by decide) (by omega) (by decide +kernel), rfl⟩
    | exact ⟨_, .refl _, Q5j (b := 40) (u := u) (by decide) (by omega) (by omega) (by decide) (by omega) (by decide +kernel), rfl⟩
    | exact ⟨_, .refl _, Q5j (b := 32) (u := u) (by decide) (by omega) (by omega) (by decide) (by omega) (by decide +kernel), rfl⟩
    | exact ⟨_, .refl _, Q5j (b := 24) (u := u) (by decide) (by omega) (by omega) (by decide) (by omega) (by decide +kernel), rfl⟩
    | exact ⟨_, .refl _, Q5j (b := 16) (u := u) (by decide) (by omega) (by omega) (by decide) (by omega) (by decide +kernel), rfl⟩
    | exact ⟨_, .refl _, Q5j (b := 8) (u := u) (by decide) (by omega) (by omega) (by decide) (by omega) (by decide +kernel), rfl⟩
    | exact ⟨_, .refl _, Q5j (b := 0) (u := u) (by decide) (by omega) (by omega) (by decide) (by omega) (by decide +kernel), rfl⟩
theorem dec_len1 {u r : Nat} (h : dec u = padD r u) : (dec u).length = r := by rw [h, Q7w]
theorem pow_drop : ∀ k, k ≤ 19 → List.drop (k * 1) (List.map AV.val pow10tab) = .val (.int .u64 ((10 ^ k : Nat) : Int)) :: List.drop (k + 1) (List.map AV.val pow10tab)
  | 0, _ => rfl
  | 1, _ => rfl
  | 2, _ => rfl
  | 3, _ => rfl
  | 4, _ => rfl
  | 5, _ => rfl
  | 6, _ => rfl
  | 7, _ => rfl
  | 8, _ => rfl
  | 9, _ => rfl
  | 10, _ => rfl
  | 11, _ => rfl
  | 12, _ => rfl
  | 13, _ => rfl
  | 14, _ => rfl
  | 15, _ => rfl
  | 16, _ => rfl
  | 17, _ => rfl
  | 18, _ => rfl
  | 19, _ => rfl
  | k + 20, h => by omega
theorem nd_le {n : Nat} (h2 : n ≤ 64) (h1 : 1 ≤ n) : nd10 n ≤ 19 := (nd10_ok n h2 h1).2.2
theorem e43 (u : Nat) (h1 : 1 ≤ u) (h2 : u < 2 ^ 64) (σ : Sg) : VCalls Tryz.prog 190 [.val (.int .u64 u)] σ (fun x σ' => x = .i (dec u).length ∧ σ' = σ) := by
  have h54 := fun σ => e54 u h1 h2 σ
  have h53 := fun n hn σ => e53 n hn σ
  have h55 := fun b σ => e55 b σ
  have hg := fun ρ => ev_global ρ 1 pow10tab rfl
  (refine vfun (fun _ => .no) Q0k Tryz.func190 (by kernel_rfl) ?_; simp only [Q0f, Tryz.f190, zw])
  (have zz := Bx.mk (j5 ui3 ui4 Q7a ui186 hg); (repeat' (first | exact zc | (with_reducible first | apply And.intro | apply Q0a | apply Q0b | refine Q0c (by decide +kernel) ?_ | intro _) | refine zaW zz.out ?_ | ((first | ((with_reducible refine zS (h54 _) ?_); rintro _ S ⟨⟨n, hn1, hn2, hn3, hn4, rfl⟩, rfl⟩; have hnd := nd_le hn2 hn1) | ((with_reducible refine zS (h53 _ (by assumption) _) ?_); rintro _ S ⟨rfl, rfl⟩) | ((with_reducible refine zS (h55 _ _) ?_); rintro _ S ⟨rfl, rfl⟩) | with_reducible rw [pow_drop _ (by assumption)]); (try refine zs zz.out ?_)) | refine zo ?_ | omega | refine zt zz.out ?_ | fail)); try (all_goals clear zz))
  obtain ⟨d1, d2⟩ := digits_ok hn1 hn2 hn3 hn4
  refine ⟨_, .refl _, ?_, rfl⟩
  by_cases hc : 10 ^ nd10 n ≤ u
  · rw [if_pos (by exact_mod_cast hc), dec_len1 (d1 hc)]
    rfl
  · rw [if_neg (by exact_mod_cast hc), dec_len1 (d2 (by omega)).2]
    simp
theorem small1 : ∀ n, n < 10 → List.drop n (48 :: List.take n [49, 50, 51, 52, 53, 54, 55, 56, 57, 97, 98, 99, 100, 101, 102, 103, 104, 105, 106, 107, 108, 109, 110, 111, 112, 113, 114, 115, 116, 117, 118, 119, 120, 121, 122]) = [UInt8.ofNat (48 + n)] := by decide +kernel
theorem small2 {L : List UInt8} {n : Nat} (h1 : 10 ≤ n) (h2 : n < 100) (hL : ∀ n, n < 100 → List.drop (n * 2) (List.take (n * 2 + 2) L) = padD 2 n) : AV.s (bs (List.drop ((n : Int) * 2).toNat (List.take ((n : Int) * 2 + 2).toNat L))) = AV.s (bs (dec n)) := by
  have e1 : ((n : Int) * 2).toNat = n * 2 := by omega
  have e2 : ((n : Int) * 2 + 2).toNat = n * 2 + 2 := by omega
  rw [e1, e2, hL n h2, X3t 1 n (.inr (by omega)) (by omega)]
theorem e42 (n : Nat) (hn : n < 100) (σ : Sg) : VCalls Tryz.prog 189 [.i n] σ (fun x σ' => x = .s (bs (dec n)) ∧ σ' = σ) := by
  (refine vfun (fun _ => .no) Q0k Tryz.func189 (by kernel_rfl) ?_; simp only [Q0f, Tryz.f189, zw])
  (have zz := Bx.mk (j3 ui3 ui4 ui9); (repeat' (first | exact zc | (with_reducible first | apply And.intro | apply Q0a | apply Q0b | refine Q0c (by decide +kernel) ?_ | intro _) | refine zaW zz.out ?_ | refine zo ?_ | omega | refine zt zz.out ?_ | fail)); try (all_goals clear zz))
  all_goals first
    | exact ⟨_, .refl _, by rw [X2s (by omega), small1 n (by omega)], rfl⟩
    | exact Int.le_trans (b := 200) (by omega) (by decide +kernel)
    | exact ⟨_, .refl _, small2 (by omega) hn (by decide +kernel), rfl⟩
end Go.Proofs.YtjdapkelojdefaaGreatDoor
namespace Go.Lex
open Go.V Go.Proofs.YtjdapkelojdefaaGreatDoor
def smallsL : List UInt8 := (([48, 48, 48, 49, 48, 50, 48, 51, 48, 52, 48, 53, 48, 54, 48, 55, 48, 56, 48, 57, 49, 48, 49, 49, 49, 50, 49, 51, 49, 52, 49, 53, 49, 54, 49, 55, 49, 56, 49, 57, 50, 48, 50, 49, 50, 50, 50, 51, 50, 52].append [50, 53, 50, 54, 50, 55, 50, 56, 50, 57, 51, 48, 51, 49, 51, 50, 51, 51, 51, 52, 51, 53, 51, 54, 51, 55, 51, 56, 51, 57, 52, 48, 52, 49, 52, 50, 52, 51, 52, 52, 52, 53, 52, 54, 52, 55, 52, 56, 52, 57]).append ([53, 48, 53, 49, 53, 50, 53, 51, 53, 52, 53, 53, 53, 54, 53, 55, 53, 56, 53, 57, 54, 48, 54, 49, 54, 50, 54, 51, 54, 52, 54, 53, 54, 54, 54, 55, 54, 56, 54, 57, 55, 48, 55, 49, 55, 50, 55, 51, 55, 52].append [55, 53, 55, 54, 55, 55, 55, 56, 55, 57, 56, 48, 56, 49, 56, 50, 56, 51, 56, 52, 56, 53, 56, 54, 56, 55, 56, 56, 56, 57, 57, 48, 57, 49, 57, 50, 57, 51, 57, 52, 57, 53, 57, 54, 57, 55, 57, 56, 57, 57]))
theorem sm_fold : (⟨((([48, 48, 48, 49, 48, 50, 48, 51, 48, 52, 48, 53, 48, 54, 48, 55, 48, 56, 48, 57, 49, 48, 49, 49, 49, 50, 49, 51, 49, 52, 49, 53, 49, 54, 49, 55, 49, 56, 49, 57, 50, 48, 50, 49, 50, 50, 50, 51, 50, 52].append [50, 53, 50, 54, 50, 55, 50, 56, 50, 57, 51, 48, 51, 49, 51, 50, 51, 51, 51, 52, 51, 53, 51, 54, 51, 55, 51, 56, 51, 57, 52, 48, 52, 49, 52, 50, 52, 51, 52, 52, 52, 53, 52, 54, 52, 55, 52, 56, 52, 57]).append ([53, 48, 53, 49, 53, 50, 53, 51, 53, 52, 53, 53, 53, 54, 53, 55, 53, 56, 53, 57, 54, 48, 54, 49, 54, 50, 54, 51, 54, 52, 54, 53, 54, 54, 54, 55, 54, 56, 54, 57, 55, 48, 55, 49, 55, 50, 55, 51, 55, 52].append [55, 53, 55, 54, 55, 55, 55, 56, 55, 57, 56, 48, 56, 49, 56, 50, 56, 51, 56, 52, 56, 53, 56, 54, 56, 55, 56, 56, 56, 57, 57, 48, 57, 49, 57, 50, 57, 51, 57, 52, 57, 53, 57, 54, 57, 55, 57, 56, 57, 57]))).toArray⟩ : ByteArray) = bs smallsL := rfl
theorem X1y : smallsL.length = 200 := by decide +kernel
theorem sm_even : ∀ j, j < 100 → smallsL.getD (j * 2) 0 = UInt8.ofNat (48 + j / 10) := by decide +kernel
theorem sm_odd : ∀ j, j < 100 → smallsL.getD (j * 2 + 1) 0 = UInt8.ofNat (48 + j % 10) := by decide +kernel
theorem Q2r {α : Type} (P L : List α) (k : Nat) : List.take (P.length + k) (P ++ L) = P ++ List.take k L := by simp [List.take_append, List.take_of_length_le]
theorem Q2s {α : Type} (P L : List α) (k : Nat) : List.drop (P.length + k + 1) (P ++ L) = List.drop (k + 1) L := by
  rw [Nat.add_assoc]
  simp [List.drop_append, List.drop_of_length_le]
theorem Q2b {α : Type} (P L : List α) : List.take P.length (P ++ L) = P := by simp
theorem Q2c {α : Type} (P L : List α) : List.drop (P.length + 1) (P ++ L) = List.drop 1 L := by
  simp [List.drop_append, List.drop_of_length_le]
theorem smE {k : Nat} (h : k < 100) : (smallsL.getD (k * 2) 0).toNat = 48 + k / 10 := by
  rw [sm_even k h, UInt8.toNat_ofNat']
  omega
theorem smO {k : Nat} (h : k < 100) : (smallsL.getD (k * 2 + 1) 0).toNat = 48 + k % 10 := by
  rw [sm_odd k h, UInt8.toNat_ofNat']
  omega
theorem nz8 : ((100000000 : Int) = 0) = False := by simp
theorem nz4 : ((10000 : Int) = 0) = False := by simp
theorem nz2 : ((100 : Int) = 0) = False := by simp
theorem tm8 (v : Nat) : (v : Int).tmod 100000000 = ((v % 100000000 : Nat) : Int) := rfl
theorem tm4 (v : Nat) : (v : Int).tmod 10000 = ((v % 10000 : Nat) : Int) := rfl
theorem tm2 (v : Nat) : (v : Int).tmod 100 = ((v % 100 : Nat) : Int) := rfl
theorem td8 (v : Nat) : (v : Int).tdiv 100000000 = ((v / 100000000 : Nat) : Int) := rfl
theorem td4 (v : Nat) : (v : Int).tdiv 10000 = ((v / 10000 : Nat) : Int) := rfl
theorem td2 (v : Nat) : (v : Int).tdiv 100 = ((v / 100 : Nat) : Int) := rfl
theorem cm2 (v : Nat) : (v : Int) * 2 = ((v * 2 : Nat) : Int) := rfl
theorem ca1 (v : Nat) : (v : Int) + 1 = ((v + 1 : Nat) : Int) := rfl
theorem wr32 (v : Nat) : IntKind.u32.wrap (v : Int) = ((v % 4294967296 : Nat) : Int) := rfl
theorem wr64 (v : Nat) : IntKind.u64.wrap (v : Int) = ((v % 18446744073709551616 : Nat) : Int) := rfl
theorem wrN {n : Nat} (h : n < 4294967296) : IntKind.u32.wrap (n : Int) = n := by rw [wr32, Nat.mod_eq_of_lt h]
theorem wrM {n : Nat} (h : n < 18446744073709551616) : IntKind.u64.wrap (n : Int) = n := by rw [wr64, Nat.mod_eq_of_lt h]
def u8s (l : List UInt8) : List AV := l.map fun c => AV.u8 c.toNat
theorem X3v (a b : List UInt8) : u8s (a ++ b) = u8s a ++ u8s b := by simp [u8s]
theorem u8s_len (a : List UInt8) : (u8s a).length = a.length := by simp [u8s]
end Go.Lex
namespace Go.Proofs.YtjdapkelojdefaaGreatDoor
open Go Go.V Go.Lex
theorem len8 {l : List AV} (h : l.length = 8) : ∃ a b c d e f g i, l = [a, b, c, d, e, f, g, i] := by
  match l, h with
  | [a, b, c, d, e, f, g, i], _ => exact ⟨a, b, c, d, e, f, g, i, rfl⟩
theorem cutq {P : Program} {H : Nat → Hint} {n : Nat} {Q : VX → (Nat → AV) → Sg → Prop} {ρ : Nat → AV} {σ : Sg} {α : Type} {x y : Code} (Inv : α → Prop) (vals : α → List (Nat × AV)) (sg : α → Sg) (h : VW P H n x (sq (At Inv vals sg) Q) ρ σ) (h' : ∀ z, Inv z → VW P H n y Q (env (vals z)) (sg z)) : VW P H n x (sq (VW P H n y Q) Q) ρ σ := by
  refine h.mono (fun e ρ σ hq => ?_)
  cases e with
  | normal =>
    obtain ⟨z, hz, hs, hv⟩ := hq
    exact ((h' z hz).weak (Holds.weak hv)).forget hs
  | exit id => exact hq
  | ret => exact hq
theorem X1e (A mid : List AV) (m n off : Nat) (hA : A.length = off) (hmn : m + n ≤ mid.length) : ∃ P E : List AV, A ++ mid.take m = P ∧ P.length = off + m ∧ E.length = n ∧ A ++ mid.take (m + n) = P ++ E :=
  ⟨_, (mid.drop m).take n, rfl, by simp; omega, by simp; omega, by rw [List.take_add, zC]⟩
theorem len4 {l : List AV} (h : l.length = 4) : ∃ a b c d, l = [a, b, c, d] := by
  match l, h with
  | [a, b, c, d], _ => exact ⟨a, b, c, d, rfl⟩
theorem len2 {l : List AV} (h : l.length = 2) : ∃ a b, l = [a, b] := by
  match l, h with
  | [a, b], _ => exact ⟨a, b, rfl⟩
theorem cons_u8 {a b : Nat} {T T' : List AV} (h : a = b) (h' : T = T') : AV.u8 a :: T = AV.u8 b :: T' := by rw [h, h']
theorem u8s8 (x : Nat) (hx : x < 100000000) (T : List AV) : u8s (padD 8 x) ++ T = .u8 (48 + x / 10000 / 100 / 10 : Nat) :: .u8 (48 + x / 10000 / 100 % 10 : Nat) :: .u8 (48 + x / 10000 % 100 / 10 : Nat) :: .u8 (48 + x / 10000 % 100 % 10 : Nat) :: .u8 (48 + x % 10000 / 100 / 10 : Nat) :: .u8 (48 + x % 10000 / 100 % 10 : Nat) :: .u8 (48 + x % 10000 % 100 / 10 : Nat) :: .u8 (48 + x % 10000 % 100 % 10 : Nat) :: T := by
  rw [pad8]
  simp only [u8s, List.map_cons, List.map_nil, List.cons_append, zG, UInt8.toNat_ofNat']
  repeat (refine cons_u8 (by omega) ?_)
  rfl
theorem u8s4 (x : Nat) (hx : x < 10000) (T : List AV) : u8s (padD 4 x) ++ T = .u8 (48 + x / 100 / 10 : Nat) :: .u8 (48 + x / 100 % 10 : Nat) :: .u8 (48 + x % 100 / 10 : Nat) :: .u8 (48 + x % 100 % 10 : Nat) :: T := by
  rw [pad4]
  simp only [u8s, List.map_cons, List.map_nil, List.cons_append, zG, UInt8.toNat_ofNat']
  repeat (refine cons_u8 (by omega) ?_)
  rfl
theorem u8s2 (x : Nat) (hx : x < 100) (T : List AV) : u8s (padD 2 x) ++ T = .u8 (48 + x / 10 : Nat) :: .u8 (48 + x % 10 : Nat) :: T := by
  rw [pad2]
  simp only [u8s, List.map_cons, List.map_nil, List.cons_append, zG, UInt8.toNat_ofNat']
  repeat (refine cons_u8 (by omega) ?_)
  rfl
theorem pad_lt (k m v : Nat) (h : v < 10 ^ (m + k)) : v / 10 ^ k < 10 ^ m := Nat.div_lt_of_lt_mul (by rw [Nat.pow_add, Nat.mul_comm] at h; exact h)
theorem padD_mod : ∀ (k v : Nat), padD k (v % 10 ^ k) = padD k v
  | 0, _ => rfl
  | k + 1, v => by
    have e1 : v % 10 ^ (k + 1) / 10 = v / 10 % 10 ^ k := by rw [Nat.pow_succ, Nat.mul_comm]; exact Nat.mod_mul_right_div_self ..
    have e2 : v % 10 ^ (k + 1) % 10 = v % 10 := by rw [Nat.pow_succ, Nat.mul_comm]; exact Nat.mod_mul_right_mod ..
    rw [padD, e1, e2, padD_mod k, padD]
theorem X3w (k m v : Nat) (dn L : List UInt8) (h : padD (m + k) v ++ dn = L) : padD m (v / 10 ^ k) ++ (padD k (v % 10 ^ k) ++ dn) = L := by
  rw [← h, padD_add, padD_mod, zC]
theorem e44 (β off ND u : Nat) (A mid D : List AV) (σ : Sg) (hβ : σ β = some (.cells 178 (A ++ mid ++ D))) (hA : A.length = off) (hm : mid.length = ND) (hu : u < 10 ^ ND) (h64 : u < 2 ^ 64) (hND : ND ≤ 20) :
    VCalls Tryz.prog 191 [.ms β off ND 1, .val (.int .u64 u)] σ (fun x σ' => x = .tup [] ∧ σ' = σ.set β (.cells 178 (A ++ u8s (padD ND u) ++ D))) := by
  (refine vfun (fun _ => .no) Q0k Tryz.func191 (by kernel_rfl) ?_; simp only [Q0f, Tryz.f191, zw])
  simp only [sm_fold]
  (have zz := Bx.mk (j6 ui3 Q3i Q7a Q8w ui5 ui9); (repeat' (first | exact zc | (with_reducible first | apply And.intro | apply Q0a | apply Q0b | refine Q0c (by decide +kernel) ?_ | intro _) | refine zaW zz.out ?_ | refine zo ?_ | omega | refine zt zz.out ?_ | fail)); try (all_goals clear zz))
  refine VW.loop3 ND u ([] : List UInt8) (fun nd v dn => nd ≤ ND ∧ padD nd v ++ dn = padD ND u ∧ v < 10 ^ nd ∧ v < 2 ^ 64) (fun nd v _ => [(0, .ms β off ND 1), (1, .val (.int .u64 v)), (4, .i nd)]) (fun nd _ dn => σ.set β (.cells 178 (A ++ mid.take nd ++ (u8s dn ++ D)))) (fun nd _ _ => nd) ⟨Nat.le_refl _, by simp, hu, h64⟩ ?_ ?_ ?_
  · rw [List.take_of_length_le (by omega)]
    show (σ.set β (.cells 178 (A ++ mid ++ ([] ++ D)))).sub σ
    rw [zG, Sg.set_id hβ]
    exact .refl _
  · simp only [vO, vQ, ↓vP, vE, vS, vB, vL, vF, vM, vN, Q0i, zb, zd, ze, ne_eq, not_false_eq_true, zf, zg, zk, zl, vT]
    all_goals rfl
  rintro nd v dn ⟨g1, g2, g3, g4⟩
  by_cases h8 : 8 ≤ nd
  · obtain ⟨m, rfl⟩ : ∃ m, nd = m + 8 := ⟨nd - 8, by omega⟩
    obtain ⟨P, E, hPe, hP, hE, hc⟩ := X1e A mid m 8 off hA (by omega)
    obtain ⟨a, b, c, d, e, f, g, i, rfl⟩ := len8 hE
    have hc2 : A ++ mid.take (m + 8) ++ (u8s dn ++ D) = P ++ a :: b :: c :: d :: e :: f :: g :: i :: (u8s dn ++ D) := by rw [hc]; simp
    rw [hc2]
    clear hc2
    have hleaf : ∀ S, (σ.set β (.cells 178 (A ++ mid.take m ++ (u8s (padD 8 (v % 10 ^ 8) ++ dn) ++ D)))).sub S ↔ (σ.set β (.cells 178 (P ++ (u8s (padD 8 (v % 100000000)) ++ (u8s dn ++ D))))).sub S := fun S => by rw [hPe, X3v, zC]
    rw [u8s8 _ (by omega)] at hleaf
    generalize hT : u8s dn ++ D = T at *
    simp only [vO, vQ, ↓vP, vE, vS, vB, vL, vF, vM, vN, Q0i, zb, zd, ze, ne_eq, not_false_eq_true, zf, zg, zk, zl, vT]
    iterate 12 (all_goals (try ((first | (with_reducible first | refine .rs ?_ | refine .ds (by kernel_rfl) ?_ | refine .dg (by kernel_rfl) ?_ | refine .rg ?_ | refine .ite ?_ | refine .ret ?_ | refine .skip ?_ | refine .exit ?_ | refine .scope ?_ | refine .seq (.label ?_) | refine .block ?_ | refine .seq ?_)); (try simp only [vO, vQ, ↓vP, vE, vS, vB, vL, vF, vM, vN, Q0i, zb, zd, ze, ne_eq, not_false_eq_true, zf, zg, zk, zl, Z3, Q8b, Z150, Q4i, Z179, Q4j, Z187, Q4k, Z5, Q9g, Z9, Q9h, vT]))))
    refine Q4y (fun _ => ?_) (fun h => absurd (show (8:Int) ≤ ((m+8 : Nat) : Int) by omega) h)
    iterate 7 ((first | (with_reducible first | refine .rs ?_ | refine .ds (by kernel_rfl) ?_ | refine .dg (by kernel_rfl) ?_ | refine .rg ?_ | refine .ite ?_ | refine .ret ?_ | refine .skip ?_ | refine .exit ?_ | refine .scope ?_ | refine .seq (.label ?_) | refine .block ?_ | refine .seq ?_)); (try simp only [vO, vQ, ↓vP, vE, vS, vB, vL, vF, vM, vN, Q0i, zb, zd, ze, ne_eq, not_false_eq_true, zf, zg, zk, zl, Z3, Q8b, Z150, Q4i, Z179, Q4j, Z187, Q4k, Z5, Q9g, Z9, Q9h, nz8, nz4, nz2, not_false_eq_true, true_and, vT]))
    simp (disch := omega) only [tm8, td8, wrN, wrM, tm4, td4, tm2, td2, cm2]
    refine VW.weak (Holds.weak (vals := [(0, .ms β off ND 1), (1, .val (.int .u64 (v / 100000000 : Nat))), (4, .i (m + 8 : Nat)), (8, .val (.int .u32 (v % 100000000 % 10000 / 100 * 2 : Nat))), (9, .val (.int .u32 (v % 100000000 % 10000 % 100 * 2 : Nat))), (10, .val (.int .u32 (v % 100000000 / 10000 / 100 * 2 : Nat))), (11, .val (.int .u32 (v % 100000000 / 10000 % 100 * 2 : Nat)))]) ?_) ?_
    · refine Q1d ?_
      simp only [vO, vQ, ↓vP, vE, vS, vB, vL, vF, vM, vN, Q0i, zb, zd, ze, ne_eq, not_false_eq_true, zf, zg, zk, zl, vT]
    have j1 : v % 100000000 % 10000 % 100 < 100 := by omega
    have j2 : v % 100000000 % 10000 / 100 < 100 := by omega
    have j3 : v % 100000000 / 10000 % 100 < 100 := by omega
    have j4 : v % 100000000 / 10000 / 100 < 100 := by omega
    generalize v % 100000000 % 10000 % 100 = k1 at *
    generalize v % 100000000 % 10000 / 100 = k2 at *
    generalize v % 100000000 / 10000 % 100 = k3 at *
    generalize v % 100000000 / 10000 / 100 = k4 at *
    generalize hw : v / 100000000 = w at *
    have hm64 : m + 8 < 2 ^ 63 := by omega
    have hw1 : IntKind.i64.wrap (((m + 8 : Nat) : Int) - 1) = ((m + 7 : Nat) : Int) := by rw [w64 (by omega) (by omega)]; omega
    have hw2 : IntKind.i64.wrap (((m + 8 : Nat) : Int) - 2) = ((m + 6 : Nat) : Int) := by rw [w64 (by omega) (by omega)]; omega
    have hw3 : IntKind.i64.wrap (((m + 8 : Nat) : Int) - 3) = ((m + 5 : Nat) : Int) := by rw [w64 (by omega) (by omega)]; omega
    have hw4 : IntKind.i64.wrap (((m + 8 : Nat) : Int) - 4) = ((m + 4 : Nat) : Int) := by rw [w64 (by omega) (by omega)]; omega
    have hw5 : IntKind.i64.wrap (((m + 8 : Nat) : Int) - 5) = ((m + 3 : Nat) : Int) := by rw [w64 (by omega) (by omega)]; omega
    have hw6 : IntKind.i64.wrap (((m + 8 : Nat) : Int) - 6) = ((m + 2 : Nat) : Int) := by rw [w64 (by omega) (by omega)]; omega
    have hw7 : IntKind.i64.wrap (((m + 8 : Nat) : Int) - 7) = ((m + 1 : Nat) : Int) := by rw [w64 (by omega) (by omega)]; omega
    have hw8 : IntKind.i64.wrap (((m + 8 : Nat) : Int) - 8) = ((m : Nat) : Int) := by rw [w64 (by omega) (by omega)]; omega
    have ho1 : off + (m + 7) = P.length + 7 := by omega
    have ho2 : off + (m + 6) = P.length + 6 := by omega
    have ho3 : off + (m + 5) = P.length + 5 := by omega
    have ho4 : off + (m + 4) = P.length + 4 := by omega
    have ho5 : off + (m + 3) = P.length + 3 := by omega
    have ho6 : off + (m + 2) = P.length + 2 := by omega
    have ho7 : off + (m + 1) = P.length + 1 := by omega
    have ho8 : off + m = P.length := by omega
    have hu1 : IntKind.u32.wrap ((k1 * 2 + 1 : Nat) : Int) = ((k1 * 2 + 1 : Nat) : Int) := wrN (by omega)
    have hu2 : IntKind.u32.wrap ((k2 * 2 + 1 : Nat) : Int) = ((k2 * 2 + 1 : Nat) : Int) := wrN (by omega)
    have hu3 : IntKind.u32.wrap ((k3 * 2 + 1 : Nat) : Int) = ((k3 * 2 + 1 : Nat) : Int) := wrN (by omega)
    have hu4 : IntKind.u32.wrap ((k4 * 2 + 1 : Nat) : Int) = ((k4 * 2 + 1 : Nat) : Int) := wrN (by omega)
    refine VW.cut (α := Unit) (fun _ => True) (fun _ => [(0, .ms β off ND 1), (1, .val (.int .u64 (w : Nat))), (4, .i (m + 8 : Nat)), (8, .val (.int .u32 (k2 * 2 : Nat))), (10, .val (.int .u32 (k4 * 2 : Nat))), (11, .val (.int .u32 (k3 * 2 : Nat)))]) (fun _ => σ.set β (.cells 178 (P ++ a :: b :: c :: d :: e :: f :: .u8 (48 + k1 / 10 : Nat) :: .u8 (48 + k1 % 10 : Nat) :: T))) ?_ (fun _ _ => ?_)
    · clear hu g3 g2 h64 g4 hE hc hND hleaf
      (have zz := Bx.mk (j5 ui3 Q3i Q7a Q8w (j9 ui5 ui9 @ca1 @cm2 hu1 hw1 hw2 @Int.toNat_natCast (j9 @Nat.mul_one ho1 ho2 @Q2b @Q2r @Q2c @Q2s @List.length_append.{0} @X1y))); (repeat' (first | exact zc | (with_reducible first | apply And.intro | apply Q0a | apply Q0b | refine Q0c (by decide +kernel) ?_ | intro _) | ((with_reducible refine .dm (fun _ => False) [(0, false), (1, false), (2, false), (3, false), (4, false), (5, false), (6, false), (7, false), (8, false), (9, false), (10, false), (11, false), (12, true), (13, false), (14, true)] (by decide) (by decide +kernel) ?_); (refine zs zz.out ?_)) | refine zaW zz.out ?_ | ((first | with_reducible refine Q0l (fun _ h => h.elim) ?_ | (refine Q0d (by exact zK) ?_) | (refine Q0e (by exact zK) ?_)); (try refine zs zz.out ?_)) | refine zo ?_ | omega | refine zt zz.out ?_ | fail)); try (all_goals clear zz))
      · exact ⟨_, _, rfl⟩
      · exact ⟨_, _, rfl⟩
      refine ⟨(), trivial, ?_, Q1d ?_⟩
      · simp only [vO, vQ, ↓vP, vE, vS, vB, vL, vF, vM, vN, Q0i, zb, zd, ze, ne_eq, not_false_eq_true, zf, zg, zk, zl, vT]
        simp only [smE j1, smO j1, zC, Q2r, Q2s, Q2b, Q2c]
        exact .refl _
      · simp only [vO, vQ, ↓vP, vE, vS, vB, vL, vF, vM, vN, Q0i, zb, zd, ze, ne_eq, not_false_eq_true, zf, zg, zk, zl, vT]
    refine VW.cut (α := Unit) (fun _ => True) (fun _ => [(0, .ms β off ND 1), (1, .val (.int .u64 (w : Nat))), (4, .i (m + 8 : Nat)), (10, .val (.int .u32 (k4 * 2 : Nat))), (11, .val (.int .u32 (k3 * 2 : Nat)))]) (fun _ => σ.set β (.cells 178 (P ++ a :: b :: c :: d :: .u8 (48 + k2 / 10 : Nat) :: .u8 (48 + k2 % 10 : Nat) :: .u8 (48 + k1 / 10 : Nat) :: .u8 (48 + k1 % 10 : Nat) :: T))) ?_ (fun _ _ => ?_)
    · clear hu g3 g2 h64 g4 hE hc hND hleaf
      (have zz := Bx.mk (j5 ui3 Q3i Q7a Q8w (j9 ui5 ui9 @ca1 @cm2 hu2 hw3 hw4 @Int.toNat_natCast (j9 @Nat.mul_one ho3 ho4 @Q2b @Q2r @Q2c @Q2s @List.length_append.{0} @X1y))); (repeat' (first | exact zc | (with_reducible first | apply And.intro | apply Q0a | apply Q0b | refine Q0c (by decide +kernel) ?_ | intro _) | ((with_reducible refine .dm (fun _ => False) [(0, false), (1, false), (2, false), (3, false), (4, false), (5, false), (6, false), (7, false), (8, false), (9, false), (10, false), (11, false), (12, true), (13, false), (14, true)] (by decide) (by decide +kernel) ?_); (refine zs zz.out ?_)) | refine zaW zz.out ?_ | ((first | with_reducible refine Q0l (fun _ h => h.elim) ?_ | (refine Q0d (by exact zK) ?_) | (refine Q0e (by exact zK) ?_)); (try refine zs zz.out ?_)) | refine zo ?_ | omega | refine zt zz.out ?_ | fail)); try (all_goals clear zz))
      · exact ⟨_, _, rfl⟩
      · exact ⟨_, _, rfl⟩
      refine ⟨(), trivial, ?_, Q1d ?_⟩
      · simp only [vO, vQ, ↓vP, vE, vS, vB, vL, vF, vM, vN, Q0i, zb, zd, ze, ne_eq, not_false_eq_true, zf, zg, zk, zl, vT]
        simp only [smE j2, smO j2, zC, Q2r, Q2s, Q2b, Q2c]
        exact .refl _
      · simp only [vO, vQ, ↓vP, vE, vS, vB, vL, vF, vM, vN, Q0i, zb, zd, ze, ne_eq, not_false_eq_true, zf, zg, zk, zl, vT]
    refine VW.cut (α := Unit) (fun _ => True) (fun _ => [(0, .ms β off ND 1), (1, .val (.int .u64 (w : Nat))), (4, .i (m + 8 : Nat)), (10, .val (.int .u32 (k4 * 2 : Nat)))]) (fun _ => σ.set β (.cells 178 (P ++ a :: b :: .u8 (48 + k3 / 10 : Nat) :: .u8 (48 + k3 % 10 : Nat) :: .u8 (48 + k2 / 10 : Nat) :: .u8 (48 + k2 % 10 : Nat) :: .u8 (48 + k1 / 10 : Nat) :: .u8 (48 + k1 % 10 : Nat) :: T))) ?_ (fun _ _ => ?_)
    · clear hu g3 g2 h64 g4 hE hc hND hleaf
      (have zz := Bx.mk (j5 ui3 Q3i Q7a Q8w (j9 ui5 ui9 @ca1 @cm2 hu3 hw5 hw6 @Int.toNat_natCast (j9 @Nat.mul_one ho5 ho6 @Q2b @Q2r @Q2c @Q2s @List.length_append.{0} @X1y))); (repeat' (first | exact zc | (with_reducible first | apply And.intro | apply Q0a | apply Q0b | refine Q0c (by decide +kernel) ?_ | intro _) | ((with_reducible refine .dm (fun _ => False) [(0, false), (1, false), (2, false), (3, false), (4, false), (5, false), (6, false), (7, false), (8, false), (9, false), (10, false), (11, false), (12, true), (13, false), (14, true)] (by decide) (by decide +kernel) ?_); (refine zs zz.out ?_)) | refine zaW zz.out ?_ | ((first | with_reducible refine Q0l (fun _ h => h.elim) ?_ | (refine Q0d (by exact zK) ?_) | (refine Q0e (by exact zK) ?_)); (try refine zs zz.out ?_)) | refine zo ?_ | omega | refine zt zz.out ?_ | fail)); try (all_goals clear zz))
      · exact ⟨_, _, rfl⟩
      · exact ⟨_, _, rfl⟩
      refine ⟨(), trivial, ?_, Q1d ?_⟩
      · simp only [vO, vQ, ↓vP, vE, vS, vB, vL, vF, vM, vN, Q0i, zb, zd, ze, ne_eq, not_false_eq_true, zf, zg, zk, zl, vT]
        simp only [smE j3, smO j3, zC, Q2r, Q2s, Q2b, Q2c]
        exact .refl _
      · simp only [vO, vQ, ↓vP, vE, vS, vB, vL, vF, vM, vN, Q0i, zb, zd, ze, ne_eq, not_false_eq_true, zf, zg, zk, zl, vT]
    refine VW.cut (α := Unit) (fun _ => True) (fun _ => [(0, .ms β off ND 1), (1, .val (.int .u64 (w : Nat))), (4, .i (m + 8 : Nat))]) (fun _ => σ.set β (.cells 178 (P ++ .u8 (48 + k4 / 10 : Nat) :: .u8 (48 + k4 % 10 : Nat) :: .u8 (48 + k3 / 10 : Nat) :: .u8 (48 + k3 % 10 : Nat) :: .u8 (48 + k2 / 10 : Nat) :: .u8 (48 + k2 % 10 : Nat) :: .u8 (48 + k1 / 10 : Nat) :: .u8 (48 + k1 % 10 : Nat) :: T))) ?_ (fun _ _ => ?_)
    · clear hu g3 g2 h64 g4 hE hc hND hleaf
      (have zz := Bx.mk (j5 ui3 Q3i Q7a Q8w (j9 ui5 ui9 @ca1 @cm2 hu4 hw7 hw8 @Int.toNat_natCast (j9 @Nat.mul_one ho7 ho8 @Q2b @Q2r @Q2c @Q2s @List.length_append.{0} @X1y))); (repeat' (first | exact zc | (with_reducible first | apply And.intro | apply Q0a | apply Q0b | refine Q0c (by decide +kernel) ?_ | intro _) | ((with_reducible refine .dm (fun _ => False) [(0, false), (1, false), (2, false), (3, false), (4, false), (5, false), (6, false), (7, false), (8, false), (9, false), (10, false), (11, false), (12, true), (13, false), (14, true)] (by decide) (by decide +kernel) ?_); (refine zs zz.out ?_)) | refine zaW zz.out ?_ | ((first | with_reducible refine Q0l (fun _ h => h.elim) ?_ | (refine Q0d (by exact zK) ?_) | (refine Q0e (by exact zK) ?_)); (try refine zs zz.out ?_)) | refine zo ?_ | omega | refine zt zz.out ?_ | fail)); try (all_goals clear zz))
      · exact ⟨_, _, rfl⟩
      · exact ⟨_, _, rfl⟩
      refine ⟨(), trivial, ?_, Q1d ?_⟩
      · simp only [vO, vQ, ↓vP, vE, vS, vB, vL, vF, vM, vN, Q0i, zb, zd, ze, ne_eq, not_false_eq_true, zf, zg, zk, zl, vT]
        simp only [smE j4, smO j4, zC, Q2r, Q2s, Q2b, Q2c]
        exact .refl _
      · simp only [vO, vQ, ↓vP, vE, vS, vB, vL, vF, vM, vN, Q0i, zb, zd, ze, ne_eq, not_false_eq_true, zf, zg, zk, zl, vT]
    (have zz := Bx.mk (j7 ui3 Q3i Q7a Q8w ui5 ui9 hw8); (repeat' (first | exact zc | (with_reducible first | apply And.intro | apply Q0a | apply Q0b | refine Q0c (by decide +kernel) ?_ | intro _) | refine zaW zz.out ?_ | refine zo ?_ | omega | refine zt zz.out ?_ | fail)); try (all_goals clear zz))
    refine ⟨m, w, padD 8 (v % 10 ^ 8) ++ dn, ⟨⟨by omega, ?_, by rw [← hw]; exact pad_lt 8 m v g3, by rw [← hw]; exact Nat.lt_of_le_of_lt (Nat.div_le_self ..) g4⟩, by omega⟩, (hleaf _).2 (.refl _), rfl, rfl⟩
    rw [← hw]
    exact X3w 8 m v dn _ g2
  · simp only [vO, vQ, ↓vP, vE, vS, vB, vL, vF, vM, vN, Q0i, zb, zd, ze, ne_eq, not_false_eq_true, zf, zg, zk, zl, vT]
    iterate 12 (all_goals (try ((first | (with_reducible first | refine .rs ?_ | refine .ds (by kernel_rfl) ?_ | refine .dg (by kernel_rfl) ?_ | refine .rg ?_ | refine .ite ?_ | refine .ret ?_ | refine .skip ?_ | refine .exit ?_ | refine .scope ?_ | refine .seq (.label ?_) | refine .block ?_ | refine .seq ?_)); (try simp only [vO, vQ, ↓vP, vE, vS, vB, vL, vF, vM, vN, Q0i, zb, zd, ze, ne_eq, not_false_eq_true, zf, zg, zk, zl, Z3, Q8b, Z150, Q4i, Z179, Q4j, Z187, Q4k, Z5, Q9g, Z9, Q9h, vT]))))
    refine Q4y (fun h => absurd (show ¬ (8:Int) ≤ (nd : Int) by omega) (not_not_intro h)) (fun _ => ?_)
    iterate 4 ((first | (with_reducible first | refine .rs ?_ | refine .ds (by kernel_rfl) ?_ | refine .dg (by kernel_rfl) ?_ | refine .rg ?_ | refine .ite ?_ | refine .ret ?_ | refine .skip ?_ | refine .exit ?_ | refine .scope ?_ | refine .seq (.label ?_) | refine .block ?_ | refine .seq ?_)); (try simp only [vO, vQ, ↓vP, vE, vS, vB, vL, vF, vM, vN, Q0i, zb, zd, ze, ne_eq, not_false_eq_true, zf, zg, zk, zl, Z3, Q8b, Z150, Q4i, Z179, Q4j, Z187, Q4k, Z5, Q9g, Z9, Q9h, nz8, nz4, nz2, not_false_eq_true, true_and, vT]))
    have hv : v < 10 ^ 7 := zj g3 (Nat.pow_le_pow_right (by omega) (by omega))
    simp (disch := omega) only [wrN]
    refine VW.weak (Holds.weak (vals := [(0, .ms β off ND 1), (4, .i nd), (12, .val (.int .u32 v)), (99, .b (decide ((4 : Int) ≤ (nd : Int))))]) ?_) ?_
    · refine Q1d ?_
      simp only [vO, vQ, ↓vP, vE, vS, vB, vL, vF, vM, vN, Q0i, zb, zd, ze, ne_eq, not_false_eq_true, zf, zg, zk, zl, vT]
    clear h8 g4
    refine cutq (α := Nat × Nat × List UInt8) (fun z => z.1 < 4 ∧ z.1 ≤ ND ∧ padD z.1 z.2.1 ++ z.2.2 = padD ND u ∧ z.2.1 < 10 ^ z.1) (fun z => [(0, .ms β off ND 1), (4, .i z.1), (12, .val (.int .u32 (z.2.1 : Nat)))]) (fun z => σ.set β (.cells 178 (A ++ mid.take z.1 ++ (u8s z.2.2 ++ D)))) ?_ ?_
    · by_cases h4 : 4 ≤ nd
      · obtain ⟨m, rfl⟩ : ∃ m, nd = m + 4 := ⟨nd - 4, by omega⟩
        obtain ⟨P, E, hPe, hP, hE, hc⟩ := X1e A mid m 4 off hA (by omega)
        obtain ⟨a, b, c, d, rfl⟩ := len4 hE
        have hc2 : A ++ mid.take (m + 4) ++ (u8s dn ++ D) = P ++ a :: b :: c :: d :: (u8s dn ++ D) := by rw [hc]; simp
        rw [hc2]
        clear hc2
        have hleaf : ∀ S, (σ.set β (.cells 178 (A ++ mid.take m ++ (u8s (padD 4 (v % 10 ^ 4) ++ dn) ++ D)))).sub S ↔ (σ.set β (.cells 178 (P ++ (u8s (padD 4 (v % 10000)) ++ (u8s dn ++ D))))).sub S := fun S => by rw [hPe, X3v, zC]
        rw [u8s4 _ (by omega)] at hleaf
        generalize hT : u8s dn ++ D = T at *
        (first | (with_reducible first | refine .rs ?_ | refine .ds (by kernel_rfl) ?_ | refine .dg (by kernel_rfl) ?_ | refine .rg ?_ | refine .ite ?_ | refine .ret ?_ | refine .skip ?_ | refine .exit ?_ | refine .scope ?_ | refine .seq (.label ?_) | refine .block ?_ | refine .seq ?_)); (try simp only [vO, vQ, ↓vP, vE, vS, vB, vL, vF, vM, vN, Q0i, zb, zd, ze, ne_eq, not_false_eq_true, zf, zg, zk, zl, Z3, Q8b, Z150, Q4i, Z179, Q4j, Z187, Q4k, Z5, Q9g, Z9, Q9h, vT])
        refine Q4y (fun _ => ?_) (fun h => absurd (show (4:Int) ≤ ((m+4 : Nat) : Int) by omega) h)
        iterate 3 ((first | (with_reducible first | refine .rs ?_ | refine .ds (by kernel_rfl) ?_ | refine .dg (by kernel_rfl) ?_ | refine .rg ?_ | refine .ite ?_ | refine .ret ?_ | refine .skip ?_ | refine .exit ?_ | refine .scope ?_ | refine .seq (.label ?_) | refine .block ?_ | refine .seq ?_)); (try simp only [vO, vQ, ↓vP, vE, vS, vB, vL, vF, vM, vN, Q0i, zb, zd, ze, ne_eq, not_false_eq_true, zf, zg, zk, zl, Z3, Q8b, Z150, Q4i, Z179, Q4j, Z187, Q4k, Z5, Q9g, Z9, Q9h, nz8, nz4, nz2, not_false_eq_true, true_and, vT]))
        simp (disch := omega) only [tm4, td4, wrN, tm2, td2, cm2]
        refine VW.weak (Holds.weak (vals := [(0, .ms β off ND 1), (4, .i (m + 4 : Nat)), (12, .val (.int .u32 (v / 10000 : Nat))), (14, .val (.int .u32 (v % 10000 / 100 * 2 : Nat))), (15, .val (.int .u32 (v % 10000 % 100 * 2 : Nat)))]) ?_) ?_
        · refine Q1d ?_
          simp only [vO, vQ, ↓vP, vE, vS, vB, vL, vF, vM, vN, Q0i, zb, zd, ze, ne_eq, not_false_eq_true, zf, zg, zk, zl, vT]
        have j1 : v % 10000 % 100 < 100 := by omega
        have j2 : v % 10000 / 100 < 100 := by omega
        generalize v % 10000 % 100 = k1 at *
        generalize v % 10000 / 100 = k2 at *
        generalize hw : v / 10000 = w at *
        have hm64 : m + 4 < 2 ^ 63 := by omega
        have hw1 : IntKind.i64.wrap (((m + 4 : Nat) : Int) - 1) = ((m + 3 : Nat) : Int) := by rw [w64 (by omega) (by omega)]; omega
        have hw2 : IntKind.i64.wrap (((m + 4 : Nat) : Int) - 2) = ((m + 2 : Nat) : Int) := by rw [w64 (by omega) (by omega)]; omega
        have hw3 : IntKind.i64.wrap (((m + 4 : Nat) : Int) - 3) = ((m + 1 : Nat) : Int) := by rw [w64 (by omega) (by omega)]; omega
        have hw4 : IntKind.i64.wrap (((m + 4 : Nat) : Int) - 4) = ((m : Nat) : Int) := by rw [w64 (by omega) (by omega)]; omega
        have ho1 : off + (m + 3) = P.length + 3 := by omega
        have ho2 : off + (m + 2) = P.length + 2 := by omega
        have ho3 : off + (m + 1) = P.length + 1 := by omega
        have ho4 : off + m = P.length := by omega
        have hu1 : IntKind.u32.wrap ((k1 * 2 + 1 : Nat) : Int) = ((k1 * 2 + 1 : Nat) : Int) := wrN (by omega)
        have hu2 : IntKind.u32.wrap ((k2 * 2 + 1 : Nat) : Int) = ((k2 * 2 + 1 : Nat) : Int) := wrN (by omega)
        refine VW.cut (α := Unit) (fun _ => True) (fun _ => [(0, .ms β off ND 1), (4, .i (m + 4 : Nat)), (12, .val (.int .u32 (w : Nat))), (14, .val (.int .u32 (k2 * 2 : Nat)))]) (fun _ => σ.set β (.cells 178 (P ++ a :: b :: .u8 (48 + k1 / 10 : Nat) :: .u8 (48 + k1 % 10 : Nat) :: T))) ?_ (fun _ _ => ?_)
        · clear hu g3 g2 h64 hE hc hND hleaf hv
          (have zz := Bx.mk (j5 ui3 Q3i Q7a Q8w (j9 ui5 ui9 @ca1 @cm2 hu1 hw1 hw2 @Int.toNat_natCast (j9 @Nat.mul_one ho1 ho2 @Q2b @Q2r @Q2c @Q2s @List.length_append.{0} @X1y))); (repeat' (first | exact zc | (with_reducible first | apply And.intro | apply Q0a | apply Q0b | refine Q0c (by decide +kernel) ?_ | intro _) | ((with_reducible refine .dm (fun _ => False) [(0, false), (1, false), (2, false), (3, false), (4, false), (5, false), (6, false), (7, false), (8, false), (9, false), (10, false), (11, false), (12, true), (13, false), (14, true)] (by decide) (by decide +kernel) ?_); (refine zs zz.out ?_)) | refine zaW zz.out ?_ | ((first | with_reducible refine Q0l (fun _ h => h.elim) ?_ | (refine Q0d (by exact zK) ?_) | (refine Q0e (by exact zK) ?_)); (try refine zs zz.out ?_)) | refine zo ?_ | omega | refine zt zz.out ?_ | fail)); try (all_goals clear zz))
          · exact ⟨_, _, rfl⟩
          · exact ⟨_, _, rfl⟩
          refine ⟨(), trivial, ?_, Q1d ?_⟩
          · simp only [vO, vQ, ↓vP, vE, vS, vB, vL, vF, vM, vN, Q0i, zb, zd, ze, ne_eq, not_false_eq_true, zf, zg, zk, zl, vT]
            simp only [smE j1, smO j1, zC, Q2r, Q2s, Q2b, Q2c]
            exact .refl _
          · simp only [vO, vQ, ↓vP, vE, vS, vB, vL, vF, vM, vN, Q0i, zb, zd, ze, ne_eq, not_false_eq_true, zf, zg, zk, zl, vT]
        refine VW.cut (α := Unit) (fun _ => True) (fun _ => [(0, .ms β off ND 1), (4, .i (m + 4 : Nat)), (12, .val (.int .u32 (w : Nat)))]) (fun _ => σ.set β (.cells 178 (P ++ .u8 (48 + k2 / 10 : Nat) :: .u8 (48 + k2 % 10 : Nat) :: .u8 (48 + k1 / 10 : Nat) :: .u8 (48 + k1 % 10 : Nat) :: T))) ?_ (fun _ _ => ?_)
        · clear hu g3 g2 h64 hE hc hND hleaf hv
          (have zz := Bx.mk (j5 ui3 Q3i Q7a Q8w (j9 ui5 ui9 @ca1 @cm2 hu2 hw3 hw4 @Int.toNat_natCast (j9 @Nat.mul_one ho3 ho4 @Q2b @Q2r @Q2c @Q2s @List.length_append.{0} @X1y))); (repeat' (first | exact zc | (with_reducible first | apply And.intro | apply Q0a | apply Q0b | refine Q0c (by decide +kernel) ?_ | intro _) | ((with_reducible refine .dm (fun _ => False) [(0, false), (1, false), (2, false), (3, false), (4, false), (5, false), (6, false), (7, false), (8, false), (9, false), (10, false), (11, false), (12, true), (13, false), (14, true)] (by decide) (by decide +kernel) ?_); (refine zs zz.out ?_)) | refine zaW zz.out ?_ | ((first | with_reducible refine Q0l (fun _ h => h.elim) ?_ | (refine Q0d (by exact zK) ?_) | (refine Q0e (by exact zK) ?_)); (try refine zs zz.out ?_)) | refine zo ?_ | omega | refine zt zz.out ?_ | fail)); try (all_goals clear zz))
          · exact ⟨_, _, rfl⟩
          · exact ⟨_, _, rfl⟩
          refine ⟨(), trivial, ?_, Q1d ?_⟩
          · simp only [vO, vQ, ↓vP, vE, vS, vB, vL, vF, vM, vN, Q0i, zb, zd, ze, ne_eq, not_false_eq_true, zf, zg, zk, zl, vT]
            simp only [smE j2, smO j2, zC, Q2r, Q2s, Q2b, Q2c]
            exact .refl _
          · simp only [vO, vQ, ↓vP, vE, vS, vB, vL, vF, vM, vN, Q0i, zb, zd, ze, ne_eq, not_false_eq_true, zf, zg, zk, zl, vT]
        (have zz := Bx.mk (j7 ui3 Q3i Q7a Q8w ui5 ui9 hw4); (repeat' (first | exact zc | (with_reducible first | apply And.intro | apply Q0a | apply Q0b | refine Q0c (by decide +kernel) ?_ | intro _) | refine zaW zz.out ?_ | refine zo ?_ | omega | refine zt zz.out ?_ | fail)); try (all_goals clear zz))
        refine ⟨(m, w, padD 4 (v % 10 ^ 4) ++ dn), ⟨by simp only; clear hu h64 g3; omega, by simp only; clear hu h64 g3; omega, ?_, by simp only; rw [← hw]; exact pad_lt 4 m v g3⟩, (hleaf _).2 (.refl _), Q1d ?_⟩
        · rw [← hw]
          exact X3w 4 m v dn _ g2
        · simp only [vO, vQ, ↓vP, vE, vS, vB, vL, vF, vM, vN, Q0i, zb, zd, ze, ne_eq, not_false_eq_true, zf, zg, zk, zl, vT]
      · (first | (with_reducible first | refine .rs ?_ | refine .ds (by kernel_rfl) ?_ | refine .dg (by kernel_rfl) ?_ | refine .rg ?_ | refine .ite ?_ | refine .ret ?_ | refine .skip ?_ | refine .exit ?_ | refine .scope ?_ | refine .seq (.label ?_) | refine .block ?_ | refine .seq ?_)); (try simp only [vO, vQ, ↓vP, vE, vS, vB, vL, vF, vM, vN, Q0i, zb, zd, ze, ne_eq, not_false_eq_true, zf, zg, zk, zl, Z3, Q8b, Z150, Q4i, Z179, Q4j, Z187, Q4k, Z5, Q9g, Z9, Q9h, vT])
        refine Q4y (fun h => absurd (show ¬ (4:Int) ≤ (nd : Int) by omega) (not_not_intro h)) (fun _ => ?_)
        (have zz := Bx.mk (j6 ui3 Q3i Q7a Q8w ui5 ui9); (repeat' (first | exact zc | (with_reducible first | apply And.intro | apply Q0a | apply Q0b | refine Q0c (by decide +kernel) ?_ | intro _) | refine zaW zz.out ?_ | refine zo ?_ | omega | refine zt zz.out ?_ | fail)); try (all_goals clear zz))
        refine ⟨(nd, v, dn), ⟨by simp only; omega, g1, g2, g3⟩, .refl _, Q1d ?_⟩
        simp only [vO, vQ, ↓vP, vE, vS, vB, vL, vF, vM, vN, Q0i, zb, zd, ze, ne_eq, not_false_eq_true, zf, zg, zk, zl, vT]
    clear hv g1 g2 g3
    rintro ⟨nd, v, dn⟩ ⟨g0, g1, g2, g3⟩
    simp only at g0 g1 g2 g3
    simp only []
    iterate 2 ((first | (with_reducible first | refine .rs ?_ | refine .ds (by kernel_rfl) ?_ | refine .dg (by kernel_rfl) ?_ | refine .rg ?_ | refine .ite ?_ | refine .ret ?_ | refine .skip ?_ | refine .exit ?_ | refine .scope ?_ | refine .seq (.label ?_) | refine .block ?_ | refine .seq ?_)); (try simp only [vO, vQ, ↓vP, vE, vS, vB, vL, vF, vM, vN, Q0i, zb, zd, ze, ne_eq, not_false_eq_true, zf, zg, zk, zl, Z3, Q8b, Z150, Q4i, Z179, Q4j, Z187, Q4k, Z5, Q9g, Z9, Q9h, nz8, nz4, nz2, not_false_eq_true, true_and, vT]))
    refine cutq (α := Nat × Nat × List UInt8) (fun z => z.1 < 2 ∧ z.1 ≤ ND ∧ padD z.1 z.2.1 ++ z.2.2 = padD ND u ∧ z.2.1 < 10 ^ z.1) (fun z => [(0, .ms β off ND 1), (4, .i z.1), (12, .val (.int .u32 (z.2.1 : Nat)))]) (fun z => σ.set β (.cells 178 (A ++ mid.take z.1 ++ (u8s z.2.2 ++ D)))) ?_ ?_
    · have hv : v < 10 ^ 3 := zj g3 (Nat.pow_le_pow_right (by omega) (by omega))
      by_cases h4 : 2 ≤ nd
      · obtain ⟨m, rfl⟩ : ∃ m, nd = m + 2 := ⟨nd - 2, by omega⟩
        obtain ⟨P, E, hPe, hP, hE, hc⟩ := X1e A mid m 2 off hA (by omega)
        obtain ⟨a, b, rfl⟩ := len2 hE
        have hc2 : A ++ mid.take (m + 2) ++ (u8s dn ++ D) = P ++ a :: b :: (u8s dn ++ D) := by rw [hc]; simp
        rw [hc2]
        clear hc2
        have hleaf : ∀ S, (σ.set β (.cells 178 (A ++ mid.take m ++ (u8s (padD 2 (v % 10 ^ 2) ++ dn) ++ D)))).sub S ↔ (σ.set β (.cells 178 (P ++ (u8s (padD 2 (v % 100)) ++ (u8s dn ++ D))))).sub S := fun S => by rw [hPe, X3v, zC]
        rw [u8s2 _ (by omega)] at hleaf
        generalize hT : u8s dn ++ D = T at *
        (first | (with_reducible first | refine .rs ?_ | refine .ds (by kernel_rfl) ?_ | refine .dg (by kernel_rfl) ?_ | refine .rg ?_ | refine .ite ?_ | refine .ret ?_ | refine .skip ?_ | refine .exit ?_ | refine .scope ?_ | refine .seq (.label ?_) | refine .block ?_ | refine .seq ?_)); (try simp only [vO, vQ, ↓vP, vE, vS, vB, vL, vF, vM, vN, Q0i, zb, zd, ze, ne_eq, not_false_eq_true, zf, zg, zk, zl, Z3, Q8b, Z150, Q4i, Z179, Q4j, Z187, Q4k, Z5, Q9g, Z9, Q9h, vT])
        refine Q4y (fun _ => ?_) (fun h => absurd (show (2:Int) ≤ ((m+2 : Nat) : Int) by omega) h)
        iterate 2 ((first | (with_reducible first | refine .rs ?_ | refine .ds (by kernel_rfl) ?_ | refine .dg (by kernel_rfl) ?_ | refine .rg ?_ | refine .ite ?_ | refine .ret ?_ | refine .skip ?_ | refine .exit ?_ | refine .scope ?_ | refine .seq (.label ?_) | refine .block ?_ | refine .seq ?_)); (try simp only [vO, vQ, ↓vP, vE, vS, vB, vL, vF, vM, vN, Q0i, zb, zd, ze, ne_eq, not_false_eq_true, zf, zg, zk, zl, Z3, Q8b, Z150, Q4i, Z179, Q4j, Z187, Q4k, Z5, Q9g, Z9, Q9h, nz8, nz4, nz2, not_false_eq_true, true_and, vT]))
        simp (disch := omega) only [td4, wrN, tm2, td2, cm2]
        refine VW.weak (Holds.weak (vals := [(0, .ms β off ND 1), (4, .i (m + 2 : Nat)), (12, .val (.int .u32 (v / 100 : Nat))), (16, .val (.int .u32 (v % 100 * 2 : Nat)))]) ?_) ?_
        · refine Q1d ?_
          simp only [vO, vQ, ↓vP, vE, vS, vB, vL, vF, vM, vN, Q0i, zb, zd, ze, ne_eq, not_false_eq_true, zf, zg, zk, zl, vT]
        have j1 : v % 100 < 100 := by omega
        generalize hk1 : v % 100 = k1 at *
        generalize hw : v / 100 = w at *
        have hm64 : m + 2 < 2 ^ 63 := by omega
        have hw1 : IntKind.i64.wrap (((m + 2 : Nat) : Int) - 1) = ((m + 1 : Nat) : Int) := by rw [w64 (by omega) (by omega)]; omega
        have hw2 : IntKind.i64.wrap (((m + 2 : Nat) : Int) - 2) = ((m : Nat) : Int) := by rw [w64 (by omega) (by omega)]; omega
        have ho1 : off + (m + 1) = P.length + 1 := by omega
        have ho2 : off + m = P.length := by omega
        have hu1 : IntKind.u32.wrap ((k1 * 2 + 1 : Nat) : Int) = ((k1 * 2 + 1 : Nat) : Int) := wrN (by omega)
        refine VW.cut (α := Unit) (fun _ => True) (fun _ => [(0, .ms β off ND 1), (4, .i (m + 2 : Nat)), (12, .val (.int .u32 (w : Nat)))]) (fun _ => σ.set β (.cells 178 (P ++ .u8 (48 + k1 / 10 : Nat) :: .u8 (48 + k1 % 10 : Nat) :: T))) ?_ (fun _ _ => ?_)
        · clear hu g3 g2 h64 hE hc hND hleaf hv
          (have zz := Bx.mk (j5 ui3 Q3i Q7a Q8w (j9 ui5 ui9 @ca1 @cm2 hu1 hw1 hw2 @Int.toNat_natCast (j9 @Nat.mul_one ho1 ho2 @Q2b @Q2r @Q2c @Q2s @List.length_append.{0} @X1y))); (repeat' (first | exact zc | (with_reducible first | apply And.intro | apply Q0a | apply Q0b | refine Q0c (by decide +kernel) ?_ | intro _) | ((with_reducible refine .dm (fun _ => False) [(0, false), (1, false), (2, false), (3, false), (4, false), (5, false), (6, false), (7, false), (8, false), (9, false), (10, false), (11, false), (12, true), (13, false), (14, true)] (by decide) (by decide +kernel) ?_); (refine zs zz.out ?_)) | refine zaW zz.out ?_ | ((first | with_reducible refine Q0l (fun _ h => h.elim) ?_ | (refine Q0d (by exact zK) ?_) | (refine Q0e (by exact zK) ?_)); (try refine zs zz.out ?_)) | refine zo ?_ | omega | refine zt zz.out ?_ | fail)); try (all_goals clear zz))
          · exact ⟨_, _, rfl⟩
          · exact ⟨_, _, rfl⟩
          refine ⟨(), trivial, ?_, Q1d ?_⟩
          · simp only [vO, vQ, ↓vP, vE, vS, vB, vL, vF, vM, vN, Q0i, zb, zd, ze, ne_eq, not_false_eq_true, zf, zg, zk, zl, vT]
            simp only [smE j1, smO j1, zC, Q2r, Q2s, Q2b, Q2c]
            exact .refl _
          · simp only [vO, vQ, ↓vP, vE, vS, vB, vL, vF, vM, vN, Q0i, zb, zd, ze, ne_eq, not_false_eq_true, zf, zg, zk, zl, vT]
        (have zz := Bx.mk (j7 ui3 Q3i Q7a Q8w ui5 ui9 hw2); (repeat' (first | exact zc | (with_reducible first | apply And.intro | apply Q0a | apply Q0b | refine Q0c (by decide +kernel) ?_ | intro _) | refine zaW zz.out ?_ | refine zo ?_ | omega | refine zt zz.out ?_ | fail)); try (all_goals clear zz))
        refine ⟨(m, w, padD 2 k1 ++ dn), ⟨by simp only; clear hu h64 g3; omega, by simp only; clear hu h64 g3; omega, ?_, by simp only; rw [← hw]; exact pad_lt 2 m v g3⟩, (hleaf _).2 (.refl _), Q1d ?_⟩
        · rw [← hw, ← hk1]
          exact X3w 2 m v dn _ g2
        · simp only [vO, vQ, ↓vP, vE, vS, vB, vL, vF, vM, vN, Q0i, zb, zd, ze, ne_eq, not_false_eq_true, zf, zg, zk, zl, vT]
      · (first | (with_reducible first | refine .rs ?_ | refine .ds (by kernel_rfl) ?_ | refine .dg (by kernel_rfl) ?_ | refine .rg ?_ | refine .ite ?_ | refine .ret ?_ | refine .skip ?_ | refine .exit ?_ | refine .scope ?_ | refine .seq (.label ?_) | refine .block ?_ | refine .seq ?_)); (try simp only [vO, vQ, ↓vP, vE, vS, vB, vL, vF, vM, vN, Q0i, zb, zd, ze, ne_eq, not_false_eq_true, zf, zg, zk, zl, Z3, Q8b, Z150, Q4i, Z179, Q4j, Z187, Q4k, Z5, Q9g, Z9, Q9h, vT])
        refine Q4y (fun h => absurd (show ¬ (2:Int) ≤ (nd : Int) by omega) (not_not_intro h)) (fun _ => ?_)
        (have zz := Bx.mk (j6 ui3 Q3i Q7a Q8w ui5 ui9); (repeat' (first | exact zc | (with_reducible first | apply And.intro | apply Q0a | apply Q0b | refine Q0c (by decide +kernel) ?_ | intro _) | refine zaW zz.out ?_ | refine zo ?_ | omega | refine zt zz.out ?_ | fail)); try (all_goals clear zz))
        refine ⟨(nd, v, dn), ⟨by simp only; omega, g1, g2, g3⟩, .refl _, Q1d ?_⟩
        simp only [vO, vQ, ↓vP, vE, vS, vB, vL, vF, vM, vN, Q0i, zb, zd, ze, ne_eq, not_false_eq_true, zf, zg, zk, zl, vT]
    clear g0 g1 g2 g3
    rintro ⟨nd, v, dn⟩ ⟨g0, g1, g2, g3⟩
    simp only at g0 g1 g2 g3
    simp only []
    by_cases h0 : nd = 0
    · subst h0
      rw [padD, zG] at g2
      (have zz := Bx.mk (j6 ui3 Q3i Q7a Q8w ui5 ui9); (repeat' (first | exact zc | (with_reducible first | apply And.intro | apply Q0a | apply Q0b | refine Q0c (by decide +kernel) ?_ | intro _) | refine zaW zz.out ?_ | refine zo ?_ | omega | refine zt zz.out ?_ | fail)); try (all_goals clear zz))
      exact ⟨_, .refl _, by rw [g2]; simp⟩
    · obtain rfl : nd = 1 := by omega
      have hv : v < 10 := by omega
      obtain ⟨P, E, hPe, hP, hE, hc⟩ := X1e A mid 0 1 off hA (by omega)
      obtain ⟨a, rfl⟩ : ∃ a, E = [a] := by
        match E, hE with
        | [a], _ => exact ⟨a, rfl⟩
      have hPA : P = A := by rw [← hPe]; simp
      subst hPA
      rw [show 1 = 0 + 1 from rfl, hc]
      have hdig : IntKind.u8.wrap (IntKind.u32.wrap (48 + (v : Int))) = ((48 + v : Nat) : Int) := by
        rw [show (48 : Int) + (v : Int) = ((48 + v : Nat) : Int) from rfl, wrN (by omega)]
        show (((48 + v) % 256 : Nat) : Int) = _
        rw [Nat.mod_eq_of_lt (by omega)]
      (have zz := Bx.mk (j7 ui3 Q3i Q7a Q8w ui5 ui9 hdig); (repeat' (first | exact zc | (with_reducible first | apply And.intro | apply Q0a | apply Q0b | refine Q0c (by decide +kernel) ?_ | intro _) | refine zaW zz.out ?_ | ((first | (refine Q0d (by exact zK) ?_) | (refine Q0e (by exact zK) ?_)); (try refine zs zz.out ?_)) | refine zo ?_ | omega | refine zt zz.out ?_ | fail)); try (all_goals clear zz))
      · exact ⟨_, _, rfl⟩
      · simp; omega
      · refine ⟨_, .refl _, ?_⟩
        rw [← hA, zC P, Q2b, Q2c, ← g2, X3v]
        have hd1 : u8s (padD 1 v) = [.u8 (48 + v : Nat)] := by
          rw [padD, padD, zG, Nat.mod_eq_of_lt hv]
          simp only [u8s, List.map_cons, List.map_nil, UInt8.toNat_ofNat']
          rw [Nat.mod_eq_of_lt (by omega)]
        rw [hd1]
        simp
end Go.Proofs.YtjdapkelojdefaaGreatDoor
