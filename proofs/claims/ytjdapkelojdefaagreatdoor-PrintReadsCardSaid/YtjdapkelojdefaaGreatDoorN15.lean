/- Part 15 of the proof: W34, W35, W36, W37, W38, G13, G14, G15. -/
import Derived.Test.YtjdapkelojdefaaGreatDoorN7
import Derived.Test.YtjdapkelojdefaaGreatDoorN14
import Derived.Test.YtjdapkelojdefaaGreatDoorN13

set_option linter.all false
set_option maxRecDepth 100000
set_option maxHeartbeats 4000000
open Go.V.Sg renaming set_same → zm, set_ne → zn, set_ne' → zp, del_ne → zq, del_ne' → zr
open Option renaming getD_some → zv
open List renaming length_append → zw, length_cons → zx, length_nil → zy, length_map → zA
open Go.Cert renaming ne_of2 → zM, ne_ob → zP
open Go.V.VCalls renaming mono → zR
namespace Go.Proofs.YtjdapkelojdefaaGreatDoor
open Go Go.V Go.Lex Go.Parse Go.Print
theorem X7u {β : Type} : ∀ l : List β, maxD (fun _ => 0) l = 0
  | [] => rfl
  | x :: r => by show max 0 (maxD (fun _ => 0) r) = 0; rw [X7u r]; rfl
theorem u_lit (ω : Nat) (x : Stm) (i j : Nat) (hi : i < x.rows.length) (hj : j < x.rows[i].length) (h1 : x.rows.length ≤ 9223372036854775807) (h2 : x.rows[i].length ≤ 9223372036854775807) (hv : okV x.rows[i][j] = true) (hg : inR x.rows[i][j].2.1) :
    Wf ω 122 [.i j, .ro [.ref ω 0], .ro (stmA x), .ro [.i i]] (litT x.rows[i][j]) 0 := by
  intro B τ l d m h h0 hm1 h2' h3 h4
  obtain ⟨q1, q2⟩ := rgV (v := x.rows[i][j]) hv hg
  have hl := (X3m x.rows[i][j]).2
  have hL : ∀ T r, _ := fun T r => Q4p T r B ω τ l x.rows[i][j] h (by omega) q1 q2
  have a1 : (x.rows.map rowA).length = x.rows.length := zA ..
  have a2 := Q3z (f := rowA) (n := 1) x.rows (fun _ => rfl)
  have a3 : (x.rows.map rowA).getD i [] = [.sl .any (X0w x.rows[i])] := Q3y (f := rowA) hi
  have b1 : (X0w x.rows[i]).length = x.rows[i].length := zA ..
  have b2 : Q1t (X0w x.rows[i]) 3 = True := Q3z (f := valA) (n := 3) x.rows[i] (fun _ => rfl)
  have b3 : (X0w x.rows[i]).getD j [] = [.i x.rows[i][j].1, .i x.rows[i][j].2.1, .s (bs x.rows[i][j].2.2)] := Q3y (f := valA) hj
  unfold stmA
  generalize litT x.rows[i][j] = TT at *
  generalize x.rows[i][j].1 = v1 at *
  generalize x.rows[i][j].2.1 = v2 at *
  generalize x.rows[i][j].2.2 = v3 at *
  clear hv hg
  (refine vfun (fun _ => .no) Q0h Tryz.func122 (by kernel_rfl) ?_; simp only [Q0f, Tryz.f122, zv])
  (have zz := Bx.mk (j3 ui0 ui3 (j9 ui4 ui9 ui22 ui23 ui24 ui25 ui26 ui37 (j9 ui38 ui39 ui40 ui41 ui42 ui55 ui56 ui57 (j9 ui58 ui59 ui67 ui68 ui70 ui71 Q1k Q0v (j9 Q1p Q2c Q2d a1 a2 a3 b1 b2 b3))))); (repeat' (first | with_reducible rfl | exact trivial | (with_reducible first | apply And.intro | apply Q0a | apply Q0b | refine Q0c (by decide +kernel) ?_ | intro _) | ((with_reducible refine .dms (fun x => False) [(0, false), (1, false), (2, false), (3, false), (4, false), (5, false), (6, false), (7, false), (8, true), (9, true), (10, false), (11, true)] (by decide) (by decide +kernel) ?_); (refine zsR zz.out ?_)) | ((with_reducible refine .dm (fun x => False) [(0, false), (1, false), (2, false), (3, false), (4, false), (5, false), (6, false), (7, false), (8, true), (9, true), (10, false), (11, true)] (by decide) (by decide +kernel) ?_); (refine zsR zz.out ?_)) | refine zaR zz.out ?_ | refine zkN zz.out ?_ | ((first | (refine Q0j (by intro β h; first | (rcases h with h | h <;> subst h <;> (simp (disch := first | assumption | (apply zM; assumption; assumption) | (apply zP; assumption; assumption; (intro e; cases e; done)) | omega) only [zm, zn, zp, zq, zr])) | (subst h; (simp (disch := first | assumption | (apply zM; assumption; assumption) | (apply zP; assumption; assumption; (intro e; cases e; done)) | omega) only [zm, zn, zp, zq, zr]))) ?_) | ((with_reducible refine zR (hL _ _) ?_); rintro _ S ⟨rfl, τ1, ⟨f1, n1⟩, rfl⟩; have n1s := n1.symm) | ((with_reducible refine zR (Q4p _ _ _ _ _ _ _ (by exact Go.V.zO) (by exact Go.V.zN) (by assumption) (by assumption)) ?_); rintro _ S ⟨rfl, τ1, ⟨f1, n1⟩, rfl⟩; have n1s := n1.symm) | (refine Q0d (by exact Go.V.zK) ?_) | (refine Q0e (by exact Go.V.zK) ?_)); (try refine zsR zz.out ?_)) | refine zmR zz.out ?_ | refine zo ?_ | omega | refine ztR zz.out ?_ | fail)); try (all_goals clear zz))
  all_goals exact ⟨_, .refl _, τ1, ⟨f1, n1⟩, Q3j rfl rfl (by omega)⟩
theorem u_row (ω : Nat) (x : Stm) (i : Nat) (hi : i < x.rows.length) (h1 : x.rows.length ≤ 9223372036854775807) (hb : rowB x.rows[i] = true) (hg : ∀ v ∈ x.rows[i], inR v.2.1) :
    Wf ω 121 [.i i, .ro [.ref ω 0], .ro (stmA x)] (rowT x.rows[i]) 0 := by
  obtain ⟨g1, g2⟩ : x.rows[i].all okV = true ∧ (1 ≤ x.rows[i].length ∧ x.rows[i].length ≤ 8) := by
    unfold rowB at hb; simpa only [Bool.and_eq_true, decide_eq_true_eq] using hb
  have g1 := List.all_eq_true.1 g1
  have hLs := w_list ω 122 [.ro [.ref ω 0], .ro (stmA x), .ro [.i i]] x.rows[i] litT (fun _ => 0) x.rows[i].length rfl (by omega) (fun j hj => u_lit ω x i j hi hj h1 (by omega) (g1 _ (List.getElem_mem hj)) (hg _ (List.getElem_mem hj)))
  rw [X7u] at hLs
  intro B τ l d m h h0 hm1 h2' h3 h4
  have hLs := hLs B
  have a1 : (x.rows.map rowA).length = x.rows.length := zA ..
  have a2 := Q3z (f := rowA) (n := 1) x.rows (fun _ => rfl)
  have a3 : (x.rows.map rowA).getD i [] = [.sl .any (X0w x.rows[i])] := Q3y (f := rowA) hi
  have b1 : (X0w x.rows[i]).length = x.rows[i].length := zA ..
  have b4 : rowT x.rows[i] = wd [40] :: (sepT litT x.rows[i] ++ [wd [41]]) := rfl
  rw [b4] at h4 ⊢
  simp only [zw, zx, zy] at h4
  clear g1 hg hb b4
  unfold stmA at hLs ⊢
  generalize sepT litT x.rows[i] = TT at *
  (refine vfun (fun _ => .ro) Q0h Tryz.func121 (by kernel_rfl) ?_; simp only [Q0f, Tryz.f121, zv])
  (have zz := Bx.mk (j4 ui0 ui3 ui4 (j9 ui9 ui22 ui23 ui24 ui25 ui26 ui37 ui38 (j9 ui39 ui40 ui41 ui42 ui55 ui56 ui57 ui58 (j9 ui59 ui67 ui68 ui70 ui71 ui75 Q1k Q0v (j9 X9v Q1p Q2c Q2d a1 a2 a3 b1 WLg))))); (repeat' (first | with_reducible rfl | exact trivial | (with_reducible first | apply And.intro | apply Q0a | apply Q0b | refine Q0c (by decide +kernel) ?_ | intro _) | ((with_reducible refine .dms (fun x => False) [(0, false), (1, false), (2, false), (3, false), (4, false), (5, false), (6, false), (7, false), (8, true)] (by decide) (by decide +kernel) ?_); (refine zsR zz.out ?_)) | ((with_reducible refine .dm (fun x => False) [(0, false), (1, false), (2, false), (3, false), (4, false), (5, false), (6, false), (7, false), (8, true)] (by decide) (by decide +kernel) ?_); (refine zsR zz.out ?_)) | refine zaR zz.out ?_ | refine zkN zz.out ?_ | ((first | (refine Q0j (by intro β h; first | (rcases h with h | h <;> subst h <;> (simp (disch := first | assumption | (apply zM; assumption; assumption) | (apply zP; assumption; assumption; (intro e; cases e; done)) | omega) only [zm, zn, zp, zq, zr])) | (subst h; (simp (disch := first | assumption | (apply zM; assumption; assumption) | (apply zP; assumption; assumption; (intro e; cases e; done)) | omega) only [zm, zn, zp, zq, zr]))) ?_) | ((with_reducible refine zR (hLs _ _ _ _ (by exact Go.V.zO) (by omega) (by omega) (by omega) (by omega) (by exact Go.V.zN)) ?_); rintro _ S ⟨rfl, τ1, ⟨f1, n1⟩, rfl⟩; have n1s := n1.symm) | ((with_reducible refine zR (Q0m _ _ _ _ _ _ _ _ (by repeat (first | exact Q0p | refine Q0k ?_ (by simp))) (by exact Go.V.zO) (by exact Go.V.zN)) ?_); rintro _ S ⟨rfl, τ1, ⟨f1, n1⟩, rfl⟩; have n1s := n1.symm) | (refine Q0d (by exact Go.V.zK) ?_) | (refine Q0e (by exact Go.V.zK) ?_)); (try refine zsR zz.out ?_)) | refine zmR zz.out ?_ | refine zo ?_ | omega | refine ztR zz.out ?_ | fail)); try (all_goals clear zz))
  all_goals exact ⟨_, .refl _, τ1, ⟨f1, n1⟩, Q3j (by simp) rfl (by omega)⟩
theorem w_insert (ω : Nat) (x : Stm) (hb : X5v x.rows = true) (hg : ∀ r ∈ x.rows, ∀ v ∈ r, inR v.2.1) :
    Wf ω 64 [.ref ω 0, .agg (stmA x)] (X4t x) 0 := by
  obtain ⟨g1, g2⟩ : x.rows.all rowB = true ∧ (1 ≤ x.rows.length ∧ x.rows.length ≤ 16) := by
    unfold X5v at hb; simpa only [Bool.and_eq_true, decide_eq_true_eq] using hb
  have g1 := List.all_eq_true.1 g1
  have hLs := w_list ω 121 [.ro [.ref ω 0], .ro (stmA x)] x.rows rowT (fun _ => 0) x.rows.length rfl (by omega) (fun i hi => u_row ω x i hi (by omega) (g1 _ (List.getElem_mem hi)) (hg _ (List.getElem_mem hi)))
  rw [X7u] at hLs
  intro B τ l d m h h0 hm1 h2' h3 h4
  have hLs := hLs B
  have a1 : (x.rows.map rowA).length = x.rows.length := zA ..
  have b4 : X4t x = wds [[73, 78, 83, 69, 82, 84], [73, 78, 84, 79]] ++ (nT x.t :: wd [86, 65, 76, 85, 69, 83] :: sepT rowT x.rows) := rfl
  rw [b4] at h4 ⊢
  simp only [zw, zx, zy, Q3u] at h4
  clear g1 hg hb b4
  unfold stmA at hLs ⊢
  generalize sepT rowT x.rows = TT at *
  (refine vfun (fun _ => .ro) Q0h Tryz.func64 (by kernel_rfl) ?_; simp only [Q0f, Tryz.f64, zv])
  (have zz := Bx.mk (j9 ui0 ui3 ui4 ui9 ui22 ui23 ui24 ui25 (j9 ui26 ui37 ui38 ui39 ui40 ui41 ui42 ui55 (j9 ui56 ui57 ui58 ui59 ui67 ui68 ui70 ui71 (j9 ui75 Q1k Q0v X9v Q1p Q2c Q2d a1 WLg)))); (repeat' (first | with_reducible rfl | exact trivial | (with_reducible first | apply And.intro | apply Q0a | apply Q0b | refine Q0c (by decide +kernel) ?_ | intro _) | ((with_reducible refine .dms (fun x => False) [(0, false), (1, false), (2, false), (3, true), (4, false), (5, true)] (by decide) (by decide +kernel) ?_); (refine zsR zz.out ?_)) | ((with_reducible refine .dm (fun x => False) [(0, false), (1, false), (2, false), (3, true), (4, false), (5, true)] (by decide) (by decide +kernel) ?_); (refine zsR zz.out ?_)) | refine zaR zz.out ?_ | refine zkN zz.out ?_ | ((first | (refine Q0j (by intro β h; first | (rcases h with h | h <;> subst h <;> (simp (disch := first | assumption | (apply zM; assumption; assumption) | (apply zP; assumption; assumption; (intro e; cases e; done)) | omega) only [zm, zn, zp, zq, zr])) | (subst h; (simp (disch := first | assumption | (apply zM; assumption; assumption) | (apply zP; assumption; assumption; (intro e; cases e; done)) | omega) only [zm, zn, zp, zq, zr]))) ?_) | ((with_reducible refine zR (hLs _ _ _ _ (by exact Go.V.zO) (by omega) (by omega) (by omega) (by omega) (by exact Go.V.zN)) ?_); rintro _ S ⟨rfl, τ1, ⟨f1, n1⟩, rfl⟩; have n1s := n1.symm) | ((with_reducible refine zR (Q0m _ _ _ _ _ _ _ _ (by repeat (first | exact Q0p | refine Q0k ?_ (by simp))) (by exact Go.V.zO) (by exact Go.V.zN)) ?_); rintro _ S ⟨rfl, τ1, ⟨f1, n1⟩, rfl⟩; have n1s := n1.symm) | ((with_reducible refine zR (Q3v _ _ _ _ _ _ _ (by exact Go.V.zO) (by exact Go.V.zN)) ?_); rintro _ S ⟨rfl, τ1, ⟨f1, n1⟩, rfl⟩; have n1s := n1.symm) | (refine Q0d (by exact Go.V.zK) ?_) | (refine Q0e (by exact Go.V.zK) ?_)); (try refine zsR zz.out ?_)) | refine zmR zz.out ?_ | refine zo ?_ | omega | refine ztR zz.out ?_ | fail)); try (all_goals clear zz))
  all_goals exact ⟨_, .refl _, τ1, ⟨f1, n1⟩, Q3j (by simp [wds]) rfl (by omega)⟩
theorem u_set (ω : Nat) (x : Stm) (i : Nat) (hi : i < x.sets.length) (h1 : x.sets.length ≤ 9223372036854775807) (hr : rt x.sets[i].2 = true) (hL : Lim x.sets[i].2) :
    Wf ω 123 [.i i, .ro [.ref ω 0], .ro (stmA x)] (setT x.sets[i]) (toTr x.sets[i].2).dp := by
  have hX := wf_expr hr hL ω
  intro B τ l d m h h0 hm1 h2' h3 h4
  have hX := hX B
  have a1 : (x.sets.map setA).length = x.sets.length := zA ..
  have a2 := Q3z (f := setA) (n := 9) x.sets (fun x => by simp [setA, Q0u])
  have a3 : (x.sets.map setA).getD i [] = .s (bs x.sets[i].1) :: exA x.sets[i].2 := Q3y (f := setA) hi
  have b4 : setT x.sets[i] = nT x.sets[i].1 :: wd [61] :: (toTr x.sets[i].2).tk := rfl
  rw [b4] at h4 ⊢
  simp only [zw, zx, zy] at h4
  have hFl := Q0u x.sets[i].2
  have hFt := Q0t x.sets[i].2
  have hFd := Q1a x.sets[i].2
  have hFo := Q1n x.sets[i].2
  clear b4 hr hL
  unfold stmA
  generalize (toTr x.sets[i].2).tk = TT at *
  generalize (toTr x.sets[i].2).dp = D at *
  generalize exA x.sets[i].2 = E at *
  generalize x.sets[i].1 = N at *
  (refine vfun (fun _ => .no) Q0h Tryz.func123 (by kernel_rfl) ?_; simp only [Q0f, Tryz.f123, zv])
  (have zz := Bx.mk (j6 ui0 ui3 ui4 ui9 ui22 (j9 ui23 ui24 ui25 ui26 ui37 ui38 ui39 ui40 (j9 ui41 ui42 ui55 ui56 ui57 ui58 ui59 ui67 (j9 ui68 ui70 ui71 ui75 Q1k Q0v Q1p Q2c (j9 Q2d a1 a2 a3 hFl hFt hFd hFo WLg))))); (repeat' (first | with_reducible rfl | exact trivial | (with_reducible first | apply And.intro | apply Q0a | apply Q0b | refine Q0c (by decide +kernel) ?_ | intro _) | ((with_reducible refine .dms (fun x => False) [(0, false), (1, false), (2, false), (3, false), (4, false), (5, true), (6, true), (7, true), (8, false), (9, true)] (by decide) (by decide +kernel) ?_); (refine zsR zz.out ?_)) | ((with_reducible refine .dm (fun x => False) [(0, false), (1, false), (2, false), (3, false), (4, false), (5, true), (6, true), (7, true), (8, false), (9, true)] (by decide) (by decide +kernel) ?_); (refine zsR zz.out ?_)) | ((with_reducible refine .dms (fun x => False) [(0, false), (1, false), (2, false), (3, true), (4, true), (5, true), (6, false), (7, true)] (by decide) (by decide +kernel) ?_); (refine zsR zz.out ?_)) | ((with_reducible refine .dm (fun x => False) [(0, false), (1, false), (2, false), (3, true), (4, true), (5, true), (6, false), (7, true)] (by decide) (by decide +kernel) ?_); (refine zsR zz.out ?_)) | refine zaR zz.out ?_ | refine zkN zz.out ?_ | ((first | (refine Q0j (by intro β h; first | (rcases h with h | h <;> subst h <;> (simp (disch := first | assumption | (apply zM; assumption; assumption) | (apply zP; assumption; assumption; (intro e; cases e; done)) | omega) only [zm, zn, zp, zq, zr])) | (subst h; (simp (disch := first | assumption | (apply zM; assumption; assumption) | (apply zP; assumption; assumption; (intro e; cases e; done)) | omega) only [zm, zn, zp, zq, zr]))) ?_) | ((with_reducible refine zR (hX _ _ _ _ (by exact Go.V.zO) (by omega) (by omega) (by omega) (by omega) (by exact Go.V.zN)) ?_); rintro _ S ⟨rfl, τ1, ⟨f1, n1⟩, rfl⟩; have n1s := n1.symm) | ((with_reducible refine zR (Q0m _ _ _ _ _ _ _ _ (by repeat (first | exact Q0p | refine Q0k ?_ (by simp))) (by exact Go.V.zO) (by exact Go.V.zN)) ?_); rintro _ S ⟨rfl, τ1, ⟨f1, n1⟩, rfl⟩; have n1s := n1.symm) | ((with_reducible refine zR (Q3v _ _ _ _ _ _ _ (by exact Go.V.zO) (by exact Go.V.zN)) ?_); rintro _ S ⟨rfl, τ1, ⟨f1, n1⟩, rfl⟩; have n1s := n1.symm) | (refine Q0d (by exact Go.V.zK) ?_) | (refine Q0e (by exact Go.V.zK) ?_)); (try refine zsR zz.out ?_)) | refine zmR zz.out ?_ | refine zo ?_ | omega | refine ztR zz.out ?_ | fail)); try (all_goals clear zz))
  all_goals exact ⟨_, .refl _, τ1, ⟨f1, n1⟩, Q3j (by simp) rfl (by omega)⟩
theorem w_update (ω : Nat) (x : Stm) (hb : X5w x.sets = true) (hg : ∀ s ∈ x.sets, Lim s.2) (hw : oneB x.wh = true) (hwl : ∀ e ∈ x.wh, Lim e) :
    Wf ω 65 [.ref ω 0, .agg (stmA x)] (X4u x) (max (maxD (fun s => (toTr s.2).dp) x.sets) (expD x.wh)) := by
  obtain ⟨g1, g2⟩ : x.sets.all X4w = true ∧ (1 ≤ x.sets.length ∧ x.sets.length ≤ 8) := by
    unfold X5w at hb; simpa only [Bool.and_eq_true, decide_eq_true_eq] using hb
  have g1 := List.all_eq_true.1 g1
  have g3 : ∀ s ∈ x.sets, rt s.2 = true := fun s hs => by
    have := g1 s hs
    unfold X4w at this
    exact (Bool.and_eq_true _ _ ▸ this).2
  have hLs := w_list ω 123 [.ro [.ref ω 0], .ro (stmA x)] x.sets setT (fun s => (toTr s.2).dp) x.sets.length rfl (by omega) (fun i hi => u_set ω x i hi (by omega) (g3 _ (List.getElem_mem hi)) (hg _ (List.getElem_mem hi)))
  have hM := X4z ω x.wh hw hwl .any .full [[.s (bs [87, 72, 69, 82, 69])]] (Q0k Q0p (by simp))
  rw [show expW [[.s (bs [87, 72, 69, 82, 69])]] x.wh = expT [[87, 72, 69, 82, 69]] x.wh from expW1 _ _] at hM
  intro B τ l d m h h0 hm1 h2' h3 h4
  have hLs := hLs B
  have hM := hM B
  have a1 : (x.sets.map setA).length = x.sets.length := zA ..
  have b4 : X4u x = wd [85, 80, 68, 65, 84, 69] :: nT x.t :: wd [83, 69, 84] :: (sepT setT x.sets ++ expT [[87, 72, 69, 82, 69]] x.wh) := rfl
  rw [b4] at h4 ⊢
  simp only [zw, zx, zy, Q3u] at h4
  clear g1 g3 hg hb b4 hw hwl
  unfold stmA at hLs ⊢
  generalize sepT setT x.sets = TT at *
  generalize expT [[87, 72, 69, 82, 69]] x.wh = TW at *
  generalize maxD (fun s : Se => (toTr s.2).dp) x.sets = D1 at *
  generalize expD x.wh = D2 at *
  (refine vfun (fun _ => .ro) Q0h Tryz.func65 (by kernel_rfl) ?_; simp only [Q0f, Tryz.f65, zv])
  (have zz := Bx.mk (j9 ui0 ui3 ui4 ui9 ui22 ui23 ui24 ui25 (j9 ui26 ui37 ui38 ui39 ui40 ui41 ui42 ui55 (j9 ui56 ui57 ui58 ui59 ui67 ui68 ui70 ui71 (j9 ui75 Q1k Q0v X9v Q1p Q2c Q2d a1 WLg)))); (repeat' (first | with_reducible rfl | exact trivial | (with_reducible first | apply And.intro | apply Q0a | apply Q0b | refine Q0c (by decide +kernel) ?_ | intro _) | ((with_reducible refine .dms (fun x => False) [(0, false), (1, false), (2, false), (3, true), (4, false), (5, true)] (by decide) (by decide +kernel) ?_); (refine zsR zz.out ?_)) | ((with_reducible refine .dm (fun x => False) [(0, false), (1, false), (2, false), (3, true), (4, false), (5, true)] (by decide) (by decide +kernel) ?_); (refine zsR zz.out ?_)) | refine zaR zz.out ?_ | refine zkN zz.out ?_ | ((first | (refine Q0j (by intro β h; first | (rcases h with h | h <;> subst h <;> (simp (disch := first | assumption | (apply zM; assumption; assumption) | (apply zP; assumption; assumption; (intro e; cases e; done)) | omega) only [zm, zn, zp, zq, zr])) | (subst h; (simp (disch := first | assumption | (apply zM; assumption; assumption) | (apply zP; assumption; assumption; (intro e; cases e; done)) | omega) only [zm, zn, zp, zq, zr]))) ?_) | ((with_reducible refine zR (hLs _ _ _ _ (by exact Go.V.zO) (by omega) (by omega) (by omega) (by omega) (by exact Go.V.zN)) ?_); rintro _ S ⟨rfl, τ1, ⟨f1, n1⟩, rfl⟩; have n1s := n1.symm) | ((with_reducible refine zR (hM _ _ _ _ (by exact Go.V.zO) (by omega) (by omega) (by omega) (by omega) (by exact Go.V.zN)) ?_); rintro _ S ⟨rfl, τ1, ⟨f1, n1⟩, rfl⟩; have n1s := n1.symm) | ((with_reducible refine zR (Q0m _ _ _ _ _ _ _ _ (by repeat (first | exact Q0p | refine Q0k ?_ (by simp))) (by exact Go.V.zO) (by exact Go.V.zN)) ?_); rintro _ S ⟨rfl, τ1, ⟨f1, n1⟩, rfl⟩; have n1s := n1.symm) | ((with_reducible refine zR (Q3v _ _ _ _ _ _ _ (by exact Go.V.zO) (by exact Go.V.zN)) ?_); rintro _ S ⟨rfl, τ1, ⟨f1, n1⟩, rfl⟩; have n1s := n1.symm) | (refine Q0d (by exact Go.V.zK) ?_) | (refine Q0e (by exact Go.V.zK) ?_)); (try refine zsR zz.out ?_)) | refine zmR zz.out ?_ | refine zo ?_ | omega | refine ztR zz.out ?_ | fail)); try (all_goals clear zz))
  all_goals exact ⟨_, .refl _, τ1, ⟨f1, n1⟩, Q3j (by simp) rfl (by omega)⟩
theorem u_item (ω : Nat) (x : Stm) (i : Nat) (hi : i < x.items.length) (h1 : x.items.length ≤ 9223372036854775807) (hr : Q4o x.items[i] = true) (hL : ∀ e ∈ x.items[i].2, Lim e) :
    Wf ω 124 [.i i, .ro [.ref ω 0], .ro (stmA x)] (Q8j x.items[i]) (expD x.items[i].2) := by
  have hX := w_item ω x.items[i] hr hL
  intro B τ l d m h h0 hm1 h2' h3 h4
  have hX := hX B
  have a1 : (x.items.map Q3x).length = x.items.length := zA ..
  have a2 := Q3z (f := Q3x) (n := 2) x.items (fun _ => rfl)
  have a3 : (x.items.map Q3x).getD i [] = [.i x.items[i].1, .sl .any (exsA x.items[i].2)] := Q3y (f := Q3x) hi
  have a4 : Q3x x.items[i] = [.i x.items[i].1, .sl .any (exsA x.items[i].2)] := rfl
  rw [a4] at hX
  clear a4 hr hL
  unfold stmA
  generalize Q8j x.items[i] = TT at *
  generalize expD x.items[i].2 = D at *
  generalize exsA x.items[i].2 = E at *
  generalize x.items[i].1 = N at *
  (refine vfun (fun _ => .no) Q0h Tryz.func124 (by kernel_rfl) ?_; simp only [Q0f, Tryz.f124, zv])
  (have zz := Bx.mk (j9 ui0 ui3 ui4 ui9 ui22 ui23 ui24 ui25 (j9 ui26 ui37 ui38 ui39 ui40 ui41 ui42 ui55 (j9 ui56 ui57 ui58 ui59 ui67 ui68 ui70 ui71 (j9 Q1k Q0v Q1p Q2c Q2d a1 a2 a3 WLg)))); (repeat' (first | with_reducible rfl | exact trivial | (with_reducible first | apply And.intro | apply Q0a | apply Q0b | refine Q0c (by decide +kernel) ?_ | intro _) | ((with_reducible refine .dms (fun x => False) [(0, false), (1, false), (2, false), (3, true), (4, true), (5, false), (6, true)] (by decide) (by decide +kernel) ?_); (refine zsR zz.out ?_)) | ((with_reducible refine .dm (fun x => False) [(0, false), (1, false), (2, false), (3, true), (4, true), (5, false), (6, true)] (by decide) (by decide +kernel) ?_); (refine zsR zz.out ?_)) | refine zaR zz.out ?_ | refine zkN zz.out ?_ | ((first | (refine Q0j (by intro β h; first | (rcases h with h | h <;> subst h <;> (simp (disch := first | assumption | (apply zM; assumption; assumption) | (apply zP; assumption; assumption; (intro e; cases e; done)) | omega) only [zm, zn, zp, zq, zr])) | (subst h; (simp (disch := first | assumption | (apply zM; assumption; assumption) | (apply zP; assumption; assumption; (intro e; cases e; done)) | omega) only [zm, zn, zp, zq, zr]))) ?_) | ((with_reducible refine zR (hX _ _ _ _ (by exact Go.V.zO) (by omega) (by omega) (by omega) (by omega) (by exact Go.V.zN)) ?_); rintro _ S ⟨rfl, τ1, ⟨f1, n1⟩, rfl⟩; have n1s := n1.symm) | (refine Q0d (by exact Go.V.zK) ?_) | (refine Q0e (by exact Go.V.zK) ?_)); (try refine zsR zz.out ?_)) | refine zmR zz.out ?_ | refine zo ?_ | omega | refine ztR zz.out ?_ | fail)); try (all_goals clear zz))
  all_goals exact ⟨_, .refl _, τ1, ⟨f1, n1⟩, Q3j (by simp) rfl (by omega)⟩
def mx (a b : Int) : Int := max a b
theorem wf_at {ω : Nat} {f : FuncId} {va : List AV} {tk : List Tk} {D : Nat} (h : Wf ω f va tk D) (B : Sg) {d m : Int} {M : Nat} (h0 : 0 ≤ d) (h1 : d ≤ m) (h2 : m ≤ 2 ^ 41) (h3 : d + M ≤ 2 ^ 40) (hD : D ≤ M) (τ : Nat) (l : List Tk) (X : Nat) (hok : Print.okS B ω τ) (hX : X ≤ M) (hl : l.length + tk.length ≤ 2 ^ 36) :
    VCalls Tryz.prog f va (WS B ω τ l d (mx m (d + X))) (fun x σ' => x = .tup [] ∧ ∃ τ', Print.okS B ω τ' ∧ σ' = WS B ω τ' (l ++ tk) d (mx m (d + (max X D : Nat)))) := by
  refine (h B τ l d (mx m (d + X)) hok h0 (by unfold mx; omega) (by unfold mx; omega) (by omega) hl).mono fun x σ' hx => ?_
  obtain ⟨rfl, τ', ok, rfl⟩ := hx
  exact ⟨rfl, τ', ok, Q3j rfl rfl (by unfold mx; omega)⟩
theorem Q9n {l : List Ex} (h : colB l = true) : oneB l = true := by
  unfold colB at h
  exact (Bool.and_eq_true _ _ ▸ h).1
theorem w_choose (ω : Nat) (x : Stm) (hb : X0s x.items = true) (hg : ∀ y ∈ x.items, ∀ e ∈ y.2, Lim e) (ho : oneB x.on = true) (hol : ∀ e ∈ x.on, Lim e) (hw : oneB x.wh = true) (hwl : ∀ e ∈ x.wh, Lim e)
    (hgr : oneB x.gr = true) (hgl : ∀ e ∈ x.gr, Lim e) (hor : oneB x.or = true) (hrl : ∀ e ∈ x.or, Lim e) (hlim : inR x.lim) (hlim2 : -1 ≤ x.lim) :
    Wf ω 67 [.ref ω 0, .agg (stmA x)] (X4v x) (max (maxD (fun y => expD y.2) x.items) (max (if x.join = [] then 0 else expD x.on) (max (expD x.wh) (max (expD x.gr) (expD x.or))))) := by
  obtain ⟨g1, g2⟩ : x.items.all Q4o = true ∧ (1 ≤ x.items.length ∧ x.items.length ≤ 8) := by
    unfold X0s at hb; simpa only [Bool.and_eq_true, decide_eq_true_eq] using hb
  have g1 := List.all_eq_true.1 g1
  have hLs := w_list ω 124 [.ro [.ref ω 0], .ro (stmA x)] x.items Q8j (fun y => expD y.2) x.items.length rfl (by omega) (fun i hi => u_item ω x i hi (by omega) (g1 _ (List.getElem_mem hi)) (hg _ (List.getElem_mem hi)))
  have hM1 := X4z ω x.on ho hol .any .full [[.s (bs [79, 78])]] (Q0k Q0p (by simp))
  have hM2 := X4z ω x.wh hw hwl .any .full [[.s (bs [87, 72, 69, 82, 69])]] (Q0k Q0p (by simp))
  have hM3 := X4z ω x.gr hgr hgl .any .full [[.s (bs [71, 82, 79, 85, 80])], [.s (bs [66, 89])]] (Q0k (Q0k Q0p (by simp)) (by simp))
  have hM4 := X4z ω x.or hor hrl .any .full [[.s (bs [79, 82, 68, 69, 82])], [.s (bs [66, 89])]] (Q0k (Q0k Q0p (by simp)) (by simp))
  rw [show expW [[.s (bs [79, 78])]] x.on = expT [[79, 78]] x.on from expW1 _ _] at hM1
  rw [show expW [[.s (bs [87, 72, 69, 82, 69])]] x.wh = expT [[87, 72, 69, 82, 69]] x.wh from expW1 _ _] at hM2
  rw [show expW [[.s (bs [71, 82, 79, 85, 80])], [.s (bs [66, 89])]] x.gr = expT [[71, 82, 79, 85, 80], [66, 89]] x.gr from expW2 _ _ _] at hM3
  rw [show expW [[.s (bs [79, 82, 68, 69, 82])], [.s (bs [66, 89])]] x.or = expT [[79, 82, 68, 69, 82], [66, 89]] x.or from expW2 _ _ _] at hM4
  have hnl : inR' x.lim := by unfold inR at hlim; unfold inR'; omega
  have hnt : 0 ≤ x.lim → numT x.lim = [iT x.lim] := fun h => by unfold numT; rw [if_neg (by omega)]
  have hll : (numT x.lim).length ≤ 2 := by unfold numT; split <;> simp
  obtain ⟨M, hM⟩ : ∃ M : Nat, M = max (maxD (fun y => expD y.2) x.items) (max (if x.join = [] then 0 else expD x.on) (max (expD x.wh) (max (expD x.gr) (expD x.or)))) := ⟨_, rfl⟩
  rw [← hM]
  intro B τ l d m h h0 hm1 h2' h3 h4
  have z0 : 0 ≤ M := Nat.zero_le _
  have e0 : maxD (fun y => expD y.2) x.items ≤ M := by omega
  have e2 : expD x.wh ≤ M := by omega
  have e3 : expD x.gr ≤ M := by omega
  have e4 : expD x.or ≤ M := by omega
  have hLs := wf_at hLs B h0 hm1 h2' h3 e0
  have hM2 := wf_at hM2 B h0 hm1 h2' h3 e2
  have hM3 := wf_at hM3 B h0 hm1 h2' h3 e3
  have hM4 := wf_at hM4 B h0 hm1 h2' h3 e4
  rw [show WS B ω τ l d m = WS B ω τ l d (mx m (d + (0 : Nat))) from Q3j rfl rfl (by unfold mx; omega)]
  have a1 : (x.items.map Q3x).length = x.items.length := zA ..
  have b4 : X4v x = wd [83, 69, 76, 69, 67, 84] :: (sepT Q8j x.items ++ (wd [70, 82, 79, 77] :: nT x.t :: ((if x.join = [] then [] else wd [74, 79, 73, 78] :: nT x.join :: expT [[79, 78]] x.on) ++ (expT [[87, 72, 69, 82, 69]] x.wh ++ (expT [[71, 82, 79, 85, 80], [66, 89]] x.gr ++ (expT [[79, 82, 68, 69, 82], [66, 89]] x.or ++
    ((if x.desc = true then [wd [68, 69, 83, 67]] else []) ++ (if 0 ≤ x.lim then [wd [76, 73, 77, 73, 84], iT x.lim] else [])))))))) := rfl
  rw [b4] at h4 ⊢
  simp only [zw, zx, zy, Q3u] at h4
  clear g1 hg hb b4 hw hwl ho hol hgr hgl hor hrl
  unfold stmA at hLs ⊢
  generalize sepT Q8j x.items = TT at *
  generalize expT [[79, 78]] x.on = T1 at *
  generalize expT [[87, 72, 69, 82, 69]] x.wh = T2 at *
  generalize expT [[71, 82, 79, 85, 80], [66, 89]] x.gr = T3 at *
  generalize expT [[79, 82, 68, 69, 82], [66, 89]] x.or = T4 at *
  generalize maxD (fun y : It => expD y.2) x.items = D at *
  generalize expD x.on = D1 at *
  generalize expD x.wh = D2 at *
  generalize expD x.gr = D3 at *
  generalize expD x.or = D4 at *
  generalize x.items.length = N at *
  generalize x.items.map Q3x = L0 at *
  generalize exsA x.on = L1 at *
  generalize exsA x.wh = L2 at *
  generalize exsA x.gr = L3 at *
  generalize exsA x.or = L4 at *
  generalize x.join = join at *
  generalize x.desc = desc at *
  generalize x.lim = lim at *
  by_cases hj : join = []
  · rw [if_pos hj] at hM h4 ⊢
    subst hj
    simp only [zy] at h4
    have hMb : Bx (max (max (max (max 0 D) D2) D3) D4 = M) := ⟨by omega⟩
    clear hM1 hM
    (refine vfun (fun _ => .ro) Q0h Tryz.func67 (by kernel_rfl) ?_; simp only [Q0f, Tryz.f67, zv])
    (have zz := Bx.mk (j9 ui0 ui3 ui4 ui9 ui22 ui23 ui24 ui25 (j9 ui26 ui37 ui38 ui39 ui40 ui41 ui42 ui55 (j9 ui56 ui57 ui58 ui59 ui67 ui68 ui70 ui71 (j9 ui75 Q1k Q0v X9v Q1p Q2c Q2d a1 WLg)))); (repeat' (first | with_reducible rfl | exact trivial | (with_reducible first | apply And.intro | apply Q0a | apply Q0b | refine Q0c (by decide +kernel) ?_ | intro _) | ((with_reducible refine .dms (fun x => False) [(0, false), (1, false), (2, false), (3, true), (4, false), (5, true)] (by decide) (by decide +kernel) ?_); (refine zsR zz.out ?_)) | ((with_reducible refine .dm (fun x => False) [(0, false), (1, false), (2, false), (3, true), (4, false), (5, true)] (by decide) (by decide +kernel) ?_); (refine zsR zz.out ?_)) | ((with_reducible refine .dms (fun x => False) [(0, false), (1, false), (2, false), (3, true), (4, false), (5, true)] (by decide) (by decide +kernel) ?_); (refine zsR zz.out ?_)) | ((with_reducible refine .dm (fun x => False) [(0, false), (1, false), (2, false), (3, true), (4, false), (5, true)] (by decide) (by decide +kernel) ?_); (refine zsR zz.out ?_)) | ((with_reducible refine .dms (fun x => False) [(0, false), (1, false), (2, false), (3, true), (4, false), (5, true)] (by decide) (by decide +kernel) ?_); (refine zsR zz.out ?_)) | ((with_reducible refine .dm (fun x => False) [(0, false), (1, false), (2, false), (3, true), (4, false), (5, true)] (by decide) (by decide +kernel) ?_); (refine zsR zz.out ?_)) | refine zaR zz.out ?_ | refine zkN zz.out ?_ | ((first | (refine Q0j (by intro β h; first | (rcases h with h | h <;> subst h <;> (simp (disch := first | assumption | (apply zM; assumption; assumption) | (apply zP; assumption; assumption; (intro e; cases e; done)) | omega) only [zm, zn, zp, zq, zr])) | (subst h; (simp (disch := first | assumption | (apply zM; assumption; assumption) | (apply zP; assumption; assumption; (intro e; cases e; done)) | omega) only [zm, zn, zp, zq, zr]))) ?_) | ((with_reducible refine zR (hLs _ _ _ (by exact Go.V.zO) (by repeat' (first | assumption | refine Nat.max_le.2 ⟨?_, ?_⟩)) (by exact Go.V.zN)) ?_); rintro _ S ⟨rfl, τ1, ⟨f1, n1⟩, rfl⟩; have n1s := n1.symm) | ((with_reducible refine zR (hM2 _ _ _ (by exact Go.V.zO) (by repeat' (first | assumption | refine Nat.max_le.2 ⟨?_, ?_⟩)) (by exact Go.V.zN)) ?_); rintro _ S ⟨rfl, τ1, ⟨f1, n1⟩, rfl⟩; have n1s := n1.symm) | ((with_reducible refine zR (hM3 _ _ _ (by exact Go.V.zO) (by repeat' (first | assumption | refine Nat.max_le.2 ⟨?_, ?_⟩)) (by exact Go.V.zN)) ?_); rintro _ S ⟨rfl, τ1, ⟨f1, n1⟩, rfl⟩; have n1s := n1.symm) | ((with_reducible refine zR (hM4 _ _ _ (by exact Go.V.zO) (by repeat' (first | assumption | refine Nat.max_le.2 ⟨?_, ?_⟩)) (by exact Go.V.zN)) ?_); rintro _ S ⟨rfl, τ1, ⟨f1, n1⟩, rfl⟩; have n1s := n1.symm) | ((with_reducible refine zR (Q0m _ _ _ _ _ _ _ _ (by repeat (first | exact Q0p | refine Q0k ?_ (by simp))) (by exact Go.V.zO) (by exact Go.V.zN)) ?_); rintro _ S ⟨rfl, τ1, ⟨f1, n1⟩, rfl⟩; have n1s := n1.symm) | ((with_reducible refine zR (Q3v _ _ _ _ _ _ _ (by exact Go.V.zO) (by exact Go.V.zN)) ?_); rintro _ S ⟨rfl, τ1, ⟨f1, n1⟩, rfl⟩; have n1s := n1.symm) | ((with_reducible refine zR (X3s _ _ _ _ _ _ _ (by exact Go.V.zO) (by exact Go.V.zN) (by assumption)) ?_); rintro _ S ⟨rfl, τ1, ⟨f1, n1⟩, rfl⟩; have n1s := n1.symm) | (refine Q0d (by exact Go.V.zK) ?_) | (refine Q0e (by exact Go.V.zK) ?_)); (try refine zsR zz.out ?_)) | refine zmR zz.out ?_ | refine zo ?_ | omega | refine ztR zz.out ?_ | fail)); try (all_goals clear zz))
    all_goals (refine ⟨_, .refl _, τ1, ⟨f1, n1⟩, Q3j ?_ rfl (by rw [hMb.out]; rfl)⟩; (first | rw [if_pos (show 0 ≤ lim by omega), hnt (by omega)] | rw [if_neg (show ¬ 0 ≤ lim by omega)]); (first | rw [if_pos (show desc = true by assumption)] | rw [if_neg (show ¬ desc = true by assumption)]); simp)
  · rw [if_neg hj] at hM h4 ⊢
    have hM1 := wf_at hM1 B h0 hm1 h2' h3 (show D1 ≤ M by omega)
    have e1 : D1 ≤ M := by omega
    simp only [zx, zy] at h4
    have hMb : Bx (max (max (max (max (max 0 D) D1) D2) D3) D4 = M) := ⟨by omega⟩
    clear hM
    (refine vfun (fun _ => .ro) Q0h Tryz.func67 (by kernel_rfl) ?_; simp only [Q0f, Tryz.f67, zv])
    (have zz := Bx.mk (j9 ui0 ui3 ui4 ui9 ui22 ui23 ui24 ui25 (j9 ui26 ui37 ui38 ui39 ui40 ui41 ui42 ui55 (j9 ui56 ui57 ui58 ui59 ui67 ui68 ui70 ui71 (j9 ui75 Q1k Q0v X9v Q1p Q2c Q2d a1 WLg)))); (repeat' (first | with_reducible rfl | exact trivial | (with_reducible first | apply And.intro | apply Q0a | apply Q0b | refine Q0c (by decide +kernel) ?_ | intro _) | ((with_reducible refine .dms (fun x => False) [(0, false), (1, false), (2, false), (3, true), (4, false), (5, true)] (by decide) (by decide +kernel) ?_); (refine zsR zz.out ?_)) | ((with_reducible refine .dm (fun x => False) [(0, false), (1, false), (2, false), (3, true), (4, false), (5, true)] (by decide) (by decide +kernel) ?_); (refine zsR zz.out ?_)) | ((with_reducible refine .dms (fun x => False) [(0, false), (1, false), (2, false), (3, true), (4, false), (5, true)] (by decide) (by decide +kernel) ?_); (refine zsR zz.out ?_)) | ((with_reducible refine .dm (fun x => False) [(0, false), (1, false), (2, false), (3, true), (4, false), (5, true)] (by decide) (by decide +kernel) ?_); (refine zsR zz.out ?_)) | ((with_reducible refine .dms (fun x => False) [(0, false), (1, false), (2, false), (3, true), (4, false), (5, true)] (by decide) (by decide +kernel) ?_); (refine zsR zz.out ?_)) | ((with_reducible refine .dm (fun x => False) [(0, false), (1, false), (2, false), (3, true), (4, false), (5, true)] (by decide) (by decide +kernel) ?_); (refine zsR zz.out ?_)) | refine zaR zz.out ?_ | refine zkN zz.out ?_ | ((first | (refine Q0j (by intro β h; first | (rcases h with h | h <;> subst h <;> (simp (disch := first | assumption | (apply zM; assumption; assumption) | (apply zP; assumption; assumption; (intro e; cases e; done)) | omega) only [zm, zn, zp, zq, zr])) | (subst h; (simp (disch := first | assumption | (apply zM; assumption; assumption) | (apply zP; assumption; assumption; (intro e; cases e; done)) | omega) only [zm, zn, zp, zq, zr]))) ?_) | ((with_reducible refine zR (hLs _ _ _ (by exact Go.V.zO) (by repeat' (first | assumption | refine Nat.max_le.2 ⟨?_, ?_⟩)) (by exact Go.V.zN)) ?_); rintro _ S ⟨rfl, τ1, ⟨f1, n1⟩, rfl⟩; have n1s := n1.symm) | ((with_reducible refine zR (hM1 _ _ _ (by exact Go.V.zO) (by repeat' (first | assumption | refine Nat.max_le.2 ⟨?_, ?_⟩)) (by exact Go.V.zN)) ?_); rintro _ S ⟨rfl, τ1, ⟨f1, n1⟩, rfl⟩; have n1s := n1.symm) | ((with_reducible refine zR (hM2 _ _ _ (by exact Go.V.zO) (by repeat' (first | assumption | refine Nat.max_le.2 ⟨?_, ?_⟩)) (by exact Go.V.zN)) ?_); rintro _ S ⟨rfl, τ1, ⟨f1, n1⟩, rfl⟩; have n1s := n1.symm) | ((with_reducible refine zR (hM3 _ _ _ (by exact Go.V.zO) (by repeat' (first | assumption | refine Nat.max_le.2 ⟨?_, ?_⟩)) (by exact Go.V.zN)) ?_); rintro _ S ⟨rfl, τ1, ⟨f1, n1⟩, rfl⟩; have n1s := n1.symm) | ((with_reducible refine zR (hM4 _ _ _ (by exact Go.V.zO) (by repeat' (first | assumption | refine Nat.max_le.2 ⟨?_, ?_⟩)) (by exact Go.V.zN)) ?_); rintro _ S ⟨rfl, τ1, ⟨f1, n1⟩, rfl⟩; have n1s := n1.symm) | ((with_reducible refine zR (Q0m _ _ _ _ _ _ _ _ (by repeat (first | exact Q0p | refine Q0k ?_ (by simp))) (by exact Go.V.zO) (by exact Go.V.zN)) ?_); rintro _ S ⟨rfl, τ1, ⟨f1, n1⟩, rfl⟩; have n1s := n1.symm) | ((with_reducible refine zR (Q3v _ _ _ _ _ _ _ (by exact Go.V.zO) (by exact Go.V.zN)) ?_); rintro _ S ⟨rfl, τ1, ⟨f1, n1⟩, rfl⟩; have n1s := n1.symm) | ((with_reducible refine zR (X3s _ _ _ _ _ _ _ (by exact Go.V.zO) (by exact Go.V.zN) (by assumption)) ?_); rintro _ S ⟨rfl, τ1, ⟨f1, n1⟩, rfl⟩; have n1s := n1.symm) | (refine Q0d (by exact Go.V.zK) ?_) | (refine Q0e (by exact Go.V.zK) ?_)); (try refine zsR zz.out ?_)) | refine zmR zz.out ?_ | refine zo ?_ | omega | refine ztR zz.out ?_ | fail)); try (all_goals clear zz))
    all_goals try (exfalso; first | exact hj ‹join = []› | (simp_all; done))
    all_goals (refine ⟨_, .refl _, τ1, ⟨f1, n1⟩, Q3j ?_ rfl (by rw [hMb.out]; rfl)⟩; (first | rw [if_pos (show 0 ≤ lim by omega), hnt (by omega)] | rw [if_neg (show ¬ 0 ≤ lim by omega)]); (first | rw [if_pos (show desc = true by assumption)] | rw [if_neg (show ¬ desc = true by assumption)]); simp)
theorem wb_set {T : TypeId} {r : List AV} {B : Sg} {ω τ : Nat} {l : List Tk} {β : Nat} {o : Ob} (h1 : β ≠ ω) (h2 : β ≠ τ) : (WB T r B ω τ l).set β o = WB T r (B.set β o) ω τ l := by
  rw [Y0z, Y0z, Sg.set_comm _ _ _ (Ne.symm h1), Sg.set_comm _ _ _ (Ne.symm h2)]
theorem wb_sub {T : TypeId} {r : List AV} {B : Sg} {ω τ : Nat} {l : List Tk} {β : Nat} {o : Ob} (h : B β = none) : (WB T r B ω τ l).sub (WB T r (B.set β o) ω τ l) := by
  intro y p hy
  simp only [Y0z, Sg.set_apply] at hy ⊢
  grind
theorem colT_len (c : Co) : (colT c).length ≤ 6 := by
  unfold colT
  repeat' split
  all_goals simp [wds]
theorem cols_take {l : List Co} {k : Nat} (h : k < l.length) : ((l.take (k + 1)).map colT).flatten = ((l.take k).map colT).flatten ++ colT l[k] := by
  rw [List.take_succ_eq_append_getElem h, List.map_append, List.flatten_append]; simp
theorem Y1b (l : List Co) : ∀ k, (((l.take k).map colT).flatten).length ≤ 6 * k
  | 0 => by simp
  | k + 1 => by
    have ih := Y1b l k
    rcases Nat.lt_or_ge k l.length with h | h
    · rw [cols_take h, zw]
      have := colT_len l[k]
      omega
    · rw [List.take_of_length_le (by omega)]
      rw [List.take_of_length_le h] at ih
      omega
theorem w_create (ω : Nat) (x : Stm) (hb : X5u x.cols = true) :
    Wf ω 63 [.ref ω 0, .agg (stmA x)] (X4s x) 0 := by
  obtain ⟨g1, g2⟩ : x.cols.all X2x = true ∧ (1 ≤ x.cols.length ∧ x.cols.length ≤ 8) := by
    unfold X5u at hb; simpa only [Bool.and_eq_true, decide_eq_true_eq] using hb
  intro B τ l d m h h0 hm1 h2' h3 h4
  have a1 : (x.cols.map coA).length = x.cols.length := zA ..
  have a2 := Q3z (f := coA) (n := 4) x.cols (fun _ => rfl)
  have a3 := fun k (h : k < x.cols.length) => Q3y (f := coA) h
  have b4 : X4s x = wds [[67, 82, 69, 65, 84, 69], [84, 65, 66, 76, 69]] ++ (nT x.t :: wd [40] :: ((x.cols.map colT).flatten ++ (wds [[80, 82, 73, 77, 65, 82, 89], [75, 69, 89], [40]] ++ (nT x.pk :: wds [[41], [41]])))) := rfl
  have hcl := Y1b x.cols
  rw [b4] at h4 ⊢
  simp only [zw, zx, zy, Q3u] at h4
  clear b4 hb g1
  unfold stmA
  generalize x.cols.map coA = L5 at *
  obtain ⟨C, hC⟩ : ∃ C : List AV, C = [.i x.k, .s (bs x.t), .sl .any L5, .s (bs x.pk), .sl .any (x.rows.map rowA), .sl .any (x.sets.map setA), .sl .any (x.items.map Q3x), .s (bs x.join), .sl .any (exsA x.on), .sl .any (exsA x.wh), .sl .any (exsA x.gr), .sl .any (exsA x.or), .b x.desc, .i x.lim] := ⟨_, rfl⟩
  (refine vfun (fun i => if i = 3 then .ro else .no) Q0h Tryz.func63 (by kernel_rfl) ?_; simp only [Q0f, Tryz.f63, zv])
  (have zz := Bx.mk (j8 ui0 ui3 ui4 ui9 ui22 ui23 ui24 (j9 ui25 ui26 ui37 ui38 ui39 ui40 ui41 ui42 (j9 ui55 ui56 ui57 ui58 ui59 ui67 ui68 ui70 (j9 ui71 ui75 Q1k Q0v Q1p Q2c Q2d a1 WLg)))); (repeat' (first | with_reducible rfl | exact trivial | (with_reducible first | apply And.intro | apply Q0a | apply Q0b | refine Q0c (by decide +kernel) ?_ | intro _) | ((with_reducible refine .dms (fun x => False) [(0, false), (1, false), (2, false), (3, true), (4, false), (5, true)] (by decide) (by decide +kernel) ?_); (refine zsR zz.out ?_)) | ((with_reducible refine .dm (fun x => False) [(0, false), (1, false), (2, false), (3, true), (4, false), (5, true)] (by decide) (by decide +kernel) ?_); (refine zsR zz.out ?_)) | ((with_reducible refine .dms (fun x => False) [(0, false), (1, false), (2, false), (3, true), (4, false), (5, true)] (by decide) (by decide +kernel) ?_); (refine zsR zz.out ?_)) | ((with_reducible refine .dm (fun x => False) [(0, false), (1, false), (2, false), (3, true), (4, false), (5, true)] (by decide) (by decide +kernel) ?_); (refine zsR zz.out ?_)) | ((with_reducible refine .dms (fun x => False) [(0, false), (1, false), (2, false), (3, true), (4, false), (5, true)] (by decide) (by decide +kernel) ?_); (refine zsR zz.out ?_)) | ((with_reducible refine .dm (fun x => False) [(0, false), (1, false), (2, false), (3, true), (4, false), (5, true)] (by decide) (by decide +kernel) ?_); (refine zsR zz.out ?_)) | refine zaR zz.out ?_ | refine zkN zz.out ?_ | ((first | (refine Q0j (by intro β h; first | (rcases h with h | h <;> subst h <;> (simp (disch := first | assumption | (apply zM; assumption; assumption) | (apply zP; assumption; assumption; (intro e; cases e; done)) | omega) only [zm, zn, zp, zq, zr])) | (subst h; (simp (disch := first | assumption | (apply zM; assumption; assumption) | (apply zP; assumption; assumption; (intro e; cases e; done)) | omega) only [zm, zn, zp, zq, zr]))) ?_) | ((with_reducible refine zR (Q0m _ _ _ _ _ _ _ _ (by repeat (first | exact Q0p | refine Q0k ?_ (by simp))) (by exact Go.V.zO) (by exact Go.V.zN)) ?_); rintro _ S ⟨rfl, τ1, ⟨f1, n1⟩, rfl⟩; have n1s := n1.symm) | ((with_reducible refine zR (Q3v _ _ _ _ _ _ _ (by exact Go.V.zO) (by exact Go.V.zN)) ?_); rintro _ S ⟨rfl, τ1, ⟨f1, n1⟩, rfl⟩; have n1s := n1.symm) | (refine Q0d (by exact Go.V.zK) ?_) | (refine Q0e (by exact Go.V.zK) ?_)); (try refine zsR zz.out ?_)) | refine zmR zz.out ?_ | refine zo ?_ | omega | refine ztR zz.out ?_ | fail)); try (all_goals clear zz))
  refine VW.loop3 (0 : Nat) τ1 () (fun k τ' _ => k ≤ x.cols.length ∧ Print.okS B ω τ') (fun k _ _ => [(0, .ref ω 0), (3, .ro C), (23, .sl .any L5), (24, .i x.cols.length), (25, .i k)]) (fun k τ' _ => WS B ω τ' (l ++ wds [[67, 82, 69, 65, 84, 69], [84, 65, 66, 76, 69]] ++ [nT x.t] ++ [wd [40]] ++ ((x.cols.take k).map colT).flatten) d m) (fun k _ _ => x.cols.length - k) ⟨Nat.zero_le _, ⟨by assumption, by assumption⟩⟩ (X9g (Q3j (by simp [wds]) rfl rfl)) ?_ ?_
  · subst hC
    simp only [vO, vQ, ↓vP, vE, vS, vB, vL, vF, vM, vN, Q0g, Nat.reduceEqDiff, Nat.reduceAdd, Nat.reduceLeDiff, ne_eq, not_false_eq_true, Nat.reduceMul, Nat.reduceSub, Int.toNat_zero, Int.reduceToNat, vT]
    all_goals first | rfl | exact ⟨rfl, rfl⟩ | trace_state
  clear f1 n1 n1s
  rintro k τ' _ ⟨hk, f1, n1⟩
  have n1s := n1.symm
  have hck := hcl k
  generalize hA : l ++ wds [[67, 82, 69, 65, 84, 69], [84, 65, 66, 76, 69]] ++ [nT x.t] ++ [wd [40]] ++ ((x.cols.take k).map colT).flatten = A at *
  rcases Nat.lt_or_ge k x.cols.length with hk2 | hk2
  · have hg := a3 k hk2
    have hg2 : coA x.cols[k] = [.s (bs x.cols[k].1), .i x.cols[k].2.1, .b x.cols[k].2.2.1, .b x.cols[k].2.2.2] := rfl
    rw [hg2] at hg
    have hst := cols_take hk2
    have hct : colT x.cols[k] = nT x.cols[k].1 :: wd (if x.cols[k].2.1 = 1 then [73, 78, 84] else [84, 69, 88, 84]) :: ((if x.cols[k].2.2.1 = true then wds [[78, 79, 84], [78, 85, 76, 76]] else []) ++ ((if x.cols[k].2.2.2 = true then wds [[85, 78, 73, 81, 85, 69]] else []) ++ [wd [44]])) := rfl
    rw [hct] at hst
    have hAl : A.length ≤ 2 ^ 36 + 100 := by rw [← hA]; simp only [zw, zx, zy, Q3u]; omega
    clear hg2 hct a3 hcl
    have hfin : Bx (((x.cols.take k).map colT).flatten = ((x.cols.take k).map colT).flatten) := ⟨rfl⟩
    generalize x.cols[k].1 = va at *
    generalize x.cols[k].2.1 = vb at *
    generalize x.cols[k].2.2.1 = vc at *
    generalize x.cols[k].2.2.2 = vd at *
    (have zz := Bx.mk (j2 ui0 (j9 ui3 ui4 ui9 ui22 ui23 ui24 ui25 ui26 (j9 ui37 ui38 ui39 ui40 ui41 ui42 ui55 ui56 (j9 ui57 ui58 ui59 ui67 ui68 ui70 ui71 ui75 (j9 Q1k Q0v Q1p Q2c Q2d a1 a2 hg WLg))))); (repeat' (first | with_reducible rfl | exact trivial | (with_reducible first | apply And.intro | apply Q0a | apply Q0b | refine Q0c (by decide +kernel) ?_ | intro _) | ((with_reducible refine .dms (fun x => x = β) [(0, false), (1, false), (2, false), (3, true), (4, false), (5, true)] (by decide) (by decide +kernel) ?_); (refine zsR zz.out ?_)) | ((with_reducible refine .dm (fun x => x = β) [(0, false), (1, false), (2, false), (3, true), (4, false), (5, true)] (by decide) (by decide +kernel) ?_); (refine zsR zz.out ?_)) | ((with_reducible refine .dms (fun x => x = β) [(0, false), (1, false), (2, false), (3, true), (4, false), (5, true)] (by decide) (by decide +kernel) ?_); (refine zsR zz.out ?_)) | ((with_reducible refine .dm (fun x => x = β) [(0, false), (1, false), (2, false), (3, true), (4, false), (5, true)] (by decide) (by decide +kernel) ?_); (refine zsR zz.out ?_)) | ((with_reducible refine .dms (fun x => x = β) [(0, false), (1, false), (2, false), (3, true), (4, false), (5, true)] (by decide) (by decide +kernel) ?_); (refine zsR zz.out ?_)) | ((with_reducible refine .dm (fun x => x = β) [(0, false), (1, false), (2, false), (3, true), (4, false), (5, true)] (by decide) (by decide +kernel) ?_); (refine zsR zz.out ?_)) | refine zaR zz.out ?_ | refine zkK zz.out ?_ | ((first | (refine Q0j (by intro β h; first | (rcases h with h | h <;> subst h <;> (simp (disch := first | assumption | (apply zM; assumption; assumption) | (apply zP; assumption; assumption; (intro e; cases e; done)) | omega) only [zm, zn, zp, zq, zr])) | (subst h; (simp (disch := first | assumption | (apply zM; assumption; assumption) | (apply zP; assumption; assumption; (intro e; cases e; done)) | omega) only [zm, zn, zp, zq, zr]))) ?_) | (with_reducible first | refine Q1h ?_ | refine Q0y (fun β hβ => ?_)) | (rw [wb_set (by assumption) (by assumption)]) | ((with_reducible refine zR (Q3v _ _ _ _ _ _ _ ⟨Sg.set_none (by assumption) (by first | assumption | (apply Ne.symm; assumption)), by assumption⟩ (by exact Go.V.zN)) ?_); rintro _ S ⟨rfl, τ1, ⟨f2, n1⟩, rfl⟩; have n1s := n1.symm; obtain ⟨nb, f1⟩ := Sg.none_set f2; have nbs := nb.symm) | ((with_reducible refine zR (Q0m _ _ _ _ _ _ _ _ (by repeat (first | exact Q0p | refine Q0k ?_ (by simp))) ⟨Sg.set_none (by assumption) (by first | assumption | (apply Ne.symm; assumption)), by assumption⟩ (by exact Go.V.zN)) ?_); rintro _ S ⟨rfl, τ1, ⟨f2, n1⟩, rfl⟩; have n1s := n1.symm; obtain ⟨nb, f1⟩ := Sg.none_set f2; have nbs := nb.symm) | ((with_reducible refine zR (Q0m _ _ _ _ _ _ _ _ (by repeat (first | exact Q0p | refine Q0k ?_ (by simp))) (by exact Go.V.zO) (by exact Go.V.zN)) ?_); rintro _ S ⟨rfl, τ1, ⟨f1, n1⟩, rfl⟩; have n1s := n1.symm) | ((with_reducible refine zR (Q3v _ _ _ _ _ _ _ (by exact Go.V.zO) (by exact Go.V.zN)) ?_); rintro _ S ⟨rfl, τ1, ⟨f1, n1⟩, rfl⟩; have n1s := n1.symm) | (refine Q0d (by exact Go.V.zK) ?_) | (refine Q0e (by exact Go.V.zK) ?_)); (try refine zsR zz.out ?_)) | refine zmR zz.out ?_ | refine zo ?_ | omega | refine ztR zz.out ?_ | fail)); try (all_goals clear zz))
    all_goals exact ⟨k + 1, τ1, (), ⟨⟨hk2, f1, n1⟩, by omega⟩, (X9g (Q3j (by rw [hst, ← hA]; (first | rw [if_pos (show vb = 1 by assumption)] | rw [if_neg (show ¬ vb = 1 by assumption)]); (first | rw [if_pos (show vc = true by assumption)] | rw [if_neg (show ¬ vc = true by assumption)]); (first | rw [if_pos (show vd = true by assumption)] | rw [if_neg (show ¬ vd = true by assumption)]); simp [wds]) rfl rfl)).trans (wb_sub hβ), rfl⟩
  · subst hC
    rw [List.take_of_length_le hk2] at hA
    have hAl : A.length ≤ l.length + 4 + ((x.cols.map colT).flatten).length := by rw [← hA]; simp only [zw, zx, zy, Q3u]; omega
    (have zz := Bx.mk (j8 ui0 ui3 ui4 ui9 ui22 ui23 ui24 (j9 ui25 ui26 ui37 ui38 ui39 ui40 ui41 ui42 (j9 ui55 ui56 ui57 ui58 ui59 ui67 ui68 ui70 (j9 ui71 ui75 Q1k Q0v Q1p Q2c Q2d a1 WLg)))); (repeat' (first | with_reducible rfl | exact trivial | (with_reducible first | apply And.intro | apply Q0a | apply Q0b | refine Q0c (by decide +kernel) ?_ | intro _) | ((with_reducible refine .dms (fun x => False) [(0, false), (1, false), (2, false), (3, true), (4, false), (5, true)] (by decide) (by decide +kernel) ?_); (refine zsR zz.out ?_)) | ((with_reducible refine .dm (fun x => False) [(0, false), (1, false), (2, false), (3, true), (4, false), (5, true)] (by decide) (by decide +kernel) ?_); (refine zsR zz.out ?_)) | ((with_reducible refine .dms (fun x => False) [(0, false), (1, false), (2, false), (3, true), (4, false), (5, true)] (by decide) (by decide +kernel) ?_); (refine zsR zz.out ?_)) | ((with_reducible refine .dm (fun x => False) [(0, false), (1, false), (2, false), (3, true), (4, false), (5, true)] (by decide) (by decide +kernel) ?_); (refine zsR zz.out ?_)) | ((with_reducible refine .dms (fun x => False) [(0, false), (1, false), (2, false), (3, true), (4, false), (5, true)] (by decide) (by decide +kernel) ?_); (refine zsR zz.out ?_)) | ((with_reducible refine .dm (fun x => False) [(0, false), (1, false), (2, false), (3, true), (4, false), (5, true)] (by decide) (by decide +kernel) ?_); (refine zsR zz.out ?_)) | refine zaR zz.out ?_ | refine zkN zz.out ?_ | ((first | (refine Q0j (by intro β h; first | (rcases h with h | h <;> subst h <;> (simp (disch := first | assumption | (apply zM; assumption; assumption) | (apply zP; assumption; assumption; (intro e; cases e; done)) | omega) only [zm, zn, zp, zq, zr])) | (subst h; (simp (disch := first | assumption | (apply zM; assumption; assumption) | (apply zP; assumption; assumption; (intro e; cases e; done)) | omega) only [zm, zn, zp, zq, zr]))) ?_) | ((with_reducible refine zR (Q0m _ _ _ _ _ _ _ _ (by repeat (first | exact Q0p | refine Q0k ?_ (by simp))) (by exact Go.V.zO) (by exact Go.V.zN)) ?_); rintro _ S ⟨rfl, τ1, ⟨f1, n1⟩, rfl⟩; have n1s := n1.symm) | ((with_reducible refine zR (Q3v _ _ _ _ _ _ _ (by exact Go.V.zO) (by exact Go.V.zN)) ?_); rintro _ S ⟨rfl, τ1, ⟨f1, n1⟩, rfl⟩; have n1s := n1.symm) | (refine Q0d (by exact Go.V.zK) ?_) | (refine Q0e (by exact Go.V.zK) ?_)); (try refine zsR zz.out ?_)) | refine zmR zz.out ?_ | refine zo ?_ | omega | refine ztR zz.out ?_ | fail)); try (all_goals clear zz))
    all_goals exact ⟨_, .refl _, τ1, ⟨f1, n1⟩, Q3j (by rw [← hA]; simp [wds]) rfl (by omega)⟩
structure LimX (x : Stm) : Prop where
  s : LimS x
  v : ∀ r ∈ x.rows, ∀ v ∈ r, inR v.2.1
theorem X3t {x : Stm} (h : fitB x = true) : (1 ≤ x.k ∧ x.k ≤ 6) ∧ isNm x.t = true ∧ oneB x.wh = true ∧ (x.k = 1 → X5u x.cols = true ∧ isNm x.pk = true) ∧ (x.k = 3 → X5v x.rows = true) ∧ (x.k = 4 → X5w x.sets = true) ∧ (x.k = 6 → selB x = true) := by
  unfold fitB X8j at h
  simp only [Bool.and_eq_true, decide_eq_true_eq] at h
  obtain ⟨⟨h1, h2, _⟩, h3, h4⟩ := h
  refine ⟨h2, h1, h3, fun e => ?_, fun e => ?_, fun e => ?_, fun e => ?_⟩
  · rw [if_pos e, Bool.and_eq_true] at h4; exact h4
  · rw [if_neg (by omega), if_pos e] at h4; exact h4
  · rw [if_neg (by omega), if_neg (by omega), if_pos e] at h4; exact h4
  · rw [if_neg (by omega), if_neg (by omega), if_neg (by omega), if_pos e] at h4; exact h4
theorem X3u {x : Stm} (h : selB x = true) : X0s x.items = true ∧ oneB x.on = true ∧ colB x.gr = true ∧ colB x.or = true ∧ -1 ≤ x.lim := by
  unfold selB at h
  simp only [Bool.and_eq_true, decide_eq_true_eq] at h
  exact ⟨h.2.1, h.2.2.1, h.2.2.2.1, h.2.2.2.2.1, h.2.2.2.2.2.2⟩
theorem w_state (ω : Nat) (x : Stm) (hf : fitB x = true) (hL : LimX x) : Wf ω 30 [.ref ω 0, .agg (stmA x)] (stT x) (stD x) := by
  obtain ⟨p1, p2, p3, p4, p5, p6, p7⟩ := X3t hf
  have hM := X4z ω x.wh p3 hL.s.wh.2 .any .full [[.s (bs [87, 72, 69, 82, 69])]] (Q0k Q0p (by simp))
  rw [show expW [[.s (bs [87, 72, 69, 82, 69])]] x.wh = expT [[87, 72, 69, 82, 69]] x.wh from expW1 _ _] at hM
  have hk : x.k = 1 ∨ x.k = 2 ∨ x.k = 3 ∨ x.k = 4 ∨ x.k = 5 ∨ x.k = 6 := by omega
  intro B τ l d m h h0 hm1 h2' h3 h4
  have hM := hM B
  rcases hk with hk | hk | hk | hk | hk | hk
  · have hX := w_create ω x (p4 hk).1 B
    have e1 : stT x = X4s x := by unfold stT; rw [if_pos hk]
    have e2 : stD x = 0 := by unfold stD; rw [if_neg (by omega), if_neg (by omega), if_neg (by omega)]
    rw [e1] at h4 ⊢
    rw [e2] at h3 ⊢
    clear hM p1 p2 p3 p4 p5 p6 p7 hf hL e1 e2
    generalize X4s x = TT at *
    unfold stmA at hX ⊢
    rw [hk] at hX ⊢
    (refine vfun (fun _ => .ro) Q0h Tryz.func30 (by kernel_rfl) ?_; simp only [Q0f, Tryz.f30, zv])
    (have zz := Bx.mk (j7 ui0 ui3 ui4 ui9 ui22 ui23 (j9 ui24 ui25 ui26 ui37 ui38 ui39 ui40 ui41 (j9 ui42 ui55 ui56 ui57 ui58 ui59 ui67 ui68 (j9 ui70 ui71 ui75 Q1k Q0v Q1p Q2c Q2d WLg)))); (repeat' (first | with_reducible rfl | exact trivial | (with_reducible first | apply And.intro | apply Q0a | apply Q0b | refine Q0c (by decide +kernel) ?_ | intro _) | refine zaY zz.out ?_ | ((first | ((with_reducible refine zR (hX _ _ _ _ (by exact Go.V.zO) (by omega) (by omega) (by omega) (by omega) (by exact Go.V.zN)) ?_); rintro _ S ⟨rfl, τ1, ⟨f1, n1⟩, rfl⟩; have n1s := n1.symm) | ((with_reducible refine zR (Q0m _ _ _ _ _ _ _ _ (by repeat (first | exact Q0p | refine Q0k ?_ (by simp))) (by exact Go.V.zO) (by exact Go.V.zN)) ?_); rintro _ S ⟨rfl, τ1, ⟨f1, n1⟩, rfl⟩; have n1s := n1.symm) | ((with_reducible refine zR (Q3v _ _ _ _ _ _ _ (by exact Go.V.zO) (by exact Go.V.zN)) ?_); rintro _ S ⟨rfl, τ1, ⟨f1, n1⟩, rfl⟩; have n1s := n1.symm) | (refine Q0d (by exact Go.V.zK) ?_) | (refine Q0e (by exact Go.V.zK) ?_)); (try refine zsY zz.out ?_)) | refine zo ?_ | omega | refine ztY zz.out ?_ | fail)); try (all_goals clear zz))
    all_goals exact ⟨_, .refl _, τ1, ⟨f1, n1⟩, Q3j rfl rfl rfl⟩
  · have e1 : stT x = wds [[68, 82, 79, 80], [84, 65, 66, 76, 69]] ++ [nT x.t] := by unfold stT; rw [if_neg (by omega), if_pos hk]; rfl
    have e2 : stD x = 0 := by unfold stD; rw [if_neg (by omega), if_neg (by omega), if_neg (by omega)]
    rw [e1] at h4 ⊢
    rw [e2] at h3 ⊢
    simp only [zw, zx, zy, Q3u] at h4
    clear hM p1 p2 p3 p4 p5 p6 p7 hf hL e1 e2
    unfold stmA
    rw [hk]
    (refine vfun (fun _ => .ro) Q0h Tryz.func30 (by kernel_rfl) ?_; simp only [Q0f, Tryz.f30, zv])
    (have zz := Bx.mk (j7 ui0 ui3 ui4 ui9 ui22 ui23 (j9 ui24 ui25 ui26 ui37 ui38 ui39 ui40 ui41 (j9 ui42 ui55 ui56 ui57 ui58 ui59 ui67 ui68 (j9 ui70 ui71 ui75 Q1k Q0v Q1p Q2c Q2d WLg)))); (repeat' (first | with_reducible rfl | exact trivial | (with_reducible first | apply And.intro | apply Q0a | apply Q0b | refine Q0c (by decide +kernel) ?_ | intro _) | ((with_reducible refine .dms (fun x => False) [(0, false), (1, false), (2, false), (3, true), (4, false), (5, true)] (by decide) (by decide +kernel) ?_); (refine zsR zz.out ?_)) | ((with_reducible refine .dm (fun x => False) [(0, false), (1, false), (2, false), (3, true), (4, false), (5, true)] (by decide) (by decide +kernel) ?_); (refine zsR zz.out ?_)) | ((with_reducible refine .dms (fun x => False) [(0, false), (1, false), (2, false), (3, true), (4, false), (5, true)] (by decide) (by decide +kernel) ?_); (refine zsR zz.out ?_)) | ((with_reducible refine .dm (fun x => False) [(0, false), (1, false), (2, false), (3, true), (4, false), (5, true)] (by decide) (by decide +kernel) ?_); (refine zsR zz.out ?_)) | refine zaR zz.out ?_ | refine zkN zz.out ?_ | ((first | (refine Q0j (by intro β h; first | (rcases h with h | h <;> subst h <;> (simp (disch := first | assumption | (apply zM; assumption; assumption) | (apply zP; assumption; assumption; (intro e; cases e; done)) | omega) only [zm, zn, zp, zq, zr])) | (subst h; (simp (disch := first | assumption | (apply zM; assumption; assumption) | (apply zP; assumption; assumption; (intro e; cases e; done)) | omega) only [zm, zn, zp, zq, zr]))) ?_) | ((with_reducible refine zR (Q0m _ _ _ _ _ _ _ _ (by repeat (first | exact Q0p | refine Q0k ?_ (by simp))) (by exact Go.V.zO) (by exact Go.V.zN)) ?_); rintro _ S ⟨rfl, τ1, ⟨f1, n1⟩, rfl⟩; have n1s := n1.symm) | ((with_reducible refine zR (Q3v _ _ _ _ _ _ _ (by exact Go.V.zO) (by exact Go.V.zN)) ?_); rintro _ S ⟨rfl, τ1, ⟨f1, n1⟩, rfl⟩; have n1s := n1.symm) | (refine Q0d (by exact Go.V.zK) ?_) | (refine Q0e (by exact Go.V.zK) ?_)); (try refine zsR zz.out ?_)) | refine zmR zz.out ?_ | refine zo ?_ | omega | refine ztR zz.out ?_ | fail)); try (all_goals clear zz))
    all_goals exact ⟨_, .refl _, τ1, ⟨f1, n1⟩, Q3j (by simp [wds]) rfl (by omega)⟩
  · have hX := w_insert ω x (p5 hk) hL.v B
    have e1 : stT x = X4t x := by unfold stT; rw [if_neg (by omega), if_neg (by omega), if_pos hk]
    have e2 : stD x = 0 := by unfold stD; rw [if_neg (by omega), if_neg (by omega), if_neg (by omega)]
    rw [e1] at h4 ⊢
    rw [e2] at h3 ⊢
    clear hM p1 p2 p3 p4 p5 p6 p7 hf hL e1 e2
    generalize X4t x = TT at *
    unfold stmA at hX ⊢
    rw [hk] at hX ⊢
    (refine vfun (fun _ => .ro) Q0h Tryz.func30 (by kernel_rfl) ?_; simp only [Q0f, Tryz.f30, zv])
    (have zz := Bx.mk (j7 ui0 ui3 ui4 ui9 ui22 ui23 (j9 ui24 ui25 ui26 ui37 ui38 ui39 ui40 ui41 (j9 ui42 ui55 ui56 ui57 ui58 ui59 ui67 ui68 (j9 ui70 ui71 ui75 Q1k Q0v Q1p Q2c Q2d WLg)))); (repeat' (first | with_reducible rfl | exact trivial | (with_reducible first | apply And.intro | apply Q0a | apply Q0b | refine Q0c (by decide +kernel) ?_ | intro _) | refine zaY zz.out ?_ | ((first | ((with_reducible refine zR (hX _ _ _ _ (by exact Go.V.zO) (by omega) (by omega) (by omega) (by omega) (by exact Go.V.zN)) ?_); rintro _ S ⟨rfl, τ1, ⟨f1, n1⟩, rfl⟩; have n1s := n1.symm) | ((with_reducible refine zR (Q0m _ _ _ _ _ _ _ _ (by repeat (first | exact Q0p | refine Q0k ?_ (by simp))) (by exact Go.V.zO) (by exact Go.V.zN)) ?_); rintro _ S ⟨rfl, τ1, ⟨f1, n1⟩, rfl⟩; have n1s := n1.symm) | ((with_reducible refine zR (Q3v _ _ _ _ _ _ _ (by exact Go.V.zO) (by exact Go.V.zN)) ?_); rintro _ S ⟨rfl, τ1, ⟨f1, n1⟩, rfl⟩; have n1s := n1.symm) | (refine Q0d (by exact Go.V.zK) ?_) | (refine Q0e (by exact Go.V.zK) ?_)); (try refine zsY zz.out ?_)) | refine zo ?_ | omega | refine ztY zz.out ?_ | fail)); try (all_goals clear zz))
    all_goals exact ⟨_, .refl _, τ1, ⟨f1, n1⟩, Q3j rfl rfl rfl⟩
  · have hX := w_update ω x (p6 hk) hL.s.set p3 hL.s.wh.2 B
    have e1 : stT x = X4u x := by unfold stT; rw [if_neg (by omega), if_neg (by omega), if_neg (by omega), if_pos hk]
    have e2 : stD x = max (maxD (fun s => (toTr s.2).dp) x.sets) (expD x.wh) := by unfold stD; rw [if_pos hk]
    rw [e1] at h4 ⊢
    rw [e2] at h3 ⊢
    clear hM p1 p2 p3 p4 p5 p6 p7 hf hL e1 e2
    generalize X4u x = TT at *
    generalize max (maxD (fun s : Se => (toTr s.2).dp) x.sets) (expD x.wh) = D at *
    unfold stmA at hX ⊢
    rw [hk] at hX ⊢
    (refine vfun (fun _ => .ro) Q0h Tryz.func30 (by kernel_rfl) ?_; simp only [Q0f, Tryz.f30, zv])
    (have zz := Bx.mk (j7 ui0 ui3 ui4 ui9 ui22 ui23 (j9 ui24 ui25 ui26 ui37 ui38 ui39 ui40 ui41 (j9 ui42 ui55 ui56 ui57 ui58 ui59 ui67 ui68 (j9 ui70 ui71 ui75 Q1k Q0v Q1p Q2c Q2d WLg)))); (repeat' (first | with_reducible rfl | exact trivial | (with_reducible first | apply And.intro | apply Q0a | apply Q0b | refine Q0c (by decide +kernel) ?_ | intro _) | refine zaY zz.out ?_ | ((first | ((with_reducible refine zR (hX _ _ _ _ (by exact Go.V.zO) (by omega) (by omega) (by omega) (by omega) (by exact Go.V.zN)) ?_); rintro _ S ⟨rfl, τ1, ⟨f1, n1⟩, rfl⟩; have n1s := n1.symm) | ((with_reducible refine zR (Q0m _ _ _ _ _ _ _ _ (by repeat (first | exact Q0p | refine Q0k ?_ (by simp))) (by exact Go.V.zO) (by exact Go.V.zN)) ?_); rintro _ S ⟨rfl, τ1, ⟨f1, n1⟩, rfl⟩; have n1s := n1.symm) | ((with_reducible refine zR (Q3v _ _ _ _ _ _ _ (by exact Go.V.zO) (by exact Go.V.zN)) ?_); rintro _ S ⟨rfl, τ1, ⟨f1, n1⟩, rfl⟩; have n1s := n1.symm) | (refine Q0d (by exact Go.V.zK) ?_) | (refine Q0e (by exact Go.V.zK) ?_)); (try refine zsY zz.out ?_)) | refine zo ?_ | omega | refine ztY zz.out ?_ | fail)); try (all_goals clear zz))
    all_goals exact ⟨_, .refl _, τ1, ⟨f1, n1⟩, Q3j rfl rfl rfl⟩
  · have e1 : stT x = wds [[68, 69, 76, 69, 84, 69], [70, 82, 79, 77]] ++ (nT x.t :: expT [[87, 72, 69, 82, 69]] x.wh) := by unfold stT; rw [if_neg (by omega), if_neg (by omega), if_neg (by omega), if_neg (by omega), if_pos hk]; rfl
    have e2 : stD x = expD x.wh := by unfold stD; rw [if_neg (by omega), if_pos hk]
    rw [e1] at h4 ⊢
    rw [e2] at h3 ⊢
    simp only [zw, zx, zy, Q3u] at h4
    clear p1 p2 p3 p4 p5 p6 p7 hf hL e1 e2
    generalize expT [[87, 72, 69, 82, 69]] x.wh = T2 at *
    generalize expD x.wh = D2 at *
    unfold stmA
    rw [hk]
    (refine vfun (fun _ => .ro) Q0h Tryz.func30 (by kernel_rfl) ?_; simp only [Q0f, Tryz.f30, zv])
    (have zz := Bx.mk (j7 ui0 ui3 ui4 ui9 ui22 ui23 (j9 ui24 ui25 ui26 ui37 ui38 ui39 ui40 ui41 (j9 ui42 ui55 ui56 ui57 ui58 ui59 ui67 ui68 (j9 ui70 ui71 ui75 Q1k Q0v Q1p Q2c Q2d WLg)))); (repeat' (first | with_reducible rfl | exact trivial | (with_reducible first | apply And.intro | apply Q0a | apply Q0b | refine Q0c (by decide +kernel) ?_ | intro _) | ((with_reducible refine .dms (fun x => False) [(0, false), (1, false), (2, false), (3, true), (4, false), (5, true)] (by decide) (by decide +kernel) ?_); (refine zsR zz.out ?_)) | ((with_reducible refine .dm (fun x => False) [(0, false), (1, false), (2, false), (3, true), (4, false), (5, true)] (by decide) (by decide +kernel) ?_); (refine zsR zz.out ?_)) | ((with_reducible refine .dms (fun x => False) [(0, false), (1, false), (2, false), (3, true), (4, false), (5, true)] (by decide) (by decide +kernel) ?_); (refine zsR zz.out ?_)) | ((with_reducible refine .dm (fun x => False) [(0, false), (1, false), (2, false), (3, true), (4, false), (5, true)] (by decide) (by decide +kernel) ?_); (refine zsR zz.out ?_)) | refine zaR zz.out ?_ | refine zkN zz.out ?_ | ((first | (refine Q0j (by intro β h; first | (rcases h with h | h <;> subst h <;> (simp (disch := first | assumption | (apply zM; assumption; assumption) | (apply zP; assumption; assumption; (intro e; cases e; done)) | omega) only [zm, zn, zp, zq, zr])) | (subst h; (simp (disch := first | assumption | (apply zM; assumption; assumption) | (apply zP; assumption; assumption; (intro e; cases e; done)) | omega) only [zm, zn, zp, zq, zr]))) ?_) | ((with_reducible refine zR (hM _ _ _ _ (by exact Go.V.zO) (by omega) (by omega) (by omega) (by omega) (by exact Go.V.zN)) ?_); rintro _ S ⟨rfl, τ1, ⟨f1, n1⟩, rfl⟩; have n1s := n1.symm) | ((with_reducible refine zR (Q0m _ _ _ _ _ _ _ _ (by repeat (first | exact Q0p | refine Q0k ?_ (by simp))) (by exact Go.V.zO) (by exact Go.V.zN)) ?_); rintro _ S ⟨rfl, τ1, ⟨f1, n1⟩, rfl⟩; have n1s := n1.symm) | ((with_reducible refine zR (Q3v _ _ _ _ _ _ _ (by exact Go.V.zO) (by exact Go.V.zN)) ?_); rintro _ S ⟨rfl, τ1, ⟨f1, n1⟩, rfl⟩; have n1s := n1.symm) | (refine Q0d (by exact Go.V.zK) ?_) | (refine Q0e (by exact Go.V.zK) ?_)); (try refine zsR zz.out ?_)) | refine zmR zz.out ?_ | refine zo ?_ | omega | refine ztR zz.out ?_ | fail)); try (all_goals clear zz))
    all_goals exact ⟨_, .refl _, τ1, ⟨f1, n1⟩, Q3j (by simp [wds]) rfl (by omega)⟩
  · obtain ⟨s1, s2, s3, s4, s5⟩ := X3u (p7 hk)
    have hX := w_choose ω x s1 (fun y hy => (hL.s.item y hy).2) s2 hL.s.on.2 p3 hL.s.wh.2 (Q9n s3) hL.s.gr.2 (Q9n s4) hL.s.or.2 hL.s.lim s5 B
    have e1 : stT x = X4v x := by unfold stT; rw [if_neg (by omega), if_neg (by omega), if_neg (by omega), if_neg (by omega), if_neg (by omega), if_pos hk]
    have e2 : stD x = (max (maxD (fun y => expD y.2) x.items) (max (if x.join = [] then 0 else expD x.on) (max (expD x.wh) (max (expD x.gr) (expD x.or))))) := by unfold stD; rw [if_neg (by omega), if_neg (by omega), if_pos hk]
    rw [e1] at h4 ⊢
    rw [e2] at h3 ⊢
    clear hM p1 p2 p3 p4 p5 p6 p7 hf hL e1 e2 s1 s2 s3 s4 s5
    generalize X4v x = TT at *
    generalize (max (maxD (fun y : It => expD y.2) x.items) (max (if x.join = [] then 0 else expD x.on) (max (expD x.wh) (max (expD x.gr) (expD x.or))))) = D at *
    unfold stmA at hX ⊢
    rw [hk] at hX ⊢
    (refine vfun (fun _ => .ro) Q0h Tryz.func30 (by kernel_rfl) ?_; simp only [Q0f, Tryz.f30, zv])
    (have zz := Bx.mk (j7 ui0 ui3 ui4 ui9 ui22 ui23 (j9 ui24 ui25 ui26 ui37 ui38 ui39 ui40 ui41 (j9 ui42 ui55 ui56 ui57 ui58 ui59 ui67 ui68 (j9 ui70 ui71 ui75 Q1k Q0v Q1p Q2c Q2d WLg)))); (repeat' (first | with_reducible rfl | exact trivial | (with_reducible first | apply And.intro | apply Q0a | apply Q0b | refine Q0c (by decide +kernel) ?_ | intro _) | refine zaY zz.out ?_ | ((first | ((with_reducible refine zR (hX _ _ _ _ (by exact Go.V.zO) (by omega) (by omega) (by omega) (by omega) (by exact Go.V.zN)) ?_); rintro _ S ⟨rfl, τ1, ⟨f1, n1⟩, rfl⟩; have n1s := n1.symm) | ((with_reducible refine zR (Q0m _ _ _ _ _ _ _ _ (by repeat (first | exact Q0p | refine Q0k ?_ (by simp))) (by exact Go.V.zO) (by exact Go.V.zN)) ?_); rintro _ S ⟨rfl, τ1, ⟨f1, n1⟩, rfl⟩; have n1s := n1.symm) | ((with_reducible refine zR (Q3v _ _ _ _ _ _ _ (by exact Go.V.zO) (by exact Go.V.zN)) ?_); rintro _ S ⟨rfl, τ1, ⟨f1, n1⟩, rfl⟩; have n1s := n1.symm) | (refine Q0d (by exact Go.V.zK) ?_) | (refine Q0e (by exact Go.V.zK) ?_)); (try refine zsY zz.out ?_)) | refine zo ?_ | omega | refine ztY zz.out ?_ | fail)); try (all_goals clear zz))
    all_goals exact ⟨_, .refl _, τ1, ⟨f1, n1⟩, Q3j rfl rfl rfl⟩
end Go.Proofs.YtjdapkelojdefaaGreatDoor
namespace Go.Print
open Go.V Go.Lex Go.Parse Go.Proofs.YtjdapkelojdefaaGreatDoor
def AG (l : List Tk) : Prop := ∀ x ∈ l, GoodT x
theorem Q8l : AG [] := fun x h => by cases h
theorem Q2e {x : Tk} {l : List Tk} (h : GoodT x) (hl : AG l) : AG (x :: l) := fun y hy => by
  rcases List.mem_cons.1 hy with rfl | hy
  · exact h
  · exact hl y hy
theorem Q5o {l m : List Tk} (h : AG l) (hm : AG m) : AG (l ++ m) := fun y hy => (List.mem_append.1 hy).elim (h y) (hm y)
theorem ag_sep {β : Type} {one : β → List Tk} : ∀ {l : List β}, (∀ y ∈ l, AG (one y)) → AG (sepT one l)
  | [], _ => Q8l
  | [x], h => h x (by simp)
  | x :: y :: r, h => Q5o (h x (by simp)) (Q2e (.inr (.inr (.inr (.inr ⟨rfl, by decide, rfl⟩)))) (ag_sep (l := y :: r) fun z hz => h z (List.mem_cons_of_mem _ hz)))
theorem ag_flat {β : Type} {one : β → List Tk} {l : List β} (h : ∀ y ∈ l, AG (one y)) : AG (l.map one).flatten := fun x hx => by
  obtain ⟨m, hm, hx⟩ := List.mem_flatten.1 hx
  obtain ⟨y, hy, rfl⟩ := List.mem_map.1 hm
  exact h y hy x hx
theorem wd2 (w : By) : (wd w).2 = (w, 0, 0) := by unfold wd; split <;> rfl
theorem Q4q {w : By} (h : ((Q8b w && decide ((wd w).1 = 2)) || (signs.contains w && decide ((wd w).1 = 5))) = true) : GoodT (wd w) := by
  simp only [Bool.or_eq_true, Bool.and_eq_true, decide_eq_true_eq] at h
  rcases h with ⟨a, b⟩ | ⟨a, b⟩
  · exact .inr (.inl ⟨b, by rw [wd2]; exact a, by rw [wd2]⟩)
  · exact .inr (.inr (.inr (.inr ⟨b, by rw [wd2]; simpa using a, by rw [wd2]⟩)))
theorem Q8m {ws : List By} (h : ws.all (fun w => (Q8b w && decide ((wd w).1 = 2)) || (signs.contains w && decide ((wd w).1 = 5))) = true) : AG (wds ws) := fun x hx => by
  obtain ⟨w, hw, rfl⟩ := List.mem_map.1 hx
  exact Q4q (List.all_eq_true.1 h w hw)
theorem ag_tr {e : Ex} (hr : rt e = true) (hL : Lim e) : AG (toTr e).tk := by
  obtain ⟨q1, q2⟩ := X1j e hr
  exact Q7e (toTr e) q2 (X3o (toTr e) (by rw [q1]; exact hL))
theorem X9h {ws : List By} {l : List Ex} (hw : AG (wds ws)) (h : oneB l = true) (hL : ∀ e ∈ l, Lim e) : AG (expT ws l) := by
  cases l with
  | nil => exact Q8l
  | cons e r =>
    have h2 : rt e = true := by
      unfold oneB at h
      rw [Bool.and_eq_true, Q3d, Bool.and_eq_true] at h
      exact h.2.1
    exact Q5o hw (ag_tr h2 (hL e (by simp)))
theorem ag_col {c : Co} (h : X2x c = true) : AG (colT c) := by
  unfold X2x at h
  rw [Bool.and_eq_true] at h
  unfold colT
  refine Q2e (gN h.1) (Q2e ?_ (Q5o ?_ (Q5o ?_ (Q2e (Q4q (by decide +kernel)) Q8l))))
  · split <;> exact Q4q (by decide +kernel)
  · split
    · exact Q8m (by decide +kernel)
    · exact Q8l
  · split
    · exact Q8m (by decide +kernel)
    · exact Q8l
theorem ag_row {r : List Vl} (h : rowB r = true) (hv : ∀ v ∈ r, inR v.2.1) : AG (rowT r) := by
  unfold rowB at h
  rw [Bool.and_eq_true] at h
  have h1 := List.all_eq_true.1 h.1
  exact Q2e (Q4q (by decide +kernel)) (Q5o (ag_sep fun v hv' => good_lit (h1 v hv') (hv v hv')) (Q2e (Q4q (by decide +kernel)) Q8l))
theorem ag_set {s : Se} (h : X4w s = true) (hL : Lim s.2) : AG (setT s) := by
  unfold X4w at h
  rw [Bool.and_eq_true] at h
  exact Q2e (gN h.1) (Q2e (Q4q (by decide +kernel)) (ag_tr h.2 hL))
theorem ag_item {x : It} (h : Q4o x = true) (hL : ∀ e ∈ x.2, Lim e) : AG (Q8j x) := by
  have ho : oneB x.2 = true := by
    unfold Q4o at h
    simp only [Bool.and_eq_true, decide_eq_true_eq] at h
    unfold oneB
    simp only [Bool.and_eq_true, decide_eq_true_eq]
    refine ⟨?_, h.2.2⟩
    rw [h.2.1]
    split <;> omega
  unfold Q8j
  split
  · exact Q8m (by decide +kernel)
  · split
    · exact Q8m (by decide +kernel)
    · split
      · exact X9h Q8l ho hL
      · refine Q5o (X9h ?_ ho hL) (Q2e (Q4q (by decide +kernel)) Q8l)
        repeat' split
        all_goals exact Q8m (by decide +kernel)
theorem st_good {x : Stm} (hf : fitB x = true) (hL : LimX x) : AG (stT x) := by
  obtain ⟨p1, p2, p3, p4, p5, p6, p7⟩ := X3t hf
  have hw : AG (expT [[87, 72, 69, 82, 69]] x.wh) := X9h (Q8m (by decide +kernel)) p3 hL.s.wh.2
  have hk : x.k = 1 ∨ x.k = 2 ∨ x.k = 3 ∨ x.k = 4 ∨ x.k = 5 ∨ x.k = 6 := by omega
  unfold stT
  rcases hk with hk | hk | hk | hk | hk | hk <;> rw [hk] <;> simp only [Int.reduceEq, if_true, if_false]
  · obtain ⟨a, b⟩ := p4 hk
    unfold X5u at a
    rw [Bool.and_eq_true] at a
    exact Q5o (Q8m (by decide +kernel)) (Q2e (gN p2) (Q2e (Q4q (by decide +kernel)) (Q5o (ag_flat fun c hc => ag_col (List.all_eq_true.1 a.1 c hc)) (Q5o (Q8m (by decide +kernel)) (Q2e (gN b) (Q8m (by decide +kernel)))))))
  · exact Q5o (Q8m (by decide +kernel)) (Q2e (gN p2) Q8l)
  · have a := p5 hk
    unfold X5v at a
    rw [Bool.and_eq_true] at a
    exact Q5o (Q8m (by decide +kernel)) (Q2e (gN p2) (Q2e (Q4q (by decide +kernel)) (ag_sep fun r hr => ag_row (List.all_eq_true.1 a.1 r hr) (hL.v r hr))))
  · have a := p6 hk
    unfold X5w at a
    rw [Bool.and_eq_true] at a
    exact Q2e (Q4q (by decide +kernel)) (Q2e (gN p2) (Q2e (Q4q (by decide +kernel)) (Q5o (ag_sep fun s hs => ag_set (List.all_eq_true.1 a.1 s hs) (hL.s.set s hs)) hw)))
  · exact Q5o (Q8m (by decide +kernel)) (Q2e (gN p2) hw)
  · obtain ⟨s1, s2, s3, s4, s5⟩ := X3u (p7 hk)
    have hj : joinB x = true := by have := p7 hk; unfold selB at this; exact (Bool.and_eq_true _ _ ▸ this).1
    unfold X0s at s1
    rw [Bool.and_eq_true] at s1
    refine Q2e (Q4q (by decide +kernel)) (Q5o (ag_sep fun y hy => ag_item (List.all_eq_true.1 s1.1 y hy) (hL.s.item y hy).2) (Q2e (Q4q (by decide +kernel)) (Q2e (gN p2) (Q5o ?_ (Q5o hw (Q5o ?_ (Q5o ?_ (Q5o ?_ ?_))))))))
    · unfold joinT
      split
      · exact Q8l
      · rename_i hne
        unfold joinB at hj
        simp only [Bool.or_eq_true, Bool.and_eq_true, decide_eq_true_eq] at hj
        have hn : isNm x.join = true := hj.elim (fun q => absurd q.1 hne) (fun q => q.1)
        exact Q2e (Q4q (by decide +kernel)) (Q2e (gN hn) (X9h (Q8m (by decide +kernel)) s2 hL.s.on.2))
    · exact X9h (Q8m (by decide +kernel)) (Q9n s3) hL.s.gr.2
    · exact X9h (Q8m (by decide +kernel)) (Q9n s4) hL.s.or.2
    · split
      · exact Q2e (Q4q (by decide +kernel)) Q8l
      · exact Q8l
    · split
      · have := hL.s.lim
        unfold inR at this
        exact Q2e (Q4q (by decide +kernel)) (Q2e (gI (by omega)) Q8l)
      · exact Q8l
theorem sc_good {l : List Stm} (h : ∀ x ∈ l, AG (stT x)) : AG (scT l) := by
  cases l with
  | nil => exact Q8l
  | cons x r => exact Q5o (h x (by simp)) (ag_flat fun y hy => Q2e (Q4q (by decide +kernel)) (h y (List.mem_cons_of_mem _ hy)))
theorem scT_take {l : List Stm} {k : Nat} (h : k < l.length) : scT (l.take (k + 1)) = scT (l.take k) ++ ((if k = 0 then [] else [wd [59]]) ++ stT l[k]) := by
  cases l with
  | nil => exact absurd h (by simp)
  | cons x r =>
    cases k with
    | zero => simp [scT]
    | succ k =>
      have hk : k < r.length := by simpa using h
      have e1 : (x :: r).take (k + 1 + 1) = x :: r.take (k + 1) := rfl
      have e2 : (x :: r).take (k + 1) = x :: r.take k := rfl
      have e3 : (x :: r)[k + 1] = r[k] := rfl
      rw [e1, e2, e3, if_neg (by omega)]
      show stT x ++ ((r.take (k + 1)).map _).flatten = (stT x ++ ((r.take k).map _).flatten) ++ _
      rw [List.take_succ_eq_append_getElem hk, List.map_append, List.flatten_append]
      simp
theorem Y1c {l : List Stm} {N : Nat} : ∀ k, (∀ x ∈ l.take k, (stT x).length ≤ N) → (scT (l.take k)).length ≤ (N + 1) * k
  | 0, _ => by simp [scT]
  | k + 1, h => by
    rcases Nat.lt_or_ge k l.length with hk | hk
    · have ih := Y1c (l := l) k (fun x hx => h x (by rw [List.take_succ_eq_append_getElem hk]; exact List.mem_append_left _ hx))
      have h2 := h l[k] (by rw [List.take_succ_eq_append_getElem hk]; exact List.mem_append_right _ (List.mem_singleton.2 rfl))
      rw [scT_take hk, zw, zw, Nat.mul_succ]
      have : (if k = 0 then ([] : List Tk) else [wd [59]]).length ≤ 1 := by split <;> simp
      omega
    · have e : l.take (k + 1) = l.take k := by rw [List.take_of_length_le hk, List.take_of_length_le (by omega)]
      rw [e] at h ⊢
      have ih := Y1c (l := l) k h
      rw [Nat.mul_succ]
      omega
theorem scD_le {l : List Stm} {N : Nat} (h : ∀ x ∈ l, stD x ≤ N) : scD l ≤ N := by
  unfold scD
  induction l with
  | nil => exact Nat.zero_le _
  | cons x r ih =>
    have h1 := h x (by simp)
    have h2 := ih (fun y hy => h y (List.mem_cons_of_mem _ hy))
    show max (stD x) (maxD stD r) ≤ N
    omega
def Nx (ws : List By) (r : List Tk) : Prop := WF r ∧ ((hd r).1 = 6 ∨ ∃ w ∈ ws, hd r = wd w)
theorem X5a {ws : List By} {w : By} {r : List Tk} (hw : w ∈ ws) (hr : WF r) : Nx ws (wd w :: r) := ⟨Q3s hr, .inr ⟨w, hw, rfl⟩⟩
theorem Nx.mono {ws vs : List By} {r : List Tk} (h : Nx ws r) (hs : ∀ w ∈ ws, w ∈ vs) : Nx vs r := ⟨h.1, h.2.imp id fun ⟨w, hw, e⟩ => ⟨w, hs w hw, e⟩⟩
theorem Q1i (w : By) : isW (wd w) w = true := by unfold isW wd; split <;> simp [wT, sT]
theorem isW_ne {w v : By} (h : w ≠ v) : isW (wd w) v = false := by unfold isW wd; split <;> simp [wT, sT, h]
theorem hd_ne {w v : By} {r : List Tk} (h : w ≠ v) : isW (hd (wd w :: r)) v = false := isW_ne h
theorem isW_k {x : Tk} (h : x.1 = 6 ∨ x.1 = 1 ∨ x.1 = 3 ∨ x.1 = 4) (v : By) : isW x v = false := decide_eq_false (fun ⟨q, _⟩ => by omega)
theorem Nx.no {ws : List By} {r : List Tk} (h : Nx ws r) {v : By} (hv : v ∉ ws) : isW (hd r) v = false := by
  rcases h.2 with h | ⟨w, hw, e⟩
  · exact isW_k (.inl h) v
  · rw [e]; exact isW_ne (fun q => hv (q ▸ hw))
theorem Nx.stop {ws : List By} {r : List Tk} (h : Nx ws r) (ho : ∀ w ∈ ws, w ∉ opsF 1) : Stop 1 r := fun v hv => h.no (fun q => ho v q hv)
structure XB (e : Ex) : Prop where
  rt : Go.Print.rt e = true
  lim : Lim e
  dp : (toTr e).dp ≤ 10
theorem rd_e {e : Ex} {r : List Tk} (h : XB e) (hr : WF r) (hs : Stop 1 r) : exp (stR ((toTr e).tk ++ r) 0) = (e, stR r 0) := by
  obtain ⟨q1, q2⟩ := X1j e h.rt
  have := rd_exp (r := r) q2 (X3o _ (by rw [q1]; exact h.lim)) h.dp hr hs
  rw [q1] at this
  exact this
theorem nx_exp {w : By} {vs ws : List By} {r : List Tk} {l : List Ex} (hN : Nx ws r) : Nx (w :: ws) (expT (w :: vs) l ++ r) := by
  cases l with
  | nil => exact hN.mono fun v hv => List.mem_cons_of_mem _ hv
  | cons e t => exact X5a (r := (wds vs ++ (toTr e).tk) ++ r) (by simp) (X8t _ hN.1)
theorem Y1d {w : By} {ws : List By} {r : List Tk} {l : List Ex} (h1 : l.length ≤ 1) (hl : ∀ e ∈ l, XB e) (hN : Nx ws r) (hw : w ∉ ws) (ho : ∀ v ∈ ws, v ∉ opsF 1) : Q2r w (stR (expT [w] l ++ r) 0) = (l, stR r 0) := by
  match l, h1, hl with
  | [], _, _ =>
    show Q2r w (stR r 0) = _
    unfold Q2r
    rw [Q8d (hN.no hw), Q8e (hN.no hw)]; rfl
  | [e], _, hl =>
    show Q2r w (stR (wd w :: ((toTr e).tk ++ r)) 0) = _
    unfold Q2r
    rw [Q4x (Q1i w), Q5c (Q1i w), rd_e (hl e (by simp)) hN.1 (hN.stop ho)]
    rfl
theorem col_of {e : Ex} (hr : rt e = true) (hk : e.kd = 2) : ∃ t n, e = .mk 2 0 t n v0 [] := by
  cases e with
  | mk k op t n v l =>
    have hk : k = 2 := hk
    subst hk
    rw [Y0f, Bool.and_eq_true] at hr
    rcases rtN_cases hr.1 with ⟨q, _⟩ | ⟨_, _, _, rfl, rfl, hl⟩ | ⟨q, _⟩ | ⟨q, _⟩
    · cases q
    · exact ⟨t, n, by rw [List.length_eq_zero_iff.1 hl]⟩
    · cases q
    · omega
theorem rd_by {w : By} {ws : List By} {r : List Tk} {l : List Ex} (h1 : l.length ≤ 1) (hl : ∀ e ∈ l, XB e) (hc : ∀ e ∈ l, e.kd = 2) (hN : Nx ws r) (hw : w ∉ ws) (hd : [46] ∉ ws) : byL w (stR (expT [w, [66, 89]] l ++ r) 0) = (l, stR r 0) := by
  match l, h1, hl, hc with
  | [], _, _, _ =>
    show byL w (stR r 0) = _
    unfold byL
    rw [Q8d (hN.no hw), Q8e (hN.no hw)]; rfl
  | [e], _, hl, hc =>
    obtain ⟨t, n, rfl⟩ := col_of (hl e (by simp)).rt (hc e (by simp))
    have e1 : toTr (.mk 2 0 t n v0 []) = .col t n := by rw [X1i, Q5t]; rfl
    show byL w (stR (wd w :: wd [66, 89] :: ((toTr (.mk 2 0 t n v0 [])).tk ++ r)) 0) = _
    unfold byL
    rw [Q4x (Q1i w), Q5c (Q1i w), Q1f [] (Q1i [66, 89]), Q3e, e1]
    by_cases ht : t = []
    · have htk : (Tr.col t n).tk = [nT n] := by rw [Tr.tk, if_pos ht]
      rw [htk]
      subst ht
      have h3 : Rd.column (stR ([nT n] ++ r) 0) = (.mk 2 0 [] n v0 [], stR r 0) := X8u (n := n) (d := 0) (hN.no hd)
      rw [h3]; rfl
    · have htk : (Tr.col t n).tk = [nT t, sT [46], nT n] := by rw [Tr.tk, if_neg ht]
      rw [htk]
      have h3 : Rd.column (stR ([nT t, sT [46], nT n] ++ r) 0) = (.mk 2 0 t n v0 [], stR r 0) := X8v (t := t) (n := n) (r := r) (d := 0)
      rw [h3]; rfl
def sepG {β : Type} (sep : By) (one : β → List Tk) : List β → List Tk
  | [] => []
  | [x] => one x
  | x :: y :: r => one x ++ wd sep :: sepG sep one (y :: r)
theorem X7v {β : Type} (one : β → List Tk) : ∀ l : List β, sepT one l = sepG [44] one l
  | [] => rfl
  | [x] => rfl
  | x :: y :: r => by show one x ++ wd [44] :: sepT one (y :: r) = _; rw [X7v one (y :: r)]; rfl
theorem scT_eq : ∀ l : List Stm, scT l = sepG [59] stT l
  | [] => rfl
  | [x] => by show stT x ++ [] = stT x; simp
  | x :: y :: r => by
    have ih := scT_eq (y :: r)
    show stT x ++ ((wd [59] :: stT y) ++ (r.map fun s => wd [59] :: stT s).flatten) = stT x ++ wd [59] :: sepG [59] stT (y :: r)
    rw [← ih]; rfl
theorem X5b {β : Type} {one : Rd → β × Rd} {sep : By} {tok : β → List Tk} {ws : List By} {r : List Tk} (hN : Nx ws r) (hsep : sep ∉ ws) : ∀ (l : List β) (k : Nat) (acc : List β), l ≠ [] → l.length ≤ k → (∀ x ∈ l, ∀ r', Nx (sep :: ws) r' → one (stR (tok x ++ r') 0) = (x, stR r' 0)) →
    Q2w one sep k acc (stR (sepG sep tok l ++ r) 0) = (acc ++ l, stR r 0)
  | [], _, _, h, _, _ => absurd rfl h
  | _ :: _, 0, _, _, h, _ => by simp at h
  | [x], k + 1, acc, _, _, h => by
    have e := h x (by simp) r (hN.mono fun w hw => List.mem_cons_of_mem _ hw)
    show Q2w one sep (k + 1) acc (stR (tok x ++ r) 0) = _
    unfold Q2w
    simp only [e, Q8d (hN.no hsep), Q8e (hN.no hsep), Bool.false_eq_true, if_false]
  | x :: y :: t, k + 1, acc, _, hk, h => by
    have e := h x (by simp) (wd sep :: (sepG sep tok (y :: t) ++ r)) (X5a (by simp) (X8t _ hN.1))
    have ex : sepG sep tok (x :: y :: t) ++ r = tok x ++ wd sep :: (sepG sep tok (y :: t) ++ r) := by
      show (tok x ++ wd sep :: sepG sep tok (y :: t)) ++ r = _
      simp
    rw [ex]
    unfold Q2w
    simp only [e, Q4x (Q1i sep), Q5c (Q1i sep), if_true]
    rw [X5b hN hsep (y :: t) k (acc ++ [x]) (by simp) (by simpa using hk) (fun z hz => h z (List.mem_cons_of_mem _ hz))]
    simp
theorem coKind_1 (r : List Tk) : Q6d (stR (wd [73, 78, 84] :: r) 0) = (1, stR r 0) := by
  have h : (stR (wd [73, 78, 84] :: r) 0).is X5o = 0 := Q4v (.inl rfl) (by decide)
  unfold Q6d Rd.pass
  rw [h]; rfl
theorem coKind_2 (r : List Tk) : Q6d (stR (wd [84, 69, 88, 84] :: r) 0) = (2, stR r 0) := by
  have h : (stR (wd [84, 69, 88, 84] :: r) 0).is X5o = 1 := Q4v (.inl rfl) (by decide)
  unfold Q6d Rd.pass
  rw [h]; rfl
theorem coNull_1 (r : List Tk) : Q8x (stR (wd [78, 79, 84] :: wd [78, 85, 76, 76] :: r) 0) = (true, stR r 0) := by
  unfold Q8x
  rw [Q4x (Q1i _), Q5c (Q1i _), Q1f [] (Q1i _)]; rfl
theorem coNull_0 {r : List Tk} (h : isW (hd r) [78, 79, 84] = false) : Q8x (stR r 0) = (false, stR r 0) := by
  unfold Q8x
  rw [Q8d h, Q8e h]; rfl
theorem rd_col1 {c : Co} (h : X2x c = true) (r : List Tk) : (stR (colT c ++ r) 0).columnOf = (c, stR (wd [44] :: r) 0) := by
  obtain ⟨n, kd, nn, un⟩ := c
  unfold X2x at h
  simp only [Bool.and_eq_true, decide_eq_true_eq] at h
  have u1 : ∀ r, Q8x (stR (wd [85, 78, 73, 81, 85, 69] :: r) 0) = (false, stR (wd [85, 78, 73, 81, 85, 69] :: r) 0) := fun r => coNull_0 (hd_ne (by decide))
  have u2 : ∀ r, Q8x (stR (wd [44] :: r) 0) = (false, stR (wd [44] :: r) 0) := fun r => coNull_0 (hd_ne (by decide))
  have v1 : ∀ r, (stR (wd [85, 78, 73, 81, 85, 69] :: r) 0).has [85, 78, 73, 81, 85, 69] = true := fun r => Q4x (Q1i _)
  have v2 : ∀ r, (stR (wd [44] :: r) 0).has [85, 78, 73, 81, 85, 69] = false := fun r => Q8d (hd_ne (by decide))
  have w1 : ∀ r, (stR (wd [85, 78, 73, 81, 85, 69] :: r) 0).pass [[85, 78, 73, 81, 85, 69]] = stR r 0 := fun r => Q5c (Q1i _)
  have w2 : ∀ r, (stR (wd [44] :: r) 0).pass [[85, 78, 73, 81, 85, 69]] = stR (wd [44] :: r) 0 := fun r => Q8e (hd_ne (by decide))
  have t1 : ∀ r, (stR (nT n :: r) 0).take 1 = stR r 0 := fun r => Q5u rfl
  have t2 : ∀ r, ((stR (nT n :: r) 0).tok 1).2.1 = n := fun r => by rw [Q8w (k := 1) (x := nT n) rfl]; rfl
  rcases h.2 with rfl | rfl <;> cases nn <;> cases un <;> simp [colT, wds, Rd.columnOf, t1, t2, coKind_1, coKind_2, coNull_1, u1, u2, v1, v2, w1, w2]
theorem rd_cols {r : List Tk} (hr : WF r) : ∀ (l : List Co) (k : Nat) (acc : List Co), l.length ≤ k → (acc ≠ [] ∨ l ≠ []) → (∀ c ∈ l, X2x c = true) → Q5b k acc (stR ((l.map colT).flatten ++ wd [80, 82, 73, 77, 65, 82, 89] :: r) 0) = (acc ++ l, stR r 0)
  | [], k, acc, _, ha, _ => by
    have ha : acc ≠ [] := ha.resolve_right (fun h => h rfl)
    have hm : Q2f acc (stR (wd [80, 82, 73, 77, 65, 82, 89] :: r) 0) = false := by
      unfold Q2f; rw [Q4x (Q1i _)]; simp [ha]
    have hat : Q2x acc (stR (wd [80, 82, 73, 77, 65, 82, 89] :: r) 0) = stR r 0 := by
      unfold Q2x; rw [if_pos ⟨rfl, ha⟩, Q5c (Q1i _)]
    show Q5b k acc (stR (wd [80, 82, 73, 77, 65, 82, 89] :: r) 0) = _
    cases k <;> unfold Q5b <;> rw [hm, hat] <;> simp
  | c :: l, 0, _, h, _, _ => by simp at h
  | c :: l, k + 1, acc, hk, _, hc => by
    have e : ((c :: l).map colT).flatten ++ wd [80, 82, 73, 77, 65, 82, 89] :: r = colT c ++ ((l.map colT).flatten ++ wd [80, 82, 73, 77, 65, 82, 89] :: r) := by simp
    rw [e]
    have hn : isW (hd (colT c ++ ((l.map colT).flatten ++ wd [80, 82, 73, 77, 65, 82, 89] :: r))) [80, 82, 73, 77, 65, 82, 89] = false := isW_k (x := nT c.1) (.inr (.inl rfl)) _
    have hm : Q2f acc (stR (colT c ++ ((l.map colT).flatten ++ wd [80, 82, 73, 77, 65, 82, 89] :: r)) 0) = true := by
      unfold Q2f; rw [Q8d hn]; simp [stR]
    have hat : Q2x acc (stR (colT c ++ ((l.map colT).flatten ++ wd [80, 82, 73, 77, 65, 82, 89] :: r)) 0) = stR (colT c ++ ((l.map colT).flatten ++ wd [80, 82, 73, 77, 65, 82, 89] :: r)) 0 := by
      unfold Q2x; rw [Q8e hn]; split <;> rfl
    unfold Q5b
    rw [hm, hat, rd_col1 (hc c (by simp))]
    simp only [if_true]
    rw [Q1f [] (Q1i _), Q3e, rd_cols hr l k (acc ++ [c]) (by simpa using hk) (.inl (by simp)) (fun d hd => hc d (List.mem_cons_of_mem _ hd))]
    simp
theorem rd_lit {v : Vl} {r : List Tk} (hw : okV v = true) (hr : inR v.2.1) : litV (stR (litT v ++ r) 0) = (v, stR r 0) := by
  have h : (stR (litT v ++ r) 0).lit = (v, true, stR r 0) := by
    have h1 := rd_val (r := r) (d := 0) (D := ⟨fun s => (ex0, s.fail 4), fun s => (ex0, s.fail 4), fun s => (ex0, s.fail 4)⟩) hw hr
    unfold facL at h1
    generalize (stR (litT v ++ r) 0).lit = L at *
    obtain ⟨a, b, c⟩ := L
    cases b with
    | true =>
      simp only [if_true, Prod.mk.injEq, Ex.mk.injEq, true_and, and_true] at h1
      rw [h1.1, h1.2]
    | false =>
      simp only [Bool.false_eq_true, if_false] at h1
      exfalso
      revert h1
      split
      · intro h; have := congrArg Prod.fst h; cases this
      · split
        · unfold Q1u
          split
          · intro h; have := congrArg Prod.fst h; cases this
          · intro h; have := congrArg Prod.fst h; cases this
        · unfold Rd.column
          split
          · intro h; have := congrArg Prod.fst h; cases this
          · intro h; have := congrArg Prod.fst h; cases this
  unfold litV
  rw [h]; rfl
theorem rd_tuple {x : List Vl} (h : rowB x = true) (hv : ∀ v ∈ x, inR v.2.1) {r : List Tk} (hr : WF r) : Q4w (stR (rowT x ++ r) 0) = (x, stR r 0) := by
  unfold rowB at h
  simp only [Bool.and_eq_true, decide_eq_true_eq] at h
  have h1 := List.all_eq_true.1 h.1
  have hne : x ≠ [] := fun e => by rw [e] at h; simp at h
  have e : rowT x ++ r = wd [40] :: (sepG [44] litT x ++ wd [41] :: r) := by
    show (wd [40] :: (sepT litT x ++ [wd [41]])) ++ r = _
    rw [X7v]; simp
  rw [e]
  unfold Q4w many
  rw [Q1f [] (Q1i _), Q3e, X5b (ws := [[41]]) (X5a (by simp) hr) (by decide) x 8 [] hne h.2.2 (fun v hv' r' hr' => rd_lit (h1 v hv') (hv v hv'))]
  simp only [List.nil_append]
  rw [Q1f [] (Q1i _)]; rfl
theorem rd_set {x : Se} (h : isNm x.1 = true) (hx : XB x.2) {r : List Tk} (hr : WF r) (hs : Stop 1 r) : setL (stR (setT x ++ r) 0) = (x, stR r 0) := by
  show setL (stR (nT x.1 :: wd [61] :: ((toTr x.2).tk ++ r)) 0) = _
  unfold setL
  rw [Q5u (k := 1) (x := nT x.1) rfl, Q8w (k := 1) (x := nT x.1) rfl, Q1f [] (Q1i _), Q3e, rd_e hx hr hs]
  rfl
theorem noItem : ∀ t : Tr, t.wf → ∀ w ∈ wItems, isW (hd t.tk) w = false := by
  have hLP : ∀ w ∈ wItems, isW (sT [40]) w = false := by decide +kernel
  have hN : ∀ w ∈ wItems, isW (wT [78, 79, 84]) w = false := by decide +kernel
  have hM : ∀ w ∈ wItems, isW (sT [45]) w = false := by decide +kernel
  have hU : ∀ w ∈ wItems, isW (wT [78, 85, 76, 76]) w = false := by decide +kernel
  intro t
  induction t with
  | val v =>
    intro _ w hw
    show isW (hd (litT v)) w = false
    unfold litT numT
    repeat' split
    · exact hU w hw
    · exact isW_k (.inr (.inr (.inr rfl))) w
    · exact hM w hw
    · exact isW_k (.inr (.inr (.inl rfl))) w
  | col t n =>
    intro _ w hw
    rw [Tr.tk]
    split <;> exact isW_k (.inr (.inl rfl)) w
  | null e ih =>
    intro h w hw
    rw [Q9i, X1l (Y0i (X8i e))]
    exact hd_br (P := fun x => isW x w = false) (hLP w hw) (fun _ => ih h w hw)
  | neg e ih => intro _ w hw; rw [X3j]; exact hM w hw
  | not e ih =>
    intro h w hw
    cases he : e.isNull with
    | false => rw [X1k he]; exact hN w hw
    | true =>
      cases e <;> first | (cases he; done) | skip
      rename_i y
      have h2 := ih h w hw
      rw [Q9i, X1l (Y0i (X8i y))] at h2
      rw [Q4t, X1l (Y0i (X8i y))]
      exact h2
  | op k a b iha ihb =>
    intro h w hw
    rw [Y0h, X1l (Y0i (X8i a))]
    exact hd_br (P := fun x => isW x w = false) (hLP w hw) (fun _ => iha h.2.1 w hw)
theorem rd_item {x : It} (h : Q4o x = true) (hx : ∀ e ∈ x.2, XB e) {r : List Tk} (hN : Nx [[44], [70, 82, 79, 77]] r) : Q6h (stR (Q8j x ++ r) 0) = (x, stR r 0) := by
  obtain ⟨k, a⟩ := x
  rcases X5p h with ⟨hk, ha⟩ | ⟨hk, e, ha, hr⟩
  · dsimp only at hk ha hx ⊢
    subst ha
    rcases hk with rfl | rfl
    · show Q6h (stR (wd [42] :: r) 0) = _
      have hi : (stR (wd [42] :: r) 0).is wItems = 4 := Q4v (.inr rfl) (by decide)
      unfold Q6h Rd.pass
      rw [hi]; rfl
    · show Q6h (stR (wd [67, 79, 85, 78, 84] :: wd [40] :: wd [42] :: wd [41] :: r) 0) = _
      have hi : (stR (wd [67, 79, 85, 78, 84] :: wd [40] :: wd [42] :: wd [41] :: r) 0).is wItems = 0 := Q4v (.inl rfl) (by decide)
      have hp : (stR (wd [67, 79, 85, 78, 84] :: wd [40] :: wd [42] :: wd [41] :: r) 0).pass wItems = stR (wd [40] :: wd [42] :: wd [41] :: r) 0 := by unfold Rd.pass; rw [hi]; rfl
      unfold Q6h
      rw [hi, hp, Q1f [] (Q1i _), Q3e]
      simp only [Int.reduceLT, if_false, Int.reduceEq]
      unfold X1m
      rw [Q4x (Q1i _), Q5c (Q1i _), Q1f [] (Q1i _)]; rfl
  · dsimp only at hk ha hx ⊢
    subst ha
    have hX := hx e (by simp)
    obtain ⟨q1, q2⟩ := X1j e hr
    have hno := noItem (toTr e) q2
    have hst : Stop 1 r := hN.stop (by decide)
    have hE := rd_e hX hN.1 hst
    have hE2 := rd_e (r := wd [41] :: r) hX (Q3s hN.1) (stop_rp 1 r)
    have hne := X8i (toTr e)
    rcases hk with rfl | rfl | rfl | rfl | rfl
    · show Q6h (stR ((toTr e).tk ++ r) 0) = _
      have hi : (stR ((toTr e).tk ++ r) 0).is wItems = -1 := is_no (by rw [X1l hne]; exact hno)
      have hp : (stR ((toTr e).tk ++ r) 0).pass wItems = stR ((toTr e).tk ++ r) 0 := by unfold Rd.pass; rw [hi]; rfl
      unfold Q6h
      rw [hi, hp, hE]; rfl
    · have e1 : Q8j (4, [e]) ++ r = wd [67, 79, 85, 78, 84] :: wd [40] :: ((toTr e).tk ++ wd [41] :: r) := by
        show (wds [[67, 79, 85, 78, 84], [40]] ++ (toTr e).tk ++ [wd [41]]) ++ r = _
        simp [wds]
      rw [e1]
      have hi : (stR (wd [67, 79, 85, 78, 84] :: wd [40] :: ((toTr e).tk ++ wd [41] :: r)) 0).is wItems = 0 := Q4v (.inl rfl) (by decide)
      have hp : (stR (wd [67, 79, 85, 78, 84] :: wd [40] :: ((toTr e).tk ++ wd [41] :: r)) 0).pass wItems = stR (wd [40] :: ((toTr e).tk ++ wd [41] :: r)) 0 := by unfold Rd.pass; rw [hi]; rfl
      have hs : isW (hd ((toTr e).tk ++ wd [41] :: r)) [42] = false := by rw [X1l hne]; exact hno _ (by decide)
      unfold Q6h
      rw [hi, hp, Q1f [] (Q1i _), Q3e]
      simp only [Int.reduceLT, if_false, Int.reduceEq]
      unfold X1m
      rw [Q8d hs, Q8e hs, hE2]
      simp only [Int.reduceLT, if_false, Bool.false_eq_true]
      rw [Q1f [] (Q1i _)]; rfl
    · have e1 : Q8j (5, [e]) ++ r = wd [83, 85, 77] :: wd [40] :: ((toTr e).tk ++ wd [41] :: r) := by
        show (wds [[83, 85, 77], [40]] ++ (toTr e).tk ++ [wd [41]]) ++ r = _
        simp [wds]
      rw [e1]
      have hi : (stR (wd [83, 85, 77] :: wd [40] :: ((toTr e).tk ++ wd [41] :: r)) 0).is wItems = 1 := Q4v (.inl rfl) (by decide)
      have hp : (stR (wd [83, 85, 77] :: wd [40] :: ((toTr e).tk ++ wd [41] :: r)) 0).pass wItems = stR (wd [40] :: ((toTr e).tk ++ wd [41] :: r)) 0 := by unfold Rd.pass; rw [hi]; rfl
      unfold Q6h
      rw [hi, hp, Q1f [] (Q1i _), Q3e]
      simp only [Int.reduceLT, if_false, Int.reduceEq]
      unfold X1m
      rw [hE2]
      simp only [Int.reduceLT, if_true]
      rw [Q1f [] (Q1i _)]; rfl
    · have e1 : Q8j (6, [e]) ++ r = wd [77, 73, 78] :: wd [40] :: ((toTr e).tk ++ wd [41] :: r) := by
        show (wds [[77, 73, 78], [40]] ++ (toTr e).tk ++ [wd [41]]) ++ r = _
        simp [wds]
      rw [e1]
      have hi : (stR (wd [77, 73, 78] :: wd [40] :: ((toTr e).tk ++ wd [41] :: r)) 0).is wItems = 2 := Q4v (.inl rfl) (by decide)
      have hp : (stR (wd [77, 73, 78] :: wd [40] :: ((toTr e).tk ++ wd [41] :: r)) 0).pass wItems = stR (wd [40] :: ((toTr e).tk ++ wd [41] :: r)) 0 := by unfold Rd.pass; rw [hi]; rfl
      unfold Q6h
      rw [hi, hp, Q1f [] (Q1i _), Q3e]
      simp only [Int.reduceLT, if_false, Int.reduceEq]
      unfold X1m
      rw [hE2]
      simp only [Int.reduceLT, if_true]
      rw [Q1f [] (Q1i _)]; rfl
    · have e1 : Q8j (7, [e]) ++ r = wd [77, 65, 88] :: wd [40] :: ((toTr e).tk ++ wd [41] :: r) := by
        show (wds [[77, 65, 88], [40]] ++ (toTr e).tk ++ [wd [41]]) ++ r = _
        simp [wds]
      rw [e1]
      have hi : (stR (wd [77, 65, 88] :: wd [40] :: ((toTr e).tk ++ wd [41] :: r)) 0).is wItems = 3 := Q4v (.inl rfl) (by decide)
      have hp : (stR (wd [77, 65, 88] :: wd [40] :: ((toTr e).tk ++ wd [41] :: r)) 0).pass wItems = stR (wd [40] :: ((toTr e).tk ++ wd [41] :: r)) 0 := by unfold Rd.pass; rw [hi]; rfl
      unfold Q6h
      rw [hi, hp, Q1f [] (Q1i _), Q3e]
      simp only [Int.reduceLT, if_false, Int.reduceEq]
      unfold X1m
      rw [hE2]
      simp only [Int.reduceLT, if_true]
      rw [Q1f [] (Q1i _)]; rfl
structure StB (x : Stm) : Prop where
  fit : fitB x = true
  lim : LimX x
  dp : stD x ≤ 10
theorem bare_parts {x : Stm} (h : fitB x = true) : (x.k = 1 ∨ (x.cols = [] ∧ x.pk = [])) ∧ (x.k = 3 ∨ x.rows = []) ∧ (x.k = 4 ∨ x.sets = []) ∧ (x.k = 6 ∨ (x.items = [] ∧ x.on = [] ∧ x.gr = [] ∧ x.or = [] ∧ x.join = [] ∧ x.desc = false ∧ x.lim = -1)) ∧ (4 ≤ x.k ∨ x.wh = []) := by
  unfold fitB X8j X0o X1s at h
  simp only [Bool.and_eq_true, Bool.or_eq_true, decide_eq_true_eq, Bool.not_eq_true', Bool.or_eq_false_iff, decide_eq_false_iff_not, List.length_eq_zero_iff] at h
  obtain ⟨⟨_, _, h1, h2, h3, h4, h5⟩, _⟩ := h
  refine ⟨h1.imp id fun q => ⟨List.length_eq_zero_iff.1 (by omega), Classical.byContradiction fun r => q.2 r⟩, h2, h3, h4.imp id fun q => ?_, h5⟩
  obtain ⟨a, b, c, d⟩ := q
  exact ⟨List.length_eq_zero_iff.1 (by omega), List.length_eq_zero_iff.1 (by omega), List.length_eq_zero_iff.1 (by omega), List.length_eq_zero_iff.1 (by omega), Classical.byContradiction fun r => b r, c, Classical.byContradiction fun r => d r⟩
theorem X5c {w : By} {r : List Tk} {n : Nat} (h : (stR (wd w :: r) 0).is wKinds = (n : Int)) : Q1e (stR (wd w :: r) 0) = Q8y n (stR r 0) := by
  unfold Q1e Rd.pass
  rw [h, if_pos (by omega)]; rfl
theorem Q5x {l : List Ex} (h : oneB l = true) : l.length ≤ 1 ∧ ∀ e ∈ l, rt e = true := by
  unfold oneB at h
  simp only [Bool.and_eq_true, decide_eq_true_eq] at h
  refine ⟨h.1, fun e he => ?_⟩
  match l, h.1, he, h.2 with
  | [x], _, he, h2 =>
    rw [List.mem_singleton.1 he]
    rw [Q3d, Bool.and_eq_true] at h2; exact h2.1
theorem expD_le {l : List Ex} (h : l.length ≤ 1) {e : Ex} (he : e ∈ l) : (toTr e).dp = expD l := by
  match l, h, he with
  | [x], _, he => rw [List.mem_singleton.1 he]; rfl
theorem xb_of {l : List Ex} (h : oneB l = true) (hL : ∀ e ∈ l, Lim e) (hd : expD l ≤ 10) : ∀ e ∈ l, XB e := fun e he => ⟨(Q5x h).2 e he, hL e he, by rw [expD_le (Q5x h).1 he]; exact hd⟩
theorem X6g {β : Type} {f : β → Nat} : ∀ {l : List β} {x : β}, x ∈ l → f x ≤ maxD f l
  | y :: r, x, h => by
    show f x ≤ max (f y) (maxD f r)
    rcases List.mem_cons.1 h with rfl | h
    · omega
    · have := X6g (f := f) h; omega
theorem rd_state {x : Stm} (h : StB x) {r : List Tk} (hN : Nx [[59]] r) : Q1e (stR (stT x ++ r) 0) = (x, stR r 0) := by
  obtain ⟨p1, p2, p3, p4, p5, p6, p7⟩ := X3t h.fit
  obtain ⟨b1, b2, b3, b4, b5⟩ := bare_parts h.fit
  have hD := h.dp
  have hL := h.lim
  have hk : x.k = 1 ∨ x.k = 2 ∨ x.k = 3 ∨ x.k = 4 ∨ x.k = 5 ∨ x.k = 6 := by omega
  obtain ⟨k, t, cols, pk, rows, sets, items, join, on, wh, gr, or, desc, lim⟩ := x
  dsimp only at p1 p2 p3 p4 p5 p6 p7 b1 b2 b3 b4 b5 hk
  rcases hk with rfl | rfl | rfl | rfl | rfl | rfl
  · obtain rfl := b2.resolve_left (by decide)
    obtain rfl := b3.resolve_left (by decide)
    obtain ⟨rfl, rfl, rfl, rfl, rfl, rfl, rfl⟩ := b4.resolve_left (by decide)
    obtain rfl := b5.resolve_left (by decide)
    obtain ⟨c1, c2⟩ := p4 rfl
    unfold X5u at c1
    simp only [Bool.and_eq_true, decide_eq_true_eq] at c1
    have hne : cols ≠ [] := fun e => by rw [e] at c1; simp at c1
    have e1 : stT ⟨1, t, cols, pk, [], [], [], [], [], [], [], [], false, -1⟩ ++ r = wd [67, 82, 69, 65, 84, 69] :: wd [84, 65, 66, 76, 69] :: nT t :: wd [40] :: ((cols.map colT).flatten ++ wd [80, 82, 73, 77, 65, 82, 89] :: wd [75, 69, 89] :: wd [40] :: nT pk :: wd [41] :: wd [41] :: r) := by
      show (wds [[67, 82, 69, 65, 84, 69], [84, 65, 66, 76, 69]] ++ (nT t :: wd [40] :: ((cols.map colT).flatten ++ (wds [[80, 82, 73, 77, 65, 82, 89], [75, 69, 89], [40]] ++ (nT pk :: wds [[41], [41]]))))) ++ r = _
      simp [wds]
    rw [e1, X5c (n := 0) (Q4v (.inl rfl) (by decide))]
    show Q6i _ = _
    have q1 : crA (stR (wd [84, 65, 66, 76, 69] :: nT t :: wd [40] :: ((cols.map colT).flatten ++ wd [80, 82, 73, 77, 65, 82, 89] :: wd [75, 69, 89] :: wd [40] :: nT pk :: wd [41] :: wd [41] :: r)) 0) = stR (nT t :: wd [40] :: ((cols.map colT).flatten ++ wd [80, 82, 73, 77, 65, 82, 89] :: wd [75, 69, 89] :: wd [40] :: nT pk :: wd [41] :: wd [41] :: r)) 0 := Q1f [] (Q1i _)
    have hW : WF (wd [75, 69, 89] :: wd [40] :: nT pk :: wd [41] :: wd [41] :: r) := Q3s (Q3s (Q3s (Q3s (Q3s hN.1))))
    have q2 : crC (stR (wd [84, 65, 66, 76, 69] :: nT t :: wd [40] :: ((cols.map colT).flatten ++ wd [80, 82, 73, 77, 65, 82, 89] :: wd [75, 69, 89] :: wd [40] :: nT pk :: wd [41] :: wd [41] :: r)) 0) = (cols, stR (wd [75, 69, 89] :: wd [40] :: nT pk :: wd [41] :: wd [41] :: r) 0) := by
      unfold crC crB
      rw [q1, Q5u (k := 1) (x := nT t) rfl, Q1f [] (Q1i _), Q3e, rd_cols hW cols 8 [] c1.2.2 (.inr hne) (fun c hc => List.all_eq_true.1 c1.1 c hc)]
      rfl
    unfold Q6i crD
    rw [q2, q1, Q1f _ (Q1i _), Q1f [] (Q1i _), Q3e, Q8w (k := 1) (x := nT t) rfl, Q8w (k := 1) (x := nT pk) rfl, Q5u (k := 1) (x := nT pk) rfl, Q1f _ (Q1i _), Q1f [] (Q1i _), Q3e]
    rfl
  · obtain ⟨rfl, rfl⟩ := b1.resolve_left (by decide)
    obtain rfl := b2.resolve_left (by decide)
    obtain rfl := b3.resolve_left (by decide)
    obtain ⟨rfl, rfl, rfl, rfl, rfl, rfl, rfl⟩ := b4.resolve_left (by decide)
    obtain rfl := b5.resolve_left (by decide)
    show Q1e (stR (wd [68, 82, 79, 80] :: wd [84, 65, 66, 76, 69] :: nT t :: r) 0) = _
    rw [X5c (n := 1) (Q4v (.inl rfl) (by decide))]
    show X4l _ = _
    unfold X4l
    rw [Q1f [] (Q1i _), Q3e, Q8w (k := 1) (x := nT t) rfl, Q5u (k := 1) (x := nT t) rfl]
    rfl
  · obtain ⟨rfl, rfl⟩ := b1.resolve_left (by decide)
    obtain rfl := b3.resolve_left (by decide)
    obtain ⟨rfl, rfl, rfl, rfl, rfl, rfl, rfl⟩ := b4.resolve_left (by decide)
    obtain rfl := b5.resolve_left (by decide)
    have c1 := p5 rfl
    unfold X5v at c1
    simp only [Bool.and_eq_true, decide_eq_true_eq] at c1
    have hne : rows ≠ [] := fun e => by rw [e] at c1; simp at c1
    have e1 : stT ⟨3, t, [], [], rows, [], [], [], [], [], [], [], false, -1⟩ ++ r = wd [73, 78, 83, 69, 82, 84] :: wd [73, 78, 84, 79] :: nT t :: wd [86, 65, 76, 85, 69, 83] :: (sepG [44] rowT rows ++ r) := by
      show (wds [[73, 78, 83, 69, 82, 84], [73, 78, 84, 79]] ++ (nT t :: wd [86, 65, 76, 85, 69, 83] :: sepT rowT rows)) ++ r = _
      rw [X7v]; simp [wds]
    rw [e1, X5c (n := 2) (Q4v (.inl rfl) (by decide))]
    show Q6j _ = _
    have q1 : inA (stR (wd [73, 78, 84, 79] :: nT t :: wd [86, 65, 76, 85, 69, 83] :: (sepG [44] rowT rows ++ r)) 0) = stR (nT t :: wd [86, 65, 76, 85, 69, 83] :: (sepG [44] rowT rows ++ r)) 0 := Q1f [] (Q1i _)
    have q2 : inB (stR (wd [73, 78, 84, 79] :: nT t :: wd [86, 65, 76, 85, 69, 83] :: (sepG [44] rowT rows ++ r)) 0) = (rows, stR r 0) := by
      unfold inB many
      rw [q1, Q5u (k := 1) (x := nT t) rfl, Q1f [] (Q1i _), Q3e, X5b hN (by decide) rows 16 [] hne c1.2.2 (fun y hy r' hr' => rd_tuple (List.all_eq_true.1 c1.1 y hy) (hL.v y hy) hr'.1)]
      rfl
    unfold Q6j
    rw [q2, q1, Q8w (k := 1) (x := nT t) rfl]
    rfl
  · obtain ⟨rfl, rfl⟩ := b1.resolve_left (by decide)
    obtain rfl := b2.resolve_left (by decide)
    obtain ⟨rfl, rfl, rfl, rfl, rfl, rfl, rfl⟩ := b4.resolve_left (by decide)
    have c1 := p6 rfl
    unfold X5w at c1
    simp only [Bool.and_eq_true, decide_eq_true_eq] at c1
    have hne : sets ≠ [] := fun e => by rw [e] at c1; simp at c1
    have hD : max (maxD (fun s : Se => (toTr s.2).dp) sets) (expD wh) ≤ 10 := hD
    have e1 : stT ⟨4, t, [], [], [], sets, [], [], [], wh, [], [], false, -1⟩ ++ r = wd [85, 80, 68, 65, 84, 69] :: nT t :: wd [83, 69, 84] :: (sepG [44] setT sets ++ (expT [[87, 72, 69, 82, 69]] wh ++ r)) := by
      show (wd [85, 80, 68, 65, 84, 69] :: nT t :: wd [83, 69, 84] :: (sepT setT sets ++ expT [[87, 72, 69, 82, 69]] wh)) ++ r = _
      rw [X7v]; simp
    rw [e1, X5c (n := 3) (Q4v (.inl rfl) (by decide))]
    show Q6k _ = _
    have hN2 : Nx [[87, 72, 69, 82, 69], [59]] (expT [[87, 72, 69, 82, 69]] wh ++ r) := nx_exp hN
    have q2 : upA (stR (nT t :: wd [83, 69, 84] :: (sepG [44] setT sets ++ (expT [[87, 72, 69, 82, 69]] wh ++ r))) 0) = (sets, stR (expT [[87, 72, 69, 82, 69]] wh ++ r) 0) := by
      unfold upA many
      rw [Q5u (k := 1) (x := nT t) rfl, Q1f [] (Q1i _), Q3e, X5b hN2 (by decide) sets 8 [] hne c1.2.2 (fun y hy r' hr' => by
        have := List.all_eq_true.1 c1.1 y hy
        unfold X4w at this
        rw [Bool.and_eq_true] at this
        have hm := X6g (f := fun s : Se => (toTr s.2).dp) hy
        exact rd_set this.1 ⟨this.2, hL.s.set y hy, by (try dsimp only at hm); omega⟩ hr'.1 (hr'.stop (by decide)))]
      rfl
    unfold Q6k
    rw [q2, Q8w (k := 1) (x := nT t) rfl]
    dsimp only
    rw [Y1d (Q5x p3).1 (xb_of p3 hL.s.wh.2 (by omega)) hN (by decide) (by decide)]
    rfl
  · obtain ⟨rfl, rfl⟩ := b1.resolve_left (by decide)
    obtain rfl := b2.resolve_left (by decide)
    obtain rfl := b3.resolve_left (by decide)
    obtain ⟨rfl, rfl, rfl, rfl, rfl, rfl, rfl⟩ := b4.resolve_left (by decide)
    have hD : expD wh ≤ 10 := hD
    show Q1e (stR (wd [68, 69, 76, 69, 84, 69] :: wd [70, 82, 79, 77] :: nT t :: (expT [[87, 72, 69, 82, 69]] wh ++ r)) 0) = _
    rw [X5c (n := 4) (Q4v (.inl rfl) (by decide))]
    show Q6l _ = _
    unfold Q6l
    rw [Q1f [] (Q1i _), Q3e, Q8w (k := 1) (x := nT t) rfl, Q5u (k := 1) (x := nT t) rfl, Y1d (Q5x p3).1 (xb_of p3 hL.s.wh.2 hD) hN (by decide) (by decide)]
    rfl
  · obtain ⟨rfl, rfl⟩ := b1.resolve_left (by decide)
    obtain rfl := b2.resolve_left (by decide)
    obtain rfl := b3.resolve_left (by decide)
    have hsel := p7 rfl
    obtain ⟨s1, s2, s3, s4, s5⟩ := X3u hsel
    unfold selB joinB at hsel
    simp only [Bool.and_eq_true, Bool.or_eq_true, decide_eq_true_eq, Bool.not_eq_true'] at hsel
    obtain ⟨j1, _, _, _, _, j2, _⟩ := hsel
    dsimp only at s1 s2 s3 s4 s5 j1 j2
    unfold X0s at s1
    simp only [Bool.and_eq_true, decide_eq_true_eq] at s1
    have hne : items ≠ [] := fun e => by rw [e] at s1; simp at s1
    have hD : max (maxD (fun y : It => expD y.2) items) (max (if join = [] then 0 else expD on) (max (expD wh) (max (expD gr) (expD or)))) ≤ 10 := hD
    have hgk : ∀ e ∈ gr, e.kd = 2 := fun e he => by
      match gr, (Q5x (Q9n s3)).1, he, s3 with
      | [y], _, he, s3 =>
        rw [List.mem_singleton.1 he]
        unfold colB at s3
        simp only [Bool.and_eq_true, decide_eq_true_eq] at s3
        exact s3.2
    have hok : ∀ e ∈ or, e.kd = 2 := fun e he => by
      match or, (Q5x (Q9n s4)).1, he, s4 with
      | [y], _, he, s4 =>
        rw [List.mem_singleton.1 he]
        unfold colB at s4
        simp only [Bool.and_eq_true, decide_eq_true_eq] at s4
        exact s4.2
    -- what stands behind, from the end
    obtain ⟨R6, hR6⟩ : ∃ R, R = (if 0 ≤ lim then [wd [76, 73, 77, 73, 84], iT lim] else []) ++ r := ⟨_, rfl⟩
    obtain ⟨R5, hR5⟩ : ∃ R, R = (if desc = true then [wd [68, 69, 83, 67]] else []) ++ R6 := ⟨_, rfl⟩
    obtain ⟨R4, hR4⟩ : ∃ R, R = expT [[79, 82, 68, 69, 82], [66, 89]] or ++ R5 := ⟨_, rfl⟩
    obtain ⟨R3, hR3⟩ : ∃ R, R = expT [[71, 82, 79, 85, 80], [66, 89]] gr ++ R4 := ⟨_, rfl⟩
    obtain ⟨R2, hR2⟩ : ∃ R, R = expT [[87, 72, 69, 82, 69]] wh ++ R3 := ⟨_, rfl⟩
    obtain ⟨R1, hR1⟩ : ∃ R, R = (if join = [] then [] else wd [74, 79, 73, 78] :: nT join :: expT [[79, 78]] on) ++ R2 := ⟨_, rfl⟩
    have n6 : Nx [[76, 73, 77, 73, 84], [59]] R6 := by
      rw [hR6]; split
      · exact X5a (by simp) (Q3s hN.1)
      · exact hN.mono (by simp)
    have n5 : Nx [[68, 69, 83, 67], [76, 73, 77, 73, 84], [59]] R5 := by
      rw [hR5]; split
      · exact X5a (by simp) n6.1
      · exact n6.mono (by simp)
    have n4 : Nx [[79, 82, 68, 69, 82], [68, 69, 83, 67], [76, 73, 77, 73, 84], [59]] R4 := by rw [hR4]; exact nx_exp n5
    have n3 : Nx [[71, 82, 79, 85, 80], [79, 82, 68, 69, 82], [68, 69, 83, 67], [76, 73, 77, 73, 84], [59]] R3 := by rw [hR3]; exact nx_exp n4
    have n2 : Nx [[87, 72, 69, 82, 69], [71, 82, 79, 85, 80], [79, 82, 68, 69, 82], [68, 69, 83, 67], [76, 73, 77, 73, 84], [59]] R2 := by rw [hR2]; exact nx_exp n3
    have w1 : WF R1 := by rw [hR1]; exact X8t _ n2.1
    have e1 : stT ⟨6, t, [], [], [], [], items, join, on, wh, gr, or, desc, lim⟩ ++ r = wd [83, 69, 76, 69, 67, 84] :: (sepG [44] Q8j items ++ wd [70, 82, 79, 77] :: nT t :: R1) := by
      rw [hR1, hR2, hR3, hR4, hR5, hR6]
      show (wd [83, 69, 76, 69, 67, 84] :: (sepT Q8j items ++ (wd [70, 82, 79, 77] :: nT t :: ((if join = [] then [] else wd [74, 79, 73, 78] :: nT join :: expT [[79, 78]] on) ++ (expT [[87, 72, 69, 82, 69]] wh ++ (expT [[71, 82, 79, 85, 80], [66, 89]] gr ++ (expT [[79, 82, 68, 69, 82], [66, 89]] or ++
        ((if desc = true then [wd [68, 69, 83, 67]] else []) ++ (if 0 ≤ lim then [wd [76, 73, 77, 73, 84], iT lim] else []))))))))) ++ r = _
      rw [X7v]; simp
    rw [e1, X5c (n := 5) (Q4v (.inl rfl) (by decide))]
    show Q6m _ = _
    obtain ⟨S, hS⟩ : ∃ S, S = stR (sepG [44] Q8j items ++ wd [70, 82, 79, 77] :: nT t :: R1) 0 := ⟨_, rfl⟩
    rw [← hS]
    have qA : seA S = (items, stR (wd [70, 82, 79, 77] :: nT t :: R1) 0) := by
      rw [hS]
      unfold seA many
      rw [X5b (ws := [[70, 82, 79, 77]]) (X5a (by simp) (Q3s w1)) (by decide) items 8 [] hne s1.2.2 (fun y hy r' hr' => by
        have hi := List.all_eq_true.1 s1.1 y hy
        have hm := X6g (f := fun y : It => expD y.2) hy
        have ho : oneB y.2 = true := by
          unfold Q4o at hi
          simp only [Bool.and_eq_true, decide_eq_true_eq] at hi
          unfold oneB
          simp only [Bool.and_eq_true, decide_eq_true_eq]
          refine ⟨?_, hi.2.2⟩
          rw [hi.2.1]
          split <;> omega
        exact rd_item hi (xb_of ho (hL.s.item y hy).2 (by (try dsimp only at hm); omega)) hr')]
      rfl
    have qB : seB S = stR (nT t :: R1) 0 := by
      unfold seB; rw [qA]; exact Q1f [] (Q1i _)
    have qC : seC S = (join, on, stR R2 0) := by
      unfold seC
      rw [qB, Q5u (k := 1) (x := nT t) rfl, hR1]
      by_cases hj : join = []
      · have ho : on = [] := j1.elim (fun q => List.length_eq_zero_iff.1 q.2) (fun q => by rw [hj] at q; cases q.1)
        rw [if_pos hj, List.nil_append]
        unfold Q9r
        rw [Q8d (n2.no (by decide)), Q8e (n2.no (by decide)), hj, ho]
        rfl
      · have ho : on.length = 1 := j1.elim (fun q => absurd q.1 hj) (fun q => q.2)
        rw [if_neg hj] at hD ⊢
        match on, ho, s2, hL, hD with
        | [e], _, s2, hL, hD =>
          have hX : XB e := xb_of s2 hL.s.on.2 (by omega) e (by simp)
          show Q9r (stR (wd [74, 79, 73, 78] :: nT join :: wd [79, 78] :: ((toTr e).tk ++ R2)) 0) = _
          have hb : Go.Parse.joinB (stR (wd [74, 79, 73, 78] :: nT join :: wd [79, 78] :: ((toTr e).tk ++ R2)) 0) = stR ((toTr e).tk ++ R2) 0 := by
            unfold Go.Parse.joinB
            rw [Q5c (Q1i _), Q5u (k := 1) (x := nT join) rfl, Q1f [] (Q1i _), Q3e]
          unfold Q9r
          rw [Q4x (Q1i _), hb, Q5c (Q1i _), Q8w (k := 1) (x := nT join) rfl, rd_e hX n2.1 (n2.stop (by decide))]
          rfl
    have qD : seD S = (wh, stR R3 0) := by
      unfold seD; rw [qC]; dsimp only
      rw [hR2, Y1d (Q5x p3).1 (xb_of p3 hL.s.wh.2 (by omega)) n3 (by decide) (by decide)]
    have qE : seE S = (gr, stR R4 0) := by
      unfold seE; rw [qD]; dsimp only
      rw [hR3, rd_by (Q5x (Q9n s3)).1 (xb_of (Q9n s3) hL.s.gr.2 (by omega)) hgk n4 (by decide) (by decide)]
    have qF : seF S = (or, stR R5 0) := by
      unfold seF; rw [qE]; dsimp only
      rw [hR4, rd_by (Q5x (Q9n s4)).1 (xb_of (Q9n s4) hL.s.or.2 (by omega)) hok n5 (by decide) (by decide)]
    have qG : seG S = (desc, stR R6 0) := by
      unfold seG; rw [qF]; dsimp only
      unfold descL
      by_cases ho : or = []
      · have hd : desc = false := j2.elim (fun q => by rw [ho] at q; cases q) id
        rw [if_pos ho, hR5, hd]; rfl
      · rw [if_neg ho, hR5]
        cases desc with
        | true =>
          show ((stR (wd [68, 69, 83, 67] :: R6) 0).has _, (stR (wd [68, 69, 83, 67] :: R6) 0).pass _) = _
          rw [Q4x (Q1i _), Q5c (Q1i _)]
        | false =>
          show ((stR R6 0).has _, (stR R6 0).pass _) = _
          rw [Q8d (n6.no (by decide)), Q8e (n6.no (by decide))]
    have qH : seH S = (lim, stR r 0) := by
      unfold seH; rw [qG]; dsimp only
      rw [hR6]
      unfold limL
      by_cases hl : 0 ≤ lim
      · rw [if_pos hl]
        show (if (stR (wd [76, 73, 77, 73, 84] :: iT lim :: r) 0).has [76, 73, 77, 73, 84] = true then ((((((stR (wd [76, 73, 77, 73, 84] :: iT lim :: r) 0).pass [[76, 73, 77, 73, 84]]).tok 3).2.2.1 : Nat) : Int), ((stR (wd [76, 73, 77, 73, 84] :: iT lim :: r) 0).pass [[76, 73, 77, 73, 84]]).take 3) else (-1, (stR (wd [76, 73, 77, 73, 84] :: iT lim :: r) 0).pass [[76, 73, 77, 73, 84]])) = _
        rw [Q4x (Q1i _), Q5c (Q1i _), Q8w (k := 3) (x := iT lim) rfl, Q5u (k := 3) (x := iT lim) rfl, if_pos rfl]
        show (((lim.toNat : Nat) : Int), stR r 0) = _
        rw [show ((lim.toNat : Nat) : Int) = lim by omega]
      · rw [if_neg hl, List.nil_append, Q8d (hN.no (by decide)), Q8e (hN.no (by decide))]
        rw [show lim = -1 by omega]; rfl
    unfold Q6m
    rw [qA, qB, qC, qD, qE, qF, qG, qH, Q8w (k := 1) (x := nT t) rfl]
    rfl
theorem sc_back {l : List Stm} (hne : l ≠ []) (h8 : l.length ≤ 8) (h : ∀ x ∈ l, StB x) (hl : (Q6u (scT l)).length ≤ 2000) : (Q0r (Q6u (scT l))).1 = l ∧ (Q0r (Q6u (scT l))).2.1 = 0 := by
  have hgd : AG (scT l) := sc_good (fun x hx => st_good (h x hx).fit (h x hx).lim)
  obtain ⟨m, hm, hn⟩ := toks_back (scT l) 0 hgd
  rw [writeT_good hgd] at hl ⊢
  have h2 := X6t (by omega) hm
  have hf : (m ++ [(6, [], 0, 0 + (Q5h ((scT l).map txt)).length)]).map fT = (scT l ++ [(6, [], 0, 0)]).map fT := by
    rw [List.map_append, List.map_append, fT_of hn]; rfl
  have q2 := script_alike hf
  unfold Q0r
  rw [h2]
  simp only
  rw [q2.1, q2.2]
  have h3 := X5b (one := Q1e) (sep := [59]) (tok := stT) (ws := []) (r := [(6, [], 0, 0)]) ⟨rfl, .inl rfl⟩ (by simp) l 8 [] hne h8 (fun x hx r' hr' => rd_state (h x hx) hr')
  rw [← scT_eq] at h3
  have e : rd0 (scT l ++ [(6, [], 0, 0)]) = stR (scT l ++ [(6, [], 0, 0)]) 0 := rfl
  have e2 : Q4y (scT l ++ [(6, [], 0, 0)]) = (l, stR [(6, [], 0, 0)] 0) := by
    unfold Q4y
    rw [e, h3]
    rfl
  unfold Q9k
  rw [e2]
  exact ⟨rfl, rfl⟩
end Go.Print
