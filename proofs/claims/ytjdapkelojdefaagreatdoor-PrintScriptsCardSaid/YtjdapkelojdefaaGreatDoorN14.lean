/- Part 14 of the proof: W51, W52, W53, W44, W45, W46, W54, R13. -/
import Derived.Test.YtjdapkelojdefaaGreatDoorN7
import Derived.Test.YtjdapkelojdefaaGreatDoorN13
import Derived.Test.YtjdapkelojdefaaGreatDoorN12
import Derived.Test.YtjdapkelojdefaaGreatDoorN11
import Derived.Test.YtjdapkelojdefaaGreatDoorRows
import Derived.Test.YtjdapkelojdefaaGreatDoorN0
import Derived.WalkKit
import Derived.ProofKit
import Derived.OpenShut
import Derived.LaidMore
import Derived.Lay
import Derived.SevenTiedAt
import Derived.Stop.Joined
import Derived.Carry

set_option linter.all false
set_option maxRecDepth 100000
set_option maxHeartbeats 4000000
open Nat renaming reduceEqDiff → zb, reduceAdd → zd, reduceLeDiff → ze, reduceMul → zf, reduceSub → zg
open Int renaming toNat_zero → zk, reduceToNat → zl
open Option renaming getD_some → zw
open List renaming length_append → zx, length_cons → zy, length_nil → zA, length_map → zB
open Go.V.VCalls renaming mono → zS
namespace Go.Proofs.YtjdapkelojdefaaGreatDoor
open Go Go.V Go.Lex Go.Parse Go.Print
theorem wb_app2 {B : Sg} {ω τ τ1 τ2 : Nat} {L M : List Tk} {m : Int} {r : List AV} {o : Ob} (h : B τ2 = none) (h0 : B τ = none) (h1 : B τ1 = none) : (WB TW [.i m] B ω τ2 (L ++ M)).sub (((((WB TW r B ω τ L).set τ1 o).del τ).set τ2 (.tok (some 102))).set ω (.cells TW [.sl (.tok τ2 4) (tksA L ++ tksA M), .i m])) := by
  rw [X1c, Q8c, Q8c]
  generalize tksA (L ++ M) = T9 at *
  generalize tksA L = T8 at *
  intro y p hy
  simp only [Sg.set_apply, Sg.del_apply] at hy ⊢
  grind
theorem df_insert (ω : Nat) (x : Stm) (hk3 : x.k = 3) (hb : Q9o x.rows = true) (hg : ∀ r ∈ x.rows, ∀ v ∈ r, inR v.2.1) :
    Df ω 33 [.ref ω 0, .agg (stmA x)] (Q6t x) 0 := by
  obtain ⟨g1, g2⟩ : x.rows.all rowB = true ∧ (1 ≤ x.rows.length ∧ x.rows.length ≤ 16) := by
    unfold Q9o at hb; simpa only [Bool.and_eq_true, decide_eq_true_eq] using hb
  have g1 := List.all_eq_true.1 g1
  intro B τ l m h h0 h4
  rw [mxi_0 h0]
  have a1 : (x.rows.map rowA).length = x.rows.length := zB ..
  have a2 := Q1r (f := rowA) (n := 1) x.rows (fun _ => rfl)
  have a3 : ∀ k (h : k < x.rows.length), (x.rows.map rowA).getD k [] = [.sl .any (Q5h x.rows[k])] := fun k h => Q1q (f := rowA) h
  have b4 : Q6t x = wds [[73, 78, 83, 69, 82, 84], [73, 78, 84, 79]] ++ (nT x.t :: wd [86, 65, 76, 85, 69, 83] :: sepT rowT x.rows) := rfl
  rw [b4] at h4 ⊢
  simp only [zx, zy, zA, Q1k] at h4
  have hsm := fun k (h : k < x.rows.length) => sep_at rowT h
  have hle := X2h rowT x.rows
  clear b4 hb
  unfold stmA
  rw [hk3]
  generalize hL4 : x.rows.map rowA = L4 at *
  obtain ⟨C, hC⟩ : ∃ C : List AV, C = [.i 3, .s (bs x.t), .sl .any (x.cols.map coA), .s (bs x.pk), .sl .any L4, .sl .any (x.sets.map setA), .sl .any (x.items.map Q2e), .s (bs x.join), .sl .any (exsA x.on), .sl .any (exsA x.wh), .sl .any (exsA x.gr), .sl .any (exsA x.or), .b x.desc, .i x.lim] := ⟨_, rfl⟩
  (refine vfun (fun i => if i = 3 then .ro else .no) Q0k Tryz.func33 (by kernel_rfl) ?_; simp only [Q0f, Tryz.f33, zw])
  (have zz := Bx.mk (j7 ui0 ui3 ui4 ui9 ui22 ui23 (j9 ui24 ui25 ui26 ui37 ui38 ui39 ui40 ui41 (j9 ui42 ui56 ui62 ui63 ui64 ui67 ui68 ui70 (j9 ui71 ui75 Q0q Q0r Q0t Q0u Q0v a1 WLg)))); (repeat' (first | exact zc | (with_reducible first | apply And.intro | apply Q0a | apply Q0b | refine Q0c (by decide +kernel) ?_ | intro _) | refine zaY zz.out ?_ | ((first | ((with_reducible refine zS (Q0s _ _ _ _ _ _ _ (by repeat (first | exact Q0j | refine Q0g ?_ (by simp))) (by exact zO) (by exact zN)) ?_); rintro _ S ⟨rfl, τ1, ⟨f1, n1⟩, rfl⟩; have n1s := n1.symm) | ((with_reducible refine zS (Q2l _ _ _ _ _ _ (by exact zO) (by exact zN)) ?_); rintro _ S ⟨rfl, τ1, ⟨f1, n1⟩, rfl⟩; have n1s := n1.symm) | ((with_reducible refine zS (Q2i _ _ _ _ _ _ (by exact zO) (by exact zN)) ?_); rintro _ S ⟨rfl, τ1, ⟨f1, n1⟩, rfl⟩; have n1s := n1.symm) | (refine Q0d (by exact zK) ?_) | (refine Q0e (by exact zK) ?_)); (try refine zsY zz.out ?_)) | refine zo ?_ | omega | refine ztY zz.out ?_ | fail)); try (all_goals clear zz))
  refine VW.loop3 (0 : Nat) τ1 () (fun k τ' _ => k ≤ x.rows.length ∧ Print.okS B ω τ') (fun k _ _ => [(0, .ref ω 0), (3, .ro C), (4, .i k)]) (fun k τ' _ => WB TW [.i m] B ω τ' (l ++ wds [[73, 78, 83, 69, 82, 84], [73, 78, 84, 79]] ++ [nT x.t] ++ [wd [86, 65, 76, 85, 69, 83]] ++ sepT rowT (x.rows.take k))) (fun k _ _ => x.rows.length - k) ⟨Nat.zero_le _, ⟨by assumption, by assumption⟩⟩ (Q4f (Q3z (by simp [wds, sepT]) rfl)) ?_ ?_
  · subst hC
    simp only [vO, vQ, ↓vP, vE, vS, vB, vL, vF, vM, vN, Q0i, zb, zd, ze, ne_eq, not_false_eq_true, zf, zg, zk, zl, vT]
    all_goals first | rfl | exact ⟨rfl, rfl⟩ | trace_state
  clear f1 n1 n1s
  rintro k τ' _ ⟨hk, f1, n1⟩
  have n1s := n1.symm
  have hlk := hle k
  rcases Nat.lt_or_ge k x.rows.length with hk2 | hk2
  · have hgk := a3 k hk2
    obtain ⟨r1, r2⟩ : x.rows[k].all okV = true ∧ (1 ≤ x.rows[k].length ∧ x.rows[k].length ≤ 8) := by
      have := g1 _ (List.getElem_mem hk2)
      unfold rowB at this; simpa only [Bool.and_eq_true, decide_eq_true_eq] using this
    have r1 := List.all_eq_true.1 r1
    have hgr := hg _ (List.getElem_mem hk2)
    have hs1 := hsm k hk2 (l ++ wds [[73, 78, 83, 69, 82, 84], [73, 78, 84, 79]] ++ [nT x.t] ++ [wd [86, 65, 76, 85, 69, 83]])
    have hrw : rowT x.rows[k] = wd [40] :: (sepT litT x.rows[k] ++ [wd [41]]) := rfl
    have hl1 := hle (k + 1)
    rw [Q5e rowT hk2, zx, zx, hrw] at hl1
    rw [hrw] at hs1
    simp only [zx, zy, zA] at hl1
    have hAl : (l ++ wds [[73, 78, 83, 69, 82, 84], [73, 78, 84, 79]] ++ [nT x.t] ++ [wd [86, 65, 76, 85, 69, 83]] ++ sepT rowT (x.rows.take k)).length + ((if k = 0 then [] else [wd [44]]) : List Tk).length + 2 + (sepT litT x.rows[k]).length ≤ 2 ^ 36 := by simp only [zx, zy, zA, Q1k]; omega
    have hcl : ((if k = 0 then [] else [wd [44]]) : List Tk).length ≤ 1 := by split <;> simp
    have b1 : (Q5h x.rows[k]).length = x.rows[k].length := zB ..
    have b2 : Q1i (Q5h x.rows[k]) 3 = True := Q1r (f := valA) (n := 3) x.rows[k] (fun _ => rfl)
    have b3 : ∀ j (h : j < x.rows[k].length), (Q5h x.rows[k]).getD j [] = [.i x.rows[k][j].1, .i x.rows[k][j].2.1, .s (bs x.rows[k][j].2.2)] := fun j h => Q1q (f := valA) h
    have hle2 := X2h litT x.rows[k]
    have hsm2 := fun j (h : j < x.rows[k].length) => sep_at litT h
    generalize l ++ wds [[73, 78, 83, 69, 82, 84], [73, 78, 84, 79]] ++ [nT x.t] ++ [wd [86, 65, 76, 85, 69, 83]] ++ sepT rowT (x.rows.take k) = A at *
    clear hlk hl1 hsm hle hg a3
    generalize x.rows[k] = r at *
    generalize hV : Q5h r = V at *
    subst hC
    (have zz := Bx.mk (j9 ui0 ui3 ui4 ui9 ui22 ui23 ui24 ui25 (j9 ui26 ui37 ui38 ui39 ui40 ui41 ui42 ui56 (j9 ui62 ui63 ui64 ui67 ui68 ui70 ui71 ui75 (j9 Q0q Q0r Q0t Q0u Q0v a1 a2 hgk WLg)))); (repeat' (first | exact zc | (with_reducible first | apply And.intro | apply Q0a | apply Q0b | refine Q0c (by decide +kernel) ?_ | intro _) | refine zaY zz.out ?_ | ((first | ((with_reducible refine zS (Q0s _ _ _ _ _ _ _ (by repeat (first | exact Q0j | refine Q0g ?_ (by simp))) (by exact zO) (by exact zN)) ?_); rintro _ S ⟨rfl, τ1, ⟨f1, n1⟩, rfl⟩; have n1s := n1.symm) | ((with_reducible refine zS (Q2l _ _ _ _ _ _ (by exact zO) (by exact zN)) ?_); rintro _ S ⟨rfl, τ1, ⟨f1, n1⟩, rfl⟩; have n1s := n1.symm) | ((with_reducible refine zS (Q2i _ _ _ _ _ _ (by exact zO) (by exact zN)) ?_); rintro _ S ⟨rfl, τ1, ⟨f1, n1⟩, rfl⟩; have n1s := n1.symm) | (refine Q0d (by exact zK) ?_) | (refine Q0e (by exact zK) ?_)); (try refine zsY zz.out ?_)) | refine zo ?_ | omega | refine ztY zz.out ?_ | fail)); try (all_goals clear zz))
    all_goals try (exfalso; omega)
    refine VW.loop3 (0 : Nat) τ1 () (fun j τ' _ => j ≤ r.length ∧ Print.okS B ω τ') (fun j _ _ => [(0, .ref ω 0), (3, .ro [.i 3, .s (bs x.t), .sl .any (x.cols.map coA), .s (bs x.pk), .sl .any L4, .sl .any (x.sets.map setA), .sl .any (x.items.map Q2e), .s (bs x.join), .sl .any (exsA x.on), .sl .any (exsA x.wh), .sl .any (exsA x.gr), .sl .any (exsA x.or), .b x.desc, .i x.lim]), (4, .i k), (5, .i j)]) (fun j τ' _ => WB TW [.i m] B ω τ' (A ++ (if k = 0 then [] else [wd [44]]) ++ [wd [40]] ++ sepT litT (r.take j))) (fun j _ _ => r.length - j) ⟨Nat.zero_le _, ⟨by assumption, by assumption⟩⟩ (Q4f (Q3z (by simp [wds, sepT]) rfl)) ?_ ?_
    · simp only [vO, vQ, ↓vP, vE, vS, vB, vL, vF, vM, vN, Q0i, zb, zd, ze, ne_eq, not_false_eq_true, zf, zg, zk, zl, vT]
      all_goals first | rfl | exact ⟨rfl, rfl⟩ | trace_state
    clear f1 n1 n1s
    rintro j τ' _ ⟨hj, f1, n1⟩
    have n1s := n1.symm
    have hlj := hle2 j
    rcases Nat.lt_or_ge j r.length with hj2 | hj2
    · have hv := b3 j hj2
      have hs2 := hsm2 j hj2 (A ++ (if k = 0 then [] else [wd [44]]) ++ [wd [40]])
      obtain ⟨q1, q2⟩ := rgV2 (v := r[j]) (r1 _ (List.getElem_mem hj2)) (hgr _ (List.getElem_mem hj2))
      have hX := d_literal r[j] q1 q2
      have hl2 := hle2 (j + 1)
      rw [Q5e litT hj2, zx, zx] at hl2
      have hAm : (A ++ (if k = 0 then [] else [wd [44]]) ++ [wd [40]] ++ sepT litT (r.take j)).length + 1 + (litT r[j]).length ≤ 2 ^ 36 := by simp only [zx, zy, zA]; omega
      generalize A ++ (if k = 0 then [] else [wd [44]]) ++ [wd [40]] ++ sepT litT (r.take j) = A2 at *
      have hcj : ((if j = 0 then [] else [wd [44]]) : List Tk).length ≤ 1 := by split <;> simp
      clear b3 hle2 hsm2 r1 hgr g1 q1 q2
      unfold NewT at hX
      have hl0 := Q2p (litT r[j])
      have hall := Q3e (litT r[j])
      generalize litT r[j] = TT at *
      generalize r[j].1 = v1 at *
      generalize r[j].2.1 = v2 at *
      generalize r[j].2.2 = v3 at *
      (have zz := Bx.mk (j4 ui0 ui3 ui4 (j9 ui9 ui22 ui23 ui24 ui25 ui26 ui37 ui38 (j9 ui39 ui40 ui41 ui42 ui56 ui62 ui63 ui64 (j9 ui67 ui68 ui70 ui71 ui75 Q0q Q0r Q0t (j9 Q0u Q0v @Q1t @Q1u @Q1n @Q1o @Q1v @Q1w (j9 a1 a2 hgk b1 b2 hv hl0 hall WLg)))))); (repeat' (first | exact zc | (with_reducible first | apply And.intro | apply Q0a | apply Q0b | refine Q0c (by decide +kernel) ?_ | intro _) | ((with_reducible first | refine .dms (fun x => x = ω) [(0, false), (1, false), (2, false), (3, false), (4, false), (5, false), (6, false), (7, false), (8, false), (9, false), (10, true), (11, true), (12, true), (13, true), (14, true), (15, true), (16, true), (17, true)] (by decide) (by decide +kernel) ?_ | refine .dm (fun x => x = ω) [(0, false), (1, false), (2, false), (3, false), (4, false), (5, false), (6, false), (7, false), (8, false), (9, false), (10, true), (11, true), (12, true), (13, true), (14, true), (15, true), (16, true), (17, true)] (by decide) (by decide +kernel) ?_); (refine zsR zz.out ?_)) | refine zaR zz.out ?_ | refine zkK zz.out ?_ | ((first | (refine Q0l (by intro β h; first | (rcases h with h | h <;> subst h <;> (simp (disch := first | assumption | (apply Go.Cert.ne_of2; assumption; assumption) | (apply Go.Cert.ne_ob; assumption; assumption; (intro e; cases e; done)) | omega) only [Sg.set_same, Sg.set_ne, Sg.set_ne', Sg.del_ne, Sg.del_ne'])) | (subst h; (simp (disch := first | assumption | (apply Go.Cert.ne_of2; assumption; assumption) | (apply Go.Cert.ne_ob; assumption; assumption; (intro e; cases e; done)) | omega) only [Sg.set_same, Sg.set_ne, Sg.set_ne', Sg.del_ne, Sg.del_ne']))) ?_) | ((with_reducible refine VCalls.fr (hX _) ?_)) | ((with_reducible refine zS (Q0s _ _ _ _ _ _ _ (by repeat (first | exact Q0j | refine Q0g ?_ (by simp))) (by exact zO) (by exact zN)) ?_); rintro _ S ⟨rfl, τ1, ⟨f1, n1⟩, rfl⟩; have n1s := n1.symm) | ((with_reducible refine zS (Q2l _ _ _ _ _ _ (by exact zO) (by exact zN)) ?_); rintro _ S ⟨rfl, τ1, ⟨f1, n1⟩, rfl⟩; have n1s := n1.symm) | ((with_reducible refine zS (Q2i _ _ _ _ _ _ (by exact zO) (by exact zN)) ?_); rintro _ S ⟨rfl, τ1, ⟨f1, n1⟩, rfl⟩; have n1s := n1.symm) | (refine Q0d (by exact zK) ?_) | (refine Q0e (by exact zK) ?_)); (try refine zsR zz.out ?_)) | refine zmR zz.out ?_ | refine zo ?_ | omega | refine ztR zz.out ?_ | fail)); try (all_goals clear zz))
      all_goals (rename_i τ2 g1 g2 g3 g4; exact ⟨j + 1, τ2, (), ⟨⟨hj2, g1, g3⟩, by omega⟩, (Q4f (Q3z hs2.symm rfl)).trans (wb_app2 g1 f1 (by assumption)), rfl⟩)
    · rw [List.take_of_length_le hj2]
      (have zz := Bx.mk (j2 ui0 (j9 ui3 ui4 ui9 ui22 ui23 ui24 ui25 ui26 (j9 ui37 ui38 ui39 ui40 ui41 ui42 ui56 ui62 (j9 ui63 ui64 ui67 ui68 ui70 ui71 ui75 Q0q (j9 Q0r Q0t Q0u Q0v a1 a2 hgk b1 WLg))))); (repeat' (first | exact zc | (with_reducible first | apply And.intro | apply Q0a | apply Q0b | refine Q0c (by decide +kernel) ?_ | intro _) | refine zaY zz.out ?_ | ((first | ((with_reducible refine zS (Q0s _ _ _ _ _ _ _ (by repeat (first | exact Q0j | refine Q0g ?_ (by simp))) (by exact zO) (by exact zN)) ?_); rintro _ S ⟨rfl, τ1, ⟨f1, n1⟩, rfl⟩; have n1s := n1.symm) | ((with_reducible refine zS (Q2l _ _ _ _ _ _ (by exact zO) (by exact zN)) ?_); rintro _ S ⟨rfl, τ1, ⟨f1, n1⟩, rfl⟩; have n1s := n1.symm) | ((with_reducible refine zS (Q2i _ _ _ _ _ _ (by exact zO) (by exact zN)) ?_); rintro _ S ⟨rfl, τ1, ⟨f1, n1⟩, rfl⟩; have n1s := n1.symm) | (refine Q0d (by exact zK) ?_) | (refine Q0e (by exact zK) ?_)); (try refine zsY zz.out ?_)) | refine zo ?_ | omega | refine ztY zz.out ?_ | fail)); try (all_goals clear zz))
      all_goals first | exact ⟨k + 1, τ1, (), ⟨⟨hk2, f1, n1⟩, by omega⟩, Q4f (Q3z (by rw [← hs1]; simp) rfl), rfl⟩ | (exfalso; omega) | trace_state
  · rw [List.take_of_length_le hk2]
    subst hC
    (have zz := Bx.mk (j7 ui0 ui3 ui4 ui9 ui22 ui23 (j9 ui24 ui25 ui26 ui37 ui38 ui39 ui40 ui41 (j9 ui42 ui56 ui62 ui63 ui64 ui67 ui68 ui70 (j9 ui71 ui75 Q0q Q0r Q0t Q0u Q0v a1 WLg)))); (repeat' (first | exact zc | (with_reducible first | apply And.intro | apply Q0a | apply Q0b | refine Q0c (by decide +kernel) ?_ | intro _) | refine zaY zz.out ?_ | ((first | ((with_reducible refine zS (Q0s _ _ _ _ _ _ _ (by repeat (first | exact Q0j | refine Q0g ?_ (by simp))) (by exact zO) (by exact zN)) ?_); rintro _ S ⟨rfl, τ1, ⟨f1, n1⟩, rfl⟩; have n1s := n1.symm) | ((with_reducible refine zS (Q2l _ _ _ _ _ _ (by exact zO) (by exact zN)) ?_); rintro _ S ⟨rfl, τ1, ⟨f1, n1⟩, rfl⟩; have n1s := n1.symm) | ((with_reducible refine zS (Q2i _ _ _ _ _ _ (by exact zO) (by exact zN)) ?_); rintro _ S ⟨rfl, τ1, ⟨f1, n1⟩, rfl⟩; have n1s := n1.symm) | (refine Q0d (by exact zK) ?_) | (refine Q0e (by exact zK) ?_)); (try refine zsY zz.out ?_)) | refine zo ?_ | omega | refine ztY zz.out ?_ | fail)); try (all_goals clear zz))
    all_goals first | exact ⟨_, .refl _, τ', ⟨f1, n1⟩, Q3z (by simp) rfl⟩ | (exfalso; omega) | trace_state
theorem df_update (ω : Nat) (x : Stm) (hk4 : x.k = 4) (hb : Q8z x.sets = true) (hg : ∀ s ∈ x.sets, Lim s.2) (hw : oneB x.wh = true) (hwl : ∀ e ∈ x.wh, Lim e) :
    Df ω 33 [.ref ω 0, .agg (stmA x)] (Q6u x) (max (maxD (fun s => (toTr s.2).dp) x.sets) (expD x.wh)) := by
  obtain ⟨g1, g2⟩ : x.sets.all Q6c = true ∧ (1 ≤ x.sets.length ∧ x.sets.length ≤ 8) := by
    unfold Q8z at hb; simpa only [Bool.and_eq_true, decide_eq_true_eq] using hb
  have g1 := List.all_eq_true.1 g1
  have g3 : ∀ s ∈ x.sets, rt s.2 = true := fun s hs => by
    have := g1 s hs
    unfold Q6c at this
    exact (Bool.and_eq_true _ _ ▸ this).2
  have hE := fun k (h : k < x.sets.length) => Q5l ω [x.sets[k].2] (show oneB [x.sets[k].2] = true by unfold oneB; rw [Q3b, g3 _ (List.getElem_mem h)]; rfl) (fun e he => by rw [List.mem_singleton.1 he]; exact hg _ (List.getElem_mem h)) .full .full [[.s (bs [61])]] (Q0g Q0j (by simp))
  have hM2 := Q5l ω x.wh hw hwl .any .full [[.s (bs [87, 72, 69, 82, 69])]] (Q0g Q0j (by simp))
  rw [show expW [[.s (bs [87, 72, 69, 82, 69])]] x.wh = expT [[87, 72, 69, 82, 69]] x.wh from expW1 _ _] at hM2
  intro B τ l m h h0 h4
  have hM2 := hM2 B
  have a1 : (x.sets.map setA).length = x.sets.length := zB ..
  have a2 := Q1r (f := setA) (n := 9) x.sets (fun x => by simp [setA, Q1a])
  have a3 : ∀ k (h : k < x.sets.length), (x.sets.map setA).getD k [] = .s (bs x.sets[k].1) :: exA x.sets[k].2 := fun k h => Q1q (f := setA) h
  have b4 : Q6u x = wd [85, 80, 68, 65, 84, 69] :: nT x.t :: wd [83, 69, 84] :: (sepT setT x.sets ++ expT [[87, 72, 69, 82, 69]] x.wh) := rfl
  rw [b4] at h4 ⊢
  simp only [zx, zy, zA, Q1k] at h4
  have hsm := fun k (h : k < x.sets.length) => sep_at setT h
  have hmm := fun k (h : k < x.sets.length) => Q6g (fun s : Se => (toTr s.2).dp) (l := x.sets) (k := k) h
  have hle := X2h setT x.sets
  clear b4 hb g1 hw hwl
  unfold stmA
  rw [hk4]
  generalize hL4 : x.sets.map setA = L4 at *
  generalize expT [[87, 72, 69, 82, 69]] x.wh = T2 at *
  generalize expD x.wh = D2 at *
  generalize exsA x.wh = L2 at *
  obtain ⟨C, hC⟩ : ∃ C : List AV, C = [.i 4, .s (bs x.t), .sl .any (x.cols.map coA), .s (bs x.pk), .sl .any (x.rows.map rowA), .sl .any L4, .sl .any (x.items.map Q2e), .s (bs x.join), .sl .any (exsA x.on), .sl .any L2, .sl .any (exsA x.gr), .sl .any (exsA x.or), .b x.desc, .i x.lim] := ⟨_, rfl⟩
  (refine vfun (fun i => if i = 3 then .ro else .no) Q0k Tryz.func33 (by kernel_rfl) ?_; simp only [Q0f, Tryz.f33, zw])
  (have zz := Bx.mk (j7 ui0 ui3 ui4 ui9 ui22 ui23 (j9 ui24 ui25 ui26 ui37 ui38 ui39 ui40 ui41 (j9 ui42 ui56 ui62 ui63 ui64 ui67 ui68 ui70 (j9 ui71 ui75 Q0q Q0r Q0t Q0u Q0v a1 WLg)))); (repeat' (first | exact zc | (with_reducible first | apply And.intro | apply Q0a | apply Q0b | refine Q0c (by decide +kernel) ?_ | intro _) | refine zaY zz.out ?_ | ((first | ((with_reducible refine zS (Q0s _ _ _ _ _ _ _ (by repeat (first | exact Q0j | refine Q0g ?_ (by simp))) (by exact zO) (by exact zN)) ?_); rintro _ S ⟨rfl, τ1, ⟨f1, n1⟩, rfl⟩; have n1s := n1.symm) | ((with_reducible refine zS (Q2l _ _ _ _ _ _ (by exact zO) (by exact zN)) ?_); rintro _ S ⟨rfl, τ1, ⟨f1, n1⟩, rfl⟩; have n1s := n1.symm) | ((with_reducible refine zS (Q2i _ _ _ _ _ _ (by exact zO) (by exact zN)) ?_); rintro _ S ⟨rfl, τ1, ⟨f1, n1⟩, rfl⟩; have n1s := n1.symm) | (refine Q0d (by exact zK) ?_) | (refine Q0e (by exact zK) ?_)); (try refine zsY zz.out ?_)) | refine zo ?_ | omega | refine ztY zz.out ?_ | fail)); try (all_goals clear zz))
  refine VW.loop3 (0 : Nat) τ1 () (fun k τ' _ => k ≤ x.sets.length ∧ Print.okS B ω τ') (fun k _ _ => [(0, .ref ω 0), (3, .ro C), (6, .i k)]) (fun k τ' _ => WB TW [.i (mxi m (maxD (fun s : Se => (toTr s.2).dp) (x.sets.take k)))] B ω τ' (l ++ [wd [85, 80, 68, 65, 84, 69]] ++ [nT x.t] ++ [wd [83, 69, 84]] ++ sepT setT (x.sets.take k))) (fun k _ _ => x.sets.length - k) ⟨Nat.zero_le _, ⟨by assumption, by assumption⟩⟩ (Q4f (Q3z (by simp [wds, sepT]) (by exact mxi_0 h0))) ?_ ?_
  · subst hC
    simp only [vO, vQ, ↓vP, vE, vS, vB, vL, vF, vM, vN, Q0i, zb, zd, ze, ne_eq, not_false_eq_true, zf, zg, zk, zl, vT]
    all_goals first | rfl | exact ⟨rfl, rfl⟩ | trace_state
  clear f1 n1 n1s
  rintro k τ' _ ⟨hk, f1, n1⟩
  have n1s := n1.symm
  have hlk := hle k
  rcases Nat.lt_or_ge k x.sets.length with hk2 | hk2
  · have hgk := a3 k hk2
    have hX := hE k hk2 B
    have ew : expW [[.s (bs [61])]] [x.sets[k].2] = wd [61] :: (toTr x.sets[k].2).tk := rfl
    have ed : expD [x.sets[k].2] = (toTr x.sets[k].2).dp := rfl
    rw [ew, ed, Q1j, Q1h] at hX
    have hs1 := hsm k hk2 (l ++ [wd [85, 80, 68, 65, 84, 69]] ++ [nT x.t] ++ [wd [83, 69, 84]])
    have hm1 := hmm k hk2
    have hrw : setT x.sets[k] = nT x.sets[k].1 :: wd [61] :: (toTr x.sets[k].2).tk := rfl
    have hl1 := hle (k + 1)
    rw [Q5e setT hk2, zx, zx, hrw] at hl1
    rw [hrw] at hs1
    simp only [zx, zy, zA] at hl1
    have hAl : (l ++ [wd [85, 80, 68, 65, 84, 69]] ++ [nT x.t] ++ [wd [83, 69, 84]] ++ sepT setT (x.sets.take k)).length + ((if k = 0 then [] else [wd [44]]) : List Tk).length + 2 + ((toTr x.sets[k].2).tk).length ≤ 2 ^ 36 := by simp only [zx, zy, zA, Q1k]; omega
    have hcl : ((if k = 0 then [] else [wd [44]]) : List Tk).length ≤ 1 := by split <;> simp
    have hFl := Q1a x.sets[k].2
    have hFt := Q1b x.sets[k].2
    have hFd := Q2q x.sets[k].2
    have hFo := Q3r x.sets[k].2
    generalize l ++ [wd [85, 80, 68, 65, 84, 69]] ++ [nT x.t] ++ [wd [83, 69, 84]] ++ sepT setT (x.sets.take k) = A at *
    clear hlk hl1 hsm hle hg a3 hE hmm
    generalize maxD (fun s : Se => (toTr s.2).dp) (x.sets.take k) = M at *
    generalize (toTr x.sets[k].2).tk = TT at *
    generalize (toTr x.sets[k].2).dp = D at *
    generalize exA x.sets[k].2 = E at *
    generalize x.sets[k].1 = N at *
    have hM0 := mxi_ge h0 M
    subst hC
    (have zz := Bx.mk (j5 ui0 ui3 ui4 ui9 (j9 ui22 ui23 ui24 ui25 ui26 ui37 ui38 ui39 (j9 ui40 ui41 ui42 ui56 ui62 ui63 ui64 ui67 (j9 ui68 ui70 ui71 ui75 Q0q Q0r Q0t Q0u (j9 Q0v a1 a2 hgk hFl hFt hFd hFo WLg))))); (repeat' (first | exact zc | (with_reducible first | apply And.intro | apply Q0a | apply Q0b | refine Q0c (by decide +kernel) ?_ | intro _) | refine zaY zz.out ?_ | ((first | ((with_reducible refine zS (hX _ _ _ (by exact zO) (by exact zD) (by exact zN)) ?_); rintro _ S ⟨rfl, τ1, ⟨f1, n1⟩, rfl⟩; have n1s := n1.symm) | ((with_reducible refine zS (Q0s _ _ _ _ _ _ _ (by repeat (first | exact Q0j | refine Q0g ?_ (by simp))) (by exact zO) (by exact zN)) ?_); rintro _ S ⟨rfl, τ1, ⟨f1, n1⟩, rfl⟩; have n1s := n1.symm) | ((with_reducible refine zS (Q2l _ _ _ _ _ _ (by exact zO) (by exact zN)) ?_); rintro _ S ⟨rfl, τ1, ⟨f1, n1⟩, rfl⟩; have n1s := n1.symm) | ((with_reducible refine zS (Q2i _ _ _ _ _ _ (by exact zO) (by exact zN)) ?_); rintro _ S ⟨rfl, τ1, ⟨f1, n1⟩, rfl⟩; have n1s := n1.symm) | (refine Q0d (by exact zK) ?_) | (refine Q0e (by exact zK) ?_)); (try refine zsY zz.out ?_)) | refine zo ?_ | omega | refine ztY zz.out ?_ | fail)); try (all_goals clear zz))
    all_goals first | exact ⟨k + 1, τ1, (), ⟨⟨hk2, f1, n1⟩, by omega⟩, Q4f (Q3z (by rw [← hs1]; simp) (by rw [Q9a, hm1])), rfl⟩ | (exfalso; omega) | trace_state
  · rw [List.take_of_length_le hk2]
    have hAl : (l ++ [wd [85, 80, 68, 65, 84, 69]] ++ [nT x.t] ++ [wd [83, 69, 84]] ++ sepT setT x.sets).length = l.length + 3 + (sepT setT x.sets).length := by simp only [zx, zy, zA]; first | done | omega
    have hM0 := mxi_ge h0 (maxD (fun s : Se => (toTr s.2).dp) x.sets)
    have hAe : ∀ R : List Tk, l ++ [wd [85, 80, 68, 65, 84, 69]] ++ [nT x.t] ++ [wd [83, 69, 84]] ++ sepT setT x.sets ++ R = l ++ (wd [85, 80, 68, 65, 84, 69] :: nT x.t :: wd [83, 69, 84] :: (sepT setT x.sets ++ R)) := fun R => by simp
    clear hsm hle hlk hmm hE hg g3
    generalize l ++ [wd [85, 80, 68, 65, 84, 69]] ++ [nT x.t] ++ [wd [83, 69, 84]] ++ sepT setT x.sets = A at *
    generalize maxD (fun s : Se => (toTr s.2).dp) x.sets = M at *
    generalize sepT setT x.sets = TT at *
    subst hC
    (have zz := Bx.mk (j7 ui0 ui3 ui4 ui9 ui22 ui23 (j9 ui24 ui25 ui26 ui37 ui38 ui39 ui40 ui41 (j9 ui42 ui56 ui62 ui63 ui64 ui67 ui68 ui70 (j9 ui71 ui75 Q0q Q0r Q0t Q0u Q0v a1 WLg)))); (repeat' (first | exact zc | (with_reducible first | apply And.intro | apply Q0a | apply Q0b | refine Q0c (by decide +kernel) ?_ | intro _) | refine zaY zz.out ?_ | ((first | ((with_reducible refine zS (hM2 _ _ _ (by exact zO) (by exact zD) (by exact zN)) ?_); rintro _ S ⟨rfl, τ1, ⟨f1, n1⟩, rfl⟩; have n1s := n1.symm) | ((with_reducible refine zS (Q0s _ _ _ _ _ _ _ (by repeat (first | exact Q0j | refine Q0g ?_ (by simp))) (by exact zO) (by exact zN)) ?_); rintro _ S ⟨rfl, τ1, ⟨f1, n1⟩, rfl⟩; have n1s := n1.symm) | ((with_reducible refine zS (Q2l _ _ _ _ _ _ (by exact zO) (by exact zN)) ?_); rintro _ S ⟨rfl, τ1, ⟨f1, n1⟩, rfl⟩; have n1s := n1.symm) | ((with_reducible refine zS (Q2i _ _ _ _ _ _ (by exact zO) (by exact zN)) ?_); rintro _ S ⟨rfl, τ1, ⟨f1, n1⟩, rfl⟩; have n1s := n1.symm) | (refine Q0d (by exact zK) ?_) | (refine Q0e (by exact zK) ?_)); (try refine zsY zz.out ?_)) | refine zo ?_ | omega | refine ztY zz.out ?_ | fail)); try (all_goals clear zz))
    all_goals first | exact ⟨_, .refl _, τ1, ⟨f1, n1⟩, Q3z (hAe _) (Q9a _ _ _)⟩ | (exfalso; omega) | trace_state
theorem df_state (ω : Nat) (x : Stm) (hf : fitB x = true) (hL : LimX x) : Df ω 33 [.ref ω 0, .agg (stmA x)] (stT x) (stD x) := by
  obtain ⟨p1, p2, p3, p4, p5, p6, p7⟩ := Q7p hf
  have hM := Q5l ω x.wh p3 hL.s.wh.2 .any .full [[.s (bs [87, 72, 69, 82, 69])]] (Q0g Q0j (by simp))
  rw [show expW [[.s (bs [87, 72, 69, 82, 69])]] x.wh = expT [[87, 72, 69, 82, 69]] x.wh from expW1 _ _] at hM
  have hk : x.k = 1 ∨ x.k = 2 ∨ x.k = 3 ∨ x.k = 4 ∨ x.k = 5 ∨ x.k = 6 := by omega
  rcases hk with hk | hk | hk | hk | hk | hk
  · have hX := df_create ω x (p4 hk).1
    have e1 : stT x = wds [[67, 82, 69, 65, 84, 69], [84, 65, 66, 76, 69]] ++ (nT x.t :: X4e x) := by unfold stT; rw [if_pos hk]; rfl
    have e2 : stD x = 0 := by unfold stD; rw [if_neg (by omega), if_neg (by omega), if_neg (by omega)]
    rw [e1, e2]
    intro B τ l m h h0 h4
    have hX := hX B
    simp only [zx, zy, zA, Q1k] at h4
    clear hM p1 p2 p3 p4 p5 p6 p7 hf hL e1 e2
    generalize X4e x = TT at *
    unfold stmA at hX ⊢
    rw [hk] at hX ⊢
    (refine vfun (fun i => if i = 3 then .ro else .no) Q0k Tryz.func33 (by kernel_rfl) ?_; simp only [Q0f, Tryz.f33, zw])
    (have zz := Bx.mk (j6 ui0 ui3 ui4 ui9 ui22 (j9 ui23 ui24 ui25 ui26 ui37 ui38 ui39 ui40 (j9 ui41 ui42 ui56 ui62 ui63 ui64 ui67 ui68 (j9 ui70 ui71 ui75 Q0q Q0r Q0t Q0u Q0v WLg)))); (repeat' (first | exact zc | (with_reducible first | apply And.intro | apply Q0a | apply Q0b | refine Q0c (by decide +kernel) ?_ | intro _) | refine zaY zz.out ?_ | ((first | ((with_reducible refine zS (hX _ _ _ (by exact zO) (by exact zD) (by exact zN)) ?_); rintro _ S ⟨rfl, τ1, ⟨f1, n1⟩, rfl⟩; have n1s := n1.symm) | ((with_reducible refine zS (Q0s _ _ _ _ _ _ _ (by repeat (first | exact Q0j | refine Q0g ?_ (by simp))) (by exact zO) (by exact zN)) ?_); rintro _ S ⟨rfl, τ1, ⟨f1, n1⟩, rfl⟩; have n1s := n1.symm) | ((with_reducible refine zS (Q2l _ _ _ _ _ _ (by exact zO) (by exact zN)) ?_); rintro _ S ⟨rfl, τ1, ⟨f1, n1⟩, rfl⟩; have n1s := n1.symm) | ((with_reducible refine zS (Q2i _ _ _ _ _ _ (by exact zO) (by exact zN)) ?_); rintro _ S ⟨rfl, τ1, ⟨f1, n1⟩, rfl⟩; have n1s := n1.symm) | (refine Q0d (by exact zK) ?_) | (refine Q0e (by exact zK) ?_)); (try refine zsY zz.out ?_)) | refine zo ?_ | omega | refine ztY zz.out ?_ | fail)); try (all_goals clear zz))
    all_goals first | exact ⟨_, .refl _, τ1, ⟨f1, n1⟩, Q3z (by simp [wds]) rfl⟩ | trace_state
  · have e1 : stT x = wds [[68, 82, 79, 80], [84, 65, 66, 76, 69]] ++ [nT x.t] := by unfold stT; rw [if_neg (by omega), if_pos hk]; rfl
    have e2 : stD x = 0 := by unfold stD; rw [if_neg (by omega), if_neg (by omega), if_neg (by omega)]
    rw [e1, e2]
    intro B τ l m h h0 h4
    rw [mxi_0 h0]
    simp only [zx, zy, zA, Q1k] at h4
    clear hM p1 p2 p3 p4 p5 p6 p7 hf hL e1 e2
    unfold stmA
    rw [hk]
    (refine vfun (fun i => if i = 3 then .ro else .no) Q0k Tryz.func33 (by kernel_rfl) ?_; simp only [Q0f, Tryz.f33, zw])
    (have zz := Bx.mk (j6 ui0 ui3 ui4 ui9 ui22 (j9 ui23 ui24 ui25 ui26 ui37 ui38 ui39 ui40 (j9 ui41 ui42 ui56 ui62 ui63 ui64 ui67 ui68 (j9 ui70 ui71 ui75 Q0q Q0r Q0t Q0u Q0v WLg)))); (repeat' (first | exact zc | (with_reducible first | apply And.intro | apply Q0a | apply Q0b | refine Q0c (by decide +kernel) ?_ | intro _) | refine zaY zz.out ?_ | ((first | ((with_reducible refine zS (Q0s _ _ _ _ _ _ _ (by repeat (first | exact Q0j | refine Q0g ?_ (by simp))) (by exact zO) (by exact zN)) ?_); rintro _ S ⟨rfl, τ1, ⟨f1, n1⟩, rfl⟩; have n1s := n1.symm) | ((with_reducible refine zS (Q2l _ _ _ _ _ _ (by exact zO) (by exact zN)) ?_); rintro _ S ⟨rfl, τ1, ⟨f1, n1⟩, rfl⟩; have n1s := n1.symm) | ((with_reducible refine zS (Q2i _ _ _ _ _ _ (by exact zO) (by exact zN)) ?_); rintro _ S ⟨rfl, τ1, ⟨f1, n1⟩, rfl⟩; have n1s := n1.symm) | (refine Q0d (by exact zK) ?_) | (refine Q0e (by exact zK) ?_)); (try refine zsY zz.out ?_)) | refine zo ?_ | omega | refine ztY zz.out ?_ | fail)); try (all_goals clear zz))
    all_goals first | exact ⟨_, .refl _, τ1, ⟨f1, n1⟩, Q3z (by simp [wds]) rfl⟩ | trace_state
  · have e1 : stT x = Q6t x := by unfold stT; rw [if_neg (by omega), if_neg (by omega), if_pos hk]
    have e2 : stD x = 0 := by unfold stD; rw [if_neg (by omega), if_neg (by omega), if_neg (by omega)]
    rw [e1, e2]
    exact df_insert ω x hk (p5 hk) hL.v
  · have e1 : stT x = Q6u x := by unfold stT; rw [if_neg (by omega), if_neg (by omega), if_neg (by omega), if_pos hk]
    have e2 : stD x = max (maxD (fun s => (toTr s.2).dp) x.sets) (expD x.wh) := by unfold stD; rw [if_pos hk]
    rw [e1, e2]
    exact df_update ω x hk (p6 hk) hL.s.set p3 hL.s.wh.2
  · have e1 : stT x = wds [[68, 69, 76, 69, 84, 69], [70, 82, 79, 77]] ++ (nT x.t :: expT [[87, 72, 69, 82, 69]] x.wh) := by unfold stT; rw [if_neg (by omega), if_neg (by omega), if_neg (by omega), if_neg (by omega), if_pos hk]; rfl
    have e2 : stD x = expD x.wh := by unfold stD; rw [if_neg (by omega), if_pos hk]
    rw [e1, e2]
    intro B τ l m h h0 h4
    have hM := hM B
    simp only [zx, zy, zA, Q1k] at h4
    clear p1 p2 p3 p4 p5 p6 p7 hf hL e1 e2
    generalize expT [[87, 72, 69, 82, 69]] x.wh = T2 at *
    generalize expD x.wh = D2 at *
    unfold stmA
    rw [hk]
    (refine vfun (fun i => if i = 3 then .ro else .no) Q0k Tryz.func33 (by kernel_rfl) ?_; simp only [Q0f, Tryz.f33, zw])
    (have zz := Bx.mk (j6 ui0 ui3 ui4 ui9 ui22 (j9 ui23 ui24 ui25 ui26 ui37 ui38 ui39 ui40 (j9 ui41 ui42 ui56 ui62 ui63 ui64 ui67 ui68 (j9 ui70 ui71 ui75 Q0q Q0r Q0t Q0u Q0v WLg)))); (repeat' (first | exact zc | (with_reducible first | apply And.intro | apply Q0a | apply Q0b | refine Q0c (by decide +kernel) ?_ | intro _) | refine zaY zz.out ?_ | ((first | ((with_reducible refine zS (hM _ _ _ (by exact zO) (by exact zD) (by exact zN)) ?_); rintro _ S ⟨rfl, τ1, ⟨f1, n1⟩, rfl⟩; have n1s := n1.symm) | ((with_reducible refine zS (Q0s _ _ _ _ _ _ _ (by repeat (first | exact Q0j | refine Q0g ?_ (by simp))) (by exact zO) (by exact zN)) ?_); rintro _ S ⟨rfl, τ1, ⟨f1, n1⟩, rfl⟩; have n1s := n1.symm) | ((with_reducible refine zS (Q2l _ _ _ _ _ _ (by exact zO) (by exact zN)) ?_); rintro _ S ⟨rfl, τ1, ⟨f1, n1⟩, rfl⟩; have n1s := n1.symm) | ((with_reducible refine zS (Q2i _ _ _ _ _ _ (by exact zO) (by exact zN)) ?_); rintro _ S ⟨rfl, τ1, ⟨f1, n1⟩, rfl⟩; have n1s := n1.symm) | (refine Q0d (by exact zK) ?_) | (refine Q0e (by exact zK) ?_)); (try refine zsY zz.out ?_)) | refine zo ?_ | omega | refine ztY zz.out ?_ | fail)); try (all_goals clear zz))
    all_goals first | exact ⟨_, .refl _, τ1, ⟨f1, n1⟩, Q3z (by simp [wds]) rfl⟩ | trace_state
  · obtain ⟨s1, s2, s3, s4, s5⟩ := Q7q (p7 hk)
    have hX := df_choose ω x s1 (fun y hy => (hL.s.item y hy).2) s2 hL.s.on.2 p3 hL.s.wh.2 (Q7o s3) hL.s.gr.2 (Q7o s4) hL.s.or.2 hL.s.lim s5
    have e1 : stT x = Q5u x := by unfold stT; rw [if_neg (by omega), if_neg (by omega), if_neg (by omega), if_neg (by omega), if_neg (by omega), if_pos hk]
    have e2 : stD x = (max (maxD (fun y => expD y.2) x.items) (max (if x.join = [] then 0 else expD x.on) (max (expD x.wh) (max (expD x.gr) (expD x.or))))) := by unfold stD; rw [if_neg (by omega), if_neg (by omega), if_pos hk]
    rw [e1, e2]
    intro B τ l m h h0 h4
    have hX := hX B
    clear hM p1 p2 p3 p4 p5 p6 p7 hf hL e1 e2 s1 s2 s3 s4 s5
    generalize Q5u x = TT at *
    generalize (max (maxD (fun y : It => expD y.2) x.items) (max (if x.join = [] then 0 else expD x.on) (max (expD x.wh) (max (expD x.gr) (expD x.or))))) = D at *
    unfold stmA at hX ⊢
    rw [hk] at hX ⊢
    (refine vfun (fun i => if i = 3 then .ro else .no) Q0k Tryz.func33 (by kernel_rfl) ?_; simp only [Q0f, Tryz.f33, zw])
    (have zz := Bx.mk (j6 ui0 ui3 ui4 ui9 ui22 (j9 ui23 ui24 ui25 ui26 ui37 ui38 ui39 ui40 (j9 ui41 ui42 ui56 ui62 ui63 ui64 ui67 ui68 (j9 ui70 ui71 ui75 Q0q Q0r Q0t Q0u Q0v WLg)))); (repeat' (first | exact zc | (with_reducible first | apply And.intro | apply Q0a | apply Q0b | refine Q0c (by decide +kernel) ?_ | intro _) | refine zaY zz.out ?_ | ((first | ((with_reducible refine zS (hX _ _ _ (by exact zO) (by exact zD) (by exact zN)) ?_); rintro _ S ⟨rfl, τ1, ⟨f1, n1⟩, rfl⟩; have n1s := n1.symm) | ((with_reducible refine zS (Q0s _ _ _ _ _ _ _ (by repeat (first | exact Q0j | refine Q0g ?_ (by simp))) (by exact zO) (by exact zN)) ?_); rintro _ S ⟨rfl, τ1, ⟨f1, n1⟩, rfl⟩; have n1s := n1.symm) | ((with_reducible refine zS (Q2l _ _ _ _ _ _ (by exact zO) (by exact zN)) ?_); rintro _ S ⟨rfl, τ1, ⟨f1, n1⟩, rfl⟩; have n1s := n1.symm) | ((with_reducible refine zS (Q2i _ _ _ _ _ _ (by exact zO) (by exact zN)) ?_); rintro _ S ⟨rfl, τ1, ⟨f1, n1⟩, rfl⟩; have n1s := n1.symm) | (refine Q0d (by exact zK) ?_) | (refine Q0e (by exact zK) ?_)); (try refine zsY zz.out ?_)) | refine zo ?_ | omega | refine ztY zz.out ?_ | fail)); try (all_goals clear zz))
    all_goals first | exact ⟨_, .refl _, τ1, ⟨f1, n1⟩, Q3z rfl rfl⟩ | trace_state
theorem y_many (n m : Int) (σ : Sg) : VCalls Tryz.prog 126 [.i n, .i m] σ (fun x σ' => x = .b (decide (1 ≤ n ∧ n ≤ m)) ∧ σ' = σ) := by
  (refine vfun (fun _ => .no) Q0k Tryz.func126 (by kernel_rfl) ?_; simp only [Q0f, Tryz.f126, zw])
  repeat' (first | exact zc | (with_reducible first | apply And.intro | apply Q0a | apply Q0b | refine Q0c (by decide +kernel) ?_ | intro _) | refine zaY (j2 ui3 ui4) ?_ | ((first | (refine Q0d (by exact zK) ?_) | (refine Q0e (by exact zK) ?_)); (try refine zsY (j2 ui3 ui4) ?_)) | refine zo ?_ | omega | refine ztY (j2 ui3 ui4) ?_ | fail)
  all_goals exact ⟨_, .refl _, b_eq (by simp_all <;> omega), rfl⟩
theorem Q6v (l : List Ex) (hL : LimL l) (σ : Sg) : VCalls Tryz.prog 71 [.sl .any (exsA l)] σ (fun x σ' => x = .b (oneB l) ∧ σ' = σ) := by
  have hc := X3y l (fun e he σ => Q5s e (hL.2 e he) σ) hL.1
  have hn := Q1c l
  unfold oneB
  generalize rts l = b at *
  generalize exsA l = L at *
  (refine vfun (fun _ => .no) Q0k Tryz.func71 (by kernel_rfl) ?_; simp only [Q0f, Tryz.f71, zw])
  (have zz := Bx.mk (j9 ui3 ui4 ui9 ui22 ui23 ui24 ui25 ui26 hn); (repeat' (first | exact zc | (with_reducible first | apply And.intro | apply Q0a | apply Q0b | refine Q0c (by decide +kernel) ?_ | intro _) | refine zaY zz.out ?_ | ((first | (with_reducible refine uc (hc _) ?_) | (refine Q0d (by exact zK) ?_) | (refine Q0e (by exact zK) ?_)); (try refine zsY zz.out ?_)) | refine zo ?_ | omega | refine ztY zz.out ?_ | fail)); try (all_goals clear zz))
  all_goals exact ⟨_, .refl _, b_eq (by simp_all <;> omega), rfl⟩
theorem Q9b (l : List Ex) (hL : LimL l) (σ : Sg) : VCalls Tryz.prog 73 [.sl .any (exsA l)] σ (fun x σ' => x = .b (colB l) ∧ σ' = σ) := by
  have hc := Q6v l hL
  unfold colB
  cases l with
  | nil =>
    have h1 : oneB [] = true := by unfold oneB; rw [X1t]; rfl
    rw [h1, Q1h] at hc
    rw [h1, Q1h]
    (refine vfun (fun _ => .no) Q0k Tryz.func73 (by kernel_rfl) ?_; simp only [Q0f, Tryz.f73, zw])
    (have zz := Bx.mk (j9 ui0 ui3 ui4 ui9 ui22 ui23 ui24 ui25 ui26); (repeat' (first | exact zc | (with_reducible first | apply And.intro | apply Q0a | apply Q0b | refine Q0c (by decide +kernel) ?_ | intro _) | refine zaY zz.out ?_ | ((first | (with_reducible refine uc (hc _) ?_) | (with_reducible refine uc (Q6v _ (by assumption) _) ?_) | (refine Q0d (by exact zK) ?_) | (refine Q0e (by exact zK) ?_)); (try refine zsY zz.out ?_)) | refine zo ?_ | omega | refine ztY zz.out ?_ | fail)); try (all_goals clear zz))
    all_goals first | exact ⟨_, .refl _, rfl⟩ | exact ⟨_, .refl _, rfl, rfl⟩
  | cons e r =>
    have hn : (exsA (e :: r)).length = r.length + 1 := by rw [Q1c]; rfl
    have hg : (exsA (e :: r)).getD 0 [] = exA e := by rw [Q1j]; rfl
    have hall := Q9l (e :: r)
    obtain ⟨k, op, t, n, v, l2⟩ := e
    rw [Q4d] at hg
    generalize oneB (Ex.mk k op t n v l2 :: r) = b at *
    generalize exsA (Ex.mk k op t n v l2 :: r) = L at *
    have hk : (Ex.mk k op t n v l2).kd = k := rfl
    simp only [hk]
    cases b with
    | false =>
      (refine vfun (fun _ => .no) Q0k Tryz.func73 (by kernel_rfl) ?_; simp only [Q0f, Tryz.f73, zw])
      (have zz := Bx.mk (j4 ui0 ui3 ui4 (j9 ui9 ui22 ui23 ui24 ui25 ui26 hn hg hall)); (repeat' (first | exact zc | (with_reducible first | apply And.intro | apply Q0a | apply Q0b | refine Q0c (by decide +kernel) ?_ | intro _) | refine zaY zz.out ?_ | ((first | (with_reducible refine uc (hc _) ?_) | (with_reducible refine uc (Q6v _ (by assumption) _) ?_) | (refine Q0d (by exact zK) ?_) | (refine Q0e (by exact zK) ?_)); (try refine zsY zz.out ?_)) | refine zo ?_ | omega | refine ztY zz.out ?_ | fail)); try (all_goals clear zz))
      all_goals first | exact ⟨_, .refl _, rfl⟩ | exact ⟨_, .refl _, rfl, rfl⟩ | exact ⟨_, .refl _, b_eq (by simp_all <;> omega), rfl⟩
    | true =>
      (refine vfun (fun _ => .no) Q0k Tryz.func73 (by kernel_rfl) ?_; simp only [Q0f, Tryz.f73, zw])
      (have zz := Bx.mk (j4 ui0 ui3 ui4 (j9 ui9 ui22 ui23 ui24 ui25 ui26 hn hg hall)); (repeat' (first | exact zc | (with_reducible first | apply And.intro | apply Q0a | apply Q0b | refine Q0c (by decide +kernel) ?_ | intro _) | refine zaY zz.out ?_ | ((first | (with_reducible refine uc (hc _) ?_) | (with_reducible refine uc (Q6v _ (by assumption) _) ?_) | (refine Q0d (by exact zK) ?_) | (refine Q0e (by exact zK) ?_)); (try refine zsY zz.out ?_)) | refine zo ?_ | omega | refine ztY zz.out ?_ | fail)); try (all_goals clear zz))
      all_goals first | exact ⟨_, .refl _, b_eq (by simp_all <;> omega), rfl⟩ | exact ⟨_, .refl _, rfl⟩ | (exfalso; omega)
theorem Q2h (l : List Co) (hl : l.length ≤ 9223372036854775807) (σ : Sg) : VCalls Tryz.prog 68 [.sl .any (l.map coA)] σ (fun x σ' => x = .b (Q9n l) ∧ σ' = σ) := by
  have hn : (l.map coA).length = l.length := zB ..
  have hall := Q1r (f := coA) (n := 4) l (fun _ => rfl)
  have hgt := fun k (h : k < l.length) => Q1q (f := coA) h
  have hM := fun n m σ => y_many n m σ
  unfold Q9n
  generalize l.map coA = L at *
  (refine vfun (fun _ => .no) Q0k Tryz.func68 (by kernel_rfl) ?_; simp only [Q0f, Tryz.f68, zw])
  (have zz := Bx.mk (j9 ui0 ui3 ui4 ui9 ui37 Q0u Q0v hn hall); (repeat' (first | exact zc | (with_reducible first | apply And.intro | apply Q0a | apply Q0b | refine Q0c (by decide +kernel) ?_ | intro _) | refine zaY zz.out ?_ | ((first | (with_reducible refine uc (Q2d _ _) ?_) | (refine Q0d (by exact zK) ?_) | (refine Q0e (by exact zK) ?_)); (try refine zsY zz.out ?_)) | refine zo ?_ | omega | refine ztY zz.out ?_ | fail)); try (all_goals clear zz))
  refine VW.loop3 (0 : Nat) () () (fun k _ _ => k ≤ l.length ∧ l.all Q7m = (l.drop k).all Q7m) (fun k _ _ => [(0, .sl .any L), (3, .i k)]) (fun _ _ _ => σ) (fun k _ _ => l.length - k) ⟨Nat.zero_le _, rfl⟩ (.refl _) ?_ ?_
  · simp only [vO, vQ, ↓vP, vE, vS, vB, vL, vF, vM, vN, Q0i, zb, zd, ze, ne_eq, not_false_eq_true, zf, zg, zk, zl, vT]
    all_goals rfl
  rintro k _ _ ⟨hk, hr⟩
  rcases Nat.lt_or_ge k l.length with hk2 | hk2
  · have hg := hgt k hk2
    have hg2 : coA l[k] = [.s (bs l[k].1), .i l[k].2.1, .b l[k].2.2.1, .b l[k].2.2.2] := rfl
    rw [hg2] at hg
    have hN := Q2d l[k].1
    have hdr : (l.drop k).all Q7m = (Q7m l[k] && (l.drop (k + 1)).all Q7m) := by rw [List.drop_eq_getElem_cons hk2, List.all_cons]
    have hco : Q7m l[k] = (isNm l[k].1 && decide (l[k].2.1 = 1 ∨ l[k].2.1 = 2)) := rfl
    clear hg2
    rw [hco] at hdr
    clear hco
    generalize isNm l[k].1 = nb at *
    generalize l[k].1 = va at *
    generalize l[k].2.1 = vb at *
    generalize l[k].2.2.1 = vc at *
    generalize l[k].2.2.2 = vd at *
    rw [hr, hdr]
    (have zz := Bx.mk (j2 ui0 (j9 ui3 ui4 ui9 ui37 Q0u Q0v hn hall hg)); (repeat' (first | exact zc | (with_reducible first | apply And.intro | apply Q0a | apply Q0b | refine Q0c (by decide +kernel) ?_ | intro _) | refine zaY zz.out ?_ | ((first | (with_reducible refine uc (hN _) ?_) | (with_reducible refine uc (Q2d _ _) ?_) | (refine Q0d (by exact zK) ?_) | (refine Q0e (by exact zK) ?_)); (try refine zsY zz.out ?_)) | refine zo ?_ | omega | refine ztY zz.out ?_ | fail)); try (all_goals clear zz))
    all_goals first | exact ⟨k + 1, (), (), ⟨⟨hk2, by simp_all⟩, by omega⟩, by (exact zu), rfl⟩ | exact ⟨σ, by (exact zu), b_eq (by simp_all <;> omega), rfl⟩ | (exfalso; omega)
  · rw [hr, List.drop_of_length_le hk2]
    (have zz := Bx.mk (j9 ui0 ui3 ui4 ui9 ui37 Q0u Q0v hn hall); (repeat' (first | exact zc | (with_reducible first | apply And.intro | apply Q0a | apply Q0b | refine Q0c (by decide +kernel) ?_ | intro _) | refine zaY zz.out ?_ | ((first | (with_reducible refine uc (hM _ _ _) ?_) | (with_reducible refine uc (Q2d _ _) ?_) | (refine Q0d (by exact zK) ?_) | (refine Q0e (by exact zK) ?_)); (try refine zsY zz.out ?_)) | refine zo ?_ | omega | refine ztY zz.out ?_ | fail)); try (all_goals clear zz))
    all_goals exact ⟨_, .refl _, b_eq (by simp_all <;> omega), rfl⟩
theorem Q5m (l : List Se) (hl : l.length ≤ 9223372036854775807) (hL : ∀ x ∈ l, Lim x.2) (σ : Sg) : VCalls Tryz.prog 70 [.sl .any (l.map setA)] σ (fun x σ' => x = .b (Q8z l) ∧ σ' = σ) := by
  have hn : (l.map setA).length = l.length := zB ..
  have hall := Q1r (f := setA) (n := 9) l (fun x => by simp [setA, Q1a])
  have hgt : ∀ k (h : k < l.length), (l.map setA).getD k [] = .s (bs l[k].1) :: exA l[k].2 := fun k h => Q1q (f := setA) h
  have hM := fun n m σ => y_many n m σ
  unfold Q8z
  generalize l.map setA = L at *
  (refine vfun (fun _ => .no) Q0k Tryz.func70 (by kernel_rfl) ?_; simp only [Q0f, Tryz.f70, zw])
  (have zz := Bx.mk (j6 ui0 ui3 ui4 ui9 ui22 (j9 ui23 ui24 ui25 ui26 ui39 ui67 ui68 hn hall)); (repeat' (first | exact zc | (with_reducible first | apply And.intro | apply Q0a | apply Q0b | refine Q0c (by decide +kernel) ?_ | intro _) | refine zaY zz.out ?_ | ((first | (with_reducible refine uc (Q5s _ (by assumption) _) ?_) | (with_reducible refine uc (Q2d _ _) ?_) | (refine Q0d (by exact zK) ?_) | (refine Q0e (by exact zK) ?_)); (try refine zsY zz.out ?_)) | refine zo ?_ | omega | refine ztY zz.out ?_ | fail)); try (all_goals clear zz))
  refine VW.loop3 (0 : Nat) () () (fun k _ _ => k ≤ l.length ∧ l.all Q6c = (l.drop k).all Q6c) (fun k _ _ => [(0, .sl .any L), (3, .i k)]) (fun _ _ _ => σ) (fun k _ _ => l.length - k) ⟨Nat.zero_le _, rfl⟩ (.refl _) ?_ ?_
  · simp only [vO, vQ, ↓vP, vE, vS, vB, vL, vF, vM, vN, Q0i, zb, zd, ze, ne_eq, not_false_eq_true, zf, zg, zk, zl, vT]
    all_goals rfl
  rintro k _ _ ⟨hk, hr⟩
  rcases Nat.lt_or_ge k l.length with hk2 | hk2
  · have hg := hgt k hk2
    have hO := Q5s l[k].2 (hL _ (List.getElem_mem hk2))
    have hN := Q2d l[k].1
    have hFl := Q1a l[k].2
    have hFt := Q1b l[k].2
    have hFd := Q2q l[k].2
    have hFo := Q3r l[k].2
    have hdr : (l.drop k).all Q6c = (Q6c l[k] && (l.drop (k + 1)).all Q6c) := by rw [List.drop_eq_getElem_cons hk2, List.all_cons]
    have hco : Q6c l[k] = (isNm l[k].1 && rt l[k].2) := rfl
    rw [hco] at hdr
    clear hco
    generalize rt l[k].2 = rb at *
    generalize isNm l[k].1 = nb at *
    generalize exA l[k].2 = EE at *
    generalize l[k].1 = kk at *
    rw [hr, hdr]
    (have zz := Bx.mk (j3 ui0 ui3 (j9 ui4 ui9 ui22 ui23 ui24 ui25 ui26 ui39 (j9 ui67 ui68 hn hall hg hFl hFt hFd hFo))); (repeat' (first | exact zc | (with_reducible first | apply And.intro | apply Q0a | apply Q0b | refine Q0c (by decide +kernel) ?_ | intro _) | refine zaY zz.out ?_ | ((first | (with_reducible refine uc (hO _) ?_) | (with_reducible refine uc (hN _) ?_) | (with_reducible refine uc (Q5s _ (by assumption) _) ?_) | (with_reducible refine uc (Q2d _ _) ?_) | (refine Q0d (by exact zK) ?_) | (refine Q0e (by exact zK) ?_)); (try refine zsY zz.out ?_)) | refine zo ?_ | omega | refine ztY zz.out ?_ | fail)); try (all_goals clear zz))
    all_goals first | exact ⟨k + 1, (), (), ⟨⟨hk2, by simp_all⟩, by omega⟩, by (exact zu), rfl⟩ | exact ⟨σ, by (exact zu), b_eq (by simp_all <;> omega), rfl⟩ | (exfalso; omega) | trace_state
  · rw [hr, List.drop_of_length_le hk2]
    (have zz := Bx.mk (j6 ui0 ui3 ui4 ui9 ui22 (j9 ui23 ui24 ui25 ui26 ui39 ui67 ui68 hn hall)); (repeat' (first | exact zc | (with_reducible first | apply And.intro | apply Q0a | apply Q0b | refine Q0c (by decide +kernel) ?_ | intro _) | refine zaY zz.out ?_ | ((first | (with_reducible refine uc (hM _ _ _) ?_) | (with_reducible refine uc (Q5s _ (by assumption) _) ?_) | (with_reducible refine uc (Q2d _ _) ?_) | (refine Q0d (by exact zK) ?_) | (refine Q0e (by exact zK) ?_)); (try refine zsY zz.out ?_)) | refine zo ?_ | omega | refine ztY zz.out ?_ | fail)); try (all_goals clear zz))
    all_goals exact ⟨_, .refl _, b_eq (by simp_all <;> omega), rfl⟩
theorem Q3s (l : List It) (hl : l.length ≤ 9223372036854775807) (hL : ∀ x ∈ l, LimL x.2) (σ : Sg) : VCalls Tryz.prog 72 [.sl .any (l.map Q2e)] σ (fun x σ' => x = .b (Q5c l) ∧ σ' = σ) := by
  have hn : (l.map Q2e).length = l.length := zB ..
  have hall := Q1r (f := Q2e) (n := 2) l (fun _ => rfl)
  have hgt : ∀ k (h : k < l.length), (l.map Q2e).getD k [] = [.i l[k].1, .sl .any (exsA l[k].2)] := fun k h => Q1q (f := Q2e) h
  have hM := fun n m σ => y_many n m σ
  unfold Q5c
  generalize l.map Q2e = L at *
  (refine vfun (fun _ => .no) Q0k Tryz.func72 (by kernel_rfl) ?_; simp only [Q0f, Tryz.f72, zw])
  (have zz := Bx.mk (j6 ui0 ui3 ui4 ui9 ui22 (j9 ui23 ui24 ui25 ui26 ui40 ui70 ui71 hn hall)); (repeat' (first | exact zc | (with_reducible first | apply And.intro | apply Q0a | apply Q0b | refine Q0c (by decide +kernel) ?_ | intro _) | refine zaY zz.out ?_ | ((first | (refine Q0d (by exact zK) ?_) | (refine Q0e (by exact zK) ?_)); (try refine zsY zz.out ?_)) | refine zo ?_ | omega | refine ztY zz.out ?_ | fail)); try (all_goals clear zz))
  refine VW.loop3 (0 : Nat) () () (fun k _ _ => k ≤ l.length ∧ l.all Q3c = (l.drop k).all Q3c) (fun k _ _ => [(0, .sl .any L), (3, .i k)]) (fun _ _ _ => σ) (fun k _ _ => l.length - k) ⟨Nat.zero_le _, rfl⟩ (.refl _) ?_ ?_
  · simp only [vO, vQ, ↓vP, vE, vS, vB, vL, vF, vM, vN, Q0i, zb, zd, ze, ne_eq, not_false_eq_true, zf, zg, zk, zl, vT]
    all_goals rfl
  rintro k _ _ ⟨hk, hr⟩
  rcases Nat.lt_or_ge k l.length with hk2 | hk2
  · have hg := hgt k hk2
    have hLk := hL _ (List.getElem_mem hk2)
    have hO := X3y l[k].2 (fun e he σ => Q5s e (hLk.2 e he) σ) hLk.1
    have hn2 := Q1c l[k].2
    have hdr : (l.drop k).all Q3c = (Q3c l[k] && (l.drop (k + 1)).all Q3c) := by rw [List.drop_eq_getElem_cons hk2, List.all_cons]
    have hco : Q3c l[k] = (decide (1 ≤ l[k].1 ∧ l[k].1 ≤ 7) && (decide (l[k].2.length = if l[k].1 = 1 ∨ l[k].1 = 3 then 0 else 1) && rts l[k].2)) := rfl
    rw [hco] at hdr
    clear hco hLk hL
    generalize rts l[k].2 = rb at *
    generalize l[k].2.length = nl at *
    generalize exsA l[k].2 = EE at *
    generalize l[k].1 = kk at *
    rw [hr, hdr]
    (have zz := Bx.mk (j8 ui0 ui3 ui4 ui9 ui22 ui23 ui24 (j9 ui25 ui26 ui40 ui70 ui71 hn hall hg hn2)); (repeat' (first | exact zc | (with_reducible first | apply And.intro | apply Q0a | apply Q0b | refine Q0c (by decide +kernel) ?_ | intro _) | refine zaY zz.out ?_ | ((first | (with_reducible refine uc (hO _) ?_) | (refine Q0d (by exact zK) ?_) | (refine Q0e (by exact zK) ?_)); (try refine zsY zz.out ?_)) | refine zo ?_ | omega | refine ztY zz.out ?_ | fail)); try (all_goals clear zz))
    all_goals first | exact ⟨k + 1, (), (), ⟨⟨hk2, by simp_all <;> omega⟩, by omega⟩, by (exact zu), rfl⟩ | exact ⟨σ, by (exact zu), b_eq (by simp_all <;> omega), rfl⟩ | (exfalso; omega) | trace_state
  · rw [hr, List.drop_of_length_le hk2]
    (have zz := Bx.mk (j6 ui0 ui3 ui4 ui9 ui22 (j9 ui23 ui24 ui25 ui26 ui40 ui70 ui71 hn hall)); (repeat' (first | exact zc | (with_reducible first | apply And.intro | apply Q0a | apply Q0b | refine Q0c (by decide +kernel) ?_ | intro _) | refine zaY zz.out ?_ | ((first | (with_reducible refine uc (hM _ _ _) ?_) | (refine Q0d (by exact zK) ?_) | (refine Q0e (by exact zK) ?_)); (try refine zsY zz.out ?_)) | refine zo ?_ | omega | refine ztY zz.out ?_ | fail)); try (all_goals clear zz))
    all_goals exact ⟨_, .refl _, b_eq (by simp_all <;> omega), rfl⟩
theorem Q5n (l : List (List Vl)) (hl : l.length ≤ 9223372036854775807) (hL : ∀ r ∈ l, r.length ≤ 9223372036854775807) (σ : Sg) : VCalls Tryz.prog 69 [.sl .any (l.map rowA)] σ (fun x σ' => x = .b (Q9o l) ∧ σ' = σ) := by
  have hn : (l.map rowA).length = l.length := zB ..
  have hall := Q1r (f := rowA) (n := 1) l (fun _ => rfl)
  have hgt : ∀ k (h : k < l.length), (l.map rowA).getD k [] = [.sl .any (Q5h l[k])] := fun k h => Q1q (f := rowA) h
  have hM := fun n m σ => y_many n m σ
  unfold Q9o
  generalize l.map rowA = L at *
  (refine vfun (fun _ => .no) Q0k Tryz.func69 (by kernel_rfl) ?_; simp only [Q0f, Tryz.f69, zw])
  (have zz := Bx.mk (j2 ui0 (j9 ui3 ui4 ui9 ui22 ui23 ui38 Q0t hn hall)); (repeat' (first | exact zc | (with_reducible first | apply And.intro | apply Q0a | apply Q0b | refine Q0c (by decide +kernel) ?_ | intro _) | refine zaY zz.out ?_ | ((first | (with_reducible refine uc (Q3y _ _) ?_) | (refine Q0d (by exact zK) ?_) | (refine Q0e (by exact zK) ?_)); (try refine zsY zz.out ?_)) | refine zo ?_ | omega | refine ztY zz.out ?_ | fail)); try (all_goals clear zz))
  refine VW.loop3 (0 : Nat) () () (fun k _ _ => k ≤ l.length ∧ l.all rowB = (l.drop k).all rowB) (fun k _ _ => [(0, .sl .any L), (3, .i k)]) (fun _ _ _ => σ) (fun k _ _ => l.length - k) ⟨Nat.zero_le _, rfl⟩ (.refl _) ?_ ?_
  · simp only [vO, vQ, ↓vP, vE, vS, vB, vL, vF, vM, vN, Q0i, zb, zd, ze, ne_eq, not_false_eq_true, zf, zg, zk, zl, vT]
    all_goals rfl
  rintro k _ _ ⟨hk, hr⟩
  rcases Nat.lt_or_ge k l.length with hk2 | hk2
  · have hg := hgt k hk2
    have hrl := hL _ (List.getElem_mem hk2)
    have hdr : (l.drop k).all rowB = (rowB l[k] && (l.drop (k + 1)).all rowB) := by rw [List.drop_eq_getElem_cons hk2, List.all_cons]
    have hco : rowB l[k] = (l[k].all okV && decide (1 ≤ l[k].length ∧ l[k].length ≤ 8)) := rfl
    have b1 : (Q5h l[k]).length = l[k].length := zB ..
    have b2 : Q1i (Q5h l[k]) 3 = True := Q1r (f := valA) (n := 3) l[k] (fun _ => rfl)
    have b3 : ∀ j (h : j < l[k].length), (Q5h l[k]).getD j [] = [.i l[k][j].1, .i l[k][j].2.1, .s (bs l[k][j].2.2)] := fun j h => Q1q (f := valA) h
    rw [hco] at hdr
    clear hco hL hgt
    generalize hR : l[k] = R at *
    generalize Q5h R = E at *
    (have zz := Bx.mk (j4 ui0 ui3 ui4 (j9 ui9 ui22 ui23 ui38 Q0t hn hall hg b1)); (repeat' (first | exact zc | (with_reducible first | apply And.intro | apply Q0a | apply Q0b | refine Q0c (by decide +kernel) ?_ | intro _) | refine zaY zz.out ?_ | ((first | (with_reducible refine uc (Q3y _ _) ?_) | (refine Q0d (by exact zK) ?_) | (refine Q0e (by exact zK) ?_)); (try refine zsY zz.out ?_)) | refine zo ?_ | omega | refine ztY zz.out ?_ | fail)); try (all_goals clear zz))
    all_goals try (exfalso; omega)
    refine VW.loop3 (0 : Nat) () () (fun j _ _ => j ≤ R.length ∧ R.all okV = (R.drop j).all okV) (fun j _ _ => [(0, .sl .any L), (3, .i k), (4, .i j)]) (fun _ _ _ => σ) (fun j _ _ => R.length - j) ⟨Nat.zero_le _, rfl⟩ (.refl _) ?_ ?_
    · simp only [vO, vQ, ↓vP, vE, vS, vB, vL, vF, vM, vN, Q0i, zb, zd, ze, ne_eq, not_false_eq_true, zf, zg, zk, zl, vT]
      all_goals first | rfl | exact ⟨rfl, rfl⟩
    rintro j _ _ ⟨hj, hq⟩
    rcases Nat.lt_or_ge j R.length with hj2 | hj2
    · have hv := b3 j hj2
      have hV := Q3y R[j]
      have hdq : (R.drop j).all okV = (okV R[j] && (R.drop (j + 1)).all okV) := by rw [List.drop_eq_getElem_cons hj2, List.all_cons]
      clear b3
      generalize okV R[j] = b at *
      generalize R[j].1 = v1 at *
      generalize R[j].2.1 = v2 at *
      generalize R[j].2.2 = v3 at *
      cases b with
      | false =>
        rw [hr, hdr, hq, hdq]
        (have zz := Bx.mk (j6 ui0 ui3 ui4 ui9 ui22 (j9 ui23 ui38 Q0t hn hall hg b1 b2 hv)); (repeat' (first | exact zc | (with_reducible first | apply And.intro | apply Q0a | apply Q0b | refine Q0c (by decide +kernel) ?_ | intro _) | refine zaY zz.out ?_ | ((first | (with_reducible refine uc (hV _) ?_) | (with_reducible refine uc (Q3y _ _) ?_) | (refine Q0d (by exact zK) ?_) | (refine Q0e (by exact zK) ?_)); (try refine zsY zz.out ?_)) | refine zo ?_ | omega | refine ztY zz.out ?_ | fail)); try (all_goals clear zz))
        all_goals first | exact ⟨_, .refl _, rfl⟩ | exact ⟨_, .refl _, rfl, rfl⟩ | (exfalso; omega)
      | true =>
        rw [Bool.true_and] at hdq
        (have zz := Bx.mk (j6 ui0 ui3 ui4 ui9 ui22 (j9 ui23 ui38 Q0t hn hall hg b1 b2 hv)); (repeat' (first | exact zc | (with_reducible first | apply And.intro | apply Q0a | apply Q0b | refine Q0c (by decide +kernel) ?_ | intro _) | refine zaY zz.out ?_ | ((first | (with_reducible refine uc (hV _) ?_) | (with_reducible refine uc (Q3y _ _) ?_) | (refine Q0d (by exact zK) ?_) | (refine Q0e (by exact zK) ?_)); (try refine zsY zz.out ?_)) | refine zo ?_ | omega | refine ztY zz.out ?_ | fail)); try (all_goals clear zz))
        all_goals first | exact ⟨j + 1, (), (), ⟨⟨hj2, hq.trans hdq⟩, by omega⟩, .refl _, rfl⟩ | (exfalso; omega)
    · have hqt : R.all okV = true := by rw [hq, List.drop_of_length_le hj2]; rfl
      rw [hqt, Bool.true_and] at hdr
      clear b3
      rw [hr, hdr]
      (have zz := Bx.mk (j4 ui0 ui3 ui4 (j9 ui9 ui22 ui23 ui38 Q0t hn hall hg b1)); (repeat' (first | exact zc | (with_reducible first | apply And.intro | apply Q0a | apply Q0b | refine Q0c (by decide +kernel) ?_ | intro _) | refine zaY zz.out ?_ | ((first | (with_reducible refine uc (hM _ _ _) ?_) | (with_reducible refine uc (Q3y _ _) ?_) | (refine Q0d (by exact zK) ?_) | (refine Q0e (by exact zK) ?_)); (try refine zsY zz.out ?_)) | refine zo ?_ | omega | refine ztY zz.out ?_ | fail)); try (all_goals clear zz))
      all_goals first | exact ⟨k + 1, (), (), ⟨⟨hk2, by rw [decide_eq_true (by omega), Bool.true_and]⟩, by omega⟩, .refl _, rfl⟩ | exact ⟨_, .refl _, b_eq (by simp_all <;> omega), rfl⟩ | (exfalso; omega) | trace_state
  · rw [hr, List.drop_of_length_le hk2]
    (have zz := Bx.mk (j2 ui0 (j9 ui3 ui4 ui9 ui22 ui23 ui38 Q0t hn hall)); (repeat' (first | exact zc | (with_reducible first | apply And.intro | apply Q0a | apply Q0b | refine Q0c (by decide +kernel) ?_ | intro _) | refine zaY zz.out ?_ | ((first | (with_reducible refine uc (hM _ _ _) ?_) | (with_reducible refine uc (Q3y _ _) ?_) | (refine Q0d (by exact zK) ?_) | (refine Q0e (by exact zK) ?_)); (try refine zsY zz.out ?_)) | refine zo ?_ | omega | refine ztY zz.out ?_ | fail)); try (all_goals clear zz))
    all_goals exact ⟨_, .refl _, b_eq (by simp_all <;> omega), rfl⟩
theorem Q9s (x : Stm) (h : LimS x) (σ : Sg) : VCalls Tryz.prog 31 [.agg (stmA x)] σ (fun y σ' => y = .b (fitB x) ∧ σ' = σ) := by
  obtain ⟨k, t, cols, pk, rows, sets, items, join, on, wh, gr, or, desc, lim⟩ := x
  obtain ⟨h1, h2, h3, h4, h5, h6, h7, h8, h9, h10, h11, h12, h13⟩ := h
  dsimp only at h1 h2 h3 h4 h5 h6 h7 h8 h9 h10 h11 h12 h13
  unfold fitB bareB
  generalize hcr : X2f _ = cr
  generalize hch : X2g _ = ch
  unfold X2f at hcr
  unfold X2g at hch
  unfold selB Go.Print.joinB
  dsimp only at hcr hch ⊢
  have iC := Q2h cols h3
  have iR := Q5n rows h4 h5
  have iS := Q5m sets h6 h7
  have iI := Q3s items h8 h9
  have iO := Q6v on h10
  have iW := Q6v wh h11
  have iG := Q9b gr h12
  have iQ := Q9b or h13
  have iT := Q2d t
  have iP := Q2d pk
  have iJ := Q2d join
  have n1 := Q1c on
  have n2 := Q1c or
  have n3 := Q1c gr
  have n4 := Q1c wh
  have n5 : (cols.map coA).length = cols.length := zB ..
  have n6 : (rows.map rowA).length = rows.length := zB ..
  have n7 : (sets.map setA).length = sets.length := zB ..
  have n8 : (items.map Q2e).length = items.length := zB ..
  have hw0 : wh.length = 0 → oneB wh = true := fun q => by rw [List.length_eq_zero_iff.1 q]; rfl
  have hj0 : join = [] → isNm join = false := fun e => by rw [e]; rfl
  clear h5 h7 h9 h10 h11 h12 h13
  unfold stmA at *
  dsimp only at *
  generalize Q9n cols = bC at *
  generalize Q9o rows = bR at *
  generalize Q8z sets = bT at *
  generalize Q5c items = bI at *
  generalize oneB on = bO at *
  generalize oneB wh = bW at *
  generalize colB gr = bG at *
  generalize colB or = bQ at *
  generalize isNm t = bt at *
  generalize isNm pk = bp at *
  generalize isNm join = bj at *
  generalize exsA on = L1 at *
  generalize exsA or = L2 at *
  generalize exsA gr = L3 at *
  generalize exsA wh = L4 at *
  generalize cols.map coA = L5 at *
  generalize rows.map rowA = L6 at *
  generalize sets.map setA = L7 at *
  generalize items.map Q2e = L8 at *
  generalize on.length = m1 at *
  generalize or.length = m2 at *
  generalize gr.length = m3 at *
  generalize wh.length = m4 at *
  generalize cols.length = m5 at *
  generalize rows.length = m6 at *
  generalize sets.length = m7 at *
  generalize items.length = m8 at *
  obtain ⟨C, hC⟩ : ∃ C : List AV, C = [.i k, .s (bs t), .sl .any L5, .s (bs pk), .sl .any L6, .sl .any L7, .sl .any L8, .s (bs join), .sl .any L1, .sl .any L4, .sl .any L3, .sl .any L2, .b desc, .i lim] := ⟨_, rfl⟩
  (refine vfun (fun _ => .ro) Q0k Tryz.func31 (by kernel_rfl) ?_; simp only [Q0f, Tryz.f31, zw])
  refine VW.cut (α := Unit) (fun _ => True) (fun _ => [(1, .ro C), (2, .b false)]) (fun _ => σ) ?_ (fun _ _ => ?_)
  · subst hC
    (have zz := Bx.mk (j6 ui0 ui3 ui4 ui9 ui22 (j9 ui23 ui24 ui25 ui26 ui37 ui38 ui39 ui40 (j9 ui41 ui42 ui67 ui68 ui70 ui71 Q0t Q0u Q0v))); (repeat' (first | exact zc | (with_reducible first | apply And.intro | apply Q0a | apply Q0b | refine Q0c (by decide +kernel) ?_ | intro _) | refine zaY zz.out ?_ | ((first | (with_reducible refine uc (Q2d _ _) ?_) | (with_reducible refine uc (Q2h _ (by assumption) _) ?_) | (with_reducible refine uc (Q5n _ (by assumption) (by assumption) _) ?_) | (with_reducible refine uc (Q5m _ (by assumption) (by assumption) _) ?_) | (with_reducible refine uc (Q6v _ (by assumption) _) ?_) | (with_reducible refine uc (Q3s _ (by assumption) (by assumption) _) ?_) | (with_reducible refine uc (Q9b _ (by assumption) _) ?_) | (refine Q0d (by exact zK) ?_) | (refine Q0e (by exact zK) ?_)); (try refine zsY zz.out ?_)) | refine zo ?_ | omega | refine ztY zz.out ?_ | fail)); try (all_goals clear zz))
    all_goals (refine ⟨(), trivial, .refl _, Q1d ?_⟩; (have zz := Bx.mk (j6 ui0 ui3 ui4 ui9 ui22 (j9 ui23 ui24 ui25 ui26 ui37 ui38 ui39 ui40 (j9 ui41 ui42 ui67 ui68 ui70 ui71 Q0t Q0u Q0v))); (repeat' (first | exact zc | (with_reducible first | apply And.intro | apply Q0a | apply Q0b | refine Q0c (by decide +kernel) ?_ | intro _) | refine zaY zz.out ?_ | ((first | (with_reducible refine uc (Q2d _ _) ?_) | (with_reducible refine uc (Q2h _ (by assumption) _) ?_) | (with_reducible refine uc (Q5n _ (by assumption) (by assumption) _) ?_) | (with_reducible refine uc (Q5m _ (by assumption) (by assumption) _) ?_) | (with_reducible refine uc (Q6v _ (by assumption) _) ?_) | (with_reducible refine uc (Q3s _ (by assumption) (by assumption) _) ?_) | (with_reducible refine uc (Q9b _ (by assumption) _) ?_) | (refine Q0d (by exact zK) ?_) | (refine Q0e (by exact zK) ?_)); (try refine zsY zz.out ?_)) | refine zo ?_ | omega | refine ztY zz.out ?_ | fail)); try (all_goals clear zz)))
  refine VW.cut (α := Unit) (fun _ => True) (fun _ => [(1, .ro C), (2, .b false), (3, .b bt)]) (fun _ => σ) ?_ (fun _ _ => ?_)
  · subst hC
    (have zz := Bx.mk (j6 ui0 ui3 ui4 ui9 ui22 (j9 ui23 ui24 ui25 ui26 ui37 ui38 ui39 ui40 (j9 ui41 ui42 ui67 ui68 ui70 ui71 Q0t Q0u Q0v))); (repeat' (first | exact zc | (with_reducible first | apply And.intro | apply Q0a | apply Q0b | refine Q0c (by decide +kernel) ?_ | intro _) | refine zaY zz.out ?_ | ((first | (with_reducible refine uc (iT _) ?_) | (with_reducible refine uc (Q2d _ _) ?_) | (with_reducible refine uc (Q2h _ (by assumption) _) ?_) | (with_reducible refine uc (Q5n _ (by assumption) (by assumption) _) ?_) | (with_reducible refine uc (Q5m _ (by assumption) (by assumption) _) ?_) | (with_reducible refine uc (Q6v _ (by assumption) _) ?_) | (with_reducible refine uc (Q3s _ (by assumption) (by assumption) _) ?_) | (with_reducible refine uc (Q9b _ (by assumption) _) ?_) | (refine Q0d (by exact zK) ?_) | (refine Q0e (by exact zK) ?_)); (try refine zsY zz.out ?_)) | refine zo ?_ | omega | refine ztY zz.out ?_ | fail)); try (all_goals clear zz))
    all_goals (refine ⟨(), trivial, .refl _, Q1d ?_⟩; (have zz := Bx.mk (j6 ui0 ui3 ui4 ui9 ui22 (j9 ui23 ui24 ui25 ui26 ui37 ui38 ui39 ui40 (j9 ui41 ui42 ui67 ui68 ui70 ui71 Q0t Q0u Q0v))); (repeat' (first | exact zc | (with_reducible first | apply And.intro | apply Q0a | apply Q0b | refine Q0c (by decide +kernel) ?_ | intro _) | refine zaY zz.out ?_ | ((first | (with_reducible refine uc (Q2d _ _) ?_) | (with_reducible refine uc (Q2h _ (by assumption) _) ?_) | (with_reducible refine uc (Q5n _ (by assumption) (by assumption) _) ?_) | (with_reducible refine uc (Q5m _ (by assumption) (by assumption) _) ?_) | (with_reducible refine uc (Q6v _ (by assumption) _) ?_) | (with_reducible refine uc (Q3s _ (by assumption) (by assumption) _) ?_) | (with_reducible refine uc (Q9b _ (by assumption) _) ?_) | (refine Q0d (by exact zK) ?_) | (refine Q0e (by exact zK) ?_)); (try refine zsY zz.out ?_)) | refine zo ?_ | omega | refine ztY zz.out ?_ | fail)); try (all_goals clear zz)))
  refine VW.cut (α := Unit) (fun _ => True) (fun _ => [(1, .ro C), (2, .b false), (3, .b bt), (4, .i k)]) (fun _ => σ) ?_ (fun _ _ => ?_)
  · subst hC
    (have zz := Bx.mk (j6 ui0 ui3 ui4 ui9 ui22 (j9 ui23 ui24 ui25 ui26 ui37 ui38 ui39 ui40 (j9 ui41 ui42 ui67 ui68 ui70 ui71 Q0t Q0u Q0v))); (repeat' (first | exact zc | (with_reducible first | apply And.intro | apply Q0a | apply Q0b | refine Q0c (by decide +kernel) ?_ | intro _) | refine zaY zz.out ?_ | ((first | (with_reducible refine uc (Q2d _ _) ?_) | (with_reducible refine uc (Q2h _ (by assumption) _) ?_) | (with_reducible refine uc (Q5n _ (by assumption) (by assumption) _) ?_) | (with_reducible refine uc (Q5m _ (by assumption) (by assumption) _) ?_) | (with_reducible refine uc (Q6v _ (by assumption) _) ?_) | (with_reducible refine uc (Q3s _ (by assumption) (by assumption) _) ?_) | (with_reducible refine uc (Q9b _ (by assumption) _) ?_) | (refine Q0d (by exact zK) ?_) | (refine Q0e (by exact zK) ?_)); (try refine zsY zz.out ?_)) | refine zo ?_ | omega | refine ztY zz.out ?_ | fail)); try (all_goals clear zz))
    all_goals (refine ⟨(), trivial, .refl _, Q1d ?_⟩; (have zz := Bx.mk (j6 ui0 ui3 ui4 ui9 ui22 (j9 ui23 ui24 ui25 ui26 ui37 ui38 ui39 ui40 (j9 ui41 ui42 ui67 ui68 ui70 ui71 Q0t Q0u Q0v))); (repeat' (first | exact zc | (with_reducible first | apply And.intro | apply Q0a | apply Q0b | refine Q0c (by decide +kernel) ?_ | intro _) | refine zaY zz.out ?_ | ((first | (with_reducible refine uc (Q2d _ _) ?_) | (with_reducible refine uc (Q2h _ (by assumption) _) ?_) | (with_reducible refine uc (Q5n _ (by assumption) (by assumption) _) ?_) | (with_reducible refine uc (Q5m _ (by assumption) (by assumption) _) ?_) | (with_reducible refine uc (Q6v _ (by assumption) _) ?_) | (with_reducible refine uc (Q3s _ (by assumption) (by assumption) _) ?_) | (with_reducible refine uc (Q9b _ (by assumption) _) ?_) | (refine Q0d (by exact zK) ?_) | (refine Q0e (by exact zK) ?_)); (try refine zsY zz.out ?_)) | refine zo ?_ | omega | refine ztY zz.out ?_ | fail)); try (all_goals clear zz)))
  refine VW.cut (α := Unit) (fun _ => bt = true ∧ 1 ≤ k ∧ k ≤ 6) (fun _ => [(1, .ro C), (2, .b false), (4, .i k)]) (fun _ => σ) ?_ (fun _ q1' => ?_)
  · subst hC
    clear iC iR iS iI iO iW iG iQ iT iP iJ hcr hch
    (have zz := Bx.mk (j6 ui0 ui3 ui4 ui9 ui22 (j9 ui23 ui24 ui25 ui26 ui37 ui38 ui39 ui40 (j9 ui41 ui42 ui67 ui68 ui70 ui71 Q0t Q0u Q0v))); (repeat' (first | exact zc | (with_reducible first | apply And.intro | apply Q0a | apply Q0b | refine Q0c (by decide +kernel) ?_ | intro _) | refine zaY zz.out ?_ | ((first | (with_reducible refine uc (Q2d _ _) ?_) | (with_reducible refine uc (Q2h _ (by assumption) _) ?_) | (with_reducible refine uc (Q5n _ (by assumption) (by assumption) _) ?_) | (with_reducible refine uc (Q5m _ (by assumption) (by assumption) _) ?_) | (with_reducible refine uc (Q6v _ (by assumption) _) ?_) | (with_reducible refine uc (Q3s _ (by assumption) (by assumption) _) ?_) | (with_reducible refine uc (Q9b _ (by assumption) _) ?_) | (refine Q0d (by exact zK) ?_) | (refine Q0e (by exact zK) ?_)); (try refine zsY zz.out ?_)) | refine zo ?_ | omega | refine ztY zz.out ?_ | fail)); try (all_goals clear zz))
    all_goals first | exact ⟨_, .refl _, b_eq (by simp_all <;> omega), rfl⟩ | (refine ⟨(), ?_, .refl _, Q1d ?_⟩; (simp_all <;> omega); (have zz := Bx.mk (j6 ui0 ui3 ui4 ui9 ui22 (j9 ui23 ui24 ui25 ui26 ui37 ui38 ui39 ui40 (j9 ui41 ui42 ui67 ui68 ui70 ui71 Q0t Q0u Q0v))); (repeat' (first | exact zc | (with_reducible first | apply And.intro | apply Q0a | apply Q0b | refine Q0c (by decide +kernel) ?_ | intro _) | refine zaY zz.out ?_ | ((first | (with_reducible refine uc (Q2d _ _) ?_) | (with_reducible refine uc (Q2h _ (by assumption) _) ?_) | (with_reducible refine uc (Q5n _ (by assumption) (by assumption) _) ?_) | (with_reducible refine uc (Q5m _ (by assumption) (by assumption) _) ?_) | (with_reducible refine uc (Q6v _ (by assumption) _) ?_) | (with_reducible refine uc (Q3s _ (by assumption) (by assumption) _) ?_) | (with_reducible refine uc (Q9b _ (by assumption) _) ?_) | (refine Q0d (by exact zK) ?_) | (refine Q0e (by exact zK) ?_)); (try refine zsY zz.out ?_)) | refine zo ?_ | omega | refine ztY zz.out ?_ | fail)); try (all_goals clear zz))) | trace_state
  refine VW.cut (α := Unit) (fun _ => (k = 1 ∨ cr = false) ∧ (k = 3 ∨ m6 = 0) ∧ (k = 4 ∨ m7 = 0) ∧ (4 ≤ k ∨ m4 = 0)) (fun _ => [(1, .ro C), (2, .b false), (4, .i k)]) (fun _ => σ) ?_ (fun _ q2' => ?_)
  · subst hC
    clear iC iR iS iI iO iW iG iQ iT iP iJ hch
    have hcr2 : cr = (decide (0 < m5) || decide (pk ≠ [])) := hcr.symm
    (have zz := Bx.mk (j2 ui0 (j9 ui3 ui4 ui9 ui22 ui23 ui24 ui25 ui26 (j9 ui37 ui38 ui39 ui40 ui41 ui42 ui67 ui68 (j9 ui70 ui71 Q0t Q0u Q0v n5 n6 n7 n4)))); (repeat' (first | exact zc | (with_reducible first | apply And.intro | apply Q0a | apply Q0b | refine Q0c (by decide +kernel) ?_ | intro _) | refine zaY zz.out ?_ | ((first | (with_reducible refine uc (Q2d _ _) ?_) | (with_reducible refine uc (Q2h _ (by assumption) _) ?_) | (with_reducible refine uc (Q5n _ (by assumption) (by assumption) _) ?_) | (with_reducible refine uc (Q5m _ (by assumption) (by assumption) _) ?_) | (with_reducible refine uc (Q6v _ (by assumption) _) ?_) | (with_reducible refine uc (Q3s _ (by assumption) (by assumption) _) ?_) | (with_reducible refine uc (Q9b _ (by assumption) _) ?_) | (refine Q0d (by exact zK) ?_) | (refine Q0e (by exact zK) ?_)); (try refine zsY zz.out ?_)) | refine zo ?_ | omega | refine ztY zz.out ?_ | fail)); try (all_goals clear zz))
    all_goals first | (refine ⟨_, .refl _, b_eq ?_, rfl⟩; subst hcr2; rcases Nat.eq_zero_or_pos m5 with hz | hz <;> by_cases hp : pk = [] <;> simp_all <;> omega) | (refine ⟨(), ?_, .refl _, Q1d ?_⟩; (subst hcr2; rcases Nat.eq_zero_or_pos m5 with hz | hz <;> by_cases hp : pk = [] <;> simp_all <;> omega); (have zz := Bx.mk (j6 ui0 ui3 ui4 ui9 ui22 (j9 ui23 ui24 ui25 ui26 ui37 ui38 ui39 ui40 (j9 ui41 ui42 ui67 ui68 ui70 ui71 Q0t Q0u Q0v))); (repeat' (first | exact zc | (with_reducible first | apply And.intro | apply Q0a | apply Q0b | refine Q0c (by decide +kernel) ?_ | intro _) | refine zaY zz.out ?_ | ((first | (with_reducible refine uc (Q2d _ _) ?_) | (with_reducible refine uc (Q2h _ (by assumption) _) ?_) | (with_reducible refine uc (Q5n _ (by assumption) (by assumption) _) ?_) | (with_reducible refine uc (Q5m _ (by assumption) (by assumption) _) ?_) | (with_reducible refine uc (Q6v _ (by assumption) _) ?_) | (with_reducible refine uc (Q3s _ (by assumption) (by assumption) _) ?_) | (with_reducible refine uc (Q9b _ (by assumption) _) ?_) | (refine Q0d (by exact zK) ?_) | (refine Q0e (by exact zK) ?_)); (try refine zsY zz.out ?_)) | refine zo ?_ | omega | refine ztY zz.out ?_ | fail)); try (all_goals clear zz))) | trace_state
  clear hcr
  refine VW.cut (α := Unit) (fun _ => k = 6 ∨ ch = false) (fun _ => [(1, .ro C), (2, .b false), (4, .i k)]) (fun _ => σ) ?_ (fun _ q3 => ?_)
  · subst hC
    clear iC iR iS iI iO iW iG iQ iT iP iJ
    (have zz := Bx.mk (j2 ui0 (j9 ui3 ui4 ui9 ui22 ui23 ui24 ui25 ui26 (j9 ui37 ui38 ui39 ui40 ui41 ui42 ui67 ui68 (j9 ui70 ui71 Q0t Q0u Q0v @n1 @n2 n3 n8)))); (repeat' (first | exact zc | (with_reducible first | apply And.intro | apply Q0a | apply Q0b | refine Q0c (by decide +kernel) ?_ | intro _) | refine zaY zz.out ?_ | ((first | (with_reducible refine uc (Q2d _ _) ?_) | (with_reducible refine uc (Q2h _ (by assumption) _) ?_) | (with_reducible refine uc (Q5n _ (by assumption) (by assumption) _) ?_) | (with_reducible refine uc (Q5m _ (by assumption) (by assumption) _) ?_) | (with_reducible refine uc (Q6v _ (by assumption) _) ?_) | (with_reducible refine uc (Q3s _ (by assumption) (by assumption) _) ?_) | (with_reducible refine uc (Q9b _ (by assumption) _) ?_) | (refine Q0d (by exact zK) ?_) | (refine Q0e (by exact zK) ?_)); (try refine zsY zz.out ?_)) | refine zo ?_ | omega | refine ztY zz.out ?_ | fail)); try (all_goals clear zz))
    all_goals first | (refine ⟨_, .refl _, b_eq ?_, rfl⟩; subst hch; (simp_all <;> omega); done) | (refine ⟨(), ?_, .refl _, Q1d ?_⟩; (subst hch; simp_all <;> omega); (have zz := Bx.mk (j6 ui0 ui3 ui4 ui9 ui22 (j9 ui23 ui24 ui25 ui26 ui37 ui38 ui39 ui40 (j9 ui41 ui42 ui67 ui68 ui70 ui71 Q0t Q0u Q0v))); (repeat' (first | exact zc | (with_reducible first | apply And.intro | apply Q0a | apply Q0b | refine Q0c (by decide +kernel) ?_ | intro _) | refine zaY zz.out ?_ | ((first | (with_reducible refine uc (Q2d _ _) ?_) | (with_reducible refine uc (Q2h _ (by assumption) _) ?_) | (with_reducible refine uc (Q5n _ (by assumption) (by assumption) _) ?_) | (with_reducible refine uc (Q5m _ (by assumption) (by assumption) _) ?_) | (with_reducible refine uc (Q6v _ (by assumption) _) ?_) | (with_reducible refine uc (Q3s _ (by assumption) (by assumption) _) ?_) | (with_reducible refine uc (Q9b _ (by assumption) _) ?_) | (refine Q0d (by exact zK) ?_) | (refine Q0e (by exact zK) ?_)); (try refine zsY zz.out ?_)) | refine zo ?_ | omega | refine ztY zz.out ?_ | fail)); try (all_goals clear zz))) | trace_state
  clear hch
  obtain ⟨q4, q5, q6⟩ := q1'
  obtain ⟨q7, q8, q9, q10⟩ := q2'
  have hE : (bt && (decide (1 ≤ k ∧ k ≤ 6) && ((decide (k = 1) || !cr) && ((decide (k = 3) || decide (m6 = 0)) && ((decide (k = 4) || decide (m7 = 0)) && ((decide (k = 6) || !ch) && (decide (4 ≤ k) || decide (m4 = 0)))))))) = true := by
    simp only [q4, Bool.and_eq_true, Bool.or_eq_true, decide_eq_true_eq, Bool.not_eq_true']
    exact ⟨trivial, ⟨q5, q6⟩, q7, q8, q9, q3, q10⟩
  rw [hE, Bool.true_and]
  clear hE q3 q4 q7 q8 q9
  subst hC
  (have zz := Bx.mk (j8 ui0 ui3 ui4 ui9 ui22 ui23 ui24 (j9 ui25 ui26 ui37 ui38 ui39 ui40 ui41 ui42 (j9 ui67 ui68 ui70 ui71 Q0t Q0u Q0v @n1 @n2))); (repeat' (first | exact zc | (with_reducible first | apply And.intro | apply Q0a | apply Q0b | refine Q0c (by decide +kernel) ?_ | intro _) | refine zaY zz.out ?_ | ((first | (with_reducible refine uc (iC _) ?_) | (with_reducible refine uc (iR _) ?_) | (with_reducible refine uc (iS _) ?_) | (with_reducible refine uc (iI _) ?_) | (with_reducible refine uc (iO _) ?_) | (with_reducible refine uc (iW _) ?_) | (with_reducible refine uc (iG _) ?_) | (with_reducible refine uc (iQ _) ?_) | (with_reducible refine uc (iP _) ?_) | (with_reducible refine uc (iJ _) ?_) | (with_reducible refine uc (Q2d _ _) ?_) | (with_reducible refine uc (Q2h _ (by assumption) _) ?_) | (with_reducible refine uc (Q5n _ (by assumption) (by assumption) _) ?_) | (with_reducible refine uc (Q5m _ (by assumption) (by assumption) _) ?_) | (with_reducible refine uc (Q6v _ (by assumption) _) ?_) | (with_reducible refine uc (Q3s _ (by assumption) (by assumption) _) ?_) | (with_reducible refine uc (Q9b _ (by assumption) _) ?_) | (refine Q0d (by exact zK) ?_) | (refine Q0e (by exact zK) ?_)); (try refine zsY zz.out ?_)) | refine zo ?_ | omega | refine ztY zz.out ?_ | fail)); try (all_goals clear zz))
  all_goals first | ((have hk2 : k = 2 := by omega); (have hW2 : bW = true := hw0 (by omega)); exact ⟨_, .refl _, b_eq (by simp [hk2, hW2]), rfl⟩) | (refine ⟨_, .refl _, b_eq ?_, rfl⟩; (simp_all <;> omega); done) | trace_state
theorem x_Script (l : List Stm) (hX : ScX l) (o : Own) (σ : Sg) : VCalls Tryz.prog 16 [.sl o (l.map stmA)] σ (fun x σ' => x = .tup [.s (bs (Q5v l).1), .i (Q5v l).2] ∧ σ' = σ) := by
  have a1 : (l.map stmA).length = l.length := zB ..
  have a2 := Q1r (f := stmA) (n := 14) l (fun _ => rfl)
  have a3 := fun k (h : k < l.length) => Q1q (f := stmA) h
  have hll := hX.len
  unfold Q5v
  by_cases h8 : 8 < l.length
  · rw [if_pos h8]
    generalize l.map stmA = L at *
    (refine vfun (fun _ => .no) Q0k Tryz.func16 (by kernel_rfl) ?_; simp only [Q0f, Tryz.f16, zw])
    (have zz := Bx.mk (j9 ui0 ui3 ui4 ui9 ui22 ui23 ui24 ui25 (j9 ui26 ui30 ui31 ui35 ui37 ui38 ui39 ui40 (j9 ui41 ui42 ui56 ui62 ui63 ui64 ui67 ui68 (j9 ui70 ui71 ui75 Q0q Q0r Q0t Q0u Q0v a1)))); (repeat' (first | exact zc | (with_reducible first | apply And.intro | apply Q0a | apply Q0b | refine Q0c (by decide +kernel) ?_ | intro _) | refine zaY zz.out ?_ | ((first | (with_reducible refine uc (Q9s _ (by assumption) _) ?_) | ((with_reducible refine zS (Q0s _ _ _ _ _ _ _ (by repeat (first | exact Q0j | refine Q0g ?_ (by simp))) (by exact zO) (by exact zN)) ?_); rintro _ S ⟨rfl, τ1, ⟨f1, n1⟩, rfl⟩; have n1s := n1.symm) | (refine Q0d (by exact zK) ?_) | (refine Q0e (by exact zK) ?_)); (try refine zsY zz.out ?_)) | refine zo ?_ | omega | refine ztY zz.out ?_ | fail)); try (all_goals clear zz))
    all_goals first | exact ⟨_, .refl _, rfl⟩ | (exfalso; omega)
  rw [if_neg h8]
  by_cases h0 : l = []
  · subst h0
    rw [if_pos rfl]
    simp only [zA] at a1
    generalize List.map stmA [] = L at *
    (refine vfun (fun _ => .no) Q0k Tryz.func16 (by kernel_rfl) ?_; simp only [Q0f, Tryz.f16, zw])
    (have zz := Bx.mk (j9 ui0 ui3 ui4 ui9 ui22 ui23 ui24 ui25 (j9 ui26 ui30 ui31 ui35 ui37 ui38 ui39 ui40 (j9 ui41 ui42 ui56 ui62 ui63 ui64 ui67 ui68 (j9 ui70 ui71 ui75 Q0q Q0r Q0t Q0u Q0v a1)))); (repeat' (first | exact zc | (with_reducible first | apply And.intro | apply Q0a | apply Q0b | refine Q0c (by decide +kernel) ?_ | intro _) | refine zaY zz.out ?_ | ((first | (with_reducible refine uc (Q9s _ (by assumption) _) ?_) | ((with_reducible refine zS (Q0s _ _ _ _ _ _ _ (by repeat (first | exact Q0j | refine Q0g ?_ (by simp))) (by exact zO) (by exact zN)) ?_); rintro _ S ⟨rfl, τ1, ⟨f1, n1⟩, rfl⟩; have n1s := n1.symm) | (refine Q0d (by exact zK) ?_) | (refine Q0e (by exact zK) ?_)); (try refine zsY zz.out ?_)) | refine zo ?_ | omega | refine ztY zz.out ?_ | fail)); try (all_goals clear zz))
    all_goals first | exact ⟨_, .refl _, rfl⟩ | (exfalso; omega)
  rw [if_neg h0]
  have hl0 : 0 < l.length := List.length_pos_iff.2 h0
  generalize hL : l.map stmA = L at *
  (refine vfun (fun _ => .no) Q0k Tryz.func16 (by kernel_rfl) ?_; simp only [Q0f, Tryz.f16, zw])
  (have zz := Bx.mk (j9 ui0 ui3 ui4 ui9 ui22 ui23 ui24 ui25 (j9 ui26 ui30 ui31 ui35 ui37 ui38 ui39 ui40 (j9 ui41 ui42 ui56 ui62 ui63 ui64 ui67 ui68 (j9 ui70 ui71 ui75 Q0q Q0r Q0t Q0u Q0v a1)))); (repeat' (first | exact zc | (with_reducible first | apply And.intro | apply Q0a | apply Q0b | refine Q0c (by decide +kernel) ?_ | intro _) | refine zaY zz.out ?_ | ((first | (with_reducible refine uc (Q9s _ (by assumption) _) ?_) | ((with_reducible refine zS (Q0s _ _ _ _ _ _ _ (by repeat (first | exact Q0j | refine Q0g ?_ (by simp))) (by exact zO) (by exact zN)) ?_); rintro _ S ⟨rfl, τ1, ⟨f1, n1⟩, rfl⟩; have n1s := n1.symm) | (refine Q0d (by exact zK) ?_) | (refine Q0e (by exact zK) ?_)); (try refine zsY zz.out ?_)) | refine zo ?_ | omega | refine ztY zz.out ?_ | fail)); try (all_goals clear zz))
  all_goals try (exfalso; omega)
  rename_i ω hω
  refine VW.loop3 (0 : Nat) (0 : Nat) () (fun k τ _ => k ≤ l.length ∧ (∀ x ∈ l.take k, fitB x = true) ∧ (k ≠ 0 → σ τ = none ∧ τ ≠ ω)) (fun k _ _ => [(2, .s (bs [])), (3, .i 0), (4, .ref ω 0), (0, .sl o L), (5, .i k)]) (fun k τ _ => if k = 0 then σ.set ω (.cells TW [.sl .nil [], .i 0]) else WB TW [.i ((scD (l.take k) : Nat) : Int)] σ ω τ (scT (l.take k))) (fun k _ _ => l.length - k) ⟨Nat.zero_le _, fun x hx => (by simp at hx), fun h => absurd rfl h⟩ (.refl _) ?_ ?_
  · simp only [vO, vQ, ↓vP, vE, vS, vB, vL, vF, vM, vN, Q0i, zb, zd, ze, ne_eq, not_false_eq_true, zf, zg, zk, zl, vT]
    all_goals first | rfl | exact ⟨rfl, rfl⟩
  rintro k τ _ ⟨hk, hfit, hτ⟩
  rcases Nat.lt_or_ge k l.length with hk2 | hk2
  · have hg := a3 k hk2
    have hmem : l[k] ∈ l := List.getElem_mem hk2
    have iF := Q9s l[k] (hX.lim _ hmem).s
    have hbig := hX.big (by omega) _ hmem
    have hlm := hX.lim _ hmem
    have q1 := X4a l[k]
    have q2 := X4b l[k]
    have q3 := X2d l[k]
    have q4 := X2e l[k]
    have hpre := X0o (l := l) (N := 2 ^ 26) k (fun x hx => (hX.big (by omega) x (List.mem_of_mem_take hx) (hfit x hx)).1)
    have hst := X4d hk2
    have hsd : scD (l.take (k + 1)) = max (scD (l.take k)) (stD l[k]) := Q6g stD hk2
    have hnx : fitB l[k] = true → ∀ x ∈ l.take (k + 1), fitB x = true := fun hb x hx => by
      rw [List.take_succ_eq_append_getElem hk2] at hx
      rcases List.mem_append.1 hx with hx | hx
      · exact hfit x hx
      · rw [List.mem_singleton.1 hx]; exact hb
    have hall : fitB l[k] = false → l.all fitB = false := fun hb => by
      rw [List.all_eq_false]
      exact ⟨l[k], hmem, by rw [hb]; decide⟩
    cases hb : fitB l[k] with
    | false =>
      rw [hb] at iF
      rw [hall hb]
      generalize stmA l[k] = D at *
      clear hbig hst hsd hnx hall hpre hfit
      by_cases hz : k = 0
      · subst hz
        simp only [↓reduceIte]
        (have zz := Bx.mk (j7 ui0 ui3 ui4 ui9 ui22 ui23 (j9 ui24 ui25 ui26 ui30 ui31 ui35 ui37 ui38 (j9 ui39 ui40 ui41 ui42 ui56 ui62 ui63 ui64 (j9 ui67 ui68 ui70 ui71 ui75 Q0q Q0r Q0t (j9 Q0u Q0v a1 a2 hg q1 q2 q3 q4))))); (repeat' (first | exact zc | (with_reducible first | apply And.intro | apply Q0a | apply Q0b | refine Q0c (by decide +kernel) ?_ | intro _) | refine zaY zz.out ?_ | ((first | (with_reducible refine uc (iF _) ?_) | (with_reducible refine uc (Q9s _ (by assumption) _) ?_) | ((with_reducible refine zS (Q0s _ _ _ _ _ _ _ (by repeat (first | exact Q0j | refine Q0g ?_ (by simp))) (by exact zO) (by exact zN)) ?_); rintro _ S ⟨rfl, τ1, ⟨f1, n1⟩, rfl⟩; have n1s := n1.symm) | (refine Q0d (by exact zK) ?_) | (refine Q0e (by exact zK) ?_)); (try refine zsY zz.out ?_)) | refine zo ?_ | omega | refine ztY zz.out ?_ | fail)); try (all_goals clear zz))
        all_goals first | exact ⟨σ, by (exact zu), rfl, rfl⟩ | exact ⟨σ, by (exact zu), rfl⟩
      · rw [if_neg hz]
        obtain ⟨f1, n1⟩ := hτ hz
        (have zz := Bx.mk (j7 ui0 ui3 ui4 ui9 ui22 ui23 (j9 ui24 ui25 ui26 ui30 ui31 ui35 ui37 ui38 (j9 ui39 ui40 ui41 ui42 ui56 ui62 ui63 ui64 (j9 ui67 ui68 ui70 ui71 ui75 Q0q Q0r Q0t (j9 Q0u Q0v a1 a2 hg q1 q2 q3 q4))))); (repeat' (first | exact zc | (with_reducible first | apply And.intro | apply Q0a | apply Q0b | refine Q0c (by decide +kernel) ?_ | intro _) | refine zaY zz.out ?_ | ((first | (with_reducible refine uc (iF _) ?_) | (with_reducible refine uc (Q9s _ (by assumption) _) ?_) | ((with_reducible refine zS (Q0s _ _ _ _ _ _ _ (by repeat (first | exact Q0j | refine Q0g ?_ (by simp))) (by exact zO) (by exact zN)) ?_); rintro _ S ⟨rfl, τ1, ⟨f1, n1⟩, rfl⟩; have n1s := n1.symm) | (refine Q0d (by exact zK) ?_) | (refine Q0e (by exact zK) ?_)); (try refine zsY zz.out ?_)) | refine zo ?_ | omega | refine ztY zz.out ?_ | fail)); try (all_goals clear zz))
        all_goals first | exact ⟨σ, by (exact zu), rfl, rfl⟩ | exact ⟨σ, by (exact zu), rfl⟩
    | true =>
      rw [hb] at iF
      have hnx := hnx hb
      obtain ⟨b1, b2⟩ := hbig hb
      have hW := df_state ω l[k] hb hlm
      clear hall hbig
      generalize stT l[k] = TT at *
      generalize stD l[k] = DD at *
      generalize stmA l[k] = D at *
      by_cases hz : k = 0
      · subst hz
        have e0 : scT (l.take 0) = [] := rfl
        have e1 : scD (l.take 0) = 0 := rfl
        rw [e0, if_pos rfl, List.nil_append, List.nil_append] at hst
        rw [e1] at hsd
        have hS0 : ∀ (S : Sg), S ω = some (.cells TW [.sl .nil [], .i 0]) → VCalls Tryz.prog 33 [.ref ω 0, .agg D] S (fun x σ' => x = .tup [] ∧ ∃ τ', Print.okS S ω τ' ∧ σ' = WB TW [.i (DD : Nat)] S ω τ' TT) := fun S hS => by
          refine VCalls.tok0 (e := 102) 0 4 hS rfl (fun τ hτ hne => ?_)
          have := hW S τ [] 0 ⟨hτ, hne⟩ (by omega) (by simp; omega)
          rw [List.nil_append] at this
          refine zS this (fun x σ' hx => ?_)
          obtain ⟨rfl, τ', ok, rfl⟩ := hx
          exact ⟨rfl, τ', ok, Q3z rfl (by unfold mxi; omega)⟩
        simp only [↓reduceIte]
        (have zz := Bx.mk (j7 ui0 ui3 ui4 ui9 ui22 ui23 (j9 ui24 ui25 ui26 ui30 ui31 ui35 ui37 ui38 (j9 ui39 ui40 ui41 ui42 ui56 ui62 ui63 ui64 (j9 ui67 ui68 ui70 ui71 ui75 Q0q Q0r Q0t (j9 Q0u Q0v a1 a2 hg q1 q2 q3 q4))))); (repeat' (first | exact zc | (with_reducible first | apply And.intro | apply Q0a | apply Q0b | refine Q0c (by decide +kernel) ?_ | intro _) | refine zaY zz.out ?_ | ((first | (with_reducible refine uc (iF _) ?_) | ((with_reducible refine zS (hS0 _ (by exact zK)) ?_); rintro _ S ⟨rfl, τ1, hok, rfl⟩) | (with_reducible refine uc (Q9s _ (by assumption) _) ?_) | ((with_reducible refine zS (Q0s _ _ _ _ _ _ _ (by repeat (first | exact Q0j | refine Q0g ?_ (by simp))) (by exact zO) (by exact zN)) ?_); rintro _ S ⟨rfl, τ1, ⟨f1, n1⟩, rfl⟩; have n1s := n1.symm) | (refine Q0d (by exact zK) ?_) | (refine Q0e (by exact zK) ?_)); (try refine zsY zz.out ?_)) | refine zo ?_ | omega | refine ztY zz.out ?_ | fail)); try (all_goals clear zz))
        all_goals try (exfalso; omega)
        obtain ⟨nw, f3⟩ := Sg.none_set hok.free
        refine ⟨1, τ1, (), ⟨⟨hk2, hnx, fun _ => ⟨f3, hok.ne⟩⟩, by omega⟩, ?_, rfl⟩
        rw [if_neg (by decide), hst, hsd, Nat.zero_max]
        first | (exact zu) | trace_state
      · rw [if_neg hz]
        obtain ⟨f1, n1⟩ := hτ hz
        have n1s := n1.symm
        rw [if_neg hz] at hst
        have hA1 : (scT (l.take k)).length ≤ 2 ^ 30 := by omega
        have hW := hW σ
        have h0M : (0 : Int) ≤ ((scD (l.take k) : Nat) : Int) := Int.natCast_nonneg _
        generalize hA : scT (l.take k) = A at *
        generalize hM : ((scD (l.take k) : Nat) : Int) = M at *
        (have zz := Bx.mk (j8 ui0 ui3 ui4 ui9 ui22 ui23 ui24 (j9 ui25 ui26 ui30 ui31 ui35 ui37 ui38 ui39 (j9 ui40 ui41 ui42 ui56 ui62 ui63 ui64 ui67 (j9 ui68 ui70 ui71 ui75 Q0q Q0r Q0t Q0u (j9 Q0v a1 a2 hg q1 q2 q3 q4 WLg))))); (repeat' (first | exact zc | (with_reducible first | apply And.intro | apply Q0a | apply Q0b | refine Q0c (by decide +kernel) ?_ | intro _) | refine zaY zz.out ?_ | ((first | (with_reducible refine uc (iF _) ?_) | ((with_reducible refine zS (hW _ _ _ (by exact zO) (by exact zD) (by exact zN)) ?_); rintro _ S ⟨rfl, τ1, ⟨f1, n1⟩, rfl⟩; have n1s := n1.symm) | (with_reducible refine uc (Q9s _ (by assumption) _) ?_) | ((with_reducible refine zS (Q0s _ _ _ _ _ _ _ (by repeat (first | exact Q0j | refine Q0g ?_ (by simp))) (by exact zO) (by exact zN)) ?_); rintro _ S ⟨rfl, τ1, ⟨f1, n1⟩, rfl⟩; have n1s := n1.symm) | (refine Q0d (by exact zK) ?_) | (refine Q0e (by exact zK) ?_)); (try refine zsY zz.out ?_)) | refine zo ?_ | omega | refine ztY zz.out ?_ | fail)); try (all_goals clear zz))
        all_goals try (exfalso; omega)
        all_goals first | exact ⟨k + 1, τ1, (), ⟨⟨hk2, hnx, fun _ => ⟨f1, n1⟩⟩, by omega⟩, by rw [if_neg (by omega)]; exact Q4f (Q3z (by rw [hst]; simp) (by rw [hsd, ← hM]; unfold mxi; omega)), rfl⟩ | trace_state
  · have hkl : k = l.length := by omega
    have hz : k ≠ 0 := by omega
    rw [if_neg hz]
    obtain ⟨f1, n1⟩ := hτ hz
    rw [List.take_of_length_le hk2] at hfit ⊢
    rw [if_pos (List.all_eq_true.2 hfit)]
    have hpre := X0o (l := l) (N := 2 ^ 26) l.length (fun x hx => (hX.big (by omega) x (List.mem_of_mem_take hx) (hfit x (List.mem_of_mem_take hx))).1)
    rw [List.take_length] at hpre
    have hgd : AG (scT l) := sc_good (fun x hx => st_good (hfit x hx) (hX.lim x hx))
    have hE := x_end σ σ ω τ (scT l) (scD l) (by intro y p hy; rw [Q8c]; simp only [Sg.set_apply]; grind) hgd (by omega)
    generalize fin (scT l) (scD l) = R at *
    generalize scT l = A at *
    generalize scD l = M at *
    (have zz := Bx.mk (j9 ui0 ui3 ui4 ui9 ui22 ui23 ui24 ui25 (j9 ui26 ui30 ui31 ui35 ui37 ui38 ui39 ui40 (j9 ui41 ui42 ui56 ui62 ui63 ui64 ui67 ui68 (j9 ui70 ui71 ui75 Q0q Q0r Q0t Q0u Q0v a1)))); (repeat' (first | exact zc | (with_reducible first | apply And.intro | apply Q0a | apply Q0b | refine Q0c (by decide +kernel) ?_ | intro _) | refine zaY zz.out ?_ | ((first | (with_reducible refine uc (hE) ?_) | (with_reducible refine uc (Q9s _ (by assumption) _) ?_) | ((with_reducible refine zS (Q0s _ _ _ _ _ _ _ (by repeat (first | exact Q0j | refine Q0g ?_ (by simp))) (by exact zO) (by exact zN)) ?_); rintro _ S ⟨rfl, τ1, ⟨f1, n1⟩, rfl⟩; have n1s := n1.symm) | (refine Q0d (by exact zK) ?_) | (refine Q0e (by exact zK) ?_)); (try refine zsY zz.out ?_)) | refine zo ?_ | omega | refine ztY zz.out ?_ | fail)); try (all_goals clear zz))
    all_goals exact ⟨_, .refl _, rfl⟩
end Go.Proofs.YtjdapkelojdefaaGreatDoor
namespace Go.Proofs.YtjdapkelojdefaaGreatDoor
open Go.ChangeShapes Go.WideShapes Go.ChangeAt Go.RowKit Go.V
theorem own : ownKnob Tryz.prog.godebug = none := by kernel_rfl
theorem laidOut : laidOutB Tryz.prog = true := by kernel_rfl
abbrev laid : List (String × DataW Unit) := [("math/bits.deBruijn32tab", Rows.laid_math_bits_deBruijn32tab), ("math/bits.deBruijn64tab", Rows.laid_math_bits_deBruijn64tab), ("internal/strconv.uint64pow10", Rows.laid_internal_strconv_uint64pow10), ("unicode/utf8.acceptRanges", Rows.laid_unicode_utf8_acceptRanges), ("unicode/utf8.first", Rows.laid_unicode_utf8_first)]
theorem glob {W : World} (h : laidMetH Tryz.prog laid W) : Glob (K0 W) := by
  rw [MakeChecks.laidMetH_plain _ _ _ (by kernel_rfl)] at h
  obtain ⟨ps, ⟨g0, t0, cs0, f0, p0, q0, hg0, ht0, hv0, hd0, ⟨g1, t1, cs1, f1, p1, q1, hg1, ht1, hv1, hd1, ⟨g, t, cs, fuel, p, q, hg, ht, hv, hd, _, _⟩, _⟩, _⟩, _, _⟩ := h
  obtain rfl := Option.some.inj ((show Tryz.prog.globalNamed "internal/strconv.uint64pow10" = some 1 by kernel_rfl).symm.trans hg)
  obtain rfl := Option.some.inj ((show (Tryz.prog.globals[1]?).map (·.type) = some 186 by kernel_rfl).symm.trans ht)
  obtain ⟨xs, m, _, ex, _, hl, hel⟩ := DataW.trod_array Tryz.underlying186 hd
  have c5 : Tryz.prog.cellsOf 179 = 1 := by kernel_rfl
  have hlen : pow10tab.length = 20 := by kernel_rfl
  have e3 : (xs.map (·.1)) = pow10tab.map fun v => match v with | .int k n => (DataW.lit (.int k n) : DataW Unit) | _ => .nil := (DataW.agg.inj (Prod.mk.inj ex).1).symm
  intro g cs' hg' r v hr
  by_cases hgg : g = 1
  · subst hgg
    obtain rfl : pow10tab = cs' := Option.some.inj ((if_pos rfl).symm.trans hg')
    refine ⟨?_, fun hh => hh⟩
    have hr20 : r < 20 := by rw [← hlen]; exact (List.getElem?_eq_some_iff.1 hr).1
    have hE := hel r hr20
    rw [c5, Nat.mul_one, List.getElem?_eq_getElem (by omega)] at hE
    obtain ⟨z, e1, e2, _⟩ := DataW.trod_int Tryz.underlying179 hE
    have e4 : (xs.map (·.1))[r]? = (pow10tab.map fun v => match v with | .int k n => (DataW.lit (.int k n) : DataW Unit) | _ => .nil)[r]? := by rw [e3]
    rw [List.getElem?_map, List.getElem?_map, List.getElem?_eq_getElem (by omega : r < xs.length), hr, e2] at e4
    have hz : v = .int .u64 z := by
      cases v <;> simp at e4
      rw [← e4.1, ← e4.2]
    show W.cell? _ = _
    rw [World.var?_cell hg hv r, hz]
    have : cs.toList[r]? = some (.int .u64 z) := by
      have h0 : ((cs.toList.drop r).take 1)[0]? = some (.int .u64 z) := by rw [e1]; rfl
      simpa using h0
    simpa using this
  · have : gtab g = none := if_neg hgg
    rw [this] at hg'; cases hg'
end Go.Proofs.YtjdapkelojdefaaGreatDoor
