/- Part 12 of the proof: W30, W31, W32, W33, W34, W35, W36, W37, W38, G13, G14, G15. -/
import Derived.Test.YtjdapkelojdefaaGreatDoorN7
import Derived.Test.YtjdapkelojdefaaGreatDoorN11
import Derived.Test.YtjdapkelojdefaaGreatDoorN10

set_option linter.all false
set_option maxRecDepth 100000
set_option maxHeartbeats 4000000
open Go.V.Sg renaming set_same → zn, set_ne → zp, set_ne' → zq, del_ne → zr, del_ne' → zv
open Option renaming getD_some → zw
open List renaming length_append → zx, length_cons → zy, length_nil → zA, length_map → zB
open Go.Cert renaming ne_of2 → zP, ne_ob → zQ
open Go.V.VCalls renaming mono → zS
namespace Go.Proofs.YtjdapkelojdefaaGreatDoor
open Go Go.V Go.Lex Go.Parse Go.Print
structure LimS (x : Stm) : Prop where
  k : inR x.k
  lim : inR x.lim
  cols : x.cols.length ≤ 9223372036854775807
  rows : x.rows.length ≤ 9223372036854775807
  row : ∀ r ∈ x.rows, r.length ≤ 9223372036854775807
  sets : x.sets.length ≤ 9223372036854775807
  set : ∀ y ∈ x.sets, Lim y.2
  items : x.items.length ≤ 9223372036854775807
  item : ∀ y ∈ x.items, LimL y.2
  on : LimL x.on
  wh : LimL x.wh
  gr : LimL x.gr
  or : LimL x.or
theorem Q2k (x : Stm) (h : LimS x) (σ : Sg) : VCalls Tryz.prog 62 [.agg (stmA x)] σ (fun y σ' => y = .b (selB x) ∧ σ' = σ) := by
  obtain ⟨k, t, cols, pk, rows, sets, items, join, on, wh, gr, or, desc, lim⟩ := x
  obtain ⟨h1, h2, h3, h4, h5, h6, h7, h8, h9, h10, h11, h12, h13⟩ := h
  dsimp only at h1 h2 h3 h4 h5 h6 h7 h8 h9 h10 h11 h12 h13
  unfold stmA selB Go.Print.joinB
  dsimp only
  have i1 := v_items items h8 h9
  have i2 := Q5d on h10
  have i3 := X4c gr h12
  have i4 := X4c or h13
  have i5 := Q1z join
  have n1 := Q1c on
  have n2 := Q1c or
  generalize Q5c items = b1 at *
  generalize oneB on = b2 at *
  generalize colB gr = b3 at *
  generalize colB or = b4 at *
  have hj : join = [] → isNm join = false := fun e => by rw [e]; rfl
  generalize isNm join = b5 at *
  generalize exsA on = L1 at *
  generalize exsA or = L2 at *
  generalize on.length = m1 at *
  generalize or.length = m2 at *
  (refine vfun (fun _ => .ro) Q0k Tryz.func62 (by kernel_rfl) ?_; simp only [Q0f, Tryz.f62, zw])
  (have zz := Bx.mk (j8 ui0 ui3 ui4 ui9 ui22 ui23 ui24 (j9 ui25 ui26 ui37 ui38 ui39 ui40 ui41 ui42 (j9 ui67 ui68 ui70 ui71 Q0t Q0u Q0v @n1 @n2))); (repeat' (first | exact zc | (with_reducible first | apply And.intro | apply Q0a | apply Q0b | refine Q0c (by decide +kernel) ?_ | intro _) | refine zaY zz.out ?_ | ((first | (with_reducible refine uc (i1 _) ?_) | (with_reducible refine uc (i2 _) ?_) | (with_reducible refine uc (i3 _) ?_) | (with_reducible refine uc (i4 _) ?_) | (with_reducible refine uc (i5 _) ?_) | (with_reducible refine uc (Q1z _ _) ?_) | (with_reducible refine uc (Q5d _ (by assumption) _) ?_) | (with_reducible refine uc (v_items _ (by assumption) (by assumption) _) ?_) | (with_reducible refine uc (X4c _ (by assumption) _) ?_) | (refine Q0d (by exact zK) ?_) | (refine Q0e (by exact zK) ?_)); (try refine zsY zz.out ?_)) | refine zo ?_ | omega | refine ztY zz.out ?_ | fail)); try (all_goals clear zz))
  all_goals first | exact ⟨_, .refl _, b_eq (by simp_all <;> omega), rfl⟩ | trace_state
theorem Q6f (x : Stm) (h : LimS x) (hsm : x.items.length + x.on.length + x.gr.length + x.or.length ≤ 9223372036854775807) (σ : Sg) : VCalls Tryz.prog 28 [.agg (stmA x)] σ (fun y σ' => y = .b (fitB x) ∧ σ' = σ) := by
  have hS := Q2k x h
  obtain ⟨k, t, cols, pk, rows, sets, items, join, on, wh, gr, or, desc, lim⟩ := x
  obtain ⟨h1, h2, h3, h4, h5, h6, h7, h8, h9, h10, h11, h12, h13⟩ := h
  dsimp only at h1 h2 h3 h4 h5 h6 h7 h8 h9 h10 h11 h12 h13 hsm
  unfold fitB bareB
  generalize hcr : X2f _ = cr
  generalize hch : X2g _ = ch
  unfold X2f at hcr
  unfold X2g at hch
  dsimp only at hcr hch
  have iC := Q2j cols h3
  have iR := Q6e rows h4 h5
  have iS := Q6d sets h6 h7
  have iW := Q5d wh h11
  have iT := Q1z t
  have iP := Q1z pk
  have n1 := Q1c on
  have n2 := Q1c or
  have n3 := Q1c gr
  have n4 := Q1c wh
  have n5 : (cols.map coA).length = cols.length := zB ..
  have n6 : (rows.map rowA).length = rows.length := zB ..
  have n7 : (sets.map setA).length = sets.length := zB ..
  have n8 : (items.map Q2e).length = items.length := zB ..
  clear h5 h7 h9 h10 h11 h12 h13
  generalize selB _ = bS at *
  dsimp only
  unfold stmA at *
  dsimp only at *
  generalize Q9n cols = bC at *
  generalize Q9o rows = bR at *
  generalize Q8z sets = bT at *
  generalize oneB wh = bW at *
  generalize isNm t = bt at *
  generalize isNm pk = bp at *
  generalize exsA on = L1 at *
  generalize exsA or = L2 at *
  generalize exsA gr = L3 at *
  generalize exsA wh = L4 at *
  generalize cols.map coA = L5 at *
  generalize rows.map rowA = L6 at *
  generalize sets.map setA = L7 at *
  generalize items.map Q2e = L8 at *
  generalize on.length = m1 at *
  generalize or.length = m2 at *
  generalize gr.length = m3 at *
  generalize wh.length = m4 at *
  generalize cols.length = m5 at *
  generalize rows.length = m6 at *
  generalize sets.length = m7 at *
  generalize items.length = m8 at *
  obtain ⟨C, hC⟩ : ∃ C : List AV, C = [.i k, .s (bs t), .sl .any L5, .s (bs pk), .sl .any L6, .sl .any L7, .sl .any L8, .s (bs join), .sl .any L1, .sl .any L4, .sl .any L3, .sl .any L2, .b desc, .i lim] := ⟨_, rfl⟩
  (refine vfun (fun _ => .ro) Q0k Tryz.func28 (by kernel_rfl) ?_; simp only [Q0f, Tryz.f28, zw])
  refine VW.cut (α := Unit) (fun _ => True) (fun _ => [(1, .ro C), (2, .b false)]) (fun _ => σ) ?_ (fun _ _ => ?_)
  · subst hC
    (have zz := Bx.mk (j6 ui0 ui3 ui4 ui9 ui22 (j9 ui23 ui24 ui25 ui26 ui37 ui38 ui39 ui40 (j9 ui41 ui42 ui67 ui68 ui70 ui71 Q0t Q0u Q0v))); (repeat' (first | exact zc | (with_reducible first | apply And.intro | apply Q0a | apply Q0b | refine Q0c (by decide +kernel) ?_ | intro _) | refine zaY zz.out ?_ | ((first | (with_reducible refine uc (Q1z _ _) ?_) | (with_reducible refine uc (Q5d _ (by assumption) _) ?_) | (with_reducible refine uc (Q2j _ (by assumption) _) ?_) | (with_reducible refine uc (Q6e _ (by assumption) (by assumption) _) ?_) | (with_reducible refine uc (Q6d _ (by assumption) (by assumption) _) ?_) | (with_reducible refine uc (Q2k _ (by assumption) _) ?_) | (refine Q0d (by exact zK) ?_) | (refine Q0e (by exact zK) ?_)); (try refine zsY zz.out ?_)) | refine zo ?_ | omega | refine ztY zz.out ?_ | fail)); try (all_goals clear zz))
    all_goals (refine ⟨(), trivial, .refl _, Q1d ?_⟩; (have zz := Bx.mk (j6 ui0 ui3 ui4 ui9 ui22 (j9 ui23 ui24 ui25 ui26 ui37 ui38 ui39 ui40 (j9 ui41 ui42 ui67 ui68 ui70 ui71 Q0t Q0u Q0v))); (repeat' (first | exact zc | (with_reducible first | apply And.intro | apply Q0a | apply Q0b | refine Q0c (by decide +kernel) ?_ | intro _) | refine zaY zz.out ?_ | ((first | (with_reducible refine uc (Q1z _ _) ?_) | (with_reducible refine uc (Q5d _ (by assumption) _) ?_) | (with_reducible refine uc (Q2j _ (by assumption) _) ?_) | (with_reducible refine uc (Q6e _ (by assumption) (by assumption) _) ?_) | (with_reducible refine uc (Q6d _ (by assumption) (by assumption) _) ?_) | (with_reducible refine uc (Q2k _ (by assumption) _) ?_) | (refine Q0d (by exact zK) ?_) | (refine Q0e (by exact zK) ?_)); (try refine zsY zz.out ?_)) | refine zo ?_ | omega | refine ztY zz.out ?_ | fail)); try (all_goals clear zz)))
  refine VW.cut (α := Unit) (fun _ => True) (fun _ => [(1, .ro C), (2, .b false), (3, .i k)]) (fun _ => σ) ?_ (fun _ _ => ?_)
  · subst hC
    (have zz := Bx.mk (j6 ui0 ui3 ui4 ui9 ui22 (j9 ui23 ui24 ui25 ui26 ui37 ui38 ui39 ui40 (j9 ui41 ui42 ui67 ui68 ui70 ui71 Q0t Q0u Q0v))); (repeat' (first | exact zc | (with_reducible first | apply And.intro | apply Q0a | apply Q0b | refine Q0c (by decide +kernel) ?_ | intro _) | refine zaY zz.out ?_ | ((first | (with_reducible refine uc (Q1z _ _) ?_) | (with_reducible refine uc (Q5d _ (by assumption) _) ?_) | (with_reducible refine uc (Q2j _ (by assumption) _) ?_) | (with_reducible refine uc (Q6e _ (by assumption) (by assumption) _) ?_) | (with_reducible refine uc (Q6d _ (by assumption) (by assumption) _) ?_) | (with_reducible refine uc (Q2k _ (by assumption) _) ?_) | (refine Q0d (by exact zK) ?_) | (refine Q0e (by exact zK) ?_)); (try refine zsY zz.out ?_)) | refine zo ?_ | omega | refine ztY zz.out ?_ | fail)); try (all_goals clear zz))
    all_goals (refine ⟨(), trivial, .refl _, Q1d ?_⟩; (have zz := Bx.mk (j6 ui0 ui3 ui4 ui9 ui22 (j9 ui23 ui24 ui25 ui26 ui37 ui38 ui39 ui40 (j9 ui41 ui42 ui67 ui68 ui70 ui71 Q0t Q0u Q0v))); (repeat' (first | exact zc | (with_reducible first | apply And.intro | apply Q0a | apply Q0b | refine Q0c (by decide +kernel) ?_ | intro _) | refine zaY zz.out ?_ | ((first | (with_reducible refine uc (Q1z _ _) ?_) | (with_reducible refine uc (Q5d _ (by assumption) _) ?_) | (with_reducible refine uc (Q2j _ (by assumption) _) ?_) | (with_reducible refine uc (Q6e _ (by assumption) (by assumption) _) ?_) | (with_reducible refine uc (Q6d _ (by assumption) (by assumption) _) ?_) | (with_reducible refine uc (Q2k _ (by assumption) _) ?_) | (refine Q0d (by exact zK) ?_) | (refine Q0e (by exact zK) ?_)); (try refine zsY zz.out ?_)) | refine zo ?_ | omega | refine ztY zz.out ?_ | fail)); try (all_goals clear zz)))
  refine VW.cut (α := Unit) (fun _ => True) (fun _ => [(1, .ro C), (2, .b false), (3, .i k), (4, .b cr)]) (fun _ => σ) ?_ (fun _ _ => ?_)
  · subst hC
    (have zz := Bx.mk (j7 ui0 ui3 ui4 ui9 ui22 ui23 (j9 ui24 ui25 ui26 ui37 ui38 ui39 ui40 ui41 (j9 ui42 ui67 ui68 ui70 ui71 Q0t Q0u Q0v n5))); (repeat' (first | exact zc | (with_reducible first | apply And.intro | apply Q0a | apply Q0b | refine Q0c (by decide +kernel) ?_ | intro _) | refine zaY zz.out ?_ | ((first | (with_reducible refine uc (Q1z _ _) ?_) | (with_reducible refine uc (Q5d _ (by assumption) _) ?_) | (with_reducible refine uc (Q2j _ (by assumption) _) ?_) | (with_reducible refine uc (Q6e _ (by assumption) (by assumption) _) ?_) | (with_reducible refine uc (Q6d _ (by assumption) (by assumption) _) ?_) | (with_reducible refine uc (Q2k _ (by assumption) _) ?_) | (refine Q0d (by exact zK) ?_) | (refine Q0e (by exact zK) ?_)); (try refine zsY zz.out ?_)) | refine zo ?_ | omega | refine ztY zz.out ?_ | fail)); try (all_goals clear zz))
    all_goals (refine ⟨(), trivial, .refl _, Q1d ?_⟩; (have zz := Bx.mk (j6 ui0 ui3 ui4 ui9 ui22 (j9 ui23 ui24 ui25 ui26 ui37 ui38 ui39 ui40 (j9 ui41 ui42 ui67 ui68 ui70 ui71 Q0t Q0u Q0v))); (repeat' (first | exact zc | (with_reducible first | apply And.intro | apply Q0a | apply Q0b | refine Q0c (by decide +kernel) ?_ | intro _) | refine zaY zz.out ?_ | ((first | (with_reducible refine uc (Q1z _ _) ?_) | (with_reducible refine uc (Q5d _ (by assumption) _) ?_) | (with_reducible refine uc (Q2j _ (by assumption) _) ?_) | (with_reducible refine uc (Q6e _ (by assumption) (by assumption) _) ?_) | (with_reducible refine uc (Q6d _ (by assumption) (by assumption) _) ?_) | (with_reducible refine uc (Q2k _ (by assumption) _) ?_) | (refine Q0d (by exact zK) ?_) | (refine Q0e (by exact zK) ?_)); (try refine zsY zz.out ?_)) | refine zo ?_ | omega | refine ztY zz.out ?_ | fail)); try (all_goals clear zz)))
    all_goals (refine b_eq ?_; subst hcr; rcases Nat.eq_zero_or_pos m5 with hz | hz <;> first | (exfalso; omega) | (by_cases hp : pk = [] <;> simp [hz, hp]))
  refine VW.cut (α := Unit) (fun _ => True) (fun _ => [(1, .ro C), (2, .b false), (3, .i k), (4, .b cr), (5, .b ch)]) (fun _ => σ) ?_ (fun _ _ => ?_)
  · subst hC
    clear hS iC iR iS iW iT iP
    (have zz := Bx.mk (j2 ui0 (j9 ui3 ui4 ui9 ui22 ui23 ui24 ui25 ui26 (j9 ui37 ui38 ui39 ui40 ui41 ui42 ui67 ui68 (j9 ui70 ui71 Q0t Q0u Q0v @n1 @n2 n3 n8)))); (repeat' (first | exact zc | (with_reducible first | apply And.intro | apply Q0a | apply Q0b | refine Q0c (by decide +kernel) ?_ | intro _) | refine zaY zz.out ?_ | ((first | (with_reducible refine uc (Q1z _ _) ?_) | (with_reducible refine uc (Q5d _ (by assumption) _) ?_) | (with_reducible refine uc (Q2j _ (by assumption) _) ?_) | (with_reducible refine uc (Q6e _ (by assumption) (by assumption) _) ?_) | (with_reducible refine uc (Q6d _ (by assumption) (by assumption) _) ?_) | (with_reducible refine uc (Q2k _ (by assumption) _) ?_) | (refine Q0d (by exact zK) ?_) | (refine Q0e (by exact zK) ?_)); (try refine zsY zz.out ?_)) | refine zo ?_ | omega | refine ztY zz.out ?_ | fail)); try (all_goals clear zz))
    all_goals (refine ⟨(), trivial, .refl _, Q1d ?_⟩; (have zz := Bx.mk (j6 ui0 ui3 ui4 ui9 ui22 (j9 ui23 ui24 ui25 ui26 ui37 ui38 ui39 ui40 (j9 ui41 ui42 ui67 ui68 ui70 ui71 Q0t Q0u Q0v))); (repeat' (first | exact zc | (with_reducible first | apply And.intro | apply Q0a | apply Q0b | refine Q0c (by decide +kernel) ?_ | intro _) | refine zaY zz.out ?_ | ((first | (with_reducible refine uc (Q1z _ _) ?_) | (with_reducible refine uc (Q5d _ (by assumption) _) ?_) | (with_reducible refine uc (Q2j _ (by assumption) _) ?_) | (with_reducible refine uc (Q6e _ (by assumption) (by assumption) _) ?_) | (with_reducible refine uc (Q6d _ (by assumption) (by assumption) _) ?_) | (with_reducible refine uc (Q2k _ (by assumption) _) ?_) | (refine Q0d (by exact zK) ?_) | (refine Q0e (by exact zK) ?_)); (try refine zsY zz.out ?_)) | refine zo ?_ | omega | refine ztY zz.out ?_ | fail)); try (all_goals clear zz)))
    all_goals (refine b_eq ?_; subst hch; rcases Nat.eq_zero_or_pos (m8 + m1 + m3 + m2) with hz | hz <;> first | (exfalso; omega) | (clear n1 n2 n3 n4 n5 n6 n7 n8 h1 h2 h3 h4 h6 h8; by_cases hj : join = [] <;> by_cases hl : lim = -1 <;> cases desc <;> first | (simp_all; done) | (simp [hz, hj, hl]; done) | trace_state))
  clear hcr hch
  refine VW.cut (α := Unit) (fun _ => bt = true ∧ (1 ≤ k ∧ k ≤ 6) ∧ (k = 1 ∨ cr = false) ∧ (k = 3 ∨ m6 = 0) ∧ (k = 4 ∨ m7 = 0) ∧ (k = 6 ∨ ch = false) ∧ (4 ≤ k ∨ m4 = 0) ∧ bW = true) (fun _ => [(1, .ro C), (2, .b false), (3, .i k)]) (fun _ => σ) ?_ (fun _ q => ?_)
  · subst hC
    clear hS iC iR iS iP
    (have zz := Bx.mk (j9 ui0 ui3 ui4 ui9 ui22 ui23 ui24 ui25 (j9 ui26 ui37 ui38 ui39 ui40 ui41 ui42 ui67 (j9 ui68 ui70 ui71 Q0t Q0u Q0v n4 n6 n7))); (repeat' (first | exact zc | (with_reducible first | apply And.intro | apply Q0a | apply Q0b | refine Q0c (by decide +kernel) ?_ | intro _) | refine zaY zz.out ?_ | ((first | (with_reducible refine uc (iW _) ?_) | (with_reducible refine uc (iT _) ?_) | (with_reducible refine uc (Q1z _ _) ?_) | (with_reducible refine uc (Q5d _ (by assumption) _) ?_) | (with_reducible refine uc (Q2j _ (by assumption) _) ?_) | (with_reducible refine uc (Q6e _ (by assumption) (by assumption) _) ?_) | (with_reducible refine uc (Q6d _ (by assumption) (by assumption) _) ?_) | (with_reducible refine uc (Q2k _ (by assumption) _) ?_) | (refine Q0d (by exact zK) ?_) | (refine Q0e (by exact zK) ?_)); (try refine zsY zz.out ?_)) | refine zo ?_ | omega | refine ztY zz.out ?_ | fail)); try (all_goals clear zz))
    all_goals first | exact ⟨_, .refl _, b_eq (by simp_all <;> omega), rfl⟩ | (refine ⟨(), ?_, .refl _, Q1d ?_⟩; (simp_all <;> omega); (have zz := Bx.mk (j6 ui0 ui3 ui4 ui9 ui22 (j9 ui23 ui24 ui25 ui26 ui37 ui38 ui39 ui40 (j9 ui41 ui42 ui67 ui68 ui70 ui71 Q0t Q0u Q0v))); (repeat' (first | exact zc | (with_reducible first | apply And.intro | apply Q0a | apply Q0b | refine Q0c (by decide +kernel) ?_ | intro _) | refine zaY zz.out ?_ | ((first | (with_reducible refine uc (Q1z _ _) ?_) | (with_reducible refine uc (Q5d _ (by assumption) _) ?_) | (with_reducible refine uc (Q2j _ (by assumption) _) ?_) | (with_reducible refine uc (Q6e _ (by assumption) (by assumption) _) ?_) | (with_reducible refine uc (Q6d _ (by assumption) (by assumption) _) ?_) | (with_reducible refine uc (Q2k _ (by assumption) _) ?_) | (refine Q0d (by exact zK) ?_) | (refine Q0e (by exact zK) ?_)); (try refine zsY zz.out ?_)) | refine zo ?_ | omega | refine ztY zz.out ?_ | fail)); try (all_goals clear zz))) | trace_state
  obtain ⟨q1, q2, q3, q4, q5, q6, q7, q8⟩ := q
  have hE : (bt && (decide (1 ≤ k ∧ k ≤ 6) && ((decide (k = 1) || !cr) && ((decide (k = 3) || decide (m6 = 0)) && ((decide (k = 4) || decide (m7 = 0)) && ((decide (k = 6) || !ch) && (decide (4 ≤ k) || decide (m4 = 0)))))))) = true := by
    simp only [q1, Bool.and_eq_true, Bool.or_eq_true, decide_eq_true_eq, Bool.not_eq_true']
    exact ⟨trivial, q2, q3, q4, q5, q6, q7⟩
  rw [hE, q8, Bool.true_and, Bool.true_and]
  clear hE q1 q3 q4 q5 q6 q7 q8
  subst hC
  (have zz := Bx.mk (j6 ui0 ui3 ui4 ui9 ui22 (j9 ui23 ui24 ui25 ui26 ui37 ui38 ui39 ui40 (j9 ui41 ui42 ui67 ui68 ui70 ui71 Q0t Q0u Q0v))); (repeat' (first | exact zc | (with_reducible first | apply And.intro | apply Q0a | apply Q0b | refine Q0c (by decide +kernel) ?_ | intro _) | refine zaY zz.out ?_ | ((first | (with_reducible refine uc (hS _) ?_) | (with_reducible refine uc (iC _) ?_) | (with_reducible refine uc (iR _) ?_) | (with_reducible refine uc (iS _) ?_) | (with_reducible refine uc (iP _) ?_) | (with_reducible refine uc (Q1z _ _) ?_) | (with_reducible refine uc (Q5d _ (by assumption) _) ?_) | (with_reducible refine uc (Q2j _ (by assumption) _) ?_) | (with_reducible refine uc (Q6e _ (by assumption) (by assumption) _) ?_) | (with_reducible refine uc (Q6d _ (by assumption) (by assumption) _) ?_) | (with_reducible refine uc (Q2k _ (by assumption) _) ?_) | (refine Q0d (by exact zK) ?_) | (refine Q0e (by exact zK) ?_)); (try refine zsY zz.out ?_)) | refine zo ?_ | omega | refine ztY zz.out ?_ | fail)); try (all_goals clear zz))
  all_goals first | exact ⟨_, .refl _, b_eq (by simp_all <;> omega), rfl⟩ | trace_state
end Go.Proofs.YtjdapkelojdefaaGreatDoor
namespace Go.Print
open Go.V Go.Lex Go.Parse Go.Proofs.YtjdapkelojdefaaGreatDoor
theorem sepT_snoc {β : Type} (one : β → List Tk) (x : β) : ∀ l : List β, sepT one (l ++ [x]) = sepT one l ++ ((if l = [] then [] else [wd [44]]) ++ one x)
  | [] => rfl
  | [y] => by show one y ++ wd [44] :: one x = _; simp [sepT]
  | y :: z :: r => by
    have ih := sepT_snoc one x (z :: r)
    show one y ++ wd [44] :: sepT one ((z :: r) ++ [x]) = (one y ++ wd [44] :: sepT one (z :: r)) ++ _
    rw [ih]; simp
theorem maxD_snoc {β : Type} (one : β → Nat) (x : β) : ∀ l : List β, maxD one (l ++ [x]) = max (maxD one l) (one x)
  | [] => by show max (one x) 0 = max 0 (one x); omega
  | y :: r => by
    have ih := maxD_snoc one x r
    show max (one y) (maxD one (r ++ [x])) = max (max (one y) (maxD one r)) (one x)
    rw [ih]; omega
theorem Q5e {β : Type} (one : β → List Tk) {l : List β} {k : Nat} (h : k < l.length) : sepT one (l.take (k + 1)) = sepT one (l.take k) ++ ((if k = 0 then [] else [wd [44]]) ++ one l[k]) := by
  rw [List.take_succ_eq_append_getElem h, sepT_snoc]
  cases k with
  | zero => rfl
  | succ k =>
    have hq : (l.take (k + 1)).length = k + 1 := by rw [List.length_take]; omega
    have : l.take (k + 1) ≠ [] := fun e => by rw [e] at hq; cases hq
    rw [if_neg this, if_neg (by omega)]
theorem Q6g {β : Type} (one : β → Nat) {l : List β} {k : Nat} (h : k < l.length) : maxD one (l.take (k + 1)) = max (maxD one (l.take k)) (one l[k]) := by
  rw [List.take_succ_eq_append_getElem h, maxD_snoc]
theorem X2h {β : Type} (one : β → List Tk) (l : List β) : ∀ k, (sepT one (l.take k)).length ≤ (sepT one l).length := fun k => by
  rcases Nat.lt_or_ge k l.length with hk | hk
  · have h2 : ∀ j, k + j ≤ l.length → (sepT one (l.take k)).length ≤ (sepT one (l.take (k + j))).length := fun j => by
      induction j with
      | zero => exact fun _ => Nat.le_refl _
      | succ j ih =>
        intro hj
        have h3 := Q5e one (l := l) (k := k + j) (by omega)
        rw [← Nat.add_assoc, h3, zx]
        have := ih (by omega)
        omega
    have := h2 (l.length - k) (by omega)
    rwa [show k + (l.length - k) = l.length by omega, List.take_length] at this
  · rw [List.take_of_length_le hk]; exact Nat.le_refl _
theorem maxD_le {β : Type} (one : β → Nat) (l : List β) : ∀ k, maxD one (l.take k) ≤ maxD one l := fun k => by
  rcases Nat.lt_or_ge k l.length with hk | hk
  · have h2 : ∀ j, k + j ≤ l.length → maxD one (l.take k) ≤ maxD one (l.take (k + j)) := fun j => by
      induction j with
      | zero => exact fun _ => Nat.le_refl _
      | succ j ih =>
        intro hj
        have h3 := Q6g one (l := l) (k := k + j) (by omega)
        rw [← Nat.add_assoc, h3]
        have := ih (by omega)
        omega
    have := h2 (l.length - k) (by omega)
    rwa [show k + (l.length - k) = l.length by omega, List.take_length] at this
  · rw [List.take_of_length_le hk]; exact Nat.le_refl _
end Go.Print
namespace Go.Proofs.YtjdapkelojdefaaGreatDoor
open Go Go.V Go.Lex Go.Parse Go.Print
theorem Q4f {a b : Sg} (h : a = b) : a.sub b := h ▸ .refl _
def Wf (ω : Nat) (f : FuncId) (va : List AV) (tk : List Tk) (dp : Nat) : Prop := ∀ (B : Sg) (τ : Nat) (l : List Tk) (d m : Int), okS B ω τ → 0 ≤ d → d ≤ m → m ≤ 2 ^ 41 → d + dp ≤ 2 ^ 40 → l.length + tk.length ≤ 2 ^ 36 →
  VCalls Tryz.prog f va (WS B ω τ l d m) (fun x σ' => x = .tup [] ∧ ∃ τ', okS B ω τ' ∧ σ' = WS B ω τ' (l ++ tk) d (max m (d + dp)))
theorem wf_expr {e : Ex} (hr : rt e = true) (hL : Lim e) (ω : Nat) : Wf ω 21 [.ref ω 0, .agg (exA e)] (toTr e).tk (toTr e).dp := by
  obtain ⟨q1, q2⟩ := Q7j e hr
  have hX : Cx (toTr e) := Q6b (toTr e) q2 (Q9k (toTr e) (by rw [q1]; exact hL))
  unfold Cx Wr at hX
  rw [q1] at hX
  intro B τ l d m h h0 h1 h2 h3 h4
  exact hX B ω τ l d m h h0 h1 h2 h3 h4
def expW (es : List (List AV)) : List Ex → List Tk
  | [] => []
  | e :: _ => wdsE es ++ (toTr e).tk
theorem expW1 (w : By) (l : List Ex) : expW [[.val (.string (bs w))]] l = expT [w] l := by
  cases l with
  | nil => rfl
  | cons e r => show wdsE _ ++ _ = _; rw [Q3d, Q4q]; rfl
theorem expW2 (w v : By) (l : List Ex) : expW [[.val (.string (bs w))], [.val (.string (bs v))]] l = expT [w, v] l := by
  cases l with
  | nil => rfl
  | cons e r => show wdsE _ ++ _ = _; rw [Q3d, Q3d, Q4q]; rfl
theorem X0n (ω : Nat) (x : List Ex) (hx : oneB x = true) (hL : ∀ e ∈ x, Lim e) (o o2 : Own) (es : List (List AV)) (he : okW es) : Wf ω 66 [.ref ω 0, .sl o (exsA x), .sl o2 es] (expW es x) (expD x) := by
  intro B τ l d m h h0 h1 h2 h3 h4
  cases x with
  | nil =>
    rw [Q1h]
    have hz0 : (0 < ((0 : Nat) : Int)) = False := by simp
    (refine vfun (fun _ => .no) Q0k Tryz.func66 (by kernel_rfl) ?_; simp only [Q0f, Tryz.f66, zw])
    (have zz := Bx.mk (j2 ui0 (j9 ui3 ui4 ui9 ui22 ui23 ui24 ui25 ui26 (j9 ui55 ui56 ui57 ui58 ui59 ui75 Q0q Q0r hz0))); (repeat' (first | exact zc | (with_reducible first | apply And.intro | apply Q0a | apply Q0b | refine Q0c (by decide +kernel) ?_ | intro _) | refine zaY zz.out ?_ | ((first | ((with_reducible refine zS (Q0n _ _ _ _ _ _ _ _ (by repeat (first | exact Q0j | refine Q0g ?_ (by simp))) (by exact zO) (by exact zN)) ?_); rintro _ S ⟨rfl, τ1, ⟨f1, n1⟩, rfl⟩; have n1s := n1.symm) | (refine Q0d (by exact zK) ?_) | (refine Q0e (by exact zK) ?_)); (try refine zsY zz.out ?_)) | refine zo ?_ | omega | refine ztY zz.out ?_ | fail)); try (all_goals clear zz))
    all_goals exact ⟨_, .refl _, τ, h, by show _ = WS B ω τ (l ++ []) d (max m (d + (0 : Nat))); exact Q2g (by simp) rfl (by omega)⟩
  | cons e r =>
    obtain ⟨g1, g2⟩ : (e :: r).length ≤ 1 ∧ rts (e :: r) = true := by
      unfold oneB at hx; simpa only [Bool.and_eq_true, decide_eq_true_eq] using hx
    have hr : r = [] := by cases r with | nil => rfl | cons => simp at g1
    subst hr
    have g2 : rt e = true := by rw [Q3b] at g2; exact (Bool.and_eq_true _ _ ▸ g2).1
    have hX := wf_expr g2 (hL e (by simp)) ω B
    have hel := Q1a e
    have het := Q1b e
    have hed := Q2q e
    have heo := Q3r e
    have ew : expW es [e] = wdsE es ++ (toTr e).tk := rfl
    have ed : expD [e] = (toTr e).dp := rfl
    have ewl : (wdsE es).length = es.length := zB ..
    rw [ew] at h4 ⊢
    rw [ed] at h3 ⊢
    rw [Q1j, Q1h]
    rw [zx] at h4
    generalize (toTr e).tk = TT at *
    generalize (toTr e).dp = D at *
    generalize exA e = E at *
    (refine vfun (fun _ => .no) Q0k Tryz.func66 (by kernel_rfl) ?_; simp only [Q0f, Tryz.f66, zw])
    (have zz := Bx.mk (j6 ui0 ui3 ui4 ui9 ui22 (j9 ui23 ui24 ui25 ui26 ui55 ui56 ui57 ui58 (j9 ui59 ui75 Q0q Q0r hel het hed heo ewl))); (repeat' (first | exact zc | (with_reducible first | apply And.intro | apply Q0a | apply Q0b | refine Q0c (by decide +kernel) ?_ | intro _) | refine zaY zz.out ?_ | ((first | ((with_reducible refine zS (Q0n _ _ _ _ _ _ _ _ he (by exact zO) (by exact zN)) ?_); rintro _ S ⟨rfl, τ1, ⟨f1, n1⟩, rfl⟩; have n1s := n1.symm) | ((with_reducible refine zS (hX _ _ _ _ (by exact zO) (by omega) (by omega) (by omega) (by omega) (by first | omega | (simp only [zx, ewl]; omega))) ?_); rintro _ S ⟨rfl, τ1, ⟨f1, n1⟩, rfl⟩; have n1s := n1.symm) | ((with_reducible refine zS (Q0n _ _ _ _ _ _ _ _ (by repeat (first | exact Q0j | refine Q0g ?_ (by simp))) (by exact zO) (by exact zN)) ?_); rintro _ S ⟨rfl, τ1, ⟨f1, n1⟩, rfl⟩; have n1s := n1.symm) | (refine Q0d (by exact zK) ?_) | (refine Q0e (by exact zK) ?_)); (try refine zsY zz.out ?_)) | refine zo ?_ | omega | refine ztY zz.out ?_ | fail)); try (all_goals clear zz))
    all_goals exact ⟨_, .refl _, τ1, ⟨f1, n1⟩, Q2g (by simp) rfl (by omega)⟩
theorem w_list {β : Type} (ω : Nat) (f : FuncId) (cap : List AV) (x : List β) (one : β → List Tk) (dpf : β → Nat) (n : Nat) (hxn : n = x.length) (hn : x.length ≤ 2 ^ 30) (hf : ∀ i (hi : i < x.length), Wf ω f (.i (i : Nat) :: cap) (one x[i]) (dpf x[i])) :
    Wf ω 120 [.ref ω 0, .i n, .fn f cap] (sepT one x) (maxD dpf x) := by
  subst hxn
  intro B τ l d m h h0 h1 h2 h3 h4
  have hle := X2h one x
  have hmd := maxD_le dpf x
  (refine vfun (fun _ => .no) Q0k Tryz.func120 (by kernel_rfl) ?_; simp only [Q0f, Tryz.f120, zw])
  (have zz := Bx.mk (j5 ui0 ui3 ui4 ui9 (j9 ui55 ui56 ui57 ui58 ui59 ui75 Q0q Q0r X3p)); (repeat' (first | exact zc | (with_reducible first | apply And.intro | apply Q0a | apply Q0b | refine Q0c (by decide +kernel) ?_ | intro _) | refine zaY zz.out ?_ | ((first | ((with_reducible refine zS (Q0n _ _ _ _ _ _ _ _ (by repeat (first | exact Q0j | refine Q0g ?_ (by simp))) (by exact zO) (by exact zN)) ?_); rintro _ S ⟨rfl, τ1, ⟨f1, n1⟩, rfl⟩; have n1s := n1.symm) | (refine Q0d (by exact zK) ?_) | (refine Q0e (by exact zK) ?_)); (try refine zsY zz.out ?_)) | refine zo ?_ | omega | refine ztY zz.out ?_ | fail)); try (all_goals clear zz))
  refine VW.loop3 (0 : Nat) τ () (fun k τ' _ => k ≤ x.length ∧ okS B ω τ') (fun k _ _ => [(0, .ref ω 0), (2, .fn f cap), (7, .i x.length), (8, .i k)]) (fun k τ' _ => WS B ω τ' (l ++ sepT one (x.take k)) d (max m (d + maxD dpf (x.take k)))) (fun k _ _ => x.length - k) ⟨Nat.zero_le _, h⟩ ?_ ?_ ?_
  · exact Q4f (Q2g (by simp [sepT]) rfl (by show max m (d + (0 : Nat)) = m; omega))
  · simp only [vO, vQ, ↓vP, vE, vS, vB, vL, vF, vM, vN, Q0i, Nat.reduceEqDiff, Nat.reduceAdd, Nat.reduceLeDiff, ne_eq, not_false_eq_true, Nat.reduceMul, Nat.reduceSub, Int.toNat_zero, Int.reduceToNat, vT]
    all_goals rfl
  rintro k τ' _ ⟨hk, h5, h6⟩
  have h6' := h6.symm
  rcases Nat.lt_or_ge k x.length with hk2 | hk2
  · have hX := hf k hk2 B
    have hs := Q5e one hk2
    have hm := Q6g dpf hk2
    have hl1 := hle (k + 1)
    have hm1 := hmd (k + 1)
    rw [hs] at hl1
    rw [hm] at hm1
    rw [zx, zx] at hl1
    generalize one x[k] = TT at *
    generalize dpf x[k] = D at *
    generalize hA : sepT one (x.take k) = A at *
    generalize hMm : maxD dpf (x.take k) = M at *
    clear hle hmd hf
    by_cases hz : k = 0
    · rw [if_pos hz] at hl1
      simp only [zA] at hl1
      (have zz := Bx.mk (j7 ui0 ui3 ui4 ui9 ui55 ui56 (j9 ui57 ui58 ui59 ui75 Q0q Q0r X3p @List.cons_append.{0} @List.nil_append.{0})); (repeat' (first | exact zc | (with_reducible first | apply And.intro | apply Q0a | apply Q0b | refine Q0c (by decide +kernel) ?_ | intro _) | refine zaY zz.out ?_ | ((first | ((with_reducible refine zS (hX _ _ _ _ (by exact zO) (by omega) (by omega) (by omega) (by omega) (by first | omega | (simp only [zx, zy, zA]; omega))) ?_); rintro _ S ⟨rfl, τ1, ⟨f1, n1⟩, rfl⟩; have n1s := n1.symm) | ((with_reducible refine zS (Q0n _ _ _ _ _ _ _ _ (by repeat (first | exact Q0j | refine Q0g ?_ (by simp))) (by exact zO) (by exact zN)) ?_); rintro _ S ⟨rfl, τ1, ⟨f1, n1⟩, rfl⟩; have n1s := n1.symm) | (refine Q0d (by exact zK) ?_) | (refine Q0e (by exact zK) ?_)); (try refine zsY zz.out ?_)) | refine zo ?_ | omega | refine ztY zz.out ?_ | fail)); try (all_goals clear zz))
      all_goals exact ⟨k + 1, τ1, (), ⟨⟨hk2, f1, n1⟩, by omega⟩, Q4f (Q2g (by rw [hs, if_pos hz]; simp) rfl (by rw [hm]; omega)), rfl⟩
    · rw [if_neg hz] at hl1
      simp only [zy, zA] at hl1
      (have zz := Bx.mk (j8 ui0 ui3 ui4 ui9 ui55 ui56 ui57 (j9 ui58 ui59 ui75 Q0q Q0r X3p @List.cons_append.{0} @List.nil_append.{0} WLg)); (repeat' (first | exact zc | (with_reducible first | apply And.intro | apply Q0a | apply Q0b | refine Q0c (by decide +kernel) ?_ | intro _) | refine zaY zz.out ?_ | ((first | ((with_reducible refine zS (hX _ _ _ _ (by exact zO) (by omega) (by omega) (by omega) (by omega) (by first | omega | (simp only [zx, zy, zA]; omega))) ?_); rintro _ S ⟨rfl, τ1, ⟨f1, n1⟩, rfl⟩; have n1s := n1.symm) | ((with_reducible refine zS (Q0n _ _ _ _ _ _ _ _ (by repeat (first | exact Q0j | refine Q0g ?_ (by simp))) (by exact zO) (by exact zN)) ?_); rintro _ S ⟨rfl, τ1, ⟨f1, n1⟩, rfl⟩; have n1s := n1.symm) | (refine Q0d (by exact zK) ?_) | (refine Q0e (by exact zK) ?_)); (try refine zsY zz.out ?_)) | refine zo ?_ | omega | refine ztY zz.out ?_ | fail)); try (all_goals clear zz))
      all_goals exact ⟨k + 1, τ1, (), ⟨⟨hk2, f1, n1⟩, by omega⟩, Q4f (Q2g (by rw [hs, if_neg hz]; simp) rfl (by rw [hm]; omega)), rfl⟩
  · (have zz := Bx.mk (j5 ui0 ui3 ui4 ui9 (j9 ui55 ui56 ui57 ui58 ui59 ui75 Q0q Q0r X3p)); (repeat' (first | exact zc | (with_reducible first | apply And.intro | apply Q0a | apply Q0b | refine Q0c (by decide +kernel) ?_ | intro _) | refine zaY zz.out ?_ | ((first | ((with_reducible refine zS (Q0n _ _ _ _ _ _ _ _ (by repeat (first | exact Q0j | refine Q0g ?_ (by simp))) (by exact zO) (by exact zN)) ?_); rintro _ S ⟨rfl, τ1, ⟨f1, n1⟩, rfl⟩; have n1s := n1.symm) | (refine Q0d (by exact zK) ?_) | (refine Q0e (by exact zK) ?_)); (try refine zsY zz.out ?_)) | refine zo ?_ | omega | refine ztY zz.out ?_ | fail)); try (all_goals clear zz))
    rw [List.take_of_length_le hk2]
    all_goals exact ⟨_, .refl _, τ', ⟨h5, h6⟩, rfl⟩
theorem Q7n {x : It} (h : Q3c x = true) : ((x.1 = 1 ∨ x.1 = 3) ∧ x.2 = []) ∨ ((x.1 = 2 ∨ x.1 = 4 ∨ x.1 = 5 ∨ x.1 = 6 ∨ x.1 = 7) ∧ ∃ e, x.2 = [e] ∧ rt e = true) := by
  obtain ⟨k, l⟩ := x
  unfold Q3c at h
  simp only [Bool.and_eq_true, decide_eq_true_eq] at h ⊢
  obtain ⟨h1, h2, h3⟩ := h
  by_cases hk : k = 1 ∨ k = 3
  · rw [if_pos hk] at h2
    exact .inl ⟨hk, List.length_eq_zero_iff.1 h2⟩
  · rw [if_neg hk] at h2
    refine .inr ⟨by omega, ?_⟩
    match l, h2, h3 with
    | [e], _, h3 =>
      rw [Q3b, Bool.and_eq_true] at h3
      exact ⟨e, rfl, h3.1⟩
theorem w_item (ω : Nat) (x : It) (hx : Q3c x = true) (hL : ∀ e ∈ x.2, Lim e) : Wf ω 125 [.ref ω 0, .agg (Q2e x)] (Q2t x) (expD x.2) := by
  obtain ⟨k, a⟩ := x
  unfold Q2e
  rcases Q7n hx with ⟨hk, ha⟩ | ⟨hk, e, ha, hr⟩
  · dsimp only at hk ha hL ⊢
    subst ha
    rw [Q1h]
    rcases hk with rfl | rfl
    · intro B τ l d m h h0 h1 h2 h3 h4
      have e1 : Q2t (1, []) = wds [[42]] := rfl
      have e2 : expD [] = 0 := rfl
      rw [e1, e2] at *
      (refine vfun (fun _ => .ro) Q0k Tryz.func125 (by kernel_rfl) ?_; simp only [Q0f, Tryz.f125, zw])
      (have zz := Bx.mk (j4 ui0 ui3 ui4 (j9 ui9 ui22 ui23 ui24 ui25 ui26 ui55 ui56 (j9 ui57 ui58 ui59 ui70 ui71 ui75 Q0q Q0r WLg))); (repeat' (first | exact zc | (with_reducible first | apply And.intro | apply Q0a | apply Q0b | refine Q0c (by decide +kernel) ?_ | intro _) | refine zaY zz.out ?_ | ((first | ((with_reducible refine zS (Q0n _ _ _ _ _ _ _ _ (by repeat (first | exact Q0j | refine Q0g ?_ (by simp))) (by exact zO) (by exact zN)) ?_); rintro _ S ⟨rfl, τ1, ⟨f1, n1⟩, rfl⟩; have n1s := n1.symm) | (refine Q0d (by exact zK) ?_) | (refine Q0e (by exact zK) ?_)); (try refine zsY zz.out ?_)) | refine zo ?_ | omega | refine ztY zz.out ?_ | fail)); try (all_goals clear zz))
      all_goals exact ⟨_, .refl _, τ1, ⟨f1, n1⟩, Q2g rfl rfl (by omega)⟩
    · intro B τ l d m h h0 h1 h2 h3 h4
      have e1 : Q2t (3, []) = wds [[67, 79, 85, 78, 84], [40], [42], [41]] := rfl
      have e2 : expD [] = 0 := rfl
      rw [e1, e2] at *
      (refine vfun (fun _ => .ro) Q0k Tryz.func125 (by kernel_rfl) ?_; simp only [Q0f, Tryz.f125, zw])
      (have zz := Bx.mk (j4 ui0 ui3 ui4 (j9 ui9 ui22 ui23 ui24 ui25 ui26 ui55 ui56 (j9 ui57 ui58 ui59 ui70 ui71 ui75 Q0q Q0r WLg))); (repeat' (first | exact zc | (with_reducible first | apply And.intro | apply Q0a | apply Q0b | refine Q0c (by decide +kernel) ?_ | intro _) | refine zaY zz.out ?_ | ((first | ((with_reducible refine zS (Q0n _ _ _ _ _ _ _ _ (by repeat (first | exact Q0j | refine Q0g ?_ (by simp))) (by exact zO) (by exact zN)) ?_); rintro _ S ⟨rfl, τ1, ⟨f1, n1⟩, rfl⟩; have n1s := n1.symm) | (refine Q0d (by exact zK) ?_) | (refine Q0e (by exact zK) ?_)); (try refine zsY zz.out ?_)) | refine zo ?_ | omega | refine ztY zz.out ?_ | fail)); try (all_goals clear zz))
      all_goals exact ⟨_, .refl _, τ1, ⟨f1, n1⟩, Q2g rfl rfl (by omega)⟩
  · dsimp only at hk ha hL ⊢
    subst ha
    have hX := wf_expr hr (hL e (by simp)) ω
    have e2 : expD [e] = (toTr e).dp := rfl
    have hI : Q2t (k, [e]) = if k = 2 then (toTr e).tk else wds [(if k = 4 then [67, 79, 85, 78, 84] else if k = 5 then [83, 85, 77] else if k = 6 then [77, 73, 78] else [77, 65, 88]), [40]] ++ (toTr e).tk ++ [wd [41]] := by
      rcases hk with rfl | rfl | rfl | rfl | rfl <;> rfl
    have hel := Q1a e
    have het := Q1b e
    have hed := Q2q e
    have heo := Q3r e
    rw [e2, hI, Q1j, Q1h]
    clear e2 hI hL hr hx
    generalize (toTr e).tk = TT at *
    generalize (toTr e).dp = D at *
    generalize exA e = E at *
    rcases hk with rfl | hk
    · simp only [if_true]
      intro B τ l d m h h0 h1 h2 h3 h4
      have hX := hX B
      (refine vfun (fun _ => .ro) Q0k Tryz.func125 (by kernel_rfl) ?_; simp only [Q0f, Tryz.f125, zw])
      (have zz := Bx.mk (j8 ui0 ui3 ui4 ui9 ui22 ui23 ui24 (j9 ui25 ui26 ui55 ui56 ui57 ui58 ui59 ui70 (j9 ui71 ui75 Q0q Q0r hel het hed heo WLg))); (repeat' (first | exact zc | (with_reducible first | apply And.intro | apply Q0a | apply Q0b | refine Q0c (by decide +kernel) ?_ | intro _) | refine zaY zz.out ?_ | ((first | ((with_reducible refine zS (hX _ _ _ _ (by exact zO) (by omega) (by omega) (by omega) (by omega) (by exact zN)) ?_); rintro _ S ⟨rfl, τ1, ⟨f1, n1⟩, rfl⟩; have n1s := n1.symm) | ((with_reducible refine zS (Q0n _ _ _ _ _ _ _ _ (by repeat (first | exact Q0j | refine Q0g ?_ (by simp))) (by exact zO) (by exact zN)) ?_); rintro _ S ⟨rfl, τ1, ⟨f1, n1⟩, rfl⟩; have n1s := n1.symm) | (refine Q0d (by exact zK) ?_) | (refine Q0e (by exact zK) ?_)); (try refine zsY zz.out ?_)) | refine zo ?_ | omega | refine ztY zz.out ?_ | fail)); try (all_goals clear zz))
      all_goals exact ⟨_, .refl _, τ1, ⟨f1, n1⟩, Q2g rfl rfl (by omega)⟩
    · rcases hk with rfl | rfl | rfl | rfl <;> simp only [Int.reduceEq, if_true, if_false]
      all_goals
        intro B τ l d m h h0 h1 h2 h3 h4
        have hX := hX B
        rw [zx, zx, Q1k] at h4
        simp only [zy, zA] at h4
        (refine vfun (fun _ => .ro) Q0k Tryz.func125 (by kernel_rfl) ?_; simp only [Q0f, Tryz.f125, zw])
        (have zz := Bx.mk (j8 ui0 ui3 ui4 ui9 ui22 ui23 ui24 (j9 ui25 ui26 ui55 ui56 ui57 ui58 ui59 ui70 (j9 ui71 ui75 Q0q Q0r hel het hed heo WLg))); (repeat' (first | exact zc | (with_reducible first | apply And.intro | apply Q0a | apply Q0b | refine Q0c (by decide +kernel) ?_ | intro _) | refine zaY zz.out ?_ | ((first | ((with_reducible refine zS (hX _ _ _ _ (by exact zO) (by omega) (by omega) (by omega) (by omega) (by exact zN)) ?_); rintro _ S ⟨rfl, τ1, ⟨f1, n1⟩, rfl⟩; have n1s := n1.symm) | ((with_reducible refine zS (Q0n _ _ _ _ _ _ _ _ (by repeat (first | exact Q0j | refine Q0g ?_ (by simp))) (by exact zO) (by exact zN)) ?_); rintro _ S ⟨rfl, τ1, ⟨f1, n1⟩, rfl⟩; have n1s := n1.symm) | (refine Q0d (by exact zK) ?_) | (refine Q0e (by exact zK) ?_)); (try refine zsY zz.out ?_)) | refine zo ?_ | omega | refine ztY zz.out ?_ | fail)); try (all_goals clear zz))
        all_goals exact ⟨_, .refl _, τ1, ⟨f1, n1⟩, Q2g (by simp [wds]) rfl (by omega)⟩
theorem X2i {β : Type} : ∀ l : List β, maxD (fun _ => 0) l = 0
  | [] => rfl
  | x :: r => by show max 0 (maxD (fun _ => 0) r) = 0; rw [X2i r]; rfl
theorem u_lit (ω : Nat) (x : Stm) (i j : Nat) (hi : i < x.rows.length) (hj : j < x.rows[i].length) (h1 : x.rows.length ≤ 9223372036854775807) (h2 : x.rows[i].length ≤ 9223372036854775807) (hv : okV x.rows[i][j] = true) (hg : inR x.rows[i][j].2.1) :
    Wf ω 122 [.i j, .ro [.ref ω 0], .ro (stmA x), .ro [.i i]] (litT x.rows[i][j]) 0 := by
  intro B τ l d m h h0 hm1 h2' h3 h4
  obtain ⟨q1, q2⟩ := rgV (v := x.rows[i][j]) hv hg
  have hl := (X1d x.rows[i][j]).2
  have hL : ∀ T r, _ := fun T r => Q2z T r B ω τ l x.rows[i][j] h (by omega) q1 q2
  have a1 : (x.rows.map rowA).length = x.rows.length := zB ..
  have a2 := Q1r (f := rowA) (n := 1) x.rows (fun _ => rfl)
  have a3 : (x.rows.map rowA).getD i [] = [.sl .any (Q5h x.rows[i])] := Q1q (f := rowA) hi
  have b1 : (Q5h x.rows[i]).length = x.rows[i].length := zB ..
  have b2 : Q1i (Q5h x.rows[i]) 3 = True := Q1r (f := valA) (n := 3) x.rows[i] (fun _ => rfl)
  have b3 : (Q5h x.rows[i]).getD j [] = [.i x.rows[i][j].1, .i x.rows[i][j].2.1, .s (bs x.rows[i][j].2.2)] := Q1q (f := valA) hj
  unfold stmA
  generalize litT x.rows[i][j] = TT at *
  generalize x.rows[i][j].1 = v1 at *
  generalize x.rows[i][j].2.1 = v2 at *
  generalize x.rows[i][j].2.2 = v3 at *
  clear hv hg
  (refine vfun (fun _ => .no) Q0k Tryz.func122 (by kernel_rfl) ?_; simp only [Q0f, Tryz.f122, zw])
  (have zz := Bx.mk (j3 ui0 ui3 (j9 ui4 ui9 ui22 ui23 ui24 ui25 ui26 ui37 (j9 ui38 ui39 ui40 ui41 ui42 ui55 ui56 ui57 (j9 ui58 ui59 ui67 ui68 ui70 ui71 Q0q Q0r (j9 Q0t Q0u Q0v a1 a2 a3 b1 b2 b3))))); (repeat' (first | exact zc | (with_reducible first | apply And.intro | apply Q0a | apply Q0b | refine Q0c (by decide +kernel) ?_ | intro _) | ((with_reducible first | refine .dms (fun x => False) [(0, false), (1, false), (2, false), (3, false), (4, false), (5, false), (6, false), (7, false), (8, true), (9, true), (10, false), (11, true)] (by decide) (by decide +kernel) ?_ | refine .dm (fun x => False) [(0, false), (1, false), (2, false), (3, false), (4, false), (5, false), (6, false), (7, false), (8, true), (9, true), (10, false), (11, true)] (by decide) (by decide +kernel) ?_); (refine zsR zz.out ?_)) | refine zaR zz.out ?_ | refine zkN zz.out ?_ | ((first | (refine Q0l (by intro β h; first | (rcases h with h | h <;> subst h <;> (simp (disch := first | assumption | (apply zP; assumption; assumption) | (apply zQ; assumption; assumption; (intro e; cases e; done)) | omega) only [zn, zp, zq, zr, zv])) | (subst h; (simp (disch := first | assumption | (apply zP; assumption; assumption) | (apply zQ; assumption; assumption; (intro e; cases e; done)) | omega) only [zn, zp, zq, zr, zv]))) ?_) | ((with_reducible refine zS (hL _ _) ?_); rintro _ S ⟨rfl, τ1, ⟨f1, n1⟩, rfl⟩; have n1s := n1.symm) | ((with_reducible refine zS (Q2z _ _ _ _ _ _ _ (by exact zO) (by exact zN) (by assumption) (by assumption)) ?_); rintro _ S ⟨rfl, τ1, ⟨f1, n1⟩, rfl⟩; have n1s := n1.symm) | (refine Q0d (by exact zK) ?_) | (refine Q0e (by exact zK) ?_)); (try refine zsR zz.out ?_)) | refine zmR zz.out ?_ | refine zo ?_ | omega | refine ztR zz.out ?_ | fail)); try (all_goals clear zz))
  all_goals exact ⟨_, .refl _, τ1, ⟨f1, n1⟩, Q2g rfl rfl (by omega)⟩
theorem u_row (ω : Nat) (x : Stm) (i : Nat) (hi : i < x.rows.length) (h1 : x.rows.length ≤ 9223372036854775807) (hb : rowB x.rows[i] = true) (hg : ∀ v ∈ x.rows[i], inR v.2.1) :
    Wf ω 121 [.i i, .ro [.ref ω 0], .ro (stmA x)] (rowT x.rows[i]) 0 := by
  obtain ⟨g1, g2⟩ : x.rows[i].all okV = true ∧ (1 ≤ x.rows[i].length ∧ x.rows[i].length ≤ 8) := by
    unfold rowB at hb; simpa only [Bool.and_eq_true, decide_eq_true_eq] using hb
  have g1 := List.all_eq_true.1 g1
  have hLs := w_list ω 122 [.ro [.ref ω 0], .ro (stmA x), .ro [.i i]] x.rows[i] litT (fun _ => 0) x.rows[i].length rfl (by omega) (fun j hj => u_lit ω x i j hi hj h1 (by omega) (g1 _ (List.getElem_mem hj)) (hg _ (List.getElem_mem hj)))
  rw [X2i] at hLs
  intro B τ l d m h h0 hm1 h2' h3 h4
  have hLs := hLs B
  have a1 : (x.rows.map rowA).length = x.rows.length := zB ..
  have a2 := Q1r (f := rowA) (n := 1) x.rows (fun _ => rfl)
  have a3 : (x.rows.map rowA).getD i [] = [.sl .any (Q5h x.rows[i])] := Q1q (f := rowA) hi
  have b1 : (Q5h x.rows[i]).length = x.rows[i].length := zB ..
  have b4 : rowT x.rows[i] = wd [40] :: (sepT litT x.rows[i] ++ [wd [41]]) := rfl
  rw [b4] at h4 ⊢
  simp only [zx, zy, zA] at h4
  clear g1 hg hb b4
  unfold stmA at hLs ⊢
  generalize sepT litT x.rows[i] = TT at *
  (refine vfun (fun _ => .ro) Q0k Tryz.func121 (by kernel_rfl) ?_; simp only [Q0f, Tryz.f121, zw])
  (have zz := Bx.mk (j4 ui0 ui3 ui4 (j9 ui9 ui22 ui23 ui24 ui25 ui26 ui37 ui38 (j9 ui39 ui40 ui41 ui42 ui55 ui56 ui57 ui58 (j9 ui59 ui67 ui68 ui70 ui71 ui75 Q0q Q0r (j9 X3p Q0t Q0u Q0v a1 a2 a3 b1 WLg))))); (repeat' (first | exact zc | (with_reducible first | apply And.intro | apply Q0a | apply Q0b | refine Q0c (by decide +kernel) ?_ | intro _) | ((with_reducible first | refine .dms (fun x => False) [(0, false), (1, false), (2, false), (3, false), (4, false), (5, false), (6, false), (7, false), (8, true)] (by decide) (by decide +kernel) ?_ | refine .dm (fun x => False) [(0, false), (1, false), (2, false), (3, false), (4, false), (5, false), (6, false), (7, false), (8, true)] (by decide) (by decide +kernel) ?_); (refine zsR zz.out ?_)) | refine zaR zz.out ?_ | refine zkN zz.out ?_ | ((first | (refine Q0l (by intro β h; first | (rcases h with h | h <;> subst h <;> (simp (disch := first | assumption | (apply zP; assumption; assumption) | (apply zQ; assumption; assumption; (intro e; cases e; done)) | omega) only [zn, zp, zq, zr, zv])) | (subst h; (simp (disch := first | assumption | (apply zP; assumption; assumption) | (apply zQ; assumption; assumption; (intro e; cases e; done)) | omega) only [zn, zp, zq, zr, zv]))) ?_) | ((with_reducible refine zS (hLs _ _ _ _ (by exact zO) (by omega) (by omega) (by omega) (by omega) (by exact zN)) ?_); rintro _ S ⟨rfl, τ1, ⟨f1, n1⟩, rfl⟩; have n1s := n1.symm) | ((with_reducible refine zS (Q0n _ _ _ _ _ _ _ _ (by repeat (first | exact Q0j | refine Q0g ?_ (by simp))) (by exact zO) (by exact zN)) ?_); rintro _ S ⟨rfl, τ1, ⟨f1, n1⟩, rfl⟩; have n1s := n1.symm) | (refine Q0d (by exact zK) ?_) | (refine Q0e (by exact zK) ?_)); (try refine zsR zz.out ?_)) | refine zmR zz.out ?_ | refine zo ?_ | omega | refine ztR zz.out ?_ | fail)); try (all_goals clear zz))
  all_goals exact ⟨_, .refl _, τ1, ⟨f1, n1⟩, Q2g (by simp) rfl (by omega)⟩
theorem w_insert (ω : Nat) (x : Stm) (hb : Q9o x.rows = true) (hg : ∀ r ∈ x.rows, ∀ v ∈ r, inR v.2.1) :
    Wf ω 64 [.ref ω 0, .agg (stmA x)] (Q6t x) 0 := by
  obtain ⟨g1, g2⟩ : x.rows.all rowB = true ∧ (1 ≤ x.rows.length ∧ x.rows.length ≤ 16) := by
    unfold Q9o at hb; simpa only [Bool.and_eq_true, decide_eq_true_eq] using hb
  have g1 := List.all_eq_true.1 g1
  have hLs := w_list ω 121 [.ro [.ref ω 0], .ro (stmA x)] x.rows rowT (fun _ => 0) x.rows.length rfl (by omega) (fun i hi => u_row ω x i hi (by omega) (g1 _ (List.getElem_mem hi)) (hg _ (List.getElem_mem hi)))
  rw [X2i] at hLs
  intro B τ l d m h h0 hm1 h2' h3 h4
  have hLs := hLs B
  have a1 : (x.rows.map rowA).length = x.rows.length := zB ..
  have b4 : Q6t x = wds [[73, 78, 83, 69, 82, 84], [73, 78, 84, 79]] ++ (nT x.t :: wd [86, 65, 76, 85, 69, 83] :: sepT rowT x.rows) := rfl
  rw [b4] at h4 ⊢
  simp only [zx, zy, zA, Q1k] at h4
  clear g1 hg hb b4
  unfold stmA at hLs ⊢
  generalize sepT rowT x.rows = TT at *
  (refine vfun (fun _ => .ro) Q0k Tryz.func64 (by kernel_rfl) ?_; simp only [Q0f, Tryz.f64, zw])
  (have zz := Bx.mk (j9 ui0 ui3 ui4 ui9 ui22 ui23 ui24 ui25 (j9 ui26 ui37 ui38 ui39 ui40 ui41 ui42 ui55 (j9 ui56 ui57 ui58 ui59 ui67 ui68 ui70 ui71 (j9 ui75 Q0q Q0r X3p Q0t Q0u Q0v a1 WLg)))); (repeat' (first | exact zc | (with_reducible first | apply And.intro | apply Q0a | apply Q0b | refine Q0c (by decide +kernel) ?_ | intro _) | ((with_reducible first | refine .dms (fun x => False) [(0, false), (1, false), (2, false), (3, true), (4, false), (5, true)] (by decide) (by decide +kernel) ?_ | refine .dm (fun x => False) [(0, false), (1, false), (2, false), (3, true), (4, false), (5, true)] (by decide) (by decide +kernel) ?_); (refine zsR zz.out ?_)) | refine zaR zz.out ?_ | refine zkN zz.out ?_ | ((first | (refine Q0l (by intro β h; first | (rcases h with h | h <;> subst h <;> (simp (disch := first | assumption | (apply zP; assumption; assumption) | (apply zQ; assumption; assumption; (intro e; cases e; done)) | omega) only [zn, zp, zq, zr, zv])) | (subst h; (simp (disch := first | assumption | (apply zP; assumption; assumption) | (apply zQ; assumption; assumption; (intro e; cases e; done)) | omega) only [zn, zp, zq, zr, zv]))) ?_) | ((with_reducible refine zS (hLs _ _ _ _ (by exact zO) (by omega) (by omega) (by omega) (by omega) (by exact zN)) ?_); rintro _ S ⟨rfl, τ1, ⟨f1, n1⟩, rfl⟩; have n1s := n1.symm) | ((with_reducible refine zS (Q0n _ _ _ _ _ _ _ _ (by repeat (first | exact Q0j | refine Q0g ?_ (by simp))) (by exact zO) (by exact zN)) ?_); rintro _ S ⟨rfl, τ1, ⟨f1, n1⟩, rfl⟩; have n1s := n1.symm) | ((with_reducible refine zS (Q2n _ _ _ _ _ _ _ (by exact zO) (by exact zN)) ?_); rintro _ S ⟨rfl, τ1, ⟨f1, n1⟩, rfl⟩; have n1s := n1.symm) | (refine Q0d (by exact zK) ?_) | (refine Q0e (by exact zK) ?_)); (try refine zsR zz.out ?_)) | refine zmR zz.out ?_ | refine zo ?_ | omega | refine ztR zz.out ?_ | fail)); try (all_goals clear zz))
  all_goals exact ⟨_, .refl _, τ1, ⟨f1, n1⟩, Q2g (by simp [wds]) rfl (by omega)⟩
theorem u_set (ω : Nat) (x : Stm) (i : Nat) (hi : i < x.sets.length) (h1 : x.sets.length ≤ 9223372036854775807) (hr : rt x.sets[i].2 = true) (hL : Lim x.sets[i].2) :
    Wf ω 123 [.i i, .ro [.ref ω 0], .ro (stmA x)] (setT x.sets[i]) (toTr x.sets[i].2).dp := by
  have hX := wf_expr hr hL ω
  intro B τ l d m h h0 hm1 h2' h3 h4
  have hX := hX B
  have a1 : (x.sets.map setA).length = x.sets.length := zB ..
  have a2 := Q1r (f := setA) (n := 9) x.sets (fun x => by simp [setA, Q1a])
  have a3 : (x.sets.map setA).getD i [] = .s (bs x.sets[i].1) :: exA x.sets[i].2 := Q1q (f := setA) hi
  have b4 : setT x.sets[i] = nT x.sets[i].1 :: wd [61] :: (toTr x.sets[i].2).tk := rfl
  rw [b4] at h4 ⊢
  simp only [zx, zy, zA] at h4
  have hFl := Q1a x.sets[i].2
  have hFt := Q1b x.sets[i].2
  have hFd := Q2q x.sets[i].2
  have hFo := Q3r x.sets[i].2
  clear b4 hr hL
  unfold stmA
  generalize (toTr x.sets[i].2).tk = TT at *
  generalize (toTr x.sets[i].2).dp = D at *
  generalize exA x.sets[i].2 = E at *
  generalize x.sets[i].1 = N at *
  (refine vfun (fun _ => .no) Q0k Tryz.func123 (by kernel_rfl) ?_; simp only [Q0f, Tryz.f123, zw])
  (have zz := Bx.mk (j6 ui0 ui3 ui4 ui9 ui22 (j9 ui23 ui24 ui25 ui26 ui37 ui38 ui39 ui40 (j9 ui41 ui42 ui55 ui56 ui57 ui58 ui59 ui67 (j9 ui68 ui70 ui71 ui75 Q0q Q0r Q0t Q0u (j9 Q0v a1 a2 a3 hFl hFt hFd hFo WLg))))); (repeat' (first | exact zc | (with_reducible first | apply And.intro | apply Q0a | apply Q0b | refine Q0c (by decide +kernel) ?_ | intro _) | ((with_reducible first | refine .dms (fun x => False) [(0, false), (1, false), (2, false), (3, false), (4, false), (5, true), (6, true), (7, true), (8, false), (9, true)] (by decide) (by decide +kernel) ?_ | refine .dm (fun x => False) [(0, false), (1, false), (2, false), (3, false), (4, false), (5, true), (6, true), (7, true), (8, false), (9, true)] (by decide) (by decide +kernel) ?_); (refine zsR zz.out ?_)) | ((with_reducible first | refine .dms (fun x => False) [(0, false), (1, false), (2, false), (3, true), (4, true), (5, true), (6, false), (7, true)] (by decide) (by decide +kernel) ?_ | refine .dm (fun x => False) [(0, false), (1, false), (2, false), (3, true), (4, true), (5, true), (6, false), (7, true)] (by decide) (by decide +kernel) ?_); (refine zsR zz.out ?_)) | refine zaR zz.out ?_ | refine zkN zz.out ?_ | ((first | (refine Q0l (by intro β h; first | (rcases h with h | h <;> subst h <;> (simp (disch := first | assumption | (apply zP; assumption; assumption) | (apply zQ; assumption; assumption; (intro e; cases e; done)) | omega) only [zn, zp, zq, zr, zv])) | (subst h; (simp (disch := first | assumption | (apply zP; assumption; assumption) | (apply zQ; assumption; assumption; (intro e; cases e; done)) | omega) only [zn, zp, zq, zr, zv]))) ?_) | ((with_reducible refine zS (hX _ _ _ _ (by exact zO) (by omega) (by omega) (by omega) (by omega) (by exact zN)) ?_); rintro _ S ⟨rfl, τ1, ⟨f1, n1⟩, rfl⟩; have n1s := n1.symm) | ((with_reducible refine zS (Q0n _ _ _ _ _ _ _ _ (by repeat (first | exact Q0j | refine Q0g ?_ (by simp))) (by exact zO) (by exact zN)) ?_); rintro _ S ⟨rfl, τ1, ⟨f1, n1⟩, rfl⟩; have n1s := n1.symm) | ((with_reducible refine zS (Q2n _ _ _ _ _ _ _ (by exact zO) (by exact zN)) ?_); rintro _ S ⟨rfl, τ1, ⟨f1, n1⟩, rfl⟩; have n1s := n1.symm) | (refine Q0d (by exact zK) ?_) | (refine Q0e (by exact zK) ?_)); (try refine zsR zz.out ?_)) | refine zmR zz.out ?_ | refine zo ?_ | omega | refine ztR zz.out ?_ | fail)); try (all_goals clear zz))
  all_goals exact ⟨_, .refl _, τ1, ⟨f1, n1⟩, Q2g (by simp) rfl (by omega)⟩
theorem w_update (ω : Nat) (x : Stm) (hb : Q8z x.sets = true) (hg : ∀ s ∈ x.sets, Lim s.2) (hw : oneB x.wh = true) (hwl : ∀ e ∈ x.wh, Lim e) :
    Wf ω 65 [.ref ω 0, .agg (stmA x)] (Q6u x) (max (maxD (fun s => (toTr s.2).dp) x.sets) (expD x.wh)) := by
  obtain ⟨g1, g2⟩ : x.sets.all Q6c = true ∧ (1 ≤ x.sets.length ∧ x.sets.length ≤ 8) := by
    unfold Q8z at hb; simpa only [Bool.and_eq_true, decide_eq_true_eq] using hb
  have g1 := List.all_eq_true.1 g1
  have g3 : ∀ s ∈ x.sets, rt s.2 = true := fun s hs => by
    have := g1 s hs
    unfold Q6c at this
    exact (Bool.and_eq_true _ _ ▸ this).2
  have hLs := w_list ω 123 [.ro [.ref ω 0], .ro (stmA x)] x.sets setT (fun s => (toTr s.2).dp) x.sets.length rfl (by omega) (fun i hi => u_set ω x i hi (by omega) (g3 _ (List.getElem_mem hi)) (hg _ (List.getElem_mem hi)))
  have hM := X0n ω x.wh hw hwl .any .full [[.s (bs [87, 72, 69, 82, 69])]] (Q0g Q0j (by simp))
  rw [show expW [[.s (bs [87, 72, 69, 82, 69])]] x.wh = expT [[87, 72, 69, 82, 69]] x.wh from expW1 _ _] at hM
  intro B τ l d m h h0 hm1 h2' h3 h4
  have hLs := hLs B
  have hM := hM B
  have a1 : (x.sets.map setA).length = x.sets.length := zB ..
  have b4 : Q6u x = wd [85, 80, 68, 65, 84, 69] :: nT x.t :: wd [83, 69, 84] :: (sepT setT x.sets ++ expT [[87, 72, 69, 82, 69]] x.wh) := rfl
  rw [b4] at h4 ⊢
  simp only [zx, zy, zA, Q1k] at h4
  clear g1 g3 hg hb b4 hw hwl
  unfold stmA at hLs ⊢
  generalize sepT setT x.sets = TT at *
  generalize expT [[87, 72, 69, 82, 69]] x.wh = TW at *
  generalize maxD (fun s : Se => (toTr s.2).dp) x.sets = D1 at *
  generalize expD x.wh = D2 at *
  (refine vfun (fun _ => .ro) Q0k Tryz.func65 (by kernel_rfl) ?_; simp only [Q0f, Tryz.f65, zw])
  (have zz := Bx.mk (j9 ui0 ui3 ui4 ui9 ui22 ui23 ui24 ui25 (j9 ui26 ui37 ui38 ui39 ui40 ui41 ui42 ui55 (j9 ui56 ui57 ui58 ui59 ui67 ui68 ui70 ui71 (j9 ui75 Q0q Q0r X3p Q0t Q0u Q0v a1 WLg)))); (repeat' (first | exact zc | (with_reducible first | apply And.intro | apply Q0a | apply Q0b | refine Q0c (by decide +kernel) ?_ | intro _) | ((with_reducible first | refine .dms (fun x => False) [(0, false), (1, false), (2, false), (3, true), (4, false), (5, true)] (by decide) (by decide +kernel) ?_ | refine .dm (fun x => False) [(0, false), (1, false), (2, false), (3, true), (4, false), (5, true)] (by decide) (by decide +kernel) ?_); (refine zsR zz.out ?_)) | refine zaR zz.out ?_ | refine zkN zz.out ?_ | ((first | (refine Q0l (by intro β h; first | (rcases h with h | h <;> subst h <;> (simp (disch := first | assumption | (apply zP; assumption; assumption) | (apply zQ; assumption; assumption; (intro e; cases e; done)) | omega) only [zn, zp, zq, zr, zv])) | (subst h; (simp (disch := first | assumption | (apply zP; assumption; assumption) | (apply zQ; assumption; assumption; (intro e; cases e; done)) | omega) only [zn, zp, zq, zr, zv]))) ?_) | ((with_reducible refine zS (hLs _ _ _ _ (by exact zO) (by omega) (by omega) (by omega) (by omega) (by exact zN)) ?_); rintro _ S ⟨rfl, τ1, ⟨f1, n1⟩, rfl⟩; have n1s := n1.symm) | ((with_reducible refine zS (hM _ _ _ _ (by exact zO) (by omega) (by omega) (by omega) (by omega) (by exact zN)) ?_); rintro _ S ⟨rfl, τ1, ⟨f1, n1⟩, rfl⟩; have n1s := n1.symm) | ((with_reducible refine zS (Q0n _ _ _ _ _ _ _ _ (by repeat (first | exact Q0j | refine Q0g ?_ (by simp))) (by exact zO) (by exact zN)) ?_); rintro _ S ⟨rfl, τ1, ⟨f1, n1⟩, rfl⟩; have n1s := n1.symm) | ((with_reducible refine zS (Q2n _ _ _ _ _ _ _ (by exact zO) (by exact zN)) ?_); rintro _ S ⟨rfl, τ1, ⟨f1, n1⟩, rfl⟩; have n1s := n1.symm) | (refine Q0d (by exact zK) ?_) | (refine Q0e (by exact zK) ?_)); (try refine zsR zz.out ?_)) | refine zmR zz.out ?_ | refine zo ?_ | omega | refine ztR zz.out ?_ | fail)); try (all_goals clear zz))
  all_goals exact ⟨_, .refl _, τ1, ⟨f1, n1⟩, Q2g (by simp) rfl (by omega)⟩
theorem u_item (ω : Nat) (x : Stm) (i : Nat) (hi : i < x.items.length) (h1 : x.items.length ≤ 9223372036854775807) (hr : Q3c x.items[i] = true) (hL : ∀ e ∈ x.items[i].2, Lim e) :
    Wf ω 124 [.i i, .ro [.ref ω 0], .ro (stmA x)] (Q2t x.items[i]) (expD x.items[i].2) := by
  have hX := w_item ω x.items[i] hr hL
  intro B τ l d m h h0 hm1 h2' h3 h4
  have hX := hX B
  have a1 : (x.items.map Q2e).length = x.items.length := zB ..
  have a2 := Q1r (f := Q2e) (n := 2) x.items (fun _ => rfl)
  have a3 : (x.items.map Q2e).getD i [] = [.i x.items[i].1, .sl .any (exsA x.items[i].2)] := Q1q (f := Q2e) hi
  have a4 : Q2e x.items[i] = [.i x.items[i].1, .sl .any (exsA x.items[i].2)] := rfl
  rw [a4] at hX
  clear a4 hr hL
  unfold stmA
  generalize Q2t x.items[i] = TT at *
  generalize expD x.items[i].2 = D at *
  generalize exsA x.items[i].2 = E at *
  generalize x.items[i].1 = N at *
  (refine vfun (fun _ => .no) Q0k Tryz.func124 (by kernel_rfl) ?_; simp only [Q0f, Tryz.f124, zw])
  (have zz := Bx.mk (j9 ui0 ui3 ui4 ui9 ui22 ui23 ui24 ui25 (j9 ui26 ui37 ui38 ui39 ui40 ui41 ui42 ui55 (j9 ui56 ui57 ui58 ui59 ui67 ui68 ui70 ui71 (j9 Q0q Q0r Q0t Q0u Q0v a1 a2 a3 WLg)))); (repeat' (first | exact zc | (with_reducible first | apply And.intro | apply Q0a | apply Q0b | refine Q0c (by decide +kernel) ?_ | intro _) | ((with_reducible first | refine .dms (fun x => False) [(0, false), (1, false), (2, false), (3, true), (4, true), (5, false), (6, true)] (by decide) (by decide +kernel) ?_ | refine .dm (fun x => False) [(0, false), (1, false), (2, false), (3, true), (4, true), (5, false), (6, true)] (by decide) (by decide +kernel) ?_); (refine zsR zz.out ?_)) | refine zaR zz.out ?_ | refine zkN zz.out ?_ | ((first | (refine Q0l (by intro β h; first | (rcases h with h | h <;> subst h <;> (simp (disch := first | assumption | (apply zP; assumption; assumption) | (apply zQ; assumption; assumption; (intro e; cases e; done)) | omega) only [zn, zp, zq, zr, zv])) | (subst h; (simp (disch := first | assumption | (apply zP; assumption; assumption) | (apply zQ; assumption; assumption; (intro e; cases e; done)) | omega) only [zn, zp, zq, zr, zv]))) ?_) | ((with_reducible refine zS (hX _ _ _ _ (by exact zO) (by omega) (by omega) (by omega) (by omega) (by exact zN)) ?_); rintro _ S ⟨rfl, τ1, ⟨f1, n1⟩, rfl⟩; have n1s := n1.symm) | (refine Q0d (by exact zK) ?_) | (refine Q0e (by exact zK) ?_)); (try refine zsR zz.out ?_)) | refine zmR zz.out ?_ | refine zo ?_ | omega | refine ztR zz.out ?_ | fail)); try (all_goals clear zz))
  all_goals exact ⟨_, .refl _, τ1, ⟨f1, n1⟩, Q2g (by simp) rfl (by omega)⟩
def mx (a b : Int) : Int := max a b
theorem wf_at {ω : Nat} {f : FuncId} {va : List AV} {tk : List Tk} {D : Nat} (h : Wf ω f va tk D) (B : Sg) {d m : Int} {M : Nat} (h0 : 0 ≤ d) (h1 : d ≤ m) (h2 : m ≤ 2 ^ 41) (h3 : d + M ≤ 2 ^ 40) (hD : D ≤ M) (τ : Nat) (l : List Tk) (X : Nat) (hok : Print.okS B ω τ) (hX : X ≤ M) (hl : l.length + tk.length ≤ 2 ^ 36) :
    VCalls Tryz.prog f va (WS B ω τ l d (mx m (d + X))) (fun x σ' => x = .tup [] ∧ ∃ τ', Print.okS B ω τ' ∧ σ' = WS B ω τ' (l ++ tk) d (mx m (d + (max X D : Nat)))) := by
  refine (h B τ l d (mx m (d + X)) hok h0 (by unfold mx; omega) (by unfold mx; omega) (by omega) hl).mono fun x σ' hx => ?_
  obtain ⟨rfl, τ', ok, rfl⟩ := hx
  exact ⟨rfl, τ', ok, Q2g rfl rfl (by unfold mx; omega)⟩
theorem Q7o {l : List Ex} (h : colB l = true) : oneB l = true := by
  unfold colB at h
  exact (Bool.and_eq_true _ _ ▸ h).1
theorem w_choose (ω : Nat) (x : Stm) (hb : Q5c x.items = true) (hg : ∀ y ∈ x.items, ∀ e ∈ y.2, Lim e) (ho : oneB x.on = true) (hol : ∀ e ∈ x.on, Lim e) (hw : oneB x.wh = true) (hwl : ∀ e ∈ x.wh, Lim e)
    (hgr : oneB x.gr = true) (hgl : ∀ e ∈ x.gr, Lim e) (hor : oneB x.or = true) (hrl : ∀ e ∈ x.or, Lim e) (hlim : inR x.lim) (hlim2 : -1 ≤ x.lim) :
    Wf ω 67 [.ref ω 0, .agg (stmA x)] (Q5u x) (max (maxD (fun y => expD y.2) x.items) (max (if x.join = [] then 0 else expD x.on) (max (expD x.wh) (max (expD x.gr) (expD x.or))))) := by
  obtain ⟨g1, g2⟩ : x.items.all Q3c = true ∧ (1 ≤ x.items.length ∧ x.items.length ≤ 8) := by
    unfold Q5c at hb; simpa only [Bool.and_eq_true, decide_eq_true_eq] using hb
  have g1 := List.all_eq_true.1 g1
  have hLs := w_list ω 124 [.ro [.ref ω 0], .ro (stmA x)] x.items Q2t (fun y => expD y.2) x.items.length rfl (by omega) (fun i hi => u_item ω x i hi (by omega) (g1 _ (List.getElem_mem hi)) (hg _ (List.getElem_mem hi)))
  have hM1 := X0n ω x.on ho hol .any .full [[.s (bs [79, 78])]] (Q0g Q0j (by simp))
  have hM2 := X0n ω x.wh hw hwl .any .full [[.s (bs [87, 72, 69, 82, 69])]] (Q0g Q0j (by simp))
  have hM3 := X0n ω x.gr hgr hgl .any .full [[.s (bs [71, 82, 79, 85, 80])], [.s (bs [66, 89])]] (Q0g (Q0g Q0j (by simp)) (by simp))
  have hM4 := X0n ω x.or hor hrl .any .full [[.s (bs [79, 82, 68, 69, 82])], [.s (bs [66, 89])]] (Q0g (Q0g Q0j (by simp)) (by simp))
  rw [show expW [[.s (bs [79, 78])]] x.on = expT [[79, 78]] x.on from expW1 _ _] at hM1
  rw [show expW [[.s (bs [87, 72, 69, 82, 69])]] x.wh = expT [[87, 72, 69, 82, 69]] x.wh from expW1 _ _] at hM2
  rw [show expW [[.s (bs [71, 82, 79, 85, 80])], [.s (bs [66, 89])]] x.gr = expT [[71, 82, 79, 85, 80], [66, 89]] x.gr from expW2 _ _ _] at hM3
  rw [show expW [[.s (bs [79, 82, 68, 69, 82])], [.s (bs [66, 89])]] x.or = expT [[79, 82, 68, 69, 82], [66, 89]] x.or from expW2 _ _ _] at hM4
  have hnl : inR' x.lim := by unfold inR at hlim; unfold inR'; omega
  have hnt : 0 ≤ x.lim → numT x.lim = [iT x.lim] := fun h => by unfold numT; rw [if_neg (by omega)]
  have hll : (numT x.lim).length ≤ 2 := by unfold numT; split <;> simp
  obtain ⟨M, hM⟩ : ∃ M : Nat, M = max (maxD (fun y => expD y.2) x.items) (max (if x.join = [] then 0 else expD x.on) (max (expD x.wh) (max (expD x.gr) (expD x.or)))) := ⟨_, rfl⟩
  rw [← hM]
  intro B τ l d m h h0 hm1 h2' h3 h4
  have z0 : 0 ≤ M := Nat.zero_le _
  have e0 : maxD (fun y => expD y.2) x.items ≤ M := by omega
  have e2 : expD x.wh ≤ M := by omega
  have e3 : expD x.gr ≤ M := by omega
  have e4 : expD x.or ≤ M := by omega
  have hLs := wf_at hLs B h0 hm1 h2' h3 e0
  have hM2 := wf_at hM2 B h0 hm1 h2' h3 e2
  have hM3 := wf_at hM3 B h0 hm1 h2' h3 e3
  have hM4 := wf_at hM4 B h0 hm1 h2' h3 e4
  rw [show WS B ω τ l d m = WS B ω τ l d (mx m (d + (0 : Nat))) from Q2g rfl rfl (by unfold mx; omega)]
  have a1 : (x.items.map Q2e).length = x.items.length := zB ..
  have b4 : Q5u x = wd [83, 69, 76, 69, 67, 84] :: (sepT Q2t x.items ++ (wd [70, 82, 79, 77] :: nT x.t :: ((if x.join = [] then [] else wd [74, 79, 73, 78] :: nT x.join :: expT [[79, 78]] x.on) ++ (expT [[87, 72, 69, 82, 69]] x.wh ++ (expT [[71, 82, 79, 85, 80], [66, 89]] x.gr ++ (expT [[79, 82, 68, 69, 82], [66, 89]] x.or ++
    ((if x.desc = true then [wd [68, 69, 83, 67]] else []) ++ (if 0 ≤ x.lim then [wd [76, 73, 77, 73, 84], iT x.lim] else [])))))))) := rfl
  rw [b4] at h4 ⊢
  simp only [zx, zy, zA, Q1k] at h4
  clear g1 hg hb b4 hw hwl ho hol hgr hgl hor hrl
  unfold stmA at hLs ⊢
  generalize sepT Q2t x.items = TT at *
  generalize expT [[79, 78]] x.on = T1 at *
  generalize expT [[87, 72, 69, 82, 69]] x.wh = T2 at *
  generalize expT [[71, 82, 79, 85, 80], [66, 89]] x.gr = T3 at *
  generalize expT [[79, 82, 68, 69, 82], [66, 89]] x.or = T4 at *
  generalize maxD (fun y : It => expD y.2) x.items = D at *
  generalize expD x.on = D1 at *
  generalize expD x.wh = D2 at *
  generalize expD x.gr = D3 at *
  generalize expD x.or = D4 at *
  generalize x.items.length = N at *
  generalize x.items.map Q2e = L0 at *
  generalize exsA x.on = L1 at *
  generalize exsA x.wh = L2 at *
  generalize exsA x.gr = L3 at *
  generalize exsA x.or = L4 at *
  generalize x.join = join at *
  generalize x.desc = desc at *
  generalize x.lim = lim at *
  by_cases hj : join = []
  · rw [if_pos hj] at hM h4 ⊢
    subst hj
    simp only [zA] at h4
    have hMb : Bx (max (max (max (max 0 D) D2) D3) D4 = M) := ⟨by omega⟩
    clear hM1 hM
    (refine vfun (fun _ => .ro) Q0k Tryz.func67 (by kernel_rfl) ?_; simp only [Q0f, Tryz.f67, zw])
    (have zz := Bx.mk (j9 ui0 ui3 ui4 ui9 ui22 ui23 ui24 ui25 (j9 ui26 ui37 ui38 ui39 ui40 ui41 ui42 ui55 (j9 ui56 ui57 ui58 ui59 ui67 ui68 ui70 ui71 (j9 ui75 Q0q Q0r X3p Q0t Q0u Q0v a1 WLg)))); (repeat' (first | exact zc | (with_reducible first | apply And.intro | apply Q0a | apply Q0b | refine Q0c (by decide +kernel) ?_ | intro _) | ((with_reducible first | refine .dms (fun x => False) [(0, false), (1, false), (2, false), (3, true), (4, false), (5, true)] (by decide) (by decide +kernel) ?_ | refine .dm (fun x => False) [(0, false), (1, false), (2, false), (3, true), (4, false), (5, true)] (by decide) (by decide +kernel) ?_); (refine zsR zz.out ?_)) | ((with_reducible first | refine .dms (fun x => False) [(0, false), (1, false), (2, false), (3, true), (4, false), (5, true)] (by decide) (by decide +kernel) ?_ | refine .dm (fun x => False) [(0, false), (1, false), (2, false), (3, true), (4, false), (5, true)] (by decide) (by decide +kernel) ?_); (refine zsR zz.out ?_)) | ((with_reducible first | refine .dms (fun x => False) [(0, false), (1, false), (2, false), (3, true), (4, false), (5, true)] (by decide) (by decide +kernel) ?_ | refine .dm (fun x => False) [(0, false), (1, false), (2, false), (3, true), (4, false), (5, true)] (by decide) (by decide +kernel) ?_); (refine zsR zz.out ?_)) | refine zaR zz.out ?_ | refine zkN zz.out ?_ | ((first | (refine Q0l (by intro β h; first | (rcases h with h | h <;> subst h <;> (simp (disch := first | assumption | (apply zP; assumption; assumption) | (apply zQ; assumption; assumption; (intro e; cases e; done)) | omega) only [zn, zp, zq, zr, zv])) | (subst h; (simp (disch := first | assumption | (apply zP; assumption; assumption) | (apply zQ; assumption; assumption; (intro e; cases e; done)) | omega) only [zn, zp, zq, zr, zv]))) ?_) | ((with_reducible refine zS (hLs _ _ _ (by exact zO) (by repeat' (first | assumption | refine Nat.max_le.2 ⟨?_, ?_⟩)) (by exact zN)) ?_); rintro _ S ⟨rfl, τ1, ⟨f1, n1⟩, rfl⟩; have n1s := n1.symm) | ((with_reducible refine zS (hM2 _ _ _ (by exact zO) (by repeat' (first | assumption | refine Nat.max_le.2 ⟨?_, ?_⟩)) (by exact zN)) ?_); rintro _ S ⟨rfl, τ1, ⟨f1, n1⟩, rfl⟩; have n1s := n1.symm) | ((with_reducible refine zS (hM3 _ _ _ (by exact zO) (by repeat' (first | assumption | refine Nat.max_le.2 ⟨?_, ?_⟩)) (by exact zN)) ?_); rintro _ S ⟨rfl, τ1, ⟨f1, n1⟩, rfl⟩; have n1s := n1.symm) | ((with_reducible refine zS (hM4 _ _ _ (by exact zO) (by repeat' (first | assumption | refine Nat.max_le.2 ⟨?_, ?_⟩)) (by exact zN)) ?_); rintro _ S ⟨rfl, τ1, ⟨f1, n1⟩, rfl⟩; have n1s := n1.symm) | ((with_reducible refine zS (Q0n _ _ _ _ _ _ _ _ (by repeat (first | exact Q0j | refine Q0g ?_ (by simp))) (by exact zO) (by exact zN)) ?_); rintro _ S ⟨rfl, τ1, ⟨f1, n1⟩, rfl⟩; have n1s := n1.symm) | ((with_reducible refine zS (Q2n _ _ _ _ _ _ _ (by exact zO) (by exact zN)) ?_); rintro _ S ⟨rfl, τ1, ⟨f1, n1⟩, rfl⟩; have n1s := n1.symm) | ((with_reducible refine zS (Q9j _ _ _ _ _ _ _ (by exact zO) (by exact zN) (by assumption)) ?_); rintro _ S ⟨rfl, τ1, ⟨f1, n1⟩, rfl⟩; have n1s := n1.symm) | (refine Q0d (by exact zK) ?_) | (refine Q0e (by exact zK) ?_)); (try refine zsR zz.out ?_)) | refine zmR zz.out ?_ | refine zo ?_ | omega | refine ztR zz.out ?_ | fail)); try (all_goals clear zz))
    all_goals (refine ⟨_, .refl _, τ1, ⟨f1, n1⟩, Q2g ?_ rfl (by rw [hMb.out]; rfl)⟩; (first | rw [if_pos (show 0 ≤ lim by omega), hnt (by omega)] | rw [if_neg (show ¬ 0 ≤ lim by omega)]); (first | rw [if_pos (show desc = true by assumption)] | rw [if_neg (show ¬ desc = true by assumption)]); simp)
  · rw [if_neg hj] at hM h4 ⊢
    have hM1 := wf_at hM1 B h0 hm1 h2' h3 (show D1 ≤ M by omega)
    have e1 : D1 ≤ M := by omega
    simp only [zy, zA] at h4
    have hMb : Bx (max (max (max (max (max 0 D) D1) D2) D3) D4 = M) := ⟨by omega⟩
    clear hM
    (refine vfun (fun _ => .ro) Q0k Tryz.func67 (by kernel_rfl) ?_; simp only [Q0f, Tryz.f67, zw])
    (have zz := Bx.mk (j9 ui0 ui3 ui4 ui9 ui22 ui23 ui24 ui25 (j9 ui26 ui37 ui38 ui39 ui40 ui41 ui42 ui55 (j9 ui56 ui57 ui58 ui59 ui67 ui68 ui70 ui71 (j9 ui75 Q0q Q0r X3p Q0t Q0u Q0v a1 WLg)))); (repeat' (first | exact zc | (with_reducible first | apply And.intro | apply Q0a | apply Q0b | refine Q0c (by decide +kernel) ?_ | intro _) | ((with_reducible first | refine .dms (fun x => False) [(0, false), (1, false), (2, false), (3, true), (4, false), (5, true)] (by decide) (by decide +kernel) ?_ | refine .dm (fun x => False) [(0, false), (1, false), (2, false), (3, true), (4, false), (5, true)] (by decide) (by decide +kernel) ?_); (refine zsR zz.out ?_)) | ((with_reducible first | refine .dms (fun x => False) [(0, false), (1, false), (2, false), (3, true), (4, false), (5, true)] (by decide) (by decide +kernel) ?_ | refine .dm (fun x => False) [(0, false), (1, false), (2, false), (3, true), (4, false), (5, true)] (by decide) (by decide +kernel) ?_); (refine zsR zz.out ?_)) | ((with_reducible first | refine .dms (fun x => False) [(0, false), (1, false), (2, false), (3, true), (4, false), (5, true)] (by decide) (by decide +kernel) ?_ | refine .dm (fun x => False) [(0, false), (1, false), (2, false), (3, true), (4, false), (5, true)] (by decide) (by decide +kernel) ?_); (refine zsR zz.out ?_)) | refine zaR zz.out ?_ | refine zkN zz.out ?_ | ((first | (refine Q0l (by intro β h; first | (rcases h with h | h <;> subst h <;> (simp (disch := first | assumption | (apply zP; assumption; assumption) | (apply zQ; assumption; assumption; (intro e; cases e; done)) | omega) only [zn, zp, zq, zr, zv])) | (subst h; (simp (disch := first | assumption | (apply zP; assumption; assumption) | (apply zQ; assumption; assumption; (intro e; cases e; done)) | omega) only [zn, zp, zq, zr, zv]))) ?_) | ((with_reducible refine zS (hLs _ _ _ (by exact zO) (by repeat' (first | assumption | refine Nat.max_le.2 ⟨?_, ?_⟩)) (by exact zN)) ?_); rintro _ S ⟨rfl, τ1, ⟨f1, n1⟩, rfl⟩; have n1s := n1.symm) | ((with_reducible refine zS (hM1 _ _ _ (by exact zO) (by repeat' (first | assumption | refine Nat.max_le.2 ⟨?_, ?_⟩)) (by exact zN)) ?_); rintro _ S ⟨rfl, τ1, ⟨f1, n1⟩, rfl⟩; have n1s := n1.symm) | ((with_reducible refine zS (hM2 _ _ _ (by exact zO) (by repeat' (first | assumption | refine Nat.max_le.2 ⟨?_, ?_⟩)) (by exact zN)) ?_); rintro _ S ⟨rfl, τ1, ⟨f1, n1⟩, rfl⟩; have n1s := n1.symm) | ((with_reducible refine zS (hM3 _ _ _ (by exact zO) (by repeat' (first | assumption | refine Nat.max_le.2 ⟨?_, ?_⟩)) (by exact zN)) ?_); rintro _ S ⟨rfl, τ1, ⟨f1, n1⟩, rfl⟩; have n1s := n1.symm) | ((with_reducible refine zS (hM4 _ _ _ (by exact zO) (by repeat' (first | assumption | refine Nat.max_le.2 ⟨?_, ?_⟩)) (by exact zN)) ?_); rintro _ S ⟨rfl, τ1, ⟨f1, n1⟩, rfl⟩; have n1s := n1.symm) | ((with_reducible refine zS (Q0n _ _ _ _ _ _ _ _ (by repeat (first | exact Q0j | refine Q0g ?_ (by simp))) (by exact zO) (by exact zN)) ?_); rintro _ S ⟨rfl, τ1, ⟨f1, n1⟩, rfl⟩; have n1s := n1.symm) | ((with_reducible refine zS (Q2n _ _ _ _ _ _ _ (by exact zO) (by exact zN)) ?_); rintro _ S ⟨rfl, τ1, ⟨f1, n1⟩, rfl⟩; have n1s := n1.symm) | ((with_reducible refine zS (Q9j _ _ _ _ _ _ _ (by exact zO) (by exact zN) (by assumption)) ?_); rintro _ S ⟨rfl, τ1, ⟨f1, n1⟩, rfl⟩; have n1s := n1.symm) | (refine Q0d (by exact zK) ?_) | (refine Q0e (by exact zK) ?_)); (try refine zsR zz.out ?_)) | refine zmR zz.out ?_ | refine zo ?_ | omega | refine ztR zz.out ?_ | fail)); try (all_goals clear zz))
    all_goals try (exfalso; first | exact hj ‹join = []› | (simp_all; done))
    all_goals (refine ⟨_, .refl _, τ1, ⟨f1, n1⟩, Q2g ?_ rfl (by rw [hMb.out]; rfl)⟩; (first | rw [if_pos (show 0 ≤ lim by omega), hnt (by omega)] | rw [if_neg (show ¬ 0 ≤ lim by omega)]); (first | rw [if_pos (show desc = true by assumption)] | rw [if_neg (show ¬ desc = true by assumption)]); simp)
theorem wb_set {T : TypeId} {r : List AV} {B : Sg} {ω τ : Nat} {l : List Tk} {β : Nat} {o : Ob} (h1 : β ≠ ω) (h2 : β ≠ τ) : (WB T r B ω τ l).set β o = WB T r (B.set β o) ω τ l := by
  rw [Q8c, Q8c, Sg.set_comm _ _ _ (Ne.symm h1), Sg.set_comm _ _ _ (Ne.symm h2)]
theorem wb_sub {T : TypeId} {r : List AV} {B : Sg} {ω τ : Nat} {l : List Tk} {β : Nat} {o : Ob} (h : B β = none) : (WB T r B ω τ l).sub (WB T r (B.set β o) ω τ l) := by
  intro y p hy
  simp only [Q8c, Sg.set_apply] at hy ⊢
  grind
theorem colT_len (c : Co) : (colT c).length ≤ 6 := by
  unfold colT
  repeat' split
  all_goals simp [wds]
theorem X2j {l : List Co} {k : Nat} (h : k < l.length) : ((l.take (k + 1)).map colT).flatten = ((l.take k).map colT).flatten ++ colT l[k] := by
  rw [List.take_succ_eq_append_getElem h, List.map_append, List.flatten_append]; simp
theorem X1g (l : List Co) : ∀ k, (((l.take k).map colT).flatten).length ≤ 6 * k
  | 0 => by simp
  | k + 1 => by
    have ih := X1g l k
    rcases Nat.lt_or_ge k l.length with h | h
    · rw [X2j h, zx]
      have := colT_len l[k]
      omega
    · rw [List.take_of_length_le (by omega)]
      rw [List.take_of_length_le h] at ih
      omega
theorem w_create (ω : Nat) (x : Stm) (hb : Q9n x.cols = true) :
    Wf ω 63 [.ref ω 0, .agg (stmA x)] (X0m x) 0 := by
  obtain ⟨g1, g2⟩ : x.cols.all Q7m = true ∧ (1 ≤ x.cols.length ∧ x.cols.length ≤ 8) := by
    unfold Q9n at hb; simpa only [Bool.and_eq_true, decide_eq_true_eq] using hb
  intro B τ l d m h h0 hm1 h2' h3 h4
  have a1 : (x.cols.map coA).length = x.cols.length := zB ..
  have a2 := Q1r (f := coA) (n := 4) x.cols (fun _ => rfl)
  have a3 := fun k (h : k < x.cols.length) => Q1q (f := coA) h
  have b4 : X0m x = wds [[67, 82, 69, 65, 84, 69], [84, 65, 66, 76, 69]] ++ (nT x.t :: wd [40] :: ((x.cols.map colT).flatten ++ (wds [[80, 82, 73, 77, 65, 82, 89], [75, 69, 89], [40]] ++ (nT x.pk :: wds [[41], [41]])))) := rfl
  have hcl := X1g x.cols
  rw [b4] at h4 ⊢
  simp only [zx, zy, zA, Q1k] at h4
  clear b4 hb g1
  unfold stmA
  generalize x.cols.map coA = L5 at *
  obtain ⟨C, hC⟩ : ∃ C : List AV, C = [.i x.k, .s (bs x.t), .sl .any L5, .s (bs x.pk), .sl .any (x.rows.map rowA), .sl .any (x.sets.map setA), .sl .any (x.items.map Q2e), .s (bs x.join), .sl .any (exsA x.on), .sl .any (exsA x.wh), .sl .any (exsA x.gr), .sl .any (exsA x.or), .b x.desc, .i x.lim] := ⟨_, rfl⟩
  (refine vfun (fun i => if i = 3 then .ro else .no) Q0k Tryz.func63 (by kernel_rfl) ?_; simp only [Q0f, Tryz.f63, zw])
  (have zz := Bx.mk (j8 ui0 ui3 ui4 ui9 ui22 ui23 ui24 (j9 ui25 ui26 ui37 ui38 ui39 ui40 ui41 ui42 (j9 ui55 ui56 ui57 ui58 ui59 ui67 ui68 ui70 (j9 ui71 ui75 Q0q Q0r Q0t Q0u Q0v a1 WLg)))); (repeat' (first | exact zc | (with_reducible first | apply And.intro | apply Q0a | apply Q0b | refine Q0c (by decide +kernel) ?_ | intro _) | ((with_reducible first | refine .dms (fun x => False) [(0, false), (1, false), (2, false), (3, true), (4, false), (5, true)] (by decide) (by decide +kernel) ?_ | refine .dm (fun x => False) [(0, false), (1, false), (2, false), (3, true), (4, false), (5, true)] (by decide) (by decide +kernel) ?_); (refine zsR zz.out ?_)) | ((with_reducible first | refine .dms (fun x => False) [(0, false), (1, false), (2, false), (3, true), (4, false), (5, true)] (by decide) (by decide +kernel) ?_ | refine .dm (fun x => False) [(0, false), (1, false), (2, false), (3, true), (4, false), (5, true)] (by decide) (by decide +kernel) ?_); (refine zsR zz.out ?_)) | ((with_reducible first | refine .dms (fun x => False) [(0, false), (1, false), (2, false), (3, true), (4, false), (5, true)] (by decide) (by decide +kernel) ?_ | refine .dm (fun x => False) [(0, false), (1, false), (2, false), (3, true), (4, false), (5, true)] (by decide) (by decide +kernel) ?_); (refine zsR zz.out ?_)) | refine zaR zz.out ?_ | refine zkN zz.out ?_ | ((first | (refine Q0l (by intro β h; first | (rcases h with h | h <;> subst h <;> (simp (disch := first | assumption | (apply zP; assumption; assumption) | (apply zQ; assumption; assumption; (intro e; cases e; done)) | omega) only [zn, zp, zq, zr, zv])) | (subst h; (simp (disch := first | assumption | (apply zP; assumption; assumption) | (apply zQ; assumption; assumption; (intro e; cases e; done)) | omega) only [zn, zp, zq, zr, zv]))) ?_) | ((with_reducible refine zS (Q0n _ _ _ _ _ _ _ _ (by repeat (first | exact Q0j | refine Q0g ?_ (by simp))) (by exact zO) (by exact zN)) ?_); rintro _ S ⟨rfl, τ1, ⟨f1, n1⟩, rfl⟩; have n1s := n1.symm) | ((with_reducible refine zS (Q2n _ _ _ _ _ _ _ (by exact zO) (by exact zN)) ?_); rintro _ S ⟨rfl, τ1, ⟨f1, n1⟩, rfl⟩; have n1s := n1.symm) | (refine Q0d (by exact zK) ?_) | (refine Q0e (by exact zK) ?_)); (try refine zsR zz.out ?_)) | refine zmR zz.out ?_ | refine zo ?_ | omega | refine ztR zz.out ?_ | fail)); try (all_goals clear zz))
  refine VW.loop3 (0 : Nat) τ1 () (fun k τ' _ => k ≤ x.cols.length ∧ Print.okS B ω τ') (fun k _ _ => [(0, .ref ω 0), (3, .ro C), (23, .sl .any L5), (24, .i x.cols.length), (25, .i k)]) (fun k τ' _ => WS B ω τ' (l ++ wds [[67, 82, 69, 65, 84, 69], [84, 65, 66, 76, 69]] ++ [nT x.t] ++ [wd [40]] ++ ((x.cols.take k).map colT).flatten) d m) (fun k _ _ => x.cols.length - k) ⟨Nat.zero_le _, ⟨by assumption, by assumption⟩⟩ (Q4f (Q2g (by simp [wds]) rfl rfl)) ?_ ?_
  · subst hC
    simp only [vO, vQ, ↓vP, vE, vS, vB, vL, vF, vM, vN, Q0i, Nat.reduceEqDiff, Nat.reduceAdd, Nat.reduceLeDiff, ne_eq, not_false_eq_true, Nat.reduceMul, Nat.reduceSub, Int.toNat_zero, Int.reduceToNat, vT]
    all_goals first | rfl | exact ⟨rfl, rfl⟩ | trace_state
  clear f1 n1 n1s
  rintro k τ' _ ⟨hk, f1, n1⟩
  have n1s := n1.symm
  have hck := hcl k
  generalize hA : l ++ wds [[67, 82, 69, 65, 84, 69], [84, 65, 66, 76, 69]] ++ [nT x.t] ++ [wd [40]] ++ ((x.cols.take k).map colT).flatten = A at *
  rcases Nat.lt_or_ge k x.cols.length with hk2 | hk2
  · have hg := a3 k hk2
    have hg2 : coA x.cols[k] = [.s (bs x.cols[k].1), .i x.cols[k].2.1, .b x.cols[k].2.2.1, .b x.cols[k].2.2.2] := rfl
    rw [hg2] at hg
    have hst := X2j hk2
    have hct : colT x.cols[k] = nT x.cols[k].1 :: wd (if x.cols[k].2.1 = 1 then [73, 78, 84] else [84, 69, 88, 84]) :: ((if x.cols[k].2.2.1 = true then wds [[78, 79, 84], [78, 85, 76, 76]] else []) ++ ((if x.cols[k].2.2.2 = true then wds [[85, 78, 73, 81, 85, 69]] else []) ++ [wd [44]])) := rfl
    rw [hct] at hst
    have hAl : A.length ≤ 2 ^ 36 + 100 := by rw [← hA]; simp only [zx, zy, zA, Q1k]; omega
    clear hg2 hct a3 hcl
    have hfin : Bx (((x.cols.take k).map colT).flatten = ((x.cols.take k).map colT).flatten) := ⟨rfl⟩
    generalize x.cols[k].1 = va at *
    generalize x.cols[k].2.1 = vb at *
    generalize x.cols[k].2.2.1 = vc at *
    generalize x.cols[k].2.2.2 = vd at *
    (have zz := Bx.mk (j2 ui0 (j9 ui3 ui4 ui9 ui22 ui23 ui24 ui25 ui26 (j9 ui37 ui38 ui39 ui40 ui41 ui42 ui55 ui56 (j9 ui57 ui58 ui59 ui67 ui68 ui70 ui71 ui75 (j9 Q0q Q0r Q0t Q0u Q0v a1 a2 hg WLg))))); (repeat' (first | exact zc | (with_reducible first | apply And.intro | apply Q0a | apply Q0b | refine Q0c (by decide +kernel) ?_ | intro _) | ((with_reducible first | refine .dms (fun x => x = β) [(0, false), (1, false), (2, false), (3, true), (4, false), (5, true)] (by decide) (by decide +kernel) ?_ | refine .dm (fun x => x = β) [(0, false), (1, false), (2, false), (3, true), (4, false), (5, true)] (by decide) (by decide +kernel) ?_); (refine zsR zz.out ?_)) | ((with_reducible first | refine .dms (fun x => x = β) [(0, false), (1, false), (2, false), (3, true), (4, false), (5, true)] (by decide) (by decide +kernel) ?_ | refine .dm (fun x => x = β) [(0, false), (1, false), (2, false), (3, true), (4, false), (5, true)] (by decide) (by decide +kernel) ?_); (refine zsR zz.out ?_)) | ((with_reducible first | refine .dms (fun x => x = β) [(0, false), (1, false), (2, false), (3, true), (4, false), (5, true)] (by decide) (by decide +kernel) ?_ | refine .dm (fun x => x = β) [(0, false), (1, false), (2, false), (3, true), (4, false), (5, true)] (by decide) (by decide +kernel) ?_); (refine zsR zz.out ?_)) | refine zaR zz.out ?_ | refine zkK zz.out ?_ | ((first | (refine Q0l (by intro β h; first | (rcases h with h | h <;> subst h <;> (simp (disch := first | assumption | (apply zP; assumption; assumption) | (apply zQ; assumption; assumption; (intro e; cases e; done)) | omega) only [zn, zp, zq, zr, zv])) | (subst h; (simp (disch := first | assumption | (apply zP; assumption; assumption) | (apply zQ; assumption; assumption; (intro e; cases e; done)) | omega) only [zn, zp, zq, zr, zv]))) ?_) | (with_reducible first | refine Q5x ?_ | refine Q4c (fun β hβ => ?_)) | (rw [wb_set (by assumption) (by assumption)]) | ((with_reducible refine zS (Q2n _ _ _ _ _ _ _ ⟨Sg.set_none (by assumption) (by first | assumption | (apply Ne.symm; assumption)), by assumption⟩ (by exact zN)) ?_); rintro _ S ⟨rfl, τ1, ⟨f2, n1⟩, rfl⟩; have n1s := n1.symm; obtain ⟨nb, f1⟩ := Sg.none_set f2; have nbs := nb.symm) | ((with_reducible refine zS (Q0n _ _ _ _ _ _ _ _ (by repeat (first | exact Q0j | refine Q0g ?_ (by simp))) ⟨Sg.set_none (by assumption) (by first | assumption | (apply Ne.symm; assumption)), by assumption⟩ (by exact zN)) ?_); rintro _ S ⟨rfl, τ1, ⟨f2, n1⟩, rfl⟩; have n1s := n1.symm; obtain ⟨nb, f1⟩ := Sg.none_set f2; have nbs := nb.symm) | ((with_reducible refine zS (Q0n _ _ _ _ _ _ _ _ (by repeat (first | exact Q0j | refine Q0g ?_ (by simp))) (by exact zO) (by exact zN)) ?_); rintro _ S ⟨rfl, τ1, ⟨f1, n1⟩, rfl⟩; have n1s := n1.symm) | ((with_reducible refine zS (Q2n _ _ _ _ _ _ _ (by exact zO) (by exact zN)) ?_); rintro _ S ⟨rfl, τ1, ⟨f1, n1⟩, rfl⟩; have n1s := n1.symm) | (refine Q0d (by exact zK) ?_) | (refine Q0e (by exact zK) ?_)); (try refine zsR zz.out ?_)) | refine zmR zz.out ?_ | refine zo ?_ | omega | refine ztR zz.out ?_ | fail)); try (all_goals clear zz))
    all_goals exact ⟨k + 1, τ1, (), ⟨⟨hk2, f1, n1⟩, by omega⟩, (Q4f (Q2g (by rw [hst, ← hA]; (first | rw [if_pos (show vb = 1 by assumption)] | rw [if_neg (show ¬ vb = 1 by assumption)]); (first | rw [if_pos (show vc = true by assumption)] | rw [if_neg (show ¬ vc = true by assumption)]); (first | rw [if_pos (show vd = true by assumption)] | rw [if_neg (show ¬ vd = true by assumption)]); simp [wds]) rfl rfl)).trans (wb_sub hβ), rfl⟩
  · subst hC
    rw [List.take_of_length_le hk2] at hA
    have hAl : A.length ≤ l.length + 4 + ((x.cols.map colT).flatten).length := by rw [← hA]; simp only [zx, zy, zA, Q1k]; omega
    (have zz := Bx.mk (j8 ui0 ui3 ui4 ui9 ui22 ui23 ui24 (j9 ui25 ui26 ui37 ui38 ui39 ui40 ui41 ui42 (j9 ui55 ui56 ui57 ui58 ui59 ui67 ui68 ui70 (j9 ui71 ui75 Q0q Q0r Q0t Q0u Q0v a1 WLg)))); (repeat' (first | exact zc | (with_reducible first | apply And.intro | apply Q0a | apply Q0b | refine Q0c (by decide +kernel) ?_ | intro _) | ((with_reducible first | refine .dms (fun x => False) [(0, false), (1, false), (2, false), (3, true), (4, false), (5, true)] (by decide) (by decide +kernel) ?_ | refine .dm (fun x => False) [(0, false), (1, false), (2, false), (3, true), (4, false), (5, true)] (by decide) (by decide +kernel) ?_); (refine zsR zz.out ?_)) | ((with_reducible first | refine .dms (fun x => False) [(0, false), (1, false), (2, false), (3, true), (4, false), (5, true)] (by decide) (by decide +kernel) ?_ | refine .dm (fun x => False) [(0, false), (1, false), (2, false), (3, true), (4, false), (5, true)] (by decide) (by decide +kernel) ?_); (refine zsR zz.out ?_)) | ((with_reducible first | refine .dms (fun x => False) [(0, false), (1, false), (2, false), (3, true), (4, false), (5, true)] (by decide) (by decide +kernel) ?_ | refine .dm (fun x => False) [(0, false), (1, false), (2, false), (3, true), (4, false), (5, true)] (by decide) (by decide +kernel) ?_); (refine zsR zz.out ?_)) | refine zaR zz.out ?_ | refine zkN zz.out ?_ | ((first | (refine Q0l (by intro β h; first | (rcases h with h | h <;> subst h <;> (simp (disch := first | assumption | (apply zP; assumption; assumption) | (apply zQ; assumption; assumption; (intro e; cases e; done)) | omega) only [zn, zp, zq, zr, zv])) | (subst h; (simp (disch := first | assumption | (apply zP; assumption; assumption) | (apply zQ; assumption; assumption; (intro e; cases e; done)) | omega) only [zn, zp, zq, zr, zv]))) ?_) | ((with_reducible refine zS (Q0n _ _ _ _ _ _ _ _ (by repeat (first | exact Q0j | refine Q0g ?_ (by simp))) (by exact zO) (by exact zN)) ?_); rintro _ S ⟨rfl, τ1, ⟨f1, n1⟩, rfl⟩; have n1s := n1.symm) | ((with_reducible refine zS (Q2n _ _ _ _ _ _ _ (by exact zO) (by exact zN)) ?_); rintro _ S ⟨rfl, τ1, ⟨f1, n1⟩, rfl⟩; have n1s := n1.symm) | (refine Q0d (by exact zK) ?_) | (refine Q0e (by exact zK) ?_)); (try refine zsR zz.out ?_)) | refine zmR zz.out ?_ | refine zo ?_ | omega | refine ztR zz.out ?_ | fail)); try (all_goals clear zz))
    all_goals exact ⟨_, .refl _, τ1, ⟨f1, n1⟩, Q2g (by rw [← hA]; simp [wds]) rfl (by omega)⟩
structure LimX (x : Stm) : Prop where
  s : LimS x
  v : ∀ r ∈ x.rows, ∀ v ∈ r, inR v.2.1
theorem Q7p {x : Stm} (h : fitB x = true) : (1 ≤ x.k ∧ x.k ≤ 6) ∧ isNm x.t = true ∧ oneB x.wh = true ∧ (x.k = 1 → Q9n x.cols = true ∧ isNm x.pk = true) ∧ (x.k = 3 → Q9o x.rows = true) ∧ (x.k = 4 → Q8z x.sets = true) ∧ (x.k = 6 → selB x = true) := by
  unfold fitB bareB at h
  simp only [Bool.and_eq_true, decide_eq_true_eq] at h
  obtain ⟨⟨h1, h2, _⟩, h3, h4⟩ := h
  refine ⟨h2, h1, h3, fun e => ?_, fun e => ?_, fun e => ?_, fun e => ?_⟩
  · rw [if_pos e, Bool.and_eq_true] at h4; exact h4
  · rw [if_neg (by omega), if_pos e] at h4; exact h4
  · rw [if_neg (by omega), if_neg (by omega), if_pos e] at h4; exact h4
  · rw [if_neg (by omega), if_neg (by omega), if_neg (by omega), if_pos e] at h4; exact h4
theorem Q7q {x : Stm} (h : selB x = true) : Q5c x.items = true ∧ oneB x.on = true ∧ colB x.gr = true ∧ colB x.or = true ∧ -1 ≤ x.lim := by
  unfold selB at h
  simp only [Bool.and_eq_true, decide_eq_true_eq] at h
  exact ⟨h.2.1, h.2.2.1, h.2.2.2.1, h.2.2.2.2.1, h.2.2.2.2.2.2⟩
theorem w_state (ω : Nat) (x : Stm) (hf : fitB x = true) (hL : LimX x) : Wf ω 30 [.ref ω 0, .agg (stmA x)] (stT x) (stD x) := by
  obtain ⟨p1, p2, p3, p4, p5, p6, p7⟩ := Q7p hf
  have hM := X0n ω x.wh p3 hL.s.wh.2 .any .full [[.s (bs [87, 72, 69, 82, 69])]] (Q0g Q0j (by simp))
  rw [show expW [[.s (bs [87, 72, 69, 82, 69])]] x.wh = expT [[87, 72, 69, 82, 69]] x.wh from expW1 _ _] at hM
  have hk : x.k = 1 ∨ x.k = 2 ∨ x.k = 3 ∨ x.k = 4 ∨ x.k = 5 ∨ x.k = 6 := by omega
  intro B τ l d m h h0 hm1 h2' h3 h4
  have hM := hM B
  rcases hk with hk | hk | hk | hk | hk | hk
  · have hX := w_create ω x (p4 hk).1 B
    have e1 : stT x = X0m x := by unfold stT; rw [if_pos hk]
    have e2 : stD x = 0 := by unfold stD; rw [if_neg (by omega), if_neg (by omega), if_neg (by omega)]
    rw [e1] at h4 ⊢
    rw [e2] at h3 ⊢
    clear hM p1 p2 p3 p4 p5 p6 p7 hf hL e1 e2
    generalize X0m x = TT at *
    unfold stmA at hX ⊢
    rw [hk] at hX ⊢
    (refine vfun (fun _ => .ro) Q0k Tryz.func30 (by kernel_rfl) ?_; simp only [Q0f, Tryz.f30, zw])
    (have zz := Bx.mk (j7 ui0 ui3 ui4 ui9 ui22 ui23 (j9 ui24 ui25 ui26 ui37 ui38 ui39 ui40 ui41 (j9 ui42 ui55 ui56 ui57 ui58 ui59 ui67 ui68 (j9 ui70 ui71 ui75 Q0q Q0r Q0t Q0u Q0v WLg)))); (repeat' (first | exact zc | (with_reducible first | apply And.intro | apply Q0a | apply Q0b | refine Q0c (by decide +kernel) ?_ | intro _) | refine zaY zz.out ?_ | ((first | ((with_reducible refine zS (hX _ _ _ _ (by exact zO) (by omega) (by omega) (by omega) (by omega) (by exact zN)) ?_); rintro _ S ⟨rfl, τ1, ⟨f1, n1⟩, rfl⟩; have n1s := n1.symm) | ((with_reducible refine zS (Q0n _ _ _ _ _ _ _ _ (by repeat (first | exact Q0j | refine Q0g ?_ (by simp))) (by exact zO) (by exact zN)) ?_); rintro _ S ⟨rfl, τ1, ⟨f1, n1⟩, rfl⟩; have n1s := n1.symm) | ((with_reducible refine zS (Q2n _ _ _ _ _ _ _ (by exact zO) (by exact zN)) ?_); rintro _ S ⟨rfl, τ1, ⟨f1, n1⟩, rfl⟩; have n1s := n1.symm) | (refine Q0d (by exact zK) ?_) | (refine Q0e (by exact zK) ?_)); (try refine zsY zz.out ?_)) | refine zo ?_ | omega | refine ztY zz.out ?_ | fail)); try (all_goals clear zz))
    all_goals exact ⟨_, .refl _, τ1, ⟨f1, n1⟩, Q2g rfl rfl rfl⟩
  · have e1 : stT x = wds [[68, 82, 79, 80], [84, 65, 66, 76, 69]] ++ [nT x.t] := by unfold stT; rw [if_neg (by omega), if_pos hk]; rfl
    have e2 : stD x = 0 := by unfold stD; rw [if_neg (by omega), if_neg (by omega), if_neg (by omega)]
    rw [e1] at h4 ⊢
    rw [e2] at h3 ⊢
    simp only [zx, zy, zA, Q1k] at h4
    clear hM p1 p2 p3 p4 p5 p6 p7 hf hL e1 e2
    unfold stmA
    rw [hk]
    (refine vfun (fun _ => .ro) Q0k Tryz.func30 (by kernel_rfl) ?_; simp only [Q0f, Tryz.f30, zw])
    (have zz := Bx.mk (j7 ui0 ui3 ui4 ui9 ui22 ui23 (j9 ui24 ui25 ui26 ui37 ui38 ui39 ui40 ui41 (j9 ui42 ui55 ui56 ui57 ui58 ui59 ui67 ui68 (j9 ui70 ui71 ui75 Q0q Q0r Q0t Q0u Q0v WLg)))); (repeat' (first | exact zc | (with_reducible first | apply And.intro | apply Q0a | apply Q0b | refine Q0c (by decide +kernel) ?_ | intro _) | ((with_reducible first | refine .dms (fun x => False) [(0, false), (1, false), (2, false), (3, true), (4, false), (5, true)] (by decide) (by decide +kernel) ?_ | refine .dm (fun x => False) [(0, false), (1, false), (2, false), (3, true), (4, false), (5, true)] (by decide) (by decide +kernel) ?_); (refine zsR zz.out ?_)) | ((with_reducible first | refine .dms (fun x => False) [(0, false), (1, false), (2, false), (3, true), (4, false), (5, true)] (by decide) (by decide +kernel) ?_ | refine .dm (fun x => False) [(0, false), (1, false), (2, false), (3, true), (4, false), (5, true)] (by decide) (by decide +kernel) ?_); (refine zsR zz.out ?_)) | refine zaR zz.out ?_ | refine zkN zz.out ?_ | ((first | (refine Q0l (by intro β h; first | (rcases h with h | h <;> subst h <;> (simp (disch := first | assumption | (apply zP; assumption; assumption) | (apply zQ; assumption; assumption; (intro e; cases e; done)) | omega) only [zn, zp, zq, zr, zv])) | (subst h; (simp (disch := first | assumption | (apply zP; assumption; assumption) | (apply zQ; assumption; assumption; (intro e; cases e; done)) | omega) only [zn, zp, zq, zr, zv]))) ?_) | ((with_reducible refine zS (Q0n _ _ _ _ _ _ _ _ (by repeat (first | exact Q0j | refine Q0g ?_ (by simp))) (by exact zO) (by exact zN)) ?_); rintro _ S ⟨rfl, τ1, ⟨f1, n1⟩, rfl⟩; have n1s := n1.symm) | ((with_reducible refine zS (Q2n _ _ _ _ _ _ _ (by exact zO) (by exact zN)) ?_); rintro _ S ⟨rfl, τ1, ⟨f1, n1⟩, rfl⟩; have n1s := n1.symm) | (refine Q0d (by exact zK) ?_) | (refine Q0e (by exact zK) ?_)); (try refine zsR zz.out ?_)) | refine zmR zz.out ?_ | refine zo ?_ | omega | refine ztR zz.out ?_ | fail)); try (all_goals clear zz))
    all_goals exact ⟨_, .refl _, τ1, ⟨f1, n1⟩, Q2g (by simp [wds]) rfl (by omega)⟩
  · have hX := w_insert ω x (p5 hk) hL.v B
    have e1 : stT x = Q6t x := by unfold stT; rw [if_neg (by omega), if_neg (by omega), if_pos hk]
    have e2 : stD x = 0 := by unfold stD; rw [if_neg (by omega), if_neg (by omega), if_neg (by omega)]
    rw [e1] at h4 ⊢
    rw [e2] at h3 ⊢
    clear hM p1 p2 p3 p4 p5 p6 p7 hf hL e1 e2
    generalize Q6t x = TT at *
    unfold stmA at hX ⊢
    rw [hk] at hX ⊢
    (refine vfun (fun _ => .ro) Q0k Tryz.func30 (by kernel_rfl) ?_; simp only [Q0f, Tryz.f30, zw])
    (have zz := Bx.mk (j7 ui0 ui3 ui4 ui9 ui22 ui23 (j9 ui24 ui25 ui26 ui37 ui38 ui39 ui40 ui41 (j9 ui42 ui55 ui56 ui57 ui58 ui59 ui67 ui68 (j9 ui70 ui71 ui75 Q0q Q0r Q0t Q0u Q0v WLg)))); (repeat' (first | exact zc | (with_reducible first | apply And.intro | apply Q0a | apply Q0b | refine Q0c (by decide +kernel) ?_ | intro _) | refine zaY zz.out ?_ | ((first | ((with_reducible refine zS (hX _ _ _ _ (by exact zO) (by omega) (by omega) (by omega) (by omega) (by exact zN)) ?_); rintro _ S ⟨rfl, τ1, ⟨f1, n1⟩, rfl⟩; have n1s := n1.symm) | ((with_reducible refine zS (Q0n _ _ _ _ _ _ _ _ (by repeat (first | exact Q0j | refine Q0g ?_ (by simp))) (by exact zO) (by exact zN)) ?_); rintro _ S ⟨rfl, τ1, ⟨f1, n1⟩, rfl⟩; have n1s := n1.symm) | ((with_reducible refine zS (Q2n _ _ _ _ _ _ _ (by exact zO) (by exact zN)) ?_); rintro _ S ⟨rfl, τ1, ⟨f1, n1⟩, rfl⟩; have n1s := n1.symm) | (refine Q0d (by exact zK) ?_) | (refine Q0e (by exact zK) ?_)); (try refine zsY zz.out ?_)) | refine zo ?_ | omega | refine ztY zz.out ?_ | fail)); try (all_goals clear zz))
    all_goals exact ⟨_, .refl _, τ1, ⟨f1, n1⟩, Q2g rfl rfl rfl⟩
  · have hX := w_update ω x (p6 hk) hL.s.set p3 hL.s.wh.2 B
    have e1 : stT x = Q6u x := by unfold stT; rw [if_neg (by omega), if_neg (by omega), if_neg (by omega), if_pos hk]
    have e2 : stD x = max (maxD (fun s => (toTr s.2).dp) x.sets) (expD x.wh) := by unfold stD; rw [if_pos hk]
    rw [e1] at h4 ⊢
    rw [e2] at h3 ⊢
    clear hM p1 p2 p3 p4 p5 p6 p7 hf hL e1 e2
    generalize Q6u x = TT at *
    generalize max (maxD (fun s : Se => (toTr s.2).dp) x.sets) (expD x.wh) = D at *
    unfold stmA at hX ⊢
    rw [hk] at hX ⊢
    (refine vfun (fun _ => .ro) Q0k Tryz.func30 (by kernel_rfl) ?_; simp only [Q0f, Tryz.f30, zw])
    (have zz := Bx.mk (j7 ui0 ui3 ui4 ui9 ui22 ui23 (j9 ui24 ui25 ui26 ui37 ui38 ui39 ui40 ui41 (j9 ui42 ui55 ui56 ui57 ui58 ui59 ui67 ui68 (j9 ui70 ui71 ui75 Q0q Q0r Q0t Q0u Q0v WLg)))); (repeat' (first | exact zc | (with_reducible first | apply And.intro | apply Q0a | apply Q0b | refine Q0c (by decide +kernel) ?_ | intro _) | refine zaY zz.out ?_ | ((first | ((with_reducible refine zS (hX _ _ _ _ (by exact zO) (by omega) (by omega) (by omega) (by omega) (by exact zN)) ?_); rintro _ S ⟨rfl, τ1, ⟨f1, n1⟩, rfl⟩; have n1s := n1.symm) | ((with_reducible refine zS (Q0n _ _ _ _ _ _ _ _ (by repeat (first | exact Q0j | refine Q0g ?_ (by simp))) (by exact zO) (by exact zN)) ?_); rintro _ S ⟨rfl, τ1, ⟨f1, n1⟩, rfl⟩; have n1s := n1.symm) | ((with_reducible refine zS (Q2n _ _ _ _ _ _ _ (by exact zO) (by exact zN)) ?_); rintro _ S ⟨rfl, τ1, ⟨f1, n1⟩, rfl⟩; have n1s := n1.symm) | (refine Q0d (by exact zK) ?_) | (refine Q0e (by exact zK) ?_)); (try refine zsY zz.out ?_)) | refine zo ?_ | omega | refine ztY zz.out ?_ | fail)); try (all_goals clear zz))
    all_goals exact ⟨_, .refl _, τ1, ⟨f1, n1⟩, Q2g rfl rfl rfl⟩
  · have e1 : stT x = wds [[68, 69, 76, 69, 84, 69], [70, 82, 79, 77]] ++ (nT x.t :: expT [[87, 72, 69, 82, 69]] x.wh) := by unfold stT; rw [if_neg (by omega), if_neg (by omega), if_neg (by omega), if_neg (by omega), if_pos hk]; rfl
    have e2 : stD x = expD x.wh := by unfold stD; rw [if_neg (by omega), if_pos hk]
    rw [e1] at h4 ⊢
    rw [e2] at h3 ⊢
    simp only [zx, zy, zA, Q1k] at h4
    clear p1 p2 p3 p4 p5 p6 p7 hf hL e1 e2
    generalize expT [[87, 72, 69, 82, 69]] x.wh = T2 at *
    generalize expD x.wh = D2 at *
    unfold stmA
    rw [hk]
    (refine vfun (fun _ => .ro) Q0k Tryz.func30 (by kernel_rfl) ?_; simp only [Q0f, Tryz.f30, zw])
    (have zz := Bx.mk (j7 ui0 ui3 ui4 ui9 ui22 ui23 (j9 ui24 ui25 ui26 ui37 ui38 ui39 ui40 ui41 (j9 ui42 ui55 ui56 ui57 ui58 ui59 ui67 ui68 (j9 ui70 ui71 ui75 Q0q Q0r Q0t Q0u Q0v WLg)))); (repeat' (first | exact zc | (with_reducible first | apply And.intro | apply Q0a | apply Q0b | refine Q0c (by decide +kernel) ?_ | intro _) | ((with_reducible first | refine .dms (fun x => False) [(0, false), (1, false), (2, false), (3, true), (4, false), (5, true)] (by decide) (by decide +kernel) ?_ | refine .dm (fun x => False) [(0, false), (1, false), (2, false), (3, true), (4, false), (5, true)] (by decide) (by decide +kernel) ?_); (refine zsR zz.out ?_)) | ((with_reducible first | refine .dms (fun x => False) [(0, false), (1, false), (2, false), (3, true), (4, false), (5, true)] (by decide) (by decide +kernel) ?_ | refine .dm (fun x => False) [(0, false), (1, false), (2, false), (3, true), (4, false), (5, true)] (by decide) (by decide +kernel) ?_); (refine zsR zz.out ?_)) | refine zaR zz.out ?_ | refine zkN zz.out ?_ | ((first | (refine Q0l (by intro β h; first | (rcases h with h | h <;> subst h <;> (simp (disch := first | assumption | (apply zP; assumption; assumption) | (apply zQ; assumption; assumption; (intro e; cases e; done)) | omega) only [zn, zp, zq, zr, zv])) | (subst h; (simp (disch := first | assumption | (apply zP; assumption; assumption) | (apply zQ; assumption; assumption; (intro e; cases e; done)) | omega) only [zn, zp, zq, zr, zv]))) ?_) | ((with_reducible refine zS (hM _ _ _ _ (by exact zO) (by omega) (by omega) (by omega) (by omega) (by exact zN)) ?_); rintro _ S ⟨rfl, τ1, ⟨f1, n1⟩, rfl⟩; have n1s := n1.symm) | ((with_reducible refine zS (Q0n _ _ _ _ _ _ _ _ (by repeat (first | exact Q0j | refine Q0g ?_ (by simp))) (by exact zO) (by exact zN)) ?_); rintro _ S ⟨rfl, τ1, ⟨f1, n1⟩, rfl⟩; have n1s := n1.symm) | ((with_reducible refine zS (Q2n _ _ _ _ _ _ _ (by exact zO) (by exact zN)) ?_); rintro _ S ⟨rfl, τ1, ⟨f1, n1⟩, rfl⟩; have n1s := n1.symm) | (refine Q0d (by exact zK) ?_) | (refine Q0e (by exact zK) ?_)); (try refine zsR zz.out ?_)) | refine zmR zz.out ?_ | refine zo ?_ | omega | refine ztR zz.out ?_ | fail)); try (all_goals clear zz))
    all_goals exact ⟨_, .refl _, τ1, ⟨f1, n1⟩, Q2g (by simp [wds]) rfl (by omega)⟩
  · obtain ⟨s1, s2, s3, s4, s5⟩ := Q7q (p7 hk)
    have hX := w_choose ω x s1 (fun y hy => (hL.s.item y hy).2) s2 hL.s.on.2 p3 hL.s.wh.2 (Q7o s3) hL.s.gr.2 (Q7o s4) hL.s.or.2 hL.s.lim s5 B
    have e1 : stT x = Q5u x := by unfold stT; rw [if_neg (by omega), if_neg (by omega), if_neg (by omega), if_neg (by omega), if_neg (by omega), if_pos hk]
    have e2 : stD x = (max (maxD (fun y => expD y.2) x.items) (max (if x.join = [] then 0 else expD x.on) (max (expD x.wh) (max (expD x.gr) (expD x.or))))) := by unfold stD; rw [if_neg (by omega), if_neg (by omega), if_pos hk]
    rw [e1] at h4 ⊢
    rw [e2] at h3 ⊢
    clear hM p1 p2 p3 p4 p5 p6 p7 hf hL e1 e2 s1 s2 s3 s4 s5
    generalize Q5u x = TT at *
    generalize (max (maxD (fun y : It => expD y.2) x.items) (max (if x.join = [] then 0 else expD x.on) (max (expD x.wh) (max (expD x.gr) (expD x.or))))) = D at *
    unfold stmA at hX ⊢
    rw [hk] at hX ⊢
    (refine vfun (fun _ => .ro) Q0k Tryz.func30 (by kernel_rfl) ?_; simp only [Q0f, Tryz.f30, zw])
    (have zz := Bx.mk (j7 ui0 ui3 ui4 ui9 ui22 ui23 (j9 ui24 ui25 ui26 ui37 ui38 ui39 ui40 ui41 (j9 ui42 ui55 ui56 ui57 ui58 ui59 ui67 ui68 (j9 ui70 ui71 ui75 Q0q Q0r Q0t Q0u Q0v WLg)))); (repeat' (first | exact zc | (with_reducible first | apply And.intro | apply Q0a | apply Q0b | refine Q0c (by decide +kernel) ?_ | intro _) | refine zaY zz.out ?_ | ((first | ((with_reducible refine zS (hX _ _ _ _ (by exact zO) (by omega) (by omega) (by omega) (by omega) (by exact zN)) ?_); rintro _ S ⟨rfl, τ1, ⟨f1, n1⟩, rfl⟩; have n1s := n1.symm) | ((with_reducible refine zS (Q0n _ _ _ _ _ _ _ _ (by repeat (first | exact Q0j | refine Q0g ?_ (by simp))) (by exact zO) (by exact zN)) ?_); rintro _ S ⟨rfl, τ1, ⟨f1, n1⟩, rfl⟩; have n1s := n1.symm) | ((with_reducible refine zS (Q2n _ _ _ _ _ _ _ (by exact zO) (by exact zN)) ?_); rintro _ S ⟨rfl, τ1, ⟨f1, n1⟩, rfl⟩; have n1s := n1.symm) | (refine Q0d (by exact zK) ?_) | (refine Q0e (by exact zK) ?_)); (try refine zsY zz.out ?_)) | refine zo ?_ | omega | refine ztY zz.out ?_ | fail)); try (all_goals clear zz))
    all_goals exact ⟨_, .refl _, τ1, ⟨f1, n1⟩, Q2g rfl rfl rfl⟩
end Go.Proofs.YtjdapkelojdefaaGreatDoor
namespace Go.Print
open Go.V Go.Lex Go.Parse Go.Proofs.YtjdapkelojdefaaGreatDoor
def AG (l : List Tk) : Prop := ∀ x ∈ l, GoodT x
theorem Q5f : AG [] := fun x h => by cases h
theorem Q1p {x : Tk} {l : List Tk} (h : GoodT x) (hl : AG l) : AG (x :: l) := fun y hy => by
  rcases List.mem_cons.1 hy with rfl | hy
  · exact h
  · exact hl y hy
theorem Q3n {l m : List Tk} (h : AG l) (hm : AG m) : AG (l ++ m) := fun y hy => (List.mem_append.1 hy).elim (h y) (hm y)
theorem ag_sep {β : Type} {one : β → List Tk} : ∀ {l : List β}, (∀ y ∈ l, AG (one y)) → AG (sepT one l)
  | [], _ => Q5f
  | [x], h => h x (by simp)
  | x :: y :: r, h => Q3n (h x (by simp)) (Q1p (.inr (.inr (.inr (.inr ⟨rfl, by decide, rfl⟩)))) (ag_sep (l := y :: r) fun z hz => h z (List.mem_cons_of_mem _ hz)))
theorem ag_flat {β : Type} {one : β → List Tk} {l : List β} (h : ∀ y ∈ l, AG (one y)) : AG (l.map one).flatten := fun x hx => by
  obtain ⟨m, hm, hx⟩ := List.mem_flatten.1 hx
  obtain ⟨y, hy, rfl⟩ := List.mem_map.1 hm
  exact h y hy x hx
theorem wd2 (w : By) : (wd w).2 = (w, 0, 0) := by unfold wd; split <;> rfl
theorem Q3a {w : By} (h : ((Q8x w && decide ((wd w).1 = 2)) || (signs.contains w && decide ((wd w).1 = 5))) = true) : GoodT (wd w) := by
  simp only [Bool.or_eq_true, Bool.and_eq_true, decide_eq_true_eq] at h
  rcases h with ⟨a, b⟩ | ⟨a, b⟩
  · exact .inr (.inl ⟨b, by rw [wd2]; exact a, by rw [wd2]⟩)
  · exact .inr (.inr (.inr (.inr ⟨b, by rw [wd2]; simpa using a, by rw [wd2]⟩)))
theorem Q5g {ws : List By} (h : ws.all (fun w => (Q8x w && decide ((wd w).1 = 2)) || (signs.contains w && decide ((wd w).1 = 5))) = true) : AG (wds ws) := fun x hx => by
  obtain ⟨w, hw, rfl⟩ := List.mem_map.1 hx
  exact Q3a (List.all_eq_true.1 h w hw)
theorem ag_tr {e : Ex} (hr : rt e = true) (hL : Lim e) : AG (toTr e).tk := by
  obtain ⟨q1, q2⟩ := Q7j e hr
  exact Q4m (toTr e) q2 (Q9k (toTr e) (by rw [q1]; exact hL))
theorem X3c {ws : List By} {l : List Ex} (hw : AG (wds ws)) (h : oneB l = true) (hL : ∀ e ∈ l, Lim e) : AG (expT ws l) := by
  cases l with
  | nil => exact Q5f
  | cons e r =>
    have h2 : rt e = true := by
      unfold oneB at h
      rw [Bool.and_eq_true, Q3b, Bool.and_eq_true] at h
      exact h.2.1
    exact Q3n hw (ag_tr h2 (hL e (by simp)))
theorem ag_col {c : Co} (h : Q7m c = true) : AG (colT c) := by
  unfold Q7m at h
  rw [Bool.and_eq_true] at h
  unfold colT
  refine Q1p (gN h.1) (Q1p ?_ (Q3n ?_ (Q3n ?_ (Q1p (Q3a (by decide +kernel)) Q5f))))
  · split <;> exact Q3a (by decide +kernel)
  · split
    · exact Q5g (by decide +kernel)
    · exact Q5f
  · split
    · exact Q5g (by decide +kernel)
    · exact Q5f
theorem ag_row {r : List Vl} (h : rowB r = true) (hv : ∀ v ∈ r, inR v.2.1) : AG (rowT r) := by
  unfold rowB at h
  rw [Bool.and_eq_true] at h
  have h1 := List.all_eq_true.1 h.1
  exact Q1p (Q3a (by decide +kernel)) (Q3n (ag_sep fun v hv' => good_lit (h1 v hv') (hv v hv')) (Q1p (Q3a (by decide +kernel)) Q5f))
theorem ag_set {s : Se} (h : Q6c s = true) (hL : Lim s.2) : AG (setT s) := by
  unfold Q6c at h
  rw [Bool.and_eq_true] at h
  exact Q1p (gN h.1) (Q1p (Q3a (by decide +kernel)) (ag_tr h.2 hL))
theorem ag_item {x : It} (h : Q3c x = true) (hL : ∀ e ∈ x.2, Lim e) : AG (Q2t x) := by
  have ho : oneB x.2 = true := by
    unfold Q3c at h
    simp only [Bool.and_eq_true, decide_eq_true_eq] at h
    unfold oneB
    simp only [Bool.and_eq_true, decide_eq_true_eq]
    refine ⟨?_, h.2.2⟩
    rw [h.2.1]
    split <;> omega
  unfold Q2t
  split
  · exact Q5g (by decide +kernel)
  · split
    · exact Q5g (by decide +kernel)
    · split
      · exact X3c Q5f ho hL
      · refine Q3n (X3c ?_ ho hL) (Q1p (Q3a (by decide +kernel)) Q5f)
        repeat' split
        all_goals exact Q5g (by decide +kernel)
theorem st_good {x : Stm} (hf : fitB x = true) (hL : LimX x) : AG (stT x) := by
  obtain ⟨p1, p2, p3, p4, p5, p6, p7⟩ := Q7p hf
  have hw : AG (expT [[87, 72, 69, 82, 69]] x.wh) := X3c (Q5g (by decide +kernel)) p3 hL.s.wh.2
  have hk : x.k = 1 ∨ x.k = 2 ∨ x.k = 3 ∨ x.k = 4 ∨ x.k = 5 ∨ x.k = 6 := by omega
  unfold stT
  rcases hk with hk | hk | hk | hk | hk | hk <;> rw [hk] <;> simp only [Int.reduceEq, if_true, if_false]
  · obtain ⟨a, b⟩ := p4 hk
    unfold Q9n at a
    rw [Bool.and_eq_true] at a
    exact Q3n (Q5g (by decide +kernel)) (Q1p (gN p2) (Q1p (Q3a (by decide +kernel)) (Q3n (ag_flat fun c hc => ag_col (List.all_eq_true.1 a.1 c hc)) (Q3n (Q5g (by decide +kernel)) (Q1p (gN b) (Q5g (by decide +kernel)))))))
  · exact Q3n (Q5g (by decide +kernel)) (Q1p (gN p2) Q5f)
  · have a := p5 hk
    unfold Q9o at a
    rw [Bool.and_eq_true] at a
    exact Q3n (Q5g (by decide +kernel)) (Q1p (gN p2) (Q1p (Q3a (by decide +kernel)) (ag_sep fun r hr => ag_row (List.all_eq_true.1 a.1 r hr) (hL.v r hr))))
  · have a := p6 hk
    unfold Q8z at a
    rw [Bool.and_eq_true] at a
    exact Q1p (Q3a (by decide +kernel)) (Q1p (gN p2) (Q1p (Q3a (by decide +kernel)) (Q3n (ag_sep fun s hs => ag_set (List.all_eq_true.1 a.1 s hs) (hL.s.set s hs)) hw)))
  · exact Q3n (Q5g (by decide +kernel)) (Q1p (gN p2) hw)
  · obtain ⟨s1, s2, s3, s4, s5⟩ := Q7q (p7 hk)
    have hj : joinB x = true := by have := p7 hk; unfold selB at this; exact (Bool.and_eq_true _ _ ▸ this).1
    unfold Q5c at s1
    rw [Bool.and_eq_true] at s1
    refine Q1p (Q3a (by decide +kernel)) (Q3n (ag_sep fun y hy => ag_item (List.all_eq_true.1 s1.1 y hy) (hL.s.item y hy).2) (Q1p (Q3a (by decide +kernel)) (Q1p (gN p2) (Q3n ?_ (Q3n hw (Q3n ?_ (Q3n ?_ (Q3n ?_ ?_))))))))
    · unfold joinT
      split
      · exact Q5f
      · rename_i hne
        unfold joinB at hj
        simp only [Bool.or_eq_true, Bool.and_eq_true, decide_eq_true_eq] at hj
        have hn : isNm x.join = true := hj.elim (fun q => absurd q.1 hne) (fun q => q.1)
        exact Q1p (Q3a (by decide +kernel)) (Q1p (gN hn) (X3c (Q5g (by decide +kernel)) s2 hL.s.on.2))
    · exact X3c (Q5g (by decide +kernel)) (Q7o s3) hL.s.gr.2
    · exact X3c (Q5g (by decide +kernel)) (Q7o s4) hL.s.or.2
    · split
      · exact Q1p (Q3a (by decide +kernel)) Q5f
      · exact Q5f
    · split
      · have := hL.s.lim
        unfold inR at this
        exact Q1p (Q3a (by decide +kernel)) (Q1p (gI (by omega)) Q5f)
      · exact Q5f
theorem sc_good {l : List Stm} (h : ∀ x ∈ l, AG (stT x)) : AG (scT l) := by
  cases l with
  | nil => exact Q5f
  | cons x r => exact Q3n (h x (by simp)) (ag_flat fun y hy => Q1p (Q3a (by decide +kernel)) (h y (List.mem_cons_of_mem _ hy)))
theorem X4d {l : List Stm} {k : Nat} (h : k < l.length) : scT (l.take (k + 1)) = scT (l.take k) ++ ((if k = 0 then [] else [wd [59]]) ++ stT l[k]) := by
  cases l with
  | nil => exact absurd h (by simp)
  | cons x r =>
    cases k with
    | zero => simp [scT]
    | succ k =>
      have hk : k < r.length := by simpa using h
      have e1 : (x :: r).take (k + 1 + 1) = x :: r.take (k + 1) := rfl
      have e2 : (x :: r).take (k + 1) = x :: r.take k := rfl
      have e3 : (x :: r)[k + 1] = r[k] := rfl
      rw [e1, e2, e3, if_neg (by omega)]
      show stT x ++ ((r.take (k + 1)).map _).flatten = (stT x ++ ((r.take k).map _).flatten) ++ _
      rw [List.take_succ_eq_append_getElem hk, List.map_append, List.flatten_append]
      simp
theorem X0o {l : List Stm} {N : Nat} : ∀ k, (∀ x ∈ l.take k, (stT x).length ≤ N) → (scT (l.take k)).length ≤ (N + 1) * k
  | 0, _ => by simp [scT]
  | k + 1, h => by
    rcases Nat.lt_or_ge k l.length with hk | hk
    · have ih := X0o (l := l) k (fun x hx => h x (by rw [List.take_succ_eq_append_getElem hk]; exact List.mem_append_left _ hx))
      have h2 := h l[k] (by rw [List.take_succ_eq_append_getElem hk]; exact List.mem_append_right _ (List.mem_singleton.2 rfl))
      rw [X4d hk, zx, zx, Nat.mul_succ]
      have : (if k = 0 then ([] : List Tk) else [wd [59]]).length ≤ 1 := by split <;> simp
      omega
    · have e : l.take (k + 1) = l.take k := by rw [List.take_of_length_le hk, List.take_of_length_le (by omega)]
      rw [e] at h ⊢
      have ih := X0o (l := l) k h
      rw [Nat.mul_succ]
      omega
theorem scD_le {l : List Stm} {N : Nat} (h : ∀ x ∈ l, stD x ≤ N) : scD l ≤ N := by
  unfold scD
  induction l with
  | nil => exact Nat.zero_le _
  | cons x r ih =>
    have h1 := h x (by simp)
    have h2 := ih (fun y hy => h y (List.mem_cons_of_mem _ hy))
    show max (stD x) (maxD stD r) ≤ N
    omega
theorem bare_parts {x : Stm} (h : fitB x = true) : (x.k = 1 ∨ (x.cols = [] ∧ x.pk = [])) ∧ (x.k = 3 ∨ x.rows = []) ∧ (x.k = 4 ∨ x.sets = []) ∧ (x.k = 6 ∨ (x.items = [] ∧ x.on = [] ∧ x.gr = [] ∧ x.or = [] ∧ x.join = [] ∧ x.desc = false ∧ x.lim = -1)) ∧ (4 ≤ x.k ∨ x.wh = []) := by
  unfold fitB bareB X2f X2g at h
  simp only [Bool.and_eq_true, Bool.or_eq_true, decide_eq_true_eq, Bool.not_eq_true', Bool.or_eq_false_iff, decide_eq_false_iff_not, List.length_eq_zero_iff] at h
  obtain ⟨⟨_, _, h1, h2, h3, h4, h5⟩, _⟩ := h
  refine ⟨h1.imp id fun q => ⟨List.length_eq_zero_iff.1 (by omega), Classical.byContradiction fun r => q.2 r⟩, h2, h3, h4.imp id fun q => ?_, h5⟩
  obtain ⟨a, b, c, d⟩ := q
  exact ⟨List.length_eq_zero_iff.1 (by omega), List.length_eq_zero_iff.1 (by omega), List.length_eq_zero_iff.1 (by omega), List.length_eq_zero_iff.1 (by omega), Classical.byContradiction fun r => b r, c, Classical.byContradiction fun r => d r⟩
theorem one_len {l : List Ex} (h : oneB l = true) : l.length ≤ 1 ∧ ∀ e ∈ l, rt e = true := by
  unfold oneB at h
  simp only [Bool.and_eq_true, decide_eq_true_eq] at h
  refine ⟨h.1, fun e he => ?_⟩
  match l, h.1, he, h.2 with
  | [x], _, he, h2 =>
    rw [List.mem_singleton.1 he]
    rw [Q3b, Bool.and_eq_true] at h2; exact h2.1
end Go.Print
