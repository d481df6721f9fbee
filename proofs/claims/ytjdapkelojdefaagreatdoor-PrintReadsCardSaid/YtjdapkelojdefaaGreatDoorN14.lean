/- Part 14 of the proof: W31, W3, W4, W5, W6, W7, W13, W32, W33. -/
import Derived.Test.YtjdapkelojdefaaGreatDoorN7
import Derived.Test.YtjdapkelojdefaaGreatDoorN13
import Derived.Test.YtjdapkelojdefaaGreatDoorN8

set_option linter.all false
set_option maxRecDepth 100000
set_option maxHeartbeats 2000000
open Go.V.Sg renaming set_same → zm, set_ne → zn, set_ne' → zp, del_ne → zq, del_ne' → zr
open Option renaming getD_some → zv
open List renaming length_append → zw, length_cons → zx, length_nil → zy, length_map → zA
open Go.Cert renaming ne_of2 → zM, ne_ob → zP
open Go.V.VCalls renaming mono → zR
namespace Go.Proofs.YtjdapkelojdefaaGreatDoor
open Go Go.V Go.Lex Go.Parse Go.Print
theorem Q9x (x : Stm) (h : LimS x) (hsm : x.items.length + x.on.length + x.gr.length + x.or.length ≤ 9223372036854775807) (σ : Sg) : VCalls Tryz.prog 28 [.agg (stmA x)] σ (fun y σ' => y = .b (fitB x) ∧ σ' = σ) := by
  have hS := Q3q x h
  obtain ⟨k, t, cols, pk, rows, sets, items, join, on, wh, gr, or, desc, lim⟩ := x
  obtain ⟨h1, h2, h3, h4, h5, h6, h7, h8, h9, h10, h11, h12, h13⟩ := h
  dsimp only at h1 h2 h3 h4 h5 h6 h7 h8 h9 h10 h11 h12 h13 hsm
  unfold fitB X8j
  generalize hcr : X0o _ = cr
  generalize hch : X1s _ = ch
  unfold X0o at hcr
  unfold X1s at hch
  dsimp only at hcr hch
  have iC := Q3p cols h3
  have iR := Q9w rows h4 h5
  have iS := Q9v sets h6 h7
  have iW := Q8k wh h11
  have iT := Q2s t
  have iP := Q2s pk
  have n1 := Q2l on
  have n2 := Q2l or
  have n3 := Q2l gr
  have n4 := Q2l wh
  have n5 : (cols.map coA).length = cols.length := zA ..
  have n6 : (rows.map rowA).length = rows.length := zA ..
  have n7 : (sets.map setA).length = sets.length := zA ..
  have n8 : (items.map Q3x).length = items.length := zA ..
  clear h5 h7 h9 h10 h11 h12 h13
  generalize selB _ = bS at *
  dsimp only
  unfold stmA at *
  dsimp only at *
  generalize X5u cols = bC at *
  generalize X5v rows = bR at *
  generalize X5w sets = bT at *
  generalize oneB wh = bW at *
  generalize isNm t = bt at *
  generalize isNm pk = bp at *
  generalize exsA on = L1 at *
  generalize exsA or = L2 at *
  generalize exsA gr = L3 at *
  generalize exsA wh = L4 at *
  generalize cols.map coA = L5 at *
  generalize rows.map rowA = L6 at *
  generalize sets.map setA = L7 at *
  generalize items.map Q3x = L8 at *
  generalize on.length = m1 at *
  generalize or.length = m2 at *
  generalize gr.length = m3 at *
  generalize wh.length = m4 at *
  generalize cols.length = m5 at *
  generalize rows.length = m6 at *
  generalize sets.length = m7 at *
  generalize items.length = m8 at *
  obtain ⟨C, hC⟩ : ∃ C : List AV, C = [.i k, .s (bs t), .sl .any L5, .s (bs pk), .sl .any L6, .sl .any L7, .sl .any L8, .s (bs join), .sl .any L1, .sl .any L4, .sl .any L3, .sl .any L2, .b desc, .i lim] := ⟨_, rfl⟩
  (refine vfun (fun _ => .ro) Q0h Tryz.func28 (by kernel_rfl) ?_; simp only [Q0f, Tryz.f28, zv])
  refine VW.cut (α := Unit) (fun _ => True) (fun _ => [(1, .ro C), (2, .b false)]) (fun _ => σ) ?_ (fun _ _ => ?_)
  · subst hC
    (have zz := Bx.mk (j6 ui0 ui3 ui4 ui9 ui22 (j9 ui23 ui24 ui25 ui26 ui37 ui38 ui39 ui40 (j9 ui41 ui42 ui67 ui68 ui70 ui71 Q1p Q2c Q2d))); (repeat' (first | with_reducible rfl | exact trivial | (with_reducible first | apply And.intro | apply Q0a | apply Q0b | refine Q0c (by decide +kernel) ?_ | intro _) | refine zaY zz.out ?_ | ((first | (with_reducible refine uc (Q2s _ _) ?_) | (with_reducible refine uc (Q8k _ (by assumption) _) ?_) | (with_reducible refine uc (Q3p _ (by assumption) _) ?_) | (with_reducible refine uc (Q9w _ (by assumption) (by assumption) _) ?_) | (with_reducible refine uc (Q9v _ (by assumption) (by assumption) _) ?_) | (with_reducible refine uc (Q3q _ (by assumption) _) ?_) | (refine Q0d (by exact Go.V.zK) ?_) | (refine Q0e (by exact Go.V.zK) ?_)); (try refine zsY zz.out ?_)) | refine zo ?_ | omega | refine ztY zz.out ?_ | fail)); try (all_goals clear zz))
    all_goals (refine ⟨(), trivial, .refl _, Q0x ?_⟩; (have zz := Bx.mk (j6 ui0 ui3 ui4 ui9 ui22 (j9 ui23 ui24 ui25 ui26 ui37 ui38 ui39 ui40 (j9 ui41 ui42 ui67 ui68 ui70 ui71 Q1p Q2c Q2d))); (repeat' (first | with_reducible rfl | exact trivial | (with_reducible first | apply And.intro | apply Q0a | apply Q0b | refine Q0c (by decide +kernel) ?_ | intro _) | refine zaY zz.out ?_ | ((first | (with_reducible refine uc (Q2s _ _) ?_) | (with_reducible refine uc (Q8k _ (by assumption) _) ?_) | (with_reducible refine uc (Q3p _ (by assumption) _) ?_) | (with_reducible refine uc (Q9w _ (by assumption) (by assumption) _) ?_) | (with_reducible refine uc (Q9v _ (by assumption) (by assumption) _) ?_) | (with_reducible refine uc (Q3q _ (by assumption) _) ?_) | (refine Q0d (by exact Go.V.zK) ?_) | (refine Q0e (by exact Go.V.zK) ?_)); (try refine zsY zz.out ?_)) | refine zo ?_ | omega | refine ztY zz.out ?_ | fail)); try (all_goals clear zz)))
  refine VW.cut (α := Unit) (fun _ => True) (fun _ => [(1, .ro C), (2, .b false), (3, .i k)]) (fun _ => σ) ?_ (fun _ _ => ?_)
  · subst hC
    (have zz := Bx.mk (j6 ui0 ui3 ui4 ui9 ui22 (j9 ui23 ui24 ui25 ui26 ui37 ui38 ui39 ui40 (j9 ui41 ui42 ui67 ui68 ui70 ui71 Q1p Q2c Q2d))); (repeat' (first | with_reducible rfl | exact trivial | (with_reducible first | apply And.intro | apply Q0a | apply Q0b | refine Q0c (by decide +kernel) ?_ | intro _) | refine zaY zz.out ?_ | ((first | (with_reducible refine uc (Q2s _ _) ?_) | (with_reducible refine uc (Q8k _ (by assumption) _) ?_) | (with_reducible refine uc (Q3p _ (by assumption) _) ?_) | (with_reducible refine uc (Q9w _ (by assumption) (by assumption) _) ?_) | (with_reducible refine uc (Q9v _ (by assumption) (by assumption) _) ?_) | (with_reducible refine uc (Q3q _ (by assumption) _) ?_) | (refine Q0d (by exact Go.V.zK) ?_) | (refine Q0e (by exact Go.V.zK) ?_)); (try refine zsY zz.out ?_)) | refine zo ?_ | omega | refine ztY zz.out ?_ | fail)); try (all_goals clear zz))
    all_goals (refine ⟨(), trivial, .refl _, Q0x ?_⟩; (have zz := Bx.mk (j6 ui0 ui3 ui4 ui9 ui22 (j9 ui23 ui24 ui25 ui26 ui37 ui38 ui39 ui40 (j9 ui41 ui42 ui67 ui68 ui70 ui71 Q1p Q2c Q2d))); (repeat' (first | with_reducible rfl | exact trivial | (with_reducible first | apply And.intro | apply Q0a | apply Q0b | refine Q0c (by decide +kernel) ?_ | intro _) | refine zaY zz.out ?_ | ((first | (with_reducible refine uc (Q2s _ _) ?_) | (with_reducible refine uc (Q8k _ (by assumption) _) ?_) | (with_reducible refine uc (Q3p _ (by assumption) _) ?_) | (with_reducible refine uc (Q9w _ (by assumption) (by assumption) _) ?_) | (with_reducible refine uc (Q9v _ (by assumption) (by assumption) _) ?_) | (with_reducible refine uc (Q3q _ (by assumption) _) ?_) | (refine Q0d (by exact Go.V.zK) ?_) | (refine Q0e (by exact Go.V.zK) ?_)); (try refine zsY zz.out ?_)) | refine zo ?_ | omega | refine ztY zz.out ?_ | fail)); try (all_goals clear zz)))
  refine VW.cut (α := Unit) (fun _ => True) (fun _ => [(1, .ro C), (2, .b false), (3, .i k), (4, .b cr)]) (fun _ => σ) ?_ (fun _ _ => ?_)
  · subst hC
    (have zz := Bx.mk (j7 ui0 ui3 ui4 ui9 ui22 ui23 (j9 ui24 ui25 ui26 ui37 ui38 ui39 ui40 ui41 (j9 ui42 ui67 ui68 ui70 ui71 Q1p Q2c Q2d n5))); (repeat' (first | with_reducible rfl | exact trivial | (with_reducible first | apply And.intro | apply Q0a | apply Q0b | refine Q0c (by decide +kernel) ?_ | intro _) | refine zaY zz.out ?_ | ((first | (with_reducible refine uc (Q2s _ _) ?_) | (with_reducible refine uc (Q8k _ (by assumption) _) ?_) | (with_reducible refine uc (Q3p _ (by assumption) _) ?_) | (with_reducible refine uc (Q9w _ (by assumption) (by assumption) _) ?_) | (with_reducible refine uc (Q9v _ (by assumption) (by assumption) _) ?_) | (with_reducible refine uc (Q3q _ (by assumption) _) ?_) | (refine Q0d (by exact Go.V.zK) ?_) | (refine Q0e (by exact Go.V.zK) ?_)); (try refine zsY zz.out ?_)) | refine zo ?_ | omega | refine ztY zz.out ?_ | fail)); try (all_goals clear zz))
    all_goals (refine ⟨(), trivial, .refl _, Q0x ?_⟩; (have zz := Bx.mk (j6 ui0 ui3 ui4 ui9 ui22 (j9 ui23 ui24 ui25 ui26 ui37 ui38 ui39 ui40 (j9 ui41 ui42 ui67 ui68 ui70 ui71 Q1p Q2c Q2d))); (repeat' (first | with_reducible rfl | exact trivial | (with_reducible first | apply And.intro | apply Q0a | apply Q0b | refine Q0c (by decide +kernel) ?_ | intro _) | refine zaY zz.out ?_ | ((first | (with_reducible refine uc (Q2s _ _) ?_) | (with_reducible refine uc (Q8k _ (by assumption) _) ?_) | (with_reducible refine uc (Q3p _ (by assumption) _) ?_) | (with_reducible refine uc (Q9w _ (by assumption) (by assumption) _) ?_) | (with_reducible refine uc (Q9v _ (by assumption) (by assumption) _) ?_) | (with_reducible refine uc (Q3q _ (by assumption) _) ?_) | (refine Q0d (by exact Go.V.zK) ?_) | (refine Q0e (by exact Go.V.zK) ?_)); (try refine zsY zz.out ?_)) | refine zo ?_ | omega | refine ztY zz.out ?_ | fail)); try (all_goals clear zz)))
    all_goals (refine b_eq ?_; subst hcr; rcases Nat.eq_zero_or_pos m5 with hz | hz <;> first | (exfalso; omega) | (by_cases hp : pk = [] <;> simp [hz, hp]))
  refine VW.cut (α := Unit) (fun _ => True) (fun _ => [(1, .ro C), (2, .b false), (3, .i k), (4, .b cr), (5, .b ch)]) (fun _ => σ) ?_ (fun _ _ => ?_)
  · subst hC
    clear hS iC iR iS iW iT iP
    (have zz := Bx.mk (j2 ui0 (j9 ui3 ui4 ui9 ui22 ui23 ui24 ui25 ui26 (j9 ui37 ui38 ui39 ui40 ui41 ui42 ui67 ui68 (j9 ui70 ui71 Q1p Q2c Q2d @n1 @n2 n3 n8)))); (repeat' (first | with_reducible rfl | exact trivial | (with_reducible first | apply And.intro | apply Q0a | apply Q0b | refine Q0c (by decide +kernel) ?_ | intro _) | refine zaY zz.out ?_ | ((first | (with_reducible refine uc (Q2s _ _) ?_) | (with_reducible refine uc (Q8k _ (by assumption) _) ?_) | (with_reducible refine uc (Q3p _ (by assumption) _) ?_) | (with_reducible refine uc (Q9w _ (by assumption) (by assumption) _) ?_) | (with_reducible refine uc (Q9v _ (by assumption) (by assumption) _) ?_) | (with_reducible refine uc (Q3q _ (by assumption) _) ?_) | (refine Q0d (by exact Go.V.zK) ?_) | (refine Q0e (by exact Go.V.zK) ?_)); (try refine zsY zz.out ?_)) | refine zo ?_ | omega | refine ztY zz.out ?_ | fail)); try (all_goals clear zz))
    all_goals (refine ⟨(), trivial, .refl _, Q0x ?_⟩; (have zz := Bx.mk (j6 ui0 ui3 ui4 ui9 ui22 (j9 ui23 ui24 ui25 ui26 ui37 ui38 ui39 ui40 (j9 ui41 ui42 ui67 ui68 ui70 ui71 Q1p Q2c Q2d))); (repeat' (first | with_reducible rfl | exact trivial | (with_reducible first | apply And.intro | apply Q0a | apply Q0b | refine Q0c (by decide +kernel) ?_ | intro _) | refine zaY zz.out ?_ | ((first | (with_reducible refine uc (Q2s _ _) ?_) | (with_reducible refine uc (Q8k _ (by assumption) _) ?_) | (with_reducible refine uc (Q3p _ (by assumption) _) ?_) | (with_reducible refine uc (Q9w _ (by assumption) (by assumption) _) ?_) | (with_reducible refine uc (Q9v _ (by assumption) (by assumption) _) ?_) | (with_reducible refine uc (Q3q _ (by assumption) _) ?_) | (refine Q0d (by exact Go.V.zK) ?_) | (refine Q0e (by exact Go.V.zK) ?_)); (try refine zsY zz.out ?_)) | refine zo ?_ | omega | refine ztY zz.out ?_ | fail)); try (all_goals clear zz)))
    all_goals (refine b_eq ?_; subst hch; rcases Nat.eq_zero_or_pos (m8 + m1 + m3 + m2) with hz | hz <;> first | (exfalso; omega) | (clear n1 n2 n3 n4 n5 n6 n7 n8 h1 h2 h3 h4 h6 h8; by_cases hj : join = [] <;> by_cases hl : lim = -1 <;> cases desc <;> first | (simp_all; done) | (simp [hz, hj, hl]; done) | trace_state))
  clear hcr hch
  refine VW.cut (α := Unit) (fun _ => bt = true ∧ (1 ≤ k ∧ k ≤ 6) ∧ (k = 1 ∨ cr = false) ∧ (k = 3 ∨ m6 = 0) ∧ (k = 4 ∨ m7 = 0) ∧ (k = 6 ∨ ch = false) ∧ (4 ≤ k ∨ m4 = 0) ∧ bW = true) (fun _ => [(1, .ro C), (2, .b false), (3, .i k)]) (fun _ => σ) ?_ (fun _ q => ?_)
  · subst hC
    clear hS iC iR iS iP
    (have zz := Bx.mk (j9 ui0 ui3 ui4 ui9 ui22 ui23 ui24 ui25 (j9 ui26 ui37 ui38 ui39 ui40 ui41 ui42 ui67 (j9 ui68 ui70 ui71 Q1p Q2c Q2d n4 n6 n7))); (repeat' (first | with_reducible rfl | exact trivial | (with_reducible first | apply And.intro | apply Q0a | apply Q0b | refine Q0c (by decide +kernel) ?_ | intro _) | refine zaY zz.out ?_ | ((first | (with_reducible refine uc (iW _) ?_) | (with_reducible refine uc (iT _) ?_) | (with_reducible refine uc (Q2s _ _) ?_) | (with_reducible refine uc (Q8k _ (by assumption) _) ?_) | (with_reducible refine uc (Q3p _ (by assumption) _) ?_) | (with_reducible refine uc (Q9w _ (by assumption) (by assumption) _) ?_) | (with_reducible refine uc (Q9v _ (by assumption) (by assumption) _) ?_) | (with_reducible refine uc (Q3q _ (by assumption) _) ?_) | (refine Q0d (by exact Go.V.zK) ?_) | (refine Q0e (by exact Go.V.zK) ?_)); (try refine zsY zz.out ?_)) | refine zo ?_ | omega | refine ztY zz.out ?_ | fail)); try (all_goals clear zz))
    all_goals first | exact ⟨_, .refl _, b_eq (by simp_all <;> omega), rfl⟩ | (refine ⟨(), ?_, .refl _, Q0x ?_⟩; (simp_all <;> omega); (have zz := Bx.mk (j6 ui0 ui3 ui4 ui9 ui22 (j9 ui23 ui24 ui25 ui26 ui37 ui38 ui39 ui40 (j9 ui41 ui42 ui67 ui68 ui70 ui71 Q1p Q2c Q2d))); (repeat' (first | with_reducible rfl | exact trivial | (with_reducible first | apply And.intro | apply Q0a | apply Q0b | refine Q0c (by decide +kernel) ?_ | intro _) | refine zaY zz.out ?_ | ((first | (with_reducible refine uc (Q2s _ _) ?_) | (with_reducible refine uc (Q8k _ (by assumption) _) ?_) | (with_reducible refine uc (Q3p _ (by assumption) _) ?_) | (with_reducible refine uc (Q9w _ (by assumption) (by assumption) _) ?_) | (with_reducible refine uc (Q9v _ (by assumption) (by assumption) _) ?_) | (with_reducible refine uc (Q3q _ (by assumption) _) ?_) | (refine Q0d (by exact Go.V.zK) ?_) | (refine Q0e (by exact Go.V.zK) ?_)); (try refine zsY zz.out ?_)) | refine zo ?_ | omega | refine ztY zz.out ?_ | fail)); try (all_goals clear zz))) | trace_state
  obtain ⟨q1, q2, q3, q4, q5, q6, q7, q8⟩ := q
  have hE : (bt && (decide (1 ≤ k ∧ k ≤ 6) && ((decide (k = 1) || !cr) && ((decide (k = 3) || decide (m6 = 0)) && ((decide (k = 4) || decide (m7 = 0)) && ((decide (k = 6) || !ch) && (decide (4 ≤ k) || decide (m4 = 0)))))))) = true := by
    simp only [q1, Bool.and_eq_true, Bool.or_eq_true, decide_eq_true_eq, Bool.not_eq_true']
    exact ⟨trivial, q2, q3, q4, q5, q6, q7⟩
  rw [hE, q8, Bool.true_and, Bool.true_and]
  clear hE q1 q3 q4 q5 q6 q7 q8
  subst hC
  (have zz := Bx.mk (j6 ui0 ui3 ui4 ui9 ui22 (j9 ui23 ui24 ui25 ui26 ui37 ui38 ui39 ui40 (j9 ui41 ui42 ui67 ui68 ui70 ui71 Q1p Q2c Q2d))); (repeat' (first | with_reducible rfl | exact trivial | (with_reducible first | apply And.intro | apply Q0a | apply Q0b | refine Q0c (by decide +kernel) ?_ | intro _) | refine zaY zz.out ?_ | ((first | (with_reducible refine uc (hS _) ?_) | (with_reducible refine uc (iC _) ?_) | (with_reducible refine uc (iR _) ?_) | (with_reducible refine uc (iS _) ?_) | (with_reducible refine uc (iP _) ?_) | (with_reducible refine uc (Q2s _ _) ?_) | (with_reducible refine uc (Q8k _ (by assumption) _) ?_) | (with_reducible refine uc (Q3p _ (by assumption) _) ?_) | (with_reducible refine uc (Q9w _ (by assumption) (by assumption) _) ?_) | (with_reducible refine uc (Q9v _ (by assumption) (by assumption) _) ?_) | (with_reducible refine uc (Q3q _ (by assumption) _) ?_) | (refine Q0d (by exact Go.V.zK) ?_) | (refine Q0e (by exact Go.V.zK) ?_)); (try refine zsY zz.out ?_)) | refine zo ?_ | omega | refine ztY zz.out ?_ | fail)); try (all_goals clear zz))
  all_goals first | exact ⟨_, .refl _, b_eq (by simp_all <;> omega), rfl⟩ | trace_state
theorem lvl_le' (t : Tr) (h : t.wf) : 1 ≤ t.lvl ∧ t.lvl ≤ 7 := by
  cases t with
  | op k a b =>
    have : 1 ≤ lvK k ∧ lvK k ≤ 7 := by
      have := h.1
      unfold lvK
      repeat' split
      all_goals omega
    exact this
  | not e => cases e <;> exact ⟨Nat.le_of_ble_eq_true rfl, Nat.le_of_ble_eq_true rfl⟩
  | _ => exact ⟨Nat.le_of_ble_eq_true rfl, Nat.le_of_ble_eq_true rfl⟩
abbrev WS (B : Sg) (ω τ : Nat) (l : List Tk) (d m : Int) : Sg := WB 59 [.i d, .i m] B ω τ l
theorem Q3j {B : Sg} {ω τ : Nat} {l l' : List Tk} {d d' m m' : Int} (h1 : l = l') (h2 : d = d') (h3 : m = m') : WS B ω τ l d m = WS B ω τ l' d' m' := by rw [h1, h2, h3]
def Wr (f : FuncId) (E : List AV) (tk : List Tk) (dp : Nat) : Prop := ∀ (B : Sg) (ω τ : Nat) (l : List Tk) (d m : Int), okS B ω τ → 0 ≤ d → d ≤ m → m ≤ 2 ^ 41 → d + dp ≤ 2 ^ 40 → l.length + tk.length ≤ 2 ^ 36 →
  VCalls Tryz.prog f [.ref ω 0, .agg E] (WS B ω τ l d m) (fun x σ' => x = .tup [] ∧ ∃ τ', okS B ω τ' ∧ σ' = WS B ω τ' (l ++ tk) d (max m (d + dp)))
def Cx (t : Tr) : Prop := Wr 21 (exA t.ex) t.tk t.dp
theorem w_within (t : Tr) (hC : Cx t) : Wr 151 (exA t.ex) t.tk (1 + t.dp) := by
  intro B ω τ l d m h h0 h1 h2 h3 h4
  have hC : ∀ τ l d m, _ := fun τ l d m => hC B ω τ l d m
  (refine vfun (fun _ => .ro) Q0h Tryz.func151 (by kernel_rfl) ?_; simp only [Q0f, Tryz.f151, zv])
  (have zz := Bx.mk (j7 ui0 ui3 ui9 ui22 ui23 ui24 (j9 ui25 ui26 ui55 ui56 ui57 ui58 ui59 Q1k (j9 Q0v @Q0u @Q0t @Q1a @Q1n @Q0s @Q2n @Q2l WLg))); (repeat' (first | with_reducible rfl | exact trivial | (with_reducible first | apply And.intro | apply Q0a | apply Q0b | refine Q0c (by decide +kernel) ?_ | intro _) | ((with_reducible refine .dms (fun x => x = ω) [(0, false), (1, false), (2, false), (3, false), (4, false), (5, false), (6, false), (7, false), (8, false), (9, false), (10, true), (11, false), (12, true)] (by decide) (by decide +kernel) ?_); (refine zsR zz.out ?_)) | ((with_reducible refine .dm (fun x => x = ω) [(0, false), (1, false), (2, false), (3, false), (4, false), (5, false), (6, false), (7, false), (8, false), (9, false), (10, true), (11, false), (12, true)] (by decide) (by decide +kernel) ?_); (refine zsR zz.out ?_)) | refine zaR zz.out ?_ | refine zkK zz.out ?_ | ((first | (refine Q0j (by intro β h; first | (rcases h with h | h <;> subst h <;> (simp (disch := first | assumption | (apply zM; assumption; assumption) | (apply zP; assumption; assumption; (intro e; cases e; done)) | omega) only [zm, zn, zp, zq, zr])) | (subst h; (simp (disch := first | assumption | (apply zM; assumption; assumption) | (apply zP; assumption; assumption; (intro e; cases e; done)) | omega) only [zm, zn, zp, zq, zr]))) ?_) | ((with_reducible refine zR (hC _ _ _ _ (by exact Go.V.zO) (by omega) (by omega) (by omega) (by omega) (by exact Go.V.zN)) ?_); rintro _ S ⟨rfl, τ1, ⟨f1, n1⟩, rfl⟩; have n1s := n1.symm) | (refine Q0d (by exact Go.V.zK) ?_) | (refine Q0e (by exact Go.V.zK) ?_)); (try refine zsR zz.out ?_)) | refine zmR zz.out ?_ | refine zo ?_ | omega | refine ztR zz.out ?_ | fail)); try (all_goals clear zz))
  all_goals exact ⟨_, .refl _, τ1, ⟨f1, n1⟩, Q3j rfl (by omega) (by omega)⟩
theorem wdLP : wd [40] = sT [40] := rfl
theorem wdRP : wd [41] = sT [41] := rfl
theorem X9f (t : Tr) (hC : Cx t) : Wr 104 (exA t.ex) (br true t.tk) (1 + t.dp) := by
  intro B ω τ l d m h h0 h1 h2 h3 h4
  have hbl : (br true t.tk).length = t.tk.length + 2 := by simp [br]
  have hW := w_within t hC B ω
  (refine vfun (fun _ => .ro) Q0h Tryz.func104 (by kernel_rfl) ?_; simp only [Q0f, Tryz.f104, zv])
  (have zz := Bx.mk (j8 ui0 ui3 ui9 ui22 ui23 ui24 ui25 (j9 ui26 ui55 ui56 ui57 ui58 ui59 ui75 Q1k (j9 Q0v @Q0u @Q0t @Q1a @Q1n @Q0s @Q2n @Q2l WLg))); (repeat' (first | with_reducible rfl | exact trivial | (with_reducible first | apply And.intro | apply Q0a | apply Q0b | refine Q0c (by decide +kernel) ?_ | intro _) | refine zaR zz.out ?_ | refine zkN zz.out ?_ | ((first | (refine Q0j (by intro β h; first | (rcases h with h | h <;> subst h <;> (simp (disch := first | assumption | (apply zM; assumption; assumption) | (apply zP; assumption; assumption; (intro e; cases e; done)) | omega) only [zm, zn, zp, zq, zr])) | (subst h; (simp (disch := first | assumption | (apply zM; assumption; assumption) | (apply zP; assumption; assumption; (intro e; cases e; done)) | omega) only [zm, zn, zp, zq, zr]))) ?_) | ((with_reducible refine zR (hW _ _ _ _ (by exact Go.V.zO) (by omega) (by omega) (by omega) (by omega) (by exact Go.V.zN)) ?_); rintro _ S ⟨rfl, τ1, ⟨f1, n1⟩, rfl⟩; have n1s := n1.symm) | ((with_reducible refine zR (Q0m _ _ _ _ _ _ _ _ (by repeat (first | exact Q0p | refine Q0k ?_ (by simp))) (by exact Go.V.zO) (by exact Go.V.zN)) ?_); rintro _ S ⟨rfl, τ1, ⟨f1, n1⟩, rfl⟩; have n1s := n1.symm) | (refine Q0d (by exact Go.V.zK) ?_) | (refine Q0e (by exact Go.V.zK) ?_)); (try refine zsR zz.out ?_)) | refine zmR zz.out ?_ | refine zo ?_ | omega | refine ztR zz.out ?_ | fail)); try (all_goals clear zz))
  all_goals exact ⟨_, .refl _, τ1, ⟨f1, n1⟩, Q3j (by simp [br, wdLP, wdRP]) rfl (by omega)⟩
theorem w_at (t : Tr) (hw : t.wf) (hC : Cx t) (k : Nat) (hk : k ≤ 7) : ∀ (B : Sg) (ω τ : Nat) (l : List Tk) (d m : Int), okS B ω τ → 0 ≤ d → d ≤ m → m ≤ 2 ^ 41 → d + ((bd (lo t k) + t.dp : Nat) : Int) ≤ 2 ^ 40 → l.length + (br (lo t k) t.tk).length ≤ 2 ^ 36 →
    VCalls Tryz.prog 47 [.ref ω 0, .agg (exA t.ex), .i k] (WS B ω τ l d m) (fun x σ' => x = .tup [] ∧ ∃ τ', okS B ω τ' ∧ σ' = WS B ω τ' (l ++ br (lo t k) t.tk) d (max m (d + ((bd (lo t k) + t.dp : Nat) : Int)))) := by
  intro B ω τ l d m h h0 h1 h2 h3 h4
  have hl := Q7h t hw _ rfl
  have hl7 := (lvl_le' t hw).2
  unfold lo at h3 h4 ⊢
  by_cases hc : t.lvl < k
  · rw [decide_eq_true hc] at h3 h4 ⊢
    simp only [bd, if_true] at h3 ⊢
    have hW := X9f t hC B ω
    generalize t.lvl = L at *
    (refine vfun (fun _ => .ro) Q0h Tryz.func47 (by kernel_rfl) ?_; simp only [Q0f, Tryz.f47, zv])
    (have zz := Bx.mk (j8 ui0 ui3 ui4 ui9 ui22 ui23 ui24 (j9 ui25 ui26 ui55 ui56 ui57 ui58 ui59 Q1k (j9 Q0v @Q0u @Q0t @Q1a @Q1n @Q0s @Q2n @Q2l WLg))); (repeat' (first | with_reducible rfl | exact trivial | (with_reducible first | apply And.intro | apply Q0a | apply Q0b | refine Q0c (by decide +kernel) ?_ | intro _) | refine zaY zz.out ?_ | ((first | (with_reducible refine uc (hl _) ?_) | ((with_reducible refine zR (hW _ _ _ _ (by exact Go.V.zO) (by omega) (by omega) (by omega) (by omega) (by exact Go.V.zN)) ?_); rintro _ S ⟨rfl, τ1, ⟨f1, n1⟩, rfl⟩; have n1s := n1.symm) | (with_reducible refine uc (Q7h _ (by assumption) _ (by first | assumption | rfl) _) ?_) | (refine Q0d (by exact Go.V.zK) ?_) | (refine Q0e (by exact Go.V.zK) ?_)); (try refine zsY zz.out ?_)) | refine zo ?_ | omega | refine ztY zz.out ?_ | fail)); try (all_goals clear zz))
    all_goals exact ⟨_, .refl _, τ1, ⟨f1, n1⟩, rfl⟩
  · rw [decide_eq_false hc] at h3 h4 ⊢
    simp only [bd, Bool.false_eq_true, if_false, Nat.zero_add, br] at h3 h4 ⊢
    have hW := hC B ω
    generalize t.lvl = L at *
    (refine vfun (fun _ => .ro) Q0h Tryz.func47 (by kernel_rfl) ?_; simp only [Q0f, Tryz.f47, zv])
    (have zz := Bx.mk (j8 ui0 ui3 ui4 ui9 ui22 ui23 ui24 (j9 ui25 ui26 ui55 ui56 ui57 ui58 ui59 Q1k (j9 Q0v @Q0u @Q0t @Q1a @Q1n @Q0s @Q2n @Q2l WLg))); (repeat' (first | with_reducible rfl | exact trivial | (with_reducible first | apply And.intro | apply Q0a | apply Q0b | refine Q0c (by decide +kernel) ?_ | intro _) | refine zaY zz.out ?_ | ((first | (with_reducible refine uc (hl _) ?_) | ((with_reducible refine zR (hW _ _ _ _ (by exact Go.V.zO) (by omega) (by omega) (by omega) (by omega) (by exact Go.V.zN)) ?_); rintro _ S ⟨rfl, τ1, ⟨f1, n1⟩, rfl⟩; have n1s := n1.symm) | (with_reducible refine uc (Q7h _ (by assumption) _ (by first | assumption | rfl) _) ?_) | (refine Q0d (by exact Go.V.zK) ?_) | (refine Q0e (by exact Go.V.zK) ?_)); (try refine zsY zz.out ?_)) | refine zo ?_ | omega | refine ztY zz.out ?_ | fail)); try (all_goals clear zz))
    all_goals exact ⟨_, .refl _, τ1, ⟨f1, n1⟩, rfl⟩
theorem kd_val {e : Tr} (h : e.ex.kd = 1) : ∃ v, e = .val v := by
  cases e <;> first | exact ⟨_, rfl⟩ | (simp [Tr.ex, Ex.kd] at h; done)
theorem wdM : wd [45] = sT [45] := rfl
theorem wdNot : wd [78, 79, 84] = wT [78, 79, 84] := rfl
theorem wdIs : wd [73, 83] = wT [73, 83] := rfl
theorem wdNull : wd [78, 85, 76, 76] = wT [78, 85, 76, 76] := rfl
theorem w_neg (e : Tr) (hw : e.wf) (hC : Cx e) : Wr 48 (exA e.ex) (Tr.neg e).tk (Tr.neg e).dp := by
  rw [X3j, Tr.dp]
  intro B ω τ l d m h h0 h1 h2 h3 h4
  rw [zx] at h4
  cases hp : e.pos with
  | true =>
    obtain ⟨v, rfl⟩ : ∃ v, e = .val v := by
      cases e <;> first | exact ⟨_, rfl⟩ | (cases hp; done)
    have hv : v.1 = 1 ∧ 0 ≤ v.2.1 := of_decide_eq_true hp
    have hl : lo (.val v) 7 = false := rfl
    rw [hp, hl] at h3 h4
    have hbl := (br_len true (Tr.val v).tk).2
    simp only [bd, if_true, Bool.false_eq_true, if_false] at h3
    have hb0 : br false (Tr.val v).tk = (Tr.val v).tk := rfl
    rw [hb0] at h4
    have hW := X9f (.val v) hC B ω
    obtain ⟨q1, q2⟩ := hv
    rw [ex_val, q1] at hW ⊢
    rw [hl, hb0]
    simp only [bd, if_true, Bool.false_eq_true, if_false]
    generalize hT : br true (Tr.val v).tk = TT at *
    generalize (Tr.val v).dp = D at *
    (refine vfun (fun _ => .ro) Q0h Tryz.func48 (by kernel_rfl) ?_; simp only [Q0f, Tryz.f48, zv])
    (have zz := Bx.mk (j2 ui0 (j9 ui3 ui4 ui9 ui22 ui23 ui24 ui25 ui26 (j9 ui55 ui56 ui57 ui58 ui59 ui75 Q1k Q0v WLg))); (repeat' (first | with_reducible rfl | exact trivial | (with_reducible first | apply And.intro | apply Q0a | apply Q0b | refine Q0c (by decide +kernel) ?_ | intro _) | ((with_reducible refine .dms (fun x => x = ω) [(0, false), (1, false), (2, false), (3, false), (4, false), (5, false), (6, false), (7, false), (8, false), (9, false), (10, true), (11, false), (12, true)] (by decide) (by decide +kernel) ?_); (refine zsR zz.out ?_)) | ((with_reducible refine .dm (fun x => x = ω) [(0, false), (1, false), (2, false), (3, false), (4, false), (5, false), (6, false), (7, false), (8, false), (9, false), (10, true), (11, false), (12, true)] (by decide) (by decide +kernel) ?_); (refine zsR zz.out ?_)) | refine zaR zz.out ?_ | refine zkK zz.out ?_ | ((first | (refine Q0j (by intro β h; first | (rcases h with h | h <;> subst h <;> (simp (disch := first | assumption | (apply zM; assumption; assumption) | (apply zP; assumption; assumption; (intro e; cases e; done)) | omega) only [zm, zn, zp, zq, zr])) | (subst h; (simp (disch := first | assumption | (apply zM; assumption; assumption) | (apply zP; assumption; assumption; (intro e; cases e; done)) | omega) only [zm, zn, zp, zq, zr]))) ?_) | ((with_reducible refine zR (hW _ _ _ _ (by exact Go.V.zO) (by omega) (by omega) (by omega) (by omega) (by exact Go.V.zN)) ?_); rintro _ S ⟨rfl, τ1, ⟨f1, n1⟩, rfl⟩; have n1s := n1.symm) | ((with_reducible refine zR (Q0m _ _ _ _ _ _ _ _ (by repeat (first | exact Q0p | refine Q0k ?_ (by simp))) (by exact Go.V.zO) (by exact Go.V.zN)) ?_); rintro _ S ⟨rfl, τ1, ⟨f1, n1⟩, rfl⟩; have n1s := n1.symm) | (refine Q0d (by exact Go.V.zK) ?_) | (refine Q0e (by exact Go.V.zK) ?_)); (try refine zsR zz.out ?_)) | refine zmR zz.out ?_ | refine zo ?_ | omega | refine ztR zz.out ?_ | fail)); try (all_goals clear zz))
    all_goals exact ⟨_, .refl _, τ1, ⟨f1, n1⟩, Q3j (by simp [wdM]) (by omega) (by omega)⟩
  | false =>
    have hA := w_at e hw hC 7 (by decide) B ω
    have hbf : br false (br (lo e 7) e.tk) = br (lo e 7) e.tk := rfl
    rw [hp, hbf] at h4
    rw [hp] at h3
    rw [hbf]
    simp only [bd, Bool.false_eq_true, if_false, Nat.zero_add] at h3 ⊢
    simp only [bd] at hA
    by_cases hk : e.ex.kd = 1
    · obtain ⟨v, rfl⟩ := kd_val hk
      have hv : ¬ (v.1 = 1 ∧ 0 ≤ v.2.1) := of_decide_eq_false hp
      rw [ex_val] at hA ⊢
      generalize br (lo (Tr.val v) 7) (Tr.val v).tk = TT at *
      generalize (if lo (Tr.val v) 7 = true then 1 else 0) + (Tr.val v).dp = D at *
      (refine vfun (fun _ => .ro) Q0h Tryz.func48 (by kernel_rfl) ?_; simp only [Q0f, Tryz.f48, zv])
      (have zz := Bx.mk (j2 ui0 (j9 ui3 ui4 ui9 ui22 ui23 ui24 ui25 ui26 (j9 ui55 ui56 ui57 ui58 ui59 ui75 Q1k Q0v WLg))); (repeat' (first | with_reducible rfl | exact trivial | (with_reducible first | apply And.intro | apply Q0a | apply Q0b | refine Q0c (by decide +kernel) ?_ | intro _) | ((with_reducible refine .dms (fun x => x = ω) [(0, false), (1, false), (2, false), (3, false), (4, false), (5, false), (6, false), (7, false), (8, false), (9, false), (10, true), (11, false), (12, true)] (by decide) (by decide +kernel) ?_); (refine zsR zz.out ?_)) | ((with_reducible refine .dm (fun x => x = ω) [(0, false), (1, false), (2, false), (3, false), (4, false), (5, false), (6, false), (7, false), (8, false), (9, false), (10, true), (11, false), (12, true)] (by decide) (by decide +kernel) ?_); (refine zsR zz.out ?_)) | refine zaR zz.out ?_ | refine zkK zz.out ?_ | ((first | (refine Q0j (by intro β h; first | (rcases h with h | h <;> subst h <;> (simp (disch := first | assumption | (apply zM; assumption; assumption) | (apply zP; assumption; assumption; (intro e; cases e; done)) | omega) only [zm, zn, zp, zq, zr])) | (subst h; (simp (disch := first | assumption | (apply zM; assumption; assumption) | (apply zP; assumption; assumption; (intro e; cases e; done)) | omega) only [zm, zn, zp, zq, zr]))) ?_) | ((with_reducible refine zR (hA _ _ _ _ (by exact Go.V.zO) (by omega) (by omega) (by omega) (by omega) (by exact Go.V.zN)) ?_); rintro _ S ⟨rfl, τ1, ⟨f1, n1⟩, rfl⟩; have n1s := n1.symm) | ((with_reducible refine zR (Q0m _ _ _ _ _ _ _ _ (by repeat (first | exact Q0p | refine Q0k ?_ (by simp))) (by exact Go.V.zO) (by exact Go.V.zN)) ?_); rintro _ S ⟨rfl, τ1, ⟨f1, n1⟩, rfl⟩; have n1s := n1.symm) | (refine Q0d (by exact Go.V.zK) ?_) | (refine Q0e (by exact Go.V.zK) ?_)); (try refine zsR zz.out ?_)) | refine zmR zz.out ?_ | refine zo ?_ | omega | refine ztR zz.out ?_ | fail)); try (all_goals clear zz))
      all_goals first | exact ⟨_, .refl _, τ1, ⟨f1, n1⟩, Q3j (by simp [wdM]) (by omega) (by omega)⟩ | (exfalso; omega)
    · obtain ⟨op, t, n, v, ll, hf⟩ := ex_form e.ex
      rw [hf] at hA ⊢
      generalize br (lo e 7) e.tk = TT at *
      generalize (if lo e 7 = true then 1 else 0) + e.dp = D at *
      (refine vfun (fun _ => .ro) Q0h Tryz.func48 (by kernel_rfl) ?_; simp only [Q0f, Tryz.f48, zv])
      (have zz := Bx.mk (j3 ui0 ui3 (j9 ui4 ui9 ui22 ui23 ui24 ui25 ui26 ui55 (j9 ui56 ui57 ui58 ui59 ui75 Q1k Q0v hk WLg))); (repeat' (first | with_reducible rfl | exact trivial | (with_reducible first | apply And.intro | apply Q0a | apply Q0b | refine Q0c (by decide +kernel) ?_ | intro _) | ((with_reducible refine .dms (fun x => x = ω) [(0, false), (1, false), (2, false), (3, false), (4, false), (5, false), (6, false), (7, false), (8, false), (9, false), (10, true), (11, false), (12, true)] (by decide) (by decide +kernel) ?_); (refine zsR zz.out ?_)) | ((with_reducible refine .dm (fun x => x = ω) [(0, false), (1, false), (2, false), (3, false), (4, false), (5, false), (6, false), (7, false), (8, false), (9, false), (10, true), (11, false), (12, true)] (by decide) (by decide +kernel) ?_); (refine zsR zz.out ?_)) | refine zaR zz.out ?_ | refine zkK zz.out ?_ | ((first | (refine Q0j (by intro β h; first | (rcases h with h | h <;> subst h <;> (simp (disch := first | assumption | (apply zM; assumption; assumption) | (apply zP; assumption; assumption; (intro e; cases e; done)) | omega) only [zm, zn, zp, zq, zr])) | (subst h; (simp (disch := first | assumption | (apply zM; assumption; assumption) | (apply zP; assumption; assumption; (intro e; cases e; done)) | omega) only [zm, zn, zp, zq, zr]))) ?_) | ((with_reducible refine zR (hA _ _ _ _ (by exact Go.V.zO) (by omega) (by omega) (by omega) (by omega) (by exact Go.V.zN)) ?_); rintro _ S ⟨rfl, τ1, ⟨f1, n1⟩, rfl⟩; have n1s := n1.symm) | ((with_reducible refine zR (Q0m _ _ _ _ _ _ _ _ (by repeat (first | exact Q0p | refine Q0k ?_ (by simp))) (by exact Go.V.zO) (by exact Go.V.zN)) ?_); rintro _ S ⟨rfl, τ1, ⟨f1, n1⟩, rfl⟩; have n1s := n1.symm) | (refine Q0d (by exact Go.V.zK) ?_) | (refine Q0e (by exact Go.V.zK) ?_)); (try refine zsR zz.out ?_)) | refine zmR zz.out ?_ | refine zo ?_ | omega | refine ztR zz.out ?_ | fail)); try (all_goals clear zz))
      all_goals first | exact ⟨_, .refl _, τ1, ⟨f1, n1⟩, Q3j (by simp [wdM]) (by omega) (by omega)⟩ | (exfalso; omega)
theorem w_not (e : Tr) (hw : e.wf) (hC : Cx e) (hx : ∀ x, e = .null x → Cx x) : Wr 49 (exA e.ex) (Tr.not e).tk (Tr.not e).dp := by
  intro B ω τ l d m h h0 h1 h2 h3 h4
  cases hn : e.isNull with
  | true =>
    obtain ⟨x, rfl⟩ : ∃ x, e = .null x := by
      cases e <;> first | exact ⟨_, rfl⟩ | (cases hn; done)
    rw [X4j] at h3 ⊢
    rw [Q4t] at h4 ⊢
    simp only [zw, zx, zy] at h4
    have hA := w_at x hw (hx x rfl) 5 (by decide) B ω
    have hxl := Q0u x.ex
    have hxt := Q0t x.ex
    rw [ex_null]
    generalize br (lo x 5) x.tk = TT at *
    generalize bd (lo x 5) + x.dp = D at *
    generalize exA x.ex = X at *
    (refine vfun (fun _ => .ro) Q0h Tryz.func49 (by kernel_rfl) ?_; simp only [Q0f, Tryz.f49, zv])
    (have zz := Bx.mk (j4 ui0 ui3 ui4 (j9 ui9 ui22 ui23 ui24 ui25 ui26 ui55 ui56 (j9 ui57 ui58 ui59 ui75 Q1k Q0v hxl hxt WLg))); (repeat' (first | with_reducible rfl | exact trivial | (with_reducible first | apply And.intro | apply Q0a | apply Q0b | refine Q0c (by decide +kernel) ?_ | intro _) | ((with_reducible refine .dms (fun x => x = ω) [(0, false), (1, false), (2, false), (3, false), (4, false), (5, false), (6, false), (7, false), (8, false), (9, false), (10, true), (11, false), (12, true)] (by decide) (by decide +kernel) ?_); (refine zsR zz.out ?_)) | ((with_reducible refine .dm (fun x => x = ω) [(0, false), (1, false), (2, false), (3, false), (4, false), (5, false), (6, false), (7, false), (8, false), (9, false), (10, true), (11, false), (12, true)] (by decide) (by decide +kernel) ?_); (refine zsR zz.out ?_)) | refine zaR zz.out ?_ | refine zkK zz.out ?_ | ((first | (refine Q0j (by intro β h; first | (rcases h with h | h <;> subst h <;> (simp (disch := first | assumption | (apply zM; assumption; assumption) | (apply zP; assumption; assumption; (intro e; cases e; done)) | omega) only [zm, zn, zp, zq, zr])) | (subst h; (simp (disch := first | assumption | (apply zM; assumption; assumption) | (apply zP; assumption; assumption; (intro e; cases e; done)) | omega) only [zm, zn, zp, zq, zr]))) ?_) | ((with_reducible refine zR (hA _ _ _ _ (by exact Go.V.zO) (by omega) (by omega) (by omega) (by omega) (by exact Go.V.zN)) ?_); rintro _ S ⟨rfl, τ1, ⟨f1, n1⟩, rfl⟩; have n1s := n1.symm) | ((with_reducible refine zR (Q0m _ _ _ _ _ _ _ _ (by repeat (first | exact Q0p | refine Q0k ?_ (by simp))) (by exact Go.V.zO) (by exact Go.V.zN)) ?_); rintro _ S ⟨rfl, τ1, ⟨f1, n1⟩, rfl⟩; have n1s := n1.symm) | (refine Q0d (by exact Go.V.zK) ?_) | (refine Q0e (by exact Go.V.zK) ?_)); (try refine zsR zz.out ?_)) | refine zmR zz.out ?_ | refine zo ?_ | omega | refine ztR zz.out ?_ | fail)); try (all_goals clear zz))
    all_goals exact ⟨_, .refl _, τ1, ⟨f1, n1⟩, Q3j (by simp [wdIs, wdNot, wdNull]) (by omega) (by omega)⟩
  | false =>
    rw [X6z hn] at h3 ⊢
    rw [X1k hn] at h4 ⊢
    rw [zx] at h4
    have hA := w_at e hw hC 3 (by decide) B ω
    have hk : ¬ e.ex.kd = 6 := fun hh => by rw [(kd_null e).1 hh] at hn; cases hn
    obtain ⟨op, t, n, v, ll, hf⟩ := ex_form e.ex
    rw [hf] at hA ⊢
    generalize br (lo e 3) e.tk = TT at *
    generalize bd (lo e 3) + e.dp = D at *
    (refine vfun (fun _ => .ro) Q0h Tryz.func49 (by kernel_rfl) ?_; simp only [Q0f, Tryz.f49, zv])
    (have zz := Bx.mk (j3 ui0 ui3 (j9 ui4 ui9 ui22 ui23 ui24 ui25 ui26 ui55 (j9 ui56 ui57 ui58 ui59 ui75 Q1k Q0v hk WLg))); (repeat' (first | with_reducible rfl | exact trivial | (with_reducible first | apply And.intro | apply Q0a | apply Q0b | refine Q0c (by decide +kernel) ?_ | intro _) | ((with_reducible refine .dms (fun x => x = ω) [(0, false), (1, false), (2, false), (3, false), (4, false), (5, false), (6, false), (7, false), (8, false), (9, false), (10, true), (11, false), (12, true)] (by decide) (by decide +kernel) ?_); (refine zsR zz.out ?_)) | ((with_reducible refine .dm (fun x => x = ω) [(0, false), (1, false), (2, false), (3, false), (4, false), (5, false), (6, false), (7, false), (8, false), (9, false), (10, true), (11, false), (12, true)] (by decide) (by decide +kernel) ?_); (refine zsR zz.out ?_)) | refine zaR zz.out ?_ | refine zkK zz.out ?_ | ((first | (refine Q0j (by intro β h; first | (rcases h with h | h <;> subst h <;> (simp (disch := first | assumption | (apply zM; assumption; assumption) | (apply zP; assumption; assumption; (intro e; cases e; done)) | omega) only [zm, zn, zp, zq, zr])) | (subst h; (simp (disch := first | assumption | (apply zM; assumption; assumption) | (apply zP; assumption; assumption; (intro e; cases e; done)) | omega) only [zm, zn, zp, zq, zr]))) ?_) | ((with_reducible refine zR (hA _ _ _ _ (by exact Go.V.zO) (by omega) (by omega) (by omega) (by omega) (by exact Go.V.zN)) ?_); rintro _ S ⟨rfl, τ1, ⟨f1, n1⟩, rfl⟩; have n1s := n1.symm) | ((with_reducible refine zR (Q0m _ _ _ _ _ _ _ _ (by repeat (first | exact Q0p | refine Q0k ?_ (by simp))) (by exact Go.V.zO) (by exact Go.V.zN)) ?_); rintro _ S ⟨rfl, τ1, ⟨f1, n1⟩, rfl⟩; have n1s := n1.symm) | (refine Q0d (by exact Go.V.zK) ?_) | (refine Q0e (by exact Go.V.zK) ?_)); (try refine zsR zz.out ?_)) | refine zmR zz.out ?_ | refine zo ?_ | omega | refine ztR zz.out ?_ | fail)); try (all_goals clear zz))
    all_goals exact ⟨_, .refl _, τ1, ⟨f1, n1⟩, Q3j (by simp [wdNot]) (by omega) (by omega)⟩
theorem ops_get (k : Nat) (h : k < 14) : (strs ops).getD k [] = [.s (bs (ops.getD k []))] := X0g h
theorem ops_ne : ∀ k, k < 14 → 1 ≤ k → ops.getD k [] ≠ [] := by decide +kernel
theorem ops_len : (strs ops).length = 14 := rfl
theorem wdDot : wd [46] = sT [46] := rfl
theorem rgV {v : Vl} (h1 : okV v = true) (h2 : inR v.2.1) : inR' v.2.1 ∧ (v.1 = 0 ∨ v.1 = 1 ∨ v.1 = 2) := by
  unfold inR at h2
  unfold inR'
  rcases X3n h1 with rfl | ⟨q1, q2, q3⟩ | ⟨q1, q2, q3⟩
  · exact ⟨⟨by decide, by decide⟩, .inl rfl⟩
  · exact ⟨by omega, .inr (.inl q1)⟩
  · exact ⟨by omega, .inr (.inr q1)⟩
theorem x_val (v : Vl) (hw : (Tr.val v).wf) (hg : (Tr.val v).rg) : Cx (.val v) := by
  intro B ω τ l d m h h0 h1 h2 h3 h4
  obtain ⟨q1, q2⟩ := rgV hw hg
  have hl := (X3m v).2
  have hL : ∀ T r, _ := fun T r => Q4p T r B ω τ l v h (by omega) q1 q2
  rw [ex_val]
  have e1 : (Tr.val v).tk = litT v := rfl
  have e2 : (Tr.val v).dp = 0 := rfl
  rw [e1, e2]
  generalize v.1 = v1 at *
  generalize v.2.1 = v2 at *
  generalize v.2.2 = v3 at *
  (refine vfun (fun _ => .ro) Q0h Tryz.func21 (by kernel_rfl) ?_; simp only [Q0f, Tryz.f21, zv])
  (have zz := Bx.mk (j2 ui0 (j9 ui3 ui4 ui9 ui22 ui23 ui24 ui25 ui26 (j9 ui55 ui56 ui57 ui58 ui59 ui75 Q1k Q0v WLg))); (repeat' (first | with_reducible rfl | exact trivial | (with_reducible first | apply And.intro | apply Q0a | apply Q0b | refine Q0c (by decide +kernel) ?_ | intro _) | ((with_reducible refine .dms (fun x => False) [(0, false), (1, false), (2, false), (3, true), (4, false), (5, true)] (by decide) (by decide +kernel) ?_); (refine zsR zz.out ?_)) | ((with_reducible refine .dm (fun x => False) [(0, false), (1, false), (2, false), (3, true), (4, false), (5, true)] (by decide) (by decide +kernel) ?_); (refine zsR zz.out ?_)) | ((with_reducible refine .dms (fun x => False) [(0, false), (1, false), (2, false), (3, true), (4, false), (5, true)] (by decide) (by decide +kernel) ?_); (refine zsR zz.out ?_)) | ((with_reducible refine .dm (fun x => False) [(0, false), (1, false), (2, false), (3, true), (4, false), (5, true)] (by decide) (by decide +kernel) ?_); (refine zsR zz.out ?_)) | ((with_reducible refine .dms (fun x => False) [(0, false), (1, false), (2, false), (3, true), (4, false), (5, true)] (by decide) (by decide +kernel) ?_); (refine zsR zz.out ?_)) | ((with_reducible refine .dm (fun x => False) [(0, false), (1, false), (2, false), (3, true), (4, false), (5, true)] (by decide) (by decide +kernel) ?_); (refine zsR zz.out ?_)) | ((with_reducible refine .dms (fun x => False) [(0, false), (1, false), (2, false), (3, false), (4, true), (5, true), (6, true), (7, true), (8, false), (9, true)] (by decide) (by decide +kernel) ?_); (refine zsR zz.out ?_)) | ((with_reducible refine .dm (fun x => False) [(0, false), (1, false), (2, false), (3, false), (4, true), (5, true), (6, true), (7, true), (8, false), (9, true)] (by decide) (by decide +kernel) ?_); (refine zsR zz.out ?_)) | refine zaR zz.out ?_ | refine zkN zz.out ?_ | ((first | (refine Q0j (by intro β h; first | (rcases h with h | h <;> subst h <;> (simp (disch := first | assumption | (apply zM; assumption; assumption) | (apply zP; assumption; assumption; (intro e; cases e; done)) | omega) only [zm, zn, zp, zq, zr])) | (subst h; (simp (disch := first | assumption | (apply zM; assumption; assumption) | (apply zP; assumption; assumption; (intro e; cases e; done)) | omega) only [zm, zn, zp, zq, zr]))) ?_) | ((with_reducible refine zR (hL _ _) ?_); rintro _ S ⟨rfl, τ1, ⟨f1, n1⟩, rfl⟩; have n1s := n1.symm) | ((with_reducible refine zR (Q0m _ _ _ _ _ _ _ _ (by repeat (first | exact Q0p | refine Q0k ?_ (by simp))) (by exact Go.V.zO) (by exact Go.V.zN)) ?_); rintro _ S ⟨rfl, τ1, ⟨f1, n1⟩, rfl⟩; have n1s := n1.symm) | ((with_reducible refine zR (Q4p _ _ _ _ _ _ _ (by exact Go.V.zO) (by exact Go.V.zN) (by assumption) (by assumption)) ?_); rintro _ S ⟨rfl, τ1, ⟨f1, n1⟩, rfl⟩; have n1s := n1.symm) | ((with_reducible refine zR (Q3v _ _ _ _ _ _ _ (by exact Go.V.zO) (by exact Go.V.zN)) ?_); rintro _ S ⟨rfl, τ1, ⟨f1, n1⟩, rfl⟩; have n1s := n1.symm) | (with_reducible refine uc (Q7h _ (by assumption) _ (by first | assumption | rfl) _) ?_) | (with_reducible refine uc (w_ops _) ?_) | (refine Q0d (by exact Go.V.zK) ?_) | (refine Q0e (by exact Go.V.zK) ?_)); (try refine zsR zz.out ?_)) | refine zmR zz.out ?_ | refine zo ?_ | omega | refine ztR zz.out ?_ | fail)); try (all_goals clear zz))
  all_goals exact ⟨_, .refl _, τ1, ⟨f1, n1⟩, Q3j rfl rfl (by omega)⟩
theorem x_col (t n : By) : Cx (.col t n) := by
  intro B ω τ l d m h h0 h1 h2 h3 h4
  have e2 : (Tr.col t n).dp = 0 := rfl
  rw [ex_col, e2]
  rw [Tr.tk] at h4 ⊢
  by_cases ht : t = []
  · rw [if_pos ht] at h4 ⊢
    subst ht
    (refine vfun (fun _ => .ro) Q0h Tryz.func21 (by kernel_rfl) ?_; simp only [Q0f, Tryz.f21, zv])
    (have zz := Bx.mk (j2 ui0 (j9 ui3 ui4 ui9 ui22 ui23 ui24 ui25 ui26 (j9 ui55 ui56 ui57 ui58 ui59 ui75 Q1k Q0v WLg))); (repeat' (first | with_reducible rfl | exact trivial | (with_reducible first | apply And.intro | apply Q0a | apply Q0b | refine Q0c (by decide +kernel) ?_ | intro _) | ((with_reducible refine .dms (fun x => False) [(0, false), (1, false), (2, false), (3, true), (4, false), (5, true)] (by decide) (by decide +kernel) ?_); (refine zsR zz.out ?_)) | ((with_reducible refine .dm (fun x => False) [(0, false), (1, false), (2, false), (3, true), (4, false), (5, true)] (by decide) (by decide +kernel) ?_); (refine zsR zz.out ?_)) | ((with_reducible refine .dms (fun x => False) [(0, false), (1, false), (2, false), (3, true), (4, false), (5, true)] (by decide) (by decide +kernel) ?_); (refine zsR zz.out ?_)) | ((with_reducible refine .dm (fun x => False) [(0, false), (1, false), (2, false), (3, true), (4, false), (5, true)] (by decide) (by decide +kernel) ?_); (refine zsR zz.out ?_)) | ((with_reducible refine .dms (fun x => False) [(0, false), (1, false), (2, false), (3, true), (4, false), (5, true)] (by decide) (by decide +kernel) ?_); (refine zsR zz.out ?_)) | ((with_reducible refine .dm (fun x => False) [(0, false), (1, false), (2, false), (3, true), (4, false), (5, true)] (by decide) (by decide +kernel) ?_); (refine zsR zz.out ?_)) | ((with_reducible refine .dms (fun x => False) [(0, false), (1, false), (2, false), (3, false), (4, true), (5, true), (6, true), (7, true), (8, false), (9, true)] (by decide) (by decide +kernel) ?_); (refine zsR zz.out ?_)) | ((with_reducible refine .dm (fun x => False) [(0, false), (1, false), (2, false), (3, false), (4, true), (5, true), (6, true), (7, true), (8, false), (9, true)] (by decide) (by decide +kernel) ?_); (refine zsR zz.out ?_)) | refine zaR zz.out ?_ | refine zkN zz.out ?_ | ((first | (refine Q0j (by intro β h; first | (rcases h with h | h <;> subst h <;> (simp (disch := first | assumption | (apply zM; assumption; assumption) | (apply zP; assumption; assumption; (intro e; cases e; done)) | omega) only [zm, zn, zp, zq, zr])) | (subst h; (simp (disch := first | assumption | (apply zM; assumption; assumption) | (apply zP; assumption; assumption; (intro e; cases e; done)) | omega) only [zm, zn, zp, zq, zr]))) ?_) | ((with_reducible refine zR (Q0m _ _ _ _ _ _ _ _ (by repeat (first | exact Q0p | refine Q0k ?_ (by simp))) (by exact Go.V.zO) (by exact Go.V.zN)) ?_); rintro _ S ⟨rfl, τ1, ⟨f1, n1⟩, rfl⟩; have n1s := n1.symm) | ((with_reducible refine zR (Q4p _ _ _ _ _ _ _ (by exact Go.V.zO) (by exact Go.V.zN) (by assumption) (by assumption)) ?_); rintro _ S ⟨rfl, τ1, ⟨f1, n1⟩, rfl⟩; have n1s := n1.symm) | ((with_reducible refine zR (Q3v _ _ _ _ _ _ _ (by exact Go.V.zO) (by exact Go.V.zN)) ?_); rintro _ S ⟨rfl, τ1, ⟨f1, n1⟩, rfl⟩; have n1s := n1.symm) | (with_reducible refine uc (Q7h _ (by assumption) _ (by first | assumption | rfl) _) ?_) | (with_reducible refine uc (w_ops _) ?_) | (refine Q0d (by exact Go.V.zK) ?_) | (refine Q0e (by exact Go.V.zK) ?_)); (try refine zsR zz.out ?_)) | refine zmR zz.out ?_ | refine zo ?_ | omega | refine ztR zz.out ?_ | fail)); try (all_goals clear zz))
    all_goals first | exact ⟨_, .refl _, τ1, ⟨f1, n1⟩, Q3j rfl rfl (by omega)⟩ | (exfalso; simp_all; done)
  · rw [if_neg ht] at h4 ⊢
    simp only [zx, zy] at h4
    (refine vfun (fun _ => .ro) Q0h Tryz.func21 (by kernel_rfl) ?_; simp only [Q0f, Tryz.f21, zv])
    (have zz := Bx.mk (j3 ui0 ui3 (j9 ui4 ui9 ui22 ui23 ui24 ui25 ui26 ui55 (j9 ui56 ui57 ui58 ui59 ui75 Q1k Q0v ht WLg))); (repeat' (first | with_reducible rfl | exact trivial | (with_reducible first | apply And.intro | apply Q0a | apply Q0b | refine Q0c (by decide +kernel) ?_ | intro _) | ((with_reducible refine .dms (fun x => False) [(0, false), (1, false), (2, false), (3, true), (4, false), (5, true)] (by decide) (by decide +kernel) ?_); (refine zsR zz.out ?_)) | ((with_reducible refine .dm (fun x => False) [(0, false), (1, false), (2, false), (3, true), (4, false), (5, true)] (by decide) (by decide +kernel) ?_); (refine zsR zz.out ?_)) | ((with_reducible refine .dms (fun x => False) [(0, false), (1, false), (2, false), (3, true), (4, false), (5, true)] (by decide) (by decide +kernel) ?_); (refine zsR zz.out ?_)) | ((with_reducible refine .dm (fun x => False) [(0, false), (1, false), (2, false), (3, true), (4, false), (5, true)] (by decide) (by decide +kernel) ?_); (refine zsR zz.out ?_)) | ((with_reducible refine .dms (fun x => False) [(0, false), (1, false), (2, false), (3, true), (4, false), (5, true)] (by decide) (by decide +kernel) ?_); (refine zsR zz.out ?_)) | ((with_reducible refine .dm (fun x => False) [(0, false), (1, false), (2, false), (3, true), (4, false), (5, true)] (by decide) (by decide +kernel) ?_); (refine zsR zz.out ?_)) | ((with_reducible refine .dms (fun x => False) [(0, false), (1, false), (2, false), (3, false), (4, true), (5, true), (6, true), (7, true), (8, false), (9, true)] (by decide) (by decide +kernel) ?_); (refine zsR zz.out ?_)) | ((with_reducible refine .dm (fun x => False) [(0, false), (1, false), (2, false), (3, false), (4, true), (5, true), (6, true), (7, true), (8, false), (9, true)] (by decide) (by decide +kernel) ?_); (refine zsR zz.out ?_)) | refine zaR zz.out ?_ | refine zkN zz.out ?_ | ((first | (refine Q0j (by intro β h; first | (rcases h with h | h <;> subst h <;> (simp (disch := first | assumption | (apply zM; assumption; assumption) | (apply zP; assumption; assumption; (intro e; cases e; done)) | omega) only [zm, zn, zp, zq, zr])) | (subst h; (simp (disch := first | assumption | (apply zM; assumption; assumption) | (apply zP; assumption; assumption; (intro e; cases e; done)) | omega) only [zm, zn, zp, zq, zr]))) ?_) | ((with_reducible refine zR (Q0m _ _ _ _ _ _ _ _ (by repeat (first | exact Q0p | refine Q0k ?_ (by simp))) (by exact Go.V.zO) (by exact Go.V.zN)) ?_); rintro _ S ⟨rfl, τ1, ⟨f1, n1⟩, rfl⟩; have n1s := n1.symm) | ((with_reducible refine zR (Q4p _ _ _ _ _ _ _ (by exact Go.V.zO) (by exact Go.V.zN) (by assumption) (by assumption)) ?_); rintro _ S ⟨rfl, τ1, ⟨f1, n1⟩, rfl⟩; have n1s := n1.symm) | ((with_reducible refine zR (Q3v _ _ _ _ _ _ _ (by exact Go.V.zO) (by exact Go.V.zN)) ?_); rintro _ S ⟨rfl, τ1, ⟨f1, n1⟩, rfl⟩; have n1s := n1.symm) | (with_reducible refine uc (Q7h _ (by assumption) _ (by first | assumption | rfl) _) ?_) | (with_reducible refine uc (w_ops _) ?_) | (refine Q0d (by exact Go.V.zK) ?_) | (refine Q0e (by exact Go.V.zK) ?_)); (try refine zsR zz.out ?_)) | refine zmR zz.out ?_ | refine zo ?_ | omega | refine ztR zz.out ?_ | fail)); try (all_goals clear zz))
    all_goals first | exact ⟨_, .refl _, τ1, ⟨f1, n1⟩, Q3j (by simp [wdDot]) rfl (by omega)⟩ | (exfalso; simp_all; done)
theorem x_null (e : Tr) (hw : e.wf) (hC : Cx e) : Cx (.null e) := by
  intro B ω τ l d m h h0 h1 h2 h3 h4
  have hA := w_at e hw hC 5 (by decide) B ω
  have hxl := Q0u e.ex
  have hxt := Q0t e.ex
  rw [Q9i] at h4 ⊢
  rw [Tr.dp] at h3 ⊢
  simp only [zw, zx, zy] at h4
  rw [ex_null]
  generalize br (lo e 5) e.tk = TT at *
  generalize bd (lo e 5) + e.dp = D at *
  generalize exA e.ex = X at *
  (refine vfun (fun _ => .ro) Q0h Tryz.func21 (by kernel_rfl) ?_; simp only [Q0f, Tryz.f21, zv])
  (have zz := Bx.mk (j4 ui0 ui3 ui4 (j9 ui9 ui22 ui23 ui24 ui25 ui26 ui55 ui56 (j9 ui57 ui58 ui59 ui75 Q1k Q0v hxl hxt WLg))); (repeat' (first | with_reducible rfl | exact trivial | (with_reducible first | apply And.intro | apply Q0a | apply Q0b | refine Q0c (by decide +kernel) ?_ | intro _) | ((with_reducible refine .dms (fun x => False) [(0, false), (1, false), (2, false), (3, true), (4, false), (5, true)] (by decide) (by decide +kernel) ?_); (refine zsR zz.out ?_)) | ((with_reducible refine .dm (fun x => False) [(0, false), (1, false), (2, false), (3, true), (4, false), (5, true)] (by decide) (by decide +kernel) ?_); (refine zsR zz.out ?_)) | ((with_reducible refine .dms (fun x => False) [(0, false), (1, false), (2, false), (3, true), (4, false), (5, true)] (by decide) (by decide +kernel) ?_); (refine zsR zz.out ?_)) | ((with_reducible refine .dm (fun x => False) [(0, false), (1, false), (2, false), (3, true), (4, false), (5, true)] (by decide) (by decide +kernel) ?_); (refine zsR zz.out ?_)) | ((with_reducible refine .dms (fun x => False) [(0, false), (1, false), (2, false), (3, true), (4, false), (5, true)] (by decide) (by decide +kernel) ?_); (refine zsR zz.out ?_)) | ((with_reducible refine .dm (fun x => False) [(0, false), (1, false), (2, false), (3, true), (4, false), (5, true)] (by decide) (by decide +kernel) ?_); (refine zsR zz.out ?_)) | ((with_reducible refine .dms (fun x => False) [(0, false), (1, false), (2, false), (3, false), (4, true), (5, true), (6, true), (7, true), (8, false), (9, true)] (by decide) (by decide +kernel) ?_); (refine zsR zz.out ?_)) | ((with_reducible refine .dm (fun x => False) [(0, false), (1, false), (2, false), (3, false), (4, true), (5, true), (6, true), (7, true), (8, false), (9, true)] (by decide) (by decide +kernel) ?_); (refine zsR zz.out ?_)) | refine zaR zz.out ?_ | refine zkN zz.out ?_ | ((first | (refine Q0j (by intro β h; first | (rcases h with h | h <;> subst h <;> (simp (disch := first | assumption | (apply zM; assumption; assumption) | (apply zP; assumption; assumption; (intro e; cases e; done)) | omega) only [zm, zn, zp, zq, zr])) | (subst h; (simp (disch := first | assumption | (apply zM; assumption; assumption) | (apply zP; assumption; assumption; (intro e; cases e; done)) | omega) only [zm, zn, zp, zq, zr]))) ?_) | ((with_reducible refine zR (hA _ _ _ _ (by exact Go.V.zO) (by omega) (by omega) (by omega) (by omega) (by exact Go.V.zN)) ?_); rintro _ S ⟨rfl, τ1, ⟨f1, n1⟩, rfl⟩; have n1s := n1.symm) | ((with_reducible refine zR (Q0m _ _ _ _ _ _ _ _ (by repeat (first | exact Q0p | refine Q0k ?_ (by simp))) (by exact Go.V.zO) (by exact Go.V.zN)) ?_); rintro _ S ⟨rfl, τ1, ⟨f1, n1⟩, rfl⟩; have n1s := n1.symm) | ((with_reducible refine zR (Q4p _ _ _ _ _ _ _ (by exact Go.V.zO) (by exact Go.V.zN) (by assumption) (by assumption)) ?_); rintro _ S ⟨rfl, τ1, ⟨f1, n1⟩, rfl⟩; have n1s := n1.symm) | ((with_reducible refine zR (Q3v _ _ _ _ _ _ _ (by exact Go.V.zO) (by exact Go.V.zN)) ?_); rintro _ S ⟨rfl, τ1, ⟨f1, n1⟩, rfl⟩; have n1s := n1.symm) | (with_reducible refine uc (Q7h _ (by assumption) _ (by first | assumption | rfl) _) ?_) | (with_reducible refine uc (w_ops _) ?_) | (refine Q0d (by exact Go.V.zK) ?_) | (refine Q0e (by exact Go.V.zK) ?_)); (try refine zsR zz.out ?_)) | refine zmR zz.out ?_ | refine zo ?_ | omega | refine ztR zz.out ?_ | fail)); try (all_goals clear zz))
  all_goals exact ⟨_, .refl _, τ1, ⟨f1, n1⟩, Q3j (by simp [wdIs, wdNull]) rfl (by omega)⟩
theorem x_neg (e : Tr) (hw : e.wf) (hC : Cx e) : Cx (.neg e) := by
  intro B ω τ l d m h h0 h1 h2 h3 h4
  have hA := w_neg e hw hC B ω τ l d m h h0 h1 h2 h3 h4
  have hxl := Q0u e.ex
  have hxt := Q0t e.ex
  rw [ex_neg]
  generalize (Tr.neg e).tk = TT at *
  generalize (Tr.neg e).dp = D at *
  generalize exA e.ex = X at *
  (refine vfun (fun _ => .ro) Q0h Tryz.func21 (by kernel_rfl) ?_; simp only [Q0f, Tryz.f21, zv])
  (have zz := Bx.mk (j4 ui0 ui3 ui4 (j9 ui9 ui22 ui23 ui24 ui25 ui26 ui55 ui56 (j9 ui57 ui58 ui59 ui75 Q1k Q0v hxl hxt WLg))); (repeat' (first | with_reducible rfl | exact trivial | (with_reducible first | apply And.intro | apply Q0a | apply Q0b | refine Q0c (by decide +kernel) ?_ | intro _) | ((with_reducible refine .dms (fun x => False) [(0, false), (1, false), (2, false), (3, true), (4, false), (5, true)] (by decide) (by decide +kernel) ?_); (refine zsR zz.out ?_)) | ((with_reducible refine .dm (fun x => False) [(0, false), (1, false), (2, false), (3, true), (4, false), (5, true)] (by decide) (by decide +kernel) ?_); (refine zsR zz.out ?_)) | ((with_reducible refine .dms (fun x => False) [(0, false), (1, false), (2, false), (3, true), (4, false), (5, true)] (by decide) (by decide +kernel) ?_); (refine zsR zz.out ?_)) | ((with_reducible refine .dm (fun x => False) [(0, false), (1, false), (2, false), (3, true), (4, false), (5, true)] (by decide) (by decide +kernel) ?_); (refine zsR zz.out ?_)) | ((with_reducible refine .dms (fun x => False) [(0, false), (1, false), (2, false), (3, true), (4, false), (5, true)] (by decide) (by decide +kernel) ?_); (refine zsR zz.out ?_)) | ((with_reducible refine .dm (fun x => False) [(0, false), (1, false), (2, false), (3, true), (4, false), (5, true)] (by decide) (by decide +kernel) ?_); (refine zsR zz.out ?_)) | ((with_reducible refine .dms (fun x => False) [(0, false), (1, false), (2, false), (3, false), (4, true), (5, true), (6, true), (7, true), (8, false), (9, true)] (by decide) (by decide +kernel) ?_); (refine zsR zz.out ?_)) | ((with_reducible refine .dm (fun x => False) [(0, false), (1, false), (2, false), (3, false), (4, true), (5, true), (6, true), (7, true), (8, false), (9, true)] (by decide) (by decide +kernel) ?_); (refine zsR zz.out ?_)) | refine zaR zz.out ?_ | refine zkN zz.out ?_ | ((first | (refine Q0j (by intro β h; first | (rcases h with h | h <;> subst h <;> (simp (disch := first | assumption | (apply zM; assumption; assumption) | (apply zP; assumption; assumption; (intro e; cases e; done)) | omega) only [zm, zn, zp, zq, zr])) | (subst h; (simp (disch := first | assumption | (apply zM; assumption; assumption) | (apply zP; assumption; assumption; (intro e; cases e; done)) | omega) only [zm, zn, zp, zq, zr]))) ?_) | ((with_reducible refine zR (hA) ?_); rintro _ S ⟨rfl, τ1, ⟨f1, n1⟩, rfl⟩; have n1s := n1.symm) | ((with_reducible refine zR (Q0m _ _ _ _ _ _ _ _ (by repeat (first | exact Q0p | refine Q0k ?_ (by simp))) (by exact Go.V.zO) (by exact Go.V.zN)) ?_); rintro _ S ⟨rfl, τ1, ⟨f1, n1⟩, rfl⟩; have n1s := n1.symm) | ((with_reducible refine zR (Q4p _ _ _ _ _ _ _ (by exact Go.V.zO) (by exact Go.V.zN) (by assumption) (by assumption)) ?_); rintro _ S ⟨rfl, τ1, ⟨f1, n1⟩, rfl⟩; have n1s := n1.symm) | ((with_reducible refine zR (Q3v _ _ _ _ _ _ _ (by exact Go.V.zO) (by exact Go.V.zN)) ?_); rintro _ S ⟨rfl, τ1, ⟨f1, n1⟩, rfl⟩; have n1s := n1.symm) | (with_reducible refine uc (Q7h _ (by assumption) _ (by first | assumption | rfl) _) ?_) | (with_reducible refine uc (w_ops _) ?_) | (refine Q0d (by exact Go.V.zK) ?_) | (refine Q0e (by exact Go.V.zK) ?_)); (try refine zsR zz.out ?_)) | refine zmR zz.out ?_ | refine zo ?_ | omega | refine ztR zz.out ?_ | fail)); try (all_goals clear zz))
  all_goals exact ⟨_, .refl _, τ1, ⟨f1, n1⟩, rfl⟩
theorem x_not (e : Tr) (hw : e.wf) (hC : Cx e) (hx : ∀ x, e = .null x → Cx x) : Cx (.not e) := by
  intro B ω τ l d m h h0 h1 h2 h3 h4
  have hA := w_not e hw hC hx B ω τ l d m h h0 h1 h2 h3 h4
  have hxl := Q0u e.ex
  have hxt := Q0t e.ex
  rw [ex_not]
  generalize (Tr.not e).tk = TT at *
  generalize (Tr.not e).dp = D at *
  generalize exA e.ex = X at *
  (refine vfun (fun _ => .ro) Q0h Tryz.func21 (by kernel_rfl) ?_; simp only [Q0f, Tryz.f21, zv])
  (have zz := Bx.mk (j4 ui0 ui3 ui4 (j9 ui9 ui22 ui23 ui24 ui25 ui26 ui55 ui56 (j9 ui57 ui58 ui59 ui75 Q1k Q0v hxl hxt WLg))); (repeat' (first | with_reducible rfl | exact trivial | (with_reducible first | apply And.intro | apply Q0a | apply Q0b | refine Q0c (by decide +kernel) ?_ | intro _) | ((with_reducible refine .dms (fun x => False) [(0, false), (1, false), (2, false), (3, true), (4, false), (5, true)] (by decide) (by decide +kernel) ?_); (refine zsR zz.out ?_)) | ((with_reducible refine .dm (fun x => False) [(0, false), (1, false), (2, false), (3, true), (4, false), (5, true)] (by decide) (by decide +kernel) ?_); (refine zsR zz.out ?_)) | ((with_reducible refine .dms (fun x => False) [(0, false), (1, false), (2, false), (3, true), (4, false), (5, true)] (by decide) (by decide +kernel) ?_); (refine zsR zz.out ?_)) | ((with_reducible refine .dm (fun x => False) [(0, false), (1, false), (2, false), (3, true), (4, false), (5, true)] (by decide) (by decide +kernel) ?_); (refine zsR zz.out ?_)) | ((with_reducible refine .dms (fun x => False) [(0, false), (1, false), (2, false), (3, true), (4, false), (5, true)] (by decide) (by decide +kernel) ?_); (refine zsR zz.out ?_)) | ((with_reducible refine .dm (fun x => False) [(0, false), (1, false), (2, false), (3, true), (4, false), (5, true)] (by decide) (by decide +kernel) ?_); (refine zsR zz.out ?_)) | ((with_reducible refine .dms (fun x => False) [(0, false), (1, false), (2, false), (3, false), (4, true), (5, true), (6, true), (7, true), (8, false), (9, true)] (by decide) (by decide +kernel) ?_); (refine zsR zz.out ?_)) | ((with_reducible refine .dm (fun x => False) [(0, false), (1, false), (2, false), (3, false), (4, true), (5, true), (6, true), (7, true), (8, false), (9, true)] (by decide) (by decide +kernel) ?_); (refine zsR zz.out ?_)) | refine zaR zz.out ?_ | refine zkN zz.out ?_ | ((first | (refine Q0j (by intro β h; first | (rcases h with h | h <;> subst h <;> (simp (disch := first | assumption | (apply zM; assumption; assumption) | (apply zP; assumption; assumption; (intro e; cases e; done)) | omega) only [zm, zn, zp, zq, zr])) | (subst h; (simp (disch := first | assumption | (apply zM; assumption; assumption) | (apply zP; assumption; assumption; (intro e; cases e; done)) | omega) only [zm, zn, zp, zq, zr]))) ?_) | ((with_reducible refine zR (hA) ?_); rintro _ S ⟨rfl, τ1, ⟨f1, n1⟩, rfl⟩; have n1s := n1.symm) | ((with_reducible refine zR (Q0m _ _ _ _ _ _ _ _ (by repeat (first | exact Q0p | refine Q0k ?_ (by simp))) (by exact Go.V.zO) (by exact Go.V.zN)) ?_); rintro _ S ⟨rfl, τ1, ⟨f1, n1⟩, rfl⟩; have n1s := n1.symm) | ((with_reducible refine zR (Q4p _ _ _ _ _ _ _ (by exact Go.V.zO) (by exact Go.V.zN) (by assumption) (by assumption)) ?_); rintro _ S ⟨rfl, τ1, ⟨f1, n1⟩, rfl⟩; have n1s := n1.symm) | ((with_reducible refine zR (Q3v _ _ _ _ _ _ _ (by exact Go.V.zO) (by exact Go.V.zN)) ?_); rintro _ S ⟨rfl, τ1, ⟨f1, n1⟩, rfl⟩; have n1s := n1.symm) | (with_reducible refine uc (Q7h _ (by assumption) _ (by first | assumption | rfl) _) ?_) | (with_reducible refine uc (w_ops _) ?_) | (refine Q0d (by exact Go.V.zK) ?_) | (refine Q0e (by exact Go.V.zK) ?_)); (try refine zsR zz.out ?_)) | refine zmR zz.out ?_ | refine zo ?_ | omega | refine ztR zz.out ?_ | fail)); try (all_goals clear zz))
  all_goals exact ⟨_, .refl _, τ1, ⟨f1, n1⟩, rfl⟩
theorem x_op (k : Nat) (a b : Tr) (hw : (Tr.op k a b).wf) (ha : Cx a) (hb : Cx b) : Cx (.op k a b) := by
  intro B ω τ l d m h h0 h1 h2 h3 h4
  have hw' := hw
  obtain ⟨⟨hk1, hk2⟩, hwa, hwb⟩ := hw
  have hlk : 1 ≤ lvK k ∧ lvK k ≤ 6 := by
    have := lvK_le k hk1
    omega
  have hA := w_at a hwa ha (lftK k) (by unfold lftK; split <;> omega) B ω
  have hB := w_at b hwb hb (lvK k + 1) (by omega) B ω
  have hl : ∀ E, E = exA (Tr.op k a b).ex → ∀ σ, VCalls Tryz.prog 50 [.agg E] σ (fun x σ' => x = .i (lvK k : Nat) ∧ σ' = σ) := fun E hE σ => Q7h _ hw' E hE σ
  have hxl := Q0u a.ex
  have hxt := Q0t a.ex
  have hyl := Q0u b.ex
  have hyt := Q0t b.ex
  have hog := ops_get k (by omega)
  have hone := ops_ne k (by omega) hk1
  have hf4 : lvK k = 4 → lftK k = 5 := fun h => if_pos h
  have hf5 : lvK k ≠ 4 → lftK k = lvK k := fun h => if_neg h
  rw [Y0h] at h4 ⊢
  rw [Tr.dp] at h3 ⊢
  simp only [zw, zx, zy] at h4
  rw [ex_op] at hl ⊢
  generalize br (lo a (lftK k)) a.tk = TA at *
  generalize bd (lo a (lftK k)) + a.dp = DA at *
  generalize br (lo b (lvK k + 1)) b.tk = TB at *
  generalize bd (lo b (lvK k + 1)) + b.dp = DB at *
  generalize exA a.ex = X at *
  generalize exA b.ex = Y at *
  generalize ops.getD k [] = W at *
  have hlv : lvK k = 4 ∨ lvK k ≠ 4 := by omega
  have hB : ∀ τ l d m, okS B ω τ → 0 ≤ d → d ≤ m → m ≤ 2 ^ 41 → d + ((DB : Nat) : Int) ≤ 2 ^ 40 → l.length + TB.length ≤ 2 ^ 36 → VCalls Tryz.prog 47 [.ref ω 0, .agg Y, .i ((lvK k : Nat) + 1)] (WS B ω τ l d m) _ := hB
  rcases hlv with hc | hc
  · rw [hf4 hc] at hA
    have hA : ∀ τ l d m, okS B ω τ → 0 ≤ d → d ≤ m → m ≤ 2 ^ 41 → d + ((DA : Nat) : Int) ≤ 2 ^ 40 → l.length + TA.length ≤ 2 ^ 36 → VCalls Tryz.prog 47 [.ref ω 0, .agg X, .i 5] (WS B ω τ l d m) _ := hA
    rw [hc] at hl hB
    clear hf4 hf5
    (refine vfun (fun _ => .ro) Q0h Tryz.func21 (by kernel_rfl) ?_; simp only [Q0f, Tryz.f21, zv])
    (have zz := Bx.mk (j8 ui0 ui3 ui4 ui9 ui22 ui23 ui24 (j9 ui25 ui26 ui55 ui56 ui57 ui58 ui59 ui75 (j9 Q1k Q0v hxl hxt hyl hyt hog @ops_len WLg))); (repeat' (first | with_reducible rfl | exact trivial | (with_reducible first | apply And.intro | apply Q0a | apply Q0b | refine Q0c (by decide +kernel) ?_ | intro _) | ((with_reducible refine .dms (fun x => False) [(0, false), (1, false), (2, false), (3, true), (4, false), (5, true)] (by decide) (by decide +kernel) ?_); (refine zsR zz.out ?_)) | ((with_reducible refine .dm (fun x => False) [(0, false), (1, false), (2, false), (3, true), (4, false), (5, true)] (by decide) (by decide +kernel) ?_); (refine zsR zz.out ?_)) | ((with_reducible refine .dms (fun x => False) [(0, false), (1, false), (2, false), (3, true), (4, false), (5, true)] (by decide) (by decide +kernel) ?_); (refine zsR zz.out ?_)) | ((with_reducible refine .dm (fun x => False) [(0, false), (1, false), (2, false), (3, true), (4, false), (5, true)] (by decide) (by decide +kernel) ?_); (refine zsR zz.out ?_)) | ((with_reducible refine .dms (fun x => False) [(0, false), (1, false), (2, false), (3, true), (4, false), (5, true)] (by decide) (by decide +kernel) ?_); (refine zsR zz.out ?_)) | ((with_reducible refine .dm (fun x => False) [(0, false), (1, false), (2, false), (3, true), (4, false), (5, true)] (by decide) (by decide +kernel) ?_); (refine zsR zz.out ?_)) | ((with_reducible refine .dms (fun x => False) [(0, false), (1, false), (2, false), (3, false), (4, true), (5, true), (6, true), (7, true), (8, false), (9, true)] (by decide) (by decide +kernel) ?_); (refine zsR zz.out ?_)) | ((with_reducible refine .dm (fun x => False) [(0, false), (1, false), (2, false), (3, false), (4, true), (5, true), (6, true), (7, true), (8, false), (9, true)] (by decide) (by decide +kernel) ?_); (refine zsR zz.out ?_)) | refine zaR zz.out ?_ | refine zkN zz.out ?_ | ((first | (refine Q0j (by intro β h; first | (rcases h with h | h <;> subst h <;> (simp (disch := first | assumption | (apply zM; assumption; assumption) | (apply zP; assumption; assumption; (intro e; cases e; done)) | omega) only [zm, zn, zp, zq, zr])) | (subst h; (simp (disch := first | assumption | (apply zM; assumption; assumption) | (apply zP; assumption; assumption; (intro e; cases e; done)) | omega) only [zm, zn, zp, zq, zr]))) ?_) | (with_reducible refine uc (hl _ rfl _) ?_) | ((with_reducible refine zR (hA _ _ _ _ (by exact Go.V.zO) (by omega) (by omega) (by omega) (by omega) (by exact Go.V.zN)) ?_); rintro _ S ⟨rfl, τ1, ⟨f1, n1⟩, rfl⟩; have n1s := n1.symm) | ((with_reducible refine zR (hB _ _ _ _ (by exact Go.V.zO) (by omega) (by omega) (by omega) (by omega) (by exact Go.V.zN)) ?_); rintro _ S ⟨rfl, τ1, ⟨f1, n1⟩, rfl⟩; have n1s := n1.symm) | ((with_reducible refine zR (Q0m _ _ _ _ _ _ _ _ (Q0k Q0p (by assumption)) (by exact Go.V.zO) (by exact Go.V.zN)) ?_); rintro _ S ⟨rfl, τ1, ⟨f1, n1⟩, rfl⟩; have n1s := n1.symm) | ((with_reducible refine zR (Q0m _ _ _ _ _ _ _ _ (by repeat (first | exact Q0p | refine Q0k ?_ (by simp))) (by exact Go.V.zO) (by exact Go.V.zN)) ?_); rintro _ S ⟨rfl, τ1, ⟨f1, n1⟩, rfl⟩; have n1s := n1.symm) | ((with_reducible refine zR (Q4p _ _ _ _ _ _ _ (by exact Go.V.zO) (by exact Go.V.zN) (by assumption) (by assumption)) ?_); rintro _ S ⟨rfl, τ1, ⟨f1, n1⟩, rfl⟩; have n1s := n1.symm) | ((with_reducible refine zR (Q3v _ _ _ _ _ _ _ (by exact Go.V.zO) (by exact Go.V.zN)) ?_); rintro _ S ⟨rfl, τ1, ⟨f1, n1⟩, rfl⟩; have n1s := n1.symm) | (with_reducible refine uc (Q7h _ (by assumption) _ (by first | assumption | rfl) _) ?_) | (with_reducible refine uc (w_ops _) ?_) | (refine Q0d (by exact Go.V.zK) ?_) | (refine Q0e (by exact Go.V.zK) ?_)); (try refine zsR zz.out ?_)) | refine zmR zz.out ?_ | refine zo ?_ | omega | refine ztR zz.out ?_ | fail)); try (all_goals clear zz))
    all_goals first | exact ⟨_, .refl _, τ1, ⟨f1, n1⟩, Q3j (by simp) rfl (by omega)⟩ | (exfalso; omega)
  · rw [hf5 hc] at hA
    have hA : ∀ τ l d m, okS B ω τ → 0 ≤ d → d ≤ m → m ≤ 2 ^ 41 → d + ((DA : Nat) : Int) ≤ 2 ^ 40 → l.length + TA.length ≤ 2 ^ 36 → VCalls Tryz.prog 47 [.ref ω 0, .agg X, .i (lvK k : Nat)] (WS B ω τ l d m) _ := hA
    clear hf4 hf5
    generalize lvK k = K at *
    (refine vfun (fun _ => .ro) Q0h Tryz.func21 (by kernel_rfl) ?_; simp only [Q0f, Tryz.f21, zv])
    (have zz := Bx.mk (j8 ui0 ui3 ui4 ui9 ui22 ui23 ui24 (j9 ui25 ui26 ui55 ui56 ui57 ui58 ui59 ui75 (j9 Q1k Q0v hxl hxt hyl hyt hog @ops_len WLg))); (repeat' (first | with_reducible rfl | exact trivial | (with_reducible first | apply And.intro | apply Q0a | apply Q0b | refine Q0c (by decide +kernel) ?_ | intro _) | ((with_reducible refine .dms (fun x => False) [(0, false), (1, false), (2, false), (3, true), (4, false), (5, true)] (by decide) (by decide +kernel) ?_); (refine zsR zz.out ?_)) | ((with_reducible refine .dm (fun x => False) [(0, false), (1, false), (2, false), (3, true), (4, false), (5, true)] (by decide) (by decide +kernel) ?_); (refine zsR zz.out ?_)) | ((with_reducible refine .dms (fun x => False) [(0, false), (1, false), (2, false), (3, true), (4, false), (5, true)] (by decide) (by decide +kernel) ?_); (refine zsR zz.out ?_)) | ((with_reducible refine .dm (fun x => False) [(0, false), (1, false), (2, false), (3, true), (4, false), (5, true)] (by decide) (by decide +kernel) ?_); (refine zsR zz.out ?_)) | ((with_reducible refine .dms (fun x => False) [(0, false), (1, false), (2, false), (3, true), (4, false), (5, true)] (by decide) (by decide +kernel) ?_); (refine zsR zz.out ?_)) | ((with_reducible refine .dm (fun x => False) [(0, false), (1, false), (2, false), (3, true), (4, false), (5, true)] (by decide) (by decide +kernel) ?_); (refine zsR zz.out ?_)) | ((with_reducible refine .dms (fun x => False) [(0, false), (1, false), (2, false), (3, false), (4, true), (5, true), (6, true), (7, true), (8, false), (9, true)] (by decide) (by decide +kernel) ?_); (refine zsR zz.out ?_)) | ((with_reducible refine .dm (fun x => False) [(0, false), (1, false), (2, false), (3, false), (4, true), (5, true), (6, true), (7, true), (8, false), (9, true)] (by decide) (by decide +kernel) ?_); (refine zsR zz.out ?_)) | refine zaR zz.out ?_ | refine zkN zz.out ?_ | ((first | (refine Q0j (by intro β h; first | (rcases h with h | h <;> subst h <;> (simp (disch := first | assumption | (apply zM; assumption; assumption) | (apply zP; assumption; assumption; (intro e; cases e; done)) | omega) only [zm, zn, zp, zq, zr])) | (subst h; (simp (disch := first | assumption | (apply zM; assumption; assumption) | (apply zP; assumption; assumption; (intro e; cases e; done)) | omega) only [zm, zn, zp, zq, zr]))) ?_) | (with_reducible refine uc (hl _ rfl _) ?_) | ((with_reducible refine zR (hA _ _ _ _ (by exact Go.V.zO) (by omega) (by omega) (by omega) (by omega) (by exact Go.V.zN)) ?_); rintro _ S ⟨rfl, τ1, ⟨f1, n1⟩, rfl⟩; have n1s := n1.symm) | ((with_reducible refine zR (hB _ _ _ _ (by exact Go.V.zO) (by omega) (by omega) (by omega) (by omega) (by exact Go.V.zN)) ?_); rintro _ S ⟨rfl, τ1, ⟨f1, n1⟩, rfl⟩; have n1s := n1.symm) | ((with_reducible refine zR (Q0m _ _ _ _ _ _ _ _ (Q0k Q0p (by assumption)) (by exact Go.V.zO) (by exact Go.V.zN)) ?_); rintro _ S ⟨rfl, τ1, ⟨f1, n1⟩, rfl⟩; have n1s := n1.symm) | ((with_reducible refine zR (Q0m _ _ _ _ _ _ _ _ (by repeat (first | exact Q0p | refine Q0k ?_ (by simp))) (by exact Go.V.zO) (by exact Go.V.zN)) ?_); rintro _ S ⟨rfl, τ1, ⟨f1, n1⟩, rfl⟩; have n1s := n1.symm) | ((with_reducible refine zR (Q4p _ _ _ _ _ _ _ (by exact Go.V.zO) (by exact Go.V.zN) (by assumption) (by assumption)) ?_); rintro _ S ⟨rfl, τ1, ⟨f1, n1⟩, rfl⟩; have n1s := n1.symm) | ((with_reducible refine zR (Q3v _ _ _ _ _ _ _ (by exact Go.V.zO) (by exact Go.V.zN)) ?_); rintro _ S ⟨rfl, τ1, ⟨f1, n1⟩, rfl⟩; have n1s := n1.symm) | (with_reducible refine uc (Q7h _ (by assumption) _ (by first | assumption | rfl) _) ?_) | (with_reducible refine uc (w_ops _) ?_) | (refine Q0d (by exact Go.V.zK) ?_) | (refine Q0e (by exact Go.V.zK) ?_)); (try refine zsR zz.out ?_)) | refine zmR zz.out ?_ | refine zo ?_ | omega | refine ztR zz.out ?_ | fail)); try (all_goals clear zz))
    all_goals first | exact ⟨_, .refl _, τ1, ⟨f1, n1⟩, Q3j (by simp) rfl (by omega)⟩ | (exfalso; omega)
theorem Q9y : ∀ t : Tr, t.wf → t.rg → Cx t
  | .val v, hw, hg => x_val v hw hg
  | .col t n, hw, hg => x_col t n
  | .null e, hw, hg => x_null e hw (Q9y e hw hg)
  | .neg e, hw, hg => x_neg e hw (Q9y e hw hg)
  | .not (.null x), hw, hg => x_not (.null x) hw (x_null x hw (Q9y x hw hg)) (fun y hy => by cases hy; exact Q9y x hw hg)
  | .not (.val v), hw, hg => x_not (.val v) hw (Q9y (.val v) hw hg) (fun y hy => by cases hy)
  | .not (.col t n), hw, hg => x_not (.col t n) hw (Q9y (.col t n) hw hg) (fun y hy => by cases hy)
  | .not (.not e), hw, hg => x_not (.not e) hw (Q9y (.not e) hw hg) (fun y hy => by cases hy)
  | .not (.neg e), hw, hg => x_not (.neg e) hw (Q9y (.neg e) hw hg) (fun y hy => by cases hy)
  | .not (.op k a b), hw, hg => x_not (.op k a b) hw (Q9y (.op k a b) hw hg) (fun y hy => by cases hy)
  | .op k a b, hw, hg => x_op k a b hw (Q9y a hw.2.1 hg.1) (Q9y b hw.2.2 hg.2)
theorem good_wr {t : Tk} (h : GoodT t) : WrOK t := by
  obtain ⟨k, s, n, a⟩ := t
  rcases h with ⟨rfl, h1, rfl⟩ | ⟨rfl, h1, rfl⟩ | ⟨rfl, rfl, h1⟩ | ⟨rfl, h1, rfl⟩ | ⟨rfl, h1, rfl⟩
  · have h2 : s.length ≤ 16 := (X6b h1).2.1
    exact ⟨by show 0 < _; omega, fun h => (by cases h), by show s.length ≤ 2000; omega⟩
  · have h2 : s.length ≤ 16 := words_len s (X3l h1)
    exact ⟨by show 0 < _; omega, fun h => (by cases h), by show s.length ≤ 2000; omega⟩
  · have h2 : n ≤ 9223372036854775807 := h1
    exact ⟨by show n < _; omega, fun h => (by cases h), by show ([] : By).length ≤ 2000; simp⟩
  · have h2 : s.length ≤ 40 := h1
    exact ⟨by show 0 < _; omega, fun h => h2, by show s.length ≤ 2000; omega⟩
  · have h2 : s.length ≤ 2 := signs_len s h1
    exact ⟨by show 0 < _; omega, fun h => (by cases h), by show s.length ≤ 2000; omega⟩
theorem w_end (B B' : Sg) (ω τ : Nat) (l : List Tk) (d : Int) (m : Nat) (hsub : B'.sub (WS B ω τ l d m)) (hg : ∀ x ∈ l, GoodT x) (hl : l.length ≤ 2 ^ 30) : VCalls Tryz.prog 22 [.ref ω 0] (WS B ω τ l d m) (fun x σ' => x = .tup [.s (bs (fin l m).1), .i (fin l m).2] ∧ σ' = B') := by
  have hwl := writeT_len hg
  have hW := j_write l (.tok τ 4) (fun x hx => good_wr (hg x hx)) (by omega) (by omega)
  unfold fin
  (refine vfun (fun _ => .no) Q0h Tryz.func22 (by kernel_rfl) ?_; simp only [Q0f, Tryz.f22, zv])
  (have zz := Bx.mk (j4 ui0 ui3 ui4 (j9 ui9 ui30 ui55 ui56 ui57 ui58 ui59 Q1k Q0v)); (repeat' (first | with_reducible rfl | exact trivial | (with_reducible first | apply And.intro | apply Q0a | apply Q0b | refine Q0c (by decide +kernel) ?_ | intro _) | refine zaY zz.out ?_ | ((first | (with_reducible refine uc (hW _) ?_) | (with_reducible refine uc (j_write _ _ (by assumption) (by assumption) (by assumption) _) ?_) | (refine Q0d (by exact Go.V.zK) ?_) | (refine Q0e (by exact Go.V.zK) ?_)); (try refine zsY zz.out ?_)) | refine zo ?_ | omega | refine ztY zz.out ?_ | fail)); try (all_goals clear zz))
  · exact ⟨B', hsub, by rw [if_pos (by omega)], rfl⟩
  · exact ⟨B', hsub, by rw [if_neg (by omega), if_pos (by omega)], rfl⟩
  · exact ⟨B', hsub, by rw [if_neg (by omega), if_neg (by omega)], rfl⟩
theorem w_Expr (e : Ex) (hL : Lim e) (hlen : rt e = true → (toTr e).tk.length ≤ 2 ^ 30) (σ : Sg) : VCalls Tryz.prog 11 [.agg (exA e)] σ (fun x σ' => x = .tup [.s (bs (exprR e).1), .i (exprR e).2] ∧ σ' = σ) := by
  have hel := Q0u e
  have het := Q0t e
  have hr := Q9m e hL
  unfold exprR
  cases hb : rt e with
  | false =>
    rw [hb] at hr
    generalize exA e = E at *
    (refine vfun (fun k => if k = 1 then .ro else .no) Q0h Tryz.func11 (by kernel_rfl) ?_; simp only [Q0f, Tryz.f11, zv])
    (have zz := Bx.mk (j4 ui0 ui3 ui4 (j9 ui9 ui22 ui23 ui24 ui25 ui26 ui30 ui31 (j9 ui55 ui56 ui57 ui58 ui59 Q1k Q0v hel het))); (repeat' (first | with_reducible rfl | exact trivial | (with_reducible first | apply And.intro | apply Q0a | apply Q0b | refine Q0c (by decide +kernel) ?_ | intro _) | refine zaY zz.out ?_ | ((first | (with_reducible refine uc (hr _) ?_) | (with_reducible refine uc (Q9m _ (by assumption) _) ?_) | (refine Q0d (by exact Go.V.zK) ?_) | (refine Q0e (by exact Go.V.zK) ?_)); (try refine zsY zz.out ?_)) | refine zo ?_ | omega | refine ztY zz.out ?_ | fail)); try (all_goals clear zz))
    all_goals exact ⟨_, .refl _, rfl⟩
  | true =>
    rw [hb] at hr
    obtain ⟨q1, q2⟩ := X1j e hb
    have hlen := hlen hb
    have hrg := X3o (toTr e) (by rw [q1]; exact hL)
    have hX : Cx (toTr e) := Q9y (toTr e) q2 hrg
    have hdp := X4k (toTr e)
    have hgd := Q7e (toTr e) q2 hrg
    unfold Cx Wr at hX
    rw [q1] at hX
    generalize (toTr e).tk = TT at *
    generalize (toTr e).dp = D at *
    generalize exA e = E at *
    have hX0 : ∀ (S : Sg) (ω : Nat), S ω = some (.cells 59 [.sl .nil [], .i 0, .i 0]) → VCalls Tryz.prog 21 [.ref ω 0, .agg E] S (fun x σ' => x = .tup [] ∧ ∃ τ', okS S ω τ' ∧ σ' = WS S ω τ' TT 0 (D : Nat)) := fun S ω hS => by
      refine VCalls.tok0 (e := 102) 0 4 hS rfl (fun τ hτ hne => ?_)
      have := hX S ω τ [] 0 0 ⟨hτ, hne⟩ (by omega) (by omega) (by omega) (by omega) (by simp; omega)
      rw [List.nil_append] at this
      refine zR this (fun x σ' hx => ?_)
      obtain ⟨rfl, τ', ok, rfl⟩ := hx
      exact ⟨rfl, τ', ok, Q3j rfl rfl (by omega)⟩
    (refine vfun (fun k => if k = 1 then .ro else .no) Q0h Tryz.func11 (by kernel_rfl) ?_; simp only [Q0f, Tryz.f11, zv])
    (have zz := Bx.mk (j4 ui0 ui3 ui4 (j9 ui9 ui22 ui23 ui24 ui25 ui26 ui30 ui31 (j9 ui55 ui56 ui57 ui58 ui59 Q1k Q0v hel het))); (repeat' (first | with_reducible rfl | exact trivial | (with_reducible first | apply And.intro | apply Q0a | apply Q0b | refine Q0c (by decide +kernel) ?_ | intro _) | refine zaY zz.out ?_ | ((first | (with_reducible refine uc (hr _) ?_) | ((with_reducible refine zR (hX0 _ _ (by exact Go.V.zK)) ?_); rintro _ S ⟨rfl, τ1, hok, rfl⟩) | (with_reducible refine uc (Q9m _ (by assumption) _) ?_) | (refine Q0d (by exact Go.V.zK) ?_) | (refine Q0e (by exact Go.V.zK) ?_)); (try refine zsY zz.out ?_)) | refine zo ?_ | omega | refine ztY zz.out ?_ | fail)); try (all_goals clear zz))
    rename_i ω hω
    obtain ⟨f1, n1⟩ := hok
    have f1 := (Sg.none_set f1).2
    refine zR (w_end _ σ ω τ1 TT 0 D ?_ hgd hlen) ?_
    · (exact Go.V.zu)
    rintro _ S2 ⟨rfl, rfl⟩
    simp only [vO, vQ, ↓vP, vE, vS, vB, vL, vF, vM, vN, Q0g, Nat.reduceEqDiff, Nat.reduceAdd, Nat.reduceLeDiff, ne_eq, not_false_eq_true, Nat.reduceMul, Nat.reduceSub, Int.toNat_zero, Int.reduceToNat, vT]
    (have zz := Bx.mk (j2 ui0 (j9 ui3 ui4 ui9 ui22 ui23 ui24 ui25 ui26 (j9 ui30 ui31 ui55 ui56 ui57 ui58 ui59 Q1k Q0v))); (repeat' (first | with_reducible rfl | exact trivial | (with_reducible first | apply And.intro | apply Q0a | apply Q0b | refine Q0c (by decide +kernel) ?_ | intro _) | refine zaY zz.out ?_ | ((first | (with_reducible refine uc (Q9m _ (by assumption) _) ?_) | (refine Q0d (by exact Go.V.zK) ?_) | (refine Q0e (by exact Go.V.zK) ?_)); (try refine zsY zz.out ?_)) | refine zo ?_ | omega | refine ztY zz.out ?_ | fail)); try (all_goals clear zz))
    all_goals exact ⟨_, .refl _, rfl⟩
end Go.Proofs.YtjdapkelojdefaaGreatDoor
namespace Go.Print
open Go.V Go.Lex Go.Parse Go.Proofs.YtjdapkelojdefaaGreatDoor
theorem sepT_snoc {β : Type} (one : β → List Tk) (x : β) : ∀ l : List β, sepT one (l ++ [x]) = sepT one l ++ ((if l = [] then [] else [wd [44]]) ++ one x)
  | [] => rfl
  | [y] => by show one y ++ wd [44] :: one x = _; simp [sepT]
  | y :: z :: r => by
    have ih := sepT_snoc one x (z :: r)
    show one y ++ wd [44] :: sepT one ((z :: r) ++ [x]) = (one y ++ wd [44] :: sepT one (z :: r)) ++ _
    rw [ih]; simp
theorem maxD_snoc {β : Type} (one : β → Nat) (x : β) : ∀ l : List β, maxD one (l ++ [x]) = max (maxD one l) (one x)
  | [] => by show max (one x) 0 = max 0 (one x); omega
  | y :: r => by
    have ih := maxD_snoc one x r
    show max (one y) (maxD one (r ++ [x])) = max (max (one y) (maxD one r)) (one x)
    rw [ih]; omega
theorem sepT_take {β : Type} (one : β → List Tk) {l : List β} {k : Nat} (h : k < l.length) : sepT one (l.take (k + 1)) = sepT one (l.take k) ++ ((if k = 0 then [] else [wd [44]]) ++ one l[k]) := by
  rw [List.take_succ_eq_append_getElem h, sepT_snoc]
  cases k with
  | zero => rfl
  | succ k =>
    have hq : (l.take (k + 1)).length = k + 1 := by rw [List.length_take]; omega
    have : l.take (k + 1) ≠ [] := fun e => by rw [e] at hq; cases hq
    rw [if_neg this, if_neg (by omega)]
theorem X7t {β : Type} (one : β → Nat) {l : List β} {k : Nat} (h : k < l.length) : maxD one (l.take (k + 1)) = max (maxD one (l.take k)) (one l[k]) := by
  rw [List.take_succ_eq_append_getElem h, maxD_snoc]
theorem sepT_le {β : Type} (one : β → List Tk) (l : List β) : ∀ k, (sepT one (l.take k)).length ≤ (sepT one l).length := fun k => by
  rcases Nat.lt_or_ge k l.length with hk | hk
  · have h2 : ∀ j, k + j ≤ l.length → (sepT one (l.take k)).length ≤ (sepT one (l.take (k + j))).length := fun j => by
      induction j with
      | zero => exact fun _ => Nat.le_refl _
      | succ j ih =>
        intro hj
        have h3 := sepT_take one (l := l) (k := k + j) (by omega)
        rw [← Nat.add_assoc, h3, zw]
        have := ih (by omega)
        omega
    have := h2 (l.length - k) (by omega)
    rwa [show k + (l.length - k) = l.length by omega, List.take_length] at this
  · rw [List.take_of_length_le hk]; exact Nat.le_refl _
theorem maxD_le {β : Type} (one : β → Nat) (l : List β) : ∀ k, maxD one (l.take k) ≤ maxD one l := fun k => by
  rcases Nat.lt_or_ge k l.length with hk | hk
  · have h2 : ∀ j, k + j ≤ l.length → maxD one (l.take k) ≤ maxD one (l.take (k + j)) := fun j => by
      induction j with
      | zero => exact fun _ => Nat.le_refl _
      | succ j ih =>
        intro hj
        have h3 := X7t one (l := l) (k := k + j) (by omega)
        rw [← Nat.add_assoc, h3]
        have := ih (by omega)
        omega
    have := h2 (l.length - k) (by omega)
    rwa [show k + (l.length - k) = l.length by omega, List.take_length] at this
  · rw [List.take_of_length_le hk]; exact Nat.le_refl _
end Go.Print
namespace Go.Proofs.YtjdapkelojdefaaGreatDoor
open Go Go.V Go.Lex Go.Parse Go.Print
theorem X9g {a b : Sg} (h : a = b) : a.sub b := h ▸ .refl _
def Wf (ω : Nat) (f : FuncId) (va : List AV) (tk : List Tk) (dp : Nat) : Prop := ∀ (B : Sg) (τ : Nat) (l : List Tk) (d m : Int), okS B ω τ → 0 ≤ d → d ≤ m → m ≤ 2 ^ 41 → d + dp ≤ 2 ^ 40 → l.length + tk.length ≤ 2 ^ 36 →
  VCalls Tryz.prog f va (WS B ω τ l d m) (fun x σ' => x = .tup [] ∧ ∃ τ', okS B ω τ' ∧ σ' = WS B ω τ' (l ++ tk) d (max m (d + dp)))
theorem wf_expr {e : Ex} (hr : rt e = true) (hL : Lim e) (ω : Nat) : Wf ω 21 [.ref ω 0, .agg (exA e)] (toTr e).tk (toTr e).dp := by
  obtain ⟨q1, q2⟩ := X1j e hr
  have hX : Cx (toTr e) := Q9y (toTr e) q2 (X3o (toTr e) (by rw [q1]; exact hL))
  unfold Cx Wr at hX
  rw [q1] at hX
  intro B τ l d m h h0 h1 h2 h3 h4
  exact hX B ω τ l d m h h0 h1 h2 h3 h4
def expW (es : List (List AV)) : List Ex → List Tk
  | [] => []
  | e :: _ => wdsE es ++ (toTr e).tk
theorem expW1 (w : By) (l : List Ex) : expW [[.val (.string (bs w))]] l = expT [w] l := by
  cases l with
  | nil => rfl
  | cons e r => show wdsE _ ++ _ = _; rw [Q5w, Q9b]; rfl
theorem expW2 (w v : By) (l : List Ex) : expW [[.val (.string (bs w))], [.val (.string (bs v))]] l = expT [w, v] l := by
  cases l with
  | nil => rfl
  | cons e r => show wdsE _ ++ _ = _; rw [Q5w, Q5w, Q9b]; rfl
theorem X4z (ω : Nat) (x : List Ex) (hx : oneB x = true) (hL : ∀ e ∈ x, Lim e) (o o2 : Own) (es : List (List AV)) (he : okW es) : Wf ω 66 [.ref ω 0, .sl o (exsA x), .sl o2 es] (expW es x) (expD x) := by
  intro B τ l d m h h0 h1 h2 h3 h4
  cases x with
  | nil =>
    rw [Q0s]
    have hz0 : (0 < ((0 : Nat) : Int)) = False := by simp
    (refine vfun (fun _ => .no) Q0h Tryz.func66 (by kernel_rfl) ?_; simp only [Q0f, Tryz.f66, zv])
    (have zz := Bx.mk (j2 ui0 (j9 ui3 ui4 ui9 ui22 ui23 ui24 ui25 ui26 (j9 ui55 ui56 ui57 ui58 ui59 ui75 Q1k Q0v hz0))); (repeat' (first | with_reducible rfl | exact trivial | (with_reducible first | apply And.intro | apply Q0a | apply Q0b | refine Q0c (by decide +kernel) ?_ | intro _) | refine zaY zz.out ?_ | ((first | ((with_reducible refine zR (Q0m _ _ _ _ _ _ _ _ (by repeat (first | exact Q0p | refine Q0k ?_ (by simp))) (by exact Go.V.zO) (by exact Go.V.zN)) ?_); rintro _ S ⟨rfl, τ1, ⟨f1, n1⟩, rfl⟩; have n1s := n1.symm) | (refine Q0d (by exact Go.V.zK) ?_) | (refine Q0e (by exact Go.V.zK) ?_)); (try refine zsY zz.out ?_)) | refine zo ?_ | omega | refine ztY zz.out ?_ | fail)); try (all_goals clear zz))
    all_goals exact ⟨_, .refl _, τ, h, by show _ = WS B ω τ (l ++ []) d (max m (d + (0 : Nat))); exact Q3j (by simp) rfl (by omega)⟩
  | cons e r =>
    obtain ⟨g1, g2⟩ : (e :: r).length ≤ 1 ∧ rts (e :: r) = true := by
      unfold oneB at hx; simpa only [Bool.and_eq_true, decide_eq_true_eq] using hx
    have hr : r = [] := by cases r with | nil => rfl | cons => simp at g1
    subst hr
    have g2 : rt e = true := by rw [Q3d] at g2; exact (Bool.and_eq_true _ _ ▸ g2).1
    have hX := wf_expr g2 (hL e (by simp)) ω B
    have hel := Q0u e
    have het := Q0t e
    have hed := Q1a e
    have heo := Q1n e
    have ew : expW es [e] = wdsE es ++ (toTr e).tk := rfl
    have ed : expD [e] = (toTr e).dp := rfl
    have ewl : (wdsE es).length = es.length := zA ..
    rw [ew] at h4 ⊢
    rw [ed] at h3 ⊢
    rw [Q2n, Q0s]
    rw [zw] at h4
    generalize (toTr e).tk = TT at *
    generalize (toTr e).dp = D at *
    generalize exA e = E at *
    (refine vfun (fun _ => .no) Q0h Tryz.func66 (by kernel_rfl) ?_; simp only [Q0f, Tryz.f66, zv])
    (have zz := Bx.mk (j6 ui0 ui3 ui4 ui9 ui22 (j9 ui23 ui24 ui25 ui26 ui55 ui56 ui57 ui58 (j9 ui59 ui75 Q1k Q0v hel het hed heo ewl))); (repeat' (first | with_reducible rfl | exact trivial | (with_reducible first | apply And.intro | apply Q0a | apply Q0b | refine Q0c (by decide +kernel) ?_ | intro _) | refine zaY zz.out ?_ | ((first | ((with_reducible refine zR (Q0m _ _ _ _ _ _ _ _ he (by exact Go.V.zO) (by exact Go.V.zN)) ?_); rintro _ S ⟨rfl, τ1, ⟨f1, n1⟩, rfl⟩; have n1s := n1.symm) | ((with_reducible refine zR (hX _ _ _ _ (by exact Go.V.zO) (by omega) (by omega) (by omega) (by omega) (by first | omega | (simp only [zw, ewl]; omega))) ?_); rintro _ S ⟨rfl, τ1, ⟨f1, n1⟩, rfl⟩; have n1s := n1.symm) | ((with_reducible refine zR (Q0m _ _ _ _ _ _ _ _ (by repeat (first | exact Q0p | refine Q0k ?_ (by simp))) (by exact Go.V.zO) (by exact Go.V.zN)) ?_); rintro _ S ⟨rfl, τ1, ⟨f1, n1⟩, rfl⟩; have n1s := n1.symm) | (refine Q0d (by exact Go.V.zK) ?_) | (refine Q0e (by exact Go.V.zK) ?_)); (try refine zsY zz.out ?_)) | refine zo ?_ | omega | refine ztY zz.out ?_ | fail)); try (all_goals clear zz))
    all_goals exact ⟨_, .refl _, τ1, ⟨f1, n1⟩, Q3j (by simp) rfl (by omega)⟩
theorem w_list {β : Type} (ω : Nat) (f : FuncId) (cap : List AV) (x : List β) (one : β → List Tk) (dpf : β → Nat) (n : Nat) (hxn : n = x.length) (hn : x.length ≤ 2 ^ 30) (hf : ∀ i (hi : i < x.length), Wf ω f (.i (i : Nat) :: cap) (one x[i]) (dpf x[i])) :
    Wf ω 120 [.ref ω 0, .i n, .fn f cap] (sepT one x) (maxD dpf x) := by
  subst hxn
  intro B τ l d m h h0 h1 h2 h3 h4
  have hle := sepT_le one x
  have hmd := maxD_le dpf x
  (refine vfun (fun _ => .no) Q0h Tryz.func120 (by kernel_rfl) ?_; simp only [Q0f, Tryz.f120, zv])
  (have zz := Bx.mk (j5 ui0 ui3 ui4 ui9 (j9 ui55 ui56 ui57 ui58 ui59 ui75 Q1k Q0v X9v)); (repeat' (first | with_reducible rfl | exact trivial | (with_reducible first | apply And.intro | apply Q0a | apply Q0b | refine Q0c (by decide +kernel) ?_ | intro _) | refine zaY zz.out ?_ | ((first | ((with_reducible refine zR (Q0m _ _ _ _ _ _ _ _ (by repeat (first | exact Q0p | refine Q0k ?_ (by simp))) (by exact Go.V.zO) (by exact Go.V.zN)) ?_); rintro _ S ⟨rfl, τ1, ⟨f1, n1⟩, rfl⟩; have n1s := n1.symm) | (refine Q0d (by exact Go.V.zK) ?_) | (refine Q0e (by exact Go.V.zK) ?_)); (try refine zsY zz.out ?_)) | refine zo ?_ | omega | refine ztY zz.out ?_ | fail)); try (all_goals clear zz))
  refine VW.loop3 (0 : Nat) τ () (fun k τ' _ => k ≤ x.length ∧ okS B ω τ') (fun k _ _ => [(0, .ref ω 0), (2, .fn f cap), (7, .i x.length), (8, .i k)]) (fun k τ' _ => WS B ω τ' (l ++ sepT one (x.take k)) d (max m (d + maxD dpf (x.take k)))) (fun k _ _ => x.length - k) ⟨Nat.zero_le _, h⟩ ?_ ?_ ?_
  · exact X9g (Q3j (by simp [sepT]) rfl (by show max m (d + (0 : Nat)) = m; omega))
  · simp only [vO, vQ, ↓vP, vE, vS, vB, vL, vF, vM, vN, Q0g, Nat.reduceEqDiff, Nat.reduceAdd, Nat.reduceLeDiff, ne_eq, not_false_eq_true, Nat.reduceMul, Nat.reduceSub, Int.toNat_zero, Int.reduceToNat, vT]
    all_goals rfl
  rintro k τ' _ ⟨hk, h5, h6⟩
  have h6' := h6.symm
  rcases Nat.lt_or_ge k x.length with hk2 | hk2
  · have hX := hf k hk2 B
    have hs := sepT_take one hk2
    have hm := X7t dpf hk2
    have hl1 := hle (k + 1)
    have hm1 := hmd (k + 1)
    rw [hs] at hl1
    rw [hm] at hm1
    rw [zw, zw] at hl1
    generalize one x[k] = TT at *
    generalize dpf x[k] = D at *
    generalize hA : sepT one (x.take k) = A at *
    generalize hMm : maxD dpf (x.take k) = M at *
    clear hle hmd hf
    by_cases hz : k = 0
    · rw [if_pos hz] at hl1
      simp only [zy] at hl1
      (have zz := Bx.mk (j7 ui0 ui3 ui4 ui9 ui55 ui56 (j9 ui57 ui58 ui59 ui75 Q1k Q0v X9v @List.cons_append.{0} @List.nil_append.{0})); (repeat' (first | with_reducible rfl | exact trivial | (with_reducible first | apply And.intro | apply Q0a | apply Q0b | refine Q0c (by decide +kernel) ?_ | intro _) | refine zaY zz.out ?_ | ((first | ((with_reducible refine zR (hX _ _ _ _ (by exact Go.V.zO) (by omega) (by omega) (by omega) (by omega) (by first | omega | (simp only [zw, zx, zy]; omega))) ?_); rintro _ S ⟨rfl, τ1, ⟨f1, n1⟩, rfl⟩; have n1s := n1.symm) | ((with_reducible refine zR (Q0m _ _ _ _ _ _ _ _ (by repeat (first | exact Q0p | refine Q0k ?_ (by simp))) (by exact Go.V.zO) (by exact Go.V.zN)) ?_); rintro _ S ⟨rfl, τ1, ⟨f1, n1⟩, rfl⟩; have n1s := n1.symm) | (refine Q0d (by exact Go.V.zK) ?_) | (refine Q0e (by exact Go.V.zK) ?_)); (try refine zsY zz.out ?_)) | refine zo ?_ | omega | refine ztY zz.out ?_ | fail)); try (all_goals clear zz))
      all_goals exact ⟨k + 1, τ1, (), ⟨⟨hk2, f1, n1⟩, by omega⟩, X9g (Q3j (by rw [hs, if_pos hz]; simp) rfl (by rw [hm]; omega)), rfl⟩
    · rw [if_neg hz] at hl1
      simp only [zx, zy] at hl1
      (have zz := Bx.mk (j8 ui0 ui3 ui4 ui9 ui55 ui56 ui57 (j9 ui58 ui59 ui75 Q1k Q0v X9v @List.cons_append.{0} @List.nil_append.{0} WLg)); (repeat' (first | with_reducible rfl | exact trivial | (with_reducible first | apply And.intro | apply Q0a | apply Q0b | refine Q0c (by decide +kernel) ?_ | intro _) | refine zaY zz.out ?_ | ((first | ((with_reducible refine zR (hX _ _ _ _ (by exact Go.V.zO) (by omega) (by omega) (by omega) (by omega) (by first | omega | (simp only [zw, zx, zy]; omega))) ?_); rintro _ S ⟨rfl, τ1, ⟨f1, n1⟩, rfl⟩; have n1s := n1.symm) | ((with_reducible refine zR (Q0m _ _ _ _ _ _ _ _ (by repeat (first | exact Q0p | refine Q0k ?_ (by simp))) (by exact Go.V.zO) (by exact Go.V.zN)) ?_); rintro _ S ⟨rfl, τ1, ⟨f1, n1⟩, rfl⟩; have n1s := n1.symm) | (refine Q0d (by exact Go.V.zK) ?_) | (refine Q0e (by exact Go.V.zK) ?_)); (try refine zsY zz.out ?_)) | refine zo ?_ | omega | refine ztY zz.out ?_ | fail)); try (all_goals clear zz))
      all_goals exact ⟨k + 1, τ1, (), ⟨⟨hk2, f1, n1⟩, by omega⟩, X9g (Q3j (by rw [hs, if_neg hz]; simp) rfl (by rw [hm]; omega)), rfl⟩
  · (have zz := Bx.mk (j5 ui0 ui3 ui4 ui9 (j9 ui55 ui56 ui57 ui58 ui59 ui75 Q1k Q0v X9v)); (repeat' (first | with_reducible rfl | exact trivial | (with_reducible first | apply And.intro | apply Q0a | apply Q0b | refine Q0c (by decide +kernel) ?_ | intro _) | refine zaY zz.out ?_ | ((first | ((with_reducible refine zR (Q0m _ _ _ _ _ _ _ _ (by repeat (first | exact Q0p | refine Q0k ?_ (by simp))) (by exact Go.V.zO) (by exact Go.V.zN)) ?_); rintro _ S ⟨rfl, τ1, ⟨f1, n1⟩, rfl⟩; have n1s := n1.symm) | (refine Q0d (by exact Go.V.zK) ?_) | (refine Q0e (by exact Go.V.zK) ?_)); (try refine zsY zz.out ?_)) | refine zo ?_ | omega | refine ztY zz.out ?_ | fail)); try (all_goals clear zz))
    rw [List.take_of_length_le hk2]
    all_goals exact ⟨_, .refl _, τ', ⟨h5, h6⟩, rfl⟩
theorem X5p {x : It} (h : Q4o x = true) : ((x.1 = 1 ∨ x.1 = 3) ∧ x.2 = []) ∨ ((x.1 = 2 ∨ x.1 = 4 ∨ x.1 = 5 ∨ x.1 = 6 ∨ x.1 = 7) ∧ ∃ e, x.2 = [e] ∧ rt e = true) := by
  obtain ⟨k, l⟩ := x
  unfold Q4o at h
  simp only [Bool.and_eq_true, decide_eq_true_eq] at h ⊢
  obtain ⟨h1, h2, h3⟩ := h
  by_cases hk : k = 1 ∨ k = 3
  · rw [if_pos hk] at h2
    exact .inl ⟨hk, List.length_eq_zero_iff.1 h2⟩
  · rw [if_neg hk] at h2
    refine .inr ⟨by omega, ?_⟩
    match l, h2, h3 with
    | [e], _, h3 =>
      rw [Q3d, Bool.and_eq_true] at h3
      exact ⟨e, rfl, h3.1⟩
theorem w_item (ω : Nat) (x : It) (hx : Q4o x = true) (hL : ∀ e ∈ x.2, Lim e) : Wf ω 125 [.ref ω 0, .agg (Q3x x)] (Q8j x) (expD x.2) := by
  obtain ⟨k, a⟩ := x
  unfold Q3x
  rcases X5p hx with ⟨hk, ha⟩ | ⟨hk, e, ha, hr⟩
  · dsimp only at hk ha hL ⊢
    subst ha
    rw [Q0s]
    rcases hk with rfl | rfl
    · intro B τ l d m h h0 h1 h2 h3 h4
      have e1 : Q8j (1, []) = wds [[42]] := rfl
      have e2 : expD [] = 0 := rfl
      rw [e1, e2] at *
      (refine vfun (fun _ => .ro) Q0h Tryz.func125 (by kernel_rfl) ?_; simp only [Q0f, Tryz.f125, zv])
      (have zz := Bx.mk (j4 ui0 ui3 ui4 (j9 ui9 ui22 ui23 ui24 ui25 ui26 ui55 ui56 (j9 ui57 ui58 ui59 ui70 ui71 ui75 Q1k Q0v WLg))); (repeat' (first | with_reducible rfl | exact trivial | (with_reducible first | apply And.intro | apply Q0a | apply Q0b | refine Q0c (by decide +kernel) ?_ | intro _) | refine zaY zz.out ?_ | ((first | ((with_reducible refine zR (Q0m _ _ _ _ _ _ _ _ (by repeat (first | exact Q0p | refine Q0k ?_ (by simp))) (by exact Go.V.zO) (by exact Go.V.zN)) ?_); rintro _ S ⟨rfl, τ1, ⟨f1, n1⟩, rfl⟩; have n1s := n1.symm) | (refine Q0d (by exact Go.V.zK) ?_) | (refine Q0e (by exact Go.V.zK) ?_)); (try refine zsY zz.out ?_)) | refine zo ?_ | omega | refine ztY zz.out ?_ | fail)); try (all_goals clear zz))
      all_goals exact ⟨_, .refl _, τ1, ⟨f1, n1⟩, Q3j rfl rfl (by omega)⟩
    · intro B τ l d m h h0 h1 h2 h3 h4
      have e1 : Q8j (3, []) = wds [[67, 79, 85, 78, 84], [40], [42], [41]] := rfl
      have e2 : expD [] = 0 := rfl
      rw [e1, e2] at *
      (refine vfun (fun _ => .ro) Q0h Tryz.func125 (by kernel_rfl) ?_; simp only [Q0f, Tryz.f125, zv])
      (have zz := Bx.mk (j4 ui0 ui3 ui4 (j9 ui9 ui22 ui23 ui24 ui25 ui26 ui55 ui56 (j9 ui57 ui58 ui59 ui70 ui71 ui75 Q1k Q0v WLg))); (repeat' (first | with_reducible rfl | exact trivial | (with_reducible first | apply And.intro | apply Q0a | apply Q0b | refine Q0c (by decide +kernel) ?_ | intro _) | refine zaY zz.out ?_ | ((first | ((with_reducible refine zR (Q0m _ _ _ _ _ _ _ _ (by repeat (first | exact Q0p | refine Q0k ?_ (by simp))) (by exact Go.V.zO) (by exact Go.V.zN)) ?_); rintro _ S ⟨rfl, τ1, ⟨f1, n1⟩, rfl⟩; have n1s := n1.symm) | (refine Q0d (by exact Go.V.zK) ?_) | (refine Q0e (by exact Go.V.zK) ?_)); (try refine zsY zz.out ?_)) | refine zo ?_ | omega | refine ztY zz.out ?_ | fail)); try (all_goals clear zz))
      all_goals exact ⟨_, .refl _, τ1, ⟨f1, n1⟩, Q3j rfl rfl (by omega)⟩
  · dsimp only at hk ha hL ⊢
    subst ha
    have hX := wf_expr hr (hL e (by simp)) ω
    have e2 : expD [e] = (toTr e).dp := rfl
    have hI : Q8j (k, [e]) = if k = 2 then (toTr e).tk else wds [(if k = 4 then [67, 79, 85, 78, 84] else if k = 5 then [83, 85, 77] else if k = 6 then [77, 73, 78] else [77, 65, 88]), [40]] ++ (toTr e).tk ++ [wd [41]] := by
      rcases hk with rfl | rfl | rfl | rfl | rfl <;> rfl
    have hel := Q0u e
    have het := Q0t e
    have hed := Q1a e
    have heo := Q1n e
    rw [e2, hI, Q2n, Q0s]
    clear e2 hI hL hr hx
    generalize (toTr e).tk = TT at *
    generalize (toTr e).dp = D at *
    generalize exA e = E at *
    rcases hk with rfl | hk
    · simp only [if_true]
      intro B τ l d m h h0 h1 h2 h3 h4
      have hX := hX B
      (refine vfun (fun _ => .ro) Q0h Tryz.func125 (by kernel_rfl) ?_; simp only [Q0f, Tryz.f125, zv])
      (have zz := Bx.mk (j8 ui0 ui3 ui4 ui9 ui22 ui23 ui24 (j9 ui25 ui26 ui55 ui56 ui57 ui58 ui59 ui70 (j9 ui71 ui75 Q1k Q0v hel het hed heo WLg))); (repeat' (first | with_reducible rfl | exact trivial | (with_reducible first | apply And.intro | apply Q0a | apply Q0b | refine Q0c (by decide +kernel) ?_ | intro _) | refine zaY zz.out ?_ | ((first | ((with_reducible refine zR (hX _ _ _ _ (by exact Go.V.zO) (by omega) (by omega) (by omega) (by omega) (by exact Go.V.zN)) ?_); rintro _ S ⟨rfl, τ1, ⟨f1, n1⟩, rfl⟩; have n1s := n1.symm) | ((with_reducible refine zR (Q0m _ _ _ _ _ _ _ _ (by repeat (first | exact Q0p | refine Q0k ?_ (by simp))) (by exact Go.V.zO) (by exact Go.V.zN)) ?_); rintro _ S ⟨rfl, τ1, ⟨f1, n1⟩, rfl⟩; have n1s := n1.symm) | (refine Q0d (by exact Go.V.zK) ?_) | (refine Q0e (by exact Go.V.zK) ?_)); (try refine zsY zz.out ?_)) | refine zo ?_ | omega | refine ztY zz.out ?_ | fail)); try (all_goals clear zz))
      all_goals exact ⟨_, .refl _, τ1, ⟨f1, n1⟩, Q3j rfl rfl (by omega)⟩
    · rcases hk with rfl | rfl | rfl | rfl <;> simp only [Int.reduceEq, if_true, if_false]
      all_goals
        intro B τ l d m h h0 h1 h2 h3 h4
        have hX := hX B
        rw [zw, zw, Q3u] at h4
        simp only [zx, zy] at h4
        (refine vfun (fun _ => .ro) Q0h Tryz.func125 (by kernel_rfl) ?_; simp only [Q0f, Tryz.f125, zv])
        (have zz := Bx.mk (j8 ui0 ui3 ui4 ui9 ui22 ui23 ui24 (j9 ui25 ui26 ui55 ui56 ui57 ui58 ui59 ui70 (j9 ui71 ui75 Q1k Q0v hel het hed heo WLg))); (repeat' (first | with_reducible rfl | exact trivial | (with_reducible first | apply And.intro | apply Q0a | apply Q0b | refine Q0c (by decide +kernel) ?_ | intro _) | refine zaY zz.out ?_ | ((first | ((with_reducible refine zR (hX _ _ _ _ (by exact Go.V.zO) (by omega) (by omega) (by omega) (by omega) (by exact Go.V.zN)) ?_); rintro _ S ⟨rfl, τ1, ⟨f1, n1⟩, rfl⟩; have n1s := n1.symm) | ((with_reducible refine zR (Q0m _ _ _ _ _ _ _ _ (by repeat (first | exact Q0p | refine Q0k ?_ (by simp))) (by exact Go.V.zO) (by exact Go.V.zN)) ?_); rintro _ S ⟨rfl, τ1, ⟨f1, n1⟩, rfl⟩; have n1s := n1.symm) | (refine Q0d (by exact Go.V.zK) ?_) | (refine Q0e (by exact Go.V.zK) ?_)); (try refine zsY zz.out ?_)) | refine zo ?_ | omega | refine ztY zz.out ?_ | fail)); try (all_goals clear zz))
        all_goals exact ⟨_, .refl _, τ1, ⟨f1, n1⟩, Q3j (by simp [wds]) rfl (by omega)⟩
end Go.Proofs.YtjdapkelojdefaaGreatDoor
