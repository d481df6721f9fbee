/- Part 9 of the proof: G7, W11, W3, W4, W5, W6, E2, V17, V20, V21, E3, E4, E7. -/
import Derived.Test.YtjdapkelojdefaaGreatDoorN8
import Derived.Test.YtjdapkelojdefaaGreatDoorN7
import Derived.Test.YtjdapkelojdefaaGreatDoorN4
import Derived.Lib.Bytealg
import Derived.Lib.MakeNoZero
import Derived.Test.YtjdapkelojdefaaGreatDoorN6

set_option linter.all false
set_option maxRecDepth 100000
set_option maxHeartbeats 1000000
open Go.V.Sg renaming set_same → zn, set_ne → zp, set_ne' → zq, del_ne → zr, del_ne' → zv
open Option renaming getD_some → zw
open List renaming length_append → zx, length_cons → zy, append_assoc → zC, nil_append → zH
open Go.Cert renaming ne_of2 → zQ, ne_ob → zR
open Go.V.VCalls renaming mono → zU
namespace Go.Print
open Go.V Go.Lex Go.Parse Go.Proofs.YtjdapkelojdefaaGreatDoor
def Tr.rg : Tr → Prop
  | .val v => inR v.2.1
  | .col _ _ => True
  | .op _ a b => a.rg ∧ b.rg
  | .not e => e.rg
  | .neg e => e.rg
  | .null e => e.rg
theorem mkRds {t : Tr} {d : Nat} (hw : t.wf) (h : ∀ r, WF r → Stop t.lvl r → RL t.lvl (dp (10 - d)) (stR (t.tk ++ r) d) = (t.ex, stR r d)) : Rds t d := fun L r h1 hL hr hs => by
  obtain ⟨k, hk⟩ : ∃ k, L + k = t.lvl := ⟨t.lvl - L, by omega⟩
  have := (lvl_le t hw).2
  refine lift k L h1 (by omega) (by rw [hk]; exact h r hr (hs.mono hL)) hs (fun _ h4 => ?_)
  rw [X1e (X8f t)]
  exact noNot t hw (by omega)
theorem X5f {t : Tr} {d : Nat} (h : Rds t d) (hM : ∀ M r, rowM M → M = t.lvl → WF r → Stop (M + 1) r → RL M (dp (10 - d)) (stR (t.tk ++ r) d) = rowL (RL (M + 1) (dp (10 - d))) (fstM M) (wsM M) r.length t.ex (stR r d)) : RdsR t d := fun M r hm hle hr hs => by
  rcases Nat.lt_or_ge M t.lvl with hl | hl
  · rw [RL_row hm, row, h (M + 1) r (by omega) (by omega) hr hs]
    rfl
  · exact hM M r hm (by omega) hr hs
theorem fac_lit {D : Dp} {s s' : Rd} {v : Vl} (h : s.lit = (v, true, s')) : facL D s = (.mk 1 0 [] [] v [], s') := by
  unfold facL
  rw [h]
  rfl
theorem X6x {v : Vl} (h : okV v = true) : v = v0 ∨ (v.1 = 1 ∧ v.2.2 = [] ∧ v.2.1 ≠ -9223372036854775808) ∨ (v.1 = 2 ∧ v.2.1 = 0 ∧ v.2.2.length ≤ 40) := by
  obtain ⟨k, n, t⟩ := v
  unfold okV X8o at h
  simp only [Bool.and_eq_true, decide_eq_true_eq] at h
  obtain ⟨h, hm⟩ := h
  split at h
  · cases h
  · rename_i hn
    split at h
    · cases h
    · rename_i hl
      have hb : Y0d k n t = (n, t) := Classical.byContradiction fun hb => hn (.inr (.inr hb))
      have hk : k = 0 ∨ k = 1 ∨ k = 2 := by omega
      rcases hk with rfl | rfl | rfl
      · simp only [Y0d, if_true, Prod.mk.injEq] at hb
        left; rw [← hb.1, ← hb.2]
      · simp only [Y0d, Int.reduceEq, if_false, if_true, Prod.mk.injEq, true_and] at hb
        exact .inr (.inl ⟨rfl, hb.symm, hm⟩)
      · simp only [Y0d, Int.reduceEq, if_false, if_true, Prod.mk.injEq, and_true] at hb
        exact .inr (.inr ⟨rfl, hb.symm, by simp only; omega⟩)
theorem rd_val {v : Vl} {r : List Tk} {d : Nat} {D : Dp} (hw : okV v = true) (hr : inR v.2.1) : facL D (stR (litT v ++ r) d) = (.mk 1 0 [] [] v [], stR r d) := by
  refine fac_lit ?_
  rcases X6x hw with rfl | ⟨h1, h2, h3⟩ | ⟨h1, h2, h3⟩
  · show (stR (wT [78, 85, 76, 76] :: r) d).lit = _
    unfold Rd.lit
    rw [if_neg (fun h => h rfl), if_neg (Nat.ne_of_beq_eq_false rfl), if_neg (Nat.ne_of_beq_eq_false rfl), if_pos (.inl (by rw [is_no (fun w hw => by simp at hw; subst hw; rfl)]; decide)), Q4p rfl, Q4t rfl]
  · obtain ⟨k, n, t⟩ := v
    simp only at h1 h2 h3 hr
    subst h1 h2
    by_cases hn : n < 0
    · have e : litT (1, n, []) = [sT [45], iT (-n)] := by unfold litT numT; simp [hn]
      rw [e]
      show (stR (sT [45] :: iT (-n) :: r) d).lit = _
      unfold Rd.lit
      have hi : (stR (sT [45] :: iT (-n) :: r) d).is [Q2m] = 0 := Q4o (.inr rfl) (by decide)
      rw [if_neg (fun h => h rfl), if_neg (Nat.ne_of_beq_eq_false rfl), if_neg (Nat.ne_of_beq_eq_false rfl), hi, if_neg (fun h => h.elim (by decide) (fun h => h rfl))]
      have hv : IntKind.i64.wrap (0 - (((-n).toNat : Nat) : Int)) = n := by
        unfold inR at hr
        rw [w64 (by omega) (by omega)]
        omega
      show ((1, IntKind.i64.wrap (0 - (((-n).toNat : Nat) : Int)), []), true, stR r d) = _
      rw [hv]
    · have e : litT (1, n, []) = [iT n] := by unfold litT numT; simp [hn]
      rw [e]
      show (stR (iT n :: r) d).lit = _
      unfold Rd.lit
      rw [if_neg (fun h => h rfl), if_pos (show (hd (stR (iT n :: r) d).l).1 = 3 from rfl)]
      show ((1, ((n.toNat : Nat) : Int), []), true, stR r d) = _
      rw [show ((n.toNat : Nat) : Int) = n by omega]
  · obtain ⟨k, n, t⟩ := v
    simp only at h1 h2
    subst h1 h2
    show (stR ((4, t, 0, 0) :: r) d).lit = _
    unfold Rd.lit
    rw [if_neg (fun h => h rfl), if_neg (by show ¬ (4 : Nat) = 3; decide), if_pos (show (hd (stR (((4, t, 0, 0) : Tk) :: r) d).l).1 = 4 from rfl)]
    rfl
theorem Q5m {x : Tk} {r : List Tk} {d k : Nat} (h : x.1 = k) : (stR (x :: r) d).take k = stR r d := if_pos ⟨rfl, h⟩
theorem Q8j {x : Tk} {r : List Tk} {d k : Nat} (h : x.1 = k) : (stR (x :: r) d).tok k = x := if_pos ⟨rfl, h⟩
theorem X8t {n : By} {r : List Tk} {d : Nat} (h : isW (hd r) [46] = false) : Rd.column (stR (nT n :: r) d) = (.mk 2 0 [] n v0 [], stR r d) := by
  unfold Rd.column
  rw [Q5m (k := 1) (x := nT n) rfl, Q7t h, Q8j (k := 1) (x := nT n) rfl]
  rfl
theorem X8u {t n : By} {r : List Tk} {d : Nat} : Rd.column (stR (nT t :: sT [46] :: nT n :: r) d) = (.mk 2 0 t n v0 [], stR r d) := by
  unfold Rd.column
  rw [Q5m (k := 1) (x := nT t) rfl, Q4p rfl, Q8j (k := 1) (x := nT t) rfl, X0b, Q8j (k := 1) (x := nT n) rfl, Q5m (k := 1) (x := nT n) rfl]
  rfl
theorem rd_col {t n : By} {r : List Tk} {d : Nat} {D : Dp} (hs : Stop 7 r) : facL D (stR ((Tr.col t n).tk ++ r) d) = ((Tr.col t n).ex, stR r d) := by
  have hdot : isW (hd r) [46] = false := hs _ (by simp [opsF])
  rw [Tr.tk]
  by_cases ht : t = []
  · rw [if_pos ht]
    subst ht
    show facL D (stR (nT n :: r) d) = _
    unfold facL
    rw [lit_no (Nat.ne_of_beq_eq_false rfl) (Nat.ne_of_beq_eq_false rfl) (.inl rfl) rfl]
    have h1 : (stR (nT n :: r) d).is [Q2m, [40]] = -1 := is_no (fun w _ => rfl)
    simp only [h1, Bool.false_eq_true, if_false, Int.reduceEq, Int.reduceNeg]
    exact X8t hdot
  · rw [if_neg ht]
    show facL D (stR (nT t :: sT [46] :: nT n :: r) d) = _
    unfold facL
    rw [lit_no (Nat.ne_of_beq_eq_false rfl) (Nat.ne_of_beq_eq_false rfl) (.inl rfl) rfl]
    have h1 : (stR (nT t :: sT [46] :: nT n :: r) d).is [Q2m, [40]] = -1 := is_no (fun w _ => rfl)
    simp only [h1, Bool.false_eq_true, if_false, Int.reduceEq, Int.reduceNeg]
    exact X8u
theorem op_stop : ∀ k, k < 14 → 1 ≤ k → (opsF (lvK k + 1)).all (fun w => !isW (wd (ops.getD k [])) w) = true := by decide +kernel
theorem stop_op {k : Nat} {r : List Tk} (h1 : 1 ≤ k) (h2 : k ≤ 13) : Stop (lvK k + 1) (wd (ops.getD k []) :: r) := fun w hw => by
  have := List.all_eq_true.1 (op_stop k (by omega) h1) w hw
  show isW (wd (ops.getD k [])) w = false
  simpa using this
theorem op_test : ∀ k, k < 14 → 1 ≤ k → lvK k = 4 → (3 ≤ k ∧ k ≤ 8) ∧ ((wd (ops.getD k [])).1 = 2 ∨ (wd (ops.getD k [])).1 = 5) ∧ idx (wd (ops.getD k [])).2.1 tests < tests.length ∧ idx (wd (ops.getD k [])).2.1 tests = k - 3 := by decide +kernel
theorem op_rowA : ∀ k, k < 14 → 1 ≤ k → (lvK k = 4 ∨ (lvK k = 1 ∨ lvK k = 2 ∨ lvK k = 5 ∨ lvK k = 6)) := by decide +kernel
theorem op_rowB : ∀ k, k < 14 → 1 ≤ k → (lvK k = 4 ∨ (idx (wd (ops.getD k [])).2.1 (wsM (lvK k)) < (wsM (lvK k)).length ∧ fstM (lvK k) + ((idx (wd (ops.getD k [])).2.1 (wsM (lvK k)) : Nat) : Int) = (k : Int))) := by decide +kernel
theorem op_rowC : ∀ k, k < 14 → ((wd (ops.getD k [])).1 = 2 ∨ (wd (ops.getD k [])).1 = 5) := by decide +kernel
theorem op_row (k : Nat) (h : k < 14) (h1 : 1 ≤ k) (h4 : lvK k ≠ 4) : rowM (lvK k) ∧ ((wd (ops.getD k [])).1 = 2 ∨ (wd (ops.getD k [])).1 = 5) ∧ idx (wd (ops.getD k [])).2.1 (wsM (lvK k)) < (wsM (lvK k)).length ∧ fstM (lvK k) + ((idx (wd (ops.getD k [])).2.1 (wsM (lvK k)) : Nat) : Int) = (k : Int) :=
  ⟨(op_rowA k h h1).resolve_left h4, op_rowC k h, (op_rowB k h h1).resolve_left h4⟩
theorem nice_RL (L n : Nat) : Nice (RL L (dp n)) := by
  have h := X2o n
  unfold RL
  split
  · exact nice_ex h
  · exact Q8g (X1o h) _ _
  · exact X1o h
  · exact nice_test h
  · exact X5q h
  · exact Q8g (X1n h) _ _
  · exact X1n h
theorem br_rest (b : Bool) (l r s : List Tk) (x : Tk) : (br b l ++ x :: r) ++ s = br b l ++ x :: (r ++ s) := by simp
theorem rd_not (e : Tr) (he : e.isNull = false) (hw : e.wf) (ih : ∀ d', d' ≤ 10 → e.dp + d' ≤ 10 → Rds e d') (d : Nat) (hd : d ≤ 10) (hD : (Tr.not e).dp + d ≤ 10) : Rds (.not e) d ∧ RdsR (.not e) d := by
  rw [X6s he] at hD
  have h : Rds (.not e) d := mkRds hw (fun r hr hs => by
    rw [Y0f he] at hs ⊢
    rw [X1c he]
    show notL (dp (10 - d)) (stR (wT [78, 79, 84] :: (br (lo e 3) e.tk ++ r)) d) = _
    unfold notL
    rw [Q4p rfl, X0b]
    have := rd_br (L := 3) (d := d + 1) ih hw (by decide) (by decide) (by omega) hr hs
    rw [X6w (by omega) (by rw [dpS (by omega)]; exact this)]
    rfl)
  exact ⟨h, X5f h (fun M r hm hl _ _ => by rw [Y0f he] at hl; rcases hm with rfl | rfl | rfl | rfl <;> cases hl)⟩
theorem X0h : ∀ t : Tr, t.wf → t.rg → ∀ d, d ≤ 10 → t.dp + d ≤ 10 → Rds t d ∧ RdsR t d
  | .val v, hw, hg, d, hd, hD => by
    have h : Rds (.val v) d := mkRds hw (fun r hr hs => rd_val hw hg)
    exact ⟨h, X5f h (fun M r hm hl _ _ => by rcases hm with rfl | rfl | rfl | rfl <;> cases hl)⟩
  | .col t n, hw, hg, d, hd, hD => by
    have h : Rds (.col t n) d := mkRds hw (fun r hr hs => rd_col hs)
    exact ⟨h, X5f h (fun M r hm hl _ _ => by rcases hm with rfl | rfl | rfl | rfl <;> cases hl)⟩
  | .neg e, hw, hg, d, hd, hD => by
    rw [Tr.dp] at hD
    have ih : ∀ d', d' ≤ 10 → e.dp + d' ≤ 10 → Rds e d' := fun d' h1 h2 => (X0h e hw hg d' h1 h2).1
    have h : Rds (.neg e) d := mkRds hw (fun r hr hs => by
      have hs : Stop 7 r := hs
      have hin : facL (dp (10 - (d + 1))) (stR (br e.pos (br (lo e 7) e.tk) ++ r) (d + 1)) = (e.ex, stR r (d + 1)) := by
        cases hp : e.pos with
        | false => exact rd_br ih hw (by decide) (by decide) (by rw [hp] at hD; simp only [bd] at hD ⊢; simp at hD; omega) hr hs
        | true =>
          have hl : lo e 7 = false := by
            cases e <;> first | (cases hp; done) | rfl
          rw [hp, hl] at hD
          simp only [bd, if_true, Bool.false_eq_true, if_false] at hD
          rw [hl, br_app]
          refine brk (by omega) ?_
          rw [dpS (by omega)]
          exact ih (d + 1 + 1) (by omega) (by omega) 1 (sT [41] :: r) (by decide) (lvl_le e hw).1 (Q3p hr) (stop_rp 1 r)
      rw [X3f]
      show facL (dp (10 - d)) (stR (sT [45] :: (br e.pos (br (lo e 7) e.tk) ++ r)) d) = _
      have h2 : (List.getD (sT [45] :: (br e.pos (br (lo e 7) e.tk) ++ r)) 1 (0, [], 0, 0)).1 ≠ 3 := by
        show (Go.Parse.hd (br e.pos (br (lo e 7) e.tk) ++ r)).1 ≠ 3
        rw [X1e (Y0k (Y0k (X8f e)))]
        refine hd_br (P := fun x => x.1 ≠ 3) (by decide) (fun hp => hd_br (P := fun x => x.1 ≠ 3) (by decide) (fun hl => ?_))
        have := of_decide_eq_false hl
        exact noNum (by have := (lvl_le e hw).2; omega) hw hp
      unfold facL
      rw [lit_no (Nat.ne_of_beq_eq_false rfl) (Nat.ne_of_beq_eq_false rfl) (.inr h2) rfl]
      have h1 : (stR (sT [45] :: (br e.pos (br (lo e 7) e.tk) ++ r)) d).is [Q2m, [40]] = 0 := Q4o (.inr rfl) (by decide)
      simp only [h1, Bool.false_eq_true, if_false, if_true, X0b]
      rw [X6w (by omega) (by rw [dpS (by omega)]; exact hin)]
      rfl)
    exact ⟨h, X5f h (fun M r hm hl _ _ => by rcases hm with rfl | rfl | rfl | rfl <;> cases hl)⟩
  | .null e, hw, hg, d, hd, hD => by
    rw [Tr.dp] at hD
    have ih : ∀ d', d' ≤ 10 → e.dp + d' ≤ 10 → Rds e d' := fun d' h1 h2 => (X0h e hw hg d' h1 h2).1
    have h : Rds (.null e) d := mkRds hw (fun r hr hs => by
      rw [X0a]
      show Q6m (dp (10 - d)) (stR (br (lo e 5) e.tk ++ [wT [73, 83], wT [78, 85, 76, 76]] ++ r) d) = _
      have h5 : sumL (dp (10 - d)) (stR (br (lo e 5) e.tk ++ (wT [73, 83] :: wT [78, 85, 76, 76] :: r)) d) = (e.ex, stR (wT [73, 83] :: wT [78, 85, 76, 76] :: r) d) := rd_br (L := 5) (d := d) (r := wT [73, 83] :: wT [78, 85, 76, 76] :: r) ih hw (by decide) (by decide) (by omega) (Q3p (Q3p hr)) (fun w hw => by
        have : (opsF 5).all (fun w => !isW (wT [73, 83]) w) = true := by decide +kernel
        show isW (wT [73, 83]) w = false
        simpa using List.all_eq_true.1 this w hw)
      rw [zC]
      show Q6m (dp (10 - d)) (stR (br (lo e 5) e.tk ++ (wT [73, 83] :: wT [78, 85, 76, 76] :: r)) d) = _
      unfold Q6m
      have h1 : (stR (wT [73, 83] :: wT [78, 85, 76, 76] :: r) d).is tests = 6 := Q4o (.inl rfl) (by decide)
      rw [h5]
      simp only [h1, Int.reduceLT, if_false, Int.reduceAdd, Int.reduceLE, X0b]
      unfold isNull
      rw [Q7t (by rfl), Q1c [] rfl]
      rfl)
    exact ⟨h, X5f h (fun M r hm hl _ _ => by rcases hm with rfl | rfl | rfl | rfl <;> cases hl)⟩
  | .not (.null x), hw, hg, d, hd, hD => by
    rw [X4c] at hD
    have ih : ∀ d', d' ≤ 10 → x.dp + d' ≤ 10 → Rds x d' := fun d' h1 h2 => (X0h x hw hg d' h1 h2).1
    have h : Rds (.not (.null x)) d := mkRds hw (fun r hr hs => by
      rw [Q5d]
      show Q6m (dp (10 - d)) (stR (br (lo x 5) x.tk ++ [wT [73, 83], wT [78, 79, 84], wT [78, 85, 76, 76]] ++ r) d) = _
      have h5 : sumL (dp (10 - d)) (stR (br (lo x 5) x.tk ++ (wT [73, 83] :: wT [78, 79, 84] :: wT [78, 85, 76, 76] :: r)) d) = (x.ex, stR (wT [73, 83] :: wT [78, 79, 84] :: wT [78, 85, 76, 76] :: r) d) := rd_br (L := 5) (d := d) (r := wT [73, 83] :: wT [78, 79, 84] :: wT [78, 85, 76, 76] :: r) ih hw (by decide) (by decide) (by omega) (Q3p (Q3p (Q3p hr))) (fun w hw => by
        have : (opsF 5).all (fun w => !isW (wT [73, 83]) w) = true := by decide +kernel
        show isW (wT [73, 83]) w = false
        simpa using List.all_eq_true.1 this w hw)
      rw [zC]
      show Q6m (dp (10 - d)) (stR (br (lo x 5) x.tk ++ (wT [73, 83] :: wT [78, 79, 84] :: wT [78, 85, 76, 76] :: r)) d) = _
      unfold Q6m
      have h1 : (stR (wT [73, 83] :: wT [78, 79, 84] :: wT [78, 85, 76, 76] :: r) d).is tests = 6 := Q4o (.inl rfl) (by decide)
      rw [h5]
      simp only [h1, Int.reduceLT, if_false, Int.reduceAdd, Int.reduceLE, X0b]
      unfold isNull
      rw [Q4p (by rfl), X0b, Q1c [] rfl]
      rfl)
    exact ⟨h, X5f h (fun M r hm hl _ _ => by rcases hm with rfl | rfl | rfl | rfl <;> cases hl)⟩
  | .not (.val v), hw, hg, d, hd, hD => rd_not (.val v) rfl hw (fun d' h1 h2 => (X0h (.val v) hw hg d' h1 h2).1) d hd hD
  | .not (.col t n), hw, hg, d, hd, hD => rd_not (.col t n) rfl hw (fun d' h1 h2 => (X0h (.col t n) hw hg d' h1 h2).1) d hd hD
  | .not (.not e), hw, hg, d, hd, hD => rd_not (.not e) rfl hw (fun d' h1 h2 => (X0h (.not e) hw hg d' h1 h2).1) d hd hD
  | .not (.neg e), hw, hg, d, hd, hD => rd_not (.neg e) rfl hw (fun d' h1 h2 => (X0h (.neg e) hw hg d' h1 h2).1) d hd hD
  | .not (.op k a b), hw, hg, d, hd, hD => rd_not (.op k a b) rfl hw (fun d' h1 h2 => (X0h (.op k a b) hw hg d' h1 h2).1) d hd hD
  | .op k a b, hw, hg, d, hd, hD => by
    rw [Tr.dp] at hD
    obtain ⟨⟨hk1, hk2⟩, hwa, hwb⟩ := hw
    have hk := lvK_le k hk1
    have iha : ∀ d', d' ≤ 10 → a.dp + d' ≤ 10 → Rds a d' := fun d' h1 h2 => (X0h a hwa hg.1 d' h1 h2).1
    have ihb : ∀ d', d' ≤ 10 → b.dp + d' ≤ 10 → Rds b d' := fun d' h1 h2 => (X0h b hwb hg.2 d' h1 h2).1
    have hb : ∀ r, WF r → Stop (lvK k + 1) r → RL (lvK k + 1) (dp (10 - d)) (stR (br (lo b (lvK k + 1)) b.tk ++ r) d) = (b.ex, stR r d) := fun r hr hs =>
      rd_br ihb hwb (by omega) (by omega) (by omega) hr hs
    have hw' : (Tr.op k a b).wf := ⟨⟨hk1, hk2⟩, hwa, hwb⟩
    by_cases h4 : lvK k = 4
    · obtain ⟨⟨q1, q2⟩, q3, q4, q5⟩ := op_test k (by omega) hk1 h4
      have hl : lftK k = lvK k + 1 := by unfold lftK; rw [if_pos h4, h4]
      have h : Rds (.op k a b) d := mkRds hw' (fun r hr hs => by
        have hs : Stop (lvK k) r := hs
        show RL (lvK k) _ _ = _
        rw [Y0g, br_rest]
        have ha : RL (lvK k + 1) (dp (10 - d)) (stR (br (lo a (lftK k)) a.tk ++ wd (ops.getD k []) :: (br (lo b (lvK k + 1)) b.tk ++ r)) d) = (a.ex, stR (wd (ops.getD k []) :: (br (lo b (lvK k + 1)) b.tk ++ r)) d) := by
          rw [hl] at hD ⊢
          exact rd_br iha hwa (by omega) (by omega) (by omega) (Q3p (X8s _ hr)) (stop_op hk1 hk2)
        have hbr := hb r hr (hs.mono (by omega))
        have hi : (stR (wd (ops.getD k []) :: (br (lo b (lvK k + 1)) b.tk ++ r)) d).is tests = ((k - 3 : Nat) : Int) := by rw [Q4o q3 (X6v.1 q4), q5]
        rw [h4] at ha hbr hi ⊢
        have ha : sumL (dp (10 - d)) (stR (br (lo a (lftK k)) a.tk ++ wd (ops.getD k []) :: (br (lo b (4 + 1)) b.tk ++ r)) d) = (a.ex, stR (wd (ops.getD k []) :: (br (lo b (4 + 1)) b.tk ++ r)) d) := ha
        have hbr : sumL (dp (10 - d)) (stR (br (lo b (4 + 1)) b.tk ++ r) d) = (b.ex, stR r d) := hbr
        show Q6m (dp (10 - d)) _ = _
        unfold Q6m
        rw [ha]
        simp only [hi]
        rw [if_neg (by omega), if_pos (by omega), X0b, hbr]
        show (opE (3 + ((k - 3 : Nat) : Int)) a.ex b.ex, stR r d) = _
        rw [show 3 + ((k - 3 : Nat) : Int) = (k : Int) by omega]
        rfl)
      exact ⟨h, X5f h (fun M r hm hl _ _ => by
        have : M = lvK k := hl
        rcases hm with rfl | rfl | rfl | rfl <;> omega)⟩
    · obtain ⟨hm, q3, q4, q5⟩ := op_row k (by omega) hk1 h4
      have hl : lftK k = lvK k := by unfold lftK; rw [if_neg h4]
      rw [hl] at hD
      have hR : ∀ r, WF r → Stop (lvK k + 1) r → RL (lvK k) (dp (10 - d)) (stR ((Tr.op k a b).tk ++ r) d) = rowL (RL (lvK k + 1) (dp (10 - d))) (fstM (lvK k)) (wsM (lvK k)) r.length (Tr.op k a b).ex (stR r d) := fun r hr hs => by
        rw [Y0g, br_rest, hl]
        have hW : WF (wd (ops.getD k []) :: (br (lo b (lvK k + 1)) b.tk ++ r)) := Q3p (X8s _ hr)
        have ha : RL (lvK k) (dp (10 - d)) (stR (br (lo a (lvK k)) a.tk ++ wd (ops.getD k []) :: (br (lo b (lvK k + 1)) b.tk ++ r)) d) = rowL (RL (lvK k + 1) (dp (10 - d))) (fstM (lvK k)) (wsM (lvK k)) (wd (ops.getD k []) :: (br (lo b (lvK k + 1)) b.tk ++ r)).length a.ex (stR (wd (ops.getD k []) :: (br (lo b (lvK k + 1)) b.tk ++ r)) d) := by
          cases hla : lo a (lvK k) with
          | false =>
            have := of_decide_eq_false hla
            exact (X0h a hwa hg.1 d hd (by omega)).2 (lvK k) _ hm (by omega) hW (stop_op hk1 hk2)
          | true =>
            have h1 := of_decide_eq_true hla
            have hla2 : lo a (lvK k + 1) = true := decide_eq_true (by omega)
            have := rd_br (L := lvK k + 1) (d := d) (r := wd (ops.getD k []) :: (br (lo b (lvK k + 1)) b.tk ++ r)) iha hwa (by omega) (by omega) (by rw [hla2]; rw [hla] at hD; omega) hW (stop_op hk1 hk2)
            rw [hla2] at this
            rw [RL_row hm, row, this]
            rfl
        have hi : (stR (wd (ops.getD k []) :: (br (lo b (lvK k + 1)) b.tk ++ r)) d).is (wsM (lvK k)) = (idx (wd (ops.getD k [])).2.1 (wsM (lvK k)) : Nat) := Q4o q3 (X6v.1 q4)
        rw [ha, zy, rowL, hi, if_pos (by omega), X0b, hb r hr hs, q5]
        exact X6p (nice_RL _ _) _ _ _ _ _ _ hr (by rw [zx]; show r.length ≤ _; omega) (Nat.le_refl _)
      have h : Rds (.op k a b) d := mkRds hw' (fun r hr hs => by
        have hs : Stop (lvK k) r := hs
        show RL (lvK k) _ _ = _
        rw [hR r hr (hs.mono (by omega))]
        exact rowL_stop _ _ (wsM_sub hm hs))
      exact ⟨h, X5f h (fun M r hM hlM hr hs => by
        have : M = lvK k := hlM
        subst this
        exact hR r hr hs)⟩
theorem rd_exp {t : Tr} {r : List Tk} (hw : t.wf) (hg : t.rg) (hD : t.dp ≤ 10) (hr : WF r) (hs : Stop 1 r) : (dp 11).ex (stR (t.tk ++ r) 0) = (t.ex, stR r 0) :=
  (X0h t hw hg 0 (by omega) (by omega)).1 1 r (Nat.le_refl _) (lvl_le t hw).1 hr hs
end Go.Print
namespace Go.Proofs.YtjdapkelojdefaaGreatDoor
open Go Go.V Go.Lex Go.Parse Go.Print
theorem lvl_le' (t : Tr) (h : t.wf) : 1 ≤ t.lvl ∧ t.lvl ≤ 7 := by
  cases t with
  | op k a b =>
    have : 1 ≤ lvK k ∧ lvK k ≤ 7 := by
      have := h.1
      unfold lvK
      repeat' split
      all_goals omega
    exact this
  | not e => cases e <;> exact ⟨Nat.le_of_ble_eq_true rfl, Nat.le_of_ble_eq_true rfl⟩
  | _ => exact ⟨Nat.le_of_ble_eq_true rfl, Nat.le_of_ble_eq_true rfl⟩
abbrev WS (B : Sg) (ω τ : Nat) (l : List Tk) (d m : Int) : Sg := WB 59 [.i d, .i m] B ω τ l
theorem Q2y {B : Sg} {ω τ : Nat} {l l' : List Tk} {d d' m m' : Int} (h1 : l = l') (h2 : d = d') (h3 : m = m') : WS B ω τ l d m = WS B ω τ l' d' m' := by rw [h1, h2, h3]
def Wr (f : FuncId) (E : List AV) (tk : List Tk) (dp : Nat) : Prop := ∀ (B : Sg) (ω τ : Nat) (l : List Tk) (d m : Int), okS B ω τ → 0 ≤ d → d ≤ m → m ≤ 2 ^ 41 → d + dp ≤ 2 ^ 40 → l.length + tk.length ≤ 2 ^ 36 →
  VCalls Tryz.prog f [.ref ω 0, .agg E] (WS B ω τ l d m) (fun x σ' => x = .tup [] ∧ ∃ τ', okS B ω τ' ∧ σ' = WS B ω τ' (l ++ tk) d (max m (d + dp)))
def Cx (t : Tr) : Prop := Wr 21 (exA t.ex) t.tk t.dp
theorem w_within (t : Tr) (hC : Cx t) : Wr 151 (exA t.ex) t.tk (1 + t.dp) := by
  intro B ω τ l d m h h0 h1 h2 h3 h4
  have hC : ∀ τ l d m, _ := fun τ l d m => hC B ω τ l d m
  (refine vfun (fun _ => .ro) Q0h Tryz.func151 (by kernel_rfl) ?_; simp only [Q0f, Tryz.f151, zw])
  (have zz := Bx.mk (j7 ui0 ui3 ui9 ui22 ui23 ui24 (j9 ui25 ui26 ui55 ui56 ui57 ui58 ui59 Q1k (j9 Q0u @Q0r @Q0q @Q0x @Q1f @Q0s @Q2e @Q1y WLg))); (repeat' (first | exact zc | (with_reducible first | apply And.intro | apply Q0a | apply Q0b | refine Q0c (by decide +kernel) ?_ | intro _) | ((with_reducible first | refine .dms (fun x => x = ω) [(0, false), (1, false), (2, false), (3, false), (4, false), (5, false), (6, false), (7, false), (8, false), (9, false), (10, true), (11, false), (12, true)] (by decide) (by decide +kernel) ?_ | refine .dm (fun x => x = ω) [(0, false), (1, false), (2, false), (3, false), (4, false), (5, false), (6, false), (7, false), (8, false), (9, false), (10, true), (11, false), (12, true)] (by decide) (by decide +kernel) ?_); (refine zsR zz.out ?_)) | refine zaR zz.out ?_ | refine zkK zz.out ?_ | ((first | (refine Q0j (by intro β h; first | (rcases h with h | h <;> subst h <;> (simp (disch := first | assumption | (apply zQ; assumption; assumption) | (apply zR; assumption; assumption; (intro e; cases e; done)) | omega) only [zn, zp, zq, zr, zv])) | (subst h; (simp (disch := first | assumption | (apply zQ; assumption; assumption) | (apply zR; assumption; assumption; (intro e; cases e; done)) | omega) only [zn, zp, zq, zr, zv]))) ?_) | ((with_reducible refine zU (hC _ _ _ _ (by exact zO) (by omega) (by omega) (by omega) (by omega) (by exact zN)) ?_); rintro _ S ⟨rfl, τ1, ⟨f1, n1⟩, rfl⟩; have n1s := n1.symm) | (refine Q0d (by exact zK) ?_) | (refine Q0e (by exact zK) ?_)); (try refine zsR zz.out ?_)) | refine zmR zz.out ?_ | refine zo ?_ | omega | refine ztR zz.out ?_ | fail)); try (all_goals clear zz))
  all_goals exact ⟨_, .refl _, τ1, ⟨f1, n1⟩, Q2y rfl (by omega) (by omega)⟩
theorem wdLP : wd [40] = sT [40] := rfl
theorem wdRP : wd [41] = sT [41] := rfl
theorem X8v (t : Tr) (hC : Cx t) : Wr 104 (exA t.ex) (br true t.tk) (1 + t.dp) := by
  intro B ω τ l d m h h0 h1 h2 h3 h4
  have hbl : (br true t.tk).length = t.tk.length + 2 := by simp [br]
  have hW := w_within t hC B ω
  (refine vfun (fun _ => .ro) Q0h Tryz.func104 (by kernel_rfl) ?_; simp only [Q0f, Tryz.f104, zw])
  (have zz := Bx.mk (j8 ui0 ui3 ui9 ui22 ui23 ui24 ui25 (j9 ui26 ui55 ui56 ui57 ui58 ui59 ui75 Q1k (j9 Q0u @Q0r @Q0q @Q0x @Q1f @Q0s @Q2e @Q1y WLg))); (repeat' (first | exact zc | (with_reducible first | apply And.intro | apply Q0a | apply Q0b | refine Q0c (by decide +kernel) ?_ | intro _) | refine zaR zz.out ?_ | refine zkN zz.out ?_ | ((first | (refine Q0j (by intro β h; first | (rcases h with h | h <;> subst h <;> (simp (disch := first | assumption | (apply zQ; assumption; assumption) | (apply zR; assumption; assumption; (intro e; cases e; done)) | omega) only [zn, zp, zq, zr, zv])) | (subst h; (simp (disch := first | assumption | (apply zQ; assumption; assumption) | (apply zR; assumption; assumption; (intro e; cases e; done)) | omega) only [zn, zp, zq, zr, zv]))) ?_) | ((with_reducible refine zU (hW _ _ _ _ (by exact zO) (by omega) (by omega) (by omega) (by omega) (by exact zN)) ?_); rintro _ S ⟨rfl, τ1, ⟨f1, n1⟩, rfl⟩; have n1s := n1.symm) | ((with_reducible refine zU (Q0m _ _ _ _ _ _ _ _ (by repeat (first | exact Q0p | refine Q0k ?_ (by simp))) (by exact zO) (by exact zN)) ?_); rintro _ S ⟨rfl, τ1, ⟨f1, n1⟩, rfl⟩; have n1s := n1.symm) | (refine Q0d (by exact zK) ?_) | (refine Q0e (by exact zK) ?_)); (try refine zsR zz.out ?_)) | refine zmR zz.out ?_ | refine zo ?_ | omega | refine ztR zz.out ?_ | fail)); try (all_goals clear zz))
  all_goals exact ⟨_, .refl _, τ1, ⟨f1, n1⟩, Q2y (by simp [br, wdLP, wdRP]) rfl (by omega)⟩
theorem w_at (t : Tr) (hw : t.wf) (hC : Cx t) (k : Nat) (hk : k ≤ 7) : ∀ (B : Sg) (ω τ : Nat) (l : List Tk) (d m : Int), okS B ω τ → 0 ≤ d → d ≤ m → m ≤ 2 ^ 41 → d + ((bd (lo t k) + t.dp : Nat) : Int) ≤ 2 ^ 40 → l.length + (br (lo t k) t.tk).length ≤ 2 ^ 36 →
    VCalls Tryz.prog 47 [.ref ω 0, .agg (exA t.ex), .i k] (WS B ω τ l d m) (fun x σ' => x = .tup [] ∧ ∃ τ', okS B ω τ' ∧ σ' = WS B ω τ' (l ++ br (lo t k) t.tk) d (max m (d + ((bd (lo t k) + t.dp : Nat) : Int)))) := by
  intro B ω τ l d m h h0 h1 h2 h3 h4
  have hl := Q6o t hw _ rfl
  have hl7 := (lvl_le' t hw).2
  unfold lo at h3 h4 ⊢
  by_cases hc : t.lvl < k
  · rw [decide_eq_true hc] at h3 h4 ⊢
    simp only [bd, if_true] at h3 ⊢
    have hW := X8v t hC B ω
    generalize t.lvl = L at *
    (refine vfun (fun _ => .ro) Q0h Tryz.func47 (by kernel_rfl) ?_; simp only [Q0f, Tryz.f47, zw])
    (have zz := Bx.mk (j8 ui0 ui3 ui4 ui9 ui22 ui23 ui24 (j9 ui25 ui26 ui55 ui56 ui57 ui58 ui59 Q1k (j9 Q0u @Q0r @Q0q @Q0x @Q1f @Q0s @Q2e @Q1y WLg))); (repeat' (first | exact zc | (with_reducible first | apply And.intro | apply Q0a | apply Q0b | refine Q0c (by decide +kernel) ?_ | intro _) | refine zaY zz.out ?_ | ((first | (with_reducible refine uc (hl _) ?_) | ((with_reducible refine zU (hW _ _ _ _ (by exact zO) (by omega) (by omega) (by omega) (by omega) (by exact zN)) ?_); rintro _ S ⟨rfl, τ1, ⟨f1, n1⟩, rfl⟩; have n1s := n1.symm) | (with_reducible refine uc (Q6o _ (by assumption) _ (by first | assumption | rfl) _) ?_) | (refine Q0d (by exact zK) ?_) | (refine Q0e (by exact zK) ?_)); (try refine zsY zz.out ?_)) | refine zo ?_ | omega | refine ztY zz.out ?_ | fail)); try (all_goals clear zz))
    all_goals exact ⟨_, .refl _, τ1, ⟨f1, n1⟩, rfl⟩
  · rw [decide_eq_false hc] at h3 h4 ⊢
    simp only [bd, Bool.false_eq_true, if_false, Nat.zero_add, br] at h3 h4 ⊢
    have hW := hC B ω
    generalize t.lvl = L at *
    (refine vfun (fun _ => .ro) Q0h Tryz.func47 (by kernel_rfl) ?_; simp only [Q0f, Tryz.f47, zw])
    (have zz := Bx.mk (j8 ui0 ui3 ui4 ui9 ui22 ui23 ui24 (j9 ui25 ui26 ui55 ui56 ui57 ui58 ui59 Q1k (j9 Q0u @Q0r @Q0q @Q0x @Q1f @Q0s @Q2e @Q1y WLg))); (repeat' (first | exact zc | (with_reducible first | apply And.intro | apply Q0a | apply Q0b | refine Q0c (by decide +kernel) ?_ | intro _) | refine zaY zz.out ?_ | ((first | (with_reducible refine uc (hl _) ?_) | ((with_reducible refine zU (hW _ _ _ _ (by exact zO) (by omega) (by omega) (by omega) (by omega) (by exact zN)) ?_); rintro _ S ⟨rfl, τ1, ⟨f1, n1⟩, rfl⟩; have n1s := n1.symm) | (with_reducible refine uc (Q6o _ (by assumption) _ (by first | assumption | rfl) _) ?_) | (refine Q0d (by exact zK) ?_) | (refine Q0e (by exact zK) ?_)); (try refine zsY zz.out ?_)) | refine zo ?_ | omega | refine ztY zz.out ?_ | fail)); try (all_goals clear zz))
    all_goals exact ⟨_, .refl _, τ1, ⟨f1, n1⟩, rfl⟩
theorem kd_val {e : Tr} (h : e.ex.kd = 1) : ∃ v, e = .val v := by
  cases e <;> first | exact ⟨_, rfl⟩ | (simp [Tr.ex, Ex.kd] at h; done)
theorem wdM : wd [45] = sT [45] := rfl
theorem wdNot : wd [78, 79, 84] = wT [78, 79, 84] := rfl
theorem wdIs : wd [73, 83] = wT [73, 83] := rfl
theorem wdNull : wd [78, 85, 76, 76] = wT [78, 85, 76, 76] := rfl
theorem w_neg (e : Tr) (hw : e.wf) (hC : Cx e) : Wr 48 (exA e.ex) (Tr.neg e).tk (Tr.neg e).dp := by
  rw [X3f, Tr.dp]
  intro B ω τ l d m h h0 h1 h2 h3 h4
  rw [zy] at h4
  cases hp : e.pos with
  | true =>
    obtain ⟨v, rfl⟩ : ∃ v, e = .val v := by
      cases e <;> first | exact ⟨_, rfl⟩ | (cases hp; done)
    have hv : v.1 = 1 ∧ 0 ≤ v.2.1 := of_decide_eq_true hp
    have hl : lo (.val v) 7 = false := rfl
    rw [hp, hl] at h3 h4
    have hbl := (X5e true (Tr.val v).tk).2
    simp only [bd, if_true, Bool.false_eq_true, if_false] at h3
    have hb0 : br false (Tr.val v).tk = (Tr.val v).tk := rfl
    rw [hb0] at h4
    have hW := X8v (.val v) hC B ω
    obtain ⟨q1, q2⟩ := hv
    rw [ex_val, q1] at hW ⊢
    rw [hl, hb0]
    simp only [bd, if_true, Bool.false_eq_true, if_false]
    generalize hT : br true (Tr.val v).tk = TT at *
    generalize (Tr.val v).dp = D at *
    (refine vfun (fun _ => .ro) Q0h Tryz.func48 (by kernel_rfl) ?_; simp only [Q0f, Tryz.f48, zw])
    (have zz := Bx.mk (j2 ui0 (j9 ui3 ui4 ui9 ui22 ui23 ui24 ui25 ui26 (j9 ui55 ui56 ui57 ui58 ui59 ui75 Q1k Q0u WLg))); (repeat' (first | exact zc | (with_reducible first | apply And.intro | apply Q0a | apply Q0b | refine Q0c (by decide +kernel) ?_ | intro _) | ((with_reducible first | refine .dms (fun x => x = ω) [(0, false), (1, false), (2, false), (3, false), (4, false), (5, false), (6, false), (7, false), (8, false), (9, false), (10, true), (11, false), (12, true)] (by decide) (by decide +kernel) ?_ | refine .dm (fun x => x = ω) [(0, false), (1, false), (2, false), (3, false), (4, false), (5, false), (6, false), (7, false), (8, false), (9, false), (10, true), (11, false), (12, true)] (by decide) (by decide +kernel) ?_); (refine zsR zz.out ?_)) | refine zaR zz.out ?_ | refine zkK zz.out ?_ | ((first | (refine Q0j (by intro β h; first | (rcases h with h | h <;> subst h <;> (simp (disch := first | assumption | (apply zQ; assumption; assumption) | (apply zR; assumption; assumption; (intro e; cases e; done)) | omega) only [zn, zp, zq, zr, zv])) | (subst h; (simp (disch := first | assumption | (apply zQ; assumption; assumption) | (apply zR; assumption; assumption; (intro e; cases e; done)) | omega) only [zn, zp, zq, zr, zv]))) ?_) | ((with_reducible refine zU (hW _ _ _ _ (by exact zO) (by omega) (by omega) (by omega) (by omega) (by exact zN)) ?_); rintro _ S ⟨rfl, τ1, ⟨f1, n1⟩, rfl⟩; have n1s := n1.symm) | ((with_reducible refine zU (Q0m _ _ _ _ _ _ _ _ (by repeat (first | exact Q0p | refine Q0k ?_ (by simp))) (by exact zO) (by exact zN)) ?_); rintro _ S ⟨rfl, τ1, ⟨f1, n1⟩, rfl⟩; have n1s := n1.symm) | (refine Q0d (by exact zK) ?_) | (refine Q0e (by exact zK) ?_)); (try refine zsR zz.out ?_)) | refine zmR zz.out ?_ | refine zo ?_ | omega | refine ztR zz.out ?_ | fail)); try (all_goals clear zz))
    all_goals exact ⟨_, .refl _, τ1, ⟨f1, n1⟩, Q2y (by simp [wdM]) (by omega) (by omega)⟩
  | false =>
    have hA := w_at e hw hC 7 (by decide) B ω
    have hbf : br false (br (lo e 7) e.tk) = br (lo e 7) e.tk := rfl
    rw [hp, hbf] at h4
    rw [hp] at h3
    rw [hbf]
    simp only [bd, Bool.false_eq_true, if_false, Nat.zero_add] at h3 ⊢
    simp only [bd] at hA
    by_cases hk : e.ex.kd = 1
    · obtain ⟨v, rfl⟩ := kd_val hk
      have hv : ¬ (v.1 = 1 ∧ 0 ≤ v.2.1) := of_decide_eq_false hp
      rw [ex_val] at hA ⊢
      generalize br (lo (Tr.val v) 7) (Tr.val v).tk = TT at *
      generalize (if lo (Tr.val v) 7 = true then 1 else 0) + (Tr.val v).dp = D at *
      (refine vfun (fun _ => .ro) Q0h Tryz.func48 (by kernel_rfl) ?_; simp only [Q0f, Tryz.f48, zw])
      (have zz := Bx.mk (j2 ui0 (j9 ui3 ui4 ui9 ui22 ui23 ui24 ui25 ui26 (j9 ui55 ui56 ui57 ui58 ui59 ui75 Q1k Q0u WLg))); (repeat' (first | exact zc | (with_reducible first | apply And.intro | apply Q0a | apply Q0b | refine Q0c (by decide +kernel) ?_ | intro _) | ((with_reducible first | refine .dms (fun x => x = ω) [(0, false), (1, false), (2, false), (3, false), (4, false), (5, false), (6, false), (7, false), (8, false), (9, false), (10, true), (11, false), (12, true)] (by decide) (by decide +kernel) ?_ | refine .dm (fun x => x = ω) [(0, false), (1, false), (2, false), (3, false), (4, false), (5, false), (6, false), (7, false), (8, false), (9, false), (10, true), (11, false), (12, true)] (by decide) (by decide +kernel) ?_); (refine zsR zz.out ?_)) | refine zaR zz.out ?_ | refine zkK zz.out ?_ | ((first | (refine Q0j (by intro β h; first | (rcases h with h | h <;> subst h <;> (simp (disch := first | assumption | (apply zQ; assumption; assumption) | (apply zR; assumption; assumption; (intro e; cases e; done)) | omega) only [zn, zp, zq, zr, zv])) | (subst h; (simp (disch := first | assumption | (apply zQ; assumption; assumption) | (apply zR; assumption; assumption; (intro e; cases e; done)) | omega) only [zn, zp, zq, zr, zv]))) ?_) | ((with_reducible refine zU (hA _ _ _ _ (by exact zO) (by omega) (by omega) (by omega) (by omega) (by exact zN)) ?_); rintro _ S ⟨rfl, τ1, ⟨f1, n1⟩, rfl⟩; have n1s := n1.symm) | ((with_reducible refine zU (Q0m _ _ _ _ _ _ _ _ (by repeat (first | exact Q0p | refine Q0k ?_ (by simp))) (by exact zO) (by exact zN)) ?_); rintro _ S ⟨rfl, τ1, ⟨f1, n1⟩, rfl⟩; have n1s := n1.symm) | (refine Q0d (by exact zK) ?_) | (refine Q0e (by exact zK) ?_)); (try refine zsR zz.out ?_)) | refine zmR zz.out ?_ | refine zo ?_ | omega | refine ztR zz.out ?_ | fail)); try (all_goals clear zz))
      all_goals first | exact ⟨_, .refl _, τ1, ⟨f1, n1⟩, Q2y (by simp [wdM]) (by omega) (by omega)⟩ | (exfalso; omega)
    · obtain ⟨op, t, n, v, ll, hf⟩ := ex_form e.ex
      rw [hf] at hA ⊢
      generalize br (lo e 7) e.tk = TT at *
      generalize (if lo e 7 = true then 1 else 0) + e.dp = D at *
      (refine vfun (fun _ => .ro) Q0h Tryz.func48 (by kernel_rfl) ?_; simp only [Q0f, Tryz.f48, zw])
      (have zz := Bx.mk (j3 ui0 ui3 (j9 ui4 ui9 ui22 ui23 ui24 ui25 ui26 ui55 (j9 ui56 ui57 ui58 ui59 ui75 Q1k Q0u hk WLg))); (repeat' (first | exact zc | (with_reducible first | apply And.intro | apply Q0a | apply Q0b | refine Q0c (by decide +kernel) ?_ | intro _) | ((with_reducible first | refine .dms (fun x => x = ω) [(0, false), (1, false), (2, false), (3, false), (4, false), (5, false), (6, false), (7, false), (8, false), (9, false), (10, true), (11, false), (12, true)] (by decide) (by decide +kernel) ?_ | refine .dm (fun x => x = ω) [(0, false), (1, false), (2, false), (3, false), (4, false), (5, false), (6, false), (7, false), (8, false), (9, false), (10, true), (11, false), (12, true)] (by decide) (by decide +kernel) ?_); (refine zsR zz.out ?_)) | refine zaR zz.out ?_ | refine zkK zz.out ?_ | ((first | (refine Q0j (by intro β h; first | (rcases h with h | h <;> subst h <;> (simp (disch := first | assumption | (apply zQ; assumption; assumption) | (apply zR; assumption; assumption; (intro e; cases e; done)) | omega) only [zn, zp, zq, zr, zv])) | (subst h; (simp (disch := first | assumption | (apply zQ; assumption; assumption) | (apply zR; assumption; assumption; (intro e; cases e; done)) | omega) only [zn, zp, zq, zr, zv]))) ?_) | ((with_reducible refine zU (hA _ _ _ _ (by exact zO) (by omega) (by omega) (by omega) (by omega) (by exact zN)) ?_); rintro _ S ⟨rfl, τ1, ⟨f1, n1⟩, rfl⟩; have n1s := n1.symm) | ((with_reducible refine zU (Q0m _ _ _ _ _ _ _ _ (by repeat (first | exact Q0p | refine Q0k ?_ (by simp))) (by exact zO) (by exact zN)) ?_); rintro _ S ⟨rfl, τ1, ⟨f1, n1⟩, rfl⟩; have n1s := n1.symm) | (refine Q0d (by exact zK) ?_) | (refine Q0e (by exact zK) ?_)); (try refine zsR zz.out ?_)) | refine zmR zz.out ?_ | refine zo ?_ | omega | refine ztR zz.out ?_ | fail)); try (all_goals clear zz))
      all_goals first | exact ⟨_, .refl _, τ1, ⟨f1, n1⟩, Q2y (by simp [wdM]) (by omega) (by omega)⟩ | (exfalso; omega)
theorem w_not (e : Tr) (hw : e.wf) (hC : Cx e) (hx : ∀ x, e = .null x → Cx x) : Wr 49 (exA e.ex) (Tr.not e).tk (Tr.not e).dp := by
  intro B ω τ l d m h h0 h1 h2 h3 h4
  cases hn : e.isNull with
  | true =>
    obtain ⟨x, rfl⟩ : ∃ x, e = .null x := by
      cases e <;> first | exact ⟨_, rfl⟩ | (cases hn; done)
    rw [X4c] at h3 ⊢
    rw [Q5d] at h4 ⊢
    simp only [zx, zy, List.length_nil] at h4
    have hA := w_at x hw (hx x rfl) 5 (by decide) B ω
    have hxl := Q0r x.ex
    have hxt := Q0q x.ex
    rw [ex_null]
    generalize br (lo x 5) x.tk = TT at *
    generalize bd (lo x 5) + x.dp = D at *
    generalize exA x.ex = X at *
    (refine vfun (fun _ => .ro) Q0h Tryz.func49 (by kernel_rfl) ?_; simp only [Q0f, Tryz.f49, zw])
    (have zz := Bx.mk (j4 ui0 ui3 ui4 (j9 ui9 ui22 ui23 ui24 ui25 ui26 ui55 ui56 (j9 ui57 ui58 ui59 ui75 Q1k Q0u hxl hxt WLg))); (repeat' (first | exact zc | (with_reducible first | apply And.intro | apply Q0a | apply Q0b | refine Q0c (by decide +kernel) ?_ | intro _) | ((with_reducible first | refine .dms (fun x => x = ω) [(0, false), (1, false), (2, false), (3, false), (4, false), (5, false), (6, false), (7, false), (8, false), (9, false), (10, true), (11, false), (12, true)] (by decide) (by decide +kernel) ?_ | refine .dm (fun x => x = ω) [(0, false), (1, false), (2, false), (3, false), (4, false), (5, false), (6, false), (7, false), (8, false), (9, false), (10, true), (11, false), (12, true)] (by decide) (by decide +kernel) ?_); (refine zsR zz.out ?_)) | refine zaR zz.out ?_ | refine zkK zz.out ?_ | ((first | (refine Q0j (by intro β h; first | (rcases h with h | h <;> subst h <;> (simp (disch := first | assumption | (apply zQ; assumption; assumption) | (apply zR; assumption; assumption; (intro e; cases e; done)) | omega) only [zn, zp, zq, zr, zv])) | (subst h; (simp (disch := first | assumption | (apply zQ; assumption; assumption) | (apply zR; assumption; assumption; (intro e; cases e; done)) | omega) only [zn, zp, zq, zr, zv]))) ?_) | ((with_reducible refine zU (hA _ _ _ _ (by exact zO) (by omega) (by omega) (by omega) (by omega) (by exact zN)) ?_); rintro _ S ⟨rfl, τ1, ⟨f1, n1⟩, rfl⟩; have n1s := n1.symm) | ((with_reducible refine zU (Q0m _ _ _ _ _ _ _ _ (by repeat (first | exact Q0p | refine Q0k ?_ (by simp))) (by exact zO) (by exact zN)) ?_); rintro _ S ⟨rfl, τ1, ⟨f1, n1⟩, rfl⟩; have n1s := n1.symm) | (refine Q0d (by exact zK) ?_) | (refine Q0e (by exact zK) ?_)); (try refine zsR zz.out ?_)) | refine zmR zz.out ?_ | refine zo ?_ | omega | refine ztR zz.out ?_ | fail)); try (all_goals clear zz))
    all_goals exact ⟨_, .refl _, τ1, ⟨f1, n1⟩, Q2y (by simp [wdIs, wdNot, wdNull]) (by omega) (by omega)⟩
  | false =>
    rw [X6s hn] at h3 ⊢
    rw [X1c hn] at h4 ⊢
    rw [zy] at h4
    have hA := w_at e hw hC 3 (by decide) B ω
    have hk : ¬ e.ex.kd = 6 := fun hh => by rw [(kd_null e).1 hh] at hn; cases hn
    obtain ⟨op, t, n, v, ll, hf⟩ := ex_form e.ex
    rw [hf] at hA ⊢
    generalize br (lo e 3) e.tk = TT at *
    generalize bd (lo e 3) + e.dp = D at *
    (refine vfun (fun _ => .ro) Q0h Tryz.func49 (by kernel_rfl) ?_; simp only [Q0f, Tryz.f49, zw])
    (have zz := Bx.mk (j3 ui0 ui3 (j9 ui4 ui9 ui22 ui23 ui24 ui25 ui26 ui55 (j9 ui56 ui57 ui58 ui59 ui75 Q1k Q0u hk WLg))); (repeat' (first | exact zc | (with_reducible first | apply And.intro | apply Q0a | apply Q0b | refine Q0c (by decide +kernel) ?_ | intro _) | ((with_reducible first | refine .dms (fun x => x = ω) [(0, false), (1, false), (2, false), (3, false), (4, false), (5, false), (6, false), (7, false), (8, false), (9, false), (10, true), (11, false), (12, true)] (by decide) (by decide +kernel) ?_ | refine .dm (fun x => x = ω) [(0, false), (1, false), (2, false), (3, false), (4, false), (5, false), (6, false), (7, false), (8, false), (9, false), (10, true), (11, false), (12, true)] (by decide) (by decide +kernel) ?_); (refine zsR zz.out ?_)) | refine zaR zz.out ?_ | refine zkK zz.out ?_ | ((first | (refine Q0j (by intro β h; first | (rcases h with h | h <;> subst h <;> (simp (disch := first | assumption | (apply zQ; assumption; assumption) | (apply zR; assumption; assumption; (intro e; cases e; done)) | omega) only [zn, zp, zq, zr, zv])) | (subst h; (simp (disch := first | assumption | (apply zQ; assumption; assumption) | (apply zR; assumption; assumption; (intro e; cases e; done)) | omega) only [zn, zp, zq, zr, zv]))) ?_) | ((with_reducible refine zU (hA _ _ _ _ (by exact zO) (by omega) (by omega) (by omega) (by omega) (by exact zN)) ?_); rintro _ S ⟨rfl, τ1, ⟨f1, n1⟩, rfl⟩; have n1s := n1.symm) | ((with_reducible refine zU (Q0m _ _ _ _ _ _ _ _ (by repeat (first | exact Q0p | refine Q0k ?_ (by simp))) (by exact zO) (by exact zN)) ?_); rintro _ S ⟨rfl, τ1, ⟨f1, n1⟩, rfl⟩; have n1s := n1.symm) | (refine Q0d (by exact zK) ?_) | (refine Q0e (by exact zK) ?_)); (try refine zsR zz.out ?_)) | refine zmR zz.out ?_ | refine zo ?_ | omega | refine ztR zz.out ?_ | fail)); try (all_goals clear zz))
    all_goals exact ⟨_, .refl _, τ1, ⟨f1, n1⟩, Q2y (by simp [wdNot]) (by omega) (by omega)⟩
theorem ops_get (k : Nat) (h : k < 14) : (strs ops).getD k [] = [.s (bs (ops.getD k []))] := Q9x h
theorem ops_ne : ∀ k, k < 14 → 1 ≤ k → ops.getD k [] ≠ [] := by decide +kernel
theorem ops_len : (strs ops).length = 14 := rfl
theorem wdDot : wd [46] = sT [46] := rfl
theorem rgV {v : Vl} (h1 : okV v = true) (h2 : inR v.2.1) : inR' v.2.1 ∧ (v.1 = 0 ∨ v.1 = 1 ∨ v.1 = 2) := by
  unfold inR at h2
  unfold inR'
  rcases X6x h1 with rfl | ⟨q1, q2, q3⟩ | ⟨q1, q2, q3⟩
  · exact ⟨⟨by decide, by decide⟩, .inl rfl⟩
  · exact ⟨by omega, .inr (.inl q1)⟩
  · exact ⟨by omega, .inr (.inr q1)⟩
theorem x_val (v : Vl) (hw : (Tr.val v).wf) (hg : (Tr.val v).rg) : Cx (.val v) := by
  intro B ω τ l d m h h0 h1 h2 h3 h4
  obtain ⟨q1, q2⟩ := rgV hw hg
  have hl := (X3h v).2
  have hL : ∀ T r, _ := fun T r => Q4i T r B ω τ l v h (by omega) q1 q2
  rw [ex_val]
  have e1 : (Tr.val v).tk = litT v := rfl
  have e2 : (Tr.val v).dp = 0 := rfl
  rw [e1, e2]
  generalize v.1 = v1 at *
  generalize v.2.1 = v2 at *
  generalize v.2.2 = v3 at *
  (refine vfun (fun _ => .ro) Q0h Tryz.func21 (by kernel_rfl) ?_; simp only [Q0f, Tryz.f21, zw])
  (have zz := Bx.mk (j2 ui0 (j9 ui3 ui4 ui9 ui22 ui23 ui24 ui25 ui26 (j9 ui55 ui56 ui57 ui58 ui59 ui75 Q1k Q0u WLg))); (repeat' (first | exact zc | (with_reducible first | apply And.intro | apply Q0a | apply Q0b | refine Q0c (by decide +kernel) ?_ | intro _) | ((with_reducible first | refine .dms (fun x => False) [(0, false), (1, false), (2, false), (3, true), (4, false), (5, true)] (by decide) (by decide +kernel) ?_ | refine .dm (fun x => False) [(0, false), (1, false), (2, false), (3, true), (4, false), (5, true)] (by decide) (by decide +kernel) ?_); (refine zsR zz.out ?_)) | ((with_reducible first | refine .dms (fun x => False) [(0, false), (1, false), (2, false), (3, true), (4, false), (5, true)] (by decide) (by decide +kernel) ?_ | refine .dm (fun x => False) [(0, false), (1, false), (2, false), (3, true), (4, false), (5, true)] (by decide) (by decide +kernel) ?_); (refine zsR zz.out ?_)) | ((with_reducible first | refine .dms (fun x => False) [(0, false), (1, false), (2, false), (3, true), (4, false), (5, true)] (by decide) (by decide +kernel) ?_ | refine .dm (fun x => False) [(0, false), (1, false), (2, false), (3, true), (4, false), (5, true)] (by decide) (by decide +kernel) ?_); (refine zsR zz.out ?_)) | ((with_reducible first | refine .dms (fun x => False) [(0, false), (1, false), (2, false), (3, false), (4, true), (5, true), (6, true), (7, true), (8, false), (9, true)] (by decide) (by decide +kernel) ?_ | refine .dm (fun x => False) [(0, false), (1, false), (2, false), (3, false), (4, true), (5, true), (6, true), (7, true), (8, false), (9, true)] (by decide) (by decide +kernel) ?_); (refine zsR zz.out ?_)) | refine zaR zz.out ?_ | refine zkN zz.out ?_ | ((first | (refine Q0j (by intro β h; first | (rcases h with h | h <;> subst h <;> (simp (disch := first | assumption | (apply zQ; assumption; assumption) | (apply zR; assumption; assumption; (intro e; cases e; done)) | omega) only [zn, zp, zq, zr, zv])) | (subst h; (simp (disch := first | assumption | (apply zQ; assumption; assumption) | (apply zR; assumption; assumption; (intro e; cases e; done)) | omega) only [zn, zp, zq, zr, zv]))) ?_) | ((with_reducible refine zU (hL _ _) ?_); rintro _ S ⟨rfl, τ1, ⟨f1, n1⟩, rfl⟩; have n1s := n1.symm) | ((with_reducible refine zU (Q0m _ _ _ _ _ _ _ _ (by repeat (first | exact Q0p | refine Q0k ?_ (by simp))) (by exact zO) (by exact zN)) ?_); rintro _ S ⟨rfl, τ1, ⟨f1, n1⟩, rfl⟩; have n1s := n1.symm) | ((with_reducible refine zU (Q4i _ _ _ _ _ _ _ (by exact zO) (by exact zN) (by assumption) (by assumption)) ?_); rintro _ S ⟨rfl, τ1, ⟨f1, n1⟩, rfl⟩; have n1s := n1.symm) | ((with_reducible refine zU (Q3r _ _ _ _ _ _ _ (by exact zO) (by exact zN)) ?_); rintro _ S ⟨rfl, τ1, ⟨f1, n1⟩, rfl⟩; have n1s := n1.symm) | (with_reducible refine uc (Q6o _ (by assumption) _ (by first | assumption | rfl) _) ?_) | (with_reducible refine uc (w_ops _) ?_) | (refine Q0d (by exact zK) ?_) | (refine Q0e (by exact zK) ?_)); (try refine zsR zz.out ?_)) | refine zmR zz.out ?_ | refine zo ?_ | omega | refine ztR zz.out ?_ | fail)); try (all_goals clear zz))
  all_goals exact ⟨_, .refl _, τ1, ⟨f1, n1⟩, Q2y rfl rfl (by omega)⟩
theorem x_col (t n : By) : Cx (.col t n) := by
  intro B ω τ l d m h h0 h1 h2 h3 h4
  have e2 : (Tr.col t n).dp = 0 := rfl
  rw [ex_col, e2]
  rw [Tr.tk] at h4 ⊢
  by_cases ht : t = []
  · rw [if_pos ht] at h4 ⊢
    subst ht
    (refine vfun (fun _ => .ro) Q0h Tryz.func21 (by kernel_rfl) ?_; simp only [Q0f, Tryz.f21, zw])
    (have zz := Bx.mk (j2 ui0 (j9 ui3 ui4 ui9 ui22 ui23 ui24 ui25 ui26 (j9 ui55 ui56 ui57 ui58 ui59 ui75 Q1k Q0u WLg))); (repeat' (first | exact zc | (with_reducible first | apply And.intro | apply Q0a | apply Q0b | refine Q0c (by decide +kernel) ?_ | intro _) | ((with_reducible first | refine .dms (fun x => False) [(0, false), (1, false), (2, false), (3, true), (4, false), (5, true)] (by decide) (by decide +kernel) ?_ | refine .dm (fun x => False) [(0, false), (1, false), (2, false), (3, true), (4, false), (5, true)] (by decide) (by decide +kernel) ?_); (refine zsR zz.out ?_)) | ((with_reducible first | refine .dms (fun x => False) [(0, false), (1, false), (2, false), (3, true), (4, false), (5, true)] (by decide) (by decide +kernel) ?_ | refine .dm (fun x => False) [(0, false), (1, false), (2, false), (3, true), (4, false), (5, true)] (by decide) (by decide +kernel) ?_); (refine zsR zz.out ?_)) | ((with_reducible first | refine .dms (fun x => False) [(0, false), (1, false), (2, false), (3, true), (4, false), (5, true)] (by decide) (by decide +kernel) ?_ | refine .dm (fun x => False) [(0, false), (1, false), (2, false), (3, true), (4, false), (5, true)] (by decide) (by decide +kernel) ?_); (refine zsR zz.out ?_)) | ((with_reducible first | refine .dms (fun x => False) [(0, false), (1, false), (2, false), (3, false), (4, true), (5, true), (6, true), (7, true), (8, false), (9, true)] (by decide) (by decide +kernel) ?_ | refine .dm (fun x => False) [(0, false), (1, false), (2, false), (3, false), (4, true), (5, true), (6, true), (7, true), (8, false), (9, true)] (by decide) (by decide +kernel) ?_); (refine zsR zz.out ?_)) | refine zaR zz.out ?_ | refine zkN zz.out ?_ | ((first | (refine Q0j (by intro β h; first | (rcases h with h | h <;> subst h <;> (simp (disch := first | assumption | (apply zQ; assumption; assumption) | (apply zR; assumption; assumption; (intro e; cases e; done)) | omega) only [zn, zp, zq, zr, zv])) | (subst h; (simp (disch := first | assumption | (apply zQ; assumption; assumption) | (apply zR; assumption; assumption; (intro e; cases e; done)) | omega) only [zn, zp, zq, zr, zv]))) ?_) | ((with_reducible refine zU (Q0m _ _ _ _ _ _ _ _ (by repeat (first | exact Q0p | refine Q0k ?_ (by simp))) (by exact zO) (by exact zN)) ?_); rintro _ S ⟨rfl, τ1, ⟨f1, n1⟩, rfl⟩; have n1s := n1.symm) | ((with_reducible refine zU (Q4i _ _ _ _ _ _ _ (by exact zO) (by exact zN) (by assumption) (by assumption)) ?_); rintro _ S ⟨rfl, τ1, ⟨f1, n1⟩, rfl⟩; have n1s := n1.symm) | ((with_reducible refine zU (Q3r _ _ _ _ _ _ _ (by exact zO) (by exact zN)) ?_); rintro _ S ⟨rfl, τ1, ⟨f1, n1⟩, rfl⟩; have n1s := n1.symm) | (with_reducible refine uc (Q6o _ (by assumption) _ (by first | assumption | rfl) _) ?_) | (with_reducible refine uc (w_ops _) ?_) | (refine Q0d (by exact zK) ?_) | (refine Q0e (by exact zK) ?_)); (try refine zsR zz.out ?_)) | refine zmR zz.out ?_ | refine zo ?_ | omega | refine ztR zz.out ?_ | fail)); try (all_goals clear zz))
    all_goals first | exact ⟨_, .refl _, τ1, ⟨f1, n1⟩, Q2y rfl rfl (by omega)⟩ | (exfalso; simp_all; done)
  · rw [if_neg ht] at h4 ⊢
    simp only [zy, List.length_nil] at h4
    (refine vfun (fun _ => .ro) Q0h Tryz.func21 (by kernel_rfl) ?_; simp only [Q0f, Tryz.f21, zw])
    (have zz := Bx.mk (j3 ui0 ui3 (j9 ui4 ui9 ui22 ui23 ui24 ui25 ui26 ui55 (j9 ui56 ui57 ui58 ui59 ui75 Q1k Q0u ht WLg))); (repeat' (first | exact zc | (with_reducible first | apply And.intro | apply Q0a | apply Q0b | refine Q0c (by decide +kernel) ?_ | intro _) | ((with_reducible first | refine .dms (fun x => False) [(0, false), (1, false), (2, false), (3, true), (4, false), (5, true)] (by decide) (by decide +kernel) ?_ | refine .dm (fun x => False) [(0, false), (1, false), (2, false), (3, true), (4, false), (5, true)] (by decide) (by decide +kernel) ?_); (refine zsR zz.out ?_)) | ((with_reducible first | refine .dms (fun x => False) [(0, false), (1, false), (2, false), (3, true), (4, false), (5, true)] (by decide) (by decide +kernel) ?_ | refine .dm (fun x => False) [(0, false), (1, false), (2, false), (3, true), (4, false), (5, true)] (by decide) (by decide +kernel) ?_); (refine zsR zz.out ?_)) | ((with_reducible first | refine .dms (fun x => False) [(0, false), (1, false), (2, false), (3, true), (4, false), (5, true)] (by decide) (by decide +kernel) ?_ | refine .dm (fun x => False) [(0, false), (1, false), (2, false), (3, true), (4, false), (5, true)] (by decide) (by decide +kernel) ?_); (refine zsR zz.out ?_)) | ((with_reducible first | refine .dms (fun x => False) [(0, false), (1, false), (2, false), (3, false), (4, true), (5, true), (6, true), (7, true), (8, false), (9, true)] (by decide) (by decide +kernel) ?_ | refine .dm (fun x => False) [(0, false), (1, false), (2, false), (3, false), (4, true), (5, true), (6, true), (7, true), (8, false), (9, true)] (by decide) (by decide +kernel) ?_); (refine zsR zz.out ?_)) | refine zaR zz.out ?_ | refine zkN zz.out ?_ | ((first | (refine Q0j (by intro β h; first | (rcases h with h | h <;> subst h <;> (simp (disch := first | assumption | (apply zQ; assumption; assumption) | (apply zR; assumption; assumption; (intro e; cases e; done)) | omega) only [zn, zp, zq, zr, zv])) | (subst h; (simp (disch := first | assumption | (apply zQ; assumption; assumption) | (apply zR; assumption; assumption; (intro e; cases e; done)) | omega) only [zn, zp, zq, zr, zv]))) ?_) | ((with_reducible refine zU (Q0m _ _ _ _ _ _ _ _ (by repeat (first | exact Q0p | refine Q0k ?_ (by simp))) (by exact zO) (by exact zN)) ?_); rintro _ S ⟨rfl, τ1, ⟨f1, n1⟩, rfl⟩; have n1s := n1.symm) | ((with_reducible refine zU (Q4i _ _ _ _ _ _ _ (by exact zO) (by exact zN) (by assumption) (by assumption)) ?_); rintro _ S ⟨rfl, τ1, ⟨f1, n1⟩, rfl⟩; have n1s := n1.symm) | ((with_reducible refine zU (Q3r _ _ _ _ _ _ _ (by exact zO) (by exact zN)) ?_); rintro _ S ⟨rfl, τ1, ⟨f1, n1⟩, rfl⟩; have n1s := n1.symm) | (with_reducible refine uc (Q6o _ (by assumption) _ (by first | assumption | rfl) _) ?_) | (with_reducible refine uc (w_ops _) ?_) | (refine Q0d (by exact zK) ?_) | (refine Q0e (by exact zK) ?_)); (try refine zsR zz.out ?_)) | refine zmR zz.out ?_ | refine zo ?_ | omega | refine ztR zz.out ?_ | fail)); try (all_goals clear zz))
    all_goals first | exact ⟨_, .refl _, τ1, ⟨f1, n1⟩, Q2y (by simp [wdDot]) rfl (by omega)⟩ | (exfalso; simp_all; done)
theorem x_null (e : Tr) (hw : e.wf) (hC : Cx e) : Cx (.null e) := by
  intro B ω τ l d m h h0 h1 h2 h3 h4
  have hA := w_at e hw hC 5 (by decide) B ω
  have hxl := Q0r e.ex
  have hxt := Q0q e.ex
  rw [X0a] at h4 ⊢
  rw [Tr.dp] at h3 ⊢
  simp only [zx, zy, List.length_nil] at h4
  rw [ex_null]
  generalize br (lo e 5) e.tk = TT at *
  generalize bd (lo e 5) + e.dp = D at *
  generalize exA e.ex = X at *
  (refine vfun (fun _ => .ro) Q0h Tryz.func21 (by kernel_rfl) ?_; simp only [Q0f, Tryz.f21, zw])
  (have zz := Bx.mk (j4 ui0 ui3 ui4 (j9 ui9 ui22 ui23 ui24 ui25 ui26 ui55 ui56 (j9 ui57 ui58 ui59 ui75 Q1k Q0u hxl hxt WLg))); (repeat' (first | exact zc | (with_reducible first | apply And.intro | apply Q0a | apply Q0b | refine Q0c (by decide +kernel) ?_ | intro _) | ((with_reducible first | refine .dms (fun x => False) [(0, false), (1, false), (2, false), (3, true), (4, false), (5, true)] (by decide) (by decide +kernel) ?_ | refine .dm (fun x => False) [(0, false), (1, false), (2, false), (3, true), (4, false), (5, true)] (by decide) (by decide +kernel) ?_); (refine zsR zz.out ?_)) | ((with_reducible first | refine .dms (fun x => False) [(0, false), (1, false), (2, false), (3, true), (4, false), (5, true)] (by decide) (by decide +kernel) ?_ | refine .dm (fun x => False) [(0, false), (1, false), (2, false), (3, true), (4, false), (5, true)] (by decide) (by decide +kernel) ?_); (refine zsR zz.out ?_)) | ((with_reducible first | refine .dms (fun x => False) [(0, false), (1, false), (2, false), (3, true), (4, false), (5, true)] (by decide) (by decide +kernel) ?_ | refine .dm (fun x => False) [(0, false), (1, false), (2, false), (3, true), (4, false), (5, true)] (by decide) (by decide +kernel) ?_); (refine zsR zz.out ?_)) | ((with_reducible first | refine .dms (fun x => False) [(0, false), (1, false), (2, false), (3, false), (4, true), (5, true), (6, true), (7, true), (8, false), (9, true)] (by decide) (by decide +kernel) ?_ | refine .dm (fun x => False) [(0, false), (1, false), (2, false), (3, false), (4, true), (5, true), (6, true), (7, true), (8, false), (9, true)] (by decide) (by decide +kernel) ?_); (refine zsR zz.out ?_)) | refine zaR zz.out ?_ | refine zkN zz.out ?_ | ((first | (refine Q0j (by intro β h; first | (rcases h with h | h <;> subst h <;> (simp (disch := first | assumption | (apply zQ; assumption; assumption) | (apply zR; assumption; assumption; (intro e; cases e; done)) | omega) only [zn, zp, zq, zr, zv])) | (subst h; (simp (disch := first | assumption | (apply zQ; assumption; assumption) | (apply zR; assumption; assumption; (intro e; cases e; done)) | omega) only [zn, zp, zq, zr, zv]))) ?_) | ((with_reducible refine zU (hA _ _ _ _ (by exact zO) (by omega) (by omega) (by omega) (by omega) (by exact zN)) ?_); rintro _ S ⟨rfl, τ1, ⟨f1, n1⟩, rfl⟩; have n1s := n1.symm) | ((with_reducible refine zU (Q0m _ _ _ _ _ _ _ _ (by repeat (first | exact Q0p | refine Q0k ?_ (by simp))) (by exact zO) (by exact zN)) ?_); rintro _ S ⟨rfl, τ1, ⟨f1, n1⟩, rfl⟩; have n1s := n1.symm) | ((with_reducible refine zU (Q4i _ _ _ _ _ _ _ (by exact zO) (by exact zN) (by assumption) (by assumption)) ?_); rintro _ S ⟨rfl, τ1, ⟨f1, n1⟩, rfl⟩; have n1s := n1.symm) | ((with_reducible refine zU (Q3r _ _ _ _ _ _ _ (by exact zO) (by exact zN)) ?_); rintro _ S ⟨rfl, τ1, ⟨f1, n1⟩, rfl⟩; have n1s := n1.symm) | (with_reducible refine uc (Q6o _ (by assumption) _ (by first | assumption | rfl) _) ?_) | (with_reducible refine uc (w_ops _) ?_) | (refine Q0d (by exact zK) ?_) | (refine Q0e (by exact zK) ?_)); (try refine zsR zz.out ?_)) | refine zmR zz.out ?_ | refine zo ?_ | omega | refine ztR zz.out ?_ | fail)); try (all_goals clear zz))
  all_goals exact ⟨_, .refl _, τ1, ⟨f1, n1⟩, Q2y (by simp [wdIs, wdNull]) rfl (by omega)⟩
theorem x_neg (e : Tr) (hw : e.wf) (hC : Cx e) : Cx (.neg e) := by
  intro B ω τ l d m h h0 h1 h2 h3 h4
  have hA := w_neg e hw hC B ω τ l d m h h0 h1 h2 h3 h4
  have hxl := Q0r e.ex
  have hxt := Q0q e.ex
  rw [ex_neg]
  generalize (Tr.neg e).tk = TT at *
  generalize (Tr.neg e).dp = D at *
  generalize exA e.ex = X at *
  (refine vfun (fun _ => .ro) Q0h Tryz.func21 (by kernel_rfl) ?_; simp only [Q0f, Tryz.f21, zw])
  (have zz := Bx.mk (j4 ui0 ui3 ui4 (j9 ui9 ui22 ui23 ui24 ui25 ui26 ui55 ui56 (j9 ui57 ui58 ui59 ui75 Q1k Q0u hxl hxt WLg))); (repeat' (first | exact zc | (with_reducible first | apply And.intro | apply Q0a | apply Q0b | refine Q0c (by decide +kernel) ?_ | intro _) | ((with_reducible first | refine .dms (fun x => False) [(0, false), (1, false), (2, false), (3, true), (4, false), (5, true)] (by decide) (by decide +kernel) ?_ | refine .dm (fun x => False) [(0, false), (1, false), (2, false), (3, true), (4, false), (5, true)] (by decide) (by decide +kernel) ?_); (refine zsR zz.out ?_)) | ((with_reducible first | refine .dms (fun x => False) [(0, false), (1, false), (2, false), (3, true), (4, false), (5, true)] (by decide) (by decide +kernel) ?_ | refine .dm (fun x => False) [(0, false), (1, false), (2, false), (3, true), (4, false), (5, true)] (by decide) (by decide +kernel) ?_); (refine zsR zz.out ?_)) | ((with_reducible first | refine .dms (fun x => False) [(0, false), (1, false), (2, false), (3, true), (4, false), (5, true)] (by decide) (by decide +kernel) ?_ | refine .dm (fun x => False) [(0, false), (1, false), (2, false), (3, true), (4, false), (5, true)] (by decide) (by decide +kernel) ?_); (refine zsR zz.out ?_)) | ((with_reducible first | refine .dms (fun x => False) [(0, false), (1, false), (2, false), (3, false), (4, true), (5, true), (6, true), (7, true), (8, false), (9, true)] (by decide) (by decide +kernel) ?_ | refine .dm (fun x => False) [(0, false), (1, false), (2, false), (3, false), (4, true), (5, true), (6, true), (7, true), (8, false), (9, true)] (by decide) (by decide +kernel) ?_); (refine zsR zz.out ?_)) | refine zaR zz.out ?_ | refine zkN zz.out ?_ | ((first | (refine Q0j (by intro β h; first | (rcases h with h | h <;> subst h <;> (simp (disch := first | assumption | (apply zQ; assumption; assumption) | (apply zR; assumption; assumption; (intro e; cases e; done)) | omega) only [zn, zp, zq, zr, zv])) | (subst h; (simp (disch := first | assumption | (apply zQ; assumption; assumption) | (apply zR; assumption; assumption; (intro e; cases e; done)) | omega) only [zn, zp, zq, zr, zv]))) ?_) | ((with_reducible refine zU (hA) ?_); rintro _ S ⟨rfl, τ1, ⟨f1, n1⟩, rfl⟩; have n1s := n1.symm) | ((with_reducible refine zU (Q0m _ _ _ _ _ _ _ _ (by repeat (first | exact Q0p | refine Q0k ?_ (by simp))) (by exact zO) (by exact zN)) ?_); rintro _ S ⟨rfl, τ1, ⟨f1, n1⟩, rfl⟩; have n1s := n1.symm) | ((with_reducible refine zU (Q4i _ _ _ _ _ _ _ (by exact zO) (by exact zN) (by assumption) (by assumption)) ?_); rintro _ S ⟨rfl, τ1, ⟨f1, n1⟩, rfl⟩; have n1s := n1.symm) | ((with_reducible refine zU (Q3r _ _ _ _ _ _ _ (by exact zO) (by exact zN)) ?_); rintro _ S ⟨rfl, τ1, ⟨f1, n1⟩, rfl⟩; have n1s := n1.symm) | (with_reducible refine uc (Q6o _ (by assumption) _ (by first | assumption | rfl) _) ?_) | (with_reducible refine uc (w_ops _) ?_) | (refine Q0d (by exact zK) ?_) | (refine Q0e (by exact zK) ?_)); (try refine zsR zz.out ?_)) | refine zmR zz.out ?_ | refine zo ?_ | omega | refine ztR zz.out ?_ | fail)); try (all_goals clear zz))
  all_goals exact ⟨_, .refl _, τ1, ⟨f1, n1⟩, rfl⟩
theorem x_not (e : Tr) (hw : e.wf) (hC : Cx e) (hx : ∀ x, e = .null x → Cx x) : Cx (.not e) := by
  intro B ω τ l d m h h0 h1 h2 h3 h4
  have hA := w_not e hw hC hx B ω τ l d m h h0 h1 h2 h3 h4
  have hxl := Q0r e.ex
  have hxt := Q0q e.ex
  rw [ex_not]
  generalize (Tr.not e).tk = TT at *
  generalize (Tr.not e).dp = D at *
  generalize exA e.ex = X at *
  (refine vfun (fun _ => .ro) Q0h Tryz.func21 (by kernel_rfl) ?_; simp only [Q0f, Tryz.f21, zw])
  (have zz := Bx.mk (j4 ui0 ui3 ui4 (j9 ui9 ui22 ui23 ui24 ui25 ui26 ui55 ui56 (j9 ui57 ui58 ui59 ui75 Q1k Q0u hxl hxt WLg))); (repeat' (first | exact zc | (with_reducible first | apply And.intro | apply Q0a | apply Q0b | refine Q0c (by decide +kernel) ?_ | intro _) | ((with_reducible first | refine .dms (fun x => False) [(0, false), (1, false), (2, false), (3, true), (4, false), (5, true)] (by decide) (by decide +kernel) ?_ | refine .dm (fun x => False) [(0, false), (1, false), (2, false), (3, true), (4, false), (5, true)] (by decide) (by decide +kernel) ?_); (refine zsR zz.out ?_)) | ((with_reducible first | refine .dms (fun x => False) [(0, false), (1, false), (2, false), (3, true), (4, false), (5, true)] (by decide) (by decide +kernel) ?_ | refine .dm (fun x => False) [(0, false), (1, false), (2, false), (3, true), (4, false), (5, true)] (by decide) (by decide +kernel) ?_); (refine zsR zz.out ?_)) | ((with_reducible first | refine .dms (fun x => False) [(0, false), (1, false), (2, false), (3, true), (4, false), (5, true)] (by decide) (by decide +kernel) ?_ | refine .dm (fun x => False) [(0, false), (1, false), (2, false), (3, true), (4, false), (5, true)] (by decide) (by decide +kernel) ?_); (refine zsR zz.out ?_)) | ((with_reducible first | refine .dms (fun x => False) [(0, false), (1, false), (2, false), (3, false), (4, true), (5, true), (6, true), (7, true), (8, false), (9, true)] (by decide) (by decide +kernel) ?_ | refine .dm (fun x => False) [(0, false), (1, false), (2, false), (3, false), (4, true), (5, true), (6, true), (7, true), (8, false), (9, true)] (by decide) (by decide +kernel) ?_); (refine zsR zz.out ?_)) | refine zaR zz.out ?_ | refine zkN zz.out ?_ | ((first | (refine Q0j (by intro β h; first | (rcases h with h | h <;> subst h <;> (simp (disch := first | assumption | (apply zQ; assumption; assumption) | (apply zR; assumption; assumption; (intro e; cases e; done)) | omega) only [zn, zp, zq, zr, zv])) | (subst h; (simp (disch := first | assumption | (apply zQ; assumption; assumption) | (apply zR; assumption; assumption; (intro e; cases e; done)) | omega) only [zn, zp, zq, zr, zv]))) ?_) | ((with_reducible refine zU (hA) ?_); rintro _ S ⟨rfl, τ1, ⟨f1, n1⟩, rfl⟩; have n1s := n1.symm) | ((with_reducible refine zU (Q0m _ _ _ _ _ _ _ _ (by repeat (first | exact Q0p | refine Q0k ?_ (by simp))) (by exact zO) (by exact zN)) ?_); rintro _ S ⟨rfl, τ1, ⟨f1, n1⟩, rfl⟩; have n1s := n1.symm) | ((with_reducible refine zU (Q4i _ _ _ _ _ _ _ (by exact zO) (by exact zN) (by assumption) (by assumption)) ?_); rintro _ S ⟨rfl, τ1, ⟨f1, n1⟩, rfl⟩; have n1s := n1.symm) | ((with_reducible refine zU (Q3r _ _ _ _ _ _ _ (by exact zO) (by exact zN)) ?_); rintro _ S ⟨rfl, τ1, ⟨f1, n1⟩, rfl⟩; have n1s := n1.symm) | (with_reducible refine uc (Q6o _ (by assumption) _ (by first | assumption | rfl) _) ?_) | (with_reducible refine uc (w_ops _) ?_) | (refine Q0d (by exact zK) ?_) | (refine Q0e (by exact zK) ?_)); (try refine zsR zz.out ?_)) | refine zmR zz.out ?_ | refine zo ?_ | omega | refine ztR zz.out ?_ | fail)); try (all_goals clear zz))
  all_goals exact ⟨_, .refl _, τ1, ⟨f1, n1⟩, rfl⟩
theorem x_op (k : Nat) (a b : Tr) (hw : (Tr.op k a b).wf) (ha : Cx a) (hb : Cx b) : Cx (.op k a b) := by
  intro B ω τ l d m h h0 h1 h2 h3 h4
  have hw' := hw
  obtain ⟨⟨hk1, hk2⟩, hwa, hwb⟩ := hw
  have hlk : 1 ≤ lvK k ∧ lvK k ≤ 6 := by
    have := lvK_le k hk1
    omega
  have hA := w_at a hwa ha (lftK k) (by unfold lftK; split <;> omega) B ω
  have hB := w_at b hwb hb (lvK k + 1) (by omega) B ω
  have hl : ∀ E, E = exA (Tr.op k a b).ex → ∀ σ, VCalls Tryz.prog 50 [.agg E] σ (fun x σ' => x = .i (lvK k : Nat) ∧ σ' = σ) := fun E hE σ => Q6o _ hw' E hE σ
  have hxl := Q0r a.ex
  have hxt := Q0q a.ex
  have hyl := Q0r b.ex
  have hyt := Q0q b.ex
  have hog := ops_get k (by omega)
  have hone := ops_ne k (by omega) hk1
  have hf4 : lvK k = 4 → lftK k = 5 := fun h => if_pos h
  have hf5 : lvK k ≠ 4 → lftK k = lvK k := fun h => if_neg h
  rw [Y0g] at h4 ⊢
  rw [Tr.dp] at h3 ⊢
  simp only [zx, zy, List.length_nil] at h4
  rw [ex_op] at hl ⊢
  generalize br (lo a (lftK k)) a.tk = TA at *
  generalize bd (lo a (lftK k)) + a.dp = DA at *
  generalize br (lo b (lvK k + 1)) b.tk = TB at *
  generalize bd (lo b (lvK k + 1)) + b.dp = DB at *
  generalize exA a.ex = X at *
  generalize exA b.ex = Y at *
  generalize ops.getD k [] = W at *
  have hlv : lvK k = 4 ∨ lvK k ≠ 4 := by omega
  have hB : ∀ τ l d m, okS B ω τ → 0 ≤ d → d ≤ m → m ≤ 2 ^ 41 → d + ((DB : Nat) : Int) ≤ 2 ^ 40 → l.length + TB.length ≤ 2 ^ 36 → VCalls Tryz.prog 47 [.ref ω 0, .agg Y, .i ((lvK k : Nat) + 1)] (WS B ω τ l d m) _ := hB
  rcases hlv with hc | hc
  · rw [hf4 hc] at hA
    have hA : ∀ τ l d m, okS B ω τ → 0 ≤ d → d ≤ m → m ≤ 2 ^ 41 → d + ((DA : Nat) : Int) ≤ 2 ^ 40 → l.length + TA.length ≤ 2 ^ 36 → VCalls Tryz.prog 47 [.ref ω 0, .agg X, .i 5] (WS B ω τ l d m) _ := hA
    rw [hc] at hl hB
    clear hf4 hf5
    (refine vfun (fun _ => .ro) Q0h Tryz.func21 (by kernel_rfl) ?_; simp only [Q0f, Tryz.f21, zw])
    (have zz := Bx.mk (j8 ui0 ui3 ui4 ui9 ui22 ui23 ui24 (j9 ui25 ui26 ui55 ui56 ui57 ui58 ui59 ui75 (j9 Q1k Q0u hxl hxt hyl hyt hog @ops_len WLg))); (repeat' (first | exact zc | (with_reducible first | apply And.intro | apply Q0a | apply Q0b | refine Q0c (by decide +kernel) ?_ | intro _) | ((with_reducible first | refine .dms (fun x => False) [(0, false), (1, false), (2, false), (3, true), (4, false), (5, true)] (by decide) (by decide +kernel) ?_ | refine .dm (fun x => False) [(0, false), (1, false), (2, false), (3, true), (4, false), (5, true)] (by decide) (by decide +kernel) ?_); (refine zsR zz.out ?_)) | ((with_reducible first | refine .dms (fun x => False) [(0, false), (1, false), (2, false), (3, true), (4, false), (5, true)] (by decide) (by decide +kernel) ?_ | refine .dm (fun x => False) [(0, false), (1, false), (2, false), (3, true), (4, false), (5, true)] (by decide) (by decide +kernel) ?_); (refine zsR zz.out ?_)) | ((with_reducible first | refine .dms (fun x => False) [(0, false), (1, false), (2, false), (3, true), (4, false), (5, true)] (by decide) (by decide +kernel) ?_ | refine .dm (fun x => False) [(0, false), (1, false), (2, false), (3, true), (4, false), (5, true)] (by decide) (by decide +kernel) ?_); (refine zsR zz.out ?_)) | ((with_reducible first | refine .dms (fun x => False) [(0, false), (1, false), (2, false), (3, false), (4, true), (5, true), (6, true), (7, true), (8, false), (9, true)] (by decide) (by decide +kernel) ?_ | refine .dm (fun x => False) [(0, false), (1, false), (2, false), (3, false), (4, true), (5, true), (6, true), (7, true), (8, false), (9, true)] (by decide) (by decide +kernel) ?_); (refine zsR zz.out ?_)) | refine zaR zz.out ?_ | refine zkN zz.out ?_ | ((first | (refine Q0j (by intro β h; first | (rcases h with h | h <;> subst h <;> (simp (disch := first | assumption | (apply zQ; assumption; assumption) | (apply zR; assumption; assumption; (intro e; cases e; done)) | omega) only [zn, zp, zq, zr, zv])) | (subst h; (simp (disch := first | assumption | (apply zQ; assumption; assumption) | (apply zR; assumption; assumption; (intro e; cases e; done)) | omega) only [zn, zp, zq, zr, zv]))) ?_) | (with_reducible refine uc (hl _ rfl _) ?_) | ((with_reducible refine zU (hA _ _ _ _ (by exact zO) (by omega) (by omega) (by omega) (by omega) (by exact zN)) ?_); rintro _ S ⟨rfl, τ1, ⟨f1, n1⟩, rfl⟩; have n1s := n1.symm) | ((with_reducible refine zU (hB _ _ _ _ (by exact zO) (by omega) (by omega) (by omega) (by omega) (by exact zN)) ?_); rintro _ S ⟨rfl, τ1, ⟨f1, n1⟩, rfl⟩; have n1s := n1.symm) | ((with_reducible refine zU (Q0m _ _ _ _ _ _ _ _ (Q0k Q0p (by assumption)) (by exact zO) (by exact zN)) ?_); rintro _ S ⟨rfl, τ1, ⟨f1, n1⟩, rfl⟩; have n1s := n1.symm) | ((with_reducible refine zU (Q0m _ _ _ _ _ _ _ _ (by repeat (first | exact Q0p | refine Q0k ?_ (by simp))) (by exact zO) (by exact zN)) ?_); rintro _ S ⟨rfl, τ1, ⟨f1, n1⟩, rfl⟩; have n1s := n1.symm) | ((with_reducible refine zU (Q4i _ _ _ _ _ _ _ (by exact zO) (by exact zN) (by assumption) (by assumption)) ?_); rintro _ S ⟨rfl, τ1, ⟨f1, n1⟩, rfl⟩; have n1s := n1.symm) | ((with_reducible refine zU (Q3r _ _ _ _ _ _ _ (by exact zO) (by exact zN)) ?_); rintro _ S ⟨rfl, τ1, ⟨f1, n1⟩, rfl⟩; have n1s := n1.symm) | (with_reducible refine uc (Q6o _ (by assumption) _ (by first | assumption | rfl) _) ?_) | (with_reducible refine uc (w_ops _) ?_) | (refine Q0d (by exact zK) ?_) | (refine Q0e (by exact zK) ?_)); (try refine zsR zz.out ?_)) | refine zmR zz.out ?_ | refine zo ?_ | omega | refine ztR zz.out ?_ | fail)); try (all_goals clear zz))
    all_goals first | exact ⟨_, .refl _, τ1, ⟨f1, n1⟩, Q2y (by simp) rfl (by omega)⟩ | (exfalso; omega)
  · rw [hf5 hc] at hA
    have hA : ∀ τ l d m, okS B ω τ → 0 ≤ d → d ≤ m → m ≤ 2 ^ 41 → d + ((DA : Nat) : Int) ≤ 2 ^ 40 → l.length + TA.length ≤ 2 ^ 36 → VCalls Tryz.prog 47 [.ref ω 0, .agg X, .i (lvK k : Nat)] (WS B ω τ l d m) _ := hA
    clear hf4 hf5
    generalize lvK k = K at *
    (refine vfun (fun _ => .ro) Q0h Tryz.func21 (by kernel_rfl) ?_; simp only [Q0f, Tryz.f21, zw])
    (have zz := Bx.mk (j8 ui0 ui3 ui4 ui9 ui22 ui23 ui24 (j9 ui25 ui26 ui55 ui56 ui57 ui58 ui59 ui75 (j9 Q1k Q0u hxl hxt hyl hyt hog @ops_len WLg))); (repeat' (first | exact zc | (with_reducible first | apply And.intro | apply Q0a | apply Q0b | refine Q0c (by decide +kernel) ?_ | intro _) | ((with_reducible first | refine .dms (fun x => False) [(0, false), (1, false), (2, false), (3, true), (4, false), (5, true)] (by decide) (by decide +kernel) ?_ | refine .dm (fun x => False) [(0, false), (1, false), (2, false), (3, true), (4, false), (5, true)] (by decide) (by decide +kernel) ?_); (refine zsR zz.out ?_)) | ((with_reducible first | refine .dms (fun x => False) [(0, false), (1, false), (2, false), (3, true), (4, false), (5, true)] (by decide) (by decide +kernel) ?_ | refine .dm (fun x => False) [(0, false), (1, false), (2, false), (3, true), (4, false), (5, true)] (by decide) (by decide +kernel) ?_); (refine zsR zz.out ?_)) | ((with_reducible first | refine .dms (fun x => False) [(0, false), (1, false), (2, false), (3, true), (4, false), (5, true)] (by decide) (by decide +kernel) ?_ | refine .dm (fun x => False) [(0, false), (1, false), (2, false), (3, true), (4, false), (5, true)] (by decide) (by decide +kernel) ?_); (refine zsR zz.out ?_)) | ((with_reducible first | refine .dms (fun x => False) [(0, false), (1, false), (2, false), (3, false), (4, true), (5, true), (6, true), (7, true), (8, false), (9, true)] (by decide) (by decide +kernel) ?_ | refine .dm (fun x => False) [(0, false), (1, false), (2, false), (3, false), (4, true), (5, true), (6, true), (7, true), (8, false), (9, true)] (by decide) (by decide +kernel) ?_); (refine zsR zz.out ?_)) | refine zaR zz.out ?_ | refine zkN zz.out ?_ | ((first | (refine Q0j (by intro β h; first | (rcases h with h | h <;> subst h <;> (simp (disch := first | assumption | (apply zQ; assumption; assumption) | (apply zR; assumption; assumption; (intro e; cases e; done)) | omega) only [zn, zp, zq, zr, zv])) | (subst h; (simp (disch := first | assumption | (apply zQ; assumption; assumption) | (apply zR; assumption; assumption; (intro e; cases e; done)) | omega) only [zn, zp, zq, zr, zv]))) ?_) | (with_reducible refine uc (hl _ rfl _) ?_) | ((with_reducible refine zU (hA _ _ _ _ (by exact zO) (by omega) (by omega) (by omega) (by omega) (by exact zN)) ?_); rintro _ S ⟨rfl, τ1, ⟨f1, n1⟩, rfl⟩; have n1s := n1.symm) | ((with_reducible refine zU (hB _ _ _ _ (by exact zO) (by omega) (by omega) (by omega) (by omega) (by exact zN)) ?_); rintro _ S ⟨rfl, τ1, ⟨f1, n1⟩, rfl⟩; have n1s := n1.symm) | ((with_reducible refine zU (Q0m _ _ _ _ _ _ _ _ (Q0k Q0p (by assumption)) (by exact zO) (by exact zN)) ?_); rintro _ S ⟨rfl, τ1, ⟨f1, n1⟩, rfl⟩; have n1s := n1.symm) | ((with_reducible refine zU (Q0m _ _ _ _ _ _ _ _ (by repeat (first | exact Q0p | refine Q0k ?_ (by simp))) (by exact zO) (by exact zN)) ?_); rintro _ S ⟨rfl, τ1, ⟨f1, n1⟩, rfl⟩; have n1s := n1.symm) | ((with_reducible refine zU (Q4i _ _ _ _ _ _ _ (by exact zO) (by exact zN) (by assumption) (by assumption)) ?_); rintro _ S ⟨rfl, τ1, ⟨f1, n1⟩, rfl⟩; have n1s := n1.symm) | ((with_reducible refine zU (Q3r _ _ _ _ _ _ _ (by exact zO) (by exact zN)) ?_); rintro _ S ⟨rfl, τ1, ⟨f1, n1⟩, rfl⟩; have n1s := n1.symm) | (with_reducible refine uc (Q6o _ (by assumption) _ (by first | assumption | rfl) _) ?_) | (with_reducible refine uc (w_ops _) ?_) | (refine Q0d (by exact zK) ?_) | (refine Q0e (by exact zK) ?_)); (try refine zsR zz.out ?_)) | refine zmR zz.out ?_ | refine zo ?_ | omega | refine ztR zz.out ?_ | fail)); try (all_goals clear zz))
    all_goals first | exact ⟨_, .refl _, τ1, ⟨f1, n1⟩, Q2y (by simp) rfl (by omega)⟩ | (exfalso; omega)
end Go.Proofs.YtjdapkelojdefaaGreatDoor
namespace Go.Lex
open Go.V Go.Proofs.YtjdapkelojdefaaGreatDoor
def padD : Nat → Nat → List UInt8
  | 0, _ => []
  | k + 1, u => padD k (u / 10) ++ [UInt8.ofNat (48 + u % 10)]
theorem X1p : ∀ k u, (padD k u).length = k
  | 0, u => rfl
  | k + 1, u => by rw [padD, zx, X1p k]; rfl
theorem padD_add (j : Nat) : ∀ k u, padD (j + k) u = padD j (u / 10 ^ k) ++ padD k u
  | 0, u => by rw [Nat.add_zero, Nat.pow_zero, Nat.div_one, padD, List.append_nil]
  | k + 1, u => by
    rw [← Nat.add_assoc, padD, padD_add j k, padD, Nat.div_div_eq_div_mul, Nat.pow_succ, Nat.mul_comm 10, zC]
theorem Y0l : ∀ (k u : Nat), (k = 0 ∨ 10 ^ k ≤ u) → u < 10 ^ (k + 1) → dec u = padD (k + 1) u
  | 0, u, _, h => by
    rw [X5d (by omega), padD, padD, zH, Nat.mod_eq_of_lt (by omega)]
  | k + 1, u, h1, h2 => by
    have h3 : 10 ^ (k + 1) ≤ u := by rcases h1 with h | h <;> omega
    rw [Nat.pow_succ] at h2 h3
    have hp : 1 ≤ 10 ^ k := Nat.one_le_pow _ _ (by decide)
    rw [X6q (by omega), padD, Y0l k (u / 10) (.inr (by omega)) (by omega)]
theorem pad2 (u : Nat) : padD 2 u = [UInt8.ofNat (48 + u / 10 % 10), UInt8.ofNat (48 + u % 10)] := rfl
theorem pad4 (u : Nat) : padD 4 u = [UInt8.ofNat (48 + u / 10 / 10 / 10 % 10), UInt8.ofNat (48 + u / 10 / 10 % 10), UInt8.ofNat (48 + u / 10 % 10), UInt8.ofNat (48 + u % 10)] := rfl
theorem pad8 (u : Nat) : padD 8 u = [UInt8.ofNat (48 + u / 10 / 10 / 10 / 10 / 10 / 10 / 10 % 10), UInt8.ofNat (48 + u / 10 / 10 / 10 / 10 / 10 / 10 % 10), UInt8.ofNat (48 + u / 10 / 10 / 10 / 10 / 10 % 10), UInt8.ofNat (48 + u / 10 / 10 / 10 / 10 % 10), UInt8.ofNat (48 + u / 10 / 10 / 10 % 10), UInt8.ofNat (48 + u / 10 / 10 % 10), UInt8.ofNat (48 + u / 10 % 10), UInt8.ofNat (48 + u % 10)] := rfl
def nd10 (len : Nat) : Nat := len * 78913 / 262144
theorem nd10_ok : ∀ len, len ≤ 64 → 1 ≤ len → 2 ^ len ≤ 10 ^ (nd10 len + 1) ∧ (nd10 len = 0 ∨ 10 ^ (nd10 len - 1) ≤ 2 ^ (len - 1)) ∧ nd10 len ≤ 19 := by decide +kernel
theorem digits_ok {len u : Nat} (h1 : 1 ≤ len) (h2 : len ≤ 64) (h3 : 2 ^ (len - 1) ≤ u) (h4 : u < 2 ^ len) :
    (10 ^ nd10 len ≤ u → dec u = padD (nd10 len + 1) u) ∧ (u < 10 ^ nd10 len → 1 ≤ nd10 len ∧ dec u = padD (nd10 len) u) := by
  obtain ⟨a, b, c⟩ := nd10_ok len h2 h1
  have hp : 1 ≤ 2 ^ (len - 1) := Nat.one_le_pow _ _ (by decide)
  refine ⟨fun h => Y0l _ u (.inr h) (by omega), fun h => ?_⟩
  rcases b with b | b
  · rw [b] at h; omega
  · obtain ⟨m, hm⟩ : ∃ m, nd10 len = m + 1 := by
      cases hn : nd10 len with
      | zero => rw [hn] at h; omega
      | succ m => exact ⟨m, rfl⟩
    rw [hm] at b h ⊢
    exact ⟨by omega, Y0l m u (.inr (by simpa using Nat.le_trans b h3)) h⟩
theorem dec_pow : ∀ n, n < 10 ^ (dec n).length := fun n => by
  induction n using Nat.strongRecOn with
  | ind n ih =>
    by_cases h : n < 10
    · rw [X5d h]; simpa using h
    · rw [X6q h, zx, List.length_singleton, Nat.pow_succ]
      have := ih (n / 10) (by omega)
      omega
theorem dec_padlen : ∀ n, dec n = padD (dec n).length n := fun n => by
  induction n using Nat.strongRecOn with
  | ind n ih =>
    by_cases h : n < 10
    · rw [X5d h]
      show _ = padD 1 n
      rw [padD, padD, zH, Nat.mod_eq_of_lt h]
    · rw [X6q h, zx, List.length_singleton, padD, ← ih (n / 10) (by omega)]
end Go.Lex
namespace Go.V
open Go.RowKit
variable {P : Program}
end Go.V
namespace Go.V
open Go.RowKit
variable {P : Program}
end Go.V
namespace Go.V
open Go.RowKit
variable {P : Program} {σ : Sg}
theorem vCountString {f : FuncId} {fn : Func} {s : ByteArray} {c : UInt8} (hf : P.funcs[f]? = some fn) (hname : (fn.name == "runtime.NumGoroutine") = false) (hb : fn.body.isNone = true) (hn : Extern.findNext fn = none) (he : Extern.find fn = some Extern.BytealgCount.count) :
    VCalls P f [.s s, .u8 c.toNat] σ (fun y σ' => y = .i (s.data.toList.count c : Nat) ∧ σ' = σ) :=
  X9t hf hname hb hn he (fun κ vs hst hargs => by
    obtain ⟨u, v, rfl, hx, hy⟩ := X2k hargs
    cases hx
    cases hy
    have h := Lib.run_countString (P := P) s (c.toNat : Int) κ.w
    have hcc : ((c.toNat : Int).toNat).toUInt8 = c := by simp
    rw [hcc] at h
    exact ⟨_, κ.w, h, Q0i hst (.val _) ⟨rfl, rfl⟩⟩)
theorem vMakeNoZero {f : FuncId} {fn : Func} {ps : Array TypeId} {t e : TypeId} {n : Nat} (hf : P.funcs[f]? = some fn) (hname : (fn.name == "runtime.NumGoroutine") = false) (hb : fn.body.isNone = true) (hn : Extern.findNext fn = none) (he : Extern.find fn = some (Extern.BytealgMakeNoZero.makeNoZero ps #[t]))
    (ht : P.underlying t = some (.slice e)) (hsz : n ≤ 281474976710656) :
    VCalls P f [.i n] σ (fun y σ' => ∃ τ, σ τ = none ∧ y = .nz τ n 1 ∧ σ' = σ.set τ (.tok (some e))) :=
  X9t hf hname hb hn he (fun κ vs hst hargs => by
    obtain ⟨u, rfl, hx⟩ := X3y hargs
    cases hx
    obtain ⟨cs, h1, h2, _⟩ := Lib.run_makeNoZero (P := P) κ.w ps t e ht n hsz
    have hst2 := hst.drew.drew
    obtain ⟨τ, hτ, hτσ⟩ := hst2.fresh
    obtain ⟨hle, hs⟩ := hst2.newTok (τ := τ) (lo := 0) (c := cs) (t := e) (fz := (0, 0)) (e := some e) (Nat.zero_le _) (fun i _ h => by simp at h) (fun t' h => by cases h; exact ⟨rfl, rfl⟩) hτ
    refine ⟨_, _, h1, ⟨_, _, _, ?_, (K.le_drew κ).trans ((K.le_drew _).trans hle), hs, ?_, τ, hτσ σ (.refl σ), rfl, rfl⟩⟩
    · rfl
    · refine .nz τ n 1 κ.w.heap.size cs.size ?_ h2
      simp [K.named, K.drew])
theorem cap_nil (t e ty : TypeId) (l : List TypeId) (σ : Sg) (R : AV → Sg → Prop) (he : P.underlying t = some (.slice e)) : Q2h P .cap [.sl .nil []] (List.toArray (t :: l)) ty σ R = R (.i 0) σ := by
  simp only [Q2h, true_and, List.getElem?_toArray, List.getElem?_cons_zero, Option.bind_some, he]
  refine propext ⟨fun h => h.2, fun h => ⟨⟨e, rfl⟩, h⟩⟩
theorem vsl_nz (e : TypeId) (τ n sz : Nat) (k : IntKind) (σ : Sg) (R : AV → Prop) : vsl P (some (.slice e)) (.nz τ n sz) none (some (.val (.int k 0))) none σ R = vixE (Q0l P e) (fun s => s = sz ∧ R (.sl (.tok τ sz) [])) := by
  unfold vsl vixE
  simp only [Q1u]
  cases Q0l P e <;> simp
theorem vcopy_nil (t e : TypeId) (τ sz : Nat) (σ : Sg) (R : AV → Sg → Prop) (he : P.underlying t = some (.slice e)) (hi : (Q0l P e).isSome = true) : X9k P t (.sl (.tok τ sz) []) (.sl .nil []) σ R = R (.i 0) σ := by
  unfold X9k
  simp only [he, elems, hi, true_and]
theorem ev_global (ρ : Nat → AV) (g : Nat) (cs : List Value) (h : gtab g = some cs) : ev ρ (.global g) = .ro (cs.map .val) := by
  show (match gtab g with | some cs => AV.ro (cs.map .val) | none => .val (.pointer (some ⟨g, 0, none⟩))) = _
  rw [h]
end Go.V
namespace Go.Lex
open Go.V Go.Proofs.YtjdapkelojdefaaGreatDoor
theorem Y0m (x k : Nat) (t : IntKind) (h : k ≤ t.bits) : ((x : Nat) : Int).fdiv (2 ^ min k t.bits) = ((x / 2 ^ k : Nat) : Int) := by
  rw [Nat.min_eq_left h, Int.fdiv_eq_ediv_of_nonneg _ (by exact_mod_cast Nat.zero_le (2 ^ k))]
  norm_cast
theorem shr32 (x : Nat) : ((x : Nat) : Int).fdiv (2 ^ min 32 IntKind.u64.bits) = ((x / 4294967296 : Nat) : Int) := Y0m x 32 _ (by decide)
theorem shr16 (x : Nat) : ((x : Nat) : Int).fdiv (2 ^ min 16 IntKind.u64.bits) = ((x / 65536 : Nat) : Int) := Y0m x 16 _ (by decide)
theorem shr8 (x : Nat) : ((x : Nat) : Int).fdiv (2 ^ min 8 IntKind.u64.bits) = ((x / 256 : Nat) : Int) := Y0m x 8 _ (by decide)
theorem shr18 (x : Nat) : ((x : Nat) : Int).fdiv (2 ^ min 18 IntKind.i64.bits) = ((x / 262144 : Nat) : Int) := Y0m x 18 _ (by decide)
theorem Q8k {L : List UInt8} {b u v : Nat} {c : Int} (hc : c = (b : Nat)) (hv : u / 2 ^ b = v) (h8 : v < 256) (hb : b ≤ 56) (h0 : 1 ≤ v)
    (hL : ∀ k, k < 256 → k < 2 ^ (L.getD k 0).toNat ∧ (1 ≤ k → 1 ≤ (L.getD k 0).toNat ∧ 2 ^ ((L.getD k 0).toNat - 1) ≤ k) ∧ (L.getD k 0).toNat ≤ 8) : ∃ n : Nat, 1 ≤ n ∧ n ≤ 64 ∧ 2 ^ (n - 1) ≤ u ∧ u < 2 ^ n ∧ AV.val (.int .i64 (IntKind.i64.wrap (c + IntKind.i64.wrap ((L.getD v 0).toNat : Int)))) = AV.i n := by
  obtain ⟨a1, a2, a3⟩ := hL v h8
  obtain ⟨a4, a5⟩ := a2 h0
  generalize (L.getD v 0).toNat = t at *
  have hp : 0 < 2 ^ b := Nat.pow_pos (by decide)
  refine ⟨b + t, by omega, by omega, ?_, ?_, by rw [w64 (n := (t : Int)) (by omega) (by omega), w64 (by omega) (by omega), hc]; rfl⟩
  · rw [show b + t - 1 = b + (t - 1) by omega, Nat.pow_add]
    calc 2 ^ b * 2 ^ (t - 1) ≤ 2 ^ b * v := Nat.mul_le_mul_left _ a5
      _ ≤ u := by rw [← hv]; exact Nat.mul_div_le u (2 ^ b)
  · rw [Nat.pow_add]
    have h1 : u < 2 ^ b * (v + 1) := by
      have := Nat.lt_mul_div_succ u hp
      rwa [hv] at this
    exact Nat.lt_of_lt_of_le h1 (Nat.mul_le_mul_left _ a1)
end Go.Lex
namespace Go.Proofs.YtjdapkelojdefaaGreatDoor
open Go Go.V Go.Lex
theorem e55 (b : Bool) (σ : Sg) : VCalls Tryz.prog 200 [.b b] σ (fun x σ' => x = .i (if b then 1 else 0) ∧ σ' = σ) := by
  cases b
  · (refine vfun (fun _ => .no) Q0h Tryz.func200 (by kernel_rfl) ?_; simp only [Q0f, Tryz.f200, zw])
    repeat' (first | exact zc | (with_reducible first | apply And.intro | apply Q0a | apply Q0b | refine Q0c (by decide +kernel) ?_ | intro _) | refine zaW (j2 ui3 ui4) ?_ | refine zo ?_ | omega | refine zt (j2 ui3 ui4) ?_ | fail)
    all_goals (exact zE)
  · (refine vfun (fun _ => .no) Q0h Tryz.func200 (by kernel_rfl) ?_; simp only [Q0f, Tryz.f200, zw])
    repeat' (first | exact zc | (with_reducible first | apply And.intro | apply Q0a | apply Q0b | refine Q0c (by decide +kernel) ?_ | intro _) | refine zaW (j2 ui3 ui4) ?_ | refine zo ?_ | omega | refine zt (j2 ui3 ui4) ?_ | fail)
    all_goals (exact zE)
theorem e53 (n : Nat) (hn : n ≤ 64) (σ : Sg) : VCalls Tryz.prog 198 [.i n] σ (fun x σ' => x = .i (nd10 n) ∧ σ' = σ) := by
  (refine vfun (fun _ => .no) Q0h Tryz.func198 (by kernel_rfl) ?_; simp only [Q0f, Tryz.f198, zw])
  repeat' (first | exact zc | (with_reducible first | apply And.intro | apply Q0a | apply Q0b | refine Q0c (by decide +kernel) ?_ | intro _) | refine zaW (j2 ui3 ui4) ?_ | refine zo ?_ | omega | refine zt (j2 ui3 ui4) ?_ | fail)
  refine ⟨_, .refl _, ?_, rfl⟩
  have : ((n : Nat) : Int) * 78913 = ((n * 78913 : Nat) : Int) := by omega
  rw [this, shr18]
  rfl
theorem e54 (u : Nat) (h1 : 1 ≤ u) (h2 : u < 2 ^ 64) (σ : Sg) : VCalls Tryz.prog 199 [.val (.int .u64 u)] σ (fun x σ' => (∃ n : Nat, 1 ≤ n ∧ n ≤ 64 ∧ 2 ^ (n - 1) ≤ u ∧ u < 2 ^ n ∧ x = .i n) ∧ σ' = σ) := by
  (refine vfun (fun _ => .no) Q0h Tryz.func199 (by kernel_rfl) ?_; simp only [Q0f, Tryz.f199, zw])
  (have zz := Bx.mk (j8 ui3 ui4 X0k ui5 ui9 @shr32 @shr16 @shr8); (repeat' (first | exact zc | (with_reducible first | apply And.intro | apply Q0a | apply Q0b | refine Q0c (by decide +kernel) ?_ | intro _) | refine zaW zz.out ?_ | refine zo ?_ | omega | refine zt zz.out ?_ | fail)); try (all_goals clear zz))
  all_goals first
    | exact Nat.lt_of_lt_of_le (m := 256) (by omega) (by decide +kernel)
    | exact ⟨_, .refl _, Q8k (b := 56) (u := u) (by decide) (by omega) (by omega) (by decide) (by omega) (by decide +kernel), rfl⟩
    | exact ⟨_, .refl _, Q8k (b := 48) (u := u) (by decide) (by omega) (by omega) (by decide) (by omega) (by decide +kernel), rfl⟩
    | exact ⟨_, .refl _, Q8k (b := 40) (u := u) (by decide) (by omega) (by omega) (by decide) (by omega) (by decide +kernel), rfl⟩
    | exact ⟨_, .refl _, Q8k (b := 32) (u := u) (by decide) (by omega) (by omega) (by decide) (by omega) (by decide +kernel), rfl⟩
    | exact ⟨_, .refl _, Q8k (b := 24) (u := u) (by decide) (by omega) (by omega) (by decide) (by omega) (by decide +kernel), rfl⟩
    | exact ⟨_, .refl _, Q8k (b := 16) (u := u) (by decide) (by omega) (by omega) (by decide) (by omega) (by decide +kernel), rfl⟩
    | exact ⟨_, .refl _, Q8k (b := 8) (u := u) (by decide) (by omega) (by omega) (by decide) (by omega) (by decide +kernel), rfl⟩
    | exact ⟨_, .refl _, Q8k (b := 0) (u := u) (by decide) (by omega) (by omega) (by decide) (by omega) (by decide +kernel), rfl⟩
theorem dec_len1 {u r : Nat} (h : dec u = padD r u) : (dec u).length = r := by rw [h, X1p]
theorem pow_drop : ∀ k, k ≤ 19 → List.drop (k * 1) (List.map AV.val pow10tab) = .val (.int .u64 ((10 ^ k : Nat) : Int)) :: List.drop (k + 1) (List.map AV.val pow10tab)
  | 0, _ => rfl
  | 1, _ => rfl
  | 2, _ => rfl
  | 3, _ => rfl
  | 4, _ => rfl
  | 5, _ => rfl
  | 6, _ => rfl
  | 7, _ => rfl
  | 8, _ => rfl
  | 9, _ => rfl
  | 10, _ => rfl
  | 11, _ => rfl
  | 12, _ => rfl
  | 13, _ => rfl
  | 14, _ => rfl
  | 15, _ => rfl
  | 16, _ => rfl
  | 17, _ => rfl
  | 18, _ => rfl
  | 19, _ => rfl
  | k + 20, h => by omega
theorem nd_le {n : Nat} (h2 : n ≤ 64) (h1 : 1 ≤ n) : nd10 n ≤ 19 := (nd10_ok n h2 h1).2.2
theorem e43 (u : Nat) (h1 : 1 ≤ u) (h2 : u < 2 ^ 64) (σ : Sg) : VCalls Tryz.prog 190 [.val (.int .u64 u)] σ (fun x σ' => x = .i (dec u).length ∧ σ' = σ) := by
  have h54 := fun σ => e54 u h1 h2 σ
  have h53 := fun n hn σ => e53 n hn σ
  have h55 := fun b σ => e55 b σ
  have hg := fun ρ => ev_global ρ 1 pow10tab rfl
  (refine vfun (fun _ => .no) Q0h Tryz.func190 (by kernel_rfl) ?_; simp only [Q0f, Tryz.f190, zw])
  (have zz := Bx.mk (j5 ui3 ui4 X0k ui186 hg); (repeat' (first | exact zc | (with_reducible first | apply And.intro | apply Q0a | apply Q0b | refine Q0c (by decide +kernel) ?_ | intro _) | refine zaW zz.out ?_ | ((first | ((with_reducible refine zU (h54 _) ?_); rintro _ S ⟨⟨n, hn1, hn2, hn3, hn4, rfl⟩, rfl⟩; have hnd := nd_le hn2 hn1) | ((with_reducible refine zU (h53 _ (by assumption) _) ?_); rintro _ S ⟨rfl, rfl⟩) | ((with_reducible refine zU (h55 _ _) ?_); rintro _ S ⟨rfl, rfl⟩) | with_reducible rw [pow_drop _ (by assumption)]); (try refine zs zz.out ?_)) | refine zo ?_ | omega | refine zt zz.out ?_ | fail)); try (all_goals clear zz))
  obtain ⟨d1, d2⟩ := digits_ok hn1 hn2 hn3 hn4
  refine ⟨_, .refl _, ?_, rfl⟩
  by_cases hc : 10 ^ nd10 n ≤ u
  · rw [if_pos (by exact_mod_cast hc), dec_len1 (d1 hc)]
    rfl
  · rw [if_neg (by exact_mod_cast hc), dec_len1 (d2 (by omega)).2]
    simp
theorem small1 : ∀ n, n < 10 → List.drop n (48 :: List.take n [49, 50, 51, 52, 53, 54, 55, 56, 57, 97, 98, 99, 100, 101, 102, 103, 104, 105, 106, 107, 108, 109, 110, 111, 112, 113, 114, 115, 116, 117, 118, 119, 120, 121, 122]) = [UInt8.ofNat (48 + n)] := by decide +kernel
theorem small2 {L : List UInt8} {n : Nat} (h1 : 10 ≤ n) (h2 : n < 100) (hL : ∀ n, n < 100 → List.drop (n * 2) (List.take (n * 2 + 2) L) = padD 2 n) : AV.s (bs (List.drop ((n : Int) * 2).toNat (List.take ((n : Int) * 2 + 2).toNat L))) = AV.s (bs (dec n)) := by
  have e1 : ((n : Int) * 2).toNat = n * 2 := by omega
  have e2 : ((n : Int) * 2 + 2).toNat = n * 2 + 2 := by omega
  rw [e1, e2, hL n h2, Y0l 1 n (.inr (by omega)) (by omega)]
theorem e42 (n : Nat) (hn : n < 100) (σ : Sg) : VCalls Tryz.prog 189 [.i n] σ (fun x σ' => x = .s (bs (dec n)) ∧ σ' = σ) := by
  (refine vfun (fun _ => .no) Q0h Tryz.func189 (by kernel_rfl) ?_; simp only [Q0f, Tryz.f189, zw])
  (have zz := Bx.mk (j3 ui3 ui4 ui9); (repeat' (first | exact zc | (with_reducible first | apply And.intro | apply Q0a | apply Q0b | refine Q0c (by decide +kernel) ?_ | intro _) | refine zaW zz.out ?_ | refine zo ?_ | omega | refine zt zz.out ?_ | fail)); try (all_goals clear zz))
  all_goals first
    | exact ⟨_, .refl _, by rw [X5d (by omega), small1 n (by omega)], rfl⟩
    | exact Int.le_trans (b := 200) (by omega) (by decide +kernel)
    | exact ⟨_, .refl _, small2 (by omega) hn (by decide +kernel), rfl⟩
end Go.Proofs.YtjdapkelojdefaaGreatDoor
namespace Go.Lex
open Go.V Go.Proofs.YtjdapkelojdefaaGreatDoor
def smallsL : List UInt8 := (([48, 48, 48, 49, 48, 50, 48, 51, 48, 52, 48, 53, 48, 54, 48, 55, 48, 56, 48, 57, 49, 48, 49, 49, 49, 50, 49, 51, 49, 52, 49, 53, 49, 54, 49, 55, 49, 56, 49, 57, 50, 48, 50, 49, 50, 50, 50, 51, 50, 52].append [50, 53, 50, 54, 50, 55, 50, 56, 50, 57, 51, 48, 51, 49, 51, 50, 51, 51, 51, 52, 51, 53, 51, 54, 51, 55, 51, 56, 51, 57, 52, 48, 52, 49, 52, 50, 52, 51, 52, 52, 52, 53, 52, 54, 52, 55, 52, 56, 52, 57]).append ([53, 48, 53, 49, 53, 50, 53, 51, 53, 52, 53, 53, 53, 54, 53, 55, 53, 56, 53, 57, 54, 48, 54, 49, 54, 50, 54, 51, 54, 52, 54, 53, 54, 54, 54, 55, 54, 56, 54, 57, 55, 48, 55, 49, 55, 50, 55, 51, 55, 52].append [55, 53, 55, 54, 55, 55, 55, 56, 55, 57, 56, 48, 56, 49, 56, 50, 56, 51, 56, 52, 56, 53, 56, 54, 56, 55, 56, 56, 56, 57, 57, 48, 57, 49, 57, 50, 57, 51, 57, 52, 57, 53, 57, 54, 57, 55, 57, 56, 57, 57]))
theorem sm_fold : (⟨((([48, 48, 48, 49, 48, 50, 48, 51, 48, 52, 48, 53, 48, 54, 48, 55, 48, 56, 48, 57, 49, 48, 49, 49, 49, 50, 49, 51, 49, 52, 49, 53, 49, 54, 49, 55, 49, 56, 49, 57, 50, 48, 50, 49, 50, 50, 50, 51, 50, 52].append [50, 53, 50, 54, 50, 55, 50, 56, 50, 57, 51, 48, 51, 49, 51, 50, 51, 51, 51, 52, 51, 53, 51, 54, 51, 55, 51, 56, 51, 57, 52, 48, 52, 49, 52, 50, 52, 51, 52, 52, 52, 53, 52, 54, 52, 55, 52, 56, 52, 57]).append ([53, 48, 53, 49, 53, 50, 53, 51, 53, 52, 53, 53, 53, 54, 53, 55, 53, 56, 53, 57, 54, 48, 54, 49, 54, 50, 54, 51, 54, 52, 54, 53, 54, 54, 54, 55, 54, 56, 54, 57, 55, 48, 55, 49, 55, 50, 55, 51, 55, 52].append [55, 53, 55, 54, 55, 55, 55, 56, 55, 57, 56, 48, 56, 49, 56, 50, 56, 51, 56, 52, 56, 53, 56, 54, 56, 55, 56, 56, 56, 57, 57, 48, 57, 49, 57, 50, 57, 51, 57, 52, 57, 53, 57, 54, 57, 55, 57, 56, 57, 57]))).toArray⟩ : ByteArray) = bs smallsL := rfl
theorem X6y : smallsL.length = 200 := by decide +kernel
theorem sm_even : ∀ j, j < 100 → smallsL.getD (j * 2) 0 = UInt8.ofNat (48 + j / 10) := by decide +kernel
theorem sm_odd : ∀ j, j < 100 → smallsL.getD (j * 2 + 1) 0 = UInt8.ofNat (48 + j % 10) := by decide +kernel
theorem Q3w {α : Type} (P L : List α) (k : Nat) : List.take (P.length + k) (P ++ L) = P ++ List.take k L := by simp [List.take_append, List.take_of_length_le]
theorem Q3x {α : Type} (P L : List α) (k : Nat) : List.drop (P.length + k + 1) (P ++ L) = List.drop (k + 1) L := by
  rw [Nat.add_assoc]
  simp [List.drop_append, List.drop_of_length_le]
theorem Q2s {α : Type} (P L : List α) : List.take P.length (P ++ L) = P := by simp
theorem Q2t {α : Type} (P L : List α) : List.drop (P.length + 1) (P ++ L) = List.drop 1 L := by
  simp [List.drop_append, List.drop_of_length_le]
theorem smE {k : Nat} (h : k < 100) : (smallsL.getD (k * 2) 0).toNat = 48 + k / 10 := by
  rw [sm_even k h, UInt8.toNat_ofNat']
  omega
theorem smO {k : Nat} (h : k < 100) : (smallsL.getD (k * 2 + 1) 0).toNat = 48 + k % 10 := by
  rw [sm_odd k h, UInt8.toNat_ofNat']
  omega
theorem nz8 : ((100000000 : Int) = 0) = False := by simp
theorem nz4 : ((10000 : Int) = 0) = False := by simp
theorem nz2 : ((100 : Int) = 0) = False := by simp
theorem tm8 (v : Nat) : (v : Int).tmod 100000000 = ((v % 100000000 : Nat) : Int) := rfl
theorem tm4 (v : Nat) : (v : Int).tmod 10000 = ((v % 10000 : Nat) : Int) := rfl
theorem tm2 (v : Nat) : (v : Int).tmod 100 = ((v % 100 : Nat) : Int) := rfl
theorem td8 (v : Nat) : (v : Int).tdiv 100000000 = ((v / 100000000 : Nat) : Int) := rfl
theorem td4 (v : Nat) : (v : Int).tdiv 10000 = ((v / 10000 : Nat) : Int) := rfl
theorem td2 (v : Nat) : (v : Int).tdiv 100 = ((v / 100 : Nat) : Int) := rfl
theorem cm2 (v : Nat) : (v : Int) * 2 = ((v * 2 : Nat) : Int) := rfl
theorem ca1 (v : Nat) : (v : Int) + 1 = ((v + 1 : Nat) : Int) := rfl
theorem wr32 (v : Nat) : IntKind.u32.wrap (v : Int) = ((v % 4294967296 : Nat) : Int) := rfl
theorem wr64 (v : Nat) : IntKind.u64.wrap (v : Int) = ((v % 18446744073709551616 : Nat) : Int) := rfl
theorem wrN {n : Nat} (h : n < 4294967296) : IntKind.u32.wrap (n : Int) = n := by rw [wr32, Nat.mod_eq_of_lt h]
theorem wrM {n : Nat} (h : n < 18446744073709551616) : IntKind.u64.wrap (n : Int) = n := by rw [wr64, Nat.mod_eq_of_lt h]
def u8s (l : List UInt8) : List AV := l.map fun c => AV.u8 c.toNat
theorem Y0n (a b : List UInt8) : u8s (a ++ b) = u8s a ++ u8s b := by simp [u8s]
theorem u8s_len (a : List UInt8) : (u8s a).length = a.length := by simp [u8s]
end Go.Lex
namespace Go.Proofs.YtjdapkelojdefaaGreatDoor
open Go Go.V Go.Lex
theorem len8 {l : List AV} (h : l.length = 8) : ∃ a b c d e f g i, l = [a, b, c, d, e, f, g, i] := by
  match l, h with
  | [a, b, c, d, e, f, g, i], _ => exact ⟨a, b, c, d, e, f, g, i, rfl⟩
theorem cutq {P : Program} {H : Nat → Hint} {n : Nat} {Q : VX → (Nat → AV) → Sg → Prop} {ρ : Nat → AV} {σ : Sg} {α : Type} {x y : Code} (Inv : α → Prop) (vals : α → List (Nat × AV)) (sg : α → Sg) (h : VW P H n x (sq (At Inv vals sg) Q) ρ σ) (h' : ∀ z, Inv z → VW P H n y Q (env (vals z)) (sg z)) : VW P H n x (sq (VW P H n y Q) Q) ρ σ := by
  refine h.mono (fun e ρ σ hq => ?_)
  cases e with
  | normal =>
    obtain ⟨z, hz, hs, hv⟩ := hq
    exact ((h' z hz).weak (Holds.weak hv)).forget hs
  | exit id => exact hq
  | ret => exact hq
theorem X5t (A mid : List AV) (m n off : Nat) (hA : A.length = off) (hmn : m + n ≤ mid.length) : ∃ P E : List AV, A ++ mid.take m = P ∧ P.length = off + m ∧ E.length = n ∧ A ++ mid.take (m + n) = P ++ E :=
  ⟨_, (mid.drop m).take n, rfl, by simp; omega, by simp; omega, by rw [List.take_add, zC]⟩
theorem len4 {l : List AV} (h : l.length = 4) : ∃ a b c d, l = [a, b, c, d] := by
  match l, h with
  | [a, b, c, d], _ => exact ⟨a, b, c, d, rfl⟩
theorem len2 {l : List AV} (h : l.length = 2) : ∃ a b, l = [a, b] := by
  match l, h with
  | [a, b], _ => exact ⟨a, b, rfl⟩
theorem cons_u8 {a b : Nat} {T T' : List AV} (h : a = b) (h' : T = T') : AV.u8 a :: T = AV.u8 b :: T' := by rw [h, h']
theorem u8s8 (x : Nat) (hx : x < 100000000) (T : List AV) : u8s (padD 8 x) ++ T = .u8 (48 + x / 10000 / 100 / 10 : Nat) :: .u8 (48 + x / 10000 / 100 % 10 : Nat) :: .u8 (48 + x / 10000 % 100 / 10 : Nat) :: .u8 (48 + x / 10000 % 100 % 10 : Nat) :: .u8 (48 + x % 10000 / 100 / 10 : Nat) :: .u8 (48 + x % 10000 / 100 % 10 : Nat) :: .u8 (48 + x % 10000 % 100 / 10 : Nat) :: .u8 (48 + x % 10000 % 100 % 10 : Nat) :: T := by
  rw [pad8]
  simp only [u8s, List.map_cons, List.map_nil, List.cons_append, zH, UInt8.toNat_ofNat']
  repeat (refine cons_u8 (by omega) ?_)
  rfl
theorem u8s4 (x : Nat) (hx : x < 10000) (T : List AV) : u8s (padD 4 x) ++ T = .u8 (48 + x / 100 / 10 : Nat) :: .u8 (48 + x / 100 % 10 : Nat) :: .u8 (48 + x % 100 / 10 : Nat) :: .u8 (48 + x % 100 % 10 : Nat) :: T := by
  rw [pad4]
  simp only [u8s, List.map_cons, List.map_nil, List.cons_append, zH, UInt8.toNat_ofNat']
  repeat (refine cons_u8 (by omega) ?_)
  rfl
theorem u8s2 (x : Nat) (hx : x < 100) (T : List AV) : u8s (padD 2 x) ++ T = .u8 (48 + x / 10 : Nat) :: .u8 (48 + x % 10 : Nat) :: T := by
  rw [pad2]
  simp only [u8s, List.map_cons, List.map_nil, List.cons_append, zH, UInt8.toNat_ofNat']
  repeat (refine cons_u8 (by omega) ?_)
  rfl
theorem pad_lt (k m v : Nat) (h : v < 10 ^ (m + k)) : v / 10 ^ k < 10 ^ m := Nat.div_lt_of_lt_mul (by rw [Nat.pow_add, Nat.mul_comm] at h; exact h)
theorem padD_mod : ∀ (k v : Nat), padD k (v % 10 ^ k) = padD k v
  | 0, _ => rfl
  | k + 1, v => by
    have e1 : v % 10 ^ (k + 1) / 10 = v / 10 % 10 ^ k := by rw [Nat.pow_succ, Nat.mul_comm]; exact Nat.mod_mul_right_div_self ..
    have e2 : v % 10 ^ (k + 1) % 10 = v % 10 := by rw [Nat.pow_succ, Nat.mul_comm]; exact Nat.mod_mul_right_mod ..
    rw [padD, e1, e2, padD_mod k, padD]
theorem Y0o (k m v : Nat) (dn L : List UInt8) (h : padD (m + k) v ++ dn = L) : padD m (v / 10 ^ k) ++ (padD k (v % 10 ^ k) ++ dn) = L := by
  rw [← h, padD_add, padD_mod, zC]
end Go.Proofs.YtjdapkelojdefaaGreatDoor
