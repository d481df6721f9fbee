/- Part 10 of the proof: B13, B14, B20, G5, G11, B21, B22, B23, B24, B25, B26. -/
import Derived.Test.YtjdapkelojdefaaGreatDoorN7
import Derived.Test.YtjdapkelojdefaaGreatDoorN9
import Derived.Test.YtjdapkelojdefaaGreatDoorN8

set_option linter.all false
set_option maxRecDepth 100000
set_option maxHeartbeats 400000
open Go.V.Sg renaming set_same → zm, set_ne → zn, set_ne' → zp, del_ne → zq, del_ne' → zr
open Option renaming getD_some → zv
open List renaming length_cons → zx
open Go.Cert renaming ne_of2 → zM, ne_ob → zP
open Go.V.VCalls renaming mono → zR
open Go.Proofs.Tryz renaming underlying3 → Z3, underlying26 → Z26, underlying71 → Z71
namespace Go.Parse
open Go.V Go.Lex Go.Proofs.YtjdapkelojdefaaGreatDoor
inductive Sm : Ex → Prop
  | leaf (k op : Int) (t n : By) (v : Vl) : Sm (.mk k op t n v [])
  | one (k op : Int) (t n : By) (v : Vl) (e : Ex) (h : Sm e) : Sm (.mk k op t n v [e])
  | two (k op : Int) (t n : By) (v : Vl) (e f : Ex) (h : Sm e) (h2 : Sm f) : Sm (.mk k op t n v [e, f])
def SmF (F : Pr) : Prop := ∀ s, Sm (F s).1
theorem sm_column : SmF Rd.column := fun s => by
  unfold Rd.column
  split <;> exact .leaf _ _ _ _ _
theorem X7j {F : Pr} (h : SmF F) : SmF (Q1u F) := fun s => by
  unfold Q1u
  split
  · exact h _
  · exact .leaf _ _ _ _ _
theorem sm_rowL {F : Pr} (h : SmF F) (first : Int) (ws : List By) : ∀ (n : Nat) (e : Ex) (s : Rd), Sm e → Sm (rowL F first ws n e s).1
  | 0, e, s, he => he
  | n + 1, e, s, he => by
    unfold rowL
    split
    · exact sm_rowL h first ws n _ _ (.two _ _ _ _ _ _ _ he (h _))
    · exact he
theorem sm_row {F : Pr} (h : SmF F) (first : Int) (ws : List By) : SmF (row F first ws) := fun s => sm_rowL h first ws _ _ _ (h s)
structure Dp.Sm (D : Dp) : Prop where
  fac : SmF D.fac
  not : SmF D.not
  ex : SmF D.ex
theorem sm_fac {D : Dp} (h : D.Sm) : SmF (facL D) := fun s => by
  unfold facL
  split
  · exact .leaf _ _ _ _ _
  · split
    · exact .one _ _ _ _ _ _ (X7j h.fac _)
    · split
      · exact X7j h.ex _
      · exact sm_column _
theorem sm_sum {D : Dp} (h : D.Sm) : SmF (sumL D) := sm_row (sm_row (sm_fac h) _ _) _ _
theorem sm_test {D : Dp} (h : D.Sm) : SmF (Q5q D) := fun s => by
  unfold Q5q
  split
  · exact sm_sum h s
  · split
    · exact .two _ _ _ _ _ _ _ (sm_sum h _) (sm_sum h _)
    · unfold isNull
      split
      · exact .one _ _ _ _ _ _ (.one _ _ _ _ _ _ (sm_sum h _))
      · exact .one _ _ _ _ _ _ (sm_sum h _)
theorem sm_not {D : Dp} (h : D.Sm) : SmF (notL D) := fun s => by
  unfold notL
  split
  · exact .one _ _ _ _ _ _ (X7j h.not _)
  · exact sm_test h s
theorem dp_sm : ∀ n, (dp n).Sm
  | 0 => ⟨fun s => .leaf _ _ _ _ _, fun s => .leaf _ _ _ _ _, fun s => .leaf _ _ _ _ _⟩
  | n + 1 => ⟨sm_fac (dp_sm n), sm_not (dp_sm n), sm_row (sm_row (sm_not (dp_sm n)) _ _) _ _⟩
end Go.Parse
namespace Go.Proofs.YtjdapkelojdefaaGreatDoor
open Go Go.V Go.Lex Go.Parse
theorem exsA_get {l : List Ex} {k : Nat} (h : k < l.length) : (exsA l).getD k [] = exA l[k] := by
  induction l generalizing k with
  | nil => simp at h
  | cons e r ih =>
    rw [Q2n]
    cases k with
    | zero => rfl
    | succ k => exact ih (by simpa using h)
theorem exsA_all (l : List Ex) : Q1t (exsA l) 8 = True := eq_true (by
  induction l with
  | nil => intro e he; rw [Q0s] at he; cases he
  | cons x r ih =>
    intro e he
    rw [Q2n] at he
    rcases List.mem_cons.1 he with rfl | he
    · exact Q0u x
    · exact ih e he)
theorem p12 (l : List Ex) (h : ∀ (i : Nat) (hi : i < l.length) (σ : Sg), VCalls Tryz.prog 13 [.agg (exA l[i]), .agg (exA l[i])] σ (fun x σ' => x = .b true ∧ σ' = σ)) (hl : l.length ≤ 100) (σ : Sg) : VCalls Tryz.prog 26 [.sl .any (exsA l), .sl .any (exsA l)] σ (fun x σ' => x = .b true ∧ σ' = σ) := by
  have hn := Q2l l
  have hall := exsA_all l
  (refine vfun (fun _ => .no) Q0h Tryz.func26 (by kernel_rfl) ?_; simp only [Q0f, Tryz.f26, zv])
  (have zz := Bx.mk (j6 ui3 ui4 ui26 ui24 hn hall); (repeat' (first | with_reducible rfl | exact trivial | (with_reducible first | apply And.intro | apply Q0a | apply Q0b | refine Q0c (by decide +kernel) ?_ | intro _) | refine zaW zz.out ?_ | refine zo ?_ | omega | refine zt zz.out ?_ | fail)); try (all_goals clear zz))
  refine VW.loop3 (0 : Nat) () () (fun k _ _ => k ≤ l.length) (fun k _ _ => [(0, .sl .any (exsA l)), (1, .sl .any (exsA l)), (5, .i k)]) (fun _ _ _ => σ) (fun k _ _ => l.length - k) (by omega) (.refl _) ?_ ?_
  · simp only [vO, vQ, ↓vP, vE, vS, vB, vL, vF, vM, vN, Q0g, Nat.reduceEqDiff, Nat.reduceAdd, Nat.reduceLeDiff, ne_eq, not_false_eq_true, Nat.reduceMul, Nat.reduceSub, Int.toNat_zero, Int.reduceToNat, vT]
    all_goals rfl
  rintro k _ _ hk
  rcases Nat.lt_or_ge k l.length with hk2 | hk2
  · have hg := exsA_get hk2
    have hp := h k hk2
    have hFl := Q0u l[k]
    have hFt := Q0t l[k]
    generalize exA l[k] = E at *
    (have zz := Bx.mk (j9 ui3 ui4 ui26 ui24 hn hall hg hFl hFt); (repeat' (first | with_reducible rfl | exact trivial | (with_reducible first | apply And.intro | apply Q0a | apply Q0b | refine Q0c (by decide +kernel) ?_ | intro _) | refine zaW zz.out ?_ | (((with_reducible refine (hp _).mono ?_); rintro _ S ⟨rfl, rfl⟩); (try refine zs zz.out ?_)) | refine zo ?_ | omega | refine zt zz.out ?_ | fail)); try (all_goals clear zz))
    exact ⟨k + 1, (), (), ⟨hk2, by omega⟩, .refl _, rfl⟩
  · (have zz := Bx.mk (j6 ui3 ui4 ui26 ui24 hn hall); (repeat' (first | with_reducible rfl | exact trivial | (with_reducible first | apply And.intro | apply Q0a | apply Q0b | refine Q0c (by decide +kernel) ?_ | intro _) | refine zaW zz.out ?_ | refine zo ?_ | omega | refine zt zz.out ?_ | fail)); try (all_goals clear zz))
    exact ⟨_, .refl _, rfl⟩
theorem eq24 {d : TypeDesc} {a b a' b' : Int} {s t : ByteArray} : veqT Tryz.prog 23 d (.agg [.i a, .i b, .s s]) (.agg [.i a', .i b', .s t]) = some (decide (a = a') && (decide (b = b') && (sEq s t && true))) := by
  rw [Y0b (by kernel_rfl), X1f (d := 9999) Tryz.underlying23 (by kernel_rfl)]
  exact Q3w (by decide) (Q1x Q2b Z3 rfl) (Q1x Q2b Z3 rfl) (X1g Z3) (Q3w (by decide) (Q1x Q2b Z3 rfl) (Q1x Q2b Z3 rfl) (X1g Z3) (Q3w (by decide) (Q1x Q2k Tryz.underlying9 rfl) (Q1x Q2k Tryz.underlying9 rfl) (X6u Tryz.underlying9) rfl))
theorem p7w (k op : Int) (t n : By) (v : Vl) (l : List Ex) (h12 : ∀ σ, VCalls Tryz.prog 26 [.sl .any (exsA l), .sl .any (exsA l)] σ (fun x σ' => x = .b true ∧ σ' = σ)) (σ : Sg) : VCalls Tryz.prog 13 [.agg (exA (.mk k op t n v l)), .agg (exA (.mk k op t n v l))] σ (fun x σ' => x = .b true ∧ σ' = σ) := by
  rw [Q6v]
  have he : ∀ d, veqT Tryz.prog 23 d (.agg [.i v.1, .i v.2.1, .s (bs v.2.2)]) (.agg [.i v.1, .i v.2.1, .s (bs v.2.2)]) = some true := fun d => by rw [eq24]; simp [sEq]
  generalize exsA l = L at *
  generalize v.1 = va at *
  generalize v.2.1 = vb at *
  generalize v.2.2 = vc at *
  (refine vfun (fun _ => .ro) Q0h Tryz.func13 (by kernel_rfl) ?_; simp only [Q0f, Tryz.f13, zv])
  (have zz := Bx.mk (j7 ui3 ui4 ui9 ui23 ui26 ui24 he); (repeat' (first | with_reducible rfl | exact trivial | (with_reducible first | apply And.intro | apply Q0a | apply Q0b | refine Q0c (by decide +kernel) ?_ | intro _) | refine zaW zz.out ?_ | (((with_reducible refine (h12 _).mono ?_); rintro _ S ⟨rfl, rfl⟩); (try refine zs zz.out ?_)) | refine zo ?_ | omega | refine zt zz.out ?_ | fail)); try (all_goals clear zz))
  exact ⟨_, .refl _, rfl⟩
theorem p7 {e : Ex} (h : Sm e) : ∀ σ, VCalls Tryz.prog 13 [.agg (exA e), .agg (exA e)] σ (fun x σ' => x = .b true ∧ σ' = σ) := by
  induction h with
  | leaf k op t n v => exact fun σ => p7w k op t n v [] (p12 [] (fun i hi => by simp at hi) (by simp)) σ
  | one k op t n v e h ih =>
    exact fun σ => p7w k op t n v [e] (p12 [e] (fun i hi => by
      obtain rfl : i = 0 := by simp at hi; omega
      exact ih) (by simp)) σ
  | two k op t n v e f h h2 ih ih2 =>
    exact fun σ => p7w k op t n v [e, f] (p12 [e, f] (fun i hi => by
      match i, hi with
      | 0, _ => exact ih
      | 1, _ => exact ih2) (by simp)) σ
end Go.Proofs.YtjdapkelojdefaaGreatDoor
namespace Go.Parse
open Go.V Go.Lex Go.Proofs.YtjdapkelojdefaaGreatDoor
def tq (x y : Tk) : Prop := x.1 = y.1 ∧ x.2.1 = y.2.1 ∧ x.2.2.1 = y.2.2.1
inductive Tq : List Tk → List Tk → Prop
  | nil : Tq [] []
  | cons (x y : Tk) (i j : List Tk) (h : tq x y) (t : Tq i j) : Tq (x :: i) (y :: j)
structure Sim (δ : Int) (w : By) (s s' : Rd) : Prop where
  c : s.c = 0
  c' : s'.c = 0
  d : s'.d = s.d + δ
  wf : WF s.l
  wf' : WF s'.l
  l : ∃ i j e z r, s.l = i ++ [e] ∧ s'.l = j ++ z :: r ∧ Tq i j ∧ e.1 = 6 ∧ z.1 = 5 ∧ z.2.1 = w ∧ (∀ x ∈ i, x.1 ≠ 6) ∧ r.length = 1
variable {δ : Int} {w : By}
theorem X3p {α : Type} (p : α → Bool) : ∀ (l : List α), (∀ x ∈ l, p x = true) → l.takeWhile p = l
  | [], _ => rfl
  | x :: l, h => by
    rw [List.takeWhile_cons, if_pos (h x (by simp)), X3p p l (fun y hy => h y (by simp [hy]))]
theorem Sim.is {s s' : Rd} (h : Sim δ w s s') (ws : List By) (hw : w ∉ ws) : s'.is ws = s.is ws := by
  obtain ⟨i, j, e, z, r, h1, h2, h3, h4, h5, h6⟩ := h.l
  have e1 := h.c
  have e2 := h.c'
  unfold Rd.is
  cases h3 with
  | nil =>
    have g1 : hd s.l = e := by rw [h1]; rfl
    have g2 : hd s'.l = z := by rw [h2]; rfl
    rw [g1, g2, if_pos (c := s.c ≠ 0 ∨ _) (.inr ⟨by omega, by omega⟩), if_neg (by omega), h6.1, if_neg]
    intro hlt
    have hall : ∀ x ∈ ws, (x != w) = true := fun x hx => by
      simp only [bne_iff_ne, ne_eq]
      exact fun e => hw (e ▸ hx)
    have : idx w ws = ws.length := by
      unfold idx
      rw [X3p _ ws hall]
    omega
  | cons x y i j hxy ht =>
    obtain ⟨q1, q2, q3⟩ := hxy
    have g1 : hd s.l = x := by rw [h1]; rfl
    have g2 : hd s'.l = y := by rw [h2]; rfl
    rw [g1, g2, q1, q2, e1, e2]
theorem Sim.next {s s' : Rd} (h : Sim δ w s s') (hk : (hd s.l).1 ≠ 6) : Sim δ w s.next s'.next ∧ tq (hd s.l) (hd s'.l) := by
  obtain ⟨i, j, e, z, r, h1, h2, h3, h4, h5, h6⟩ := h.l
  cases h3 with
  | nil =>
    have g1 : hd s.l = e := by rw [h1]; rfl
    rw [g1] at hk
    exact absurd h4 hk
  | cons x y i j hxy ht =>
    have g1 : hd s.l = x := by rw [h1]; rfl
    have g2 : hd s'.l = y := by rw [h2]; rfl
    have hk' : (hd s'.l).1 ≠ 6 := by rw [g2, ← hxy.1, ← g1]; exact hk
    refine ⟨⟨h.c, h.c', h.d, (h.wf.tail hk).1, (h.wf'.tail hk').1, i, j, e, z, r, ?_, ?_, ht, h4, h5, h6.1, fun x hx => h6.2.1 x (List.mem_cons_of_mem _ hx), h6.2.2⟩, by rw [g1, g2]; exact hxy⟩
    · show s.l.tail = _
      rw [h1]; rfl
    · show s'.l.tail = _
      rw [h2]; rfl
theorem Sim.nextIs {s s' : Rd} (h : Sim δ w s s') {ws : List By} (hk : 0 ≤ s.is ws) : Sim δ w s.next s'.next := (h.next (by obtain ⟨_, h2, _⟩ := X1h hk; omega)).1
theorem Sim.has {s s' : Rd} (h : Sim δ w s s') {v : By} (hv : s.has v = true) : s'.has v = true ∧ Sim δ w s.next s'.next := by
  have hk : 0 ≤ s.is [v] := of_decide_eq_true hv
  obtain ⟨h1, h2, h3, _⟩ := X1h hk
  obtain ⟨g1, g2, g3, g4⟩ := h.next (by omega)
  refine ⟨decide_eq_true ?_, g1⟩
  unfold Rd.is
  rw [if_neg (by rw [h.c', ← g2]; simp only [ne_eq, not_true_eq_false, false_or]; omega), ← g3, if_pos h3]
  omega
theorem fail_c {s : Rd} {e : Int} (he : e ≠ 0) : (s.fail e).c ≠ 0 := by
  unfold Rd.fail
  split
  · exact he
  · assumption
theorem Sim.must {s s' : Rd} : ∀ (ws : List By) {s s' : Rd}, Sim δ w s s' → (s.must ws).c = 0 → Sim δ w (s.must ws) (s'.must ws)
  | [], s, s', h, _ => h
  | v :: ws, s, s', h, hc => by
    unfold Rd.must at hc ⊢
    by_cases hv : s.has v = true
    · obtain ⟨g1, g2⟩ := h.has hv
      rw [if_pos hv] at hc ⊢
      rw [if_pos g1]
      exact Sim.must (s := s) (s' := s') ws g2 hc
    · rw [if_neg hv] at hc
      exact absurd hc (by
        have o := Q5r h.wf 4
        have hne := fail_c (s := s) (e := 4) (by decide)
        rw [((Q0w ws _ o.wf).c hne).1]
        exact hne)
theorem Sim.take {s s' : Rd} (h : Sim δ w s s') {k : Nat} (hk : k ≠ 6) (hc : (s.take k).c = 0) : Sim δ w (s.take k) (s'.take k) ∧ (s'.tok k).2.1 = (s.tok k).2.1 ∧ (s'.tok k).2.2.1 = (s.tok k).2.2.1 := by
  by_cases ht : s.takes k
  · obtain ⟨g1, g2, g3, g4⟩ := h.next (by rw [ht.2]; exact hk)
    have ht' : s'.takes k := ⟨h.c', by rw [← g2]; exact ht.2⟩
    unfold Rd.take Rd.tok
    rw [if_pos ht, if_pos ht', if_pos ht, if_pos ht']
    exact ⟨g1, g3.symm, g4.symm⟩
  · unfold Rd.take at hc
    rw [if_neg ht] at hc
    exact absurd hc (fail_c (by decide))
variable {d : Int}
theorem lit3 {s : Rd} (hc : s.c = 0) (h3 : (hd s.l).1 = 3) : s.lit = (((1, ((hd s.l).2.2.1 : Nat), []) : Vl), true, s.next) := by
  unfold Rd.lit
  rw [if_neg (by rw [hc]; simp), if_pos h3]
theorem lit4 {s : Rd} (hc : s.c = 0) (h3 : (hd s.l).1 ≠ 3) (h4 : (hd s.l).1 = 4) : s.lit = (((2, 0, (hd s.l).2.1) : Vl), true, s.next) := by
  unfold Rd.lit
  rw [if_neg (by rw [hc]; simp), if_neg h3, if_pos h4]
theorem lite {s : Rd} (hc : s.c = 0) (h3 : (hd s.l).1 ≠ 3) (h4 : (hd s.l).1 ≠ 4) (h : s.is [Q2i] < 0 ∨ (hd s.next.l).1 ≠ 3) : s.lit = (v0, s.has Q7d, s.pass [Q7d]) := by
  have e1 : s.l.getD 1 (0, [], 0, 0) = hd s.next.l := by
    unfold hd Rd.next
    rw [List.getD_eq_getElem?_getD, List.getD_eq_getElem?_getD, List.getElem?_tail]
  unfold Rd.lit
  rw [if_neg (by rw [hc]; simp), if_neg h3, if_neg h4, e1, if_pos h]
theorem litm {s : Rd} (hc : s.c = 0) (h3 : (hd s.l).1 ≠ 3) (h4 : (hd s.l).1 ≠ 4) (h : ¬ (s.is [Q2i] < 0 ∨ (hd s.next.l).1 ≠ 3)) : s.lit = ((1, IntKind.i64.wrap (0 - ((hd s.next.l).2.2.1 : Int)), []), true, s.next.next) := by
  have e1 : s.l.getD 1 (0, [], 0, 0) = hd s.next.l := by
    unfold hd Rd.next
    rw [List.getD_eq_getElem?_getD, List.getD_eq_getElem?_getD, List.getElem?_tail]
  unfold Rd.lit
  rw [if_neg (by rw [hc]; simp), if_neg h3, if_neg h4, e1, if_neg h]
theorem Sim.end6 {s s' : Rd} (h : Sim δ w s s') (h6 : (hd s.l).1 = 6) : (hd s'.l).1 = 5 ∨ (hd s'.l).1 = 6 := by
  obtain ⟨i, j, e, z, r, g1, g2, g3, g4, g5, g6⟩ := h.l
  cases g3 with
  | nil => rw [g2]; exact .inl g5
  | cons x y i j hxy ht =>
    have a1 : hd s.l = x := by rw [g1]; rfl
    have a2 : hd s'.l = y := by rw [g2]; rfl
    rw [a2, ← hxy.1, ← a1]
    exact .inr h6
theorem Sim.lit {s s' : Rd} (h : Sim δ w s s') (h1 : w ≠ Q2i) (h2 : w ≠ Q7d) : s'.lit.1 = s.lit.1 ∧ s'.lit.2.1 = s.lit.2.1 ∧ Sim δ w s.lit.2.2 s'.lit.2.2 := by
  have i1 := h.is [Q2i] (by simpa using h1)
  have i2 := h.is [Q7d] (by simpa using h2)
  have hnull : s'.has Q7d = s.has Q7d ∧ Sim δ w (s.pass [Q7d]) (s'.pass [Q7d]) := by
    refine ⟨by unfold Rd.has; rw [i2], ?_⟩
    unfold Rd.pass
    rw [i2]
    split
    · exact h.nextIs ‹_›
    · exact h
  have hc := h.c
  have hc' := h.c'
  by_cases h6 : (hd s.l).1 = 6
  · have h5 := h.end6 h6
    have hm : s.is [Q2i] < 0 := by
      rcases Int.lt_or_le (s.is [Q2i]) 0 with h' | h'
      · exact h'
      · obtain ⟨_, q, _⟩ := X1h h'; omega
    rw [lite hc (by omega) (by omega) (.inl hm), lite hc' (by omega) (by omega) (.inl (by rw [i1]; exact hm))]
    exact ⟨rfl, hnull.1, hnull.2⟩
  · obtain ⟨g1, g2, g3, g4⟩ := h.next h6
    by_cases h3 : (hd s.l).1 = 3
    · rw [lit3 hc h3, lit3 hc' (by omega)]
      exact ⟨by rw [g4], rfl, g1⟩
    · by_cases h4 : (hd s.l).1 = 4
      · rw [lit4 hc h3 h4, lit4 hc' (by omega) (by omega)]
        exact ⟨by rw [g3], rfl, g1⟩
      · by_cases hm : s.is [Q2i] < 0
        · rw [lite hc h3 h4 (.inl hm), lite hc' (by omega) (by omega) (.inl (by omega))]
          exact ⟨rfl, hnull.1, hnull.2⟩
        · by_cases hn : (hd s.next.l).1 = 3
          · obtain ⟨k1, k2, k3, k4⟩ := g1.next (by omega)
            rw [litm hc h3 h4 (by omega), litm hc' (by omega) (by omega) (by omega)]
            exact ⟨by rw [k4], rfl, k1⟩
          · have hn' : (hd s'.next.l).1 ≠ 3 := by
              by_cases h66 : (hd s.next.l).1 = 6
              · have := g1.end6 h66; omega
              · rw [← (g1.next h66).2.1]; exact hn
            rw [lite hc h3 h4 (.inr hn), lite hc' (by omega) (by omega) (.inr hn')]
            exact ⟨rfl, hnull.1, hnull.2⟩
end Go.Parse
namespace Go.Parse
open Go.V Go.Lex Go.Proofs.YtjdapkelojdefaaGreatDoor
abbrev Co := By × Int × Bool × Bool
abbrev Se := By × Ex
abbrev It := Int × List Ex
structure Stm where
  k : Int
  t : By
  cols : List Co
  pk : By
  rows : List (List Vl)
  sets : List Se
  items : List It
  join : By
  on : List Ex
  wh : List Ex
  gr : List Ex
  or : List Ex
  desc : Bool
  lim : Int
abbrev stm0 : Stm := ⟨0, [], [], [], [], [], [], [], [], [], [], [], false, -1⟩
def Q2w {β : Type} (one : Rd → β × Rd) (sep : By) : Nat → List β → Rd → List β × Rd
  | 0, acc, s => (acc ++ [(one (s.fail 2)).1], (one (s.fail 2)).2.pass [sep])
  | k + 1, acc, s => if (one s).2.has sep then Q2w one sep k (acc ++ [(one s).1]) ((one s).2.pass [sep]) else (acc ++ [(one s).1], (one s).2.pass [sep])
abbrev many {β : Type} (one : Rd → β × Rd) (most : Nat) (s : Rd) : List β × Rd := Q2w one [44] most [] s
def exp : Pr := (dp 11).ex
def Q2r (w : By) (s : Rd) : List Ex × Rd := if s.has w then ([(exp (s.pass [w])).1], (exp (s.pass [w])).2) else ([], s.pass [w])
def byL (w : By) (s : Rd) : List Ex × Rd := if s.has w then ([((s.pass [w]).must [[66, 89]]).column.1], ((s.pass [w]).must [[66, 89]]).column.2) else ([], s.pass [w])
abbrev X5o : List By := [[73, 78, 84], [84, 69, 88, 84]]
def Q6d (s : Rd) : Int × Rd := if s.is X5o = -1 then (1, (s.pass X5o).fail 4) else (if s.is X5o = 1 then 2 else 1, s.pass X5o)
def Q8x (s : Rd) : Bool × Rd := if s.has [78, 79, 84] then (true, (s.pass [[78, 79, 84]]).must [[78, 85, 76, 76]]) else (false, s.pass [[78, 79, 84]])
def Rd.columnOf (s : Rd) : Co × Rd :=
  (((s.tok 1).2.1, (Q6d (s.take 1)).1, (Q8x (Q6d (s.take 1)).2).1, (Q8x (Q6d (s.take 1)).2).2.has [85, 78, 73, 81, 85, 69]), (Q8x (Q6d (s.take 1)).2).2.pass [[85, 78, 73, 81, 85, 69]])
def litV (s : Rd) : Vl × Rd := (s.lit.1, if s.lit.2.1 then s.lit.2.2 else s.lit.2.2.fail 4)
def Q4w (s : Rd) : List Vl × Rd := ((many litV 8 (s.must [[40]])).1, (many litV 8 (s.must [[40]])).2.must [[41]])
def setL (s : Rd) : Se × Rd := (((s.tok 1).2.1, (exp ((s.take 1).must [[61]])).1), (exp ((s.take 1).must [[61]])).2)
abbrev wItems : List By := [[67, 79, 85, 78, 84], [83, 85, 77], [77, 73, 78], [77, 65, 88], [42]]
def X1m (k : Int) (s : Rd) : It × Rd :=
  if 0 < k then ((4 + k, [(exp s).1]), (exp s).2.must [[41]]) else
  if s.has [42] then ((3, []), (s.pass [[42]]).must [[41]]) else
  ((4 + k, [(exp (s.pass [[42]])).1]), (exp (s.pass [[42]])).2.must [[41]])
def Q6h (s : Rd) : It × Rd :=
  if s.is wItems < 0 then ((2, [(exp (s.pass wItems)).1]), (exp (s.pass wItems)).2) else
  if s.is wItems = 4 then ((1, []), s.pass wItems) else
  X1m (s.is wItems) ((s.pass wItems).must [[40]])
def Q2f (acc : List Co) (s : Rd) : Bool := decide (s.c = 0) && (decide (acc = []) || !s.has [80, 82, 73, 77, 65, 82, 89])
def Q2x (acc : List Co) (s : Rd) : Rd := if s.c = 0 ∧ acc ≠ [] then s.pass [[80, 82, 73, 77, 65, 82, 89]] else s
def Q5b : Nat → List Co → Rd → List Co × Rd
  | 0, acc, s => if Q2f acc s then (acc ++ [((Q2x acc s).fail 2).columnOf.1], ((Q2x acc s).fail 2).columnOf.2.must [[44]]) else (acc, Q2x acc s)
  | k + 1, acc, s => if Q2f acc s then Q5b k (acc ++ [(Q2x acc s).columnOf.1]) ((Q2x acc s).columnOf.2.must [[44]]) else (acc, Q2x acc s)
def crA (s : Rd) : Rd := s.must [[84, 65, 66, 76, 69]]
def crB (s : Rd) : Rd := ((crA s).take 1).must [[40]]
def crC (s : Rd) : List Co × Rd := Q5b 8 [] (crB s)
def crD (s : Rd) : Rd := (crC s).2.must [[75, 69, 89], [40]]
def Q6i (s : Rd) : Stm × Rd := ({ stm0 with k := 1, t := ((crA s).tok 1).2.1, cols := (crC s).1, pk := ((crD s).tok 1).2.1 }, ((crD s).take 1).must [[41], [41]])
def X4l (s : Rd) : Stm × Rd := ({ stm0 with k := 2, t := ((s.must [[84, 65, 66, 76, 69]]).tok 1).2.1 }, (s.must [[84, 65, 66, 76, 69]]).take 1)
def inA (s : Rd) : Rd := s.must [[73, 78, 84, 79]]
def inB (s : Rd) : List (List Vl) × Rd := many Q4w 16 (((inA s).take 1).must [[86, 65, 76, 85, 69, 83]])
def Q6j (s : Rd) : Stm × Rd := ({ stm0 with k := 3, t := ((inA s).tok 1).2.1, rows := (inB s).1 }, (inB s).2)
def upA (s : Rd) : List Se × Rd := many setL 8 ((s.take 1).must [[83, 69, 84]])
def Q6k (s : Rd) : Stm × Rd := ({ stm0 with k := 4, t := (s.tok 1).2.1, sets := (upA s).1, wh := (Q2r [87, 72, 69, 82, 69] (upA s).2).1 }, (Q2r [87, 72, 69, 82, 69] (upA s).2).2)
def Q6l (s : Rd) : Stm × Rd := ({ stm0 with k := 5, t := ((s.must [[70, 82, 79, 77]]).tok 1).2.1, wh := (Q2r [87, 72, 69, 82, 69] ((s.must [[70, 82, 79, 77]]).take 1)).1 }, (Q2r [87, 72, 69, 82, 69] ((s.must [[70, 82, 79, 77]]).take 1)).2)
def joinB (s : Rd) : Rd := ((s.pass [[74, 79, 73, 78]]).take 1).must [[79, 78]]
def Q9r (s : Rd) : By × List Ex × Rd := if s.has [74, 79, 73, 78] then (((s.pass [[74, 79, 73, 78]]).tok 1).2.1, [(exp (joinB s)).1], (exp (joinB s)).2) else ([], [], s.pass [[74, 79, 73, 78]])
def descL (o : List Ex) (s : Rd) : Bool × Rd := if o = [] then (false, s) else (s.has [68, 69, 83, 67], s.pass [[68, 69, 83, 67]])
def limL (s : Rd) : Int × Rd := if s.has [76, 73, 77, 73, 84] then ((((s.pass [[76, 73, 77, 73, 84]]).tok 3).2.2.1 : Nat), (s.pass [[76, 73, 77, 73, 84]]).take 3) else (-1, s.pass [[76, 73, 77, 73, 84]])
def seA (s : Rd) : List It × Rd := many Q6h 8 s
def seB (s : Rd) : Rd := (seA s).2.must [[70, 82, 79, 77]]
def seC (s : Rd) : By × List Ex × Rd := Q9r ((seB s).take 1)
def seD (s : Rd) : List Ex × Rd := Q2r [87, 72, 69, 82, 69] (seC s).2.2
def seE (s : Rd) : List Ex × Rd := byL [71, 82, 79, 85, 80] (seD s).2
def seF (s : Rd) : List Ex × Rd := byL [79, 82, 68, 69, 82] (seE s).2
def seG (s : Rd) : Bool × Rd := descL (seF s).1 (seF s).2
def seH (s : Rd) : Int × Rd := limL (seG s).2
def Q6m (s : Rd) : Stm × Rd := ({ stm0 with k := 6, t := ((seB s).tok 1).2.1, items := (seA s).1, join := (seC s).1, on := (seC s).2.1, wh := (seD s).1, gr := (seE s).1, or := (seF s).1, desc := (seG s).1, lim := (seH s).1 }, (seH s).2)
abbrev wKinds : List By := [[67, 82, 69, 65, 84, 69], [68, 82, 79, 80], [73, 78, 83, 69, 82, 84], [85, 80, 68, 65, 84, 69], [68, 69, 76, 69, 84, 69], [83, 69, 76, 69, 67, 84]]
def Q8y (k : Int) (s : Rd) : Stm × Rd :=
  if k = -1 then (stm0, s.fail 4) else if k = 0 then Q6i s else if k = 1 then X4l s else if k = 2 then Q6j s else if k = 3 then Q6k s else if k = 4 then Q6l s else if k = 5 then Q6m s else (stm0, s)
def Q1e (s : Rd) : Stm × Rd := Q8y (s.is wKinds) (s.pass wKinds)
def Q4y (l : List Tk) : List Stm × Rd := ((Q2w Q1e [59] 8 [] (rd0 l)).1, (Q2w Q1e [59] 8 [] (rd0 l)).2.fin)
def Q9k (l : List Tk) : List Stm × Int × Int := if (Q4y l).2.c = 0 then ((Q4y l).1, 0, 0) else ([], (Q4y l).2.c, (Q4y l).2.a)
def Q0r (b : List UInt8) : List Stm × Int × Int :=
  match Q6c b with
  | .ok l => Q9k l
  | .error (e, a) => ([], (e : Int), a)
def Q6n {β : Type} (F : Rd → β × Rd) : Prop := ∀ s, WF s.l → Ok s (F s).2
theorem Q8g {β : Type} {one : Rd → β × Rd} (h : Q6n one) (sep : By) : ∀ (k : Nat) (acc : List β) (s : Rd), WF s.l → Ok s (Q2w one sep k acc s).2
  | 0, acc, s, hw => by
    have o := Q5r hw 2
    have o2 := o.trans (h _ o.wf)
    exact o2.trans (Q2h o2.wf)
  | k + 1, acc, s, hw => by
    have o := h s hw
    have o2 := o.trans (Q2h (ws := [sep]) o.wf)
    unfold Q2w
    split
    · exact o2.trans (Q8g h sep k _ _ o2.wf)
    · exact o2
theorem Q5v : Q6n exp := (Q9h 11).ex
theorem Q6o (w : By) : Q6n (Q2r w) := fun s hw => by
  have o := Q2h (ws := [w]) hw
  unfold Q2r
  split
  · exact o.trans (Q5v _ o.wf)
  · exact o
theorem X4m (w : By) : Q6n (byL w) := fun s hw => by
  have o := Q2h (ws := [w]) hw
  unfold byL
  split
  · have o2 := o.trans (Q0w [[66, 89]] _ o.wf)
    exact o2.trans (X2t _ o2.wf)
  · exact o
theorem X7k : Q6n Q6d := fun s hw => by
  have o := Q2h (ws := X5o) hw
  unfold Q6d
  split
  · exact o.trans (Q5r o.wf 4)
  · exact o
theorem X7l : Q6n Q8x := fun s hw => by
  have o := Q2h (ws := [[78, 79, 84]]) hw
  unfold Q8x
  split
  · exact o.trans (Q0w _ _ o.wf)
  · exact o
theorem Q3g : Q6n Rd.columnOf := fun s hw => by
  have o1 := Q2m (k := 1) hw (by decide)
  have o2 := o1.trans (X7k _ o1.wf)
  have o3 := o2.trans (X7l _ o2.wf)
  exact o3.trans (Q2h o3.wf)
theorem X1n : Q6n litV := fun s hw => by
  have o := ok_lit hw
  unfold litV
  split
  · exact o
  · exact o.trans (Q5r o.wf 4)
theorem X1z : Q6n Q4w := fun s hw => by
  have o := Q0w [[40]] s hw
  have o2 := o.trans (Q8g X1n [44] 8 [] _ o.wf)
  exact o2.trans (Q0w _ _ o2.wf)
theorem X3q : Q6n setL := fun s hw => by
  have o := Q2m (k := 1) hw (by decide)
  have o2 := o.trans (Q0w [[61]] _ o.wf)
  exact o2.trans (Q5v _ o2.wf)
theorem nice_itemB (k : Int) : Q6n (X1m k) := fun s hw => by
  unfold X1m
  split
  · have o := Q5v s hw
    exact o.trans (Q0w _ _ o.wf)
  · have o := Q2h (ws := [[42]]) hw
    split
    · exact o.trans (Q0w _ _ o.wf)
    · have o2 := o.trans (Q5v _ o.wf)
      exact o2.trans (Q0w _ _ o2.wf)
theorem X1o : Q6n Q6h := fun s hw => by
  have o := Q2h (ws := wItems) hw
  unfold Q6h
  split
  · exact o.trans (Q5v _ o.wf)
  · split
    · exact o
    · have o2 := o.trans (Q0w [[40]] _ o.wf)
      exact o2.trans (nice_itemB _ _ o2.wf)
theorem X3r {acc : List Co} {s : Rd} (hw : WF s.l) : Ok s (Q2x acc s) := by
  unfold Q2x
  split
  · exact Q2h hw
  · exact .refl hw
theorem Y0n : ∀ (k : Nat) (acc : List Co) (s : Rd), WF s.l → Ok s (Q5b k acc s).2
  | 0, acc, s, hw => by
    have o := X3r (acc := acc) hw
    have o2 := o.trans (Q5r o.wf 2)
    have o3 := o2.trans (Q3g _ o2.wf)
    unfold Q5b
    split
    · exact o3.trans (Q0w _ _ o3.wf)
    · exact o
  | k + 1, acc, s, hw => by
    have o := X3r (acc := acc) hw
    have o3 := o.trans (Q3g _ o.wf)
    have o4 := o3.trans (Q0w [[44]] _ o3.wf)
    unfold Q5b
    split
    · exact o4.trans (Y0n k _ _ o4.wf)
    · exact o
theorem ok_crA {s : Rd} (hw : WF s.l) : Ok s (crA s) := Q0w _ _ hw
theorem ok_crB {s : Rd} (hw : WF s.l) : Ok s (crB s) := by
  have o := ok_crA hw
  have o2 := o.trans (Q2m (k := 1) o.wf (by decide))
  exact o2.trans (Q0w _ _ o2.wf)
theorem ok_crC {s : Rd} (hw : WF s.l) : Ok s (crC s).2 := (ok_crB hw).trans (Y0n _ _ _ (ok_crB hw).wf)
theorem ok_crD {s : Rd} (hw : WF s.l) : Ok s (crD s) := (ok_crC hw).trans (Q0w _ _ (ok_crC hw).wf)
theorem nice_create : Q6n Q6i := fun s hw => by
  have o := ok_crD hw
  have o2 := o.trans (Q2m (k := 1) o.wf (by decide))
  exact o2.trans (Q0w _ _ o2.wf)
theorem nice_drop : Q6n X4l := fun s hw => by
  have o := Q0w [[84, 65, 66, 76, 69]] s hw
  exact o.trans (Q2m (k := 1) o.wf (by decide))
theorem ok_inB {s : Rd} (hw : WF s.l) : Ok s (inB s).2 := by
  have o := Q0w [[73, 78, 84, 79]] s hw
  have o2 := o.trans (Q2m (k := 1) o.wf (by decide))
  have o3 := o2.trans (Q0w [[86, 65, 76, 85, 69, 83]] _ o2.wf)
  exact o3.trans (Q8g X1z _ _ _ _ o3.wf)
theorem nice_insert : Q6n Q6j := fun s hw => ok_inB hw
theorem ok_upA {s : Rd} (hw : WF s.l) : Ok s (upA s).2 := by
  have o2 := Q2m (k := 1) hw (by decide)
  have o3 := o2.trans (Q0w [[83, 69, 84]] _ o2.wf)
  exact o3.trans (Q8g X3q _ _ _ _ o3.wf)
theorem nice_update : Q6n Q6k := fun s hw => (ok_upA hw).trans (Q6o _ _ (ok_upA hw).wf)
theorem nice_remove : Q6n Q6l := fun s hw => by
  have o := Q0w [[70, 82, 79, 77]] s hw
  have o2 := o.trans (Q2m (k := 1) o.wf (by decide))
  exact o2.trans (Q6o _ _ o2.wf)
theorem ok_joinB {s : Rd} (hw : WF s.l) : Ok s (joinB s) := by
  have o := Q2h (ws := [[74, 79, 73, 78]]) hw
  have o2 := o.trans (Q2m (k := 1) o.wf (by decide))
  exact o2.trans (Q0w _ _ o2.wf)
theorem ok_join {s : Rd} (hw : WF s.l) : Ok s (Q9r s).2.2 := by
  unfold Q9r
  split
  · exact (ok_joinB hw).trans (Q5v _ (ok_joinB hw).wf)
  · exact Q2h hw
theorem X7m (o : List Ex) : Q6n (descL o) := fun s hw => by
  unfold descL
  split
  · exact .refl hw
  · exact Q2h hw
theorem nice_lim : Q6n limL := fun s hw => by
  have o := Q2h (ws := [[76, 73, 77, 73, 84]]) hw
  unfold limL
  split
  · exact o.trans (Q2m o.wf (by decide))
  · exact o
theorem ok_seA {s : Rd} (hw : WF s.l) : Ok s (seA s).2 := Q8g X1o _ _ _ _ hw
theorem ok_seB {s : Rd} (hw : WF s.l) : Ok s (seB s) := (ok_seA hw).trans (Q0w _ _ (ok_seA hw).wf)
theorem ok_seC {s : Rd} (hw : WF s.l) : Ok s (seC s).2.2 := by
  have o := (ok_seB hw).trans (Q2m (k := 1) (ok_seB hw).wf (by decide))
  exact o.trans (ok_join o.wf)
theorem ok_seD {s : Rd} (hw : WF s.l) : Ok s (seD s).2 := (ok_seC hw).trans (Q6o _ _ (ok_seC hw).wf)
theorem ok_seE {s : Rd} (hw : WF s.l) : Ok s (seE s).2 := (ok_seD hw).trans (X4m _ _ (ok_seD hw).wf)
theorem ok_seF {s : Rd} (hw : WF s.l) : Ok s (seF s).2 := (ok_seE hw).trans (X4m _ _ (ok_seE hw).wf)
theorem ok_seG {s : Rd} (hw : WF s.l) : Ok s (seG s).2 := (ok_seF hw).trans (X7m _ _ (ok_seF hw).wf)
theorem ok_seH {s : Rd} (hw : WF s.l) : Ok s (seH s).2 := (ok_seG hw).trans (nice_lim _ (ok_seG hw).wf)
theorem nice_choose : Q6n Q6m := fun s hw => ok_seH hw
theorem nice_stateK (k : Int) : Q6n (Q8y k) := fun s hw => by
  unfold Q8y
  repeat' split
  · exact Q5r hw 4
  · exact nice_create s hw
  · exact nice_drop s hw
  · exact nice_insert s hw
  · exact nice_update s hw
  · exact nice_remove s hw
  · exact nice_choose s hw
  · exact .refl hw
theorem Q9s : Q6n Q1e := fun s hw => by
  have o := Q2h (ws := wKinds) hw
  exact o.trans (nice_stateK _ _ o.wf)
structure Gd (s : Rd) : Prop where
  wf : WF s.l
  d : s.d = 0
theorem Gd.ok {s s' : Rd} (h : Gd s) (o : Ok s s') : Gd s' := ⟨o.wf, o.d.trans h.d⟩
theorem Q3t {s : Rd} {ws : List By} (h : Gd s) : Gd (s.must ws) := h.ok (Q0w ws s h.wf)
theorem Y0o {s : Rd} {e : Int} (h : Gd s) : Gd (s.fail e) := h.ok (Q5r h.wf e)
theorem Q6p {s : Rd} {ws : List By} (h : Gd s) : Gd (s.pass ws) := h.ok (Q2h h.wf)
theorem Q7f {s : Rd} {k : Nat} (hk : k ≠ 6) (h : Gd s) : Gd (s.take k) := h.ok (Q2m h.wf hk)
theorem gd_exp {s : Rd} (h : Gd s) : Gd (exp s).2 := h.ok (Q5v s h.wf)
theorem gd_column {s : Rd} (h : Gd s) : Gd s.column.2 := h.ok (X2t s h.wf)
theorem gd_lit {s : Rd} (h : Gd s) : Gd s.lit.2.2 := h.ok (ok_lit h.wf)
theorem X4n {β : Type} {F : Rd → β × Rd} (hF : Q6n F) {s : Rd} (h : Gd s) : Gd (F s).2 := h.ok (hF s h.wf)
theorem Y0p {β : Type} {F : Rd → β × Rd} (hF : Q6n F) {sep : By} {k : Nat} {acc : List β} {s : Rd} (h : Gd s) : Gd (Q2w F sep k acc s).2 := h.ok (Q8g hF sep k acc s h.wf)
theorem has_pass {s : Rd} {w : By} (h : s.has w = false) : s.pass [w] = s := by rw [pass1, h]; rfl
def fT (t : Tk) : Tk := (t.1, t.2.1, t.2.2.1, 0)
def Rd.fg (s : Rd) : Rd := ⟨s.l.map fT, s.d, s.c, 0⟩
def Fg {β : Type} (F : Rd → β × Rd) : Prop := ∀ s, F s.fg = ((F s).1, (F s).2.fg)
theorem getD_fg (l : List Tk) (k : Nat) : (l.map fT).getD k (0, [], 0, 0) = fT (l.getD k (0, [], 0, 0)) := by
  simp only [List.getD_eq_getElem?_getD, List.getElem?_map]
  cases l[k]? <;> rfl
theorem hd_fg (s : Rd) : hd s.fg.l = fT (hd s.l) := getD_fg s.l 0
theorem c_fg (s : Rd) : s.fg.c = s.c := rfl
theorem len_fg (s : Rd) : s.fg.l.length = s.l.length := by unfold Rd.fg; simp
theorem Q9l (s : Rd) : s.fg.next = s.next.fg := by
  unfold Rd.fg Rd.next
  simp [List.map_tail]
theorem X0m (s : Rd) (e : Int) : s.fg.fail e = (s.fail e).fg := by
  unfold Rd.fail
  rw [hd_fg, c_fg]
  by_cases h : s.c = 0
  · rw [if_pos h, if_pos h]; rfl
  · rw [if_neg h, if_neg h]
theorem Y0q (s : Rd) (ws : List By) : s.fg.is ws = s.is ws := by
  unfold Rd.is
  rw [hd_fg, c_fg]
  rfl
theorem Q4z (s : Rd) (ws : List By) : s.fg.pass ws = (s.pass ws).fg := by
  unfold Rd.pass
  rw [Y0q, Q9l]
  split <;> rfl
theorem Q8h (s : Rd) (w : By) : s.fg.has w = s.has w := by
  unfold Rd.has
  rw [Y0q]
theorem Q2y : ∀ (ws : List By) (s : Rd), s.fg.must ws = (s.must ws).fg
  | [], s => rfl
  | w :: ws, s => by
    unfold Rd.must
    rw [Q8h, Q9l, X0m]
    split
    · exact Q2y ws s.next
    · exact Q2y ws (s.fail 4)
theorem X6d (s : Rd) (k : Nat) : s.fg.takes k ↔ s.takes k := by
  unfold Rd.takes
  rw [hd_fg, c_fg]
  exact Iff.rfl
theorem X1p (s : Rd) (k : Nat) : s.fg.tok k = fT (s.tok k) := by
  unfold Rd.tok
  rw [hd_fg]
  by_cases h : s.takes k
  · rw [if_pos h, if_pos ((X6d s k).2 h)]
  · rw [if_neg h, if_neg (fun h' => h ((X6d s k).1 h'))]
    rfl
theorem Q7g (s : Rd) (k : Nat) : s.fg.take k = (s.take k).fg := by
  unfold Rd.take
  rw [Q9l, X0m]
  by_cases h : s.takes k
  · rw [if_pos h, if_pos ((X6d s k).2 h)]
  · rw [if_neg h, if_neg (fun h' => h ((X6d s k).1 h'))]
theorem fT1 (t : Tk) : (fT t).1 = t.1 := rfl
theorem fT2 (t : Tk) : (fT t).2.1 = t.2.1 := rfl
theorem fT3 (t : Tk) : (fT t).2.2.1 = t.2.2.1 := rfl
theorem lit_fg (s : Rd) : s.fg.lit = (s.lit.1, s.lit.2.1, s.lit.2.2.fg) := by
  have hg : s.fg.l.getD 1 (0, [], 0, 0) = fT (s.l.getD 1 (0, [], 0, 0)) := getD_fg s.l 1
  unfold Rd.lit
  simp only [hd_fg, c_fg, Y0q, hg, Q9l, Q8h, Q4z, fT1, fT2, fT3]
  repeat' split
  all_goals rfl
theorem fg_column : Fg Rd.column := fun s => by
  unfold Rd.column
  simp only [Q7g, Q8h, X1p, Q9l, fT2]
  split <;> rfl
theorem down_fg (s : Rd) : s.fg.down = s.down.fg := by
  unfold Rd.down
  have : ({ s.fg with d := s.fg.d + 1 } : Rd) = ({ s with d := s.d + 1 } : Rd).fg := rfl
  rw [this, X0m]
  show (if s.d + 1 > 10 then _ else _) = _
  split <;> rfl
theorem X7n {F : Pr} (h : Fg F) : Fg (Q1u F) := fun s => by
  unfold Q1u
  rw [down_fg, c_fg, h]
  split <;> rfl
theorem rowL_fg {F : Pr} (h : Fg F) (first : Int) (ws : List By) : ∀ (n : Nat) (e : Ex) (s : Rd), rowL F first ws n e s.fg = ((rowL F first ws n e s).1, (rowL F first ws n e s).2.fg)
  | 0, e, s => rfl
  | n + 1, e, s => by
    unfold rowL
    rw [Y0q, Q9l, h]
    split
    · exact rowL_fg h first ws n _ _
    · rfl
theorem fg_row {F : Pr} (h : Fg F) (first : Int) (ws : List By) : Fg (row F first ws) := fun s => by
  unfold row
  rw [h, len_fg]
  exact rowL_fg h first ws _ _ _
structure Dp.Fg (D : Dp) : Prop where
  fac : Go.Parse.Fg D.fac
  not : Go.Parse.Fg D.not
  ex : Go.Parse.Fg D.ex
theorem fg_fac {D : Dp} (h : D.Fg) : Fg (facL D) := fun s => by
  unfold facL
  simp only [lit_fg, Y0q, Q9l, X7n h.fac _, X7n h.ex _, Q2y, fg_column _]
  repeat' split
  all_goals rfl
theorem fg_sum {D : Dp} (h : D.Fg) : Fg (sumL D) := fg_row (fg_row (fg_fac h) _ _) _ _
theorem isNull_fg (e : Ex) (s : Rd) : isNull e s.fg = ((isNull e s).1, (isNull e s).2.fg) := by
  unfold isNull
  simp only [Q8h, Q9l, Q2y]
  split <;> rfl
theorem fg_test {D : Dp} (h : D.Fg) : Fg (Q5q D) := fun s => by
  unfold Q5q
  simp only [fg_sum h _, Y0q, Q9l, isNull_fg]
  repeat' split
  all_goals rfl
theorem fg_not {D : Dp} (h : D.Fg) : Fg (notL D) := fun s => by
  unfold notL
  simp only [Q8h, Q9l, X7n h.not _, fg_test h _]
  split <;> rfl
theorem fg_ex {D : Dp} (h : D.Fg) : Fg (exL D) := fg_row (fg_row (fg_not h) _ _) _ _
theorem dp_fg : ∀ n, (dp n).Fg
  | 0 => ⟨fun s => rfl, fun s => rfl, fun s => rfl⟩
  | n + 1 => ⟨fg_fac (dp_fg n), fg_not (dp_fg n), fg_ex (dp_fg n)⟩
theorem fg_exp : Fg exp := (dp_fg 11).ex
theorem fin_fg (s : Rd) : s.fg.fin = s.fin.fg := by
  unfold Rd.fin
  rw [hd_fg, c_fg, X0m, fT1]
  split <;> rfl
theorem X4o {β : Type} {one : Rd → β × Rd} (h : Fg one) (sep : By) : ∀ (k : Nat) (acc : List β) (s : Rd), Q2w one sep k acc s.fg = ((Q2w one sep k acc s).1, (Q2w one sep k acc s).2.fg)
  | 0, acc, s => by
    unfold Q2w
    simp only [X0m, h _, Q4z]
  | k + 1, acc, s => by
    unfold Q2w
    simp only [h _, Q8h, Q4z]
    split
    · exact X4o h sep k _ _
    · rfl
theorem Y0r (w : By) : Fg (Q2r w) := fun s => by
  unfold Q2r
  simp only [Q8h, Q4z, fg_exp _]
  split <;> rfl
theorem fg_by (w : By) : Fg (byL w) := fun s => by
  unfold byL
  simp only [Q8h, Q4z, Q2y, fg_column _]
  split <;> rfl
theorem fg_coKind : Fg Q6d := fun s => by
  unfold Q6d
  simp only [Y0q, Q4z, X0m]
  split <;> rfl
theorem fg_coNull : Fg Q8x := fun s => by
  unfold Q8x
  simp only [Q8h, Q4z, Q2y]
  split <;> rfl
theorem X7o : Fg Rd.columnOf := fun s => by
  unfold Rd.columnOf
  simp only [X1p, Q7g, fT2, fg_coKind _, fg_coNull _, Q8h, Q4z]
theorem fg_litV : Fg litV := fun s => by
  unfold litV
  simp only [lit_fg, X0m]
  split <;> rfl
theorem fg_tuple : Fg Q4w := fun s => by
  unfold Q4w many
  simp only [Q2y, X4o fg_litV]
theorem fg_set : Fg setL := fun s => by
  unfold setL
  simp only [X1p, Q7g, Q2y, fT2, fg_exp _]
theorem fg_itemB (k : Int) : Fg (X1m k) := fun s => by
  unfold X1m
  simp only [fg_exp _, Q2y, Q8h, Q4z]
  repeat' split
  all_goals rfl
theorem fg_item : Fg Q6h := fun s => by
  unfold Q6h
  simp only [Y0q, Q4z, fg_exp _, Q2y, fg_itemB _ _]
  repeat' split
  all_goals rfl
theorem X7p (acc : List Co) (s : Rd) : Q2f acc s.fg = Q2f acc s := by
  unfold Q2f
  rw [c_fg, Q8h]
theorem colsAt_fg (acc : List Co) (s : Rd) : Q2x acc s.fg = (Q2x acc s).fg := by
  unfold Q2x
  rw [c_fg, Q4z]
  split <;> rfl
theorem fg_cols : ∀ (k : Nat) (acc : List Co) (s : Rd), Q5b k acc s.fg = ((Q5b k acc s).1, (Q5b k acc s).2.fg)
  | 0, acc, s => by
    unfold Q5b
    simp only [X7p, colsAt_fg, X0m, X7o _, Q2y]
    split <;> rfl
  | k + 1, acc, s => by
    unfold Q5b
    simp only [X7p, colsAt_fg, X7o _, Q2y]
    split
    · exact fg_cols k _ _
    · rfl
theorem crA_fg (s : Rd) : crA s.fg = (crA s).fg := Q2y _ _
theorem crB_fg (s : Rd) : crB s.fg = (crB s).fg := by unfold crB; simp only [crA_fg, Q7g, Q2y]
theorem crC_fg : Fg crC := fun s => by unfold crC; simp only [crB_fg, fg_cols]
theorem crD_fg (s : Rd) : crD s.fg = (crD s).fg := by unfold crD; simp only [crC_fg _, Q2y]
theorem fg_create : Fg Q6i := fun s => by
  unfold Q6i
  simp only [crA_fg, crC_fg _, crD_fg, X1p, Q7g, Q2y, fT2]
theorem fg_drop : Fg X4l := fun s => by
  unfold X4l
  simp only [X1p, Q7g, Q2y, fT2]
theorem inA_fg (s : Rd) : inA s.fg = (inA s).fg := Q2y _ _
theorem inB_fg : Fg inB := fun s => by unfold inB many; simp only [inA_fg, Q7g, Q2y, X4o fg_tuple]
theorem fg_insert : Fg Q6j := fun s => by
  unfold Q6j
  simp only [inA_fg, inB_fg _, X1p, fT2]
theorem upA_fg : Fg upA := fun s => by unfold upA many; simp only [Q7g, Q2y, X4o fg_set]
theorem fg_update : Fg Q6k := fun s => by
  unfold Q6k
  simp only [upA_fg _, X1p, fT2, Y0r _ _]
theorem fg_remove : Fg Q6l := fun s => by
  unfold Q6l
  simp only [Q2y, X1p, Q7g, fT2, Y0r _ _]
theorem joinB_fg (s : Rd) : joinB s.fg = (joinB s).fg := by unfold joinB; simp only [Q4z, Q7g, Q2y]
theorem join_fg (s : Rd) : Q9r s.fg = ((Q9r s).1, (Q9r s).2.1, (Q9r s).2.2.fg) := by
  unfold Q9r
  simp only [Q8h, Q4z, X1p, fT2, joinB_fg, fg_exp _]
  split <;> rfl
theorem fg_desc (o : List Ex) : Fg (descL o) := fun s => by
  unfold descL
  simp only [Q8h, Q4z]
  split <;> rfl
theorem fg_lim : Fg limL := fun s => by
  unfold limL
  simp only [Q8h, Q4z, X1p, Q7g, fT3]
  split <;> rfl
theorem seA_fg : Fg seA := fun s => by unfold seA many; simp only [X4o fg_item]
theorem seB_fg (s : Rd) : seB s.fg = (seB s).fg := by unfold seB; simp only [seA_fg _, Q2y]
theorem seC_fg (s : Rd) : seC s.fg = ((seC s).1, (seC s).2.1, (seC s).2.2.fg) := by unfold seC; simp only [seB_fg, Q7g, join_fg]
theorem seD_fg : Fg seD := fun s => by unfold seD; simp only [seC_fg, Y0r _ _]
theorem seE_fg : Fg seE := fun s => by unfold seE; simp only [seD_fg _, fg_by _ _]
theorem seF_fg : Fg seF := fun s => by unfold seF; simp only [seE_fg _, fg_by _ _]
theorem seG_fg : Fg seG := fun s => by unfold seG; simp only [seF_fg _, fg_desc _ _]
theorem seH_fg : Fg seH := fun s => by unfold seH; simp only [seG_fg _, fg_lim _]
theorem fg_choose : Fg Q6m := fun s => by
  unfold Q6m
  simp only [seA_fg _, seB_fg, seC_fg, seD_fg _, seE_fg _, seF_fg _, seG_fg _, seH_fg _, X1p, fT2]
theorem fg_stateK (k : Int) : Fg (Q8y k) := fun s => by
  unfold Q8y
  simp only [X0m, fg_create _, fg_drop _, fg_insert _, fg_update _, fg_remove _, fg_choose _]
  repeat' split
  all_goals rfl
theorem fg_state : Fg Q1e := fun s => by
  unfold Q1e
  simp only [Y0q, Q4z, fg_stateK _ _]
theorem rd0_fg (l : List Tk) : (rd0 l).fg = rd0 (l.map fT) := rfl
theorem X8x (l : List Tk) : Q4y (l.map fT) = ((Q4y l).1, (Q4y l).2.fg) := by
  unfold Q4y
  rw [← rd0_fg, X4o fg_state, fin_fg]
theorem script_alike {l m : List Tk} (h : l.map fT = m.map fT) : (Q9k l).1 = (Q9k m).1 ∧ (Q9k l).2.1 = (Q9k m).2.1 := by
  have h1 := X8x l
  have h2 := X8x m
  have h1 := h1.symm.trans ((congrArg Q4y h).trans h2)
  have e1 : (Q4y m).1 = (Q4y l).1 := (congrArg Prod.fst h1).symm
  have e2 : (Q4y m).2.c = (Q4y l).2.c := (congrArg (fun x => x.2.c) h1).symm
  unfold Q9k
  rw [e1, e2]
  split <;> exact ⟨rfl, rfl⟩
end Go.Parse
namespace Go.Print
open Go.V Go.Lex Go.Parse Go.Proofs.YtjdapkelojdefaaGreatDoor
structure DpR (k : Int) (D : Dp) : Prop where
  fac : Rgt k D.fac
  not : Rgt k D.not
  ex : Rgt k D.ex
theorem rg_fac {k : Int} {D : Dp} (hN : D.Nice) (h : DpR (k + 1) D) : Rgt k (facL D) := fun s hd hw hg hc => by
  have o := ok_lit hw
  unfold facL at hc ⊢
  split
  · rename_i h1
    rw [if_pos h1] at hc
    exact rg_lit s hw hg hc h1
  · rename_i h1
    rw [if_neg h1] at hc
    have hg1 := hg.suf o.suf
    have ol := o.le
    split
    · rename_i h2
      rw [if_pos h2] at hc
      have h0 : 0 ≤ s.lit.2.2.is [Q2i, [40]] := by omega
      have o1 := X0u o.wf h0
      have l1 := X0l o.wf h0
      have q := X7f h.fac _ ((hd.ok o).ok o1) o1.wf (hg1.suf o1.suf) hc
      refine ⟨?_, (tre_neg q.2).mono ?_⟩
      · have := q.1; dsimp only at this ⊢; omega
      · have := q.1; dsimp only at this ⊢; omega
    · rename_i h2
      rw [if_neg h2] at hc
      split
      · rename_i h3
        rw [if_pos h3] at hc
        have h0 : 0 ≤ s.lit.2.2.is [Q2i, [40]] := by omega
        have o1 := X0u o.wf h0
        have l1 := X0l o.wf h0
        obtain ⟨m1, m2⟩ := must1 hc
        have o2 := Q8c hN.ex _ o1.wf
        have hc2 : (Q1u D.ex s.lit.2.2.next).2.c = 0 := (X1h (of_decide_eq_true m1 : 0 ≤ (Q1u D.ex s.lit.2.2.next).2.is [[41]])).1
        have l2 := X0l o2.wf (of_decide_eq_true m1 : 0 ≤ (Q1u D.ex s.lit.2.2.next).2.is [[41]])
        have q := X7f h.ex _ ((hd.ok o).ok o1) o1.wf (hg1.suf o1.suf) hc2
        have q1 := q.1
        dsimp only
        rw [m2]
        exact ⟨by omega, q.2.mono (by omega)⟩
      · rename_i h3
        rw [if_neg h3] at hc
        have q := rg_column (k := k) _ (hd.ok o) o.wf hg1 hc
        have q1 := q.1
        exact ⟨by omega, q.2.mono (by omega)⟩
theorem rg_sum {k : Int} {D : Dp} (hN : D.Nice) (h : DpR (k + 1) D) : Rgt k (sumL D) := rg_row (Q6q (Q8t hN) _ _) (rg_row (Q8t hN) (rg_fac hN h) _ _ (by decide) (by decide)) _ _ (by decide) (by decide)
theorem rg_isNull {e : Ex} {s : Rd} {m : Nat} (hw : WF s.l) (he : TrE e m) (hc : (isNull e s).2.c = 0) : (isNull e s).2.l.length ≤ s.l.length ∧ TrE (isNull e s).1 (m + 6) := by
  unfold isNull at hc ⊢
  split
  · rename_i h
    rw [if_pos h] at hc
    have o := Q8s hw h
    obtain ⟨m1, m2⟩ := must1 hc
    have := (Q0w [Q7d] s.next o.wf).le
    have := o.le
    exact ⟨by dsimp only; omega, tre_notnull he⟩
  · rename_i h
    rw [if_neg h] at hc
    have := (Q0w [Q7d] s hw).le
    exact ⟨by dsimp only; omega, tre_null he⟩
theorem rg_test {k : Int} {D : Dp} (hN : D.Nice) (h : DpR (k + 1) D) : Rgt k (Q5q D) := fun s hd hw hg hc => by
  have o := X3i hN s hw
  have hS := rg_sum hN h
  unfold Q5q at hc ⊢
  split
  · rename_i h1
    rw [if_pos h1] at hc
    exact hS s hd hw hg hc
  · rename_i h1
    rw [if_neg h1] at hc
    have h0 : 0 ≤ (sumL D s).2.is tests := by omega
    have hlt := Y0c (sumL D s).2 tests
    have o1 := X0u o.wf h0
    have l1 := X0l o.wf h0
    have c1 := (X1h h0).1
    have q := hS s hd hw hg c1
    have q1 := q.1
    split
    · rename_i h2
      rw [if_pos h2] at hc
      have p := hS _ ((hd.ok o).ok o1) o1.wf ((hg.suf o.suf).suf o1.suf) hc
      have p1 := p.1
      dsimp only at p1 ⊢
      exact ⟨by omega, (tre_op (by omega) (by omega) q.2 p.2).mono (by omega)⟩
    · rename_i h2
      rw [if_neg h2] at hc
      have p := rg_isNull o1.wf q.2 hc
      have p1 := p.1
      exact ⟨by omega, p.2.mono (by omega)⟩
theorem rg_not {k : Int} {D : Dp} (hN : D.Nice) (h : DpR (k + 1) D) : Rgt k (notL D) := fun s hd hw hg hc => by
  unfold notL at hc ⊢
  split
  · rename_i h1
    rw [if_pos h1] at hc
    have o1 := Q8s hw h1
    have l1 := X0l hw (of_decide_eq_true h1 : 0 ≤ s.is [wNot])
    have q := X7f h.not _ (hd.ok o1) o1.wf (hg.suf o1.suf) hc
    have q1 := q.1
    dsimp only at q1 ⊢
    exact ⟨by omega, (tre_not q.2).mono (by omega)⟩
  · rename_i h1
    rw [if_neg h1] at hc
    exact rg_test hN h s hd hw hg hc
theorem rg_ex {k : Int} {D : Dp} (hN : D.Nice) (h : DpR (k + 1) D) : Rgt k (exL D) := rg_row (Q6q (Q8u hN) _ _) (rg_row (Q8u hN) (rg_not hN h) _ _ (by decide) (by decide)) _ _ (by decide) (by decide)
theorem dp_rg : ∀ n : Nat, DpR (11 - (n : Int)) (dp n)
  | 0 => ⟨fun s hd => absurd hd (by unfold Dk; omega), fun s hd => absurd hd (by unfold Dk; omega), fun s hd => absurd hd (by unfold Dk; omega)⟩
  | n + 1 => by
    have h : DpR ((11 - ((n + 1 : Nat) : Int)) + 1) (dp n) := by
      rw [show (11 - ((n + 1 : Nat) : Int)) + 1 = 11 - (n : Int) by omega]
      exact dp_rg n
    exact ⟨rg_fac (Q9h n) h, rg_not (Q9h n) h, rg_ex (Q9h n) h⟩
theorem X8y : ∀ t : Tr, t.wf → t.rg → Lim t.ex
  | .val v, hw, hg => by
    have r0 : inR 0 := by unfold inR; omega
    have hv : okV v = true := hw
    have : inR v.1 := by
      rcases X3n hv with rfl | ⟨h1, _⟩ | ⟨h1, _⟩
      · exact r0
      · rw [h1]; unfold inR; omega
      · rw [h1]; unfold inR; omega
    exact .mk _ _ _ _ _ _ (by simp) ⟨by unfold inR; omega, r0, this, hg⟩ (fun e he => by cases he)
  | .col t n, hw, hg => by
    have r0 : inR 0 := by unfold inR; omega
    exact .mk _ _ _ _ _ _ (by simp) ⟨by unfold inR; omega, r0, r0, r0⟩ (fun e he => by cases he)
  | .op k a b, hw, hg => by
    have r0 : inR 0 := by unfold inR; omega
    have hk := hw.1
    refine .mk _ _ _ _ _ _ (by simp) ⟨by unfold inR; omega, by unfold inR; omega, r0, r0⟩ (fun e he => ?_)
    simp at he
    rcases he with rfl | rfl
    · exact X8y a hw.2.1 hg.1
    · exact X8y b hw.2.2 hg.2
  | .not a, hw, hg => by
    have r0 : inR 0 := by unfold inR; omega
    refine .mk _ _ _ _ _ _ (by simp) ⟨by unfold inR; omega, r0, r0, r0⟩ (fun e he => ?_)
    simp at he
    subst he
    exact X8y a hw hg
  | .neg a, hw, hg => by
    have r0 : inR 0 := by unfold inR; omega
    refine .mk _ _ _ _ _ _ (by simp) ⟨by unfold inR; omega, r0, r0, r0⟩ (fun e he => ?_)
    simp at he
    subst he
    exact X8y a hw hg
  | .null a, hw, hg => by
    have r0 : inR 0 := by unfold inR; omega
    refine .mk _ _ _ _ _ _ (by simp) ⟨by unfold inR; omega, r0, r0, r0⟩ (fun e he => ?_)
    simp at he
    subst he
    exact X8y a hw hg
end Go.Print
namespace Go.Proofs.YtjdapkelojdefaaGreatDoor
open Go Go.V Go.Lex Go.Parse
variable (ρ : Nat) (s : Rd)
theorem c13 (w : By) (σ : Sg) (hρ : σ ρ = some (rdA s)) (hg : Gd s) : VCalls Tryz.prog 37 [.ref ρ 0, .s (bs w)] σ (fun x σ' => x = .b (s.has w) ∧ σ' = σ.set ρ (rdA (s.pass [w]))) := by
  rw [pass1]; exact p13 ρ s w σ hρ hg.wf.pos
theorem c14 (e : Int) (σ : Sg) (hρ : σ ρ = some (rdA s)) (hg : Gd s) : VCalls Tryz.prog 38 [.ref ρ 0, .i e] σ (fun x σ' => x = .tup [] ∧ σ' = σ.set ρ (rdA (s.fail e))) := p14 ρ s e σ hρ hg.wf.pos
theorem c20 (σ : Sg) (hρ : σ ρ = some (rdA s)) : VCalls Tryz.prog 85 [.ref ρ 0] σ (fun x σ' => x = .b (decide (s.c = 0)) ∧ σ' = σ) := p20 ρ s σ hρ
theorem c22 (o : Own) (ws : List By) (es : List (List AV)) (σ : Sg) (he : es = strs ws) (hρ : σ ρ = some (rdA s)) (hg : Gd s) (hw : ws.length < 2 ^ 60) : VCalls Tryz.prog 87 [.ref ρ 0, .sl o es] σ (fun x σ' => x = .i (s.is ws) ∧ σ' = σ.set ρ (rdA (s.pass ws))) := p22 ρ s o ws es σ he hρ hg.wf.pos hw
theorem c41 (o : Own) (ws : List By) (es : List (List AV)) (σ : Sg) (he : es = strs ws) (hρ : σ ρ = some (rdA s)) (hg : Gd s) (hw : ws.length < 2 ^ 60) : VCalls Tryz.prog 137 [.ref ρ 0, .sl o es] σ (fun x σ' => x = .tup [] ∧ σ' = σ.set ρ (rdA (s.must ws))) := p41 ρ s o ws es σ he hρ hg.wf hw
theorem c42 (σ : Sg) (hρ : σ ρ = some (rdA s)) (hg : Gd s) : VCalls Tryz.prog 138 [.ref ρ 0] σ (fun x σ' => x = .s (bs (s.tok 1).2.1) ∧ σ' = σ.set ρ (rdA (s.take 1))) := p42 ρ s σ hρ hg.wf.pos
theorem c52 (σ : Sg) (hρ : σ ρ = some (rdA s)) (hg : Gd s) : VCalls Tryz.prog 148 [.ref ρ 0, .i 3] σ (fun x σ' => x = .agg [.i (s.tok 3).1, .s (bs (s.tok 3).2.1), .i (s.tok 3).2.2.1, .i (s.tok 3).2.2.2] ∧ σ' = σ.set ρ (rdA (s.take 3))) := p52 ρ s 3 σ hρ hg.wf.pos
theorem c67 (σ : Sg) (hρ : σ ρ = some (rdA s)) (hg : Gd s) : VCalls Tryz.prog 173 [.ref ρ 0] σ (fun x σ' => x = .tup [.agg [.i s.lit.1.1, .i s.lit.1.2.1, .s (bs s.lit.1.2.2)], .b s.lit.2.1] ∧ σ' = σ.set ρ (rdA s.lit.2.2)) := p67 ρ s σ hρ hg.wf
theorem c68 (σ : Sg) (hρ : σ ρ = some (rdA s)) (hg : Gd s) : VCalls Tryz.prog 174 [.ref ρ 0] σ (fun x σ' => x = .agg (exA s.column.1) ∧ σ' = σ.set ρ (rdA s.column.2)) := p68 ρ s σ hρ hg.wf
theorem c10 (σ : Sg) (hρ : σ ρ = some (rdA s)) (hg : Gd s) : VCalls Tryz.prog 35 [.ref ρ 0] σ (fun x σ' => x = .agg (exA (exp s).1) ∧ σ' = σ.set ρ (rdA (exp s).2)) := (qRD 11 0 (by decide) (by decide) (by decide)).ex ρ s σ hρ hg.wf hg.d
def coA (c : Co) : List AV := [.s (bs c.1), .i c.2.1, .b c.2.2.1, .b c.2.2.2]
theorem zero75 : ∃ z, Q0l Tryz.prog 132 = some (some z, 4, 32) ∧ ofValue z = .agg [.s (bs []), .i 0, .b false, .b false] := ⟨_, info132, by rfl⟩
theorem c43 (σ : Sg) (hρ : σ ρ = some (rdA s)) (hg : Gd s) : VCalls Tryz.prog 139 [.ref ρ 0] σ (fun x σ' => x = .agg (coA s.columnOf.1) ∧ σ' = σ.set ρ (rdA s.columnOf.2)) := by
  obtain ⟨z75, h75, hz75⟩ := zero75
  (refine vfun (fun _ => .no) Q0h Tryz.func139 (by kernel_rfl) ?_; simp only [Q0f, Tryz.f139, zv])
  (have zz := Bx.mk (j7 ui3 ui4 ui9 Tryz.underlying132 h75 hz75 ui75); (repeat' (first | with_reducible rfl | exact trivial | (with_reducible first | apply And.intro | apply Q0a | apply Q0b | refine Q0c (by decide +kernel) ?_ | intro _) | refine zaW zz.out ?_ | ((first | (with_reducible refine uc (c42 _ _ _ (by exact Go.V.zK) (by exact Go.V.zG)) ?_) | (with_reducible refine uc (c22 _ _ _ [[73, 78, 84], [84, 69, 88, 84]] _ _ (by with_unfolding_all rfl) (by exact Go.V.zK) (by exact Go.V.zG) (by decide)) ?_) | (with_reducible refine uc (c14 _ _ _ _ (by exact Go.V.zK) (by exact Go.V.zG)) ?_) | (with_reducible refine uc (c13 _ _ [78, 79, 84] _ (by exact Go.V.zK) (by exact Go.V.zG)) ?_) | (with_reducible refine uc (c13 _ _ [85, 78, 73, 81, 85, 69] _ (by exact Go.V.zK) (by exact Go.V.zG)) ?_) | (with_reducible refine uc (c41 _ _ _ [[78, 85, 76, 76]] _ _ (by with_unfolding_all rfl) (by exact Go.V.zK) (by exact Go.V.zG) (by decide)) ?_) | (refine Q0d (by exact Go.V.zK) ?_) | (refine Q0e (by exact Go.V.zK) ?_)); (try refine zs zz.out ?_)) | refine zo ?_ | omega | refine zt zz.out ?_ | fail)); try (all_goals clear zz))
  all_goals (try simp only [Rd.columnOf, Q6d, Q8x, coA, X5o, *, ↓reduceIte, if_true, if_false, not_true_eq_false, not_false_eq_true, Bool.false_eq_true, Bool.not_eq_true, Bool.true_eq_false, true_and, Int.reduceEq, Int.reduceNeg, Int.reduceLT, Int.reduceLE, Int.reduceAdd])
  all_goals (exact Go.V.zE)
end Go.Proofs.YtjdapkelojdefaaGreatDoor
namespace Go.Proofs.YtjdapkelojdefaaGreatDoor
open Go Go.V Go.Lex Go.Parse
theorem manyL_yes {β : Type} {one : Rd → β × Rd} {sep : By} {k : Nat} {acc : List β} {s : Rd} (h : (one s).2.has sep = true) : Q2w one sep (k + 1) acc s = Q2w one sep k (acc ++ [(one s).1]) ((one s).2.pass [sep]) := by
  rw [Q2w, if_pos h]
theorem manyL_no {β : Type} {one : Rd → β × Rd} {sep : By} {k : Nat} {acc : List β} {s : Rd} (h : ¬ (one s).2.has sep = true) : Q2w one sep (k + 1) acc s = (acc ++ [(one s).1], (one s).2.pass [sep]) := by
  rw [Q2w, if_neg h]
theorem bad_has {s : Rd} {w : By} (h : s.c ≠ 0) : s.has w = false := by
  unfold Rd.has
  refine decide_eq_false (fun hk => h (X1h hk).1)
structure Ones {β : Type} (f : FuncId) (cap : List AV) (one : Rd → β × Rd) (ρ : Nat) (store : Nat → List β → Rd → Sg) (good : Nat → List β → Prop) : Prop where
  nice : Q6n one
  at0 : ∀ τ acc s, good τ acc → store τ acc s ρ = some (rdA s)
  set : ∀ τ acc s s', good τ acc → (store τ acc s).set ρ (rdA s') = store τ acc s'
  one : ∀ τ acc s, good τ acc → Gd s → acc.length ≤ 16 → VCalls Tryz.prog f cap (store τ acc s) (fun x σ' => x = .tup [] ∧ ∃ τ', good τ' (acc ++ [(one s).1]) ∧ σ' = store τ' (acc ++ [(one s).1]) (one s).2)
theorem c44 {β : Type} {f : FuncId} {cap : List AV} {one : Rd → β × Rd} {ρ : Nat} {store : Nat → List β → Rd → Sg} {good : Nat → List β → Prop} (H : Ones f cap one ρ store good) (most : Nat) (hm : most ≤ 16) (τ0 : Nat) (s : Rd) (hg0 : good τ0 []) (hs : Gd s) :
    VCalls Tryz.prog 140 [.ref ρ 0, .i most, .fn f cap] (store τ0 [] s) (fun x σ' => x = .tup [] ∧ ∃ τ', good τ' (many one most s).1 ∧ σ' = store τ' (many one most s).1 (many one most s).2) := by
  have h14 := fun τ acc s (hg : good τ acc) (hs : Gd s) => c14 ρ s 2 (store τ acc s) (H.at0 τ acc s hg) hs
  have h13 := fun τ acc s (hg : good τ acc) (hs : Gd s) => c13 ρ s [44] (store τ acc s) (H.at0 τ acc s hg) hs
  (refine vfun (fun _ => .no) Q0h Tryz.func140 (by kernel_rfl) ?_; simp only [Q0f, Tryz.f140, zv])
  repeat' (first | with_reducible rfl | exact trivial | (with_reducible first | apply And.intro | apply Q0a | apply Q0b | refine Q0c (by decide +kernel) ?_ | intro _) | refine zaW (j2 ui3 ui9) ?_ | refine zo ?_ | omega | refine zt (j2 ui3 ui9) ?_ | fail)
  refine VW.loop3 ([] : List β) s τ0 (fun acc s' τ => acc.length ≤ most ∧ Q2w one [44] (most - acc.length) acc s' = many one most s ∧ Gd s' ∧ good τ acc) (fun acc _ _ => [(0, .ref ρ 0), (1, .i most), (2, .fn f cap), (6, .i acc.length)]) (fun acc s' τ => store τ acc s') (fun acc _ _ => most - acc.length) ⟨by simp, by simp, hs, hg0⟩ (.refl _) ?_ ?_
  · simp only [vO, vQ, ↓vP, vE, vS, vB, vL, vF, vM, vN, Q0g, Nat.reduceEqDiff, Nat.reduceAdd, Nat.reduceLeDiff, ne_eq, not_false_eq_true, Nat.reduceMul, Nat.reduceSub, Int.toNat_zero, Int.reduceToNat, vT]
    all_goals rfl
  rintro acc s' τ ⟨h1, h2, h3, h4⟩
  have hN := H.nice
  by_cases hk : acc.length = most
  · have k14 := h14 τ acc s' h4 h3
    rw [H.set _ _ _ _ h4] at k14
    have g1 := Y0o (e := 2) h3
    have k1 := H.one τ acc (s'.fail 2) h4 g1 (by omega)
    have g2 : Gd (one (s'.fail 2)).2 := X4n hN g1
    have k13 := fun τ' hg' => h13 τ' (acc ++ [(one (s'.fail 2)).1]) (one (s'.fail 2)).2 hg' g2
    have hb : (one (s'.fail 2)).2.has [44] = false := by
      refine bad_has ?_
      have := fail_c (s := s') (e := 2) (by decide)
      rw [((hN _ g1.wf).c this).1]
      exact this
    simp only [hb] at k13
    have hr : many one most s = (acc ++ [(one (s'.fail 2)).1], (one (s'.fail 2)).2.pass [[44]]) := by
      rw [← h2, hk, Nat.sub_self]; rfl
    rw [hr]
    generalize acc ++ [(one (s'.fail 2)).1] = acc2 at *
    generalize (one (s'.fail 2)).2 = s2 at *
    generalize s2.pass [[44]] = s3 at *
    (have zz := Bx.mk (j3 ui3 ui9 hk); (repeat' (first | with_reducible rfl | exact trivial | (with_reducible first | apply And.intro | apply Q0a | apply Q0b | refine Q0c (by decide +kernel) ?_ | intro _) | refine zaW zz.out ?_ | ((first | ((with_reducible refine zR k14 ?_); rintro _ S ⟨rfl, rfl⟩) | ((with_reducible refine zR k1 ?_); rintro _ S ⟨rfl, τ', hg', rfl⟩) | ((with_reducible refine zR (k13 _ (by assumption)) ?_); rintro _ S ⟨rfl, rfl⟩)); (try refine zs zz.out ?_)) | refine zo ?_ | omega | refine zt zz.out ?_ | fail)); try (all_goals clear zz))
    rw [H.set _ _ _ _ hg']
    exact ⟨_, .refl _, τ', hg', rfl⟩
  · have k1 := H.one τ acc s' h4 h3 (by omega)
    have g2 : Gd (one s').2 := X4n hN h3
    have k13 := fun τ' hg' => h13 τ' (acc ++ [(one s').1]) (one s').2 hg' g2
    obtain ⟨k, hk2⟩ : ∃ k, most - acc.length = k + 1 := ⟨most - acc.length - 1, by omega⟩
    rw [hk2] at h2
    have hl : (acc ++ [(one s').1]).length = acc.length + 1 := by simp
    by_cases hb : (one s').2.has [44] = true
    · rw [manyL_yes hb] at h2
      simp only [hb] at k13
      generalize acc ++ [(one s').1] = acc2 at *
      generalize (one s').2 = s2 at *
      (have zz := Bx.mk (j3 ui3 ui9 hk); (repeat' (first | with_reducible rfl | exact trivial | (with_reducible first | apply And.intro | apply Q0a | apply Q0b | refine Q0c (by decide +kernel) ?_ | intro _) | refine zaW zz.out ?_ | ((first | ((with_reducible refine zR k1 ?_); rintro _ S ⟨rfl, τ', hg', rfl⟩) | ((with_reducible refine zR (k13 _ (by assumption)) ?_); rintro _ S ⟨rfl, rfl⟩)); (try refine zs zz.out ?_)) | refine zo ?_ | omega | refine zt zz.out ?_ | fail)); try (all_goals clear zz))
      rw [H.set _ _ _ _ hg']
      exact ⟨acc2, s2.pass [[44]], τ', ⟨⟨by omega, by rw [show most - acc2.length = k by omega]; exact h2, Q6p g2, hg'⟩, by omega⟩, .refl _, by rw [hl]; rfl⟩
    · rw [manyL_no hb] at h2
      rw [← h2]
      simp only [hb] at k13
      generalize acc ++ [(one s').1] = acc2 at *
      generalize (one s').2 = s2 at *
      (have zz := Bx.mk (j3 ui3 ui9 hk); (repeat' (first | with_reducible rfl | exact trivial | (with_reducible first | apply And.intro | apply Q0a | apply Q0b | refine Q0c (by decide +kernel) ?_ | intro _) | refine zaW zz.out ?_ | ((first | ((with_reducible refine zR k1 ?_); rintro _ S ⟨rfl, τ', hg', rfl⟩) | ((with_reducible refine zR (k13 _ (by assumption)) ?_); rintro _ S ⟨rfl, rfl⟩)); (try refine zs zz.out ?_)) | refine zo ?_ | omega | refine zt zz.out ?_ | fail)); try (all_goals clear zz))
      rw [H.set _ _ _ _ hg']
      exact ⟨_, .refl _, τ', hg', rfl⟩
def valA (v : Vl) : List AV := [.i v.1, .i v.2.1, .s (bs v.2.2)]
def X0w (l : List Vl) : List (List AV) := l.map valA
def grow (τ sz n : Nat) : Own := if n = 0 then .nil else .tok τ sz
def tset (σ : Sg) (τ n : Nat) (t : TypeId) : Sg := if n = 0 then σ else σ.set τ (.tok (some t))
theorem grow1 {τ sz n : Nat} : grow τ sz (n + 1) = .tok τ sz := by unfold grow; rw [if_neg (by omega)]
theorem tset1 {σ : Sg} {τ n : Nat} {t : TypeId} : tset σ τ (n + 1) t = σ.set τ (.tok (some t)) := by unfold tset; rw [if_neg (by omega)]
theorem many_len {β : Type} {one : Rd → β × Rd} {sep : By} : ∀ (k : Nat) (acc : List β) (s : Rd), acc.length < (Q2w one sep k acc s).1.length ∧ (Q2w one sep k acc s).1.length ≤ acc.length + k + 1
  | 0, acc, s => by simp [Q2w]
  | k + 1, acc, s => by
    unfold Q2w
    split
    · have := many_len (one := one) (sep := sep) k (acc ++ [(one s).1]) ((one s).2.pass [sep])
      simp only [List.length_append, zx, List.length_nil] at this
      omega
    · simp only [List.length_append, zx, List.length_nil]
      omega
theorem many_ne {β : Type} {one : Rd → β × Rd} {sep : By} {k : Nat} {s : Rd} : (Q2w one sep k [] s).1 ≠ [] := fun h => by
  have := (many_len (one := one) (sep := sep) k [] s).1
  rw [h] at this
  cases this
structure Gr (β : Type) where
  C : Own → List (List AV) → Ob
  A : β → List AV
  sz : Nat
  t : TypeId
variable {β : Type}
def stG (G : Gr β) (σ : Sg) (ρ ω : Nat) (τ : Nat) (acc : List β) (s : Rd) : Sg := tset ((σ.set ω (G.C (grow τ G.sz acc.length) (acc.map G.A))).set ρ (rdA s)) τ acc.length G.t
def okG (σ : Sg) (ρ ω : Nat) (τ : Nat) (acc : List β) : Prop := acc ≠ [] → σ τ = none ∧ τ ≠ ρ ∧ τ ≠ ω
theorem stG_nil {G : Gr β} {σ : Sg} {ρ ω τ : Nat} {s : Rd} : stG G σ ρ ω τ [] s = (σ.set ω (G.C .nil [])).set ρ (rdA s) := rfl
theorem X0r {G : Gr β} {σ : Sg} {ρ ω τ : Nat} {acc : List β} {s : Rd} (h : acc ≠ []) : stG G σ ρ ω τ acc s = ((σ.set ω (G.C (.tok τ G.sz) (acc.map G.A))).set ρ (rdA s)).set τ (.tok (some G.t)) := by
  cases acc with
  | nil => exact absurd rfl h
  | cons v r =>
    unfold stG
    rw [zx, grow1, tset1]
theorem stG_at {G : Gr β} {σ : Sg} {ρ ω τ : Nat} {acc : List β} {s : Rd} (h : okG σ ρ ω τ acc) : stG G σ ρ ω τ acc s ρ = some (rdA s) := by
  cases acc with
  | nil => exact zm _ _ _
  | cons v r =>
    rw [X0r (by simp), Sg.set_other _ _ (h (by simp)).2.1.symm, zm]
theorem stG_set {G : Gr β} {σ : Sg} {ρ ω τ : Nat} {acc : List β} {s s' : Rd} (h : okG σ ρ ω τ acc) : (stG G σ ρ ω τ acc s).set ρ (rdA s') = stG G σ ρ ω τ acc s' := by
  cases acc with
  | nil => exact Sg.set_set _ _ _ _
  | cons v r =>
    have h1 := (h (by simp)).2.1
    rw [X0r (by simp), X0r (by simp)]
    funext y
    simp only [Sg.set_apply]
    grind
theorem ones {G : Gr β} {f : FuncId} {cap : List AV} {one : Rd → β × Rd} {ρ ω : Nat} {σ : Sg} (hN : Q6n one)
    (h0 : ∀ s, Gd s → VCalls Tryz.prog f cap ((σ.set ω (G.C .nil [])).set ρ (rdA s)) (fun x σ' => x = .tup [] ∧ ∃ τ', (σ τ' = none ∧ τ' ≠ ρ ∧ τ' ≠ ω) ∧ σ' = ((σ.set ω (G.C (.tok τ' G.sz) [G.A (one s).1])).set ρ (rdA (one s).2)).set τ' (.tok (some G.t))))
    (h1 : ∀ τ V s, σ τ = none → τ ≠ ρ → τ ≠ ω → Gd s → V.length ≤ 16 → Q1t V G.sz = True → VCalls Tryz.prog f cap (((σ.set ω (G.C (.tok τ G.sz) V)).set ρ (rdA s)).set τ (.tok (some G.t))) (fun x σ' => x = .tup [] ∧ ∃ τ', (σ τ' = none ∧ τ' ≠ ρ ∧ τ' ≠ ω) ∧ σ' = ((σ.set ω (G.C (.tok τ' G.sz) (V ++ [G.A (one s).1]))).set ρ (rdA (one s).2)).set τ' (.tok (some G.t))))
    (hA : ∀ v, (G.A v).length = G.sz) : Ones f cap one ρ (stG G σ ρ ω) (okG σ ρ ω) where
  nice := hN
  at0 := fun τ acc s h => stG_at h
  set := fun τ acc s s' h => stG_set h
  one := fun τ acc s h hs hl => by
    cases acc with
    | nil =>
      refine (h0 s hs).mono (fun x σ' hx => ?_)
      obtain ⟨rfl, τ', h2, rfl⟩ := hx
      exact ⟨rfl, τ', fun _ => h2, by rw [X0r (by simp)]; rfl⟩
    | cons v r =>
      obtain ⟨g1, g2, g3⟩ := h (by simp)
      rw [X0r (by simp)]
      refine (h1 τ ((v :: r).map G.A) s g1 g2 g3 hs (by rw [List.length_map]; exact hl) (eq_true (fun e he => by
        obtain ⟨w, _, rfl⟩ := List.mem_map.1 he
        exact hA w))).mono (fun x σ' hx => ?_)
      obtain ⟨rfl, τ', h2, rfl⟩ := hx
      exact ⟨rfl, τ', fun _ => h2, by rw [X0r (by simp), List.map_append]; rfl⟩
theorem c44G {G : Gr β} {f : FuncId} {cap : List AV} {one : Rd → β × Rd} {ρ ω : Nat} {σ : Sg} (H : Ones f cap one ρ (stG G σ ρ ω) (okG σ ρ ω)) (most : Nat) (hm : most ≤ 16) (s : Rd) (hs : Gd s) :
    VCalls Tryz.prog 140 [.ref ρ 0, .i most, .fn f cap] ((σ.set ω (G.C .nil [])).set ρ (rdA s)) (fun x σ' => x = .tup [] ∧ ∃ τ', (σ τ' = none ∧ τ' ≠ ρ ∧ τ' ≠ ω) ∧ σ' = ((σ.set ω (G.C (.tok τ' G.sz) ((many one most s).1.map G.A))).set ρ (rdA (many one most s).2)).set τ' (.tok (some G.t))) := by
  refine (c44 H most hm 0 s (fun h => absurd rfl h) hs).mono (fun x σ' hx => ?_)
  obtain ⟨rfl, τ', h2, rfl⟩ := hx
  exact ⟨rfl, τ', h2 many_ne, by rw [X0r many_ne]⟩
theorem lose_sl {P : Program} {f : FuncId} {args : List AV} {es : List (List AV)} {σ S : Sg} (h : VCalls P f args σ (fun x σ' => ∃ o, x = .sl o es ∧ S.sub σ')) : VCalls P f args σ (fun x σ' => x = .sl .any es ∧ σ' = S) :=
  h.lose fun x σ' hx => by
    obtain ⟨o, rfl, hs⟩ := hx
    exact ⟨_, S, AVw.any _ _, hs, rfl, rfl⟩
theorem X1q (c : Prop) [Decidable c] (e : TypeId) (s : Nat) (es : List (List AV)) (σ : Sg) (R : AV → Sg → Prop) : X3c (if c then .ro else .no) e s es σ R = R (.sl .full es) σ := by split <;> rfl
def grT : Gr Vl := ⟨fun o V => .cells 107 [.sl o V], valA, 3, 23⟩
theorem c66 (ρ ω : Nat) (σ : Sg) (hω : ω ≠ ρ) : Ones 172 [.ro [.ref ρ 0], .ref ω 0] litV ρ (stG grT σ ρ ω) (okG σ ρ ω) := by
  obtain ⟨z24, h24, hz24⟩ := zero24
  have hρω : ρ ≠ ω := hω.symm
  refine ones X1n ?_ ?_ (fun v => rfl)
  · intro s hs
    simp only [grT]
    (refine vfun (fun _ => .no) Q0h Tryz.func172 (by kernel_rfl) ?_; simp only [Q0f, Tryz.f172, zv])
    (have zz := Bx.mk (j8 ui3 ui4 ui9 Tryz.underlying23 h24 hz24 ui78 Q1p); (repeat' (first | with_reducible rfl | exact trivial | (with_reducible first | apply And.intro | apply Q0a | apply Q0b | refine Q0c (by decide +kernel) ?_ | intro _) | refine zaW zz.out ?_ | ((first | (with_reducible refine uc (c67 _ _ _ (by exact Go.V.zK) (by exact Go.V.zG)) ?_) | (with_reducible refine uc (c14 _ _ _ _ (by exact Go.V.zK) (by exact Go.V.zG)) ?_) | (refine Q0d (by exact Go.V.zK) ?_) | (refine Q0e (by exact Go.V.zK) ?_)); (try refine zs zz.out ?_)) | refine zo ?_ | omega | refine zt zz.out ?_ | fail)); try (all_goals clear zz))
    all_goals (refine ⟨_, ?_, _, ⟨‹σ _ = none›, by assumption, by assumption⟩, rfl⟩; simp only [valA, litV, *, ↓reduceIte, Bool.false_eq_true]; (exact Go.V.zu))
  · intro τ V s g1 g2 g3 hs hl ha
    simp only [grT] at ha ⊢
    (refine vfun (fun _ => .no) Q0h Tryz.func172 (by kernel_rfl) ?_; simp only [Q0f, Tryz.f172, zv])
    (have zz := Bx.mk (j9 ui3 ui4 ui9 Tryz.underlying23 h24 hz24 ui78 Q1p ha); (repeat' (first | with_reducible rfl | exact trivial | (with_reducible first | apply And.intro | apply Q0a | apply Q0b | refine Q0c (by decide +kernel) ?_ | intro _) | refine zaW zz.out ?_ | ((first | (with_reducible refine uc (c67 _ _ _ (by exact Go.V.zK) (by exact Go.V.zG)) ?_) | (with_reducible refine uc (c14 _ _ _ _ (by exact Go.V.zK) (by exact Go.V.zG)) ?_) | (refine Q0d (by exact Go.V.zK) ?_) | (refine Q0e (by exact Go.V.zK) ?_)); (try refine zs zz.out ?_)) | refine zo ?_ | omega | refine zt zz.out ?_ | fail)); try (all_goals clear zz))
    all_goals (refine ⟨_, ?_, _, ⟨‹σ _ = none›, by assumption, by assumption⟩, rfl⟩; simp only [valA, litV, *, ↓reduceIte, Bool.false_eq_true]; (exact Go.V.zu))
theorem c46 (ρ : Nat) (s : Rd) (σ : Sg) (hρ : σ ρ = some (rdA s)) (hg : Gd s) : VCalls Tryz.prog 142 [.ref ρ 0] σ (fun x σ' => x = .sl .any (X0w (Q4w s).1) ∧ σ' = σ.set ρ (rdA (Q4w s).2)) := by
  refine lose_sl ?_
  have g1 : Gd (s.must [[40]]) := Q3t hg
  have h44 : ∀ ω, σ ω = none → VCalls Tryz.prog 140 [.ref ρ 0, .i 8, .fn 172 [.ro [.ref ρ 0], .ref ω 0]] ((σ.set ω (.cells 107 [.sl .nil []])).set ρ (rdA (s.must [[40]]))) (fun x σ' => x = .tup [] ∧ ∃ τ', (σ τ' = none ∧ τ' ≠ ρ ∧ τ' ≠ ω) ∧ σ' = ((σ.set ω (.cells 107 [.sl (.tok τ' 3) (X0w (Q4w s).1)])).set ρ (rdA (many litV 8 (s.must [[40]])).2)).set τ' (.tok (some 23))) := fun ω hω => c44G (c66 ρ ω σ (Go.Cert.ne_of2a hω hρ)) 8 (by decide) _ g1
  have g2 : Gd (many litV 8 (s.must [[40]])).2 := Y0p X1n g1
  have e2 : (Q4w s).2 = (many litV 8 (s.must [[40]])).2.must [[41]] := rfl
  rw [e2]
  generalize (many litV 8 (s.must [[40]])).2 = s2 at *
  generalize X0w (Q4w s).1 = V at *
  (refine vfun (fun k => if k = 1 then .ro else .no) Q0h Tryz.func142 (by kernel_rfl) ?_; simp only [Q0f, Tryz.f142, zv])
  (have zz := Bx.mk (j7 ui3 ui4 ui9 ui78 Q1p ui75 @X1q); (repeat' (first | with_reducible rfl | exact trivial | (with_reducible first | apply And.intro | apply Q0a | apply Q0b | refine Q0c (by decide +kernel) ?_ | intro _) | refine zaW zz.out ?_ | ((first | (with_reducible refine uc (c41 _ _ _ [[40]] _ _ (by with_unfolding_all rfl) (by exact Go.V.zK) (by exact Go.V.zG) (by decide)) ?_) | (with_reducible refine uc (c41 _ _ _ [[41]] _ _ (by with_unfolding_all rfl) (by exact Go.V.zK) (by exact Go.V.zG) (by decide)) ?_) | ((with_reducible refine zR (h44 _ (by assumption)) ?_); rintro _ S ⟨rfl, τ', hτ1, hτ2, hτ3, rfl⟩) | (refine Q0d (by exact Go.V.zK) ?_) | (refine Q0e (by exact Go.V.zK) ?_)); (try refine zs zz.out ?_)) | refine zo ?_ | omega | refine zt zz.out ?_ | fail)); try (all_goals clear zz))
  all_goals (refine ⟨_, .refl _, _, rfl, ?_⟩; (first | exact Sg.sub.refl _ | ((repeat (first | exact Sg.sub.refl _ | refine Sg.sub.set_both ?_ | refine Sg.sub.set_fresh ?_ (by first | assumption | exact Sg.set_none (by assumption) (by first | assumption | (apply Go.Cert.ne_of2a; assumption; assumption))))); done) | (intro y p hy; simp only [Sg.set_apply, Sg.del_apply] at hy ⊢; grind)))
end Go.Proofs.YtjdapkelojdefaaGreatDoor
namespace Go.Proofs.YtjdapkelojdefaaGreatDoor
open Go Go.V Go.Lex Go.Parse
def optA : List Ex → AV
  | [] => .sl .nil []
  | e :: r => .sl .any (exsA (e :: r))
def optK (o : Own) : List Ex → AV
  | [] => .sl .nil []
  | e :: r => .sl o (exsA (e :: r))
def rowA (r : List Vl) : List AV := [.sl .any (X0w r)]
def setA (x : Se) : List AV := .s (bs x.1) :: exA x.2
def Q3x (x : It) : List AV := [.i x.1, .sl .any (exsA x.2)]
def stmC (oc or os oi oo : Own) (x : Stm) : List AV := [.i x.k, .s (bs x.t), .sl oc (x.cols.map coA), .s (bs x.pk), .sl or (x.rows.map rowA), .sl os (x.sets.map setA), .sl oi (x.items.map Q3x), .s (bs x.join), optK oo x.on, optA x.wh, optA x.gr, optA x.or, .b x.desc, .i x.lim]
def stmK (oc or os oi oo : Own) (x : Stm) : Ob := .cells 42 (stmC oc or os oi oo x)
def stmZ (k : Int) : Ob := .cells 42 [.i k, .s (bs []), .sl .nil [], .s (bs []), .sl .nil [], .sl .nil [], .sl .nil [], .s (bs []), .sl .nil [], .sl .nil [], .sl .nil [], .sl .nil [], .b false, .i (-1)]
def Kind (f : FuncId) (F : Rd → Stm × Rd) (k : Int) : Prop := ∀ (ρ γ : Nat) (s : Rd) (σ : Sg), σ ρ = some (rdA s) → σ γ = some (stmZ k) → Gd s →
  VCalls Tryz.prog f [.ref ρ 0, .ref γ 0] σ (fun x σ' => x = .tup [] ∧ ∃ oc or os oi oo, σ' = (σ.set γ (stmK oc or os oi oo (F s).1)).set ρ (rdA (F s).2))
theorem Q9t {f : FuncId} {args : List AV} {x : Stm} {s' : Rd} {ρ γ : Nat} {σ : Sg} (h : VCalls Tryz.prog f args σ (fun y σ' => y = .tup [] ∧ ∃ oc or os oi oo, ((σ.set γ (stmK oc or os oi oo x)).set ρ (rdA s')).sub σ')) :
    VCalls Tryz.prog f args σ (fun y σ' => y = .tup [] ∧ ∃ oc or os oi oo, σ' = (σ.set γ (stmK oc or os oi oo x)).set ρ (rdA s')) :=
  h.lose fun y σ' hx => by
    obtain ⟨rfl, oc, or, os, oi, oo, hs⟩ := hx
    exact ⟨_, _, AVw.refl _, hs, rfl, oc, or, os, oi, oo, rfl⟩
theorem X8z {ρ γ : Nat} {s : Rd} {k : Int} {σ : Sg} (h : σ ρ = some (rdA s)) (h2 : σ γ = some (stmZ k)) : γ ≠ ρ := fun e => by
  rw [e, h] at h2
  cases h2
def grR (t : By) : Gr (List Vl) := ⟨fun o V => .cells 42 [.i 3, .s (bs t), .sl .nil [], .s (bs []), .sl o V, .sl .nil [], .sl .nil [], .s (bs []), .sl .nil [], .sl .nil [], .sl .nil [], .sl .nil [], .b false, .i (-1)], rowA, 1, 107⟩
theorem c45 (ρ γ : Nat) (t : By) (σ : Sg) (hω : γ ≠ ρ) : Ones 141 [.ro [.ref γ 0], .ro [.ref ρ 0]] Q4w ρ (stG (grR t) σ ρ γ) (okG σ ρ γ) := by
  have hρω : ρ ≠ γ := hω.symm
  refine ones X1z ?_ ?_ (fun v => rfl)
  · intro s hs
    simp only [grR]
    (refine vfun (fun _ => .no) Q0h Tryz.func141 (by kernel_rfl) ?_; simp only [Q0f, Tryz.f141, zv])
    (have zz := Bx.mk (j8 ui3 ui4 ui9 ui78 ui38 Q1p ui42 Q7c); (repeat' (first | with_reducible rfl | exact trivial | (with_reducible first | apply And.intro | apply Q0a | apply Q0b | refine Q0c (by decide +kernel) ?_ | intro _) | ((with_reducible refine .dm (fun β => β = γ) [(0, false), (1, false), (2, false), (3, false), (4, false), (5, false), (6, true), (7, false), (8, true), (9, true), (10, false), (11, true)] (by decide) (by decide +kernel) ?_); (refine zs zz.out ?_)) | refine zaW zz.out ?_ | ((first | (refine Q0j (by intro β h; first | (rcases h with h | h <;> subst h <;> (simp (disch := first | assumption | (apply zM; assumption; assumption) | (apply zP; assumption; assumption; (intro e; cases e; done)) | omega) only [zm, zn, zp, zq, zr])) | (subst h; (simp (disch := first | assumption | (apply zM; assumption; assumption) | (apply zP; assumption; assumption; (intro e; cases e; done)) | omega) only [zm, zn, zp, zq, zr]))) ?_) | (with_reducible refine uc (c46 _ _ _ (by exact Go.V.zK) (by exact Go.V.zG)) ?_) | (refine Q0d (o' := some (.cells 42 [.i 3, .s (bs t), .sl .nil [], .s (bs []), .sl .nil [], .sl .nil [], .sl .nil [], .s (bs []), .sl .nil [], .sl .nil [], .sl .nil [], .sl .nil [], .b false, .i (-1)])) (Q8r (by assumption) (by exact Go.V.zK)) ?_) | (refine Q0d (by exact Go.V.zK) ?_) | (refine Q0e (by exact Go.V.zK) ?_)); (try refine zs zz.out ?_)) | refine zo ?_ | omega | refine zt zz.out ?_ | fail)); try (all_goals clear zz))
    all_goals (refine ⟨_, ?_, _, ⟨‹σ _ = none›, by assumption, by assumption⟩, rfl⟩; simp only [rowA]; (exact Go.V.zu))
  · intro τ V s g1 g2 g3 hs hl ha
    simp only [grR] at ha ⊢
    (refine vfun (fun _ => .no) Q0h Tryz.func141 (by kernel_rfl) ?_; simp only [Q0f, Tryz.f141, zv])
    (have zz := Bx.mk (j9 ui3 ui4 ui9 ui78 ui38 Q1p ui42 Q7c ha); (repeat' (first | with_reducible rfl | exact trivial | (with_reducible first | apply And.intro | apply Q0a | apply Q0b | refine Q0c (by decide +kernel) ?_ | intro _) | ((with_reducible refine .dm (fun β => β = γ) [(0, false), (1, false), (2, false), (3, false), (4, false), (5, false), (6, true), (7, false), (8, true), (9, true), (10, false), (11, true)] (by decide) (by decide +kernel) ?_); (refine zs zz.out ?_)) | refine zaW zz.out ?_ | ((first | (refine Q0j (by intro β h; first | (rcases h with h | h <;> subst h <;> (simp (disch := first | assumption | (apply zM; assumption; assumption) | (apply zP; assumption; assumption; (intro e; cases e; done)) | omega) only [zm, zn, zp, zq, zr])) | (subst h; (simp (disch := first | assumption | (apply zM; assumption; assumption) | (apply zP; assumption; assumption; (intro e; cases e; done)) | omega) only [zm, zn, zp, zq, zr]))) ?_) | (with_reducible refine uc (c46 _ _ _ (by exact Go.V.zK) (by exact Go.V.zG)) ?_) | (refine Q0d (o' := some (.cells 42 [.i 3, .s (bs t), .sl .nil [], .s (bs []), .sl (.tok τ 1) V, .sl .nil [], .sl .nil [], .s (bs []), .sl .nil [], .sl .nil [], .sl .nil [], .sl .nil [], .b false, .i (-1)])) (Q8r (by assumption) (by exact Go.V.zK)) ?_) | (refine Q0d (by exact Go.V.zK) ?_) | (refine Q0e (by exact Go.V.zK) ?_)); (try refine zs zz.out ?_)) | refine zo ?_ | omega | refine zt zz.out ?_ | fail)); try (all_goals clear zz))
    all_goals (refine ⟨_, ?_, _, ⟨‹σ _ = none›, by assumption, by assumption⟩, rfl⟩; simp only [rowA]; (exact Go.V.zu))
theorem c25 : Kind 90 Q6j 3 := by
  intro ρ γ s σ hρ hγ hg
  have hne := X8z hρ hγ
  have hne' := hne.symm
  refine Q9t ?_
  have g1 : Gd (s.must [[73, 78, 84, 79]]) := Q3t hg
  have g2 : Gd (((s.must [[73, 78, 84, 79]]).take 1).must [[86, 65, 76, 85, 69, 83]]) := Q3t (Q7f (by decide) g1)
  have h44 : ∀ σ, VCalls Tryz.prog 140 [.ref ρ 0, .i 16, .fn 141 [.ro [.ref γ 0], .ro [.ref ρ 0]]] _ _ := fun σ => c44G (c45 ρ γ ((s.must [[73, 78, 84, 79]]).tok 1).2.1 σ hne) 16 (by decide) _ g2
  have e2 : Q6j s = ({ stm0 with k := 3, t := ((s.must [[73, 78, 84, 79]]).tok 1).2.1, rows := (many Q4w 16 (((s.must [[73, 78, 84, 79]]).take 1).must [[86, 65, 76, 85, 69, 83]])).1 }, (many Q4w 16 (((s.must [[73, 78, 84, 79]]).take 1).must [[86, 65, 76, 85, 69, 83]])).2) := rfl
  rw [e2]
  simp only [grR, stmK, stmC, List.map_nil, optA, optK] at h44 ⊢
  unfold stmZ at hγ
  generalize (many Q4w 16 (((s.must [[73, 78, 84, 79]]).take 1).must [[86, 65, 76, 85, 69, 83]])).2 = s2 at *
  generalize ((many Q4w 16 (((s.must [[73, 78, 84, 79]]).take 1).must [[86, 65, 76, 85, 69, 83]])).1).map rowA = V at *
  (refine vfun (fun k => if k = 2 ∨ k = 3 then .ro else .no) Q0h Tryz.func90 (by kernel_rfl) ?_; simp only [Q0f, Tryz.f90, zv])
  (have zz := Bx.mk (j5 ui3 ui4 ui9 ui78 (j9 ui42 Q7c ui75 @X1q true_or or_true or_self or_false false_or)); (repeat' (first | with_reducible rfl | exact trivial | (with_reducible first | apply And.intro | apply Q0a | apply Q0b | refine Q0c (by decide +kernel) ?_ | intro _) | ((with_reducible refine .dms (fun _ => False) [(0, false), (1, false), (2, true), (3, true), (4, false), (5, true)] (by decide) (by decide +kernel) ?_); (refine zs zz.out ?_)) | refine zaW zz.out ?_ | ((first | with_reducible refine Q0j (fun _ h => h.elim) ?_ | (with_reducible refine uc (c41 _ _ _ [[73, 78, 84, 79]] _ _ (by with_unfolding_all rfl) (by exact Go.V.zK) (by exact Go.V.zG) (by decide)) ?_) | (with_reducible refine uc (c41 _ _ _ [[86, 65, 76, 85, 69, 83]] _ _ (by with_unfolding_all rfl) (by exact Go.V.zK) (by exact Go.V.zG) (by decide)) ?_) | (with_reducible refine uc (c42 _ _ _ (by exact Go.V.zK) (by exact Go.V.zG)) ?_) | ((with_reducible refine zR (h44 _) ?_); rintro _ S ⟨rfl, τ', ⟨hτ1, hτ2, hτ3⟩, rfl⟩) | (refine Q0d (by exact Go.V.zK) ?_) | (refine Q0e (by exact Go.V.zK) ?_)); (try refine zs zz.out ?_)) | refine zo ?_ | omega | refine zt zz.out ?_ | fail)); try (all_goals clear zz))
  rw [Sg.set_other _ _ hτ2] at hτ1
  exact ⟨_, .refl _, .nil, .tok τ' 1, .nil, .nil, .nil, (by intro y p hy; simp only [Sg.set_apply, Sg.del_apply] at hy ⊢; grind)⟩
def grS (t : By) : Gr Se := ⟨fun o V => .cells 42 [.i 4, .s (bs t), .sl .nil [], .s (bs []), .sl .nil [], .sl o V, .sl .nil [], .s (bs []), .sl .nil [], .sl .nil [], .sl .nil [], .sl .nil [], .b false, .i (-1)], setA, 9, 68⟩
theorem zero81 : ∃ z, Q0l Tryz.prog 68 = some (some z, 9, 120) ∧ ofValue z = .agg [.s (bs []), .i 0, .i 0, .s (bs []), .s (bs []), .i 0, .i 0, .s (bs []), .sl .nil []] := ⟨_, info68, by rfl⟩
theorem c47 (ρ γ : Nat) (t : By) (σ : Sg) (hω : γ ≠ ρ) : Ones 143 [.ro [.ref ρ 0], .ro [.ref γ 0]] setL ρ (stG (grS t) σ ρ γ) (okG σ ρ γ) := by
  obtain ⟨z81, h81, hz81⟩ := zero81
  obtain ⟨z27, h27, hz27⟩ := Q6w
  have hρω : ρ ≠ γ := hω.symm
  refine ones X3q ?_ ?_ (fun v => by show (setA v).length = 9; unfold setA; rw [zx, Q0u])
  · intro s hs
    have g : Gd ((s.take 1).must [[61]]) := Q3t (Q7f (by decide) hs)
    have h10 := fun S hS => c10 ρ ((s.take 1).must [[61]]) S hS g
    have he : setL s = (((s.tok 1).2.1, (exp ((s.take 1).must [[61]])).1), (exp ((s.take 1).must [[61]])).2) := rfl
    rw [he]
    generalize (exp ((s.take 1).must [[61]])).2 = s2 at *
    generalize (exp ((s.take 1).must [[61]])).1 = e at *
    have hel := Q0u e
    have ho := Q1n e
    have ht := Q0t e
    have hd := Q1a e
    generalize hE : exA e = E at *
    simp only [grS]
    (refine vfun (fun _ => .no) Q0h Tryz.func143 (by kernel_rfl) ?_; simp only [Q0f, Tryz.f143, zv])
    (have zz := Bx.mk (j2 ui3 (j9 ui4 ui9 ui78 ui39 Tryz.underlying68 h81 hz81 Z26 (j9 h27 hz27 ui42 Q7c ui75 hel ho ht hd))); (repeat' (first | with_reducible rfl | exact trivial | (with_reducible first | apply And.intro | apply Q0a | apply Q0b | refine Q0c (by decide +kernel) ?_ | intro _) | ((with_reducible refine .dm (fun β => β = γ) [(0, false), (1, false), (2, false), (3, false), (4, false), (5, false), (6, false), (7, true), (8, false), (9, false), (10, true), (11, true), (12, false), (13, true)] (by decide) (by decide +kernel) ?_); (refine zs zz.out ?_)) | refine zaW zz.out ?_ | ((first | (refine Q0j (by intro β h; first | (rcases h with h | h <;> subst h <;> (simp (disch := first | assumption | (apply zM; assumption; assumption) | (apply zP; assumption; assumption; (intro e; cases e; done)) | omega) only [zm, zn, zp, zq, zr])) | (subst h; (simp (disch := first | assumption | (apply zM; assumption; assumption) | (apply zP; assumption; assumption; (intro e; cases e; done)) | omega) only [zm, zn, zp, zq, zr]))) ?_) | (with_reducible refine uc (c41 _ _ _ [[61]] _ _ (by with_unfolding_all rfl) (by exact Go.V.zK) (by exact Go.V.zG) (by decide)) ?_) | (with_reducible refine uc (c42 _ _ _ (by exact Go.V.zK) (by exact Go.V.zG)) ?_) | (with_reducible refine uc (h10 _ (by exact Go.V.zK)) ?_) | (refine Q0d (o' := some (.cells 42 [.i 4, .s (bs t), .sl .nil [], .s (bs []), .sl .nil [], .sl .nil [], .sl .nil [], .s (bs []), .sl .nil [], .sl .nil [], .sl .nil [], .sl .nil [], .b false, .i (-1)])) (Q8r (by assumption) (by exact Go.V.zK)) ?_) | (refine Q0d (by exact Go.V.zK) ?_) | (refine Q0e (by exact Go.V.zK) ?_)); (try refine zs zz.out ?_)) | refine zo ?_ | omega | refine zt zz.out ?_ | fail)); try (all_goals clear zz))
    all_goals (refine ⟨_, ?_, _, ⟨‹σ _ = none›, by assumption, by assumption⟩, rfl⟩; simp only [setA, hE]; (exact Go.V.zu))
  · intro τ V s g1 g2 g3 hs hl ha
    have g : Gd ((s.take 1).must [[61]]) := Q3t (Q7f (by decide) hs)
    have h10 := fun S hS => c10 ρ ((s.take 1).must [[61]]) S hS g
    have he : setL s = (((s.tok 1).2.1, (exp ((s.take 1).must [[61]])).1), (exp ((s.take 1).must [[61]])).2) := rfl
    rw [he]
    generalize (exp ((s.take 1).must [[61]])).2 = s2 at *
    generalize (exp ((s.take 1).must [[61]])).1 = e at *
    have hel := Q0u e
    have ho := Q1n e
    have ht := Q0t e
    have hd := Q1a e
    generalize hE : exA e = E at *
    simp only [grS] at ha ⊢
    (refine vfun (fun _ => .no) Q0h Tryz.func143 (by kernel_rfl) ?_; simp only [Q0f, Tryz.f143, zv])
    (have zz := Bx.mk (j3 ui3 ui4 (j9 ui9 ui78 ui39 Tryz.underlying68 h81 hz81 Z26 h27 (j9 hz27 ui42 Q7c ui75 hel ho ht hd ha))); (repeat' (first | with_reducible rfl | exact trivial | (with_reducible first | apply And.intro | apply Q0a | apply Q0b | refine Q0c (by decide +kernel) ?_ | intro _) | ((with_reducible refine .dm (fun β => β = γ) [(0, false), (1, false), (2, false), (3, false), (4, false), (5, false), (6, false), (7, true), (8, false), (9, false), (10, true), (11, true), (12, false), (13, true)] (by decide) (by decide +kernel) ?_); (refine zs zz.out ?_)) | refine zaW zz.out ?_ | ((first | (refine Q0j (by intro β h; first | (rcases h with h | h <;> subst h <;> (simp (disch := first | assumption | (apply zM; assumption; assumption) | (apply zP; assumption; assumption; (intro e; cases e; done)) | omega) only [zm, zn, zp, zq, zr])) | (subst h; (simp (disch := first | assumption | (apply zM; assumption; assumption) | (apply zP; assumption; assumption; (intro e; cases e; done)) | omega) only [zm, zn, zp, zq, zr]))) ?_) | (with_reducible refine uc (c41 _ _ _ [[61]] _ _ (by with_unfolding_all rfl) (by exact Go.V.zK) (by exact Go.V.zG) (by decide)) ?_) | (with_reducible refine uc (c42 _ _ _ (by exact Go.V.zK) (by exact Go.V.zG)) ?_) | (with_reducible refine uc (h10 _ (by exact Go.V.zK)) ?_) | (refine Q0d (o' := some (.cells 42 [.i 4, .s (bs t), .sl .nil [], .s (bs []), .sl .nil [], .sl (.tok τ 9) V, .sl .nil [], .s (bs []), .sl .nil [], .sl .nil [], .sl .nil [], .sl .nil [], .b false, .i (-1)])) (Q8r (by assumption) (by exact Go.V.zK)) ?_) | (refine Q0d (by exact Go.V.zK) ?_) | (refine Q0e (by exact Go.V.zK) ?_)); (try refine zs zz.out ?_)) | refine zo ?_ | omega | refine zt zz.out ?_ | fail)); try (all_goals clear zz))
    all_goals (refine ⟨_, ?_, _, ⟨‹σ _ = none›, by assumption, by assumption⟩, rfl⟩; simp only [setA, hE]; (exact Go.V.zu))
theorem lose_opt {f : FuncId} {args : List AV} {l : List Ex} {σ S : Sg} (h : VCalls Tryz.prog f args σ (fun x σ' => ∃ o, x = optK o l ∧ S.sub σ')) : VCalls Tryz.prog f args σ (fun x σ' => x = optA l ∧ σ' = S) :=
  h.lose fun x σ' hx => by
    obtain ⟨o, rfl, hs⟩ := hx
    refine ⟨_, S, ?_, hs, rfl, rfl⟩
    cases l with
    | nil => exact AVw.refl _
    | cons e r => exact AVw.any _ _
theorem c48 (w : By) (ρ : Nat) (s : Rd) (σ : Sg) (hρ : σ ρ = some (rdA s)) (hg : Gd s) : VCalls Tryz.prog 144 [.ref ρ 0, .s (bs w)] σ (fun x σ' => x = optA (Q2r w s).1 ∧ σ' = σ.set ρ (rdA (Q2r w s).2)) := by
  refine lose_opt ?_
  obtain ⟨z27, h27, hz27⟩ := Q6w
  simp only [ex0, Q3n, Q0s] at hz27
  have h13 := fun S hS => c13 ρ s w S hS hg
  have g : Gd (s.pass [w]) := Q6p hg
  have h10 := fun S hS => c10 ρ (s.pass [w]) S hS g
  unfold Q2r
  generalize (exp (s.pass [w])).2 = s2 at *
  generalize (exp (s.pass [w])).1 = e at *
  have hel := Q0u e
  have ho := Q1n e
  have ht := Q0t e
  have hd := Q1a e
  have hK : ∀ o, optK o [e] = .sl o [exA e] := fun o => by show AV.sl o (exsA [e]) = _; rw [ofA]
  generalize hE : exA e = E at *
  generalize s.pass [w] = s1 at *
  by_cases hb : s.has w = true
  · rw [if_pos hb]
    simp only [hb] at h13
    (refine vfun (fun _ => .no) Q0h Tryz.func144 (by kernel_rfl) ?_; simp only [Q0f, Tryz.f144, zv])
    (have zz := Bx.mk (j3 ui3 ui4 (j9 ui9 ui24 Z26 h27 hz27 hel ho ht hd)); (repeat' (first | with_reducible rfl | exact trivial | (with_reducible first | apply And.intro | apply Q0a | apply Q0b | refine Q0c (by decide +kernel) ?_ | intro _) | refine zaW zz.out ?_ | ((first | (with_reducible refine uc (h13 _ (by exact Go.V.zK)) ?_) | (with_reducible refine uc (h10 _ (by exact Go.V.zK)) ?_)); (try refine zs zz.out ?_)) | refine zo ?_ | omega | refine zt zz.out ?_ | fail)); try (all_goals clear zz))
    all_goals (refine ⟨_, .refl _, .full, by rw [hK], ?_⟩; (exact Go.V.zu))
  · rw [if_neg hb]
    simp only [hb] at h13
    (refine vfun (fun _ => .no) Q0h Tryz.func144 (by kernel_rfl) ?_; simp only [Q0f, Tryz.f144, zv])
    (have zz := Bx.mk (j3 ui3 ui4 (j9 ui9 ui24 Z26 h27 hz27 hel ho ht hd)); (repeat' (first | with_reducible rfl | exact trivial | (with_reducible first | apply And.intro | apply Q0a | apply Q0b | refine Q0c (by decide +kernel) ?_ | intro _) | refine zaW zz.out ?_ | ((first | (with_reducible refine uc (h13 _ (by exact Go.V.zK)) ?_) | (with_reducible refine uc (h10 _ (by exact Go.V.zK)) ?_)); (try refine zs zz.out ?_)) | refine zo ?_ | omega | refine zt zz.out ?_ | fail)); try (all_goals clear zz))
    all_goals (refine ⟨_, .refl _, .full, rfl, ?_⟩; (exact Go.V.zu))
theorem c51 (w : By) (ρ : Nat) (s : Rd) (σ : Sg) (hρ : σ ρ = some (rdA s)) (hg : Gd s) : VCalls Tryz.prog 147 [.ref ρ 0, .s (bs w)] σ (fun x σ' => x = optA (byL w s).1 ∧ σ' = σ.set ρ (rdA (byL w s).2)) := by
  refine lose_opt ?_
  obtain ⟨z27, h27, hz27⟩ := Q6w
  simp only [ex0, Q3n, Q0s] at hz27
  have h13 := fun S hS => c13 ρ s w S hS hg
  have g : Gd (s.pass [w]) := Q6p hg
  have g2 : Gd ((s.pass [w]).must [[66, 89]]) := Q3t g
  have h68 := fun S hS => c68 ρ ((s.pass [w]).must [[66, 89]]) S hS g2
  unfold byL
  generalize (((s.pass [w]).must [[66, 89]]).column).2 = s2 at *
  generalize (((s.pass [w]).must [[66, 89]]).column).1 = e at *
  have hel := Q0u e
  have ho := Q1n e
  have ht := Q0t e
  have hd := Q1a e
  have hK : ∀ o, optK o [e] = .sl o [exA e] := fun o => by show AV.sl o (exsA [e]) = _; rw [ofA]
  generalize hE : exA e = E at *
  generalize s.pass [w] = s1 at *
  by_cases hb : s.has w = true
  · rw [if_pos hb]
    simp only [hb] at h13
    (refine vfun (fun _ => .no) Q0h Tryz.func147 (by kernel_rfl) ?_; simp only [Q0f, Tryz.f147, zv])
    (have zz := Bx.mk (j4 ui3 ui4 ui9 (j9 ui24 Z26 h27 hz27 ui75 hel ho ht hd)); (repeat' (first | with_reducible rfl | exact trivial | (with_reducible first | apply And.intro | apply Q0a | apply Q0b | refine Q0c (by decide +kernel) ?_ | intro _) | refine zaW zz.out ?_ | ((first | (with_reducible refine uc (h13 _ (by exact Go.V.zK)) ?_) | (with_reducible refine uc (c41 _ _ _ [[66, 89]] _ _ (by with_unfolding_all rfl) (by exact Go.V.zK) (by exact Go.V.zG) (by decide)) ?_) | (with_reducible refine uc (h68 _ (by exact Go.V.zK)) ?_)); (try refine zs zz.out ?_)) | refine zo ?_ | omega | refine zt zz.out ?_ | fail)); try (all_goals clear zz))
    all_goals (refine ⟨_, .refl _, .full, by rw [hK], ?_⟩; (exact Go.V.zu))
  · rw [if_neg hb]
    simp only [hb] at h13
    (refine vfun (fun _ => .no) Q0h Tryz.func147 (by kernel_rfl) ?_; simp only [Q0f, Tryz.f147, zv])
    (have zz := Bx.mk (j3 ui3 ui4 (j9 ui9 ui24 Z26 h27 hz27 hel ho ht hd)); (repeat' (first | with_reducible rfl | exact trivial | (with_reducible first | apply And.intro | apply Q0a | apply Q0b | refine Q0c (by decide +kernel) ?_ | intro _) | refine zaW zz.out ?_ | ((with_reducible refine uc (h13 _ (by exact Go.V.zK)) ?_); (try refine zs zz.out ?_)) | refine zo ?_ | omega | refine zt zz.out ?_ | fail)); try (all_goals clear zz))
    all_goals (refine ⟨_, .refl _, .full, rfl, ?_⟩; (exact Go.V.zu))
theorem c24 : Kind 89 X4l 2 := by
  intro ρ γ s σ hρ hγ hg
  have hne := X8z hρ hγ
  have hne' := hne.symm
  refine Q9t ?_
  have e2 : X4l s = ({ stm0 with k := 2, t := ((s.must [[84, 65, 66, 76, 69]]).tok 1).2.1 }, (s.must [[84, 65, 66, 76, 69]]).take 1) := rfl
  rw [e2]
  simp only [stmK, stmC, List.map_nil, optA, optK]
  unfold stmZ at hγ
  (refine vfun (fun _ => .no) Q0h Tryz.func89 (by kernel_rfl) ?_; simp only [Q0f, Tryz.f89, zv])
  (have zz := Bx.mk (j6 ui3 ui4 ui9 ui42 Q7c ui75); (repeat' (first | with_reducible rfl | exact trivial | (with_reducible first | apply And.intro | apply Q0a | apply Q0b | refine Q0c (by decide +kernel) ?_ | intro _) | refine zaW zz.out ?_ | ((first | (with_reducible refine uc (c41 _ _ _ [[84, 65, 66, 76, 69]] _ _ (by with_unfolding_all rfl) (by exact Go.V.zK) (by exact Go.V.zG) (by decide)) ?_) | (with_reducible refine uc (c42 _ _ _ (by exact Go.V.zK) (by exact Go.V.zG)) ?_) | (refine Q0d (by exact Go.V.zK) ?_) | (refine Q0e (by exact Go.V.zK) ?_)); (try refine zs zz.out ?_)) | refine zo ?_ | omega | refine zt zz.out ?_ | fail)); try (all_goals clear zz))
  exact ⟨_, .refl _, .nil, .nil, .nil, .nil, .nil, (by intro y p hy; simp only [Sg.set_apply, Sg.del_apply] at hy ⊢; grind)⟩
theorem c27 : Kind 92 Q6l 5 := by
  intro ρ γ s σ hρ hγ hg
  have hne := X8z hρ hγ
  have hne' := hne.symm
  refine Q9t ?_
  have g1 : Gd ((s.must [[70, 82, 79, 77]]).take 1) := Q7f (by decide) (Q3t hg)
  have h48 : ∀ S, S ρ = some (rdA ((s.must [[70, 82, 79, 77]]).take 1)) → VCalls Tryz.prog 144 [.ref ρ 0, .s (bs [87, 72, 69, 82, 69])] S _ := fun S hS => c48 [87, 72, 69, 82, 69] ρ _ S hS g1
  have e2 : Q6l s = ({ stm0 with k := 5, t := ((s.must [[70, 82, 79, 77]]).tok 1).2.1, wh := (Q2r [87, 72, 69, 82, 69] ((s.must [[70, 82, 79, 77]]).take 1)).1 }, (Q2r [87, 72, 69, 82, 69] ((s.must [[70, 82, 79, 77]]).take 1)).2) := rfl
  rw [e2]
  have ho : ∀ l, (optA l).one = true := fun l => by cases l <;> rfl
  have hsl : ∀ l, (optA l).solid = true := fun l => by cases l <;> rfl
  have hc : ∀ l, (optA l).cells = [optA l] := fun l => by cases l <;> rfl
  generalize (Q2r [87, 72, 69, 82, 69] ((s.must [[70, 82, 79, 77]]).take 1)).2 = s2 at *
  generalize (Q2r [87, 72, 69, 82, 69] ((s.must [[70, 82, 79, 77]]).take 1)).1 = e at *
  simp only [stmK, stmC, List.map_nil, optK, show optA [] = .sl .nil [] from rfl]
  unfold stmZ at hγ
  (refine vfun (fun _ => .no) Q0h Tryz.func92 (by kernel_rfl) ?_; simp only [Q0f, Tryz.f92, zv])
  (have zz := Bx.mk (j2 ui3 (j9 ui4 ui9 ui24 ui42 Q7c ui75 ho hc hsl)); (repeat' (first | with_reducible rfl | exact trivial | (with_reducible first | apply And.intro | apply Q0a | apply Q0b | refine Q0c (by decide +kernel) ?_ | intro _) | refine zaW zz.out ?_ | ((first | (with_reducible refine uc (c41 _ _ _ [[70, 82, 79, 77]] _ _ (by with_unfolding_all rfl) (by exact Go.V.zK) (by exact Go.V.zG) (by decide)) ?_) | (with_reducible refine uc (c42 _ _ _ (by exact Go.V.zK) (by exact Go.V.zG)) ?_) | (with_reducible refine uc (h48 _ (by exact Go.V.zK)) ?_) | (refine Q0d (by exact Go.V.zK) ?_) | (refine Q0e (by exact Go.V.zK) ?_)); (try refine zs zz.out ?_)) | refine zo ?_ | omega | refine zt zz.out ?_ | fail)); try (all_goals clear zz))
  exact ⟨_, .refl _, .nil, .nil, .nil, .nil, .nil, (by intro y p hy; simp only [Sg.set_apply, Sg.del_apply] at hy ⊢; grind)⟩
theorem c26 : Kind 91 Q6k 4 := by
  intro ρ γ s σ hρ hγ hg
  have hne := X8z hρ hγ
  have hne' := hne.symm
  refine Q9t ?_
  have g1 : Gd ((s.take 1).must [[83, 69, 84]]) := Q3t (Q7f (by decide) hg)
  have h44 : ∀ σ, VCalls Tryz.prog 140 [.ref ρ 0, .i 8, .fn 143 [.ro [.ref ρ 0], .ro [.ref γ 0]]] _ _ := fun σ => c44G (c47 ρ γ (s.tok 1).2.1 σ hne) 8 (by decide) _ g1
  have g2 : Gd (many setL 8 ((s.take 1).must [[83, 69, 84]])).2 := Y0p X3q g1
  have h48 : ∀ S, S ρ = some (rdA (many setL 8 ((s.take 1).must [[83, 69, 84]])).2) → VCalls Tryz.prog 144 [.ref ρ 0, .s (bs [87, 72, 69, 82, 69])] S _ := fun S hS => c48 [87, 72, 69, 82, 69] ρ _ S hS g2
  have e2 : Q6k s = ({ stm0 with k := 4, t := (s.tok 1).2.1, sets := (many setL 8 ((s.take 1).must [[83, 69, 84]])).1, wh := (Q2r [87, 72, 69, 82, 69] (many setL 8 ((s.take 1).must [[83, 69, 84]])).2).1 }, (Q2r [87, 72, 69, 82, 69] (many setL 8 ((s.take 1).must [[83, 69, 84]])).2).2) := rfl
  rw [e2]
  have ho : ∀ l, (optA l).one = true := fun l => by cases l <;> rfl
  have hsl : ∀ l, (optA l).solid = true := fun l => by cases l <;> rfl
  have hc : ∀ l, (optA l).cells = [optA l] := fun l => by cases l <;> rfl
  generalize (Q2r [87, 72, 69, 82, 69] (many setL 8 ((s.take 1).must [[83, 69, 84]])).2).2 = s3 at *
  generalize (Q2r [87, 72, 69, 82, 69] (many setL 8 ((s.take 1).must [[83, 69, 84]])).2).1 = e at *
  simp only [grS, stmK, stmC, List.map_nil, optK, show optA [] = .sl .nil [] from rfl] at h44 ⊢
  unfold stmZ at hγ
  generalize (many setL 8 ((s.take 1).must [[83, 69, 84]])).2 = s2 at *
  generalize ((many setL 8 ((s.take 1).must [[83, 69, 84]])).1).map setA = V at *
  (refine vfun (fun k => if k = 2 ∨ k = 3 then .ro else .no) Q0h Tryz.func91 (by kernel_rfl) ?_; simp only [Q0f, Tryz.f91, zv])
  (have zz := Bx.mk (j9 ui3 ui4 ui9 ui24 ui78 ui42 Q7c ui75 (j9 @X1q true_or or_true or_self or_false false_or ho hc hsl)); (repeat' (first | with_reducible rfl | exact trivial | (with_reducible first | apply And.intro | apply Q0a | apply Q0b | refine Q0c (by decide +kernel) ?_ | intro _) | ((with_reducible refine .dms (fun _ => False) [(0, false), (1, false), (2, true), (3, true), (4, false), (5, true)] (by decide) (by decide +kernel) ?_); (refine zs zz.out ?_)) | ((with_reducible refine .dm (fun _ => False) [(0, false), (1, false), (2, true), (3, true), (4, false), (5, true)] (by decide) (by decide +kernel) ?_); (refine zs zz.out ?_)) | refine zaW zz.out ?_ | ((first | with_reducible refine Q0j (fun _ h => h.elim) ?_ | (with_reducible refine uc (c41 _ _ _ [[83, 69, 84]] _ _ (by with_unfolding_all rfl) (by exact Go.V.zK) (by exact Go.V.zG) (by decide)) ?_) | (with_reducible refine uc (c42 _ _ _ (by exact Go.V.zK) (by exact Go.V.zG)) ?_) | (with_reducible refine uc (h48 _ (by exact Go.V.zK)) ?_) | ((with_reducible refine zR (h44 _) ?_); rintro _ S ⟨rfl, τ', ⟨hτ1, hτ2, hτ3⟩, rfl⟩) | (refine Q0d (by exact Go.V.zK) ?_) | (refine Q0e (by exact Go.V.zK) ?_)); (try refine zs zz.out ?_)) | refine zo ?_ | omega | refine zt zz.out ?_ | fail)); try (all_goals clear zz))
  rw [Sg.set_other _ _ hτ2] at hτ1
  exact ⟨_, .refl _, .nil, .nil, .tok τ' 9, .nil, .nil, (by intro y p hy; simp only [Sg.set_apply, Sg.del_apply] at hy ⊢; grind)⟩
theorem X1r {f : FuncId} {args : List AV} {k : Int} {l : List Ex} {σ S : Sg} (h : VCalls Tryz.prog f args σ (fun x σ' => ∃ o, x = .agg [.i k, .sl o (exsA l)] ∧ S.sub σ')) : VCalls Tryz.prog f args σ (fun x σ' => x = .agg (Q3x (k, l)) ∧ σ' = S) :=
  h.lose fun x σ' hx => by
    obtain ⟨o, rfl, hs⟩ := hx
    refine ⟨.agg (Q3x (k, l)), S, AVw.agg rfl (fun i x x' h1 h2 => ?_), hs, rfl, rfl⟩
    match i with
    | 0 => cases h1; cases h2; exact AVw.refl _
    | 1 => cases h1; cases h2; exact AVw.any _ _
    | i + 2 => simp at h1
theorem zero84 : ∃ z, Q0l Tryz.prog 71 = some (some z, 2, 32) ∧ ofValue z = .agg [.i 0, .sl .nil []] := ⟨_, info71, by rfl⟩
theorem c50 (ρ : Nat) (s : Rd) (σ : Sg) (hρ : σ ρ = some (rdA s)) (hg : Gd s) : VCalls Tryz.prog 146 [.ref ρ 0] σ (fun x σ' => x = .agg (Q3x (Q6h s).1) ∧ σ' = σ.set ρ (rdA (Q6h s).2)) := by
  obtain ⟨z84, h84, hz84⟩ := zero84
  obtain ⟨z27, h27, hz27⟩ := Q6w
  simp only [ex0, Q3n, Q0s] at hz27
  have h22 : ∀ S es, S ρ = some (rdA s) → es = strs wItems → VCalls Tryz.prog 87 [.ref ρ 0, .sl .full es] S _ := fun S es hS he => c22 ρ s .full wItems es S he hS hg (by decide)
  have hlt := Y0c s wItems
  simp only [zx, List.length_nil] at hlt
  have g : Gd (s.pass wItems) := Q6p hg
  unfold Q6h
  generalize s.is wItems = k at *
  generalize s.pass wItems = s1 at *
  by_cases h0 : k < 0
  · rw [if_pos h0]
    refine X1r ?_
    have h10 := fun S hS => c10 ρ s1 S hS g
    generalize (exp s1).2 = s2 at *
    generalize (exp s1).1 = e at *
    have hel := Q0u e
    have ho := Q1n e
    have ht := Q0t e
    have hd := Q1a e
    rw [ofA]
    generalize hE : exA e = E at *
    (refine vfun (fun _ => .no) Q0h Tryz.func146 (by kernel_rfl) ?_; simp only [Q0f, Tryz.f146, zv])
    (have zz := Bx.mk (j7 ui3 ui4 ui9 ui24 ui75 Z71 (j9 h84 hz84 Z26 h27 hz27 hel ho ht hd)); (repeat' (first | with_reducible rfl | exact trivial | (with_reducible first | apply And.intro | apply Q0a | apply Q0b | refine Q0c (by decide +kernel) ?_ | intro _) | refine zaW zz.out ?_ | ((first | (with_reducible refine uc (h22 _ _ (by exact Go.V.zK) (by with_unfolding_all rfl)) ?_) | (with_reducible refine uc (h10 _ (by exact Go.V.zK)) ?_) | (refine Q0d (by exact Go.V.zK) ?_) | (refine Q0e (by exact Go.V.zK) ?_)); (try refine zs zz.out ?_)) | refine zo ?_ | omega | refine zt zz.out ?_ | fail)); try (all_goals clear zz))
    all_goals (refine ⟨_, .refl _, _, rfl, ?_⟩; (first | exact Sg.sub.refl _ | ((repeat (first | exact Sg.sub.refl _ | refine Sg.sub.set_both ?_ | refine Sg.sub.set_fresh ?_ (by first | assumption | exact Sg.set_none (by assumption) (by first | assumption | (apply Go.Cert.ne_of2a; assumption; assumption))))); done) | (intro y p hy; simp only [Sg.set_apply, Sg.del_apply] at hy ⊢; grind)))
  · rw [if_neg h0]
    by_cases h4 : k = 4
    · rw [if_pos h4]
      refine X1r ?_
      rw [Q0s]
      (refine vfun (fun _ => .no) Q0h Tryz.func146 (by kernel_rfl) ?_; simp only [Q0f, Tryz.f146, zv])
      (have zz := Bx.mk (j8 ui3 ui4 ui9 ui24 ui75 Z71 h84 hz84); (repeat' (first | with_reducible rfl | exact trivial | (with_reducible first | apply And.intro | apply Q0a | apply Q0b | refine Q0c (by decide +kernel) ?_ | intro _) | refine zaW zz.out ?_ | ((first | (with_reducible refine uc (h22 _ _ (by exact Go.V.zK) (by with_unfolding_all rfl)) ?_) | (refine Q0d (by exact Go.V.zK) ?_) | (refine Q0e (by exact Go.V.zK) ?_)); (try refine zs zz.out ?_)) | refine zo ?_ | omega | refine zt zz.out ?_ | fail)); try (all_goals clear zz))
      all_goals (refine ⟨_, .refl _, _, rfl, ?_⟩; (first | exact Sg.sub.refl _ | ((repeat (first | exact Sg.sub.refl _ | refine Sg.sub.set_both ?_ | refine Sg.sub.set_fresh ?_ (by first | assumption | exact Sg.set_none (by assumption) (by first | assumption | (apply Go.Cert.ne_of2a; assumption; assumption))))); done) | (intro y p hy; simp only [Sg.set_apply, Sg.del_apply] at hy ⊢; grind)))
    · rw [if_neg h4]
      have g2 : Gd (s1.must [[40]]) := Q3t g
      have h41 : ∀ S es, S ρ = some (rdA s1) → es = strs [[40]] → VCalls Tryz.prog 137 [.ref ρ 0, .sl .full es] S _ := fun S es hS he => c41 ρ s1 .full [[40]] es S he hS g (by decide)
      unfold X1m
      generalize s1.must [[40]] = s2 at *
      by_cases h1 : 0 < k
      · rw [if_pos h1]
        refine X1r ?_
        have h10 := fun S hS => c10 ρ s2 S hS g2
        have g3 : Gd (exp s2).2 := gd_exp g2
        have h41b : ∀ S es, S ρ = some (rdA (exp s2).2) → es = strs [[41]] → VCalls Tryz.prog 137 [.ref ρ 0, .sl .full es] S _ := fun S es hS he => c41 ρ (exp s2).2 .full [[41]] es S he hS g3 (by decide)
        generalize (exp s2).2 = s3 at *
        generalize (exp s2).1 = e at *
        have hel := Q0u e
        have ho := Q1n e
        have ht := Q0t e
        have hd := Q1a e
        rw [ofA]
        generalize hE : exA e = E at *
        (refine vfun (fun _ => .no) Q0h Tryz.func146 (by kernel_rfl) ?_; simp only [Q0f, Tryz.f146, zv])
        (have zz := Bx.mk (j7 ui3 ui4 ui9 ui24 ui75 Z71 (j9 h84 hz84 Z26 h27 hz27 hel ho ht hd)); (repeat' (first | with_reducible rfl | exact trivial | (with_reducible first | apply And.intro | apply Q0a | apply Q0b | refine Q0c (by decide +kernel) ?_ | intro _) | refine zaW zz.out ?_ | ((first | (with_reducible refine uc (h22 _ _ (by exact Go.V.zK) (by with_unfolding_all rfl)) ?_) | (with_reducible refine uc (h41 _ _ (by exact Go.V.zK) (by with_unfolding_all rfl)) ?_) | (with_reducible refine uc (h10 _ (by exact Go.V.zK)) ?_) | (with_reducible refine uc (h41b _ _ (by exact Go.V.zK) (by with_unfolding_all rfl)) ?_) | (refine Q0d (by exact Go.V.zK) ?_) | (refine Q0e (by exact Go.V.zK) ?_)); (try refine zs zz.out ?_)) | refine zo ?_ | omega | refine zt zz.out ?_ | fail)); try (all_goals clear zz))
        all_goals (refine ⟨_, .refl _, _, rfl, ?_⟩; (first | exact Sg.sub.refl _ | ((repeat (first | exact Sg.sub.refl _ | refine Sg.sub.set_both ?_ | refine Sg.sub.set_fresh ?_ (by first | assumption | exact Sg.set_none (by assumption) (by first | assumption | (apply Go.Cert.ne_of2a; assumption; assumption))))); done) | (intro y p hy; simp only [Sg.set_apply, Sg.del_apply] at hy ⊢; grind)))
      · rw [if_neg h1]
        have h13 : ∀ S, S ρ = some (rdA s2) → VCalls Tryz.prog 37 [.ref ρ 0, .s (bs [42])] S _ := fun S hS => c13 ρ s2 [42] S hS g2
        have g2' : Gd (s2.pass [[42]]) := Q6p g2
        by_cases hb : s2.has [42] = true
        · rw [if_pos hb]
          refine X1r ?_
          rw [Q0s]
          simp only [hb] at h13
          have h41b : ∀ S es, S ρ = some (rdA (s2.pass [[42]])) → es = strs [[41]] → VCalls Tryz.prog 137 [.ref ρ 0, .sl .full es] S _ := fun S es hS he => c41 ρ (s2.pass [[42]]) .full [[41]] es S he hS g2' (by decide)
          generalize s2.pass [[42]] = s3 at *
          (refine vfun (fun _ => .no) Q0h Tryz.func146 (by kernel_rfl) ?_; simp only [Q0f, Tryz.f146, zv])
          (have zz := Bx.mk (j8 ui3 ui4 ui9 ui24 ui75 Z71 h84 hz84); (repeat' (first | with_reducible rfl | exact trivial | (with_reducible first | apply And.intro | apply Q0a | apply Q0b | refine Q0c (by decide +kernel) ?_ | intro _) | refine zaW zz.out ?_ | ((first | (with_reducible refine uc (h22 _ _ (by exact Go.V.zK) (by with_unfolding_all rfl)) ?_) | (with_reducible refine uc (h41 _ _ (by exact Go.V.zK) (by with_unfolding_all rfl)) ?_) | (with_reducible refine uc (h13 _ (by exact Go.V.zK)) ?_) | (with_reducible refine uc (h41b _ _ (by exact Go.V.zK) (by with_unfolding_all rfl)) ?_) | (refine Q0d (by exact Go.V.zK) ?_) | (refine Q0e (by exact Go.V.zK) ?_)); (try refine zs zz.out ?_)) | refine zo ?_ | omega | refine zt zz.out ?_ | fail)); try (all_goals clear zz))
          all_goals (refine ⟨_, .refl _, _, rfl, ?_⟩; (first | exact Sg.sub.refl _ | ((repeat (first | exact Sg.sub.refl _ | refine Sg.sub.set_both ?_ | refine Sg.sub.set_fresh ?_ (by first | assumption | exact Sg.set_none (by assumption) (by first | assumption | (apply Go.Cert.ne_of2a; assumption; assumption))))); done) | (intro y p hy; simp only [Sg.set_apply, Sg.del_apply] at hy ⊢; grind)))
        · rw [if_neg hb]
          refine X1r ?_
          simp only [hb] at h13
          have h10 := fun S hS => c10 ρ (s2.pass [[42]]) S hS g2'
          have g3 : Gd (exp (s2.pass [[42]])).2 := gd_exp g2'
          have h41b : ∀ S es, S ρ = some (rdA (exp (s2.pass [[42]])).2) → es = strs [[41]] → VCalls Tryz.prog 137 [.ref ρ 0, .sl .full es] S _ := fun S es hS he => c41 ρ (exp (s2.pass [[42]])).2 .full [[41]] es S he hS g3 (by decide)
          generalize (exp (s2.pass [[42]])).2 = s4 at *
          generalize (exp (s2.pass [[42]])).1 = e at *
          generalize s2.pass [[42]] = s3 at *
          have hel := Q0u e
          have ho := Q1n e
          have ht := Q0t e
          have hd := Q1a e
          rw [ofA]
          generalize hE : exA e = E at *
          (refine vfun (fun _ => .no) Q0h Tryz.func146 (by kernel_rfl) ?_; simp only [Q0f, Tryz.f146, zv])
          (have zz := Bx.mk (j7 ui3 ui4 ui9 ui24 ui75 Z71 (j9 h84 hz84 Z26 h27 hz27 hel ho ht hd)); (repeat' (first | with_reducible rfl | exact trivial | (with_reducible first | apply And.intro | apply Q0a | apply Q0b | refine Q0c (by decide +kernel) ?_ | intro _) | refine zaW zz.out ?_ | ((first | (with_reducible refine uc (h22 _ _ (by exact Go.V.zK) (by with_unfolding_all rfl)) ?_) | (with_reducible refine uc (h41 _ _ (by exact Go.V.zK) (by with_unfolding_all rfl)) ?_) | (with_reducible refine uc (h13 _ (by exact Go.V.zK)) ?_) | (with_reducible refine uc (h10 _ (by exact Go.V.zK)) ?_) | (with_reducible refine uc (h41b _ _ (by exact Go.V.zK) (by with_unfolding_all rfl)) ?_) | (refine Q0d (by exact Go.V.zK) ?_) | (refine Q0e (by exact Go.V.zK) ?_)); (try refine zs zz.out ?_)) | refine zo ?_ | omega | refine zt zz.out ?_ | fail)); try (all_goals clear zz))
          all_goals (refine ⟨_, .refl _, _, rfl, ?_⟩; (first | exact Sg.sub.refl _ | ((repeat (first | exact Sg.sub.refl _ | refine Sg.sub.set_both ?_ | refine Sg.sub.set_fresh ?_ (by first | assumption | exact Sg.set_none (by assumption) (by first | assumption | (apply Go.Cert.ne_of2a; assumption; assumption))))); done) | (intro y p hy; simp only [Sg.set_apply, Sg.del_apply] at hy ⊢; grind)))
def grI : Gr It := ⟨fun o V => .cells 42 [.i 6, .s (bs []), .sl .nil [], .s (bs []), .sl .nil [], .sl .nil [], .sl o V, .s (bs []), .sl .nil [], .sl .nil [], .sl .nil [], .sl .nil [], .b false, .i (-1)], Q3x, 2, 71⟩
theorem c49 (ρ γ : Nat) (σ : Sg) (hω : γ ≠ ρ) : Ones 145 [.ro [.ref γ 0], .ro [.ref ρ 0]] Q6h ρ (stG grI σ ρ γ) (okG σ ρ γ) := by
  obtain ⟨z84, h84, hz84⟩ := zero84
  have hρω : ρ ≠ γ := hω.symm
  refine ones X1o ?_ ?_ (fun v => rfl)
  · intro s hs
    have h50 := fun S hS => c50 ρ s S hS hs
    unfold Q3x at h50
    simp only [grI, Q3x]
    (refine vfun (fun _ => .no) Q0h Tryz.func145 (by kernel_rfl) ?_; simp only [Q0f, Tryz.f145, zv])
    (have zz := Bx.mk (j2 ui3 (j9 ui4 ui9 ui78 ui40 Z71 h84 hz84 ui42 Q7c)); (repeat' (first | with_reducible rfl | exact trivial | (with_reducible first | apply And.intro | apply Q0a | apply Q0b | refine Q0c (by decide +kernel) ?_ | intro _) | ((with_reducible refine .dm (fun β => β = γ) [(0, false), (1, false), (2, false), (3, false), (4, false), (5, false), (6, true), (7, false), (8, true), (9, true), (10, false), (11, true)] (by decide) (by decide +kernel) ?_); (refine zs zz.out ?_)) | refine zaW zz.out ?_ | ((first | (refine Q0j (by intro β h; first | (rcases h with h | h <;> subst h <;> (simp (disch := first | assumption | (apply zM; assumption; assumption) | (apply zP; assumption; assumption; (intro e; cases e; done)) | omega) only [zm, zn, zp, zq, zr])) | (subst h; (simp (disch := first | assumption | (apply zM; assumption; assumption) | (apply zP; assumption; assumption; (intro e; cases e; done)) | omega) only [zm, zn, zp, zq, zr]))) ?_) | (with_reducible refine uc (h50 _ (by exact Go.V.zK)) ?_) | (refine Q0d (o' := some (.cells 42 [.i 6, .s (bs []), .sl .nil [], .s (bs []), .sl .nil [], .sl .nil [], .sl .nil [], .s (bs []), .sl .nil [], .sl .nil [], .sl .nil [], .sl .nil [], .b false, .i (-1)])) (Q8r (by assumption) (by exact Go.V.zK)) ?_) | (refine Q0d (by exact Go.V.zK) ?_) | (refine Q0e (by exact Go.V.zK) ?_)); (try refine zs zz.out ?_)) | refine zo ?_ | omega | refine zt zz.out ?_ | fail)); try (all_goals clear zz))
    all_goals (refine ⟨_, ?_, _, ⟨‹σ _ = none›, by assumption, by assumption⟩, rfl⟩; (exact Go.V.zu))
  · intro τ V s g1 g2 g3 hs hl ha
    have h50 := fun S hS => c50 ρ s S hS hs
    unfold Q3x at h50
    simp only [grI, Q3x] at ha ⊢
    (refine vfun (fun _ => .no) Q0h Tryz.func145 (by kernel_rfl) ?_; simp only [Q0f, Tryz.f145, zv])
    (have zz := Bx.mk (j3 ui3 ui4 (j9 ui9 ui78 ui40 Z71 h84 hz84 ui42 Q7c ha)); (repeat' (first | with_reducible rfl | exact trivial | (with_reducible first | apply And.intro | apply Q0a | apply Q0b | refine Q0c (by decide +kernel) ?_ | intro _) | ((with_reducible refine .dm (fun β => β = γ) [(0, false), (1, false), (2, false), (3, false), (4, false), (5, false), (6, true), (7, false), (8, true), (9, true), (10, false), (11, true)] (by decide) (by decide +kernel) ?_); (refine zs zz.out ?_)) | refine zaW zz.out ?_ | ((first | (refine Q0j (by intro β h; first | (rcases h with h | h <;> subst h <;> (simp (disch := first | assumption | (apply zM; assumption; assumption) | (apply zP; assumption; assumption; (intro e; cases e; done)) | omega) only [zm, zn, zp, zq, zr])) | (subst h; (simp (disch := first | assumption | (apply zM; assumption; assumption) | (apply zP; assumption; assumption; (intro e; cases e; done)) | omega) only [zm, zn, zp, zq, zr]))) ?_) | (with_reducible refine uc (h50 _ (by exact Go.V.zK)) ?_) | (refine Q0d (o' := some (.cells 42 [.i 6, .s (bs []), .sl .nil [], .s (bs []), .sl .nil [], .sl .nil [], .sl (.tok τ 2) V, .s (bs []), .sl .nil [], .sl .nil [], .sl .nil [], .sl .nil [], .b false, .i (-1)])) (Q8r (by assumption) (by exact Go.V.zK)) ?_) | (refine Q0d (by exact Go.V.zK) ?_) | (refine Q0e (by exact Go.V.zK) ?_)); (try refine zs zz.out ?_)) | refine zo ?_ | omega | refine zt zz.out ?_ | fail)); try (all_goals clear zz))
    all_goals (refine ⟨_, ?_, _, ⟨‹σ _ = none›, by assumption, by assumption⟩, rfl⟩; (exact Go.V.zu))
end Go.Proofs.YtjdapkelojdefaaGreatDoor
