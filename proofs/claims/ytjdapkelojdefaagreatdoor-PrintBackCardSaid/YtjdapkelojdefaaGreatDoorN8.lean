/- Part 8 of the proof: B2, E1, G1, W1, G3, B3, B4, B5, W2, W9, W10, V23, G6. -/
import Derived.Test.YtjdapkelojdefaaGreatDoorN6
import Derived.Test.YtjdapkelojdefaaGreatDoorN7
import Derived.Test.YtjdapkelojdefaaGreatDoorN4

set_option linter.all false
set_option maxRecDepth 100000
set_option maxHeartbeats 400000
open Nat renaming reduceEqDiff → zb, reduceAdd → zd, reduceLeDiff → ze, reduceMul → zf, reduceSub → zg
open Int renaming toNat_zero → zk, reduceToNat → zl
open Option renaming getD_some → zw
open List renaming length_append → zx, length_cons → zy, cons_append → zD
open Go.V.VCalls renaming mono → zU
open Go.Proofs.Tryz renaming underlying3 → Z3, underlying9 → Z9, underlying30 → Z30, underlying47 → Z47, underlying56 → Z56, underlying80 → Z80, underlying102 → Z102
namespace Go.Parse
open Go.V Go.Lex Go.Proofs.YtjdapkelojdefaaGreatDoor
abbrev By := List UInt8
structure Rd where
  l : List Tk
  d : Int
  c : Int
  a : Int
def hd (l : List Tk) : Tk := l.getD 0 (0, [], 0, 0)
def Rd.next (s : Rd) : Rd := { s with l := s.l.tail }
def Rd.fail (s : Rd) (e : Int) : Rd := if s.c = 0 then { s with c := e, a := ((hd s.l).2.2.2 : Int) } else s
def Rd.is (s : Rd) (ws : List By) : Int :=
  if s.c ≠ 0 ∨ ((hd s.l).1 ≠ 2 ∧ (hd s.l).1 ≠ 5) then -1 else if idx (hd s.l).2.1 ws < ws.length then (idx (hd s.l).2.1 ws : Nat) else -1
def Rd.pass (s : Rd) (ws : List By) : Rd := if 0 ≤ s.is ws then s.next else s
def Rd.has (s : Rd) (w : By) : Bool := decide (0 ≤ s.is [w])
def Rd.must (s : Rd) : List By → Rd
  | [] => s
  | w :: ws => Rd.must (if s.has w then s.next else s.fail 4) ws
def Rd.takes (s : Rd) (k : Nat) : Prop := s.c = 0 ∧ (hd s.l).1 = k
instance (s : Rd) (k : Nat) : Decidable (s.takes k) := by unfold Rd.takes; infer_instance
def Rd.tok (s : Rd) (k : Nat) : Tk := if s.takes k then hd s.l else (0, [], 0, 0)
def Rd.take (s : Rd) (k : Nat) : Rd := if s.takes k then s.next else s.fail 4
abbrev Vl := Int × Int × By
abbrev v0 : Vl := (0, 0, [])
abbrev Q2m : By := [45]
abbrev Q8t : By := [78, 85, 76, 76]
abbrev wNot : By := [78, 79, 84]
def Rd.lit (s : Rd) : Vl × Bool × Rd :=
  if s.c ≠ 0 then (v0, false, s) else
  if (hd s.l).1 = 3 then ((1, ((hd s.l).2.2.1 : Nat), []), true, s.next) else
  if (hd s.l).1 = 4 then ((2, 0, (hd s.l).2.1), true, s.next) else
  if s.is [Q2m] < 0 ∨ (s.l.getD 1 (0, [], 0, 0)).1 ≠ 3 then (v0, s.has Q8t, s.pass [Q8t]) else
  ((1, IntKind.i64.wrap (0 - ((s.l.getD 1 (0, [], 0, 0)).2.2.1 : Int)), []), true, s.next.next)
inductive Ex
  | mk (k op : Int) (t n : By) (v : Vl) (args : List Ex)
abbrev ex0 : Ex := .mk 0 0 [] [] v0 []
abbrev ofE (k : Int) (e : Ex) : Ex := .mk k 0 [] [] v0 [e]
abbrev opE (op : Int) (e f : Ex) : Ex := .mk 3 op [] [] v0 [e, f]
abbrev Pr := Rd → Ex × Rd
def Rd.column : Pr := fun s =>
  if (s.take 1).has [46] then (.mk 2 0 (s.tok 1).2.1 ((s.take 1).next.tok 1).2.1 v0 [], (s.take 1).next.take 1) else (.mk 2 0 [] (s.tok 1).2.1 v0 [], s.take 1)
def Rd.down (s : Rd) : Rd := if s.d + 1 > 10 then Rd.fail { s with d := s.d + 1 } 10 else { s with d := s.d + 1 }
def Rd.up (s : Rd) : Rd := { s with d := s.d - 1 }
def Q2i (one : Pr) : Pr := fun s => if s.down.c = 0 then ((one s.down).1, (one s.down).2.up) else (ex0, s.down.up)
def rowL (below : Pr) (first : Int) (ws : List By) : Nat → Ex → Rd → Ex × Rd
  | 0, e, s => (e, s)
  | n + 1, e, s => if 0 ≤ s.is ws then rowL below first ws n (opE (first + s.is ws) e (below s.next).1) (below s.next).2 else (e, s)
def row (below : Pr) (first : Int) (ws : List By) : Pr := fun s => rowL below first ws (below s).2.l.length (below s).1 (below s).2
structure Dp where
  fac : Pr
  not : Pr
  ex : Pr
def facL (D : Dp) : Pr := fun s =>
  if s.lit.2.1 then (.mk 1 0 [] [] s.lit.1 [], s.lit.2.2) else
  if s.lit.2.2.is [Q2m, [40]] = 0 then (ofE 5 (Q2i D.fac (s.lit.2.2.next)).1, (Q2i D.fac (s.lit.2.2.next)).2) else
  if s.lit.2.2.is [Q2m, [40]] = 1 then ((Q2i D.ex (s.lit.2.2.next)).1, (Q2i D.ex (s.lit.2.2.next)).2.must [[41]]) else
  s.lit.2.2.column
def X3e (D : Dp) : Pr := row (facL D) 11 [[42], [47], [37]]
def sumL (D : Dp) : Pr := row (X3e D) 9 [[43], [45]]
abbrev tests : List By := [[61], [60, 62], [60], [60, 61], [62], [62, 61], [73, 83]]
def isNull (e : Ex) (s : Rd) : Ex × Rd :=
  if s.has wNot then (ofE 4 (ofE 6 e), s.next.must [Q8t]) else (ofE 6 e, s.must [Q8t])
def Q6m (D : Dp) : Pr := fun s =>
  if (sumL D s).2.is tests < 0 then sumL D s else
  if 3 + (sumL D s).2.is tests ≤ 8 then (opE (3 + (sumL D s).2.is tests) (sumL D s).1 (sumL D (sumL D s).2.next).1, (sumL D (sumL D s).2.next).2) else
  isNull (sumL D s).1 (sumL D s).2.next
def notL (D : Dp) : Pr := fun s => if s.has wNot then (ofE 4 (Q2i D.not s.next).1, (Q2i D.not s.next).2) else Q6m D s
def andL (D : Dp) : Pr := row (notL D) 2 [[65, 78, 68]]
def exL (D : Dp) : Pr := row (andL D) 1 [[79, 82]]
def dp : Nat → Dp
  | 0 => ⟨fun s => (ex0, s), fun s => (ex0, s), fun s => (ex0, s)⟩
  | n + 1 => ⟨facL (dp n), notL (dp n), exL (dp n)⟩
def rd0 (l : List Tk) : Rd := ⟨l, 0, 0, 0⟩
def Rd.fin (s : Rd) : Rd := if s.c = 0 ∧ (hd s.l).1 ≠ 6 then s.fail 4 else s
def oneT (l : List Tk) : Ex × Rd := (((dp 11).ex (rd0 l)).1, ((dp 11).ex (rd0 l)).2.fin)
def WF : List Tk → Prop
  | [] => False
  | [t] => t.1 = 6
  | _ :: r => WF r
theorem WF.tail {l : List Tk} (h : WF l) (hk : (hd l).1 ≠ 6) : WF l.tail ∧ l.tail.length + 1 = l.length := by
  match l, h with
  | [t], h => exact absurd h hk
  | t :: u :: r, h => exact ⟨h, rfl⟩
theorem WF.pos {l : List Tk} (h : WF l) : 0 < l.length := by
  match l, h with
  | t :: r, _ => simp
structure Ok (s s' : Rd) : Prop where
  d : s'.d = s.d
  wf : WF s'.l
  le : s'.l.length ≤ s.l.length
  c : s.c ≠ 0 → s'.c = s.c ∧ s'.a = s.a
  suf : s'.l <:+ s.l
theorem Ok.refl {s : Rd} (h : WF s.l) : Ok s s := ⟨rfl, h, Nat.le_refl _, fun _ => ⟨rfl, rfl⟩, List.suffix_refl _⟩
theorem Ok.trans {a b c : Rd} (h : Ok a b) (k : Ok b c) : Ok a c :=
  ⟨k.d.trans h.d, k.wf, Nat.le_trans k.le h.le, fun hc => ⟨(k.c (by rw [(h.c hc).1]; exact hc)).1.trans (h.c hc).1, (k.c (by rw [(h.c hc).1]; exact hc)).2.trans (h.c hc).2⟩, k.suf.trans h.suf⟩
def Nice (F : Pr) : Prop := ∀ s, WF s.l → Ok s (F s).2
theorem X5c {s : Rd} {ws : List By} (h : 0 ≤ s.is ws) : s.c = 0 ∧ ((hd s.l).1 = 2 ∨ (hd s.l).1 = 5) ∧ idx (hd s.l).2.1 ws < ws.length ∧ s.is ws = (idx (hd s.l).2.1 ws : Nat) := by
  unfold Rd.is at h ⊢
  split at h
  · omega
  · rename_i h1
    split at h
    · rename_i h2
      rw [if_neg h1, if_pos h2]
      refine ⟨?_, ?_, h2, rfl⟩
      · exact Classical.byContradiction fun hc => h1 (.inl hc)
      · rcases Classical.em ((hd s.l).1 = 2) with h3 | h3
        · exact .inl h3
        · exact .inr (Classical.byContradiction fun h4 => h1 (.inr ⟨h3, h4⟩))
    · omega
theorem is_lt (s : Rd) (ws : List By) : -1 ≤ s.is ws ∧ s.is ws < ws.length := by
  unfold Rd.is
  split
  · omega
  · split <;> omega
theorem X6o {s : Rd} (hw : WF s.l) (hk : (hd s.l).1 ≠ 6) (hc : s.c = 0) : Ok s s.next :=
  ⟨rfl, (hw.tail hk).1, by have := (hw.tail hk).2; show s.l.tail.length ≤ _; omega, fun h => absurd hc h, List.tail_suffix _⟩
theorem X3z {s : Rd} {ws : List By} (hw : WF s.l) (h : 0 ≤ s.is ws) : Ok s s.next := by
  obtain ⟨h1, h2, _⟩ := X5c h
  exact X6o hw (by omega) h1
theorem Q6n {s : Rd} (hw : WF s.l) (e : Int) : Ok s (s.fail e) := by
  unfold Rd.fail
  split
  · rename_i h
    exact ⟨rfl, hw, Nat.le_refl _, fun h' => absurd h h', List.suffix_refl _⟩
  · exact .refl hw
theorem X1b {s : Rd} {w : By} (hw : WF s.l) (h : s.has w = true) : Ok s s.next := X3z hw (of_decide_eq_true h)
theorem Q4h {s : Rd} {ws : List By} (hw : WF s.l) : Ok s (s.pass ws) := by
  unfold Rd.pass
  split
  · exact X3z hw ‹_›
  · exact .refl hw
theorem Q2a : ∀ (ws : List By) (s : Rd), WF s.l → Ok s (s.must ws)
  | [], s, hw => .refl hw
  | w :: ws, s, hw => by
    unfold Rd.must
    split
    · rename_i h
      exact (X1b hw h).trans (Q2a ws _ (X1b hw h).wf)
    · exact (Q6n hw 4).trans (Q2a ws _ (Q6n hw 4).wf)
theorem Q4y {s : Rd} {k : Nat} (hw : WF s.l) (hk : k ≠ 6) : Ok s (s.take k) := by
  unfold Rd.take
  split
  · rename_i h
    exact X6o hw (by rw [h.2]; exact hk) h.1
  · exact Q6n hw 4
theorem ok_lit {s : Rd} (hw : WF s.l) : Ok s s.lit.2.2 := by
  unfold Rd.lit
  split
  · exact .refl hw
  · rename_i hc
    have hc : s.c = 0 := Classical.byContradiction hc
    split
    · rename_i h; exact X6o hw (by omega) hc
    · split
      · rename_i h; exact X6o hw (by omega) hc
      · split
        · exact Q4h hw
        · rename_i h
          have h1 : 0 ≤ s.is [Q2m] := by
            rcases Int.lt_or_le (s.is [Q2m]) 0 with h' | h'
            · exact absurd (.inl h') h
            · exact h'
          have h2 : (s.l.getD 1 (0, [], 0, 0)).1 = 3 := Classical.byContradiction fun h' => h (.inr h')
          have o1 := X3z hw h1
          refine o1.trans (X6o o1.wf ?_ hc)
          have : hd s.next.l = s.l.getD 1 (0, [], 0, 0) := by
            unfold hd Rd.next
            rw [List.getD_eq_getElem?_getD, List.getD_eq_getElem?_getD, List.getElem?_tail]
          rw [this]; omega
theorem X2n : Nice Rd.column := fun s hw => by
  have o1 := Q4y (k := 1) hw (by decide)
  unfold Rd.column
  split
  · rename_i h
    have o2 := X1b o1.wf h
    exact (o1.trans o2).trans (Q4y o2.wf (by decide))
  · exact o1
theorem down_ok {s : Rd} (hw : WF s.l) : s.down.d = s.d + 1 ∧ WF s.down.l ∧ s.down.l = s.l ∧ (s.c ≠ 0 → s.down.c = s.c ∧ s.down.a = s.a) := by
  unfold Rd.down
  split
  · have o := Q6n (s := { s with d := s.d + 1 }) hw 10
    refine ⟨o.d, o.wf, ?_, o.c⟩
    unfold Rd.fail
    split <;> rfl
  · exact ⟨rfl, hw, rfl, fun _ => ⟨rfl, rfl⟩⟩
theorem Q9y {F : Pr} (h : Nice F) : Nice (Q2i F) := fun s hw => by
  obtain ⟨h1, h2, h3, h4⟩ := down_ok hw
  unfold Q2i
  split
  · have o := h s.down h2
    refine ⟨?_, o.wf, by rw [← h3]; exact o.le, fun hc => ?_, by rw [← h3]; exact o.suf⟩
    · show (F s.down).2.d - 1 = s.d
      rw [o.d, h1]; omega
    · rename_i h0; exact absurd ((h4 hc).1.symm.trans h0) hc
  · refine ⟨?_, h2, ?_, fun hc => h4 hc, by rw [← h3]; exact List.suffix_refl _⟩
    · show s.down.d - 1 = s.d
      omega
    · show s.down.l.length ≤ s.l.length
      rw [h3]; exact Nat.le_refl _
theorem ok_rowL {F : Pr} (h : Nice F) (first : Int) (ws : List By) : ∀ (n : Nat) (e : Ex) (s : Rd), WF s.l → Ok s (rowL F first ws n e s).2
  | 0, e, s, hw => .refl hw
  | n + 1, e, s, hw => by
    unfold rowL
    split
    · rename_i h0
      have o1 := X3z hw h0
      have o2 := h s.next o1.wf
      exact (o1.trans o2).trans (ok_rowL h first ws n _ _ o2.wf)
    · exact .refl hw
theorem Q8g {F : Pr} (h : Nice F) (first : Int) (ws : List By) : Nice (row F first ws) := fun s hw => (h s hw).trans (ok_rowL h first ws _ _ _ (h s hw).wf)
structure Dp.Nice (D : Dp) : Prop where
  fac : Go.Parse.Nice D.fac
  not : Go.Parse.Nice D.not
  ex : Go.Parse.Nice D.ex
theorem X1n {D : Dp} (h : D.Nice) : Nice (facL D) := fun s hw => by
  have o := ok_lit hw
  unfold facL
  split
  · exact o
  · split
    · rename_i h0
      have o1 := X3z (ws := [Q2m, [40]]) o.wf (by omega)
      exact (o.trans o1).trans (Q9y h.fac _ o1.wf)
    · split
      · rename_i h0
        have o1 := X3z (ws := [Q2m, [40]]) o.wf (by omega)
        have o2 := Q9y h.ex _ o1.wf
        exact ((o.trans o1).trans o2).trans (Q2a _ _ o2.wf)
      · exact o.trans (X2n _ o.wf)
theorem X5q {D : Dp} (h : D.Nice) : Nice (sumL D) := Q8g (Q8g (X1n h) _ _) _ _
theorem ok_isNull {e : Ex} {s : Rd} (hw : WF s.l) : Ok s (isNull e s).2 := by
  unfold isNull
  split
  · rename_i h
    exact (X1b hw h).trans (Q2a _ _ (X1b hw h).wf)
  · exact Q2a _ _ hw
theorem nice_test {D : Dp} (h : D.Nice) : Nice (Q6m D) := fun s hw => by
  have o := X5q h s hw
  unfold Q6m
  split
  · exact o
  · rename_i h0
    have o1 := X3z (ws := tests) o.wf (by omega)
    split
    · exact (o.trans o1).trans (X5q h _ o1.wf)
    · exact (o.trans o1).trans (ok_isNull o1.wf)
theorem X1o {D : Dp} (h : D.Nice) : Nice (notL D) := fun s hw => by
  unfold notL
  split
  · rename_i h0
    exact (X1b hw h0).trans (Q9y h.not _ (X1b hw h0).wf)
  · exact nice_test h s hw
theorem nice_ex {D : Dp} (h : D.Nice) : Nice (exL D) := Q8g (Q8g (X1o h) _ _) _ _
theorem X2o : ∀ n, (dp n).Nice
  | 0 => ⟨fun s hw => .refl hw, fun s hw => .refl hw, fun s hw => .refl hw⟩
  | n + 1 => ⟨X1n (X2o n), X1o (X2o n), nice_ex (X2o n)⟩
theorem X6p {F : Pr} (h : Nice F) (first : Int) (ws : List By) : ∀ (n m : Nat) (e : Ex) (s : Rd), WF s.l → s.l.length ≤ n → s.l.length ≤ m → rowL F first ws n e s = rowL F first ws m e s
  | 0, _, e, s, hw, hn, _ => absurd hw.pos (by omega)
  | _, 0, e, s, hw, _, hm => absurd hw.pos (by omega)
  | n + 1, m + 1, e, s, hw, hn, hm => by
    unfold rowL
    split
    · rename_i h0
      obtain ⟨h1, h2, _⟩ := X5c h0
      have o1 := X3z hw h0
      have o2 := h s.next o1.wf
      have hl := (hw.tail (by omega)).2
      have hl2 : s.next.l.length + 1 = s.l.length := hl
      have := o2.le
      exact X6p h first ws n m _ _ o2.wf (by omega) (by omega)
    · rfl
end Go.Parse
namespace Go.Lex
open Go.V Go.Proofs.YtjdapkelojdefaaGreatDoor
def dec (n : Nat) : List UInt8 := if _h : n < 10 then [UInt8.ofNat (48 + n)] else dec (n / 10) ++ [UInt8.ofNat (48 + n % 10)]
theorem X5d {n : Nat} (h : n < 10) : dec n = [UInt8.ofNat (48 + n)] := by rw [dec, dif_pos h]
theorem X6q {n : Nat} (h : ¬ n < 10) : dec n = dec (n / 10) ++ [UInt8.ofNat (48 + n % 10)] := by rw [dec, dif_neg h]
theorem X2p {n : Nat} (h : n < 10) : (UInt8.ofNat (48 + n)).toNat = 48 + n := by
  rw [UInt8.toNat_ofNat']
  omega
theorem dec_digit : ∀ (n : Nat), ∀ c ∈ dec n, Q1z c = true := by
  intro n
  induction n using Nat.strongRecOn with
  | ind n ih =>
    intro c hc
    have key : ∀ m, m < 10 → Q1z (UInt8.ofNat (48 + m)) = true := fun m hm => by
      unfold Q1z
      rw [X2p hm]
      simp
      omega
    by_cases h : n < 10
    · rw [X5d h] at hc
      simp only [List.mem_singleton] at hc
      rw [hc]
      exact key n h
    · rw [X6q h, List.mem_append] at hc
      rcases hc with hc | hc
      · exact ih _ (by omega) c hc
      · simp only [List.mem_singleton] at hc
        rw [hc]
        exact key _ (by omega)
theorem dec_ne (n : Nat) : dec n ≠ [] := by
  by_cases h : n < 10
  · rw [X5d h]; simp
  · rw [X6q h]; simp
theorem num_app (a : List UInt8) : ∀ (n m : Nat) (b : List UInt8), num a n = some m → num (a ++ b) n = num b m := by
  induction a with
  | nil => intro n m b h; cases h; rfl
  | cons c r ih =>
    intro n m b h
    rw [zD]
    rw [num] at h
    rw [num]
    by_cases ho : 9223372036854775807 < 10 * n + (c.toNat - 48)
    · rw [if_pos ho] at h; cases h
    · rw [if_neg ho] at h; rw [if_neg ho]; exact ih _ _ _ h
theorem num_dec : ∀ (n : Nat), n ≤ 9223372036854775807 → num (dec n) 0 = some n := by
  intro n
  induction n using Nat.strongRecOn with
  | ind n ih =>
    intro hn
    by_cases h : n < 10
    · rw [X5d h]
      unfold num
      rw [X2p h, if_neg (by omega)]
      unfold num
      congr 1
      omega
    · rw [X6q h, num_app _ _ _ _ (ih (n / 10) (by omega) (by omega))]
      unfold num
      rw [X2p (by omega), if_neg (by omega)]
      unfold num
      congr 1
      omega
theorem X5r {p : UInt8 → Bool} : ∀ {a b : List UInt8}, (∀ c ∈ a, p c = true) → (∀ c r, b = c :: r → p c = false) → pre p (a ++ b) = a.length
  | [], [], _, _ => rfl
  | [], c :: r, _, h => by
    unfold pre
    rw [List.nil_append, List.takeWhile_cons, if_neg (by rw [h c r rfl]; simp)]
  | x :: a, b, h1, h2 => by
    have := X5r (p := p) (a := a) (b := b) (fun c hc => h1 c (by simp [hc])) h2
    unfold pre at this ⊢
    rw [zD, List.takeWhile_cons, if_pos (h1 x (by simp)), zy, this, zy]
theorem dig_not {c : UInt8} (h : Q1z c = true) : c.toNat ≠ 39 ∧ Q2g c = false ∧ Q1j c = false ∧ ws c = false ∧ c.toNat ≠ 45 := by
  have h1 : 48 ≤ c.toNat ∧ c.toNat ≤ 57 := by simpa [Q1z] using h
  refine ⟨by omega, ?_, ?_, ?_, by omega⟩
  · unfold Q2g
    rw [decide_eq_false (by omega), decide_eq_false (p := c.toNat = 95) (by omega)]
    rfl
  · unfold Q1j
    rw [decide_eq_false (by omega)]
    rfl
  · cases hh : ws c with
    | false => rfl
    | true => have := (ws_iff c).1 hh; omega
def Loose (b : List UInt8) : Prop := ∀ c r, b = c :: r → Q3h c = false ∧ Q1j c = false
theorem loose_nil : Loose [] := fun _ _ h => by cases h
theorem loose_blank (r : List UInt8) : Loose (32 :: r) := fun c r' h => by cases h; exact ⟨by decide, by decide⟩
theorem Q9z {c : UInt8} {r : List UInt8} (hw : ws c = false) (h : c.toNat ≠ 45) : Q0t (c :: r) = 0 := by
  have := X8l (l := c :: r) (k := 0) (by simp) hw (no_dd (by simp) h)
  simpa using this
theorem X4a {a b : List UInt8} (h : Loose b) : glue (a ++ b) a.length = false := by
  cases b with
  | nil => exact X9y (by simp)
  | cons c r =>
    have hc := h c r rfl
    have hg : (a ++ c :: r).getD a.length 0 = c := by
      rw [List.getD_eq_getElem?_getD, List.getElem?_append_right (Nat.le_refl _)]
      simp
    exact X9x (by rw [hg, hc.1]; simp) (by rw [hg, hc.2]; simp)
theorem tok1_dec {n : Nat} (hn : n ≤ 9223372036854775807) {b : List UInt8} (hb : Loose b) : tok1 (dec n ++ b) = .ok (3, [], n, (dec n).length) := by
  have hd := dec_digit n
  cases h0 : dec n with
  | nil => exact absurd h0 (dec_ne n)
  | cons c r =>
    have hc := hd c (by rw [h0]; simp)
    obtain ⟨g1, g2, g3, _⟩ := dig_not hc
    have hg : (c :: r ++ b).getD 0 0 = c := rfl
    have hp : pre Q1z (c :: r ++ b) = (c :: r).length := by
      refine X5r (fun x hx => hd x (by rw [h0]; exact hx)) (fun x r' hx => ?_)
      have := (hb x r' hx).1
      unfold Q3h at this
      simpa using (Bool.or_eq_false_iff.1 this).2
    unfold tok1
    rw [hg, if_neg g1, if_neg (by rw [g2]; simp), if_neg (by rw [g3]; simp), if_pos hc, hp]
    refine wl_ok (wordT_3 (X4a hb) ?_)
    rw [List.take_left, ← h0]
    exact num_dec n hn
theorem dec_head {n : Nat} {b : List UInt8} : Q0t (dec n ++ b) = 0 := by
  cases h0 : dec n with
  | nil => exact absurd h0 (dec_ne n)
  | cons c r =>
    have hc := dec_digit n c (by rw [h0]; simp)
    obtain ⟨_, _, _, g4, g5⟩ := dig_not hc
    exact Q9z g4 g5
def quo : List UInt8 → List UInt8
  | [] => []
  | c :: r => if c = 39 then 39 :: 39 :: quo r else c :: quo r
def Q8h (t : List UInt8) : List UInt8 := 39 :: (quo t ++ [39])
theorem qd_quo {b : List UInt8} (hb : ∀ c r, b = c :: r → c ≠ 39) : ∀ t : List UInt8, qd (quo t ++ 39 :: b) = some (t, (quo t).length + 1)
  | [] => X5o hb
  | c :: r => by
    have ih := qd_quo hb r
    unfold quo
    split
    · rename_i h
      rw [zD, zD, qd_two, ih, h]
      simp [qa]
      omega
    · rename_i h
      rw [zD, X5n h, ih]
      simp [qa]
      omega
theorem tok1_quote {t b : List UInt8} (ht : t.length ≤ 40) (hb : ∀ c r, b = c :: r → c ≠ 39) : tok1 (Q8h t ++ b) = .ok (4, t, 0, (Q8h t).length) := by
  have h0 : Q8h t ++ b = 39 :: (quo t ++ 39 :: b) := by unfold Q8h; simp
  have hq : qd ((39 :: (quo t ++ 39 :: b)).drop 1) = some (t, (quo t).length + 1) := qd_quo hb t
  rw [h0, tok1_q (by rfl), X8m hq (by omega)]
  have : (Q8h t).length = 1 + ((quo t).length + 1) := by unfold Q8h; simp; omega
  rw [this]
theorem quote_head {t b : List UInt8} : Q0t (Q8h t ++ b) = 0 := Q9z (by decide) (by decide)
theorem toks_one {r : List UInt8} {k v : Nat} {t : List UInt8} (hr : r ≠ []) (hb : Q0t r = 0) (ht : tok1 r = .ok (k, t, v, r.length)) (a : Nat) : toks r a = .ok [(k, t, v, a), (6, [], 0, a + r.length)] := by
  have hp : 0 < r.length := List.length_pos_iff.2 hr
  rw [X0y (by rw [hb]; exact hp) (by rw [hb]; exact ht), hb]
  have he : r.drop (0 + r.length) = [] := by rw [Nat.zero_add, List.drop_length]
  rw [he, Q6x (by simp)]
  have : Q0t [] = 0 := Q3n rfl
  rw [this]
  simp [appE]
theorem quo_len : ∀ t : List UInt8, (quo t).length ≤ 2 * t.length
  | [] => Nat.le_refl _
  | c :: r => by
    have := quo_len r
    unfold quo
    split <;> simp <;> omega
theorem dec_len : ∀ n : Nat, ∀ k, n < 10 ^ (k + 1) → (dec n).length ≤ k + 1 := by
  intro n
  induction n using Nat.strongRecOn with
  | ind n ih =>
    intro k hk
    by_cases h : n < 10
    · rw [X5d h]; simp
    · cases k with
      | zero => omega
      | succ k =>
        rw [X6q h, zx]
        have := ih (n / 10) (by omega) k (by rw [Nat.pow_succ] at hk; omega)
        simp
        omega
end Go.Lex
namespace Go.Print
open Go.V Go.Lex Go.Parse Go.Proofs.YtjdapkelojdefaaGreatDoor
inductive Tr
  | val (v : Vl)
  | col (t n : By)
  | not (e : Tr)
  | neg (e : Tr)
  | null (e : Tr)
  | op (k : Nat) (a b : Tr)
def Tr.ex : Tr → Ex
  | .val v => .mk 1 0 [] [] v []
  | .col t n => .mk 2 0 t n v0 []
  | .op k a b => opE k a.ex b.ex
  | .not e => ofE 4 e.ex
  | .neg e => ofE 5 e.ex
  | .null e => ofE 6 e.ex
def isNm (s : By) : Bool := decide (s ≠ []) && decide (s.length ≤ 16) && Q2g (s.getD 0 0) && decide (pre Q3h s = s.length)
def Y0d (k n : Int) (t : By) : Int × By := if k = 0 then (0, []) else if k = 1 then (n, []) else if k = 2 then (0, t) else (n, t)
def X8o (k n : Int) (t : By) : Int := if k < 0 ∨ 2 < k ∨ Y0d k n t ≠ (n, t) then 4 else if 40 < t.length then 2 else 0
def okV (v : Vl) : Bool := decide (X8o v.1 v.2.1 v.2.2 = 0) && decide (v.2.1 ≠ -9223372036854775808)
def Tr.wf : Tr → Prop
  | .val v => okV v = true
  | .col t n => isNm n = true ∧ (t = [] ∨ isNm t = true)
  | .op k a b => (1 ≤ k ∧ k ≤ 13) ∧ a.wf ∧ b.wf
  | .not e => e.wf
  | .neg e => e.wf
  | .null e => e.wf
def rtN (k op : Int) (t n : By) (v : Vl) (len : Nat) : Bool :=
  if k = 1 then okV v && decide (op = 0 ∧ t = [] ∧ n = [] ∧ len = 0) else
  if k = 2 then isNm n && (decide (t = []) || isNm t) && decide (op = 0 ∧ v = v0 ∧ len = 0) else
  if k = 3 then decide ((1 ≤ op ∧ op ≤ 13) ∧ t = [] ∧ n = [] ∧ v = v0 ∧ len = 2) else
  if k = 4 ∨ k = 5 ∨ k = 6 then decide (op = 0 ∧ t = [] ∧ n = [] ∧ v = v0 ∧ len = 1) else false
mutual
def rt : Ex → Bool
  | .mk k op t n v args => rtN k op t n v args.length && rts args
def rts : List Ex → Bool
  | [] => true
  | e :: r => rt e && rts r
end
abbrev tr0 : Tr := .val v0
def mkTr (k op : Int) (t n : By) (v : Vl) (l : List Tr) : Tr :=
  if k = 1 then .val v else if k = 2 then .col t n else if k = 3 then .op op.toNat (l.getD 0 tr0) (l.getD 1 tr0) else
  if k = 4 then .not (l.getD 0 tr0) else if k = 5 then .neg (l.getD 0 tr0) else .null (l.getD 0 tr0)
mutual
def toTr : Ex → Tr
  | .mk k op t n v args => mkTr k op t n v (Y0e args)
def Y0e : List Ex → List Tr
  | [] => []
  | e :: r => toTr e :: Y0e r
end
theorem rt_mk (k op : Int) (t n : By) (v : Vl) (l : List Ex) : rt (.mk k op t n v l) = (rtN k op t n v l.length && rts l) := by rw [rt]
theorem rts_nil : rts [] = true := by rw [rts]
theorem Q6y (e : Ex) (r : List Ex) : rts (e :: r) = (rt e && rts r) := by rw [rts]
theorem toTr_mk (k op : Int) (t n : By) (v : Vl) (l : List Ex) : toTr (.mk k op t n v l) = mkTr k op t n v (Y0e l) := by rw [toTr]
theorem X6r : Y0e [] = [] := by rw [Y0e]
theorem X4b (e : Ex) (r : List Ex) : Y0e (e :: r) = toTr e :: Y0e r := by rw [Y0e]
theorem rtN_cases {k op : Int} {t n : By} {v : Vl} {len : Nat} (h : rtN k op t n v len = true) :
    (k = 1 ∧ okV v = true ∧ op = 0 ∧ t = [] ∧ n = [] ∧ len = 0) ∨ (k = 2 ∧ isNm n = true ∧ (t = [] ∨ isNm t = true) ∧ op = 0 ∧ v = v0 ∧ len = 0) ∨
    (k = 3 ∧ (1 ≤ op ∧ op ≤ 13) ∧ t = [] ∧ n = [] ∧ v = v0 ∧ len = 2) ∨ ((k = 4 ∨ k = 5 ∨ k = 6) ∧ op = 0 ∧ t = [] ∧ n = [] ∧ v = v0 ∧ len = 1) := by
  unfold rtN at h
  split at h
  · rename_i hk
    simp only [Bool.and_eq_true, decide_eq_true_eq] at h
    exact .inl ⟨hk, h.1, h.2⟩
  · split at h
    · rename_i hk
      simp only [Bool.and_eq_true, Bool.or_eq_true, decide_eq_true_eq] at h
      exact .inr (.inl ⟨hk, h.1.1, h.1.2, h.2⟩)
    · split at h
      · rename_i hk
        exact .inr (.inr (.inl ⟨hk, of_decide_eq_true h⟩))
      · split at h
        · rename_i hk
          exact .inr (.inr (.inr ⟨hk, of_decide_eq_true h⟩))
        · cases h
mutual
theorem Q7r : ∀ e : Ex, rt e = true → (toTr e).ex = e ∧ (toTr e).wf
  | .mk k op t n v l, h => by
    rw [rt_mk, Bool.and_eq_true] at h
    have ih := toTrs_ok l h.2
    rw [toTr_mk]
    rcases rtN_cases h.1 with ⟨rfl, hv, rfl, rfl, rfl, hl⟩ | ⟨rfl, hn, ht, rfl, rfl, hl⟩ | ⟨rfl, ho, rfl, rfl, rfl, hl⟩ | ⟨hk, rfl, rfl, rfl, rfl, hl⟩
    · cases l with
      | nil => exact ⟨rfl, hv⟩
      | cons => cases hl
    · cases l with
      | nil => exact ⟨rfl, hn, ht⟩
      | cons => cases hl
    · match l, hl with
      | [a, b], _ =>
        rw [X4b, X4b, X6r] at ih ⊢
        have ha := ih (toTr a) (by simp)
        have hb := ih (toTr b) (by simp)
        have e : mkTr 3 op [] [] v0 [toTr a, toTr b] = .op op.toNat (toTr a) (toTr b) := rfl
        rw [e]
        have ea := Q7r a (by rw [Q6y, Bool.and_eq_true] at h; exact h.2.1)
        have eb := Q7r b (by rw [Q6y, Q6y, Bool.and_eq_true, Bool.and_eq_true] at h; exact h.2.2.1)
        refine ⟨?_, ⟨by omega, by omega⟩, ea.2, eb.2⟩
        show Ex.mk 3 (op.toNat : Int) [] [] v0 [(toTr a).ex, (toTr b).ex] = _
        rw [ea.1, eb.1, show (op.toNat : Int) = op by omega]
    · match l, hl with
      | [a], _ =>
        rw [X4b, X6r]
        have ea := Q7r a (by rw [Q6y, Bool.and_eq_true] at h; exact h.2.1)
        rcases hk with rfl | rfl | rfl
        · exact ⟨by show Ex.mk 4 0 [] [] v0 [(toTr a).ex] = _; rw [ea.1], ea.2⟩
        · exact ⟨by show Ex.mk 5 0 [] [] v0 [(toTr a).ex] = _; rw [ea.1], ea.2⟩
        · exact ⟨by show Ex.mk 6 0 [] [] v0 [(toTr a).ex] = _; rw [ea.1], ea.2⟩
theorem toTrs_ok : ∀ l : List Ex, rts l = true → ∀ t ∈ Y0e l, True
  | _, _, _, _ => trivial
end
def _root_.Go.Parse.Ex.kd : Ex → Int
  | .mk k _ _ _ _ _ => k
def wT (s : By) : Tk := (2, s, 0, 0)
def sT (s : By) : Tk := (5, s, 0, 0)
def nT (s : By) : Tk := (1, s, 0, 0)
def iT (n : Int) : Tk := (3, [], n.toNat, 0)
def wd (s : By) : Tk := if 65 ≤ (s.getD 0 0).toNat ∧ (s.getD 0 0).toNat ≤ 90 then wT s else sT s
def wds (l : List By) : List Tk := l.map wd
def numT (n : Int) : List Tk := if n < 0 then [sT [45], iT (-n)] else [iT n]
def litT (v : Vl) : List Tk := if v.1 = 0 then [wT [78, 85, 76, 76]] else if v.1 = 2 then [(4, v.2.2, 0, 0)] else numT v.2.1
def ops : List By := [[], [79, 82], [65, 78, 68], [61], [60, 62], [60], [60, 61], [62], [62, 61], [43], [45], [42], [47], [37]]
def lvK (k : Nat) : Nat := if k ≤ 2 then k else if k ≤ 8 then 4 else if k ≤ 10 then 5 else 6
def Tr.lvl : Tr → Nat
  | .not (.null _) => 4
  | .not _ => 3
  | .null _ => 4
  | .op k _ _ => lvK k
  | _ => 7
def lftK (k : Nat) : Nat := if lvK k = 4 then 5 else lvK k
def Tr.pos : Tr → Bool
  | .val v => decide (v.1 = 1 ∧ 0 ≤ v.2.1)
  | _ => false
def br (b : Bool) (l : List Tk) : List Tk := if b then sT [40] :: (l ++ [sT [41]]) else l
def lo (e : Tr) (k : Nat) : Bool := decide (e.lvl < k)
def Tr.tk : Tr → List Tk
  | .val v => litT v
  | .col t n => if t = [] then [nT n] else [nT t, sT [46], nT n]
  | .null e => br (lo e 5) e.tk ++ [wT [73, 83], wT [78, 85, 76, 76]]
  | .neg e => sT [45] :: br e.pos (br (lo e 7) e.tk)
  | .not (.null x) => br (lo x 5) x.tk ++ [wT [73, 83], wT [78, 79, 84], wT [78, 85, 76, 76]]
  | .not e => wT [78, 79, 84] :: br (lo e 3) e.tk
  | .op k a b => br (lo a (lftK k)) a.tk ++ wd (ops.getD k []) :: br (lo b (lvK k + 1)) b.tk
def bd (b : Bool) : Nat := if b then 1 else 0
def Tr.dp : Tr → Nat
  | .val _ => 0
  | .col _ _ => 0
  | .null e => bd (lo e 5) + e.dp
  | .neg e => 1 + (bd e.pos + (bd (lo e 7) + e.dp))
  | .not (.null x) => bd (lo x 5) + x.dp
  | .not e => 1 + (bd (lo e 3) + e.dp)
  | .op k a b => max (bd (lo a (lftK k)) + a.dp) (bd (lo b (lvK k + 1)) + b.dp)
theorem X0a (e : Tr) : (Tr.null e).tk = br (lo e 5) e.tk ++ [wT [73, 83], wT [78, 85, 76, 76]] := by rw [Tr.tk]
theorem X3f (e : Tr) : (Tr.neg e).tk = sT [45] :: br e.pos (br (lo e 7) e.tk) := by rw [Tr.tk]
theorem Q5d (x : Tr) : (Tr.not (.null x)).tk = br (lo x 5) x.tk ++ [wT [73, 83], wT [78, 79, 84], wT [78, 85, 76, 76]] := by rw [Tr.tk]
def Tr.isNull : Tr → Bool
  | .null _ => true
  | _ => false
theorem X1c {e : Tr} (h : e.isNull = false) : (Tr.not e).tk = wT [78, 79, 84] :: br (lo e 3) e.tk := by
  cases e <;> first | (cases h; done) | simp [Tr.tk]
theorem X6s {e : Tr} (h : e.isNull = false) : (Tr.not e).dp = 1 + (bd (lo e 3) + e.dp) := by
  cases e <;> first | (cases h; done) | simp [Tr.dp]
theorem X4c (x : Tr) : (Tr.not (.null x)).dp = bd (lo x 5) + x.dp := by rw [Tr.dp]
theorem Y0f {e : Tr} (h : e.isNull = false) : (Tr.not e).lvl = 3 := by
  cases e <;> first | (cases h; done) | rfl
theorem Y0g (k : Nat) (a b : Tr) : (Tr.op k a b).tk = br (lo a (lftK k)) a.tk ++ wd (ops.getD k []) :: br (lo b (lvK k + 1)) b.tk := by rw [Tr.tk]
def txt (t : Tk) : By := if t.1 = 3 then dec t.2.2.1 else if t.1 = 4 then Q8h t.2.1 else t.2.1
def Q4s : List By → By
  | [] => []
  | [x] => x
  | x :: y :: r => x ++ 32 :: Q4s (y :: r)
def txts (l : List Tk) : List By := (l.filter fun t => decide (t.1 ≠ 6)).map txt
def Q5j (l : List Tk) : By := Q4s (txts l)
def fin (l : List Tk) (deep : Nat) : By × Int := if 10 < deep then ([], 10) else if 2000 < (Q5j l).length then ([], 2) else (Q5j l, 0)
def Y0h (e : Ex) : By × Int := if rt e then fin (toTr e).tk (toTr e).dp else ([], 4)
abbrev wOb (T : TypeId) (r : List AV) (τ : Nat) (l : List Tk) : Ob := .cells T (.sl (.tok τ 4) (tksA l) :: r)
abbrev WB (T : TypeId) (r : List AV) (B : Sg) (ω τ : Nat) (l : List Tk) : Sg := (B.set τ (.tok (some 102))).set ω (wOb T r τ l)
def inR' (n : Int) : Prop := -9223372036854775807 ≤ n ∧ n ≤ 9223372036854775807
structure okS (B : Sg) (ω τ : Nat) : Prop where
  free : B τ = none
  ne : τ ≠ ω
theorem Y0i {T : TypeId} {r : List AV} {B : Sg} {ω τ : Nat} {l : List Tk} : WB T r B ω τ l = (B.set τ (.tok (some 102))).set ω (.cells T (.sl (.tok τ 4) (tksA l) :: r)) := rfl
theorem X4d {T : TypeId} {r : List AV} {B : Sg} {ω τ : Nat} {l m : List Tk} {es : List (List AV)} (h : es = tksA m) : (B.set τ (.tok (some 102))).set ω (.cells T (.sl (.tok τ 4) (tksA l ++ es) :: r)) = WB T r B ω τ (l ++ m) := by
  rw [h, Y0a]
theorem X8p {B : Sg} {ω τ τ' : Nat} {t t' ob ob' : Ob} (h : B τ' = none) (h0 : B τ = none) : ((B.set τ' t').set ω ob').sub (((((B.set τ t).set ω ob).del τ).set τ' t').set ω ob') := by
  intro y p hy
  simp only [Sg.set_apply, Sg.del_apply] at hy ⊢
  grind
end Go.Print
namespace Go.Proofs.YtjdapkelojdefaaGreatDoor
open Go Go.V Go.Lex Go.Parse Go.Print
theorem X1d (a x : AV) (r : List AV) : Q3v (a :: r) 0 [x] = x :: r := by simp [Q3v]
theorem Q3r (T : TypeId) (r : List AV) (B : Sg) (ω τ : Nat) (l : List Tk) (s : By) (h : okS B ω τ) (hl : l.length < 2 ^ 40) : VCalls Tryz.prog 46 [.ref ω 0, .s (bs s)] (WB T r B ω τ l) (fun x σ' => x = .tup [] ∧ ∃ τ', okS B ω τ' ∧ σ' = WB T r B ω τ' (l ++ [nT s])) := by
  obtain ⟨h1, h2⟩ := h
  have h2' := h2.symm
  rw [Y0i]
  have hlen := Q0y l
  have hall := Q1q l
  (refine vfun (fun _ => .no) Q0h Tryz.func46 (by kernel_rfl) ?_; simp only [Q0f, Tryz.f46, zw])
  (have zz := Bx.mk (j3 ui0 ui3 (j9 ui9 ui56 ui57 X9v Q1k Q0u hlen hall @X1d)); (repeat' (first | exact zc | (with_reducible first | apply And.intro | apply Q0a | apply Q0b | refine Q0c (by decide +kernel) ?_ | intro _) | refine zaY zz.out ?_ | ((first | (refine Q0d (by exact zK) ?_) | (refine Q0e (by exact zK) ?_)); (try refine zsY zz.out ?_)) | refine zo ?_ | omega | refine ztY zz.out ?_ | fail)); try (all_goals clear zz))
  all_goals (exact ⟨_, X8p ‹B _ = none› (by assumption), _, ⟨‹B _ = none›, by assumption⟩, X4d rfl⟩)
theorem Q3o (l : List By) : (wds l).length = l.length := by simp [wds]
theorem iT_A {n : Int} (h : 0 ≤ n) : [[AV.i 3, .s (bs []), .i n, .i 0]] = tksA [iT n] := by
  have : ((n.toNat : Nat) : Int) = n := by omega
  show _ = [[AV.i 3, .s (bs []), .i ((n.toNat : Nat) : Int), .i 0]]
  rw [this]
theorem wds_step {ws : List By} {k : Nat} (h : k < ws.length) : wds (ws.take (k + 1)) = wds (ws.take k) ++ [wd (ws.getD k [])] := by
  unfold wds
  rw [List.take_succ_eq_append_getElem h, List.map_append]
  simp [List.getD_eq_getElem?_getD, List.getElem?_eq_getElem h]
theorem w_words (T : TypeId) (r : List AV) (B : Sg) (ω τ : Nat) (l : List Tk) (o : Own) (ws : List By) (es : List (List AV)) (he : es = strs ws) (h : okS B ω τ) (hl : l.length + ws.length < 2 ^ 40) (hw : ∀ w ∈ ws, w ≠ []) : VCalls Tryz.prog 29 [.ref ω 0, .sl o es] (WB T r B ω τ l) (fun x σ' => x = .tup [] ∧ ∃ τ', okS B ω τ' ∧ σ' = WB T r B ω τ' (l ++ wds ws)) := by
  subst he
  have hsl := Q4l ws
  (refine vfun (fun _ => .no) Q0h Tryz.func29 (by kernel_rfl) ?_; simp only [Q0f, Tryz.f29, zw])
  (have zz := Bx.mk (j4 ui0 ui3 ui4 (j9 ui5 ui9 ui56 ui57 ui75 X9v Q1k Q0u hsl)); (repeat' (first | exact zc | (with_reducible first | apply And.intro | apply Q0a | apply Q0b | refine Q0c (by decide +kernel) ?_ | intro _) | refine zaY zz.out ?_ | ((first | (refine Q0d (by exact zK) ?_) | (refine Q0e (by exact zK) ?_)); (try refine zsY zz.out ?_)) | refine zo ?_ | omega | refine ztY zz.out ?_ | fail)); try (all_goals clear zz))
  refine VW.loop3 (0 : Nat) τ () (fun k τ' _ => k ≤ ws.length ∧ okS B ω τ') (fun k _ _ => [(0, .ref ω 0), (7, .sl o (strs ws)), (8, .i ws.length), (9, .i k)]) (fun k τ' _ => WB T r B ω τ' (l ++ wds (ws.take k))) (fun k _ _ => ws.length - k) ⟨Nat.zero_le _, h⟩ (by simp [wds]; exact .refl _) ?_ ?_
  · simp only [vO, vQ, ↓vP, vE, vS, vB, vL, vF, vM, vN, Q0g, zb, zd, ze, ne_eq, not_false_eq_true, zf, zg, zk, zl, vT]
    all_goals rfl
  rintro k τ' _ ⟨hk, h1, h2⟩
  have h2' := h2.symm
  rw [Y0i]
  rcases Nat.lt_or_ge k ws.length with hk2 | hk2
  · have hg := Q9x hk2
    have hwk : ws.getD k [] ≠ [] := hw _ (by simp [List.getD_eq_getElem?_getD, List.getElem?_eq_getElem hk2])
    have hwl : 0 < (ws.getD k []).length := List.length_pos_iff.2 hwk
    have hst := wds_step hk2
    have hwd : wd (ws.getD k []) = if 65 ≤ ((ws.getD k []).getD 0 0).toNat ∧ ((ws.getD k []).getD 0 0).toNat ≤ 90 then wT (ws.getD k []) else sT (ws.getD k []) := rfl
    generalize ws.getD k [] = w at *
    have hall := Q1q (l ++ wds (ws.take k))
    have hlen : (tksA (l ++ wds (ws.take k))).length = l.length + k := by rw [Q0y, zx]; simp [wds]; omega
    generalize hL : l ++ wds (ws.take k) = L at *
    (have zz := Bx.mk (j8 ui0 ui3 ui4 ui5 ui9 ui56 ui57 (j9 ui75 X9v Q1k Q0u hsl hg hall hlen @X1d)); (repeat' (first | exact zc | (with_reducible first | apply And.intro | apply Q0a | apply Q0b | refine Q0c (by decide +kernel) ?_ | intro _) | refine zaY zz.out ?_ | ((first | (refine Q0d (by exact zK) ?_) | (refine Q0e (by exact zK) ?_)); (try refine zsY zz.out ?_)) | refine zo ?_ | omega | refine ztY zz.out ?_ | fail)); try (all_goals clear zz))
    · rename_i τ2 q1 _ q2
      exact ⟨k + 1, τ2, (), ⟨⟨hk2, q1, q2⟩, by omega⟩, by rw [hst, ← List.append_assoc, hL, hwd, if_pos ⟨by omega, by omega⟩, ← X4d (m := [wT w]) rfl]; exact X8p q1 h1, rfl⟩
    all_goals rename_i τ2 q1 _ q2
    all_goals exact ⟨k + 1, τ2, (), ⟨⟨hk2, q1, q2⟩, by omega⟩, by rw [hst, ← List.append_assoc, hL, hwd, if_neg (by omega), ← X4d (m := [sT w]) rfl]; exact X8p q1 h1, rfl⟩
  · (have zz := Bx.mk (j4 ui0 ui3 ui4 (j9 ui5 ui9 ui56 ui57 ui75 X9v Q1k Q0u hsl)); (repeat' (first | exact zc | (with_reducible first | apply And.intro | apply Q0a | apply Q0b | refine Q0c (by decide +kernel) ?_ | intro _) | refine zaY zz.out ?_ | ((first | (refine Q0d (by exact zK) ?_) | (refine Q0e (by exact zK) ?_)); (try refine zsY zz.out ?_)) | refine zo ?_ | omega | refine ztY zz.out ?_ | fail)); try (all_goals clear zz))
    rw [List.take_of_length_le hk2]
    exact ⟨_, .refl _, τ', ⟨h1, h2⟩, rfl⟩
def wdsE (es : List (List AV)) : List Tk := es.map fun e => wd (match e with | [.val (.string s)] => s.data.toList | _ => [])
theorem wdsE_strs (ws : List By) : wdsE (strs ws) = wds ws := by
  unfold wdsE strs wds
  rw [List.map_map]
  refine List.map_congr_left (fun w _ => ?_)
  show wd ((bs w).data.toList) = wd w
  rw [Q7h]
theorem Q8i : wdsE [] = [] := rfl
theorem Q5k (w : By) (es : List (List AV)) : wdsE ([.val (.string (bs w))] :: es) = wd w :: wdsE es := by
  show wd ((bs w).data.toList) :: wdsE es = _
  rw [Q7h]
def okW (es : List (List AV)) : Prop := ∃ ws, es = strs ws ∧ ∀ w ∈ ws, w ≠ []
theorem Q0p : okW [] := ⟨[], rfl, fun w h => by cases h⟩
theorem Q0k {w : By} {es : List (List AV)} (h : okW es) (hw : w ≠ []) : okW ([AV.s (bs w)] :: es) := by
  obtain ⟨ws, rfl, h⟩ := h
  exact ⟨w :: ws, rfl, fun x hx => by
    rcases List.mem_cons.1 hx with rfl | hx
    · exact hw
    · exact h x hx⟩
theorem Q0m (T : TypeId) (r : List AV) (B : Sg) (ω τ : Nat) (l : List Tk) (o : Own) (es : List (List AV)) (he : okW es) (h : okS B ω τ) (hl : l.length + es.length < 2 ^ 40) : VCalls Tryz.prog 29 [.ref ω 0, .sl o es] (WB T r B ω τ l) (fun x σ' => x = .tup [] ∧ ∃ τ', okS B ω τ' ∧ σ' = WB T r B ω τ' (l ++ wdsE es)) := by
  obtain ⟨ws, rfl, hw⟩ := he
  rw [Q4l] at hl
  rw [wdsE_strs]
  exact w_words T r B ω τ l o ws _ rfl h hl hw
def WLg := And.intro (j9 @Q0y @Q1q @Q8e @List.length_append.{0} @List.length_cons.{0} @List.length_nil.{0} @Q3o @Q8i @Q5k) @X1d
theorem X3g (T : TypeId) (r : List AV) (B : Sg) (ω τ : Nat) (l : List Tk) (n : Int) (h : okS B ω τ) (hl : l.length < 2 ^ 39) (hn : inR' n) : VCalls Tryz.prog 103 [.ref ω 0, .i n] (WB T r B ω τ l) (fun x σ' => x = .tup [] ∧ ∃ τ', okS B ω τ' ∧ σ' = WB T r B ω τ' (l ++ numT n)) := by
  unfold inR' at hn
  unfold numT
  by_cases hc : n < 0
  · rw [if_pos hc]
    (refine vfun (fun _ => .no) Q0h Tryz.func103 (by kernel_rfl) ?_; simp only [Q0f, Tryz.f103, zw])
    (have zz := Bx.mk (j4 ui0 ui3 ui4 (j9 ui9 ui56 ui57 ui75 X9v Q1k Q0u @Q0y (j9 @Q1q @Q8e @List.length_append.{0} @List.length_cons.{0} @List.length_nil.{0} @Q3o @Q8i @Q5k @X1d))); (repeat' (first | exact zc | (with_reducible first | apply And.intro | apply Q0a | apply Q0b | refine Q0c (by decide +kernel) ?_ | intro _) | refine zaY zz.out ?_ | ((first | ((with_reducible refine zU (Q0m _ _ _ _ _ _ _ _ (by repeat (first | exact Q0p | refine Q0k ?_ (by simp))) (by exact zO) (by exact zN)) ?_); rintro _ S ⟨rfl, τ1, ⟨f1, n1⟩, rfl⟩; have n1s := n1.symm) | (refine Q0d (by exact zK) ?_) | (refine Q0e (by exact zK) ?_)); (try refine zsY zz.out ?_)) | refine zo ?_ | omega | refine ztY zz.out ?_ | fail)); try (all_goals clear zz))
    rename_i τ2 q1 _ q2
    exact ⟨_, X8p q1 (by assumption), _, ⟨q1, q2⟩, by rw [X4d (m := [iT (0 - n)]) (iT_A (by omega)), List.append_assoc, Int.zero_sub]; rfl⟩
  · rw [if_neg hc]
    obtain ⟨f0, n0⟩ := h
    have n0s := n0.symm
    (refine vfun (fun _ => .no) Q0h Tryz.func103 (by kernel_rfl) ?_; simp only [Q0f, Tryz.f103, zw])
    (have zz := Bx.mk (j4 ui0 ui3 ui4 (j9 ui9 ui56 ui57 ui75 X9v Q1k Q0u @Q0y (j9 @Q1q @Q8e @List.length_append.{0} @List.length_cons.{0} @List.length_nil.{0} @Q3o @Q8i @Q5k @X1d))); (repeat' (first | exact zc | (with_reducible first | apply And.intro | apply Q0a | apply Q0b | refine Q0c (by decide +kernel) ?_ | intro _) | refine zaY zz.out ?_ | ((first | ((with_reducible refine zU (Q0m _ _ _ _ _ _ _ _ (by repeat (first | exact Q0p | refine Q0k ?_ (by simp))) (by exact zO) (by exact zN)) ?_); rintro _ S ⟨rfl, τ1, ⟨f1, n1⟩, rfl⟩; have n1s := n1.symm) | (refine Q0d (by exact zK) ?_) | (refine Q0e (by exact zK) ?_)); (try refine zsY zz.out ?_)) | refine zo ?_ | omega | refine ztY zz.out ?_ | fail)); try (all_goals clear zz))
    rename_i τ2 q1 _ q2
    exact ⟨_, X8p q1 (by assumption), _, ⟨q1, q2⟩, by rw [X4d (m := [iT n]) (iT_A (by omega))]⟩
theorem Q4i (T : TypeId) (r : List AV) (B : Sg) (ω τ : Nat) (l : List Tk) (v : Vl) (h : okS B ω τ) (hl : l.length < 2 ^ 38) (hn : inR' v.2.1) (hk : v.1 = 0 ∨ v.1 = 1 ∨ v.1 = 2) : VCalls Tryz.prog 45 [.ref ω 0, .agg [.i v.1, .i v.2.1, .s (bs v.2.2)]] (WB T r B ω τ l) (fun x σ' => x = .tup [] ∧ ∃ τ', okS B ω τ' ∧ σ' = WB T r B ω τ' (l ++ litT v)) := by
  unfold litT
  obtain ⟨k, n, t⟩ := v
  simp only at hn hk ⊢
  rcases hk with rfl | rfl | rfl
  · (refine vfun (fun _ => .ro) Q0h Tryz.func45 (by kernel_rfl) ?_; simp only [Q0f, Tryz.f45, zw])
    (have zz := Bx.mk (j6 ui0 ui3 ui4 ui9 ui22 (j9 ui23 ui56 ui57 ui75 X9v Q1k Q0u @Q0y (j9 @Q1q @Q8e @List.length_append.{0} @List.length_cons.{0} @List.length_nil.{0} @Q3o @Q8i @Q5k @X1d))); (repeat' (first | exact zc | (with_reducible first | apply And.intro | apply Q0a | apply Q0b | refine Q0c (by decide +kernel) ?_ | intro _) | refine zaY zz.out ?_ | ((first | ((with_reducible refine zU (Q0m _ _ _ _ _ _ _ _ (by repeat (first | exact Q0p | refine Q0k ?_ (by simp))) (by exact zO) (by exact zN)) ?_); rintro _ S ⟨rfl, τ1, ⟨f1, n1⟩, rfl⟩; have n1s := n1.symm) | ((with_reducible refine zU (X3g _ _ _ _ _ _ _ (by exact zO) (by exact zN) (by assumption)) ?_); rintro _ S ⟨rfl, τ1, ⟨f1, n1⟩, rfl⟩; have n1s := n1.symm) | (refine Q0d (by exact zK) ?_) | (refine Q0e (by exact zK) ?_)); (try refine zsY zz.out ?_)) | refine zo ?_ | omega | refine ztY zz.out ?_ | fail)); try (all_goals clear zz))
    exact ⟨_, .refl _, τ1, ⟨f1, n1⟩, rfl⟩
  · (refine vfun (fun _ => .ro) Q0h Tryz.func45 (by kernel_rfl) ?_; simp only [Q0f, Tryz.f45, zw])
    (have zz := Bx.mk (j6 ui0 ui3 ui4 ui9 ui22 (j9 ui23 ui56 ui57 ui75 X9v Q1k Q0u @Q0y (j9 @Q1q @Q8e @List.length_append.{0} @List.length_cons.{0} @List.length_nil.{0} @Q3o @Q8i @Q5k @X1d))); (repeat' (first | exact zc | (with_reducible first | apply And.intro | apply Q0a | apply Q0b | refine Q0c (by decide +kernel) ?_ | intro _) | refine zaY zz.out ?_ | ((first | ((with_reducible refine zU (Q0m _ _ _ _ _ _ _ _ (by repeat (first | exact Q0p | refine Q0k ?_ (by simp))) (by exact zO) (by exact zN)) ?_); rintro _ S ⟨rfl, τ1, ⟨f1, n1⟩, rfl⟩; have n1s := n1.symm) | ((with_reducible refine zU (X3g _ _ _ _ _ _ _ (by exact zO) (by exact zN) (by assumption)) ?_); rintro _ S ⟨rfl, τ1, ⟨f1, n1⟩, rfl⟩; have n1s := n1.symm) | (refine Q0d (by exact zK) ?_) | (refine Q0e (by exact zK) ?_)); (try refine zsY zz.out ?_)) | refine zo ?_ | omega | refine ztY zz.out ?_ | fail)); try (all_goals clear zz))
    exact ⟨_, .refl _, τ1, ⟨f1, n1⟩, rfl⟩
  · obtain ⟨f0, n0⟩ := h
    have n0s := n0.symm
    (refine vfun (fun _ => .ro) Q0h Tryz.func45 (by kernel_rfl) ?_; simp only [Q0f, Tryz.f45, zw])
    (have zz := Bx.mk (j6 ui0 ui3 ui4 ui9 ui22 (j9 ui23 ui56 ui57 ui75 X9v Q1k Q0u @Q0y (j9 @Q1q @Q8e @List.length_append.{0} @List.length_cons.{0} @List.length_nil.{0} @Q3o @Q8i @Q5k @X1d))); (repeat' (first | exact zc | (with_reducible first | apply And.intro | apply Q0a | apply Q0b | refine Q0c (by decide +kernel) ?_ | intro _) | ((with_reducible first | refine .dms (fun x => x = ω) [(0, false), (1, false), (2, false), (3, false), (4, true), (5, true), (6, true), (7, false), (8, true), (9, true), (10, true)] (by decide) (by decide +kernel) ?_ | refine .dm (fun x => x = ω) [(0, false), (1, false), (2, false), (3, false), (4, true), (5, true), (6, true), (7, false), (8, true), (9, true), (10, true)] (by decide) (by decide +kernel) ?_); (refine zsR zz.out ?_)) | refine zaR zz.out ?_ | refine zkK zz.out ?_ | ((first | (refine Q0j (by intro β h; first | (rcases h with h | h <;> subst h <;> (simp (disch := first | assumption | (apply Go.Cert.ne_of2; assumption; assumption) | (apply Go.Cert.ne_ob; assumption; assumption; (intro e; cases e; done)) | omega) only [Sg.set_same, Sg.set_ne, Sg.set_ne', Sg.del_ne, Sg.del_ne'])) | (subst h; (simp (disch := first | assumption | (apply Go.Cert.ne_of2; assumption; assumption) | (apply Go.Cert.ne_ob; assumption; assumption; (intro e; cases e; done)) | omega) only [Sg.set_same, Sg.set_ne, Sg.set_ne', Sg.del_ne, Sg.del_ne']))) ?_) | ((with_reducible refine zU (Q0m _ _ _ _ _ _ _ _ (by repeat (first | exact Q0p | refine Q0k ?_ (by simp))) (by exact zO) (by exact zN)) ?_); rintro _ S ⟨rfl, τ1, ⟨f1, n1⟩, rfl⟩; have n1s := n1.symm) | ((with_reducible refine zU (X3g _ _ _ _ _ _ _ (by exact zO) (by exact zN) (by assumption)) ?_); rintro _ S ⟨rfl, τ1, ⟨f1, n1⟩, rfl⟩; have n1s := n1.symm) | (refine Q0d (by exact zK) ?_) | (refine Q0e (by exact zK) ?_)); (try refine zsR zz.out ?_)) | refine zmR zz.out ?_ | refine zo ?_ | omega | refine ztR zz.out ?_ | fail)); try (all_goals clear zz))
    rename_i τ2 q1 _ q2
    exact ⟨_, X8p q1 f0, _, ⟨q1, q2⟩, X4d rfl⟩
end Go.Proofs.YtjdapkelojdefaaGreatDoor
namespace Go.Print
open Go.V Go.Lex Go.Parse Go.Proofs.YtjdapkelojdefaaGreatDoor
def inR (n : Int) : Prop := -9223372036854775808 ≤ n ∧ n ≤ 9223372036854775807
inductive Lim : Ex → Prop
  | mk (k op : Int) (t n : By) (v : Vl) (l : List Ex) (h : l.length ≤ 9223372036854775807) (hr : inR k ∧ inR op ∧ inR v.1 ∧ inR v.2.1) (hl : ∀ e ∈ l, Lim e) : Lim (.mk k op t n v l)
def fewB : Nat → Ex → Bool
  | 0, _ => false
  | d + 1, .mk k op t n v l => decide (l.length ≤ 3 ∧ t.length ≤ 4096 ∧ n.length ≤ 4096 ∧ v.2.2.length ≤ 4096) && l.all (fewB d)
theorem X8q {d : Nat} {k op : Int} {t n : By} {v : Vl} {l : List Ex} (h : fewB (d + 1) (.mk k op t n v l) = true) : l.length ≤ 3 ∧ ∀ e ∈ l, fewB d e = true := by
  unfold fewB at h
  rw [Bool.and_eq_true, decide_eq_true_eq, List.all_eq_true] at h
  exact ⟨h.1.1, h.2⟩
theorem X5e (b : Bool) (l : List Tk) : l.length ≤ (br b l).length ∧ (br b l).length ≤ l.length + 2 := by
  cases b <;> simp [br] <;> omega
theorem X3h (v : Vl) : 1 ≤ (litT v).length ∧ (litT v).length ≤ 2 := by
  unfold litT numT
  repeat' split
  all_goals simp
theorem X6t (b : Bool) (l : List Tk) {d : Nat} (h : d ≤ l.length) : bd b + d ≤ (br b l).length := by
  cases b <;> simp [br, bd] <;> omega
theorem X4e : ∀ t : Tr, t.dp ≤ t.tk.length
  | .val v => Nat.zero_le _
  | .col t n => Nat.zero_le _
  | .null e => by
    have := X6t (lo e 5) e.tk (X4e e)
    rw [X0a, Tr.dp, zx]
    omega
  | .neg e => by
    have := X6t e.pos _ (X6t (lo e 7) e.tk (X4e e))
    rw [X3f, Tr.dp, zy]
    omega
  | .not (.null x) => by
    have := X6t (lo x 5) x.tk (X4e x)
    rw [Q5d, X4c, zx]
    omega
  | .not (.val v) => by
    have := X6t (lo (.val v) 3) (Tr.val v).tk (X4e (.val v))
    rw [X1c rfl, X6s rfl, zy]; omega
  | .not (.col t n) => by
    have := X6t (lo (.col t n) 3) (Tr.col t n).tk (X4e (.col t n))
    rw [X1c rfl, X6s rfl, zy]; omega
  | .not (.not x) => by
    have := X6t (lo (.not x) 3) (Tr.not x).tk (X4e (.not x))
    rw [X1c rfl, X6s rfl, zy]; omega
  | .not (.neg x) => by
    have := X6t (lo (.neg x) 3) (Tr.neg x).tk (X4e (.neg x))
    rw [X1c rfl, X6s rfl, zy]; omega
  | .not (.op k a b) => by
    have := X6t (lo (.op k a b) 3) (Tr.op k a b).tk (X4e (.op k a b))
    rw [X1c rfl, X6s rfl, zy]; omega
  | .op k a b => by
    have h1 := X6t (lo a (lftK k)) a.tk (X4e a)
    have h2 := X6t (lo b (lvK k + 1)) b.tk (X4e b)
    rw [Y0g, Tr.dp, zx, zy]
    omega
theorem X6u : ∀ (d : Nat) (t : Tr), fewB d t.ex = true → t.tk.length + 8 ≤ 16 * 2 ^ d
  | 0, t, h => by cases h
  | d + 1, .val v, h => by
    have := (X3h v).2
    have : 1 ≤ 2 ^ d := Nat.one_le_two_pow
    rw [Nat.pow_succ]
    show (litT v).length + 8 ≤ _
    omega
  | d + 1, .col t n, h => by
    have : 1 ≤ 2 ^ d := Nat.one_le_two_pow
    rw [Nat.pow_succ, Tr.tk]
    split <;> simp <;> omega
  | d + 1, .null e, h => by
    have ih := X6u d e ((X8q h).2 _ (by simp))
    have := (X5e (lo e 5) e.tk).2
    rw [Nat.pow_succ, X0a, zx]
    simp only [zy, List.length_nil]
    omega
  | d + 1, .neg e, h => by
    have ih := X6u d e ((X8q h).2 _ (by simp))
    have h1 := (X5e (lo e 7) e.tk).2
    have h2 := (X5e e.pos (br (lo e 7) e.tk)).2
    rw [Nat.pow_succ, X3f, zy]
    omega
  | d + 1, .op k a b, h => by
    have ha := X6u d a ((X8q h).2 _ (by simp))
    have hb := X6u d b ((X8q h).2 _ (by simp))
    have h1 := (X5e (lo a (lftK k)) a.tk).2
    have h2 := (X5e (lo b (lvK k + 1)) b.tk).2
    rw [Nat.pow_succ, Y0g, zx, zy]
    omega
  | d + 1, .not e, h => by
    have hf := (X8q h).2 _ (List.mem_cons_self ..)
    cases he : e.isNull with
    | false =>
      have ih := X6u d e hf
      have h1 := (X5e (lo e 3) e.tk).2
      rw [Nat.pow_succ, X1c he, zy]
      omega
    | true =>
      cases e <;> first | (cases he; done) | skip
      rename_i x
      cases d with
      | zero => cases hf
      | succ d =>
        have ih := X6u d x ((X8q hf).2 _ (List.mem_cons_self ..))
        have h1 := (X5e (lo x 5) x.tk).2
        rw [Nat.pow_succ, Nat.pow_succ, Q5d, zx]
        simp only [zy, List.length_nil]
        omega
end Go.Print
namespace Go.Proofs.YtjdapkelojdefaaGreatDoor
open Go Go.V Go.Lex Go.Parse
def rdA (s : Rd) : Ob := .cells 80 [.sl .any (tksA s.l), .i s.d, .i s.c, .i s.a]
theorem hd_get {l : List Tk} (h : 0 < l.length) : (tksA l).getD 0 [] = tkA (hd l) := Y0b h
theorem p20 (ρ : Nat) (s : Rd) (σ : Sg) (hρ : σ ρ = some (rdA s)) : VCalls Tryz.prog 85 [.ref ρ 0] σ (fun x σ' => x = .b (decide (s.c = 0)) ∧ σ' = σ) := by
  unfold rdA at hρ
  (refine vfun (fun _ => .no) Q0h Tryz.func85 (by kernel_rfl) ?_; simp only [Q0f, Tryz.f85, zw])
  (have zz := Bx.mk (j5 ui3 ui80 ui47 ui30 hρ); (repeat' (first | exact zc | (with_reducible first | apply And.intro | apply Q0a | apply Q0b | refine Q0c (by decide +kernel) ?_ | intro _) | refine zaW zz.out ?_ | refine zo ?_ | omega | refine zt zz.out ?_ | fail)); try (all_goals clear zz))
  all_goals exact ⟨_, .refl _, rfl⟩
theorem p21 (ρ : Nat) (s : Rd) (σ : Sg) (hρ : σ ρ = some (rdA s)) (hl : 0 < s.l.length) : VCalls Tryz.prog 86 [.ref ρ 0] σ (fun x σ' => x = .agg (tkA (hd s.l)) ∧ σ' = σ) := by
  unfold rdA at hρ
  have hg := hd_get hl
  generalize hd s.l = t at *
  have ht : tkA t = [.i t.1, .s (bs t.2.1), .i t.2.2.1, .i t.2.2.2] := rfl
  rw [ht] at hg
  (refine vfun (fun _ => .no) Q0h Tryz.func86 (by kernel_rfl) ?_; simp only [Q0f, Tryz.f86, zw])
  (have zz := Bx.mk (j2 ui3 (j9 ui80 ui47 ui30 ui56 Q0u ui9 hρ @Q0y hg)); (repeat' (first | exact zc | (with_reducible first | apply And.intro | apply Q0a | apply Q0b | refine Q0c (by decide +kernel) ?_ | intro _) | refine zaW zz.out ?_ | refine zo ?_ | omega | refine zt zz.out ?_ | fail)); try (all_goals clear zz))
  all_goals (exact zE)
theorem Q7s (s : Rd) : rdA s = .cells 80 [.sl .any (tksA s.l), .i s.d, .i s.c, .i s.a] := rfl
theorem p14 (ρ : Nat) (s : Rd) (e : Int) (σ : Sg) (hρ : σ ρ = some (rdA s)) (hl : 0 < s.l.length) : VCalls Tryz.prog 38 [.ref ρ 0, .i e] σ (fun x σ' => x = .tup [] ∧ σ' = σ.set ρ (rdA (s.fail e))) := by
  have h20 := p20 ρ s σ hρ
  have h21 := p21 ρ s σ hρ hl
  have hρ' := hρ
  rw [Q7s] at hρ
  by_cases hc : s.c = 0
  · rw [decide_eq_true hc] at h20
    have hf : s.fail e = { s with c := e, a := ((hd s.l).2.2.2 : Int) } := if_pos hc
    rw [hf]
    have ht : tkA (hd s.l) = [.i (hd s.l).1, .s (bs (hd s.l).2.1), .i (hd s.l).2.2.1, .i (hd s.l).2.2.2] := rfl
    rw [ht] at h21
    generalize hd s.l = t at *
    (refine vfun (fun _ => .no) Q0h Tryz.func38 (by kernel_rfl) ?_; simp only [Q0f, Tryz.f38, zw])
    (have zz := Bx.mk (j9 ui3 ui80 ui47 ui30 ui56 Q0u ui9 hρ @Q0y); (repeat' (first | exact zc | (with_reducible first | apply And.intro | apply Q0a | apply Q0b | refine Q0c (by decide +kernel) ?_ | intro _) | refine zaW zz.out ?_ | ((first | ((with_reducible refine h20.mono ?_); rintro _ S ⟨rfl, rfl⟩) | ((with_reducible refine h21.mono ?_); rintro _ S ⟨rfl, rfl⟩)); (try refine zs zz.out ?_)) | refine zo ?_ | omega | refine zt zz.out ?_ | fail)); try (all_goals clear zz))
    all_goals exact ⟨_, .refl _, rfl⟩
  · rw [decide_eq_false hc] at h20
    have hf : s.fail e = s := if_neg hc
    rw [hf]
    (refine vfun (fun _ => .no) Q0h Tryz.func38 (by kernel_rfl) ?_; simp only [Q0f, Tryz.f38, zw])
    (have zz := Bx.mk (j9 ui3 ui80 ui47 ui30 ui56 Q0u ui9 hρ @Q0y); (repeat' (first | exact zc | (with_reducible first | apply And.intro | apply Q0a | apply Q0b | refine Q0c (by decide +kernel) ?_ | intro _) | refine zaW zz.out ?_ | (((with_reducible refine h20.mono ?_); rintro _ S ⟨rfl, rfl⟩); (try refine zs zz.out ?_)) | refine zo ?_ | omega | refine zt zz.out ?_ | fail)); try (all_goals clear zz))
    all_goals exact ⟨_, .refl _, (Sg.set_id hρ').symm⟩
theorem p40 (ρ : Nat) (s : Rd) (o : Own) (ws : List By) (es : List (List AV)) (σ : Sg) (he : es = strs ws) (hρ : σ ρ = some (rdA s)) (hl : 0 < s.l.length) (hw : ws.length < 2 ^ 60) : VCalls Tryz.prog 136 [.ref ρ 0, .sl o es] σ (fun x σ' => x = .i (s.is ws) ∧ σ' = σ) := by
  subst he
  have h20 := fun β o' (hβ : σ β = none) => p20 ρ s (σ.set β o') (at1 hρ hβ)
  have h21 := p21 ρ s σ hρ hl
  have ht : tkA (hd s.l) = [.i (hd s.l).1, .s (bs (hd s.l).2.1), .i (hd s.l).2.2.1, .i (hd s.l).2.2.2] := rfl
  rw [ht] at h21
  have h65 := fun σ => t116 ws o (hd s.l).2.1 σ hw
  unfold Rd.is
  generalize hd s.l = t at *
  by_cases hc : s.c = 0
  · simp only [decide_eq_true hc] at h20
    by_cases h2 : t.1 = 2 ∨ t.1 = 5
    · rw [if_neg (by omega)]
      (refine vfun (fun _ => .no) Q0h Tryz.func136 (by kernel_rfl) ?_; simp only [Q0f, Tryz.f136, zw])
      (have zz := Bx.mk (j9 ui3 ui80 ui47 ui30 ui56 Q0u ui9 hρ @Q0y); (repeat' (first | exact zc | (with_reducible first | apply And.intro | apply Q0a | apply Q0b | refine Q0c (by decide +kernel) ?_ | intro _) | refine zaW zz.out ?_ | ((first | ((with_reducible refine h21.mono ?_); rintro _ S ⟨rfl, rfl⟩) | ((with_reducible refine (h20 _ _ (by assumption)).mono ?_); rintro _ S ⟨rfl, rfl⟩) | ((with_reducible refine (h65 _).mono ?_); rintro _ S ⟨rfl, rfl⟩)); (try refine zs zz.out ?_)) | refine zo ?_ | omega | refine zt zz.out ?_ | fail)); try (all_goals clear zz))
      all_goals (exact zE)
    · rw [if_pos (by omega)]
      (refine vfun (fun _ => .no) Q0h Tryz.func136 (by kernel_rfl) ?_; simp only [Q0f, Tryz.f136, zw])
      (have zz := Bx.mk (j9 ui3 ui80 ui47 ui30 ui56 Q0u ui9 hρ @Q0y); (repeat' (first | exact zc | (with_reducible first | apply And.intro | apply Q0a | apply Q0b | refine Q0c (by decide +kernel) ?_ | intro _) | refine zaW zz.out ?_ | ((first | ((with_reducible refine h21.mono ?_); rintro _ S ⟨rfl, rfl⟩) | ((with_reducible refine (h20 _ _ (by assumption)).mono ?_); rintro _ S ⟨rfl, rfl⟩) | ((with_reducible refine (h65 _).mono ?_); rintro _ S ⟨rfl, rfl⟩)); (try refine zs zz.out ?_)) | refine zo ?_ | omega | refine zt zz.out ?_ | fail)); try (all_goals clear zz))
      all_goals (exact zE)
  · simp only [decide_eq_false hc] at h20
    rw [if_pos (.inl hc)]
    (refine vfun (fun _ => .no) Q0h Tryz.func136 (by kernel_rfl) ?_; simp only [Q0f, Tryz.f136, zw])
    (have zz := Bx.mk (j9 ui3 ui80 ui47 ui30 ui56 Q0u ui9 hρ @Q0y); (repeat' (first | exact zc | (with_reducible first | apply And.intro | apply Q0a | apply Q0b | refine Q0c (by decide +kernel) ?_ | intro _) | refine zaW zz.out ?_ | ((first | ((with_reducible refine h21.mono ?_); rintro _ S ⟨rfl, rfl⟩) | ((with_reducible refine (h20 _ _ (by assumption)).mono ?_); rintro _ S ⟨rfl, rfl⟩)); (try refine zs zz.out ?_)) | refine zo ?_ | omega | refine zt zz.out ?_ | fail)); try (all_goals clear zz))
    all_goals (exact zE)
theorem Y0j (s : Rd) (ws : List By) : s.pass ws = if 0 ≤ s.is ws then s.next else s := rfl
theorem X5s (s : Rd) : rdA s.next = .cells 80 [.sl .any (tksA s.l.tail), .i s.d, .i s.c, .i s.a] := rfl
theorem Q1x (l : List Tk) : (tksA l).drop 1 = tksA l.tail := by cases l <;> rfl
theorem p22 (ρ : Nat) (s : Rd) (o : Own) (ws : List By) (es : List (List AV)) (σ : Sg) (he : es = strs ws) (hρ : σ ρ = some (rdA s)) (hl : 0 < s.l.length) (hw : ws.length < 2 ^ 60) : VCalls Tryz.prog 87 [.ref ρ 0, .sl o es] σ (fun x σ' => x = .i (s.is ws) ∧ σ' = σ.set ρ (rdA (s.pass ws))) := by
  have h40 := p40 ρ s o ws es σ he hρ hl hw
  subst he
  have hρ' := hρ
  rw [Q7s] at hρ
  rw [Y0j]
  by_cases hc : 0 ≤ s.is ws
  · rw [if_pos hc, X5s]
    generalize s.is ws = k at *
    (refine vfun (fun _ => .no) Q0h Tryz.func87 (by kernel_rfl) ?_; simp only [Q0f, Tryz.f87, zw])
    repeat' (first | with_reducible rfl | exact .inr trivial | with_reducible apply And.intro | with_reducible apply Q0a | with_reducible apply Q0b | with_reducible refine Q0c (by decide +kernel) ?_ | with_reducible intro _ | ((first | (with_reducible first | refine .rs ?_ | refine .ds (by kernel_rfl) ?_ | refine .dg (by kernel_rfl) ?_ | refine .rg ?_ | refine .ite ?_ | refine .ret ?_ | refine .skip ?_ | refine .exit ?_ | refine .scope ?_ | refine .seq (.label ?_) | refine .block ?_ | refine .seq ?_) | (simp (disch := first | assumption | (apply Go.Cert.ne_of2; assumption; assumption) | (apply Go.Cert.ne_ob; assumption; assumption; (intro e; cases e; done)) | omega) only [w64, w8, tg_eq, Go.V.n1, Go.V.n2, Go.V.nn, Int.tdiv_eq_ediv_of_nonneg, Sg.set_same, Sg.set_ne, Sg.set_ne', Sg.del_ne, Sg.del_ne']) | ((with_reducible refine h40.mono ?_); rintro _ S ⟨rfl, rfl⟩)); (try simp only [vO, vQ, ↓vP, vE, vS, vB, vL, vF, vM, vN, Q0g, zb, zd, ze, ne_eq, not_false_eq_true, zf, zg, zk, zl, Z3, Q2c, Z80, Q6b, Z47, Q5s, Z30, Q4f, Z56, Q5t, Z102, Q2r, Z9, Q2f, hρ, Q0y, Q1x, Q1q, Own.cut, vT])) | with_reducible refine Q1h ?_ | with_reducible refine Q0w (fun _ _ => ?_) | with_reducible refine Q1l (fun _ => ?_) (fun _ => ?_) | omega | ((with_reducible first | refine Q5c ?_ | refine Q3f ?_ | refine Q1v ?_ | refine Q3g ?_ | refine Q0v ?_); simp only [vO, vQ, ↓vP, vE, vS, vB, vL, vF, vM, vN, Q0g, zb, zd, ze, ne_eq, not_false_eq_true, zf, zg, zk, zl, Z3, Q2c, Z80, Q6b, Z47, Q5s, Z30, Q4f, Z56, Q5t, Z102, Q2r, Z9, Q2f, hρ, Q0y, Q1x, Q1q, Own.cut, vT]))
    all_goals (exact zE)
  · rw [if_neg hc]
    generalize s.is ws = k at *
    rw [Sg.set_id hρ']
    (refine vfun (fun _ => .no) Q0h Tryz.func87 (by kernel_rfl) ?_; simp only [Q0f, Tryz.f87, zw])
    (have zz := Bx.mk (j3 ui3 ui80 (j9 ui47 ui30 ui56 Q0u ui9 hρ @Q0y @Q1x @Q1q)); (repeat' (first | exact zc | (with_reducible first | apply And.intro | apply Q0a | apply Q0b | refine Q0c (by decide +kernel) ?_ | intro _) | refine zaW zz.out ?_ | (((with_reducible refine h40.mono ?_); rintro _ S ⟨rfl, rfl⟩); (try refine zs zz.out ?_)) | refine zo ?_ | omega | refine zt zz.out ?_ | fail)); try (all_goals clear zz))
    all_goals (exact zE)
theorem pass1 (s : Rd) (w : By) : s.pass [w] = if s.has w then s.next else s := by
  unfold Rd.has Rd.pass
  by_cases h : 0 ≤ s.is [w]
  · rw [if_pos h, if_pos (decide_eq_true h)]
  · rw [if_neg h, if_neg (by simp; omega)]
theorem p13 (ρ : Nat) (s : Rd) (w : By) (σ : Sg) (hρ : σ ρ = some (rdA s)) (hl : 0 < s.l.length) : VCalls Tryz.prog 37 [.ref ρ 0, .s (bs w)] σ (fun x σ' => x = .b (s.has w) ∧ σ' = σ.set ρ (rdA (if s.has w then s.next else s))) := by
  have h22 := fun es he => p22 ρ s .full [w] es σ he hρ hl (by simp)
  rw [pass1] at h22
  cases hb : s.has w with
  | true =>
    have hk : 0 ≤ s.is [w] := of_decide_eq_true hb
    simp only [hb, if_true] at h22 ⊢
    generalize s.is [w] = k at *
    (refine vfun (fun _ => .no) Q0h Tryz.func37 (by kernel_rfl) ?_; simp only [Q0f, Tryz.f37, zw])
    (have zz := Bx.mk (j4 ui3 ui80 ui75 ui9); (repeat' (first | exact zc | (with_reducible first | apply And.intro | apply Q0a | apply Q0b | refine Q0c (by decide +kernel) ?_ | intro _) | refine zaW zz.out ?_ | (((with_reducible refine (h22 _ (by with_unfolding_all rfl)).mono ?_); rintro _ S ⟨rfl, rfl⟩); (try refine zs zz.out ?_)) | refine zo ?_ | omega | refine zt zz.out ?_ | fail)); try (all_goals clear zz))
    exact ⟨_, .refl _, b_eq (by simpa using hk), rfl⟩
  | false =>
    have hk : ¬ 0 ≤ s.is [w] := of_decide_eq_false hb
    simp only [hb, Bool.false_eq_true, if_false] at h22 ⊢
    generalize s.is [w] = k at *
    (refine vfun (fun _ => .no) Q0h Tryz.func37 (by kernel_rfl) ?_; simp only [Q0f, Tryz.f37, zw])
    (have zz := Bx.mk (j4 ui3 ui80 ui75 ui9); (repeat' (first | exact zc | (with_reducible first | apply And.intro | apply Q0a | apply Q0b | refine Q0c (by decide +kernel) ?_ | intro _) | refine zaW zz.out ?_ | (((with_reducible refine (h22 _ (by with_unfolding_all rfl)).mono ?_); rintro _ S ⟨rfl, rfl⟩); (try refine zs zz.out ?_)) | refine zo ?_ | omega | refine zt zz.out ?_ | fail)); try (all_goals clear zz))
    exact ⟨_, .refl _, b_eq (by simpa using hk), rfl⟩
theorem must_step {s : Rd} {ws : List By} {k : Nat} (h : k < ws.length) : s.must (ws.drop k) = Rd.must (if s.has (ws.getD k []) then s.next else s.fail 4) (ws.drop (k + 1)) := by
  have hg : ws.getD k [] = ws[k] := by simp [List.getD_eq_getElem?_getD, List.getElem?_eq_getElem h]
  rw [hg, List.drop_eq_getElem_cons h]
  rfl
theorem p41 (ρ : Nat) (s : Rd) (o : Own) (ws : List By) (es : List (List AV)) (σ : Sg) (he : es = strs ws) (hρ : σ ρ = some (rdA s)) (hl : WF s.l) (hw : ws.length < 2 ^ 60) : VCalls Tryz.prog 137 [.ref ρ 0, .sl o es] σ (fun x σ' => x = .tup [] ∧ σ' = σ.set ρ (rdA (s.must ws))) := by
  subst he
  (refine vfun (fun _ => .no) Q0h Tryz.func137 (by kernel_rfl) ?_; simp only [Q0f, Tryz.f137, zw])
  (have zz := Bx.mk (j4 ui3 ui75 ui9 @Q4l); (repeat' (first | exact zc | (with_reducible first | apply And.intro | apply Q0a | apply Q0b | refine Q0c (by decide +kernel) ?_ | intro _) | refine zaW zz.out ?_ | refine zo ?_ | omega | refine zt zz.out ?_ | fail)); try (all_goals clear zz))
  refine VW.loop3 (0 : Nat) s () (fun k s' _ => k ≤ ws.length ∧ s'.must (ws.drop k) = s.must ws ∧ WF s'.l) (fun k _ _ => [(0, .ref ρ 0), (6, .sl o (strs ws)), (7, .i ws.length), (8, .i k)]) (fun _ s' _ => σ.set ρ (rdA s')) (fun k _ _ => ws.length - k) ⟨by omega, by simp, hl⟩ (by rw [Sg.set_id hρ]; exact .refl _) ?_ ?_
  · simp only [vO, vQ, ↓vP, vE, vS, vB, vL, vF, vM, vN, Q0g, zb, zd, ze, ne_eq, not_false_eq_true, zf, zg, zk, zl, vT]
    all_goals rfl
  rintro k s' _ ⟨h1, h2, h3⟩
  have hρ' : (σ.set ρ (rdA s')) ρ = some (rdA s') := Sg.set_same _ _ _
  rcases Nat.lt_or_ge k ws.length with hk | hk
  · have hg := Q9x hk
    have h13 := p13 ρ s' (ws.getD k []) _ hρ' h3.pos
    have hm := must_step (s := s') hk
    rw [hm] at h2
    cases hb : s'.has (ws.getD k []) with
    | true =>
      simp only [hb, if_true, Sg.set_set] at h13 h2
      (have zz := Bx.mk (j5 ui3 ui75 ui9 @Q4l hg); (repeat' (first | exact zc | (with_reducible first | apply And.intro | apply Q0a | apply Q0b | refine Q0c (by decide +kernel) ?_ | intro _) | refine zaW zz.out ?_ | (((with_reducible refine h13.mono ?_); rintro _ S ⟨rfl, rfl⟩); (try refine zs zz.out ?_)) | refine zo ?_ | omega | refine zt zz.out ?_ | fail)); try (all_goals clear zz))
      exact ⟨k + 1, s'.next, (), ⟨⟨hk, h2, (X1b h3 hb).wf⟩, by omega⟩, .refl _, rfl⟩
    | false =>
      simp only [hb, Bool.false_eq_true, if_false, Sg.set_set] at h13 h2
      have h14 := p14 ρ s' 4 _ hρ' h3.pos
      rw [Sg.set_set] at h14
      (have zz := Bx.mk (j5 ui3 ui75 ui9 @Q4l hg); (repeat' (first | exact zc | (with_reducible first | apply And.intro | apply Q0a | apply Q0b | refine Q0c (by decide +kernel) ?_ | intro _) | refine zaW zz.out ?_ | ((first | ((with_reducible refine h13.mono ?_); rintro _ S ⟨rfl, rfl⟩) | ((with_reducible refine h14.mono ?_); rintro _ S ⟨rfl, rfl⟩)); (try refine zs zz.out ?_)) | refine zo ?_ | omega | refine zt zz.out ?_ | fail)); try (all_goals clear zz))
      exact ⟨k + 1, s'.fail 4, (), ⟨⟨hk, h2, (Q6n h3 4).wf⟩, by omega⟩, .refl _, rfl⟩
  · (have zz := Bx.mk (j4 ui3 ui75 ui9 @Q4l); (repeat' (first | exact zc | (with_reducible first | apply And.intro | apply Q0a | apply Q0b | refine Q0c (by decide +kernel) ?_ | intro _) | refine zaW zz.out ?_ | refine zo ?_ | omega | refine zt zz.out ?_ | fail)); try (all_goals clear zz))
    rw [List.drop_of_length_le hk] at h2
    exact ⟨_, .refl _, by rw [← h2]; rfl⟩
theorem X8r (t : Tk) : tkA t = [.i t.1, .s (bs t.2.1), .i t.2.2.1, .i t.2.2.2] := rfl
theorem p52 (ρ : Nat) (s : Rd) (k : Nat) (σ : Sg) (hρ : σ ρ = some (rdA s)) (hl : 0 < s.l.length) : VCalls Tryz.prog 148 [.ref ρ 0, .i k] σ (fun x σ' => x = .agg (tkA (s.tok k)) ∧ σ' = σ.set ρ (rdA (s.take k))) := by
  have h20 := fun β o' (hβ : σ β = none) => p20 ρ s (σ.set β o') (at1 hρ hβ)
  have h21 := fun β o' (hβ : σ β = none) => p21 ρ s (σ.set β o') (at1 hρ hβ) hl
  have h14 := fun β o' (hβ : σ β = none) => p14 ρ s 4 (σ.set β o') (at1 hρ hβ) hl
  unfold Rd.tok Rd.take
  have hk : s.takes k ↔ s.c = 0 ∧ (hd s.l).1 = k := Iff.rfl
  simp only [hk]
  rw [X8r] at h21
  have hrd := X5s s
  have hρ' := hρ
  rw [Q7s] at hρ
  have e0 : tkA (0, [], 0, 0) = [.i 0, .s (bs []), .i 0, .i 0] := rfl
  by_cases hc : s.c = 0
  · simp only [decide_eq_true hc] at h20
    by_cases hk : (hd s.l).1 = k
    · rw [if_pos ⟨hc, hk⟩, if_pos ⟨hc, hk⟩, X8r, hrd]
      generalize hd s.l = t at *
      (refine vfun (fun _ => .no) Q0h Tryz.func148 (by kernel_rfl) ?_; simp only [Q0f, Tryz.f148, zw])
      repeat' (first | with_reducible rfl | exact .inr trivial | with_reducible apply And.intro | with_reducible apply Q0a | with_reducible apply Q0b | with_reducible refine Q0c (by decide +kernel) ?_ | with_reducible intro _ | ((first | (with_reducible first | refine .rs ?_ | refine .ds (by kernel_rfl) ?_ | refine .dg (by kernel_rfl) ?_ | refine .rg ?_ | refine .ite ?_ | refine .ret ?_ | refine .skip ?_ | refine .exit ?_ | refine .scope ?_ | refine .seq (.label ?_) | refine .block ?_ | refine .seq ?_) | (simp (disch := first | assumption | (apply Go.Cert.ne_of2; assumption; assumption) | (apply Go.Cert.ne_ob; assumption; assumption; (intro e; cases e; done)) | omega) only [w64, w8, tg_eq, Go.V.n1, Go.V.n2, Go.V.nn, Int.tdiv_eq_ediv_of_nonneg, Sg.set_same, Sg.set_ne, Sg.set_ne', Sg.del_ne, Sg.del_ne']) | ((with_reducible refine (h20 _ _ (by assumption)).mono ?_); rintro _ S ⟨rfl, rfl⟩) | ((with_reducible refine (h21 _ _ (by assumption)).mono ?_); rintro _ S ⟨rfl, rfl⟩) | (refine Q0d (by exact zK) ?_) | (refine Q0e (by exact zK) ?_)); (try simp only [vO, vQ, ↓vP, vE, vS, vB, vL, vF, vM, vN, Q0g, zb, zd, ze, ne_eq, not_false_eq_true, zf, zg, zk, zl, Z3, Q2c, Z80, Q6b, Z47, Q5s, Z30, Q4f, Z56, Q5t, Z102, Q2r, Z9, Q2f, hρ, Q0y, Q1x, Q1q, Own.cut, vT])) | with_reducible refine Q1h ?_ | with_reducible refine Q0w (fun _ _ => ?_) | with_reducible refine Q1l (fun _ => ?_) (fun _ => ?_) | omega | ((with_reducible first | refine Q5c ?_ | refine Q3f ?_ | refine Q1v ?_ | refine Q3g ?_ | refine Q0v ?_); simp only [vO, vQ, ↓vP, vE, vS, vB, vL, vF, vM, vN, Q0g, zb, zd, ze, ne_eq, not_false_eq_true, zf, zg, zk, zl, Z3, Q2c, Z80, Q6b, Z47, Q5s, Z30, Q4f, Z56, Q5t, Z102, Q2r, Z9, Q2f, hρ, Q0y, Q1x, Q1q, Own.cut, vT]))
      all_goals (exact zE)
    · rw [if_neg (fun h => hk h.2), if_neg (fun h => hk h.2), e0]
      generalize hd s.l = t at *
      (refine vfun (fun _ => .no) Q0h Tryz.func148 (by kernel_rfl) ?_; simp only [Q0f, Tryz.f148, zw])
      (have zz := Bx.mk (j9 ui3 ui80 ui47 ui30 ui56 Q0u ui9 hρ @Q0y); (repeat' (first | exact zc | (with_reducible first | apply And.intro | apply Q0a | apply Q0b | refine Q0c (by decide +kernel) ?_ | intro _) | refine zaW zz.out ?_ | ((first | ((with_reducible refine (h20 _ _ (by assumption)).mono ?_); rintro _ S ⟨rfl, rfl⟩) | ((with_reducible refine (h21 _ _ (by assumption)).mono ?_); rintro _ S ⟨rfl, rfl⟩) | ((with_reducible refine (h14 _ _ (by assumption)).mono ?_); rintro _ S ⟨rfl, rfl⟩) | (refine Q0d (by exact zK) ?_) | (refine Q0e (by exact zK) ?_)); (try refine zs zz.out ?_)) | refine zo ?_ | omega | refine zt zz.out ?_ | fail)); try (all_goals clear zz))
      all_goals (exact zE)
  · simp only [decide_eq_false hc] at h20
    rw [if_neg (fun h => hc h.1), if_neg (fun h => hc h.1), e0]
    (refine vfun (fun _ => .no) Q0h Tryz.func148 (by kernel_rfl) ?_; simp only [Q0f, Tryz.f148, zw])
    (have zz := Bx.mk (j9 ui3 ui80 ui47 ui30 ui56 Q0u ui9 hρ @Q0y); (repeat' (first | exact zc | (with_reducible first | apply And.intro | apply Q0a | apply Q0b | refine Q0c (by decide +kernel) ?_ | intro _) | refine zaW zz.out ?_ | ((first | ((with_reducible refine (h20 _ _ (by assumption)).mono ?_); rintro _ S ⟨rfl, rfl⟩) | ((with_reducible refine (h21 _ _ (by assumption)).mono ?_); rintro _ S ⟨rfl, rfl⟩) | ((with_reducible refine (h14 _ _ (by assumption)).mono ?_); rintro _ S ⟨rfl, rfl⟩) | (refine Q0d (by exact zK) ?_) | (refine Q0e (by exact zK) ?_)); (try refine zs zz.out ?_)) | refine zo ?_ | omega | refine zt zz.out ?_ | fail)); try (all_goals clear zz))
    all_goals (exact zE)
end Go.Proofs.YtjdapkelojdefaaGreatDoor
namespace Go.Parse
open Go.V Go.Lex Go.Proofs.YtjdapkelojdefaaGreatDoor
mutual
def exA : Ex → List AV
  | .mk k op t n v args => [.i k, .i op, .s (bs t), .s (bs n), .i v.1, .i v.2.1, .s (bs v.2.2), .sl .any (exsA args)]
def exsA : List Ex → List (List AV)
  | [] => []
  | e :: r => exA e :: exsA r
end
theorem Q5l (k op : Int) (t n : By) (v : Vl) (args : List Ex) : exA (.mk k op t n v args) = [.i k, .i op, .s (bs t), .s (bs n), .i v.1, .i v.2.1, .s (bs v.2.2), .sl .any (exsA args)] := by rw [exA]
theorem Q0s : exsA [] = [] := by rw [exsA]
theorem Q2e (e : Ex) (r : List Ex) : exsA (e :: r) = exA e :: exsA r := by rw [exsA]
theorem Q0r (e : Ex) : (exA e).length = 8 := by cases e; rw [Q5l]; rfl
theorem Q0q (e : Ex) : (exA e).take 8 = exA e := List.take_of_length_le (by rw [Q0r]; omega)
theorem Q0x (e : Ex) : (exA e).drop 8 = [] := List.drop_of_length_le (by rw [Q0r]; omega)
theorem Q1f (e : Ex) : (exA e).all AV.one = true := by cases e; rw [Q5l]; rfl
theorem Q1y : ∀ l : List Ex, (exsA l).length = l.length
  | [] => by rw [Q0s]; rfl
  | e :: r => by rw [Q2e, zy, Q1y r, zy]
def exK (o : Own) : Ex → List AV
  | .mk k op t n v args => [.i k, .i op, .s (bs t), .s (bs n), .i v.1, .i v.2.1, .s (bs v.2.2), .sl o (exsA args)]
theorem Q3e (o : Own) (k op : Int) (t n : By) (v : Vl) (args : List Ex) : exK o (.mk k op t n v args) = [.i k, .i op, .s (bs t), .s (bs n), .i v.1, .i v.2.1, .s (bs v.2.2), .sl o (exsA args)] := rfl
theorem AVw.ex (o : Own) (e : Ex) : AVw (.agg (exK o e)) (.agg (exA e)) := by
  cases e
  rw [Q5l, Q3e]
  refine AVw.agg rfl (fun i x x' h1 h2 => ?_)
  match i with
  | 0 => cases h1; cases h2; exact AVw.refl _
  | 1 => cases h1; cases h2; exact AVw.refl _
  | 2 => cases h1; cases h2; exact AVw.refl _
  | 3 => cases h1; cases h2; exact AVw.refl _
  | 4 => cases h1; cases h2; exact AVw.refl _
  | 5 => cases h1; cases h2; exact AVw.refl _
  | 6 => cases h1; cases h2; exact AVw.refl _
  | 7 => cases h1; cases h2; exact AVw.any _ _
  | i + 8 => simp at h1
end Go.Parse
namespace Go.Proofs.YtjdapkelojdefaaGreatDoor
open Go Go.V Go.Lex Go.Parse
theorem Q8u {f : FuncId} {args : List AV} {e : Ex} {σ S : Sg} (h : VCalls Tryz.prog f args σ (fun x σ' => ∃ o, x = .agg (exK o e) ∧ S.sub σ')) : VCalls Tryz.prog f args σ (fun x σ' => x = .agg (exA e) ∧ σ' = S) :=
  h.lose fun x σ' hx => by
    obtain ⟨o, rfl, hs⟩ := hx
    exact ⟨_, S, AVw.ex o e, hs, rfl, rfl⟩
theorem Q5u : ∃ z, Q0l Tryz.prog 26 = some (some z, 8, 104) ∧ ofValue z = .agg (exK .nil ex0) := ⟨_, info26, by unfold ex0; rw [Q3e, Q0s]; rfl⟩
theorem zero24 : ∃ z, Q0l Tryz.prog 23 = some (some z, 3, 32) ∧ ofValue z = .agg [.i 0, .i 0, .s (bs [])] := ⟨_, info23, by rfl⟩
theorem p42 (ρ : Nat) (s : Rd) (σ : Sg) (hρ : σ ρ = some (rdA s)) (hl : 0 < s.l.length) : VCalls Tryz.prog 138 [.ref ρ 0] σ (fun x σ' => x = .s (bs (s.tok 1).2.1) ∧ σ' = σ.set ρ (rdA (s.take 1))) := by
  have h52 : VCalls Tryz.prog 148 [.ref ρ 0, .i 1] σ _ := p52 ρ s 1 σ hρ hl
  rw [X8r] at h52
  (refine vfun (fun _ => .no) Q0h Tryz.func138 (by kernel_rfl) ?_; simp only [Q0f, Tryz.f138, zw])
  (have zz := Bx.mk (j4 ui3 ui80 Q0u ui9); (repeat' (first | exact zc | (with_reducible first | apply And.intro | apply Q0a | apply Q0b | refine Q0c (by decide +kernel) ?_ | intro _) | refine zaW zz.out ?_ | (((with_reducible refine h52.mono ?_); rintro _ S ⟨rfl, rfl⟩); (try refine zs zz.out ?_)) | refine zo ?_ | omega | refine zt zz.out ?_ | fail)); try (all_goals clear zz))
  all_goals (exact zE)
theorem opA {e f : Ex} : exsA [e, f] = [exA e, exA f] := by rw [Q2e, Q2e, Q0s]
theorem ofA {e : Ex} : exsA [e] = [exA e] := by rw [Q2e, Q0s]
theorem p62 (k : Int) (e : Ex) (σ : Sg) : VCalls Tryz.prog 168 [.i k, .agg (exA e)] σ (fun x σ' => x = .agg (exA (ofE k e)) ∧ σ' = σ) := by
  refine Q8u ?_
  obtain ⟨z27, h27, hz27⟩ := Q5u
  have hl := Q0r e
  have ho := Q1f e
  have ht := Q0q e
  have hd := Q0x e
  have hA := ofA (e := e)
  simp only [ofE, ex0, Q3e, Q0s, hA] at hz27 ⊢
  generalize exA e = E at *
  (refine vfun (fun _ => .no) Q0h Tryz.func168 (by kernel_rfl) ?_; simp only [Q0f, Tryz.f168, zw])
  (have zz := Bx.mk (j3 ui3 Tryz.underlying26 (j9 h27 hz27 ui24 ui23 ui9 hl ho ht hd)); (repeat' (first | exact zc | (with_reducible first | apply And.intro | apply Q0a | apply Q0b | refine Q0c (by decide +kernel) ?_ | intro _) | refine zaW zz.out ?_ | refine zo ?_ | omega | refine zt zz.out ?_ | fail)); try (all_goals clear zz))
  all_goals (refine ⟨_, .refl _, _, rfl, ?_⟩; (first | exact Sg.sub.refl _ | ((repeat (first | exact Sg.sub.refl _ | refine Sg.sub.set_both ?_ | refine Sg.sub.set_fresh ?_ (by first | assumption | exact Sg.set_none (by assumption) (by first | assumption | (apply Go.Cert.ne_of2a; assumption; assumption))))); done) | (intro y p hy; simp only [Sg.set_apply, Sg.del_apply] at hy ⊢; grind)))
theorem p68 (ρ : Nat) (s : Rd) (σ : Sg) (hρ : σ ρ = some (rdA s)) (hl : WF s.l) : VCalls Tryz.prog 174 [.ref ρ 0] σ (fun x σ' => x = .agg (exA s.column.1) ∧ σ' = σ.set ρ (rdA s.column.2)) := by
  refine Q8u ?_
  obtain ⟨z27, h27, hz27⟩ := Q5u
  have o1 := Q4y (k := 1) hl (by decide)
  have h42 := fun β o' (hβ : σ β = none) => p42 ρ s (σ.set β o') (at1 hρ hβ) hl.pos
  have h13 : ∀ S, S ρ = some (rdA (s.take 1)) → VCalls Tryz.prog 37 [.ref ρ 0, .s (bs [46])] S _ := fun S hS => p13 ρ (s.take 1) [46] S hS o1.wf.pos
  unfold Rd.column
  generalize (s.tok 1).2.1 = t at *
  cases hb : (s.take 1).has [46] with
  | true =>
    have o2 := X1b o1.wf hb
    simp only [hb, if_true] at h13 ⊢
    have h42b := fun S hS => p42 ρ (s.take 1).next S hS o2.wf.pos
    generalize ((s.take 1).next.tok 1).2.1 = u at *
    generalize (s.take 1).next.take 1 = s3 at *
    generalize (s.take 1).next = s2 at *
    generalize s.take 1 = s1 at *
    simp only [ex0, Q3e, Q0s] at hz27 ⊢
    (refine vfun (fun _ => .no) Q0h Tryz.func174 (by kernel_rfl) ?_; simp only [Q0f, Tryz.f174, zw])
    (have zz := Bx.mk (j7 ui3 Tryz.underlying26 h27 hz27 ui24 ui23 ui9); (repeat' (first | exact zc | (with_reducible first | apply And.intro | apply Q0a | apply Q0b | refine Q0c (by decide +kernel) ?_ | intro _) | refine zaW zz.out ?_ | ((first | ((with_reducible refine (h42 _ _ (by assumption)).mono ?_); rintro _ S ⟨rfl, rfl⟩) | ((with_reducible refine (h13 _ (by exact zK)).mono ?_); rintro _ S ⟨rfl, rfl⟩) | ((with_reducible refine (h42b _ (by exact zK)).mono ?_); rintro _ S ⟨rfl, rfl⟩) | (refine Q0d (by exact zK) ?_) | (refine Q0e (by exact zK) ?_)); (try refine zs zz.out ?_)) | refine zo ?_ | omega | refine zt zz.out ?_ | fail)); try (all_goals clear zz))
    all_goals (refine ⟨_, .refl _, _, rfl, ?_⟩; (first | exact Sg.sub.refl _ | ((repeat (first | exact Sg.sub.refl _ | refine Sg.sub.set_both ?_ | refine Sg.sub.set_fresh ?_ (by first | assumption | exact Sg.set_none (by assumption) (by first | assumption | (apply Go.Cert.ne_of2a; assumption; assumption))))); done) | (intro y p hy; simp only [Sg.set_apply, Sg.del_apply] at hy ⊢; grind)))
  | false =>
    simp only [hb, Bool.false_eq_true, if_false] at h13 ⊢
    generalize s.take 1 = s1 at *
    simp only [ex0, Q3e, Q0s] at hz27 ⊢
    (refine vfun (fun _ => .no) Q0h Tryz.func174 (by kernel_rfl) ?_; simp only [Q0f, Tryz.f174, zw])
    (have zz := Bx.mk (j7 ui3 Tryz.underlying26 h27 hz27 ui24 ui23 ui9); (repeat' (first | exact zc | (with_reducible first | apply And.intro | apply Q0a | apply Q0b | refine Q0c (by decide +kernel) ?_ | intro _) | refine zaW zz.out ?_ | ((first | ((with_reducible refine (h42 _ _ (by assumption)).mono ?_); rintro _ S ⟨rfl, rfl⟩) | ((with_reducible refine (h13 _ (by exact zK)).mono ?_); rintro _ S ⟨rfl, rfl⟩) | (refine Q0d (by exact zK) ?_) | (refine Q0e (by exact zK) ?_)); (try refine zs zz.out ?_)) | refine zo ?_ | omega | refine zt zz.out ?_ | fail)); try (all_goals clear zz))
    all_goals (refine ⟨_, .refl _, _, rfl, ?_⟩; (first | exact Sg.sub.refl _ | ((repeat (first | exact Sg.sub.refl _ | refine Sg.sub.set_both ?_ | refine Sg.sub.set_fresh ?_ (by first | assumption | exact Sg.set_none (by assumption) (by first | assumption | (apply Go.Cert.ne_of2a; assumption; assumption))))); done) | (intro y p hy; simp only [Sg.set_apply, Sg.del_apply] at hy ⊢; grind)))
end Go.Proofs.YtjdapkelojdefaaGreatDoor
namespace Go.Proofs.YtjdapkelojdefaaGreatDoor
open Go Go.V Go.Lex Go.Parse Go.Print
theorem ex_val (v : Vl) : exA (Tr.val v).ex = [.i 1, .i 0, .s (bs []), .s (bs []), .i v.1, .i v.2.1, .s (bs v.2.2), .sl .any []] := by rw [Tr.ex, Q5l, Q0s]
theorem ex_col (t n : By) : exA (Tr.col t n).ex = [.i 2, .i 0, .s (bs t), .s (bs n), .i 0, .i 0, .s (bs []), .sl .any []] := by rw [Tr.ex, Q5l, Q0s]
theorem ex_op (k : Nat) (a b : Tr) : exA (Tr.op k a b).ex = [.i 3, .i k, .s (bs []), .s (bs []), .i 0, .i 0, .s (bs []), .sl .any [exA a.ex, exA b.ex]] := by rw [Tr.ex, Q5l, opA]
theorem ex_not (e : Tr) : exA (Tr.not e).ex = [.i 4, .i 0, .s (bs []), .s (bs []), .i 0, .i 0, .s (bs []), .sl .any [exA e.ex]] := by rw [Tr.ex, Q5l, ofA]
theorem ex_neg (e : Tr) : exA (Tr.neg e).ex = [.i 5, .i 0, .s (bs []), .s (bs []), .i 0, .i 0, .s (bs []), .sl .any [exA e.ex]] := by rw [Tr.ex, Q5l, ofA]
theorem ex_null (e : Tr) : exA (Tr.null e).ex = [.i 6, .i 0, .s (bs []), .s (bs []), .i 0, .i 0, .s (bs []), .sl .any [exA e.ex]] := by rw [Tr.ex, Q5l, ofA]
theorem ex_form (e : Ex) : ∃ (op : Int) (t n : By) (v : Vl) (l : List Ex), exA e = [.i e.kd, .i op, .s (bs t), .s (bs n), .i v.1, .i v.2.1, .s (bs v.2.2), .sl .any (exsA l)] := by
  cases e with
  | mk k op t n v l => exact ⟨op, t, n, v, l, Q5l _ _ _ _ _ _⟩
theorem kd_null (e : Tr) : e.ex.kd = 6 ↔ e.isNull = true := by
  cases e <;> simp [Tr.ex, Ex.kd, Tr.isNull]
theorem Q6o (t : Tr) (hw : t.wf) (E : List AV) (hE : E = exA t.ex) (σ : Sg) : VCalls Tryz.prog 50 [.agg E] σ (fun x σ' => x = .i t.lvl ∧ σ' = σ) := by
  subst hE
  cases t with
  | val v =>
    rw [ex_val]
    (refine vfun (fun _ => .ro) Q0h Tryz.func50 (by kernel_rfl) ?_; simp only [Q0f, Tryz.f50, zw])
    (have zz := Bx.mk (j9 ui0 ui3 ui4 ui9 ui22 ui23 ui24 ui25 ui26); (repeat' (first | exact zc | (with_reducible first | apply And.intro | apply Q0a | apply Q0b | refine Q0c (by decide +kernel) ?_ | intro _) | refine zaY zz.out ?_ | ((first | (refine Q0d (by exact zK) ?_) | (refine Q0e (by exact zK) ?_)); (try refine zsY zz.out ?_)) | refine zo ?_ | omega | refine ztY zz.out ?_ | fail)); try (all_goals clear zz))
    all_goals exact ⟨_, .refl _, rfl, rfl⟩
  | col t n =>
    rw [ex_col]
    (refine vfun (fun _ => .ro) Q0h Tryz.func50 (by kernel_rfl) ?_; simp only [Q0f, Tryz.f50, zw])
    (have zz := Bx.mk (j9 ui0 ui3 ui4 ui9 ui22 ui23 ui24 ui25 ui26); (repeat' (first | exact zc | (with_reducible first | apply And.intro | apply Q0a | apply Q0b | refine Q0c (by decide +kernel) ?_ | intro _) | refine zaY zz.out ?_ | ((first | (refine Q0d (by exact zK) ?_) | (refine Q0e (by exact zK) ?_)); (try refine zsY zz.out ?_)) | refine zo ?_ | omega | refine ztY zz.out ?_ | fail)); try (all_goals clear zz))
    all_goals exact ⟨_, .refl _, rfl, rfl⟩
  | neg e =>
    rw [ex_neg]
    (refine vfun (fun _ => .ro) Q0h Tryz.func50 (by kernel_rfl) ?_; simp only [Q0f, Tryz.f50, zw])
    (have zz := Bx.mk (j9 ui0 ui3 ui4 ui9 ui22 ui23 ui24 ui25 ui26); (repeat' (first | exact zc | (with_reducible first | apply And.intro | apply Q0a | apply Q0b | refine Q0c (by decide +kernel) ?_ | intro _) | refine zaY zz.out ?_ | ((first | (refine Q0d (by exact zK) ?_) | (refine Q0e (by exact zK) ?_)); (try refine zsY zz.out ?_)) | refine zo ?_ | omega | refine ztY zz.out ?_ | fail)); try (all_goals clear zz))
    all_goals exact ⟨_, .refl _, rfl, rfl⟩
  | null e =>
    rw [ex_null]
    (refine vfun (fun _ => .ro) Q0h Tryz.func50 (by kernel_rfl) ?_; simp only [Q0f, Tryz.f50, zw])
    (have zz := Bx.mk (j9 ui0 ui3 ui4 ui9 ui22 ui23 ui24 ui25 ui26); (repeat' (first | exact zc | (with_reducible first | apply And.intro | apply Q0a | apply Q0b | refine Q0c (by decide +kernel) ?_ | intro _) | refine zaY zz.out ?_ | ((first | (refine Q0d (by exact zK) ?_) | (refine Q0e (by exact zK) ?_)); (try refine zsY zz.out ?_)) | refine zo ?_ | omega | refine ztY zz.out ?_ | fail)); try (all_goals clear zz))
    all_goals exact ⟨_, .refl _, rfl, rfl⟩
  | not e =>
    rw [ex_not]
    have hk := kd_null e
    obtain ⟨op, t, n, v, l, h⟩ := ex_form e.ex
    rw [h]
    cases he : e.isNull with
    | false =>
      rw [Y0f he]
      have hk : ¬ e.ex.kd = 6 := fun h => by rw [hk.1 h] at he; cases he
      (refine vfun (fun _ => .ro) Q0h Tryz.func50 (by kernel_rfl) ?_; simp only [Q0f, Tryz.f50, zw])
      (have zz := Bx.mk (j2 ui0 (j9 ui3 ui4 ui9 ui22 ui23 ui24 ui25 ui26 hk)); (repeat' (first | exact zc | (with_reducible first | apply And.intro | apply Q0a | apply Q0b | refine Q0c (by decide +kernel) ?_ | intro _) | refine zaY zz.out ?_ | ((first | (refine Q0d (by exact zK) ?_) | (refine Q0e (by exact zK) ?_)); (try refine zsY zz.out ?_)) | refine zo ?_ | omega | refine ztY zz.out ?_ | fail)); try (all_goals clear zz))
      all_goals exact ⟨_, .refl _, rfl, rfl⟩
    | true =>
      have hl : (Tr.not e).lvl = 4 := by cases e <;> first | (cases he; done) | rfl
      rw [hl, hk.2 he]
      (refine vfun (fun _ => .ro) Q0h Tryz.func50 (by kernel_rfl) ?_; simp only [Q0f, Tryz.f50, zw])
      (have zz := Bx.mk (j9 ui0 ui3 ui4 ui9 ui22 ui23 ui24 ui25 ui26); (repeat' (first | exact zc | (with_reducible first | apply And.intro | apply Q0a | apply Q0b | refine Q0c (by decide +kernel) ?_ | intro _) | refine zaY zz.out ?_ | ((first | (refine Q0d (by exact zK) ?_) | (refine Q0e (by exact zK) ?_)); (try refine zsY zz.out ?_)) | refine zo ?_ | omega | refine ztY zz.out ?_ | fail)); try (all_goals clear zz))
      all_goals exact ⟨_, .refl _, rfl, rfl⟩
  | op k a b =>
    rw [ex_op]
    have hk := hw.1
    (refine vfun (fun _ => .ro) Q0h Tryz.func50 (by kernel_rfl) ?_; simp only [Q0f, Tryz.f50, zw])
    (have zz := Bx.mk (j9 ui0 ui3 ui4 ui9 ui22 ui23 ui24 ui25 ui26); (repeat' (first | exact zc | (with_reducible first | apply And.intro | apply Q0a | apply Q0b | refine Q0c (by decide +kernel) ?_ | intro _) | refine zaY zz.out ?_ | ((first | (refine Q0d (by exact zK) ?_) | (refine Q0e (by exact zK) ?_)); (try refine zsY zz.out ?_)) | refine zo ?_ | omega | refine ztY zz.out ?_ | fail)); try (all_goals clear zz))
    all_goals (refine ⟨_, .refl _, i_eq ?_, rfl⟩; show _ = ((lvK k : Nat) : Int); rcases (by omega : k = 1 ∨ k = 2 ∨ k = 3 ∨ k = 4 ∨ k = 5 ∨ k = 6 ∨ k = 7 ∨ k = 8 ∨ k = 9 ∨ k = 10 ∨ k = 11 ∨ k = 12 ∨ k = 13) with rfl | rfl | rfl | rfl | rfl | rfl | rfl | rfl | rfl | rfl | rfl | rfl | rfl <;> first | rfl | (exfalso; omega))
theorem w_ops (σ : Sg) : VCalls Tryz.prog 51 [] σ (fun x σ' => x = .sl .full (strs ops) ∧ σ' = σ) := by
  (refine vfun (fun _ => .no) Q0h Tryz.func51 (by kernel_rfl) ?_; simp only [Q0f, Tryz.f51, zw])
  (have zz := Bx.mk (j2 ui9 ui75); (repeat' (first | exact zc | (with_reducible first | apply And.intro | apply Q0a | apply Q0b | refine Q0c (by decide +kernel) ?_ | intro _) | refine zaY zz.out ?_ | ((first | (refine Q0d (by exact zK) ?_) | (refine Q0e (by exact zK) ?_)); (try refine zsY zz.out ?_)) | refine zo ?_ | omega | refine ztY zz.out ?_ | fail)); try (all_goals clear zz))
  all_goals exact ⟨_, .refl _, rfl, rfl⟩
end Go.Proofs.YtjdapkelojdefaaGreatDoor
namespace Go.V
open Go.RowKit
variable {P : Program}
theorem VCalls.fr {f : FuncId} {args : List AV} {σ : Sg} {R' : AV → Sg → Prop} {X : Nat → AV} {S : Nat → Sg} (hc : VCalls P f args σ (fun x σ' => ∃ τ, σ τ = none ∧ x = X τ ∧ σ' = S τ)) (h : Q2k σ fun τ => R' (X τ) (S τ)) : VCalls P f args σ R' :=
  hc.mono (fun x σ' hx => by
    obtain ⟨τ, h0, rfl, rfl⟩ := hx
    exact h τ h0)
theorem allOne_app (a b : List (List AV)) (n : Nat) : Q5b (a ++ b) n = (Q5b a n ∧ Q5b b n) := propext ⟨fun h => ⟨fun e he => h e (List.mem_append_left _ he), fun e he => h e (List.mem_append_right _ he)⟩, fun h e he => (List.mem_append.1 he).elim (h.1 e) (h.2 e)⟩
theorem allLen_app (a b : List (List AV)) (n : Nat) : Q1t (a ++ b) n = (Q1t a n ∧ Q1t b n) := propext ⟨fun h => ⟨fun e he => h e (List.mem_append_left _ he), fun e he => h e (List.mem_append_right _ he)⟩, fun h e he => (List.mem_append.1 he).elim (h.1 e) (h.2 e)⟩
theorem allOne_cons (x : List AV) (b : List (List AV)) (n : Nat) : Q5b (x :: b) n = ((x.length = n ∧ (x.all AV.one) = true) ∧ Q5b b n) := propext ⟨fun h => ⟨h x (List.mem_cons_self ..), fun e he => h e (List.mem_cons_of_mem _ he)⟩, fun h e he => (List.mem_cons.1 he).elim (fun hh => hh ▸ h.1) (h.2 e)⟩
theorem allLen_cons (x : List AV) (b : List (List AV)) (n : Nat) : Q1t (x :: b) n = (x.length = n ∧ Q1t b n) := propext ⟨fun h => ⟨h x (List.mem_cons_self ..), fun e he => h e (List.mem_cons_of_mem _ he)⟩, fun h e he => (List.mem_cons.1 he).elim (fun hh => hh ▸ h.1) (h.2 e)⟩
theorem allOne_nil (n : Nat) : Q5b [] n = True := eq_true (fun e he => by cases he)
theorem allLen_nil (n : Nat) : Q1t [] n = True := eq_true (fun e he => by cases he)
end Go.V
namespace Go.Print
open Go.V Go.Lex Go.Parse Go.Proofs.YtjdapkelojdefaaGreatDoor
def stR (l : List Tk) (d : Nat) : Rd := ⟨l, (d : Int), 0, 0⟩
def RL (L : Nat) (D : Dp) : Pr := match L with | 1 => exL D | 2 => andL D | 3 => notL D | 4 => Q6m D | 5 => sumL D | 6 => X3e D | _ => facL D
def opsF (L : Nat) : List By :=
  [46] :: ((if L ≤ 6 then [[42], [47], [37]] else []) ++ ((if L ≤ 5 then [[43], [45]] else []) ++ ((if L ≤ 4 then tests else []) ++ ((if L ≤ 2 then [[65, 78, 68]] else []) ++ (if L ≤ 1 then [[79, 82]] else [])))))
def isW (x : Tk) (w : By) : Bool := decide ((x.1 = 2 ∨ x.1 = 5) ∧ x.2.1 = w)
def Stop (L : Nat) (r : List Tk) : Prop := ∀ w ∈ opsF L, isW (hd r) w = false
theorem Stop.mono {L M : Nat} {r : List Tk} (h : Stop L r) (hLM : L ≤ M) : Stop M r := fun w hw => h w (by
  unfold opsF at hw ⊢
  simp only [List.mem_cons, List.mem_append] at hw ⊢
  rcases hw with hw | hw | hw | hw | hw | hw
  · exact .inl hw
  · split at hw
    · exact .inr (.inl (by rw [if_pos (by omega)]; exact hw))
    · cases hw
  · split at hw
    · exact .inr (.inr (.inl (by rw [if_pos (by omega)]; exact hw)))
    · cases hw
  · split at hw
    · exact .inr (.inr (.inr (.inl (by rw [if_pos (by omega)]; exact hw))))
    · cases hw
  · split at hw
    · exact .inr (.inr (.inr (.inr (.inl (by rw [if_pos (by omega)]; exact hw)))))
    · cases hw
  · split at hw
    · exact .inr (.inr (.inr (.inr (.inr (by rw [if_pos (by omega)]; exact hw)))))
    · cases hw)
theorem X6v {m : By} : ∀ {ws : List By}, idx m ws < ws.length ↔ m ∈ ws
  | [] => by simp [idx]
  | a :: r => by
    have ih := X6v (m := m) (ws := r)
    unfold idx at ih ⊢
    rw [List.takeWhile_cons]
    by_cases h : a = m
    · subst h; simp
    · have hb : (a != m) = true := by simpa using h
      rw [if_pos hb]
      simp only [zy, Nat.add_lt_add_iff_right, List.mem_cons]
      rw [ih]
      exact ⟨fun hh => .inr hh, fun hh => hh.elim (fun e => absurd e.symm h) id⟩
theorem is_no {l : List Tk} {d : Nat} {ws : List By} (h : ∀ w ∈ ws, isW (hd l) w = false) : (stR l d).is ws = -1 := by
  unfold Rd.is
  by_cases hk : (hd l).1 ≠ 2 ∧ (hd l).1 ≠ 5
  · exact if_pos (.inr hk)
  · rw [if_neg (fun hh => hh.elim (fun h0 => h0 rfl) hk)]
    refine if_neg (fun hm => ?_)
    have := h _ (X6v.1 hm)
    unfold isW at this
    have := of_decide_eq_false this
    exact this ⟨by show (hd l).1 = 2 ∨ (hd l).1 = 5; omega, rfl⟩
theorem Q7t {l : List Tk} {d : Nat} {w : By} (h : isW (hd l) w = false) : (stR l d).has w = false := by
  unfold Rd.has
  rw [is_no (fun w' hw => by simp at hw; subst hw; exact h)]
  rfl
theorem Q4o {x : Tk} {l : List Tk} {d : Nat} {ws : List By} (h : x.1 = 2 ∨ x.1 = 5) (hi : x.2.1 ∈ ws) : (stR (x :: l) d).is ws = (idx x.2.1 ws : Nat) := by
  unfold Rd.is
  have e : hd (stR (x :: l) d).l = x := rfl
  rw [e, if_neg (fun hh => hh.elim (fun h0 => h0 rfl) (fun hk => by omega)), if_pos (X6v.2 hi)]
theorem Q4p {x : Tk} {l : List Tk} {d : Nat} {w : By} (h : isW x w = true) : (stR (x :: l) d).has w = true := by
  obtain ⟨h1, h2⟩ := of_decide_eq_true h
  unfold Rd.has
  rw [Q4o h1 (by rw [h2]; simp)]
  exact decide_eq_true (by omega)
theorem X0b (x : Tk) (l : List Tk) (d : Nat) : (stR (x :: l) d).next = stR l d := rfl
theorem pass1 (s : Rd) (w : By) : s.pass [w] = if s.has w then s.next else s := by
  unfold Rd.has Rd.pass
  by_cases h : 0 ≤ s.is [w]
  · rw [if_pos h, if_pos (decide_eq_true h)]
  · rw [if_neg h, if_neg (by simp; omega)]
theorem Q4t {x : Tk} {l : List Tk} {d : Nat} {w : By} (h : isW x w = true) : (stR (x :: l) d).pass [w] = stR l d := by
  rw [pass1, Q4p h]; rfl
theorem Q7u {l : List Tk} {d : Nat} {w : By} (h : isW (hd l) w = false) : (stR l d).pass [w] = stR l d := by
  rw [pass1, Q7t h]; rfl
theorem Q1c {x : Tk} {l : List Tk} {d : Nat} {w : By} (ws : List By) (h : isW x w = true) : (stR (x :: l) d).must (w :: ws) = (stR l d).must ws := by
  rw [Rd.must, Q4p h]; rfl
theorem Q2x (s : Rd) : s.must [] = s := rfl
theorem down_st {l : List Tk} {d : Nat} (h : d + 1 ≤ 10) : (stR l d).down = stR l (d + 1) := by
  unfold Rd.down
  have : ¬ ((stR l d).d + 1 > 10) := by show ¬ ((d : Int) + 1 > 10); omega
  rw [if_neg this]
  rfl
theorem up_st (l : List Tk) (d : Nat) : (stR l (d + 1)).up = stR l d := by
  show (⟨l, ((d + 1 : Nat) : Int) - 1, 0, 0⟩ : Rd) = ⟨l, (d : Int), 0, 0⟩
  rw [show ((d + 1 : Nat) : Int) - 1 = (d : Int) by omega]
theorem X6w {F : Pr} {l r : List Tk} {d : Nat} {e : Ex} (h : d + 1 ≤ 10) (hF : F (stR l (d + 1)) = (e, stR r (d + 1))) : Q2i F (stR l d) = (e, stR r d) := by
  unfold Q2i
  rw [down_st h, if_pos (show (stR l (d + 1)).c = 0 from rfl), hF]
  show (e, (stR r (d + 1)).up) = _
  rw [up_st]
theorem Q3p {x : Tk} {r : List Tk} (h : WF r) : WF (x :: r) := by
  cases r with
  | nil => exact h.elim
  | cons y r => exact h
theorem X8s : ∀ (a : List Tk) {r : List Tk}, WF r → WF (a ++ r)
  | [], r, h => h
  | x :: a, r, h => Q3p (X8s a h)
theorem dpS {d : Nat} (h : d + 1 ≤ 10) : dp (10 - d) = ⟨facL (dp (10 - (d + 1))), notL (dp (10 - (d + 1))), exL (dp (10 - (d + 1)))⟩ := by
  rw [show 10 - d = (10 - (d + 1)) + 1 by omega]; rfl
def fstM (M : Nat) : Int := if M = 1 then 1 else if M = 2 then 2 else if M = 5 then 9 else 11
def wsM (M : Nat) : List By := if M = 1 then [[79, 82]] else if M = 2 then [[65, 78, 68]] else if M = 5 then [[43], [45]] else [[42], [47], [37]]
def rowM (M : Nat) : Prop := M = 1 ∨ M = 2 ∨ M = 5 ∨ M = 6
theorem RL_row {M : Nat} (h : rowM M) (D : Dp) : RL M D = row (RL (M + 1) D) (fstM M) (wsM M) := by
  rcases h with rfl | rfl | rfl | rfl <;> rfl
theorem wsM_sub {M : Nat} (h : rowM M) {r : List Tk} (hs : Stop M r) : ∀ w ∈ wsM M, isW (hd r) w = false := fun w hw => hs w (by
  rcases h with rfl | rfl | rfl | rfl <;> simp [wsM] at hw <;> simp [opsF, hw] <;> (rcases hw with h | h | h <;> simp [h]) <;> (rcases hw with h | h <;> simp [h]))
theorem tests_sub {r : List Tk} (hs : Stop 4 r) : ∀ w ∈ tests, isW (hd r) w = false := fun w hw => hs w (by
  unfold opsF
  simp only [List.mem_cons, List.mem_append]
  exact .inr (.inr (.inr (.inl (by rw [if_pos (by omega)]; simpa using hw)))))
theorem rowL_stop {F : Pr} {first : Int} {ws : List By} {r : List Tk} {d : Nat} (n : Nat) (e : Ex) (h : ∀ w ∈ ws, isW (hd r) w = false) : rowL F first ws n e (stR r d) = (e, stR r d) := by
  cases n with
  | zero => rfl
  | succ n =>
    unfold rowL
    rw [is_no h]
    rfl
theorem lift1 {L : Nat} {D : Dp} {l r : List Tk} {d : Nat} {e : Ex} (h1 : 1 ≤ L) (h6 : L ≤ 6) (h : RL (L + 1) D (stR l d) = (e, stR r d)) (hs : Stop L r) (hn : L = 3 → isW (hd l) wNot = false) : RL L D (stR l d) = (e, stR r d) := by
  have hr : rowM L → RL L D (stR l d) = (e, stR r d) := fun hM => by
    rw [RL_row hM, row, h]
    exact rowL_stop _ _ (wsM_sub hM hs)
  rcases (by omega : L = 1 ∨ L = 2 ∨ L = 3 ∨ L = 4 ∨ L = 5 ∨ L = 6) with rfl | rfl | rfl | rfl | rfl | rfl
  · exact hr (.inl rfl)
  · exact hr (.inr (.inl rfl))
  · show notL D (stR l d) = _
    unfold notL
    rw [Q7t (hn rfl)]
    exact h
  · show Q6m D (stR l d) = _
    have h' : sumL D (stR l d) = (e, stR r d) := h
    unfold Q6m
    rw [h', is_no (tests_sub hs)]
    rfl
  · exact hr (.inr (.inr (.inl rfl)))
  · exact hr (.inr (.inr (.inr rfl)))
theorem lift {D : Dp} {l r : List Tk} {d : Nat} {e : Ex} : ∀ (k L : Nat), 1 ≤ L → L + k ≤ 7 → RL (L + k) D (stR l d) = (e, stR r d) → Stop L r → (L ≤ 3 → 4 ≤ L + k → isW (hd l) wNot = false) → RL L D (stR l d) = (e, stR r d)
  | 0, L, _, _, h, _, _ => h
  | k + 1, L, h1, h7, h, hs, hn => by
    refine lift1 h1 (by omega) (lift k (L + 1) (by omega) (by omega) (by rw [show L + 1 + k = L + (k + 1) by omega]; exact h) (hs.mono (by omega)) (fun h3 h4 => hn (by omega) (by omega))) hs (fun h3 => hn (by omega) (by omega))
def Rds (t : Tr) (d : Nat) : Prop := ∀ L r, 1 ≤ L → L ≤ t.lvl → WF r → Stop L r → RL L (dp (10 - d)) (stR (t.tk ++ r) d) = (t.ex, stR r d)
def RdsR (t : Tr) (d : Nat) : Prop := ∀ M r, rowM M → M ≤ t.lvl → WF r → Stop (M + 1) r →
  RL M (dp (10 - d)) (stR (t.tk ++ r) d) = rowL (RL (M + 1) (dp (10 - d))) (fstM M) (wsM M) r.length t.ex (stR r d)
theorem lvK_le (k : Nat) (h : 1 ≤ k) : 1 ≤ lvK k ∧ lvK k ≤ 6 ∧ lvK k ≠ 3 := by
  unfold lvK
  repeat' split
  all_goals omega
theorem lvl_le (t : Tr) (h : t.wf) : 1 ≤ t.lvl ∧ t.lvl ≤ 7 := by
  cases t with
  | op k a b => have := lvK_le k h.1.1; exact ⟨this.1, by show lvK k ≤ 7; omega⟩
  | not e => cases e <;> exact ⟨Nat.le_of_ble_eq_true rfl, Nat.le_of_ble_eq_true rfl⟩
  | _ => exact ⟨Nat.le_of_ble_eq_true rfl, Nat.le_of_ble_eq_true rfl⟩
theorem X8f : ∀ t : Tr, t.tk ≠ [] := fun t h => by
  have : t.tk.length = 0 := by rw [h]; rfl
  cases t with
  | val v =>
    have h1 := (X3h v).1
    rw [show (Tr.val v).tk = litT v from rfl] at this
    omega
  | col t n => rw [Tr.tk] at this; split at this <;> simp at this
  | null e => rw [X0a] at this; simp at this
  | neg e => rw [X3f] at this; simp at this
  | not e =>
    cases he : e.isNull with
    | false => rw [X1c he] at this; simp at this
    | true =>
      cases e <;> first | (cases he; done) | skip
      rw [Q5d] at this; simp at this
  | op k a b => rw [Y0g] at this; simp at this
theorem X1e {a r : List Tk} (h : a ≠ []) : hd (a ++ r) = hd a := by
  cases a with
  | nil => exact absurd rfl h
  | cons => rfl
theorem Y0k {b : Bool} {l : List Tk} (h : l ≠ []) : br b l ≠ [] := by
  cases b
  · exact h
  · simp [br]
theorem hd_br {b : Bool} {l : List Tk} {P : Tk → Prop} (h1 : P (sT [40])) (h2 : b = false → P (hd l)) : P (hd (br b l)) := by
  cases b
  · exact h2 rfl
  · exact h1
theorem noNot : ∀ t : Tr, t.wf → 4 ≤ t.lvl → isW (hd t.tk) wNot = false
  | .val v, _, _ => by
    show isW (hd (litT v)) wNot = false
    unfold litT numT
    repeat' split
    all_goals rfl
  | .col t n, _, _ => by
    rw [Tr.tk]
    split <;> rfl
  | .null e, h, _ => by
    rw [X0a, X1e (Y0k (X8f e))]
    refine hd_br (P := fun x => isW x wNot = false) rfl (fun hb => noNot e h ?_)
    have := of_decide_eq_false hb
    omega
  | .neg e, _, _ => by rw [X3f]; rfl
  | .not (.null x), h, _ => by
    rw [Q5d, X1e (Y0k (X8f x))]
    refine hd_br (P := fun x => isW x wNot = false) rfl (fun hb => noNot x h ?_)
    have := of_decide_eq_false hb
    omega
  | .not (.val _), _, h => by exact absurd h (by show ¬ 4 ≤ 3; omega)
  | .not (.col _ _), _, h => by exact absurd h (by show ¬ 4 ≤ 3; omega)
  | .not (.not _), _, h => by exact absurd h (by show ¬ 4 ≤ 3; omega)
  | .not (.neg _), _, h => by exact absurd h (by show ¬ 4 ≤ 3; omega)
  | .not (.op _ _ _), _, h => by exact absurd h (by show ¬ 4 ≤ 3; omega)
  | .op k a b, h, hl => by
    have hl : 4 ≤ lvK k := hl
    rw [Y0g, X1e (Y0k (X8f a))]
    refine hd_br (P := fun x => isW x wNot = false) rfl (fun hb => noNot a h.2.1 ?_)
    have := of_decide_eq_false hb
    unfold lftK at this
    split at this <;> omega
theorem noNum {t : Tr} (h : t.lvl = 7) (hw : t.wf) (hp : t.pos = false) : (hd t.tk).1 ≠ 3 := by
  cases t with
  | val v =>
    show (hd (litT v)).1 ≠ 3
    have hv : ¬ (v.1 = 1 ∧ 0 ≤ v.2.1) := of_decide_eq_false hp
    have hk : okV v = true := hw
    unfold okV X8o at hk
    simp only [Bool.and_eq_true, decide_eq_true_eq] at hk
    have hk := hk.1
    unfold litT numT
    by_cases h0 : v.1 = 0
    · rw [if_pos h0]; decide
    · rw [if_neg h0]
      by_cases h2 : v.1 = 2
      · rw [if_pos h2]; simp [hd]
      · rw [if_neg h2]
        split at hk
        · cases hk
        · rw [if_pos (by omega)]
          exact Nat.ne_of_beq_eq_false rfl
  | col t n => rw [Tr.tk]; split <;> exact Nat.ne_of_beq_eq_false rfl
  | neg e => rw [X3f]; exact (by decide : (5 : Nat) ≠ 3)
  | null e => exact absurd h (by show ¬ 4 = 7; omega)
  | not e =>
    cases he : e.isNull with
    | false => rw [Y0f he] at h; omega
    | true =>
      cases e <;> first | (cases he; done) | skip
      exact absurd h (by show ¬ 4 = 7; omega)
  | op k a b => have := lvK_le k hw.1.1; have h : lvK k = 7 := h; omega
theorem lit_no {l : List Tk} {d : Nat} (h3 : (hd l).1 ≠ 3) (h4 : (hd l).1 ≠ 4) (hm : isW (hd l) Q2m = false ∨ (l.getD 1 (0, [], 0, 0)).1 ≠ 3) (hn : isW (hd l) Q8t = false) : (stR l d).lit = (v0, false, stR l d) := by
  unfold Rd.lit
  rw [show (stR l d).l = l from rfl]
  rw [if_neg (fun h => h rfl), if_neg h3, if_neg h4]
  rw [if_pos (by
    rcases hm with hm | hm
    · left; rw [is_no (fun w hw => by simp at hw; subst hw; exact hm)]; decide
    · exact .inr hm), Q7t hn, Q7u hn]
theorem brk {D : Dp} {X r : List Tk} {d : Nat} {e : Ex} (h : d + 1 ≤ 10) (hF : D.ex (stR (X ++ sT [41] :: r) (d + 1)) = (e, stR (sT [41] :: r) (d + 1))) : facL D (stR (sT [40] :: (X ++ sT [41] :: r)) d) = (e, stR r d) := by
  unfold facL
  rw [lit_no (Nat.ne_of_beq_eq_false rfl) (Nat.ne_of_beq_eq_false rfl) (.inl rfl) rfl]
  have h1 : (stR (sT [40] :: (X ++ sT [41] :: r)) d).is [Q2m, [40]] = 1 := Q4o (.inr rfl) (by decide)
  simp only [h1, Bool.false_eq_true, if_false, Int.reduceEq, if_true, X0b]
  rw [X6w h hF]
  show (e, (stR (sT [41] :: r) d).must [[41]]) = _
  rw [Q1c [] rfl]
  rfl
theorem br_app (l r : List Tk) : br true l ++ r = sT [40] :: (l ++ sT [41] :: r) := by simp [br]
theorem stop_rp (L : Nat) (r : List Tk) : Stop L (sT [41] :: r) := fun w hw => by
  have : w ≠ [41] := fun e => by
    subst e
    unfold opsF at hw
    simp only [List.mem_cons, List.mem_append] at hw
    rcases hw with hw | hw | hw | hw | hw | hw
    · cases hw
    all_goals (split at hw <;> revert hw <;> decide)
  refine decide_eq_false (fun h => this ?_)
  exact h.2.symm
theorem rd_br {t : Tr} {d L : Nat} {r : List Tk} (hA : ∀ d', d' ≤ 10 → t.dp + d' ≤ 10 → Rds t d') (hw : t.wf) (h1 : 1 ≤ L) (h7 : L ≤ 7) (hd : bd (lo t L) + t.dp + d ≤ 10) (hr : WF r) (hs : Stop L r) :
    RL L (dp (10 - d)) (stR (br (lo t L) t.tk ++ r) d) = (t.ex, stR r d) := by
  cases hb : lo t L with
  | false =>
    have := of_decide_eq_false hb
    exact hA d (by omega) (by rw [hb] at hd; simp only [bd] at hd; omega) L r h1 (by omega) hr hs
  | true =>
    rw [hb] at hd
    have hd : 1 + t.dp + d ≤ 10 := hd
    rw [br_app]
    have hx := hA (d + 1) (by omega) (by omega) 1 (sT [41] :: r) (Nat.le_refl _) (lvl_le t hw).1 (Q3p hr) (stop_rp 1 r)
    have hf : facL (dp (10 - d)) (stR (sT [40] :: (t.tk ++ sT [41] :: r)) d) = (t.ex, stR r d) := brk (by omega) (by rw [dpS (by omega)]; exact hx)
    obtain ⟨k, hk⟩ : ∃ k, L + k = 7 := ⟨7 - L, by omega⟩
    exact lift k L h1 (by omega) (by rw [hk]; exact hf) hs (fun _ _ => rfl)
end Go.Print
