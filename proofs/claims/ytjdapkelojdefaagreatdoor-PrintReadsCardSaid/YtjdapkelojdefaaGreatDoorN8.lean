/- Part 8 of the proof: B2, E1, G1, K17, G4, G3, G6, G7, G8, G9, G10. -/
import Derived.Test.YtjdapkelojdefaaGreatDoorN6

set_option linter.all false
open List renaming length_append → zw, length_cons → zx, cons_append → zC, nil_append → zD
namespace Go.Parse
open Go.V Go.Lex Go.Proofs.YtjdapkelojdefaaGreatDoor
abbrev By := List UInt8
structure Rd where
  l : List Tk
  d : Int
  c : Int
  a : Int
def hd (l : List Tk) : Tk := l.getD 0 (0, [], 0, 0)
def Rd.next (s : Rd) : Rd := { s with l := s.l.tail }
def Rd.fail (s : Rd) (e : Int) : Rd := if s.c = 0 then { s with c := e, a := ((hd s.l).2.2.2 : Int) } else s
def Rd.is (s : Rd) (ws : List By) : Int :=
  if s.c ≠ 0 ∨ ((hd s.l).1 ≠ 2 ∧ (hd s.l).1 ≠ 5) then -1 else if idx (hd s.l).2.1 ws < ws.length then (idx (hd s.l).2.1 ws : Nat) else -1
def Rd.pass (s : Rd) (ws : List By) : Rd := if 0 ≤ s.is ws then s.next else s
def Rd.has (s : Rd) (w : By) : Bool := decide (0 ≤ s.is [w])
def Rd.must (s : Rd) : List By → Rd
  | [] => s
  | w :: ws => Rd.must (if s.has w then s.next else s.fail 4) ws
def Rd.takes (s : Rd) (k : Nat) : Prop := s.c = 0 ∧ (hd s.l).1 = k
instance (s : Rd) (k : Nat) : Decidable (s.takes k) := by unfold Rd.takes; infer_instance
def Rd.tok (s : Rd) (k : Nat) : Tk := if s.takes k then hd s.l else (0, [], 0, 0)
def Rd.take (s : Rd) (k : Nat) : Rd := if s.takes k then s.next else s.fail 4
abbrev Vl := Int × Int × By
abbrev v0 : Vl := (0, 0, [])
abbrev Q2i : By := [45]
abbrev Q7d : By := [78, 85, 76, 76]
abbrev wNot : By := [78, 79, 84]
def Rd.lit (s : Rd) : Vl × Bool × Rd :=
  if s.c ≠ 0 then (v0, false, s) else
  if (hd s.l).1 = 3 then ((1, ((hd s.l).2.2.1 : Nat), []), true, s.next) else
  if (hd s.l).1 = 4 then ((2, 0, (hd s.l).2.1), true, s.next) else
  if s.is [Q2i] < 0 ∨ (s.l.getD 1 (0, [], 0, 0)).1 ≠ 3 then (v0, s.has Q7d, s.pass [Q7d]) else
  ((1, IntKind.i64.wrap (0 - ((s.l.getD 1 (0, [], 0, 0)).2.2.1 : Int)), []), true, s.next.next)
inductive Ex
  | mk (k op : Int) (t n : By) (v : Vl) (args : List Ex)
abbrev ex0 : Ex := .mk 0 0 [] [] v0 []
abbrev ofE (k : Int) (e : Ex) : Ex := .mk k 0 [] [] v0 [e]
abbrev opE (op : Int) (e f : Ex) : Ex := .mk 3 op [] [] v0 [e, f]
abbrev Pr := Rd → Ex × Rd
def Rd.column : Pr := fun s =>
  if (s.take 1).has [46] then (.mk 2 0 (s.tok 1).2.1 ((s.take 1).next.tok 1).2.1 v0 [], (s.take 1).next.take 1) else (.mk 2 0 [] (s.tok 1).2.1 v0 [], s.take 1)
def Rd.down (s : Rd) : Rd := if s.d + 1 > 10 then Rd.fail { s with d := s.d + 1 } 10 else { s with d := s.d + 1 }
def Rd.up (s : Rd) : Rd := { s with d := s.d - 1 }
def Q1u (one : Pr) : Pr := fun s => if s.down.c = 0 then ((one s.down).1, (one s.down).2.up) else (ex0, s.down.up)
def rowL (below : Pr) (first : Int) (ws : List By) : Nat → Ex → Rd → Ex × Rd
  | 0, e, s => (e, s)
  | n + 1, e, s => if 0 ≤ s.is ws then rowL below first ws n (opE (first + s.is ws) e (below s.next).1) (below s.next).2 else (e, s)
def row (below : Pr) (first : Int) (ws : List By) : Pr := fun s => rowL below first ws (below s).2.l.length (below s).1 (below s).2
structure Dp where
  fac : Pr
  not : Pr
  ex : Pr
def facL (D : Dp) : Pr := fun s =>
  if s.lit.2.1 then (.mk 1 0 [] [] s.lit.1 [], s.lit.2.2) else
  if s.lit.2.2.is [Q2i, [40]] = 0 then (ofE 5 (Q1u D.fac (s.lit.2.2.next)).1, (Q1u D.fac (s.lit.2.2.next)).2) else
  if s.lit.2.2.is [Q2i, [40]] = 1 then ((Q1u D.ex (s.lit.2.2.next)).1, (Q1u D.ex (s.lit.2.2.next)).2.must [[41]]) else
  s.lit.2.2.column
def X3h (D : Dp) : Pr := row (facL D) 11 [[42], [47], [37]]
def sumL (D : Dp) : Pr := row (X3h D) 9 [[43], [45]]
abbrev tests : List By := [[61], [60, 62], [60], [60, 61], [62], [62, 61], [73, 83]]
def isNull (e : Ex) (s : Rd) : Ex × Rd :=
  if s.has wNot then (ofE 4 (ofE 6 e), s.next.must [Q7d]) else (ofE 6 e, s.must [Q7d])
def Q5q (D : Dp) : Pr := fun s =>
  if (sumL D s).2.is tests < 0 then sumL D s else
  if 3 + (sumL D s).2.is tests ≤ 8 then (opE (3 + (sumL D s).2.is tests) (sumL D s).1 (sumL D (sumL D s).2.next).1, (sumL D (sumL D s).2.next).2) else
  isNull (sumL D s).1 (sumL D s).2.next
def notL (D : Dp) : Pr := fun s => if s.has wNot then (ofE 4 (Q1u D.not s.next).1, (Q1u D.not s.next).2) else Q5q D s
def andL (D : Dp) : Pr := row (notL D) 2 [[65, 78, 68]]
def exL (D : Dp) : Pr := row (andL D) 1 [[79, 82]]
def dp : Nat → Dp
  | 0 => ⟨fun s => (ex0, s), fun s => (ex0, s), fun s => (ex0, s)⟩
  | n + 1 => ⟨facL (dp n), notL (dp n), exL (dp n)⟩
def rd0 (l : List Tk) : Rd := ⟨l, 0, 0, 0⟩
def Rd.fin (s : Rd) : Rd := if s.c = 0 ∧ (hd s.l).1 ≠ 6 then s.fail 4 else s
def oneT (l : List Tk) : Ex × Rd := (((dp 11).ex (rd0 l)).1, ((dp 11).ex (rd0 l)).2.fin)
def WF : List Tk → Prop
  | [] => False
  | [t] => t.1 = 6
  | _ :: r => WF r
theorem WF.tail {l : List Tk} (h : WF l) (hk : (hd l).1 ≠ 6) : WF l.tail ∧ l.tail.length + 1 = l.length := by
  match l, h with
  | [t], h => exact absurd h hk
  | t :: u :: r, h => exact ⟨h, rfl⟩
theorem WF.pos {l : List Tk} (h : WF l) : 0 < l.length := by
  match l, h with
  | t :: r, _ => simp
structure Ok (s s' : Rd) : Prop where
  d : s'.d = s.d
  wf : WF s'.l
  le : s'.l.length ≤ s.l.length
  c : s.c ≠ 0 → s'.c = s.c ∧ s'.a = s.a
  suf : s'.l <:+ s.l
theorem Ok.refl {s : Rd} (h : WF s.l) : Ok s s := ⟨rfl, h, Nat.le_refl _, fun _ => ⟨rfl, rfl⟩, List.suffix_refl _⟩
theorem Ok.trans {a b c : Rd} (h : Ok a b) (k : Ok b c) : Ok a c :=
  ⟨k.d.trans h.d, k.wf, Nat.le_trans k.le h.le, fun hc => ⟨(k.c (by rw [(h.c hc).1]; exact hc)).1.trans (h.c hc).1, (k.c (by rw [(h.c hc).1]; exact hc)).2.trans (h.c hc).2⟩, k.suf.trans h.suf⟩
def Nice (F : Pr) : Prop := ∀ s, WF s.l → Ok s (F s).2
theorem X1h {s : Rd} {ws : List By} (h : 0 ≤ s.is ws) : s.c = 0 ∧ ((hd s.l).1 = 2 ∨ (hd s.l).1 = 5) ∧ idx (hd s.l).2.1 ws < ws.length ∧ s.is ws = (idx (hd s.l).2.1 ws : Nat) := by
  unfold Rd.is at h ⊢
  split at h
  · omega
  · rename_i h1
    split at h
    · rename_i h2
      rw [if_neg h1, if_pos h2]
      refine ⟨?_, ?_, h2, rfl⟩
      · exact Classical.byContradiction fun hc => h1 (.inl hc)
      · rcases Classical.em ((hd s.l).1 = 2) with h3 | h3
        · exact .inl h3
        · exact .inr (Classical.byContradiction fun h4 => h1 (.inr ⟨h3, h4⟩))
    · omega
theorem Y0c (s : Rd) (ws : List By) : -1 ≤ s.is ws ∧ s.is ws < ws.length := by
  unfold Rd.is
  split
  · omega
  · split <;> omega
theorem X6v {s : Rd} (hw : WF s.l) (hk : (hd s.l).1 ≠ 6) (hc : s.c = 0) : Ok s s.next :=
  ⟨rfl, (hw.tail hk).1, by have := (hw.tail hk).2; show s.l.tail.length ≤ _; omega, fun h => absurd hc h, List.tail_suffix _⟩
theorem X0u {s : Rd} {ws : List By} (hw : WF s.l) (h : 0 ≤ s.is ws) : Ok s s.next := by
  obtain ⟨h1, h2, _⟩ := X1h h
  exact X6v hw (by omega) h1
theorem Q5r {s : Rd} (hw : WF s.l) (e : Int) : Ok s (s.fail e) := by
  unfold Rd.fail
  split
  · rename_i h
    exact ⟨rfl, hw, Nat.le_refl _, fun h' => absurd h h', List.suffix_refl _⟩
  · exact .refl hw
theorem Q8s {s : Rd} {w : By} (hw : WF s.l) (h : s.has w = true) : Ok s s.next := X0u hw (of_decide_eq_true h)
theorem Q2h {s : Rd} {ws : List By} (hw : WF s.l) : Ok s (s.pass ws) := by
  unfold Rd.pass
  split
  · exact X0u hw ‹_›
  · exact .refl hw
theorem Q0w : ∀ (ws : List By) (s : Rd), WF s.l → Ok s (s.must ws)
  | [], s, hw => .refl hw
  | w :: ws, s, hw => by
    unfold Rd.must
    split
    · rename_i h
      exact (Q8s hw h).trans (Q0w ws _ (Q8s hw h).wf)
    · exact (Q5r hw 4).trans (Q0w ws _ (Q5r hw 4).wf)
theorem Q2m {s : Rd} {k : Nat} (hw : WF s.l) (hk : k ≠ 6) : Ok s (s.take k) := by
  unfold Rd.take
  split
  · rename_i h
    exact X6v hw (by rw [h.2]; exact hk) h.1
  · exact Q5r hw 4
theorem ok_lit {s : Rd} (hw : WF s.l) : Ok s s.lit.2.2 := by
  unfold Rd.lit
  split
  · exact .refl hw
  · rename_i hc
    have hc : s.c = 0 := Classical.byContradiction hc
    split
    · rename_i h; exact X6v hw (by omega) hc
    · split
      · rename_i h; exact X6v hw (by omega) hc
      · split
        · exact Q2h hw
        · rename_i h
          have h1 : 0 ≤ s.is [Q2i] := by
            rcases Int.lt_or_le (s.is [Q2i]) 0 with h' | h'
            · exact absurd (.inl h') h
            · exact h'
          have h2 : (s.l.getD 1 (0, [], 0, 0)).1 = 3 := Classical.byContradiction fun h' => h (.inr h')
          have o1 := X0u hw h1
          refine o1.trans (X6v o1.wf ?_ hc)
          have : hd s.next.l = s.l.getD 1 (0, [], 0, 0) := by
            unfold hd Rd.next
            rw [List.getD_eq_getElem?_getD, List.getD_eq_getElem?_getD, List.getElem?_tail]
          rw [this]; omega
theorem X2t : Nice Rd.column := fun s hw => by
  have o1 := Q2m (k := 1) hw (by decide)
  unfold Rd.column
  split
  · rename_i h
    have o2 := Q8s o1.wf h
    exact (o1.trans o2).trans (Q2m o2.wf (by decide))
  · exact o1
theorem down_ok {s : Rd} (hw : WF s.l) : s.down.d = s.d + 1 ∧ WF s.down.l ∧ s.down.l = s.l ∧ (s.c ≠ 0 → s.down.c = s.c ∧ s.down.a = s.a) := by
  unfold Rd.down
  split
  · have o := Q5r (s := { s with d := s.d + 1 }) hw 10
    refine ⟨o.d, o.wf, ?_, o.c⟩
    unfold Rd.fail
    split <;> rfl
  · exact ⟨rfl, hw, rfl, fun _ => ⟨rfl, rfl⟩⟩
theorem Q8c {F : Pr} (h : Nice F) : Nice (Q1u F) := fun s hw => by
  obtain ⟨h1, h2, h3, h4⟩ := down_ok hw
  unfold Q1u
  split
  · have o := h s.down h2
    refine ⟨?_, o.wf, by rw [← h3]; exact o.le, fun hc => ?_, by rw [← h3]; exact o.suf⟩
    · show (F s.down).2.d - 1 = s.d
      rw [o.d, h1]; omega
    · rename_i h0; exact absurd ((h4 hc).1.symm.trans h0) hc
  · refine ⟨?_, h2, ?_, fun hc => h4 hc, by rw [← h3]; exact List.suffix_refl _⟩
    · show s.down.d - 1 = s.d
      omega
    · show s.down.l.length ≤ s.l.length
      rw [h3]; exact Nat.le_refl _
theorem Y0d {F : Pr} (h : Nice F) (first : Int) (ws : List By) : ∀ (n : Nat) (e : Ex) (s : Rd), WF s.l → Ok s (rowL F first ws n e s).2
  | 0, e, s, hw => .refl hw
  | n + 1, e, s, hw => by
    unfold rowL
    split
    · rename_i h0
      have o1 := X0u hw h0
      have o2 := h s.next o1.wf
      exact (o1.trans o2).trans (Y0d h first ws n _ _ o2.wf)
    · exact .refl hw
theorem Q6q {F : Pr} (h : Nice F) (first : Int) (ws : List By) : Nice (row F first ws) := fun s hw => (h s hw).trans (Y0d h first ws _ _ _ (h s hw).wf)
structure Dp.Nice (D : Dp) : Prop where
  fac : Go.Parse.Nice D.fac
  not : Go.Parse.Nice D.not
  ex : Go.Parse.Nice D.ex
theorem Q8t {D : Dp} (h : D.Nice) : Nice (facL D) := fun s hw => by
  have o := ok_lit hw
  unfold facL
  split
  · exact o
  · split
    · rename_i h0
      have o1 := X0u (ws := [Q2i, [40]]) o.wf (by omega)
      exact (o.trans o1).trans (Q8c h.fac _ o1.wf)
    · split
      · rename_i h0
        have o1 := X0u (ws := [Q2i, [40]]) o.wf (by omega)
        have o2 := Q8c h.ex _ o1.wf
        exact ((o.trans o1).trans o2).trans (Q0w _ _ o2.wf)
      · exact o.trans (X2t _ o.wf)
theorem X3i {D : Dp} (h : D.Nice) : Nice (sumL D) := Q6q (Q6q (Q8t h) _ _) _ _
theorem ok_isNull {e : Ex} {s : Rd} (hw : WF s.l) : Ok s (isNull e s).2 := by
  unfold isNull
  split
  · rename_i h
    exact (Q8s hw h).trans (Q0w _ _ (Q8s hw h).wf)
  · exact Q0w _ _ hw
theorem nice_test {D : Dp} (h : D.Nice) : Nice (Q5q D) := fun s hw => by
  have o := X3i h s hw
  unfold Q5q
  split
  · exact o
  · rename_i h0
    have o1 := X0u (ws := tests) o.wf (by omega)
    split
    · exact (o.trans o1).trans (X3i h _ o1.wf)
    · exact (o.trans o1).trans (ok_isNull o1.wf)
theorem Q8u {D : Dp} (h : D.Nice) : Nice (notL D) := fun s hw => by
  unfold notL
  split
  · rename_i h0
    exact (Q8s hw h0).trans (Q8c h.not _ (Q8s hw h0).wf)
  · exact nice_test h s hw
theorem nice_ex {D : Dp} (h : D.Nice) : Nice (exL D) := Q6q (Q6q (Q8u h) _ _) _ _
theorem Q9h : ∀ n, (dp n).Nice
  | 0 => ⟨fun s hw => .refl hw, fun s hw => .refl hw, fun s hw => .refl hw⟩
  | n + 1 => ⟨Q8t (Q9h n), Q8u (Q9h n), nice_ex (Q9h n)⟩
theorem X6w {F : Pr} (h : Nice F) (first : Int) (ws : List By) : ∀ (n m : Nat) (e : Ex) (s : Rd), WF s.l → s.l.length ≤ n → s.l.length ≤ m → rowL F first ws n e s = rowL F first ws m e s
  | 0, _, e, s, hw, hn, _ => absurd hw.pos (by omega)
  | _, 0, e, s, hw, _, hm => absurd hw.pos (by omega)
  | n + 1, m + 1, e, s, hw, hn, hm => by
    unfold rowL
    split
    · rename_i h0
      obtain ⟨h1, h2, _⟩ := X1h h0
      have o1 := X0u hw h0
      have o2 := h s.next o1.wf
      have hl := (hw.tail (by omega)).2
      have hl2 : s.next.l.length + 1 = s.l.length := hl
      have := o2.le
      exact X6w h first ws n m _ _ o2.wf (by omega) (by omega)
    · rfl
end Go.Parse
namespace Go.Lex
open Go.V Go.Proofs.YtjdapkelojdefaaGreatDoor
def dec (n : Nat) : List UInt8 := if _h : n < 10 then [UInt8.ofNat (48 + n)] else dec (n / 10) ++ [UInt8.ofNat (48 + n % 10)]
theorem X5l {n : Nat} (h : n < 10) : dec n = [UInt8.ofNat (48 + n)] := by rw [dec, dif_pos h]
theorem X6x {n : Nat} (h : ¬ n < 10) : dec n = dec (n / 10) ++ [UInt8.ofNat (48 + n % 10)] := by rw [dec, dif_neg h]
theorem X2u {n : Nat} (h : n < 10) : (UInt8.ofNat (48 + n)).toNat = 48 + n := by
  rw [UInt8.toNat_ofNat']
  omega
theorem dec_digit : ∀ (n : Nat), ∀ c ∈ dec n, Q1z c = true := by
  intro n
  induction n using Nat.strongRecOn with
  | ind n ih =>
    intro c hc
    have key : ∀ m, m < 10 → Q1z (UInt8.ofNat (48 + m)) = true := fun m hm => by
      unfold Q1z
      rw [X2u hm]
      simp
      omega
    by_cases h : n < 10
    · rw [X5l h] at hc
      simp only [List.mem_singleton] at hc
      rw [hc]
      exact key n h
    · rw [X6x h, List.mem_append] at hc
      rcases hc with hc | hc
      · exact ih _ (by omega) c hc
      · simp only [List.mem_singleton] at hc
        rw [hc]
        exact key _ (by omega)
theorem dec_ne (n : Nat) : dec n ≠ [] := by
  by_cases h : n < 10
  · rw [X5l h]; simp
  · rw [X6x h]; simp
theorem num_app (a : List UInt8) : ∀ (n m : Nat) (b : List UInt8), num a n = some m → num (a ++ b) n = num b m := by
  induction a with
  | nil => intro n m b h; cases h; rfl
  | cons c r ih =>
    intro n m b h
    rw [zC]
    rw [num] at h
    rw [num]
    by_cases ho : 9223372036854775807 < 10 * n + (c.toNat - 48)
    · rw [if_pos ho] at h; cases h
    · rw [if_neg ho] at h; rw [if_neg ho]; exact ih _ _ _ h
theorem num_dec : ∀ (n : Nat), n ≤ 9223372036854775807 → num (dec n) 0 = some n := by
  intro n
  induction n using Nat.strongRecOn with
  | ind n ih =>
    intro hn
    by_cases h : n < 10
    · rw [X5l h]
      unfold num
      rw [X2u h, if_neg (by omega)]
      unfold num
      congr 1
      omega
    · rw [X6x h, num_app _ _ _ _ (ih (n / 10) (by omega) (by omega))]
      unfold num
      rw [X2u (by omega), if_neg (by omega)]
      unfold num
      congr 1
      omega
theorem X6a {p : UInt8 → Bool} : ∀ {a b : List UInt8}, (∀ c ∈ a, p c = true) → (∀ c r, b = c :: r → p c = false) → pre p (a ++ b) = a.length
  | [], [], _, _ => rfl
  | [], c :: r, _, h => by
    unfold pre
    rw [zD, List.takeWhile_cons, if_neg (by rw [h c r rfl]; simp)]
  | x :: a, b, h1, h2 => by
    have := X6a (p := p) (a := a) (b := b) (fun c hc => h1 c (by simp [hc])) h2
    unfold pre at this ⊢
    rw [zC, List.takeWhile_cons, if_pos (h1 x (by simp)), zx, this, zx]
theorem dig_not {c : UInt8} (h : Q1z c = true) : c.toNat ≠ 39 ∧ Q2g c = false ∧ Q1j c = false ∧ ws c = false ∧ c.toNat ≠ 45 := by
  have h1 : 48 ≤ c.toNat ∧ c.toNat ≤ 57 := by simpa [Q1z] using h
  refine ⟨by omega, ?_, ?_, ?_, by omega⟩
  · unfold Q2g
    rw [decide_eq_false (by omega), decide_eq_false (p := c.toNat = 95) (by omega)]
    rfl
  · unfold Q1j
    rw [decide_eq_false (by omega)]
    rfl
  · cases hh : ws c with
    | false => rfl
    | true => have := (ws_iff c).1 hh; omega
def Loose (b : List UInt8) : Prop := ∀ c r, b = c :: r → Q2a c = false ∧ Q1j c = false
theorem loose_nil : Loose [] := fun _ _ h => by cases h
theorem loose_blank (r : List UInt8) : Loose (32 :: r) := fun c r' h => by cases h; exact ⟨by decide, by decide⟩
theorem X0i {c : UInt8} {r : List UInt8} (hw : ws c = false) (h : c.toNat ≠ 45) : Q0q (c :: r) = 0 := by
  have := X8m (l := c :: r) (k := 0) (by simp) hw (no_dd (by simp) h)
  simpa using this
theorem X4i {a b : List UInt8} (h : Loose b) : glue (a ++ b) a.length = false := by
  cases b with
  | nil => exact X9x (by simp)
  | cons c r =>
    have hc := h c r rfl
    have hg : (a ++ c :: r).getD a.length 0 = c := by
      rw [List.getD_eq_getElem?_getD, List.getElem?_append_right (Nat.le_refl _)]
      simp
    exact X9w (by rw [hg, hc.1]; simp) (by rw [hg, hc.2]; simp)
theorem tok1_dec {n : Nat} (hn : n ≤ 9223372036854775807) {b : List UInt8} (hb : Loose b) : tok1 (dec n ++ b) = .ok (3, [], n, (dec n).length) := by
  have hd := dec_digit n
  cases h0 : dec n with
  | nil => exact absurd h0 (dec_ne n)
  | cons c r =>
    have hc := hd c (by rw [h0]; simp)
    obtain ⟨g1, g2, g3, _⟩ := dig_not hc
    have hg : (c :: r ++ b).getD 0 0 = c := rfl
    have hp : pre Q1z (c :: r ++ b) = (c :: r).length := by
      refine X6a (fun x hx => hd x (by rw [h0]; exact hx)) (fun x r' hx => ?_)
      have := (hb x r' hx).1
      unfold Q2a at this
      simpa using (Bool.or_eq_false_iff.1 this).2
    unfold tok1
    rw [hg, if_neg g1, if_neg (by rw [g2]; simp), if_neg (by rw [g3]; simp), if_pos hc, hp]
    refine wl_ok (wordT_3 (X4i hb) ?_)
    rw [List.take_left, ← h0]
    exact num_dec n hn
theorem dec_head {n : Nat} {b : List UInt8} : Q0q (dec n ++ b) = 0 := by
  cases h0 : dec n with
  | nil => exact absurd h0 (dec_ne n)
  | cons c r =>
    have hc := dec_digit n c (by rw [h0]; simp)
    obtain ⟨_, _, _, g4, g5⟩ := dig_not hc
    exact X0i g4 g5
def quo : List UInt8 → List UInt8
  | [] => []
  | c :: r => if c = 39 then 39 :: 39 :: quo r else c :: quo r
def Q8v (t : List UInt8) : List UInt8 := 39 :: (quo t ++ [39])
theorem qd_quo {b : List UInt8} (hb : ∀ c r, b = c :: r → c ≠ 39) : ∀ t : List UInt8, qd (quo t ++ 39 :: b) = some (t, (quo t).length + 1)
  | [] => X5z hb
  | c :: r => by
    have ih := qd_quo hb r
    unfold quo
    split
    · rename_i h
      rw [zC, zC, qd_two, ih, h]
      simp [qa]
      omega
    · rename_i h
      rw [zC, X5y h, ih]
      simp [qa]
      omega
theorem tok1_quote {t b : List UInt8} (ht : t.length ≤ 40) (hb : ∀ c r, b = c :: r → c ≠ 39) : tok1 (Q8v t ++ b) = .ok (4, t, 0, (Q8v t).length) := by
  have h0 : Q8v t ++ b = 39 :: (quo t ++ 39 :: b) := by unfold Q8v; simp
  have hq : qd ((39 :: (quo t ++ 39 :: b)).drop 1) = some (t, (quo t).length + 1) := qd_quo hb t
  rw [h0, tok1_q (by rfl), X8n hq (by omega)]
  have : (Q8v t).length = 1 + ((quo t).length + 1) := by unfold Q8v; simp; omega
  rw [this]
theorem quote_head {t b : List UInt8} : Q0q (Q8v t ++ b) = 0 := X0i (by decide) (by decide)
theorem toks_one {r : List UInt8} {k v : Nat} {t : List UInt8} (hr : r ≠ []) (hb : Q0q r = 0) (ht : tok1 r = .ok (k, t, v, r.length)) (a : Nat) : toks r a = .ok [(k, t, v, a), (6, [], 0, a + r.length)] := by
  have hp : 0 < r.length := List.length_pos_iff.2 hr
  rw [Q9g (by rw [hb]; exact hp) (by rw [hb]; exact ht), hb]
  have he : r.drop (0 + r.length) = [] := by rw [Nat.zero_add, List.drop_length]
  rw [he, Q4s (by simp)]
  have : Q0q [] = 0 := Q3k rfl
  rw [this]
  simp [appE]
theorem quo_len : ∀ t : List UInt8, (quo t).length ≤ 2 * t.length
  | [] => Nat.le_refl _
  | c :: r => by
    have := quo_len r
    unfold quo
    split <;> simp <;> omega
theorem dec_len : ∀ n : Nat, ∀ k, n < 10 ^ (k + 1) → (dec n).length ≤ k + 1 := by
  intro n
  induction n using Nat.strongRecOn with
  | ind n ih =>
    intro k hk
    by_cases h : n < 10
    · rw [X5l h]; simp
    · cases k with
      | zero => omega
      | succ k =>
        rw [X6x h, zw]
        have := ih (n / 10) (by omega) k (by rw [Nat.pow_succ] at hk; omega)
        simp
        omega
end Go.Lex
namespace Go.Print
open Go.V Go.Lex Go.Parse Go.Proofs.YtjdapkelojdefaaGreatDoor
inductive Tr
  | val (v : Vl)
  | col (t n : By)
  | not (e : Tr)
  | neg (e : Tr)
  | null (e : Tr)
  | op (k : Nat) (a b : Tr)
def Tr.ex : Tr → Ex
  | .val v => .mk 1 0 [] [] v []
  | .col t n => .mk 2 0 t n v0 []
  | .op k a b => opE k a.ex b.ex
  | .not e => ofE 4 e.ex
  | .neg e => ofE 5 e.ex
  | .null e => ofE 6 e.ex
def isNm (s : By) : Bool := decide (s ≠ []) && decide (s.length ≤ 16) && Q2g (s.getD 0 0) && decide (pre Q2a s = s.length)
def X6y (k n : Int) (t : By) : Int × By := if k = 0 then (0, []) else if k = 1 then (n, []) else if k = 2 then (0, t) else (n, t)
def X5m (k n : Int) (t : By) : Int := if k < 0 ∨ 2 < k ∨ X6y k n t ≠ (n, t) then 4 else if 40 < t.length then 2 else 0
def okV (v : Vl) : Bool := decide (X5m v.1 v.2.1 v.2.2 = 0) && decide (v.2.1 ≠ -9223372036854775808)
def Tr.wf : Tr → Prop
  | .val v => okV v = true
  | .col t n => isNm n = true ∧ (t = [] ∨ isNm t = true)
  | .op k a b => (1 ≤ k ∧ k ≤ 13) ∧ a.wf ∧ b.wf
  | .not e => e.wf
  | .neg e => e.wf
  | .null e => e.wf
def rtN (k op : Int) (t n : By) (v : Vl) (len : Nat) : Bool :=
  if k = 1 then okV v && decide (op = 0 ∧ t = [] ∧ n = [] ∧ len = 0) else
  if k = 2 then isNm n && (decide (t = []) || isNm t) && decide (op = 0 ∧ v = v0 ∧ len = 0) else
  if k = 3 then decide ((1 ≤ op ∧ op ≤ 13) ∧ t = [] ∧ n = [] ∧ v = v0 ∧ len = 2) else
  if k = 4 ∨ k = 5 ∨ k = 6 then decide (op = 0 ∧ t = [] ∧ n = [] ∧ v = v0 ∧ len = 1) else false
mutual
def rt : Ex → Bool
  | .mk k op t n v args => rtN k op t n v args.length && rts args
def rts : List Ex → Bool
  | [] => true
  | e :: r => rt e && rts r
end
abbrev tr0 : Tr := .val v0
def mkTr (k op : Int) (t n : By) (v : Vl) (l : List Tr) : Tr :=
  if k = 1 then .val v else if k = 2 then .col t n else if k = 3 then .op op.toNat (l.getD 0 tr0) (l.getD 1 tr0) else
  if k = 4 then .not (l.getD 0 tr0) else if k = 5 then .neg (l.getD 0 tr0) else .null (l.getD 0 tr0)
mutual
def toTr : Ex → Tr
  | .mk k op t n v args => mkTr k op t n v (Y0e args)
def Y0e : List Ex → List Tr
  | [] => []
  | e :: r => toTr e :: Y0e r
end
theorem Y0f (k op : Int) (t n : By) (v : Vl) (l : List Ex) : rt (.mk k op t n v l) = (rtN k op t n v l.length && rts l) := by rw [rt]
theorem Q5s : rts [] = true := by rw [rts]
theorem Q3d (e : Ex) (r : List Ex) : rts (e :: r) = (rt e && rts r) := by rw [rts]
theorem X1i (k op : Int) (t n : By) (v : Vl) (l : List Ex) : toTr (.mk k op t n v l) = mkTr k op t n v (Y0e l) := by rw [toTr]
theorem Q5t : Y0e [] = [] := by rw [Y0e]
theorem Q5l (e : Ex) (r : List Ex) : Y0e (e :: r) = toTr e :: Y0e r := by rw [Y0e]
theorem rtN_cases {k op : Int} {t n : By} {v : Vl} {len : Nat} (h : rtN k op t n v len = true) :
    (k = 1 ∧ okV v = true ∧ op = 0 ∧ t = [] ∧ n = [] ∧ len = 0) ∨ (k = 2 ∧ isNm n = true ∧ (t = [] ∨ isNm t = true) ∧ op = 0 ∧ v = v0 ∧ len = 0) ∨
    (k = 3 ∧ (1 ≤ op ∧ op ≤ 13) ∧ t = [] ∧ n = [] ∧ v = v0 ∧ len = 2) ∨ ((k = 4 ∨ k = 5 ∨ k = 6) ∧ op = 0 ∧ t = [] ∧ n = [] ∧ v = v0 ∧ len = 1) := by
  unfold rtN at h
  split at h
  · rename_i hk
    simp only [Bool.and_eq_true, decide_eq_true_eq] at h
    exact .inl ⟨hk, h.1, h.2⟩
  · split at h
    · rename_i hk
      simp only [Bool.and_eq_true, Bool.or_eq_true, decide_eq_true_eq] at h
      exact .inr (.inl ⟨hk, h.1.1, h.1.2, h.2⟩)
    · split at h
      · rename_i hk
        exact .inr (.inr (.inl ⟨hk, of_decide_eq_true h⟩))
      · split at h
        · rename_i hk
          exact .inr (.inr (.inr ⟨hk, of_decide_eq_true h⟩))
        · cases h
mutual
theorem X1j : ∀ e : Ex, rt e = true → (toTr e).ex = e ∧ (toTr e).wf
  | .mk k op t n v l, h => by
    rw [Y0f, Bool.and_eq_true] at h
    have ih := toTrs_ok l h.2
    rw [X1i]
    rcases rtN_cases h.1 with ⟨rfl, hv, rfl, rfl, rfl, hl⟩ | ⟨rfl, hn, ht, rfl, rfl, hl⟩ | ⟨rfl, ho, rfl, rfl, rfl, hl⟩ | ⟨hk, rfl, rfl, rfl, rfl, hl⟩
    · cases l with
      | nil => exact ⟨rfl, hv⟩
      | cons => cases hl
    · cases l with
      | nil => exact ⟨rfl, hn, ht⟩
      | cons => cases hl
    · match l, hl with
      | [a, b], _ =>
        rw [Q5l, Q5l, Q5t] at ih ⊢
        have ha := ih (toTr a) (by simp)
        have hb := ih (toTr b) (by simp)
        have e : mkTr 3 op [] [] v0 [toTr a, toTr b] = .op op.toNat (toTr a) (toTr b) := rfl
        rw [e]
        have ea := X1j a (by rw [Q3d, Bool.and_eq_true] at h; exact h.2.1)
        have eb := X1j b (by rw [Q3d, Q3d, Bool.and_eq_true, Bool.and_eq_true] at h; exact h.2.2.1)
        refine ⟨?_, ⟨by omega, by omega⟩, ea.2, eb.2⟩
        show Ex.mk 3 (op.toNat : Int) [] [] v0 [(toTr a).ex, (toTr b).ex] = _
        rw [ea.1, eb.1, show (op.toNat : Int) = op by omega]
    · match l, hl with
      | [a], _ =>
        rw [Q5l, Q5t]
        have ea := X1j a (by rw [Q3d, Bool.and_eq_true] at h; exact h.2.1)
        rcases hk with rfl | rfl | rfl
        · exact ⟨by show Ex.mk 4 0 [] [] v0 [(toTr a).ex] = _; rw [ea.1], ea.2⟩
        · exact ⟨by show Ex.mk 5 0 [] [] v0 [(toTr a).ex] = _; rw [ea.1], ea.2⟩
        · exact ⟨by show Ex.mk 6 0 [] [] v0 [(toTr a).ex] = _; rw [ea.1], ea.2⟩
theorem toTrs_ok : ∀ l : List Ex, rts l = true → ∀ t ∈ Y0e l, True
  | _, _, _, _ => trivial
end
theorem rt_ex : ∀ t : Tr, t.wf → rt t.ex = true
  | .val v, h => by
    show rt (.mk 1 0 [] [] v []) = true
    have hv : okV v = true := h
    rw [Y0f, Q5s]
    simp [rtN, hv]
  | .col t n, h => by
    show rt (.mk 2 0 t n v0 []) = true
    obtain ⟨h1, h2⟩ : isNm n = true ∧ (t = [] ∨ isNm t = true) := h
    rw [Y0f, Q5s]
    rcases h2 with h2 | h2 <;> simp [rtN, h1, h2]
  | .op k a b, h => by
    obtain ⟨⟨h1, h2⟩, ha, hb⟩ : (1 ≤ k ∧ k ≤ 13) ∧ a.wf ∧ b.wf := h
    show rt (.mk 3 k [] [] v0 [a.ex, b.ex]) = true
    rw [Y0f, Q3d, Q3d, Q5s, rt_ex a ha, rt_ex b hb]
    simp [rtN]
    omega
  | .not e, h => by
    show rt (.mk 4 0 [] [] v0 [e.ex]) = true
    rw [Y0f, Q3d, Q5s, rt_ex e h]
    simp [rtN]
  | .neg e, h => by
    show rt (.mk 5 0 [] [] v0 [e.ex]) = true
    rw [Y0f, Q3d, Q5s, rt_ex e h]
    simp [rtN]
  | .null e, h => by
    show rt (.mk 6 0 [] [] v0 [e.ex]) = true
    rw [Y0f, Q3d, Q5s, rt_ex e h]
    simp [rtN]
def _root_.Go.Parse.Ex.kd : Ex → Int
  | .mk k _ _ _ _ _ => k
def wT (s : By) : Tk := (2, s, 0, 0)
def sT (s : By) : Tk := (5, s, 0, 0)
def nT (s : By) : Tk := (1, s, 0, 0)
def iT (n : Int) : Tk := (3, [], n.toNat, 0)
def wd (s : By) : Tk := if 65 ≤ (s.getD 0 0).toNat ∧ (s.getD 0 0).toNat ≤ 90 then wT s else sT s
def wds (l : List By) : List Tk := l.map wd
def numT (n : Int) : List Tk := if n < 0 then [sT [45], iT (-n)] else [iT n]
def litT (v : Vl) : List Tk := if v.1 = 0 then [wT [78, 85, 76, 76]] else if v.1 = 2 then [(4, v.2.2, 0, 0)] else numT v.2.1
def ops : List By := [[], [79, 82], [65, 78, 68], [61], [60, 62], [60], [60, 61], [62], [62, 61], [43], [45], [42], [47], [37]]
def lvK (k : Nat) : Nat := if k ≤ 2 then k else if k ≤ 8 then 4 else if k ≤ 10 then 5 else 6
def Tr.lvl : Tr → Nat
  | .not (.null _) => 4
  | .not _ => 3
  | .null _ => 4
  | .op k _ _ => lvK k
  | _ => 7
def lftK (k : Nat) : Nat := if lvK k = 4 then 5 else lvK k
def Tr.pos : Tr → Bool
  | .val v => decide (v.1 = 1 ∧ 0 ≤ v.2.1)
  | _ => false
def br (b : Bool) (l : List Tk) : List Tk := if b then sT [40] :: (l ++ [sT [41]]) else l
def lo (e : Tr) (k : Nat) : Bool := decide (e.lvl < k)
def Tr.tk : Tr → List Tk
  | .val v => litT v
  | .col t n => if t = [] then [nT n] else [nT t, sT [46], nT n]
  | .null e => br (lo e 5) e.tk ++ [wT [73, 83], wT [78, 85, 76, 76]]
  | .neg e => sT [45] :: br e.pos (br (lo e 7) e.tk)
  | .not (.null x) => br (lo x 5) x.tk ++ [wT [73, 83], wT [78, 79, 84], wT [78, 85, 76, 76]]
  | .not e => wT [78, 79, 84] :: br (lo e 3) e.tk
  | .op k a b => br (lo a (lftK k)) a.tk ++ wd (ops.getD k []) :: br (lo b (lvK k + 1)) b.tk
def bd (b : Bool) : Nat := if b then 1 else 0
def Tr.dp : Tr → Nat
  | .val _ => 0
  | .col _ _ => 0
  | .null e => bd (lo e 5) + e.dp
  | .neg e => 1 + (bd e.pos + (bd (lo e 7) + e.dp))
  | .not (.null x) => bd (lo x 5) + x.dp
  | .not e => 1 + (bd (lo e 3) + e.dp)
  | .op k a b => max (bd (lo a (lftK k)) + a.dp) (bd (lo b (lvK k + 1)) + b.dp)
theorem Q9i (e : Tr) : (Tr.null e).tk = br (lo e 5) e.tk ++ [wT [73, 83], wT [78, 85, 76, 76]] := by rw [Tr.tk]
theorem X3j (e : Tr) : (Tr.neg e).tk = sT [45] :: br e.pos (br (lo e 7) e.tk) := by rw [Tr.tk]
theorem Q4t (x : Tr) : (Tr.not (.null x)).tk = br (lo x 5) x.tk ++ [wT [73, 83], wT [78, 79, 84], wT [78, 85, 76, 76]] := by rw [Tr.tk]
def Tr.isNull : Tr → Bool
  | .null _ => true
  | _ => false
theorem X1k {e : Tr} (h : e.isNull = false) : (Tr.not e).tk = wT [78, 79, 84] :: br (lo e 3) e.tk := by
  cases e <;> first | (cases h; done) | simp [Tr.tk]
theorem X6z {e : Tr} (h : e.isNull = false) : (Tr.not e).dp = 1 + (bd (lo e 3) + e.dp) := by
  cases e <;> first | (cases h; done) | simp [Tr.dp]
theorem X4j (x : Tr) : (Tr.not (.null x)).dp = bd (lo x 5) + x.dp := by rw [Tr.dp]
theorem Y0g {e : Tr} (h : e.isNull = false) : (Tr.not e).lvl = 3 := by
  cases e <;> first | (cases h; done) | rfl
theorem Y0h (k : Nat) (a b : Tr) : (Tr.op k a b).tk = br (lo a (lftK k)) a.tk ++ wd (ops.getD k []) :: br (lo b (lvK k + 1)) b.tk := by rw [Tr.tk]
def txt (t : Tk) : By := if t.1 = 3 then dec t.2.2.1 else if t.1 = 4 then Q8v t.2.1 else t.2.1
def Q5h : List By → By
  | [] => []
  | [x] => x
  | x :: y :: r => x ++ 32 :: Q5h (y :: r)
def txts (l : List Tk) : List By := (l.filter fun t => decide (t.1 ≠ 6)).map txt
def Q6u (l : List Tk) : By := Q5h (txts l)
def fin (l : List Tk) (deep : Nat) : By × Int := if 10 < deep then ([], 10) else if 2000 < (Q6u l).length then ([], 2) else (Q6u l, 0)
def exprR (e : Ex) : By × Int := if rt e then fin (toTr e).tk (toTr e).dp else ([], 4)
end Go.Print
namespace Go.Lex
open Go.V Go.Proofs.YtjdapkelojdefaaGreatDoor
theorem pre_join {p : UInt8 → Bool} (hp : p 10 = false) (r t : List UInt8) : pre p (r ++ 10 :: t) = pre p r := by
  unfold pre
  induction r with
  | nil => simp [hp]
  | cons c r ih =>
    simp only [zC, List.takeWhile_cons]
    split
    · simp only [zx, ih]
    · rfl
theorem Q4n (x : List UInt8) (a c : UInt8) (r : List UInt8) : Q1m (a :: x) (c :: r) = (decide (c = a) && Q1m x r) := by
  simp only [Q1m, zx, List.take_succ_cons, List.cons.injEq, Bool.decide_and]
theorem X2v : ∀ (x r t : List UInt8), 10 ∉ x → Q1m x (r ++ 10 :: t) = Q1m x r
  | [], _, _, _ => rfl
  | a :: x, [], t, h => by
    rw [zD, Q4n, decide_eq_false (fun e => h (by rw [e]; simp))]
    rfl
  | a :: x, c :: r, t, h => by
    rw [zC, Q4n, Q4n, X2v x r t (fun e => h (by simp [e]))]
theorem X8p : ∀ (r t : List UInt8), r ≠ [] → Q9e (r ++ 10 :: t) = Q9e r
  | [], _, h => absurd rfl h
  | c :: r, t, _ => by
    show (if ws c then 1 else if Q1m [45, 45] (c :: (r ++ 10 :: t)) then pre (· != 10) (c :: (r ++ 10 :: t)) else 0) = _
    rw [← zC, X2v _ _ _ (by decide), pre_join rfl]
    rfl
theorem X8g : ∀ (n : Nat) (r t : List UInt8), r.length ≤ n → Q0q r < r.length → Q0q (r ++ 10 :: t) = Q0q r := by
  intro n
  induction n with
  | zero => intro r t h h'; omega
  | succ n ih =>
    intro r t h h'
    have hne : r ≠ [] := fun e => by subst e; simp at h'
    have hj := X8p r t hne
    by_cases hb : Q9e r = 0
    · rw [Q3k hb, Q3k (by rw [hj]; exact hb)]
    · have hl := X3d r
      rw [Q2u hb] at h'
      rw [Q2u hb, Q2u (by rw [hj]; exact hb), hj, List.drop_append_of_le_length hl]
      rw [ih _ _ (by simp; omega) (by simp; omega)]
theorem X8h : ∀ (n : Nat) (r t : List UInt8), r.length ≤ n → r.length ≤ Q0q r → Q0q (r ++ 10 :: t) = r.length + 1 + Q0q t := by
  intro n
  induction n with
  | zero =>
    intro r t h _
    obtain rfl : r = [] := List.eq_nil_of_length_eq_zero (by omega)
    have hb : Q9e (10 :: t) = 1 := rfl
    rw [zD, Q2u (by rw [hb]; decide), hb]
    rfl
  | succ n ih =>
    intro r t h h'
    by_cases hne : r = []
    · subst hne
      have hb : Q9e (10 :: t) = 1 := rfl
      rw [zD, Q2u (by rw [hb]; decide), hb]
      rfl
    · have hj := X8p r t hne
      have hpos := List.length_pos_iff.2 hne
      by_cases hb : Q9e r = 0
      · rw [Q3k hb] at h'; omega
      · have hl := X3d r
        rw [Q2u hb] at h'
        rw [Q2u (by rw [hj]; exact hb), hj, List.drop_append_of_le_length hl]
        rw [ih _ _ (by simp; omega) (by simp; omega)]
        simp; omega
theorem qd_join : ∀ (r t x : List UInt8) (n : Nat), qd r = some (x, n) → qd (r ++ 10 :: t) = some (x, n)
  | [], _, _, _, h => by cases h
  | [c], t, x, n, h => by
    simp only [qd] at h
    split at h
    · rename_i hc
      subst hc
      cases h
      rfl
    · cases h
  | c :: d :: r, t, x, n, h => by
    by_cases hc : c = 39
    · subst hc
      by_cases hd : d = 39
      · subst hd
        rw [qd_two] at h
        show qd (39 :: 39 :: (r ++ 10 :: t)) = _
        rw [qd_two]
        cases hq : qd r with
        | none => rw [hq] at h; cases h
        | some p => rw [hq] at h; rw [qd_join r t p.1 p.2 hq]; exact h
      · rw [X5z (fun d' r' e => by injection e with e1 e2; rw [← e1]; exact hd)] at h
        show qd (39 :: d :: (r ++ 10 :: t)) = _
        rw [X5z (fun d' r' e => by injection e with e1 e2; rw [← e1]; exact hd)]
        exact h
    · rw [X5y hc] at h
      show qd (c :: (d :: r ++ 10 :: t)) = _
      rw [X5y hc]
      cases hq : qd (d :: r) with
      | none => rw [hq] at h; cases h
      | some p => rw [hq] at h; rw [qd_join (d :: r) t p.1 p.2 hq]; exact h
theorem getD_join {r t : List UInt8} {n : Nat} (h : n < r.length) : (r ++ 10 :: t).getD n 0 = r.getD n 0 := by
  simp [List.getD_eq_getElem?_getD, List.getElem?_append_left h]
theorem glue_join (r t : List UInt8) (n : Nat) (h : n ≤ r.length) : glue (r ++ 10 :: t) n = glue r n := by
  unfold glue
  rcases Nat.lt_or_ge n r.length with h' | h'
  · rw [getD_join h', decide_eq_true h', decide_eq_true (by simp; omega)]
  · have e : (r ++ 10 :: t).getD n 0 = 10 := by
      obtain rfl : n = r.length := by omega
      simp [List.getD_eq_getElem?_getD]
    have h1 : (Q2a 10 || Q1j 10) = false := rfl
    rw [e, h1, Bool.and_false, decide_eq_false (by omega), Bool.false_and]
theorem wl_join (kd : Nat) (p : UInt8 → Bool) (hp : p 10 = false) (r t : List UInt8) : wl kd (r ++ 10 :: t) (pre p (r ++ 10 :: t)) = wl kd r (pre p r) := by
  have hl := X5k p r
  rw [pre_join hp]
  unfold wl Q8n
  rw [glue_join r t _ hl, List.take_append_of_le_length hl]
theorem X8q {α : Type} (l : List α) (p q : α → Bool) (h : ∀ x ∈ l, p x = q x) : l.find? p = l.find? q := by
  induction l with
  | nil => rfl
  | cons a r ih => rw [List.find?_cons, List.find?_cons, h a (by simp), ih (fun x hx => h x (by simp [hx]))]
theorem tok1_join (r t : List UInt8) (h0 : 0 < r.length) (h : tok1 r ≠ .error 3) : tok1 (r ++ 10 :: t) = tok1 r := by
  have hg := getD_join (t := t) h0
  by_cases h1 : (r.getD 0 0).toNat = 39
  · rw [tok1_q h1] at h ⊢
    rw [tok1_q (by rw [hg]; exact h1)]
    unfold Q6g at h ⊢
    cases hq : qd (r.drop 1) with
    | none => rw [hq] at h; exact absurd rfl h
    | some p =>
      have := qd_join (r.drop 1) t p.1 p.2 hq
      rw [List.drop_append_of_le_length (by omega), this]
  · by_cases h2 : Q2g (r.getD 0 0) = true
    · rw [tok1_1 h2, tok1_1 (by rw [hg]; exact h2), wl_join _ _ rfl]
    · by_cases h3 : Q1j (r.getD 0 0) = true
      · rw [tok1_2 h3, tok1_2 (by rw [hg]; exact h3), wl_join _ _ rfl]
      · by_cases h4 : Q1z (r.getD 0 0) = true
        · rw [tok1_3 h4, tok1_3 (by rw [hg]; exact h4), wl_join _ _ rfl]
        · rw [tok1_s h1 h2 h3 h4, tok1_s (by rw [hg]; exact h1) (by rw [hg]; exact h2) (by rw [hg]; exact h3) (by rw [hg]; exact h4)]
          rw [X8q signs (fun x => Q1m x (r ++ 10 :: t)) (fun x => Q1m x r) (fun x hx => X2v x r t (by revert x; decide))]
theorem toks_skip {R : List UInt8} {a c : Nat} (hc : c ≤ R.length) (h : Q0q R = c + Q0q (R.drop c)) : toks R a = toks (R.drop c) (a + c) := by
  by_cases hb : R.length ≤ Q0q R
  · rw [Q4s hb, Q4s (by simp; omega), h, Nat.add_assoc]
  · have hd : R.drop (Q0q R) = (R.drop c).drop (Q0q (R.drop c)) := by rw [List.drop_drop, ← h]
    cases ht : tok1 (R.drop (Q0q R)) with
    | error e =>
      rw [X0h (by omega) ht, X0h (by simp; omega) (by rw [← hd]; exact ht), h, Nat.add_assoc]
    | ok p =>
      obtain ⟨k, t, v, m⟩ := p
      have hA := Q9g (r := R) (a := a) (by omega) ht
      have hB := Q9g (r := R.drop c) (a := a + c) (k := k) (v := v) (n := m) (t := t) (by simp; omega) (by rw [← hd]; exact ht)
      rw [hA, hB, List.drop_drop, h, show a + (c + Q0q (R.drop c)) = a + c + Q0q (R.drop c) by omega, show c + Q0q (R.drop c) + m = c + (Q0q (R.drop c) + m) by omega]
theorem X3k {r t : List UInt8} {a : Nat} (hb : r.length ≤ Q0q r) : toks (r ++ 10 :: t) a = toks t (a + r.length + 1) := by
  have h1 := X8h _ r t (Nat.le_refl _) hb
  have h2 : (r ++ 10 :: t).drop (r.length + 1) = t := by simp
  rw [toks_skip (c := r.length + 1) (by simp) (by rw [h2, h1]), h2, Nat.add_assoc]
theorem toks_join_ok : ∀ (n : Nat) (r t : List UInt8) (a : Nat) (l : List Tk), r.length ≤ n → toks r a = .ok l → ∃ i, l = i ++ [(6, [], 0, a + r.length)] ∧ toks (r ++ 10 :: t) a = appE i (toks t (a + r.length + 1)) := by
  intro n
  induction n with
  | zero =>
    intro r t a l h hl
    have hb := Q7u r
    rw [Q4s (by omega)] at hl
    cases hl
    exact ⟨[], by simp; omega, by rw [X9y, X3k (by omega)]⟩
  | succ n ih =>
    intro r t a l h hl
    have hbl := Q7u r
    by_cases hb : r.length ≤ Q0q r
    · rw [Q4s hb] at hl
      cases hl
      exact ⟨[], by simp; omega, by rw [X9y, X3k hb]⟩
    · cases ht : tok1 (r.drop (Q0q r)) with
      | error e => rw [X0h (by omega) ht] at hl; cases hl
      | ok p =>
        obtain ⟨k, x, v, m⟩ := p
        have hm := X1x (by simp; omega) ht
        simp only [List.length_drop] at hm
        rw [Q9g (by omega) ht] at hl
        have hj := X8g _ r t (Nat.le_refl _) (by omega)
        have htj := tok1_join (r.drop (Q0q r)) t (by simp; omega) (by rw [ht]; intro e; cases e)
        cases hr : toks (r.drop (Q0q r + m)) (a + Q0q r + m) with
        | error q => rw [hr] at hl; cases hl
        | ok l' =>
          rw [hr] at hl
          cases hl
          obtain ⟨i, h1, h2⟩ := ih _ t _ _ (by simp; omega) hr
          refine ⟨(k, x, v, a + Q0q r) :: i, ?_, ?_⟩
          · rw [h1]; simp; omega
          · rw [Q9g (by rw [hj]; simp; omega) (by rw [hj, List.drop_append_of_le_length hbl, htj, ht]), hj, List.drop_append_of_le_length (by omega), h2, X6r]
            simp only [List.length_drop, zC, zD]
            congr 2; omega
end Go.Lex
namespace Go.Print
open Go.V Go.Lex Go.Parse Go.Proofs.YtjdapkelojdefaaGreatDoor
def GoodT (t : Tk) : Prop :=
  (t.1 = 1 ∧ isNm t.2.1 = true ∧ t.2.2.1 = 0) ∨ (t.1 = 2 ∧ Q8b t.2.1 = true ∧ t.2.2.1 = 0) ∨ (t.1 = 3 ∧ t.2.1 = [] ∧ t.2.2.1 ≤ 9223372036854775807) ∨
  (t.1 = 4 ∧ t.2.1.length ≤ 40 ∧ t.2.2.1 = 0) ∨ (t.1 = 5 ∧ t.2.1 ∈ signs ∧ t.2.2.1 = 0)
def noAt (t : Tk) : Nat × By × Nat := (t.1, t.2.1, t.2.2.1)
def Sp1 (b : By) : Prop := b = [] ∨ ∃ r, b = 32 :: r
theorem Sp1.loose {b : By} (h : Sp1 b) : Loose b := by
  rcases h with rfl | ⟨r, rfl⟩
  · exact loose_nil
  · exact loose_blank r
theorem Sp1.head {b : By} (h : Sp1 b) {c : UInt8} {r : By} (e : b = c :: r) : c = 32 := by
  rcases h with rfl | ⟨r', rfl⟩
  · cases e
  · cases e; rfl
theorem X6b {s : By} (h : isNm s = true) : s ≠ [] ∧ s.length ≤ 16 ∧ Q2g (s.getD 0 0) = true ∧ pre Q2a s = s.length := by
  unfold isNm at h
  simp only [Bool.and_eq_true, decide_eq_true_eq] at h
  exact ⟨h.1.1.1, h.1.1.2, h.1.2, h.2⟩
theorem X8r {p : UInt8 → Bool} : ∀ {s : By}, pre p s = s.length → ∀ c ∈ s, p c = true
  | [], _, c, hc => by cases hc
  | x :: s, h, c, hc => by
    unfold pre at h
    rw [List.takeWhile_cons] at h
    split at h
    · rename_i hx
      rcases List.mem_cons.1 hc with rfl | hc
      · exact hx
      · refine X8r (s := s) ?_ c hc
        simpa [pre] using h
    · simp at h
theorem X1y {s b : By} (h : s ≠ []) : (s ++ b).getD 0 0 = s.getD 0 0 := by
  cases s with
  | nil => exact absurd rfl h
  | cons => rfl
theorem X3l {s : By} (h : Q8b s = true) : s ∈ words := by
  have h := of_decide_eq_true h
  unfold idx at h
  refine Classical.byContradiction fun hn => ?_
  have : words.takeWhile (fun w => w != s) = words := by
    have hall : ∀ w ∈ words, (fun w => w != s) w = true := fun w hw => by
      simp only [bne_iff_ne, ne_eq]
      intro e
      subst e
      exact hn hw
    generalize words = l at hall
    induction l with
    | nil => rfl
    | cons a r ih => rw [List.takeWhile_cons, if_pos (hall a (by simp)), ih (fun w hw => hall w (by simp [hw]))]
  rw [this] at h
  omega
theorem X7a : ∀ s ∈ words, s ≠ [] ∧ (∀ c ∈ s, Q1j c = true) ∧ Q1j (s.getD 0 0) = true := by decide +kernel
theorem tok1_name {s b : By} (h : isNm s = true) (hb : Sp1 b) : tok1 (s ++ b) = .ok (1, s, 0, s.length) := by
  obtain ⟨h0, h1, h2, h3⟩ := X6b h
  have hp : pre Q2a (s ++ b) = s.length := X6a (X8r h3) (fun c r e => (hb.loose c r e).1)
  rw [tok1_1 (by rw [X1y h0]; exact h2), hp]
  refine wl_ok ?_
  rw [wordT_1 (X4i hb.loose), if_neg (by omega), List.take_left]
theorem tok1_word {s b : By} (h : Q8b s = true) (hb : Sp1 b) : tok1 (s ++ b) = .ok (2, s, 0, s.length) := by
  obtain ⟨h0, h1, h2⟩ := X7a s (X3l h)
  have hp : pre Q1j (s ++ b) = s.length := X6a h1 (fun c r e => (hb.loose c r e).2)
  rw [tok1_2 (by rw [X1y h0]; exact h2), hp]
  refine wl_ok ?_
  rw [wordT_2 (X4i hb.loose), List.take_left, if_pos h]
theorem X7b : ∀ s ∈ signs, s ≠ [] ∧ (s.getD 0 0).toNat ≠ 39 ∧ Q2g (s.getD 0 0) = false ∧ Q1j (s.getD 0 0) = false ∧ Q1z (s.getD 0 0) = false ∧ ws (s.getD 0 0) = false ∧ (s.getD 1 0).toNat ≠ 45 := by decide +kernel
theorem hasPre_sp {m s b : By} (hm : 32 ∉ m) (hb : Sp1 b) : Q1m m (s ++ b) = Q1m m s := by
  rcases hb with rfl | ⟨r, rfl⟩
  · rw [List.append_nil]
  · induction m generalizing s with
    | nil => rfl
    | cons a m ih =>
      have ha : (32 : UInt8) ≠ a := fun e => hm (by simp [e])
      have hm' : 32 ∉ m := fun h => hm (by simp [h])
      cases s with
      | nil =>
        rw [zD, Q4n, decide_eq_false ha]
        exact (Q8p (by simp)).symm
      | cons c s => rw [zC, Q4n, Q4n, ih hm']
theorem signs_plain : ∀ m ∈ signs, (32 : UInt8) ∉ m := by decide +kernel
theorem signs_find : ∀ s ∈ signs, signs.find? (fun x => Q1m x s) = some s := by decide +kernel
theorem tok1_sign {s b : By} (h : s ∈ signs) (hb : Sp1 b) : tok1 (s ++ b) = .ok (5, s, 0, s.length) := by
  obtain ⟨h0, h1, h2, h3, h4, _, _⟩ := X7b s h
  rw [tok1_s (by rw [X1y h0]; exact h1) (by rw [X1y h0, h2]; simp) (by rw [X1y h0, h3]; simp) (by rw [X1y h0, h4]; simp)]
  have : signs.find? (fun x => Q1m x (s ++ b)) = some s := by
    rw [X8q signs _ (fun x => Q1m x s) (fun x hx => hasPre_sp (signs_plain x hx) hb)]
    exact signs_find s h
  rw [this]
theorem tok1_txt {t : Tk} {b : By} (h : GoodT t) (hb : Sp1 b) : tok1 (txt t ++ b) = .ok (t.1, t.2.1, t.2.2.1, (txt t).length) := by
  obtain ⟨k, s, n, a⟩ := t
  rcases h with ⟨rfl, h1, rfl⟩ | ⟨rfl, h1, rfl⟩ | ⟨rfl, rfl, h1⟩ | ⟨rfl, h1, rfl⟩ | ⟨rfl, h1, rfl⟩
  · exact tok1_name h1 hb
  · exact tok1_word h1 hb
  · exact tok1_dec h1 hb.loose
  · exact tok1_quote h1 (fun c r e => by rw [hb.head e]; decide)
  · exact tok1_sign h1 hb
theorem X8s {c : UInt8} (h : Q2a c = true ∨ Q1j c = true) : ws c = false ∧ c.toNat ≠ 45 := by
  have h1 : (97 ≤ c.toNat ∧ c.toNat ≤ 122 ∨ c.toNat = 95) ∨ (48 ≤ c.toNat ∧ c.toNat ≤ 57) ∨ (65 ≤ c.toNat ∧ c.toNat ≤ 90) := by
    rcases h with h | h
    · simp only [Q2a, Q2g, Q1z, Bool.or_eq_true, Bool.and_eq_true, decide_eq_true_eq] at h
      rcases h with (h | h) | h
      · exact .inl (.inl h)
      · exact .inl (.inr h)
      · exact .inr (.inl h)
    · simp only [Q1j, Bool.and_eq_true, decide_eq_true_eq] at h
      exact .inr (.inr h)
  refine ⟨?_, by omega⟩
  cases hw : ws c with
  | false => rfl
  | true => have := (ws_iff c).1 hw; omega
theorem txt_head {t : Tk} {b : By} (h : GoodT t) (hb : Sp1 b) : Q0q (txt t ++ b) = 0 ∧ txt t ≠ [] := by
  obtain ⟨k, s, n, a⟩ := t
  rcases h with ⟨rfl, h1, rfl⟩ | ⟨rfl, h1, rfl⟩ | ⟨rfl, rfl, h1⟩ | ⟨rfl, h1, rfl⟩ | ⟨rfl, h1, rfl⟩
  · obtain ⟨h0, _, h2, _⟩ := X6b h1
    have := X8s (c := s.getD 0 0) (.inl (by unfold Q2a; rw [h2]; rfl))
    refine ⟨?_, h0⟩
    show Q0q (s ++ b) = 0
    cases s with
    | nil => exact absurd rfl h0
    | cons c r => exact X0i this.1 this.2
  · obtain ⟨h0, _, h2⟩ := X7a s (X3l h1)
    have := X8s (c := s.getD 0 0) (.inr h2)
    refine ⟨?_, h0⟩
    show Q0q (s ++ b) = 0
    cases s with
    | nil => exact absurd rfl h0
    | cons c r => exact X0i this.1 this.2
  · exact ⟨dec_head, dec_ne n⟩
  · exact ⟨quote_head, by show Q8v s ≠ []; unfold Q8v; simp⟩
  · obtain ⟨h0, _, _, _, _, h5, h6⟩ := X7b s h1
    refine ⟨?_, h0⟩
    show Q0q (s ++ b) = 0
    refine Q3k ?_
    cases s with
    | nil => exact absurd rfl h0
    | cons c r =>
      have hdd : Q1m [45, 45] ((c :: r) ++ b) = false := by
        rw [hasPre_sp (by decide) hb]
        cases r with
        | nil => exact Q8p (by simp)
        | cons d r =>
          have hd : d.toNat ≠ 45 := h6
          rw [Q4n, Q4n]
          have : decide (d = 45) = false := decide_eq_false (fun e => hd (by rw [e]; rfl))
          rw [this]; simp
      have := X3e (l := (c :: r) ++ b) (k := 0) (by simp)
      rw [List.drop_zero] at this
      rw [this, hdd]
      have hc : ws (((c :: r) ++ b).getD 0 0) = false := h5
      rw [hc]
      simp
theorem blanks_sp (R : By) : Q0q (32 :: R) = 1 + Q0q R := by
  have hb : Q9e (32 :: R) = 1 := by
    have := X3e (l := 32 :: R) (k := 0) (by simp)
    rw [List.drop_zero] at this
    rw [this]
    exact if_pos (by rfl)
  rw [Q2u (by rw [hb]; decide), hb]
  rfl
theorem toks_sp (R : By) (a : Nat) : toks (32 :: R) a = toks R (a + 1) := toks_skip (R := 32 :: R) (c := 1) (by simp) (blanks_sp R)
theorem toks_back : ∀ (l : List Tk) (a : Nat), (∀ t ∈ l, GoodT t) → ∃ m, toks (Q5h (l.map txt)) a = .ok (m ++ [(6, [], 0, a + (Q5h (l.map txt)).length)]) ∧ m.map noAt = l.map noAt
  | [], a, _ => ⟨[], by
      have : Q0q [] = 0 := Q3k rfl
      show toks [] a = _
      rw [Q4s (by simp), this]; rfl, rfl⟩
  | [x], a, h => by
    have hx := h x (by simp)
    obtain ⟨h1, h2⟩ := txt_head (b := []) hx (.inl rfl)
    have h3 := tok1_txt (b := []) hx (.inl rfl)
    rw [List.append_nil] at h1 h3
    exact ⟨[(x.1, x.2.1, x.2.2.1, a)], toks_one h2 h1 h3 a, rfl⟩
  | x :: y :: r, a, h => by
    have hx := h x (by simp)
    have e : Q5h ((x :: y :: r).map txt) = txt x ++ 32 :: Q5h ((y :: r).map txt) := rfl
    obtain ⟨m, hm1, hm2⟩ := toks_back (y :: r) (a + (txt x).length + 1) (fun t ht => h t (by simp [ht]))
    have hsp : Sp1 (32 :: Q5h ((y :: r).map txt)) := .inr ⟨_, rfl⟩
    obtain ⟨h1, h2⟩ := txt_head hx hsp
    have h3 := tok1_txt hx hsp
    refine ⟨(x.1, x.2.1, x.2.2.1, a) :: m, ?_, by rw [List.map_cons, hm2]; rfl⟩
    rw [e]
    have hl : 0 < (txt x ++ 32 :: Q5h ((y :: r).map txt)).length := by simp only [zw, zx]; omega
    rw [Q9g (by rw [h1]; exact hl) (by rw [h1]; exact h3), h1, Nat.zero_add, List.drop_left, toks_sp, Nat.add_zero, hm1]
    simp [appE]
    omega
theorem num_le : ∀ (r : By) (n v : Nat), n ≤ 9223372036854775807 → num r n = some v → v ≤ 9223372036854775807
  | [], n, v, hn, h => by cases h; exact hn
  | c :: r, n, v, hn, h => by
    rw [num] at h
    split at h
    · cases h
    · exact num_le r _ v (by omega) h
theorem tw_tw {p : UInt8 → Bool} : ∀ r : By, (r.takeWhile p).takeWhile p = r.takeWhile p
  | [] => rfl
  | c :: r => by
    rw [List.takeWhile_cons]
    split
    · rename_i h; rw [List.takeWhile_cons, if_pos h, tw_tw r]
    · rfl
theorem tok1_good {r t : By} {k v n : Nat} (h : tok1 r = .ok (k, t, v, n)) (a : Nat) : GoodT (k, t, v, a) := by
  have hwl : ∀ kd m, wl kd r m = .ok (k, t, v, n) → Q8n kd r m = .ok (k, t, v) := fun kd m hw => by
    unfold wl at hw
    cases hw' : Q8n kd r m with
    | error e => rw [hw'] at hw; cases hw
    | ok q => rw [hw'] at hw; cases hw; rfl
  unfold tok1 at h
  split at h
  · unfold Q6g at h
    split at h
    · cases h
    · split at h
      · cases h
      · rename_i hl
        cases h
        exact .inr (.inr (.inr (.inl ⟨rfl, by show t.length ≤ 40; omega, rfl⟩)))
  · split at h
    · rename_i hf
      have hw := hwl _ _ h
      unfold Q8n at hw
      split at hw
      · cases hw
      · rename_i hg
        simp only [Nat.reduceEqDiff, if_false, if_true] at hw
        split at hw
        · cases hw
        · rename_i hl
          cases hw
          refine .inl ⟨rfl, ?_, rfl⟩
          have h0 : 0 < r.length := by
            cases r with
            | nil => simp [Q2g] at hf
            | cons => simp
          have hp : 0 < pre Q2a r := by
            have hs : Q2a (r.getD 0 0) = true := by unfold Q2a; rw [hf]; rfl
            have := pre_yes (p := Q2a) (l := r) (k := 0) h0 hs
            rw [List.drop_zero] at this
            omega
          have hlen : (r.take (pre Q2a r)).length = pre Q2a r := by
            rw [List.length_take]
            have := X5k Q2a r
            omega
          unfold isNm
          simp only [Bool.and_eq_true, decide_eq_true_eq]
          refine ⟨⟨⟨?_, by rw [hlen]; omega⟩, ?_⟩, ?_⟩
          · exact fun e => by rw [e] at hlen; simp at hlen; omega
          · have : (r.take (pre Q2a r)).getD 0 0 = r.getD 0 0 := by
              simp [List.getD_eq_getElem?_getD, List.getElem?_take, hp]
            rw [this]; exact hf
          · have : r.take (pre Q2a r) = r.takeWhile Q2a := by
              unfold pre
              exact (List.prefix_iff_eq_take.1 (List.takeWhile_prefix _)).symm
            rw [this]
            unfold pre
            rw [tw_tw]
    · split at h
      · have hw := hwl _ _ h
        unfold Q8n at hw
        split at hw
        · cases hw
        · simp only [if_true] at hw
          split at hw
          · rename_i hk
            cases hw
            exact .inr (.inl ⟨rfl, hk, rfl⟩)
          · cases hw
      · split at h
        · have hw := hwl _ _ h
          unfold Q8n at hw
          split at hw
          · cases hw
          · simp only [Nat.reduceEqDiff, if_false, if_true] at hw
            split at hw
            · rename_i w hn
              cases hw
              exact .inr (.inr (.inl ⟨rfl, rfl, num_le _ _ _ (Nat.zero_le _) hn⟩))
            · cases hw
        · split at h
          · rename_i x hx
            cases h
            exact .inr (.inr (.inr (.inr ⟨rfl, List.mem_of_find?_eq_some hx, rfl⟩)))
          · cases h
theorem toks_good : ∀ (n : Nat) (r : By) (a : Nat) (l : List Tk), r.length ≤ n → toks r a = .ok l → ∃ i, l = i ++ [(6, [], 0, a + r.length)] ∧ ∀ t ∈ i, GoodT t := by
  intro n
  induction n with
  | zero =>
    intro r a l hr h
    have : r = [] := List.eq_nil_of_length_eq_zero (by omega)
    subst this
    rw [Q4s (by simp)] at h
    cases h
    exact ⟨[], by rw [show Q0q [] = 0 from Q3k rfl]; rfl, fun t ht => by cases ht⟩
  | succ n ih =>
    intro r a l hr h
    rcases Nat.lt_or_ge (Q0q r) r.length with hb | hb
    · cases ht : tok1 (r.drop (Q0q r)) with
      | error e => rw [X0h hb ht] at h; cases h
      | ok q =>
        obtain ⟨k, t, v, m⟩ := q
        rw [Q9g hb ht] at h
        have hg := tok1_good ht (a + Q0q r)
        have hm := X1x (by rw [List.length_drop]; omega) ht
        cases hq : toks (r.drop (Q0q r + m)) (a + Q0q r + m) with
        | error e => rw [hq] at h; cases h
        | ok l' =>
          rw [hq] at h
          cases h
          obtain ⟨i, hi, hgi⟩ := ih _ _ _ (by rw [List.length_drop]; omega) hq
          subst hi
          refine ⟨(k, t, v, a + Q0q r) :: i, ?_, fun x hx => ?_⟩
          · rw [List.length_drop] at hm
            simp only [List.singleton_append, zC, List.length_drop]
            rw [show a + Q0q r + m + (r.length - (Q0q r + m)) = a + r.length by omega]
            rfl
          · rcases List.mem_cons.1 hx with rfl | hx
            · exact hg
            · exact hgi x hx
    · rw [Q4s hb] at h
      cases h
      have := Q7u r
      exact ⟨[], by rw [show Q0q r = r.length by omega]; rfl, fun t ht => by cases ht⟩
def inR (n : Int) : Prop := -9223372036854775808 ≤ n ∧ n ≤ 9223372036854775807
inductive Lim : Ex → Prop
  | mk (k op : Int) (t n : By) (v : Vl) (l : List Ex) (h : l.length ≤ 9223372036854775807) (hr : inR k ∧ inR op ∧ inR v.1 ∧ inR v.2.1) (hl : ∀ e ∈ l, Lim e) : Lim (.mk k op t n v l)
theorem br_len (b : Bool) (l : List Tk) : l.length ≤ (br b l).length ∧ (br b l).length ≤ l.length + 2 := by
  cases b <;> simp [br] <;> omega
theorem X3m (v : Vl) : 1 ≤ (litT v).length ∧ (litT v).length ≤ 2 := by
  unfold litT numT
  repeat' split
  all_goals simp
theorem X7c (b : Bool) (l : List Tk) {d : Nat} (h : d ≤ l.length) : bd b + d ≤ (br b l).length := by
  cases b <;> simp [br, bd] <;> omega
theorem X4k : ∀ t : Tr, t.dp ≤ t.tk.length
  | .val v => Nat.zero_le _
  | .col t n => Nat.zero_le _
  | .null e => by
    have := X7c (lo e 5) e.tk (X4k e)
    rw [Q9i, Tr.dp, zw]
    omega
  | .neg e => by
    have := X7c e.pos _ (X7c (lo e 7) e.tk (X4k e))
    rw [X3j, Tr.dp, zx]
    omega
  | .not (.null x) => by
    have := X7c (lo x 5) x.tk (X4k x)
    rw [Q4t, X4j, zw]
    omega
  | .not (.val v) => by
    have := X7c (lo (.val v) 3) (Tr.val v).tk (X4k (.val v))
    rw [X1k rfl, X6z rfl, zx]; omega
  | .not (.col t n) => by
    have := X7c (lo (.col t n) 3) (Tr.col t n).tk (X4k (.col t n))
    rw [X1k rfl, X6z rfl, zx]; omega
  | .not (.not x) => by
    have := X7c (lo (.not x) 3) (Tr.not x).tk (X4k (.not x))
    rw [X1k rfl, X6z rfl, zx]; omega
  | .not (.neg x) => by
    have := X7c (lo (.neg x) 3) (Tr.neg x).tk (X4k (.neg x))
    rw [X1k rfl, X6z rfl, zx]; omega
  | .not (.op k a b) => by
    have := X7c (lo (.op k a b) 3) (Tr.op k a b).tk (X4k (.op k a b))
    rw [X1k rfl, X6z rfl, zx]; omega
  | .op k a b => by
    have h1 := X7c (lo a (lftK k)) a.tk (X4k a)
    have h2 := X7c (lo b (lvK k + 1)) b.tk (X4k b)
    rw [Y0h, Tr.dp, zw, zx]
    omega
def stR (l : List Tk) (d : Nat) : Rd := ⟨l, (d : Int), 0, 0⟩
def RL (L : Nat) (D : Dp) : Pr := match L with | 1 => exL D | 2 => andL D | 3 => notL D | 4 => Q5q D | 5 => sumL D | 6 => X3h D | _ => facL D
def opsF (L : Nat) : List By :=
  [46] :: ((if L ≤ 6 then [[42], [47], [37]] else []) ++ ((if L ≤ 5 then [[43], [45]] else []) ++ ((if L ≤ 4 then tests else []) ++ ((if L ≤ 2 then [[65, 78, 68]] else []) ++ (if L ≤ 1 then [[79, 82]] else [])))))
def isW (x : Tk) (w : By) : Bool := decide ((x.1 = 2 ∨ x.1 = 5) ∧ x.2.1 = w)
def Stop (L : Nat) (r : List Tk) : Prop := ∀ w ∈ opsF L, isW (hd r) w = false
theorem Stop.mono {L M : Nat} {r : List Tk} (h : Stop L r) (hLM : L ≤ M) : Stop M r := fun w hw => h w (by
  unfold opsF at hw ⊢
  simp only [List.mem_cons, List.mem_append] at hw ⊢
  rcases hw with hw | hw | hw | hw | hw | hw
  · exact .inl hw
  · split at hw
    · exact .inr (.inl (by rw [if_pos (by omega)]; exact hw))
    · cases hw
  · split at hw
    · exact .inr (.inr (.inl (by rw [if_pos (by omega)]; exact hw)))
    · cases hw
  · split at hw
    · exact .inr (.inr (.inr (.inl (by rw [if_pos (by omega)]; exact hw))))
    · cases hw
  · split at hw
    · exact .inr (.inr (.inr (.inr (.inl (by rw [if_pos (by omega)]; exact hw)))))
    · cases hw
  · split at hw
    · exact .inr (.inr (.inr (.inr (.inr (by rw [if_pos (by omega)]; exact hw)))))
    · cases hw)
theorem X7d {m : By} : ∀ {ws : List By}, idx m ws < ws.length ↔ m ∈ ws
  | [] => by simp [idx]
  | a :: r => by
    have ih := X7d (m := m) (ws := r)
    unfold idx at ih ⊢
    rw [List.takeWhile_cons]
    by_cases h : a = m
    · subst h; simp
    · have hb : (a != m) = true := by simpa using h
      rw [if_pos hb]
      simp only [zx, Nat.add_lt_add_iff_right, List.mem_cons]
      rw [ih]
      exact ⟨fun hh => .inr hh, fun hh => hh.elim (fun e => absurd e.symm h) id⟩
theorem is_no {l : List Tk} {d : Nat} {ws : List By} (h : ∀ w ∈ ws, isW (hd l) w = false) : (stR l d).is ws = -1 := by
  unfold Rd.is
  by_cases hk : (hd l).1 ≠ 2 ∧ (hd l).1 ≠ 5
  · exact if_pos (.inr hk)
  · rw [if_neg (fun hh => hh.elim (fun h0 => h0 rfl) hk)]
    refine if_neg (fun hm => ?_)
    have := h _ (X7d.1 hm)
    unfold isW at this
    have := of_decide_eq_false this
    exact this ⟨by show (hd l).1 = 2 ∨ (hd l).1 = 5; omega, rfl⟩
theorem Q8d {l : List Tk} {d : Nat} {w : By} (h : isW (hd l) w = false) : (stR l d).has w = false := by
  unfold Rd.has
  rw [is_no (fun w' hw => by simp at hw; subst hw; exact h)]
  rfl
theorem Q4v {x : Tk} {l : List Tk} {d : Nat} {ws : List By} (h : x.1 = 2 ∨ x.1 = 5) (hi : x.2.1 ∈ ws) : (stR (x :: l) d).is ws = (idx x.2.1 ws : Nat) := by
  unfold Rd.is
  have e : hd (stR (x :: l) d).l = x := rfl
  rw [e, if_neg (fun hh => hh.elim (fun h0 => h0 rfl) (fun hk => by omega)), if_pos (X7d.2 hi)]
theorem Q4x {x : Tk} {l : List Tk} {d : Nat} {w : By} (h : isW x w = true) : (stR (x :: l) d).has w = true := by
  obtain ⟨h1, h2⟩ := of_decide_eq_true h
  unfold Rd.has
  rw [Q4v h1 (by rw [h2]; simp)]
  exact decide_eq_true (by omega)
theorem X0j (x : Tk) (l : List Tk) (d : Nat) : (stR (x :: l) d).next = stR l d := rfl
theorem pass1 (s : Rd) (w : By) : s.pass [w] = if s.has w then s.next else s := by
  unfold Rd.has Rd.pass
  by_cases h : 0 ≤ s.is [w]
  · rw [if_pos h, if_pos (decide_eq_true h)]
  · rw [if_neg h, if_neg (by simp; omega)]
theorem Q5c {x : Tk} {l : List Tk} {d : Nat} {w : By} (h : isW x w = true) : (stR (x :: l) d).pass [w] = stR l d := by
  rw [pass1, Q4x h]; rfl
theorem Q8e {l : List Tk} {d : Nat} {w : By} (h : isW (hd l) w = false) : (stR l d).pass [w] = stR l d := by
  rw [pass1, Q8d h]; rfl
theorem Q1f {x : Tk} {l : List Tk} {d : Nat} {w : By} (ws : List By) (h : isW x w = true) : (stR (x :: l) d).must (w :: ws) = (stR l d).must ws := by
  rw [Rd.must, Q4x h]; rfl
theorem Q3e (s : Rd) : s.must [] = s := rfl
theorem down_st {l : List Tk} {d : Nat} (h : d + 1 ≤ 10) : (stR l d).down = stR l (d + 1) := by
  unfold Rd.down
  have : ¬ ((stR l d).d + 1 > 10) := by show ¬ ((d : Int) + 1 > 10); omega
  rw [if_neg this]
  rfl
theorem up_st (l : List Tk) (d : Nat) : (stR l (d + 1)).up = stR l d := by
  show (⟨l, ((d + 1 : Nat) : Int) - 1, 0, 0⟩ : Rd) = ⟨l, (d : Int), 0, 0⟩
  rw [show ((d + 1 : Nat) : Int) - 1 = (d : Int) by omega]
theorem X7e {F : Pr} {l r : List Tk} {d : Nat} {e : Ex} (h : d + 1 ≤ 10) (hF : F (stR l (d + 1)) = (e, stR r (d + 1))) : Q1u F (stR l d) = (e, stR r d) := by
  unfold Q1u
  rw [down_st h, if_pos (show (stR l (d + 1)).c = 0 from rfl), hF]
  show (e, (stR r (d + 1)).up) = _
  rw [up_st]
theorem Q3s {x : Tk} {r : List Tk} (h : WF r) : WF (x :: r) := by
  cases r with
  | nil => exact h.elim
  | cons y r => exact h
theorem X8t : ∀ (a : List Tk) {r : List Tk}, WF r → WF (a ++ r)
  | [], r, h => h
  | x :: a, r, h => Q3s (X8t a h)
theorem dpS {d : Nat} (h : d + 1 ≤ 10) : dp (10 - d) = ⟨facL (dp (10 - (d + 1))), notL (dp (10 - (d + 1))), exL (dp (10 - (d + 1)))⟩ := by
  rw [show 10 - d = (10 - (d + 1)) + 1 by omega]; rfl
def fstM (M : Nat) : Int := if M = 1 then 1 else if M = 2 then 2 else if M = 5 then 9 else 11
def wsM (M : Nat) : List By := if M = 1 then [[79, 82]] else if M = 2 then [[65, 78, 68]] else if M = 5 then [[43], [45]] else [[42], [47], [37]]
def rowM (M : Nat) : Prop := M = 1 ∨ M = 2 ∨ M = 5 ∨ M = 6
theorem RL_row {M : Nat} (h : rowM M) (D : Dp) : RL M D = row (RL (M + 1) D) (fstM M) (wsM M) := by
  rcases h with rfl | rfl | rfl | rfl <;> rfl
theorem wsM_sub {M : Nat} (h : rowM M) {r : List Tk} (hs : Stop M r) : ∀ w ∈ wsM M, isW (hd r) w = false := fun w hw => hs w (by
  rcases h with rfl | rfl | rfl | rfl <;> simp [wsM] at hw <;> simp [opsF, hw] <;> (rcases hw with h | h | h <;> simp [h]) <;> (rcases hw with h | h <;> simp [h]))
theorem tests_sub {r : List Tk} (hs : Stop 4 r) : ∀ w ∈ tests, isW (hd r) w = false := fun w hw => hs w (by
  unfold opsF
  simp only [List.mem_cons, List.mem_append]
  exact .inr (.inr (.inr (.inl (by rw [if_pos (by omega)]; simpa using hw)))))
theorem rowL_stop {F : Pr} {first : Int} {ws : List By} {r : List Tk} {d : Nat} (n : Nat) (e : Ex) (h : ∀ w ∈ ws, isW (hd r) w = false) : rowL F first ws n e (stR r d) = (e, stR r d) := by
  cases n with
  | zero => rfl
  | succ n =>
    unfold rowL
    rw [is_no h]
    rfl
theorem lift1 {L : Nat} {D : Dp} {l r : List Tk} {d : Nat} {e : Ex} (h1 : 1 ≤ L) (h6 : L ≤ 6) (h : RL (L + 1) D (stR l d) = (e, stR r d)) (hs : Stop L r) (hn : L = 3 → isW (hd l) wNot = false) : RL L D (stR l d) = (e, stR r d) := by
  have hr : rowM L → RL L D (stR l d) = (e, stR r d) := fun hM => by
    rw [RL_row hM, row, h]
    exact rowL_stop _ _ (wsM_sub hM hs)
  rcases (by omega : L = 1 ∨ L = 2 ∨ L = 3 ∨ L = 4 ∨ L = 5 ∨ L = 6) with rfl | rfl | rfl | rfl | rfl | rfl
  · exact hr (.inl rfl)
  · exact hr (.inr (.inl rfl))
  · show notL D (stR l d) = _
    unfold notL
    rw [Q8d (hn rfl)]
    exact h
  · show Q5q D (stR l d) = _
    have h' : sumL D (stR l d) = (e, stR r d) := h
    unfold Q5q
    rw [h', is_no (tests_sub hs)]
    rfl
  · exact hr (.inr (.inr (.inl rfl)))
  · exact hr (.inr (.inr (.inr rfl)))
theorem lift {D : Dp} {l r : List Tk} {d : Nat} {e : Ex} : ∀ (k L : Nat), 1 ≤ L → L + k ≤ 7 → RL (L + k) D (stR l d) = (e, stR r d) → Stop L r → (L ≤ 3 → 4 ≤ L + k → isW (hd l) wNot = false) → RL L D (stR l d) = (e, stR r d)
  | 0, L, _, _, h, _, _ => h
  | k + 1, L, h1, h7, h, hs, hn => by
    refine lift1 h1 (by omega) (lift k (L + 1) (by omega) (by omega) (by rw [show L + 1 + k = L + (k + 1) by omega]; exact h) (hs.mono (by omega)) (fun h3 h4 => hn (by omega) (by omega))) hs (fun h3 => hn (by omega) (by omega))
def Rds (t : Tr) (d : Nat) : Prop := ∀ L r, 1 ≤ L → L ≤ t.lvl → WF r → Stop L r → RL L (dp (10 - d)) (stR (t.tk ++ r) d) = (t.ex, stR r d)
def RdsR (t : Tr) (d : Nat) : Prop := ∀ M r, rowM M → M ≤ t.lvl → WF r → Stop (M + 1) r →
  RL M (dp (10 - d)) (stR (t.tk ++ r) d) = rowL (RL (M + 1) (dp (10 - d))) (fstM M) (wsM M) r.length t.ex (stR r d)
theorem lvK_le (k : Nat) (h : 1 ≤ k) : 1 ≤ lvK k ∧ lvK k ≤ 6 ∧ lvK k ≠ 3 := by
  unfold lvK
  repeat' split
  all_goals omega
theorem lvl_le (t : Tr) (h : t.wf) : 1 ≤ t.lvl ∧ t.lvl ≤ 7 := by
  cases t with
  | op k a b => have := lvK_le k h.1.1; exact ⟨this.1, by show lvK k ≤ 7; omega⟩
  | not e => cases e <;> exact ⟨Nat.le_of_ble_eq_true rfl, Nat.le_of_ble_eq_true rfl⟩
  | _ => exact ⟨Nat.le_of_ble_eq_true rfl, Nat.le_of_ble_eq_true rfl⟩
theorem X8i : ∀ t : Tr, t.tk ≠ [] := fun t h => by
  have : t.tk.length = 0 := by rw [h]; rfl
  cases t with
  | val v =>
    have h1 := (X3m v).1
    rw [show (Tr.val v).tk = litT v from rfl] at this
    omega
  | col t n => rw [Tr.tk] at this; split at this <;> simp at this
  | null e => rw [Q9i] at this; simp at this
  | neg e => rw [X3j] at this; simp at this
  | not e =>
    cases he : e.isNull with
    | false => rw [X1k he] at this; simp at this
    | true =>
      cases e <;> first | (cases he; done) | skip
      rw [Q4t] at this; simp at this
  | op k a b => rw [Y0h] at this; simp at this
theorem X1l {a r : List Tk} (h : a ≠ []) : hd (a ++ r) = hd a := by
  cases a with
  | nil => exact absurd rfl h
  | cons => rfl
theorem Y0i {b : Bool} {l : List Tk} (h : l ≠ []) : br b l ≠ [] := by
  cases b
  · exact h
  · simp [br]
theorem hd_br {b : Bool} {l : List Tk} {P : Tk → Prop} (h1 : P (sT [40])) (h2 : b = false → P (hd l)) : P (hd (br b l)) := by
  cases b
  · exact h2 rfl
  · exact h1
theorem noNot : ∀ t : Tr, t.wf → 4 ≤ t.lvl → isW (hd t.tk) wNot = false
  | .val v, _, _ => by
    show isW (hd (litT v)) wNot = false
    unfold litT numT
    repeat' split
    all_goals rfl
  | .col t n, _, _ => by
    rw [Tr.tk]
    split <;> rfl
  | .null e, h, _ => by
    rw [Q9i, X1l (Y0i (X8i e))]
    refine hd_br (P := fun x => isW x wNot = false) rfl (fun hb => noNot e h ?_)
    have := of_decide_eq_false hb
    omega
  | .neg e, _, _ => by rw [X3j]; rfl
  | .not (.null x), h, _ => by
    rw [Q4t, X1l (Y0i (X8i x))]
    refine hd_br (P := fun x => isW x wNot = false) rfl (fun hb => noNot x h ?_)
    have := of_decide_eq_false hb
    omega
  | .not (.val _), _, h => by exact absurd h (by show ¬ 4 ≤ 3; omega)
  | .not (.col _ _), _, h => by exact absurd h (by show ¬ 4 ≤ 3; omega)
  | .not (.not _), _, h => by exact absurd h (by show ¬ 4 ≤ 3; omega)
  | .not (.neg _), _, h => by exact absurd h (by show ¬ 4 ≤ 3; omega)
  | .not (.op _ _ _), _, h => by exact absurd h (by show ¬ 4 ≤ 3; omega)
  | .op k a b, h, hl => by
    have hl : 4 ≤ lvK k := hl
    rw [Y0h, X1l (Y0i (X8i a))]
    refine hd_br (P := fun x => isW x wNot = false) rfl (fun hb => noNot a h.2.1 ?_)
    have := of_decide_eq_false hb
    unfold lftK at this
    split at this <;> omega
theorem noNum {t : Tr} (h : t.lvl = 7) (hw : t.wf) (hp : t.pos = false) : (hd t.tk).1 ≠ 3 := by
  cases t with
  | val v =>
    show (hd (litT v)).1 ≠ 3
    have hv : ¬ (v.1 = 1 ∧ 0 ≤ v.2.1) := of_decide_eq_false hp
    have hk : okV v = true := hw
    unfold okV X5m at hk
    simp only [Bool.and_eq_true, decide_eq_true_eq] at hk
    have hk := hk.1
    unfold litT numT
    by_cases h0 : v.1 = 0
    · rw [if_pos h0]; decide
    · rw [if_neg h0]
      by_cases h2 : v.1 = 2
      · rw [if_pos h2]; simp [hd]
      · rw [if_neg h2]
        split at hk
        · cases hk
        · rw [if_pos (by omega)]
          exact Nat.ne_of_beq_eq_false rfl
  | col t n => rw [Tr.tk]; split <;> exact Nat.ne_of_beq_eq_false rfl
  | neg e => rw [X3j]; exact (by decide : (5 : Nat) ≠ 3)
  | null e => exact absurd h (by show ¬ 4 = 7; omega)
  | not e =>
    cases he : e.isNull with
    | false => rw [Y0g he] at h; omega
    | true =>
      cases e <;> first | (cases he; done) | skip
      exact absurd h (by show ¬ 4 = 7; omega)
  | op k a b => have := lvK_le k hw.1.1; have h : lvK k = 7 := h; omega
theorem lit_no {l : List Tk} {d : Nat} (h3 : (hd l).1 ≠ 3) (h4 : (hd l).1 ≠ 4) (hm : isW (hd l) Q2i = false ∨ (l.getD 1 (0, [], 0, 0)).1 ≠ 3) (hn : isW (hd l) Q7d = false) : (stR l d).lit = (v0, false, stR l d) := by
  unfold Rd.lit
  rw [show (stR l d).l = l from rfl]
  rw [if_neg (fun h => h rfl), if_neg h3, if_neg h4]
  rw [if_pos (by
    rcases hm with hm | hm
    · left; rw [is_no (fun w hw => by simp at hw; subst hw; exact hm)]; decide
    · exact .inr hm), Q8d hn, Q8e hn]
theorem brk {D : Dp} {X r : List Tk} {d : Nat} {e : Ex} (h : d + 1 ≤ 10) (hF : D.ex (stR (X ++ sT [41] :: r) (d + 1)) = (e, stR (sT [41] :: r) (d + 1))) : facL D (stR (sT [40] :: (X ++ sT [41] :: r)) d) = (e, stR r d) := by
  unfold facL
  rw [lit_no (Nat.ne_of_beq_eq_false rfl) (Nat.ne_of_beq_eq_false rfl) (.inl rfl) rfl]
  have h1 : (stR (sT [40] :: (X ++ sT [41] :: r)) d).is [Q2i, [40]] = 1 := Q4v (.inr rfl) (by decide)
  simp only [h1, Bool.false_eq_true, if_false, Int.reduceEq, if_true, X0j]
  rw [X7e h hF]
  show (e, (stR (sT [41] :: r) d).must [[41]]) = _
  rw [Q1f [] rfl]
  rfl
theorem br_app (l r : List Tk) : br true l ++ r = sT [40] :: (l ++ sT [41] :: r) := by simp [br]
theorem stop_rp (L : Nat) (r : List Tk) : Stop L (sT [41] :: r) := fun w hw => by
  have : w ≠ [41] := fun e => by
    subst e
    unfold opsF at hw
    simp only [List.mem_cons, List.mem_append] at hw
    rcases hw with hw | hw | hw | hw | hw | hw
    · cases hw
    all_goals (split at hw <;> revert hw <;> decide)
  refine decide_eq_false (fun h => this ?_)
  exact h.2.symm
theorem rd_br {t : Tr} {d L : Nat} {r : List Tk} (hA : ∀ d', d' ≤ 10 → t.dp + d' ≤ 10 → Rds t d') (hw : t.wf) (h1 : 1 ≤ L) (h7 : L ≤ 7) (hd : bd (lo t L) + t.dp + d ≤ 10) (hr : WF r) (hs : Stop L r) :
    RL L (dp (10 - d)) (stR (br (lo t L) t.tk ++ r) d) = (t.ex, stR r d) := by
  cases hb : lo t L with
  | false =>
    have := of_decide_eq_false hb
    exact hA d (by omega) (by rw [hb] at hd; simp only [bd] at hd; omega) L r h1 (by omega) hr hs
  | true =>
    rw [hb] at hd
    have hd : 1 + t.dp + d ≤ 10 := hd
    rw [br_app]
    have hx := hA (d + 1) (by omega) (by omega) 1 (sT [41] :: r) (Nat.le_refl _) (lvl_le t hw).1 (Q3s hr) (stop_rp 1 r)
    have hf : facL (dp (10 - d)) (stR (sT [40] :: (t.tk ++ sT [41] :: r)) d) = (t.ex, stR r d) := brk (by omega) (by rw [dpS (by omega)]; exact hx)
    obtain ⟨k, hk⟩ : ∃ k, L + k = 7 := ⟨7 - L, by omega⟩
    exact lift k L h1 (by omega) (by rw [hk]; exact hf) hs (fun _ _ => rfl)
def Tr.rg : Tr → Prop
  | .val v => inR v.2.1
  | .col _ _ => True
  | .op _ a b => a.rg ∧ b.rg
  | .not e => e.rg
  | .neg e => e.rg
  | .null e => e.rg
theorem mkRds {t : Tr} {d : Nat} (hw : t.wf) (h : ∀ r, WF r → Stop t.lvl r → RL t.lvl (dp (10 - d)) (stR (t.tk ++ r) d) = (t.ex, stR r d)) : Rds t d := fun L r h1 hL hr hs => by
  obtain ⟨k, hk⟩ : ∃ k, L + k = t.lvl := ⟨t.lvl - L, by omega⟩
  have := (lvl_le t hw).2
  refine lift k L h1 (by omega) (by rw [hk]; exact h r hr (hs.mono hL)) hs (fun _ h4 => ?_)
  rw [X1l (X8i t)]
  exact noNot t hw (by omega)
theorem X5n {t : Tr} {d : Nat} (h : Rds t d) (hM : ∀ M r, rowM M → M = t.lvl → WF r → Stop (M + 1) r → RL M (dp (10 - d)) (stR (t.tk ++ r) d) = rowL (RL (M + 1) (dp (10 - d))) (fstM M) (wsM M) r.length t.ex (stR r d)) : RdsR t d := fun M r hm hle hr hs => by
  rcases Nat.lt_or_ge M t.lvl with hl | hl
  · rw [RL_row hm, row, h (M + 1) r (by omega) (by omega) hr hs]
    rfl
  · exact hM M r hm (by omega) hr hs
theorem fac_lit {D : Dp} {s s' : Rd} {v : Vl} (h : s.lit = (v, true, s')) : facL D s = (.mk 1 0 [] [] v [], s') := by
  unfold facL
  rw [h]
  rfl
theorem X3n {v : Vl} (h : okV v = true) : v = v0 ∨ (v.1 = 1 ∧ v.2.2 = [] ∧ v.2.1 ≠ -9223372036854775808) ∨ (v.1 = 2 ∧ v.2.1 = 0 ∧ v.2.2.length ≤ 40) := by
  obtain ⟨k, n, t⟩ := v
  unfold okV X5m at h
  simp only [Bool.and_eq_true, decide_eq_true_eq] at h
  obtain ⟨h, hm⟩ := h
  split at h
  · cases h
  · rename_i hn
    split at h
    · cases h
    · rename_i hl
      have hb : X6y k n t = (n, t) := Classical.byContradiction fun hb => hn (.inr (.inr hb))
      have hk : k = 0 ∨ k = 1 ∨ k = 2 := by omega
      rcases hk with rfl | rfl | rfl
      · simp only [X6y, if_true, Prod.mk.injEq] at hb
        left; rw [← hb.1, ← hb.2]
      · simp only [X6y, Int.reduceEq, if_false, if_true, Prod.mk.injEq, true_and] at hb
        exact .inr (.inl ⟨rfl, hb.symm, hm⟩)
      · simp only [X6y, Int.reduceEq, if_false, if_true, Prod.mk.injEq, and_true] at hb
        exact .inr (.inr ⟨rfl, hb.symm, by simp only; omega⟩)
theorem rd_val {v : Vl} {r : List Tk} {d : Nat} {D : Dp} (hw : okV v = true) (hr : inR v.2.1) : facL D (stR (litT v ++ r) d) = (.mk 1 0 [] [] v [], stR r d) := by
  refine fac_lit ?_
  rcases X3n hw with rfl | ⟨h1, h2, h3⟩ | ⟨h1, h2, h3⟩
  · show (stR (wT [78, 85, 76, 76] :: r) d).lit = _
    unfold Rd.lit
    rw [if_neg (fun h => h rfl), if_neg (Nat.ne_of_beq_eq_false rfl), if_neg (Nat.ne_of_beq_eq_false rfl), if_pos (.inl (by rw [is_no (fun w hw => by simp at hw; subst hw; rfl)]; decide)), Q4x rfl, Q5c rfl]
  · obtain ⟨k, n, t⟩ := v
    simp only at h1 h2 h3 hr
    subst h1 h2
    by_cases hn : n < 0
    · have e : litT (1, n, []) = [sT [45], iT (-n)] := by unfold litT numT; simp [hn]
      rw [e]
      show (stR (sT [45] :: iT (-n) :: r) d).lit = _
      unfold Rd.lit
      have hi : (stR (sT [45] :: iT (-n) :: r) d).is [Q2i] = 0 := Q4v (.inr rfl) (by decide)
      rw [if_neg (fun h => h rfl), if_neg (Nat.ne_of_beq_eq_false rfl), if_neg (Nat.ne_of_beq_eq_false rfl), hi, if_neg (fun h => h.elim (by decide) (fun h => h rfl))]
      have hv : IntKind.i64.wrap (0 - (((-n).toNat : Nat) : Int)) = n := by
        unfold inR at hr
        rw [w64 (by omega) (by omega)]
        omega
      show ((1, IntKind.i64.wrap (0 - (((-n).toNat : Nat) : Int)), []), true, stR r d) = _
      rw [hv]
    · have e : litT (1, n, []) = [iT n] := by unfold litT numT; simp [hn]
      rw [e]
      show (stR (iT n :: r) d).lit = _
      unfold Rd.lit
      rw [if_neg (fun h => h rfl), if_pos (show (hd (stR (iT n :: r) d).l).1 = 3 from rfl)]
      show ((1, ((n.toNat : Nat) : Int), []), true, stR r d) = _
      rw [show ((n.toNat : Nat) : Int) = n by omega]
  · obtain ⟨k, n, t⟩ := v
    simp only at h1 h2
    subst h1 h2
    show (stR ((4, t, 0, 0) :: r) d).lit = _
    unfold Rd.lit
    rw [if_neg (fun h => h rfl), if_neg (by show ¬ (4 : Nat) = 3; decide), if_pos (show (hd (stR (((4, t, 0, 0) : Tk) :: r) d).l).1 = 4 from rfl)]
    rfl
theorem Q5u {x : Tk} {r : List Tk} {d k : Nat} (h : x.1 = k) : (stR (x :: r) d).take k = stR r d := if_pos ⟨rfl, h⟩
theorem Q8w {x : Tk} {r : List Tk} {d k : Nat} (h : x.1 = k) : (stR (x :: r) d).tok k = x := if_pos ⟨rfl, h⟩
theorem X8u {n : By} {r : List Tk} {d : Nat} (h : isW (hd r) [46] = false) : Rd.column (stR (nT n :: r) d) = (.mk 2 0 [] n v0 [], stR r d) := by
  unfold Rd.column
  rw [Q5u (k := 1) (x := nT n) rfl, Q8d h, Q8w (k := 1) (x := nT n) rfl]
  rfl
theorem X8v {t n : By} {r : List Tk} {d : Nat} : Rd.column (stR (nT t :: sT [46] :: nT n :: r) d) = (.mk 2 0 t n v0 [], stR r d) := by
  unfold Rd.column
  rw [Q5u (k := 1) (x := nT t) rfl, Q4x rfl, Q8w (k := 1) (x := nT t) rfl, X0j, Q8w (k := 1) (x := nT n) rfl, Q5u (k := 1) (x := nT n) rfl]
  rfl
theorem rd_col {t n : By} {r : List Tk} {d : Nat} {D : Dp} (hs : Stop 7 r) : facL D (stR ((Tr.col t n).tk ++ r) d) = ((Tr.col t n).ex, stR r d) := by
  have hdot : isW (hd r) [46] = false := hs _ (by simp [opsF])
  rw [Tr.tk]
  by_cases ht : t = []
  · rw [if_pos ht]
    subst ht
    show facL D (stR (nT n :: r) d) = _
    unfold facL
    rw [lit_no (Nat.ne_of_beq_eq_false rfl) (Nat.ne_of_beq_eq_false rfl) (.inl rfl) rfl]
    have h1 : (stR (nT n :: r) d).is [Q2i, [40]] = -1 := is_no (fun w _ => rfl)
    simp only [h1, Bool.false_eq_true, if_false, Int.reduceEq, Int.reduceNeg]
    exact X8u hdot
  · rw [if_neg ht]
    show facL D (stR (nT t :: sT [46] :: nT n :: r) d) = _
    unfold facL
    rw [lit_no (Nat.ne_of_beq_eq_false rfl) (Nat.ne_of_beq_eq_false rfl) (.inl rfl) rfl]
    have h1 : (stR (nT t :: sT [46] :: nT n :: r) d).is [Q2i, [40]] = -1 := is_no (fun w _ => rfl)
    simp only [h1, Bool.false_eq_true, if_false, Int.reduceEq, Int.reduceNeg]
    exact X8v
theorem op_stop : ∀ k, k < 14 → 1 ≤ k → (opsF (lvK k + 1)).all (fun w => !isW (wd (ops.getD k [])) w) = true := by decide +kernel
theorem stop_op {k : Nat} {r : List Tk} (h1 : 1 ≤ k) (h2 : k ≤ 13) : Stop (lvK k + 1) (wd (ops.getD k []) :: r) := fun w hw => by
  have := List.all_eq_true.1 (op_stop k (by omega) h1) w hw
  show isW (wd (ops.getD k [])) w = false
  simpa using this
theorem op_test : ∀ k, k < 14 → 1 ≤ k → lvK k = 4 → (3 ≤ k ∧ k ≤ 8) ∧ ((wd (ops.getD k [])).1 = 2 ∨ (wd (ops.getD k [])).1 = 5) ∧ idx (wd (ops.getD k [])).2.1 tests < tests.length ∧ idx (wd (ops.getD k [])).2.1 tests = k - 3 := by decide +kernel
theorem op_rowA : ∀ k, k < 14 → 1 ≤ k → (lvK k = 4 ∨ (lvK k = 1 ∨ lvK k = 2 ∨ lvK k = 5 ∨ lvK k = 6)) := by decide +kernel
theorem op_rowB : ∀ k, k < 14 → 1 ≤ k → (lvK k = 4 ∨ (idx (wd (ops.getD k [])).2.1 (wsM (lvK k)) < (wsM (lvK k)).length ∧ fstM (lvK k) + ((idx (wd (ops.getD k [])).2.1 (wsM (lvK k)) : Nat) : Int) = (k : Int))) := by decide +kernel
theorem op_rowC : ∀ k, k < 14 → ((wd (ops.getD k [])).1 = 2 ∨ (wd (ops.getD k [])).1 = 5) := by decide +kernel
theorem op_row (k : Nat) (h : k < 14) (h1 : 1 ≤ k) (h4 : lvK k ≠ 4) : rowM (lvK k) ∧ ((wd (ops.getD k [])).1 = 2 ∨ (wd (ops.getD k [])).1 = 5) ∧ idx (wd (ops.getD k [])).2.1 (wsM (lvK k)) < (wsM (lvK k)).length ∧ fstM (lvK k) + ((idx (wd (ops.getD k [])).2.1 (wsM (lvK k)) : Nat) : Int) = (k : Int) :=
  ⟨(op_rowA k h h1).resolve_left h4, op_rowC k h, (op_rowB k h h1).resolve_left h4⟩
theorem nice_RL (L n : Nat) : Nice (RL L (dp n)) := by
  have h := Q9h n
  unfold RL
  split
  · exact nice_ex h
  · exact Q6q (Q8u h) _ _
  · exact Q8u h
  · exact nice_test h
  · exact X3i h
  · exact Q6q (Q8t h) _ _
  · exact Q8t h
theorem br_rest (b : Bool) (l r s : List Tk) (x : Tk) : (br b l ++ x :: r) ++ s = br b l ++ x :: (r ++ s) := by simp
theorem rd_not (e : Tr) (he : e.isNull = false) (hw : e.wf) (ih : ∀ d', d' ≤ 10 → e.dp + d' ≤ 10 → Rds e d') (d : Nat) (hd : d ≤ 10) (hD : (Tr.not e).dp + d ≤ 10) : Rds (.not e) d ∧ RdsR (.not e) d := by
  rw [X6z he] at hD
  have h : Rds (.not e) d := mkRds hw (fun r hr hs => by
    rw [Y0g he] at hs ⊢
    rw [X1k he]
    show notL (dp (10 - d)) (stR (wT [78, 79, 84] :: (br (lo e 3) e.tk ++ r)) d) = _
    unfold notL
    rw [Q4x rfl, X0j]
    have := rd_br (L := 3) (d := d + 1) ih hw (by decide) (by decide) (by omega) hr hs
    rw [X7e (by omega) (by rw [dpS (by omega)]; exact this)]
    rfl)
  exact ⟨h, X5n h (fun M r hm hl _ _ => by rw [Y0g he] at hl; rcases hm with rfl | rfl | rfl | rfl <;> cases hl)⟩
theorem X0q : ∀ t : Tr, t.wf → t.rg → ∀ d, d ≤ 10 → t.dp + d ≤ 10 → Rds t d ∧ RdsR t d
  | .val v, hw, hg, d, hd, hD => by
    have h : Rds (.val v) d := mkRds hw (fun r hr hs => rd_val hw hg)
    exact ⟨h, X5n h (fun M r hm hl _ _ => by rcases hm with rfl | rfl | rfl | rfl <;> cases hl)⟩
  | .col t n, hw, hg, d, hd, hD => by
    have h : Rds (.col t n) d := mkRds hw (fun r hr hs => rd_col hs)
    exact ⟨h, X5n h (fun M r hm hl _ _ => by rcases hm with rfl | rfl | rfl | rfl <;> cases hl)⟩
  | .neg e, hw, hg, d, hd, hD => by
    rw [Tr.dp] at hD
    have ih : ∀ d', d' ≤ 10 → e.dp + d' ≤ 10 → Rds e d' := fun d' h1 h2 => (X0q e hw hg d' h1 h2).1
    have h : Rds (.neg e) d := mkRds hw (fun r hr hs => by
      have hs : Stop 7 r := hs
      have hin : facL (dp (10 - (d + 1))) (stR (br e.pos (br (lo e 7) e.tk) ++ r) (d + 1)) = (e.ex, stR r (d + 1)) := by
        cases hp : e.pos with
        | false => exact rd_br ih hw (by decide) (by decide) (by rw [hp] at hD; simp only [bd] at hD ⊢; simp at hD; omega) hr hs
        | true =>
          have hl : lo e 7 = false := by
            cases e <;> first | (cases hp; done) | rfl
          rw [hp, hl] at hD
          simp only [bd, if_true, Bool.false_eq_true, if_false] at hD
          rw [hl, br_app]
          refine brk (by omega) ?_
          rw [dpS (by omega)]
          exact ih (d + 1 + 1) (by omega) (by omega) 1 (sT [41] :: r) (by decide) (lvl_le e hw).1 (Q3s hr) (stop_rp 1 r)
      rw [X3j]
      show facL (dp (10 - d)) (stR (sT [45] :: (br e.pos (br (lo e 7) e.tk) ++ r)) d) = _
      have h2 : (List.getD (sT [45] :: (br e.pos (br (lo e 7) e.tk) ++ r)) 1 (0, [], 0, 0)).1 ≠ 3 := by
        show (Go.Parse.hd (br e.pos (br (lo e 7) e.tk) ++ r)).1 ≠ 3
        rw [X1l (Y0i (Y0i (X8i e)))]
        refine hd_br (P := fun x => x.1 ≠ 3) (by decide) (fun hp => hd_br (P := fun x => x.1 ≠ 3) (by decide) (fun hl => ?_))
        have := of_decide_eq_false hl
        exact noNum (by have := (lvl_le e hw).2; omega) hw hp
      unfold facL
      rw [lit_no (Nat.ne_of_beq_eq_false rfl) (Nat.ne_of_beq_eq_false rfl) (.inr h2) rfl]
      have h1 : (stR (sT [45] :: (br e.pos (br (lo e 7) e.tk) ++ r)) d).is [Q2i, [40]] = 0 := Q4v (.inr rfl) (by decide)
      simp only [h1, Bool.false_eq_true, if_false, if_true, X0j]
      rw [X7e (by omega) (by rw [dpS (by omega)]; exact hin)]
      rfl)
    exact ⟨h, X5n h (fun M r hm hl _ _ => by rcases hm with rfl | rfl | rfl | rfl <;> cases hl)⟩
  | .null e, hw, hg, d, hd, hD => by
    rw [Tr.dp] at hD
    have ih : ∀ d', d' ≤ 10 → e.dp + d' ≤ 10 → Rds e d' := fun d' h1 h2 => (X0q e hw hg d' h1 h2).1
    have h : Rds (.null e) d := mkRds hw (fun r hr hs => by
      rw [Q9i]
      show Q5q (dp (10 - d)) (stR (br (lo e 5) e.tk ++ [wT [73, 83], wT [78, 85, 76, 76]] ++ r) d) = _
      have h5 : sumL (dp (10 - d)) (stR (br (lo e 5) e.tk ++ (wT [73, 83] :: wT [78, 85, 76, 76] :: r)) d) = (e.ex, stR (wT [73, 83] :: wT [78, 85, 76, 76] :: r) d) := rd_br (L := 5) (d := d) (r := wT [73, 83] :: wT [78, 85, 76, 76] :: r) ih hw (by decide) (by decide) (by omega) (Q3s (Q3s hr)) (fun w hw => by
        have : (opsF 5).all (fun w => !isW (wT [73, 83]) w) = true := by decide +kernel
        show isW (wT [73, 83]) w = false
        simpa using List.all_eq_true.1 this w hw)
      rw [List.append_assoc]
      show Q5q (dp (10 - d)) (stR (br (lo e 5) e.tk ++ (wT [73, 83] :: wT [78, 85, 76, 76] :: r)) d) = _
      unfold Q5q
      have h1 : (stR (wT [73, 83] :: wT [78, 85, 76, 76] :: r) d).is tests = 6 := Q4v (.inl rfl) (by decide)
      rw [h5]
      simp only [h1, Int.reduceLT, if_false, Int.reduceAdd, Int.reduceLE, X0j]
      unfold isNull
      rw [Q8d (by rfl), Q1f [] rfl]
      rfl)
    exact ⟨h, X5n h (fun M r hm hl _ _ => by rcases hm with rfl | rfl | rfl | rfl <;> cases hl)⟩
  | .not (.null x), hw, hg, d, hd, hD => by
    rw [X4j] at hD
    have ih : ∀ d', d' ≤ 10 → x.dp + d' ≤ 10 → Rds x d' := fun d' h1 h2 => (X0q x hw hg d' h1 h2).1
    have h : Rds (.not (.null x)) d := mkRds hw (fun r hr hs => by
      rw [Q4t]
      show Q5q (dp (10 - d)) (stR (br (lo x 5) x.tk ++ [wT [73, 83], wT [78, 79, 84], wT [78, 85, 76, 76]] ++ r) d) = _
      have h5 : sumL (dp (10 - d)) (stR (br (lo x 5) x.tk ++ (wT [73, 83] :: wT [78, 79, 84] :: wT [78, 85, 76, 76] :: r)) d) = (x.ex, stR (wT [73, 83] :: wT [78, 79, 84] :: wT [78, 85, 76, 76] :: r) d) := rd_br (L := 5) (d := d) (r := wT [73, 83] :: wT [78, 79, 84] :: wT [78, 85, 76, 76] :: r) ih hw (by decide) (by decide) (by omega) (Q3s (Q3s (Q3s hr))) (fun w hw => by
        have : (opsF 5).all (fun w => !isW (wT [73, 83]) w) = true := by decide +kernel
        show isW (wT [73, 83]) w = false
        simpa using List.all_eq_true.1 this w hw)
      rw [List.append_assoc]
      show Q5q (dp (10 - d)) (stR (br (lo x 5) x.tk ++ (wT [73, 83] :: wT [78, 79, 84] :: wT [78, 85, 76, 76] :: r)) d) = _
      unfold Q5q
      have h1 : (stR (wT [73, 83] :: wT [78, 79, 84] :: wT [78, 85, 76, 76] :: r) d).is tests = 6 := Q4v (.inl rfl) (by decide)
      rw [h5]
      simp only [h1, Int.reduceLT, if_false, Int.reduceAdd, Int.reduceLE, X0j]
      unfold isNull
      rw [Q4x (by rfl), X0j, Q1f [] rfl]
      rfl)
    exact ⟨h, X5n h (fun M r hm hl _ _ => by rcases hm with rfl | rfl | rfl | rfl <;> cases hl)⟩
  | .not (.val v), hw, hg, d, hd, hD => rd_not (.val v) rfl hw (fun d' h1 h2 => (X0q (.val v) hw hg d' h1 h2).1) d hd hD
  | .not (.col t n), hw, hg, d, hd, hD => rd_not (.col t n) rfl hw (fun d' h1 h2 => (X0q (.col t n) hw hg d' h1 h2).1) d hd hD
  | .not (.not e), hw, hg, d, hd, hD => rd_not (.not e) rfl hw (fun d' h1 h2 => (X0q (.not e) hw hg d' h1 h2).1) d hd hD
  | .not (.neg e), hw, hg, d, hd, hD => rd_not (.neg e) rfl hw (fun d' h1 h2 => (X0q (.neg e) hw hg d' h1 h2).1) d hd hD
  | .not (.op k a b), hw, hg, d, hd, hD => rd_not (.op k a b) rfl hw (fun d' h1 h2 => (X0q (.op k a b) hw hg d' h1 h2).1) d hd hD
  | .op k a b, hw, hg, d, hd, hD => by
    rw [Tr.dp] at hD
    obtain ⟨⟨hk1, hk2⟩, hwa, hwb⟩ := hw
    have hk := lvK_le k hk1
    have iha : ∀ d', d' ≤ 10 → a.dp + d' ≤ 10 → Rds a d' := fun d' h1 h2 => (X0q a hwa hg.1 d' h1 h2).1
    have ihb : ∀ d', d' ≤ 10 → b.dp + d' ≤ 10 → Rds b d' := fun d' h1 h2 => (X0q b hwb hg.2 d' h1 h2).1
    have hb : ∀ r, WF r → Stop (lvK k + 1) r → RL (lvK k + 1) (dp (10 - d)) (stR (br (lo b (lvK k + 1)) b.tk ++ r) d) = (b.ex, stR r d) := fun r hr hs =>
      rd_br ihb hwb (by omega) (by omega) (by omega) hr hs
    have hw' : (Tr.op k a b).wf := ⟨⟨hk1, hk2⟩, hwa, hwb⟩
    by_cases h4 : lvK k = 4
    · obtain ⟨⟨q1, q2⟩, q3, q4, q5⟩ := op_test k (by omega) hk1 h4
      have hl : lftK k = lvK k + 1 := by unfold lftK; rw [if_pos h4, h4]
      have h : Rds (.op k a b) d := mkRds hw' (fun r hr hs => by
        have hs : Stop (lvK k) r := hs
        show RL (lvK k) _ _ = _
        rw [Y0h, br_rest]
        have ha : RL (lvK k + 1) (dp (10 - d)) (stR (br (lo a (lftK k)) a.tk ++ wd (ops.getD k []) :: (br (lo b (lvK k + 1)) b.tk ++ r)) d) = (a.ex, stR (wd (ops.getD k []) :: (br (lo b (lvK k + 1)) b.tk ++ r)) d) := by
          rw [hl] at hD ⊢
          exact rd_br iha hwa (by omega) (by omega) (by omega) (Q3s (X8t _ hr)) (stop_op hk1 hk2)
        have hbr := hb r hr (hs.mono (by omega))
        have hi : (stR (wd (ops.getD k []) :: (br (lo b (lvK k + 1)) b.tk ++ r)) d).is tests = ((k - 3 : Nat) : Int) := by rw [Q4v q3 (X7d.1 q4), q5]
        rw [h4] at ha hbr hi ⊢
        have ha : sumL (dp (10 - d)) (stR (br (lo a (lftK k)) a.tk ++ wd (ops.getD k []) :: (br (lo b (4 + 1)) b.tk ++ r)) d) = (a.ex, stR (wd (ops.getD k []) :: (br (lo b (4 + 1)) b.tk ++ r)) d) := ha
        have hbr : sumL (dp (10 - d)) (stR (br (lo b (4 + 1)) b.tk ++ r) d) = (b.ex, stR r d) := hbr
        show Q5q (dp (10 - d)) _ = _
        unfold Q5q
        rw [ha]
        simp only [hi]
        rw [if_neg (by omega), if_pos (by omega), X0j, hbr]
        show (opE (3 + ((k - 3 : Nat) : Int)) a.ex b.ex, stR r d) = _
        rw [show 3 + ((k - 3 : Nat) : Int) = (k : Int) by omega]
        rfl)
      exact ⟨h, X5n h (fun M r hm hl _ _ => by
        have : M = lvK k := hl
        rcases hm with rfl | rfl | rfl | rfl <;> omega)⟩
    · obtain ⟨hm, q3, q4, q5⟩ := op_row k (by omega) hk1 h4
      have hl : lftK k = lvK k := by unfold lftK; rw [if_neg h4]
      rw [hl] at hD
      have hR : ∀ r, WF r → Stop (lvK k + 1) r → RL (lvK k) (dp (10 - d)) (stR ((Tr.op k a b).tk ++ r) d) = rowL (RL (lvK k + 1) (dp (10 - d))) (fstM (lvK k)) (wsM (lvK k)) r.length (Tr.op k a b).ex (stR r d) := fun r hr hs => by
        rw [Y0h, br_rest, hl]
        have hW : WF (wd (ops.getD k []) :: (br (lo b (lvK k + 1)) b.tk ++ r)) := Q3s (X8t _ hr)
        have ha : RL (lvK k) (dp (10 - d)) (stR (br (lo a (lvK k)) a.tk ++ wd (ops.getD k []) :: (br (lo b (lvK k + 1)) b.tk ++ r)) d) = rowL (RL (lvK k + 1) (dp (10 - d))) (fstM (lvK k)) (wsM (lvK k)) (wd (ops.getD k []) :: (br (lo b (lvK k + 1)) b.tk ++ r)).length a.ex (stR (wd (ops.getD k []) :: (br (lo b (lvK k + 1)) b.tk ++ r)) d) := by
          cases hla : lo a (lvK k) with
          | false =>
            have := of_decide_eq_false hla
            exact (X0q a hwa hg.1 d hd (by omega)).2 (lvK k) _ hm (by omega) hW (stop_op hk1 hk2)
          | true =>
            have h1 := of_decide_eq_true hla
            have hla2 : lo a (lvK k + 1) = true := decide_eq_true (by omega)
            have := rd_br (L := lvK k + 1) (d := d) (r := wd (ops.getD k []) :: (br (lo b (lvK k + 1)) b.tk ++ r)) iha hwa (by omega) (by omega) (by rw [hla2]; rw [hla] at hD; omega) hW (stop_op hk1 hk2)
            rw [hla2] at this
            rw [RL_row hm, row, this]
            rfl
        have hi : (stR (wd (ops.getD k []) :: (br (lo b (lvK k + 1)) b.tk ++ r)) d).is (wsM (lvK k)) = (idx (wd (ops.getD k [])).2.1 (wsM (lvK k)) : Nat) := Q4v q3 (X7d.1 q4)
        rw [ha, zx, rowL, hi, if_pos (by omega), X0j, hb r hr hs, q5]
        exact X6w (nice_RL _ _) _ _ _ _ _ _ hr (by rw [zw]; show r.length ≤ _; omega) (Nat.le_refl _)
      have h : Rds (.op k a b) d := mkRds hw' (fun r hr hs => by
        have hs : Stop (lvK k) r := hs
        show RL (lvK k) _ _ = _
        rw [hR r hr (hs.mono (by omega))]
        exact rowL_stop _ _ (wsM_sub hm hs))
      exact ⟨h, X5n h (fun M r hM hlM hr hs => by
        have : M = lvK k := hlM
        subst this
        exact hR r hr hs)⟩
theorem rd_exp {t : Tr} {r : List Tk} (hw : t.wf) (hg : t.rg) (hD : t.dp ≤ 10) (hr : WF r) (hs : Stop 1 r) : (dp 11).ex (stR (t.tk ++ r) 0) = (t.ex, stR r 0) :=
  (X0q t hw hg 0 (by omega) (by omega)).1 1 r (Nat.le_refl _) (lvl_le t hw).1 hr hs
theorem gW {s : By} (h : Q8b s = true) : GoodT (wT s) := .inr (.inl ⟨rfl, h, rfl⟩)
theorem gS {s : By} (h : s ∈ signs) : GoodT (sT s) := .inr (.inr (.inr (.inr ⟨rfl, h, rfl⟩)))
theorem gN {s : By} (h : isNm s = true) : GoodT (nT s) := .inl ⟨rfl, h, rfl⟩
theorem gI {n : Int} (h : n ≤ 9223372036854775807) : GoodT (iT n) := .inr (.inr (.inl ⟨rfl, rfl, by show n.toNat ≤ _; omega⟩))
theorem X2w {b : Bool} {l : List Tk} (h : ∀ x ∈ l, GoodT x) : ∀ x ∈ br b l, GoodT x := by
  cases b with
  | false => exact h
  | true =>
    intro x hx
    simp only [br, if_true, List.mem_cons, List.mem_append, List.not_mem_nil, or_false] at hx
    rcases hx with rfl | hx | rfl
    · exact gS (by decide)
    · exact h x hx
    · exact gS (by decide)
theorem good_num {n : Int} (h : inR n) (h2 : n ≠ -9223372036854775808) : ∀ x ∈ numT n, GoodT x := by
  unfold inR at h
  intro x hx
  unfold numT at hx
  split at hx
  · simp only [List.mem_cons, List.not_mem_nil, or_false] at hx
    rcases hx with rfl | rfl
    · exact gS (by decide)
    · exact gI (by omega)
  · simp only [List.mem_cons, List.not_mem_nil, or_false] at hx
    subst hx
    exact gI (by omega)
theorem good_lit {v : Vl} (h : okV v = true) (hg : inR v.2.1) : ∀ x ∈ litT v, GoodT x := by
  intro x hx
  rcases X3n h with rfl | ⟨h1, h2, h3⟩ | ⟨h1, h2, h3⟩
  · simp only [litT, if_true, List.mem_cons, List.not_mem_nil, or_false] at hx
    subst hx
    exact gW (by decide +kernel)
  · unfold litT at hx
    rw [if_neg (by omega), if_neg (by omega)] at hx
    exact good_num hg h3 x hx
  · unfold litT at hx
    rw [if_neg (by omega), if_pos h1] at hx
    simp only [List.mem_cons, List.not_mem_nil, or_false] at hx
    subst hx
    exact .inr (.inr (.inr (.inl ⟨rfl, h3, rfl⟩)))
theorem ops_good : ∀ k, k < 14 → 1 ≤ k → (Q8b (ops.getD k []) && decide ((wd (ops.getD k [])).1 = 2) && decide ((wd (ops.getD k [])).2 = (ops.getD k [], 0, 0))) || (signs.contains (ops.getD k []) && decide ((wd (ops.getD k [])).1 = 5) && decide ((wd (ops.getD k [])).2 = (ops.getD k [], 0, 0))) := by decide +kernel
theorem good_op {k : Nat} (h1 : 1 ≤ k) (h2 : k ≤ 13) : GoodT (wd (ops.getD k [])) := by
  have := ops_good k (by omega) h1
  simp only [Bool.or_eq_true, Bool.and_eq_true, decide_eq_true_eq] at this
  rcases this with ⟨⟨a, b⟩, c⟩ | ⟨⟨a, b⟩, c⟩
  · exact .inr (.inl ⟨b, by rw [c]; exact a, by rw [c]⟩)
  · exact .inr (.inr (.inr (.inr ⟨b, by rw [c]; simpa using a, by rw [c]⟩)))
theorem Q7e : ∀ t : Tr, t.wf → t.rg → ∀ x ∈ t.tk, GoodT x
  | .val v, hw, hg => good_lit hw hg
  | .col t n, hw, hg => by
    obtain ⟨h1, h2⟩ : isNm n = true ∧ (t = [] ∨ isNm t = true) := hw
    intro x hx
    rw [Tr.tk] at hx
    split at hx
    · simp only [List.mem_cons, List.not_mem_nil, or_false] at hx
      subst hx
      exact gN h1
    · rename_i ht
      simp only [List.mem_cons, List.not_mem_nil, or_false] at hx
      rcases hx with rfl | rfl | rfl
      · exact gN (h2.resolve_left ht)
      · exact gS (by decide)
      · exact gN h1
  | .null e, hw, hg => by
    intro x hx
    rw [Q9i, List.mem_append] at hx
    rcases hx with hx | hx
    · exact X2w (Q7e e hw hg) x hx
    · simp only [List.mem_cons, List.not_mem_nil, or_false] at hx
      rcases hx with rfl | rfl <;> exact gW (by decide +kernel)
  | .neg e, hw, hg => by
    intro x hx
    rw [X3j, List.mem_cons] at hx
    rcases hx with rfl | hx
    · exact gS (by decide)
    · exact X2w (X2w (Q7e e hw hg)) x hx
  | .not (.null y), hw, hg => by
    intro x hx
    rw [Q4t, List.mem_append] at hx
    rcases hx with hx | hx
    · exact X2w (Q7e y hw hg) x hx
    · simp only [List.mem_cons, List.not_mem_nil, or_false] at hx
      rcases hx with rfl | rfl | rfl <;> exact gW (by decide +kernel)
  | .not (.val v), hw, hg => good_not rfl (Q7e (.val v) hw hg)
  | .not (.col t n), hw, hg => good_not rfl (Q7e (.col t n) hw hg)
  | .not (.not e), hw, hg => good_not rfl (Q7e (.not e) hw hg)
  | .not (.neg e), hw, hg => good_not rfl (Q7e (.neg e) hw hg)
  | .not (.op k a b), hw, hg => good_not rfl (Q7e (.op k a b) hw hg)
  | .op k a b, hw, hg => by
    intro x hx
    rw [Y0h, List.mem_append, List.mem_cons] at hx
    rcases hx with hx | rfl | hx
    · exact X2w (Q7e a hw.2.1 hg.1) x hx
    · exact good_op hw.1.1 hw.1.2
    · exact X2w (Q7e b hw.2.2 hg.2) x hx
where good_not {e : Tr} (he : e.isNull = false) (h : ∀ x ∈ e.tk, GoodT x) : ∀ x ∈ (Tr.not e).tk, GoodT x := by
        intro x hx
        rw [X1k he, List.mem_cons] at hx
        rcases hx with rfl | hx
        · exact gW (by decide +kernel)
        · exact X2w h x hx
theorem words_len : ∀ s ∈ words, s.length ≤ 16 := by decide +kernel
theorem signs_len : ∀ s ∈ signs, s.length ≤ 2 := by decide +kernel
theorem txt_len {t : Tk} (h : GoodT t) : (txt t).length ≤ 82 := by
  obtain ⟨k, s, n, a⟩ := t
  rcases h with ⟨rfl, h1, rfl⟩ | ⟨rfl, h1, rfl⟩ | ⟨rfl, rfl, h1⟩ | ⟨rfl, h1, rfl⟩ | ⟨rfl, h1, rfl⟩
  · have h2 : s.length ≤ 16 := (X6b h1).2.1
    show s.length ≤ 82; omega
  · have := words_len s (X3l h1); show s.length ≤ 82; omega
  · have h1 : n ≤ 9223372036854775807 := h1
    have := dec_len n 19 (by omega); show (dec n).length ≤ 82; omega
  · have := quo_len s; show (Q8v s).length ≤ 82; unfold Q8v; simp at h1 ⊢; omega
  · have := signs_len s h1; show s.length ≤ 82; omega
theorem joinS_le : ∀ l : List By, (∀ x ∈ l, x.length ≤ 82) → (Q5h l).length ≤ 83 * l.length
  | [], _ => Nat.zero_le _
  | [a], h => by have := h a (by simp); show a.length ≤ 83 * 1; omega
  | a :: b :: r, h => by
    have := h a (by simp)
    have ih := joinS_le (b :: r) (fun x hx => h x (by simp [hx]))
    have e : Q5h (a :: b :: r) = a ++ 32 :: Q5h (b :: r) := rfl
    rw [e]
    simp only [zw, zx] at ih ⊢
    omega
theorem writeT_len {l : List Tk} (h : ∀ x ∈ l, GoodT x) : (Q6u l).length ≤ 83 * l.length := by
  unfold Q6u
  have h1 := joinS_le (txts l) (fun x hx => by
    unfold txts at hx
    obtain ⟨t, ht, rfl⟩ := List.mem_map.1 hx
    exact txt_len (h t (List.mem_filter.1 ht).1))
  have h2 : (txts l).length ≤ l.length := by
    unfold txts
    rw [List.length_map]
    exact List.length_filter_le _ _
  omega
theorem X3o : ∀ t : Tr, Lim t.ex → t.rg
  | .val v, h => by cases h with | mk _ _ _ _ _ _ _ hr _ => exact hr.2.2.2
  | .col t n, h => trivial
  | .null e, h => by cases h with | mk _ _ _ _ _ _ _ hr hl => exact X3o e (hl _ (by simp))
  | .neg e, h => by cases h with | mk _ _ _ _ _ _ _ hr hl => exact X3o e (hl _ (by simp))
  | .not e, h => by cases h with | mk _ _ _ _ _ _ _ hr hl => exact X3o e (hl _ (by simp))
  | .op k a b, h => by cases h with | mk _ _ _ _ _ _ _ hr hl => exact ⟨X3o a (hl _ (by simp)), X3o b (hl _ (by simp))⟩
def GL (l : List Tk) : Prop := ∀ t ∈ l, t.1 = 6 ∨ GoodT t
theorem GL.suf {l m : List Tk} (h : GL l) (hs : m <:+ l) : GL m := fun t ht => h t (hs.subset ht)
theorem GL.hd {s : Rd} (h : GL s.l) (hp : 0 < s.l.length) : (hd s.l).1 = 6 ∨ GoodT (hd s.l) := by
  unfold Go.Parse.hd
  rw [List.getD_eq_getElem?_getD, List.getElem?_eq_getElem hp]
  exact h _ (List.getElem_mem hp)
theorem Q3f {s s' : Rd} (o : Ok s s') (h : s'.c = 0) : s.c = 0 := Classical.byContradiction fun hc => hc ((o.c hc).1.symm.trans h)
def TrE (e : Ex) (n : Nat) : Prop := ∃ t : Tr, t.wf ∧ t.rg ∧ t.ex = e ∧ t.tk.length + 5 ≤ n
theorem TrE.mono {e : Ex} {n m : Nat} (h : TrE e n) (hn : n ≤ m) : TrE e m := by
  obtain ⟨t, h1, h2, h3, h4⟩ := h
  exact ⟨t, h1, h2, h3, by omega⟩
def Dk (k : Int) (s : Rd) : Prop := k ≤ s.d ∧ s.d ≤ 10
theorem Dk.ok {k : Int} {s s' : Rd} (h : Dk k s) (o : Ok s s') : Dk k s' := by
  unfold Dk at h ⊢
  rw [o.d]; exact h
def Rgt (k : Int) (F : Pr) : Prop := ∀ s, Dk k s → WF s.l → GL s.l → (F s).2.c = 0 → (F s).2.l.length ≤ s.l.length ∧ TrE (F s).1 (6 * (s.l.length - (F s).2.l.length))
theorem X0k {s : Rd} (hw : WF s.l) (hk : (hd s.l).1 ≠ 6) : s.next.l.length + 1 = s.l.length := (hw.tail hk).2
theorem X0l {s : Rd} {ws : List By} (hw : WF s.l) (h : 0 ≤ s.is ws) : s.next.l.length + 1 = s.l.length := by
  obtain ⟨h1, h2, _⟩ := X1h h
  exact X0k hw (by omega)
theorem must1 {s : Rd} {w : By} (h : (s.must [w]).c = 0) : s.has w = true ∧ s.must [w] = s.next := by
  unfold Rd.must at h ⊢
  split at h
  · rename_i hh
    rw [if_pos hh]
    exact ⟨hh, rfl⟩
  · exfalso
    unfold Rd.must Rd.fail at h
    split at h
    · cases h
    · rename_i hc; exact hc h
theorem br_le (b : Bool) (l : List Tk) : (br b l).length ≤ l.length + 2 := (br_len b l).2
theorem tre_op {k : Int} {a b : Ex} {n m : Nat} (h1 : 1 ≤ k) (h2 : k ≤ 13) (ha : TrE a n) (hb : TrE b m) : TrE (opE k a b) (n + m + 6) := by
  obtain ⟨t, t1, t2, rfl, t4⟩ := ha
  obtain ⟨u, u1, u2, rfl, u4⟩ := hb
  refine ⟨.op k.toNat t u, ⟨⟨by omega, by omega⟩, t1, u1⟩, ⟨t2, u2⟩, ?_, ?_⟩
  · show Ex.mk 3 (k.toNat : Int) [] [] v0 [t.ex, u.ex] = _
    rw [show (k.toNat : Int) = k by omega]
  · rw [Y0h, zw, zx]
    have := br_le (lo t (lftK k.toNat)) t.tk
    have := br_le (lo u (lvK k.toNat + 1)) u.tk
    omega
theorem tre_neg {a : Ex} {n : Nat} (ha : TrE a n) : TrE (ofE 5 a) (n + 6) := by
  obtain ⟨t, t1, t2, rfl, t4⟩ := ha
  refine ⟨.neg t, t1, t2, rfl, ?_⟩
  rw [X3j, zx]
  have := br_le t.pos (br (lo t 7) t.tk)
  have := br_le (lo t 7) t.tk
  omega
theorem tre_null {a : Ex} {n : Nat} (ha : TrE a n) : TrE (ofE 6 a) (n + 6) := by
  obtain ⟨t, t1, t2, rfl, t4⟩ := ha
  refine ⟨.null t, t1, t2, rfl, ?_⟩
  rw [Q9i, zw]
  have := br_le (lo t 5) t.tk
  simp
  omega
theorem tre_notnull {a : Ex} {n : Nat} (ha : TrE a n) : TrE (ofE 4 (ofE 6 a)) (n + 6) := by
  obtain ⟨t, t1, t2, rfl, t4⟩ := ha
  refine ⟨.not (.null t), t1, t2, rfl, ?_⟩
  rw [Q4t, zw]
  have := br_le (lo t 5) t.tk
  simp
  omega
theorem tre_not {a : Ex} {n : Nat} (ha : TrE a n) : TrE (ofE 4 a) (n + 6) := by
  obtain ⟨t, t1, t2, rfl, t4⟩ := ha
  refine ⟨.not t, t1, t2, rfl, ?_⟩
  cases hn : t.isNull with
  | false =>
    rw [X1k hn, zx]
    have := br_le (lo t 3) t.tk
    omega
  | true =>
    cases t with
    | null x =>
      rw [Q4t, zw]
      rw [Q9i, zw] at t4
      simp at t4 ⊢
      omega
    | _ => cases hn
theorem X7f {k : Int} {F : Pr} (h : Rgt (k + 1) F) : ∀ s, Dk k s → WF s.l → GL s.l → (Q1u F s).2.c = 0 → (Q1u F s).2.l.length ≤ s.l.length ∧ TrE (Q1u F s).1 (6 * (s.l.length - (Q1u F s).2.l.length)) := by
  intro s hd hw hg hc
  obtain ⟨d1, d2, d3, d4⟩ := down_ok hw
  unfold Q1u at hc ⊢
  split
  · rename_i h0
    rw [if_pos h0] at hc
    have hd2 : Dk (k + 1) s.down := by
      unfold Dk at hd ⊢
      rw [d1]
      refine ⟨by omega, ?_⟩
      refine Classical.byContradiction fun hn => ?_
      unfold Rd.down at h0
      rw [if_pos (by omega)] at h0
      unfold Rd.fail at h0
      split at h0
      · cases h0
      · rename_i hh; exact hh h0
    have := h s.down hd2 d2 (by rw [d3]; exact hg) hc
    rw [d3] at this
    exact this
  · rename_i h0
    rw [if_neg h0] at hc
    exact absurd hc h0
theorem rg_rowL {k : Int} {F : Pr} (hN : Nice F) (h : Rgt k F) (first : Int) (ws : List By) (hf : 1 ≤ first) (hf2 : first + ws.length ≤ 14) : ∀ (n : Nat) (e : Ex) (s : Rd) (m : Nat), Dk k s → WF s.l → GL s.l → TrE e m → (rowL F first ws n e s).2.c = 0 → (rowL F first ws n e s).2.l.length ≤ s.l.length ∧ TrE (rowL F first ws n e s).1 (m + 6 * (s.l.length - (rowL F first ws n e s).2.l.length))
  | 0, e, s, m, hd, hw, hg, he, hc => ⟨Nat.le_refl _, he.mono (by omega)⟩
  | n + 1, e, s, m, hd, hw, hg, he, hc => by
    unfold rowL at hc ⊢
    split
    · rename_i h0
      rw [if_pos h0] at hc
      have o1 := X0u hw h0
      have l1 := X0l hw h0
      have o2 := hN s.next o1.wf
      have o3 := Y0d hN first ws n (opE (first + s.is ws) e (F s.next).1) (F s.next).2 o2.wf
      have q1 := h s.next (hd.ok o1) o1.wf (hg.suf o1.suf) (Q3f o3 hc)
      have hlt := Y0c s ws
      have q2 := tre_op (k := first + s.is ws) (by omega) (by omega) he q1.2
      have q3 := rg_rowL hN h first ws hf hf2 n _ (F s.next).2 _ ((hd.ok o1).ok o2) o2.wf (hg.suf (o2.suf.trans o1.suf)) q2 hc
      exact ⟨by omega, q3.2.mono (by omega)⟩
    · rename_i h0
      exact ⟨Nat.le_refl _, he.mono (by omega)⟩
theorem rg_row {k : Int} {F : Pr} (hN : Nice F) (h : Rgt k F) (first : Int) (ws : List By) (hf : 1 ≤ first) (hf2 : first + ws.length ≤ 14) : Rgt k (row F first ws) := fun s hd hw hg hc => by
  have o := hN s hw
  have o2 := Y0d hN first ws (F s).2.l.length (F s).1 (F s).2 o.wf
  have q1 := h s hd hw hg (Q3f o2 hc)
  have q2 := rg_rowL hN h first ws hf hf2 (F s).2.l.length (F s).1 (F s).2 _ (hd.ok o) o.wf (hg.suf o.suf) q1.2 hc
  refine ⟨Nat.le_trans q2.1 q1.1, q2.2.mono ?_⟩
  have := q1.1
  have := q2.1
  show _ ≤ 6 * (s.l.length - (rowL F first ws (F s).2.l.length (F s).1 (F s).2).2.l.length)
  omega
theorem X7g {s : Rd} {k : Nat} (h : (s.take k).c = 0) : s.takes k ∧ s.take k = s.next ∧ s.tok k = hd s.l := by
  by_cases hk : s.takes k
  · exact ⟨hk, if_pos hk, if_pos hk⟩
  · exfalso
    have e : s.take k = s.fail 4 := if_neg hk
    rw [e] at h
    unfold Rd.fail at h
    split at h
    · cases h
    · rename_i hc; exact hc h
theorem Y0j {t : Tk} (h : t.1 = 6 ∨ GoodT t) (hk : t.1 = 1) : isNm t.2.1 = true := by
  rcases h with h | ⟨h1, h2, h3⟩ | ⟨h1, h2, h3⟩ | ⟨h1, h2, h3⟩ | ⟨h1, h2, h3⟩ | ⟨h1, h2, h3⟩ <;> first | exact h2 | omega
theorem col_len (t n : By) : (Tr.col t n).tk.length ≤ 3 ∧ (t = [] → (Tr.col t n).tk.length = 1) := by
  rw [Tr.tk]
  split
  · exact ⟨by simp, fun _ => rfl⟩
  · rename_i h; exact ⟨by simp, fun h' => absurd h' h⟩
theorem rg_column {k : Int} : Rgt k Rd.column := fun s hd hw hg hc => by
  have o1 := Q2m (k := 1) hw (by decide)
  unfold Rd.column at hc ⊢
  split
  · rename_i h
    rw [if_pos h] at hc
    have o2 := Q8s o1.wf h
    have o3 := Q2m (k := 1) o2.wf (by decide)
    obtain ⟨a1, a2, a3⟩ := X7g (Q3f o2 (Q3f o3 hc))
    obtain ⟨b1, b2, b3⟩ := X7g hc
    have l1 := X0k hw (by rw [a1.2]; decide)
    have l2 := X0l o1.wf (of_decide_eq_true h : 0 ≤ (s.take 1).is [[46]])
    have l3 := X0k o2.wf (by rw [b1.2]; decide)
    rw [b2]
    dsimp only
    rw [a2] at l2 l3
    have l4 : (s.take 1).next.next.l.length = s.next.next.next.l.length := by rw [a2]
    refine ⟨by omega, .col (s.tok 1).2.1 ((s.take 1).next.tok 1).2.1, ⟨?_, .inr ?_⟩, trivial, rfl, ?_⟩
    · rw [b3]; exact Y0j ((hg.suf (o2.suf.trans o1.suf)).hd o2.wf.pos) b1.2
    · rw [a3]; exact Y0j (hg.hd hw.pos) a1.2
    · have := (col_len (s.tok 1).2.1 ((s.take 1).next.tok 1).2.1).1
      omega
  · rename_i h
    rw [if_neg h] at hc
    obtain ⟨a1, a2, a3⟩ := X7g hc
    have l1 := X0k hw (by rw [a1.2]; decide)
    simp only [a2]
    refine ⟨by omega, .col [] (s.tok 1).2.1, ⟨?_, .inl rfl⟩, trivial, rfl, ?_⟩
    · rw [a3]; exact Y0j (hg.hd hw.pos) a1.2
    · have := (col_len [] (s.tok 1).2.1).2 rfl
      omega
theorem Y0k {t : Tk} (h : t.1 = 6 ∨ GoodT t) (hk : t.1 = 3) : t.2.2.1 ≤ 9223372036854775807 := by
  rcases h with h | ⟨h1, h2, h3⟩ | ⟨h1, h2, h3⟩ | ⟨h1, h2, h3⟩ | ⟨h1, h2, h3⟩ | ⟨h1, h2, h3⟩ <;> first | exact h3 | omega
theorem good_txt {t : Tk} (h : t.1 = 6 ∨ GoodT t) (hk : t.1 = 4) : t.2.1.length ≤ 40 := by
  rcases h with h | ⟨h1, h2, h3⟩ | ⟨h1, h2, h3⟩ | ⟨h1, h2, h3⟩ | ⟨h1, h2, h3⟩ | ⟨h1, h2, h3⟩ <;> first | exact h2 | omega
theorem okV_num {n : Int} (h : -9223372036854775807 ≤ n ∧ n ≤ 9223372036854775807) : okV (1, n, []) = true := by
  unfold okV X5m X6y
  simp
  omega
theorem okV_txt {t : By} (h : t.length ≤ 40) : okV (2, 0, t) = true := by
  unfold okV X5m X6y
  simp
  omega
theorem Y0l {v : Vl} {n : Nat} (h : okV v = true) (hr : inR v.2.1) (hn : (litT v).length + 5 ≤ n) : TrE (.mk 1 0 [] [] v []) n := by
  refine ⟨.val v, h, hr, rfl, ?_⟩
  rw [Tr.tk]; exact hn
theorem rg_lit : ∀ s : Rd, WF s.l → GL s.l → s.lit.2.2.c = 0 → s.lit.2.1 = true → s.lit.2.2.l.length ≤ s.l.length ∧ TrE (.mk 1 0 [] [] s.lit.1 []) (6 * (s.l.length - s.lit.2.2.l.length)) := fun s hw hg hc ht => by
  unfold Rd.lit at hc ht ⊢
  split
  · rename_i h; rw [if_pos h] at ht; cases ht
  · rename_i h
    rw [if_neg h] at hc ht
    have hc0 : s.c = 0 := Classical.byContradiction h
    have hh := hg.hd hw.pos
    split
    · rename_i h3
      have l1 := X0k hw (by rw [h3]; decide)
      have hn := Y0k hh h3
      refine ⟨by show s.next.l.length ≤ _; omega, Y0l (okV_num (by constructor <;> omega)) (by unfold inR; dsimp only; omega) ?_⟩
      show (litT (1, (((hd s.l).2.2.1 : Nat) : Int), [])).length + 5 ≤ 6 * (s.l.length - s.next.l.length)
      have : litT (1, (((hd s.l).2.2.1 : Nat) : Int), []) = [iT ((hd s.l).2.2.1 : Nat)] := by
        unfold litT numT
        rw [if_neg (by simp), if_neg (by simp), if_neg (by dsimp only; omega)]
      rw [this]
      simp; omega
    · rename_i h3
      rw [if_neg h3] at hc ht
      split
      · rename_i h4
        have l1 := X0k hw (by rw [h4]; decide)
        refine ⟨by show s.next.l.length ≤ _; omega, Y0l (okV_txt (good_txt hh h4)) (by unfold inR; dsimp only; omega) ?_⟩
        show (litT (2, 0, (hd s.l).2.1)).length + 5 ≤ 6 * (s.l.length - s.next.l.length)
        have : (litT (2, 0, (hd s.l).2.1)).length = 1 := rfl
        omega
      · rename_i h4
        rw [if_neg h4] at hc ht
        split
        · rename_i h5
          rw [if_pos h5] at hc ht
          have hp : 0 ≤ s.is [Q7d] := of_decide_eq_true ht
          have l1 := X0l hw hp
          have hpass : s.pass [Q7d] = s.next := if_pos hp
          simp only [hpass]
          refine ⟨by omega, Y0l (by decide) (by unfold inR; decide) ?_⟩
          have : (litT v0).length = 1 := rfl
          omega
        · rename_i h5
          rw [if_neg h5] at hc ht
          have h6 : 0 ≤ s.is [Q2i] := by
            rcases Int.lt_or_le (s.is [Q2i]) 0 with h' | h'
            · exact absurd (.inl h') h5
            · exact h'
          have h7 : (s.l.getD 1 (0, [], 0, 0)).1 = 3 := Classical.byContradiction fun h' => h5 (.inr h')
          have o1 := X0u hw h6
          have l1 := X0l hw h6
          have e : hd s.next.l = s.l.getD 1 (0, [], 0, 0) := by
            unfold hd Rd.next
            rw [List.getD_eq_getElem?_getD, List.getD_eq_getElem?_getD, List.getElem?_tail]
          have l2 := X0k o1.wf (by rw [e, h7]; decide)
          have hn := Y0k (by rw [← e]; exact (hg.suf o1.suf).hd o1.wf.pos) h7
          have hwrap : IntKind.i64.wrap (0 - ((s.l.getD 1 (0, [], 0, 0)).2.2.1 : Int)) = -((s.l.getD 1 (0, [], 0, 0)).2.2.1 : Int) := by
            rw [w64 (by omega) (by omega)]; omega
          simp only [hwrap]
          refine ⟨by omega, Y0l (okV_num (by constructor <;> omega)) (by unfold inR; dsimp only; omega) ?_⟩
          have := (X3m (1, -((s.l.getD 1 (0, [], 0, 0)).2.2.1 : Int), [])).2
          omega
end Go.Print
