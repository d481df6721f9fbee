import Derived.Test.YtkbfngepdgdecaaL1
set_option linter.unusedVariables false
set_option linter.unusedSimpArgs false
namespace Go.Lex
open Go.V
/-! The plain reading of a text: what a token is. -/
def isFirst (c : UInt8) : Bool := (decide (97 ≤ c.toNat) && decide (c.toNat ≤ 122)) || decide (c.toNat = 95)
def isGreat (c : UInt8) : Bool := decide (65 ≤ c.toNat) && decide (c.toNat ≤ 90)
def isDigit (c : UInt8) : Bool := decide (48 ≤ c.toNat) && decide (c.toNat ≤ 57)
def isSmall (c : UInt8) : Bool := isFirst c || isDigit c
def ws (c : UInt8) : Bool := c == 9 || c == 10 || c == 13 || c == 32
/-- One blank: how long. -/
def bstep : List UInt8 → Nat
  | [] => 0
  | c :: r => if ws c then 1 else if hasPre [45, 45] (c :: r) then pre (· != 10) (c :: r) else 0
theorem bstep_le (l : List UInt8) : bstep l ≤ l.length := by
  unfold bstep
  split
  · simp
  · split
    · simp
    · split
      · exact pre_le _ _
      · simp
theorem bstep_nil : bstep [] = 0 := rfl
/-- All blanks: how long. -/
def blanks (l : List UInt8) : Nat := if h : bstep l = 0 then 0 else bstep l + blanks (l.drop (bstep l))
termination_by l.length
decreasing_by
  have := bstep_le l
  have : l ≠ [] := fun e => h (by rw [e]; rfl)
  have := List.length_pos_iff.2 this
  simp
  omega
theorem blanks_stop {l : List UInt8} (h : bstep l = 0) : blanks l = 0 := by rw [blanks, dif_pos h]
theorem blanks_step {l : List UInt8} (h : bstep l ≠ 0) : blanks l = bstep l + blanks (l.drop (bstep l)) := by rw [blanks, dif_neg h]
theorem blanks_le (l : List UInt8) : blanks l ≤ l.length := by
  by_cases h : bstep l = 0
  · rw [blanks_stop h]; exact Nat.zero_le _
  · rw [blanks_step h]
    have h1 := bstep_le l
    have h2 := blanks_le (l.drop (bstep l))
    simp at h2
    omega
termination_by l.length
decreasing_by
  have := bstep_le l
  have : l ≠ [] := fun e => h (by rw [e]; rfl)
  have := List.length_pos_iff.2 this
  simp
  omega
theorem bstep_blanks (l : List UInt8) : bstep (l.drop (blanks l)) = 0 := by
  by_cases h : bstep l = 0
  · rw [blanks_stop h]; simpa using h
  · rw [blanks_step h, ← List.drop_drop]
    exact bstep_blanks _
termination_by l.length
decreasing_by
  have := bstep_le l
  have : l ≠ [] := fun e => h (by rw [e]; rfl)
  have := List.length_pos_iff.2 this
  simp
  omega

theorem ws_iff (c : UInt8) : ws c = true ↔ c.toNat = 9 ∨ c.toNat = 10 ∨ c.toNat = 13 ∨ c.toNat = 32 := by
  have h : ∀ k : UInt8, (c = k) ↔ c.toNat = k.toNat := fun k => ⟨fun e => by rw [e], fun e => UInt8.toNat_inj.1 e⟩
  simp [ws, h, or_assoc]
theorem dd_iff (l : List UInt8) : hasPre [45, 45] l = true ↔ (l[0]?).map (·.toNat) = some 45 ∧ (l[1]?).map (·.toNat) = some 45 := by
  have h : ∀ c : UInt8, (c = 45) ↔ c.toNat = 45 := fun c => ⟨fun e => by rw [e]; rfl, fun e => UInt8.toNat_inj.1 e⟩
  match l with
  | [] => simp [hasPre]
  | [a] => simp [hasPre]
  | a :: b :: r => simp [hasPre, h]
theorem bstep_at {l : List UInt8} {k : Nat} (h : k < l.length) : bstep (l.drop k) = if ws (l.getD k 0) then 1 else if hasPre [45, 45] (l.drop k) then pre (· != 10) (l.drop k) else 0 := by
  rw [getD_lt h, List.drop_eq_getElem_cons h]
  rfl
/-- A comment's length, seen from behind its two strokes. -/
theorem pre_dd {l : List UInt8} (h : hasPre [45, 45] l = true) : 2 ≤ l.length ∧ pre (· != 10) l = 2 + pre (· != 10) (l.drop 2) := by
  match l with
  | [] => simp [hasPre] at h
  | [a] => simp [hasPre] at h
  | a :: b :: r =>
    simp [hasPre] at h
    obtain ⟨rfl, rfl⟩ := h
    refine ⟨by simp, ?_⟩
    simp [pre, List.takeWhile_cons]
    omega
/-- A row of digits, read behind n. -/
def num : List UInt8 → Nat → Option Nat
  | [], n => some n
  | c :: r, n => if 9223372036854775807 < 10 * n + (c.toNat - 48) then none else num r (10 * n + (c.toNat - 48))
theorem num_end {l : List UInt8} {k n : Nat} (h : l.length ≤ k) : num (l.drop k) n = some n := by rw [List.drop_of_length_le h]; rfl
theorem num_over {l : List UInt8} {k n : Nat} (h : k < l.length) (ho : 9223372036854775807 < 10 * n + ((l.getD k 0).toNat - 48)) : num (l.drop k) n = none := by
  rw [getD_lt h] at ho
  rw [List.drop_eq_getElem_cons h]
  exact if_pos ho
theorem num_step {l : List UInt8} {k n : Nat} (h : k < l.length) (ho : ¬ 9223372036854775807 < 10 * n + ((l.getD k 0).toNat - 48)) : num (l.drop k) n = num (l.drop (k + 1)) (10 * n + ((l.getD k 0).toNat - 48)) := by
  rw [getD_lt h] at ho ⊢
  rw [List.drop_eq_getElem_cons h]
  exact if_neg ho
end Go.Lex
