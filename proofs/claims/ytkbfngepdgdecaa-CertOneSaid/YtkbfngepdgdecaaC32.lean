/-wraps2-/
import Derived.Test.YtkbfngepdgdecaaC29
set_option linter.unusedSimpArgs false
set_option linter.unusedVariables false
namespace Go.Cert
open Go.V
theorem bits_test (K : Nat → Bool) (i : Nat) : ∀ k, (bitsOf K k).testBit i = (decide (i < k) && K (i + 1))
  | 0 => by simp [bitsOf]
  | k + 1 => by
    have ih := bits_test K i k
    rw [bitsOf]
    by_cases h : K (k + 1) = true
    · rw [if_pos h, ← or_bit (bitsOf_lt K k), Nat.testBit_or, ih, Nat.testBit_two_pow]
      by_cases e : k = i
      · subst e; simp [h]
      · have : (i < k + 1) ↔ (i < k) := by omega
        simp [e, this]
    · rw [if_neg h, Nat.add_zero, ih]
      by_cases e : i = k
      · subst e; simp [h]
      · have : (i < k + 1) ↔ (i < k) := by omega
        simp [this]
theorem sub_iff (s m : Nat) : s &&& m = s ↔ ∀ i, s.testBit i = true → m.testBit i = true := by
  constructor
  · intro h i hi
    rw [← h, Nat.testBit_and] at hi
    simp at hi
    exact hi.2
  · intro h
    refine Nat.eq_of_testBit_eq fun i => ?_
    rw [Nat.testBit_and]
    cases hs : s.testBit i with
    | false => rfl
    | true => rw [h i hs]; rfl
theorem cnt_bit (s n : Nat) : s / 2 ^ n % 2 = if s.testBit n = true then 1 else 0 := by
  rw [Nat.testBit_eq_decide_div_mod_eq]
  have := Nat.mod_two_eq_zero_or_one (s / 2 ^ n)
  by_cases h : s / 2 ^ n % 2 = 1
  · simp [h]
  · have h0 : s / 2 ^ n % 2 = 0 := by omega
    simp [h0]
theorem cnt_mono {s m : Nat} (h : ∀ i, s.testBit i = true → m.testBit i = true) : ∀ n, cnt n s ≤ cnt n m
  | 0 => Nat.le_refl _
  | n + 1 => by
    have ih := cnt_mono h n
    rw [cnt, cnt, cnt_bit, cnt_bit]
    by_cases hs : s.testBit n = true
    · rw [if_pos hs, if_pos (h n hs)]; omega
    · rw [if_neg hs]; split <;> omega
end Go.Cert
namespace Go.Proofs.Ytkbfngepdgdecaa
open Go Go.V Go.Cert
theorem isQ_mono {n s : Int} {m : Nat} (h : isQ n s = true) (hs : s.toNat &&& m = s.toNat) (hm : m ≤ 65535) : isQ n (m : Int) = true := by
  unfold isQ at h ⊢
  obtain ⟨h1, h2, h3, h4⟩ := of_decide_eq_true h
  refine decide_eq_true ⟨h1, by omega, by omega, ?_⟩
  have := cnt_mono ((sub_iff _ _).1 hs) n.toNat
  rw [Int.toNat_natCast]
  omega
theorem bq_lt (ps : Ps) (n q : Int) (l : List UInt8) : bq ps n q l < 65536 := bits16 _ _
theorem bq_lt' {n : Int} (hn : isN n) (ps : Ps) (q : Int) (l : List UInt8) : bq ps n q l < 2 ^ n.toNat := by
  have := bitsOf_lt (fun m => decide (((m : Int), certText q l) ∈ ps)) (min n.toNat 16)
  unfold bq
  rwa [min16 hn] at this ⊢
theorem bq_sub {ps ps' : Ps} (h : ∀ p ∈ ps, p ∈ ps') (n q : Int) (l : List UInt8) : ∀ i, (bq ps n q l).testBit i = true → (bq ps' n q l).testBit i = true := by
  intro i hi
  unfold bq at hi ⊢
  rw [bits_test] at hi ⊢
  simp only [Bool.and_eq_true, decide_eq_true_eq] at hi ⊢
  exact ⟨hi.1, h _ hi.2⟩
theorem chk_zero {m : Nat} {n q s : Int} : chk m n q s = 0 ↔ (isN n ∧ ¬ bad q) ∧ isQ n s = true ∧ s < 2 ^ n.toNat ∧ s.toNat &&& m = s.toNat := by
  unfold chk
  by_cases h : ¬ isN n ∨ bad q
  · rw [if_pos h]
    exact ⟨fun h => by simp at h, fun ⟨⟨h1, h2⟩, _⟩ => (h.elim (fun x => x h1) h2).elim⟩
  · rw [if_neg h]
    have h' : isN n ∧ ¬ bad q := ⟨Classical.not_not.1 fun x => h (.inl x), fun x => h (.inr x)⟩
    by_cases h2 : isQ n s = true ∧ s < 2 ^ n.toNat ∧ s.toNat &&& m = s.toNat
    · rw [if_pos h2]; exact ⟨fun _ => ⟨h', h2⟩, fun _ => rfl⟩
    · rw [if_neg h2]; exact ⟨fun h => by simp at h, fun h => absurd h.2 h2⟩
/-- More who sealed: what held holds. -/
theorem chk_more {ps ps' : Ps} (h : ∀ p ∈ ps, p ∈ ps') {n q s : Int} {l : List UInt8} (hc : chk (bq ps n q l) n q s = 0) : chk (bq ps' n q l) n q s = 0 := by
  rw [chk_zero] at hc ⊢
  obtain ⟨h1, h2, h3, h4⟩ := hc
  exact ⟨h1, h2, h3, (sub_iff _ _).2 fun i hi => bq_sub h n q l i ((sub_iff _ _).1 h4 i hi)⟩
/-- What is collected. -/
theorem col_zero {m : Nat} {n q : Int} : colE m n q = 0 ↔ (isN n ∧ ¬ bad q) ∧ isQ n m = true := by
  unfold colE
  by_cases h : ¬ isN n ∨ bad q
  · rw [if_pos h]
    exact ⟨fun h => by simp at h, fun ⟨⟨h1, h2⟩, _⟩ => (h.elim (fun x => x h1) h2).elim⟩
  · rw [if_neg h]
    have h' : isN n ∧ ¬ bad q := ⟨Classical.not_not.1 fun x => h (.inl x), fun x => h (.inr x)⟩
    by_cases h2 : isQ n m = true
    · rw [if_pos h2]; exact ⟨fun _ => ⟨h', h2⟩, fun _ => rfl⟩
    · rw [if_neg h2]; exact ⟨fun h => by simp at h, fun h => absurd h.2 h2⟩
theorem col_chk {ps : Ps} {n q s : Int} {l : List UInt8} (hc : chk (bq ps n q l) n q s = 0) : colE (bq ps n q l) n q = 0 := by
  rw [chk_zero] at hc
  obtain ⟨h1, h2, h3, h4⟩ := hc
  exact col_zero.2 ⟨h1, isQ_mono h2 h4 (by have := bq_lt ps n q l; omega)⟩
theorem col_self {ps : Ps} {n q : Int} {l : List UInt8} (hc : colE (bq ps n q l) n q = 0) : chk (bq ps n q l) n q (bq ps n q l) = 0 := by
  obtain ⟨⟨h1, h2⟩, h3⟩ := col_zero.1 hc
  rw [chk_self h1 h2 (bq_lt' h1 ps q l), if_pos h3]
end Go.Proofs.Ytkbfngepdgdecaa
