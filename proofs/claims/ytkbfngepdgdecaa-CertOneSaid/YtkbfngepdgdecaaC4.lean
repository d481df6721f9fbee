import Derived.Test.YtkbfngepdgdecaaC3
set_option linter.unusedSimpArgs false
set_option linter.unusedVariables false
namespace Go.Cert
open Go.V
/-- How many of the first n bits of s are set. -/
def cnt : Nat → Nat → Nat
  | 0, _ => 0
  | n + 1, s => cnt n s + s / 2 ^ n % 2
theorem bit_mod (s n i : Nat) : s % 2 ^ n / 2 ^ i % 2 = if i < n then s / 2 ^ i % 2 else 0 := by
  have h := Nat.testBit_mod_two_pow s n i
  rw [Nat.testBit_eq_decide_div_mod_eq, Nat.testBit_eq_decide_div_mod_eq] at h
  have h1 := Nat.mod_two_eq_zero_or_one (s / 2 ^ i)
  have h2 := Nat.mod_two_eq_zero_or_one (s % 2 ^ n / 2 ^ i)
  split
  · rename_i hi
    simp only [hi, decide_true, Bool.true_and, decide_eq_decide] at h
    omega
  · rename_i hi
    simp only [hi, decide_false, Bool.false_and, decide_eq_false_iff_not] at h
    omega
theorem cnt_mod (s n : Nat) : ∀ m, cnt m (s % 2 ^ n) = cnt (min m n) s
  | 0 => by simp [cnt]
  | m + 1 => by
    rw [cnt, cnt_mod s n m, bit_mod]
    split
    · rename_i h
      rw [Nat.min_eq_left (by omega), Nat.min_eq_left (by omega), cnt]
    · rename_i h
      rw [Nat.min_eq_right (by omega), Nat.min_eq_right (by omega)]
      omega
def a64 (a b : Int) : Int := IntKind.u64.wrap ↑(BitVec.ofInt IntKind.u64.bits a &&& BitVec.ofInt IntKind.u64.bits b).toNat
def sh (a : Int) (k : Nat) : Int := a.fdiv (2 ^ (min k IntKind.u64.bits))
def sw1 (x : Int) : Int := IntKind.u64.wrap (a64 (sh x 1) 6148914691236517205 + a64 x 6148914691236517205)
def sw2 (x : Int) : Int := IntKind.u64.wrap (a64 (sh x 2) 3689348814741910323 + a64 x 3689348814741910323)
def sw3 (x : Int) : Int := a64 (IntKind.u64.wrap (sh x 4 + x)) 1085102592571150095
def sw4 (x : Int) (k : Nat) : Int := IntKind.u64.wrap (x + sh x k)
def sw (x : Int) : Int := IntKind.i64.wrap ↑(BitVec.ofInt IntKind.i64.bits (IntKind.i64.wrap (sw4 (sw4 (sw4 (sw3 (sw2 (sw1 x))) 8) 16) 32)) &&& BitVec.ofInt IntKind.i64.bits 127).toNat
theorem u64_nat {n : Nat} (h : n < 18446744073709551616) : IntKind.u64.wrap (n : Int) = (n : Int) := by
  have h1 : IntKind.u64.signed = false := rfl
  have h2 : IntKind.u64.bits = 64 := rfl
  unfold IntKind.wrap
  rw [h1, h2]
  show (n : Int) % 18446744073709551616 = n
  omega
theorem i64_nat {n : Nat} (h : n < 9223372036854775808) : IntKind.i64.wrap (n : Int) = (n : Int) := w64 (by omega) (by omega)
theorem and_nat {a b : Nat} (ha : a < 18446744073709551616) (hb : b < 18446744073709551616) : (BitVec.ofInt 64 (a : Int) &&& BitVec.ofInt 64 (b : Int)).toNat = a &&& b := by
  rw [BitVec.toNat_and, BitVec.ofInt_natCast, BitVec.ofInt_natCast, BitVec.toNat_ofNat, BitVec.toNat_ofNat, Nat.mod_eq_of_lt ha, Nat.mod_eq_of_lt hb]
theorem a64_nat {a b : Nat} (ha : a < 18446744073709551616) (hb : b < 18446744073709551616) : a64 (a : Int) (b : Int) = ((a &&& b : Nat) : Int) := by
  unfold a64
  rw [show IntKind.u64.bits = 64 from rfl, and_nat ha hb, u64_nat (Nat.lt_of_le_of_lt Nat.and_le_right hb)]
theorem sh_nat (a k : Nat) (hk : k ≤ 64) : sh (a : Int) k = ((a / 2 ^ k : Nat) : Int) := by
  unfold sh
  rw [show IntKind.u64.bits = 64 from rfl, Nat.min_eq_left hk, pow_cast, ← Int.ofNat_fdiv]
def n1 (x : Nat) : Nat := (x / 2 &&& 6148914691236517205) + (x &&& 6148914691236517205)
def n2 (x : Nat) : Nat := (x / 4 &&& 3689348814741910323) + (x &&& 3689348814741910323)
def n3 (x : Nat) : Nat := x / 16 + x &&& 1085102592571150095
def swT3 (c : Nat) : Nat := c + c / 4294967296 &&& 127
def swT2 (b : Nat) : Nat := swT3 (b + b / 65536)
def swT (a : Nat) : Nat := swT2 (a + a / 256)
def swN (x : Nat) : Nat := swT (n3 (n2 (n1 x)))
theorem sw4_nat (y k m : Nat) (hk : k ≤ 64) (hm : 2 ^ k = m) (hy : y ≤ 4611686018427387904) : sw4 (y : Int) k = ((y + y / m : Nat) : Int) := by
  unfold sw4
  have := Nat.div_le_self y m
  rw [sh_nat y k hk, hm, ← Int.natCast_add, u64_nat (by omega)]
theorem swT3_eq (c : Nat) (h : c ≤ 4611686018427387903) : IntKind.i64.wrap ↑(BitVec.ofInt IntKind.i64.bits (IntKind.i64.wrap (sw4 c 32)) &&& BitVec.ofInt IntKind.i64.bits 127).toNat = (swT3 c : Int) := by
  have := Nat.div_le_self c 4294967296
  rw [sw4_nat c 32 4294967296 (by omega) rfl (by omega), i64_nat (n := c + c / 4294967296) (by omega), show IntKind.i64.bits = 64 from rfl, show (127 : Int) = ((127 : Nat) : Int) from rfl, and_nat (by omega) (by omega)]
  exact i64_nat (Nat.lt_of_le_of_lt Nat.and_le_right (by omega))
theorem and1 (z M : Nat) : z &&& M ≤ M := Nat.and_le_right
theorem sw_nat (x : Nat) (hx : x < 18446744073709551616) : sw (x : Int) = (swN x : Int) := by
  have e1 : sw1 (x : Int) = (n1 x : Int) := by
    unfold sw1 n1
    have b1 := and1 (x / 2) 6148914691236517205
    have b2 := and1 x 6148914691236517205
    rw [sh_nat x 1 (by omega), show x / 2 ^ 1 = x / 2 from rfl, show (6148914691236517205 : Int) = ((6148914691236517205 : Nat) : Int) from rfl, a64_nat (by omega) (by omega), a64_nat hx (by omega), ← Int.natCast_add, u64_nat (by omega)]
  have l1 : n1 x ≤ 12297829382473034410 := by
    unfold n1
    have b1 := and1 (x / 2) 6148914691236517205
    have b2 := and1 x 6148914691236517205
    omega
  have e2 : sw2 (n1 x : Int) = (n2 (n1 x) : Int) := by
    generalize n1 x = y at l1
    unfold sw2 n2
    have b1 := and1 (y / 4) 3689348814741910323
    have b2 := and1 y 3689348814741910323
    rw [sh_nat y 2 (by omega), show y / 2 ^ 2 = y / 4 from rfl, show (3689348814741910323 : Int) = ((3689348814741910323 : Nat) : Int) from rfl, a64_nat (by omega) (by omega), a64_nat (by omega) (by omega), ← Int.natCast_add, u64_nat (by omega)]
  have l2 : n2 (n1 x) ≤ 7378697629483820646 := by
    generalize n1 x = y
    unfold n2
    have b1 := and1 (y / 4) 3689348814741910323
    have b2 := and1 y 3689348814741910323
    omega
  have e3 : sw3 (n2 (n1 x) : Int) = (n3 (n2 (n1 x)) : Int) := by
    generalize n2 (n1 x) = y at l2
    unfold sw3 n3
    rw [sh_nat y 4 (by omega), show y / 2 ^ 4 = y / 16 from rfl, ← Int.natCast_add, u64_nat (by omega), show (1085102592571150095 : Int) = ((1085102592571150095 : Nat) : Int) from rfl, a64_nat (by omega) (by omega)]
  have l3 : n3 (n2 (n1 x)) ≤ 1085102592571150095 := Nat.and_le_right
  unfold sw swN
  rw [e1, e2, e3]
  generalize n3 (n2 (n1 x)) = y at l3
  unfold swT swT2
  rw [sw4_nat y 8 256 (by omega) rfl (by omega), sw4_nat (y + y / 256) 16 65536 (by omega) rfl (by omega), swT3_eq _ (by omega)]
def swOK : Nat → Nat → Bool
  | 0, s => Nat.beq (swN s) (cnt 16 s)
  | k + 1, s => swOK k s && swOK k (s + 2 ^ k)
theorem swOK_all : ∀ k s, swOK k s = true → ∀ i, i < 2 ^ k → swN (s + i) = cnt 16 (s + i)
  | 0, s, h, i, hi => by
    obtain rfl : i = 0 := by simpa using hi
    exact Nat.eq_of_beq_eq_true h
  | k + 1, s, h, i, hi => by
    rw [swOK, Bool.and_eq_true] at h
    rcases Nat.lt_or_ge i (2 ^ k) with h1 | h1
    · exact swOK_all k s h.1 i h1
    · have := swOK_all k (s + 2 ^ k) h.2 (i - 2 ^ k) (by rw [Nat.pow_succ] at hi; omega)
      rwa [show s + 2 ^ k + (i - 2 ^ k) = s + i by omega] at this
end Go.Cert
