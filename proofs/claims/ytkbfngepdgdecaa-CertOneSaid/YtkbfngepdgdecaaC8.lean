import Derived.Test.YtkbfngepdgdecaaC4
namespace Go.Cert
set_option maxRecDepth 100000 in
theorem sw_16 : swOK 16 0 = true := by decide +kernel
/-- The count of bits as the library takes it is the count, below 2^16. -/
theorem sw_cnt (x : Int) (h : 0 ≤ x ∧ x < 65536) : sw x = (cnt 16 x.toNat : Int) := by
  obtain ⟨n, rfl⟩ := Int.eq_ofNat_of_zero_le h.1
  rw [sw_nat n (by omega)]
  have := swOK_all 16 0 sw_16 n (by omega)
  rw [Nat.zero_add] at this
  rw [this]
  rfl
end Go.Cert
