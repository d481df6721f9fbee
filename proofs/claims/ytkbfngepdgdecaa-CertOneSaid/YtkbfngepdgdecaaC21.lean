import Derived.Test.YtkbfngepdgdecaaC13
set_option linter.unusedSimpArgs false
set_option linter.unusedVariables false
namespace Go.Cert
open Go.V
def zs : List UInt8 := List.replicate 128 0
end Go.Cert
namespace Go.Proofs.Ytkbfngepdgdecaa
open Go Go.V Go.Cert
/-- The zero certificate, zero header. -/
theorem zero28 : ∃ z, tInfo Try.prog 28 = some (some z, 130, 144) ∧ ofValue z = .agg (.i 0 :: (aB zs ++ [.i 0])) := ⟨_, info28, by rfl⟩
theorem zero26 : ∃ z, tInfo Try.prog 26 = some (some z, 129, 136) ∧ ofValue z = .agg (.i 0 :: aB zs) := ⟨_, info26, by rfl⟩
end Go.Proofs.Ytkbfngepdgdecaa
