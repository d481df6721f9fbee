/- Part 16 of the proof: H19. -/
import Derived.Test.YtjdapkelojdefaaGreatDoorN14
import Derived.SevenTiedAt

set_option linter.all false
namespace Go.Proofs.YtjdapkelojdefaaGreatDoor.printOnes
open Go.V
theorem named : Tryz.pinned.checked.prog.funcNamed Rows.printOnesRow.func = some 5 := by kernel_rfl
theorem inst : Tryz.f5.isInstance Tryz.pinned.checked.prog Rows.printOnesRow.origin Rows.printOnesRow.targs := of_decide_eq_true (by kernel_rfl)
theorem wrap : Tryz.f5.isWrapper Tryz.pinned.checked.prog Rows.printOnesRow.wrapper Rows.printOnesRow.mainSum := by unfold Func.isWrapper; first | (rw [if_pos (by decide +kernel)]; kernel_rfl) | (rw [if_neg (by decide +kernel)]; exact ⟨rfl, rfl⟩)
theorem wft : Rows.printOnesRow.wfByText (OpenSpec.ofChange Rows.printOnesSpec) = true := by kernel_rfl
theorem main : Tryz.pinned.checked.prog.mainIs = some (true, ("0f34642f8992b1075237f3421270bcf439b825cca4cbd37d97063662688ca1a8" : String).toList) := by kernel_rfl
theorem looks : false = Tryz.pinned.checked.prog.looks [] := by kernel_rfl
theorem goes : false = Rows.printOnesRow.goesBy Tryz.pinned.checked.prog := by kernel_rfl
theorem stand : ([9].all fun u => !Tryz.prog.wantsStandIn u) = true := by kernel_rfl
end Go.Proofs.YtjdapkelojdefaaGreatDoor.printOnes
