/- Part 18 of the proof: H21. -/
import Derived.Test.YtjdapkelojdefaaGreatDoorN16
import Derived.SevenTiedAt

set_option linter.all false
namespace Go.Proofs.YtjdapkelojdefaaGreatDoor.printReads
open Go.V
theorem named : Tryz.pinned.checked.prog.funcNamed Rows.printReadsRow.func = some 6 := by kernel_rfl
theorem inst : Tryz.f6.isInstance Tryz.pinned.checked.prog Rows.printReadsRow.origin Rows.printReadsRow.targs := of_decide_eq_true (by kernel_rfl)
theorem wrap : Tryz.f6.isWrapper Tryz.pinned.checked.prog Rows.printReadsRow.wrapper Rows.printReadsRow.mainSum := by unfold Func.isWrapper; first | (rw [if_pos (by decide +kernel)]; kernel_rfl) | (rw [if_neg (by decide +kernel)]; exact ⟨rfl, rfl⟩)
theorem wft : Rows.printReadsRow.wfByText (OpenSpec.ofChange Rows.printReadsSpec) = true := by kernel_rfl
theorem main : Tryz.pinned.checked.prog.mainIs = some (true, ("0f34642f8992b1075237f3421270bcf439b825cca4cbd37d97063662688ca1a8" : String).toList) := by kernel_rfl
theorem looks : false = Tryz.pinned.checked.prog.looks [] := by kernel_rfl
theorem goes : false = Rows.printReadsRow.goesBy Tryz.pinned.checked.prog := by kernel_rfl
theorem stand : ([9].all fun u => !Tryz.prog.wantsStandIn u) = true := by kernel_rfl
end Go.Proofs.YtjdapkelojdefaaGreatDoor.printReads
