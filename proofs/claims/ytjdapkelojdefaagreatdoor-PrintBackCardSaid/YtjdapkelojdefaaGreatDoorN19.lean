/- Part 19 of the proof: H23. -/
import Derived.Test.YtjdapkelojdefaaGreatDoorN17
import Derived.SevenTiedAt

set_option linter.all false
namespace Go.Proofs.YtjdapkelojdefaaGreatDoor.printBack
open Go.V
theorem named : Tryz.pinned.checked.prog.funcNamed Rows.printBackRow.func = some 7 := by kernel_rfl
theorem inst : Tryz.f7.isInstance Tryz.pinned.checked.prog Rows.printBackRow.origin Rows.printBackRow.targs := of_decide_eq_true (by kernel_rfl)
theorem wrap : Tryz.f7.isWrapper Tryz.pinned.checked.prog Rows.printBackRow.wrapper Rows.printBackRow.mainSum := by unfold Func.isWrapper; first | (rw [if_pos (by decide +kernel)]; kernel_rfl) | (rw [if_neg (by decide +kernel)]; exact ⟨rfl, rfl⟩)
theorem wft : Rows.printBackRow.wfByText (OpenSpec.ofChange Rows.printBackSpec) = true := by kernel_rfl
theorem main : Tryz.pinned.checked.prog.mainIs = some (true, ("0f34642f8992b1075237f3421270bcf439b825cca4cbd37d97063662688ca1a8" : String).toList) := by kernel_rfl
theorem looks : false = Tryz.pinned.checked.prog.looks [] := by kernel_rfl
theorem goes : false = Rows.printBackRow.goesBy Tryz.pinned.checked.prog := by kernel_rfl
theorem stand : ([26, 35].all fun u => !Tryz.prog.wantsStandIn u) = true := by kernel_rfl
end Go.Proofs.YtjdapkelojdefaaGreatDoor.printBack
