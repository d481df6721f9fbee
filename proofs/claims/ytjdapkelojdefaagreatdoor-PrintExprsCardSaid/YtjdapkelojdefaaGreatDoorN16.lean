/- Part 16 of the proof: H17. -/
import Derived.Test.YtjdapkelojdefaaGreatDoorN14
import Derived.SevenTiedAt

set_option linter.all false
namespace Go.Proofs.YtjdapkelojdefaaGreatDoor.printExprs
open Go.V
theorem named : Tryz.pinned.checked.prog.funcNamed Rows.printExprsRow.func = some 3 := by kernel_rfl
theorem inst : Tryz.f3.isInstance Tryz.pinned.checked.prog Rows.printExprsRow.origin Rows.printExprsRow.targs := of_decide_eq_true (by kernel_rfl)
theorem wrap : Tryz.f3.isWrapper Tryz.pinned.checked.prog Rows.printExprsRow.wrapper Rows.printExprsRow.mainSum := by unfold Func.isWrapper; first | (rw [if_pos (by decide +kernel)]; kernel_rfl) | (rw [if_neg (by decide +kernel)]; exact ⟨rfl, rfl⟩)
theorem wft : Rows.printExprsRow.wfByText (OpenSpec.ofChange Rows.printExprsSpec) = true := by kernel_rfl
theorem main : Tryz.pinned.checked.prog.mainIs = some (true, ("0f34642f8992b1075237f3421270bcf439b825cca4cbd37d97063662688ca1a8" : String).toList) := by kernel_rfl
theorem looks : false = Tryz.pinned.checked.prog.looks [] := by kernel_rfl
theorem goes : false = Rows.printExprsRow.goesBy Tryz.pinned.checked.prog := by kernel_rfl
theorem stand : ([26].all fun u => !Tryz.prog.wantsStandIn u) = true := by kernel_rfl
end Go.Proofs.YtjdapkelojdefaaGreatDoor.printExprs
