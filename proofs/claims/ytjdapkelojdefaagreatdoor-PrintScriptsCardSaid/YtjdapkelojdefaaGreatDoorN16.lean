/- Part 16 of the proof: H25. -/
import Derived.Test.YtjdapkelojdefaaGreatDoorN14
import Derived.SevenTiedAt

set_option linter.all false
namespace Go.Proofs.YtjdapkelojdefaaGreatDoor.printScripts
open Go.V
theorem named : Tryz.pinned.checked.prog.funcNamed Rows.printScriptsRow.func = some 4 := by kernel_rfl
theorem inst : Tryz.f4.isInstance Tryz.pinned.checked.prog Rows.printScriptsRow.origin Rows.printScriptsRow.targs := of_decide_eq_true (by kernel_rfl)
theorem wrap : Tryz.f4.isWrapper Tryz.pinned.checked.prog Rows.printScriptsRow.wrapper Rows.printScriptsRow.mainSum := by unfold Func.isWrapper; first | (rw [if_pos (by decide +kernel)]; kernel_rfl) | (rw [if_neg (by decide +kernel)]; exact ⟨rfl, rfl⟩)
theorem wft : Rows.printScriptsRow.wfByText (OpenSpec.ofChange Rows.printScriptsSpec) = true := by kernel_rfl
theorem main : Tryz.pinned.checked.prog.mainIs = some (true, ("0f34642f8992b1075237f3421270bcf439b825cca4cbd37d97063662688ca1a8" : String).toList) := by kernel_rfl
theorem looks : false = Tryz.pinned.checked.prog.looks [] := by kernel_rfl
theorem goes : false = Rows.printScriptsRow.goesBy Tryz.pinned.checked.prog := by kernel_rfl
theorem stand : ([35].all fun u => !Tryz.prog.wantsStandIn u) = true := by kernel_rfl
end Go.Proofs.YtjdapkelojdefaaGreatDoor.printScripts
