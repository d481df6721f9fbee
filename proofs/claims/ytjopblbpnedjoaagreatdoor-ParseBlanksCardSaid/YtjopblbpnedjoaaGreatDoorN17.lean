/- Part 17 of the proof: H15. -/
import Derived.Test.YtjopblbpnedjoaaGreatDoorN15
import Derived.SevenTiedAt

set_option linter.all false
namespace Go.Proofs.YtjopblbpnedjoaaGreatDoor.parseBlanks
open Go.V
theorem named : Tryz.pinned.checked.prog.funcNamed Rows.parseBlanksRow.func = some 3 := by kernel_rfl
theorem inst : Tryz.f3.isInstance Tryz.pinned.checked.prog Rows.parseBlanksRow.origin Rows.parseBlanksRow.targs := of_decide_eq_true (by kernel_rfl)
theorem wrap : Tryz.f3.isWrapper Tryz.pinned.checked.prog Rows.parseBlanksRow.wrapper Rows.parseBlanksRow.mainSum := by unfold Func.isWrapper; first | (rw [if_pos (by decide +kernel)]; kernel_rfl) | (rw [if_neg (by decide +kernel)]; exact ⟨rfl, rfl⟩)
theorem wft : Rows.parseBlanksRow.wfByText (OpenSpec.ofChange Rows.parseBlanksSpec) = true := by kernel_rfl
theorem main : Tryz.pinned.checked.prog.mainIs = some (true, ("0c596d36f3bcc987b2ed52c0d67274fdccefa8b0c6d31535f4997b1103b53b3d" : String).toList) := by kernel_rfl
theorem looks : false = Tryz.pinned.checked.prog.looks [] := by kernel_rfl
theorem goes : false = Rows.parseBlanksRow.goesBy Tryz.pinned.checked.prog := by kernel_rfl
theorem stand : ([9].all fun u => !Tryz.prog.wantsStandIn u) = true := by kernel_rfl
end Go.Proofs.YtjopblbpnedjoaaGreatDoor.parseBlanks
