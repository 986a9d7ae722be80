/-
Further closed facts of the row and of the card of CheckNames.
-/
import Derived.Test.YtpolhfiikbmplaaGreatDoorRows
import Derived.SevenTiedAt
import Derived.JoinedOf
namespace Go.Proofs.YtpolhfiikbmplaaGreatDoor
open Go
set_option maxHeartbeats 2000000
theorem names_named : Tryz.prog.funcNamed Rows.checkNamesRow.func = some 4 := by kernel_rfl
theorem names_inst : Tryz.f4.isInstance Tryz.prog Rows.checkNamesRow.origin Rows.checkNamesRow.targs := of_decide_eq_true (by kernel_rfl)
theorem names_wrap : Tryz.f4.isWrapper Tryz.prog Rows.checkNamesRow.wrapper Rows.checkNamesRow.mainSum := by unfold Func.isWrapper; first | (rw [if_pos (by decide +kernel)]; kernel_rfl) | (rw [if_neg (by decide +kernel)]; exact ⟨rfl, rfl⟩)
theorem names_wf : Rows.checkNamesRow.wfByText (OpenSpec.ofChange Rows.checkNamesSpec) = true := by kernel_rfl
theorem names_main : Tryz.prog.mainIs = some (true, "fa78dcb5094f19b2ef7e52e59ff80761c5718f4a0f6ef4e28623156660ac503b".toList) := by kernel_rfl
theorem names_looks : true = Tryz.prog.looks [] := by kernel_rfl
theorem names_want3 : Tryz.prog.wantsStandIn 3 = false := by kernel_rfl
theorem names_want9 : Tryz.prog.wantsStandIn 9 = false := by kernel_rfl
end Go.Proofs.YtpolhfiikbmplaaGreatDoor
