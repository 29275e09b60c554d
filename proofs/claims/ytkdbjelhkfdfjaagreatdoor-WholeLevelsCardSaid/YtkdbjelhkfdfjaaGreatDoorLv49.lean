/-
  Contracts that the law rests on. Conditions: none.
-/
import Derived.Test.YtkdbjelhkfdfjaaGreatDoorRows
import Derived.SevenTiedAt
set_option linter.unusedVariables false
set_option maxRecDepth 100000
set_option maxHeartbeats 32000000
namespace Go.Proofs.YtkdbjelhkfdfjaaGreatDoor.wholeLevels
open Go
theorem c_inst : Tryz.f4.isInstance Tryz.pinned.checked.prog Rows.wholeLevelsRow.origin Rows.wholeLevelsRow.targs := of_decide_eq_true (by kernel_rfl)
theorem c_wrap : Tryz.f4.isWrapper Tryz.pinned.checked.prog Rows.wholeLevelsRow.wrapper Rows.wholeLevelsRow.mainSum := by
  unfold Func.isWrapper; first | (rw [if_pos (by decide +kernel)]; kernel_rfl) | (rw [if_neg (by decide +kernel)]; exact ⟨rfl,rfl⟩)
theorem c_named : Tryz.pinned.checked.prog.funcNamed Rows.wholeLevelsRow.func = some 4 := by kernel_rfl
theorem c_wf : Rows.wholeLevelsRow.wfByText (OpenSpec.ofChange Rows.wholeLevelsSpec) = true := by kernel_rfl
theorem c_main : Tryz.pinned.checked.prog.mainIs = some (true, "d470e6cf01acc4469e69859f3a47ae2163f2e46302223d341c5752ab236b23b9".toList) := by kernel_rfl
theorem c_looks : true = Tryz.pinned.checked.prog.looks [] := by kernel_rfl
theorem c_stand : ([23,55,3].all fun u => !Tryz.pinned.checked.prog.wantsStandIn u) = true := by kernel_rfl
theorem c_goes : false = Rows.wholeLevelsRow.goesBy Tryz.pinned.checked.prog := by kernel_rfl
end Go.Proofs.YtkdbjelhkfdfjaaGreatDoor.wholeLevels

