/-
  Contracts that the law rests on. Conditions: none.
-/
import Derived.Test.YtkdbjelhkfdfjaaGreatDoorRows
import Derived.SevenTiedAt
set_option linter.unusedVariables false
set_option maxRecDepth 100000
set_option maxHeartbeats 16000000
namespace Go.Proofs.YtkdbjelhkfdfjaaGreatDoor.wholeSorts
open Go
theorem c_inst : Tryz.f3.isInstance Tryz.pinned.checked.prog Rows.wholeSortsRow.origin Rows.wholeSortsRow.targs := of_decide_eq_true (by kernel_rfl)
theorem c_wrap : Tryz.f3.isWrapper Tryz.pinned.checked.prog Rows.wholeSortsRow.wrapper Rows.wholeSortsRow.mainSum := by
  unfold Func.isWrapper; first | (rw [if_pos (by decide +kernel)]; kernel_rfl) | (rw [if_neg (by decide +kernel)]; exact ⟨rfl,rfl⟩)
theorem c_named : Tryz.pinned.checked.prog.funcNamed Rows.wholeSortsRow.func = some 3 := by kernel_rfl
theorem c_wf : Rows.wholeSortsRow.wfByText (OpenSpec.ofChange Rows.wholeSortsSpec) = true := by kernel_rfl
theorem c_main : Tryz.pinned.checked.prog.mainIs = some (true, "d470e6cf01acc4469e69859f3a47ae2163f2e46302223d341c5752ab236b23b9".toList) := by kernel_rfl
theorem c_stand : ([24,25].all fun u => !Tryz.pinned.checked.prog.wantsStandIn u) = true := by kernel_rfl
theorem c_goes : false = Rows.wholeSortsRow.goesBy Tryz.pinned.checked.prog := by kernel_rfl
end Go.Proofs.YtkdbjelhkfdfjaaGreatDoor.wholeSorts

