/-
  Contracts that the law rests on. Conditions: none.
-/
import Derived.Test.YtkdbjelhkfdfjaaGreatDoorRows
import Derived.SevenTiedAt
set_option linter.unusedVariables false
set_option maxRecDepth 100000
set_option maxHeartbeats 32000000
namespace Go.Proofs.YtkdbjelhkfdfjaaGreatDoor.wholeLowers
open Go
theorem c_inst:Tryz.f6.isInstance Tryz.pinned.checked.prog Rows.wholeLowersRow.origin Rows.wholeLowersRow.targs:=of_decide_eq_true (by kernel_rfl)
theorem c_wrap:Tryz.f6.isWrapper Tryz.pinned.checked.prog Rows.wholeLowersRow.wrapper Rows.wholeLowersRow.mainSum:=by
 unfold Func.isWrapper;first|(rw [if_pos (by decide +kernel)];kernel_rfl)|(rw [if_neg (by decide +kernel)];exact ⟨rfl,rfl⟩)
theorem c_named:Tryz.pinned.checked.prog.funcNamed Rows.wholeLowersRow.func=some 6:=by kernel_rfl
theorem c_wf:Rows.wholeLowersRow.wfByText (OpenSpec.ofChange Rows.wholeLowersSpec)=true:=by kernel_rfl
theorem c_main:Tryz.pinned.checked.prog.mainIs=some (true,"d470e6cf01acc4469e69859f3a47ae2163f2e46302223d341c5752ab236b23b9".toList):=by kernel_rfl
theorem c_looks:true=Tryz.pinned.checked.prog.looks []:=by kernel_rfl
theorem c_stand:([23,25,25].all fun u=>!Tryz.pinned.checked.prog.wantsStandIn u)=true:=by kernel_rfl
theorem c_goes:false=Rows.wholeLowersRow.goesBy Tryz.pinned.checked.prog:=by kernel_rfl
end Go.Proofs.YtkdbjelhkfdfjaaGreatDoor.wholeLowers

