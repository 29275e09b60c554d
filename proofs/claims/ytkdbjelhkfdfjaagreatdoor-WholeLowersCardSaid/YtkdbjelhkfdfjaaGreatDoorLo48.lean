/-
  Contracts that the law rests on. Conditions: none.
-/
import Derived.Test.YtkdbjelhkfdfjaaGreatDoorRows
import Derived.JoinedOf
set_option linter.unusedVariables false
set_option maxRecDepth 100000
set_option maxHeartbeats 32000000
namespace Go.Proofs.YtkdbjelhkfdfjaaGreatDoor.wholeLowers
open Go
theorem and_t {a b:Bool} (h:a=true) (k:b=true):(a&&b)=true:=by rw [h,k];rfl
theorem j0:Rows.wholeLowersRow.wf (OpenSpec.ofChange Rows.wholeLowersSpec)=true:=by kernel_rfl
theorem j1:laidOutB Tryz.pinned.checked.prog=true:=by kernel_rfl
theorem j2:mapsRowed Tryz.pinned.checked.prog=true:=by kernel_rfl
theorem j3:Tryz.f6.params.all (Tryz.pinned.checked.prog.readableRec ·)=true:=by kernel_rfl
theorem j4:namedTie Tryz.pinned.checked.prog Rows.wholeLowersRow.named Rows.wholeLowersSpec.vars=true:=by kernel_rfl
theorem j5:(Rows.wholeLowersRow.stops==[])=true:=by kernel_rfl
theorem j6:(Tryz.pinned.checked.prog.stops==[])=true:=by kernel_rfl
theorem j7:(Rows.wholeLowersRow.knobs==[])=true:=by kernel_rfl
theorem j8:(Tryz.pinned.checked.prog.stopKnobs==[])=true:=by kernel_rfl
theorem j9:(Rows.wholeLowersRow.inPlace==Tryz.pinned.checked.prog.inPlace 6)=true:=by kernel_rfl
theorem j10:(Rows.wholeLowersRow.unfollowed==Tryz.pinned.checked.prog.unfollowed 6)=true:=by kernel_rfl
theorem j11:(Rows.wholeLowersRow.recurses==Tryz.pinned.checked.prog.recurses 6)=true:=by kernel_rfl
theorem j12:(Rows.wholeLowersRow.named==Tryz.pinned.checked.prog.varsNamed 6)=true:=by kernel_rfl
theorem j13:(Rows.wholeLowersRow.maps==(Tryz.f6.params.toList++Rows.wholeLowersSpec.plain.varTypes Tryz.pinned.checked.prog).any (Tryz.pinned.checked.prog.mapsRec ·))=true:=by kernel_rfl
theorem j14:(Rows.wholeLowersRow.ifaces==(Tryz.f6.params.toList++Rows.wholeLowersSpec.plain.varTypes Tryz.pinned.checked.prog).any (Tryz.pinned.checked.prog.ifacesRec ·))=true:=by kernel_rfl
theorem j15:(Rows.wholeLowersRow.mapsOut==Tryz.pinned.checked.prog.mapsAmong Tryz.f6.resultTypes.toList)=true:=by kernel_rfl
theorem j16:(Rows.wholeLowersRow.loops==(Tryz.f6.params.toList++Rows.wholeLowersSpec.plain.varTypes Tryz.pinned.checked.prog).any (Tryz.pinned.checked.prog.loopsFrom ·))=true:=by kernel_rfl
theorem j17:(Rows.wholeLowersRow.wideKeys==(Tryz.f6.params.toList++Rows.wholeLowersSpec.plain.varTypes Tryz.pinned.checked.prog++Tryz.f6.resultTypes.toList).any (Tryz.pinned.checked.prog.wideKeysFrom ·))=true:=by kernel_rfl
theorem j18:Rows.wholeLowersSpec.vars.all (Tryz.pinned.checked.prog.varReadable ·)=true:=by kernel_rfl
theorem j19:Tryz.f6.resultTypes.all (fun t=>Tryz.pinned.checked.prog.readableRec t&&decide (t<Tryz.pinned.checked.prog.types.size))=true:=by kernel_rfl
theorem j20:(Rows.wholeLowersRow.ifacesOut==Tryz.f6.resultTypes.toList.any (Tryz.pinned.checked.prog.ifacesRec ·))=true:=by kernel_rfl
theorem j21:(Rows.wholeLowersRow.loopsOut==Tryz.f6.resultTypes.toList.any (Tryz.pinned.checked.prog.loopsFrom ·))=true:=by kernel_rfl
theorem j22:(Rows.wholeLowersRow.plainKeys==Tryz.pinned.checked.prog.plainKeys)=true:=by kernel_rfl
theorem j23:Rows.wholeLowersRow.shortTexts.isNone=true:=by kernel_rfl
theorem j24:Tryz.pinned.checked.prog.stopsHeard=true:=by kernel_rfl
theorem j25:Tryz.pinned.checked.prog.mayEnter=true:=by kernel_rfl
theorem j26:(Rows.wholeLowersRow.lifted==Tryz.pinned.checked.prog.liftsFinal)=true:=by kernel_rfl
theorem j27:(Tryz.pinned.checked.prog.make==some Rows.wholeLowersRow.make)=true:=by kernel_rfl
theorem j28:(Rows.wholeLowersRow.kinds==(if Rows.wholeLowersRow.domain.isEmpty then [] else Tryz.f6.params.toList.map fun t=>match Tryz.pinned.checked.prog.underlying t with|some (.int k)=>some k|_=>none))=true:=by kernel_rfl
theorem j29:(Rows.wholeLowersRow.pinned==Rows.wholeLowersRow.pinnedBy)=true:=by kernel_rfl
theorem j30:(Rows.wholeLowersRow.veiled==(Tryz.f6.params.toList++Rows.wholeLowersSpec.plain.varTypes Tryz.pinned.checked.prog++Tryz.f6.resultTypes.toList).any (Tryz.pinned.checked.prog.veiledRec ·))=true:=by kernel_rfl
theorem j31:Rows.wholeLowersRow.veiledFits Tryz.pinned.checked.prog Tryz.f6.params.toList (Tryz.f6.params.toList++Rows.wholeLowersSpec.plain.varTypes Tryz.pinned.checked.prog++Tryz.f6.resultTypes.toList)=true:=by kernel_rfl
theorem facts:joinedFacts Tryz.pinned.checked.prog 6 Tryz.f6 Rows.wholeLowersSpec Rows.wholeLowersRow=true:=(and_t (and_t (and_t (and_t (and_t (and_t (and_t (and_t (and_t (and_t (and_t (and_t (and_t (and_t (and_t (and_t (and_t (and_t (and_t (and_t (and_t (and_t (and_t (and_t (and_t (and_t (and_t (and_t (and_t (and_t (and_t j0 j1) j2) j3) j4) j5) j6) j7) j8) j9) j10) j11) j12) j13) j14) j15) j16) j17) j18) j19) j20) j21) j22) j23) j24) j25) j26) j27) j28) j29) j30) j31)
end Go.Proofs.YtkdbjelhkfdfjaaGreatDoor.wholeLowers

