/- The law MachineNil: what its program must be: facts that the kernel reckons. -/
import Derived.Test.YtdmelebgdaiinaaGreatDoorCards
import Derived.ChangeMaps5
import Derived.SevenTiedAt
import Derived.KernelRfl
import Derived.Test.YtdmelebgdaiinaaGreatDoorChecked
set_option linter.unusedVariables false
set_option linter.unusedSimpArgs false
namespace Go.Proofs.YtdmelebgdaiinaaGreatDoor
open Go.ChangeShapes Go.WideShapes
theorem machineNil_and {a b:Bool} (ha:a=true) (hb:b=true):(a&&b)=true:=by rw[ha,hb];rfl
set_option maxRecDepth 100000 in
set_option maxHeartbeats 100000000 in
theorem machineNil_joined:joinedFacts Tryz.prog 4 Tryz.f4 Rows.machineNilSpec Rows.machineNilRow=true:=by
 unfold joinedFacts
 repeat' (with_reducible refine machineNil_and ?_ ?_)
 all_goals (as_aux_lemma=>kernel_rfl)
theorem machineNil_wf:Rows.machineNilRow.wfByText (OpenSpec.ofChange Rows.machineNilSpec)=true:=by kernel_rfl
theorem machineNil_main:Tryz.pinned.checked.prog.mainIs=some (Rows.machineNilCard.stood.harness.1,Rows.machineNilCard.stood.harness.2.toList):=by kernel_rfl
theorem machineNil_named : Tryz.prog.funcNamed "bailment/bailmentlaw18.MachineNil" = some 4 := by kernel_rfl
theorem machineNil_looks:true=Tryz.pinned.checked.prog.looks []:=by kernel_rfl
theorem machineNil_stand:([23].all fun u=>!Tryz.prog.wantsStandIn u)=true:=by kernel_rfl
theorem machineNil_goes:false=Rows.machineNilRow.goesBy Tryz.pinned.checked.prog:=by kernel_rfl
end Go.Proofs.YtdmelebgdaiinaaGreatDoor
