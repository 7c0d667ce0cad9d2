/- The law MachineSteps: what its program must be: facts that the kernel reckons. -/
import Derived.Test.YtbdbhdcbdfbnnaaGreatDoorCards
import Derived.ChangeMaps5
import Derived.SevenTiedAt
import Derived.KernelRfl
import Derived.Test.YtbdbhdcbdfbnnaaGreatDoorChecked
set_option linter.unusedVariables false
set_option linter.unusedSimpArgs false
namespace Go.Proofs.YtbdbhdcbdfbnnaaGreatDoor
open Go.ChangeShapes Go.WideShapes
theorem machineSteps_and {a b:Bool} (ha:a=true) (hb:b=true):(a&&b)=true:=by rw[ha,hb];rfl
set_option maxRecDepth 100000 in
set_option maxHeartbeats 100000000 in
theorem machineSteps_joined:joinedFacts Tryz.prog 3 Tryz.f3 Rows.machineStepsSpec Rows.machineStepsRow=true:=by
 unfold joinedFacts
 repeat' (with_reducible refine machineSteps_and ?_ ?_)
 all_goals (as_aux_lemma=>kernel_rfl)
theorem machineSteps_wf:Rows.machineStepsRow.wfByText (OpenSpec.ofChange Rows.machineStepsSpec)=true:=by kernel_rfl
theorem machineSteps_main:Tryz.pinned.checked.prog.mainIs=some (Rows.machineStepsCard.stood.harness.1,Rows.machineStepsCard.stood.harness.2.toList):=by kernel_rfl
theorem machineSteps_named : Tryz.prog.funcNamed "bailment/bailmentlaw18.MachineSteps" = some 3 := by kernel_rfl
theorem machineSteps_looks:true=Tryz.pinned.checked.prog.looks []:=by kernel_rfl
theorem machineSteps_stand:([25,26].all fun u=>!Tryz.prog.wantsStandIn u)=true:=by kernel_rfl
theorem machineSteps_goes:false=Rows.machineStepsRow.goesBy Tryz.pinned.checked.prog:=by kernel_rfl
end Go.Proofs.YtbdbhdcbdfbnnaaGreatDoor
