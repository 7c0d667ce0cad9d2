/- The law MachineSteps: its statement. -/
import Derived.Test.YtbdbhdcbdfbnnaaGreatDoorQE4A
namespace Go.Proofs.YtbdbhdcbdfbnnaaGreatDoor
open Go.ChangeShapes Go.WideShapes Go.ChangeAt Go.RowKit Go.Deep Go.Joins
theorem machineSteps_row:Rows.MachineStepsSaid :=
 OpenClaim.holds_of_wide 3 Tryz.f3 rfl rfl rfl rfl rfl rfl rfl ⟨rfl,rfl,rfl,rfl,rfl⟩ rfl rfl rfl rfl rfl machineSteps_named Tryz.func3 machineSteps_joined
  (of_decide_eq_true (by kernel_rfl)) (by unfold Func.isWrapper;first | (rw[if_pos (by decide +kernel)];kernel_rfl) | (rw[if_neg (by decide +kernel)];exact⟨rfl,rfl⟩))
  (fun os started H enc _=>machineSteps_lifted os started H enc)
theorem machineSteps_holds:Rows.MachineStepsCardSaid :=
 Claim7.holds_tied_plain_at .later [] Rows.machineStepsCard.laidKinds true Rows.machineStepsCard.stood.harness true machineSteps_row (fun _ h=>by cases h) machineSteps_wf (fun _ h=>by cases h) machineSteps_row_tie rfl ⟨rfl,rfl⟩ machineSteps_main rfl
  (fun f fn hf hfn=>by
   obtain rfl:f=3:=Option.some.inj (machineSteps_named.symm.trans hf) |>.symm
   obtain rfl:fn=Tryz.f3:=(Option.some.inj (Tryz.func3.symm.trans hfn)).symm
   exact⟨machineSteps_looks,fun j t ht=>by
    rw[Tryz.params3] at ht
    have hm:t ∈ [25,26]:=by simpa using Array.mem_of_getElem? ht
    exact (show Tryz.prog.wantsStandIn t=false by simpa using List.all_eq_true.1 machineSteps_stand t hm)⟩)
  machineSteps_goes
#print axioms machineSteps_holds
end Go.Proofs.YtbdbhdcbdfbnnaaGreatDoor
