/- The law MachineSize: its statement. -/
import Derived.Test.YtdmelebgdaiinaaGreatDoorQD4A
namespace Go.Proofs.YtdmelebgdaiinaaGreatDoor
open Go.ChangeShapes Go.WideShapes Go.ChangeAt Go.RowKit Go.Deep Go.Joins
theorem machineSize_row:Rows.MachineSizeSaid :=
 OpenClaim.holds_of_wide 5 Tryz.f5 rfl rfl rfl rfl rfl rfl rfl ⟨rfl,rfl,rfl,rfl,rfl⟩ rfl rfl rfl rfl rfl machineSize_named Tryz.func5 machineSize_joined
  (of_decide_eq_true (by kernel_rfl)) (by unfold Func.isWrapper;first | (rw[if_pos (by decide +kernel)];kernel_rfl) | (rw[if_neg (by decide +kernel)];exact⟨rfl,rfl⟩))
  (fun os started H enc _=>machineSize_lifted os started H enc)
theorem machineSize_holds:Rows.MachineSizeCardSaid :=
 Claim7.holds_tied_plain_at .later [] Rows.machineSizeCard.laidKinds true Rows.machineSizeCard.stood.harness true machineSize_row (fun _ h=>by cases h) machineSize_wf (fun _ h=>by cases h) machineSize_row_tie rfl ⟨rfl,rfl⟩ machineSize_main rfl
  (fun f fn hf hfn=>by
   obtain rfl:f=5:=Option.some.inj (machineSize_named.symm.trans hf) |>.symm
   obtain rfl:fn=Tryz.f5:=(Option.some.inj (Tryz.func5.symm.trans hfn)).symm
   exact⟨machineSize_looks,fun j t ht=>by
    rw[Tryz.params5] at ht
    have hm:t ∈ [25,26]:=by simpa using Array.mem_of_getElem? ht
    exact (show Tryz.prog.wantsStandIn t=false by simpa using List.all_eq_true.1 machineSize_stand t hm)⟩)
  machineSize_goes
#print axioms machineSize_holds
end Go.Proofs.YtdmelebgdaiinaaGreatDoor
