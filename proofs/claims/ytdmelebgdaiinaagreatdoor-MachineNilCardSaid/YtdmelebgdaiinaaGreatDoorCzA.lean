/- The law MachineNil: its statement. -/
import Derived.Test.YtdmelebgdaiinaaGreatDoorQCzA
namespace Go.Proofs.YtdmelebgdaiinaaGreatDoor
open Go.ChangeShapes Go.WideShapes Go.ChangeAt Go.RowKit Go.Deep Go.Joins
theorem machineNil_row:Rows.MachineNilSaid :=
 OpenClaim.holds_of_wide 4 Tryz.f4 rfl rfl rfl rfl rfl rfl rfl ⟨rfl,rfl,rfl,rfl,rfl⟩ rfl rfl rfl rfl rfl machineNil_named Tryz.func4 machineNil_joined
  (of_decide_eq_true (by kernel_rfl)) (by unfold Func.isWrapper;first | (rw[if_pos (by decide +kernel)];kernel_rfl) | (rw[if_neg (by decide +kernel)];exact⟨rfl,rfl⟩))
  (fun os started H enc _=>machineNil_lifted os started H enc)
theorem machineNil_holds:Rows.MachineNilCardSaid :=
 Claim7.holds_tied_plain_at .later [] Rows.machineNilCard.laidKinds true Rows.machineNilCard.stood.harness true machineNil_row (fun _ h=>by cases h) machineNil_wf (fun _ h=>by cases h) machineNil_row_tie rfl ⟨rfl,rfl⟩ machineNil_main rfl
  (fun f fn hf hfn=>by
   obtain rfl:f=4:=Option.some.inj (machineNil_named.symm.trans hf) |>.symm
   obtain rfl:fn=Tryz.f4:=(Option.some.inj (Tryz.func4.symm.trans hfn)).symm
   exact⟨machineNil_looks,fun j t ht=>by
    rw[Tryz.params4] at ht
    have hm:t ∈ [23]:=by simpa using Array.mem_of_getElem? ht
    exact (show Tryz.prog.wantsStandIn t=false by simpa using List.all_eq_true.1 machineNil_stand t hm)⟩)
  machineNil_goes
#print axioms machineNil_holds
end Go.Proofs.YtdmelebgdaiinaaGreatDoor
