/- The law MachineFault: its statement. -/
import Derived.Test.YtdmelebgdaiinaaGreatDoorQD3A
namespace Go.Proofs.YtdmelebgdaiinaaGreatDoor
open Go.ChangeShapes Go.WideShapes Go.ChangeAt Go.RowKit Go.Deep Go.Joins
theorem machineFault_row:Rows.MachineFaultSaid :=
 OpenClaim.holds_of_wide 7 Tryz.f7 rfl rfl rfl rfl rfl rfl rfl ⟨rfl,rfl,rfl,rfl,rfl⟩ rfl rfl rfl rfl rfl machineFault_named Tryz.func7 machineFault_joined
  (of_decide_eq_true (by kernel_rfl)) (by unfold Func.isWrapper;first | (rw[if_pos (by decide +kernel)];kernel_rfl) | (rw[if_neg (by decide +kernel)];exact⟨rfl,rfl⟩))
  (fun os started H enc _=>machineFault_lifted os started H enc)
theorem machineFault_holds:Rows.MachineFaultCardSaid :=
 Claim7.holds_tied_plain_at .later [] Rows.machineFaultCard.laidKinds true Rows.machineFaultCard.stood.harness true machineFault_row (fun _ h=>by cases h) machineFault_wf (fun _ h=>by cases h) machineFault_row_tie rfl ⟨rfl,rfl⟩ machineFault_main rfl
  (fun f fn hf hfn=>by
   obtain rfl:f=7:=Option.some.inj (machineFault_named.symm.trans hf) |>.symm
   obtain rfl:fn=Tryz.f7:=(Option.some.inj (Tryz.func7.symm.trans hfn)).symm
   exact⟨machineFault_looks,fun j t ht=>by
    rw[Tryz.params7] at ht
    have hm:t ∈ [25,26]:=by simpa using Array.mem_of_getElem? ht
    exact (show Tryz.prog.wantsStandIn t=false by simpa using List.all_eq_true.1 machineFault_stand t hm)⟩)
  machineFault_goes
#print axioms machineFault_holds
end Go.Proofs.YtdmelebgdaiinaaGreatDoor
