/- The law MachineCopy: its statement. -/
import Derived.Test.YtdmelebgdaiinaaGreatDoorQD5A
namespace Go.Proofs.YtdmelebgdaiinaaGreatDoor
open Go.ChangeShapes Go.WideShapes Go.ChangeAt Go.RowKit Go.Deep Go.Joins
theorem machineCopy_row:Rows.MachineCopySaid :=
 OpenClaim.holds_of_wide 6 Tryz.f6 rfl rfl rfl rfl rfl rfl rfl ⟨rfl,rfl,rfl,rfl,rfl⟩ rfl rfl rfl rfl rfl machineCopy_named Tryz.func6 machineCopy_joined
  (of_decide_eq_true (by kernel_rfl)) (by unfold Func.isWrapper;first | (rw[if_pos (by decide +kernel)];kernel_rfl) | (rw[if_neg (by decide +kernel)];exact⟨rfl,rfl⟩))
  (fun os started H enc _=>machineCopy_lifted os started H enc)
theorem machineCopy_holds:Rows.MachineCopyCardSaid :=
 Claim7.holds_tied_plain_at .later [] Rows.machineCopyCard.laidKinds true Rows.machineCopyCard.stood.harness true machineCopy_row (fun _ h=>by cases h) machineCopy_wf (fun _ h=>by cases h) machineCopy_row_tie rfl ⟨rfl,rfl⟩ machineCopy_main rfl
  (fun f fn hf hfn=>by
   obtain rfl:f=6:=Option.some.inj (machineCopy_named.symm.trans hf) |>.symm
   obtain rfl:fn=Tryz.f6:=(Option.some.inj (Tryz.func6.symm.trans hfn)).symm
   exact⟨machineCopy_looks,fun j t ht=>by
    rw[Tryz.params6] at ht
    have hm:t ∈ [25,26,26]:=by simpa using Array.mem_of_getElem? ht
    exact (show Tryz.prog.wantsStandIn t=false by simpa using List.all_eq_true.1 machineCopy_stand t hm)⟩)
  machineCopy_goes
#print axioms machineCopy_holds
end Go.Proofs.YtdmelebgdaiinaaGreatDoor
