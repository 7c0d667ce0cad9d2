/- Machine: what an operator makes of its operands, by the program: the walk at one. (Printed by gen/cdo.py.) Machine: what an operator makes of its operands, by the program: the walk at one. (Printed by gen/cdo.py.) -/
import Derived.Test.YtbdbhdcbdfbnnaaGreatDoorJ11
set_option linter.unusedVariables false
set_option linter.unusedSimpArgs false
namespace Go.Proofs.YtbdbhdcbdfbnnaaGreatDoor
open Go.RowKit
set_option maxRecDepth 100000 in
set_option maxHeartbeats 1000000 in
theorem pDo_6 (a b c:Int) (ha:Cx.fits a=true) (hb:Cx.fits b=true) (hc:Cx.fits c=true) (w:World) :
  Calls Tryz.prog 57 #[.int .i64 6,.int .i64 a,.int .i64 b,.int .i64 c] w fun e w'=>e=.returned (.tuple #[.int .i64 (Cx.doV 6 a b c).1,.int .i64 (Cx.doV 6 a b c).2])∧Below w.heap.size w w':=by
 have hO:∀ W,Calls Tryz.prog 56 #[.int .i64 6] W fun e w'=>e=.returned (.int .i64 2)∧w'=W:=fun W=>pOperands_any 6 W
 have hA:∀ W,Calls Tryz.prog 55 #[.int .i64 a] W fun e w'=>e=.returned (.bool true)∧w'=W:=fun W=>by have:=pFits_any a (fits_64 ha) W;rwa [ha] at this
 have hB:∀ W,Calls Tryz.prog 55 #[.int .i64 b] W fun e w'=>e=.returned (.bool true)∧w'=W:=fun W=>by have:=pFits_any b (fits_64 hb) W;rwa [hb] at this
 by_cases ha0:a=0
 ·subst ha0
  by_cases hb0:b=0
  ·subst hb0
   have HR:Hid (Ending.returned (.tuple #[.int .i64 (Cx.trI false),.int .i64 0])=.returned (.tuple #[.int .i64 (Cx.doV 6 0 0 c).1,.int .i64 (Cx.doV 6 0 0 c).2])):=by show _=_;simp[Cx.doV]
   clear ha hb hc
   go_enter Tryz.func57,Tryz.ntmps57
   go_wp2_with fail
   refine wp_loop_rounds 4 ?_
   rw[rounds_succ]
   go_wp2_with fail
   refine (hO _).mono ?_
   rintro e w1 ⟨rfl,rfl⟩
   go_wp2_with fail
   refine (hA _).mono ?_
   rintro e w1 ⟨rfl,rfl⟩
   go_wp2_with fail
   rw[rounds_succ]
   go_wp2_with fail
   refine (hO _).mono ?_
   rintro e w1 ⟨rfl,rfl⟩
   go_wp2_with fail
   refine (hB _).mono ?_
   rintro e w1 ⟨rfl,rfl⟩
   go_wp2_with fail
   rw[rounds_succ]
   go_wp2_with fail
   refine (hO _).mono ?_
   rintro e w1 ⟨rfl,rfl⟩
   go_wp2_with fail
   rw[rounds_succ]
   go_upto_region 8 with fail
   refine wp_region_list ?_
   generalize hX:Exit.then _ _=X
   go_wp2_with fail
   subst hX
   rename_i K3 hK3
   refine then_normal (hK3 _ _ ?_)
   refine wp_block ?_
   refine wp_seq ?_
   refine wp_block ?_
   refine wp_seq ?_
   refine wp_block ?_
   refine wp_seq ?_
   refine wp_block ?_
   refine wp_seq ?_
   refine wp_block ?_
   refine wp_seq ?_
   refine wp_block ?_
   refine wp_seq ?_
   refine wp_block ?_
   refine wp_seq ?_
   refine wp_block ?_
   refine wp_seq ?_
   refine wp_block ?_
   refine wp_seq ?_
   refine wp_block ?_
   refine wp_seq ?_
   refine wp_block ?_
   refine wp_seq ?_
   refine wp_block ?_
   refine wp_seq ?_
   refine wp_block ?_
   refine wp_seq ?_
   refine wp_block ?_
   refine wp_seq ?_
   refine wp_block ?_
   refine wp_seq ?_
   refine wp_block ?_
   refine leave_to (.exit 4) ?_
   intro K hK0
   have hK:=Lib.hid hK0
   clear hK0
   go_wp2_with fail
   refine hK.out _ _ ?_
   clear hK
   repeat (first | refine then_exit ?_ | refine inBlock_ne (by decide) ?_)
   refine inBlock_eq ?_
   refine then_normal ?_
   refine leave_to .ret ?_
   intro K hK0
   have hK:=Lib.hid hK0
   clear hK0
   go_wp2_with fail
   refine (pTruth_any _ _).mono ?_
   rintro e w1 ⟨rfl,rfl⟩
   go_wp2_with fail
   refine hK.out _ _ ?_;clear hK;repeat (first | refine then_ret ?_ | refine block_ret ?_)
   go_ret2
   exact⟨HR.out,(Below.refl _ _).alloc (Nat.le_refl _) _⟩
  ·have xb1:(b != 0)=true:=by simpa using hb0
   have xb2:(b==0)=false:=by simpa using hb0
   have HR:Hid (Ending.returned (.tuple #[.int .i64 (Cx.trI false),.int .i64 0])=.returned (.tuple #[.int .i64 (Cx.doV 6 0 b c).1,.int .i64 (Cx.doV 6 0 b c).2])):=by show _=_;simp[Cx.doV,xb1,xb2]
   clear ha hb hc hb0
   go_enter Tryz.func57,Tryz.ntmps57
   go_wp2_with fail
   refine wp_loop_rounds 4 ?_
   rw[rounds_succ]
   go_wp2_with fail
   refine (hO _).mono ?_
   rintro e w1 ⟨rfl,rfl⟩
   go_wp2_with fail
   refine (hA _).mono ?_
   rintro e w1 ⟨rfl,rfl⟩
   go_wp2_with fail
   rw[rounds_succ]
   go_wp2_with fail
   refine (hO _).mono ?_
   rintro e w1 ⟨rfl,rfl⟩
   go_wp2_with fail
   refine (hB _).mono ?_
   rintro e w1 ⟨rfl,rfl⟩
   go_wp2_with fail
   rw[rounds_succ]
   go_wp2_with fail
   refine (hO _).mono ?_
   rintro e w1 ⟨rfl,rfl⟩
   go_wp2_with fail
   rw[rounds_succ]
   go_upto_region 8 with fail
   refine wp_region_list ?_
   generalize hX:Exit.then _ _=X
   go_wp2_with fail
   subst hX
   rename_i K3 hK3
   refine then_normal (hK3 _ _ ?_)
   refine wp_block ?_
   refine wp_seq ?_
   refine wp_block ?_
   refine wp_seq ?_
   refine wp_block ?_
   refine wp_seq ?_
   refine wp_block ?_
   refine wp_seq ?_
   refine wp_block ?_
   refine wp_seq ?_
   refine wp_block ?_
   refine wp_seq ?_
   refine wp_block ?_
   refine wp_seq ?_
   refine wp_block ?_
   refine wp_seq ?_
   refine wp_block ?_
   refine wp_seq ?_
   refine wp_block ?_
   refine wp_seq ?_
   refine wp_block ?_
   refine wp_seq ?_
   refine wp_block ?_
   refine wp_seq ?_
   refine wp_block ?_
   refine wp_seq ?_
   refine wp_block ?_
   refine wp_seq ?_
   refine wp_block ?_
   refine wp_seq ?_
   refine wp_block ?_
   refine leave_to (.exit 4) ?_
   intro K hK0
   have hK:=Lib.hid hK0
   clear hK0
   go_wp2_with fail
   refine hK.out _ _ ?_
   clear hK
   repeat (first | refine then_exit ?_ | refine inBlock_ne (by decide) ?_)
   refine inBlock_eq ?_
   refine then_normal ?_
   refine leave_to .ret ?_
   intro K hK0
   have hK:=Lib.hid hK0
   clear hK0
   go_wp2_with fail
   refine (pTruth_any _ _).mono ?_
   rintro e w1 ⟨rfl,rfl⟩
   go_wp2_with fail
   refine hK.out _ _ ?_;clear hK;repeat (first | refine then_ret ?_ | refine block_ret ?_)
   go_ret2
   exact⟨HR.out,(Below.refl _ _).alloc (Nat.le_refl _) _⟩
 ·have xa1:(a != 0)=true:=by simpa using ha0
  have xa2:(a==0)=false:=by simpa using ha0
  by_cases hb0:b=0
  ·subst hb0
   have HR:Hid (Ending.returned (.tuple #[.int .i64 (Cx.trI false),.int .i64 0])=.returned (.tuple #[.int .i64 (Cx.doV 6 a 0 c).1,.int .i64 (Cx.doV 6 a 0 c).2])):=by show _=_;simp[Cx.doV,xa1,xa2]
   clear ha hb hc ha0
   go_enter Tryz.func57,Tryz.ntmps57
   go_wp2_with fail
   refine wp_loop_rounds 4 ?_
   rw[rounds_succ]
   go_wp2_with fail
   refine (hO _).mono ?_
   rintro e w1 ⟨rfl,rfl⟩
   go_wp2_with fail
   refine (hA _).mono ?_
   rintro e w1 ⟨rfl,rfl⟩
   go_wp2_with fail
   rw[rounds_succ]
   go_wp2_with fail
   refine (hO _).mono ?_
   rintro e w1 ⟨rfl,rfl⟩
   go_wp2_with fail
   refine (hB _).mono ?_
   rintro e w1 ⟨rfl,rfl⟩
   go_wp2_with fail
   rw[rounds_succ]
   go_wp2_with fail
   refine (hO _).mono ?_
   rintro e w1 ⟨rfl,rfl⟩
   go_wp2_with fail
   rw[rounds_succ]
   go_upto_region 8 with fail
   refine wp_region_list ?_
   generalize hX:Exit.then _ _=X
   go_wp2_with fail
   subst hX
   rename_i K3 hK3
   refine then_normal (hK3 _ _ ?_)
   refine wp_block ?_
   refine wp_seq ?_
   refine wp_block ?_
   refine wp_seq ?_
   refine wp_block ?_
   refine wp_seq ?_
   refine wp_block ?_
   refine wp_seq ?_
   refine wp_block ?_
   refine wp_seq ?_
   refine wp_block ?_
   refine wp_seq ?_
   refine wp_block ?_
   refine wp_seq ?_
   refine wp_block ?_
   refine wp_seq ?_
   refine wp_block ?_
   refine wp_seq ?_
   refine wp_block ?_
   refine wp_seq ?_
   refine wp_block ?_
   refine wp_seq ?_
   refine wp_block ?_
   refine wp_seq ?_
   refine wp_block ?_
   refine wp_seq ?_
   refine wp_block ?_
   refine wp_seq ?_
   refine wp_block ?_
   refine wp_seq ?_
   refine wp_block ?_
   refine leave_to (.exit 4) ?_
   intro K hK0
   have hK:=Lib.hid hK0
   clear hK0
   go_wp2_with fail
   refine hK.out _ _ ?_
   clear hK
   repeat (first | refine then_exit ?_ | refine inBlock_ne (by decide) ?_)
   refine inBlock_eq ?_
   refine then_normal ?_
   refine leave_to .ret ?_
   intro K hK0
   have hK:=Lib.hid hK0
   clear hK0
   go_wp2_with fail
   refine (pTruth_any _ _).mono ?_
   rintro e w1 ⟨rfl,rfl⟩
   go_wp2_with fail
   refine hK.out _ _ ?_;clear hK;repeat (first | refine then_ret ?_ | refine block_ret ?_)
   go_ret2
   exact⟨HR.out,(Below.refl _ _).alloc (Nat.le_refl _) _⟩
  ·have xb1:(b != 0)=true:=by simpa using hb0
   have xb2:(b==0)=false:=by simpa using hb0
   have HR:Hid (Ending.returned (.tuple #[.int .i64 (Cx.trI true),.int .i64 0])=.returned (.tuple #[.int .i64 (Cx.doV 6 a b c).1,.int .i64 (Cx.doV 6 a b c).2])):=by show _=_;simp[Cx.doV,xa1,xa2,xb1,xb2]
   clear ha hb hc ha0 hb0
   go_enter Tryz.func57,Tryz.ntmps57
   go_wp2_with fail
   refine wp_loop_rounds 4 ?_
   rw[rounds_succ]
   go_wp2_with fail
   refine (hO _).mono ?_
   rintro e w1 ⟨rfl,rfl⟩
   go_wp2_with fail
   refine (hA _).mono ?_
   rintro e w1 ⟨rfl,rfl⟩
   go_wp2_with fail
   rw[rounds_succ]
   go_wp2_with fail
   refine (hO _).mono ?_
   rintro e w1 ⟨rfl,rfl⟩
   go_wp2_with fail
   refine (hB _).mono ?_
   rintro e w1 ⟨rfl,rfl⟩
   go_wp2_with fail
   rw[rounds_succ]
   go_wp2_with fail
   refine (hO _).mono ?_
   rintro e w1 ⟨rfl,rfl⟩
   go_wp2_with fail
   rw[rounds_succ]
   go_upto_region 8 with fail
   refine wp_region_list ?_
   generalize hX:Exit.then _ _=X
   go_wp2_with fail
   subst hX
   rename_i K3 hK3
   refine then_normal (hK3 _ _ ?_)
   refine wp_block ?_
   refine wp_seq ?_
   refine wp_block ?_
   refine wp_seq ?_
   refine wp_block ?_
   refine wp_seq ?_
   refine wp_block ?_
   refine wp_seq ?_
   refine wp_block ?_
   refine wp_seq ?_
   refine wp_block ?_
   refine wp_seq ?_
   refine wp_block ?_
   refine wp_seq ?_
   refine wp_block ?_
   refine wp_seq ?_
   refine wp_block ?_
   refine wp_seq ?_
   refine wp_block ?_
   refine wp_seq ?_
   refine wp_block ?_
   refine wp_seq ?_
   refine wp_block ?_
   refine wp_seq ?_
   refine wp_block ?_
   refine wp_seq ?_
   refine wp_block ?_
   refine wp_seq ?_
   refine wp_block ?_
   refine wp_seq ?_
   refine wp_block ?_
   refine leave_to (.exit 4) ?_
   intro K hK0
   have hK:=Lib.hid hK0
   clear hK0
   go_wp2_with fail
   refine hK.out _ _ ?_
   clear hK
   repeat (first | refine then_exit ?_ | refine inBlock_ne (by decide) ?_)
   refine inBlock_eq ?_
   refine then_normal ?_
   refine leave_to .ret ?_
   intro K hK0
   have hK:=Lib.hid hK0
   clear hK0
   go_wp2_with fail
   refine (pTruth_any _ _).mono ?_
   rintro e w1 ⟨rfl,rfl⟩
   go_wp2_with fail
   refine hK.out _ _ ?_;clear hK;repeat (first | refine then_ret ?_ | refine block_ret ?_)
   go_ret2
   exact⟨HR.out,(Below.refl _ _).alloc (Nat.le_refl _) _⟩
end Go.Proofs.YtbdbhdcbdfbnnaaGreatDoor
namespace Go.Proofs.YtbdbhdcbdfbnnaaGreatDoor
open Go.RowKit
set_option maxRecDepth 100000 in
set_option maxHeartbeats 1000000 in
theorem pDo_9 (a b c:Int) (ha:Cx.fits a=true) (hb:Cx.fits b=true) (hc:Cx.fits c=true) (w:World) :
  Calls Tryz.prog 57 #[.int .i64 9,.int .i64 a,.int .i64 b,.int .i64 c] w fun e w'=>e=.returned (.tuple #[.int .i64 (Cx.doV 9 a b c).1,.int .i64 (Cx.doV 9 a b c).2])∧Below w.heap.size w w':=by
 have hO:∀ W,Calls Tryz.prog 56 #[.int .i64 9] W fun e w'=>e=.returned (.int .i64 2)∧w'=W:=fun W=>pOperands_any 9 W
 have hA:∀ W,Calls Tryz.prog 55 #[.int .i64 a] W fun e w'=>e=.returned (.bool true)∧w'=W:=fun W=>by have:=pFits_any a (fits_64 ha) W;rwa [ha] at this
 have hB:∀ W,Calls Tryz.prog 55 #[.int .i64 b] W fun e w'=>e=.returned (.bool true)∧w'=W:=fun W=>by have:=pFits_any b (fits_64 hb) W;rwa [hb] at this
 by_cases ha0:a=0
 ·subst ha0
  by_cases hb0:b=0
  ·subst hb0
   have HR:Hid (Ending.returned (.tuple #[.int .i64 (Cx.trI true),.int .i64 0])=.returned (.tuple #[.int .i64 (Cx.doV 9 0 0 c).1,.int .i64 (Cx.doV 9 0 0 c).2])):=by show _=_;simp[Cx.doV]
   clear ha hb hc
   go_enter Tryz.func57,Tryz.ntmps57
   go_wp2_with fail
   refine wp_loop_rounds 4 ?_
   rw[rounds_succ]
   go_wp2_with fail
   refine (hO _).mono ?_
   rintro e w1 ⟨rfl,rfl⟩
   go_wp2_with fail
   refine (hA _).mono ?_
   rintro e w1 ⟨rfl,rfl⟩
   go_wp2_with fail
   rw[rounds_succ]
   go_wp2_with fail
   refine (hO _).mono ?_
   rintro e w1 ⟨rfl,rfl⟩
   go_wp2_with fail
   refine (hB _).mono ?_
   rintro e w1 ⟨rfl,rfl⟩
   go_wp2_with fail
   rw[rounds_succ]
   go_wp2_with fail
   refine (hO _).mono ?_
   rintro e w1 ⟨rfl,rfl⟩
   go_wp2_with fail
   rw[rounds_succ]
   go_upto_region 8 with fail
   refine wp_region_list ?_
   generalize hX:Exit.then _ _=X
   go_wp2_with fail
   subst hX
   rename_i K3 hK3
   refine then_normal (hK3 _ _ ?_)
   refine wp_block ?_
   refine wp_seq ?_
   refine wp_block ?_
   refine wp_seq ?_
   refine wp_block ?_
   refine wp_seq ?_
   refine wp_block ?_
   refine wp_seq ?_
   refine wp_block ?_
   refine wp_seq ?_
   refine wp_block ?_
   refine wp_seq ?_
   refine wp_block ?_
   refine wp_seq ?_
   refine wp_block ?_
   refine wp_seq ?_
   refine wp_block ?_
   refine wp_seq ?_
   refine wp_block ?_
   refine wp_seq ?_
   refine wp_block ?_
   refine wp_seq ?_
   refine wp_block ?_
   refine wp_seq ?_
   refine wp_block ?_
   refine wp_seq ?_
   refine wp_block ?_
   refine wp_seq ?_
   refine wp_block ?_
   refine wp_seq ?_
   refine wp_block ?_
   refine leave_to (.exit 5) ?_
   intro K hK0
   have hK:=Lib.hid hK0
   clear hK0
   go_wp2_with fail
   refine hK.out _ _ ?_
   clear hK
   repeat (first | refine then_exit ?_ | refine inBlock_ne (by decide) ?_)
   refine inBlock_eq ?_
   refine then_normal ?_
   refine leave_to .normal ?_
   intro K hK0
   have hK:=Lib.hid hK0
   clear hK0
   go_wp2_with fail
   refine hK.out _ _ ?_
   clear hK
   refine block_normal ?_
   refine then_normal ?_
   refine leave_to .ret ?_
   intro K hK0
   have hK:=Lib.hid hK0
   clear hK0
   go_wp2_with fail
   refine (pTruth_any _ _).mono ?_
   rintro e w1 ⟨rfl,rfl⟩
   go_wp2_with fail
   refine hK.out _ _ ?_;clear hK;repeat (first | refine then_ret ?_ | refine block_ret ?_)
   go_ret2
   exact⟨HR.out,(Below.refl _ _).alloc (Nat.le_refl _) _⟩
  ·have xb1:(b != 0)=true:=by simpa using hb0
   have xb2:(b==0)=false:=by simpa using hb0
   have HR:Hid (Ending.returned (.tuple #[.int .i64 (Cx.trI true),.int .i64 0])=.returned (.tuple #[.int .i64 (Cx.doV 9 0 b c).1,.int .i64 (Cx.doV 9 0 b c).2])):=by show _=_;simp[Cx.doV,xb1,xb2]
   clear ha hb hc hb0
   go_enter Tryz.func57,Tryz.ntmps57
   go_wp2_with fail
   refine wp_loop_rounds 4 ?_
   rw[rounds_succ]
   go_wp2_with fail
   refine (hO _).mono ?_
   rintro e w1 ⟨rfl,rfl⟩
   go_wp2_with fail
   refine (hA _).mono ?_
   rintro e w1 ⟨rfl,rfl⟩
   go_wp2_with fail
   rw[rounds_succ]
   go_wp2_with fail
   refine (hO _).mono ?_
   rintro e w1 ⟨rfl,rfl⟩
   go_wp2_with fail
   refine (hB _).mono ?_
   rintro e w1 ⟨rfl,rfl⟩
   go_wp2_with fail
   rw[rounds_succ]
   go_wp2_with fail
   refine (hO _).mono ?_
   rintro e w1 ⟨rfl,rfl⟩
   go_wp2_with fail
   rw[rounds_succ]
   go_upto_region 8 with fail
   refine wp_region_list ?_
   generalize hX:Exit.then _ _=X
   go_wp2_with fail
   subst hX
   rename_i K3 hK3
   refine then_normal (hK3 _ _ ?_)
   refine wp_block ?_
   refine wp_seq ?_
   refine wp_block ?_
   refine wp_seq ?_
   refine wp_block ?_
   refine wp_seq ?_
   refine wp_block ?_
   refine wp_seq ?_
   refine wp_block ?_
   refine wp_seq ?_
   refine wp_block ?_
   refine wp_seq ?_
   refine wp_block ?_
   refine wp_seq ?_
   refine wp_block ?_
   refine wp_seq ?_
   refine wp_block ?_
   refine wp_seq ?_
   refine wp_block ?_
   refine wp_seq ?_
   refine wp_block ?_
   refine wp_seq ?_
   refine wp_block ?_
   refine wp_seq ?_
   refine wp_block ?_
   refine wp_seq ?_
   refine wp_block ?_
   refine wp_seq ?_
   refine wp_block ?_
   refine wp_seq ?_
   refine wp_block ?_
   refine leave_to (.exit 5) ?_
   intro K hK0
   have hK:=Lib.hid hK0
   clear hK0
   go_wp2_with fail
   refine hK.out _ _ ?_
   clear hK
   repeat (first | refine then_exit ?_ | refine inBlock_ne (by decide) ?_)
   refine inBlock_eq ?_
   refine then_normal ?_
   refine leave_to .normal ?_
   intro K hK0
   have hK:=Lib.hid hK0
   clear hK0
   go_wp2_with fail
   refine hK.out _ _ ?_
   clear hK
   refine block_normal ?_
   refine then_normal ?_
   refine leave_to .ret ?_
   intro K hK0
   have hK:=Lib.hid hK0
   clear hK0
   go_wp2_with fail
   refine (pTruth_any _ _).mono ?_
   rintro e w1 ⟨rfl,rfl⟩
   go_wp2_with fail
   refine hK.out _ _ ?_;clear hK;repeat (first | refine then_ret ?_ | refine block_ret ?_)
   go_ret2
   exact⟨HR.out,(Below.refl _ _).alloc (Nat.le_refl _) _⟩
 ·have xa1:(a != 0)=true:=by simpa using ha0
  have xa2:(a==0)=false:=by simpa using ha0
  by_cases hb0:b=0
  ·subst hb0
   have HR:Hid (Ending.returned (.tuple #[.int .i64 (Cx.trI false),.int .i64 0])=.returned (.tuple #[.int .i64 (Cx.doV 9 a 0 c).1,.int .i64 (Cx.doV 9 a 0 c).2])):=by show _=_;simp[Cx.doV,xa1,xa2]
   clear ha hb hc ha0
   go_enter Tryz.func57,Tryz.ntmps57
   go_wp2_with fail
   refine wp_loop_rounds 4 ?_
   rw[rounds_succ]
   go_wp2_with fail
   refine (hO _).mono ?_
   rintro e w1 ⟨rfl,rfl⟩
   go_wp2_with fail
   refine (hA _).mono ?_
   rintro e w1 ⟨rfl,rfl⟩
   go_wp2_with fail
   rw[rounds_succ]
   go_wp2_with fail
   refine (hO _).mono ?_
   rintro e w1 ⟨rfl,rfl⟩
   go_wp2_with fail
   refine (hB _).mono ?_
   rintro e w1 ⟨rfl,rfl⟩
   go_wp2_with fail
   rw[rounds_succ]
   go_wp2_with fail
   refine (hO _).mono ?_
   rintro e w1 ⟨rfl,rfl⟩
   go_wp2_with fail
   rw[rounds_succ]
   go_upto_region 8 with fail
   refine wp_region_list ?_
   generalize hX:Exit.then _ _=X
   go_wp2_with fail
   subst hX
   rename_i K3 hK3
   refine then_normal (hK3 _ _ ?_)
   refine wp_block ?_
   refine wp_seq ?_
   refine wp_block ?_
   refine wp_seq ?_
   refine wp_block ?_
   refine wp_seq ?_
   refine wp_block ?_
   refine wp_seq ?_
   refine wp_block ?_
   refine wp_seq ?_
   refine wp_block ?_
   refine wp_seq ?_
   refine wp_block ?_
   refine wp_seq ?_
   refine wp_block ?_
   refine wp_seq ?_
   refine wp_block ?_
   refine wp_seq ?_
   refine wp_block ?_
   refine wp_seq ?_
   refine wp_block ?_
   refine wp_seq ?_
   refine wp_block ?_
   refine wp_seq ?_
   refine wp_block ?_
   refine wp_seq ?_
   refine wp_block ?_
   refine wp_seq ?_
   refine wp_block ?_
   refine wp_seq ?_
   refine wp_block ?_
   refine leave_to (.exit 5) ?_
   intro K hK0
   have hK:=Lib.hid hK0
   clear hK0
   go_wp2_with fail
   refine hK.out _ _ ?_
   clear hK
   repeat (first | refine then_exit ?_ | refine inBlock_ne (by decide) ?_)
   refine inBlock_eq ?_
   refine then_normal ?_
   refine leave_to .normal ?_
   intro K hK0
   have hK:=Lib.hid hK0
   clear hK0
   go_wp2_with fail
   refine hK.out _ _ ?_
   clear hK
   refine block_normal ?_
   refine then_normal ?_
   refine leave_to .ret ?_
   intro K hK0
   have hK:=Lib.hid hK0
   clear hK0
   go_wp2_with fail
   refine (pTruth_any _ _).mono ?_
   rintro e w1 ⟨rfl,rfl⟩
   go_wp2_with fail
   refine hK.out _ _ ?_;clear hK;repeat (first | refine then_ret ?_ | refine block_ret ?_)
   go_ret2
   exact⟨HR.out,(Below.refl _ _).alloc (Nat.le_refl _) _⟩
  ·have xb1:(b != 0)=true:=by simpa using hb0
   have xb2:(b==0)=false:=by simpa using hb0
   have HR:Hid (Ending.returned (.tuple #[.int .i64 (Cx.trI true),.int .i64 0])=.returned (.tuple #[.int .i64 (Cx.doV 9 a b c).1,.int .i64 (Cx.doV 9 a b c).2])):=by show _=_;simp[Cx.doV,xa1,xa2,xb1,xb2]
   clear ha hb hc ha0 hb0
   go_enter Tryz.func57,Tryz.ntmps57
   go_wp2_with fail
   refine wp_loop_rounds 4 ?_
   rw[rounds_succ]
   go_wp2_with fail
   refine (hO _).mono ?_
   rintro e w1 ⟨rfl,rfl⟩
   go_wp2_with fail
   refine (hA _).mono ?_
   rintro e w1 ⟨rfl,rfl⟩
   go_wp2_with fail
   rw[rounds_succ]
   go_wp2_with fail
   refine (hO _).mono ?_
   rintro e w1 ⟨rfl,rfl⟩
   go_wp2_with fail
   refine (hB _).mono ?_
   rintro e w1 ⟨rfl,rfl⟩
   go_wp2_with fail
   rw[rounds_succ]
   go_wp2_with fail
   refine (hO _).mono ?_
   rintro e w1 ⟨rfl,rfl⟩
   go_wp2_with fail
   rw[rounds_succ]
   go_upto_region 8 with fail
   refine wp_region_list ?_
   generalize hX:Exit.then _ _=X
   go_wp2_with fail
   subst hX
   rename_i K3 hK3
   refine then_normal (hK3 _ _ ?_)
   refine wp_block ?_
   refine wp_seq ?_
   refine wp_block ?_
   refine wp_seq ?_
   refine wp_block ?_
   refine wp_seq ?_
   refine wp_block ?_
   refine wp_seq ?_
   refine wp_block ?_
   refine wp_seq ?_
   refine wp_block ?_
   refine wp_seq ?_
   refine wp_block ?_
   refine wp_seq ?_
   refine wp_block ?_
   refine wp_seq ?_
   refine wp_block ?_
   refine wp_seq ?_
   refine wp_block ?_
   refine wp_seq ?_
   refine wp_block ?_
   refine wp_seq ?_
   refine wp_block ?_
   refine wp_seq ?_
   refine wp_block ?_
   refine wp_seq ?_
   refine wp_block ?_
   refine wp_seq ?_
   refine wp_block ?_
   refine wp_seq ?_
   refine wp_block ?_
   refine leave_to (.exit 5) ?_
   intro K hK0
   have hK:=Lib.hid hK0
   clear hK0
   go_wp2_with fail
   refine hK.out _ _ ?_
   clear hK
   repeat (first | refine then_exit ?_ | refine inBlock_ne (by decide) ?_)
   refine inBlock_eq ?_
   refine then_normal ?_
   refine leave_to .normal ?_
   intro K hK0
   have hK:=Lib.hid hK0
   clear hK0
   go_wp2_with fail
   refine hK.out _ _ ?_
   clear hK
   refine block_normal ?_
   refine then_normal ?_
   refine leave_to .ret ?_
   intro K hK0
   have hK:=Lib.hid hK0
   clear hK0
   go_wp2_with fail
   refine (pTruth_any _ _).mono ?_
   rintro e w1 ⟨rfl,rfl⟩
   go_wp2_with fail
   refine hK.out _ _ ?_;clear hK;repeat (first | refine then_ret ?_ | refine block_ret ?_)
   go_ret2
   exact⟨HR.out,(Below.refl _ _).alloc (Nat.le_refl _) _⟩
end Go.Proofs.YtbdbhdcbdfbnnaaGreatDoor
