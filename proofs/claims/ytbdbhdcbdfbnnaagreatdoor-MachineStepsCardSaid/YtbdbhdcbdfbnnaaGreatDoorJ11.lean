/- Machine: what an operator makes of its operands, by the program: what the walks want. (Printed by gen/cdo.py.) Machine: what an operator makes of its operands, by the program: the walk at one. (Printed by gen/cdo.py.) Machine: what an operator makes of its operands, by the program: the walk at one. (Printed by gen/cdo.py.) Machine: what an operator makes of its operands, by the program: the walk at one. (Printed by gen/cdo.py.) -/
import Derived.LoopN
import Derived.Deep.Cut
import Derived.Test.YtbdbhdcbdfbnnaaGreatDoorJ10
set_option linter.unusedVariables false
set_option linter.unusedSimpArgs false
namespace Go.Proofs.YtbdbhdcbdfbnnaaGreatDoor
open Go.RowKit
theorem fits_lim {n:Int} (h:Cx.fits n=true) : -2147483648≤n∧n≤2147483647:=by simpa [Cx.fits] using h
theorem fits_64 {n:Int} (h:Cx.fits n=true) : -9223372036854775808≤n∧n≤9223372036854775807:=by have:=fits_lim h;omega
theorem mul_lim {a b:Int} (ha:Cx.fits a=true) (hb:Cx.fits b=true) : -4611686018427387904≤a * b∧a * b≤4611686018427387904:=by
 have h1:=fits_lim ha
 have h2:=fits_lim hb
 have h3:(a * b).natAbs≤2147483648 * 2147483648:=by
  rw[Int.natAbs_mul]
  exact Nat.mul_le_mul (by omega) (by omega)
 omega
theorem doS_fits {op a b c:Int} (ha:Cx.fits a=true) (hb:Cx.fits b=true) (hc:Cx.fits c=true):Cx.doS op a b c=Cx.doV op a b c:=by
 unfold Cx.doS;rw[if_pos ⟨ha,fun _=>hb,fun _=>hc⟩]
theorem then_exit {K:Act→World→Prop} {Q:Exit→Act→World→Prop} {j:Nat} {a:Act} {w:World} (h:Q (.exit j) a w):Exit.then K Q (.exit j) a w:=h
theorem inBlock_ne {Q:Exit→Act→World→Prop} {id j:Nat} {a:Act} {w:World} (hj:j≠id) (h:Q (.exit j) a w):Exit.inBlock id Q (.exit j) a w:=by
 unfold Exit.inBlock;dsimp only;rw[if_neg hj];exact h
theorem inBlock_eq {Q:Exit→Act→World→Prop} {id:Nat} {a:Act} {w:World} (h:Q .normal a w):Exit.inBlock id Q (.exit id) a w:=by
 unfold Exit.inBlock;dsimp only;rw[if_pos rfl];exact h
theorem then_normal {K:Act→World→Prop} {Q:Exit→Act→World→Prop} {a:Act} {w:World} (h:K a w):Exit.then K Q .normal a w:=h
theorem then_ret {K:Act→World→Prop} {Q:Exit→Act→World→Prop} {a:Act} {w:World} (h:Q .ret a w):Exit.then K Q .ret a w:=h
theorem block_ret {Q:Exit→Act→World→Prop} {id:Nat} {a:Act} {w:World} (h:Q .ret a w):Exit.inBlock id Q .ret a w:=h
theorem block_normal {Q:Exit→Act→World→Prop} {id:Nat} {a:Act} {w:World} (h:Q .normal a w):Exit.inBlock id Q .normal a w:=h
theorem leave_to (x:Exit) {P:Program} {c:Code} {Q:Exit→Act→World→Prop} {a:Act} {w:World} (h:∀ K:Act→World→Prop,(∀ a w,Q x a w→K a w)→c.wp P (fun e a w=>e=x∧K a w) a w):c.wp P Q a w :=
 Code.wp_mono (fun e a w q=>by obtain⟨rfl,q⟩:=q;exact q) (h (fun a w=>Q x a w) fun _ _ q=>q)
theorem w64_in {n:Int} (h : -9223372036854775808≤n∧n≤9223372036854775807):wrap64 n=n:=by unfold wrap64;omega
end Go.Proofs.YtbdbhdcbdfbnnaaGreatDoor
namespace Go.Proofs.YtbdbhdcbdfbnnaaGreatDoor
open Go.RowKit
set_option maxRecDepth 100000 in
set_option maxHeartbeats 1000000 in
theorem pDo_8 (a b c:Int) (ha:Cx.fits a=true) (hb:Cx.fits b=true) (hc:Cx.fits c=true) (w:World) :
  Calls Tryz.prog 57 #[.int .i64 8,.int .i64 a,.int .i64 b,.int .i64 c] w fun e w'=>e=.returned (.tuple #[.int .i64 (Cx.doV 8 a b c).1,.int .i64 (Cx.doV 8 a b c).2])∧Below w.heap.size w w':=by
 have hO:∀ W,Calls Tryz.prog 56 #[.int .i64 8] W fun e w'=>e=.returned (.int .i64 2)∧w'=W:=fun W=>pOperands_any 8 W
 have hA:∀ W,Calls Tryz.prog 55 #[.int .i64 a] W fun e w'=>e=.returned (.bool true)∧w'=W:=fun W=>by have:=pFits_any a (fits_64 ha) W;rwa [ha] at this
 have hB:∀ W,Calls Tryz.prog 55 #[.int .i64 b] W fun e w'=>e=.returned (.bool true)∧w'=W:=fun W=>by have:=pFits_any b (fits_64 hb) W;rwa [hb] at this
 by_cases ha0:a=0
 ·subst ha0
  by_cases hb0:b=0
  ·subst hb0
   have HR:Hid (Ending.returned (.tuple #[.int .i64 (Cx.trI false),.int .i64 0])=.returned (.tuple #[.int .i64 (Cx.doV 8 0 0 c).1,.int .i64 (Cx.doV 8 0 0 c).2])):=by show _=_;simp[Cx.doV]
   clear ha hb hc
   go_enter Tryz.func57,Tryz.ntmps57
   go_wp2_with fail
   refine wp_loop_rounds 4 ?_
   rw[rounds_succ]
   go_wp2_with fail
   refine (hO _).mono ?_
   rintro e w1 ⟨rfl,rfl⟩
   go_wp2_with fail
   refine (hA _).mono ?_
   rintro e w1 ⟨rfl,rfl⟩
   go_wp2_with fail
   rw[rounds_succ]
   go_wp2_with fail
   refine (hO _).mono ?_
   rintro e w1 ⟨rfl,rfl⟩
   go_wp2_with fail
   refine (hB _).mono ?_
   rintro e w1 ⟨rfl,rfl⟩
   go_wp2_with fail
   rw[rounds_succ]
   go_wp2_with fail
   refine (hO _).mono ?_
   rintro e w1 ⟨rfl,rfl⟩
   go_wp2_with fail
   rw[rounds_succ]
   go_upto_region 8 with fail
   refine wp_region_list ?_
   generalize hX:Exit.then _ _=X
   go_wp2_with fail
   subst hX
   rename_i K3 hK3
   refine then_normal (hK3 _ _ ?_)
   refine wp_block ?_
   refine wp_seq ?_
   refine wp_block ?_
   refine wp_seq ?_
   refine wp_block ?_
   refine wp_seq ?_
   refine wp_block ?_
   refine wp_seq ?_
   refine wp_block ?_
   refine wp_seq ?_
   refine wp_block ?_
   refine wp_seq ?_
   refine wp_block ?_
   refine wp_seq ?_
   refine wp_block ?_
   refine wp_seq ?_
   refine wp_block ?_
   refine wp_seq ?_
   refine wp_block ?_
   refine wp_seq ?_
   refine wp_block ?_
   refine wp_seq ?_
   refine wp_block ?_
   refine wp_seq ?_
   refine wp_block ?_
   refine wp_seq ?_
   refine wp_block ?_
   refine wp_seq ?_
   refine wp_block ?_
   refine wp_seq ?_
   refine wp_block ?_
   refine leave_to (.exit 7) ?_
   intro K hK0
   have hK:=Lib.hid hK0
   clear hK0
   go_wp2_with fail
   refine hK.out _ _ ?_
   clear hK
   repeat (first | refine then_exit ?_ | refine inBlock_ne (by decide) ?_)
   refine inBlock_eq ?_
   refine then_normal ?_
   refine leave_to .ret ?_
   intro K hK0
   have hK:=Lib.hid hK0
   clear hK0
   go_wp2_with fail
   refine (pTruth_any _ _).mono ?_
   rintro e w1 ⟨rfl,rfl⟩
   go_wp2_with fail
   refine hK.out _ _ ?_;clear hK;repeat (first | refine then_ret ?_ | refine block_ret ?_)
   go_ret2
   exact⟨HR.out,(Below.refl _ _).alloc (Nat.le_refl _) _⟩
  ·have xb1:(b != 0)=true:=by simpa using hb0
   have xb2:(b==0)=false:=by simpa using hb0
   have HR:Hid (Ending.returned (.tuple #[.int .i64 (Cx.trI true),.int .i64 0])=.returned (.tuple #[.int .i64 (Cx.doV 8 0 b c).1,.int .i64 (Cx.doV 8 0 b c).2])):=by show _=_;simp[Cx.doV,xb1,xb2]
   clear ha hb hc hb0
   go_enter Tryz.func57,Tryz.ntmps57
   go_wp2_with fail
   refine wp_loop_rounds 4 ?_
   rw[rounds_succ]
   go_wp2_with fail
   refine (hO _).mono ?_
   rintro e w1 ⟨rfl,rfl⟩
   go_wp2_with fail
   refine (hA _).mono ?_
   rintro e w1 ⟨rfl,rfl⟩
   go_wp2_with fail
   rw[rounds_succ]
   go_wp2_with fail
   refine (hO _).mono ?_
   rintro e w1 ⟨rfl,rfl⟩
   go_wp2_with fail
   refine (hB _).mono ?_
   rintro e w1 ⟨rfl,rfl⟩
   go_wp2_with fail
   rw[rounds_succ]
   go_wp2_with fail
   refine (hO _).mono ?_
   rintro e w1 ⟨rfl,rfl⟩
   go_wp2_with fail
   rw[rounds_succ]
   go_upto_region 8 with fail
   refine wp_region_list ?_
   generalize hX:Exit.then _ _=X
   go_wp2_with fail
   subst hX
   rename_i K3 hK3
   refine then_normal (hK3 _ _ ?_)
   refine wp_block ?_
   refine wp_seq ?_
   refine wp_block ?_
   refine wp_seq ?_
   refine wp_block ?_
   refine wp_seq ?_
   refine wp_block ?_
   refine wp_seq ?_
   refine wp_block ?_
   refine wp_seq ?_
   refine wp_block ?_
   refine wp_seq ?_
   refine wp_block ?_
   refine wp_seq ?_
   refine wp_block ?_
   refine wp_seq ?_
   refine wp_block ?_
   refine wp_seq ?_
   refine wp_block ?_
   refine wp_seq ?_
   refine wp_block ?_
   refine wp_seq ?_
   refine wp_block ?_
   refine wp_seq ?_
   refine wp_block ?_
   refine wp_seq ?_
   refine wp_block ?_
   refine wp_seq ?_
   refine wp_block ?_
   refine wp_seq ?_
   refine wp_block ?_
   refine leave_to (.exit 7) ?_
   intro K hK0
   have hK:=Lib.hid hK0
   clear hK0
   go_wp2_with fail
   refine hK.out _ _ ?_
   clear hK
   repeat (first | refine then_exit ?_ | refine inBlock_ne (by decide) ?_)
   refine inBlock_eq ?_
   refine then_normal ?_
   refine leave_to .ret ?_
   intro K hK0
   have hK:=Lib.hid hK0
   clear hK0
   go_wp2_with fail
   refine (pTruth_any _ _).mono ?_
   rintro e w1 ⟨rfl,rfl⟩
   go_wp2_with fail
   refine hK.out _ _ ?_;clear hK;repeat (first | refine then_ret ?_ | refine block_ret ?_)
   go_ret2
   exact⟨HR.out,(Below.refl _ _).alloc (Nat.le_refl _) _⟩
 ·have xa1:(a != 0)=true:=by simpa using ha0
  have xa2:(a==0)=false:=by simpa using ha0
  by_cases hb0:b=0
  ·subst hb0
   have HR:Hid (Ending.returned (.tuple #[.int .i64 (Cx.trI true),.int .i64 0])=.returned (.tuple #[.int .i64 (Cx.doV 8 a 0 c).1,.int .i64 (Cx.doV 8 a 0 c).2])):=by show _=_;simp[Cx.doV,xa1,xa2]
   clear ha hb hc ha0
   go_enter Tryz.func57,Tryz.ntmps57
   go_wp2_with fail
   refine wp_loop_rounds 4 ?_
   rw[rounds_succ]
   go_wp2_with fail
   refine (hO _).mono ?_
   rintro e w1 ⟨rfl,rfl⟩
   go_wp2_with fail
   refine (hA _).mono ?_
   rintro e w1 ⟨rfl,rfl⟩
   go_wp2_with fail
   rw[rounds_succ]
   go_wp2_with fail
   refine (hO _).mono ?_
   rintro e w1 ⟨rfl,rfl⟩
   go_wp2_with fail
   refine (hB _).mono ?_
   rintro e w1 ⟨rfl,rfl⟩
   go_wp2_with fail
   rw[rounds_succ]
   go_wp2_with fail
   refine (hO _).mono ?_
   rintro e w1 ⟨rfl,rfl⟩
   go_wp2_with fail
   rw[rounds_succ]
   go_upto_region 8 with fail
   refine wp_region_list ?_
   generalize hX:Exit.then _ _=X
   go_wp2_with fail
   subst hX
   rename_i K3 hK3
   refine then_normal (hK3 _ _ ?_)
   refine wp_block ?_
   refine wp_seq ?_
   refine wp_block ?_
   refine wp_seq ?_
   refine wp_block ?_
   refine wp_seq ?_
   refine wp_block ?_
   refine wp_seq ?_
   refine wp_block ?_
   refine wp_seq ?_
   refine wp_block ?_
   refine wp_seq ?_
   refine wp_block ?_
   refine wp_seq ?_
   refine wp_block ?_
   refine wp_seq ?_
   refine wp_block ?_
   refine wp_seq ?_
   refine wp_block ?_
   refine wp_seq ?_
   refine wp_block ?_
   refine wp_seq ?_
   refine wp_block ?_
   refine wp_seq ?_
   refine wp_block ?_
   refine wp_seq ?_
   refine wp_block ?_
   refine wp_seq ?_
   refine wp_block ?_
   refine wp_seq ?_
   refine wp_block ?_
   refine leave_to (.exit 7) ?_
   intro K hK0
   have hK:=Lib.hid hK0
   clear hK0
   go_wp2_with fail
   refine hK.out _ _ ?_
   clear hK
   repeat (first | refine then_exit ?_ | refine inBlock_ne (by decide) ?_)
   refine inBlock_eq ?_
   refine then_normal ?_
   refine leave_to .ret ?_
   intro K hK0
   have hK:=Lib.hid hK0
   clear hK0
   go_wp2_with fail
   refine (pTruth_any _ _).mono ?_
   rintro e w1 ⟨rfl,rfl⟩
   go_wp2_with fail
   refine hK.out _ _ ?_;clear hK;repeat (first | refine then_ret ?_ | refine block_ret ?_)
   go_ret2
   exact⟨HR.out,(Below.refl _ _).alloc (Nat.le_refl _) _⟩
  ·have xb1:(b != 0)=true:=by simpa using hb0
   have xb2:(b==0)=false:=by simpa using hb0
   have HR:Hid (Ending.returned (.tuple #[.int .i64 (Cx.trI false),.int .i64 0])=.returned (.tuple #[.int .i64 (Cx.doV 8 a b c).1,.int .i64 (Cx.doV 8 a b c).2])):=by show _=_;simp[Cx.doV,xa1,xa2,xb1,xb2]
   clear ha hb hc ha0 hb0
   go_enter Tryz.func57,Tryz.ntmps57
   go_wp2_with fail
   refine wp_loop_rounds 4 ?_
   rw[rounds_succ]
   go_wp2_with fail
   refine (hO _).mono ?_
   rintro e w1 ⟨rfl,rfl⟩
   go_wp2_with fail
   refine (hA _).mono ?_
   rintro e w1 ⟨rfl,rfl⟩
   go_wp2_with fail
   rw[rounds_succ]
   go_wp2_with fail
   refine (hO _).mono ?_
   rintro e w1 ⟨rfl,rfl⟩
   go_wp2_with fail
   refine (hB _).mono ?_
   rintro e w1 ⟨rfl,rfl⟩
   go_wp2_with fail
   rw[rounds_succ]
   go_wp2_with fail
   refine (hO _).mono ?_
   rintro e w1 ⟨rfl,rfl⟩
   go_wp2_with fail
   rw[rounds_succ]
   go_upto_region 8 with fail
   refine wp_region_list ?_
   generalize hX:Exit.then _ _=X
   go_wp2_with fail
   subst hX
   rename_i K3 hK3
   refine then_normal (hK3 _ _ ?_)
   refine wp_block ?_
   refine wp_seq ?_
   refine wp_block ?_
   refine wp_seq ?_
   refine wp_block ?_
   refine wp_seq ?_
   refine wp_block ?_
   refine wp_seq ?_
   refine wp_block ?_
   refine wp_seq ?_
   refine wp_block ?_
   refine wp_seq ?_
   refine wp_block ?_
   refine wp_seq ?_
   refine wp_block ?_
   refine wp_seq ?_
   refine wp_block ?_
   refine wp_seq ?_
   refine wp_block ?_
   refine wp_seq ?_
   refine wp_block ?_
   refine wp_seq ?_
   refine wp_block ?_
   refine wp_seq ?_
   refine wp_block ?_
   refine wp_seq ?_
   refine wp_block ?_
   refine wp_seq ?_
   refine wp_block ?_
   refine wp_seq ?_
   refine wp_block ?_
   refine leave_to (.exit 7) ?_
   intro K hK0
   have hK:=Lib.hid hK0
   clear hK0
   go_wp2_with fail
   refine hK.out _ _ ?_
   clear hK
   repeat (first | refine then_exit ?_ | refine inBlock_ne (by decide) ?_)
   refine inBlock_eq ?_
   refine then_normal ?_
   refine leave_to .ret ?_
   intro K hK0
   have hK:=Lib.hid hK0
   clear hK0
   go_wp2_with fail
   refine (pTruth_any _ _).mono ?_
   rintro e w1 ⟨rfl,rfl⟩
   go_wp2_with fail
   refine hK.out _ _ ?_;clear hK;repeat (first | refine then_ret ?_ | refine block_ret ?_)
   go_ret2
   exact⟨HR.out,(Below.refl _ _).alloc (Nat.le_refl _) _⟩
end Go.Proofs.YtbdbhdcbdfbnnaaGreatDoor
namespace Go.Proofs.YtbdbhdcbdfbnnaaGreatDoor
open Go.RowKit
set_option maxRecDepth 100000 in
set_option maxHeartbeats 1000000 in
theorem pDo_10 (a b c:Int) (ha:Cx.fits a=true) (hb:Cx.fits b=true) (hc:Cx.fits c=true) (w:World) :
  Calls Tryz.prog 57 #[.int .i64 10,.int .i64 a,.int .i64 b,.int .i64 c] w fun e w'=>e=.returned (.tuple #[.int .i64 (Cx.doV 10 a b c).1,.int .i64 (Cx.doV 10 a b c).2])∧Below w.heap.size w w':=by
 have hO:∀ W,Calls Tryz.prog 56 #[.int .i64 10] W fun e w'=>e=.returned (.int .i64 2)∧w'=W:=fun W=>pOperands_any 10 W
 have hA:∀ W,Calls Tryz.prog 55 #[.int .i64 a] W fun e w'=>e=.returned (.bool true)∧w'=W:=fun W=>by have:=pFits_any a (fits_64 ha) W;rwa [ha] at this
 have hB:∀ W,Calls Tryz.prog 55 #[.int .i64 b] W fun e w'=>e=.returned (.bool true)∧w'=W:=fun W=>by have:=pFits_any b (fits_64 hb) W;rwa [hb] at this
 have HR:Hid (Ending.returned (.tuple #[.int .i64 (Cx.trI (a==b)),.int .i64 0])=.returned (.tuple #[.int .i64 (Cx.doV 10 a b c).1,.int .i64 (Cx.doV 10 a b c).2])):=by show _=_;rfl
 clear ha hb hc
 go_enter Tryz.func57,Tryz.ntmps57
 go_wp2_with fail
 refine wp_loop_rounds 4 ?_
 rw[rounds_succ]
 go_wp2_with fail
 refine (hO _).mono ?_
 rintro e w1 ⟨rfl,rfl⟩
 go_wp2_with fail
 refine (hA _).mono ?_
 rintro e w1 ⟨rfl,rfl⟩
 go_wp2_with fail
 rw[rounds_succ]
 go_wp2_with fail
 refine (hO _).mono ?_
 rintro e w1 ⟨rfl,rfl⟩
 go_wp2_with fail
 refine (hB _).mono ?_
 rintro e w1 ⟨rfl,rfl⟩
 go_wp2_with fail
 rw[rounds_succ]
 go_wp2_with fail
 refine (hO _).mono ?_
 rintro e w1 ⟨rfl,rfl⟩
 go_wp2_with fail
 rw[rounds_succ]
 go_upto_region 8 with fail
 refine wp_region_list ?_
 generalize hX:Exit.then _ _=X
 go_wp2_with fail
 subst hX
 rename_i K3 hK3
 refine then_normal (hK3 _ _ ?_)
 refine wp_block ?_
 refine wp_seq ?_
 refine wp_block ?_
 refine wp_seq ?_
 refine wp_block ?_
 refine wp_seq ?_
 refine wp_block ?_
 refine wp_seq ?_
 refine wp_block ?_
 refine wp_seq ?_
 refine wp_block ?_
 refine wp_seq ?_
 refine wp_block ?_
 refine wp_seq ?_
 refine wp_block ?_
 refine wp_seq ?_
 refine wp_block ?_
 refine wp_seq ?_
 refine wp_block ?_
 refine wp_seq ?_
 refine wp_block ?_
 refine wp_seq ?_
 refine wp_block ?_
 refine wp_seq ?_
 refine wp_block ?_
 refine wp_seq ?_
 refine wp_block ?_
 refine wp_seq ?_
 refine wp_block ?_
 refine wp_seq ?_
 refine wp_block ?_
 refine leave_to (.exit 8) ?_
 intro K hK0
 have hK:=Lib.hid hK0
 clear hK0
 go_wp2_with fail
 refine hK.out _ _ ?_
 clear hK
 repeat (first | refine then_exit ?_ | refine inBlock_ne (by decide) ?_)
 refine inBlock_eq ?_
 refine then_normal ?_
 refine leave_to .ret ?_
 intro K hK0
 have hK:=Lib.hid hK0
 clear hK0
 go_wp2_with fail
 refine (pTruth_any _ _).mono ?_
 rintro e w1 ⟨rfl,rfl⟩
 go_wp2_with fail
 refine hK.out _ _ ?_;clear hK;repeat (first | refine then_ret ?_ | refine block_ret ?_)
 go_ret2
 exact⟨HR.out,(Below.refl _ _).alloc (Nat.le_refl _) _⟩
end Go.Proofs.YtbdbhdcbdfbnnaaGreatDoor
namespace Go.Proofs.YtbdbhdcbdfbnnaaGreatDoor
open Go.RowKit
set_option maxRecDepth 100000 in
set_option maxHeartbeats 1000000 in
theorem pDo_12 (a b c:Int) (ha:Cx.fits a=true) (hb:Cx.fits b=true) (hc:Cx.fits c=true) (w:World) :
  Calls Tryz.prog 57 #[.int .i64 12,.int .i64 a,.int .i64 b,.int .i64 c] w fun e w'=>e=.returned (.tuple #[.int .i64 (Cx.doV 12 a b c).1,.int .i64 (Cx.doV 12 a b c).2])∧Below w.heap.size w w':=by
 have hO:∀ W,Calls Tryz.prog 56 #[.int .i64 12] W fun e w'=>e=.returned (.int .i64 2)∧w'=W:=fun W=>pOperands_any 12 W
 have hA:∀ W,Calls Tryz.prog 55 #[.int .i64 a] W fun e w'=>e=.returned (.bool true)∧w'=W:=fun W=>by have:=pFits_any a (fits_64 ha) W;rwa [ha] at this
 have hB:∀ W,Calls Tryz.prog 55 #[.int .i64 b] W fun e w'=>e=.returned (.bool true)∧w'=W:=fun W=>by have:=pFits_any b (fits_64 hb) W;rwa [hb] at this
 have HR:Hid (Ending.returned (.tuple #[.int .i64 (Cx.trI (decide (a<b))),.int .i64 0])=.returned (.tuple #[.int .i64 (Cx.doV 12 a b c).1,.int .i64 (Cx.doV 12 a b c).2])):=by show _=_;rfl
 clear ha hb hc
 go_enter Tryz.func57,Tryz.ntmps57
 go_wp2_with fail
 refine wp_loop_rounds 4 ?_
 rw[rounds_succ]
 go_wp2_with fail
 refine (hO _).mono ?_
 rintro e w1 ⟨rfl,rfl⟩
 go_wp2_with fail
 refine (hA _).mono ?_
 rintro e w1 ⟨rfl,rfl⟩
 go_wp2_with fail
 rw[rounds_succ]
 go_wp2_with fail
 refine (hO _).mono ?_
 rintro e w1 ⟨rfl,rfl⟩
 go_wp2_with fail
 refine (hB _).mono ?_
 rintro e w1 ⟨rfl,rfl⟩
 go_wp2_with fail
 rw[rounds_succ]
 go_wp2_with fail
 refine (hO _).mono ?_
 rintro e w1 ⟨rfl,rfl⟩
 go_wp2_with fail
 rw[rounds_succ]
 go_upto_region 8 with fail
 refine wp_region_list ?_
 generalize hX:Exit.then _ _=X
 go_wp2_with fail
 subst hX
 rename_i K3 hK3
 refine then_normal (hK3 _ _ ?_)
 refine wp_block ?_
 refine wp_seq ?_
 refine wp_block ?_
 refine wp_seq ?_
 refine wp_block ?_
 refine wp_seq ?_
 refine wp_block ?_
 refine wp_seq ?_
 refine wp_block ?_
 refine wp_seq ?_
 refine wp_block ?_
 refine wp_seq ?_
 refine wp_block ?_
 refine wp_seq ?_
 refine wp_block ?_
 refine wp_seq ?_
 refine wp_block ?_
 refine wp_seq ?_
 refine wp_block ?_
 refine wp_seq ?_
 refine wp_block ?_
 refine wp_seq ?_
 refine wp_block ?_
 refine wp_seq ?_
 refine wp_block ?_
 refine wp_seq ?_
 refine wp_block ?_
 refine wp_seq ?_
 refine wp_block ?_
 refine wp_seq ?_
 refine wp_block ?_
 refine leave_to (.exit 10) ?_
 intro K hK0
 have hK:=Lib.hid hK0
 clear hK0
 go_wp2_with fail
 refine hK.out _ _ ?_
 clear hK
 repeat (first | refine then_exit ?_ | refine inBlock_ne (by decide) ?_)
 refine inBlock_eq ?_
 refine then_normal ?_
 refine leave_to .ret ?_
 intro K hK0
 have hK:=Lib.hid hK0
 clear hK0
 go_wp2_with fail
 refine (pTruth_any _ _).mono ?_
 rintro e w1 ⟨rfl,rfl⟩
 go_wp2_with fail
 refine hK.out _ _ ?_;clear hK;repeat (first | refine then_ret ?_ | refine block_ret ?_)
 go_ret2
 exact⟨HR.out,(Below.refl _ _).alloc (Nat.le_refl _) _⟩
end Go.Proofs.YtbdbhdcbdfbnnaaGreatDoor
