/- Machine: what an operator makes of its operands, by the document: the walk at one. (Printed by gen/crdo.py.) Machine: what an operator makes of its operands, by the document: the walk at one. (Printed by gen/crdo.py.) -/
import Derived.Test.YtbdbhdcbdfbnnaaGreatDoorJ18
set_option linter.unusedVariables false
set_option linter.unusedSimpArgs false
namespace Go.Proofs.YtbdbhdcbdfbnnaaGreatDoor
open Go.RowKit
set_option maxRecDepth 100000 in
set_option maxHeartbeats 1000000 in
theorem rDo_7 (a b c:Int) (ha:Cx.fits a=true) (hb:Cx.fits b=true) (hc:Cx.fits c=true) (w:World) :
  Calls Tryz.prog 58 #[.int .i64 7,.int .i64 a,.int .i64 b,.int .i64 c] w fun e w'=>e=.returned (.tuple #[.int .i64 (Cx.doV 7 a b c).1,.int .i64 (Cx.doV 7 a b c).2])∧Below w.heap.size w w':=by
 have hO:∀ W,Calls Tryz.prog 53 #[.int .i64 7] W fun e w'=>e=.returned (.int .i64 2)∧w'=W:=fun W=>rOperands_any 7 W
 have hA:∀ W,Calls Tryz.prog 54 #[.int .i64 a] W fun e w'=>e=.returned (.bool true)∧w'=W:=fun W=>by have:=rFitsC_any a W;rwa [ha] at this
 have hB:∀ W,Calls Tryz.prog 54 #[.int .i64 b] W fun e w'=>e=.returned (.bool true)∧w'=W:=fun W=>by have:=rFitsC_any b W;rwa [hb] at this
 by_cases ha0:a=0
 ·subst ha0
  by_cases hb0:b=0
  ·subst hb0
   have HR:Hid (Ending.returned (.tuple #[.int .i64 (Cx.trI false),.int .i64 0])=.returned (.tuple #[.int .i64 (Cx.doV 7 0 0 c).1,.int .i64 (Cx.doV 7 0 0 c).2])):=by show _=_;simp[Cx.doV]
   clear ha hb hc
   go_enter Tryz.func58,Tryz.ntmps58
   go_wp2_with fail
   refine (hO _).mono ?_
   rintro e w1 ⟨rfl,rfl⟩
   go_wp2_with fail
   refine (hA _).mono ?_
   rintro e w1 ⟨rfl,rfl⟩
   go_wp2_with fail
   refine (hB _).mono ?_
   rintro e w1 ⟨rfl,rfl⟩
   go_wp2_with fail
   refine (rTruthC_any _ _).mono ?_
   rintro e w1 ⟨rfl,rfl⟩
   go_wp2_with fail
   go_ret2
   exact⟨HR.out,Below.refl _ _⟩
  ·have xb1:(b != 0)=true:=by simpa using hb0
   have xb2:(b==0)=false:=by simpa using hb0
   have HR:Hid (Ending.returned (.tuple #[.int .i64 (Cx.trI true),.int .i64 0])=.returned (.tuple #[.int .i64 (Cx.doV 7 0 b c).1,.int .i64 (Cx.doV 7 0 b c).2])):=by show _=_;simp[Cx.doV,xb1,xb2]
   clear ha hb hc hb0
   go_enter Tryz.func58,Tryz.ntmps58
   go_wp2_with fail
   refine (hO _).mono ?_
   rintro e w1 ⟨rfl,rfl⟩
   go_wp2_with fail
   refine (hA _).mono ?_
   rintro e w1 ⟨rfl,rfl⟩
   go_wp2_with fail
   refine (hB _).mono ?_
   rintro e w1 ⟨rfl,rfl⟩
   go_wp2_with fail
   refine (rTruthC_any _ _).mono ?_
   rintro e w1 ⟨rfl,rfl⟩
   go_wp2_with fail
   go_ret2
   exact⟨HR.out,Below.refl _ _⟩
 ·have xa1:(a != 0)=true:=by simpa using ha0
  have xa2:(a==0)=false:=by simpa using ha0
  by_cases hb0:b=0
  ·subst hb0
   have HR:Hid (Ending.returned (.tuple #[.int .i64 (Cx.trI true),.int .i64 0])=.returned (.tuple #[.int .i64 (Cx.doV 7 a 0 c).1,.int .i64 (Cx.doV 7 a 0 c).2])):=by show _=_;simp[Cx.doV,xa1,xa2]
   clear ha hb hc ha0
   go_enter Tryz.func58,Tryz.ntmps58
   go_wp2_with fail
   refine (hO _).mono ?_
   rintro e w1 ⟨rfl,rfl⟩
   go_wp2_with fail
   refine (hA _).mono ?_
   rintro e w1 ⟨rfl,rfl⟩
   go_wp2_with fail
   refine (hB _).mono ?_
   rintro e w1 ⟨rfl,rfl⟩
   go_wp2_with fail
   refine (rTruthC_any _ _).mono ?_
   rintro e w1 ⟨rfl,rfl⟩
   go_wp2_with fail
   go_ret2
   exact⟨HR.out,Below.refl _ _⟩
  ·have xb1:(b != 0)=true:=by simpa using hb0
   have xb2:(b==0)=false:=by simpa using hb0
   have HR:Hid (Ending.returned (.tuple #[.int .i64 (Cx.trI true),.int .i64 0])=.returned (.tuple #[.int .i64 (Cx.doV 7 a b c).1,.int .i64 (Cx.doV 7 a b c).2])):=by show _=_;simp[Cx.doV,xa1,xa2,xb1,xb2]
   clear ha hb hc ha0 hb0
   go_enter Tryz.func58,Tryz.ntmps58
   go_wp2_with fail
   refine (hO _).mono ?_
   rintro e w1 ⟨rfl,rfl⟩
   go_wp2_with fail
   refine (hA _).mono ?_
   rintro e w1 ⟨rfl,rfl⟩
   go_wp2_with fail
   refine (hB _).mono ?_
   rintro e w1 ⟨rfl,rfl⟩
   go_wp2_with fail
   refine (rTruthC_any _ _).mono ?_
   rintro e w1 ⟨rfl,rfl⟩
   go_wp2_with fail
   go_ret2
   exact⟨HR.out,Below.refl _ _⟩
end Go.Proofs.YtbdbhdcbdfbnnaaGreatDoor
namespace Go.Proofs.YtbdbhdcbdfbnnaaGreatDoor
open Go.RowKit
set_option maxRecDepth 100000 in
set_option maxHeartbeats 1000000 in
theorem rDo_9 (a b c:Int) (ha:Cx.fits a=true) (hb:Cx.fits b=true) (hc:Cx.fits c=true) (w:World) :
  Calls Tryz.prog 58 #[.int .i64 9,.int .i64 a,.int .i64 b,.int .i64 c] w fun e w'=>e=.returned (.tuple #[.int .i64 (Cx.doV 9 a b c).1,.int .i64 (Cx.doV 9 a b c).2])∧Below w.heap.size w w':=by
 have hO:∀ W,Calls Tryz.prog 53 #[.int .i64 9] W fun e w'=>e=.returned (.int .i64 2)∧w'=W:=fun W=>rOperands_any 9 W
 have hA:∀ W,Calls Tryz.prog 54 #[.int .i64 a] W fun e w'=>e=.returned (.bool true)∧w'=W:=fun W=>by have:=rFitsC_any a W;rwa [ha] at this
 have hB:∀ W,Calls Tryz.prog 54 #[.int .i64 b] W fun e w'=>e=.returned (.bool true)∧w'=W:=fun W=>by have:=rFitsC_any b W;rwa [hb] at this
 by_cases ha0:a=0
 ·subst ha0
  by_cases hb0:b=0
  ·subst hb0
   have HR:Hid (Ending.returned (.tuple #[.int .i64 (Cx.trI true),.int .i64 0])=.returned (.tuple #[.int .i64 (Cx.doV 9 0 0 c).1,.int .i64 (Cx.doV 9 0 0 c).2])):=by show _=_;simp[Cx.doV]
   clear ha hb hc
   go_enter Tryz.func58,Tryz.ntmps58
   go_wp2_with fail
   refine (hO _).mono ?_
   rintro e w1 ⟨rfl,rfl⟩
   go_wp2_with fail
   refine (hA _).mono ?_
   rintro e w1 ⟨rfl,rfl⟩
   go_wp2_with fail
   refine (hB _).mono ?_
   rintro e w1 ⟨rfl,rfl⟩
   go_wp2_with fail
   refine (rTruthC_any _ _).mono ?_
   rintro e w1 ⟨rfl,rfl⟩
   go_wp2_with fail
   go_ret2
   exact⟨HR.out,Below.refl _ _⟩
  ·have xb1:(b != 0)=true:=by simpa using hb0
   have xb2:(b==0)=false:=by simpa using hb0
   have HR:Hid (Ending.returned (.tuple #[.int .i64 (Cx.trI true),.int .i64 0])=.returned (.tuple #[.int .i64 (Cx.doV 9 0 b c).1,.int .i64 (Cx.doV 9 0 b c).2])):=by show _=_;simp[Cx.doV,xb1,xb2]
   clear ha hb hc hb0
   go_enter Tryz.func58,Tryz.ntmps58
   go_wp2_with fail
   refine (hO _).mono ?_
   rintro e w1 ⟨rfl,rfl⟩
   go_wp2_with fail
   refine (hA _).mono ?_
   rintro e w1 ⟨rfl,rfl⟩
   go_wp2_with fail
   refine (hB _).mono ?_
   rintro e w1 ⟨rfl,rfl⟩
   go_wp2_with fail
   refine (rTruthC_any _ _).mono ?_
   rintro e w1 ⟨rfl,rfl⟩
   go_wp2_with fail
   go_ret2
   exact⟨HR.out,Below.refl _ _⟩
 ·have xa1:(a != 0)=true:=by simpa using ha0
  have xa2:(a==0)=false:=by simpa using ha0
  by_cases hb0:b=0
  ·subst hb0
   have HR:Hid (Ending.returned (.tuple #[.int .i64 (Cx.trI false),.int .i64 0])=.returned (.tuple #[.int .i64 (Cx.doV 9 a 0 c).1,.int .i64 (Cx.doV 9 a 0 c).2])):=by show _=_;simp[Cx.doV,xa1,xa2]
   clear ha hb hc ha0
   go_enter Tryz.func58,Tryz.ntmps58
   go_wp2_with fail
   refine (hO _).mono ?_
   rintro e w1 ⟨rfl,rfl⟩
   go_wp2_with fail
   refine (hA _).mono ?_
   rintro e w1 ⟨rfl,rfl⟩
   go_wp2_with fail
   refine (hB _).mono ?_
   rintro e w1 ⟨rfl,rfl⟩
   go_wp2_with fail
   refine (rTruthC_any _ _).mono ?_
   rintro e w1 ⟨rfl,rfl⟩
   go_wp2_with fail
   go_ret2
   exact⟨HR.out,Below.refl _ _⟩
  ·have xb1:(b != 0)=true:=by simpa using hb0
   have xb2:(b==0)=false:=by simpa using hb0
   have HR:Hid (Ending.returned (.tuple #[.int .i64 (Cx.trI true),.int .i64 0])=.returned (.tuple #[.int .i64 (Cx.doV 9 a b c).1,.int .i64 (Cx.doV 9 a b c).2])):=by show _=_;simp[Cx.doV,xa1,xa2,xb1,xb2]
   clear ha hb hc ha0 hb0
   go_enter Tryz.func58,Tryz.ntmps58
   go_wp2_with fail
   refine (hO _).mono ?_
   rintro e w1 ⟨rfl,rfl⟩
   go_wp2_with fail
   refine (hA _).mono ?_
   rintro e w1 ⟨rfl,rfl⟩
   go_wp2_with fail
   refine (hB _).mono ?_
   rintro e w1 ⟨rfl,rfl⟩
   go_wp2_with fail
   refine (rTruthC_any _ _).mono ?_
   rintro e w1 ⟨rfl,rfl⟩
   go_wp2_with fail
   go_ret2
   exact⟨HR.out,Below.refl _ _⟩
end Go.Proofs.YtbdbhdcbdfbnnaaGreatDoor
