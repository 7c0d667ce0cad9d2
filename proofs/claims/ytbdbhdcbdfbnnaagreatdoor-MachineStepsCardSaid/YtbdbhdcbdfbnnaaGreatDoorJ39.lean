/- Machine: what an operator makes of its operands, by the document: the walk at one. (Printed by gen/crdo.py.) Machine: what an operator makes of its operands, by the document: the walk at one. (Printed by gen/crdo.py.) -/
import Derived.Test.YtbdbhdcbdfbnnaaGreatDoorJ18
set_option linter.unusedVariables false
set_option linter.unusedSimpArgs false
namespace Go.Proofs.YtbdbhdcbdfbnnaaGreatDoor
open Go.RowKit
set_option maxRecDepth 100000 in
set_option maxHeartbeats 1000000 in
theorem rDo_14 (a b c:Int) (ha:Cx.fits a=true) (hb:Cx.fits b=true) (hc:Cx.fits c=true) (w:World) :
  Calls Tryz.prog 58 #[.int .i64 14,.int .i64 a,.int .i64 b,.int .i64 c] w fun e w'=>e=.returned (.tuple #[.int .i64 (Cx.doV 14 a b c).1,.int .i64 (Cx.doV 14 a b c).2])∧Below w.heap.size w w':=by
 have hO:∀ W,Calls Tryz.prog 53 #[.int .i64 14] W fun e w'=>e=.returned (.int .i64 2)∧w'=W:=fun W=>rOperands_any 14 W
 have hA:∀ W,Calls Tryz.prog 54 #[.int .i64 a] W fun e w'=>e=.returned (.bool true)∧w'=W:=fun W=>by have:=rFitsC_any a W;rwa [ha] at this
 have hB:∀ W,Calls Tryz.prog 54 #[.int .i64 b] W fun e w'=>e=.returned (.bool true)∧w'=W:=fun W=>by have:=rFitsC_any b W;rwa [hb] at this
 have HR:Hid (Ending.returned (.tuple #[.int .i64 (Cx.ovr (a+b)).1,.int .i64 (Cx.ovr (a+b)).2])=.returned (.tuple #[.int .i64 (Cx.doV 14 a b c).1,.int .i64 (Cx.doV 14 a b c).2])):=by show _=_;rfl
 have hF:=fun W=>rOver_any (a+b) W
 have hw0:wrap64 (a+b)=a+b:=w64_in (by have:=fits_lim ha;have:=fits_lim hb;omega)
 clear ha hb hc
 go_enter Tryz.func58,Tryz.ntmps58
 go_wp2_with fail
 refine (hO _).mono ?_
 rintro e w1 ⟨rfl,rfl⟩
 go_wp2_with fail
 refine (hA _).mono ?_
 rintro e w1 ⟨rfl,rfl⟩
 go_wp2_with fail
 refine (hB _).mono ?_
 rintro e w1 ⟨rfl,rfl⟩
 go_wp2_with fail
 refine (hF _).mono ?_
 rintro e w1 ⟨rfl,rfl⟩
 go_wp2_with fail
 go_ret2
 exact⟨HR.out,Below.refl _ _⟩
end Go.Proofs.YtbdbhdcbdfbnnaaGreatDoor
namespace Go.Proofs.YtbdbhdcbdfbnnaaGreatDoor
open Go.RowKit
set_option maxRecDepth 100000 in
set_option maxHeartbeats 1000000 in
theorem rDo_16 (a b c:Int) (ha:Cx.fits a=true) (hb:Cx.fits b=true) (hc:Cx.fits c=true) (w:World) :
  Calls Tryz.prog 58 #[.int .i64 16,.int .i64 a,.int .i64 b,.int .i64 c] w fun e w'=>e=.returned (.tuple #[.int .i64 (Cx.doV 16 a b c).1,.int .i64 (Cx.doV 16 a b c).2])∧Below w.heap.size w w':=by
 have hO:∀ W,Calls Tryz.prog 53 #[.int .i64 16] W fun e w'=>e=.returned (.int .i64 2)∧w'=W:=fun W=>rOperands_any 16 W
 have hA:∀ W,Calls Tryz.prog 54 #[.int .i64 a] W fun e w'=>e=.returned (.bool true)∧w'=W:=fun W=>by have:=rFitsC_any a W;rwa [ha] at this
 have hB:∀ W,Calls Tryz.prog 54 #[.int .i64 b] W fun e w'=>e=.returned (.bool true)∧w'=W:=fun W=>by have:=rFitsC_any b W;rwa [hb] at this
 have HR:Hid (Ending.returned (.tuple #[.int .i64 (Cx.ovr (a * b)).1,.int .i64 (Cx.ovr (a * b)).2])=.returned (.tuple #[.int .i64 (Cx.doV 16 a b c).1,.int .i64 (Cx.doV 16 a b c).2])):=by show _=_;rfl
 have hF:=fun W=>rOver_any (a * b) W
 have hw0:wrap64 (a * b)=a * b:=w64_in (by have:=mul_lim ha hb;omega)
 clear ha hb hc
 go_enter Tryz.func58,Tryz.ntmps58
 go_wp2_with fail
 refine (hO _).mono ?_
 rintro e w1 ⟨rfl,rfl⟩
 go_wp2_with fail
 refine (hA _).mono ?_
 rintro e w1 ⟨rfl,rfl⟩
 go_wp2_with fail
 refine (hB _).mono ?_
 rintro e w1 ⟨rfl,rfl⟩
 go_wp2_with fail
 refine (hF _).mono ?_
 rintro e w1 ⟨rfl,rfl⟩
 go_wp2_with fail
 go_ret2
 exact⟨HR.out,Below.refl _ _⟩
end Go.Proofs.YtbdbhdcbdfbnnaaGreatDoor
