/- Machine: the document's numbers: size, parts: the walks. (Printed by gen/crdo.py.) Machine: what an operator makes of its operands, by the document: the walk at one. (Printed by gen/crdo.py.) Machine: what an operator makes of its operands, by the document: the walk at one. (Printed by gen/crdo.py.) Machine: what an operator makes of its operands, by the document: the walk at one. (Printed by gen/crdo.py.) Known calls: one run. -/
import Derived.Deep.QuietTactic
import Derived.Test.YtbdbhdcbdfbnnaaGreatDoorJ11
import Derived.Test.YtbdbhdcbdfbnnaaGreatDoorJ17
set_option linter.unusedVariables false
set_option linter.unusedSimpArgs false
namespace Go.Proofs.YtbdbhdcbdfbnnaaGreatDoor
open Go.RowKit
def absI (a:Int):Int:=if a<0 then -a else a
theorem size_anyC (a:Int) (ha:Cx.fits a=true) (w:World):Calls Tryz.prog 158 #[.int .i64 a] w fun e w'=>e=.returned (.int .i64 (absI a))∧w'=w:=by
 have hw:wrap64 (-a) = -a:=w64_in (by have:=fits_lim ha;omega)
 clear ha
 by_cases h:a<0
 ·have HA:Hid (absI a=wrap64 (-a)):=by show _=_;unfold absI;rw[if_pos h,hw]
  go_enter Tryz.func158,Tryz.ntmps158
  go_wp2_with fail
  go_ret
  exact⟨by rw[HA.out];rfl,rfl⟩
 ·have HA:Hid (absI a=a):=by show _=_;unfold absI;rw[if_neg h]
  go_enter Tryz.func158,Tryz.ntmps158
  go_wp2_with fail
  go_ret
  exact⟨by rw[HA.out];rfl,rfl⟩
theorem abs_lim {a:Int} (ha:Cx.fits a=true):0≤absI a∧absI a≤2147483648:=by have:=fits_lim ha;unfold absI;split <;> omega
set_option maxRecDepth 100000 in
set_option maxHeartbeats 1000000 in
theorem parts_anyC (a b:Int) (ha:Cx.fits a=true) (hb:Cx.fits b=true) (hb0:b≠0) (w:World):Calls Tryz.prog 102 #[.int .i64 a,.int .i64 b] w fun e w'=>e=.returned (.tuple #[.int .i64 ((absI a).tdiv (absI b)),.int .i64 ((absI a).tmod (absI b))])∧Below w.heap.size w w':=by
 have hA:=fun W=>size_anyC a ha W
 have hB:=fun W=>size_anyC b hb W
 have la:=abs_lim ha
 have lb:=abs_lim hb
 have lb0:absI b≠0:=by unfold absI;split <;> omega
 generalize absI a=x at hA la ⊢
 generalize absI b=y at hB lb lb0 ⊢
 have hq:wrap64 (x.tdiv y)=x.tdiv y:=w64_in (by
  have h2:=Int.natAbs_tdiv_le_natAbs x y
  omega)
 have hy:(y==0)=false:=by simpa using lb0
 have HQ:Hid (Ending.returned (.tuple #[.int .i64 (wrap64 (x.tdiv y)),.int .i64 (x.tmod y)])=.returned (.tuple #[.int .i64 (x.tdiv y),.int .i64 (x.tmod y)])):=by show _=_;rw[hq]
 clear ha hb hb0 la lb
 go_enter Tryz.func102,Tryz.ntmps102
 go_wp2_with fail
 go_quiet ((go_at_call 158;first | exact Calls.quiet_of_same (hA _) | exact Calls.quiet_of_same (hB _)))
 go_wp2_with fail
 go_ret2
 exact⟨HQ.out,below_drawn (Below.refl _ _) _⟩
theorem tmod_absI (a b:Int):a.tmod b=if a<0 then -((absI a).tmod (absI b)) else (absI a).tmod (absI b):=by
 unfold absI
 split <;> split <;> simp[Int.neg_tmod,Int.tmod_neg]
theorem tdiv_absI (a b:Int):a.tdiv b=if (decide (a<0)) != (decide (b<0)) then -((absI a).tdiv (absI b)) else (absI a).tdiv (absI b):=by
 unfold absI
 by_cases h1:a<0 <;> by_cases h2:b<0 <;> simp[h1,h2,Int.neg_tdiv,Int.tdiv_neg]
end Go.Proofs.YtbdbhdcbdfbnnaaGreatDoor
namespace Go.Proofs.YtbdbhdcbdfbnnaaGreatDoor
open Go.RowKit
set_option maxRecDepth 100000 in
set_option maxHeartbeats 1000000 in
theorem rDo_10 (a b c:Int) (ha:Cx.fits a=true) (hb:Cx.fits b=true) (hc:Cx.fits c=true) (w:World) :
  Calls Tryz.prog 58 #[.int .i64 10,.int .i64 a,.int .i64 b,.int .i64 c] w fun e w'=>e=.returned (.tuple #[.int .i64 (Cx.doV 10 a b c).1,.int .i64 (Cx.doV 10 a b c).2])∧Below w.heap.size w w':=by
 have hO:∀ W,Calls Tryz.prog 53 #[.int .i64 10] W fun e w'=>e=.returned (.int .i64 2)∧w'=W:=fun W=>rOperands_any 10 W
 have hA:∀ W,Calls Tryz.prog 54 #[.int .i64 a] W fun e w'=>e=.returned (.bool true)∧w'=W:=fun W=>by have:=rFitsC_any a W;rwa [ha] at this
 have hB:∀ W,Calls Tryz.prog 54 #[.int .i64 b] W fun e w'=>e=.returned (.bool true)∧w'=W:=fun W=>by have:=rFitsC_any b W;rwa [hb] at this
 have HR:Hid (Ending.returned (.tuple #[.int .i64 (Cx.trI (a==b)),.int .i64 0])=.returned (.tuple #[.int .i64 (Cx.doV 10 a b c).1,.int .i64 (Cx.doV 10 a b c).2])):=by show _=_;rfl
 clear ha hb hc
 go_enter Tryz.func58,Tryz.ntmps58
 go_wp2_with fail
 refine (hO _).mono ?_
 rintro e w1 ⟨rfl,rfl⟩
 go_wp2_with fail
 refine (hA _).mono ?_
 rintro e w1 ⟨rfl,rfl⟩
 go_wp2_with fail
 refine (hB _).mono ?_
 rintro e w1 ⟨rfl,rfl⟩
 go_wp2_with fail
 refine (rTruthC_any _ _).mono ?_
 rintro e w1 ⟨rfl,rfl⟩
 go_wp2_with fail
 go_ret2
 exact⟨HR.out,Below.refl _ _⟩
end Go.Proofs.YtbdbhdcbdfbnnaaGreatDoor
namespace Go.Proofs.YtbdbhdcbdfbnnaaGreatDoor
open Go.RowKit
set_option maxRecDepth 100000 in
set_option maxHeartbeats 1000000 in
theorem rDo_12 (a b c:Int) (ha:Cx.fits a=true) (hb:Cx.fits b=true) (hc:Cx.fits c=true) (w:World) :
  Calls Tryz.prog 58 #[.int .i64 12,.int .i64 a,.int .i64 b,.int .i64 c] w fun e w'=>e=.returned (.tuple #[.int .i64 (Cx.doV 12 a b c).1,.int .i64 (Cx.doV 12 a b c).2])∧Below w.heap.size w w':=by
 have hO:∀ W,Calls Tryz.prog 53 #[.int .i64 12] W fun e w'=>e=.returned (.int .i64 2)∧w'=W:=fun W=>rOperands_any 12 W
 have hA:∀ W,Calls Tryz.prog 54 #[.int .i64 a] W fun e w'=>e=.returned (.bool true)∧w'=W:=fun W=>by have:=rFitsC_any a W;rwa [ha] at this
 have hB:∀ W,Calls Tryz.prog 54 #[.int .i64 b] W fun e w'=>e=.returned (.bool true)∧w'=W:=fun W=>by have:=rFitsC_any b W;rwa [hb] at this
 have HR:Hid (Ending.returned (.tuple #[.int .i64 (Cx.trI (decide (a<b))),.int .i64 0])=.returned (.tuple #[.int .i64 (Cx.doV 12 a b c).1,.int .i64 (Cx.doV 12 a b c).2])):=by show _=_;rfl
 clear ha hb hc
 go_enter Tryz.func58,Tryz.ntmps58
 go_wp2_with fail
 refine (hO _).mono ?_
 rintro e w1 ⟨rfl,rfl⟩
 go_wp2_with fail
 refine (hA _).mono ?_
 rintro e w1 ⟨rfl,rfl⟩
 go_wp2_with fail
 refine (hB _).mono ?_
 rintro e w1 ⟨rfl,rfl⟩
 go_wp2_with fail
 refine (rTruthC_any _ _).mono ?_
 rintro e w1 ⟨rfl,rfl⟩
 go_wp2_with fail
 go_ret2
 exact⟨HR.out,Below.refl _ _⟩
end Go.Proofs.YtbdbhdcbdfbnnaaGreatDoor
namespace Go.Proofs.YtbdbhdcbdfbnnaaGreatDoor
open Go.RowKit
set_option maxRecDepth 100000 in
set_option maxHeartbeats 1000000 in
theorem rDo_13 (a b c:Int) (ha:Cx.fits a=true) (hb:Cx.fits b=true) (hc:Cx.fits c=true) (w:World) :
  Calls Tryz.prog 58 #[.int .i64 13,.int .i64 a,.int .i64 b,.int .i64 c] w fun e w'=>e=.returned (.tuple #[.int .i64 (Cx.doV 13 a b c).1,.int .i64 (Cx.doV 13 a b c).2])∧Below w.heap.size w w':=by
 have hO:∀ W,Calls Tryz.prog 53 #[.int .i64 13] W fun e w'=>e=.returned (.int .i64 2)∧w'=W:=fun W=>rOperands_any 13 W
 have hA:∀ W,Calls Tryz.prog 54 #[.int .i64 a] W fun e w'=>e=.returned (.bool true)∧w'=W:=fun W=>by have:=rFitsC_any a W;rwa [ha] at this
 have hB:∀ W,Calls Tryz.prog 54 #[.int .i64 b] W fun e w'=>e=.returned (.bool true)∧w'=W:=fun W=>by have:=rFitsC_any b W;rwa [hb] at this
 have HR:Hid (Ending.returned (.tuple #[.int .i64 (Cx.trI (decide (a≤b))),.int .i64 0])=.returned (.tuple #[.int .i64 (Cx.doV 13 a b c).1,.int .i64 (Cx.doV 13 a b c).2])):=by show _=_;rfl
 clear ha hb hc
 go_enter Tryz.func58,Tryz.ntmps58
 go_wp2_with fail
 refine (hO _).mono ?_
 rintro e w1 ⟨rfl,rfl⟩
 go_wp2_with fail
 refine (hA _).mono ?_
 rintro e w1 ⟨rfl,rfl⟩
 go_wp2_with fail
 refine (hB _).mono ?_
 rintro e w1 ⟨rfl,rfl⟩
 go_wp2_with fail
 refine (rTruthC_any _ _).mono ?_
 rintro e w1 ⟨rfl,rfl⟩
 go_wp2_with fail
 go_ret2
 exact⟨HR.out,Below.refl _ _⟩
end Go.Proofs.YtbdbhdcbdfbnnaaGreatDoor
set_option maxRecDepth 100000
namespace Go.Proofs.YtbdbhdcbdfbnnaaGreatDoor.Ev
theorem kn26_run:runOk (ev (hookOr kret (hookOf [kn25,kn24,kn23,kn22,kn21,kn20,kn19,kn18,kn17,kn16,kn15,kn14,kn13,kn12,kn11,kn10,kn9,kn8,kn7,kn6,kn5,kn4,kn3,kn2,kn1])) Tryz.prog 100000 (.call kn26.f kn26.args) .leaf 0 (mkH kn26.S) kn26.nx) kn26.v kn26.S' kn26.nx'=true:=by kernel_rfl
end Go.Proofs.YtbdbhdcbdfbnnaaGreatDoor.Ev
