/- Machine: what an operator makes of its operands, by the document: the walk at one. (Printed by gen/crdo.py.) Machine: what an operator makes of its operands, by the document: the walk at one. (Printed by gen/crdo.py.) Machine: what an operator makes of its operands, by the document: the walk at one. (Printed by gen/crdo.py.) Machine: the document's Do. (Printed by gen/crdo.py.) -/
import Derived.Test.YtbdbhdcbdfbnnaaGreatDoorJ18
import Derived.Test.YtbdbhdcbdfbnnaaGreatDoorJ19
import Derived.Test.YtbdbhdcbdfbnnaaGreatDoorJ20
import Derived.Test.YtbdbhdcbdfbnnaaGreatDoorJ36
import Derived.Test.YtbdbhdcbdfbnnaaGreatDoorJ37
import Derived.Test.YtbdbhdcbdfbnnaaGreatDoorJ38
import Derived.Test.YtbdbhdcbdfbnnaaGreatDoorJ39
set_option linter.unusedVariables false
set_option linter.unusedSimpArgs false
namespace Go.Proofs.YtbdbhdcbdfbnnaaGreatDoor
open Go.RowKit
set_option maxRecDepth 100000 in
set_option maxHeartbeats 1000000 in
theorem rDo_5 (a b c:Int) (ha:Cx.fits a=true) (hb:Cx.fits b=true) (hc:Cx.fits c=true) (w:World) :
  Calls Tryz.prog 58 #[.int .i64 5,.int .i64 a,.int .i64 b,.int .i64 c] w fun e w'=>e=.returned (.tuple #[.int .i64 (Cx.doV 5 a b c).1,.int .i64 (Cx.doV 5 a b c).2])∧Below w.heap.size w w':=by
 have hO:∀ W,Calls Tryz.prog 53 #[.int .i64 5] W fun e w'=>e=.returned (.int .i64 1)∧w'=W:=fun W=>rOperands_any 5 W
 have hA:∀ W,Calls Tryz.prog 54 #[.int .i64 a] W fun e w'=>e=.returned (.bool true)∧w'=W:=fun W=>by have:=rFitsC_any a W;rwa [ha] at this
 have HR:Hid (Ending.returned (.tuple #[.int .i64 (Cx.ovr (-a)).1,.int .i64 (Cx.ovr (-a)).2])=.returned (.tuple #[.int .i64 (Cx.doV 5 a b c).1,.int .i64 (Cx.doV 5 a b c).2])):=by show _=_;rfl
 have hF:=fun W=>rOver_any (-a) W
 have hw0:wrap64 (-a) = -a:=w64_in (by have:=fits_lim ha;omega)
 clear ha hb hc
 go_enter Tryz.func58,Tryz.ntmps58
 go_wp2_with fail
 refine (hO _).mono ?_
 rintro e w1 ⟨rfl,rfl⟩
 go_wp2_with fail
 refine (hA _).mono ?_
 rintro e w1 ⟨rfl,rfl⟩
 go_wp2_with fail
 refine (hF _).mono ?_
 rintro e w1 ⟨rfl,rfl⟩
 go_wp2_with fail
 go_ret2
 exact⟨HR.out,Below.refl _ _⟩
end Go.Proofs.YtbdbhdcbdfbnnaaGreatDoor
namespace Go.Proofs.YtbdbhdcbdfbnnaaGreatDoor
open Go.RowKit
set_option maxRecDepth 100000 in
set_option maxHeartbeats 1000000 in
theorem rDo_11 (a b c:Int) (ha:Cx.fits a=true) (hb:Cx.fits b=true) (hc:Cx.fits c=true) (w:World) :
  Calls Tryz.prog 58 #[.int .i64 11,.int .i64 a,.int .i64 b,.int .i64 c] w fun e w'=>e=.returned (.tuple #[.int .i64 (Cx.doV 11 a b c).1,.int .i64 (Cx.doV 11 a b c).2])∧Below w.heap.size w w':=by
 have hO:∀ W,Calls Tryz.prog 53 #[.int .i64 11] W fun e w'=>e=.returned (.int .i64 2)∧w'=W:=fun W=>rOperands_any 11 W
 have hA:∀ W,Calls Tryz.prog 54 #[.int .i64 a] W fun e w'=>e=.returned (.bool true)∧w'=W:=fun W=>by have:=rFitsC_any a W;rwa [ha] at this
 have hB:∀ W,Calls Tryz.prog 54 #[.int .i64 b] W fun e w'=>e=.returned (.bool true)∧w'=W:=fun W=>by have:=rFitsC_any b W;rwa [hb] at this
 have HR:Hid (Ending.returned (.tuple #[.int .i64 (Cx.trI (a != b)),.int .i64 0])=.returned (.tuple #[.int .i64 (Cx.doV 11 a b c).1,.int .i64 (Cx.doV 11 a b c).2])):=by show _=_;rfl
 clear ha hb hc
 go_enter Tryz.func58,Tryz.ntmps58
 go_wp2_with fail
 refine (hO _).mono ?_
 rintro e w1 ⟨rfl,rfl⟩
 go_wp2_with fail
 refine (hA _).mono ?_
 rintro e w1 ⟨rfl,rfl⟩
 go_wp2_with fail
 refine (hB _).mono ?_
 rintro e w1 ⟨rfl,rfl⟩
 go_wp2_with fail
 refine (rTruthC_any _ _).mono ?_
 rintro e w1 ⟨rfl,rfl⟩
 go_wp2_with fail
 go_ret2
 exact⟨HR.out,Below.refl _ _⟩
end Go.Proofs.YtbdbhdcbdfbnnaaGreatDoor
namespace Go.Proofs.YtbdbhdcbdfbnnaaGreatDoor
open Go.RowKit
set_option maxRecDepth 100000 in
set_option maxHeartbeats 1000000 in
theorem rDo_17 (a b c:Int) (ha:Cx.fits a=true) (hb:Cx.fits b=true) (hc:Cx.fits c=true) (w:World) :
  Calls Tryz.prog 58 #[.int .i64 17,.int .i64 a,.int .i64 b,.int .i64 c] w fun e w'=>e=.returned (.tuple #[.int .i64 (Cx.doV 17 a b c).1,.int .i64 (Cx.doV 17 a b c).2])∧Below w.heap.size w w':=by
 have hO:∀ W,Calls Tryz.prog 53 #[.int .i64 17] W fun e w'=>e=.returned (.int .i64 2)∧w'=W:=fun W=>rOperands_any 17 W
 have hA:∀ W,Calls Tryz.prog 54 #[.int .i64 a] W fun e w'=>e=.returned (.bool true)∧w'=W:=fun W=>by have:=rFitsC_any a W;rwa [ha] at this
 have hB:∀ W,Calls Tryz.prog 54 #[.int .i64 b] W fun e w'=>e=.returned (.bool true)∧w'=W:=fun W=>by have:=rFitsC_any b W;rwa [hb] at this
 by_cases hb0:b=0
 ·subst hb0
  have HR:Hid (Ending.returned (.tuple #[.int .i64 0,.int .i64 3])=.returned (.tuple #[.int .i64 (Cx.doV 17 a 0 c).1,.int .i64 (Cx.doV 17 a 0 c).2])):=by show _=_;rfl
  clear ha hb hc
  go_enter Tryz.func58,Tryz.ntmps58
  go_wp2_with fail
  refine (hO _).mono ?_
  rintro e w1 ⟨rfl,rfl⟩
  go_wp2_with fail
  refine (hA _).mono ?_
  rintro e w1 ⟨rfl,rfl⟩
  go_wp2_with fail
  refine (hB _).mono ?_
  rintro e w1 ⟨rfl,rfl⟩
  go_wp2_with fail
  go_ret2
  exact⟨HR.out,Below.refl _ _⟩
 ·have xb1:(b != 0)=true:=by simpa using hb0
  have xb2:(b==0)=false:=by simpa using hb0
  have hP:=fun W=>parts_anyC a b ha hb hb0 W
  have la:=abs_lim ha
  have hlq:=Int.natAbs_tdiv_le_natAbs (absI a) (absI b)
  have hlm:((absI a).tmod (absI b)).natAbs≤(absI a).natAbs:=by rw[Int.natAbs_tmod];exact Nat.mod_le _ _
  have hx:=tdiv_absI a b
  by_cases h1:a<0
  ·by_cases h2:b<0
   ·have HR:Hid (Ending.returned (.tuple #[.int .i64 (Cx.ovr ((absI a).tdiv (absI b))).1,.int .i64 (Cx.ovr ((absI a).tdiv (absI b))).2])=.returned (.tuple #[.int .i64 (Cx.doV 17 a b c).1,.int .i64 (Cx.doV 17 a b c).2])):=by show _=_;simp[Cx.doV,hb0];rw[hx];simp[h1,h2]
    have hF:=fun W=>rOver_any ((absI a).tdiv (absI b)) W
    have hd:(!decide (a<0)==decide (b<0))=false:=by simp[h1,h2]
    clear ha hb hc la hlq hlm hx hb0 h1 h2
    go_enter Tryz.func58,Tryz.ntmps58
    go_wp2_with fail
    refine (hO _).mono ?_
    rintro e w1 ⟨rfl,rfl⟩
    go_wp2_with fail
    refine (hA _).mono ?_
    rintro e w1 ⟨rfl,rfl⟩
    go_wp2_with fail
    refine (hB _).mono ?_
    rintro e w1 ⟨rfl,rfl⟩
    go_wp2_with fail
    refine (hP _).mono ?_
    rintro e w1 ⟨rfl,hb1⟩
    go_wp2_with fail
    refine (hF _).mono ?_
    rintro e w2 ⟨rfl,rfl⟩
    go_wp2_with fail
    go_ret2
    exact⟨HR.out,hb1⟩
   ·have HR:Hid (Ending.returned (.tuple #[.int .i64 (Cx.ovr (-((absI a).tdiv (absI b)))).1,.int .i64 (Cx.ovr (-((absI a).tdiv (absI b)))).2])=.returned (.tuple #[.int .i64 (Cx.doV 17 a b c).1,.int .i64 (Cx.doV 17 a b c).2])):=by show _=_;simp[Cx.doV,hb0];rw[hx];simp[h1,h2]
    have hF:=fun W=>rOver_any (-((absI a).tdiv (absI b))) W
    have hw:wrap64 (-((absI a).tdiv (absI b))) = -((absI a).tdiv (absI b)):=w64_in (by omega)
    have hd:(!decide (a<0)==decide (b<0))=true:=by simp[h1,h2]
    clear ha hb hc la hlq hlm hx hb0 h1 h2
    go_enter Tryz.func58,Tryz.ntmps58
    go_wp2_with fail
    refine (hO _).mono ?_
    rintro e w1 ⟨rfl,rfl⟩
    go_wp2_with fail
    refine (hA _).mono ?_
    rintro e w1 ⟨rfl,rfl⟩
    go_wp2_with fail
    refine (hB _).mono ?_
    rintro e w1 ⟨rfl,rfl⟩
    go_wp2_with fail
    refine (hP _).mono ?_
    rintro e w1 ⟨rfl,hb1⟩
    go_wp2_with fail
    refine (hF _).mono ?_
    rintro e w2 ⟨rfl,rfl⟩
    go_wp2_with fail
    go_ret2
    exact⟨HR.out,hb1⟩
  ·by_cases h2:b<0
   ·have HR:Hid (Ending.returned (.tuple #[.int .i64 (Cx.ovr (-((absI a).tdiv (absI b)))).1,.int .i64 (Cx.ovr (-((absI a).tdiv (absI b)))).2])=.returned (.tuple #[.int .i64 (Cx.doV 17 a b c).1,.int .i64 (Cx.doV 17 a b c).2])):=by show _=_;simp[Cx.doV,hb0];rw[hx];simp[h1,h2]
    have hF:=fun W=>rOver_any (-((absI a).tdiv (absI b))) W
    have hw:wrap64 (-((absI a).tdiv (absI b))) = -((absI a).tdiv (absI b)):=w64_in (by omega)
    have hd:(!decide (a<0)==decide (b<0))=true:=by simp[h1,h2]
    clear ha hb hc la hlq hlm hx hb0 h1 h2
    go_enter Tryz.func58,Tryz.ntmps58
    go_wp2_with fail
    refine (hO _).mono ?_
    rintro e w1 ⟨rfl,rfl⟩
    go_wp2_with fail
    refine (hA _).mono ?_
    rintro e w1 ⟨rfl,rfl⟩
    go_wp2_with fail
    refine (hB _).mono ?_
    rintro e w1 ⟨rfl,rfl⟩
    go_wp2_with fail
    refine (hP _).mono ?_
    rintro e w1 ⟨rfl,hb1⟩
    go_wp2_with fail
    refine (hF _).mono ?_
    rintro e w2 ⟨rfl,rfl⟩
    go_wp2_with fail
    go_ret2
    exact⟨HR.out,hb1⟩
   ·have HR:Hid (Ending.returned (.tuple #[.int .i64 (Cx.ovr ((absI a).tdiv (absI b))).1,.int .i64 (Cx.ovr ((absI a).tdiv (absI b))).2])=.returned (.tuple #[.int .i64 (Cx.doV 17 a b c).1,.int .i64 (Cx.doV 17 a b c).2])):=by show _=_;simp[Cx.doV,hb0];rw[hx];simp[h1,h2]
    have hF:=fun W=>rOver_any ((absI a).tdiv (absI b)) W
    have hd:(!decide (a<0)==decide (b<0))=false:=by simp[h1,h2]
    clear ha hb hc la hlq hlm hx hb0 h1 h2
    go_enter Tryz.func58,Tryz.ntmps58
    go_wp2_with fail
    refine (hO _).mono ?_
    rintro e w1 ⟨rfl,rfl⟩
    go_wp2_with fail
    refine (hA _).mono ?_
    rintro e w1 ⟨rfl,rfl⟩
    go_wp2_with fail
    refine (hB _).mono ?_
    rintro e w1 ⟨rfl,rfl⟩
    go_wp2_with fail
    refine (hP _).mono ?_
    rintro e w1 ⟨rfl,hb1⟩
    go_wp2_with fail
    refine (hF _).mono ?_
    rintro e w2 ⟨rfl,rfl⟩
    go_wp2_with fail
    go_ret2
    exact⟨HR.out,hb1⟩
end Go.Proofs.YtbdbhdcbdfbnnaaGreatDoor
namespace Go.Proofs.YtbdbhdcbdfbnnaaGreatDoor
open Go.RowKit
theorem rDo_any (op a b c:Int) (h:1≤Cx.opsN op) (ha:Cx.fits a=true) (hb:Cx.fits b=true) (hc:Cx.fits c=true) (w:World) :
  Calls Tryz.prog 58 #[.int .i64 op,.int .i64 a,.int .i64 b,.int .i64 c] w fun e w'=>e=.returned (.tuple #[.int .i64 (Cx.doV op a b c).1,.int .i64 (Cx.doV op a b c).2])∧Below w.heap.size w w':=by
 have h1:op=4∨op=5∨op=6∨op=7∨op=8∨op=9∨op=10∨op=11∨op=12∨op=13∨op=14∨op=15∨op=16∨op=17∨op=18∨op=26:=by
  have:=Cx.opsN_cases op
  omega
 rcases h1 with rfl | rfl | rfl | rfl | rfl | rfl | rfl | rfl | rfl | rfl | rfl | rfl | rfl | rfl | rfl | rfl
 ·exact rDo_4 a b c ha hb hc w
 ·exact rDo_5 a b c ha hb hc w
 ·exact rDo_6 a b c ha hb hc w
 ·exact rDo_7 a b c ha hb hc w
 ·exact rDo_8 a b c ha hb hc w
 ·exact rDo_9 a b c ha hb hc w
 ·exact rDo_10 a b c ha hb hc w
 ·exact rDo_11 a b c ha hb hc w
 ·exact rDo_12 a b c ha hb hc w
 ·exact rDo_13 a b c ha hb hc w
 ·exact rDo_14 a b c ha hb hc w
 ·exact rDo_15 a b c ha hb hc w
 ·exact rDo_16 a b c ha hb hc w
 ·exact rDo_17 a b c ha hb hc w
 ·exact rDo_18 a b c ha hb hc w
 ·exact rDo_26 a b c ha hb hc w
end Go.Proofs.YtbdbhdcbdfbnnaaGreatDoor
