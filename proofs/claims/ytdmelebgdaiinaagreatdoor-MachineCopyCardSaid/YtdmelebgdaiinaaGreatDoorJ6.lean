/- Machine: numbers: the walks. Machine: what an operator makes of its operands, by the program: what the walks want. (Printed by gen/cdo.py.) Machine: a machine in memory; the numbers of inputs: the walks. Machine: what an instruction makes, by the program, where it is no operator of numbers: the walk. Machine: what an operator makes of its operands, by the program: the walk at one. (Printed by gen/cdo.py.) Machine: plain mathematics: registers hold numbers that fit. -/
import Derived.Lib.Hide
import Derived.LoopN
import Derived.Deep.Cut
import Derived.Deep.QuietTactic
import Derived.Test.YtdmelebgdaiinaaGreatDoorJ5
set_option linter.unusedVariables false
set_option linter.unusedSimpArgs false
namespace Go.Proofs.YtdmelebgdaiinaaGreatDoor
open Go.RowKit
theorem wrap_fitsC {n:Int} (h : -9223372036854775808≤n∧n≤9223372036854775807):(wrap64 (RowKit.wrap32 n)==n)=Cx.fits n:=by
 unfold Cx.fits wrap64 RowKit.wrap32
 rw[Bool.eq_iff_iff]
 simp only[beq_iff_eq,decide_eq_true_eq]
 omega
theorem pFits_any (n:Int) (h : -9223372036854775808≤n∧n≤9223372036854775807) (w:World):Calls Tryz.prog 59 #[.int .i64 n] w fun e w'=>e=.returned (.bool (Cx.fits n))∧w'=w:=by
 go_enter Tryz.func59,Tryz.ntmps59
 go_wp2_with fail
 go_ret
 exact⟨ret_bool (wrap_fitsC h),rfl⟩
theorem pOperands_any (op:Int) (w:World):Calls Tryz.prog 60 #[.int .i64 op] w fun e w'=>e=.returned (.int .i64 (Cx.opsN op))∧w'=w:=by
 go_enter Tryz.func60,Tryz.ntmps60
 go_wp2_with fail
 all_goals
  go_ret
  refine⟨?_,rfl⟩
  congr 2
  unfold Cx.opsN
  repeat' split
  all_goals simp_all
  all_goals omega
theorem pTruth_any (b:Bool) (w:World):Calls Tryz.prog 102 #[.bool b] w fun e w'=>e=.returned (.tuple #[.int .i64 (Cx.trI b),.int .i64 0])∧w'=w:=by
 cases b
 all_goals
  go_enter Tryz.func102,Tryz.ntmps102
  go_wp2_with fail
  go_ret2
  exact⟨rfl,rfl⟩
theorem pFit_any (n:Int) (h : -9223372036854775808≤n∧n≤9223372036854775807) (w:World):Calls Tryz.prog 103 #[.int .i64 n] w fun e w'=>e=.returned (.tuple #[.int .i64 (Cx.ovr n).1,.int .i64 (Cx.ovr n).2])∧w'=w:=by
 have hf:=pFits_any n h w
 unfold Cx.ovr
 cases hb:Cx.fits n
 all_goals
  rw[hb] at hf
  have HB:=Lib.hid hb
  clear hb
  go_enter Tryz.func103,Tryz.ntmps103
  go_wp2_with fail
  refine hf.mono ?_
  rintro e w1 ⟨rfl,rfl⟩
  go_wp2_with fail
  go_ret2
  exact⟨rfl,rfl⟩
end Go.Proofs.YtdmelebgdaiinaaGreatDoor
namespace Go.Proofs.YtdmelebgdaiinaaGreatDoor
open Go.RowKit
theorem fits_lim {n:Int} (h:Cx.fits n=true) : -2147483648≤n∧n≤2147483647:=by simpa [Cx.fits] using h
theorem fits_64 {n:Int} (h:Cx.fits n=true) : -9223372036854775808≤n∧n≤9223372036854775807:=by have:=fits_lim h;omega
theorem mul_lim {a b:Int} (ha:Cx.fits a=true) (hb:Cx.fits b=true) : -4611686018427387904≤a * b∧a * b≤4611686018427387904:=by
 have h1:=fits_lim ha
 have h2:=fits_lim hb
 have h3:(a * b).natAbs≤2147483648 * 2147483648:=by
  rw[Int.natAbs_mul]
  exact Nat.mul_le_mul (by omega) (by omega)
 omega
theorem doS_fits {op a b c:Int} (ha:Cx.fits a=true) (hb:Cx.fits b=true) (hc:Cx.fits c=true):Cx.doS op a b c=Cx.doV op a b c:=by
 unfold Cx.doS;rw[if_pos ⟨ha,fun _=>hb,fun _=>hc⟩]
theorem then_exit {K:Act→World→Prop} {Q:Exit→Act→World→Prop} {j:Nat} {a:Act} {w:World} (h:Q (.exit j) a w):Exit.then K Q (.exit j) a w:=h
theorem inBlock_ne {Q:Exit→Act→World→Prop} {id j:Nat} {a:Act} {w:World} (hj:j≠id) (h:Q (.exit j) a w):Exit.inBlock id Q (.exit j) a w:=by
 unfold Exit.inBlock;dsimp only;rw[if_neg hj];exact h
theorem inBlock_eq {Q:Exit→Act→World→Prop} {id:Nat} {a:Act} {w:World} (h:Q .normal a w):Exit.inBlock id Q (.exit id) a w:=by
 unfold Exit.inBlock;dsimp only;rw[if_pos rfl];exact h
theorem then_normal {K:Act→World→Prop} {Q:Exit→Act→World→Prop} {a:Act} {w:World} (h:K a w):Exit.then K Q .normal a w:=h
theorem then_ret {K:Act→World→Prop} {Q:Exit→Act→World→Prop} {a:Act} {w:World} (h:Q .ret a w):Exit.then K Q .ret a w:=h
theorem block_ret {Q:Exit→Act→World→Prop} {id:Nat} {a:Act} {w:World} (h:Q .ret a w):Exit.inBlock id Q .ret a w:=h
theorem block_normal {Q:Exit→Act→World→Prop} {id:Nat} {a:Act} {w:World} (h:Q .normal a w):Exit.inBlock id Q .normal a w:=h
theorem leave_to (x:Exit) {P:Program} {c:Code} {Q:Exit→Act→World→Prop} {a:Act} {w:World} (h:∀ K:Act→World→Prop,(∀ a w,Q x a w→K a w)→c.wp P (fun e a w=>e=x∧K a w) a w):c.wp P Q a w :=
 Code.wp_mono (fun e a w q=>by obtain⟨rfl,q⟩:=q;exact q) (h (fun a w=>Q x a w) fun _ _ q=>q)
theorem w64_in {n:Int} (h : -9223372036854775808≤n∧n≤9223372036854775807):wrap64 n=n:=by unfold wrap64;omega
end Go.Proofs.YtdmelebgdaiinaaGreatDoor
namespace Go.Proofs.YtdmelebgdaiinaaGreatDoor
open Go.RowKit
structure MachAt (w:World) (M:List Nat) (mb rb:Nat) (c:Cx.Co) (m:Cx.Ms):Prop where
 ex:∃ vi vo vn vr vs r,Blk w mb #[vi,.int .i64 c.regs,.int .i64 c.slots,vo,vn,vr,vs,.int .i64 m.steps,.int .i64 m.f] 75∧SlN Cx.inL 6 M w vi c.ins∧SlN intC 1 M w vo c.outs∧SlN intC 1 M w vn c.inputs∧RegsL w rb 0 vr r∧r.length=c.regs.toNat∧SlN intC 1 M w vs m.sl
 hb:mb∈M
 hr:rb∈M
 ne:c.regs≠0→rb≠mb
namespace Cx
def okF (inputs inp:List Int) (i:Nat):Bool:=fits (inp.getD i 0)&&(!(inputs.getD i 0==1) || inp.getD i 0==0 || inp.getD i 0==1)
theorem frameS_is (inputs inp:List Int):frameS inputs inp=(decide (inp.length=inputs.length)&&(List.range inp.length).all (okF inputs inp)):=rfl
theorem frameS_len {inputs inp:List Int} (h:inp.length≠inputs.length):frameS inputs inp=false:=by simp[frameS,h]
theorem frameS_bad {inputs inp:List Int} {i:Nat} (hi:i<inp.length) (h:okF inputs inp i=false):frameS inputs inp=false:=by
 rw[frameS_is]
 have:(List.range inp.length).all (okF inputs inp)=false:=by
  rw[List.all_eq_false]
  exact⟨i,List.mem_range.2 hi,by rw[h];decide⟩
 rw[this,Bool.and_false]
theorem frameS_all {inputs inp:List Int} (hl:inp.length=inputs.length) (h:∀ i,i<inp.length→okF inputs inp i=true):frameS inputs inp=true:=by
 rw[frameS_is,Bool.and_eq_true,decide_eq_true_eq]
 exact⟨hl,List.all_eq_true.2 fun i hi=>h i (List.mem_range.1 hi)⟩
theorem okF_at {inputs inp:List Int} {i:Nat} {x t:Int} (hx:inp[i]?=some x) (ht:inputs[i]?=some t):okF inputs inp i=(fits x&&(!(t==1) || x==0 || x==1)):=by
 unfold okF
 rw[List.getD_eq_getElem?_getD,List.getD_eq_getElem?_getD,hx,ht];rfl
end Cx
set_option maxRecDepth 100000 in
set_option maxHeartbeats 1000000 in
theorem isFrame_any {w:World} {M:List Nat} {mb rb:Nat} {c:Cx.Co} {m:Cx.Ms} (h:MachAt w M mb rb c m) (inp:List Int) (vi:Value) (hin:Sl intC 1 w vi inp) (h64:∀ n∈inp,-9223372036854775808≤n∧n≤9223372036854775807) (hl:inp.length≤1000000) :
  Calls Tryz.prog 31 #[.pointer (some ⟨mb,0,none⟩),vi] w fun e w'=>e=.returned (.bool (Cx.frameS c.inputs inp))∧w'=w:=by
 obtain⟨_,_,vn,_,_,_,k1,-,-,k4,-,-,-⟩:=h.ex
 obtain⟨ia,ic,rfl,hic,hix⟩:=hin.form
 obtain⟨na,nc,rfl,hnc,hnx⟩:=k4.sl.form
 have c4:w.cell? ⟨mb,4,none⟩=some (.slice na c.inputs.length nc):=k1.c rfl
 clear h hin k1 k4
 by_cases hlen:inp.length=c.inputs.length
 ·obtain⟨n,hn⟩ : ∃ n,n=inp.length:=⟨_,rfl⟩
  rw[← hlen,← hn] at c4 hnc
  rw[← hn] at hic hl ⊢
  have HN:=Lib.hid hn
  have HL:=Lib.hid hlen
  have HI:=Lib.hid hix
  have HX:=Lib.hid hnx
  have H64:=Lib.hid h64
  clear hn hlen hix hnx h64
  go_enter Tryz.func31,Tryz.ntmps31
  go_wp2_with fail
  go_loopw [18] (fun iv wr=>∃ k:Nat,iv=.int .i64 k∧k≤n∧wr=w∧∀ j,j<k→Cx.okF c.inputs inp j=true) (fun iv _=>n - (intOf iv).toNat)
  case atStart=>exact⟨0,rfl,Nat.zero_le _,rfl,fun j hj=>by omega⟩
  case round =>
   obtain⟨k,rfl,hk,hw,hok⟩:=hrel
   subst hw
   have hk0:(0:Int)≤(k:Int):=by omega
   by_cases hlt:k<n
   ·obtain⟨x,hx⟩ : ∃ x,inp[k]?=some x:=⟨_,List.getElem?_eq_getElem (by have:=HN.out;omega)⟩
    obtain⟨t,ht⟩ : ∃ t,c.inputs[k]?=some t:=⟨_,List.getElem?_eq_getElem (by have:=HN.out;have:=HL.out;omega)⟩
    obtain⟨b1,o1,rfl,g1⟩:=HI.out _ (Below.refl _ _) k x hx
    obtain⟨b2,o2,rfl,g2⟩:=HX.out _ (Below.refl _ _) k t ht
    have cx:=g1 0 _ rfl
    have ct:=g2 0 _ rfl
    simp only[Nat.mul_one,Nat.add_zero] at cx ct
    have hkn:(k:Int)<(n:Int):=by omega
    have hfit:=pFits_any x (H64.out x (List.mem_of_getElem? hx)) wr
    have HOK:=Lib.hid (Cx.okF_at hx ht)
    have HPR:=Lib.hid hok
    clear g1 g2 hx ht hok
    cases hf:Cx.fits x
    ·rw[hf] at hfit
     have HR:Hid (Cx.frameS c.inputs inp=false):=by show _=_;exact Cx.frameS_bad (by rw[← HN.out];exact hlt) (by rw[HOK.out,hf];rfl)
     clear hf
     go_wp2_with fail
     refine hfit.mono ?_
     rintro e w1 ⟨rfl,rfl⟩
     go_wp2_with fail
     go_ret
     exact⟨by rw[HR.out];rfl,rfl⟩
    ·rw[hf] at hfit
     by_cases ht1:t=1
     ·subst ht1
      by_cases hx0:x=0
      ·subst hx0
       have HK:Hid (Cx.okF c.inputs inp k=true):=by show _=_;rw[HOK.out,hf];rfl
       clear hf
       go_wp2_with fail
       refine hfit.mono ?_
       rintro e w1 ⟨rfl,rfl⟩
       go_wp2_with fail
       go_roundw
       case rel=>exact⟨k+1,by go_num,by omega,by trivial,fun j hj=>by
        by_cases e:j=k
        ·subst e;exact HK.out
        ·exact HPR.out j (by omega)⟩
       case measure=>simp[intOf];omega
      ·by_cases hx1:x=1
       ·subst hx1
        have HK:Hid (Cx.okF c.inputs inp k=true):=by show _=_;rw[HOK.out,hf];rfl
        clear hf hx0
        go_wp2_with fail
        refine hfit.mono ?_
        rintro e w1 ⟨rfl,rfl⟩
        go_wp2_with fail
        go_roundw
        case rel=>exact⟨k+1,by go_num,by omega,by trivial,fun j hj=>by
         by_cases e:j=k
         ·subst e;exact HK.out
         ·exact HPR.out j (by omega)⟩
        case measure=>simp[intOf];omega
       ·have x0:(x != 0)=true:=by simpa using hx0
        have x1:(x != 1)=true:=by simpa using hx1
        have HR:Hid (Cx.frameS c.inputs inp=false):=by show _=_;exact Cx.frameS_bad (by rw[← HN.out];exact hlt) (by rw[HOK.out,hf];simp[hx0,hx1])
        clear hf hx0 hx1
        go_wp2_with fail
        refine hfit.mono ?_
        rintro e w1 ⟨rfl,rfl⟩
        go_wp2_with fail
        go_ret
        exact⟨by rw[HR.out];rfl,rfl⟩
     ·have t1:(t==1)=false:=by simpa using ht1
      have HK:Hid (Cx.okF c.inputs inp k=true):=by show _=_;rw[HOK.out,hf,t1];rfl
      clear hf ht1
      go_wp2_with fail
      refine hfit.mono ?_
      rintro e w1 ⟨rfl,rfl⟩
      go_wp2_with fail
      go_roundw
      case rel=>exact⟨k+1,by go_num,by omega,by trivial,fun j hj=>by
       by_cases e:j=k
       ·subst e;exact HK.out
       ·exact HPR.out j (by omega)⟩
      case measure=>simp[intOf];omega
   ·have hke:k=n:=by omega
    subst hke
    have HR:Hid (Cx.frameS c.inputs inp=true):=by show _=_;exact Cx.frameS_all HL.out (by rw[← HN.out];exact hok)
    clear hok
    go_wp2_with fail
    go_ret
    exact⟨by rw[HR.out];rfl,rfl⟩
 ·have hne:((inp.length:Int) != (c.inputs.length:Int))=true:=by simp;omega
  have HR:Hid (Cx.frameS c.inputs inp=false):=Cx.frameS_len hlen
  clear hix hnx h64
  go_enter Tryz.func31,Tryz.ntmps31
  go_wp2_with fail
  go_ret
  exact⟨by rw[HR.out];rfl,rfl⟩
end Go.Proofs.YtdmelebgdaiinaaGreatDoor
namespace Go.Proofs.YtdmelebgdaiinaaGreatDoor
open Go.RowKit
theorem getD_of {l:List Int} {k:Nat} {x:Int} (h:l[k]?=some x):l.getD k 0=x:=by rw[List.getD_eq_getElem?_getD,h];rfl
structure DoAt (w:World) (mb rb:Nat) (r sl inp:List Int) (steps:Int) (vin:Value):Prop where
 ex:∃ vi vo vn vr vs rg sg f,Blk w mb #[vi,.int .i64 rg,.int .i64 sg,vo,vn,vr,vs,.int .i64 steps,.int .i64 f] 75∧RegsL w rb 0 vr r∧Sl intC 1 w vs sl
 inp:Sl intC 1 w vin inp
set_option maxRecDepth 100000 in
set_option maxHeartbeats 1000000 in
theorem do_early {w:World} {mb rb:Nat} {r sl inp:List Int} {steps:Int} {vin:Value} (h:DoAt w mb rb r sl inp steps vin) (x:Cx.In) (hx:Cx.InOk r.length sl.length inp.length x) (he:x.op=3∨x.op=1∨x.op=2∨x.op=21∨x.op=19) :
  Calls Tryz.prog 32 #[.pointer (some ⟨mb,0,none⟩),.agg #[.int .i64 x.op,.int .i64 x.d,.int .i64 x.a,.int .i64 x.b,.int .i64 x.c,.int .i64 x.n],vin] w fun e w'=>e=.returned (.tuple #[.int .i64 (Cx.madeS x inp r sl (steps==0)).1,.int .i64 (Cx.madeS x inp r sl (steps==0)).2])∧Below w.heap.size w w':=by
 obtain⟨vi,vo,vn,vr,vs,rg,sg,f,k1,k2,k3⟩:=h.ex
 obtain⟨ia,ic,rfl,-,hix⟩:=h.inp.form
 obtain⟨ra,rc,rfl,-,hra,hrx⟩:=k2.form
 obtain⟨sa,sc,rfl,-,hsx⟩:=k3.form
 obtain⟨op,d,a,b,c,n⟩:=x
 simp only at he ⊢
 have HB:=Lib.hid ((Below.refl w.heap.size w).alloc (Nat.le_refl _) (.cells #[.int .i64 op,.int .i64 d,.int .i64 a,.int .i64 b,.int .i64 c,.int .i64 n] 72))
 have k1':=k1.below HB.out
 have k2':=k2.below HB.out
 have c5:=k1'.c (i:=5) rfl
 have c6:=k1'.c (i:=6) rfl
 have c7:=k1'.c (i:=7) rfl
 have HX:=Lib.hid hx
 have HI:=Lib.hid hix
 have HS:=Lib.hid hsx
 have HK2:=Lib.hid k2'
 have HRA:=Lib.hid hra
 clear h hx k1 k2 k3 k1' k2' hix hsx hrx hra
 rcases he with rfl | rfl | rfl | rfl | rfl
 ·obtain⟨q1,q2⟩:=HX.out.var rfl
  simp only at q1 q2
  obtain⟨i,rfl⟩:=Int.eq_ofNat_of_zero_le q1
  obtain⟨y,hy⟩ : ∃ y,inp[i]?=some y:=⟨_,List.getElem?_eq_getElem (by omega)⟩
  obtain⟨b1,o1,rfl,g1⟩:=HI.out _ HB.out i y hy
  have cx:=g1 0 _ rfl
  simp only[Nat.mul_one,Nat.add_zero] at cx
  have HR:Hid ((Cx.madeS ⟨3,d,a,b,c,i⟩ inp r sl (steps==0))=(y,0)):=by
   show _=_;unfold Cx.madeS;rw[if_pos rfl];simp only[Int.toNat_natCast];rw[getD_of hy]
  clear hy g1
  go_enter Tryz.func32,Tryz.ntmps32
  go_wp2_with fail
  go_ret2
  rw[HR.out]
  exact⟨rfl,HB.out⟩
 ·have HR:Hid ((Cx.madeS ⟨1,d,a,b,c,n⟩ inp r sl (steps==0))=(n,0)):=rfl
  go_enter Tryz.func32,Tryz.ntmps32
  go_wp2_with fail
  go_ret2
  rw[HR.out]
  exact⟨rfl,HB.out⟩
 ·have HR:Hid ((Cx.madeS ⟨2,d,a,b,c,n⟩ inp r sl (steps==0))=(n,0)):=rfl
  go_enter Tryz.func32,Tryz.ntmps32
  go_wp2_with fail
  go_ret2
  rw[HR.out]
  exact⟨rfl,HB.out⟩
 ·obtain⟨q1,q2⟩:=HX.out.slot (Or.inl rfl)
  simp only at q1 q2
  obtain⟨i,rfl⟩:=Int.eq_ofNat_of_zero_le q1
  obtain⟨y,hy⟩ : ∃ y,sl[i]?=some y:=⟨_,List.getElem?_eq_getElem (by omega)⟩
  obtain⟨b1,o1,rfl,g1⟩:=HS.out _ HB.out i y hy
  have cx:=g1 0 _ rfl
  simp only[Nat.mul_one,Nat.add_zero] at cx
  have HR:Hid ((Cx.madeS ⟨21,d,a,b,c,i⟩ inp r sl (steps==0))=(y,0)):=by
   show _=_;unfold Cx.madeS;rw[if_neg (by simp),if_neg (by simp),if_pos (by simp)];simp only[Int.toNat_natCast];rw[getD_of hy]
  clear hy g1
  go_enter Tryz.func32,Tryz.ntmps32
  go_wp2_with fail
  go_quiet (fail)
  go_wp2_with fail
  go_ret2
  rw[HR.out]
  exact⟨rfl,below_drawn HB.out _⟩
 ·by_cases hs0:steps=0
  ·subst hs0
   obtain⟨q1,q2⟩:=HX.out.a (show 1≤Cx.readsN 19 by decide)
   simp only at q1 q2
   obtain⟨i,rfl⟩:=Int.eq_ofNat_of_zero_le q1
   obtain⟨y,hy⟩ : ∃ y,r[i]?=some y:=⟨_,List.getElem?_eq_getElem (by omega)⟩
   obtain⟨rfl,-⟩:=HRA.out (fun e=>by rw[e] at hy;simp at hy)
   obtain⟨_,_,-,-,-,g1⟩:=HK2.out.form
   obtain⟨cx,-⟩:=g1 i y hy
   have HR:Hid ((Cx.madeS ⟨19,d,i,b,c,n⟩ inp r sl ((0:Int)==0))=(y,0)):=by
    show _=_;unfold Cx.madeS;rw[if_neg (by simp),if_neg (by simp),if_neg (by simp),if_pos (by simp)];simp only[Int.toNat_natCast];rw[getD_of hy];rfl
   rw[Nat.zero_add] at cx
   clear hy g1
   go_enter Tryz.func32,Tryz.ntmps32
   go_wp2_with fail
   go_quiet (fail)
   go_wp2_with fail
   go_ret2
   rw[HR.out]
   exact⟨rfl,below_drawn HB.out _⟩
  ·have hsb:(steps==0)=false:=by simpa using hs0
   obtain⟨q1,q2⟩:=HX.out.b (show 2≤Cx.readsN 19 by decide)
   simp only at q1 q2
   obtain⟨i,rfl⟩:=Int.eq_ofNat_of_zero_le q1
   obtain⟨y,hy⟩ : ∃ y,r[i]?=some y:=⟨_,List.getElem?_eq_getElem (by omega)⟩
   obtain⟨rfl,-⟩:=HRA.out (fun e=>by rw[e] at hy;simp at hy)
   obtain⟨_,_,-,-,-,g1⟩:=HK2.out.form
   obtain⟨cx,-⟩:=g1 i y hy
   have HR:Hid ((Cx.madeS ⟨19,d,a,i,c,n⟩ inp r sl (steps==0))=(y,0)):=by
    show _=_;unfold Cx.madeS;rw[if_neg (by simp),if_neg (by simp),if_neg (by simp),if_pos (by simp),hsb];simp only[Int.toNat_natCast];rw[getD_of hy];rfl
   rw[Nat.zero_add] at cx
   clear hy g1 hs0
   go_enter Tryz.func32,Tryz.ntmps32
   go_wp2_with fail
   go_quiet (fail)
   go_wp2_with fail
   go_ret2
   rw[HR.out]
   exact⟨rfl,below_drawn HB.out _⟩
end Go.Proofs.YtdmelebgdaiinaaGreatDoor
namespace Go.Proofs.YtdmelebgdaiinaaGreatDoor
open Go.RowKit
set_option maxRecDepth 100000 in
set_option maxHeartbeats 1000000 in
theorem pDo_10 (a b c:Int) (ha:Cx.fits a=true) (hb:Cx.fits b=true) (hc:Cx.fits c=true) (w:World) :
  Calls Tryz.prog 61 #[.int .i64 10,.int .i64 a,.int .i64 b,.int .i64 c] w fun e w'=>e=.returned (.tuple #[.int .i64 (Cx.doV 10 a b c).1,.int .i64 (Cx.doV 10 a b c).2])∧Below w.heap.size w w':=by
 have hO:∀ W,Calls Tryz.prog 60 #[.int .i64 10] W fun e w'=>e=.returned (.int .i64 2)∧w'=W:=fun W=>pOperands_any 10 W
 have hA:∀ W,Calls Tryz.prog 59 #[.int .i64 a] W fun e w'=>e=.returned (.bool true)∧w'=W:=fun W=>by have:=pFits_any a (fits_64 ha) W;rwa [ha] at this
 have hB:∀ W,Calls Tryz.prog 59 #[.int .i64 b] W fun e w'=>e=.returned (.bool true)∧w'=W:=fun W=>by have:=pFits_any b (fits_64 hb) W;rwa [hb] at this
 have HR:Hid (Ending.returned (.tuple #[.int .i64 (Cx.trI (a==b)),.int .i64 0])=.returned (.tuple #[.int .i64 (Cx.doV 10 a b c).1,.int .i64 (Cx.doV 10 a b c).2])):=by show _=_;rfl
 clear ha hb hc
 go_enter Tryz.func61,Tryz.ntmps61
 go_wp2_with fail
 refine wp_loop_rounds 4 ?_
 rw[rounds_succ]
 go_wp2_with fail
 refine (hO _).mono ?_
 rintro e w1 ⟨rfl,rfl⟩
 go_wp2_with fail
 refine (hA _).mono ?_
 rintro e w1 ⟨rfl,rfl⟩
 go_wp2_with fail
 rw[rounds_succ]
 go_wp2_with fail
 refine (hO _).mono ?_
 rintro e w1 ⟨rfl,rfl⟩
 go_wp2_with fail
 refine (hB _).mono ?_
 rintro e w1 ⟨rfl,rfl⟩
 go_wp2_with fail
 rw[rounds_succ]
 go_wp2_with fail
 refine (hO _).mono ?_
 rintro e w1 ⟨rfl,rfl⟩
 go_wp2_with fail
 rw[rounds_succ]
 go_upto_region 8 with fail
 refine wp_region_list ?_
 generalize hX:Exit.then _ _=X
 go_wp2_with fail
 subst hX
 rename_i K3 hK3
 refine then_normal (hK3 _ _ ?_)
 refine wp_block ?_
 refine wp_seq ?_
 refine wp_block ?_
 refine wp_seq ?_
 refine wp_block ?_
 refine wp_seq ?_
 refine wp_block ?_
 refine wp_seq ?_
 refine wp_block ?_
 refine wp_seq ?_
 refine wp_block ?_
 refine wp_seq ?_
 refine wp_block ?_
 refine wp_seq ?_
 refine wp_block ?_
 refine wp_seq ?_
 refine wp_block ?_
 refine wp_seq ?_
 refine wp_block ?_
 refine wp_seq ?_
 refine wp_block ?_
 refine wp_seq ?_
 refine wp_block ?_
 refine wp_seq ?_
 refine wp_block ?_
 refine wp_seq ?_
 refine wp_block ?_
 refine wp_seq ?_
 refine wp_block ?_
 refine wp_seq ?_
 refine wp_block ?_
 refine leave_to (.exit 8) ?_
 intro K hK0
 have hK:=Lib.hid hK0
 clear hK0
 go_wp2_with fail
 refine hK.out _ _ ?_
 clear hK
 repeat (first | refine then_exit ?_ | refine inBlock_ne (by decide) ?_)
 refine inBlock_eq ?_
 refine then_normal ?_
 refine leave_to .ret ?_
 intro K hK0
 have hK:=Lib.hid hK0
 clear hK0
 go_wp2_with fail
 refine (pTruth_any _ _).mono ?_
 rintro e w1 ⟨rfl,rfl⟩
 go_wp2_with fail
 refine hK.out _ _ ?_;clear hK;repeat (first | refine then_ret ?_ | refine block_ret ?_)
 go_ret2
 exact⟨HR.out,(Below.refl _ _).alloc (Nat.le_refl _) _⟩
end Go.Proofs.YtdmelebgdaiinaaGreatDoor
namespace Go.Proofs.YtdmelebgdaiinaaGreatDoor
namespace Cx
theorem fits_of {n:Int} (h : -2147483648≤n∧n≤2147483647):fits n=true:=by simpa [fits] using h
theorem fits_tr (b:Bool):fits (trI b)=true:=by cases b <;> rfl
theorem fits_ovr (n:Int):fits (ovr n).1=true:=by
 unfold ovr
 split
 ·assumption
 ·rfl
theorem doV_fits {op a b c:Int} (ha:fits a=true) (hb:fits b=true) (hc:fits c=true):fits (doV op a b c).1=true:=by
 unfold doV
 by_cases h4:op=4
 ·rw[if_pos h4]
  exact fits_tr _
 rw[if_neg h4]
 by_cases h5:op=5
 ·rw[if_pos h5]
  exact fits_ovr _
 rw[if_neg h5]
 by_cases h6:op=6
 ·rw[if_pos h6]
  exact fits_tr _
 rw[if_neg h6]
 by_cases h7:op=7
 ·rw[if_pos h7]
  exact fits_tr _
 rw[if_neg h7]
 by_cases h8:op=8
 ·rw[if_pos h8]
  exact fits_tr _
 rw[if_neg h8]
 by_cases h9:op=9
 ·rw[if_pos h9]
  exact fits_tr _
 rw[if_neg h9]
 by_cases h10:op=10
 ·rw[if_pos h10]
  exact fits_tr _
 rw[if_neg h10]
 by_cases h11:op=11
 ·rw[if_pos h11]
  exact fits_tr _
 rw[if_neg h11]
 by_cases h12:op=12
 ·rw[if_pos h12]
  exact fits_tr _
 rw[if_neg h12]
 by_cases h13:op=13
 ·rw[if_pos h13]
  exact fits_tr _
 rw[if_neg h13]
 by_cases h14:op=14
 ·rw[if_pos h14]
  exact fits_ovr _
 rw[if_neg h14]
 by_cases h15:op=15
 ·rw[if_pos h15]
  exact fits_ovr _
 rw[if_neg h15]
 by_cases h16:op=16
 ·rw[if_pos h16]
  exact fits_ovr _
 rw[if_neg h16]
 by_cases h17:op=17
 ·rw[if_pos h17]
  by_cases hb0:b=0
  ·rw[if_pos hb0];rfl
  ·rw[if_neg hb0];exact fits_ovr _
 rw[if_neg h17]
 by_cases h18:op=18
 ·rw[if_pos h18]
  by_cases hb0:b=0
  ·rw[if_pos hb0];rfl
  ·rw[if_neg hb0]
   refine fits_of ?_
   have h1:=fits_lim ha
   have h2:(a.tmod b).natAbs≤a.natAbs:=by rw[Int.natAbs_tmod];exact Nat.mod_le _ _
   show -2147483648≤a.tmod b∧a.tmod b≤2147483647
   rcases Int.le_total 0 a with h0 | h0
   ·have h3:0≤a.tmod b:=Int.tmod_nonneg b h0
    omega
   ·have h4:(-(-a)).tmod b = -((-a).tmod b):=Int.neg_tmod _ _
    rw[Int.neg_neg] at h4
    have h3:0≤(-a).tmod b:=Int.tmod_nonneg b (by omega)
    omega
 rw[if_neg h18]
 by_cases h26:op=26
 ·rw[if_pos h26]
  show fits (if a=0 then c else b)=true
  by_cases ha0:a=0
  ·rw[if_pos ha0];exact hc
  ·rw[if_neg ha0];exact hb
 rw[if_neg h26]
 rfl
theorem ovr_err (n:Int):0≤(ovr n).2:=by
 unfold ovr
 split
 ·exact Int.le_refl _
 ·show (0:Int)≤2;decide
theorem doV_err (op a b c:Int):0≤(doV op a b c).2:=by
 unfold doV
 by_cases h4:op=4
 ·rw[if_pos h4]
  exact Int.le_refl _
 rw[if_neg h4]
 by_cases h5:op=5
 ·rw[if_pos h5]
  exact ovr_err _
 rw[if_neg h5]
 by_cases h6:op=6
 ·rw[if_pos h6]
  exact Int.le_refl _
 rw[if_neg h6]
 by_cases h7:op=7
 ·rw[if_pos h7]
  exact Int.le_refl _
 rw[if_neg h7]
 by_cases h8:op=8
 ·rw[if_pos h8]
  exact Int.le_refl _
 rw[if_neg h8]
 by_cases h9:op=9
 ·rw[if_pos h9]
  exact Int.le_refl _
 rw[if_neg h9]
 by_cases h10:op=10
 ·rw[if_pos h10]
  exact Int.le_refl _
 rw[if_neg h10]
 by_cases h11:op=11
 ·rw[if_pos h11]
  exact Int.le_refl _
 rw[if_neg h11]
 by_cases h12:op=12
 ·rw[if_pos h12]
  exact Int.le_refl _
 rw[if_neg h12]
 by_cases h13:op=13
 ·rw[if_pos h13]
  exact Int.le_refl _
 rw[if_neg h13]
 by_cases h14:op=14
 ·rw[if_pos h14]
  exact ovr_err _
 rw[if_neg h14]
 by_cases h15:op=15
 ·rw[if_pos h15]
  exact ovr_err _
 rw[if_neg h15]
 by_cases h16:op=16
 ·rw[if_pos h16]
  exact ovr_err _
 rw[if_neg h16]
 by_cases h17:op=17
 ·rw[if_pos h17]
  by_cases hb0:b=0
  ·rw[if_pos hb0];decide
  ·rw[if_neg hb0];exact ovr_err _
 rw[if_neg h17]
 by_cases h18:op=18
 ·rw[if_pos h18]
  by_cases hb0:b=0
  ·rw[if_pos hb0];decide
  ·rw[if_neg hb0];exact Int.le_refl _
 rw[if_neg h18]
 by_cases h26:op=26
 ·rw[if_pos h26]
  exact Int.le_refl _
 rw[if_neg h26]
 show (0:Int)≤1;decide
theorem getD_fits {l:List Int} (h:∀ y∈l,fits y=true) (k:Nat):fits (l.getD k 0)=true:=by
 rw[List.getD_eq_getElem?_getD]
 cases e:l[k]? with
 | none=>rfl
 | some x=>exact h x (List.mem_of_getElem? e)
theorem doS_made {op a b c:Int} (ha:fits a=true) (hb:fits b=true) (hc:fits c=true):doS op a b c=doV op a b c:=doS_fits ha hb hc
theorem madeS_fits {x:In} {inp r sl:List Int} {first:Bool} (hi:∀ y∈inp,fits y=true) (hr:∀ y∈r,fits y=true) (hs:∀ y∈sl,fits y=true) (hn:x.op=1∨x.op=2→fits x.n=true):fits (madeS x inp r sl first).1=true:=by
 unfold madeS
 split
 ·exact getD_fits hi _
 ·split
  ·rename_i h;exact hn h
  ·split
   ·exact getD_fits hs _
   ·split
    ·cases first
     ·exact getD_fits hr _
     ·exact getD_fits hr _
    ·have h0:fits 0=true:=rfl
     have h2:fits (if readsN x.op ≥ 2 then r.getD x.b.toNat 0 else 0)=true:=by split;exact getD_fits hr _;rfl
     have h3:fits (if readsN x.op ≥ 3 then r.getD x.c.toNat 0 else 0)=true:=by split;exact getD_fits hr _;rfl
     rw[doS_made (getD_fits hr _) h2 h3]
     exact doV_fits (getD_fits hr _) h2 h3
theorem doS_err (op a b c:Int):0≤(doS op a b c).2:=by
 unfold doS
 split
 ·exact doV_err _ _ _ _
 ·simp
theorem madeS_err (x:In) (inp r sl:List Int) (first:Bool):0≤(madeS x inp r sl first).2:=by
 unfold madeS
 split
 ·simp
 ·split
  ·simp
  ·split
   ·simp
   ·split
    ·simp
    ·exact doS_err _ _ _ _
theorem set_fits {l:List Int} (h:∀ y∈l,fits y=true) {k:Nat} {v:Int} (hv:fits v=true):∀ y∈l.set k v,fits y=true:=by
 intro y hy
 rcases List.mem_or_eq_of_mem_set hy with hy | rfl
 ·exact h y hy
 ·exact hv
structure RsOk (R S:Nat) (s:Rs):Prop where
 r:s.r.length=R
 nx:s.nx.length=S
 rf:∀ y∈s.r,fits y=true
 nf:∀ y∈s.nx,fits y=true
 f:0≤s.f
theorem run1_ok {inp sl:List Int} {first:Bool} {R S:Nat} {s:Rs} {x:In} (h:RsOk R S s) (hi:∀ y∈inp,fits y=true) (hs:∀ y∈sl,fits y=true) (hn:x.op=1∨x.op=2→fits x.n=true):RsOk R S (run1 inp sl first s x):=by
 have hl:=run1_len inp sl first s x
 refine⟨hl.1.trans h.r,hl.2.trans h.nx,?_,?_,?_⟩
 ·unfold run1;split
  ·exact h.rf
  ·exact set_fits h.rf (madeS_fits hi h.rf hs hn)
 ·unfold run1;split
  ·exact set_fits h.nf (getD_fits h.rf _)
  ·exact h.nf
 ·unfold run1;split
  ·exact h.f
  ·exact least_le h.f (madeS_err _ _ _ _ _)
theorem runS_ok {inp sl:List Int} {first:Bool} {R S:Nat} (hi:∀ y∈inp,fits y=true) (hs:∀ y∈sl,fits y=true):∀ {l:List In} {s:Rs},(∀ x∈l,(x.op=1∨x.op=2→fits x.n=true))→RsOk R S s→RsOk R S (runS inp sl first s l)
 | [],_,_,h=>h
 | x :: l,s,hn,h=>by
  have:=runS_ok (first:=first) (l:=l) (s:=run1 inp sl first s x) hi hs (fun y hy=>hn y (List.mem_cons_of_mem _ hy)) (run1_ok h hi hs (hn x List.mem_cons_self))
  exact this
theorem zero_ok {R S:Nat} {sl:List Int} (h:sl.length=S) (hs:∀ y∈sl,fits y=true):RsOk R S ⟨List.replicate R 0,sl,0⟩ :=
 ⟨by simp,h,fun y hy=>by rw[(List.mem_replicate.1 hy).2];rfl,hs,Int.le_refl _⟩
theorem runS_at {inp sl:List Int} {first:Bool} {s:Rs} {l:List In} {t:Nat} {x:In} (h:l[t]?=some x):runS inp sl first s (l.take (t+1))=run1 inp sl first (runS inp sl first s (l.take t)) x:=by
 rw[List.take_add_one,h];exact runS_snoc _ _ _ _ _ _
theorem frame_fits {inputs inp:List Int} (h:frameS inputs inp=true):inp.length=inputs.length∧∀ y∈inp,fits y=true:=by
 unfold frameS at h
 rw[Bool.and_eq_true,decide_eq_true_eq] at h
 refine⟨h.1,fun y hy=>?_⟩
 obtain⟨i,hi⟩:=List.mem_iff_getElem?.1 hy
 have h1:=List.all_eq_true.1 h.2 i (List.mem_range.2 (List.getElem?_eq_some_iff.1 hi).1)
 rw[List.getD_eq_getElem?_getD,hi] at h1
 simp only[Option.getD_some,Bool.and_eq_true] at h1
 exact h1.1
end Cx
end Go.Proofs.YtdmelebgdaiinaaGreatDoor
