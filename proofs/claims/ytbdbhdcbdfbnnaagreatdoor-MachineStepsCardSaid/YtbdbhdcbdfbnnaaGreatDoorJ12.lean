/- Machine: a machine in memory; the numbers of inputs: the walks. Machine: the document's frame: the walk. Machine: what an instruction makes, by the program, where it is no operator of numbers: the walk. Machine: what an instruction makes, by the document, where it is no operator of numbers: the walk. -/
import Derived.Deep.QuietTactic
import Derived.Test.YtbdbhdcbdfbnnaaGreatDoorJ10
import Derived.Test.YtbdbhdcbdfbnnaaGreatDoorJ11
set_option linter.unusedVariables false
set_option linter.unusedSimpArgs false
namespace Go.Proofs.YtbdbhdcbdfbnnaaGreatDoor
open Go.RowKit
structure MachAt (w:World) (M:List Nat) (mb rb:Nat) (c:Cx.Co) (m:Cx.Ms):Prop where
 ex:∃ vi vo vn vr vs r,Blk w mb #[vi,.int .i64 c.regs,.int .i64 c.slots,vo,vn,vr,vs,.int .i64 m.steps,.int .i64 m.f] 73∧SlN Cx.inL 6 M w vi c.ins∧SlN intC 1 M w vo c.outs∧SlN intC 1 M w vn c.inputs∧RegsL w rb 0 vr r∧r.length=c.regs.toNat∧SlN intC 1 M w vs m.sl
 hb:mb∈M
 hr:rb∈M
 ne:c.regs≠0→rb≠mb
namespace Cx
def okF (inputs inp:List Int) (i:Nat):Bool:=fits (inp.getD i 0)&&(!(inputs.getD i 0==1) || inp.getD i 0==0 || inp.getD i 0==1)
theorem frameS_is (inputs inp:List Int):frameS inputs inp=(decide (inp.length=inputs.length)&&(List.range inp.length).all (okF inputs inp)):=rfl
theorem frameS_len {inputs inp:List Int} (h:inp.length≠inputs.length):frameS inputs inp=false:=by simp[frameS,h]
theorem frameS_bad {inputs inp:List Int} {i:Nat} (hi:i<inp.length) (h:okF inputs inp i=false):frameS inputs inp=false:=by
 rw[frameS_is]
 have:(List.range inp.length).all (okF inputs inp)=false:=by
  rw[List.all_eq_false]
  exact⟨i,List.mem_range.2 hi,by rw[h];decide⟩
 rw[this,Bool.and_false]
theorem frameS_all {inputs inp:List Int} (hl:inp.length=inputs.length) (h:∀ i,i<inp.length→okF inputs inp i=true):frameS inputs inp=true:=by
 rw[frameS_is,Bool.and_eq_true,decide_eq_true_eq]
 exact⟨hl,List.all_eq_true.2 fun i hi=>h i (List.mem_range.1 hi)⟩
theorem okF_at {inputs inp:List Int} {i:Nat} {x t:Int} (hx:inp[i]?=some x) (ht:inputs[i]?=some t):okF inputs inp i=(fits x&&(!(t==1) || x==0 || x==1)):=by
 unfold okF
 rw[List.getD_eq_getElem?_getD,List.getD_eq_getElem?_getD,hx,ht];rfl
end Cx
set_option maxRecDepth 100000 in
set_option maxHeartbeats 1000000 in
theorem isFrame_any {w:World} {M:List Nat} {mb rb:Nat} {c:Cx.Co} {m:Cx.Ms} (h:MachAt w M mb rb c m) (inp:List Int) (vi:Value) (hin:Sl intC 1 w vi inp) (h64:∀ n∈inp,-9223372036854775808≤n∧n≤9223372036854775807) (hl:inp.length≤1000000) :
  Calls Tryz.prog 27 #[.pointer (some ⟨mb,0,none⟩),vi] w fun e w'=>e=.returned (.bool (Cx.frameS c.inputs inp))∧w'=w:=by
 obtain⟨_,_,vn,_,_,_,k1,-,-,k4,-,-,-⟩:=h.ex
 obtain⟨ia,ic,rfl,hic,hix⟩:=hin.form
 obtain⟨na,nc,rfl,hnc,hnx⟩:=k4.sl.form
 have c4:w.cell? ⟨mb,4,none⟩=some (.slice na c.inputs.length nc):=k1.c rfl
 clear h hin k1 k4
 by_cases hlen:inp.length=c.inputs.length
 ·obtain⟨n,hn⟩ : ∃ n,n=inp.length:=⟨_,rfl⟩
  rw[← hlen,← hn] at c4 hnc
  rw[← hn] at hic hl ⊢
  have HN:=Lib.hid hn
  have HL:=Lib.hid hlen
  have HI:=Lib.hid hix
  have HX:=Lib.hid hnx
  have H64:=Lib.hid h64
  clear hn hlen hix hnx h64
  go_enter Tryz.func27,Tryz.ntmps27
  go_wp2_with fail
  go_loopw [18] (fun iv wr=>∃ k:Nat,iv=.int .i64 k∧k≤n∧wr=w∧∀ j,j<k→Cx.okF c.inputs inp j=true) (fun iv _=>n - (intOf iv).toNat)
  case atStart=>exact⟨0,rfl,Nat.zero_le _,rfl,fun j hj=>by omega⟩
  case round =>
   obtain⟨k,rfl,hk,hw,hok⟩:=hrel
   subst hw
   have hk0:(0:Int)≤(k:Int):=by omega
   by_cases hlt:k<n
   ·obtain⟨x,hx⟩ : ∃ x,inp[k]?=some x:=⟨_,List.getElem?_eq_getElem (by have:=HN.out;omega)⟩
    obtain⟨t,ht⟩ : ∃ t,c.inputs[k]?=some t:=⟨_,List.getElem?_eq_getElem (by have:=HN.out;have:=HL.out;omega)⟩
    obtain⟨b1,o1,rfl,g1⟩:=HI.out _ (Below.refl _ _) k x hx
    obtain⟨b2,o2,rfl,g2⟩:=HX.out _ (Below.refl _ _) k t ht
    have cx:=g1 0 _ rfl
    have ct:=g2 0 _ rfl
    simp only[Nat.mul_one,Nat.add_zero] at cx ct
    have hkn:(k:Int)<(n:Int):=by omega
    have hfit:=pFits_any x (H64.out x (List.mem_of_getElem? hx)) wr
    have HOK:=Lib.hid (Cx.okF_at hx ht)
    have HPR:=Lib.hid hok
    clear g1 g2 hx ht hok
    cases hf:Cx.fits x
    ·rw[hf] at hfit
     have HR:Hid (Cx.frameS c.inputs inp=false):=by show _=_;exact Cx.frameS_bad (by rw[← HN.out];exact hlt) (by rw[HOK.out,hf];rfl)
     clear hf
     go_wp2_with fail
     refine hfit.mono ?_
     rintro e w1 ⟨rfl,rfl⟩
     go_wp2_with fail
     go_ret
     exact⟨by rw[HR.out];rfl,rfl⟩
    ·rw[hf] at hfit
     by_cases ht1:t=1
     ·subst ht1
      by_cases hx0:x=0
      ·subst hx0
       have HK:Hid (Cx.okF c.inputs inp k=true):=by show _=_;rw[HOK.out,hf];rfl
       clear hf
       go_wp2_with fail
       refine hfit.mono ?_
       rintro e w1 ⟨rfl,rfl⟩
       go_wp2_with fail
       go_roundw
       case rel=>exact⟨k+1,by go_num,by omega,by trivial,fun j hj=>by
        by_cases e:j=k
        ·subst e;exact HK.out
        ·exact HPR.out j (by omega)⟩
       case measure=>simp[intOf];omega
      ·by_cases hx1:x=1
       ·subst hx1
        have HK:Hid (Cx.okF c.inputs inp k=true):=by show _=_;rw[HOK.out,hf];rfl
        clear hf hx0
        go_wp2_with fail
        refine hfit.mono ?_
        rintro e w1 ⟨rfl,rfl⟩
        go_wp2_with fail
        go_roundw
        case rel=>exact⟨k+1,by go_num,by omega,by trivial,fun j hj=>by
         by_cases e:j=k
         ·subst e;exact HK.out
         ·exact HPR.out j (by omega)⟩
        case measure=>simp[intOf];omega
       ·have x0:(x != 0)=true:=by simpa using hx0
        have x1:(x != 1)=true:=by simpa using hx1
        have HR:Hid (Cx.frameS c.inputs inp=false):=by show _=_;exact Cx.frameS_bad (by rw[← HN.out];exact hlt) (by rw[HOK.out,hf];simp[hx0,hx1])
        clear hf hx0 hx1
        go_wp2_with fail
        refine hfit.mono ?_
        rintro e w1 ⟨rfl,rfl⟩
        go_wp2_with fail
        go_ret
        exact⟨by rw[HR.out];rfl,rfl⟩
     ·have t1:(t==1)=false:=by simpa using ht1
      have HK:Hid (Cx.okF c.inputs inp k=true):=by show _=_;rw[HOK.out,hf,t1];rfl
      clear hf ht1
      go_wp2_with fail
      refine hfit.mono ?_
      rintro e w1 ⟨rfl,rfl⟩
      go_wp2_with fail
      go_roundw
      case rel=>exact⟨k+1,by go_num,by omega,by trivial,fun j hj=>by
       by_cases e:j=k
       ·subst e;exact HK.out
       ·exact HPR.out j (by omega)⟩
      case measure=>simp[intOf];omega
   ·have hke:k=n:=by omega
    subst hke
    have HR:Hid (Cx.frameS c.inputs inp=true):=by show _=_;exact Cx.frameS_all HL.out (by rw[← HN.out];exact hok)
    clear hok
    go_wp2_with fail
    go_ret
    exact⟨by rw[HR.out];rfl,rfl⟩
 ·have hne:((inp.length:Int) != (c.inputs.length:Int))=true:=by simp;omega
  have HR:Hid (Cx.frameS c.inputs inp=false):=Cx.frameS_len hlen
  clear hix hnx h64
  go_enter Tryz.func27,Tryz.ntmps27
  go_wp2_with fail
  go_ret
  exact⟨by rw[HR.out];rfl,rfl⟩
end Go.Proofs.YtbdbhdcbdfbnnaaGreatDoor
namespace Go.Proofs.YtbdbhdcbdfbnnaaGreatDoor
open Go.RowKit
set_option maxRecDepth 100000 in
set_option maxHeartbeats 1000000 in
theorem rframe_any {w:World} (vi vo:Value) (rg sl:Int) (vn:Value) (ai:Option Addr) (ni ci:Nat) (ao:Option Addr) (no co:Nat) (hvi:vi=.slice ai ni ci) (hvo:vo=.slice ao no co) (inputs:List Int) (hn:Sl intC 1 w vn inputs) (inp:List Int) (vin:Value) (hin:Sl intC 1 w vin inp) (hl:inp.length≤1000000) :
  Calls Tryz.prog 29 #[.agg #[vi,.int .i64 rg,.int .i64 sl,vo,vn],vin] w fun e w'=>e=.returned (.bool (Cx.frameS inputs inp))∧Below w.heap.size w w':=by
 subst hvi hvo
 obtain⟨ia,ic,rfl,hic,hix⟩:=hin.form
 obtain⟨na,nc,rfl,hnc,hnx⟩:=hn.form
 have HH:=Lib.hid ((Below.refl w.heap.size w).alloc (Nat.le_refl _) (.cells #[.slice ai ni ci,.int .i64 rg,.int .i64 sl,.slice ao no co,.slice na inputs.length nc] 25))
 clear hin hn
 by_cases hlen:inp.length=inputs.length
 ·obtain⟨n,hn⟩ : ∃ n,n=inp.length:=⟨_,rfl⟩
  rw[← hlen,← hn] at hnc HH ⊢
  rw[← hn] at hic hl
  have HN:=Lib.hid hn
  have HL:=Lib.hid hlen
  have HI:=Lib.hid hix
  have HX:=Lib.hid hnx
  clear hn hlen hix hnx
  go_enter Tryz.func29,Tryz.ntmps29
  go_wp2_with fail
  have hk:=Blk.new w #[.slice ai ni ci,.int .i64 rg,.int .i64 sl,.slice ao no co,.slice na n nc] 25
  have c4:=hk.c (i:=4) rfl
  have HH2:=HH.out
  obtain⟨W,hW⟩ : ∃ W,W=w.alloc (.cells #[.slice ai ni ci,.int .i64 rg,.int .i64 sl,.slice ao no co,.slice na n nc] 25):=⟨_,rfl⟩
  rw[← hW] at c4 HH2 ⊢
  have HB:=Lib.hid HH2
  clear hW HH2 hk
  go_loopw [5] (fun iv wr=>∃ k:Nat,iv=.int .i64 k∧k≤n∧wr=W∧∀ j,j<k→Cx.okF inputs inp j=true) (fun iv _=>n - (intOf iv).toNat)
  case atStart=>exact⟨0,rfl,Nat.zero_le _,by trivial,fun j hj=>by omega⟩
  case round =>
   obtain⟨k,rfl,hk,hw,hok⟩:=hrel
   subst hw
   have hk0:(0:Int)≤(k:Int):=by omega
   by_cases hlt:k<n
   ·obtain⟨x,hx⟩ : ∃ x,inp[k]?=some x:=⟨_,List.getElem?_eq_getElem (by have:=HN.out;omega)⟩
    obtain⟨t,ht⟩ : ∃ t,inputs[k]?=some t:=⟨_,List.getElem?_eq_getElem (by have:=HN.out;have:=HL.out;omega)⟩
    obtain⟨b1,o1,rfl,g1⟩:=HI.out _ HB.out k x hx
    obtain⟨b2,o2,rfl,g2⟩:=HX.out _ HB.out k t ht
    have cx:=g1 0 _ rfl
    have ct:=g2 0 _ rfl
    simp only[Nat.mul_one,Nat.add_zero] at cx ct
    have hkn:(k:Int)<(n:Int):=by omega
    have hfit:=rFitsC_any x wr
    have HOK:=Lib.hid (Cx.okF_at hx ht)
    have HPR:=Lib.hid hok
    clear g1 g2 hx ht hok
    cases hf:Cx.fits x
    ·rw[hf] at hfit
     have HR:Hid (Cx.frameS inputs inp=false):=by show _=_;exact Cx.frameS_bad (by rw[← HN.out];exact hlt) (by rw[HOK.out,hf];rfl)
     clear hf
     go_wp2_with fail
     refine hfit.mono ?_
     rintro e w1 ⟨rfl,rfl⟩
     go_wp2_with fail
     go_ret
     exact⟨by rw[HR.out];rfl,HB.out⟩
    ·rw[hf] at hfit
     by_cases ht1:t=1
     ·subst ht1
      by_cases hx0:x=0
      ·subst hx0
       have HK:Hid (Cx.okF inputs inp k=true):=by show _=_;rw[HOK.out,hf];rfl
       clear hf
       go_wp2_with fail
       refine hfit.mono ?_
       rintro e w1 ⟨rfl,rfl⟩
       go_wp2_with fail
       go_roundw
       case rel=>exact⟨k+1,by go_num,by omega,by trivial,fun j hj=>by
        by_cases e:j=k
        ·subst e;exact HK.out
        ·exact HPR.out j (by omega)⟩
       case measure=>simp[intOf];omega
      ·by_cases hx1:x=1
       ·subst hx1
        have HK:Hid (Cx.okF inputs inp k=true):=by show _=_;rw[HOK.out,hf];rfl
        clear hf hx0
        go_wp2_with fail
        refine hfit.mono ?_
        rintro e w1 ⟨rfl,rfl⟩
        go_wp2_with fail
        go_roundw
        case rel=>exact⟨k+1,by go_num,by omega,by trivial,fun j hj=>by
         by_cases e:j=k
         ·subst e;exact HK.out
         ·exact HPR.out j (by omega)⟩
        case measure=>simp[intOf];omega
       ·have x0:(x != 0)=true:=by simpa using hx0
        have x1:(x != 1)=true:=by simpa using hx1
        have HR:Hid (Cx.frameS inputs inp=false):=by show _=_;exact Cx.frameS_bad (by rw[← HN.out];exact hlt) (by rw[HOK.out,hf];simp[hx0,hx1])
        clear hf hx0 hx1
        go_wp2_with fail
        refine hfit.mono ?_
        rintro e w1 ⟨rfl,rfl⟩
        go_wp2_with fail
        go_ret
        exact⟨by rw[HR.out];rfl,HB.out⟩
     ·have t1:(t==1)=false:=by simpa using ht1
      have HK:Hid (Cx.okF inputs inp k=true):=by show _=_;rw[HOK.out,hf,t1];rfl
      clear hf ht1
      go_wp2_with fail
      refine hfit.mono ?_
      rintro e w1 ⟨rfl,rfl⟩
      go_wp2_with fail
      go_roundw
      case rel=>exact⟨k+1,by go_num,by omega,by trivial,fun j hj=>by
       by_cases e:j=k
       ·subst e;exact HK.out
       ·exact HPR.out j (by omega)⟩
      case measure=>simp[intOf];omega
   ·have hke:k=n:=by omega
    subst hke
    have HR:Hid (Cx.frameS inputs inp=true):=by show _=_;exact Cx.frameS_all HL.out (by rw[← HN.out];exact hok)
    clear hok
    go_wp2_with fail
    go_ret
    exact⟨by rw[HR.out];rfl,HB.out⟩
 ·have hne:((inp.length:Int) != (inputs.length:Int))=true:=by simp;omega
  have HR:Hid (Cx.frameS inputs inp=false):=Cx.frameS_len hlen
  clear hix hnx
  go_enter Tryz.func29,Tryz.ntmps29
  go_wp2_with fail
  go_ret
  exact⟨by rw[HR.out];rfl,HH.out⟩
end Go.Proofs.YtbdbhdcbdfbnnaaGreatDoor
namespace Go.Proofs.YtbdbhdcbdfbnnaaGreatDoor
open Go.RowKit
theorem getD_of {l:List Int} {k:Nat} {x:Int} (h:l[k]?=some x):l.getD k 0=x:=by rw[List.getD_eq_getElem?_getD,h];rfl
structure DoAt (w:World) (mb rb:Nat) (r sl inp:List Int) (steps:Int) (vin:Value):Prop where
 ex:∃ vi vo vn vr vs rg sg f,Blk w mb #[vi,.int .i64 rg,.int .i64 sg,vo,vn,vr,vs,.int .i64 steps,.int .i64 f] 73∧RegsL w rb 0 vr r∧Sl intC 1 w vs sl
 inp:Sl intC 1 w vin inp
set_option maxRecDepth 100000 in
set_option maxHeartbeats 1000000 in
theorem do_early {w:World} {mb rb:Nat} {r sl inp:List Int} {steps:Int} {vin:Value} (h:DoAt w mb rb r sl inp steps vin) (x:Cx.In) (hx:Cx.InOk r.length sl.length inp.length x) (he:x.op=3∨x.op=1∨x.op=2∨x.op=21∨x.op=19) :
  Calls Tryz.prog 28 #[.pointer (some ⟨mb,0,none⟩),.agg #[.int .i64 x.op,.int .i64 x.d,.int .i64 x.a,.int .i64 x.b,.int .i64 x.c,.int .i64 x.n],vin] w fun e w'=>e=.returned (.tuple #[.int .i64 (Cx.madeS x inp r sl (steps==0)).1,.int .i64 (Cx.madeS x inp r sl (steps==0)).2])∧Below w.heap.size w w':=by
 obtain⟨vi,vo,vn,vr,vs,rg,sg,f,k1,k2,k3⟩:=h.ex
 obtain⟨ia,ic,rfl,-,hix⟩:=h.inp.form
 obtain⟨ra,rc,rfl,-,hra,hrx⟩:=k2.form
 obtain⟨sa,sc,rfl,-,hsx⟩:=k3.form
 obtain⟨op,d,a,b,c,n⟩:=x
 simp only at he ⊢
 have HB:=Lib.hid ((Below.refl w.heap.size w).alloc (Nat.le_refl _) (.cells #[.int .i64 op,.int .i64 d,.int .i64 a,.int .i64 b,.int .i64 c,.int .i64 n] 70))
 have k1':=k1.below HB.out
 have k2':=k2.below HB.out
 have c5:=k1'.c (i:=5) rfl
 have c6:=k1'.c (i:=6) rfl
 have c7:=k1'.c (i:=7) rfl
 have HX:=Lib.hid hx
 have HI:=Lib.hid hix
 have HS:=Lib.hid hsx
 have HK2:=Lib.hid k2'
 have HRA:=Lib.hid hra
 clear h hx k1 k2 k3 k1' k2' hix hsx hrx hra
 rcases he with rfl | rfl | rfl | rfl | rfl
 ·obtain⟨q1,q2⟩:=HX.out.var rfl
  simp only at q1 q2
  obtain⟨i,rfl⟩:=Int.eq_ofNat_of_zero_le q1
  obtain⟨y,hy⟩ : ∃ y,inp[i]?=some y:=⟨_,List.getElem?_eq_getElem (by omega)⟩
  obtain⟨b1,o1,rfl,g1⟩:=HI.out _ HB.out i y hy
  have cx:=g1 0 _ rfl
  simp only[Nat.mul_one,Nat.add_zero] at cx
  have HR:Hid ((Cx.madeS ⟨3,d,a,b,c,i⟩ inp r sl (steps==0))=(y,0)):=by
   show _=_;unfold Cx.madeS;rw[if_pos rfl];simp only[Int.toNat_natCast];rw[getD_of hy]
  clear hy g1
  go_enter Tryz.func28,Tryz.ntmps28
  go_wp2_with fail
  go_ret2
  rw[HR.out]
  exact⟨rfl,HB.out⟩
 ·have HR:Hid ((Cx.madeS ⟨1,d,a,b,c,n⟩ inp r sl (steps==0))=(n,0)):=rfl
  go_enter Tryz.func28,Tryz.ntmps28
  go_wp2_with fail
  go_ret2
  rw[HR.out]
  exact⟨rfl,HB.out⟩
 ·have HR:Hid ((Cx.madeS ⟨2,d,a,b,c,n⟩ inp r sl (steps==0))=(n,0)):=rfl
  go_enter Tryz.func28,Tryz.ntmps28
  go_wp2_with fail
  go_ret2
  rw[HR.out]
  exact⟨rfl,HB.out⟩
 ·obtain⟨q1,q2⟩:=HX.out.slot (Or.inl rfl)
  simp only at q1 q2
  obtain⟨i,rfl⟩:=Int.eq_ofNat_of_zero_le q1
  obtain⟨y,hy⟩ : ∃ y,sl[i]?=some y:=⟨_,List.getElem?_eq_getElem (by omega)⟩
  obtain⟨b1,o1,rfl,g1⟩:=HS.out _ HB.out i y hy
  have cx:=g1 0 _ rfl
  simp only[Nat.mul_one,Nat.add_zero] at cx
  have HR:Hid ((Cx.madeS ⟨21,d,a,b,c,i⟩ inp r sl (steps==0))=(y,0)):=by
   show _=_;unfold Cx.madeS;rw[if_neg (by simp),if_neg (by simp),if_pos (by simp)];simp only[Int.toNat_natCast];rw[getD_of hy]
  clear hy g1
  go_enter Tryz.func28,Tryz.ntmps28
  go_wp2_with fail
  go_quiet (fail)
  go_wp2_with fail
  go_ret2
  rw[HR.out]
  exact⟨rfl,below_drawn HB.out _⟩
 ·by_cases hs0:steps=0
  ·subst hs0
   obtain⟨q1,q2⟩:=HX.out.a (show 1≤Cx.readsN 19 by decide)
   simp only at q1 q2
   obtain⟨i,rfl⟩:=Int.eq_ofNat_of_zero_le q1
   obtain⟨y,hy⟩ : ∃ y,r[i]?=some y:=⟨_,List.getElem?_eq_getElem (by omega)⟩
   obtain⟨rfl,-⟩:=HRA.out (fun e=>by rw[e] at hy;simp at hy)
   obtain⟨_,_,-,-,-,g1⟩:=HK2.out.form
   obtain⟨cx,-⟩:=g1 i y hy
   have HR:Hid ((Cx.madeS ⟨19,d,i,b,c,n⟩ inp r sl ((0:Int)==0))=(y,0)):=by
    show _=_;unfold Cx.madeS;rw[if_neg (by simp),if_neg (by simp),if_neg (by simp),if_pos (by simp)];simp only[Int.toNat_natCast];rw[getD_of hy];rfl
   rw[Nat.zero_add] at cx
   clear hy g1
   go_enter Tryz.func28,Tryz.ntmps28
   go_wp2_with fail
   go_quiet (fail)
   go_wp2_with fail
   go_ret2
   rw[HR.out]
   exact⟨rfl,below_drawn HB.out _⟩
  ·have hsb:(steps==0)=false:=by simpa using hs0
   obtain⟨q1,q2⟩:=HX.out.b (show 2≤Cx.readsN 19 by decide)
   simp only at q1 q2
   obtain⟨i,rfl⟩:=Int.eq_ofNat_of_zero_le q1
   obtain⟨y,hy⟩ : ∃ y,r[i]?=some y:=⟨_,List.getElem?_eq_getElem (by omega)⟩
   obtain⟨rfl,-⟩:=HRA.out (fun e=>by rw[e] at hy;simp at hy)
   obtain⟨_,_,-,-,-,g1⟩:=HK2.out.form
   obtain⟨cx,-⟩:=g1 i y hy
   have HR:Hid ((Cx.madeS ⟨19,d,a,i,c,n⟩ inp r sl (steps==0))=(y,0)):=by
    show _=_;unfold Cx.madeS;rw[if_neg (by simp),if_neg (by simp),if_neg (by simp),if_pos (by simp),hsb];simp only[Int.toNat_natCast];rw[getD_of hy];rfl
   rw[Nat.zero_add] at cx
   clear hy g1 hs0
   go_enter Tryz.func28,Tryz.ntmps28
   go_wp2_with fail
   go_quiet (fail)
   go_wp2_with fail
   go_ret2
   rw[HR.out]
   exact⟨rfl,below_drawn HB.out _⟩
end Go.Proofs.YtbdbhdcbdfbnnaaGreatDoor
namespace Go.Proofs.YtbdbhdcbdfbnnaaGreatDoor
open Go.RowKit
set_option maxRecDepth 100000 in
set_option maxHeartbeats 1000000 in
theorem made_early {w:World} {r sl inp:List Int} {first:Bool} {vin vr vs:Value} (h1:Sl intC 1 w vin inp) (h2:Sl intC 1 w vr r) (h3:Sl intC 1 w vs sl) (x:Cx.In) (hx:Cx.InOk r.length sl.length inp.length x) (he:x.op=3∨x.op=1∨x.op=2∨x.op=21∨x.op=19) :
  Calls Tryz.prog 30 #[.agg #[.int .i64 x.op,.int .i64 x.d,.int .i64 x.a,.int .i64 x.b,.int .i64 x.c,.int .i64 x.n],vin,vr,.agg #[vs,.bool first]] w fun e w'=>e=.returned (.tuple #[.int .i64 (Cx.madeS x inp r sl first).1,.int .i64 (Cx.madeS x inp r sl first).2])∧Below w.heap.size w w':=by
 obtain⟨ia,ic,rfl,-,hix⟩:=h1.form
 obtain⟨ra,rc,rfl,-,hrx⟩:=h2.form
 obtain⟨sa,sc,rfl,-,hsx⟩:=h3.form
 obtain⟨op,d,a,b,c,n⟩:=x
 simp only at he ⊢
 have HB1:=Lib.hid ((Below.refl w.heap.size w).alloc (Nat.le_refl _) (.cells #[.int .i64 op,.int .i64 d,.int .i64 a,.int .i64 b,.int .i64 c,.int .i64 n] 74))
 have HB:=Lib.hid (HB1.out.alloc HB1.out.size (.cells #[.slice sa sl.length sc,.bool first] 40))
 have HX:=Lib.hid hx
 have HI:=Lib.hid hix
 have HS:=Lib.hid hsx
 have HRX:=Lib.hid hrx
 clear h1 h2 h3 hx hix hsx hrx
 rcases he with rfl | rfl | rfl | rfl | rfl
 ·obtain⟨q1,q2⟩:=HX.out.var rfl
  simp only at q1 q2
  obtain⟨i,rfl⟩:=Int.eq_ofNat_of_zero_le q1
  obtain⟨y,hy⟩ : ∃ y,inp[i]?=some y:=⟨_,List.getElem?_eq_getElem (by omega)⟩
  obtain⟨b1,o1,rfl,g1⟩:=HI.out _ HB.out i y hy
  have cx:=g1 0 _ rfl
  simp only[Nat.mul_one,Nat.add_zero] at cx
  have HR:Hid ((Cx.madeS ⟨3,d,a,b,c,i⟩ inp r sl first)=(y,0)):=by
   show _=_;unfold Cx.madeS;rw[if_pos rfl];simp only[Int.toNat_natCast];rw[getD_of hy]
  clear hy g1
  go_enter Tryz.func30,Tryz.ntmps30
  go_wp2_with fail
  go_ret2
  rw[HR.out]
  exact⟨rfl,HB.out⟩
 ·have HR:Hid ((Cx.madeS ⟨1,d,a,b,c,n⟩ inp r sl first)=(n,0)):=rfl
  go_enter Tryz.func30,Tryz.ntmps30
  go_wp2_with fail
  go_ret2
  rw[HR.out]
  exact⟨rfl,HB.out⟩
 ·have HR:Hid ((Cx.madeS ⟨2,d,a,b,c,n⟩ inp r sl first)=(n,0)):=rfl
  go_enter Tryz.func30,Tryz.ntmps30
  go_wp2_with fail
  go_ret2
  rw[HR.out]
  exact⟨rfl,HB.out⟩
 ·obtain⟨q1,q2⟩:=HX.out.slot (Or.inl rfl)
  simp only at q1 q2
  obtain⟨i,rfl⟩:=Int.eq_ofNat_of_zero_le q1
  obtain⟨y,hy⟩ : ∃ y,sl[i]?=some y:=⟨_,List.getElem?_eq_getElem (by omega)⟩
  obtain⟨b1,o1,rfl,g1⟩:=HS.out _ HB.out i y hy
  have cx:=g1 0 _ rfl
  simp only[Nat.mul_one,Nat.add_zero] at cx
  have HR:Hid ((Cx.madeS ⟨21,d,a,b,c,i⟩ inp r sl first)=(y,0)):=by
   show _=_;unfold Cx.madeS;rw[if_neg (by simp),if_neg (by simp),if_pos (by simp)];simp only[Int.toNat_natCast];rw[getD_of hy]
  clear hy g1
  go_enter Tryz.func30,Tryz.ntmps30
  go_wp2_with fail
  go_ret2
  rw[HR.out]
  exact⟨rfl,HB.out⟩
 ·cases first
  rotate_left
  ·skip
   obtain⟨q1,q2⟩:=HX.out.a (show 1≤Cx.readsN 19 by decide)
   simp only at q1 q2
   obtain⟨i,rfl⟩:=Int.eq_ofNat_of_zero_le q1
   obtain⟨y,hy⟩ : ∃ y,r[i]?=some y:=⟨_,List.getElem?_eq_getElem (by omega)⟩
   obtain⟨b1,o1,rfl,g1⟩:=HRX.out _ HB.out i y hy
   have cx:=g1 0 _ rfl
   simp only[Nat.mul_one,Nat.add_zero] at cx
   have HR:Hid ((Cx.madeS ⟨19,d,i,b,c,n⟩ inp r sl true)=(y,0)):=by
    show _=_;unfold Cx.madeS;rw[if_neg (by simp),if_neg (by simp),if_neg (by simp),if_pos (by simp)];simp only[Int.toNat_natCast];rw[getD_of hy];rfl
   clear hy g1
   go_enter Tryz.func30,Tryz.ntmps30
   go_wp2_with fail
   go_ret2
   rw[HR.out]
   exact⟨rfl,HB.out⟩
  ·skip
   obtain⟨q1,q2⟩:=HX.out.b (show 2≤Cx.readsN 19 by decide)
   simp only at q1 q2
   obtain⟨i,rfl⟩:=Int.eq_ofNat_of_zero_le q1
   obtain⟨y,hy⟩ : ∃ y,r[i]?=some y:=⟨_,List.getElem?_eq_getElem (by omega)⟩
   obtain⟨b1,o1,rfl,g1⟩:=HRX.out _ HB.out i y hy
   have cx:=g1 0 _ rfl
   simp only[Nat.mul_one,Nat.add_zero] at cx
   have HR:Hid ((Cx.madeS ⟨19,d,a,i,c,n⟩ inp r sl false)=(y,0)):=by
    show _=_;unfold Cx.madeS;rw[if_neg (by simp),if_neg (by simp),if_neg (by simp),if_pos (by simp)];simp only[Int.toNat_natCast];rw[getD_of hy];rfl
   clear hy g1
   go_enter Tryz.func30,Tryz.ntmps30
   go_wp2_with fail
   go_ret2
   rw[HR.out]
   exact⟨rfl,HB.out⟩
end Go.Proofs.YtbdbhdcbdfbnnaaGreatDoor
