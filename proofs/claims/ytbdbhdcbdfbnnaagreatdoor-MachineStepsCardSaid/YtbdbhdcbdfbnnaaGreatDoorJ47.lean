/- Machine: may code be? by the document: the walk. -/
import Derived.Test.YtbdbhdcbdfbnnaaGreatDoorJ33
import Derived.Test.YtbdbhdcbdfbnnaaGreatDoorJ43
set_option linter.unusedVariables false
set_option linter.unusedSimpArgs false
namespace Go.Proofs.YtbdbhdcbdfbnnaaGreatDoor
open Go.RowKit
set_option maxRecDepth 100000
set_option maxHeartbeats 8000000 in
theorem rcheck_any (w:World) (c:Cx.Co) (vi vo vn:Value) (hi:Sl Cx.inL 6 w vi c.ins) (ho:Sl intC 1 w vo c.outs) (hn:Sl intC 1 w vn c.inputs) (h1:c.ins.length≤1000000) (h2:c.outs.length≤1000000) (h3:c.inputs.length≤1000000) (h64:∀ x∈c.ins,-9223372036854775808≤x.n∧x.n≤9223372036854775807) :
  Calls Tryz.prog 9 #[.agg #[vi,.int .i64 c.regs,.int .i64 c.slots,vo,vn]] w (CheckPost c w):=by
 have HBAD:Hid (∀ W,Below w.heap.size w W→Cx.okS c=false→CheckPost c w (.returned (.int .i64 1)) W):=fun W hb h=>by
  unfold CheckPost;rw[h];exact⟨rfl,hb⟩
 have HSZ:Hid (∀ {a:Prop},¬ a→(Cx.okS c=true→a)→Cx.okS c=false):=fun {a} hna ha=>by
  cases h:Cx.okS c with
  | false=>rfl
  | true=>exact absurd (ha h) hna
 obtain⟨ia,ic,rfl,hic,hix⟩:=hi.form
 obtain⟨oa,oc,rfl,-,-⟩:=ho.form
 obtain⟨na,nc,rfl,-,-⟩:=hn.form
 have HI:=Lib.hid hix
 have HO:=Lib.hid ho
 have HN:=Lib.hid hn
 have H64:=Lib.hid h64
 have HB0:=Lib.hid ((Below.refl w.heap.size w).alloc (Nat.le_refl _) (.cells #[.slice ia c.ins.length ic,.int .i64 c.regs,.int .i64 c.slots,.slice oa c.outs.length oc,.slice na c.inputs.length nc] 25))
 clear hi ho hn hix h64
 by_cases r0:c.regs<0
 ·go_enter Tryz.func9,Tryz.ntmps9
  go_wp2_with fail
  go_ret
  exact HBAD.out _ HB0.out (HSZ.out (a:=0≤c.regs) (by omega) fun h=>(okS_size h).1)
 ·by_cases r1:100000<c.regs
  ·go_enter Tryz.func9,Tryz.ntmps9
   go_wp2_with fail
   go_ret
   exact HBAD.out _ HB0.out (HSZ.out (a:=c.regs≤100000) (by omega) fun h=>(okS_size h).2.1)
  ·by_cases s0:c.slots<0
   ·go_enter Tryz.func9,Tryz.ntmps9
    go_wp2_with fail
    go_ret
    exact HBAD.out _ HB0.out (HSZ.out (a:=0≤c.slots) (by omega) fun h=>(okS_size h).2.2.1)
   ·by_cases s1:100000<c.slots
    ·go_enter Tryz.func9,Tryz.ntmps9
     go_wp2_with fail
     go_ret
     exact HBAD.out _ HB0.out (HSZ.out (a:=c.slots≤100000) (by omega) fun h=>(okS_size h).2.2.2.1)
    ·by_cases n1:200000<c.ins.length
     ·go_enter Tryz.func9,Tryz.ntmps9
      go_wp2_with fail
      go_ret
      exact HBAD.out _ HB0.out (HSZ.out (a:=c.ins.length≤200000) (by omega) fun h=>(okS_size h).2.2.2.2)
     ·have HSS:Hid (Cx.sizeS c=true):=(by unfold Cx.sizeS;rw[decide_eq_true];omega:Cx.sizeS c=true)
      go_enter Tryz.func9,Tryz.ntmps9
      obtain⟨R,hR⟩:=Int.eq_ofNat_of_zero_le (show 0≤c.regs by omega)
      obtain⟨S,hS⟩:=Int.eq_ofNat_of_zero_le (show 0≤c.slots by omega)
      have hmR:=make_bools R (by omega)
      have hmS:=make_bools S (by omega)
      rw[hR,hS]
      go_wp2_with fail
      have k1:=Blk.new w #[.slice ia c.ins.length ic,.int .i64 (R:Int),.int .i64 (S:Int),.slice oa c.outs.length oc,.slice na c.inputs.length nc] 25
      obtain⟨V1,hV1⟩ : ∃ V1,V1=w.alloc (.cells #[.slice ia c.ins.length ic,.int .i64 (R:Int),.int .i64 (S:Int),.slice oa c.outs.length oc,.slice na c.inputs.length nc] 25):=⟨_,rfl⟩
      have z1:V1.heap.size=w.heap.size+1:=by rw[hV1,World.size_alloc]
      have f1:FrS [] w V1:=by rw[hV1];exact (FrS.refl _ _).alloc _
      rw[← hV1] at k1 ⊢
      have k2:=Blk.new V1 (flags R []) 4
      obtain⟨V2,hV2⟩ : ∃ V2,V2=V1.alloc (.cells (flags R []) 4):=⟨_,rfl⟩
      have z2:V2.heap.size=w.heap.size+1+1:=by rw[hV2,World.size_alloc,z1]
      have f2:FrS [] V1 V2:=by rw[hV2];exact (FrS.refl _ _).alloc _
      rw[← hV2] at k2 ⊢
      have k3:=Blk.new V2 (flags S []) 4
      obtain⟨U,hU⟩ : ∃ U,U=V2.alloc (.cells (flags S []) 4):=⟨_,rfl⟩
      have z3:U.heap.size=w.heap.size+1+1+1:=by rw[hU,World.size_alloc,z2]
      have f3:FrS [] V2 U:=by rw[hU];exact (FrS.refl _ _).alloc _
      rw[← hU] at k3 ⊢
      rw[z1] at k2
      rw[z2] at k3
      have f23:FrS [] V1 U:=f2.trans f3 (fun i hi=>by cases hi)
      have FU:=Lib.hid (f1.trans f23 (fun i hi=>by cases hi))
      have KC:=Lib.hid (f23.blk k1 (fun e=>by cases e))
      have KF:=Lib.hid (f3.blk k2 (fun e=>by cases e))
      have KS:=Lib.hid k3
      clear hV1 hV2 hU z3 f1 f2 f3 f23 k1 k2 k3 hmR hmS
      obtain⟨cb,hcb⟩ : ∃ cb,cb=w.heap.size:=⟨_,rfl⟩
      obtain⟨fb,hfb⟩ : ∃ fb,fb=w.heap.size+1:=⟨_,rfl⟩
      obtain⟨sb,hsb⟩ : ∃ sb,sb=w.heap.size+1+1:=⟨_,rfl⟩
      first | rw[z1,z2] | rw[z2] | skip
      clear z1 z2
      rw[← hsb,← hfb,← hcb]
      rw[← hsb] at KS
      rw[← hfb] at KF
      rw[← hcb] at KC
      have NE:Hid (cb≠fb∧cb≠sb∧fb≠sb∧w.heap.size≤fb∧w.heap.size≤sb):=(by omega:cb≠fb∧cb≠sb∧fb≠sb∧w.heap.size≤fb∧w.heap.size≤sb)
      have HR:=Lib.hid hR
      have HSL:=Lib.hid hS
      have HRB:Hid (R≤100000∧S≤100000):=(by omega:R≤100000∧S≤100000)
      clear hcb hfb hsb hR hS r0 r1 s0 s1
      go_loopw [5,6] (fun av iv wr=>∃ (t:Nat) (s:List Int×List Int) (B:Bool),av=.bool B∧(B=true↔s.2≠[])∧iv=.int .i64 t∧t≤c.ins.length∧Cx.chkL c.regs c.slots c.inputs.length (c.ins.take t) ([],[])=some s∧FrS [fb,sb] U wr∧Blk wr fb (flags R s.1) 4∧Blk wr sb (flags S s.2) 4) (fun _ iv _=>c.ins.length - (intOf iv).toNat)
      case atStart=>exact⟨0,([],[]),false,rfl,by simp,rfl,Nat.zero_le _,rfl,FrS.refl _ _,KF.out,KS.out⟩
      case round =>
       obtain⟨t,s,B,rfl,hBs,rfl,ht,hchk,hF,hS1,hS2⟩:=hrel
       have ht0:(0:Int)≤(t:Int):=by omega
       have hbw:Below w.heap.size w wr:=FrS.below FU.out.toBelow hF FU.out.size (fun i hi=>by
        simp only[List.mem_cons,List.not_mem_nil,or_false] at hi
        rcases hi with rfl | rfl
        ·exact NE.out.2.2.2.1
        ·exact NE.out.2.2.2.2)
       have hkc:=hF.blk KC.out (fun e=>by
        simp only[List.mem_cons,List.not_mem_nil,or_false] at e
        rcases e with e | e
        ·exact NE.out.1 e
        ·exact NE.out.2.1 e)
       have hsr:∀ r∈s.1,0≤r∧r<(R:Int):=fun r hr=>by
        have:=(Cx.chkL_ok (s:=([],[])) (fun r hr=>by cases hr) hchk).2 r hr
        rw[HR.out] at this;exact this
       have HSR:=Lib.hid hsr
       have HBS:=Lib.hid hBs
       have HCHK:=Lib.hid hchk
       have HF:=Lib.hid hF
       have HS1:=Lib.hid hS1
       have HS2:=Lib.hid hS2
       have HBW:=Lib.hid hbw
       have HKC:=Lib.hid hkc
       have c0:wr.cell? ⟨cb,0,none⟩=some (.slice ia c.ins.length ic):=hkc.c rfl
       clear hchk hF hS1 hS2 hkc hsr hBs
       by_cases hlt:t<c.ins.length
       ·obtain⟨x,hx⟩ : ∃ x,c.ins[t]?=some x:=⟨_,List.getElem?_eq_getElem hlt⟩
        have STEP:=Lib.hid (chkL_step HCHK.out hx)
        obtain⟨ib,io,rfl,hcl⟩:=HI.out wr hbw t x hx
        have e0:wr.cell? ⟨ib,io+t * 6,none⟩=some (.int .i64 x.op):=hcl 0 _ rfl
        have e1:wr.cell? ⟨ib,io+t * 6+1,none⟩=some (.int .i64 x.d):=hcl 1 _ rfl
        have e2:wr.cell? ⟨ib,io+t * 6+2,none⟩=some (.int .i64 x.a):=hcl 2 _ rfl
        have e3:wr.cell? ⟨ib,io+t * 6+3,none⟩=some (.int .i64 x.b):=hcl 3 _ rfl
        have e4:wr.cell? ⟨ib,io+t * 6+4,none⟩=some (.int .i64 x.c):=hcl 4 _ rfl
        have e5:wr.cell? ⟨ib,io+t * 6+5,none⟩=some (.int .i64 x.n):=hcl 5 _ rfl
        obtain⟨op,d,a,b,cc,n⟩:=x
        simp only at e0 e1 e2 e3 e4 e5
        have htl:(t:Int)<(c.ins.length:Int):=by omega
        clear hcl hx hbw
        have kx:=Blk.new wr #[.int .i64 op,.int .i64 d,.int .i64 a,.int .i64 b,.int .i64 cc,.int .i64 n] 74
        have fV:FrS [] wr (wr.alloc (.cells #[.int .i64 op,.int .i64 d,.int .i64 a,.int .i64 b,.int .i64 cc,.int .i64 n] 74)):=(FrS.refl _ _).alloc _
        go_wp2_with fail
        generalize (wr.alloc (.cells #[.int .i64 op,.int .i64 d,.int .i64 a,.int .i64 b,.int .i64 cc,.int .i64 n] 74))=V at kx fV ⊢
        obtain⟨xb,hxb⟩ : ∃ xb,xb=wr.heap.size:=⟨_,rfl⟩
        rw[← hxb] at kx ⊢
        have FV:=Lib.hid fV
        have KX:=Lib.hid kx
        have KCV:=Lib.hid (fV.blk HKC.out (fun e=>by cases e))
        have hcall:=Reads_any op d a b cc n V
        unfold ReadsPost at hcall
        simp only at hcall
        obtain⟨G,hgood⟩ : ∃ G,G=decide (0≤Cx.readsN op):=⟨_,rfl⟩
        rw[← hgood] at hcall
        have BWV:=Lib.hid (below_next HBW.out fV.toBelow)
        have HNONE:Hid (∀ W,Below w.heap.size w W→Cx.chk1 c.regs c.slots c.inputs.length ⟨op,d,a,b,cc,n⟩ s=none→CheckPost c w (.returned (.int .i64 1)) W):=fun W hb h=>HBAD.out W hb (okS_none (STEP.out.2 h))
        have HBADP:Hid (Cx.plainS c.slots c.inputs.length ⟨op,d,a,b,cc,n⟩=false→Cx.chk1 c.regs c.slots c.inputs.length ⟨op,d,a,b,cc,n⟩ s=none):=fun q=>by unfold Cx.chk1;rw[if_pos q]
        have HPR:=Lib.hid (plainS_ref c.slots c.inputs.length ⟨op,d,a,b,cc,n⟩)
        clear e0 e1 e2 e3 e4 e5 kx fV hxb c0
        refine hcall.mono ?_
        rintro e w1 ⟨u,rfl,hu,hb1⟩
        have HU:=Lib.hid hu
        have B1:=Lib.hid hb1
        clear hcall hu hb1
        cases G with
        | false =>
         have hpf:Cx.plainS c.slots c.inputs.length ⟨op,d,a,b,cc,n⟩=false:=by rw[HPR.out];show (decide (0≤Cx.readsN op)&&_&&_)=false;rw[← hgood];rfl
         have hbw1:=below_next BWV.out B1.out
         obtain⟨ua,uc,rfl,-,-⟩:=(HU.out [] (fun i hi=>by cases hi)).form
         have HPF:=Lib.hid hpf
         clear hgood hpf
         go_wp2_with fail
         go_ret
         exact HNONE.out _ hbw1 (HBADP.out HPF.out)
        | true =>
         have hr0:0≤Cx.readsN op:=by simpa using hgood.symm
         have hr3:=(Cx.readsN_le op).2
         obtain⟨k,hk⟩:=Int.eq_ofNat_of_zero_le hr0
         have hk3:k≤3:=by omega
         have HRDS:Hid (Cx.rds ⟨op,d,a,b,cc,n⟩=[a,b,cc].take k):=rds_of hk
         have hkl:([a,b,cc].take k).length=k:=by simp;omega
         have HKL:=Lib.hid hkl
         have hsl:=HU.out [] (fun i hi=>by cases hi)
         rw[HRDS.out] at hsl
         obtain⟨ua,uc,rfl,-,-⟩:=hsl.form
         rw[hkl] at hsl ⊢
         have HROW:=Lib.hid hsl
         have hrest:=fun W=>rest_any op d a b cc n k hk W
         have hnum:=fun W=>number_any W c (some ⟨ib,io,none⟩) oa na ic oc nc op d a b cc n
         have hpr:Cx.plainS c.slots c.inputs.length ⟨op,d,a,b,cc,n⟩=(restB ⟨op,d,a,b,cc,n⟩&&numberB c.slots c.inputs.length ⟨op,d,a,b,cc,n⟩):=by
          rw[HPR.out];show (decide (0≤Cx.readsN op)&&_&&_)=_;rw[← hgood];rfl
         generalize restB ⟨op,d,a,b,cc,n⟩=B2 at hrest hpr
         generalize numberB c.slots c.inputs.length ⟨op,d,a,b,cc,n⟩=B3 at hnum hpr
         rw[HR.out,HSL.out] at hnum
         have HPL:=Lib.hid hpr
         have fw1:=FrS.of_below B1.out []
         have kx1:=fw1.blk KX.out (fun e=>by cases e)
         have y0:w1.cell? ⟨xb,0,none⟩=some (.int .i64 op):=kx1.c rfl
         have y1:w1.cell? ⟨xb,1,none⟩=some (.int .i64 d):=kx1.c rfl
         have y2:w1.cell? ⟨xb,2,none⟩=some (.int .i64 a):=kx1.c rfl
         have y3:w1.cell? ⟨xb,3,none⟩=some (.int .i64 b):=kx1.c rfl
         have y4:w1.cell? ⟨xb,4,none⟩=some (.int .i64 cc):=kx1.c rfl
         have y5:w1.cell? ⟨xb,5,none⟩=some (.int .i64 n):=kx1.c rfl
         have KX1:=Lib.hid kx1
         clear hgood hr0 hr3 hk hkl hsl hpr fw1 kx1
         go_wp2_with fail
         refine (hrest _).mono ?_
         rintro e w2 ⟨rfl,hb2⟩
         have B2w:=Lib.hid hb2
         have kx2:=KX1.out.below hb2
         have kc2:=(KCV.out.below B1.out).below hb2
         clear hrest hb2 y0 y1 y2 y3 y4 y5
         cases B2 with
         | false =>
          go_wp2_with fail
          go_ret
          exact HNONE.out _ (below_next (below_next BWV.out B1.out) B2w.out) (HBADP.out (by rw[HPL.out];rfl))
         | true =>
          have y0:w2.cell? ⟨xb,0,none⟩=some (.int .i64 op):=kx2.c rfl
          have y1:w2.cell? ⟨xb,1,none⟩=some (.int .i64 d):=kx2.c rfl
          have y2:w2.cell? ⟨xb,2,none⟩=some (.int .i64 a):=kx2.c rfl
          have y3:w2.cell? ⟨xb,3,none⟩=some (.int .i64 b):=kx2.c rfl
          have y4:w2.cell? ⟨xb,4,none⟩=some (.int .i64 cc):=kx2.c rfl
          have y5:w2.cell? ⟨xb,5,none⟩=some (.int .i64 n):=kx2.c rfl
          have g0:w2.cell? ⟨cb,0,none⟩=some (.slice (some ⟨ib,io,none⟩) c.ins.length ic):=kc2.c rfl
          have g1:w2.cell? ⟨cb,1,none⟩=some (.int .i64 (R:Int)):=kc2.c rfl
          have g2:w2.cell? ⟨cb,2,none⟩=some (.int .i64 (S:Int)):=kc2.c rfl
          have g3:w2.cell? ⟨cb,3,none⟩=some (.slice oa c.outs.length oc):=kc2.c rfl
          have g4:w2.cell? ⟨cb,4,none⟩=some (.slice na c.inputs.length nc):=kc2.c rfl
          have KX2:=Lib.hid kx2
          have KC2:=Lib.hid kc2
          clear kx2 kc2
          go_wp2_with fail
          refine (hnum _).mono ?_
          rintro e W2 ⟨rfl,hb3⟩
          have B3w:=Lib.hid hb3
          clear hnum hb3 y0 y1 y2 y3 y4 y5 g0 g1 g2 g3 g4
          have BALL:=Lib.hid (below_next (below_next B1.out B2w.out) B3w.out)
          have BW2:=Lib.hid (below_next BWV.out BALL.out)
          cases B3 with
          | false =>
           go_wp2_with fail
           go_ret
           exact HNONE.out _ BW2.out (HBADP.out (by rw[HPL.out];rfl))
          | true =>
           have FW2:=Lib.hid ((HF.out.trans FV.out (fun i hi=>by cases hi)).next BALL.out)
           have S12:=Lib.hid ((FV.out.blk HS1.out (fun e=>by cases e)).below BALL.out)
           have S22:=Lib.hid ((FV.out.blk HS2.out (fun e=>by cases e)).below BALL.out)
           have KX3:=Lib.hid (KX2.out.below B3w.out)
           have KC3:=Lib.hid (KC2.out.below B3w.out)
           have HROW3:=Lib.hid (HROW.out.below (below_next B2w.out B3w.out))
           clear KX2 KC2 KX1 HROW HU
           go_wp2_with fail
           go_loopw [10] (fun iv wr=>∃ j:Nat,iv=.int .i64 j∧j≤k∧wr=W2∧((Cx.rds ⟨op,d,a,b,cc,n⟩).take j).all (fun r=>decide (r∈s.1))=true) (fun iv _=>k - (intOf iv).toNat)
           case atStart=>exact⟨0,rfl,Nat.zero_le _,rfl,rfl⟩
           case round =>
            obtain⟨j,rfl,hj,rfl,hall⟩:=hrel
            have hj0:(0:Int)≤(j:Int):=by omega
            by_cases hjk:j<k
            ·obtain⟨r,hr⟩ : ∃ r,([a,b,cc].take k)[j]?=some r:=⟨_,List.getElem?_eq_getElem (by rw[HKL.out];exact hjk)⟩
             obtain⟨lb,lo,e',c0⟩ : ∃ lb lo,ua=some ⟨lb,lo,none⟩∧wr.cell? ⟨lb,lo+j,none⟩=some (.int .i64 r):=by
              obtain⟨_,_,he,-,hx⟩:=HROW3.out.form
              injection he with he _ _
              obtain⟨b',o',e',-,-,hcl⟩:=hx wr [] (FrS.refl _ _) (fun i hi=>by cases hi) j r hr
              rw[← he] at e'
              have:=hcl 0 _ rfl
              exact⟨b',o',e',by simpa using this⟩
             subst e'
             have hjk':(j:Int)<(k:Int):=by omega
             have hwr:=written_any wr fb R s.1 HSR.out S12.out r
             have hall2:((Cx.rds ⟨op,d,a,b,cc,n⟩).take (j+1)).all (fun r=>decide (r∈s.1))=decide (r∈s.1):=by
              rw[List.take_add_one,HRDS.out,hr,← HRDS.out];simp[hall]
             have HBADR:Hid (decide (r∈s.1)=false→Cx.chk1 c.regs c.slots c.inputs.length ⟨op,d,a,b,cc,n⟩ s=none):=fun q=>by
              unfold Cx.chk1
              rw[if_neg (by rw[HPL.out];simp),if_pos]
              rw[List.all_eq_false]
              exact⟨r,by rw[HRDS.out];exact List.mem_of_getElem? hr,by rw[q];simp⟩
             generalize decide (r∈s.1)=Br at hwr hall2 HBADR
             have HALL2:=Lib.hid hall2
             clear hall hr hall2
             cases Br
             ·go_wp2_with fail
              refine hwr.mono ?_
              rintro e w9 ⟨rfl,rfl⟩
              go_wp2_with fail
              go_ret
              exact HNONE.out _ BW2.out (HBADR.out (by first | rfl | trivial))
             ·go_wp2_with fail
              refine hwr.mono ?_
              rintro e w9 ⟨rfl,rfl⟩
              go_wp2_with fail
              go_roundw
              case rel=>exact⟨j+1,by go_num,by omega,by first | rfl | trivial,HALL2.out⟩
              case measure=>simp[intOf];omega
            ·have hjk2:j=k:=by omega
             subst hjk2
             have HALL:Hid ((Cx.rds ⟨op,d,a,b,cc,n⟩).all (fun r=>decide (r∈s.1))=true):=by
              show _=_
              rw[List.take_of_length_le (by rw[HRDS.out,HKL.out];exact Nat.le_refl _)] at hall
              exact hall
             clear hall
             have y0:wr.cell? ⟨xb,0,none⟩=some (.int .i64 op):=KX3.out.c rfl
             have y1:wr.cell? ⟨xb,1,none⟩=some (.int .i64 d):=KX3.out.c rfl
             have y5:wr.cell? ⟨xb,5,none⟩=some (.int .i64 n):=KX3.out.c rfl
             have g1:wr.cell? ⟨cb,1,none⟩=some (.int .i64 (R:Int)):=KC3.out.c rfl
             have HCHK1:Hid (Cx.chk1 c.regs c.slots c.inputs.length ⟨op,d,a,b,cc,n⟩ s=if op=30 then (if n∈s.2 then none else some (s.1,n :: s.2)) else if d<0∨c.regs≤d∨(op=21∧s.2≠[]) then none else some (d :: s.1,s.2)):=by
              show _=_
              unfold Cx.chk1
              rw[if_neg (by rw[HPL.out];simp),if_neg (by rw[HALL.out];simp)]
             rw[HR.out] at HCHK1
             by_cases h30:op=30
             ·subst h30
              have hn:0≤n∧n<c.slots:=by
               have h1:=(Cx.plainS_parts (by rw[HPL.out];rfl)).2.2
               unfold Cx.numS at h1
               simpa using h1
              rw[HSL.out] at hn
              obtain⟨nn,rfl⟩:=Int.eq_ofNat_of_zero_le hn.1
              have hn1:(0:Int)≤(nn:Int):=hn.1
              have hn2:(nn:Int)<(S:Int):=hn.2
              have hn3:nn<S:=by omega
              have hlk:wr.cell? ⟨sb,nn,none⟩=some (.bool (decide ((nn:Int)∈s.2))):=S22.out.c (flags_get hn3)
              have hfz:wr.frozen? ⟨sb,nn,none⟩=false:=S22.out.z (flags_get hn3)
              have HCK:Hid (decide ((nn:Int)∈s.2)=true→Cx.chk1 c.regs c.slots c.inputs.length ⟨30,d,a,b,cc,(nn:Int)⟩ s=none):=fun q=>by rw[HR.out,HCHK1.out,if_pos rfl,if_pos (by simpa using q)]
              have HCK2:Hid (decide ((nn:Int)∈s.2)=false→Cx.chk1 c.regs c.slots c.inputs.length ⟨30,d,a,b,cc,(nn:Int)⟩ s=some (s.1,(nn:Int) :: s.2)):=fun q=>by rw[HR.out,HCHK1.out,if_pos rfl,if_neg (by simpa using q)]
              generalize decide ((nn:Int)∈s.2)=Bn at hlk HCK HCK2
              clear y1 g1 hn
              cases Bn
              ·go_wp2_with fail
               go_roundw
               case rel=>exact⟨t+1,(s.1,(nn:Int) :: s.2),true,rfl,by simp,by go_num,by omega,STEP.out.1 _ (HCK2.out (by first | rfl | trivial)),FW2.out.setCell (Or.inl (by simp)) _,S12.out.other _ NE.out.2.2.1 _,S22.out.flag nn⟩
               case measure=>simp[intOf];omega
              ·go_wp2_with fail
               go_ret
               exact HNONE.out _ BW2.out (HCK.out (by first | rfl | trivial))
             ·have e30:(op==30)=false:=by simpa using h30
              have hd:(∃ q:op=21∧s.2≠[],True)∨(¬ (op=21∧s.2≠[])∧(d<0∨((R:Int)≤d∧¬ d<0)∨(∃ dn:Nat,d=dn∧dn<R))):=by
               by_cases q:op=21∧s.2≠[]
               ·exact Or.inl ⟨q,trivial⟩
               ·right
                refine⟨q,?_⟩
                by_cases q1:d<0
                ·exact Or.inl q1
                ·by_cases q2:(R:Int)≤d
                 ·exact Or.inr (Or.inl ⟨q2,q1⟩)
                 ·obtain⟨dn,rfl⟩:=Int.eq_ofNat_of_zero_le (show 0≤d by omega)
                  exact Or.inr (Or.inr ⟨dn,rfl,by omega⟩)
              rcases hd with ⟨⟨rfl,hany⟩,-⟩ | ⟨hany,hd⟩
              ·have HC1:Hid (Cx.chk1 c.regs c.slots c.inputs.length ⟨21,d,a,b,cc,n⟩ s=none):=by show _=_;rw[HR.out,HCHK1.out,if_neg h30,if_pos (Or.inr (Or.inr ⟨rfl,hany⟩))]
               obtain rfl:B=true:=HBS.out.2 hany
               clear hany h30
               go_wp2_with fail
               go_ret
               exact HNONE.out _ BW2.out HC1.out
              ·have hgd:(op==21)=false∨(op=21∧B=false):=by
                by_cases q:op=21
                ·right
                 refine⟨q,?_⟩
                 cases hB:B with
                 | false=>rfl
                 | true=>exact absurd ⟨q,HBS.out.1 hB⟩ hany
                ·left;simpa using q
               rcases hd with hd | ⟨hd,hd1⟩ | ⟨dn,rfl,hdn⟩
               ·have HC1:Hid (Cx.chk1 c.regs c.slots c.inputs.length ⟨op,d,a,b,cc,n⟩ s=none):=by show _=_;rw[HR.out,HCHK1.out,if_neg h30,if_pos (Or.inl hd)]
                clear h30 hany
                rcases hgd with e21 | ⟨rfl,rfl⟩
                all_goals
                 go_wp2_with fail
                 go_ret
                 exact HNONE.out _ BW2.out HC1.out
               ·have HC1:Hid (Cx.chk1 c.regs c.slots c.inputs.length ⟨op,d,a,b,cc,n⟩ s=none):=by show _=_;rw[HR.out,HCHK1.out,if_neg h30,if_pos (Or.inr (Or.inl hd))]
                clear h30 hany
                rcases hgd with e21 | ⟨rfl,rfl⟩
                all_goals
                 go_wp2_with fail
                 go_ret
                 exact HNONE.out _ BW2.out HC1.out
               ·have HC1:Hid (Cx.chk1 c.regs c.slots c.inputs.length ⟨op,(dn:Int),a,b,cc,n⟩ s=some ((dn:Int) :: s.1,s.2)):=by show _=_;rw[HR.out,HCHK1.out,if_neg h30,if_neg (by rintro (q | q | q);exact absurd q (by omega);exact absurd q (by omega);exact hany q)]
                have hfz:wr.frozen? ⟨fb,dn,none⟩=false:=S12.out.z (flags_get hdn)
                have hlk:wr.cell? ⟨fb,dn,none⟩=some (.bool (decide ((dn:Int)∈s.1))):=S12.out.c (flags_get hdn)
                generalize decide ((dn:Int)∈s.1)=Bd at hlk
                have hd0:¬ (dn:Int)<0:=by omega
                have hd1:¬ (R:Int)≤(dn:Int):=by omega
                have hd2:(dn:Int)<(R:Int):=by omega
                have hd3:(0:Int)≤(dn:Int):=by omega
                clear h30 hany
                rcases hgd with e21 | ⟨rfl,rfl⟩
                all_goals
                 go_wp2_with fail
                 go_roundw
                 case rel=>exact⟨t+1,((dn:Int) :: s.1,s.2),_,rfl,HBS.out,by go_num,by omega,STEP.out.1 _ HC1.out,FW2.out.setCell (Or.inl (by simp)) _,S12.out.flag dn,S22.out.other _ (Ne.symm NE.out.2.2.1) _⟩
                 case measure=>simp[intOf];omega
       ·have hte:t=c.ins.length:=by omega
        subst hte
        have hchk:=HCHK.out
        rw[List.take_length] at hchk
        have HOK:=Lib.hid (okS_outs HSS.out hchk)
        have g3:wr.cell? ⟨cb,3,none⟩=some (.slice oa c.outs.length oc):=HKC.out.c rfl
        clear hchk
        go_wp2_with fail
        go_loopw [11] (fun iv wx=>∃ j:Nat,iv=.int .i64 j∧j≤c.outs.length∧wx=wr∧((c.outs.take j).any fun r=>!decide (r∈s.1))=false) (fun iv _=>c.outs.length - (intOf iv).toNat)
        case atStart=>exact⟨0,rfl,Nat.zero_le _,rfl,rfl⟩
        case round =>
         obtain⟨j,rfl,hj,rfl,hany⟩:=hrel
         have hj0:(0:Int)≤(j:Int):=by omega
         by_cases hjk:j<c.outs.length
         ·obtain⟨r,hr⟩ : ∃ r,c.outs[j]?=some r:=⟨_,List.getElem?_eq_getElem hjk⟩
          obtain⟨lb,lo,e',c1⟩ : ∃ lb lo,oa=some ⟨lb,lo,none⟩∧wr.cell? ⟨lb,lo+j,none⟩=some (.int .i64 r):=by
           obtain⟨_,_,he,-,hx⟩:=HO.out.form
           injection he with he _ _
           obtain⟨b',o',e',hcl⟩:=hx wr HBW.out j r hr
           rw[← he] at e'
           have:=hcl 0 _ rfl
           exact⟨b',o',e',by simpa using this⟩
          subst e'
          have hjk':(j:Int)<(c.outs.length:Int):=by omega
          have hwr:=written_any wr fb R s.1 HSR.out HS1.out r
          have hany2:((c.outs.take (j+1)).any fun r=>!decide (r∈s.1)) = !decide (r∈s.1):=by
           rw[List.take_add_one,hr];simp only[List.any_append,hany];simp
          have HBADR:Hid (decide (r∈s.1)=false→Cx.okS c=false):=fun q=>by
           rw[HOK.out]
           rw[Bool.not_eq_false']
           rw[List.any_eq_true]
           exact⟨r,List.mem_of_getElem? hr,by rw[q];rfl⟩
          generalize decide (r∈s.1)=Br at hwr hany2 HBADR
          have HANY2:=Lib.hid hany2
          clear hany hr hany2
          cases Br
          ·go_wp2_with fail
           refine hwr.mono ?_
           rintro e w9 ⟨rfl,rfl⟩
           go_wp2_with fail
           go_ret
           exact HBAD.out _ HBW.out (HBADR.out (by first | rfl | trivial))
          ·go_wp2_with fail
           refine hwr.mono ?_
           rintro e w9 ⟨rfl,rfl⟩
           go_wp2_with fail
           go_roundw
           case rel=>exact⟨j+1,by go_num,by omega,by first | rfl | trivial,HANY2.out⟩
           case measure=>simp[intOf];omega
         ·have hjk2:j=c.outs.length:=by omega
          subst hjk2
          rw[List.take_length] at hany
          have HG:Hid (Cx.okS c=true):=by show _=_;rw[HOK.out,hany];rfl
          clear hany
          go_wp2_with fail
          go_ret
          exact⟨by rw[HG.out];rfl,HBW.out⟩
end Go.Proofs.YtbdbhdcbdfbnnaaGreatDoor
