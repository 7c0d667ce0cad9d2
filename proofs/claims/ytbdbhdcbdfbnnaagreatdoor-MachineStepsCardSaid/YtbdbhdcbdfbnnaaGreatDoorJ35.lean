/- Machine: one instant, by the program: the walk. -/
import Derived.Lib.SliceRun
import Derived.Test.YtbdbhdcbdfbnnaaGreatDoorJ10
import Derived.Test.YtbdbhdcbdfbnnaaGreatDoorJ31
import Derived.Test.YtbdbhdcbdfbnnaaGreatDoorJ33
set_option linter.unusedVariables false
set_option linter.unusedSimpArgs false
namespace Go.Proofs.YtbdbhdcbdfbnnaaGreatDoor
open Go.RowKit
set_option maxRecDepth 100000
theorem regs_wiped {w:World} {rb n c:Nat} {a:Option Addr} {r:List Int} (h:RegsL w rb 0 (.slice a n c) r) (hn:r.length=n) :
  ∃ W,(∀ ty,(Builtin.clear_ #[23] ty #[.slice a n c]).run Tryz.prog w=.ok (.tuple #[]) W)∧RegsL W rb 0 (.slice a n c) (List.replicate n 0)∧(∀ S:List Nat,(0<n→rb∈S)→FrS S w W)∧W.heap.size=w.heap.size:=by
 by_cases h0:0<n
 ·have hne:r≠[]:=fun e=>by rw[e] at hn;simp at hn;omega
  obtain⟨_,_,he,-,ha,hx⟩:=h.form
  injection he with he _ _
  subst he
  obtain⟨rfl,-⟩:=ha hne
  obtain⟨k1,k2,k3⟩:=regs_cleared h hn h0
  refine⟨_,fun ty=>Lib.run_clear_slice w _ 3 ty (.int .i64 0) Tryz.underlying23 (fun w=>by kernel_rfl) rfl rfl rb 0 n c h0 (fun j hj=>?_) (fun j hj=>?_),k1,fun S hS=>k2.mono (fun i hi _=>by rw[List.mem_singleton.1 hi];exact hS h0),k3⟩
  ·rw[(hx j r[j] (List.getElem?_eq_getElem (by omega))).1];rfl
  ·exact (hx j r[j] (List.getElem?_eq_getElem (by omega))).2
 ·obtain rfl:n=0:=by omega
  refine⟨w,fun ty=>by cases a <;> simp[Builtin.clear_,run_underlying Tryz.underlying23],?_,fun S _=>FrS.refl _ _,rfl⟩
  obtain rfl:r=[]:=List.eq_nil_of_length_eq_zero hn
  exact h
set_option maxHeartbeats 2000000 in
theorem step_run {w:World} {M:List Nat} {mb rb:Nat} {c:Cx.Co} {m:Cx.Ms} (h:MachAt w M mb rb c m) (inp:List Int) (vin:Value) (hf:m.f=0) (hin:SlN intC 1 [mb,rb] w vin inp) (h64:∀ n∈inp,-9223372036854775808≤n∧n≤9223372036854775807) (hl:inp.length≤1000000) (hb:Cx.frameS c.inputs inp=true)
  (hr0:0≤c.regs∧c.regs≤100000) (hs0:0≤c.slots∧c.slots≤100000) (hsl:m.sl.length=c.slots.toNat) (hil:c.ins.length≤200000) (hol2:c.outs.length≤1000000) (hout:∀ r∈c.outs,0≤r∧r<c.regs) (hM:∀ i∈M,i<w.heap.size) (hok:∀ x∈c.ins,Cx.InOk c.regs c.slots inp.length x) (hn:∀ x∈c.ins,(x.op=1∨x.op=2→Cx.fits x.n=true)) (hsf:∀ y∈m.sl,Cx.fits y=true) (hst:0≤m.steps∧m.steps≤1000000000) :
  Calls Tryz.prog 12 #[.pointer (some ⟨mb,0,none⟩),vin] w (StepPost w M mb rb c m inp):=by
 have hc:=isFrame_any h inp vin hin.sl h64 hl
 rw[hb] at hc
 obtain⟨ia,ic,rfl,-,-⟩:=hin.form
 have HH:=Lib.hid h
 obtain⟨vi,vo,vn,vr,vs,r,k1,k2,k3,k4,k5,k6,k7⟩:=h.ex
 obtain⟨ra,rc,rfl,-,-,-⟩:=k5.form
 obtain⟨va,vc,rfl,-,-⟩:=k2.form
 rw[k6] at k1 k5
 obtain⟨sa,sc,rfl,-,-⟩:=k7.form
 have c8:w.cell? ⟨mb,8,none⟩=some (.int .i64 0):=by rw[← hf];exact k1.c rfl
 have c5:w.cell? ⟨mb,5,none⟩=some (.slice ra c.regs.toNat rc):=k1.c rfl
 have c6:w.cell? ⟨mb,6,none⟩=some (.slice sa m.sl.length sc):=k1.c rfl
 have c0:w.cell? ⟨mb,0,none⟩=some (.slice va c.ins.length vc):=k1.c rfl
 have HK1:=Lib.hid k1
 have HK2:=Lib.hid k2
 have HK3:=Lib.hid k3
 have HK4:=Lib.hid k4
 have HK5:=Lib.hid k5
 have HK6:=Lib.hid k6
 have HK7:=Lib.hid k7
 have HIN:=Lib.hid hin
 have HOK:=Lib.hid hok
 have HOUT:=Lib.hid hout
 have HM:=Lib.hid hM
 have HN:=Lib.hid hn
 have HSF:=Lib.hid hsf
 have HSL:=Lib.hid hsl
 have HF:=Lib.hid hf
 have HNE:=Lib.hid h.ne
 have HB:=Lib.hid hb
 clear h k1 k2 k3 k4 k5 k6 k7 hin h64 hb hok hn hsf hsl hf hout hM
 go_enter Tryz.func12,Tryz.ntmps12
 go_wp2_with fail
 refine hc.mono ?_
 rintro e w1 ⟨rfl,rfl⟩
 obtain⟨W,hcl,g1,g2,g3⟩:=regs_wiped HK5.out HK6.out
 have kW:Blk W mb #[.slice va c.ins.length vc,.int .i64 c.regs,.int .i64 c.slots,vo,vn,.slice ra c.regs.toNat rc,.slice sa m.sl.length sc,.int .i64 m.steps,.int .i64 m.f] 73:=by
  by_cases hr:c.regs=0
  ·exact (g2 [] (fun e=>by omega)).blk HK1.out (fun e=>by cases e)
  ·exact (g2 [rb] (fun _=>by simp)).blk HK1.out (fun e=>HH.out.ne hr (List.mem_singleton.1 e).symm)
 have gF:=g2 [mb,rb] (fun _=>by simp)
 have gM:=g2 M (fun _=>HH.out.hr)
 have hMs:∀ i ∈ [mb,rb],i∈M:=fun i hi=>by
  simp only[List.mem_cons,List.not_mem_nil,or_false] at hi
  rcases hi with rfl | rfl
  ·exact HH.out.hb
  ·exact HH.out.hr
 have HMS:=Lib.hid hMs
 have d6:W.cell? ⟨mb,6,none⟩=some (.slice sa m.sl.length sc):=kW.c rfl
 have d0:W.cell? ⟨mb,0,none⟩=some (.slice va c.ins.length vc):=kW.c rfl
 have hcc:=cloneI_any m.sl (.slice sa m.sl.length sc) W (HK7.out.fr gF hMs).sl (by have:=HSL.out;omega)
 have G1:=Lib.hid g1
 have GF:=Lib.hid gF
 have KW:=Lib.hid kW
 have G3:=Lib.hid g3
 clear g1 g2 g3 gF gM kW c8 c6 c0 hc hMs
 go_wp2_with (simp only[hcl])
 clear hcl c5
 refine hcc.mono ?_
 rintro e w2 ⟨u,rfl,hown,hbl⟩
 clear hcc
 have kw2:Blk w2 mb #[.slice va c.ins.length vc,.int .i64 c.regs,.int .i64 c.slots,vo,vn,.slice ra c.regs.toNat rc,.slice sa m.sl.length sc,.int .i64 m.steps,.int .i64 m.f] 73:=(FrS.of_below hbl []).blk KW.out (fun e=>by cases e)
 have d0':w2.cell? ⟨mb,0,none⟩=some (.slice va c.ins.length vc):=kw2.c rfl
 obtain⟨nb,hnb,hnx⟩:=RegsL.own hown rfl
 have HNB:=Lib.hid hnb
 have HNX:=Lib.hid hnx
 have G1':=Lib.hid (G1.out.below hbl)
 have KW2:=Lib.hid kw2
 have HBL:=Lib.hid hbl
 obtain⟨bs,hbs⟩ : ∃ bs,bs=(m.steps==0):=⟨_,rfl⟩
 have HBS:=Lib.hid hbs
 clear hown hbl kw2 hnb hnx d0 d6 hbs
 go_wp2_with fail
 go_loopw [54] (fun iv wr=>∃ t:Nat,iv=.int .i64 t∧t≤c.ins.length∧FrS [mb,rb] W wr∧Blk wr mb #[.slice va c.ins.length vc,.int .i64 c.regs,.int .i64 c.slots,vo,vn,.slice ra c.regs.toNat rc,.slice sa m.sl.length sc,.int .i64 m.steps,.int .i64 (Cx.runS inp m.sl bs ⟨List.replicate c.regs.toNat 0,m.sl,0⟩ (c.ins.take t)).f] 73∧RegsL wr rb 0 (.slice ra c.regs.toNat rc) (Cx.runS inp m.sl bs ⟨List.replicate c.regs.toNat 0,m.sl,0⟩ (c.ins.take t)).r∧RegsL wr nb 0 u (Cx.runS inp m.sl bs ⟨List.replicate c.regs.toNat 0,m.sl,0⟩ (c.ins.take t)).nx) (fun iv _=>c.ins.length - (intOf iv).toNat)
 case atStart=>exact⟨0,rfl,Nat.zero_le _,FrS.of_below HBL.out _,by have:=KW2.out;rw[HF.out] at this;exact this,G1'.out,HNX.out⟩
 case round =>
  obtain⟨t,rfl,ht,hF,hB,hR,hX⟩:=hrel
  have ht0:(0:Int)≤(t:Int):=by omega
  have HF1:=Lib.hid hF
  have HB1:=Lib.hid hB
  have HR1:=Lib.hid hR
  have HX1:=Lib.hid hX
  clear hF hB hR hX d0'
  by_cases hlt:t<c.ins.length
  ·obtain⟨x,hx⟩ : ∃ x,c.ins[t]?=some x:=⟨_,List.getElem?_eq_getElem hlt⟩
   have hxm:x∈c.ins:=List.mem_of_getElem? hx
   have HOKx:=Lib.hid (HOK.out x hxm)
   have HRUN:=Lib.hid (Cx.runS_at (inp:=inp) (sl:=m.sl) (first:=bs) (s:=⟨List.replicate c.regs.toNat 0,m.sl,0⟩) hx)
   have HRS:=Lib.hid (Cx.runS_ok (first:=bs) (Cx.frame_fits HB.out).2 HSF.out (l:=c.ins.take t) (fun y hy=>HN.out y (List.mem_of_mem_take hy)) (Cx.zero_ok (R:=c.regs.toNat) HSL.out HSF.out))
   generalize hs:Cx.runS inp m.sl bs ⟨List.replicate c.regs.toNat 0,m.sl,0⟩ (c.ins.take t)=s at HB1 HR1 HX1 HRUN HRS
   have hI:SlN Cx.inL 6 M wr (.slice va c.ins.length vc) c.ins:=(HK2.out.fr GF.out HMS.out).fr HF1.out HMS.out
   obtain⟨a8,_,he,-,hcell⟩:=hI.form
   obtain rfl:va=a8:=by injection he
   clear he
   obtain⟨ib,io,rfl,hib,hibM,hcl⟩:=hcell wr [] (FrS.refl _ _) (fun i hi=>by cases hi) t x hx
   have e0:wr.cell? ⟨ib,io+t * 6,none⟩=some (.int .i64 x.op):=hcl 0 _ rfl
   have e1:wr.cell? ⟨ib,io+t * 6+1,none⟩=some (.int .i64 x.d):=hcl 1 _ rfl
   have e2:wr.cell? ⟨ib,io+t * 6+2,none⟩=some (.int .i64 x.a):=hcl 2 _ rfl
   have e3:wr.cell? ⟨ib,io+t * 6+3,none⟩=some (.int .i64 x.b):=hcl 3 _ rfl
   have e4:wr.cell? ⟨ib,io+t * 6+4,none⟩=some (.int .i64 x.c):=hcl 4 _ rfl
   have e5:wr.cell? ⟨ib,io+t * 6+5,none⟩=some (.int .i64 x.n):=hcl 5 _ rfl
   clear hcl hcell hI hx hs
   by_cases h30:x.op=30
   ·obtain⟨op,xd,xa,xb,xc,xn⟩:=x
    simp only at h30
    subst h30
    have hsa:=HOKx.out.slot (Or.inr rfl)
    have hra:=HOKx.out.a (by show (1:Int)≤Cx.readsN 30;decide)
    simp only at hsa hra
    obtain⟨ai,rfl⟩:=Int.eq_ofNat_of_zero_le hra.1
    obtain⟨ni,rfl⟩:=Int.eq_ofNat_of_zero_le hsa.1
    have hrl:=HRS.out.r
    have hnl:=HRS.out.nx
    obtain⟨ua,uc,rfl,-,hua,hux⟩:=HX1.out.form
    rw[hnl] at HX1 ⊢
    have fA:FrS [] wr (wr.alloc (.cells #[.int .i64 30,.int .i64 xd,.int .i64 ai,.int .i64 xb,.int .i64 xc,.int .i64 ni] 70)):=(FrS.refl _ _).alloc _
    have bN:Blk (wr.alloc (.cells #[.int .i64 30,.int .i64 xd,.int .i64 ai,.int .i64 xb,.int .i64 xc,.int .i64 ni] 70)) wr.heap.size #[.int .i64 30,.int .i64 xd,.int .i64 ai,.int .i64 xb,.int .i64 xc,.int .i64 ni] 70:=heap_alloc_new _ _
    obtain⟨V,hV⟩ : ∃ V,V=wr.alloc (.cells #[.int .i64 30,.int .i64 xd,.int .i64 ai,.int .i64 xb,.int .i64 xc,.int .i64 ni] 70):=⟨_,rfl⟩
    rw[← hV] at fA bN
    have kB:=fA.blk HB1.out (fun e=>by cases e)
    have kR:=HR1.out.fr fA (fun _ e=>by cases e)
    have kX:=HX1.out.fr fA (fun _ e=>by cases e)
    obtain⟨a9,_,he,-,hra2,hrx⟩:=kR.form
    obtain rfl:ra=a9:=by injection he
    clear he
    obtain⟨a9,_,he,-,hua2,hux2⟩:=kX.form
    obtain rfl:ua=a9:=by injection he
    clear he
    have hai:ai<s.r.length:=by rw[hrl];omega
    have hni:ni<s.nx.length:=by rw[hnl];omega
    obtain⟨cr,-⟩:=hrx ai s.r[ai] (List.getElem?_eq_getElem hai)
    obtain⟨cn,zn⟩:=hux2 ni s.nx[ni] (List.getElem?_eq_getElem hni)
    obtain⟨rfl,-⟩:=hra2 (List.ne_nil_of_length_pos (by omega))
    obtain⟨rfl,-⟩:=hua2 (List.ne_nil_of_length_pos (by omega))
    have c5:V.cell? ⟨mb,5,none⟩=some (.slice (some ⟨rb,0,none⟩) c.regs.toNat rc):=kB.c rfl
    have n0:V.cell? ⟨wr.heap.size,0,none⟩=some (.int .i64 30):=bN.c rfl
    have n2:V.cell? ⟨wr.heap.size,2,none⟩=some (.int .i64 ai):=bN.c rfl
    have n5:V.cell? ⟨wr.heap.size,5,none⟩=some (.int .i64 ni):=bN.c rfl
    have hai2:(ai:Int)<(c.regs.toNat:Int):=by omega
    have hni2:(ni:Int)<(c.slots.toNat:Int):=by omega
    have HNI:=Lib.hid hni
    have HAI:=Lib.hid hai
    have hgd:Hid (s.r.getD ai 0=s.r[ai]):=by show _=_;rw[List.getD_eq_getElem?_getD,List.getElem?_eq_getElem hai];rfl
    generalize s.r[ai]=y at cr hgd
    generalize s.nx[ni]=y0 at cn
    have HKB:=Lib.hid kB
    have HKR:=Lib.hid kR
    have HKX:=Lib.hid kX
    have HFA:=Lib.hid fA
    have HV:=Lib.hid hV
    clear hrx hux hua hrl hnl hra2 hua2 hux2 hsa hra hni hai kB kR kX fA bN
    go_wp2_with fail
    clear e0 e1 e2 e3 e4 e5
    rw[← hV]
    clear hV
    generalize wr.heap.size=nz at n0 n2 n5 ⊢
    rw[Nat.zero_add] at cr cn zn
    have hai0:(0:Int)≤(ai:Int):=by omega
    have hni0:(0:Int)≤(ni:Int):=by omega
    obtain⟨R,hR⟩ : ∃ R,R=c.regs.toNat:=⟨_,rfl⟩
    obtain⟨S,hS⟩ : ∃ S,S=c.slots.toNat:=⟨_,rfl⟩
    rw[← hR] at hai2 c5 ⊢
    rw[← hS] at hni2 ⊢
    have HR2:=Lib.hid hR
    have HS2:=Lib.hid hS
    clear hR hS
    go_still_tail 12,(by kernel_rfl)
    go_wp2_with fail
    have hR:=HR2.out
    have hS:=HS2.out
    subst hR hS
    clear hai2 hni2 c5 n0 n2 n5
    go_roundw
    case rel =>
     have hse:m.sl≠[]:=fun e=>by
      have h1:=HSL.out
      have h2:=HNI.out
      have h3:=HRS.out.nx
      rw[e] at h1
      simp at h1
      omega
     have hWb:=HNB.out hse
     have hmW:=KW.out.lt
     have hmn:mb≠nb:=by omega
     have hFV:FrS [mb,rb] W V:=HF1.out.trans HFA.out (fun i hi=>by cases hi)
     have e1:Cx.run1 inp m.sl bs s ⟨30,xd,ai,xb,xc,ni⟩ = { s with nx:=s.nx.set ni y }:=by
      unfold Cx.run1
      rw[if_pos rfl]
      show Cx.Rs.mk s.r (s.nx.set ni (s.r.getD ai 0)) s.f=_
      rw[hgd.out]
     refine⟨t+1,by go_num,by omega,(hFV.setCell (Or.inr hWb) _).drew,?_,?_,?_⟩
     ·rw[HRUN.out,e1]
      exact ((FrS.refl [nb] V).setCell (Or.inl (by simp)) _).blk HKB.out (fun e=>hmn (List.mem_singleton.1 e))
     ·rw[HRUN.out,e1]
      refine HKR.out.other (fun q=>?_) ni _
      have h1:=G1.out.lt (fun e=>q (List.eq_nil_of_length_eq_zero (by rw[HRS.out.r];simpa using congrArg List.length e)))
      omega
     ·rw[HRUN.out,e1]
      have h1:=HKX.out.set ni y
      rw[Nat.zero_add] at h1
      exact h1
    case measure=>simp[intOf];omega
   ·have hd:=HOKx.out.d h30
    obtain⟨op,xd,xa,xb,xc,xn⟩:=x
    simp only at h30 hd
    obtain⟨di,rfl⟩:=Int.eq_ofNat_of_zero_le hd.1
    have hrl:=HRS.out.r
    have fA:FrS [] wr (wr.alloc (.cells #[.int .i64 op,.int .i64 di,.int .i64 xa,.int .i64 xb,.int .i64 xc,.int .i64 xn] 70)):=(FrS.refl _ _).alloc _
    have bN:Blk (wr.alloc (.cells #[.int .i64 op,.int .i64 di,.int .i64 xa,.int .i64 xb,.int .i64 xc,.int .i64 xn] 70)) wr.heap.size #[.int .i64 op,.int .i64 di,.int .i64 xa,.int .i64 xb,.int .i64 xc,.int .i64 xn] 70:=heap_alloc_new _ _
    obtain⟨V,hV⟩ : ∃ V,V=wr.alloc (.cells #[.int .i64 op,.int .i64 di,.int .i64 xa,.int .i64 xb,.int .i64 xc,.int .i64 xn] 70):=⟨_,rfl⟩
    rw[← hV] at fA bN
    have kB:=fA.blk HB1.out (fun e=>by cases e)
    have kR:=HR1.out.fr fA (fun _ e=>by cases e)
    have kX:=HX1.out.fr fA (fun _ e=>by cases e)
    have hWV:FrS [mb,rb] W V:=HF1.out.trans fA (fun i hi=>by cases hi)
    have kS:SlN intC 1 M V (.slice sa m.sl.length sc) m.sl:=(HK7.out.fr GF.out HMS.out).fr hWV HMS.out
    have kI:SlN intC 1 [mb,rb] V (.slice ia inp.length ic) inp:=(HIN.out.fr GF.out (fun i hi=>hi)).fr hWV (fun i hi=>hi)
    have hD:DoAt V mb rb s.r m.sl inp m.steps (.slice ia inp.length ic):=⟨⟨_,_,_,_,_,_,_,_,kB,kR,kS.sl⟩,kI.sl⟩
    have hcall:=do_any hD ⟨op,di,xa,xb,xc,xn⟩ (by
     have h1:=HOKx.out
     have h2:((s.r.length:Nat):Int)=c.regs:=by rw[hrl];omega
     have h3:((m.sl.length:Nat):Int)=c.slots:=by rw[HSL.out];omega
     rw[h2,h3]
     exact h1) h30 HRS.out.rf
    rw[← HBS.out] at hcall
    have HRUN2:Hid (Cx.run1 inp m.sl bs s ⟨op,di,xa,xb,xc,xn⟩ = { s with r:=s.r.set di (Cx.madeS ⟨op,di,xa,xb,xc,xn⟩ inp s.r m.sl bs).1,f:=Cx.least s.f (Cx.madeS ⟨op,di,xa,xb,xc,xn⟩ inp s.r m.sl bs).2 }):=by
     show _=_
     unfold Cx.run1
     rw[if_neg h30]
     rfl
    have herr:=Cx.madeS_err ⟨op,di,xa,xb,xc,xn⟩ inp s.r m.sl bs
    simp only at hcall
    generalize (Cx.madeS ⟨op,di,xa,xb,xc,xn⟩ inp s.r m.sl bs).1=y at hcall HRUN2
    generalize (Cx.madeS ⟨op,di,xa,xb,xc,xn⟩ inp s.r m.sl bs).2=er at hcall HRUN2 herr
    have HKB:=Lib.hid kB
    have HKR:=Lib.hid kR
    have HKX:=Lib.hid kX
    have HWV:=Lib.hid hWV
    have HBN:=Lib.hid bN
    have HV:=Lib.hid hV
    have HRL:=Lib.hid hrl
    have HD2:=Lib.hid hd
    clear hrl hd kB kR kX fA bN hWV kS kI hD
    go_wp2_with fail
    clear e0 e1 e2 e3 e4 e5
    rw[← hV]
    clear hV
    refine hcall.mono ?_
    rintro e w3 ⟨rfl,hbl3⟩
    clear hcall
    have hb3:FrS [] V w3:=FrS.of_below hbl3 _
    have kB3:=hb3.blk HKB.out (fun e=>by cases e)
    have kR3:=HKR.out.fr hb3 (fun _ e=>by cases e)
    have kX3:=HKX.out.fr hb3 (fun _ e=>by cases e)
    have kN3:=hb3.blk HBN.out (fun e=>by cases e)
    have hW3:FrS [mb,rb] W w3:=HWV.out.trans hb3 (fun i hi=>by cases hi)
    have c8:w3.cell? ⟨mb,8,none⟩=some (.int .i64 s.f):=kB3.c rfl
    have z8:w3.frozen? ⟨mb,8,none⟩=false:=kB3.z (v:=.int .i64 s.f) rfl
    have HKB3:=Lib.hid kB3
    have HKR3:=Lib.hid kR3
    have HKX3:=Lib.hid kX3
    have HKN3:=Lib.hid kN3
    have HW3:=Lib.hid hW3
    clear kB3 kR3 kX3 kN3 hW3 hb3 hbl3
    have HU:Hid (∀ (F:Int) (U:World),(U=w3∧F=s.f∨U=w3.setCell ⟨mb,8,none⟩ (.int .i64 F))→Blk U mb #[.slice (some ⟨ib,io,none⟩) c.ins.length vc,.int .i64 c.regs,.int .i64 c.slots,vo,vn,.slice ra c.regs.toNat rc,.slice sa m.sl.length sc,.int .i64 m.steps,.int .i64 F] 73∧RegsL U rb 0 (.slice ra c.regs.toNat rc) s.r∧RegsL U nb 0 u s.nx∧Blk U wr.heap.size #[.int .i64 op,.int .i64 di,.int .i64 xa,.int .i64 xb,.int .i64 xc,.int .i64 xn] 70∧FrS [mb,rb] W U):=by
     rintro F U (⟨rfl,rfl⟩ | rfl)
     ·exact⟨HKB3.out,HKR3.out,HKX3.out,HKN3.out,HW3.out⟩
     ·have hmW:=KW.out.lt
      have hmwr:=HB1.out.lt
      refine⟨HKB3.out.puti 8 (.int .i64 F),HKR3.out.other (fun q=>?_) 8 _,HKX3.out.other (fun q=>?_) 8 _,((FrS.refl [mb] w3).setCell (Or.inl (by simp)) _).blk HKN3.out (fun e=>by have:=List.mem_singleton.1 e;omega),HW3.out.setCell (Or.inl (by simp)) _⟩
      ·have h1:=HD2.out
       exact HNE.out (by omega)
      ·have hse:m.sl≠[]:=fun e=>q (List.eq_nil_of_length_eq_zero (by rw[HRS.out.nx,← HSL.out,e];rfl))
       have:=HNB.out hse
       omega
    clear HKB3 HKR3 HKX3 HKN3 HW3
    by_cases he0:er=0
    ·subst he0
     go_wp2_with fail
     have HL:Hid (Cx.least s.f 0=s.f):=by
      show _=_
      unfold Cx.least
      rw[if_neg (by simp)]
     obtain⟨kB,kR,kX,kN,kW⟩:=HU.out s.f w3 (Or.inl ⟨rfl,rfl⟩)
     generalize w3=U at kB kR kX kN kW ⊢
     clear c8 z8
     obtain⟨a9,_,he,-,hra2,hrx⟩:=kR.form
     obtain rfl:ra=a9:=by injection he
     clear he
     have hdi:di<s.r.length:=by have:=HRL.out;have:=HD2.out;omega
     obtain⟨cr,zr⟩:=hrx di s.r[di] (List.getElem?_eq_getElem hdi)
     obtain⟨rfl,-⟩:=hra2 (List.ne_nil_of_length_pos (by omega))
     have c5:U.cell? ⟨mb,5,none⟩=some (.slice (some ⟨rb,0,none⟩) c.regs.toNat rc):=kB.c rfl
     have n1:U.cell? ⟨wr.heap.size,1,none⟩=some (.int .i64 di):=kN.c rfl
     have hdi2:(di:Int)<(c.regs.toNat:Int):=by have:=HRL.out;omega
     have hdi0:(0:Int)≤(di:Int):=by omega
     generalize s.r[di]=y0 at cr
     have HKB:=Lib.hid kB
     have HKR:=Lib.hid kR
     have HKX:=Lib.hid kX
     have HKW:=Lib.hid kW
     clear kB kR kX kN kW hrx hra2 hdi
     generalize wr.heap.size=nz at n1 ⊢
     obtain⟨R,hR⟩ : ∃ R,R=c.regs.toNat:=⟨_,rfl⟩
     rw[← hR] at hdi2 c5 ⊢
     have HR2:=Lib.hid hR
     clear hR
     rw[Nat.zero_add] at cr zr
     go_still_tail 8,(by kernel_rfl)
     go_wp2_with fail
     have hR:=HR2.out
     subst hR
     clear hdi2 c5 n1
     go_roundw
     case rel =>
      have hrl2:rb<W.heap.size:=G1.out.lt (fun e=>by have h1:=HD2.out;have:=congrArg List.length e;simp at this;omega)
      have hrb:(m.sl≠[]→rb≠nb)∧rb ∈ [mb,rb]∧mb≠rb:=⟨fun hse=>by have:=HNB.out hse;omega,by simp,fun e=>HNE.out (by have h1:=HD2.out;omega) e.symm⟩
      refine⟨t+1,by go_num,by omega,(HKW.out.setCell (Or.inl hrb.2.1) _).drew,?_,?_,?_⟩
      ·rw[HRUN.out,HRUN2.out,HL.out]
       exact ((FrS.refl [rb] U).setCell (Or.inl (by simp)) _).blk HKB.out (fun e=>hrb.2.2 (List.mem_singleton.1 e))
      ·rw[HRUN.out,HRUN2.out]
       have h1:=HKR.out.set di y
       rw[Nat.zero_add] at h1
       exact h1
      ·rw[HRUN.out,HRUN2.out]
       refine HKX.out.other (fun q=>?_) di _
       exact fun e=>hrb.1 (fun e2=>q (List.eq_nil_of_length_eq_zero (by show s.nx.length=0;rw[HRS.out.nx,← HSL.out,e2];rfl))) e.symm
     case measure=>simp[intOf];omega
    ·have heb:(er != 0)=true:=by simpa using he0
     by_cases hf0:s.f=0
     ·go_wp2_with fail
      have HL:Hid (Cx.least s.f er=er):=by
       show _=_
       unfold Cx.least
       rw[if_pos ⟨he0,Or.inl hf0⟩]
      obtain⟨kB,kR,kX,kN,kW⟩:=HU.out er (w3.setCell ⟨mb,8,none⟩ (.int .i64 er)) (Or.inr rfl)
      generalize (w3.setCell ⟨mb,8,none⟩ (.int .i64 er))=U at kB kR kX kN kW ⊢
      clear c8 z8
      obtain⟨a9,_,he,-,hra2,hrx⟩:=kR.form
      obtain rfl:ra=a9:=by injection he
      clear he
      have hdi:di<s.r.length:=by have:=HRL.out;have:=HD2.out;omega
      obtain⟨cr,zr⟩:=hrx di s.r[di] (List.getElem?_eq_getElem hdi)
      obtain⟨rfl,-⟩:=hra2 (List.ne_nil_of_length_pos (by omega))
      have c5:U.cell? ⟨mb,5,none⟩=some (.slice (some ⟨rb,0,none⟩) c.regs.toNat rc):=kB.c rfl
      have n1:U.cell? ⟨wr.heap.size,1,none⟩=some (.int .i64 di):=kN.c rfl
      have hdi2:(di:Int)<(c.regs.toNat:Int):=by have:=HRL.out;omega
      have hdi0:(0:Int)≤(di:Int):=by omega
      generalize s.r[di]=y0 at cr
      have HKB:=Lib.hid kB
      have HKR:=Lib.hid kR
      have HKX:=Lib.hid kX
      have HKW:=Lib.hid kW
      clear kB kR kX kN kW hrx hra2 hdi
      generalize wr.heap.size=nz at n1 ⊢
      obtain⟨R,hR⟩ : ∃ R,R=c.regs.toNat:=⟨_,rfl⟩
      rw[← hR] at hdi2 c5 ⊢
      have HR2:=Lib.hid hR
      clear hR
      rw[Nat.zero_add] at cr zr
      go_still_tail 8,(by kernel_rfl)
      go_wp2_with fail
      have hR:=HR2.out
      subst hR
      clear hdi2 c5 n1
      go_roundw
      case rel =>
       have hrl2:rb<W.heap.size:=G1.out.lt (fun e=>by have h1:=HD2.out;have:=congrArg List.length e;simp at this;omega)
       have hrb:(m.sl≠[]→rb≠nb)∧rb ∈ [mb,rb]∧mb≠rb:=⟨fun hse=>by have:=HNB.out hse;omega,by simp,fun e=>HNE.out (by have h1:=HD2.out;omega) e.symm⟩
       refine⟨t+1,by go_num,by omega,(HKW.out.setCell (Or.inl hrb.2.1) _).drew,?_,?_,?_⟩
       ·rw[HRUN.out,HRUN2.out,HL.out]
        exact ((FrS.refl [rb] U).setCell (Or.inl (by simp)) _).blk HKB.out (fun e=>hrb.2.2 (List.mem_singleton.1 e))
       ·rw[HRUN.out,HRUN2.out]
        have h1:=HKR.out.set di y
        rw[Nat.zero_add] at h1
        exact h1
       ·rw[HRUN.out,HRUN2.out]
        refine HKX.out.other (fun q=>?_) di _
        exact fun e=>hrb.1 (fun e2=>q (List.eq_nil_of_length_eq_zero (by show s.nx.length=0;rw[HRS.out.nx,← HSL.out,e2];rfl))) e.symm
      case measure=>simp[intOf];omega
     ·have hfb:(s.f==0)=false:=by simpa using hf0
      by_cases hlt2:er<s.f
      ·go_wp2_with fail
       have HL:Hid (Cx.least s.f er=er):=by
        show _=_
        unfold Cx.least
        rw[if_pos ⟨he0,Or.inr hlt2⟩]
       obtain⟨kB,kR,kX,kN,kW⟩:=HU.out er (w3.setCell ⟨mb,8,none⟩ (.int .i64 er)) (Or.inr rfl)
       generalize (w3.setCell ⟨mb,8,none⟩ (.int .i64 er))=U at kB kR kX kN kW ⊢
       clear c8 z8
       obtain⟨a9,_,he,-,hra2,hrx⟩:=kR.form
       obtain rfl:ra=a9:=by injection he
       clear he
       have hdi:di<s.r.length:=by have:=HRL.out;have:=HD2.out;omega
       obtain⟨cr,zr⟩:=hrx di s.r[di] (List.getElem?_eq_getElem hdi)
       obtain⟨rfl,-⟩:=hra2 (List.ne_nil_of_length_pos (by omega))
       have c5:U.cell? ⟨mb,5,none⟩=some (.slice (some ⟨rb,0,none⟩) c.regs.toNat rc):=kB.c rfl
       have n1:U.cell? ⟨wr.heap.size,1,none⟩=some (.int .i64 di):=kN.c rfl
       have hdi2:(di:Int)<(c.regs.toNat:Int):=by have:=HRL.out;omega
       have hdi0:(0:Int)≤(di:Int):=by omega
       generalize s.r[di]=y0 at cr
       have HKB:=Lib.hid kB
       have HKR:=Lib.hid kR
       have HKX:=Lib.hid kX
       have HKW:=Lib.hid kW
       clear kB kR kX kN kW hrx hra2 hdi
       generalize wr.heap.size=nz at n1 ⊢
       obtain⟨R,hR⟩ : ∃ R,R=c.regs.toNat:=⟨_,rfl⟩
       rw[← hR] at hdi2 c5 ⊢
       have HR2:=Lib.hid hR
       clear hR
       rw[Nat.zero_add] at cr zr
       go_still_tail 8,(by kernel_rfl)
       go_wp2_with fail
       have hR:=HR2.out
       subst hR
       clear hdi2 c5 n1
       go_roundw
       case rel =>
        have hrl2:rb<W.heap.size:=G1.out.lt (fun e=>by have h1:=HD2.out;have:=congrArg List.length e;simp at this;omega)
        have hrb:(m.sl≠[]→rb≠nb)∧rb ∈ [mb,rb]∧mb≠rb:=⟨fun hse=>by have:=HNB.out hse;omega,by simp,fun e=>HNE.out (by have h1:=HD2.out;omega) e.symm⟩
        refine⟨t+1,by go_num,by omega,(HKW.out.setCell (Or.inl hrb.2.1) _).drew,?_,?_,?_⟩
        ·rw[HRUN.out,HRUN2.out,HL.out]
         exact ((FrS.refl [rb] U).setCell (Or.inl (by simp)) _).blk HKB.out (fun e=>hrb.2.2 (List.mem_singleton.1 e))
        ·rw[HRUN.out,HRUN2.out]
         have h1:=HKR.out.set di y
         rw[Nat.zero_add] at h1
         exact h1
        ·rw[HRUN.out,HRUN2.out]
         refine HKX.out.other (fun q=>?_) di _
         exact fun e=>hrb.1 (fun e2=>q (List.eq_nil_of_length_eq_zero (by show s.nx.length=0;rw[HRS.out.nx,← HSL.out,e2];rfl))) e.symm
       case measure=>simp[intOf];omega
      ·go_wp2_with fail
       have HL:Hid (Cx.least s.f er=s.f):=by
        show _=_
        unfold Cx.least
        rw[if_neg (by omega)]
       obtain⟨kB,kR,kX,kN,kW⟩:=HU.out s.f w3 (Or.inl ⟨rfl,rfl⟩)
       generalize w3=U at kB kR kX kN kW ⊢
       clear c8 z8
       obtain⟨a9,_,he,-,hra2,hrx⟩:=kR.form
       obtain rfl:ra=a9:=by injection he
       clear he
       have hdi:di<s.r.length:=by have:=HRL.out;have:=HD2.out;omega
       obtain⟨cr,zr⟩:=hrx di s.r[di] (List.getElem?_eq_getElem hdi)
       obtain⟨rfl,-⟩:=hra2 (List.ne_nil_of_length_pos (by omega))
       have c5:U.cell? ⟨mb,5,none⟩=some (.slice (some ⟨rb,0,none⟩) c.regs.toNat rc):=kB.c rfl
       have n1:U.cell? ⟨wr.heap.size,1,none⟩=some (.int .i64 di):=kN.c rfl
       have hdi2:(di:Int)<(c.regs.toNat:Int):=by have:=HRL.out;omega
       have hdi0:(0:Int)≤(di:Int):=by omega
       generalize s.r[di]=y0 at cr
       have HKB:=Lib.hid kB
       have HKR:=Lib.hid kR
       have HKX:=Lib.hid kX
       have HKW:=Lib.hid kW
       clear kB kR kX kN kW hrx hra2 hdi
       generalize wr.heap.size=nz at n1 ⊢
       obtain⟨R,hR⟩ : ∃ R,R=c.regs.toNat:=⟨_,rfl⟩
       rw[← hR] at hdi2 c5 ⊢
       have HR2:=Lib.hid hR
       clear hR
       rw[Nat.zero_add] at cr zr
       go_still_tail 8,(by kernel_rfl)
       go_wp2_with fail
       have hR:=HR2.out
       subst hR
       clear hdi2 c5 n1
       go_roundw
       case rel =>
        have hrl2:rb<W.heap.size:=G1.out.lt (fun e=>by have h1:=HD2.out;have:=congrArg List.length e;simp at this;omega)
        have hrb:(m.sl≠[]→rb≠nb)∧rb ∈ [mb,rb]∧mb≠rb:=⟨fun hse=>by have:=HNB.out hse;omega,by simp,fun e=>HNE.out (by have h1:=HD2.out;omega) e.symm⟩
        refine⟨t+1,by go_num,by omega,(HKW.out.setCell (Or.inl hrb.2.1) _).drew,?_,?_,?_⟩
        ·rw[HRUN.out,HRUN2.out,HL.out]
         exact ((FrS.refl [rb] U).setCell (Or.inl (by simp)) _).blk HKB.out (fun e=>hrb.2.2 (List.mem_singleton.1 e))
        ·rw[HRUN.out,HRUN2.out]
         have h1:=HKR.out.set di y
         rw[Nat.zero_add] at h1
         exact h1
        ·rw[HRUN.out,HRUN2.out]
         refine HKX.out.other (fun q=>?_) di _
         exact fun e=>hrb.1 (fun e2=>q (List.eq_nil_of_length_eq_zero (by show s.nx.length=0;rw[HRS.out.nx,← HSL.out,e2];rfl))) e.symm
       case measure=>simp[intOf];omega
  ·have hte:t=c.ins.length:=by omega
   subst hte
   rw[List.take_length] at HB1 HR1 HX1
   have HRS:=Lib.hid (Cx.runS_ok (first:=bs) (Cx.frame_fits HB.out).2 HSF.out (l:=c.ins) (fun y hy=>HN.out y hy) (Cx.zero_ok (R:=c.regs.toNat) HSL.out HSF.out))
   have HST:Hid (Cx.stepS c m inp=_):=(by show _=_;unfold Cx.stepS;rw[if_neg (by rw[HF.out];simp),if_neg (by rw[HB.out];simp)] : Cx.stepS c m inp=if (Cx.runS inp m.sl (m.steps==0) ⟨List.replicate c.regs.toNat 0,m.sl,0⟩ c.ins).f≠0 then ([],{ m with f:=(Cx.runS inp m.sl (m.steps==0) ⟨List.replicate c.regs.toNat 0,m.sl,0⟩ c.ins).f }) else (c.outs.map fun r=>(Cx.runS inp m.sl (m.steps==0) ⟨List.replicate c.regs.toNat 0,m.sl,0⟩ c.ins).r.getD r.toNat 0,⟨(Cx.runS inp m.sl (m.steps==0) ⟨List.replicate c.regs.toNat 0,m.sl,0⟩ c.ins).nx,m.steps+1,0⟩))
   rw[← HBS.out] at HST
   generalize Cx.runS inp m.sl bs ⟨List.replicate c.regs.toNat 0,m.sl,0⟩ c.ins=s at HB1 HR1 HX1 HRS HST
   have c8:wr.cell? ⟨mb,8,none⟩=some (.int .i64 s.f):=HB1.out.c rfl
   by_cases hf0:s.f=0
   ·have c6:wr.cell? ⟨mb,6,none⟩=some (.slice sa m.sl.length sc):=HB1.out.c rfl
    have z6:wr.frozen? ⟨mb,6,none⟩=false:=HB1.out.z (v:=.slice sa m.sl.length sc) rfl
    have c7:wr.cell? ⟨mb,7,none⟩=some (.int .i64 m.steps):=HB1.out.c rfl
    have z7:wr.frozen? ⟨mb,7,none⟩=false:=HB1.out.z (v:=.int .i64 m.steps) rfl
    obtain⟨oa,oc,rfl,-,-⟩:=HK3.out.form
    obtain⟨ua,uc,rfl,-,-,-⟩:=HX1.out.form
    have c3:wr.cell? ⟨mb,3,none⟩=some (.slice oa c.outs.length oc):=HB1.out.c rfl
    have hwr:wrap64 (m.steps+1)=m.steps+1:=by unfold wrap64;omega
    have fU:FrS [mb,rb] W ((wr.setCell ⟨mb,6,none⟩ (.slice ua s.nx.length uc)).setCell ⟨mb,7,none⟩ (.int .i64 (m.steps+1))):=(HF1.out.setCell (Or.inl (by simp)) _).setCell (Or.inl (by simp)) _
    have kU:Blk ((wr.setCell ⟨mb,6,none⟩ (.slice ua s.nx.length uc)).setCell ⟨mb,7,none⟩ (.int .i64 (m.steps+1))) mb #[.slice va c.ins.length vc,.int .i64 c.regs,.int .i64 c.slots,.slice oa c.outs.length oc,vn,.slice ra c.regs.toNat rc,.slice ua s.nx.length uc,.int .i64 (m.steps+1),.int .i64 0] 73:=by
     have:=(HB1.out.puti 6 (.slice ua s.nx.length uc)).puti 7 (.int .i64 (m.steps+1))
     rw[hf0] at this
     exact this
    have rU:RegsL ((wr.setCell ⟨mb,6,none⟩ (.slice ua s.nx.length uc)).setCell ⟨mb,7,none⟩ (.int .i64 (m.steps+1))) rb 0 (.slice ra c.regs.toNat rc) s.r:=by
     have hne:s.r≠[]→rb≠mb:=fun q=>HNE.out fun e=>q (List.eq_nil_of_length_eq_zero (by rw[HRS.out.r,e];rfl))
     exact (HR1.out.other hne 6 _).other hne 7 _
    have xU:RegsL ((wr.setCell ⟨mb,6,none⟩ (.slice ua s.nx.length uc)).setCell ⟨mb,7,none⟩ (.int .i64 (m.steps+1))) nb 0 (.slice ua s.nx.length uc) s.nx:=by
     have hne:s.nx≠[]→nb≠mb:=fun q=>by
      have hse:m.sl≠[]:=fun e=>q (List.eq_nil_of_length_eq_zero (by rw[HRS.out.nx,← HSL.out,e];rfl))
      have h1:=HNB.out hse
      have h2:=KW.out.lt
      omega
     exact (HX1.out.other hne 6 _).other hne 7 _
    go_wp2_with fail
    clear c8 c6 z6 c7 z7 c3
    generalize (wr.setCell ⟨mb,6,none⟩ (.slice ua s.nx.length uc)).setCell ⟨mb,7,none⟩ (.int .i64 (m.steps+1))=U at fU kU rU xU ⊢
    have oU:SlN intC 1 M U (.slice oa c.outs.length oc) c.outs:=(HK3.out.fr GF.out HMS.out).fr fU HMS.out
    have FU:=Lib.hid fU
    have KU:=Lib.hid kU
    have RU:=Lib.hid rU
    have XU:=Lib.hid xU
    have OU:=Lib.hid oU
    have HNX2:=Lib.hid HRS.out.nx
    have HRL2:=Lib.hid HRS.out.r
    clear fU kU rU xU oU
    obtain⟨ol,hol⟩ : ∃ ol,ol=c.outs.length:=⟨_,rfl⟩
    rw[← hol]
    have HOL:=Lib.hid hol
    have HWR:=Lib.hid hwr
    have HF0:=Lib.hid hf0
    rw[← hol] at hol2
    clear hol hwr
    go_loopw [11,136] (fun out iv w3=>∃ t:Nat,iv=.int .i64 t∧t≤ol∧FrS [] U w3∧w3.ownsRow U.heap.size 3 1 out t (((c.outs.take t).map fun r=>s.r.getD r.toNat 0).flatMap intC)) (fun _ iv _=>ol - (intOf iv).toNat)
    case atStart=>exact⟨0,rfl,Nat.zero_le _,FrS.refl _ _,World.ownsRow_nil _ _ _ _⟩
    case round =>
     obtain⟨t,rfl,ht,hF,hrow⟩:=hrel
     have ht0:(0:Int)≤(t:Int):=by omega
     by_cases hlt:t<ol
     ·obtain⟨r,hr⟩ : ∃ r,c.outs[t]?=some r:=⟨_,List.getElem?_eq_getElem (by have:=HOL.out;omega)⟩
      have hrg:=HOUT.out r (List.mem_of_getElem? hr)
      obtain⟨ri,rfl⟩:=Int.eq_ofNat_of_zero_le hrg.1
      have hri:ri<s.r.length:=by rw[HRL2.out];omega
      obtain⟨a9,_,he,-,hox⟩:=OU.out.form
      obtain rfl:oa=a9:=by injection he
      clear he
      obtain⟨ob,oo,rfl,-,-,hoc⟩:=hox wr [] hF (fun i hi=>by cases hi) t _ hr
      have co:wr.cell? ⟨ob,oo+t,none⟩=some (.int .i64 ri):=by have:=hoc 0 _ rfl;simpa using this
      have k3:=hF.blk KU.out (fun e=>by cases e)
      have r3:=RU.out.fr hF (fun _ e=>by cases e)
      obtain⟨a9,_,he,-,hra,hrx⟩:=r3.form
      obtain rfl:ra=a9:=by injection he
      clear he
      obtain⟨cr,-⟩:=hrx ri s.r[ri] (List.getElem?_eq_getElem hri)
      obtain⟨rfl,-⟩:=hra (List.ne_nil_of_length_pos (by omega))
      have c5:wr.cell? ⟨mb,5,none⟩=some (.slice (some ⟨rb,0,none⟩) c.regs.toNat rc):=k3.c rfl
      rw[Nat.zero_add] at cr
      have hgd:Hid (s.r.getD ri 0=s.r[ri]):=by show _=_;rw[List.getD_eq_getElem?_getD,List.getElem?_eq_getElem hri];rfl
      generalize s.r[ri]=y at cr hgd
      have hri2:(ri:Int)<(c.regs.toNat:Int):=by omega
      have hri0:(0:Int)≤(ri:Int):=by omega
      have htl:(t:Int)<(ol:Int):=by omega
      have h5:Hid (((c.outs.take (t+1)).map fun r=>s.r.getD r.toNat 0).flatMap intC=((c.outs.take t).map fun r=>s.r.getD r.toNat 0).flatMap intC++[.int .i64 y]):=by
       show _=_
       rw[List.take_add_one,hr]
       simp only[Option.toList_some,List.map_append,List.flatMap_append,List.map_cons,List.map_nil,List.flatMap_cons,List.flatMap_nil,List.append_nil,Int.toNat_natCast,hgd.out]
       rfl
      have hnb:(wr.alloc (.cells #[.int .i64 y] 3)).heap[wr.heap.size]?=some (.cells #[.int .i64 y] 3 (0,0)):=heap_alloc_new wr (.cells #[.int .i64 y] 3)
      have hbs:=hF.size
      have HF3:=Lib.hid hF
      have HU:=Lib.hid hrow.lt
      obtain⟨R,hR⟩ : ∃ R,R=c.regs.toNat:=⟨_,rfl⟩
      rw[← hR] at hri2 c5 ⊢
      clear hrg hri hox hoc k3 r3 hra hrx hr hF hR
      generalize ((c.outs.take t).map fun r=>s.r.getD r.toNat 0).flatMap intC=row at hrow h5
      go_wp2_with (at_builtin;refine wpList_app rowIM rfl _ _ rfl U.heap.size _ _ _ rfl (World.ownsRow.alloc hrow _) ⟨wr.heap.size,0,none⟩ 1 [.int .i64 y] rfl rfl (World.news_of_block hnb) (by simp[Value.oneCell']) (by omega) (by simp;omega) (wr.heap.size+1) (by simp) ?_)
      intro g cap w4 hown hgrow _ _ _
      have hu:=fun q hq=>(HU.out q hq).1
      have h4:FrS [] U w4:=(HF3.out.alloc _).grown hgrow hu
      rw[← h5.out] at hown
      have H4:=Lib.hid h4
      have HO:=Lib.hid hown
      clear hgrow hnb hrow h4 hown co cr c5 hri2 hri0 htl hbs
      go_wp2_with fail
      go_roundw
      case rel=>exact⟨t+1,by go_num,by omega,H4.out,HO.out⟩
      case measure=>simp[intOf];omega
     ·have hte:t=ol:=by omega
      subst hte
      have h6:(c.outs.take t)=c.outs:=by rw[HOL.out,List.take_length]
      rw[h6] at hrow
      have HROW:=Lib.hid hrow
      have HF3:=Lib.hid hF
      clear hF hrow h6
      go_wp2_with fail
      go_ret2
      have hst2:=HST.out
      rw[if_neg (by simpa using HF0.out)] at hst2
      unfold StepPost
      rw[hst2]
      have hFF:FrS [mb,rb] w1 wr:=(GF.out.trans FU.out (fun i hi _=>hi)).trans HF3.out (fun i hi=>by cases hi)
      have hsz:w1.heap.size≤U.heap.size:=(GF.out.trans FU.out (fun i hi _=>hi)).size
      refine⟨_,rfl,hFF,⟨⟨_,_,_,_,_,s.r,HF3.out.blk KU.out (fun e=>by cases e),HK2.out.fr hFF HMS.out,HK3.out.fr hFF HMS.out,HK4.out.fr hFF HMS.out,RU.out.fr HF3.out (fun _ e=>by cases e),HRL2.out,(XU.out.fr HF3.out (fun _ e=>by cases e)).sln (fun q hi=>?_)⟩,HH.out.hb,HH.out.hr,HH.out.ne⟩,fun M' hM'=>ownsRow_apart intC_len HROW.out (by rw[List.length_map];exact HOL.out.symm) (fun i hi=>by have:=hM' i hi;omega)⟩
      have hse:m.sl≠[]:=fun e=>q (List.eq_nil_of_length_eq_zero (by rw[HNX2.out,← HSL.out,e];rfl))
      have h1:=HNB.out hse
      have h2:=HM.out _ hi
      have h3:=G3.out
      omega
   ·have hfb:(s.f != 0)=true:=by simpa using hf0
    go_wp2_with fail
    go_quiet (fail)
    go_wp2_with fail
    go_ret2
    have hst:=HST.out
    rw[if_pos hf0] at hst
    unfold StepPost
    rw[hst]
    have hFF:FrS [mb,rb] w1 wr:=GF.out.trans HF1.out (fun i hi _=>hi)
    refine⟨_,rfl,hFF.drawn _,MachAt.below ⟨⟨_,_,_,_,_,s.r,HB1.out,HK2.out.fr hFF HMS.out,HK3.out.fr hFF HMS.out,HK4.out.fr hFF HMS.out,HR1.out,HRS.out.r,HK7.out.fr hFF HMS.out⟩,HH.out.hb,HH.out.hr,HH.out.ne⟩ (below_drawn (Below.refl _ _) _),fun M' _=>Or.inl ⟨rfl,_,_,rfl⟩⟩
end Go.Proofs.YtbdbhdcbdfbnnaaGreatDoor
