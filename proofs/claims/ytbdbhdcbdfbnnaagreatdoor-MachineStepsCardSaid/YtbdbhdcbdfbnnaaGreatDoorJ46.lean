/- Machine: one instant by the document: the walk. -/
import Derived.Test.YtbdbhdcbdfbnnaaGreatDoorJ33
import Derived.Test.YtbdbhdcbdfbnnaaGreatDoorJ43
import Derived.Test.YtbdbhdcbdfbnnaaGreatDoorJ45
set_option linter.unusedVariables false
set_option linter.unusedSimpArgs false
namespace Go.Proofs.YtbdbhdcbdfbnnaaGreatDoor
open Go.RowKit
set_option maxRecDepth 100000
namespace Cx
def rstepS (c:Co) (sl:List Int) (first:Bool) (inp:List Int):List Int×List Int×Bool×Int :=
 if frameS c.inputs inp=false then ([],sl,first,17)
 else
  let q:=runS inp sl first ⟨List.replicate c.regs.toNat 0,sl,0⟩ c.ins
  if q.f≠0 then ([],sl,first,q.f) else (c.outs.map fun r=>q.r.getD r.toNat 0,q.nx,false,0)
end Cx
def RStepPost (c:Cx.Co) (w:World) (vs:Value) (sl:List Int) (first:Bool) (inp:List Int) (e:Ending) (w':World):Prop :=
 ∃ u vs',e=.returned (.tuple #[u,.agg #[vs',.bool (Cx.rstepS c sl first inp).2.2.1],.int .i64 (Cx.rstepS c sl first inp).2.2.2])∧Below w.heap.size w w'∧(∀ M:List Nat,(∀ i∈M,i<w.heap.size)→SlN intC 1 M w' u (Cx.rstepS c sl first inp).1) ∧
  ∀ M:List Nat,(∀ i∈M,i<w.heap.size)→SlN intC 1 M w vs sl→SlN intC 1 M w' vs' (Cx.rstepS c sl first inp).2.1
theorem results_tct {P:Program} {fn:Func} {t p u:Tmp} {ty:TypeId} (h:fn.results=#[.tmp t,.cell p ty,.tmp u]) (tmps:Array Value) (w:World) (g:Nat) (T:TypeId) (cs:Array Value) (fr:Nat×Nat) (d:TypeDesc)
  (hp:tmps.getD p undef=.pointer (some ⟨g,0,none⟩)) (hg:w.heap[g]?=some (.cells cs T fr))
  (hu:P.underlying ty=some d) (hd:(match d with | .struct _ | .array _ _=>true | _=>false)=true) (hi:(P.info? ty).map (·.size)=some cs.size) :
  (results fn tmps).run P w=.ok (.tuple #[tmps.getD t undef,.agg cs,tmps.getD u undef]) w:=by
 have hp':tmps[p]?.getD undef=.pointer (some ⟨g,0,none⟩):=by simpa using hp
 simp[results,h,hp',asAddr,run_loadVar_row w g T ty cs fr d hg hu hd hi]
set_option maxHeartbeats 8000000 in
theorem rStep_any (w:World) (c:Cx.Co) (vi vo vn:Value) (hc:CodeIn w c vi vo vn) (hok:Cx.okS c=true) (sl:List Int) (vs:Value) (first:Bool) (hs:Sl intC 1 w vs sl) (hsl:sl.length=c.slots.toNat) (hsf:∀ y∈sl,Cx.fits y=true) (inp:List Int) (vin:Value) (hin:Sl intC 1 w vin inp) (hl:inp.length≤1000000) (hol:c.outs.length≤1000000) :
  Calls Tryz.prog 13 #[.agg #[vi,.int .i64 c.regs,.int .i64 c.slots,vo,vn],.agg #[vs,.bool first],vin] w (RStepPost c w vs sl first inp):=by
 obtain⟨ia,ic,rfl,-,-⟩:=hc.i.form
 obtain⟨oa,oc,rfl,-,-⟩:=hc.o.form
 obtain⟨na,nc,rfl,-,-⟩:=hc.n.form
 obtain⟨sa,sc,rfl,-,-⟩:=hs.form
 obtain⟨pa,pc,rfl,-,-⟩:=hin.form
 have hco:=Cx.okS_ok hok
 obtain⟨R,hR⟩:=Int.eq_ofNat_of_zero_le hco.size.1
 obtain⟨S,hS⟩:=Int.eq_ofNat_of_zero_le hco.size.2.2.1
 have hmR:=make_ints R (by have:=hco.size;omega)
 have HFR:=Lib.hid fun W (hW:Below w.heap.size w W)=>rframe_any (w:=W) (.slice ia c.ins.length ic) (.slice oa c.outs.length oc) c.regs c.slots (.slice na c.inputs.length nc) ia c.ins.length ic oa c.outs.length oc rfl rfl c.inputs (hc.n.below hW) inp (.slice pa inp.length pc) (hin.below hW) hl
 rw[hR,hS] at HFR
 rw[hR,hS]
 have hil:c.ins.length≤200000:=hco.size.2.2.2.2
 have HC:=Lib.hid hc
 have HS0:=Lib.hid hs
 have HIN:=Lib.hid hin
 have HR:=Lib.hid hR
 have HSS:=Lib.hid hS
 have HCO:=Lib.hid hco
 have HSL:=Lib.hid hsl
 have HSF:=Lib.hid hsf
 have HOK:=Lib.hid (okS_nums hok)
 clear hc hs hin hR hS hco hsl hsf hok
 go_enter Tryz.func13,Tryz.ntmps13
 go_wp2_with fail
 have k1:=Blk.new w #[.slice ia c.ins.length ic,.int .i64 (R:Int),.int .i64 (S:Int),.slice oa c.outs.length oc,.slice na c.inputs.length nc] 25
 obtain⟨V1,hV1⟩ : ∃ V1,V1=w.alloc (.cells #[.slice ia c.ins.length ic,.int .i64 (R:Int),.int .i64 (S:Int),.slice oa c.outs.length oc,.slice na c.inputs.length nc] 25):=⟨_,rfl⟩
 have z1:V1.heap.size=w.heap.size+1:=by rw[hV1,World.size_alloc]
 have f1:FrS [] w V1:=by rw[hV1];exact (FrS.refl _ _).alloc _
 rw[← hV1] at k1 ⊢
 have k2:=Blk.new V1 #[.slice sa sl.length sc,.bool first] 40
 obtain⟨V2,hV2⟩ : ∃ V2,V2=V1.alloc (.cells #[.slice sa sl.length sc,.bool first] 40):=⟨_,rfl⟩
 have z2:V2.heap.size=w.heap.size+1+1:=by rw[hV2,World.size_alloc,z1]
 have f2:FrS [] V1 V2:=by rw[hV2];exact (FrS.refl _ _).alloc _
 rw[← hV2] at k2 ⊢
 have k3:=Blk.new V2 #[.slice none 0 0,.bool false] 40
 obtain⟨U,hU⟩ : ∃ U,U=V2.alloc (.cells #[.slice none 0 0,.bool false] 40):=⟨_,rfl⟩
 have f3:FrS [] V2 U:=by rw[hU];exact (FrS.refl _ _).alloc _
 rw[← hU] at k3 ⊢
 rw[z1] at k2
 rw[z2] at k3
 have f23:FrS [] V1 U:=f2.trans f3 (fun i hi=>by cases hi)
 have FU:=Lib.hid (f1.trans f23 (fun i hi=>by cases hi))
 have KC:=Lib.hid (f23.blk k1 (fun e=>by cases e))
 have KT:=Lib.hid (f3.blk k2 (fun e=>by cases e))
 have KO:=Lib.hid k3
 clear hV1 hV2 hU f1 f2 f3 f23 k1 k2 k3 z1 z2
 obtain⟨cb,hcb⟩ : ∃ cb,cb=w.heap.size:=⟨_,rfl⟩
 obtain⟨tb,htb⟩ : ∃ tb,tb=w.heap.size+1:=⟨_,rfl⟩
 obtain⟨ob,hob⟩ : ∃ ob,ob=w.heap.size+1+1:=⟨_,rfl⟩
 rw[← hob,← htb,← hcb]
 rw[← hob] at KO
 rw[← htb] at KT
 rw[← hcb] at KC
 have NE:Hid (cb≠ob∧tb≠ob∧w.heap.size≤ob∧w.heap.size≤cb∧w.heap.size≤tb):=(by omega:cb≠ob∧tb≠ob∧w.heap.size≤ob∧w.heap.size≤cb∧w.heap.size≤tb)
 clear hcb htb hob
 refine (HFR.out U FU.out.toBelow).mono ?_
 rintro e w1 ⟨rfl,hb1⟩
 have B1:=Lib.hid (below_next FU.out.toBelow hb1)
 have kc:=KC.out.below hb1
 have kt:=KT.out.below hb1
 have ko:=KO.out.below hb1
 have HKC:=Lib.hid kc
 have HKT:=Lib.hid kt
 have HKO:=Lib.hid ko
 clear hb1 KC KT KO FU HFR
 cases hfr:Cx.frameS c.inputs inp with
 | false =>
  have hst:Cx.rstepS c sl first inp=([],sl,first,17):=by unfold Cx.rstepS;rw[if_pos hfr]
  have HST:=Lib.hid hst
  have t0:w1.cell? ⟨tb,0,none⟩=some (.slice sa sl.length sc):=kt.c rfl
  have t1:w1.cell? ⟨tb,1,none⟩=some (.bool first):=kt.c rfl
  have o0:w1.cell? ⟨ob,0,none⟩=some (.slice none 0 0):=ko.c rfl
  have o1:w1.cell? ⟨ob,1,none⟩=some (.bool false):=ko.c rfl
  have y0:w1.frozen? ⟨ob,0,none⟩=false:=ko.z (v:=.slice none 0 0) rfl
  have y1:w1.frozen? ⟨ob,1,none⟩=false:=ko.z (v:=.bool false) rfl
  clear hfr hst kc kt ko
  go_wp2_with fail
  go_region
  have hb2:Below w.heap.size w ((w1.setCell ⟨ob,0,none⟩ (.slice sa sl.length sc)).setCell ⟨ob,1,none⟩ (.bool first)).drew:=FrS.below B1.out ((((FrS.refl [ob] w1).setCell (Or.inl (by simp)) _).setCell (Or.inl (by simp)) _).drew) B1.out.size (fun i hi=>by rw[List.mem_singleton.1 hi];exact NE.out.2.2.1)
  have hk2:Blk ((w1.setCell ⟨ob,0,none⟩ (.slice sa sl.length sc)).setCell ⟨ob,1,none⟩ (.bool first)).drew ob #[.slice sa sl.length sc,.bool first] 40:=(HKO.out.puti 0 _).puti 1 _
  generalize ((w1.setCell ⟨ob,0,none⟩ (.slice sa sl.length sc)).setCell ⟨ob,1,none⟩ (.bool first)).drew=Z at hb2 hk2 ⊢
  clear t0 t1 o0 o1 y0 y1
  go_wp2_with fail
  refine bodyPost_ret (results_tct rfl _ _ ob 40 _ (0,0) _ rfl hk2 Tryz.underlying40 rfl (by kernel_rfl)) rfl ?_
  unfold RStepPost
  rw[HST.out]
  exact⟨_,_,rfl,hb2,fun M _=>Or.inl ⟨rfl,_,_,rfl⟩,fun M hM hv=>hv.below hb2⟩
 | true =>
  have HFRM:=Lib.hid hfr
  have HST:Hid (Cx.rstepS c sl first inp=if (Cx.runS inp sl first ⟨List.replicate c.regs.toNat 0,sl,0⟩ c.ins).f≠0 then ([],sl,first,(Cx.runS inp sl first ⟨List.replicate c.regs.toNat 0,sl,0⟩ c.ins).f) else (c.outs.map fun r=>(Cx.runS inp sl first ⟨List.replicate c.regs.toNat 0,sl,0⟩ c.ins).r.getD r.toNat 0,(Cx.runS inp sl first ⟨List.replicate c.regs.toNat 0,sl,0⟩ c.ins).nx,false,0)):=by
   show _=_;unfold Cx.rstepS;rw[if_neg (by rw[hfr];simp)]
  have g1:w1.cell? ⟨cb,1,none⟩=some (.int .i64 (R:Int)):=kc.c rfl
  have k4:=Blk.new w1 (Array.replicate R (.int .i64 0)) 3
  have f4:FrS [] w1 (w1.alloc (.cells (Array.replicate R (.int .i64 0)) 3)):=(FrS.refl _ _).alloc _
  have z4:(w1.alloc (.cells (Array.replicate R (.int .i64 0)) 3)).heap.size=w1.heap.size+1:=World.size_alloc _ _
  have t0:(w1.alloc (.cells (Array.replicate R (.int .i64 0)) 3)).cell? ⟨tb,0,none⟩=some (.slice sa sl.length sc):=(f4.blk kt (fun e=>by cases e)).c rfl
  have HK4:=Lib.hid k4
  have F4:=Lib.hid f4
  have Z4:=Lib.hid z4
  have hsv:Sl intC 1 (w1.alloc (.cells (Array.replicate R (.int .i64 0)) 3)) (.slice sa sl.length sc) sl:=HS0.out.below (below_next B1.out f4.toBelow)
  have hsle:sl.length≤1000000:=by rw[HSL.out,HSS.out];have:=HCO.out.size;rw[HSS.out] at this;omega
  clear hfr k4 f4 z4 kc kt ko
  go_wp2_with (at_builtin;refine wpList_copied rowIM rfl _ _ rfl sl _ rfl rfl hsv hsle ?_)
  intro v' w5 hb5 hown5
  rw[← Z4.out] at hb5 hown5
  obtain⟨nb,hnb,hnx⟩:=RegsL.own hown5 rfl
  obtain⟨ua,uc,rfl,-,hua,-⟩:=hnx.form
  have k6:=Blk.new w5 #[.slice ua sl.length uc,.bool false] 40
  have f6:FrS [] w5 (w5.alloc (.cells #[.slice ua sl.length uc,.bool false] 40)):=(FrS.refl _ _).alloc _
  have hb15:Below w1.heap.size w1 w5:=below_next F4.out.toBelow hb5
  have hb16:=below_next hb15 f6.toBelow
  have hr6:=(zeros_regs (W:=w1) (HK4.out.below hb5)).below f6.toBelow
  have hn6:=hnx.below f6.toBelow
  have hQR:Hid (w5.heap.size≠w1.heap.size∧w1.heap.size<w5.heap.size):=by
   have h1:=HK4.out.lt
   have h2:=hb5.size
   exact⟨by omega,by omega⟩
  have hNQ:Hid (sl≠[]→nb≠w5.heap.size∧nb≠w1.heap.size∧w1.heap.size<nb):=fun q=>by
   have h1:=hnb q
   have h2:=(hua q).2
   rw[Z4.out] at h1
   exact⟨by omega,by omega,by omega⟩
  clear hnx hown5 hnb hb5 hua hsv hsle hb15
  go_wp2_with fail
  generalize (w5.alloc (.cells #[.slice ua sl.length uc,.bool false] 40))=W0 at k6 f6 hb16 hr6 hn6 ⊢
  obtain⟨qb,hqb⟩ : ∃ qb,qb=w5.heap.size:=⟨_,rfl⟩
  obtain⟨rb,hrb⟩ : ∃ rb,rb=w1.heap.size:=⟨_,rfl⟩
  rw[← hqb] at k6 hNQ hQR ⊢
  rw[← hrb] at hNQ hQR hr6 ⊢
  have HB16:=Lib.hid hb16
  have K6:=Lib.hid k6
  have R6:=Lib.hid hr6
  have N6:=Lib.hid hn6
  have HRBW:=Lib.hid hrb
  clear k6 f6 hb16 hr6 hn6 hqb hrb HK4 F4 Z4 g1 t0
  have hRe:R=c.regs.toNat:=by rw[HR.out];rfl
  have HRE:=Lib.hid hRe
  clear hRe
  go_loopw [11,12] (fun fv iv wr=>∃ t:Nat,fv=.int .i64 (Cx.runS inp sl first ⟨List.replicate c.regs.toNat 0,sl,0⟩ (c.ins.take t)).f∧iv=.int .i64 t∧t≤c.ins.length∧Below w1.heap.size w1 wr∧Blk wr qb #[.slice ua sl.length uc,.bool false] 40∧RegsL wr rb 0 (.slice (some ⟨rb,0,none⟩) R R) (Cx.runS inp sl first ⟨List.replicate c.regs.toNat 0,sl,0⟩ (c.ins.take t)).r∧RegsL wr nb 0 (.slice ua sl.length uc) (Cx.runS inp sl first ⟨List.replicate c.regs.toNat 0,sl,0⟩ (c.ins.take t)).nx) (fun _ iv _=>c.ins.length - (intOf iv).toNat)
  case atStart=>exact⟨0,rfl,rfl,Nat.zero_le _,HB16.out,K6.out,by have:=R6.out;rw[HRE.out] at this ⊢;exact this,N6.out⟩
  case round =>
   obtain⟨t,rfl,rfl,ht,hB,hQ,hRr,hX⟩:=hrel
   have ht0:(0:Int)≤(t:Int):=by omega
   have hbw:=below_next B1.out hB
   have kc1:=HKC.out.below hB
   have kt1:=HKT.out.below hB
   have g0:wr.cell? ⟨cb,0,none⟩=some (.slice ia c.ins.length ic):=kc1.c rfl
   have HBr:=Lib.hid hB
   have HQ1:=Lib.hid hQ
   have HR1:=Lib.hid hRr
   have HX1:=Lib.hid hX
   have HBW:=Lib.hid hbw
   have KC1:=Lib.hid kc1
   have KT1:=Lib.hid kt1
   clear hB hQ hRr hX hbw kc1 kt1
   by_cases hlt:t<c.ins.length
   ·obtain⟨x,hx⟩ : ∃ x,c.ins[t]?=some x:=⟨_,List.getElem?_eq_getElem hlt⟩
    have hxm:x∈c.ins:=List.mem_of_getElem? hx
    have HOKx:=Lib.hid (HCO.out.ins x hxm)
    have HRUN:=Lib.hid (Cx.runS_at (inp:=inp) (sl:=sl) (first:=first) (s:=⟨List.replicate c.regs.toNat 0,sl,0⟩) hx)
    have HRS:=Lib.hid (Cx.runS_ok (first:=first) (Cx.frame_fits HFRM.out).2 HSF.out (l:=c.ins.take t) (fun y hy=>HOK.out y (List.mem_of_mem_take hy)) (Cx.zero_ok (R:=c.regs.toNat) HSL.out HSF.out))
    generalize hs:(Cx.runS inp sl first ⟨List.replicate c.regs.toNat 0,sl,0⟩ (c.ins.take t))=s at HR1 HX1 HRUN HRS
    obtain⟨a8,_,he,-,hcell⟩:=HC.out.i.form
    obtain rfl:ia=a8:=by injection he
    clear he
    obtain⟨ib,io,rfl,hcl⟩:=hcell wr HBW.out t x hx
    have e0:wr.cell? ⟨ib,io+t * 6,none⟩=some (.int .i64 x.op):=hcl 0 _ rfl
    have e1:wr.cell? ⟨ib,io+t * 6+1,none⟩=some (.int .i64 x.d):=hcl 1 _ rfl
    have e2:wr.cell? ⟨ib,io+t * 6+2,none⟩=some (.int .i64 x.a):=hcl 2 _ rfl
    have e3:wr.cell? ⟨ib,io+t * 6+3,none⟩=some (.int .i64 x.b):=hcl 3 _ rfl
    have e4:wr.cell? ⟨ib,io+t * 6+4,none⟩=some (.int .i64 x.c):=hcl 4 _ rfl
    have e5:wr.cell? ⟨ib,io+t * 6+5,none⟩=some (.int .i64 x.n):=hcl 5 _ rfl
    have htl:(t:Int)<(c.ins.length:Int):=by omega
    have hlenS:sl.length=S:=by rw[HSL.out,HSS.out];rfl
    clear hcl hcell hx hs hxm
    by_cases h30:x.op=30
    ·obtain⟨op,xd,xa,xb,xc,xn⟩:=x
     simp only at h30
     subst h30
     have hsa:=HOKx.out.slot (Or.inr rfl)
     have hra:=HOKx.out.a (by show (1:Int)≤Cx.readsN 30;decide)
     simp only at hsa hra
     rw[HSS.out] at hsa
     rw[HR.out] at hra
     obtain⟨ai,rfl⟩:=Int.eq_ofNat_of_zero_le hra.1
     obtain⟨ni,rfl⟩:=Int.eq_ofNat_of_zero_le hsa.1
     have hrl:s.r.length=R:=by rw[HRS.out.r];exact HRE.out.symm
     have hnl:s.nx.length=S:=by rw[HRS.out.nx,← HSL.out];exact hlenS
     have bN:Blk (wr.alloc (.cells #[.int .i64 30,.int .i64 xd,.int .i64 ai,.int .i64 xb,.int .i64 xc,.int .i64 ni] 74)) wr.heap.size #[.int .i64 30,.int .i64 xd,.int .i64 ai,.int .i64 xb,.int .i64 xc,.int .i64 ni] 74:=heap_alloc_new _ _
     have fA:FrS [] wr (wr.alloc (.cells #[.int .i64 30,.int .i64 xd,.int .i64 ai,.int .i64 xb,.int .i64 xc,.int .i64 ni] 74)):=(FrS.refl _ _).alloc _
     obtain⟨V,hV⟩ : ∃ V,V=wr.alloc (.cells #[.int .i64 30,.int .i64 xd,.int .i64 ai,.int .i64 xb,.int .i64 xc,.int .i64 ni] 74):=⟨_,rfl⟩
     rw[← hV] at fA bN
     have kQ:=HQ1.out.below fA.toBelow
     have kR:=HR1.out.below fA.toBelow
     have kX:=HX1.out.below fA.toBelow
     obtain⟨_,_,-,-,-,hrx⟩:=kR.form
     obtain⟨a9,_,he,-,hua2,hux2⟩:=kX.form
     obtain rfl:ua=a9:=by injection he
     clear he
     have hai:ai<s.r.length:=by omega
     have hni:ni<s.nx.length:=by omega
     obtain⟨cr,-⟩:=hrx ai s.r[ai] (List.getElem?_eq_getElem hai)
     obtain⟨cn,zn⟩:=hux2 ni s.nx[ni] (List.getElem?_eq_getElem hni)
     obtain⟨rfl,-⟩:=hua2 (List.ne_nil_of_length_pos (by omega))
     rw[hlenS] at kQ
     have c5:V.cell? ⟨qb,0,none⟩=some (.slice (some ⟨nb,0,none⟩) S uc):=kQ.c rfl
     have n0:V.cell? ⟨wr.heap.size,0,none⟩=some (.int .i64 30):=bN.c rfl
     have n2:V.cell? ⟨wr.heap.size,2,none⟩=some (.int .i64 ai):=bN.c rfl
     have n5:V.cell? ⟨wr.heap.size,5,none⟩=some (.int .i64 ni):=bN.c rfl
     have hai2:(ai:Int)<(R:Int):=hra.2
     have hni2:(ni:Int)<(S:Int):=hsa.2
     have HNI:Hid (ni<S):=(by omega:ni<S)
     have hgd:Hid (s.r.getD ai 0=s.r[ai]):=by show _=_;rw[List.getD_eq_getElem?_getD,List.getElem?_eq_getElem hai];rfl
     generalize s.r[ai]=y at cr hgd
     generalize s.nx[ni]=y0 at cn
     have HKQ:=Lib.hid kQ
     have HKR:=Lib.hid kR
     have HKX:=Lib.hid kX
     have HFA:=Lib.hid fA
     have HLS:=Lib.hid hlenS
     have HV:=Lib.hid hV
     clear hrx hrl hnl hua2 hux2 hsa hra hni hai kQ kR kX fA bN hlenS
     go_wp2_with fail
     clear e0 e1 e2 e3 e4 e5
     rw[← hV]
     clear hV
     generalize wr.heap.size=nz at n0 n2 n5 ⊢
     rw[Nat.zero_add] at cr cn zn
     have hai0:(0:Int)≤(ai:Int):=by omega
     have hni0:(0:Int)≤(ni:Int):=by omega
     go_still_tail 10,(by kernel_rfl)
     go_wp2_with fail
     clear hai2 hni2 c5 n0 n2 n5
     go_roundw
     case rel =>
      have e1:Cx.run1 inp sl first s ⟨30,xd,ai,xb,xc,ni⟩ = { s with nx:=s.nx.set ni y }:=by
       unfold Cx.run1
       rw[if_pos rfl]
       show Cx.Rs.mk s.r (s.nx.set ni (s.r.getD ai 0)) s.f=_
       rw[hgd.out]
      have hse:sl≠[]:=fun e=>by
       have h1:=HLS.out
       have h2:=HNI.out
       rw[e] at h1
       simp at h1
       omega
      have hnq:=hNQ.out hse
      refine⟨t+1,by rw[HRUN.out,e1],by go_num,by omega,FrS.below HBr.out ((HFA.out.mono (S':=[nb]) (fun i hi _=>by cases hi)).setCell (Or.inl (by simp)) _).drew HBr.out.size (fun i hi=>by rw[List.mem_singleton.1 hi,← HRBW.out];omega),?_,?_,?_⟩
      ·rw[HLS.out]
       exact HKQ.out.other _ (Ne.symm hnq.1) _
      ·rw[HRUN.out,e1]
       exact HKR.out.other (fun _=>Ne.symm hnq.2.1) ni _
      ·rw[HRUN.out,e1]
       have h1:=HKX.out.set ni y
       rw[Nat.zero_add] at h1
       rw[HLS.out] at h1
       rw[HLS.out]
       exact h1
     case measure=>simp[intOf];omega
    ·have hd:=HOKx.out.d h30
     obtain⟨op,xd,xa,xb,xc,xn⟩:=x
     simp only at h30 hd
     rw[HR.out] at hd
     obtain⟨di,rfl⟩:=Int.eq_ofNat_of_zero_le hd.1
     have hrl:s.r.length=R:=by rw[HRS.out.r];exact HRE.out.symm
     have fA:FrS [] wr (wr.alloc (.cells #[.int .i64 op,.int .i64 di,.int .i64 xa,.int .i64 xb,.int .i64 xc,.int .i64 xn] 74)):=(FrS.refl _ _).alloc _
     have bN:Blk (wr.alloc (.cells #[.int .i64 op,.int .i64 di,.int .i64 xa,.int .i64 xb,.int .i64 xc,.int .i64 xn] 74)) wr.heap.size #[.int .i64 op,.int .i64 di,.int .i64 xa,.int .i64 xb,.int .i64 xc,.int .i64 xn] 74:=heap_alloc_new _ _
     obtain⟨V,hV⟩ : ∃ V,V=wr.alloc (.cells #[.int .i64 op,.int .i64 di,.int .i64 xa,.int .i64 xb,.int .i64 xc,.int .i64 xn] 74):=⟨_,rfl⟩
     rw[← hV] at fA bN
     have hbV:=fA.toBelow
     have kQ:=HQ1.out.below hbV
     have kR:=HR1.out.below hbV
     have kX:=HX1.out.below hbV
     have kT:=KT1.out.below hbV
     have kSl:=HS0.out.below (below_next HBW.out hbV)
     have kIn:=HIN.out.below (below_next HBW.out hbV)
     have kRs:Sl intC 1 V (.slice (some ⟨rb,0,none⟩) s.r.length R) s.r:=by
      have h1:=(kR.sln (M:=[]) (fun _ q=>by cases q)).sl
      rw[hrl];exact h1
     have hcall:=rmade_any (first:=first) kIn kRs kSl ⟨op,di,xa,xb,xc,xn⟩ (by
      have h1:=HOKx.out
      have h2:((s.r.length:Nat):Int)=c.regs:=by rw[hrl,HR.out]
      have h3:((sl.length:Nat):Int)=c.slots:=by rw[hlenS,HSS.out]
      rw[h2,h3,(Cx.frame_fits HFRM.out).1]
      exact h1) h30 HRS.out.rf
     have HRUN2:Hid (Cx.run1 inp sl first s ⟨op,di,xa,xb,xc,xn⟩ = { s with r:=s.r.set di (Cx.madeS ⟨op,di,xa,xb,xc,xn⟩ inp s.r sl first).1,f:=Cx.least s.f (Cx.madeS ⟨op,di,xa,xb,xc,xn⟩ inp s.r sl first).2 }):=by
      show _=_
      unfold Cx.run1
      rw[if_neg h30]
      rfl
     have herr:=Cx.madeS_err ⟨op,di,xa,xb,xc,xn⟩ inp s.r sl first
     simp only at hcall
     generalize (Cx.madeS ⟨op,di,xa,xb,xc,xn⟩ inp s.r sl first).1=y at hcall HRUN2
     generalize (Cx.madeS ⟨op,di,xa,xb,xc,xn⟩ inp s.r sl first).2=er at hcall HRUN2 herr
     rw[hrl] at hcall
     have t0:V.cell? ⟨tb,0,none⟩=some (.slice sa sl.length sc):=kT.c rfl
     have t1:V.cell? ⟨tb,1,none⟩=some (.bool first):=kT.c rfl
     have n0:V.cell? ⟨wr.heap.size,0,none⟩=some (.int .i64 op):=bN.c rfl
     have n1:V.cell? ⟨wr.heap.size,1,none⟩=some (.int .i64 di):=bN.c rfl
     have n2:V.cell? ⟨wr.heap.size,2,none⟩=some (.int .i64 xa):=bN.c rfl
     have n3:V.cell? ⟨wr.heap.size,3,none⟩=some (.int .i64 xb):=bN.c rfl
     have n4:V.cell? ⟨wr.heap.size,4,none⟩=some (.int .i64 xc):=bN.c rfl
     have n5:V.cell? ⟨wr.heap.size,5,none⟩=some (.int .i64 xn):=bN.c rfl
     have HKQ:=Lib.hid kQ
     have HKR:=Lib.hid kR
     have HKX:=Lib.hid kX
     have HBN:=Lib.hid bN
     have HBV:=Lib.hid (below_next HBr.out hbV)
     have HV:=Lib.hid hV
     have HRL:=Lib.hid hrl
     have HD2:=Lib.hid hd
     have HLS:=Lib.hid hlenS
     rw[hV] at t0 t1 n0 n1 n2 n3 n4 n5
     clear hrl hd kQ kR kX kT kSl kIn kRs fA bN hbV hlenS hV
     go_wp2_with fail
     clear e0 e1 e2 e3 e4 e5 t0 t1 n0 n1 n2 n3 n4 n5
     rw[← HV.out]
     refine hcall.mono ?_
     rintro e w3 ⟨rfl,hbl3⟩
     clear hcall
     have HKQ3:=Lib.hid (HKQ.out.below hbl3)
     have HKR3:=Lib.hid (HKR.out.below hbl3)
     have HKX3:=Lib.hid (HKX.out.below hbl3)
     have n1:w3.cell? ⟨wr.heap.size,1,none⟩=some (.int .i64 di):=(HBN.out.below hbl3).c rfl
     have HB3:=Lib.hid (below_next HBV.out hbl3)
     clear hbl3
     obtain⟨_,_,-,-,-,hrx⟩:=HKR3.out.form
     have hdi:di<s.r.length:=by have:=HRL.out;have:=HD2.out;omega
     obtain⟨cr,zr⟩:=hrx di s.r[di] (List.getElem?_eq_getElem hdi)
     rw[Nat.zero_add] at cr zr
     generalize s.r[di]=y0 at cr
     have hdi2:(di:Int)<(R:Int):=HD2.out.2
     have hdi0:(0:Int)≤(di:Int):=by omega
     have REL:Hid (∀ F,Cx.least s.f er=F→(∃ t1:Nat,Value.int .i64 F=.int .i64 (Cx.runS inp sl first ⟨List.replicate c.regs.toNat 0,sl,0⟩ (c.ins.take t1)).f∧Value.int .i64 ((t:Int)+1)=.int .i64 t1∧t1≤c.ins.length∧Below w1.heap.size w1 (w3.setCell ⟨rb,di,none⟩ (.int .i64 y))∧Blk (w3.setCell ⟨rb,di,none⟩ (.int .i64 y)) qb #[.slice ua sl.length uc,.bool false] 40∧RegsL (w3.setCell ⟨rb,di,none⟩ (.int .i64 y)) rb 0 (.slice (some ⟨rb,0,none⟩) R R) (Cx.runS inp sl first ⟨List.replicate c.regs.toNat 0,sl,0⟩ (c.ins.take t1)).r∧RegsL (w3.setCell ⟨rb,di,none⟩ (.int .i64 y)) nb 0 (.slice ua sl.length uc) (Cx.runS inp sl first ⟨List.replicate c.regs.toNat 0,sl,0⟩ (c.ins.take t1)).nx)):=fun F hF=>by
      refine⟨t+1,by rw[HRUN.out,HRUN2.out,← hF],rfl,by omega,FrS.below HB3.out ((FrS.refl [rb] w3).setCell (Or.inl (by simp)) _) HB3.out.size (fun i hi=>by rw[List.mem_singleton.1 hi,← HRBW.out];exact Nat.le_refl _),HKQ3.out.other _ hQR.out.1 _,?_,?_⟩
      ·rw[HRUN.out,HRUN2.out]
       have h1:=HKR3.out.set di y
       rw[Nat.zero_add] at h1
       exact h1
      ·rw[HRUN.out,HRUN2.out]
       refine HKX3.out.other (fun q=>?_) di _
       exact (hNQ.out (fun e=>q (List.eq_nil_of_length_eq_zero (by show s.nx.length=0;rw[HRS.out.nx,← HSL.out,e];rfl)))).2.1
     clear hrx hdi
     have hcase:(er=0∧Cx.least s.f er=s.f)∨((er != 0)=true∧s.f=0∧Cx.least s.f er=er)∨((er != 0)=true∧(s.f==0)=false∧er<s.f∧Cx.least s.f er=er)∨((er != 0)=true∧(s.f==0)=false∧¬ er<s.f∧Cx.least s.f er=s.f):=by
      unfold Cx.least
      by_cases q1:er=0
      ·left;exact⟨q1,by rw[if_neg (by omega)]⟩
      ·right
       by_cases q2:s.f=0
       ·left;exact⟨by simpa using q1,q2,by rw[if_pos ⟨q1,Or.inl q2⟩]⟩
       ·right
        by_cases q3:er<s.f
        ·left;exact⟨by simpa using q1,by simpa using q2,q3,by rw[if_pos ⟨q1,Or.inr q3⟩]⟩
        ·right;exact⟨by simpa using q1,by simpa using q2,q3,by rw[if_neg (by omega)]⟩
     rcases hcase with ⟨q1,q⟩ | ⟨q1,q2,q⟩ | ⟨q1,q2,q3,q⟩ | ⟨q1,q2,q3,q⟩
     ·subst q1
      have HQ:=Lib.hid q
      clear q
      go_wp2_with fail
      go_roundw
      case rel=>obtain⟨t1,r1,r2,r3⟩:=REL.out _ HQ.out;exact⟨t1,r1,by rw[← r2],r3⟩
      case measure=>simp[intOf];omega
     ·have HQ:=Lib.hid q
      have HQ2:=Lib.hid q2
      clear q
      rw[q2]
      go_wp2_with fail
      go_roundw
      case rel=>obtain⟨t1,r1,r2,r3⟩:=REL.out _ HQ.out;exact⟨t1,r1,by rw[← r2],r3⟩
      case measure=>simp[intOf];omega
     ·have HQ:=Lib.hid q
      clear q
      go_wp2_with fail
      go_roundw
      case rel=>obtain⟨t1,r1,r2,r3⟩:=REL.out _ HQ.out;exact⟨t1,r1,by rw[← r2],r3⟩
      case measure=>simp[intOf];omega
     ·have HQ:=Lib.hid q
      clear q
      go_wp2_with fail
      go_roundw
      case rel=>obtain⟨t1,r1,r2,r3⟩:=REL.out _ HQ.out;exact⟨t1,r1,by rw[← r2],r3⟩
      case measure=>simp[intOf];omega
   ·have hte:t=c.ins.length:=by omega
    subst hte
    rw[List.take_length] at HR1 HX1 ⊢
    have HRS:=Lib.hid (Cx.runS_ok (first:=first) (Cx.frame_fits HFRM.out).2 HSF.out (l:=c.ins) (fun y hy=>HOK.out y hy) (Cx.zero_ok (R:=c.regs.toNat) HSL.out HSF.out))
    generalize (Cx.runS inp sl first ⟨List.replicate c.regs.toNat 0,sl,0⟩ c.ins)=s at HR1 HX1 HRS HST ⊢
    have ko2:=HKO.out.below HBr.out
    have o0:wr.cell? ⟨ob,0,none⟩=some (.slice none 0 0):=ko2.c rfl
    have o1:wr.cell? ⟨ob,1,none⟩=some (.bool false):=ko2.c rfl
    have y0:wr.frozen? ⟨ob,0,none⟩=false:=ko2.z (v:=.slice none 0 0) rfl
    have y1:wr.frozen? ⟨ob,1,none⟩=false:=ko2.z (v:=.bool false) rfl
    have KO2:=Lib.hid ko2
    clear ko2
    by_cases hf0:s.f=0
    ·have HF0:=Lib.hid hf0
     rw[hf0]
     clear o0 o1 y0 y1
     go_wp2_with fail
     obtain⟨ol,hol0⟩ : ∃ ol,ol=c.outs.length:=⟨_,rfl⟩
     have HOL:=Lib.hid hol0
     have HRL2:Hid (s.r.length=R):=by show _=_;rw[HRS.out.r];exact HRE.out.symm
     have g3:wr.cell? ⟨cb,3,none⟩=some (.slice oa c.outs.length oc):=KC1.out.c rfl
     rw[← hol0] at g3 hol
     clear hol0 g0 g3 hf0
     obtain⟨U,rfl⟩ : ∃ U,U=wr:=⟨_,rfl⟩
     go_loopw [16,17] (fun out iv w3=>∃ t:Nat,iv=.int .i64 t∧t≤ol∧FrS [] U w3∧w3.ownsRow U.heap.size 3 1 out t (((c.outs.take t).map fun r=>s.r.getD r.toNat 0).flatMap intC)) (fun _ iv _=>ol - (intOf iv).toNat)
     case atStart=>exact⟨0,rfl,Nat.zero_le _,FrS.refl _ _,World.ownsRow_nil _ _ _ _⟩
     case round =>
      obtain⟨t,rfl,ht,hF,hrow⟩:=hrel
      have ht0:(0:Int)≤(t:Int):=by omega
      have hkc3:=KC1.out.below hF.toBelow
      have g3:wr.cell? ⟨cb,3,none⟩=some (.slice oa c.outs.length oc):=hkc3.c rfl
      rw[← HOL.out] at g3
      have HKC3:=Lib.hid hkc3
      clear hkc3
      by_cases hlt:t<ol
      ·obtain⟨r,hr⟩ : ∃ r,c.outs[t]?=some r:=⟨_,List.getElem?_eq_getElem (by have:=HOL.out;omega)⟩
       have hrg:=HCO.out.outs r (List.mem_of_getElem? hr)
       rw[HR.out] at hrg
       obtain⟨ri,rfl⟩:=Int.eq_ofNat_of_zero_le hrg.1
       have hri:ri<s.r.length:=by rw[HRL2.out];omega
       obtain⟨a9,_,he,-,hox⟩:=HC.out.o.form
       obtain rfl:oa=a9:=by injection he
       clear he
       obtain⟨ob',oo,rfl,hoc⟩:=hox wr (below_next HBW.out hF.toBelow) t _ hr
       have co:wr.cell? ⟨ob',oo+t,none⟩=some (.int .i64 ri):=by have:=hoc 0 _ rfl;simpa using this
       have r3:=HR1.out.below hF.toBelow
       obtain⟨_,_,-,-,-,hrx⟩:=r3.form
       obtain⟨cr,-⟩:=hrx ri s.r[ri] (List.getElem?_eq_getElem hri)
       rw[Nat.zero_add] at cr
       have hgd:Hid (s.r.getD ri 0=s.r[ri]):=by show _=_;rw[List.getD_eq_getElem?_getD,List.getElem?_eq_getElem hri];rfl
       generalize s.r[ri]=y at cr hgd
       have hri2:(ri:Int)<(R:Int):=by omega
       have hri0:(0:Int)≤(ri:Int):=by omega
       have htl:(t:Int)<(ol:Int):=by omega
       have h5:Hid (((c.outs.take (t+1)).map fun r=>s.r.getD r.toNat 0).flatMap intC=((c.outs.take t).map fun r=>s.r.getD r.toNat 0).flatMap intC++[.int .i64 y]):=by
        show _=_
        rw[List.take_add_one,hr]
        simp only[Option.toList_some,List.map_append,List.flatMap_append,List.map_cons,List.map_nil,List.flatMap_cons,List.flatMap_nil,List.append_nil,Int.toNat_natCast,hgd.out]
        rfl
       have hnb:(wr.alloc (.cells #[.int .i64 y] 3)).heap[wr.heap.size]?=some (.cells #[.int .i64 y] 3 (0,0)):=heap_alloc_new wr (.cells #[.int .i64 y] 3)
       have hbs:=hF.size
       have HF3:=Lib.hid hF
       have HU:=Lib.hid hrow.lt
       clear hrg hri hox hoc r3 hrx hr hF
       generalize ((c.outs.take t).map fun r=>s.r.getD r.toNat 0).flatMap intC=row at hrow h5
       go_wp2_with (at_builtin;refine wpList_app rowIM rfl _ _ rfl U.heap.size _ _ _ rfl (World.ownsRow.alloc hrow _) ⟨wr.heap.size,0,none⟩ 1 [.int .i64 y] rfl rfl (World.news_of_block hnb) (by simp[Value.oneCell']) (by omega) (by simp;omega) (wr.heap.size+1) (by simp) ?_)
       intro g cap w4 hown hgrow _ _ _
       have hu:=fun q hq=>(HU.out q hq).1
       have h4:FrS [] U w4:=(HF3.out.alloc _).grown hgrow hu
       rw[← h5.out] at hown
       have H4:=Lib.hid h4
       have HO:=Lib.hid hown
       clear hgrow hnb hrow h4 hown co cr g3 hri2 hri0 htl hbs
       go_wp2_with fail
       go_roundw
       case rel=>exact⟨t+1,by go_num,by omega,H4.out,HO.out⟩
       case measure=>simp[intOf];omega
      ·have hte:t=ol:=by omega
       subst hte
       have h6:(c.outs.take t)=c.outs:=by rw[HOL.out,List.take_length]
       rw[h6] at hrow
       have HROW:=Lib.hid hrow
       have hb3:=hF.toBelow
       have HB3:=Lib.hid hb3
       have kq:=HQ1.out.below hb3
       have ko3:=KO2.out.below hb3
       have HKO3:=Lib.hid ko3
       obtain⟨vo',vc',rfl⟩ : ∃ a cc,u16=.slice a t cc:=by
        have h1:=ownsRow_apart (M:=[]) intC_len hrow (by rw[List.length_map,HOL.out]) (fun i hi=>by cases hi)
        obtain⟨a,cc,e,-⟩:=h1.form
        rw[List.length_map,← HOL.out] at e
        exact⟨a,cc,e⟩
       have d0:wr.cell? ⟨qb,0,none⟩=some (.slice ua sl.length uc):=kq.c rfl
       have d1:wr.cell? ⟨qb,1,none⟩=some (.bool false):=kq.c rfl
       have o0:wr.cell? ⟨ob,0,none⟩=some (.slice none 0 0):=ko3.c rfl
       have o1:wr.cell? ⟨ob,1,none⟩=some (.bool false):=ko3.c rfl
       have y0:wr.frozen? ⟨ob,0,none⟩=false:=ko3.z (v:=.slice none 0 0) rfl
       have y1:wr.frozen? ⟨ob,1,none⟩=false:=ko3.z (v:=.bool false) rfl
       clear hF hrow h6 kq ko3 hb3
       go_wp2_with fail
       go_region
       have hbU:=below_next HBW.out HB3.out
       have hF2:FrS [ob] wr ((wr.setCell ⟨ob,0,none⟩ (.slice ua sl.length uc)).setCell ⟨ob,1,none⟩ (.bool false)).drew:=(((FrS.refl [ob] wr).setCell (Or.inl (by simp)) _).setCell (Or.inl (by simp)) _).drew
       have hb2:Below w.heap.size w ((wr.setCell ⟨ob,0,none⟩ (.slice ua sl.length uc)).setCell ⟨ob,1,none⟩ (.bool false)).drew:=FrS.below hbU hF2 hbU.size (fun i hi=>by rw[List.mem_singleton.1 hi];exact NE.out.2.2.1)
       have hk2:Blk ((wr.setCell ⟨ob,0,none⟩ (.slice ua sl.length uc)).setCell ⟨ob,1,none⟩ (.bool false)).drew ob #[.slice ua sl.length uc,.bool false] 40:=(HKO3.out.puti 0 _).puti 1 _
       generalize ((wr.setCell ⟨ob,0,none⟩ (.slice ua sl.length uc)).setCell ⟨ob,1,none⟩ (.bool false)).drew=Z at hb2 hk2 hF2 ⊢
       clear d0 d1 o0 o1 y0 y1 g3
       go_wp2_with fail
       refine bodyPost_ret (results_tct rfl _ _ ob 40 _ (0,0) _ rfl hk2 Tryz.underlying40 rfl (by kernel_rfl)) rfl ?_
       have hst:=HST.out
       rw[if_neg (by rw[HF0.out];simp)] at hst
       unfold RStepPost
       rw[hst]
       have hobw:w1.heap.size≤U.heap.size:=HBr.out.size
       have hobl:ob<w1.heap.size:=HKO.out.lt
       refine⟨_,_,rfl,hb2,fun M hM=>?_,fun M hM _=>?_⟩
       ·have h1:=ownsRow_apart (M:=ob :: M) intC_len HROW.out (by rw[List.length_map];exact HOL.out.symm) (fun i hi=>by
         rcases List.mem_cons.1 hi with rfl | hi
         ·omega
         ·have:=hM i hi;have:=B1.out.size;omega)
        exact (h1.fr hF2 (fun i hi=>by rw[List.mem_singleton.1 hi];simp)).more (fun i hi=>Or.inl (List.mem_cons_of_mem _ hi))
       ·have hnl:s.nx.length=sl.length:=by rw[HRS.out.nx,HSL.out]
        by_cases q:sl=[]
        ·have h2:s.nx=[]:=List.eq_nil_of_length_eq_zero (by rw[hnl,q];rfl)
         rw[h2,q]
         exact Or.inl ⟨rfl,_,_,rfl⟩
        ·have h1:=HX1.out.below HB3.out
         have hn:=hNQ.out q
         have h2:RegsL Z nb 0 (.slice ua sl.length uc) s.nx:=h1.fr hF2 (fun _ e=>by have:=List.mem_singleton.1 e;have:=HRBW.out;omega)
         exact h2.sln (fun _ hi=>by have:=hM _ hi;have:=HRBW.out;have:=B1.out.size;omega)
    ·have hfb:(s.f != 0)=true:=by simpa using hf0
     have hst:=HST.out
     rw[if_pos hf0] at hst
     have HST2:=Lib.hid hst
     have t0:wr.cell? ⟨tb,0,none⟩=some (.slice sa sl.length sc):=KT1.out.c rfl
     have t1:wr.cell? ⟨tb,1,none⟩=some (.bool first):=KT1.out.c rfl
     clear hst hf0
     go_wp2_with fail
     go_region
     have hb2:Below w.heap.size w ((wr.setCell ⟨ob,0,none⟩ (.slice sa sl.length sc)).setCell ⟨ob,1,none⟩ (.bool first)).drew:=FrS.below HBW.out ((((FrS.refl [ob] wr).setCell (Or.inl (by simp)) _).setCell (Or.inl (by simp)) _).drew) HBW.out.size (fun i hi=>by rw[List.mem_singleton.1 hi];exact NE.out.2.2.1)
     have hk2:Blk ((wr.setCell ⟨ob,0,none⟩ (.slice sa sl.length sc)).setCell ⟨ob,1,none⟩ (.bool first)).drew ob #[.slice sa sl.length sc,.bool first] 40:=(KO2.out.puti 0 _).puti 1 _
     generalize ((wr.setCell ⟨ob,0,none⟩ (.slice sa sl.length sc)).setCell ⟨ob,1,none⟩ (.bool first)).drew=Z at hb2 hk2 ⊢
     clear t0 t1 o0 o1 y0 y1
     go_wp2_with fail
     refine bodyPost_ret (results_tct rfl _ _ ob 40 _ (0,0) _ rfl hk2 Tryz.underlying40 rfl (by kernel_rfl)) rfl ?_
     unfold RStepPost
     rw[HST2.out]
     exact⟨_,_,rfl,hb2,fun M _=>Or.inl ⟨rfl,_,_,rfl⟩,fun M hM hv=>hv.below hb2⟩
end Go.Proofs.YtbdbhdcbdfbnnaaGreatDoor
