/- Machine: the document's code as the program's: the walk. Machine: what instants make of a state: plain laws. The law MachineFault, whatever its arguments: the walk. -/
import Derived.Test.YtbdbhdcbdfbnnaaGreatDoorJ42
import Derived.Test.YtbdbhdcbdfbnnaaGreatDoorJ43
import Derived.Test.YtbdbhdcbdfbnnaaGreatDoorJ44
set_option linter.unusedVariables false
set_option linter.unusedSimpArgs false
namespace Go.Proofs.YtbdbhdcbdfbnnaaGreatDoor
open Go.RowKit
set_option maxRecDepth 100000
set_option maxHeartbeats 2000000 in
theorem own_any (w:World) (c:Cx.Co) (vi:Value) (oa na:Option Addr) (oc nc:Nat) (hi:Sl Cx.inL 6 w vi c.ins) (hl:c.ins.length≤1000000) :
  Calls Tryz.prog 8 #[.agg #[vi,.int .i64 c.regs,.int .i64 c.slots,.slice oa c.outs.length oc,.slice na c.inputs.length nc]] w fun e w'=>∃ (a:Option Addr) (cc:Nat),e=.returned (.agg #[.slice a c.ins.length cc,.int .i64 c.regs,.int .i64 c.slots,.slice oa c.outs.length oc,.slice na c.inputs.length nc])∧Sl Cx.inL 6 w' (.slice a c.ins.length cc) c.ins∧Below w.heap.size w w':=by
 obtain⟨ia,ic,rfl,hic,hix⟩:=hi.form
 have HI:=Lib.hid hix
 clear hi hix
 go_enter Tryz.func8,Tryz.ntmps8
 go_wp2_with fail
 have k1:=Blk.new w #[.slice ia c.ins.length ic,.int .i64 c.regs,.int .i64 c.slots,.slice oa c.outs.length oc,.slice na c.inputs.length nc] 25
 obtain⟨V1,hV1⟩ : ∃ V1,V1=w.alloc (.cells #[.slice ia c.ins.length ic,.int .i64 c.regs,.int .i64 c.slots,.slice oa c.outs.length oc,.slice na c.inputs.length nc] 25):=⟨_,rfl⟩
 have s1:V1.heap.size=w.heap.size+1:=by rw[hV1,World.size_alloc]
 have f1:FrS [] w V1:=by rw[hV1];exact (FrS.refl _ _).alloc _
 rw[← hV1] at k1 ⊢
 have k2:=Blk.new V1 #[.slice none 0 0,.int .i64 0,.int .i64 0,.slice none 0 0,.slice none 0 0] 36
 obtain⟨V2,hV2⟩ : ∃ V2,V2=V1.alloc (.cells #[.slice none 0 0,.int .i64 0,.int .i64 0,.slice none 0 0,.slice none 0 0] 36):=⟨_,rfl⟩
 have s2:V2.heap.size=w.heap.size+1+1:=by rw[hV2,World.size_alloc,s1]
 have f2:FrS [] V1 V2:=by rw[hV2];exact (FrS.refl _ _).alloc _
 rw[← hV2] at k2 ⊢
 have k3:=Blk.new V2 #[.slice none 0 0,.int .i64 c.regs,.int .i64 c.slots,.slice oa c.outs.length oc,.slice na c.inputs.length nc] 36
 obtain⟨U,hU⟩ : ∃ U,U=V2.alloc (.cells #[.slice none 0 0,.int .i64 c.regs,.int .i64 c.slots,.slice oa c.outs.length oc,.slice na c.inputs.length nc] 36):=⟨_,rfl⟩
 have s3:U.heap.size=w.heap.size+1+1+1:=by rw[hU,World.size_alloc,s2]
 have f3:FrS [] V2 U:=by rw[hU];exact (FrS.refl _ _).alloc _
 rw[← hU] at k3 ⊢
 rw[s2] at k3
 rw[s1] at k2
 have FU:=Lib.hid ((f1.trans f2 (fun i hi=>by cases hi)).trans f3 (fun i hi=>by cases hi))
 have K1:=Lib.hid (f3.blk (f2.blk k1 (fun e=>by cases e)) (fun e=>by cases e))
 have K2:=Lib.hid (f3.blk k2 (fun e=>by cases e))
 have K3:=Lib.hid k3
 have S3:=Lib.hid s3
 clear hU hV1 hV2 s1 s2 s3 f1 f2 f3 k1 k2 k3
 obtain⟨cb,hcb⟩ : ∃ cb,cb=w.heap.size:=⟨_,rfl⟩
 obtain⟨rb,hrb⟩ : ∃ rb,rb=w.heap.size+1:=⟨_,rfl⟩
 obtain⟨ob,hob⟩ : ∃ ob,ob=w.heap.size+1+1:=⟨_,rfl⟩
 rw[← hob,← hrb,← hcb]
 rw[← hob] at K3
 rw[← hrb] at K2
 rw[← hcb] at K1
 have NE:Hid (cb≠ob∧rb≠ob∧w.heap.size≤ob∧ob<U.heap.size∧w.heap.size≤rb∧rb<U.heap.size):=(by have:=S3.out;omega:cb≠ob∧rb≠ob∧w.heap.size≤ob∧ob<U.heap.size∧w.heap.size≤rb∧rb<U.heap.size)
 clear hcb hrb hob
 go_loopw [4] (fun iv wr=>∃ (t:Nat) (u:Value),iv=.int .i64 t∧t≤c.ins.length∧FrS [ob] U wr∧Blk wr ob #[u,.int .i64 c.regs,.int .i64 c.slots,.slice oa c.outs.length oc,.slice na c.inputs.length nc] 36∧wr.ownsRow U.heap.size 70 6 u t ((c.ins.take t).flatMap Cx.inL)) (fun iv _=>c.ins.length - (intOf iv).toNat)
 case atStart=>exact⟨0,_,rfl,Nat.zero_le _,FrS.refl _ _,K3.out,World.ownsRow_nil _ _ _ _⟩
 case round =>
  obtain⟨t,u,rfl,ht,hF,hB,hrow⟩:=hrel
  have ht0:(0:Int)≤(t:Int):=by omega
  have hbw:Below w.heap.size w wr:=FrS.below FU.out.toBelow hF FU.out.size (fun i hi=>by rw[List.mem_singleton.1 hi];exact NE.out.2.2.1)
  have g0:wr.cell? ⟨cb,0,none⟩=some (.slice ia c.ins.length ic):=(hF.blk K1.out (fun e=>NE.out.1 (List.mem_singleton.1 e))).c rfl
  have HF:=Lib.hid hF
  have HB:=Lib.hid hB
  have HROW:=Lib.hid hrow
  have HBW:=Lib.hid hbw
  clear hF hB
  by_cases hlt:t<c.ins.length
  ·obtain⟨x,hx⟩ : ∃ x,c.ins[t]?=some x:=⟨_,List.getElem?_eq_getElem hlt⟩
   have HFM:Hid ((c.ins.take (t+1)).flatMap Cx.inL=(c.ins.take t).flatMap Cx.inL++Cx.inL x):=by
    show _=_
    rw[List.take_add_one,hx];simp
   obtain⟨ib,io,rfl,hcl⟩:=HI.out wr hbw t x hx
   have e0:wr.cell? ⟨ib,io+t * 6,none⟩=some (.int .i64 x.op):=hcl 0 _ rfl
   have e1:wr.cell? ⟨ib,io+t * 6+1,none⟩=some (.int .i64 x.d):=hcl 1 _ rfl
   have e2:wr.cell? ⟨ib,io+t * 6+2,none⟩=some (.int .i64 x.a):=hcl 2 _ rfl
   have e3:wr.cell? ⟨ib,io+t * 6+3,none⟩=some (.int .i64 x.b):=hcl 3 _ rfl
   have e4:wr.cell? ⟨ib,io+t * 6+4,none⟩=some (.int .i64 x.c):=hcl 4 _ rfl
   have e5:wr.cell? ⟨ib,io+t * 6+5,none⟩=some (.int .i64 x.n):=hcl 5 _ rfl
   obtain⟨op,d,a,b,cc,n⟩:=x
   simp only at e0 e1 e2 e3 e4 e5
   have htl:(t:Int)<(c.ins.length:Int):=by omega
   have o0:(wr.alloc (.cells #[.int .i64 op,.int .i64 d,.int .i64 a,.int .i64 b,.int .i64 cc,.int .i64 n] 74)).cell? ⟨ob,0,none⟩=some u:=(((FrS.refl [] wr).alloc _).blk HB.out (fun e=>by cases e)).c rfl
   have hnb:((wr.alloc (.cells #[.int .i64 op,.int .i64 d,.int .i64 a,.int .i64 b,.int .i64 cc,.int .i64 n] 74)).alloc (.cells #[.int .i64 op,.int .i64 d,.int .i64 a,.int .i64 b,.int .i64 cc,.int .i64 n] 70)).heap[wr.heap.size+1]?=some (.cells #[.int .i64 op,.int .i64 d,.int .i64 a,.int .i64 b,.int .i64 cc,.int .i64 n] 70 (0,0)):=by
    have:=heap_alloc_new (wr.alloc (.cells #[.int .i64 op,.int .i64 d,.int .i64 a,.int .i64 b,.int .i64 cc,.int .i64 n] 74)) (.cells #[.int .i64 op,.int .i64 d,.int .i64 a,.int .i64 b,.int .i64 cc,.int .i64 n] 70)
    rwa [World.size_alloc] at this
   have hbs:=HF.out.size
   have HU:=Lib.hid hrow.lt
   clear hcl hx hbw
   go_wp2_with (at_builtin;refine wpList_app rowXM rfl _ _ rfl U.heap.size _ _ _ rfl (World.ownsRow.alloc (World.ownsRow.alloc hrow _) _) ⟨wr.heap.size+1,0,none⟩ 1 [.int .i64 op,.int .i64 d,.int .i64 a,.int .i64 b,.int .i64 cc,.int .i64 n] rfl rfl (World.news_of_block hnb) (by simp[Value.oneCell']) (by omega) (by simp;omega) (wr.heap.size+2) (by simp) ?_)
   intro g cap w4 hown hgrow _ _ _
   have hu:∀ q,u.ownBlock=some q→U.heap.size≤q:=fun q hq=>(HU.out q hq).1
   have h4:FrS [] U w4∨True:=Or.inr trivial
   have hF4:FrS [ob] U w4:=((HF.out.alloc _).alloc _).grown hgrow hu
   have hB4:Blk w4 ob #[u,.int .i64 c.regs,.int .i64 c.slots,.slice oa c.outs.length oc,.slice na c.inputs.length nc] 36:=by
    have hob:=HB.out.lt
    have h5:=hgrow.block ob (by simp;omega) (fun e=>by have:=hu ob e.symm;have:=NE.out.2.2.2.1;omega)
    have h6:Blk ((wr.alloc (.cells #[.int .i64 op,.int .i64 d,.int .i64 a,.int .i64 b,.int .i64 cc,.int .i64 n] 74)).alloc (.cells #[.int .i64 op,.int .i64 d,.int .i64 a,.int .i64 b,.int .i64 cc,.int .i64 n] 70)) ob #[u,.int .i64 c.regs,.int .i64 c.slots,.slice oa c.outs.length oc,.slice na c.inputs.length nc] 36:=(((FrS.refl [] wr).alloc _).alloc _).blk HB.out (fun e=>by cases e)
    exact h5.trans h6
   have e1:(c.ins.take t).flatMap Cx.inL++[.int .i64 op,.int .i64 d,.int .i64 a,.int .i64 b,.int .i64 cc,.int .i64 n]=(c.ins.take (t+1)).flatMap Cx.inL:=HFM.out.symm
   rw[e1] at hown
   have o4:w4.cell? ⟨ob,0,none⟩=some u:=hB4.c rfl
   have z4:w4.frozen? ⟨ob,0,none⟩=false:=hB4.z (v:=u) rfl
   have HO4:=Lib.hid hown
   have HF4:=Lib.hid hF4
   have HB4:=Lib.hid hB4
   clear hown hgrow hF4 hB4 e1 h4 hu hnb hrow o0 e0 e2 e3 e4 e5 g0 hbs
   go_wp2_with fail
   go_roundw
   case rel=>exact⟨t+1,_,by go_num,by omega,HF4.out.setCell (Or.inl (by simp)) _,HB4.out.puti 0 _,ownsRow_setCell_below HO4.out (a:=⟨ob,0,none⟩) NE.out.2.2.2.1 _⟩
   case measure=>simp[intOf];omega
  ·have hte:t=c.ins.length:=by omega
   subst hte
   rw[List.take_length] at hrow
   have hsl:=ownsRow_apart (M:=[rb]) Cx.inL_len hrow rfl (fun i hi=>by rw[List.mem_singleton.1 hi];exact NE.out.2.2.2.2.2)
   obtain⟨sa,sc,rfl,-,-⟩:=hsl.form
   have HSL:=Lib.hid hsl
   have o0:wr.cell? ⟨ob,0,none⟩=some (.slice sa c.ins.length sc):=HB.out.c rfl
   have o1:wr.cell? ⟨ob,1,none⟩=some (.int .i64 c.regs):=HB.out.c rfl
   have o2:wr.cell? ⟨ob,2,none⟩=some (.int .i64 c.slots):=HB.out.c rfl
   have o3:wr.cell? ⟨ob,3,none⟩=some (.slice oa c.outs.length oc):=HB.out.c rfl
   have o4:wr.cell? ⟨ob,4,none⟩=some (.slice na c.inputs.length nc):=HB.out.c rfl
   have hkr:=HF.out.blk K2.out (fun e=>NE.out.2.1 (List.mem_singleton.1 e))
   have r0:wr.cell? ⟨rb,0,none⟩=some (.slice none 0 0):=hkr.c rfl
   have r1:wr.cell? ⟨rb,1,none⟩=some (.int .i64 0):=hkr.c rfl
   have r2:wr.cell? ⟨rb,2,none⟩=some (.int .i64 0):=hkr.c rfl
   have r3:wr.cell? ⟨rb,3,none⟩=some (.slice none 0 0):=hkr.c rfl
   have r4:wr.cell? ⟨rb,4,none⟩=some (.slice none 0 0):=hkr.c rfl
   have z0:wr.frozen? ⟨rb,0,none⟩=false:=hkr.z (v:=.slice none 0 0) rfl
   have z1:wr.frozen? ⟨rb,1,none⟩=false:=hkr.z (v:=.int .i64 0) rfl
   have z2:wr.frozen? ⟨rb,2,none⟩=false:=hkr.z (v:=.int .i64 0) rfl
   have z3:wr.frozen? ⟨rb,3,none⟩=false:=hkr.z (v:=.slice none 0 0) rfl
   have z4:wr.frozen? ⟨rb,4,none⟩=false:=hkr.z (v:=.slice none 0 0) rfl
   have HKR:=Lib.hid hkr
   clear hsl hrow hkr hbw
   go_wp2_with fail
   have hF5:FrS [rb] wr (((((wr.setCell ⟨rb,0,none⟩ (.slice sa c.ins.length sc)).setCell ⟨rb,1,none⟩ (.int .i64 c.regs)).setCell ⟨rb,2,none⟩ (.int .i64 c.slots)).setCell ⟨rb,3,none⟩ (.slice oa c.outs.length oc)).setCell ⟨rb,4,none⟩ (.slice na c.inputs.length nc)):=(((((FrS.refl [rb] wr).setCell (Or.inl (by simp)) _).setCell (Or.inl (by simp)) _).setCell (Or.inl (by simp)) _).setCell (Or.inl (by simp)) _).setCell (Or.inl (by simp)) _
   have hK5:Blk (((((wr.setCell ⟨rb,0,none⟩ (.slice sa c.ins.length sc)).setCell ⟨rb,1,none⟩ (.int .i64 c.regs)).setCell ⟨rb,2,none⟩ (.int .i64 c.slots)).setCell ⟨rb,3,none⟩ (.slice oa c.outs.length oc)).setCell ⟨rb,4,none⟩ (.slice na c.inputs.length nc)) rb #[.slice sa c.ins.length sc,.int .i64 c.regs,.int .i64 c.slots,.slice oa c.outs.length oc,.slice na c.inputs.length nc] 36:=((((HKR.out.puti 0 _).puti 1 _).puti 2 _).puti 3 _).puti 4 _
   generalize (((((wr.setCell ⟨rb,0,none⟩ (.slice sa c.ins.length sc)).setCell ⟨rb,1,none⟩ (.int .i64 c.regs)).setCell ⟨rb,2,none⟩ (.int .i64 c.slots)).setCell ⟨rb,3,none⟩ (.slice oa c.outs.length oc)).setCell ⟨rb,4,none⟩ (.slice na c.inputs.length nc))=Z at hF5 hK5 ⊢
   refine bodyPost_ret (results_cell_row rfl _ _ rb 36 #[.slice sa c.ins.length sc,.int .i64 c.regs,.int .i64 c.slots,.slice oa c.outs.length oc,.slice na c.inputs.length nc] (0,0) _ rfl hK5 Tryz.underlying36 rfl (by kernel_rfl)) rfl ?_
   exact⟨sa,sc,rfl,(HSL.out.fr hF5 (fun i hi=>hi)).sl,FrS.below HBW.out hF5 HBW.out.size (fun i hi=>by rw[List.mem_singleton.1 hi];exact NE.out.2.2.2.2.1)⟩
end Go.Proofs.YtbdbhdcbdfbnnaaGreatDoor
namespace Go.Proofs.YtbdbhdcbdfbnnaaGreatDoor
open Go.RowKit
namespace Cx
def runM (c:Co) (m:Ms) (rows:List (List Int)):Ms:=rows.foldl (fun m r=>(stepS c m r).2) m
theorem runM_snoc (c:Co) (m:Ms) (l:List (List Int)) (r:List Int):runM c m (l++[r])=(stepS c (runM c m l) r).2:=by simp[runM]
theorem runM_take (c:Co) (m:Ms) {rows:List (List Int)} {t:Nat} {r:List Int} (hr:rows[t]?=some r):runM c m (rows.take (t+1))=(stepS c (runM c m (rows.take t)) r).2:=by
 rw[List.take_add_one,hr];exact runM_snoc _ _ _ _
theorem step_cases (c:Co) (m:Ms) (r:List Int):(m.f≠0∧(stepS c m r).2=m∧(stepS c m r).1=[])∨(m.f=0∧(stepS c m r).2.f≠0∧(stepS c m r).2.steps=m.steps∧(stepS c m r).2.sl=m.sl∧(stepS c m r).1=[])∨(m.f=0∧(stepS c m r).2.f=0∧(stepS c m r).2.steps=m.steps+1):=by
 unfold stepS
 by_cases h:m.f=0
 ·rw[if_neg (by simpa using h)]
  by_cases h2:frameS c.inputs r=false
  ·rw[if_pos h2];right;left;exact⟨h,by show (17:Int)≠0;decide,rfl,rfl,rfl⟩
  ·rw[if_neg h2]
   dsimp only
   split
   ·rename_i h3;right;left;exact⟨h,h3,rfl,rfl,rfl⟩
   ·right;right;exact⟨h,rfl,rfl⟩
 ·rw[if_pos h];left;exact⟨h,rfl,rfl⟩
end Cx
theorem MsOk.rows {c:Cx.Co} (hok:Cx.okS c=true):∀ {rows:List (List Int)} {m:Cx.Ms} {N:Int},MsOk c m N→MsOk c (Cx.runM c m rows) (N+rows.length)
 | [],m,N,h=>by simpa [Cx.runM] using h
 | r :: rows,m,N,h=>by
  have h1:=MsOk.rows hok (rows:=rows) (h.step hok r)
  have e:N+((r :: rows).length:Int)=N+1+(rows.length:Int):=by rw[List.length_cons];omega
  rw[e];exact h1
theorem MsOk.at {c:Cx.Co} (hok:Cx.okS c=true) {rows:List (List Int)} (h:rows.length≤20) (t:Nat):MsOk c (Cx.runM c (Cx.beginS c) (rows.take t)) 1000:=by
 have h1:=MsOk.rows hok (rows:=rows.take t) (begin_ok (c:=c))
 have h2:(rows.take t).length≤20:=by rw[List.length_take];omega
 exact⟨h1.len,h1.fits,⟨h1.steps.1,by have:=h1.steps.2;omega⟩,h1.f⟩
theorem smallC_parts {c:Cx.Co} (h:smallC c=true):c.ins.length≤600∧c.regs≤300∧c.slots≤300∧c.outs.length≤60∧c.inputs.length≤60:=by
 unfold smallC at h
 simp only[Bool.and_eq_true,decide_eq_true_eq] at h
 exact⟨h.1.1.1.1,h.1.1.1.2,h.1.1.2,h.1.2,h.2⟩
theorem smallR_parts {rows:List (List Int)} (h:smallR rows=true):rows.length≤20∧∀ r∈rows,r.length≤60:=by
 unfold smallR at h
 simp only[Bool.and_eq_true,decide_eq_true_eq,List.all_eq_true] at h
 exact h
end Go.Proofs.YtbdbhdcbdfbnnaaGreatDoor
namespace Go.Proofs.YtbdbhdcbdfbnnaaGreatDoor
open Go.RowKit
set_option maxRecDepth 100000
structure CodeIn (w:World) (c:Cx.Co) (vi vo vn:Value):Prop where
 i:Sl Cx.inL 6 w vi c.ins
 o:Sl intC 1 w vo c.outs
 n:Sl intC 1 w vn c.inputs
 h64:∀ x∈c.ins,-9223372036854775808≤x.n∧x.n≤9223372036854775807
theorem CodeIn.below {w w':World} {c:Cx.Co} {vi vo vn:Value} (h:CodeIn w c vi vo vn) (hb:Below w.heap.size w w'):CodeIn w' c vi vo vn:=⟨h.i.below hb,h.o.below hb,h.n.below hb,h.h64⟩
theorem MachAt.drawn {w:World} {M:List Nat} {mb rb:Nat} {c:Cx.Co} {m:Cx.Ms} (h:MachAt w M mb rb c m) (n:Nat):MachAt (w.drewN n) M mb rb c m :=
 h.fr ((FrS.refl [] w).drawn n) (fun i hi=>by cases hi) (fun q=>by cases q) (fun _ q=>by cases q)
end Go.Proofs.YtbdbhdcbdfbnnaaGreatDoor
