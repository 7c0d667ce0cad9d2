/- Machine: a new one: the walk. -/
import Derived.Deep.DeepCutAuto
import Derived.Deep.CutBlock
import Derived.Test.YtdmelebgdaiinaaGreatDoorJ40
set_option linter.unusedVariables false
set_option linter.unusedSimpArgs false
namespace Go.Proofs.YtdmelebgdaiinaaGreatDoor
open Go.RowKit
set_option maxRecDepth 100000
def NewPost (c:Cx.Co) (w:World) (e:Ending) (w':World):Prop :=
 Below w.heap.size w w'∧if Cx.okS c=true then ∃ mb rb,e=.returned (.tuple #[.pointer (some ⟨mb,0,none⟩),.int .i64 0])∧w.heap.size≤mb∧w.heap.size≤rb∧mb<w'.heap.size∧rb<w'.heap.size∧∀ M:List Nat,(∀ i∈M,i<w.heap.size)→MachAt w' (mb :: rb :: M) mb rb c (Cx.beginS c)
  else e=.returned (.tuple #[.pointer none,.int .i64 1])
theorem cloneX_at {w0:World} {l:List Cx.In} {v:Value} (hv:Sl Cx.inL 6 w0 v l) (hl:l.length≤1000000) (W:World) (hb:Below w0.heap.size w0 W) :
  Calls Tryz.prog 25 #[v] W fun e w2=>∃ (a:Option Addr) (cc:Nat),e=.returned (.slice a l.length cc)∧(∀ M:List Nat,(∀ i∈M,i<W.heap.size)→SlN Cx.inL 6 M w2 (.slice a l.length cc) l)∧Below W.heap.size W w2:=by
 refine (cloneX_any l v W (hv.below hb) hl).mono ?_
 rintro e w2 ⟨u,rfl,hown,hbl⟩
 have h1:=fun M hM=>ownsRow_apart (M:=M) Cx.inL_len hown rfl hM
 obtain⟨a,cc,rfl,-,-⟩:=(h1 [] (fun i hi=>by cases hi)).form
 exact⟨a,cc,rfl,h1,hbl⟩
theorem cloneN_at {w0:World} {l:List Int} {v:Value} (hv:Sl intC 1 w0 v l) (hl:l.length≤1000000) (W:World) (hb:Below w0.heap.size w0 W) :
  Calls Tryz.prog 26 #[v] W fun e w2=>∃ (a:Option Addr) (cc:Nat),e=.returned (.slice a l.length cc)∧(∀ M:List Nat,(∀ i∈M,i<W.heap.size)→SlN intC 1 M w2 (.slice a l.length cc) l)∧Below W.heap.size W w2:=by
 refine (cloneI_any l v W (hv.below hb) hl).mono ?_
 rintro e w2 ⟨u,rfl,hown,hbl⟩
 have h1:=fun M hM=>ownsRow_apart (M:=M) intC_len hown rfl hM
 obtain⟨a,cc,rfl,-,-⟩:=(h1 [] (fun i hi=>by cases hi)).form
 exact⟨a,cc,rfl,h1,hbl⟩
theorem zeros_made (n:Nat):madeCells (#[.int .i64 0] : Array Value) (n * 1)=Array.replicate n (.int .i64 0):=by
 unfold madeCells
 apply Array.ext
 ·simp
 ·intro i h1 h2
  simp[Nat.mod_one]
theorem make_ints (n:Nat) (hn:n≤1000000) (W:World):(Instr.makeSlice 23 (.int .i64 (n:Int)) (.int .i64 (n:Int))).run Tryz.prog W=.ok (.slice (some ⟨W.heap.size,0,none⟩) n n) (W.alloc (.cells (Array.replicate n (.int .i64 0)) 3)):=by
 obtain⟨i,z,hi,hz,hs1,hby,hzs⟩:=rowIM.ex
 have hz0:z=.int .i64 0:=by
  have h1:(Tryz.prog.info? 3).bind (·.zero)=some (.int .i64 0):=by kernel_rfl
  rw[hi] at h1
  have h2:i.zero=some (.int .i64 0):=h1
  rw[hz] at h2
  injection h2
 subst hz0
 have h:=run_make (P:=Tryz.prog) W 23 3 i (.int .i64 0) Tryz.underlying23 hi hz .i64 .i64 n n (by omega) (Int.le_refl _) (by rw[hby];omega) (by omega)
 rw[hs1] at h
 simp only[Int.toNat_natCast] at h
 rw[h]
 have e:(Value.int .i64 0).cells=#[.int .i64 0]:=rfl
 rw[e,zeros_made]
theorem zeros_regs {W W':World} {n b:Nat} (hb:Blk W' b (Array.replicate n (.int .i64 0)) 3):RegsL W' b 0 (.slice (some ⟨b,0,none⟩) n n) (List.replicate n 0):=by
 refine Or.inr ⟨n,by rw[List.length_replicate],by rw[List.length_replicate];exact Nat.le_refl _,hb.lt,fun i x hi=>?_⟩
 rw[List.getElem?_replicate] at hi
 split at hi
 ·cases hi
  rw[Nat.zero_add]
  have hv:(Array.replicate n (Value.int .i64 0))[i]?=some (.int .i64 0):=by simp[*]
  exact⟨hb.c hv,hb.z hv⟩
 ·cases hi
def NewMid (c:Cx.Co) (w:World) (wx:World) (cb:Nat):Prop :=
 ∃ (ua:Option Addr) (uc:Nat) (xa:Option Addr) (xc:Nat) (ya:Option Addr) (yc:Nat),Below w.heap.size w wx∧Blk wx cb #[.slice ua c.ins.length uc,.int .i64 c.regs,.int .i64 c.slots,.slice xa c.outs.length xc,.slice ya c.inputs.length yc] 36 ∧
  (∀ M:List Nat,(∀ i∈M,i<w.heap.size)→SlN Cx.inL 6 M wx (.slice ua c.ins.length uc) c.ins)∧(∀ M:List Nat,(∀ i∈M,i<w.heap.size)→SlN intC 1 M wx (.slice xa c.outs.length xc) c.outs)∧(∀ M:List Nat,(∀ i∈M,i<w.heap.size)→SlN intC 1 M wx (.slice ya c.inputs.length yc) c.inputs)
theorem new_done {c:Cx.Co} {w wc Z:World} {mb rb sb R S:Nat} {ua xa ya:Option Addr} {uc xc yc:Nat} (hR:c.regs=R) (hS:c.slots=S) (hok:Cx.okS c=true) (hw:Below w.heap.size w wc) (hz:Below wc.heap.size wc Z)
  (q3:∀ M:List Nat,(∀ i∈M,i<w.heap.size)→SlN Cx.inL 6 M wc (.slice ua c.ins.length uc) c.ins) (q4:∀ M:List Nat,(∀ i∈M,i<w.heap.size)→SlN intC 1 M wc (.slice xa c.outs.length xc) c.outs) (q5:∀ M:List Nat,(∀ i∈M,i<w.heap.size)→SlN intC 1 M wc (.slice ya c.inputs.length yc) c.inputs)
  (hm:Blk Z mb #[.slice ua c.ins.length uc,.int .i64 R,.int .i64 S,.slice xa c.outs.length xc,.slice ya c.inputs.length yc,.slice (some ⟨rb,0,none⟩) R R,.slice (some ⟨sb,0,none⟩) S S,.int .i64 0,.int .i64 0] 75)
  (hr:Blk Z rb (Array.replicate R (.int .i64 0)) 3) (hs:Blk Z sb (Array.replicate S (.int .i64 0)) 3) (h1:wc.heap.size≤mb) (h2:wc.heap.size≤rb) (h3:wc.heap.size≤sb) (n1:rb≠mb) (n2:sb≠mb) (n3:sb≠rb) :
  NewPost c w (.returned (.tuple #[.pointer (some ⟨mb,0,none⟩),.int .i64 0])) Z:=by
 have hws:=hw.size
 refine⟨below_next hw hz,?_⟩
 rw[if_pos hok]
 refine⟨mb,rb,rfl,by omega,by omega,hm.lt,hr.lt,fun M hM=>?_⟩
 have more:∀ i∈mb :: rb :: M,i∈M∨wc.heap.size≤i:=fun i hi=>by
  simp only[List.mem_cons] at hi
  rcases hi with rfl | rfl | hi
  ·exact Or.inr h1
  ·exact Or.inr h2
  ·exact Or.inl hi
 refine⟨⟨_,_,_,_,_,List.replicate R 0,by rw[hR,hS];exact hm,((q3 M hM).more more).below hz,((q4 M hM).more more).below hz,((q5 M hM).more more).below hz,zeros_regs (W:=wc) hr,by rw[List.length_replicate,hR];rfl,?_⟩,by simp,by simp,fun _=>n1⟩
 have e:(Cx.beginS c).sl=List.replicate S 0:=by show List.replicate c.slots.toNat 0=_;rw[hS];rfl
 rw[e]
 refine (zeros_regs (W:=wc) hs).sln fun _ hi=>?_
 simp only[List.mem_cons] at hi
 rcases hi with q | q | q
 ·exact n2 q
 ·exact n3 q
 ·have:=hM _ q;omega
theorem mid_done {c:Cx.Co} {w w1 wA wB wC:World} {cb:Nat} {ua xa ya:Option Addr} {uc xc yc:Nat} {v0 v3 v4:Value} (hw:Below w.heap.size w w1) (hcb:w.heap.size≤cb) (hcb1:cb<w1.heap.size) (hA:Below w1.heap.size w1 wA) (hB:Below w1.heap.size w1 wB) (hAB:Below wA.heap.size wA wB) (hBC:Below wB.heap.size wB wC)
  (hu:∀ M:List Nat,(∀ i∈M,i<w1.heap.size)→SlN Cx.inL 6 M wA (.slice ua c.ins.length uc) c.ins) (hx:∀ M:List Nat,(∀ i∈M,i<wA.heap.size)→SlN intC 1 M wB (.slice xa c.outs.length xc) c.outs) (hy:∀ M:List Nat,(∀ i∈M,i<wB.heap.size)→SlN intC 1 M wC (.slice ya c.inputs.length yc) c.inputs)
  (hk:Blk wC cb #[v0,.int .i64 c.regs,.int .i64 c.slots,v3,v4] 36) :
  NewMid c w (((wC.setCell ⟨cb,0,none⟩ (.slice ua c.ins.length uc)).setCell ⟨cb,3,none⟩ (.slice xa c.outs.length xc)).setCell ⟨cb,4,none⟩ (.slice ya c.inputs.length yc)) cb:=by
 have hFS:FrS [cb] wC (((wC.setCell ⟨cb,0,none⟩ (.slice ua c.ins.length uc)).setCell ⟨cb,3,none⟩ (.slice xa c.outs.length xc)).setCell ⟨cb,4,none⟩ (.slice ya c.inputs.length yc)):=(((FrS.refl [cb] wC).setCell (Or.inl (by simp)) _).setCell (Or.inl (by simp)) _).setCell (Or.inl (by simp)) _
 have h1:=hA.size
 have h2:=hAB.size
 have h3:=hBC.size
 have hw1:=hw.size
 have hwC:Below w.heap.size w wC:=below_next (below_next hw hB) hBC
 have lift:∀ (M:List Nat),(∀ i∈M,i<w.heap.size)→∀ i∈cb :: M,i<w1.heap.size:=fun M hM i hi=>by
  rcases List.mem_cons.1 hi with rfl | hi
  ·exact hcb1
  ·have:=hM i hi;omega
 have sub:∀ (M:List Nat) (W:World),∀ i∈M,i∈cb :: M∨W.heap.size≤i:=fun M W i hi=>Or.inl (List.mem_cons_of_mem _ hi)
 have inn:∀ (M:List Nat),∀ i ∈ [cb],i∈cb :: M:=fun M i hi=>by rw[List.mem_singleton.1 hi];exact List.mem_cons_self
 refine⟨ua,uc,xa,xc,ya,yc,FrS.below hwC hFS hwC.size (fun i hi=>by rw[List.mem_singleton.1 hi];exact hcb),((hk.puti 0 _).puti 3 _).puti 4 _,fun M hM=>?_,fun M hM=>?_,fun M hM=>?_⟩
 ·exact ((((hu _ (lift M hM)).below hAB).below hBC).fr hFS (inn M)).more (sub M _)
 ·exact (((hx (cb :: M) (fun i hi=>by have:=lift M hM i hi;omega)).below hBC).fr hFS (inn M)).more (sub M _)
 ·exact ((hy (cb :: M) (fun i hi=>by have:=lift M hM i hi;omega)).fr hFS (inn M)).more (sub M _)
set_option maxHeartbeats 4000000 in
theorem new_any (w:World) (c:Cx.Co) (vi vo vn:Value) (hi:Sl Cx.inL 6 w vi c.ins) (ho:Sl intC 1 w vo c.outs) (hn:Sl intC 1 w vn c.inputs) (h1:c.ins.length≤1000000) (h2:c.outs.length≤1000000) (h3:c.inputs.length≤1000000) (h64:∀ x∈c.ins,-9223372036854775808≤x.n∧x.n≤9223372036854775807) :
  Calls Tryz.prog 11 #[.agg #[vi,.int .i64 c.regs,.int .i64 c.slots,vo,vn]] w (NewPost c w):=by
 have CHK:=fun W (hW:Below w.heap.size w W)=>check_any W c vi vo vn (hi.below hW) (ho.below hW) (hn.below hW) h1 h2 h3 h64
 have CI:=fun W hW=>cloneX_at hi h1 W hW
 have CO:=fun W hW=>cloneN_at ho h2 W hW
 have CN:=fun W hW=>cloneN_at hn h3 W hW
 obtain⟨ia,ic,rfl,-,-⟩:=hi.form
 obtain⟨oa,oc,rfl,-,-⟩:=ho.form
 obtain⟨na,nc,rfl,-,-⟩:=hn.form
 clear hi ho hn h64
 have k1:=Blk.new w #[.slice ia c.ins.length ic,.int .i64 c.regs,.int .i64 c.slots,.slice oa c.outs.length oc,.slice na c.inputs.length nc] 36
 have f1:Below w.heap.size w (w.alloc (.cells #[.slice ia c.ins.length ic,.int .i64 c.regs,.int .i64 c.slots,.slice oa c.outs.length oc,.slice na c.inputs.length nc] 36)):=(Below.refl _ _).alloc (Nat.le_refl _) _
 have K1:=Lib.hid k1
 have F1:=Lib.hid f1
 clear k1 f1
 go_enter Tryz.func11,Tryz.ntmps11
 go_wp2_with fail
 refine (CHK _ F1.out).mono ?_
 rintro e w1 ⟨rfl,hb1⟩
 have FB1:=Lib.hid (below_next F1.out hb1)
 have KC:=Lib.hid (K1.out.below hb1)
 clear hb1 CHK
 cases hok:Cx.okS c with
 | false =>
  have HOK:=Lib.hid hok
  clear hok
  go_wp2_with fail
  go_ret2
  exact⟨FB1.out,by rw[HOK.out];rfl⟩
 | true =>
  have HOK:=Lib.hid hok
  have HSZ:=Lib.hid (okS_size hok)
  clear hok
  have HB1:Hid (∀ W,Below w1.heap.size w1 W→Below w.heap.size w W):=fun W hW=>below_next FB1.out hW
  have CI1:=fun W hW=>CI W (HB1.out W hW)
  have CO1:=fun W hW=>CO W (HB1.out W hW)
  have CN1:=fun W hW=>CN W (HB1.out W hW)
  obtain⟨cb,hcb⟩ : ∃ cb,cb=w.heap.size:=⟨_,rfl⟩
  rw[← hcb] at KC ⊢
  have HCB:=Lib.hid hcb
  have HSW:=Lib.hid FB1.out.size
  clear CI CO CN hcb
  have KK:∀ W,Below w1.heap.size w1 W→Blk W cb #[.slice ia c.ins.length ic,.int .i64 c.regs,.int .i64 c.slots,.slice oa c.outs.length oc,.slice na c.inputs.length nc] 36:=fun W hW=>KC.out.below hW
  have KL:∀ W,Below w1.heap.size w1 W→W.cell? ⟨cb,0,none⟩=some (.slice ia c.ins.length ic)∧W.cell? ⟨cb,3,none⟩=some (.slice oa c.outs.length oc)∧W.cell? ⟨cb,4,none⟩=some (.slice na c.inputs.length nc):=fun W hW=>⟨(KK W hW).c rfl,(KK W hW).c rfl,(KK W hW).c rfl⟩
  go_upto_region 4 with fail
  go_cut [10] (fun _ wx=>NewMid c w wx cb)
  case first =>
   have BD:=(Below.refl w1.heap.size w1).drew
   obtain⟨c0,c3,c4⟩:=KL _ (Below.refl _ _)
   go_region_with (first
    | (go_at_call 25;(with_reducible refine (CI1 _ BD).mono ?_);rintro e wA ⟨ua,uc,rfl,hua,hbA⟩;have HBA:=below_next BD hbA;obtain⟨a0,a3,a4⟩:=KL _ HBA)
    | (go_at_call 26;(with_reducible refine (CO1 _ HBA).mono ?_);rintro e wB ⟨xa,xc,rfl,hxa,hbB⟩;have HBB:=below_next HBA hbB;obtain⟨b0,b3,b4⟩:=KL _ HBB)
    | (go_at_call 26;(with_reducible refine (CN1 _ HBB).mono ?_);rintro e wC ⟨ya,yc,rfl,hya,hbC⟩;have HBC:=below_next HBB hbC;obtain⟨d0,d3,d4⟩:=KL _ HBC;have z0:wC.frozen? ⟨cb,0,none⟩=false:=(KK _ HBC).z (v:=.slice ia c.ins.length ic) rfl;have z3:wC.frozen? ⟨cb,3,none⟩=false:=(KK _ HBC).z (v:=.slice oa c.outs.length oc) rfl;have z4:wC.frozen? ⟨cb,4,none⟩=false:=(KK _ HBC).z (v:=.slice na c.inputs.length nc) rfl)
    | fail)
   all_goals
    clear c0 c3 c4 a0 a3 a4 b0 b3 b4 d0 d3 d4 z0 z3 z4
    go_wp2_with fail
    go_meet
    exact mid_done FB1.out (by rw[HCB.out];exact Nat.le_refl _) KC.out.lt HBA HBB hbB hbC hua hxa hya (KK _ HBC)
  case rest =>
   obtain⟨ua,uc,xa,xc,ya,yc,q1,q2,q3,q4,q5⟩:=hcut
   obtain⟨R,hR⟩:=Int.eq_ofNat_of_zero_le HSZ.out.1
   obtain⟨S,hS⟩:=Int.eq_ofNat_of_zero_le HSZ.out.2.2.1
   have hR2:R≤100000:=by have:=HSZ.out;omega
   have hS2:S≤100000:=by have:=HSZ.out;omega
   have Q1:=Lib.hid q1
   have Q2:=Lib.hid q2
   have Q3:=Lib.hid q3
   have Q4:=Lib.hid q4
   have Q5:=Lib.hid q5
   have KM:∀ W,Below wc.heap.size wc W→W.cell? ⟨cb,0,none⟩=some (.slice ua c.ins.length uc)∧W.cell? ⟨cb,1,none⟩=some (.int .i64 R)∧W.cell? ⟨cb,2,none⟩=some (.int .i64 S)∧W.cell? ⟨cb,3,none⟩=some (.slice xa c.outs.length xc)∧W.cell? ⟨cb,4,none⟩=some (.slice ya c.inputs.length yc):=fun W hW=>by
    have hk:=q2.below hW
    rw[hR,hS] at hk
    exact⟨hk.c rfl,hk.c rfl,hk.c rfl,hk.c rfl,hk.c rfl⟩
   have B0:=Below.refl wc.heap.size wc
   have BD:=B0.drew
   have HR:=Lib.hid hR
   have HS:=Lib.hid hS
   clear q1 q2 q3 q4 q5 hR hS CI1 CO1 CN1 KK KL
   have hmR:=make_ints R (by omega)
   have hmS:=make_ints S (by omega)
   go_wp2_with fail
   have HK0:=KM _ B0
   have HKD:=KM _ BD
   go_region_held3 (fun w'=>w'.cell? ⟨cb,0,none⟩=some (.slice ua c.ins.length uc)∧w'.cell? ⟨cb,1,none⟩=some (.int .i64 R)∧w'.cell? ⟨cb,2,none⟩=some (.int .i64 S)∧w'.cell? ⟨cb,3,none⟩=some (.slice xa c.outs.length xc)∧w'.cell? ⟨cb,4,none⟩=some (.slice ya c.inputs.length yc))
    (first | exact HK0 | exact HKD | exact KM _ (B0.alloc (Nat.le_refl _) _).drew | exact KM _ ((B0.alloc (Nat.le_refl _) _).alloc (by simp) _).drew | exact KM _ (((B0.alloc (Nat.le_refl _) _).alloc (by simp) _).alloc (by simp;omega) _).drew)
    (fail)
   ·clear HK0 HKD hmR hmS KM BD B0
    go_wp2_with fail
    go_ret2
    refine new_done HR.out HS.out HOK.out Q1.out (((Below.refl wc.heap.size wc).alloc (Nat.le_refl _) _).alloc (by simp) _ |>.alloc (by simp;omega) _).drew Q3.out Q4.out Q5.out (mb:=wc.heap.size+1+1) (rb:=wc.heap.size) (sb:=wc.heap.size+1) ?_ ?_ ?_ (by omega) (by omega) (by omega) (by omega) (by omega) (by omega)
    ·have h:=Blk.new ((wc.alloc (.cells (Array.replicate R (.int .i64 0)) 3)).alloc (.cells (Array.replicate S (.int .i64 0)) 3)) #[.slice ua c.ins.length uc,.int .i64 R,.int .i64 S,.slice xa c.outs.length xc,.slice ya c.inputs.length yc,.slice (some ⟨wc.heap.size,0,none⟩) R R,.slice (some ⟨wc.heap.size+1,0,none⟩) S S,.int .i64 0,.int .i64 0] 75
     rw[World.size_alloc,World.size_alloc] at h
     exact h
    ·have h:=Blk.new wc (Array.replicate R (.int .i64 0)) 3
     have h2:Blk ((wc.alloc (.cells (Array.replicate R (.int .i64 0)) 3)).alloc (.cells (Array.replicate S (.int .i64 0)) 3)) wc.heap.size (Array.replicate R (.int .i64 0)) 3:=h.below ((Below.refl _ _).alloc (Nat.le_refl _) _)
     exact h2.below (w':=((wc.alloc (.cells (Array.replicate R (.int .i64 0)) 3)).alloc (.cells (Array.replicate S (.int .i64 0)) 3)).alloc (.cells #[.slice ua c.ins.length uc,.int .i64 R,.int .i64 S,.slice xa c.outs.length xc,.slice ya c.inputs.length yc,.slice (some ⟨wc.heap.size,0,none⟩) R R,.slice (some ⟨wc.heap.size+1,0,none⟩) S S,.int .i64 0,.int .i64 0] 75)) ((Below.refl _ _).alloc (Nat.le_refl _) _)
    ·have h:=Blk.new (wc.alloc (.cells (Array.replicate R (.int .i64 0)) 3)) (Array.replicate S (.int .i64 0)) 3
     rw[World.size_alloc] at h
     exact h.below (w':=((wc.alloc (.cells (Array.replicate R (.int .i64 0)) 3)).alloc (.cells (Array.replicate S (.int .i64 0)) 3)).alloc (.cells #[.slice ua c.ins.length uc,.int .i64 R,.int .i64 S,.slice xa c.outs.length xc,.slice ya c.inputs.length yc,.slice (some ⟨wc.heap.size,0,none⟩) R R,.slice (some ⟨wc.heap.size+1,0,none⟩) S S,.int .i64 0,.int .i64 0] 75)) ((Below.refl _ _).alloc (Nat.le_refl _) _)
   ·clear HK0 HKD hmR hmS KM BD B0
    go_wp2_with fail
    go_ret2
    refine new_done HR.out HS.out HOK.out Q1.out (((Below.refl wc.heap.size wc).alloc (Nat.le_refl _) _).alloc (by simp) _ |>.alloc (by simp;omega) _).drew Q3.out Q4.out Q5.out (mb:=wc.heap.size+1+1) (rb:=wc.heap.size+1) (sb:=wc.heap.size) ?_ ?_ ?_ (by omega) (by omega) (by omega) (by omega) (by omega) (by omega)
    ·have h:=Blk.new ((wc.alloc (.cells (Array.replicate S (.int .i64 0)) 3)).alloc (.cells (Array.replicate R (.int .i64 0)) 3)) #[.slice ua c.ins.length uc,.int .i64 R,.int .i64 S,.slice xa c.outs.length xc,.slice ya c.inputs.length yc,.slice (some ⟨wc.heap.size+1,0,none⟩) R R,.slice (some ⟨wc.heap.size,0,none⟩) S S,.int .i64 0,.int .i64 0] 75
     rw[World.size_alloc,World.size_alloc] at h
     exact h
    ·have h:=Blk.new (wc.alloc (.cells (Array.replicate S (.int .i64 0)) 3)) (Array.replicate R (.int .i64 0)) 3
     rw[World.size_alloc] at h
     exact h.below (w':=((wc.alloc (.cells (Array.replicate S (.int .i64 0)) 3)).alloc (.cells (Array.replicate R (.int .i64 0)) 3)).alloc (.cells #[.slice ua c.ins.length uc,.int .i64 R,.int .i64 S,.slice xa c.outs.length xc,.slice ya c.inputs.length yc,.slice (some ⟨wc.heap.size+1,0,none⟩) R R,.slice (some ⟨wc.heap.size,0,none⟩) S S,.int .i64 0,.int .i64 0] 75)) ((Below.refl _ _).alloc (Nat.le_refl _) _)
    ·have h:=Blk.new wc (Array.replicate S (.int .i64 0)) 3
     have h2:Blk ((wc.alloc (.cells (Array.replicate S (.int .i64 0)) 3)).alloc (.cells (Array.replicate R (.int .i64 0)) 3)) wc.heap.size (Array.replicate S (.int .i64 0)) 3:=h.below ((Below.refl _ _).alloc (Nat.le_refl _) _)
     exact h2.below (w':=((wc.alloc (.cells (Array.replicate S (.int .i64 0)) 3)).alloc (.cells (Array.replicate R (.int .i64 0)) 3)).alloc (.cells #[.slice ua c.ins.length uc,.int .i64 R,.int .i64 S,.slice xa c.outs.length xc,.slice ya c.inputs.length yc,.slice (some ⟨wc.heap.size+1,0,none⟩) R R,.slice (some ⟨wc.heap.size,0,none⟩) S S,.int .i64 0,.int .i64 0] 75)) ((Below.refl _ _).alloc (Nat.le_refl _) _)
end Go.Proofs.YtdmelebgdaiinaaGreatDoor
