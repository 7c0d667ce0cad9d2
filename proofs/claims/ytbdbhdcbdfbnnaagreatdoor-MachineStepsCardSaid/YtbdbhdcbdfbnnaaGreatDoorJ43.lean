/- Machine: a new one: the walk. Machine: what the document asks of an instruction: rest, number, written; flags: the walks. Machine: what the document asks of an instruction: number, written; flags: the walks. Machine: a row appended to none; the document's beginning: the walk. -/
import Derived.Deep.DeepCutAuto
import Derived.Deep.CutBlock
import Derived.ArgAppend
import Derived.Laws.OwnMore
import Derived.Test.YtbdbhdcbdfbnnaaGreatDoorJ10
import Derived.Test.YtbdbhdcbdfbnnaaGreatDoorJ12
import Derived.Test.YtbdbhdcbdfbnnaaGreatDoorJ34
import Derived.Test.YtbdbhdcbdfbnnaaGreatDoorJ41
import Derived.Test.YtbdbhdcbdfbnnaaGreatDoorJ42
set_option linter.unusedVariables false
set_option linter.unusedSimpArgs false
namespace Go.Proofs.YtbdbhdcbdfbnnaaGreatDoor
open Go.RowKit
set_option maxRecDepth 100000
def NewPost (c:Cx.Co) (w:World) (e:Ending) (w':World):Prop :=
 Below w.heap.size w w'∧if Cx.okS c=true then ∃ mb rb,e=.returned (.tuple #[.pointer (some ⟨mb,0,none⟩),.int .i64 0])∧w.heap.size≤mb∧w.heap.size≤rb∧mb<w'.heap.size∧rb<w'.heap.size∧∀ M:List Nat,(∀ i∈M,i<w.heap.size)→MachAt w' (mb :: rb :: M) mb rb c (Cx.beginS c)
  else e=.returned (.tuple #[.pointer none,.int .i64 1])
theorem cloneX_at {w0:World} {l:List Cx.In} {v:Value} (hv:Sl Cx.inL 6 w0 v l) (hl:l.length≤1000000) (W:World) (hb:Below w0.heap.size w0 W) :
  Calls Tryz.prog 21 #[v] W fun e w2=>∃ (a:Option Addr) (cc:Nat),e=.returned (.slice a l.length cc)∧(∀ M:List Nat,(∀ i∈M,i<W.heap.size)→SlN Cx.inL 6 M w2 (.slice a l.length cc) l)∧Below W.heap.size W w2:=by
 refine (cloneX_any l v W (hv.below hb) hl).mono ?_
 rintro e w2 ⟨u,rfl,hown,hbl⟩
 have h1:=fun M hM=>ownsRow_apart (M:=M) Cx.inL_len hown rfl hM
 obtain⟨a,cc,rfl,-,-⟩:=(h1 [] (fun i hi=>by cases hi)).form
 exact⟨a,cc,rfl,h1,hbl⟩
theorem cloneN_at {w0:World} {l:List Int} {v:Value} (hv:Sl intC 1 w0 v l) (hl:l.length≤1000000) (W:World) (hb:Below w0.heap.size w0 W) :
  Calls Tryz.prog 22 #[v] W fun e w2=>∃ (a:Option Addr) (cc:Nat),e=.returned (.slice a l.length cc)∧(∀ M:List Nat,(∀ i∈M,i<W.heap.size)→SlN intC 1 M w2 (.slice a l.length cc) l)∧Below W.heap.size W w2:=by
 refine (cloneI_any l v W (hv.below hb) hl).mono ?_
 rintro e w2 ⟨u,rfl,hown,hbl⟩
 have h1:=fun M hM=>ownsRow_apart (M:=M) intC_len hown rfl hM
 obtain⟨a,cc,rfl,-,-⟩:=(h1 [] (fun i hi=>by cases hi)).form
 exact⟨a,cc,rfl,h1,hbl⟩
theorem zeros_made (n:Nat):madeCells (#[.int .i64 0] : Array Value) (n * 1)=Array.replicate n (.int .i64 0):=by
 unfold madeCells
 apply Array.ext
 ·simp
 ·intro i h1 h2
  simp[Nat.mod_one]
theorem make_ints (n:Nat) (hn:n≤1000000) (W:World):(Instr.makeSlice 23 (.int .i64 (n:Int)) (.int .i64 (n:Int))).run Tryz.prog W=.ok (.slice (some ⟨W.heap.size,0,none⟩) n n) (W.alloc (.cells (Array.replicate n (.int .i64 0)) 3)):=by
 obtain⟨i,z,hi,hz,hs1,hby,hzs⟩:=rowIM.ex
 have hz0:z=.int .i64 0:=by
  have h1:(Tryz.prog.info? 3).bind (·.zero)=some (.int .i64 0):=by kernel_rfl
  rw[hi] at h1
  have h2:i.zero=some (.int .i64 0):=h1
  rw[hz] at h2
  injection h2
 subst hz0
 have h:=run_make (P:=Tryz.prog) W 23 3 i (.int .i64 0) Tryz.underlying23 hi hz .i64 .i64 n n (by omega) (Int.le_refl _) (by rw[hby];omega) (by omega)
 rw[hs1] at h
 simp only[Int.toNat_natCast] at h
 rw[h]
 have e:(Value.int .i64 0).cells=#[.int .i64 0]:=rfl
 rw[e,zeros_made]
theorem zeros_regs {W W':World} {n b:Nat} (hb:Blk W' b (Array.replicate n (.int .i64 0)) 3):RegsL W' b 0 (.slice (some ⟨b,0,none⟩) n n) (List.replicate n 0):=by
 refine Or.inr ⟨n,by rw[List.length_replicate],by rw[List.length_replicate];exact Nat.le_refl _,hb.lt,fun i x hi=>?_⟩
 rw[List.getElem?_replicate] at hi
 split at hi
 ·cases hi
  rw[Nat.zero_add]
  have hv:(Array.replicate n (Value.int .i64 0))[i]?=some (.int .i64 0):=by simp[*]
  exact⟨hb.c hv,hb.z hv⟩
 ·cases hi
def NewMid (c:Cx.Co) (w:World) (wx:World) (cb:Nat):Prop :=
 ∃ (ua:Option Addr) (uc:Nat) (xa:Option Addr) (xc:Nat) (ya:Option Addr) (yc:Nat),Below w.heap.size w wx∧Blk wx cb #[.slice ua c.ins.length uc,.int .i64 c.regs,.int .i64 c.slots,.slice xa c.outs.length xc,.slice ya c.inputs.length yc] 36 ∧
  (∀ M:List Nat,(∀ i∈M,i<w.heap.size)→SlN Cx.inL 6 M wx (.slice ua c.ins.length uc) c.ins)∧(∀ M:List Nat,(∀ i∈M,i<w.heap.size)→SlN intC 1 M wx (.slice xa c.outs.length xc) c.outs)∧(∀ M:List Nat,(∀ i∈M,i<w.heap.size)→SlN intC 1 M wx (.slice ya c.inputs.length yc) c.inputs)
theorem new_done {c:Cx.Co} {w wc Z:World} {mb rb sb R S:Nat} {ua xa ya:Option Addr} {uc xc yc:Nat} (hR:c.regs=R) (hS:c.slots=S) (hok:Cx.okS c=true) (hw:Below w.heap.size w wc) (hz:Below wc.heap.size wc Z)
  (q3:∀ M:List Nat,(∀ i∈M,i<w.heap.size)→SlN Cx.inL 6 M wc (.slice ua c.ins.length uc) c.ins) (q4:∀ M:List Nat,(∀ i∈M,i<w.heap.size)→SlN intC 1 M wc (.slice xa c.outs.length xc) c.outs) (q5:∀ M:List Nat,(∀ i∈M,i<w.heap.size)→SlN intC 1 M wc (.slice ya c.inputs.length yc) c.inputs)
  (hm:Blk Z mb #[.slice ua c.ins.length uc,.int .i64 R,.int .i64 S,.slice xa c.outs.length xc,.slice ya c.inputs.length yc,.slice (some ⟨rb,0,none⟩) R R,.slice (some ⟨sb,0,none⟩) S S,.int .i64 0,.int .i64 0] 73)
  (hr:Blk Z rb (Array.replicate R (.int .i64 0)) 3) (hs:Blk Z sb (Array.replicate S (.int .i64 0)) 3) (h1:wc.heap.size≤mb) (h2:wc.heap.size≤rb) (h3:wc.heap.size≤sb) (n1:rb≠mb) (n2:sb≠mb) (n3:sb≠rb) :
  NewPost c w (.returned (.tuple #[.pointer (some ⟨mb,0,none⟩),.int .i64 0])) Z:=by
 have hws:=hw.size
 refine⟨below_next hw hz,?_⟩
 rw[if_pos hok]
 refine⟨mb,rb,rfl,by omega,by omega,hm.lt,hr.lt,fun M hM=>?_⟩
 have more:∀ i∈mb :: rb :: M,i∈M∨wc.heap.size≤i:=fun i hi=>by
  simp only[List.mem_cons] at hi
  rcases hi with rfl | rfl | hi
  ·exact Or.inr h1
  ·exact Or.inr h2
  ·exact Or.inl hi
 refine⟨⟨_,_,_,_,_,List.replicate R 0,by rw[hR,hS];exact hm,((q3 M hM).more more).below hz,((q4 M hM).more more).below hz,((q5 M hM).more more).below hz,zeros_regs (W:=wc) hr,by rw[List.length_replicate,hR];rfl,?_⟩,by simp,by simp,fun _=>n1⟩
 have e:(Cx.beginS c).sl=List.replicate S 0:=by show List.replicate c.slots.toNat 0=_;rw[hS];rfl
 rw[e]
 refine (zeros_regs (W:=wc) hs).sln fun _ hi=>?_
 simp only[List.mem_cons] at hi
 rcases hi with q | q | q
 ·exact n2 q
 ·exact n3 q
 ·have:=hM _ q;omega
theorem mid_done {c:Cx.Co} {w w1 wA wB wC:World} {cb:Nat} {ua xa ya:Option Addr} {uc xc yc:Nat} {v0 v3 v4:Value} (hw:Below w.heap.size w w1) (hcb:w.heap.size≤cb) (hcb1:cb<w1.heap.size) (hA:Below w1.heap.size w1 wA) (hB:Below w1.heap.size w1 wB) (hAB:Below wA.heap.size wA wB) (hBC:Below wB.heap.size wB wC)
  (hu:∀ M:List Nat,(∀ i∈M,i<w1.heap.size)→SlN Cx.inL 6 M wA (.slice ua c.ins.length uc) c.ins) (hx:∀ M:List Nat,(∀ i∈M,i<wA.heap.size)→SlN intC 1 M wB (.slice xa c.outs.length xc) c.outs) (hy:∀ M:List Nat,(∀ i∈M,i<wB.heap.size)→SlN intC 1 M wC (.slice ya c.inputs.length yc) c.inputs)
  (hk:Blk wC cb #[v0,.int .i64 c.regs,.int .i64 c.slots,v3,v4] 36) :
  NewMid c w (((wC.setCell ⟨cb,0,none⟩ (.slice ua c.ins.length uc)).setCell ⟨cb,3,none⟩ (.slice xa c.outs.length xc)).setCell ⟨cb,4,none⟩ (.slice ya c.inputs.length yc)) cb:=by
 have hFS:FrS [cb] wC (((wC.setCell ⟨cb,0,none⟩ (.slice ua c.ins.length uc)).setCell ⟨cb,3,none⟩ (.slice xa c.outs.length xc)).setCell ⟨cb,4,none⟩ (.slice ya c.inputs.length yc)):=(((FrS.refl [cb] wC).setCell (Or.inl (by simp)) _).setCell (Or.inl (by simp)) _).setCell (Or.inl (by simp)) _
 have h1:=hA.size
 have h2:=hAB.size
 have h3:=hBC.size
 have hw1:=hw.size
 have hwC:Below w.heap.size w wC:=below_next (below_next hw hB) hBC
 have lift:∀ (M:List Nat),(∀ i∈M,i<w.heap.size)→∀ i∈cb :: M,i<w1.heap.size:=fun M hM i hi=>by
  rcases List.mem_cons.1 hi with rfl | hi
  ·exact hcb1
  ·have:=hM i hi;omega
 have sub:∀ (M:List Nat) (W:World),∀ i∈M,i∈cb :: M∨W.heap.size≤i:=fun M W i hi=>Or.inl (List.mem_cons_of_mem _ hi)
 have inn:∀ (M:List Nat),∀ i ∈ [cb],i∈cb :: M:=fun M i hi=>by rw[List.mem_singleton.1 hi];exact List.mem_cons_self
 refine⟨ua,uc,xa,xc,ya,yc,FrS.below hwC hFS hwC.size (fun i hi=>by rw[List.mem_singleton.1 hi];exact hcb),((hk.puti 0 _).puti 3 _).puti 4 _,fun M hM=>?_,fun M hM=>?_,fun M hM=>?_⟩
 ·exact ((((hu _ (lift M hM)).below hAB).below hBC).fr hFS (inn M)).more (sub M _)
 ·exact (((hx (cb :: M) (fun i hi=>by have:=lift M hM i hi;omega)).below hBC).fr hFS (inn M)).more (sub M _)
 ·exact ((hy (cb :: M) (fun i hi=>by have:=lift M hM i hi;omega)).fr hFS (inn M)).more (sub M _)
set_option maxHeartbeats 4000000 in
theorem new_any (w:World) (c:Cx.Co) (vi vo vn:Value) (hi:Sl Cx.inL 6 w vi c.ins) (ho:Sl intC 1 w vo c.outs) (hn:Sl intC 1 w vn c.inputs) (h1:c.ins.length≤1000000) (h2:c.outs.length≤1000000) (h3:c.inputs.length≤1000000) (h64:∀ x∈c.ins,-9223372036854775808≤x.n∧x.n≤9223372036854775807) :
  Calls Tryz.prog 7 #[.agg #[vi,.int .i64 c.regs,.int .i64 c.slots,vo,vn]] w (NewPost c w):=by
 have CHK:=fun W (hW:Below w.heap.size w W)=>check_any W c vi vo vn (hi.below hW) (ho.below hW) (hn.below hW) h1 h2 h3 h64
 have CI:=fun W hW=>cloneX_at hi h1 W hW
 have CO:=fun W hW=>cloneN_at ho h2 W hW
 have CN:=fun W hW=>cloneN_at hn h3 W hW
 obtain⟨ia,ic,rfl,-,-⟩:=hi.form
 obtain⟨oa,oc,rfl,-,-⟩:=ho.form
 obtain⟨na,nc,rfl,-,-⟩:=hn.form
 clear hi ho hn h64
 have k1:=Blk.new w #[.slice ia c.ins.length ic,.int .i64 c.regs,.int .i64 c.slots,.slice oa c.outs.length oc,.slice na c.inputs.length nc] 36
 have f1:Below w.heap.size w (w.alloc (.cells #[.slice ia c.ins.length ic,.int .i64 c.regs,.int .i64 c.slots,.slice oa c.outs.length oc,.slice na c.inputs.length nc] 36)):=(Below.refl _ _).alloc (Nat.le_refl _) _
 have K1:=Lib.hid k1
 have F1:=Lib.hid f1
 clear k1 f1
 go_enter Tryz.func7,Tryz.ntmps7
 go_wp2_with fail
 refine (CHK _ F1.out).mono ?_
 rintro e w1 ⟨rfl,hb1⟩
 have FB1:=Lib.hid (below_next F1.out hb1)
 have KC:=Lib.hid (K1.out.below hb1)
 clear hb1 CHK
 cases hok:Cx.okS c with
 | false =>
  have HOK:=Lib.hid hok
  clear hok
  go_wp2_with fail
  go_ret2
  exact⟨FB1.out,by rw[HOK.out];rfl⟩
 | true =>
  have HOK:=Lib.hid hok
  have HSZ:=Lib.hid (okS_size hok)
  clear hok
  have HB1:Hid (∀ W,Below w1.heap.size w1 W→Below w.heap.size w W):=fun W hW=>below_next FB1.out hW
  have CI1:=fun W hW=>CI W (HB1.out W hW)
  have CO1:=fun W hW=>CO W (HB1.out W hW)
  have CN1:=fun W hW=>CN W (HB1.out W hW)
  obtain⟨cb,hcb⟩ : ∃ cb,cb=w.heap.size:=⟨_,rfl⟩
  rw[← hcb] at KC ⊢
  have HCB:=Lib.hid hcb
  have HSW:=Lib.hid FB1.out.size
  clear CI CO CN hcb
  have KK:∀ W,Below w1.heap.size w1 W→Blk W cb #[.slice ia c.ins.length ic,.int .i64 c.regs,.int .i64 c.slots,.slice oa c.outs.length oc,.slice na c.inputs.length nc] 36:=fun W hW=>KC.out.below hW
  have KL:∀ W,Below w1.heap.size w1 W→W.cell? ⟨cb,0,none⟩=some (.slice ia c.ins.length ic)∧W.cell? ⟨cb,3,none⟩=some (.slice oa c.outs.length oc)∧W.cell? ⟨cb,4,none⟩=some (.slice na c.inputs.length nc):=fun W hW=>⟨(KK W hW).c rfl,(KK W hW).c rfl,(KK W hW).c rfl⟩
  go_upto_region 4 with fail
  go_cut [10] (fun _ wx=>NewMid c w wx cb)
  case first =>
   have BD:=(Below.refl w1.heap.size w1).drew
   obtain⟨c0,c3,c4⟩:=KL _ (Below.refl _ _)
   go_region_with (first
    | (go_at_call 21;(with_reducible refine (CI1 _ BD).mono ?_);rintro e wA ⟨ua,uc,rfl,hua,hbA⟩;have HBA:=below_next BD hbA;obtain⟨a0,a3,a4⟩:=KL _ HBA)
    | (go_at_call 22;(with_reducible refine (CO1 _ HBA).mono ?_);rintro e wB ⟨xa,xc,rfl,hxa,hbB⟩;have HBB:=below_next HBA hbB;obtain⟨b0,b3,b4⟩:=KL _ HBB)
    | (go_at_call 22;(with_reducible refine (CN1 _ HBB).mono ?_);rintro e wC ⟨ya,yc,rfl,hya,hbC⟩;have HBC:=below_next HBB hbC;obtain⟨d0,d3,d4⟩:=KL _ HBC;have z0:wC.frozen? ⟨cb,0,none⟩=false:=(KK _ HBC).z (v:=.slice ia c.ins.length ic) rfl;have z3:wC.frozen? ⟨cb,3,none⟩=false:=(KK _ HBC).z (v:=.slice oa c.outs.length oc) rfl;have z4:wC.frozen? ⟨cb,4,none⟩=false:=(KK _ HBC).z (v:=.slice na c.inputs.length nc) rfl)
    | fail)
   all_goals
    clear c0 c3 c4 a0 a3 a4 b0 b3 b4 d0 d3 d4 z0 z3 z4
    go_wp2_with fail
    go_meet
    exact mid_done FB1.out (by rw[HCB.out];exact Nat.le_refl _) KC.out.lt HBA HBB hbB hbC hua hxa hya (KK _ HBC)
  case rest =>
   obtain⟨ua,uc,xa,xc,ya,yc,q1,q2,q3,q4,q5⟩:=hcut
   obtain⟨R,hR⟩:=Int.eq_ofNat_of_zero_le HSZ.out.1
   obtain⟨S,hS⟩:=Int.eq_ofNat_of_zero_le HSZ.out.2.2.1
   have hR2:R≤100000:=by have:=HSZ.out;omega
   have hS2:S≤100000:=by have:=HSZ.out;omega
   have Q1:=Lib.hid q1
   have Q2:=Lib.hid q2
   have Q3:=Lib.hid q3
   have Q4:=Lib.hid q4
   have Q5:=Lib.hid q5
   have KM:∀ W,Below wc.heap.size wc W→W.cell? ⟨cb,0,none⟩=some (.slice ua c.ins.length uc)∧W.cell? ⟨cb,1,none⟩=some (.int .i64 R)∧W.cell? ⟨cb,2,none⟩=some (.int .i64 S)∧W.cell? ⟨cb,3,none⟩=some (.slice xa c.outs.length xc)∧W.cell? ⟨cb,4,none⟩=some (.slice ya c.inputs.length yc):=fun W hW=>by
    have hk:=q2.below hW
    rw[hR,hS] at hk
    exact⟨hk.c rfl,hk.c rfl,hk.c rfl,hk.c rfl,hk.c rfl⟩
   have B0:=Below.refl wc.heap.size wc
   have BD:=B0.drew
   have HR:=Lib.hid hR
   have HS:=Lib.hid hS
   clear q1 q2 q3 q4 q5 hR hS CI1 CO1 CN1 KK KL
   have hmR:=make_ints R (by omega)
   have hmS:=make_ints S (by omega)
   go_wp2_with fail
   have HK0:=KM _ B0
   have HKD:=KM _ BD
   go_region_held3 (fun w'=>w'.cell? ⟨cb,0,none⟩=some (.slice ua c.ins.length uc)∧w'.cell? ⟨cb,1,none⟩=some (.int .i64 R)∧w'.cell? ⟨cb,2,none⟩=some (.int .i64 S)∧w'.cell? ⟨cb,3,none⟩=some (.slice xa c.outs.length xc)∧w'.cell? ⟨cb,4,none⟩=some (.slice ya c.inputs.length yc))
    (first | exact HK0 | exact HKD | exact KM _ (B0.alloc (Nat.le_refl _) _).drew | exact KM _ ((B0.alloc (Nat.le_refl _) _).alloc (by simp) _).drew | exact KM _ (((B0.alloc (Nat.le_refl _) _).alloc (by simp) _).alloc (by simp;omega) _).drew)
    (fail)
   ·clear HK0 HKD hmR hmS KM BD B0
    go_wp2_with fail
    go_ret2
    refine new_done HR.out HS.out HOK.out Q1.out (((Below.refl wc.heap.size wc).alloc (Nat.le_refl _) _).alloc (by simp) _ |>.alloc (by simp;omega) _).drew Q3.out Q4.out Q5.out (mb:=wc.heap.size+1+1) (rb:=wc.heap.size) (sb:=wc.heap.size+1) ?_ ?_ ?_ (by omega) (by omega) (by omega) (by omega) (by omega) (by omega)
    ·have h:=Blk.new ((wc.alloc (.cells (Array.replicate R (.int .i64 0)) 3)).alloc (.cells (Array.replicate S (.int .i64 0)) 3)) #[.slice ua c.ins.length uc,.int .i64 R,.int .i64 S,.slice xa c.outs.length xc,.slice ya c.inputs.length yc,.slice (some ⟨wc.heap.size,0,none⟩) R R,.slice (some ⟨wc.heap.size+1,0,none⟩) S S,.int .i64 0,.int .i64 0] 73
     rw[World.size_alloc,World.size_alloc] at h
     exact h
    ·have h:=Blk.new wc (Array.replicate R (.int .i64 0)) 3
     have h2:Blk ((wc.alloc (.cells (Array.replicate R (.int .i64 0)) 3)).alloc (.cells (Array.replicate S (.int .i64 0)) 3)) wc.heap.size (Array.replicate R (.int .i64 0)) 3:=h.below ((Below.refl _ _).alloc (Nat.le_refl _) _)
     exact h2.below (w':=((wc.alloc (.cells (Array.replicate R (.int .i64 0)) 3)).alloc (.cells (Array.replicate S (.int .i64 0)) 3)).alloc (.cells #[.slice ua c.ins.length uc,.int .i64 R,.int .i64 S,.slice xa c.outs.length xc,.slice ya c.inputs.length yc,.slice (some ⟨wc.heap.size,0,none⟩) R R,.slice (some ⟨wc.heap.size+1,0,none⟩) S S,.int .i64 0,.int .i64 0] 73)) ((Below.refl _ _).alloc (Nat.le_refl _) _)
    ·have h:=Blk.new (wc.alloc (.cells (Array.replicate R (.int .i64 0)) 3)) (Array.replicate S (.int .i64 0)) 3
     rw[World.size_alloc] at h
     exact h.below (w':=((wc.alloc (.cells (Array.replicate R (.int .i64 0)) 3)).alloc (.cells (Array.replicate S (.int .i64 0)) 3)).alloc (.cells #[.slice ua c.ins.length uc,.int .i64 R,.int .i64 S,.slice xa c.outs.length xc,.slice ya c.inputs.length yc,.slice (some ⟨wc.heap.size,0,none⟩) R R,.slice (some ⟨wc.heap.size+1,0,none⟩) S S,.int .i64 0,.int .i64 0] 73)) ((Below.refl _ _).alloc (Nat.le_refl _) _)
   ·clear HK0 HKD hmR hmS KM BD B0
    go_wp2_with fail
    go_ret2
    refine new_done HR.out HS.out HOK.out Q1.out (((Below.refl wc.heap.size wc).alloc (Nat.le_refl _) _).alloc (by simp) _ |>.alloc (by simp;omega) _).drew Q3.out Q4.out Q5.out (mb:=wc.heap.size+1+1) (rb:=wc.heap.size+1) (sb:=wc.heap.size) ?_ ?_ ?_ (by omega) (by omega) (by omega) (by omega) (by omega) (by omega)
    ·have h:=Blk.new ((wc.alloc (.cells (Array.replicate S (.int .i64 0)) 3)).alloc (.cells (Array.replicate R (.int .i64 0)) 3)) #[.slice ua c.ins.length uc,.int .i64 R,.int .i64 S,.slice xa c.outs.length xc,.slice ya c.inputs.length yc,.slice (some ⟨wc.heap.size+1,0,none⟩) R R,.slice (some ⟨wc.heap.size,0,none⟩) S S,.int .i64 0,.int .i64 0] 73
     rw[World.size_alloc,World.size_alloc] at h
     exact h
    ·have h:=Blk.new (wc.alloc (.cells (Array.replicate S (.int .i64 0)) 3)) (Array.replicate R (.int .i64 0)) 3
     rw[World.size_alloc] at h
     exact h.below (w':=((wc.alloc (.cells (Array.replicate S (.int .i64 0)) 3)).alloc (.cells (Array.replicate R (.int .i64 0)) 3)).alloc (.cells #[.slice ua c.ins.length uc,.int .i64 R,.int .i64 S,.slice xa c.outs.length xc,.slice ya c.inputs.length yc,.slice (some ⟨wc.heap.size+1,0,none⟩) R R,.slice (some ⟨wc.heap.size,0,none⟩) S S,.int .i64 0,.int .i64 0] 73)) ((Below.refl _ _).alloc (Nat.le_refl _) _)
    ·have h:=Blk.new wc (Array.replicate S (.int .i64 0)) 3
     have h2:Blk ((wc.alloc (.cells (Array.replicate S (.int .i64 0)) 3)).alloc (.cells (Array.replicate R (.int .i64 0)) 3)) wc.heap.size (Array.replicate S (.int .i64 0)) 3:=h.below ((Below.refl _ _).alloc (Nat.le_refl _) _)
     exact h2.below (w':=((wc.alloc (.cells (Array.replicate S (.int .i64 0)) 3)).alloc (.cells (Array.replicate R (.int .i64 0)) 3)).alloc (.cells #[.slice ua c.ins.length uc,.int .i64 R,.int .i64 S,.slice xa c.outs.length xc,.slice ya c.inputs.length yc,.slice (some ⟨wc.heap.size+1,0,none⟩) R R,.slice (some ⟨wc.heap.size,0,none⟩) S S,.int .i64 0,.int .i64 0] 73)) ((Below.refl _ _).alloc (Nat.le_refl _) _)
end Go.Proofs.YtbdbhdcbdfbnnaaGreatDoor
namespace Go.Proofs.YtbdbhdcbdfbnnaaGreatDoor
open Go.RowKit
set_option maxRecDepth 100000
def namedB (op:Int):Bool:=decide (op=3) || decide (op=1) || decide (op=2) || decide (op=21) || decide (op=30)
def restB (x:Cx.In):Bool:=Cx.restS x&&(namedB x.op || decide (x.n=0))
def numberB (slots:Int) (ins:Nat) (x:Cx.In):Bool :=
 if x.op=3 then decide (0≤x.n∧x.n<(ins:Int)) else if x.op=1 then Cx.fits x.n else if x.op=2 then decide (0≤x.n∧x.n≤1) else if x.op=21∨x.op=30 then decide (0≤x.n∧x.n<slots) else true
theorem plainS_ref (slots:Int) (ins:Nat) (x:Cx.In):Cx.plainS slots ins x=(decide (0≤Cx.readsN x.op)&&restB x&&numberB slots ins x):=by
 unfold Cx.plainS restB
 have h:Cx.numS slots ins x=((namedB x.op || decide (x.n=0))&&numberB slots ins x):=by
  unfold Cx.numS numberB namedB
  by_cases h3:x.op=3
  ·simp[h3]
  ·by_cases h1:x.op=1
   ·simp[h1]
   ·by_cases h2:x.op=2
    ·simp[h2]
    ·by_cases h4:x.op=21∨x.op=30
     ·rcases h4 with h4 | h4 <;> simp[h4]
     ·have h5:x.op≠21:=fun e=>h4 (Or.inl e)
      have h6:x.op≠30:=fun e=>h4 (Or.inr e)
      simp[h1,h2,h3,h5,h6]
 rw[h]
 cases decide (0≤Cx.readsN x.op) <;> cases Cx.restS x <;> simp
set_option maxHeartbeats 4000000 in
theorem rest_any (op d a b c n:Int) (k:Nat) (hk:Cx.readsN op=(k:Int)) (w:World) :
  Calls Tryz.prog 24 #[.agg #[.int .i64 op,.int .i64 d,.int .i64 a,.int .i64 b,.int .i64 c,.int .i64 n],.int .i64 (k:Int)] w fun e w'=>e=.returned (.bool (restB ⟨op,d,a,b,c,n⟩))∧Below w.heap.size w w':=by
 have HB0:=Lib.hid ((Below.refl w.heap.size w).alloc (Nat.le_refl _) (.cells #[.int .i64 op,.int .i64 d,.int .i64 a,.int .i64 b,.int .i64 c,.int .i64 n] 74))
 have hk3:k≤3:=by have:=(Cx.readsN_le op).2;omega
 have HS:Hid (restB ⟨op,d,a,b,c,n⟩=((decide (k<1→a=0)&&decide (k<2→b=0)&&decide (k<3→c=0)&&decide (op=30→d=0))&&(namedB op || decide (n=0)))):=by
  show _=_
  unfold restB Cx.restS
  simp only[hk]
  have e1:((k:Int)<1)=(k<1):=by simp;omega
  have e2:((k:Int)<2)=(k<2):=by simp;omega
  have e3:((k:Int)<3)=(k<3):=by simp;omega
  simp only[e1,e2,e3]
 generalize restB ⟨op,d,a,b,c,n⟩=B at HS ⊢
 clear hk
 unfold namedB at HS
 have hkk:k=0∨k=1∨k=2∨k=3:=by omega
 clear hk3
 rcases hkk with rfl | rfl | rfl | rfl
 ·by_cases ha:a=0
  ·subst ha
   by_cases hb:b=0
   ·subst hb
    by_cases hc:c=0
    ·subst hc
     by_cases o3:op=3
     ·subst o3
      go_enter Tryz.func24,Tryz.ntmps24
      go_wp2_with fail
      go_ret
      exact⟨by rw[HS.out];simp,HB0.out⟩
     ·have q3:(op==3)=false:=by simpa using o3
      by_cases o1:op=1
      ·subst o1
       go_enter Tryz.func24,Tryz.ntmps24
       go_wp2_with fail
       go_ret
       exact⟨by rw[HS.out];simp,HB0.out⟩
      ·have q1:(op==1)=false:=by simpa using o1
       by_cases o2:op=2
       ·subst o2
        go_enter Tryz.func24,Tryz.ntmps24
        go_wp2_with fail
        go_ret
        exact⟨by rw[HS.out];simp,HB0.out⟩
       ·have q2:(op==2)=false:=by simpa using o2
        by_cases o21:op=21
        ·subst o21
         go_enter Tryz.func24,Tryz.ntmps24
         go_wp2_with fail
         go_ret
         exact⟨by rw[HS.out];simp,HB0.out⟩
        ·have q21:(op==21)=false:=by simpa using o21
         by_cases o30:op=30
         ·subst o30
          by_cases hd:d=0
          ·subst hd
           go_enter Tryz.func24,Tryz.ntmps24
           go_wp2_with fail
           go_ret
           exact⟨by rw[HS.out];simp,HB0.out⟩
          ·have qd:(d==0)=false:=by simpa using hd
           go_enter Tryz.func24,Tryz.ntmps24
           go_wp2_with fail
           go_ret
           exact⟨by rw[HS.out];simp[hd],HB0.out⟩
         ·have q30:(op==30)=false:=by simpa using o30
          have p30:(op != 30)=true:=by simpa using o30
          by_cases hn:n=0
          ·subst hn
           go_enter Tryz.func24,Tryz.ntmps24
           go_wp2_with fail
           go_ret
           exact⟨by rw[HS.out];simp[o30],HB0.out⟩
          ·have qn:(n==0)=false:=by simpa using hn
           go_enter Tryz.func24,Tryz.ntmps24
           go_wp2_with fail
           go_ret
           exact⟨by rw[HS.out];simp[o1,o2,o3,o21,o30,hn],HB0.out⟩
    ·have rc:(c != 0)=true:=by simpa using hc
     go_enter Tryz.func24,Tryz.ntmps24
     go_wp2_with fail
     go_ret
     exact⟨by rw[HS.out];simp[hc],HB0.out⟩
   ·have rb:(b != 0)=true:=by simpa using hb
    go_enter Tryz.func24,Tryz.ntmps24
    go_wp2_with fail
    go_ret
    exact⟨by rw[HS.out];simp[hb],HB0.out⟩
  ·have ra:(a != 0)=true:=by simpa using ha
   go_enter Tryz.func24,Tryz.ntmps24
   go_wp2_with fail
   go_ret
   exact⟨by rw[HS.out];simp[ha],HB0.out⟩
 ·by_cases hb:b=0
  ·subst hb
   by_cases hc:c=0
   ·subst hc
    by_cases o3:op=3
    ·subst o3
     go_enter Tryz.func24,Tryz.ntmps24
     go_wp2_with fail
     go_ret
     exact⟨by rw[HS.out];simp,HB0.out⟩
    ·have q3:(op==3)=false:=by simpa using o3
     by_cases o1:op=1
     ·subst o1
      go_enter Tryz.func24,Tryz.ntmps24
      go_wp2_with fail
      go_ret
      exact⟨by rw[HS.out];simp,HB0.out⟩
     ·have q1:(op==1)=false:=by simpa using o1
      by_cases o2:op=2
      ·subst o2
       go_enter Tryz.func24,Tryz.ntmps24
       go_wp2_with fail
       go_ret
       exact⟨by rw[HS.out];simp,HB0.out⟩
      ·have q2:(op==2)=false:=by simpa using o2
       by_cases o21:op=21
       ·subst o21
        go_enter Tryz.func24,Tryz.ntmps24
        go_wp2_with fail
        go_ret
        exact⟨by rw[HS.out];simp,HB0.out⟩
       ·have q21:(op==21)=false:=by simpa using o21
        by_cases o30:op=30
        ·subst o30
         by_cases hd:d=0
         ·subst hd
          go_enter Tryz.func24,Tryz.ntmps24
          go_wp2_with fail
          go_ret
          exact⟨by rw[HS.out];simp,HB0.out⟩
         ·have qd:(d==0)=false:=by simpa using hd
          go_enter Tryz.func24,Tryz.ntmps24
          go_wp2_with fail
          go_ret
          exact⟨by rw[HS.out];simp[hd],HB0.out⟩
        ·have q30:(op==30)=false:=by simpa using o30
         have p30:(op != 30)=true:=by simpa using o30
         by_cases hn:n=0
         ·subst hn
          go_enter Tryz.func24,Tryz.ntmps24
          go_wp2_with fail
          go_ret
          exact⟨by rw[HS.out];simp[o30],HB0.out⟩
         ·have qn:(n==0)=false:=by simpa using hn
          go_enter Tryz.func24,Tryz.ntmps24
          go_wp2_with fail
          go_ret
          exact⟨by rw[HS.out];simp[o1,o2,o3,o21,o30,hn],HB0.out⟩
   ·have rc:(c != 0)=true:=by simpa using hc
    go_enter Tryz.func24,Tryz.ntmps24
    go_wp2_with fail
    go_ret
    exact⟨by rw[HS.out];simp[hc],HB0.out⟩
  ·have rb:(b != 0)=true:=by simpa using hb
   go_enter Tryz.func24,Tryz.ntmps24
   go_wp2_with fail
   go_ret
   exact⟨by rw[HS.out];simp[hb],HB0.out⟩
 ·by_cases hc:c=0
  ·subst hc
   by_cases o3:op=3
   ·subst o3
    go_enter Tryz.func24,Tryz.ntmps24
    go_wp2_with fail
    go_ret
    exact⟨by rw[HS.out];simp,HB0.out⟩
   ·have q3:(op==3)=false:=by simpa using o3
    by_cases o1:op=1
    ·subst o1
     go_enter Tryz.func24,Tryz.ntmps24
     go_wp2_with fail
     go_ret
     exact⟨by rw[HS.out];simp,HB0.out⟩
    ·have q1:(op==1)=false:=by simpa using o1
     by_cases o2:op=2
     ·subst o2
      go_enter Tryz.func24,Tryz.ntmps24
      go_wp2_with fail
      go_ret
      exact⟨by rw[HS.out];simp,HB0.out⟩
     ·have q2:(op==2)=false:=by simpa using o2
      by_cases o21:op=21
      ·subst o21
       go_enter Tryz.func24,Tryz.ntmps24
       go_wp2_with fail
       go_ret
       exact⟨by rw[HS.out];simp,HB0.out⟩
      ·have q21:(op==21)=false:=by simpa using o21
       by_cases o30:op=30
       ·subst o30
        by_cases hd:d=0
        ·subst hd
         go_enter Tryz.func24,Tryz.ntmps24
         go_wp2_with fail
         go_ret
         exact⟨by rw[HS.out];simp,HB0.out⟩
        ·have qd:(d==0)=false:=by simpa using hd
         go_enter Tryz.func24,Tryz.ntmps24
         go_wp2_with fail
         go_ret
         exact⟨by rw[HS.out];simp[hd],HB0.out⟩
       ·have q30:(op==30)=false:=by simpa using o30
        have p30:(op != 30)=true:=by simpa using o30
        by_cases hn:n=0
        ·subst hn
         go_enter Tryz.func24,Tryz.ntmps24
         go_wp2_with fail
         go_ret
         exact⟨by rw[HS.out];simp[o30],HB0.out⟩
        ·have qn:(n==0)=false:=by simpa using hn
         go_enter Tryz.func24,Tryz.ntmps24
         go_wp2_with fail
         go_ret
         exact⟨by rw[HS.out];simp[o1,o2,o3,o21,o30,hn],HB0.out⟩
  ·have rc:(c != 0)=true:=by simpa using hc
   go_enter Tryz.func24,Tryz.ntmps24
   go_wp2_with fail
   go_ret
   exact⟨by rw[HS.out];simp[hc],HB0.out⟩
 ·skip
  by_cases o3:op=3
  ·subst o3
   go_enter Tryz.func24,Tryz.ntmps24
   go_wp2_with fail
   go_ret
   exact⟨by rw[HS.out];simp,HB0.out⟩
  ·have q3:(op==3)=false:=by simpa using o3
   by_cases o1:op=1
   ·subst o1
    go_enter Tryz.func24,Tryz.ntmps24
    go_wp2_with fail
    go_ret
    exact⟨by rw[HS.out];simp,HB0.out⟩
   ·have q1:(op==1)=false:=by simpa using o1
    by_cases o2:op=2
    ·subst o2
     go_enter Tryz.func24,Tryz.ntmps24
     go_wp2_with fail
     go_ret
     exact⟨by rw[HS.out];simp,HB0.out⟩
    ·have q2:(op==2)=false:=by simpa using o2
     by_cases o21:op=21
     ·subst o21
      go_enter Tryz.func24,Tryz.ntmps24
      go_wp2_with fail
      go_ret
      exact⟨by rw[HS.out];simp,HB0.out⟩
     ·have q21:(op==21)=false:=by simpa using o21
      by_cases o30:op=30
      ·subst o30
       by_cases hd:d=0
       ·subst hd
        go_enter Tryz.func24,Tryz.ntmps24
        go_wp2_with fail
        go_ret
        exact⟨by rw[HS.out];simp,HB0.out⟩
       ·have qd:(d==0)=false:=by simpa using hd
        go_enter Tryz.func24,Tryz.ntmps24
        go_wp2_with fail
        go_ret
        exact⟨by rw[HS.out];simp[hd],HB0.out⟩
      ·have q30:(op==30)=false:=by simpa using o30
       have p30:(op != 30)=true:=by simpa using o30
       by_cases hn:n=0
       ·subst hn
        go_enter Tryz.func24,Tryz.ntmps24
        go_wp2_with fail
        go_ret
        exact⟨by rw[HS.out];simp[o30],HB0.out⟩
       ·have qn:(n==0)=false:=by simpa using hn
        go_enter Tryz.func24,Tryz.ntmps24
        go_wp2_with fail
        go_ret
        exact⟨by rw[HS.out];simp[o1,o2,o3,o21,o30,hn],HB0.out⟩
end Go.Proofs.YtbdbhdcbdfbnnaaGreatDoor
namespace Go.Proofs.YtbdbhdcbdfbnnaaGreatDoor
open Go.RowKit
set_option maxRecDepth 100000
set_option maxHeartbeats 4000000 in
theorem number_any (w : World) (c : Cx.Co) (ia oa na : Option Addr) (ic oc nc : Nat) (op d a b cc n : Int) :
    Calls Tryz.prog 25 #[.agg #[.slice ia c.ins.length ic, .int .i64 c.regs, .int .i64 c.slots, .slice oa c.outs.length oc, .slice na c.inputs.length nc], .agg #[.int .i64 op, .int .i64 d, .int .i64 a, .int .i64 b, .int .i64 cc, .int .i64 n]] w fun e w' => e = .returned (.bool (numberB c.slots c.inputs.length ⟨op, d, a, b, cc, n⟩)) ∧ Below w.heap.size w w' := by
  have HB0 := Lib.hid (((Below.refl w.heap.size w).alloc (Nat.le_refl _) (.cells #[.slice ia c.ins.length ic, .int .i64 c.regs, .int .i64 c.slots, .slice oa c.outs.length oc, .slice na c.inputs.length nc] 25)).alloc (by simp) (.cells #[.int .i64 op, .int .i64 d, .int .i64 a, .int .i64 b, .int .i64 cc, .int .i64 n] 74))
  have HS : Hid (numberB c.slots c.inputs.length ⟨op, d, a, b, cc, n⟩ = if op = 3 then decide (0 ≤ n ∧ n < (c.inputs.length : Int)) else if op = 1 then Cx.fits n else if op = 2 then decide (0 ≤ n ∧ n ≤ 1) else if op = 21 ∨ op = 30 then decide (0 ≤ n ∧ n < c.slots) else true) := rfl
  have hfit := fun W => rFitsC_any n W
  generalize numberB c.slots c.inputs.length ⟨op, d, a, b, cc, n⟩ = B at HS ⊢
  generalize Cx.fits n = BF at HS hfit
  by_cases o3 : op = 3
  · subst o3
    by_cases n0 : n < 0
    ·  skip
       go_enter Tryz.func25, Tryz.ntmps25
       go_wp2_with fail
       go_ret
       exact ⟨by rw [HS.out]; simp; omega, HB0.out⟩
    · by_cases n1 : n < (c.inputs.length : Int)
      · skip
        go_enter Tryz.func25, Tryz.ntmps25
        go_wp2_with fail
        go_ret
        exact ⟨by rw [HS.out]; simp; omega, HB0.out⟩
      · skip
        go_enter Tryz.func25, Tryz.ntmps25
        go_wp2_with fail
        go_ret
        exact ⟨by rw [HS.out]; simp; omega, HB0.out⟩
  · have q3 : (op == 3) = false := by simpa using o3
    by_cases o1 : op = 1
    · subst o1
      go_enter Tryz.func25, Tryz.ntmps25
      go_wp2_with fail
      refine (hfit _).mono ?_
      rintro e w' ⟨rfl, rfl⟩
      go_wp2_with fail
      go_ret
      exact ⟨by rw [HS.out]; simp, HB0.out⟩
    · have q1 : (op == 1) = false := by simpa using o1
      by_cases o2 : op = 2
      · subst o2
        by_cases n0 : n = 0
        · subst n0
          go_enter Tryz.func25, Tryz.ntmps25
          go_wp2_with fail
          go_ret
          exact ⟨by rw [HS.out]; simp, HB0.out⟩
        · have p0 : (n == 0) = false := by simpa using n0
          by_cases n1 : n = 1
          · subst n1
            go_enter Tryz.func25, Tryz.ntmps25
            go_wp2_with fail
            go_ret
            exact ⟨by rw [HS.out]; simp, HB0.out⟩
          · have p1 : (n == 1) = false := by simpa using n1
            go_enter Tryz.func25, Tryz.ntmps25
            go_wp2_with fail
            go_ret
            exact ⟨by rw [HS.out]; simp; omega, HB0.out⟩
      · have q2 : (op == 2) = false := by simpa using o2
        by_cases o21 : op = 21
        · subst o21
          by_cases n0 : n < 0
          ·  skip
             go_enter Tryz.func25, Tryz.ntmps25
             go_wp2_with fail
             go_ret
             exact ⟨by rw [HS.out]; simp; omega, HB0.out⟩
          · by_cases n1 : n < c.slots
            · skip
              go_enter Tryz.func25, Tryz.ntmps25
              go_wp2_with fail
              go_ret
              exact ⟨by rw [HS.out]; simp; omega, HB0.out⟩
            · skip
              go_enter Tryz.func25, Tryz.ntmps25
              go_wp2_with fail
              go_ret
              exact ⟨by rw [HS.out]; simp; omega, HB0.out⟩
        · have q21 : (op == 21) = false := by simpa using o21
          by_cases o30 : op = 30
          · subst o30
            by_cases n0 : n < 0
            ·  skip
               go_enter Tryz.func25, Tryz.ntmps25
               go_wp2_with fail
               go_ret
               exact ⟨by rw [HS.out]; simp; omega, HB0.out⟩
            · by_cases n1 : n < c.slots
              · skip
                go_enter Tryz.func25, Tryz.ntmps25
                go_wp2_with fail
                go_ret
                exact ⟨by rw [HS.out]; simp; omega, HB0.out⟩
              · skip
                go_enter Tryz.func25, Tryz.ntmps25
                go_wp2_with fail
                go_ret
                exact ⟨by rw [HS.out]; simp; omega, HB0.out⟩
          · have q30 : (op == 30) = false := by simpa using o30
            go_enter Tryz.func25, Tryz.ntmps25
            go_wp2_with fail
            go_ret
            exact ⟨by rw [HS.out]; simp [o1, o2, o3, o21, o30], HB0.out⟩
def flags (n:Nat) (s:List Int):Array Value:=((List.range n).map fun (i:Nat)=>Value.bool (decide ((i:Int)∈s))).toArray
theorem flags_get {n:Nat} {s:List Int} {k:Nat} (hk:k<n):(flags n s)[k]?=some (.bool (decide ((k:Int)∈s))):=by
 unfold flags;simp[hk]
theorem flags_set (n:Nat) (s:List Int) (k:Nat):(flags n s).setIfInBounds k (.bool true)=flags n ((k:Int) :: s):=by
 apply Array.ext
 ·simp[flags]
 ·intro i h1 h2
  simp only[flags,List.size_toArray,List.length_map,List.length_range,Array.size_setIfInBounds] at h1 h2
  simp only[flags,List.setIfInBounds_toArray,List.getElem_toArray,List.getElem_set,List.getElem_map,List.getElem_range]
  split
  ·rename_i e;subst e;simp
  ·rename_i e;have:¬ ((i:Int)=(k:Int)):=by omega
   simp[this]
theorem flags_none (n:Nat):flags n []=Array.replicate n (.bool false):=by
 apply Array.ext
 ·simp[flags]
 ·intro i h1 h2;simp[flags]
theorem Blk.flag {W:World} {b n:Nat} {s:List Int} (h:Blk W b (flags n s) 4) (k:Nat):Blk (W.setCell ⟨b,k,none⟩ (.bool true)) b (flags n ((k:Int) :: s)) 4:=by
 rw[← flags_set];exact h.puti k _
theorem rowBM:RowTy Tryz.prog 75 4 1 1:=RowTy.mk' (z:=.bool false) Tryz.underlying75 (by kernel_rfl) rfl (by omega)
theorem falses_made (n:Nat):madeCells (#[.bool false] : Array Value) (n * 1)=Array.replicate n (.bool false):=by
 unfold madeCells
 apply Array.ext
 ·simp
 ·intro i h1 h2
  simp[Nat.mod_one]
theorem make_bools (n:Nat) (hn:n≤1000000) (W:World):(Instr.makeSlice 75 (.int .i64 (n:Int)) (.int .i64 (n:Int))).run Tryz.prog W=.ok (.slice (some ⟨W.heap.size,0,none⟩) n n) (W.alloc (.cells (flags n []) 4)):=by
 obtain⟨i,z,hi,hz,hs1,hby,hzs⟩:=rowBM.ex
 have hz0:z=.bool false:=by
  have h1:(Tryz.prog.info? 4).bind (·.zero)=some (.bool false):=by kernel_rfl
  rw[hi] at h1
  have h2:i.zero=some (.bool false):=h1
  rw[hz] at h2
  injection h2
 subst hz0
 have h:=run_make (P:=Tryz.prog) W 75 4 i (.bool false) Tryz.underlying75 hi hz .i64 .i64 n n (by omega) (Int.le_refl _) (by rw[hby];omega) (by omega)
 rw[hs1] at h
 simp only[Int.toNat_natCast] at h
 rw[h,flags_none]
 have e:(Value.bool false).cells=#[.bool false]:=rfl
 rw[e,falses_made]
theorem written_any (w:World) (b n:Nat) (s:List Int) (hs:∀ r∈s,0≤r∧r<(n:Int)) (hb:Blk w b (flags n s) 4) (k:Int) :
  Calls Tryz.prog 26 #[.slice (some ⟨b,0,none⟩) n n,.int .i64 k] w fun e w'=>e=.returned (.bool (decide (k∈s)))∧w'=w:=by
 by_cases h0:k<0
 ·have hm:decide (k∈s)=false:=by rw[decide_eq_false_iff_not];intro q;have:=hs k q;omega
  rw[hm]
  clear hm hs
  go_enter Tryz.func26,Tryz.ntmps26
  go_wp2_with fail
  go_ret
  exact⟨rfl,rfl⟩
 ·obtain⟨j,rfl⟩:=Int.eq_ofNat_of_zero_le (show 0≤k by omega)
  have hj0:(0:Int)≤(j:Int):=by omega
  by_cases h1:j<n
  ·have hc:w.cell? ⟨b,j,none⟩=some (.bool (decide ((j:Int)∈s))):=hb.c (flags_get h1)
   have h1':(j:Int)<(n:Int):=by omega
   clear hs
   generalize decide ((j:Int)∈s)=B at hc ⊢
   go_enter Tryz.func26,Tryz.ntmps26
   go_wp2_with fail
   go_ret
   exact⟨rfl,rfl⟩
  ·have hm:decide ((j:Int)∈s)=false:=by rw[decide_eq_false_iff_not];intro q;have:=hs _ q;omega
   rw[hm]
   have h1':(n:Int)≤(j:Int):=by omega
   clear hm hs
   go_enter Tryz.func26,Tryz.ntmps26
   go_wp2_with fail
   go_ret
   exact⟨rfl,rfl⟩
end Go.Proofs.YtbdbhdcbdfbnnaaGreatDoor
namespace Go.Proofs.YtbdbhdcbdfbnnaaGreatDoor
open Go.RowKit Go.Shelf
theorem run_append_nothing {P:Program} {w:World} (t ty e:TypeId) (i:TypeInfo) (ht:P.underlying t=some (.slice e)) (hi:P.info? e=some i) (so xo:Option Addr) (n c:Nat) (hs:so=none→n=0) :
  (Builtin.append_ #[t,t] ty #[.slice so n n,.slice xo 0 c]).run P w=.ok (.slice so n n) w:=by
 have hf:∀ a:Addr,(Builtin.firstCells i.size 0 (.slice (some a) 0 c)).run P w=.ok #[] w:=fun a=>run_firstCells_some (P:=P) w i.size 0 a 0 c [] (by simp) (fun j u h=>by simp at h)
 cases so with
 | none =>
  obtain rfl:=hs rfl
  cases xo with
  | none=>simp[Builtin.append_,run_underlying ht,sizeOf,typeInfo,hi,Builtin.lenOf,Builtin.firstCells]
  | some a=>simp[Builtin.append_,run_underlying ht,sizeOf,typeInfo,hi,Builtin.lenOf,hf]
 | some b =>
  cases xo with
  | none=>simp[Builtin.append_,run_underlying ht,sizeOf,typeInfo,hi,Builtin.lenOf,Builtin.firstCells,storeCells]
  | some a=>simp[Builtin.append_,run_underlying ht,sizeOf,typeInfo,hi,Builtin.lenOf,hf,storeCells]
theorem wpList_copied {P:Program} {w:World} {ops:Array Oper} {rest:List Oper} {o:Oper} {a:Act} {Q:Exit→Act→World→Prop} {t e:TypeId} (R:RowTy P t e 1 8) (hgd:o.guard=none) (s x:Operand)
  (ho:o.op=.call { callee:=.builtin .append,args:=#[s,x],argTypes:=#[t,t] }) (l:List Int) (v:Value) (hs:a.eval s=.slice none 0 0) (hx:a.eval x=v) (hv:Sl intC 1 w v l) (hl:l.length≤1000000)
  (h:∀ v' w',Below w.heap.size w w'→w'.ownsRow w.heap.size e 1 v' l.length (l.flatMap intC)→wpList P ops Q rest (a.put o.dst v') w'):wpList P ops Q (o :: rest) a w:=by
 obtain⟨i,z,hi,hz,hsize,hby,hzs⟩:=R.ex
 obtain⟨xo,c,rfl,hc,hcell⟩:=hv.form
 by_cases h0:l=[]
 ·subst h0
  have hrun:=run_append_nothing (P:=P) (w:=w) t o.type e i R.ht hi none xo 0 c (fun _=>rfl)
  refine wpList_plain hgd fun K hK'=>?_
  unfold Oper.wp
  simp only[List.length_nil] at hx
  simp[execOp,ho,resolve,invoke,builtin,hs,hx,hrun,Result.andThen]
  exact hK' _ _ (h _ _ (Below.refl _ _) (World.ownsRow_nil _ _ _ _))
 ·obtain⟨y,hy⟩ : ∃ y,l[0]?=some y:=⟨_,List.getElem?_eq_getElem (List.length_pos_iff.2 h0)⟩
  obtain⟨b,o',rfl,-⟩:=hcell w (Below.refl _ _) 0 y hy
  refine wpList_append_grows w hgd s x t ho e i z 1 8 R.ht hi hz hsize hby hzs R.pos none 0 0 [] hs (fun _=>⟨rfl,rfl⟩) rfl (fun b hb=>by cases hb) ⟨b,o',none⟩ l.length c (l.flatMap intC) hx (by rw[flatMap_len intC_len l]) (fun j u hj=>?_) (fun u hu=>?_) (by have:=List.length_pos_iff.2 h0;omega) (by unfold maxLen;omega) (by omega) ?_
  ·obtain⟨i',q,x',h1,h2,h3⟩:=flat_at (k:=1) intC_len (by decide) l j u hj
   obtain⟨b2,o2,e2,h4⟩:=hcell w (Below.refl _ _) i' x' h1
   cases e2
   have:=h4 q u h2
   rw[Addr.add_lit,← h3,← Nat.add_assoc];exact this
  ·obtain⟨x',_,hx'⟩:=List.mem_flatMap.1 hu
   simp[intC] at hx'
   simp_all [Value.oneCell']
  ·intro v' w' hown hgrow
   refine h v' w' ⟨hgrow.os,hgrow.tape,hgrow.output,hgrow.size,fun k hk=>hgrow.block k hk (by simp)⟩ ?_
   simpa using hown
set_option maxRecDepth 100000 in
theorem Begin_any (w:World) (c:Cx.Co) (ia oa na:Option Addr) (ic oc nc:Nat) (hs:0≤c.slots∧c.slots≤100000) :
  Calls Tryz.prog 10 #[.agg #[.slice ia c.ins.length ic,.int .i64 c.regs,.int .i64 c.slots,.slice oa c.outs.length oc,.slice na c.inputs.length nc]] w fun e w'=>∃ vs,e=.returned (.agg #[vs,.bool true])∧Below w.heap.size w w'∧∀ M:List Nat,(∀ i∈M,i<w.heap.size)→SlN intC 1 M w' vs (List.replicate c.slots.toNat 0):=by
 obtain⟨S,hS⟩:=Int.eq_ofNat_of_zero_le hs.1
 have hmS:=make_ints S (by omega)
 rw[hS]
 have HS:=Lib.hid hS
 clear hS
 go_enter Tryz.func10,Tryz.ntmps10
 go_wp2_with fail
 have hb1:Below w.heap.size w (w.alloc (.cells #[.slice ia c.ins.length ic,.int .i64 c.regs,.int .i64 (S:Int),.slice oa c.outs.length oc,.slice na c.inputs.length nc] 25)):=(Below.refl _ _).alloc (Nat.le_refl _) _
 have hz1:(w.alloc (.cells #[.slice ia c.ins.length ic,.int .i64 c.regs,.int .i64 (S:Int),.slice oa c.outs.length oc,.slice na c.inputs.length nc] 25)).heap.size=w.heap.size+1:=World.size_alloc _ _
 generalize (w.alloc (.cells #[.slice ia c.ins.length ic,.int .i64 c.regs,.int .i64 (S:Int),.slice oa c.outs.length oc,.slice na c.inputs.length nc] 25))=V1 at hb1 hz1 ⊢
 have k2:=Blk.new V1 #[.slice (some ⟨w.heap.size+1+1,0,none⟩) S S,.bool true] 40
 have hb2:Below V1.heap.size V1 (V1.alloc (.cells #[.slice (some ⟨w.heap.size+1+1,0,none⟩) S S,.bool true] 40)):=(Below.refl _ _).alloc (Nat.le_refl _) _
 have hz2:(V1.alloc (.cells #[.slice (some ⟨w.heap.size+1+1,0,none⟩) S S,.bool true] 40)).heap.size=w.heap.size+1+1:=by rw[World.size_alloc,hz1]
 generalize (V1.alloc (.cells #[.slice (some ⟨w.heap.size+1+1,0,none⟩) S S,.bool true] 40))=V2 at k2 hb2 hz2 ⊢
 have k3:=Blk.new V2 (Array.replicate S (.int .i64 0)) 3
 have hb3:Below V2.heap.size V2 (V2.alloc (.cells (Array.replicate S (.int .i64 0)) 3)):=(Below.refl _ _).alloc (Nat.le_refl _) _
 generalize (V2.alloc (.cells (Array.replicate S (.int .i64 0)) 3))=V3 at k3 hb3 ⊢
 rw[hz2] at k3
 rw[hz1] at k2
 refine bodyPost_ret (results_cell_row rfl _ _ (w.heap.size+1) 40 #[.slice (some ⟨w.heap.size+1+1,0,none⟩) S S,.bool true] (0,0) _ rfl (k2.below hb3) Tryz.underlying40 rfl (by kernel_rfl)) rfl ?_
 refine⟨_,rfl,below_next (below_next hb1 hb2) hb3,fun M hM=>?_⟩
 have h:=zeros_regs (W:=V2) k3
 rw[Int.toNat_natCast]
 exact h.sln fun _ hi=>by have:=hM _ hi;omega
end Go.Proofs.YtbdbhdcbdfbnnaaGreatDoor
