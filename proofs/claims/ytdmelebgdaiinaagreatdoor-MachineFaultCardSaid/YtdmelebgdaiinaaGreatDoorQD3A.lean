/- What the law of D3A needs of its own. -/
import Derived.WalkKit
import Derived.WalkSpells
import Derived.Deep.Onto
import Derived.Deep.AppendLies
import Derived.Deep.Draws
import Derived.OwnWalk
import Derived.Test.YtdmelebgdaiinaaGreatDoorProg
import Derived.Shelf.Abstract
import Derived.Lib.Strings
import Derived.WalkLawsBesides
import Derived.Outline
import Derived.Laws.EntriesVeiled
import Derived.Deep.RegionHeld3
import Derived.Deep.QuietTactic
import Derived.BigQuiet
import Derived.StillTailTactics
import Derived.Laws.OwnMore
import Derived.Lib.SliceRun
import Derived.Lib.Hide
import Derived.LoopN
import Derived.Deep.Cut
import Derived.Lib.Walk
import Derived.Deep.Upon
import Derived.Test.YtdmelebgdaiinaaGreatDoorRows
import Derived.ProofKit
import Derived.OpenShut
import Derived.Lib.SmallJoins
import Derived.Deep.Slices
import Derived.Deep.Matrix
import Derived.ChangeSlices
import Derived.Orders
import Derived.Tactics
import Derived.Laws.IdiomCopy
import Derived.Laws.Cells
import Derived.Below
import Derived.Laws.Entries
import Derived.Laws.Strings
import Derived.Laws.StructEq
import Derived.Laws.RangeString
import Derived.Laws.Runes
import Derived.Laws.Append
import Derived.KernelRfl
import Derived.RangeFuncSeq
import Derived.RangeFuncLeaves
import Derived.RangeFuncRecord
import Derived.RangeFuncCalls
import Derived.OrdersIn
import Derived.TacticsIn
import Derived.Test.YtdmelebgdaiinaaGreatDoorChecked
import Derived.Recover
import Derived.RangeFuncNested
import Derived.RangeFuncBound
import Derived.OwnWalkIn
import Derived.TacticsInMore
import Derived.LoopNIn
import Derived.LoopIn
import Derived.Maps.Own
import Derived.Deep.DeepCutAuto
import Derived.Deep.CutBlock
import Derived.Test.YtdmelebgdaiinaaGreatDoorTie
import Derived.Lib.LaidU8
import Derived.SliceStrings
import Derived.LaidLaws
import Derived.HandedShaped
import Derived.Lay
import Derived.SevenTiedAt
import Derived.Test.YtdmelebgdaiinaaGreatDoorCards
import Derived.ChangeMaps5
import Derived.Test.YtdmelebgdaiinaaGreatDoorJ1
import Derived.Test.YtdmelebgdaiinaaGreatDoorJ2
import Derived.Test.YtdmelebgdaiinaaGreatDoorJ3
import Derived.Test.YtdmelebgdaiinaaGreatDoorJ4
import Derived.Test.YtdmelebgdaiinaaGreatDoorJ5
import Derived.Test.YtdmelebgdaiinaaGreatDoorJ6
import Derived.Test.YtdmelebgdaiinaaGreatDoorJ7
import Derived.Test.YtdmelebgdaiinaaGreatDoorJ8
import Derived.Test.YtdmelebgdaiinaaGreatDoorJ9
import Derived.Test.YtdmelebgdaiinaaGreatDoorJ10
import Derived.Test.YtdmelebgdaiinaaGreatDoorJ11
import Derived.Test.YtdmelebgdaiinaaGreatDoorJ12
import Derived.Test.YtdmelebgdaiinaaGreatDoorJ13
import Derived.Test.YtdmelebgdaiinaaGreatDoorJ14
import Derived.Test.YtdmelebgdaiinaaGreatDoorJ15
import Derived.Test.YtdmelebgdaiinaaGreatDoorJ16
import Derived.Test.YtdmelebgdaiinaaGreatDoorJ17
import Derived.Test.YtdmelebgdaiinaaGreatDoorJ18
import Derived.Test.YtdmelebgdaiinaaGreatDoorJ19
import Derived.Test.YtdmelebgdaiinaaGreatDoorJ20
import Derived.Test.YtdmelebgdaiinaaGreatDoorJ21
import Derived.Test.YtdmelebgdaiinaaGreatDoorJ22
import Derived.Test.YtdmelebgdaiinaaGreatDoorJ23
import Derived.Test.YtdmelebgdaiinaaGreatDoorJ24
import Derived.Test.YtdmelebgdaiinaaGreatDoorJ25
import Derived.Test.YtdmelebgdaiinaaGreatDoorJ26
import Derived.Test.YtdmelebgdaiinaaGreatDoorJ27
import Derived.Test.YtdmelebgdaiinaaGreatDoorJ28
import Derived.Test.YtdmelebgdaiinaaGreatDoorJ29
import Derived.Test.YtdmelebgdaiinaaGreatDoorJ30
import Derived.Test.YtdmelebgdaiinaaGreatDoorJ31
import Derived.Test.YtdmelebgdaiinaaGreatDoorJ32
import Derived.Test.YtdmelebgdaiinaaGreatDoorJ33
import Derived.Test.YtdmelebgdaiinaaGreatDoorJ34
import Derived.Test.YtdmelebgdaiinaaGreatDoorJ35
import Derived.Test.YtdmelebgdaiinaaGreatDoorJ36
import Derived.Test.YtdmelebgdaiinaaGreatDoorJ37
import Derived.Test.YtdmelebgdaiinaaGreatDoorJ38
import Derived.Test.YtdmelebgdaiinaaGreatDoorJ39
import Derived.Test.YtdmelebgdaiinaaGreatDoorJ40
import Derived.Test.YtdmelebgdaiinaaGreatDoorJ41
import Derived.Test.YtdmelebgdaiinaaGreatDoorJ42
import Derived.Test.YtdmelebgdaiinaaGreatDoorJ43
import Derived.Test.YtdmelebgdaiinaaGreatDoorJ44
set_option linter.unusedVariables false
set_option linter.unusedSimpArgs false
namespace Go.Proofs.YtdmelebgdaiinaaGreatDoor
open Go.RowKit
set_option maxRecDepth 100000
theorem fault_any {w:World} {M:List Nat} {mb rb:Nat} {c:Cx.Co} {m:Cx.Ms} (h:MachAt w M mb rb c m):Calls Tryz.prog 19 #[.pointer (some ⟨mb,0,none⟩)] w fun e w'=>e=.returned (.int .i64 m.f)∧w'=w:=by
 obtain⟨_,_,_,_,_,_,k1,-⟩:=h.ex
 have c8:w.cell? ⟨mb,8,none⟩=some (.int .i64 m.f):=k1.c rfl
 clear h k1
 go_enter Tryz.func19,Tryz.ntmps19
 go_wp2_with fail
 go_ret
 exact⟨rfl,rfl⟩
theorem steps_any {w:World} {M:List Nat} {mb rb:Nat} {c:Cx.Co} {m:Cx.Ms} (h:MachAt w M mb rb c m):Calls Tryz.prog 20 #[.pointer (some ⟨mb,0,none⟩)] w fun e w'=>e=.returned (.int .i64 m.steps)∧w'=w:=by
 obtain⟨_,_,_,_,_,_,k1,-⟩:=h.ex
 have c7:w.cell? ⟨mb,7,none⟩=some (.int .i64 m.steps):=k1.c rfl
 clear h k1
 go_enter Tryz.func20,Tryz.ntmps20
 go_wp2_with fail
 go_ret
 exact⟨rfl,rfl⟩
end Go.Proofs.YtdmelebgdaiinaaGreatDoor
namespace Go.Proofs.YtdmelebgdaiinaaGreatDoor
open Go.RowKit
namespace Cx
theorem step_cases (c:Co) (m:Ms) (r:List Int):(m.f≠0∧(stepS c m r).2=m∧(stepS c m r).1=[])∨(m.f=0∧(stepS c m r).2.f≠0∧(stepS c m r).2.steps=m.steps∧(stepS c m r).2.sl=m.sl∧(stepS c m r).1=[])∨(m.f=0∧(stepS c m r).2.f=0∧(stepS c m r).2.steps=m.steps+1):=by
 unfold stepS
 by_cases h:m.f=0
 ·rw[if_neg (by simpa using h)]
  by_cases h2:frameS c.inputs r=false
  ·rw[if_pos h2];right;left;exact⟨h,by show (17:Int)≠0;decide,rfl,rfl,rfl⟩
  ·rw[if_neg h2]
   dsimp only
   split
   ·rename_i h3;right;left;exact⟨h,h3,rfl,rfl,rfl⟩
   ·right;right;exact⟨h,rfl,rfl⟩
 ·rw[if_pos h];left;exact⟨h,rfl,rfl⟩
end Cx
end Go.Proofs.YtdmelebgdaiinaaGreatDoor
namespace Go.Proofs.YtdmelebgdaiinaaGreatDoor
open Go.RowKit
set_option maxRecDepth 100000
set_option maxHeartbeats 4000000 in
theorem machineFault_any (c:Cx.Co) (vi vo vn:Value) (rows:List (List Int)) (vr:Value) (w:World) (G:GlM w) (hc:CodeIn w c vi vo vn) (hr:Sg 1 RwP w vr rows) (h64:∀ r∈rows,∀ n∈r,-9223372036854775808≤n∧n≤9223372036854775807) :
  Calls Tryz.prog 7 #[.agg #[vi,.int .i64 c.regs,.int .i64 c.slots,vo,vn],vr] w fun e w'=>e=.returned (.bool true)∧Below w.heap.size w w':=by
 obtain⟨ia,ic,rfl,-,-⟩:=hc.i.form
 obtain⟨oa,oc,rfl,-,-⟩:=hc.o.form
 obtain⟨na,nc,rfl,-,-⟩:=hc.n.form
 obtain⟨qa,qc,rfl,hql,hqa⟩:=hr.form RwP.keeps
 have k1:=Blk.new w #[.slice ia c.ins.length ic,.int .i64 c.regs,.int .i64 c.slots,.slice oa c.outs.length oc,.slice na c.inputs.length nc] 25
 have f1:Below w.heap.size w (w.alloc (.cells #[.slice ia c.ins.length ic,.int .i64 c.regs,.int .i64 c.slots,.slice oa c.outs.length oc,.slice na c.inputs.length nc] 25)):=(Below.refl _ _).alloc (Nat.le_refl _) _
 go_enter Tryz.func7,Tryz.ntmps7
 go_wp2_with fail
 generalize (w.alloc (.cells #[.slice ia c.ins.length ic,.int .i64 c.regs,.int .i64 c.slots,.slice oa c.outs.length oc,.slice na c.inputs.length nc] 25))=V at k1 f1 ⊢
 obtain⟨rm,hrm⟩ : ∃ n,n=rows.length:=⟨_,rfl⟩
 have HG:=Lib.hid G
 have HB:=Lib.hid f1
 have HC:=Lib.hid hc
 have HR:=Lib.hid hr
 have HQ:=Lib.hid hqa
 have K1:=Lib.hid k1
 have hcC:V.cell? ⟨w.heap.size,0,none⟩=some (.slice ia c.ins.length ic):=k1.c rfl
 clear hqa hql k1 f1 G hc hr
 refine (smallC_any V c ia oa na ic oc nc).mono ?_
 rintro e V2 ⟨rfl,hb2⟩
 have hR:=fun W (hW:Below V.heap.size V W)=>smallR_any W rows _ (HR.out.below RwP.keeps (below_next HB.out hW))
 cases hsc:smallC c with
 | false =>
  go_wp2_with fail
  refine (live_any (HG.out.below (below_next HB.out hb2))).mono ?_
  rintro e w7 ⟨rfl,hb7⟩
  have HB7:=Lib.hid (below_next (below_next HB.out hb2) hb7)
  clear hb7 hb2
  go_wp2_with fail
  go_ret
  exact⟨rfl,HB7.out⟩
 | true =>
  have hR2:=hR V2 hb2
  have HB2:=Lib.hid hb2
  clear hb2 hR
  go_wp2_with fail
  refine hR2.mono ?_
  rintro e V3 ⟨rfl,rfl⟩
  cases hsr:smallR rows with
  | false =>
   go_wp2_with fail
   refine (live_any (HG.out.below (below_next HB.out HB2.out))).mono ?_
   rintro e w7 ⟨rfl,hb7⟩
   have HB7:=Lib.hid (below_next (below_next HB.out HB2.out) hb7)
   clear hb7
   go_wp2_with fail
   go_ret
   exact⟨rfl,HB7.out⟩
  | true =>
   clear hR2
   obtain⟨cl1,cl2,cl3,cl4,cl5⟩:=smallC_parts hsc
   obtain⟨rl1,rl2⟩:=smallR_parts hsr
   have kc:=K1.out.below HB2.out
   have d0:V3.cell? ⟨w.heap.size,0,none⟩=some (.slice ia c.ins.length ic):=kc.c rfl
   have d1:V3.cell? ⟨w.heap.size,1,none⟩=some (.int .i64 c.regs):=kc.c rfl
   have d2:V3.cell? ⟨w.heap.size,2,none⟩=some (.int .i64 c.slots):=kc.c rfl
   have d3:V3.cell? ⟨w.heap.size,3,none⟩=some (.slice oa c.outs.length oc):=kc.c rfl
   have d4:V3.cell? ⟨w.heap.size,4,none⟩=some (.slice na c.inputs.length nc):=kc.c rfl
   have HBV:=Lib.hid (below_next HB.out HB2.out)
   have HC3:=Lib.hid (HC.out.below HBV.out)
   have hown:=own_any V3 c _ oa na oc nc HC3.out.i (by omega)
   clear kc K1 hcC
   go_wp2_with fail
   refine hown.mono ?_
   rintro e V4 ⟨ja,jc,rfl,hj,hb4⟩
   have hnew:=new_any V4 c _ _ _ hj (HC3.out.o.below hb4) (HC3.out.n.below hb4) (by omega) (by omega) (by omega) HC3.out.h64
   have HB4:=Lib.hid (below_next HBV.out hb4)
   clear hown hj hb4 d0 d1 d2 d3 d4
   go_wp2_with fail
   refine hnew.mono ?_
   rintro e V5 ⟨hb5,hres⟩
   have HB5:=Lib.hid (below_next HB4.out hb5)
   cases hok:Cx.okS c with
   | false =>
    rw[hok,if_neg (by decide)] at hres
    subst hres
    go_wp2_with fail
    refine (live_any (HG.out.below HB5.out)).mono ?_
    rintro e w7 ⟨rfl,hb7⟩
    have HB7:=Lib.hid (below_next HB5.out hb7)
    clear hb7
    go_wp2_with fail
    go_ret
    exact⟨rfl,HB7.out⟩
   | true =>
    rw[hok,if_pos rfl] at hres
    obtain⟨mb,rb,rfl,hmb,hrb,hml,hrl,hM⟩:=hres
    have hM0:=(hM [] (fun i hi=>by cases hi))
    have HM5:=Lib.hid hM0
    have HMB:Hid (w.heap.size≤mb∧w.heap.size≤rb∧mb<V5.heap.size∧rb<V5.heap.size):=(by have:=HB4.out.size;omega:w.heap.size≤mb∧w.heap.size≤rb∧mb<V5.heap.size∧rb<V5.heap.size)
    rw[← hrm]
    have rl0:rm≤20:=by omega
    have HRM:=Lib.hid hrm
    clear hM hM0 hmb hrb hml hrl hnew hrm HB2 HBV HC3 HB4 hb5
    go_wp2_with fail
    go_loopw [7] (fun iv wr=>∃ t:Nat,iv=.int .i64 t∧t≤rm∧FrS [mb,rb] V5 wr∧MachAt wr [mb,rb] mb rb c (Cx.runM c (Cx.beginS c) (rows.take t))) (fun iv _=>rm - (intOf iv).toNat)
    case atStart=>exact⟨0,rfl,Nat.zero_le _,FrS.refl _ _,HM5.out⟩
    case round =>
     obtain⟨t,rfl,ht,hF,hW⟩:=hrel
     obtain⟨w1,rfl⟩ : ∃ w1,w1=wr:=⟨_,rfl⟩
     have hB:Below w.heap.size w w1:=FrS.below HB5.out hF HB5.out.size (fun i hi=>by
      simp only[List.mem_cons,List.not_mem_nil,or_false] at hi
      have:=HMB.out
      rcases hi with rfl | rfl <;> omega)
     have hs1:=hF.size
     have HMW:Hid (∀ i ∈ [mb,rb],i<w1.heap.size):=fun i hi=>by
      simp only[List.mem_cons,List.not_mem_nil,or_false] at hi
      have:=HMB.out
      rcases hi with rfl | rfl <;> omega
     have HB:=Lib.hid hB
     have HF:=Lib.hid hF
     have HW:=Lib.hid hW
     have ht0:(0:Int)≤(t:Int):=by omega
     have hMS:=MsOk.at hok (rows:=rows) (by rw[← HRM.out];exact rl0) t
     obtain⟨m,hm⟩ : ∃ m,m=Cx.runM c (Cx.beginS c) (rows.take t):=⟨_,rfl⟩
     rw[← hm] at HW hMS
     have HMS:=Lib.hid hMS
     have HMM:=Lib.hid hm
     clear hB hF hW hs1 hm hMS
     by_cases hlt:t<rm
     ·obtain⟨r,hr⟩ : ∃ r,rows[t]?=some r:=⟨_,List.getElem?_eq_getElem (by have:=HRM.out;omega)⟩
      have hrin:r∈rows:=List.mem_of_getElem? hr
      obtain⟨rb',ro,rcs,rfl,⟨ru,rfl,hru⟩,hrc⟩:=HQ.out w (Below.refl _ _) t r hr
      have hc0:w.cell? ⟨rb',ro+t * 1+0,none⟩=some ru:=hrc 0 _ rfl
      rw[Nat.mul_one,Nat.add_zero] at hc0
      have hrs:SlN intC 1 [mb,rb] w ru r:=hru.apart (fun i hi=>by
       simp only[List.mem_cons,List.not_mem_nil,or_false] at hi
       have:=HMB.out
       rcases hi with rfl | rfl <;> omega)
      obtain⟨ra,rc,rfl,-,-⟩:=hru.form
      have hrbw:rb'<w.heap.size:=World.block_lt_of_cell? w _ hc0
      have htm:(t:Int)<(rm:Int):=by omega
      have HRR:=Lib.hid hr
      have HRS:=Lib.hid hrs
      have HR6:Hid (r.length≤60):=rl2 r hrin
      have HR64:=Lib.hid (h64 r hrin)
      have hP:=fault_any HW.out
      clear hru hrc hrs hr hrin
      go_wp2_with fail
      refine hP.mono ?_
      rintro e w2 ⟨rfl,rfl⟩
      have hP2:=steps_any HW.out
      clear hP
      go_wp2_with fail
      refine hP2.mono ?_
      rintro e w3 ⟨rfl,rfl⟩
      have hsl:m.sl.length≤300:=by rw[HMS.out.len];omega
      have hP3:=state_any HW.out (by omega)
      clear hP2
      go_wp2_with fail
      refine hP3.mono ?_
      rintro e w4 ⟨sv,rfl,hS0,hb4⟩
      have hS4:=hS0 _ HMW.out
      obtain⟨sa,sc,rfl,-,-⟩:=hS4.form
      have hB4:=below_next HB.out hb4
      have hM4:∀ i ∈ [mb,rb],i<w4.heap.size:=fun i hi=>Nat.lt_of_lt_of_le (HMW.out i hi) hb4.size
      have hstep:=step_any (HW.out.below hb4) hok HMS.out (by omega) (by omega) hM4 r _ (HRS.out.below hB4) HR64.out (by have:=HR6.out;omega)
      have c4:w4.cell? ⟨rb',ro+t,none⟩=some (.slice ra r.length rc):=(hB4.cell (p:=⟨rb',ro+t,none⟩) hrbw).trans hc0
      have HS4:=Lib.hid hS4
      have HB4:=Lib.hid hB4
      have HF4:=Lib.hid (HF.out.next hb4)
      clear hP3 hS0 hb4 hS4 hB4 hM4
      go_wp2_with fail
      refine hstep.mono ?_
      rintro e w5 ⟨ov,rfl,hF5,hW5,hO5⟩
      have hOO:=(hO5 [] (fun i hi=>by cases hi)).sl
      obtain⟨oa',oc',rfl,-,-⟩:=hOO.form
      have hcs:=Cx.step_cases c m r
      obtain⟨m2,hm2⟩ : ∃ m2,m2=(Cx.stepS c m r).2:=⟨_,rfl⟩
      rw[← hm2] at hW5 hcs ⊢
      have HM2:Hid (m2=Cx.runM c (Cx.beginS c) (rows.take (t+1))):=by
       show _=_
       rw[Cx.runM_take c _ HRR.out,← HMM.out];exact hm2
      have HM2S:Hid (m2.sl.length≤300):=by
       show _≤_
       rw[HM2.out,(MsOk.at hok (by rw[← HRM.out];exact rl0) _).len];omega
      have HW5:=Lib.hid hW5
      have HF5:=Lib.hid (HF4.out.trans hF5 (fun i hi _=>hi))
      have HS5:=Lib.hid (HS4.out.fr hF5 (fun i hi=>hi))
      have hP5:=fault_any HW5.out
      have hst:=HMS.out.steps
      obtain⟨on,hon⟩ : ∃ on,on=(Cx.stepS c m r).1.length:=⟨_,rfl⟩
      rw[← hon]
      clear hstep hF5 hW5 hO5 hOO hm2 hon c4 hc0 hrbw
      go_wp2_with fail
      refine hP5.mono ?_
      rintro e w6 ⟨rfl,rfl⟩
      have x0:(m2.f != m2.f)=false:=by simp
      clear hP5
      have hcs2:((m2.f != 0)=true∧(m2.f==0)=false∧m2.steps=m.steps∧m2.sl=m.sl∧((m.f != 0)=false∨((m.f != 0)=true∧(m2.f != m.f)=false)))∨((m.f != 0)=false∧(m2.f != 0)=false∧(m2.f==0)=true∧wrap64 (m.steps+1)=m.steps+1∧(m2.steps != m.steps+1)=false):=by
       rcases hcs with ⟨h1,h2,-⟩ | ⟨h1,h2,h3,h4,-⟩ | ⟨h1,h2,h3⟩
       ·left;subst h2;exact⟨by simpa using h1,by simpa using h1,rfl,rfl,Or.inr ⟨by simpa using h1,by simp⟩⟩
       ·left;exact⟨by simpa using h2,by simpa using h2,h3,h4,Or.inl (by simp[h1])⟩
       ·right;exact⟨by simp[h1],by simp[h2],by simp[h2],by unfold wrap64;omega,by rw[h3];simp⟩
      clear hcs
      rcases hcs2 with ⟨x1,x2,h3,h4,h5⟩ | ⟨x1,x2,x3,x4,x5⟩
      ·have hP7:=steps_any HW5.out
       have hP8:=state_any HW5.out (by have:=HM2S.out;omega)
       have x5:(m2.steps != m.steps)=false:=by rw[h3];simp
       have H4:=Lib.hid h4
       clear h3 h4
       rcases h5 with y1 | ⟨y1,y2⟩
       all_goals
        go_wp2_with fail
        refine hP7.mono ?_
        rintro e w7 ⟨rfl,rfl⟩
        clear hP7
        go_wp2_with fail
        refine hP8.mono ?_
        rintro e w8 ⟨tv,rfl,hT0,hb8⟩
        have hT8:=(hT0 [] (fun i hi=>by cases hi)).sl
        obtain⟨ta,tc,rfl,-,-⟩:=hT8.form
        have hI:=Ints_any m2.sl m.sl _ _ w8 hT8 (HS5.out.below hb8).sl (by have:=HM2S.out;omega)
        have x6:(m2.sl==m.sl)=true:=by rw[H4.out];simp
        have HF8:=Lib.hid (HF5.out.next hb8)
        have HW8:=Lib.hid (HW5.out.below hb8)
        clear hP8 hT0 hb8 hT8
        go_wp2_with fail
        refine hI.mono ?_
        rintro e w9 ⟨rfl,n9,rfl⟩
        rw[x6]
        clear hI
        go_wp2_with fail
        go_roundw
        case rel=>exact⟨t+1,by go_num,by omega,HF8.out.drawn _,by rw[← HM2.out];exact HW8.out.drawn _⟩
        case measure=>simp[intOf];omega
      ·have hP7:=steps_any HW5.out
       go_wp2_with fail
       refine hP7.mono ?_
       rintro e w7 ⟨rfl,rfl⟩
       clear hP7
       go_wp2_with fail
       go_roundw
       case rel=>exact⟨t+1,by go_num,by omega,HF5.out,by rw[← HM2.out];exact HW5.out⟩
       case measure=>simp[intOf];omega
     ·have hte:t=rm:=by omega
      subst hte
      go_wp2_with fail
      refine (live_any (HG.out.below HB.out)).mono ?_
      rintro e w7 ⟨rfl,hb7⟩
      have HB7:=Lib.hid (below_next HB.out hb7)
      clear hb7
      go_wp2_with fail
      go_ret
      exact⟨rfl,HB7.out⟩
end Go.Proofs.YtdmelebgdaiinaaGreatDoor
namespace Go.Proofs.YtdmelebgdaiinaaGreatDoor
open Go.ChangeShapes Go.WideShapes Go.ChangeAt Go.RowKit Go.Deep
set_option maxRecDepth 100000 in
theorem machineFault_lifted (os:Os) (started:os.Started) (H:Type) (enc:TypeId×Value→H) :
  ReturnsInHanded {} Tryz.checked os 7 .any (fun w args=>(Rows.machineFaultSpec.pre enc Tryz.prog Tryz.f7 Rows.machineFaultRow.domain false w args∧laidMetH Tryz.prog Rows.machineFaultRow.laid w)∧sizedMet enc Tryz.prog Tryz.f7 (OpenSpec.ofChange Rows.machineFaultSpec) false w args)
   (Rows.machineFaultSpec.post enc Tryz.prog Tryz.f7 false true false false):=by
 refine handed_shaped_and (C:=Tryz.checked) (X:=fun w _=>laidMetH Tryz.prog Rows.machineFaultRow.laid w) (fun _ _ _ hh h=>h.of_heap hh) own started (by kernel_rfl) Tryz.func7
  (ChangeSpec.witness_shaped (enc:=enc) (C:=Tryz.checked) (os:=os) (X:=fun w _=>laidMetH Tryz.prog Rows.machineFaultRow.laid w) false (World.laidAll Tryz.prog os Rows.machineFaultRow.laid) #[.agg #[.slice none 0 0,.int .i64 0,.int .i64 0,.slice none 0 0,.slice none 0 0],.slice none 0 0] 8 (World.laidAll_os _ _ _)
   (World.shaped_of_ZipB (by kernel_rfl) (by kernel_rfl)) (by kernel_rfl) (by kernel_rfl) (by kernel_rfl)
   (by rw[MakeChecks.laidMetH_plain _ _ _ (by kernel_rfl)];exact laidMet_laidAll _ (by kernel_rfl) (by kernel_rfl))) ?_
 intro W base args ds gs before hval0 hW hL hsh
 have hW':=hW
 obtain⟨p,q,hA0,hV,rfl,hfz,hnd⟩:=hW
 have hA:DataW.TrodAll enc Tryz.prog W 0 (fun _=>true) true Tryz.f7.params.toList args.toList ds p:=hA0
 have hval:∀ (j:Nat) t v,Tryz.f7.params[j]?=some t→args[j]?=some v→Value.okWide Tryz.prog W .any base t v:=hval0
 rw[Tryz.params7] at hA hval
 obtain⟨v0,vs0,d0,ds0,p0,q0,hargs0,rfl,rfl,h0,r0⟩:=trodAll_cons hA
 obtain⟨v1,vs1,d1,ds1,p1,q1,hargs1,rfl,rfl,h1,r1⟩:=trodAll_cons r0
 obtain⟨rfl,rfl,rfl⟩:=trodAll_nil r1
 obtain rfl:args=#[v0,v1]:=by cases args;simp_all
 obtain⟨rfl,rfl⟩:=trodVars_none hV
 have k0:=h0
 have k1:=h1
 have lt0:∀ x∈p0,x.block<W.heap.size:=by obtain⟨m,hm⟩:=k0;exact DataW.trod_lt m _ _ _ hm
 have lt1:∀ x∈p1,x.block<W.heap.size:=by obtain⟨m,hm⟩:=k1;exact DataW.trod_lt m _ _ _ hm
 obtain⟨l0,vi0,vo0,vn0,rfl,s0⟩:=codeV_in (hval 0 25 v0 rfl rfl) h0
 obtain⟨n1,g1⟩:=h1
 obtain⟨aa1,bb1,cc1,rfl⟩:=okWide_slice Tryz.underlying26 (hval 1 26 v1 rfl rfl)
 obtain⟨l1,s1,hm1,hz1⟩:=rows_inD g1
 clear hA0 hval0
 have G:GlM W:=glm_of (show laidMetH Tryz.prog Rows.machineNilRow.laid W from hL)
 refine (machineFault_any l0 _ _ _ l1 _ W G s0 s1 (fun r hr=>(hz1 r hr).2)).mono fun e W' h=>?_
 obtain⟨he,bel⟩:=h
 subst he
 exact⟨_,rfl,_,_,_,[],_,[],hW',trodAll_mk1 (shut_bool Tryz.underlying4 _),trodAll_cons_mk (Below.trod laidOut (by kernel_rfl) (of_decide_eq_true (by kernel_rfl)) k0 bel lt0) (trodAll_cons_mk (Below.trod laidOut (by kernel_rfl) (of_decide_eq_true (by kernel_rfl)) k1 bel lt1) trodAll_mk0),rfl,bel.frame _,fun h=>by cases h⟩
end Go.Proofs.YtdmelebgdaiinaaGreatDoor
namespace Go.Proofs.YtdmelebgdaiinaaGreatDoor
open Go.ChangeShapes Go.WideShapes
theorem machineFault_and {a b:Bool} (ha:a=true) (hb:b=true):(a&&b)=true:=by rw[ha,hb];rfl
set_option maxRecDepth 100000 in
set_option maxHeartbeats 100000000 in
theorem machineFault_joined:joinedFacts Tryz.prog 7 Tryz.f7 Rows.machineFaultSpec Rows.machineFaultRow=true:=by
 unfold joinedFacts
 repeat' (with_reducible refine machineFault_and ?_ ?_)
 all_goals (as_aux_lemma=>kernel_rfl)
theorem machineFault_wf:Rows.machineFaultRow.wfByText (OpenSpec.ofChange Rows.machineFaultSpec)=true:=by kernel_rfl
theorem machineFault_main:Tryz.pinned.checked.prog.mainIs=some (Rows.machineFaultCard.stood.harness.1,Rows.machineFaultCard.stood.harness.2.toList):=by kernel_rfl
theorem machineFault_named : Tryz.prog.funcNamed "bailment/bailmentlaw18.MachineFault" = some 7 := by kernel_rfl
theorem machineFault_looks:true=Tryz.pinned.checked.prog.looks []:=by kernel_rfl
theorem machineFault_stand:([25,26].all fun u=>!Tryz.prog.wantsStandIn u)=true:=by kernel_rfl
theorem machineFault_goes:false=Rows.machineFaultRow.goesBy Tryz.pinned.checked.prog:=by kernel_rfl
end Go.Proofs.YtdmelebgdaiinaaGreatDoor
