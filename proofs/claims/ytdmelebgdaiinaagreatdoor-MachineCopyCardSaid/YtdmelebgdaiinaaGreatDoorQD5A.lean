/- What the law of D5A needs of its own. -/
import Derived.WalkKit
import Derived.WalkSpells
import Derived.Deep.Onto
import Derived.Deep.AppendLies
import Derived.Deep.Draws
import Derived.OwnWalk
import Derived.Test.YtdmelebgdaiinaaGreatDoorProg
import Derived.Shelf.Abstract
import Derived.Lib.Strings
import Derived.WalkLawsBesides
import Derived.Outline
import Derived.Laws.EntriesVeiled
import Derived.Deep.RegionHeld3
import Derived.Deep.QuietTactic
import Derived.BigQuiet
import Derived.StillTailTactics
import Derived.Laws.OwnMore
import Derived.Lib.SliceRun
import Derived.Lib.Hide
import Derived.LoopN
import Derived.Deep.Cut
import Derived.Lib.Walk
import Derived.Deep.Upon
import Derived.Test.YtdmelebgdaiinaaGreatDoorRows
import Derived.ProofKit
import Derived.OpenShut
import Derived.Lib.SmallJoins
import Derived.Deep.Slices
import Derived.Deep.Matrix
import Derived.ChangeSlices
import Derived.Orders
import Derived.Tactics
import Derived.Laws.IdiomCopy
import Derived.Laws.Cells
import Derived.Below
import Derived.Laws.Entries
import Derived.Laws.Strings
import Derived.Laws.StructEq
import Derived.Laws.RangeString
import Derived.Laws.Runes
import Derived.Laws.Append
import Derived.KernelRfl
import Derived.RangeFuncSeq
import Derived.RangeFuncLeaves
import Derived.RangeFuncRecord
import Derived.RangeFuncCalls
import Derived.OrdersIn
import Derived.TacticsIn
import Derived.Test.YtdmelebgdaiinaaGreatDoorChecked
import Derived.Recover
import Derived.RangeFuncNested
import Derived.RangeFuncBound
import Derived.OwnWalkIn
import Derived.TacticsInMore
import Derived.LoopNIn
import Derived.LoopIn
import Derived.Maps.Own
import Derived.Deep.DeepCutAuto
import Derived.Deep.CutBlock
import Derived.Test.YtdmelebgdaiinaaGreatDoorTie
import Derived.Lib.LaidU8
import Derived.SliceStrings
import Derived.LaidLaws
import Derived.HandedShaped
import Derived.Lay
import Derived.SevenTiedAt
import Derived.Test.YtdmelebgdaiinaaGreatDoorCards
import Derived.ChangeMaps5
import Derived.Test.YtdmelebgdaiinaaGreatDoorJ1
import Derived.Test.YtdmelebgdaiinaaGreatDoorJ2
import Derived.Test.YtdmelebgdaiinaaGreatDoorJ3
import Derived.Test.YtdmelebgdaiinaaGreatDoorJ4
import Derived.Test.YtdmelebgdaiinaaGreatDoorJ5
import Derived.Test.YtdmelebgdaiinaaGreatDoorJ6
import Derived.Test.YtdmelebgdaiinaaGreatDoorJ7
import Derived.Test.YtdmelebgdaiinaaGreatDoorJ8
import Derived.Test.YtdmelebgdaiinaaGreatDoorJ9
import Derived.Test.YtdmelebgdaiinaaGreatDoorJ10
import Derived.Test.YtdmelebgdaiinaaGreatDoorJ11
import Derived.Test.YtdmelebgdaiinaaGreatDoorJ12
import Derived.Test.YtdmelebgdaiinaaGreatDoorJ13
import Derived.Test.YtdmelebgdaiinaaGreatDoorJ14
import Derived.Test.YtdmelebgdaiinaaGreatDoorJ15
import Derived.Test.YtdmelebgdaiinaaGreatDoorJ16
import Derived.Test.YtdmelebgdaiinaaGreatDoorJ17
import Derived.Test.YtdmelebgdaiinaaGreatDoorJ18
import Derived.Test.YtdmelebgdaiinaaGreatDoorJ19
import Derived.Test.YtdmelebgdaiinaaGreatDoorJ20
import Derived.Test.YtdmelebgdaiinaaGreatDoorJ21
import Derived.Test.YtdmelebgdaiinaaGreatDoorJ22
import Derived.Test.YtdmelebgdaiinaaGreatDoorJ23
import Derived.Test.YtdmelebgdaiinaaGreatDoorJ24
import Derived.Test.YtdmelebgdaiinaaGreatDoorJ25
import Derived.Test.YtdmelebgdaiinaaGreatDoorJ26
import Derived.Test.YtdmelebgdaiinaaGreatDoorJ27
import Derived.Test.YtdmelebgdaiinaaGreatDoorJ28
import Derived.Test.YtdmelebgdaiinaaGreatDoorJ29
import Derived.Test.YtdmelebgdaiinaaGreatDoorJ30
import Derived.Test.YtdmelebgdaiinaaGreatDoorJ31
import Derived.Test.YtdmelebgdaiinaaGreatDoorJ32
import Derived.Test.YtdmelebgdaiinaaGreatDoorJ33
import Derived.Test.YtdmelebgdaiinaaGreatDoorJ34
import Derived.Test.YtdmelebgdaiinaaGreatDoorJ35
import Derived.Test.YtdmelebgdaiinaaGreatDoorJ36
import Derived.Test.YtdmelebgdaiinaaGreatDoorJ37
import Derived.Test.YtdmelebgdaiinaaGreatDoorJ38
import Derived.Test.YtdmelebgdaiinaaGreatDoorJ39
import Derived.Test.YtdmelebgdaiinaaGreatDoorJ40
import Derived.Test.YtdmelebgdaiinaaGreatDoorJ41
import Derived.Test.YtdmelebgdaiinaaGreatDoorJ42
import Derived.Test.YtdmelebgdaiinaaGreatDoorJ43
import Derived.Test.YtdmelebgdaiinaaGreatDoorJ44
set_option linter.unusedVariables false
set_option linter.unusedSimpArgs false
namespace Go.Proofs.YtdmelebgdaiinaaGreatDoor
open Go.RowKit
set_option maxRecDepth 100000
theorem fault_any {w:World} {M:List Nat} {mb rb:Nat} {c:Cx.Co} {m:Cx.Ms} (h:MachAt w M mb rb c m):Calls Tryz.prog 19 #[.pointer (some ⟨mb,0,none⟩)] w fun e w'=>e=.returned (.int .i64 m.f)∧w'=w:=by
 obtain⟨_,_,_,_,_,_,k1,-⟩:=h.ex
 have c8:w.cell? ⟨mb,8,none⟩=some (.int .i64 m.f):=k1.c rfl
 clear h k1
 go_enter Tryz.func19,Tryz.ntmps19
 go_wp2_with fail
 go_ret
 exact⟨rfl,rfl⟩
theorem steps_any {w:World} {M:List Nat} {mb rb:Nat} {c:Cx.Co} {m:Cx.Ms} (h:MachAt w M mb rb c m):Calls Tryz.prog 20 #[.pointer (some ⟨mb,0,none⟩)] w fun e w'=>e=.returned (.int .i64 m.steps)∧w'=w:=by
 obtain⟨_,_,_,_,_,_,k1,-⟩:=h.ex
 have c7:w.cell? ⟨mb,7,none⟩=some (.int .i64 m.steps):=k1.c rfl
 clear h k1
 go_enter Tryz.func20,Tryz.ntmps20
 go_wp2_with fail
 go_ret
 exact⟨rfl,rfl⟩
end Go.Proofs.YtdmelebgdaiinaaGreatDoor
namespace Go.Proofs.YtdmelebgdaiinaaGreatDoor
open Go.RowKit
set_option maxRecDepth 100000
theorem clone_at {w0:World} {l:List Int} {v:Value} (hv:Sl intC 1 w0 v l) (hl:l.length≤1000000) (W:World) (hb:Below w0.heap.size w0 W) :
  Calls Tryz.prog 26 #[v] W fun e w2=>∃ (a:Option Addr) (cc b:Nat),e=.returned (.slice a l.length cc)∧(l≠[]→W.heap.size≤b∧b<w2.heap.size)∧RegsL w2 b 0 (.slice a l.length cc) l∧Below W.heap.size W w2:=by
 refine (cloneI_any l v W (hv.below hb) hl).mono ?_
 rintro e w2 ⟨u,rfl,hown,hbl⟩
 obtain⟨b,h1,h2⟩:=RegsL.own hown rfl
 obtain⟨a,cc,rfl,-,-,-⟩:=h2.form
 exact⟨a,cc,b,rfl,fun q=>⟨h1 q,h2.lt q⟩,h2,hbl⟩
set_option maxHeartbeats 2000000 in
theorem copy_any {w:World} {M:List Nat} {mb rb:Nat} {c:Cx.Co} {m:Cx.Ms} (h:MachAt w M mb rb c m) (hr:c.regs.toNat≤1000000) (hr1:0≤c.regs) (hs:m.sl.length≤1000000) (hM:∀ i∈M,i<w.heap.size) :
  Calls Tryz.prog 15 #[.pointer (some ⟨mb,0,none⟩)] w fun e w'=>∃ mb2 rb2,e=.returned (.pointer (some ⟨mb2,0,none⟩))∧w.heap.size≤mb2∧w.heap.size≤rb2∧mb2<w'.heap.size∧rb2<w'.heap.size∧Below w.heap.size w w'∧MachAt w' (mb2 :: rb2 :: M) mb2 rb2 c m∧MachAt w' (mb2 :: rb2 :: M) mb rb c m:=by
 obtain⟨vi,vo,vn,vr,vs,r,k1,k2,k3,k4,k5,k6,k7⟩:=h.ex
 have HH:=Lib.hid h
 have HM:=Lib.hid hM
 clear hM
 obtain⟨ia,ic,rfl,-,-⟩:=k2.form
 obtain⟨oa,oc,rfl,-,-⟩:=k3.form
 obtain⟨na,nc,rfl,-,-⟩:=k4.form
 obtain⟨ra,rc,rfl,-,-⟩:=k5.form
 obtain⟨sa,sc,rfl,-,-⟩:=k7.form
 have c0:w.cell? ⟨mb,0,none⟩=some (.slice ia c.ins.length ic):=k1.c rfl
 have c1:w.cell? ⟨mb,1,none⟩=some (.int .i64 c.regs):=k1.c rfl
 have c2:w.cell? ⟨mb,2,none⟩=some (.int .i64 c.slots):=k1.c rfl
 have c3:w.cell? ⟨mb,3,none⟩=some (.slice oa c.outs.length oc):=k1.c rfl
 have c4:w.cell? ⟨mb,4,none⟩=some (.slice na c.inputs.length nc):=k1.c rfl
 have c5:w.cell? ⟨mb,5,none⟩=some (.slice ra r.length rc):=k1.c rfl
 have c6:w.cell? ⟨mb,6,none⟩=some (.slice sa m.sl.length sc):=k1.c rfl
 have c7:w.cell? ⟨mb,7,none⟩=some (.int .i64 m.steps):=k1.c rfl
 have c8:w.cell? ⟨mb,8,none⟩=some (.int .i64 m.f):=k1.c rfl
 have K1:=Lib.hid k1
 have K5:=Lib.hid k5
 have K6:=Lib.hid k6
 have K7:=Lib.hid k7
 have K2:=Lib.hid k2
 have K3:=Lib.hid k3
 have K4:=Lib.hid k4
 clear h k1 k2 k3 k4 k5 k6 k7
 go_enter Tryz.func15,Tryz.ntmps15
 go_wp2_with fail
 have kn:=Blk.new w #[.slice ia c.ins.length ic,.int .i64 c.regs,.int .i64 c.slots,.slice oa c.outs.length oc,.slice na c.inputs.length nc,.slice ra r.length rc,.slice sa m.sl.length sc,.int .i64 m.steps,.int .i64 m.f] 75
 have f0:Below w.heap.size w (w.alloc (.cells #[.slice ia c.ins.length ic,.int .i64 c.regs,.int .i64 c.slots,.slice oa c.outs.length oc,.slice na c.inputs.length nc,.slice ra r.length rc,.slice sa m.sl.length sc,.int .i64 m.steps,.int .i64 m.f] 75)):=(Below.refl _ _).alloc (Nat.le_refl _) _
 obtain⟨nb,hnb⟩ : ∃ nb,nb=w.heap.size:=⟨_,rfl⟩
 rw[← hnb] at kn ⊢
 generalize w.alloc (.cells #[.slice ia c.ins.length ic,.int .i64 c.regs,.int .i64 c.slots,.slice oa c.outs.length oc,.slice na c.inputs.length nc,.slice ra r.length rc,.slice sa m.sl.length sc,.int .i64 m.steps,.int .i64 m.f] 75)=W0 at kn f0 ⊢
 have hmb:mb≠nb:=by have:=K1.out.lt;omega
 have CR:=fun W hW=>clone_at (w0:=W0) ((RegsL.sln K5.out (M:=[]) (fun _ q=>by cases q)).below f0).sl (by rw[K6.out];exact hr) W hW
 have CS:=fun W hW=>clone_at (w0:=W0) (K7.out.below f0).sl hs W hW
 have KK:∀ W,Below W0.heap.size W0 W→W.cell? ⟨mb,5,none⟩=some (.slice ra r.length rc)∧W.cell? ⟨mb,6,none⟩=some (.slice sa m.sl.length sc):=fun W hW=>by
  have hk:=(K1.out.below f0).below hW
  exact⟨hk.c rfl,hk.c rfl⟩
 have KN:∀ W,Below W0.heap.size W0 W→Blk W nb #[.slice ia c.ins.length ic,.int .i64 c.regs,.int .i64 c.slots,.slice oa c.outs.length oc,.slice na c.inputs.length nc,.slice ra r.length rc,.slice sa m.sl.length sc,.int .i64 m.steps,.int .i64 m.f] 75:=fun W hW=>kn.below hW
 have KS:∀ (W:World) (i:Nat) (y:Value),(W.cell? ⟨mb,5,none⟩=some (.slice ra r.length rc)∧W.cell? ⟨mb,6,none⟩=some (.slice sa m.sl.length sc))→(W.setCell ⟨nb,i,none⟩ y).cell? ⟨mb,5,none⟩=some (.slice ra r.length rc)∧(W.setCell ⟨nb,i,none⟩ y).cell? ⟨mb,6,none⟩=some (.slice sa m.sl.length sc):=fun W i y q=>by
  have hne:∀ j,(⟨nb,i,none⟩ : Addr)≠⟨mb,j,none⟩:=fun j e=>by injection e with e _ _;exact hmb e.symm
  exact⟨(World.cell?_setCell_other _ _ _ _ (hne 5)).trans q.1,(World.cell?_setCell_other _ _ _ _ (hne 6)).trans q.2⟩
 have BD:=(Below.refl W0.heap.size W0).drew
 have HK0:=KK _ (Below.refl _ _)
 have HKD:=KK _ BD
 have HNB:=Lib.hid hnb
 have F0:=Lib.hid f0
 have KNH:=Lib.hid KN
 have hlt0:nb<W0.heap.size:=kn.lt
 clear kn f0 hnb c0 c1 c2 c3 c4 c5 c6 c7 c8
 go_region_held3 (fun w'=>w'.cell? ⟨mb,5,none⟩=some (.slice ra r.length rc)∧w'.cell? ⟨mb,6,none⟩=some (.slice sa m.sl.length sc))
  (with_reducible first | exact HK0 | exact HKD | exact HK1 | exact HK2 | exact KS _ _ _ HK2 | exact KS _ _ _ (KS _ _ _ HK2) | fail)
  (first
   | (go_at_call 26;(with_reducible refine (CR _ BD).mono ?_);rintro e wA ⟨ua,uc,br,rfl,hbr,hur,hbA⟩;have HBA:=below_next BD hbA;have HK1:=KK _ HBA)
   | (go_at_call 26;(with_reducible refine (CS _ HBA).mono ?_);rintro e wB ⟨xa,xc,bs,rfl,hbs,hus,hbB⟩;have HBB:=below_next HBA hbB;have HK2:=KK _ HBB;have d5:wB.cell? ⟨nb,5,none⟩=some (.slice ra r.length rc):=(KN _ HBB).c rfl;have d6:wB.cell? ⟨nb,6,none⟩=some (.slice sa m.sl.length sc):=(KN _ HBB).c rfl;have z5:wB.frozen? ⟨nb,5,none⟩=false:=(KN _ HBB).z (v:=.slice ra r.length rc) rfl;have z6:wB.frozen? ⟨nb,6,none⟩=false:=(KN _ HBB).z (v:=.slice sa m.sl.length sc) rfl)
   | fail)
 have HUR:=Lib.hid (hur.below hbB)
 have HUS:=Lib.hid hus
 have HBR:=Lib.hid hbr
 have HBS:=Lib.hid hbs
 have HAB:=Lib.hid hbB.size
 have H0A:=Lib.hid hbA.size
 have HFB:=Lib.hid (below_next F0.out HBB)
 have HKN:=Lib.hid (KNH.out _ HBB)
 have HLT:=Lib.hid hlt0
 clear hur hus hbr hbs hbB hbA HK0 HKD HK1 HK2 d5 d6 z5 z6 BD KK KN KS CR CS HBA HBB hlt0
 go_wp2_with fail
 go_ret
 have hA0:W0.heap.size≤wA.heap.size:=H0A.out
 have hAB:wA.heap.size≤wB.heap.size:=HAB.out
 have hnb0:nb<W0.heap.size:=HLT.out
 have hnbw:nb=w.heap.size:=HNB.out
 have hFS:FrS [nb] w ((wB.setCell ⟨nb,5,none⟩ (.slice ua r.length uc)).setCell ⟨nb,6,none⟩ (.slice xa m.sl.length xc)):=((FrS.of_below HFB.out [nb]).setCell (Or.inl (by simp)) _).setCell (Or.inl (by simp)) _
 have hBF:Below w.heap.size w ((wB.setCell ⟨nb,5,none⟩ (.slice ua r.length uc)).setCell ⟨nb,6,none⟩ (.slice xa m.sl.length xc)) :=
  FrS.below (HFB.out) (((FrS.refl [nb] wB).setCell (Or.inl (by simp)) _).setCell (Or.inl (by simp)) _) HFB.out.size (fun i hi=>by rw[List.mem_singleton.1 hi];omega)
 have hKF:=(HKN.out.puti 5 (.slice ua r.length uc)).puti 6 (.slice xa m.sl.length xc)
 obtain⟨rb2,hrb2,hne2,hRB⟩ : ∃ rb2,(w.heap.size≤rb2∧rb2<wA.heap.size)∧(c.regs≠0→rb2≠nb)∧RegsL wB rb2 0 (.slice ua r.length uc) r:=by
  by_cases hr0:r=[]
  ·refine⟨nb,⟨by omega,by omega⟩,fun q=>?_,?_⟩
   ·have:=K6.out
    rw[hr0] at this
    simp at this
    have hg:=HUR.out
    omega
   ·rcases HUR.out with q | ⟨cc,q1,_⟩
    ·exact Or.inl q
    ·exact Or.inl ⟨hr0,ua,uc,by rw[hr0];rfl⟩
  ·have h1:W0.heap.size≤br∧br<wA.heap.size:=HBR.out hr0
   exact⟨br,⟨by have:=F0.out.size;omega,h1.2⟩,fun _=>by omega,HUR.out⟩
 have hRF:=(hRB.other (p:=nb) (fun q=>hne2 (fun e=>q (List.eq_nil_of_length_eq_zero (by rw[K6.out,e];rfl)))) 5 (.slice ua r.length uc)).other (p:=nb) (fun q=>hne2 (fun e=>q (List.eq_nil_of_length_eq_zero (by rw[K6.out,e];rfl)))) 6 (.slice xa m.sl.length xc)
 have hse:m.sl≠[]→wA.heap.size≤bs∧bs<wB.heap.size:=HBS.out
 have hSF:=(HUS.out.other (p:=nb) (fun q=>by have:=(hse q).1;omega) 5 (.slice ua r.length uc)).other (p:=nb) (fun q=>by have:=(hse q).1;omega) 6 (.slice xa m.sl.length xc)
 have hMM:∀ i∈nb :: rb2 :: M,i∈M∨w.heap.size≤i:=fun i hi=>by
  simp only[List.mem_cons] at hi
  rcases hi with rfl | rfl | hi
  ·exact Or.inr (by omega)
  ·exact Or.inr hrb2.1
  ·exact Or.inl hi
 have hS1:∀ i ∈ [nb],i∈nb :: rb2 :: M:=fun i hi=>by rw[List.mem_singleton.1 hi];simp
 refine⟨nb,rb2,rfl,by omega,hrb2.1,by simp;omega,by simp;omega,hBF,⟨⟨_,_,_,_,_,r,hKF,(K2.out.more hMM).fr hFS hS1,(K3.out.more hMM).fr hFS hS1,(K4.out.more hMM).fr hFS hS1,hRF,K6.out,RegsL.sln hSF (fun q hi=>?_)⟩,by simp,by simp,hne2⟩,?_⟩
 ·have h1:=(hse q).1
  simp only[List.mem_cons] at hi
  rcases hi with e | e | hi
  ·omega
  ·omega
  ·have:=HM.out _ hi;have:=F0.out.size;omega
 ·refine (HH.out.more (M':=nb :: rb2 :: M) (fun i hi=>by simp[hi]) hMM).fr hFS hS1 (fun q=>?_) (fun q e=>?_)
  ·have h1:=List.mem_singleton.1 q
   have h2:=K1.out.lt
   omega
  ·have h1:=List.mem_singleton.1 e
   have h2:=K5.out.lt (fun e0=>q (by rw[← K6.out,e0];rfl))
   omega
end Go.Proofs.YtdmelebgdaiinaaGreatDoor
namespace Go.Proofs.YtdmelebgdaiinaaGreatDoor
open Go.RowKit
namespace Cx
theorem step_cases (c:Co) (m:Ms) (r:List Int):(m.f≠0∧(stepS c m r).2=m∧(stepS c m r).1=[])∨(m.f=0∧(stepS c m r).2.f≠0∧(stepS c m r).2.steps=m.steps∧(stepS c m r).2.sl=m.sl∧(stepS c m r).1=[])∨(m.f=0∧(stepS c m r).2.f=0∧(stepS c m r).2.steps=m.steps+1):=by
 unfold stepS
 by_cases h:m.f=0
 ·rw[if_neg (by simpa using h)]
  by_cases h2:frameS c.inputs r=false
  ·rw[if_pos h2];right;left;exact⟨h,by show (17:Int)≠0;decide,rfl,rfl,rfl⟩
  ·rw[if_neg h2]
   dsimp only
   split
   ·rename_i h3;right;left;exact⟨h,h3,rfl,rfl,rfl⟩
   ·right;right;exact⟨h,rfl,rfl⟩
 ·rw[if_pos h];left;exact⟨h,rfl,rfl⟩
end Cx
end Go.Proofs.YtdmelebgdaiinaaGreatDoor
namespace Go.Proofs.YtdmelebgdaiinaaGreatDoor
open Go.RowKit
set_option maxRecDepth 100000
theorem runM_steps (c:Cx.Co):∀ (rows:List (List Int)) (m:Cx.Ms),m.steps≤(Cx.runM c m rows).steps
 | [],m=>Int.le_refl _
 | r :: rows,m=>by
  have h1:=runM_steps c rows (Cx.stepS c m r).2
  have h2:m.steps≤(Cx.stepS c m r).2.steps:=by
   rcases Cx.step_cases c m r with ⟨_,h,_⟩ | ⟨_,_,h,_⟩ | ⟨_,_,h⟩
   ·rw[h];exact Int.le_refl _
   ·rw[h];exact Int.le_refl _
   ·rw[h];omega
  exact Int.le_trans h2 h1
theorem stepS_outs' (c:Cx.Co) (m:Cx.Ms) (r:List Int):(Cx.stepS c m r).1.length≤c.outs.length:=by
 unfold Cx.stepS
 split
 ·simp
 ·split
  ·simp
  ·dsimp only
   split <;> simp
set_option maxHeartbeats 4000000 in
theorem machineCopy_any (c:Cx.Co) (vi vo vn:Value) (rows:List (List Int)) (vr:Value) (w:World) (G:GlM w) (hc:CodeIn w c vi vo vn) (hr:Sg 1 RwP w vr rows) (h64:∀ r∈rows,∀ n∈r,-9223372036854775808≤n∧n≤9223372036854775807) (more:List (List Int)) (vm:Value) (hm:Sg 1 RwP w vm more) (g64:∀ r∈more,∀ n∈r,-9223372036854775808≤n∧n≤9223372036854775807) :
  Calls Tryz.prog 6 #[.agg #[vi,.int .i64 c.regs,.int .i64 c.slots,vo,vn],vr,vm] w fun e w'=>e=.returned (.bool true)∧Below w.heap.size w w':=by
 obtain⟨ia,ic,rfl,-,-⟩:=hc.i.form
 obtain⟨oa,oc,rfl,-,-⟩:=hc.o.form
 obtain⟨na,nc,rfl,-,-⟩:=hc.n.form
 obtain⟨qa,qc,rfl,hql,hqa⟩:=hr.form RwP.keeps
 obtain⟨pa,pc,rfl,hpl,hpa⟩:=hm.form RwP.keeps
 obtain⟨sm,hsm⟩ : ∃ n,n=more.length:=⟨_,rfl⟩
 have HP:=Lib.hid hpa
 have HMo:=Lib.hid hm
 clear hpa hm hpl
 have k1:=Blk.new w #[.slice ia c.ins.length ic,.int .i64 c.regs,.int .i64 c.slots,.slice oa c.outs.length oc,.slice na c.inputs.length nc] 25
 have f1:Below w.heap.size w (w.alloc (.cells #[.slice ia c.ins.length ic,.int .i64 c.regs,.int .i64 c.slots,.slice oa c.outs.length oc,.slice na c.inputs.length nc] 25)):=(Below.refl _ _).alloc (Nat.le_refl _) _
 go_enter Tryz.func6,Tryz.ntmps6
 go_wp2_with fail
 generalize (w.alloc (.cells #[.slice ia c.ins.length ic,.int .i64 c.regs,.int .i64 c.slots,.slice oa c.outs.length oc,.slice na c.inputs.length nc] 25))=V at k1 f1 ⊢
 obtain⟨rm,hrm⟩ : ∃ n,n=rows.length:=⟨_,rfl⟩
 have HG:=Lib.hid G
 have HB:=Lib.hid f1
 have HC:=Lib.hid hc
 have HR:=Lib.hid hr
 have HQ:=Lib.hid hqa
 have K1:=Lib.hid k1
 have hcC:V.cell? ⟨w.heap.size,0,none⟩=some (.slice ia c.ins.length ic):=k1.c rfl
 clear hqa hql k1 f1 G hc hr
 refine (smallC_any V c ia oa na ic oc nc).mono ?_
 rintro e V2 ⟨rfl,hb2⟩
 have hR:=fun W (hW:Below V.heap.size V W)=>smallR_any W rows _ (HR.out.below RwP.keeps (below_next HB.out hW))
 cases hsc:smallC c with
 | false =>
  go_wp2_with fail
  refine (live_any (HG.out.below (below_next HB.out hb2))).mono ?_
  rintro e w7 ⟨rfl,hb7⟩
  have HB7:=Lib.hid (below_next (below_next HB.out hb2) hb7)
  clear hb7 hb2
  go_wp2_with fail
  go_ret
  exact⟨rfl,HB7.out⟩
 | true =>
  have hR2:=hR V2 hb2
  have HB2:=Lib.hid hb2
  clear hb2 hR
  go_wp2_with fail
  refine hR2.mono ?_
  rintro e V3 ⟨rfl,rfl⟩
  cases hsr:smallR rows with
  | false =>
   go_wp2_with fail
   refine (live_any (HG.out.below (below_next HB.out HB2.out))).mono ?_
   rintro e w7 ⟨rfl,hb7⟩
   have HB7:=Lib.hid (below_next (below_next HB.out HB2.out) hb7)
   clear hb7
   go_wp2_with fail
   go_ret
   exact⟨rfl,HB7.out⟩
  | true =>
   have hR3:=smallR_any V3 more _ (HMo.out.below RwP.keeps (below_next HB.out HB2.out))
   clear hR2
   go_wp2_with fail
   refine hR3.mono ?_
   rintro e V3 ⟨rfl,rfl⟩
   cases hss:smallR more with
   | false =>
    go_wp2_with fail
    refine (live_any (HG.out.below (below_next HB.out HB2.out))).mono ?_
    rintro e w7 ⟨rfl,hb7⟩
    have HB7:=Lib.hid (below_next (below_next HB.out HB2.out) hb7)
    clear hb7
    go_wp2_with fail
    go_ret
    exact⟨rfl,HB7.out⟩
   | true =>
    clear hR3
    obtain⟨cl1,cl2,cl3,cl4,cl5⟩:=smallC_parts hsc
    obtain⟨rl1,rl2⟩:=smallR_parts hsr
    obtain⟨sl1,sl2⟩:=smallR_parts hss
    have kc:=K1.out.below HB2.out
    have d0:V3.cell? ⟨w.heap.size,0,none⟩=some (.slice ia c.ins.length ic):=kc.c rfl
    have d1:V3.cell? ⟨w.heap.size,1,none⟩=some (.int .i64 c.regs):=kc.c rfl
    have d2:V3.cell? ⟨w.heap.size,2,none⟩=some (.int .i64 c.slots):=kc.c rfl
    have d3:V3.cell? ⟨w.heap.size,3,none⟩=some (.slice oa c.outs.length oc):=kc.c rfl
    have d4:V3.cell? ⟨w.heap.size,4,none⟩=some (.slice na c.inputs.length nc):=kc.c rfl
    have HBV:=Lib.hid (below_next HB.out HB2.out)
    have HC3:=Lib.hid (HC.out.below HBV.out)
    have hown:=own_any V3 c _ oa na oc nc HC3.out.i (by omega)
    clear kc K1 hcC
    go_wp2_with fail
    refine hown.mono ?_
    rintro e V4 ⟨ja,jc,rfl,hj,hb4⟩
    have hnew:=new_any V4 c _ _ _ hj (HC3.out.o.below hb4) (HC3.out.n.below hb4) (by omega) (by omega) (by omega) HC3.out.h64
    have HB4:=Lib.hid (below_next HBV.out hb4)
    clear hown hj hb4 d0 d1 d2 d3 d4
    go_wp2_with fail
    refine hnew.mono ?_
    rintro e V5 ⟨hb5,hres⟩
    have HB5:=Lib.hid (below_next HB4.out hb5)
    cases hok:Cx.okS c with
    | false =>
     rw[hok,if_neg (by decide)] at hres
     subst hres
     go_wp2_with fail
     refine (live_any (HG.out.below HB5.out)).mono ?_
     rintro e w7 ⟨rfl,hb7⟩
     have HB7:=Lib.hid (below_next HB5.out hb7)
     clear hb7
     go_wp2_with fail
     go_ret
     exact⟨rfl,HB7.out⟩
    | true =>
     rw[hok,if_pos rfl] at hres
     obtain⟨mb,rb,rfl,hmb,hrb,hml,hrl,hM⟩:=hres
     have hM0:=(hM [] (fun i hi=>by cases hi))
     have HM5:=Lib.hid hM0
     have HMB:Hid (w.heap.size≤mb∧w.heap.size≤rb∧mb<V5.heap.size∧rb<V5.heap.size):=(by have:=HB4.out.size;omega:w.heap.size≤mb∧w.heap.size≤rb∧mb<V5.heap.size∧rb<V5.heap.size)
     rw[← hrm,← hsm]
     have rl0:rm≤20:=by omega
     have sl0:sm≤20:=by omega
     have HRM:=Lib.hid hrm
     have HSM:=Lib.hid hsm
     clear hM hM0 hmb hrb hml hrl hnew hrm hsm HB2 HBV HC3 HB4 hb5
     go_wp2_with fail
     go_loopw [9] (fun iv wr=>∃ t:Nat,iv=.int .i64 t∧t≤rm∧FrS [mb,rb] V5 wr∧MachAt wr [mb,rb] mb rb c (Cx.runM c (Cx.beginS c) (rows.take t))) (fun iv _=>rm - (intOf iv).toNat)
     case atStart=>exact⟨0,rfl,Nat.zero_le _,FrS.refl _ _,HM5.out⟩
     case round =>
      obtain⟨t,rfl,ht,hF,hW⟩:=hrel
      obtain⟨w1,rfl⟩ : ∃ w1,w1=wr:=⟨_,rfl⟩
      have hB:Below w.heap.size w w1:=FrS.below HB5.out hF HB5.out.size (fun i hi=>by
       simp only[List.mem_cons,List.not_mem_nil,or_false] at hi
       have:=HMB.out
       rcases hi with rfl | rfl <;> omega)
      have hs1:=hF.size
      have HMW:Hid (∀ i ∈ [mb,rb],i<w1.heap.size):=fun i hi=>by
       simp only[List.mem_cons,List.not_mem_nil,or_false] at hi
       have:=HMB.out
       rcases hi with rfl | rfl <;> omega
      have HB:=Lib.hid hB
      have HF:=Lib.hid hF
      have HW:=Lib.hid hW
      have ht0:(0:Int)≤(t:Int):=by omega
      have hMS:=MsOk.at hok (rows:=rows) (by rw[← HRM.out];exact rl0) t
      obtain⟨m,hm⟩ : ∃ m,m=Cx.runM c (Cx.beginS c) (rows.take t):=⟨_,rfl⟩
      rw[← hm] at HW hMS
      have HMS:=Lib.hid hMS
      have HMM:=Lib.hid hm
      clear hB hF hW hs1 hm hMS
      by_cases hlt:t<rm
      ·obtain⟨r,hr⟩ : ∃ r,rows[t]?=some r:=⟨_,List.getElem?_eq_getElem (by have:=HRM.out;omega)⟩
       have hrin:r∈rows:=List.mem_of_getElem? hr
       obtain⟨rb',ro,rcs,rfl,⟨ru,rfl,hru⟩,hrc⟩:=HQ.out w (Below.refl _ _) t r hr
       have hc0:w.cell? ⟨rb',ro+t * 1+0,none⟩=some ru:=hrc 0 _ rfl
       rw[Nat.mul_one,Nat.add_zero] at hc0
       have hrs:SlN intC 1 [mb,rb] w ru r:=hru.apart (fun i hi=>by
        simp only[List.mem_cons,List.not_mem_nil,or_false] at hi
        have:=HMB.out
        rcases hi with rfl | rfl <;> omega)
       obtain⟨ra,rc,rfl,-,-⟩:=hru.form
       have hrbw:rb'<w.heap.size:=World.block_lt_of_cell? w _ hc0
       have htm:(t:Int)<(rm:Int):=by omega
       have HRR:=Lib.hid hr
       have c1:w1.cell? ⟨rb',ro+t,none⟩=some (.slice ra r.length rc):=(HB.out.cell (p:=⟨rb',ro+t,none⟩) hrbw).trans hc0
       have HRS:=Lib.hid hrs
       have HR6:Hid (r.length≤60):=rl2 r hrin
       have HR64:=Lib.hid (h64 r hrin)
       have hstep:=step_any HW.out hok HMS.out (by omega) (by omega) HMW.out r _ (HRS.out.below HB.out) HR64.out (by have:=HR6.out;omega)
       clear hru hrc hrs hr hrin hc0 hrbw
       go_wp2_with fail
       refine hstep.mono ?_
       rintro e w2 ⟨ov,rfl,hF2,hW2,hO2⟩
       have HFE:=Lib.hid (HF.out.trans hF2 (fun i hi _=>hi))
       have HWE:Hid (MachAt w2 [mb,rb] mb rb c (Cx.runM c (Cx.beginS c) (rows.take (t+1)))):=by
        show MachAt _ _ _ _ _ _
        rw[Cx.runM_take c _ HRR.out,← HMM.out];exact hW2
       clear hstep hF2 hW2 hO2 c1
       go_wp2_with fail
       go_roundw
       case rel=>exact⟨t+1,by go_num,by omega,HFE.out,HWE.out⟩
       case measure=>simp[intOf];omega
      ·have hte:t=rm:=by omega
       subst hte
       have e0:Cx.runM c (Cx.beginS c) (rows.take t)=Cx.runM c (Cx.beginS c) rows:=by rw[List.take_of_length_le (by rw[← HRM.out];exact Nat.le_refl _)]
       rw[e0] at HMM
       have hsl0:m.sl.length≤300:=by rw[HMS.out.len];omega
       have hrr0:c.regs.toNat≤1000000:=by omega
       have hrr1:0≤c.regs:=(Cx.okS_ok hok).size.1
       have hcp:=copy_any HW.out hrr0 hrr1 (by omega) HMW.out
       clear e0
       go_wp2_with fail
       refine hcp.mono ?_
       rintro e w2 ⟨ab,qb,rfl,hab,hqb,hal,hql,hb2,hA2,hW2⟩
       have hM2:∀ i ∈ [ab,qb,mb,rb],i<w2.heap.size:=fun i hi=>by
        simp only[List.mem_cons,List.not_mem_nil,or_false] at hi
        have h1:=HMB.out;have h2:=HF.out.size;have h3:=hb2.size
        rcases hi with rfl | rfl | rfl | rfl <;> omega
       have hcp2:=copy_any hW2 hrr0 hrr1 (by omega) hM2
       have HB2:=Lib.hid (below_next HB.out hb2)
       have HA2:=Lib.hid hA2
       have HN2:Hid (mb<w1.heap.size∧rb<w1.heap.size∧w.heap.size≤mb∧w.heap.size≤rb∧w1.heap.size≤ab∧w1.heap.size≤qb∧ab<w2.heap.size∧qb<w2.heap.size):=by
        have h1:=HMB.out;have h2:=HF.out.size
        exact⟨by omega,by omega,by omega,by omega,hab,hqb,hal,hql⟩
       clear hcp hab hqb hal hql hb2 hA2 hW2 hM2
       go_wp2_with fail
       refine hcp2.mono ?_
       rintro e w3 ⟨bb,pb,rfl,hbb,hpb,hbl,hpl,hb3,hC3,hW3⟩
       have hA3:MachAt w3 [bb,pb,ab,qb,mb,rb] ab qb c m:=(HA2.out.more (fun i hi=>List.mem_cons_of_mem _ (List.mem_cons_of_mem _ hi)) (fun i hi=>by
        simp only[List.mem_cons,List.not_mem_nil,or_false] at hi ⊢
        rcases hi with rfl | rfl | rfl | rfl | rfl | rfl
        ·right;exact hbb
        ·right;exact hpb
        ·left;simp
        ·left;simp
        ·left;simp
        ·left;simp)).below hb3
       have hst:=state_any hW3 (by omega)
       have HB3:=Lib.hid (below_next HB2.out hb3)
       have HN3:Hid (w.heap.size≤mb∧w.heap.size≤rb∧mb<ab∧mb<qb∧rb<ab∧rb<qb∧ab<bb∧ab<pb∧qb<bb∧qb<pb∧bb<w3.heap.size∧pb<w3.heap.size):=by
        have h1:=HN2.out
        exact⟨by omega,by omega,by omega,by omega,by omega,by omega,by omega,by omega,by omega,by omega,hbl,hpl⟩
       have hM3:∀ i ∈ [bb,pb,ab,qb,mb,rb],i<w3.heap.size:=fun i hi=>by
        simp only[List.mem_cons,List.not_mem_nil,or_false] at hi
        have h1:=HN3.out
        rcases hi with rfl | rfl | rfl | rfl | rfl | rfl <;> omega
       have HM3:=Lib.hid hM3
       have HC3:=Lib.hid hC3
       have HA3:=Lib.hid hA3
       have HW3:=Lib.hid hW3
       clear hcp2 hbb hpb hbl hpl hb3 hC3 hW3 hA3 hM3 HA2 HN2
       go_wp2_with fail
       refine hst.mono ?_
       rintro e w4 ⟨sv,rfl,hsv,hb4⟩
       have hS4:=hsv _ HM3.out
       obtain⟨sa,sc,rfl,-,-⟩:=hS4.form
       have HS4:=Lib.hid hS4
       have HB4:=Lib.hid (below_next HB3.out hb4)
       have HM4:Hid (∀ i ∈ [bb,pb,ab,qb,mb,rb],w.heap.size≤i∧i<w4.heap.size):=fun i hi=>by
        have h0:=HM3.out i hi
        have h2:=hb4.size
        simp only[List.mem_cons,List.not_mem_nil,or_false] at hi
        have h1:=HN3.out
        rcases hi with rfl | rfl | rfl | rfl | rfl | rfl <;> omega
       have HC4:=Lib.hid (HC3.out.below hb4)
       have HA4:=Lib.hid (HA3.out.below hb4)
       have HW4:=Lib.hid (HW3.out.below hb4)
       clear hst hsv hb4 hS4 HC3 HA3 HW3 HM3
       go_wp2_with fail
       go_loopw [13] (fun iv wr=>∃ u:Nat,iv=.int .i64 u∧u≤sm∧FrS [bb,pb,ab,qb] w4 wr∧MachAt wr [bb,pb,ab,qb,mb,rb] ab qb c (Cx.runM c m (more.take u))∧MachAt wr [bb,pb,ab,qb,mb,rb] bb pb c (Cx.runM c m (more.take u))) (fun iv _=>sm - (intOf iv).toNat)
       case atStart=>exact⟨0,rfl,Nat.zero_le _,FrS.refl _ _,HA4.out,HC4.out⟩
       case round =>
        obtain⟨u,rfl,hu,hF,hA,hC⟩:=hrel
        obtain⟨v1,rfl⟩ : ∃ v1,v1=wr:=⟨_,rfl⟩
        have hmem:∀ i ∈ [bb,pb,ab,qb,mb,rb],w.heap.size≤i∧i<v1.heap.size:=fun i hi=>⟨(HM4.out i hi).1,Nat.lt_of_lt_of_le (HM4.out i hi).2 hF.size⟩
        have hsub:∀ i ∈ [bb,pb,ab,qb],i ∈ [bb,pb,ab,qb,mb,rb]:=fun i hi=>by simp only[List.mem_cons,List.not_mem_nil,or_false] at hi ⊢;rcases hi with rfl | rfl | rfl | rfl <;> simp
        have hB:Below w.heap.size w v1:=FrS.below HB4.out hF HB4.out.size (fun i hi=>(HM4.out i (hsub i hi)).1)
        have HMEM:=Lib.hid hmem
        have HBv:=Lib.hid hB
        have HFv:=Lib.hid hF
        have HAv:=Lib.hid hA
        have HCv:=Lib.hid hC
        have hu0:(0:Int)≤(u:Int):=by omega
        have hMSv:=MsOk.on hok HMS.out (rows:=more) (by rw[← HSM.out];exact sl0) u
        obtain⟨n,hn⟩ : ∃ n,n=Cx.runM c m (more.take u):=⟨_,rfl⟩
        rw[← hn] at HAv HCv hMSv
        have HMSv:=Lib.hid hMSv
        have HNN:=Lib.hid hn
        clear hB hF hA hC hn hMSv hmem hsub
        by_cases hlt2:u<sm
        ·obtain⟨r,hr⟩ : ∃ r,more[u]?=some r:=⟨_,List.getElem?_eq_getElem (by have:=HSM.out;omega)⟩
         have hrin:r∈more:=List.mem_of_getElem? hr
         obtain⟨rb',ro,rcs,rfl,⟨ru,rfl,hru⟩,hrc⟩:=HP.out w (Below.refl _ _) u r hr
         have hc0:w.cell? ⟨rb',ro+u * 1+0,none⟩=some ru:=hrc 0 _ rfl
         rw[Nat.mul_one,Nat.add_zero] at hc0
         have hrs:SlN intC 1 [bb,pb,ab,qb,mb,rb] w ru r:=hru.apart (fun i hi=>(HM4.out i hi).1)
         obtain⟨ra,rc,rfl,-,-⟩:=hru.form
         have hrbw:rb'<w.heap.size:=World.block_lt_of_cell? w _ hc0
         have htm:(u:Int)<(sm:Int):=by omega
         have HRR:=Lib.hid hr
         have HRS:=Lib.hid hrs
         have HR6:Hid (r.length≤60):=sl2 r hrin
         have HR64:=Lib.hid (g64 r hrin)
         have c1:v1.cell? ⟨rb',ro+u,none⟩=some (.slice ra r.length rc):=(HBv.out.cell (p:=⟨rb',ro+u,none⟩) hrbw).trans hc0
         have hstep:=step_any HAv.out hok HMSv.out (by omega) (by omega) (fun i hi=>(HMEM.out i hi).2) r _ ((HRS.out.below HBv.out).more (fun i hi=>Or.inl (by simp only[List.mem_cons,List.not_mem_nil,or_false] at hi ⊢;rcases hi with rfl | rfl <;> simp))) HR64.out (by have:=HR6.out;omega)
         have C0:=Lib.hid hc0
         have RBW:=Lib.hid hrbw
         clear hru hrc hrs hr hrin hc0 hrbw
         go_wp2_with fail
         refine hstep.mono ?_
         rintro e v2 ⟨ov,rfl,hF2,hA2,hO2⟩
         have hfm:∀ i ∈ [ab,qb],i ∈ [bb,pb,ab,qb]:=fun i hi=>by simp only[List.mem_cons,List.not_mem_nil,or_false] at hi ⊢;rcases hi with rfl | rfl <;> simp
         have hfM:∀ i ∈ [bb,pb,ab,qb],i ∈ [bb,pb,ab,qb,mb,rb]:=fun i hi=>by simp only[List.mem_cons,List.not_mem_nil,or_false] at hi ⊢;rcases hi with rfl | rfl | rfl | rfl <;> simp
         have hC2:MachAt v2 [bb,pb,ab,qb,mb,rb] bb pb c n:=HCv.out.fr hF2 (fun i hi=>hfM i (hfm i hi)) (fun q=>by simp only[List.mem_cons,List.not_mem_nil,or_false] at q;have:=HN3.out;omega) (fun _ q=>by simp only[List.mem_cons,List.not_mem_nil,or_false] at q;have:=HN3.out;omega)
         have HMEM2:Hid (∀ i ∈ [bb,pb,ab,qb,mb,rb],i<v2.heap.size):=fun i hi=>Nat.lt_of_lt_of_le (HMEM.out i hi).2 hF2.size
         have hB2:Below w.heap.size w v2:=FrS.below HBv.out hF2 HBv.out.size (fun i hi=>(HMEM.out i (hfM i (hfm i hi))).1)
         have hO:=hO2 [bb,pb,ab,qb,mb,rb] (fun i hi=>(HMEM.out i hi).2)
         obtain⟨oa1,oc1,rfl,-,-⟩:=hO.form
         have c2:v2.cell? ⟨rb',ro+u,none⟩=some (.slice ra r.length rc):=(hB2.cell (p:=⟨rb',ro+u,none⟩) RBW.out).trans C0.out
         have HF2:=Lib.hid (HFv.out.trans hF2 (fun i hi _=>hfm i hi))
         have HA2:=Lib.hid hA2
         have hstep2:=step_any hC2 hok HMSv.out (by omega) (by omega) HMEM2.out r _ ((HRS.out.below hB2).more (fun i hi=>Or.inl (by simp only[List.mem_cons,List.not_mem_nil,or_false] at hi ⊢;rcases hi with rfl | rfl <;> simp))) HR64.out (by have:=HR6.out;omega)
         have HO2:=Lib.hid hO
         obtain⟨o,ho⟩ : ∃ o,o=(Cx.stepS c n r).1:=⟨_,rfl⟩
         obtain⟨m2,hm2⟩ : ∃ m2,m2=(Cx.stepS c n r).2:=⟨_,rfl⟩
         have HST:Hid (Cx.stepS c n r=(o,m2)):=by rw[ho,hm2];rfl
         rw[← ho] at HO2 ⊢
         rw[← hm2] at HA2 ⊢
         have HOL:Hid (o.length≤60):=by
          rw[ho]
          exact Nat.le_trans (stepS_outs' c n r) cl4
         have HM2:Hid (m2=Cx.runM c m (more.take (u+1))):=by
          show _=_
          rw[Cx.runM_take c _ HRR.out,← HNN.out];exact hm2
         have HFM:=Lib.hid hfM
         clear hstep hF2 hA2 hO2 hC2 hB2 hO c1 ho hm2 hfm hfM
         go_wp2_with fail
         refine hstep2.mono ?_
         rintro e v3 ⟨ov,rfl,hF3,hC3,hO3⟩
         rw[HST.out] at hC3 hO3 ⊢
         have hC3:MachAt v3 [bb,pb,ab,qb,mb,rb] bb pb c m2:=hC3
         have hgm:∀ i ∈ [bb,pb],i ∈ [bb,pb,ab,qb]:=fun i hi=>by simp only[List.mem_cons,List.not_mem_nil,or_false] at hi ⊢;rcases hi with rfl | rfl <;> simp
         have hA3:MachAt v3 [bb,pb,ab,qb,mb,rb] ab qb c m2:=HA2.out.fr hF3 (fun i hi=>HFM.out i (hgm i hi)) (fun q=>by simp only[List.mem_cons,List.not_mem_nil,or_false] at q;have:=HN3.out;omega) (fun _ q=>by simp only[List.mem_cons,List.not_mem_nil,or_false] at q;have:=HN3.out;omega)
         have hA:Sl intC 1 v3 (.slice oa1 o.length oc1) o:=(HO2.out.fr hF3 (fun i hi=>HFM.out i (hgm i hi))).sl
         have hb:Sl intC 1 v3 ov o:=(hO3 [] (fun i hi=>by cases hi)).sl
         obtain⟨oa2,oc2,rfl,-,-⟩:=hb.form
         have hI1:=Ints_any o o _ _ v3 hA hb (by have:=HOL.out;omega)
         have xb:(o==o)=true:=by simp
         rw[xb] at hI1
         have xf:((m2.f:Int) != m2.f)=false:=by simp
         have HF3:=Lib.hid (HF2.out.trans hF3 (fun i hi _=>hgm i hi))
         have HA3:=Lib.hid hA3
         have HC3:=Lib.hid hC3
         clear hstep2 hF3 hC3 hO3 hA hb hgm hA3 c2
         go_wp2_with fail
         refine hI1.mono ?_
         rintro e v4 ⟨rfl,q4,rfl⟩
         clear hI1
         go_wp2_with fail
         go_roundw
         case rel=>exact⟨u+1,by go_num,by omega,HF3.out.drawn _,by rw[← HM2.out];exact HA3.out.drawn _,by rw[← HM2.out];exact HC3.out.drawn _⟩
         case measure=>simp[intOf];omega
        ·have hte:u=sm:=by omega
         subst hte
         have e0:Cx.runM c m (more.take u)=Cx.runM c m more:=by rw[List.take_of_length_le (by rw[← HSM.out];exact Nat.le_refl _)]
         rw[e0] at HNN
         have hWv:MachAt v1 [bb,pb,ab,qb,mb,rb] mb rb c m:=HW4.out.fr HFv.out (fun i hi=>by simp only[List.mem_cons,List.not_mem_nil,or_false] at hi ⊢;rcases hi with rfl | rfl | rfl | rfl <;> simp) (fun q=>by simp only[List.mem_cons,List.not_mem_nil,or_false] at q;have:=HN3.out;omega) (fun _ q=>by simp only[List.mem_cons,List.not_mem_nil,or_false] at q;have:=HN3.out;omega)
         have hSv:=HS4.out.fr HFv.out (fun i hi=>by simp only[List.mem_cons,List.not_mem_nil,or_false] at hi ⊢;rcases hi with rfl | rfl | rfl | rfl <;> simp)
         have hst:=state_any hWv (by omega)
         have HWv:=Lib.hid hWv
         have HSv:=Lib.hid hSv
         clear e0 hWv hSv
         go_wp2_with fail
         refine hst.mono ?_
         rintro e v2 ⟨tv,rfl,hT0,hb2⟩
         have hT2:=(hT0 [] (fun i hi=>by cases hi)).sl
         obtain⟨ta,tc,rfl,-,-⟩:=hT2.form
         have hI:=Ints_any m.sl m.sl _ _ v2 hT2 (HSv.out.below hb2).sl (by omega)
         have xs:(m.sl==m.sl)=true:=by simp
         rw[xs] at hI
         have HB2:=Lib.hid (below_next HBv.out hb2)
         have HA2:=Lib.hid (HAv.out.below hb2)
         have HC2:=Lib.hid (HCv.out.below hb2)
         have HW2:=Lib.hid (HWv.out.below hb2)
         clear hst hT0 hb2 hT2 xs
         go_wp2_with fail
         refine hI.mono ?_
         rintro e v3 ⟨rfl,q3,rfl⟩
         have hA3:=HA2.out.drawn q3
         have hC3:=HC2.out.drawn q3
         have hW3:=HW2.out.drawn q3
         have HB3:=Lib.hid (below_drawn HB2.out q3)
         have xn:(n.steps==n.steps)=true:=by simp
         have xg:(n.f==n.f)=true:=by simp
         have xo:decide (m.steps≤n.steps)=true:=by rw[decide_eq_true_eq,HNN.out];exact runM_steps c more m
         obtain⟨v3,hv3⟩ : ∃ v3,v3=v2.drewN q3:=⟨_,rfl⟩
         rw[← hv3] at hA3 hC3 hW3 HB3 ⊢
         clear hI hv3
         go_wp2_with fail
         refine (steps_any hA3).mono ?_
         rintro e v4 ⟨rfl,rfl⟩
         go_wp2_with fail
         refine (steps_any hC3).mono ?_
         rintro e v4 ⟨rfl,rfl⟩
         go_wp2_with fail
         refine (fault_any hA3).mono ?_
         rintro e v4 ⟨rfl,rfl⟩
         go_wp2_with fail
         refine (fault_any hC3).mono ?_
         rintro e v4 ⟨rfl,rfl⟩
         go_wp2_with fail
         refine (steps_any hA3).mono ?_
         rintro e v4 ⟨rfl,rfl⟩
         go_wp2_with fail
         refine (steps_any hW3).mono ?_
         rintro e v4 ⟨rfl,rfl⟩
         go_wp2_with fail
         refine (live_any (HG.out.below HB3.out)).mono ?_
         rintro e w7 ⟨rfl,hb7⟩
         have HB7:=Lib.hid (below_next HB3.out hb7)
         clear hb7
         go_wp2_with fail
         go_ret
         exact⟨rfl,HB7.out⟩
end Go.Proofs.YtdmelebgdaiinaaGreatDoor
namespace Go.Proofs.YtdmelebgdaiinaaGreatDoor
open Go.ChangeShapes Go.WideShapes Go.ChangeAt Go.RowKit Go.Deep
set_option maxRecDepth 100000 in
theorem machineCopy_lifted (os:Os) (started:os.Started) (H:Type) (enc:TypeId×Value→H) :
  ReturnsInHanded {} Tryz.checked os 6 .any (fun w args=>(Rows.machineCopySpec.pre enc Tryz.prog Tryz.f6 Rows.machineCopyRow.domain false w args∧laidMetH Tryz.prog Rows.machineCopyRow.laid w)∧sizedMet enc Tryz.prog Tryz.f6 (OpenSpec.ofChange Rows.machineCopySpec) false w args)
   (Rows.machineCopySpec.post enc Tryz.prog Tryz.f6 false true false false):=by
 refine handed_shaped_and (C:=Tryz.checked) (X:=fun w _=>laidMetH Tryz.prog Rows.machineCopyRow.laid w) (fun _ _ _ hh h=>h.of_heap hh) own started (by kernel_rfl) Tryz.func6
  (ChangeSpec.witness_shaped (enc:=enc) (C:=Tryz.checked) (os:=os) (X:=fun w _=>laidMetH Tryz.prog Rows.machineCopyRow.laid w) false (World.laidAll Tryz.prog os Rows.machineCopyRow.laid) #[.agg #[.slice none 0 0,.int .i64 0,.int .i64 0,.slice none 0 0,.slice none 0 0],.slice none 0 0,.slice none 0 0] 8 (World.laidAll_os _ _ _)
   (World.shaped_of_ZipB (by kernel_rfl) (by kernel_rfl)) (by kernel_rfl) (by kernel_rfl) (by kernel_rfl)
   (by rw[MakeChecks.laidMetH_plain _ _ _ (by kernel_rfl)];exact laidMet_laidAll _ (by kernel_rfl) (by kernel_rfl))) ?_
 intro W base args ds gs before hval0 hW hL hsh
 have hW':=hW
 obtain⟨p,q,hA0,hV,rfl,hfz,hnd⟩:=hW
 have hA:DataW.TrodAll enc Tryz.prog W 0 (fun _=>true) true Tryz.f6.params.toList args.toList ds p:=hA0
 have hval:∀ (j:Nat) t v,Tryz.f6.params[j]?=some t→args[j]?=some v→Value.okWide Tryz.prog W .any base t v:=hval0
 rw[Tryz.params6] at hA hval
 obtain⟨v0,vs0,d0,ds0,p0,q0,hargs0,rfl,rfl,h0,r0⟩:=trodAll_cons hA
 obtain⟨v1,vs1,d1,ds1,p1,q1,hargs1,rfl,rfl,h1,r1⟩:=trodAll_cons r0
 obtain⟨v2,vs2,d2,ds2,p2,q2,hargs2,rfl,rfl,h2,r2⟩:=trodAll_cons r1
 obtain⟨rfl,rfl,rfl⟩:=trodAll_nil r2
 obtain rfl:args=#[v0,v1,v2]:=by cases args;simp_all
 obtain⟨rfl,rfl⟩:=trodVars_none hV
 have k0:=h0
 have k1:=h1
 have k2:=h2
 have lt0:∀ x∈p0,x.block<W.heap.size:=by obtain⟨m,hm⟩:=k0;exact DataW.trod_lt m _ _ _ hm
 have lt1:∀ x∈p1,x.block<W.heap.size:=by obtain⟨m,hm⟩:=k1;exact DataW.trod_lt m _ _ _ hm
 have lt2:∀ x∈p2,x.block<W.heap.size:=by obtain⟨m,hm⟩:=k2;exact DataW.trod_lt m _ _ _ hm
 obtain⟨l0,vi0,vo0,vn0,rfl,s0⟩:=codeV_in (hval 0 25 v0 rfl rfl) h0
 obtain⟨n1,g1⟩:=h1
 obtain⟨aa1,bb1,cc1,rfl⟩:=okWide_slice Tryz.underlying26 (hval 1 26 v1 rfl rfl)
 obtain⟨l1,s1,hm1,hz1⟩:=rows_inD g1
 obtain⟨n2,g2⟩:=h2
 obtain⟨aa2,bb2,cc2,rfl⟩:=okWide_slice Tryz.underlying26 (hval 2 26 v2 rfl rfl)
 obtain⟨l2,s2,hm2,hz2⟩:=rows_inD g2
 clear hA0 hval0
 have G:GlM W:=glm_of (show laidMetH Tryz.prog Rows.machineNilRow.laid W from hL)
 refine (machineCopy_any l0 _ _ _ l1 _ W G s0 s1 (fun r hr=>(hz1 r hr).2) l2 _ s2 (fun r hr=>(hz2 r hr).2)).mono fun e W' h=>?_
 obtain⟨he,bel⟩:=h
 subst he
 exact⟨_,rfl,_,_,_,[],_,[],hW',trodAll_mk1 (shut_bool Tryz.underlying4 _),trodAll_cons_mk (Below.trod laidOut (by kernel_rfl) (of_decide_eq_true (by kernel_rfl)) k0 bel lt0) (trodAll_cons_mk (Below.trod laidOut (by kernel_rfl) (of_decide_eq_true (by kernel_rfl)) k1 bel lt1) (trodAll_cons_mk (Below.trod laidOut (by kernel_rfl) (of_decide_eq_true (by kernel_rfl)) k2 bel lt2) trodAll_mk0)),rfl,bel.frame _,fun h=>by cases h⟩
end Go.Proofs.YtdmelebgdaiinaaGreatDoor
namespace Go.Proofs.YtdmelebgdaiinaaGreatDoor
open Go.ChangeShapes Go.WideShapes
theorem machineCopy_and {a b:Bool} (ha:a=true) (hb:b=true):(a&&b)=true:=by rw[ha,hb];rfl
set_option maxRecDepth 100000 in
set_option maxHeartbeats 100000000 in
theorem machineCopy_joined:joinedFacts Tryz.prog 6 Tryz.f6 Rows.machineCopySpec Rows.machineCopyRow=true:=by
 unfold joinedFacts
 repeat' (with_reducible refine machineCopy_and ?_ ?_)
 all_goals (as_aux_lemma=>kernel_rfl)
theorem machineCopy_wf:Rows.machineCopyRow.wfByText (OpenSpec.ofChange Rows.machineCopySpec)=true:=by kernel_rfl
theorem machineCopy_main:Tryz.pinned.checked.prog.mainIs=some (Rows.machineCopyCard.stood.harness.1,Rows.machineCopyCard.stood.harness.2.toList):=by kernel_rfl
theorem machineCopy_named : Tryz.prog.funcNamed "bailment/bailmentlaw18.MachineCopy" = some 6 := by kernel_rfl
theorem machineCopy_looks:true=Tryz.pinned.checked.prog.looks []:=by kernel_rfl
theorem machineCopy_stand:([25,26,26].all fun u=>!Tryz.prog.wantsStandIn u)=true:=by kernel_rfl
theorem machineCopy_goes:false=Rows.machineCopyRow.goesBy Tryz.pinned.checked.prog:=by kernel_rfl
end Go.Proofs.YtdmelebgdaiinaaGreatDoor
