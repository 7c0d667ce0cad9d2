/- Machine: a copy: the walk. slices.Clone of instructions: the walk. (Printed.) Rows of numbers told apart: the walk. Machine: what may be asked of the laws: the walks. -/
import Derived.Deep.QuietTactic
import Derived.Test.YtbdbhdcbdfbnnaaGreatDoorJ9
import Derived.Test.YtbdbhdcbdfbnnaaGreatDoorJ34
import Derived.Test.YtbdbhdcbdfbnnaaGreatDoorJ35
set_option linter.unusedVariables false
set_option linter.unusedSimpArgs false
namespace Go.Proofs.YtbdbhdcbdfbnnaaGreatDoor
open Go.RowKit
set_option maxRecDepth 100000
theorem clone_at {w0:World} {l:List Int} {v:Value} (hv:Sl intC 1 w0 v l) (hl:l.length≤1000000) (W:World) (hb:Below w0.heap.size w0 W) :
  Calls Tryz.prog 22 #[v] W fun e w2=>∃ (a:Option Addr) (cc b:Nat),e=.returned (.slice a l.length cc)∧(l≠[]→W.heap.size≤b∧b<w2.heap.size)∧RegsL w2 b 0 (.slice a l.length cc) l∧Below W.heap.size W w2:=by
 refine (cloneI_any l v W (hv.below hb) hl).mono ?_
 rintro e w2 ⟨u,rfl,hown,hbl⟩
 obtain⟨b,h1,h2⟩:=RegsL.own hown rfl
 obtain⟨a,cc,rfl,-,-,-⟩:=h2.form
 exact⟨a,cc,b,rfl,fun q=>⟨h1 q,h2.lt q⟩,h2,hbl⟩
theorem MachAt.more {w:World} {M M':List Nat} {mb rb:Nat} {c:Cx.Co} {m:Cx.Ms} (h:MachAt w M mb rb c m) (h1:∀ i∈M,i∈M') (h2:∀ i∈M',i∈M∨w.heap.size≤i):MachAt w M' mb rb c m:=by
 obtain⟨vi,vo,vn,vr,vs,r,k1,k2,k3,k4,k5,k6,k7⟩:=h.ex
 exact⟨⟨vi,vo,vn,vr,vs,r,k1,k2.more h2,k3.more h2,k4.more h2,k5,k6,k7.more h2⟩,h1 _ h.hb,h1 _ h.hr,h.ne⟩
set_option maxHeartbeats 2000000 in
theorem copy_any {w:World} {M:List Nat} {mb rb:Nat} {c:Cx.Co} {m:Cx.Ms} (h:MachAt w M mb rb c m) (hr:c.regs.toNat≤1000000) (hr1:0≤c.regs) (hs:m.sl.length≤1000000) (hM:∀ i∈M,i<w.heap.size) :
  Calls Tryz.prog 11 #[.pointer (some ⟨mb,0,none⟩)] w fun e w'=>∃ mb2 rb2,e=.returned (.pointer (some ⟨mb2,0,none⟩))∧w.heap.size≤mb2∧w.heap.size≤rb2∧mb2<w'.heap.size∧rb2<w'.heap.size∧Below w.heap.size w w'∧MachAt w' (mb2 :: rb2 :: M) mb2 rb2 c m∧MachAt w' (mb2 :: rb2 :: M) mb rb c m:=by
 obtain⟨vi,vo,vn,vr,vs,r,k1,k2,k3,k4,k5,k6,k7⟩:=h.ex
 have HH:=Lib.hid h
 have HM:=Lib.hid hM
 clear hM
 obtain⟨ia,ic,rfl,-,-⟩:=k2.form
 obtain⟨oa,oc,rfl,-,-⟩:=k3.form
 obtain⟨na,nc,rfl,-,-⟩:=k4.form
 obtain⟨ra,rc,rfl,-,-⟩:=k5.form
 obtain⟨sa,sc,rfl,-,-⟩:=k7.form
 have c0:w.cell? ⟨mb,0,none⟩=some (.slice ia c.ins.length ic):=k1.c rfl
 have c1:w.cell? ⟨mb,1,none⟩=some (.int .i64 c.regs):=k1.c rfl
 have c2:w.cell? ⟨mb,2,none⟩=some (.int .i64 c.slots):=k1.c rfl
 have c3:w.cell? ⟨mb,3,none⟩=some (.slice oa c.outs.length oc):=k1.c rfl
 have c4:w.cell? ⟨mb,4,none⟩=some (.slice na c.inputs.length nc):=k1.c rfl
 have c5:w.cell? ⟨mb,5,none⟩=some (.slice ra r.length rc):=k1.c rfl
 have c6:w.cell? ⟨mb,6,none⟩=some (.slice sa m.sl.length sc):=k1.c rfl
 have c7:w.cell? ⟨mb,7,none⟩=some (.int .i64 m.steps):=k1.c rfl
 have c8:w.cell? ⟨mb,8,none⟩=some (.int .i64 m.f):=k1.c rfl
 have K1:=Lib.hid k1
 have K5:=Lib.hid k5
 have K6:=Lib.hid k6
 have K7:=Lib.hid k7
 have K2:=Lib.hid k2
 have K3:=Lib.hid k3
 have K4:=Lib.hid k4
 clear h k1 k2 k3 k4 k5 k6 k7
 go_enter Tryz.func11,Tryz.ntmps11
 go_wp2_with fail
 have kn:=Blk.new w #[.slice ia c.ins.length ic,.int .i64 c.regs,.int .i64 c.slots,.slice oa c.outs.length oc,.slice na c.inputs.length nc,.slice ra r.length rc,.slice sa m.sl.length sc,.int .i64 m.steps,.int .i64 m.f] 73
 have f0:Below w.heap.size w (w.alloc (.cells #[.slice ia c.ins.length ic,.int .i64 c.regs,.int .i64 c.slots,.slice oa c.outs.length oc,.slice na c.inputs.length nc,.slice ra r.length rc,.slice sa m.sl.length sc,.int .i64 m.steps,.int .i64 m.f] 73)):=(Below.refl _ _).alloc (Nat.le_refl _) _
 obtain⟨nb,hnb⟩ : ∃ nb,nb=w.heap.size:=⟨_,rfl⟩
 rw[← hnb] at kn ⊢
 generalize w.alloc (.cells #[.slice ia c.ins.length ic,.int .i64 c.regs,.int .i64 c.slots,.slice oa c.outs.length oc,.slice na c.inputs.length nc,.slice ra r.length rc,.slice sa m.sl.length sc,.int .i64 m.steps,.int .i64 m.f] 73)=W0 at kn f0 ⊢
 have hmb:mb≠nb:=by have:=K1.out.lt;omega
 have CR:=fun W hW=>clone_at (w0:=W0) ((RegsL.sln K5.out (M:=[]) (fun _ q=>by cases q)).below f0).sl (by rw[K6.out];exact hr) W hW
 have CS:=fun W hW=>clone_at (w0:=W0) (K7.out.below f0).sl hs W hW
 have KK:∀ W,Below W0.heap.size W0 W→W.cell? ⟨mb,5,none⟩=some (.slice ra r.length rc)∧W.cell? ⟨mb,6,none⟩=some (.slice sa m.sl.length sc):=fun W hW=>by
  have hk:=(K1.out.below f0).below hW
  exact⟨hk.c rfl,hk.c rfl⟩
 have KN:∀ W,Below W0.heap.size W0 W→Blk W nb #[.slice ia c.ins.length ic,.int .i64 c.regs,.int .i64 c.slots,.slice oa c.outs.length oc,.slice na c.inputs.length nc,.slice ra r.length rc,.slice sa m.sl.length sc,.int .i64 m.steps,.int .i64 m.f] 73:=fun W hW=>kn.below hW
 have KS:∀ (W:World) (i:Nat) (y:Value),(W.cell? ⟨mb,5,none⟩=some (.slice ra r.length rc)∧W.cell? ⟨mb,6,none⟩=some (.slice sa m.sl.length sc))→(W.setCell ⟨nb,i,none⟩ y).cell? ⟨mb,5,none⟩=some (.slice ra r.length rc)∧(W.setCell ⟨nb,i,none⟩ y).cell? ⟨mb,6,none⟩=some (.slice sa m.sl.length sc):=fun W i y q=>by
  have hne:∀ j,(⟨nb,i,none⟩ : Addr)≠⟨mb,j,none⟩:=fun j e=>by injection e with e _ _;exact hmb e.symm
  exact⟨(World.cell?_setCell_other _ _ _ _ (hne 5)).trans q.1,(World.cell?_setCell_other _ _ _ _ (hne 6)).trans q.2⟩
 have BD:=(Below.refl W0.heap.size W0).drew
 have HK0:=KK _ (Below.refl _ _)
 have HKD:=KK _ BD
 have HNB:=Lib.hid hnb
 have F0:=Lib.hid f0
 have KNH:=Lib.hid KN
 have hlt0:nb<W0.heap.size:=kn.lt
 clear kn f0 hnb c0 c1 c2 c3 c4 c5 c6 c7 c8
 go_region_held3 (fun w'=>w'.cell? ⟨mb,5,none⟩=some (.slice ra r.length rc)∧w'.cell? ⟨mb,6,none⟩=some (.slice sa m.sl.length sc))
  (with_reducible first | exact HK0 | exact HKD | exact HK1 | exact HK2 | exact KS _ _ _ HK2 | exact KS _ _ _ (KS _ _ _ HK2) | fail)
  (first
   | (go_at_call 22;(with_reducible refine (CR _ BD).mono ?_);rintro e wA ⟨ua,uc,br,rfl,hbr,hur,hbA⟩;have HBA:=below_next BD hbA;have HK1:=KK _ HBA)
   | (go_at_call 22;(with_reducible refine (CS _ HBA).mono ?_);rintro e wB ⟨xa,xc,bs,rfl,hbs,hus,hbB⟩;have HBB:=below_next HBA hbB;have HK2:=KK _ HBB;have d5:wB.cell? ⟨nb,5,none⟩=some (.slice ra r.length rc):=(KN _ HBB).c rfl;have d6:wB.cell? ⟨nb,6,none⟩=some (.slice sa m.sl.length sc):=(KN _ HBB).c rfl;have z5:wB.frozen? ⟨nb,5,none⟩=false:=(KN _ HBB).z (v:=.slice ra r.length rc) rfl;have z6:wB.frozen? ⟨nb,6,none⟩=false:=(KN _ HBB).z (v:=.slice sa m.sl.length sc) rfl)
   | fail)
 have HUR:=Lib.hid (hur.below hbB)
 have HUS:=Lib.hid hus
 have HBR:=Lib.hid hbr
 have HBS:=Lib.hid hbs
 have HAB:=Lib.hid hbB.size
 have H0A:=Lib.hid hbA.size
 have HFB:=Lib.hid (below_next F0.out HBB)
 have HKN:=Lib.hid (KNH.out _ HBB)
 have HLT:=Lib.hid hlt0
 clear hur hus hbr hbs hbB hbA HK0 HKD HK1 HK2 d5 d6 z5 z6 BD KK KN KS CR CS HBA HBB hlt0
 go_wp2_with fail
 go_ret
 have hA0:W0.heap.size≤wA.heap.size:=H0A.out
 have hAB:wA.heap.size≤wB.heap.size:=HAB.out
 have hnb0:nb<W0.heap.size:=HLT.out
 have hnbw:nb=w.heap.size:=HNB.out
 have hFS:FrS [nb] w ((wB.setCell ⟨nb,5,none⟩ (.slice ua r.length uc)).setCell ⟨nb,6,none⟩ (.slice xa m.sl.length xc)):=((FrS.of_below HFB.out [nb]).setCell (Or.inl (by simp)) _).setCell (Or.inl (by simp)) _
 have hBF:Below w.heap.size w ((wB.setCell ⟨nb,5,none⟩ (.slice ua r.length uc)).setCell ⟨nb,6,none⟩ (.slice xa m.sl.length xc)) :=
  FrS.below (HFB.out) (((FrS.refl [nb] wB).setCell (Or.inl (by simp)) _).setCell (Or.inl (by simp)) _) HFB.out.size (fun i hi=>by rw[List.mem_singleton.1 hi];omega)
 have hKF:=(HKN.out.puti 5 (.slice ua r.length uc)).puti 6 (.slice xa m.sl.length xc)
 obtain⟨rb2,hrb2,hne2,hRB⟩ : ∃ rb2,(w.heap.size≤rb2∧rb2<wA.heap.size)∧(c.regs≠0→rb2≠nb)∧RegsL wB rb2 0 (.slice ua r.length uc) r:=by
  by_cases hr0:r=[]
  ·refine⟨nb,⟨by omega,by omega⟩,fun q=>?_,?_⟩
   ·have:=K6.out
    rw[hr0] at this
    simp at this
    have hg:=HUR.out
    omega
   ·rcases HUR.out with q | ⟨cc,q1,_⟩
    ·exact Or.inl q
    ·exact Or.inl ⟨hr0,ua,uc,by rw[hr0];rfl⟩
  ·have h1:W0.heap.size≤br∧br<wA.heap.size:=HBR.out hr0
   exact⟨br,⟨by have:=F0.out.size;omega,h1.2⟩,fun _=>by omega,HUR.out⟩
 have hRF:=(hRB.other (p:=nb) (fun q=>hne2 (fun e=>q (List.eq_nil_of_length_eq_zero (by rw[K6.out,e];rfl)))) 5 (.slice ua r.length uc)).other (p:=nb) (fun q=>hne2 (fun e=>q (List.eq_nil_of_length_eq_zero (by rw[K6.out,e];rfl)))) 6 (.slice xa m.sl.length xc)
 have hse:m.sl≠[]→wA.heap.size≤bs∧bs<wB.heap.size:=HBS.out
 have hSF:=(HUS.out.other (p:=nb) (fun q=>by have:=(hse q).1;omega) 5 (.slice ua r.length uc)).other (p:=nb) (fun q=>by have:=(hse q).1;omega) 6 (.slice xa m.sl.length xc)
 have hMM:∀ i∈nb :: rb2 :: M,i∈M∨w.heap.size≤i:=fun i hi=>by
  simp only[List.mem_cons] at hi
  rcases hi with rfl | rfl | hi
  ·exact Or.inr (by omega)
  ·exact Or.inr hrb2.1
  ·exact Or.inl hi
 have hS1:∀ i ∈ [nb],i∈nb :: rb2 :: M:=fun i hi=>by rw[List.mem_singleton.1 hi];simp
 refine⟨nb,rb2,rfl,by omega,hrb2.1,by simp;omega,by simp;omega,hBF,⟨⟨_,_,_,_,_,r,hKF,(K2.out.more hMM).fr hFS hS1,(K3.out.more hMM).fr hFS hS1,(K4.out.more hMM).fr hFS hS1,hRF,K6.out,RegsL.sln hSF (fun q hi=>?_)⟩,by simp,by simp,hne2⟩,?_⟩
 ·have h1:=(hse q).1
  simp only[List.mem_cons] at hi
  rcases hi with e | e | hi
  ·omega
  ·omega
  ·have:=HM.out _ hi;have:=F0.out.size;omega
 ·refine (HH.out.more (M':=nb :: rb2 :: M) (fun i hi=>by simp[hi]) hMM).fr hFS hS1 (fun q=>?_) (fun q e=>?_)
  ·have h1:=List.mem_singleton.1 q
   have h2:=K1.out.lt
   omega
  ·have h1:=List.mem_singleton.1 e
   have h2:=K5.out.lt (fun e0=>q (by rw[← K6.out,e0];rfl))
   omega
end Go.Proofs.YtbdbhdcbdfbnnaaGreatDoor
namespace Go.Proofs.YtbdbhdcbdfbnnaaGreatDoor
open Go.RowKit
theorem rowXM:RowTy Tryz.prog 34 70 6 48:=RowTy.mk' Tryz.underlying34 (z:=.agg #[.int .i64 0,.int .i64 0,.int .i64 0,.int .i64 0,.int .i64 0,.int .i64 0]) (by kernel_rfl) rfl (by decide)
set_option maxRecDepth 100000 in
theorem cloneX_any (l:List Cx.In) (v:Value) (w:World) (hv:Sl Cx.inL 6 w v l) (hl:l.length≤1000000) :
  Calls Tryz.prog 21 #[v] w fun e w'=>∃ u,e=.returned u∧w'.ownsRow w.heap.size 70 6 u l.length (l.flatMap Cx.inL)∧Below w.heap.size w w':=by
 obtain⟨a,c,rfl,hc,hx⟩:=hv.form
 have hq:∀ (w:World) (a:Option Addr) (n c n' c':Nat),(binOp .eql 34 (.slice a n c) (.slice none n' c')).run Tryz.prog w=.ok (.bool a.isNone) w:=fun w a n c n' c'=>Lib.run_eql_slice_nil w _ _ a n c n' c' Tryz.underlying34
 have H1:Hid (∀ (w':World),Below w.heap.size w w'→∀ j u,(l.flatMap Cx.inL)[j]?=some u→∃ ad,a=some ad∧w'.cell? (ad.add j)=some u):=by
  intro w' hw' j u hu
  obtain⟨i,q,x,hi,hq1,hj⟩:=flat_at (k:=6) Cx.inL_len (by decide) l j u hu
  obtain⟨b,o,e,h2⟩:=hx w' hw' i x hi
  exact⟨_,e,by rw[← hj,Addr.add_lit,← Nat.add_assoc];exact h2 q u hq1⟩
 have H2:Hid (a=none→l=[]):=fun e=>by
  show _=_
  cases l with
  | nil=>rfl
  | cons x r=>obtain⟨b,o,e2,_⟩:=hx w (Below.refl _ _) 0 x rfl;rw[e] at e2;cases e2
 have H3:Hid ((l.flatMap Cx.inL).length=l.length * 6):=flatMap_len Cx.inL_len l
 have H4:Hid (∀ u∈l.flatMap Cx.inL,u.oneCell'=true):=by
  intro u hu
  obtain⟨x,_,hx⟩:=List.mem_flatMap.1 hu
  simp only[Cx.inL,List.mem_cons,List.not_mem_nil,or_false] at hx
  rcases hx with rfl | rfl | rfl | rfl | rfl | rfl <;> rfl
 obtain⟨n,hn⟩ : ∃ n,n=l.length:=⟨_,rfl⟩
 rw[← hn] at hc hl H3 ⊢
 clear hx hv
 cases a with
 | none =>
  have hl0:=H2.out rfl
  have hn0:n=0:=by rw[hn,hl0];rfl
  subst hn0
  have HL:=Lib.hid hl0
  clear hn hl0
  go_enter Tryz.func21,Tryz.ntmps21
  go_wp2_with fail
  go_ret
  refine⟨_,rfl,?_,Below.refl _ _⟩
  rw[HL.out]
  exact World.ownsRow_nil _ _ _ _
 | some ad =>
  have HN:=Lib.hid hn
  clear hn
  obtain⟨i0,z,hi,hz,hs1,hby,hzs⟩:=rowXM.ex
  go_enter Tryz.func21,Tryz.ntmps21
  go_wp2_with (at_builtin;refine wpList_append_own _ rfl _ _ 34 rfl w.heap.size 70 i0 z 6 48 Tryz.underlying34 hi hz hs1 hby hzs (by decide) _ _ _ rfl (World.ownsRow_made w #[] 0 (Nat.le_refl _) (Nat.zero_le _) (by simp)) ad n c (l.flatMap Cx.inL) rfl ?qc1 ?qc2 ?qc3 ?qc4 ?qc5 ?qc6 ?_)
  case qc1=>exact H3.out
  case qc2 =>
   intro j u hj
   obtain⟨ad',e,h⟩:=H1.out w (Below.refl _ _) j u hj
   cases e
   exact Lib.cell?_alloc_some _ h
  case qc3=>exact H4.out
  case qc4=>simp[maxLen];omega
  case qc5=>omega
  case qc6=>simp
  intro v' w1 hown hgrow hnil
  go_wp2_with fail
  go_ret
  refine⟨v',rfl,by simpa using hown,?_⟩
  exact ((Below.refl _ w).alloc (Nat.le_refl _) _).grown hgrow (by simp) (by intro k hk;simp[Value.ownBlock] at hk;omega)
end Go.Proofs.YtbdbhdcbdfbnnaaGreatDoor
namespace Go.Proofs.YtbdbhdcbdfbnnaaGreatDoor
open Go.RowKit
theorem take_eq_snoc {α:Type} (a b:List α) (k:Nat) (x y:α) (ha:a[k]?=some x) (hb:b[k]?=some y) (h:a.take k=b.take k):(a.take (k+1)=b.take (k+1))↔x=y:=by
 rw[List.take_add_one,List.take_add_one,ha,hb,h]
 constructor
 ·intro q;have:=List.append_cancel_left q;simpa using this
 ·intro q;rw[q]
set_option maxHeartbeats 1000000 in
theorem Ints_any (a b:List Int) (va vb:Value) (w:World) (ha:Sl intC 1 w va a) (hb:Sl intC 1 w vb b) (hla:a.length≤10000000) :
  Calls Tryz.prog 14 #[va,vb] w fun e w'=>e=.returned (.bool (a==b))∧∃ n,w'=w.drewN n:=by
 obtain⟨pa,ca,rfl,hcl,hca⟩:=ha.form
 obtain⟨pb,cb,rfl,hcl2,hcb⟩:=hb.form
 clear ha hb
 by_cases hl:a.length=b.length
 ·obtain⟨n,hn⟩ : ∃ n,n=a.length:=⟨_,rfl⟩
  have hn2:n=b.length:=by omega
  rw[← hn] at hcl hla
  rw[← hn2] at hcl2
  rw[← hn,← hn2]
  have HA:Hid (n=a.length):=hn
  have HB:Hid (n=b.length):=hn2
  clear hn hn2 hl
  go_enter Tryz.func14,Tryz.ntmps14
  go_wp2_with fail
  go_loopw [5] (fun i wr=>∃ k:Nat,k≤n∧i=.int .i64 k∧(∃ q,wr=w.drewN q)∧a.take k=b.take k) (fun i _=>n - (intOf i).toNat)
  case atStart=>exact⟨0,Nat.zero_le _,rfl,⟨0,rfl⟩,by simp⟩
  case round =>
   obtain⟨k,hk,rfl,⟨q0,hW⟩,heq⟩:=hrel
   have hB:Below w.heap.size w wr:=by rw[hW];exact below_drawn (Below.refl _ _) _
   by_cases hlt:k<n
   ·obtain⟨x,hx⟩ : ∃ x,a[k]?=some x:=⟨_,List.getElem?_eq_getElem (by have:=HA.out;omega)⟩
    obtain⟨y,hy⟩ : ∃ y,b[k]?=some y:=⟨_,List.getElem?_eq_getElem (by have:=HB.out;omega)⟩
    obtain⟨b1,o1,h1,k1⟩:=hca wr hB k x hx
    obtain⟨b2,o2,h2,k2⟩:=hcb wr hB k y hy
    subst h1 h2
    have HE:Hid ((a.take (k+1)=b.take (k+1))↔x=y):=take_eq_snoc a b k x y hx hy heq
    have HNE:Hid (a=b→a.take (k+1)=b.take (k+1)):=fun q=>by show _=_;rw[q]
    have hk0:(0:Int)≤(k:Int):=by omega
    have hk1:(k:Int)<(n:Int):=by omega
    have c0:wr.cell? ⟨b1,o1+k,none⟩=some (.int .i64 x):=by have:=k1 0 _ rfl;simpa using this
    have d0:wr.cell? ⟨b2,o2+k,none⟩=some (.int .i64 y):=by have:=k2 0 _ rfl;simpa using this
    have HWr:Hid (∃ q,wr=w.drewN q):=⟨q0,hW⟩
    clear hx hy heq hca hcb k1 k2 hW
    by_cases hxy:x=y
    ·have hne:(x != y)=false:=by simp[hxy]
     have HX:Hid (x=y):=hxy
     clear hxy
     go_wp2_with fail
     go_quiet (fail)
     go_wp2_with fail
     go_roundw
     case rel =>
      obtain⟨q,hq⟩:=HWr.out
      exact⟨k+1,by omega,by go_num,⟨_,by rw[hq,World.drewN_drewN]⟩,HE.out.2 HX.out⟩
     case measure=>simp[intOf];omega
    ·have hne:(x != y)=true:=by simpa using hxy
     have HX:Hid ((a==b)=false):=by
      show _=_
      rw[beq_eq_false_iff_ne];intro h;exact hxy (HE.out.1 (HNE.out h))
     clear hxy
     go_wp2_with fail
     go_quiet (fail)
     go_wp2_with fail
     go_ret
     obtain⟨q,hq⟩:=HWr.out
     exact⟨ret_bool HX.out.symm,⟨_,by rw[hq,World.drewN_drewN]⟩⟩
   ·have hke:k=n:=by omega
    subst hke
    have HF:Hid ((a==b)=true):=by
     show _=true
     have h1:=HA.out;have h2:=HB.out
     rw[List.take_of_length_le (by omega),List.take_of_length_le (by omega)] at heq
     rw[heq];simp
    clear heq hca hcb
    go_wp2_with fail
    go_ret
    exact⟨ret_bool HF.out.symm,⟨q0,by first | exact hW | rfl⟩⟩
 ·have hne:((a.length:Int) != (b.length:Int))=true:=by simp;omega
  have HF:Hid ((a==b)=false):=by
   show _=false
   rw[beq_eq_false_iff_ne];rintro rfl;exact hl rfl
  clear hca hcb
  go_enter Tryz.func14,Tryz.ntmps14
  go_wp2_with fail
  go_ret
  exact⟨ret_bool HF.out.symm,⟨0,rfl⟩⟩
end Go.Proofs.YtbdbhdcbdfbnnaaGreatDoor
namespace Go.Proofs.YtbdbhdcbdfbnnaaGreatDoor
open Go.RowKit
set_option maxRecDepth 100000
def smallC (c:Cx.Co):Bool:=decide (c.ins.length≤600)&&decide (c.regs≤300)&&decide (c.slots≤300)&&decide (c.outs.length≤60)&&decide (c.inputs.length≤60)
def smallR (rows:List (List Int)):Bool:=decide (rows.length≤20)&&rows.all fun r=>decide (r.length≤60)
set_option maxHeartbeats 1000000 in
theorem smallC_any (w:World) (c:Cx.Co) (ia oa na:Option Addr) (ic oc nc:Nat) :
  Calls Tryz.prog 4 #[.agg #[.slice ia c.ins.length ic,.int .i64 c.regs,.int .i64 c.slots,.slice oa c.outs.length oc,.slice na c.inputs.length nc]] w fun e w'=>e=.returned (.bool (smallC c))∧Below w.heap.size w w':=by
 have HB0:=Lib.hid ((Below.refl w.heap.size w).alloc (Nat.le_refl _) (.cells #[.slice ia c.ins.length ic,.int .i64 c.regs,.int .i64 c.slots,.slice oa c.outs.length oc,.slice na c.inputs.length nc] 25))
 have HS:Hid (smallC c=(decide (c.ins.length≤600)&&decide (c.regs≤300)&&decide (c.slots≤300)&&decide (c.outs.length≤60)&&decide (c.inputs.length≤60))):=rfl
 generalize smallC c=B at HS ⊢
 obtain⟨n1,hn1⟩ : ∃ n,n=c.ins.length:=⟨_,rfl⟩
 obtain⟨n2,hn2⟩ : ∃ n,n=c.outs.length:=⟨_,rfl⟩
 obtain⟨n3,hn3⟩ : ∃ n,n=c.inputs.length:=⟨_,rfl⟩
 rw[← hn1,← hn2,← hn3] at HS HB0 ⊢
 clear hn1 hn2 hn3
 by_cases a1:n1≤600
 ·by_cases a2:c.regs≤300
  ·by_cases a3:c.slots≤300
   ·by_cases a4:n2≤60
    ·by_cases a5:n3≤60
     all_goals
      go_enter Tryz.func4,Tryz.ntmps4
      go_wp2_with fail
      go_ret
      rw[HS.out]
      exact⟨by simp[a1,a2,a3,a4,a5];omega,HB0.out⟩
    ·go_enter Tryz.func4,Tryz.ntmps4
     go_wp2_with fail
     go_ret
     rw[HS.out]
     exact⟨by simp <;> (intros;omega),HB0.out⟩
   ·go_enter Tryz.func4,Tryz.ntmps4
    go_wp2_with fail
    go_ret
    rw[HS.out]
    exact⟨by simp <;> (intros;omega),HB0.out⟩
  ·go_enter Tryz.func4,Tryz.ntmps4
   go_wp2_with fail
   go_ret
   rw[HS.out]
   exact⟨by simp <;> (intros;omega),HB0.out⟩
 ·go_enter Tryz.func4,Tryz.ntmps4
  go_wp2_with fail
  go_ret
  rw[HS.out]
  exact⟨by simp <;> (intros;omega),HB0.out⟩
set_option maxHeartbeats 1000000 in
theorem smallR_any (w:World) (rows:List (List Int)) (vr:Value) (hr:Sg 1 RwP w vr rows) :
  Calls Tryz.prog 5 #[.slice none 0 0,vr] w fun e w'=>e=.returned (.bool (smallR rows))∧w'=w:=by
 obtain⟨ra,rc,rfl,hrc,hrx⟩:=hr.form RwP.keeps
 have HRX:=Lib.hid hrx
 clear hr hrx
 have HS:Hid (smallR rows=(decide (rows.length≤20)&&rows.all fun r=>decide (r.length≤60))):=rfl
 generalize smallR rows=B at HS ⊢
 by_cases a1:rows.length≤20
 ·go_enter Tryz.func5,Tryz.ntmps5
  go_wp2_with fail
  go_loopw [5] (fun iv wr=>iv=.int .i64 0∧wr=w) (fun _ _=>0)
  case atStart=>exact⟨rfl,rfl⟩
  case round =>
   obtain⟨rfl,rfl⟩:=hrel
   go_wp2_with fail
   go_loopw [6] (fun iv wr'=>∃ k:Nat,iv=.int .i64 k∧k≤rows.length∧wr'=wr∧(rows.take k).all (fun r=>decide (r.length≤60))=true) (fun iv _=>rows.length - (intOf iv).toNat)
   case atStart=>exact⟨0,rfl,Nat.zero_le _,rfl,rfl⟩
   case round =>
    obtain⟨k,rfl,hk,rfl,hall⟩:=hrel
    by_cases hlt:k<rows.length
    ·obtain⟨r,hr⟩ : ∃ r,rows[k]?=some r:=⟨_,List.getElem?_eq_getElem hlt⟩
     obtain⟨b,o,cs,rfl,⟨u,rfl,hu⟩,hcl⟩:=HRX.out _ (Below.refl _ _) k r hr
     obtain⟨ra',rc',rfl,-,-⟩:=hu.form
     have c0:=hcl 0 _ rfl
     rw[Nat.mul_one,Nat.add_zero] at c0
     have hk0:(0:Int)≤(k:Int):=by omega
     have hkl:(k:Int)<(rows.length:Int):=by omega
     have hall2:(rows.take (k+1)).all (fun r=>decide (r.length≤60))=decide (r.length≤60):=by rw[List.take_add_one,hr];simp[hall]
     have HNO:Hid (¬ r.length≤60→rows.all (fun r=>decide (r.length≤60))=false):=fun q=>by
      show _=_
      rw[List.all_eq_false]
      exact⟨r,List.mem_of_getElem? hr,by simpa using q⟩
     have HALL:=Lib.hid hall2
     generalize r.length=rl at c0 HALL HNO ⊢
     clear hall hall2 hr hcl hu
     by_cases hrl:rl≤60
     ·go_wp2_with fail
      go_roundw
      case rel=>exact⟨k+1,by go_num,by omega,by first | rfl | trivial,by rw[HALL.out];simpa using hrl⟩
      case measure=>simp[intOf];omega
     ·go_wp2_with fail
      go_ret
      rw[HS.out]
      exact⟨by rw[HNO.out hrl];simp,by first | rfl | trivial⟩
    ·have hke:k=rows.length:=by omega
     subst hke
     rw[List.take_length] at hall
     have HALL:=Lib.hid hall
     clear hall
     go_wp2_with fail
     go_ret
     rw[HS.out]
     exact⟨by rw[HALL.out];simpa using a1,by first | rfl | trivial⟩
 ·go_enter Tryz.func5,Tryz.ntmps5
  go_wp2_with fail
  go_ret
  rw[HS.out]
  exact⟨by simp;intros;omega,rfl⟩
end Go.Proofs.YtbdbhdcbdfbnnaaGreatDoor
