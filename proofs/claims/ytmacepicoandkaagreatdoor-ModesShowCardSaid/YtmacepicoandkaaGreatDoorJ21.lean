/- The reference's reader of expressions: what begins an operand: the walk. -/
import Derived.Test.YtmacepicoandkaaGreatDoorJ20
set_option linter.unusedVariables false
set_option linter.unusedSimpArgs false
namespace Go.Proofs.YtmacepicoandkaaGreatDoor
open Go.RowKit Go.Shelf Tx Px
section
variable {L : List Tok} {a : Option Addr} {cc rb : Nat} {w0 : World}
set_option maxRecDepth 100000 in
set_option maxHeartbeats 2000000 in
theorem r4begun_num (EV:Hid (EnvOk w0 rb a cc L)) (f:Nat) (_IH:Hid (∀ g,g≤f→LvOk w0 rb a cc L g)) (I o:Nat) (x:Tok) (r:Res) (w:World) (hx:L[I]?=some x) (hk:x.k=2) (hP:one (node 1 (Lx.val x.t.data.toList) noS .no) (I+1)=some r) (hB:Al rb w0 w) (hR:Rd rb (.slice a L.length cc) w I o 0 0) :
  Calls Tryz.prog 142 #[.pointer (some ⟨rb,0,none⟩),.agg #[.int .i64 x.k,.string x.t,.int .i64 x.p]] w (RPost (Rd rb (.slice a L.length cc)) rb o w r):=by
 have hL:=EV.out.len
 have hI:=(List.getElem?_eq_some_iff.1 hx).1
 have hlt:=hR.lt
 have hbn:Below w.heap.size w (w.alloc (.cells #[.int .i64 x.k,.string x.t,.int .i64 x.p] 127)):=(Below.refl _ _).alloc (Nat.le_refl _) _
 have hR1:=hR.below hbn
 have HA1:Hid (Al rb w (w.alloc (.cells #[.int .i64 x.k,.string x.t,.int .i64 x.p] 127))):=Al.of hbn
 have HBW:Hid (Below w.heap.size w (w.alloc (.cells #[.int .i64 x.k,.string x.t,.int .i64 x.p] 127))):=hbn
 have HRS:Hid (Rd rb (.slice a L.length cc) ((w.setCell ⟨rb,1,none⟩ (.int .i64 ((I:Int)+1))).alloc (.cells #[.int .i64 x.k,.string x.t,.int .i64 x.p] 127)) ((I+1:Nat):Int) o 0 0):=(hR.setI _).below ((Below.refl _ _).alloc (Nat.le_refl _) _)
 have HAS:Hid (Al rb w ((w.setCell ⟨rb,1,none⟩ (.int .i64 ((I:Int)+1))).alloc (.cells #[.int .i64 x.k,.string x.t,.int .i64 x.p] 127))):=((Al.refl _ _).set _ _).then ((Below.refl _ _).alloc (Nat.le_refl _) _)
 obtain⟨c0,c1,c2,c3,c4⟩:=hR1.cells
 obtain⟨f0,f1,f2,f3,f4⟩:=hR1.free
 have HR1:=Lib.hid hR1
 have HB:=Lib.hid hB
 have HP:=Lib.hid hP
 have HX:=Lib.hid hx
 have hv:=rValue_tok EV.out.ok hx hk
 obtain⟨nv,hnv⟩ : ∃ nv,nv=Lx.val x.t.data.toList:=⟨_,rfl⟩
 rw[← hnv] at hv
 have HNV:=Lib.hid hnv
 have e2:((x.k:Int)==2)=true:=by simp[hk]
 clear hbn hR1 hR hB hP hx hk hnv
 go_enter Tryz.func142,Tryz.ntmps142
 go_wp2_with fail
 refine (hv _).mono ?_
 rintro e w1 ⟨rfl,hw1⟩
 have hR2:Rd rb (.slice a L.length cc) w1 ((I+1:Nat):Int) o 0 0:=by rw[hw1];exact HRS.out
 have HA2:Hid (Al rb w w1):=by show Al _ _ _;rw[hw1];exact HAS.out
 have HR2:=Lib.hid hR2
 clear hw1 hR2 hv c0 c1 c2 c3 c4 f0 f1 f2 f3 f4
 have hj:=r4leaf 1 nv ⟨#[]⟩ w1 (Or.inl rfl)
 have hsz:w.heap.size≤w1.heap.size:=HA2.out.size
 go_wp2_with fail
 refine hj.mono ?_
 rintro r4 w9 ⟨v9,rfl,ho,hb⟩
 have HR9:=Lib.hid (HR2.out.below hb)
 have HA9:=Lib.hid (HA2.out.then hb)
 have HO9:=Lib.hid (ho.mono hsz)
 clear hj ho hb
 go_wp2_with fail
 go_ret
 rw[one_some HP.out,← HNV.out];exact rpost_ok HA9.out HO9.out HR9.out
set_option maxRecDepth 100000 in
set_option maxHeartbeats 2000000 in
theorem r4begun_name (EV:Hid (EnvOk w0 rb a cc L)) (f:Nat) (IH:Hid (∀ g,g≤f→LvOk w0 rb a cc L g)) (I o:Nat) (x:Tok) (r:Res) (w:World) (hx:L[I]?=some x) (hk:x.k=1) (hP:namedS (P L f) L x.t I o=some r) (hB:Al rb w0 w) (hR:Rd rb (.slice a L.length cc) w I o 0 0) :
  Calls Tryz.prog 142 #[.pointer (some ⟨rb,0,none⟩),.agg #[.int .i64 x.k,.string x.t,.int .i64 x.p]] w (RPost (Rd rb (.slice a L.length cc)) rb o w r):=by
 have hL:=EV.out.len
 have hI:=(List.getElem?_eq_some_iff.1 hx).1
 have hlt:=hR.lt
 have hbn:Below w.heap.size w (w.alloc (.cells #[.int .i64 x.k,.string x.t,.int .i64 x.p] 127)):=(Below.refl _ _).alloc (Nat.le_refl _) _
 have hR1:=hR.below hbn
 have HA1:Hid (Al rb w (w.alloc (.cells #[.int .i64 x.k,.string x.t,.int .i64 x.p] 127))):=Al.of hbn
 have HBW:Hid (Below w.heap.size w (w.alloc (.cells #[.int .i64 x.k,.string x.t,.int .i64 x.p] 127))):=hbn
 have HRS:Hid (Rd rb (.slice a L.length cc) ((w.setCell ⟨rb,1,none⟩ (.int .i64 ((I:Int)+1))).alloc (.cells #[.int .i64 x.k,.string x.t,.int .i64 x.p] 127)) ((I+1:Nat):Int) o 0 0):=(hR.setI _).below ((Below.refl _ _).alloc (Nat.le_refl _) _)
 have HAS:Hid (Al rb w ((w.setCell ⟨rb,1,none⟩ (.int .i64 ((I:Int)+1))).alloc (.cells #[.int .i64 x.k,.string x.t,.int .i64 x.p] 127))):=((Al.refl _ _).set _ _).then ((Below.refl _ _).alloc (Nat.le_refl _) _)
 obtain⟨c0,c1,c2,c3,c4⟩:=hR1.cells
 obtain⟨f0,f1,f2,f3,f4⟩:=hR1.free
 have HR1:=Lib.hid hR1
 have HB:=Lib.hid hB
 have HP:=Lib.hid hP
 have HX:=Lib.hid hx
 have e2:((x.k:Int)==2)=false:=by simp[hk]
 have e1:((x.k:Int)==1)=true:=by simp[hk]
 have hc:=r4named_any EV f (Lib.hid (fun g hg=>IH.out g (Nat.le_of_lt hg))) I o x.t r (w.alloc (.cells #[.int .i64 x.k,.string x.t,.int .i64 x.p] 127)) hI hP (hB.next HA1.out) hR1
 clear hbn hR1 hR hB hP hx hk c0 c1 c2 c3 c4 f0 f1 f2 f3 f4
 go_enter Tryz.func142,Tryz.ntmps142
 go_wp2_with fail
 refine hc.mono ?_
 rintro e w1 ⟨hA,hpost⟩
 have HA2:Hid (Al rb w w1):=HA1.out.next hA
 have HSZ:w.heap.size≤(w.alloc (.cells #[.int .i64 x.k,.string x.t,.int .i64 x.p] 127)).heap.size:=HBW.out.size
 match r,hpost with
 | .error (c,p),⟨y,yn,yk,i3,he,hc,hi3,hR4⟩ =>
  subst he
  have HR4:=Lib.hid hR4
  clear hR4 hA HSZ HP
  go_wp2_with fail
  go_ret
  exact rpost_err HA2.out hc hi3 HR4.out
 | .ok (l,j),⟨G,v,hl,he,hO,hR4⟩ =>
  subst hl he
  obtain⟨ya,yc,rfl,-⟩:=hO.form
  have HR4:=Lib.hid hR4
  have HO4:=Lib.hid (hO.mono HSZ)
  clear hR4 hO hA HSZ HP
  go_wp2_with fail
  go_ret
  exact rpost_ok HA2.out HO4.out HR4.out
set_option maxRecDepth 100000 in
set_option maxHeartbeats 2000000 in
theorem r4begun_other (EV:Hid (EnvOk w0 rb a cc L)) (f:Nat) (_IH:Hid (∀ g,g≤f→LvOk w0 rb a cc L g)) (I o:Nat) (x:Tok) (r:Res) (w:World) (hx:L[I]?=some x) (hk:x.k≠1∧x.k≠2∧x.k≠3∧x.k≠4) (hP:errAt L 5 I=some r) (hB:Al rb w0 w) (hR:Rd rb (.slice a L.length cc) w I o 0 0) :
  Calls Tryz.prog 142 #[.pointer (some ⟨rb,0,none⟩),.agg #[.int .i64 x.k,.string x.t,.int .i64 x.p]] w (RPost (Rd rb (.slice a L.length cc)) rb o w r):=by
 have hL:=EV.out.len
 have hI:=(List.getElem?_eq_some_iff.1 hx).1
 have hlt:=hR.lt
 have hbn:Below w.heap.size w (w.alloc (.cells #[.int .i64 x.k,.string x.t,.int .i64 x.p] 127)):=(Below.refl _ _).alloc (Nat.le_refl _) _
 have hR1:=hR.below hbn
 have HA1:Hid (Al rb w (w.alloc (.cells #[.int .i64 x.k,.string x.t,.int .i64 x.p] 127))):=Al.of hbn
 have HBW:Hid (Below w.heap.size w (w.alloc (.cells #[.int .i64 x.k,.string x.t,.int .i64 x.p] 127))):=hbn
 have HRS:Hid (Rd rb (.slice a L.length cc) ((w.setCell ⟨rb,1,none⟩ (.int .i64 ((I:Int)+1))).alloc (.cells #[.int .i64 x.k,.string x.t,.int .i64 x.p] 127)) ((I+1:Nat):Int) o 0 0):=(hR.setI _).below ((Below.refl _ _).alloc (Nat.le_refl _) _)
 have HAS:Hid (Al rb w ((w.setCell ⟨rb,1,none⟩ (.int .i64 ((I:Int)+1))).alloc (.cells #[.int .i64 x.k,.string x.t,.int .i64 x.p] 127))):=((Al.refl _ _).set _ _).then ((Below.refl _ _).alloc (Nat.le_refl _) _)
 obtain⟨c0,c1,c2,c3,c4⟩:=hR1.cells
 obtain⟨f0,f1,f2,f3,f4⟩:=hR1.free
 have HR1:=Lib.hid hR1
 have HB:=Lib.hid hB
 have HP:=Lib.hid hP
 have HX:=Lib.hid hx
 have e1:((x.k:Int)==1)=false:=by rw[beq_eq_false_iff_ne];omega
 have e2:((x.k:Int)==2)=false:=by rw[beq_eq_false_iff_ne];omega
 have e3:((x.k:Int) != 3)=true:=by rw[bne_iff_ne];omega
 have e4:((x.k:Int) != 4)=true:=by rw[bne_iff_ne];omega
 have hf:=fun (W:World) (h:Below (w.alloc (.cells #[.int .i64 x.k,.string x.t,.int .i64 x.p] 127)).heap.size (w.alloc (.cells #[.int .i64 x.k,.string x.t,.int .i64 x.p] 127)) W)=>r4fail_yes EV I (by omega) o 0 5 W ((hB.next HA1.out).then h) (hR1.below h)
 have HF:=Lib.hid hf
 clear hbn hR1 hR hB hP hx hf hk c0 c1 c2 c3 c4 f0 f1 f2 f3 f4
 go_enter Tryz.func142,Tryz.ntmps142
 go_wp2_with fail
 have HBZ:Hid (Below (w.alloc (.cells #[.int .i64 x.k,.string x.t,.int .i64 x.p] 127)).heap.size (w.alloc (.cells #[.int .i64 x.k,.string x.t,.int .i64 x.p] 127)) (w.alloc (.cells #[.int .i64 x.k,.string x.t,.int .i64 x.p] 127))):=Below.refl _ _
 refine (HF.out _ HBZ.out).mono ?_
 rintro e w9 ⟨rfl,hR3,hA3⟩
 have HR3:=Lib.hid hR3
 have HA3:Hid (Al rb w w9):=(HA1.out.then HBZ.out).next hA3
 clear hR3 hA3
 go_wp2_with fail
 go_ret
 rw[(Option.some.inj HP.out).symm];exact rpost_err HA3.out (by decide) (by omega) HR3.out
set_option maxRecDepth 100000 in
set_option maxHeartbeats 2000000 in
theorem r4begun_within (EV:Hid (EnvOk w0 rb a cc L)) (f:Nat) (IH:Hid (∀ g,g≤f→LvOk w0 rb a cc L g)) (I o:Nat) (x:Tok) (r:Res) (w:World) (hx:L[I]?=some x) (hk:x.k=3∨x.k=4) (hq:preAt x.t=some 25) (hP:withinS (P L f) L I o=some r) (hB:Al rb w0 w) (hR:Rd rb (.slice a L.length cc) w I o 0 0) :
  Calls Tryz.prog 142 #[.pointer (some ⟨rb,0,none⟩),.agg #[.int .i64 x.k,.string x.t,.int .i64 x.p]] w (RPost (Rd rb (.slice a L.length cc)) rb o w r):=by
 have hL:=EV.out.len
 have hI:=(List.getElem?_eq_some_iff.1 hx).1
 have hlt:=hR.lt
 have hbn:Below w.heap.size w (w.alloc (.cells #[.int .i64 x.k,.string x.t,.int .i64 x.p] 127)):=(Below.refl _ _).alloc (Nat.le_refl _) _
 have hR1:=hR.below hbn
 have HA1:Hid (Al rb w (w.alloc (.cells #[.int .i64 x.k,.string x.t,.int .i64 x.p] 127))):=Al.of hbn
 have HBW:Hid (Below w.heap.size w (w.alloc (.cells #[.int .i64 x.k,.string x.t,.int .i64 x.p] 127))):=hbn
 have HRS:Hid (Rd rb (.slice a L.length cc) ((w.setCell ⟨rb,1,none⟩ (.int .i64 ((I:Int)+1))).alloc (.cells #[.int .i64 x.k,.string x.t,.int .i64 x.p] 127)) ((I+1:Nat):Int) o 0 0):=(hR.setI _).below ((Below.refl _ _).alloc (Nat.le_refl _) _)
 have HAS:Hid (Al rb w ((w.setCell ⟨rb,1,none⟩ (.int .i64 ((I:Int)+1))).alloc (.cells #[.int .i64 x.k,.string x.t,.int .i64 x.p] 127))):=((Al.refl _ _).set _ _).then ((Below.refl _ _).alloc (Nat.le_refl _) _)
 obtain⟨c0,c1,c2,c3,c4⟩:=hR1.cells
 obtain⟨f0,f1,f2,f3,f4⟩:=hR1.free
 have HR1:=Lib.hid hR1
 have HB:=Lib.hid hB
 have HP:=Lib.hid hP
 have HX:=Lib.hid hx
 have e1:((x.k:Int)==1)=false:=by rw[beq_eq_false_iff_ne];omega
 have e2:((x.k:Int)==2)=false:=by rw[beq_eq_false_iff_ne];omega
 obtain⟨q4,hq4⟩ : ∃ q4,((x.k:Int) != 4)=q4:=⟨_,rfl⟩
 have hor:q4=false∨(q4=true∧((x.k:Int) != 3)=false):=by
  rcases hk with h | h
  ·right;rw[← hq4];simp[h]
  ·left;rw[← hq4];simp[h]
 have hp:=prefix_any x.t (w.alloc (.cells #[.int .i64 x.k,.string x.t,.int .i64 x.p] 127))
 have e25:preI x.t=25:=by unfold preI;rw[hq];rfl
 rw[e25] at hp
 have hc:=r4within_any EV f (Lib.hid (IH.out f (Nat.le_refl _))) I o r (w.alloc (.cells #[.int .i64 x.k,.string x.t,.int .i64 x.p] 127)) hI hP (hB.next HA1.out) hR1
 clear hbn hR1 hR hB hP hx hk hq e25 c0 c1 c2 c3 c4 f0 f1 f2 f3 f4
 go_enter Tryz.func142,Tryz.ntmps142
 rcases hor with rfl | ⟨rfl,e3⟩
 all_goals
  go_wp2_with fail
  refine hp.mono ?_
  rintro e w1 ⟨rfl,rfl⟩
  go_wp2_with fail
  refine hc.mono ?_
  rintro e w1 ⟨hA,hpost⟩
  have HA2:Hid (Al rb w w1):=HA1.out.next hA
  have HSZ:w.heap.size≤(w.alloc (.cells #[.int .i64 x.k,.string x.t,.int .i64 x.p] 127)).heap.size:=HBW.out.size
  match r,hpost with
  | .error (c,p),⟨y,yn,yk,i3,he,hc,hi3,hR4⟩ =>
   subst he
   have HR4:=Lib.hid hR4
   clear hR4 hA HSZ HP
   go_wp2_with fail
   go_ret
   exact rpost_err HA2.out hc hi3 HR4.out
  | .ok (l,j),⟨G,v,hl,he,hO,hR4⟩ =>
   subst hl he
   obtain⟨ya,yc,rfl,-⟩:=hO.form
   have HR4:=Lib.hid hR4
   have HO4:=Lib.hid (hO.mono HSZ)
   clear hR4 hO hA HSZ HP
   go_wp2_with fail
   go_ret
   exact rpost_ok HA2.out HO4.out HR4.out
set_option maxRecDepth 100000 in
set_option maxHeartbeats 2000000 in
theorem r4begun_pre (EV:Hid (EnvOk w0 rb a cc L)) (f:Nat) (IH:Hid (∀ g,g≤f→LvOk w0 rb a cc L g)) (I o:Nat) (x:Tok) (r:Res) (w:World) (hx:L[I]?=some x) (op:Int) (hk:x.k=3∨x.k=4) (hq:preAt x.t=some op) (h25:op≠25) (hP:(thenE (P L f (.bin 8) (I+1) o) fun a i=>one (node op 0 noS a) i)=some r) (hB:Al rb w0 w) (hR:Rd rb (.slice a L.length cc) w I o 0 0) :
  Calls Tryz.prog 142 #[.pointer (some ⟨rb,0,none⟩),.agg #[.int .i64 x.k,.string x.t,.int .i64 x.p]] w (RPost (Rd rb (.slice a L.length cc)) rb o w r):=by
 have hL:=EV.out.len
 have hI:=(List.getElem?_eq_some_iff.1 hx).1
 have hlt:=hR.lt
 have hbn:Below w.heap.size w (w.alloc (.cells #[.int .i64 x.k,.string x.t,.int .i64 x.p] 127)):=(Below.refl _ _).alloc (Nat.le_refl _) _
 have hR1:=hR.below hbn
 have HA1:Hid (Al rb w (w.alloc (.cells #[.int .i64 x.k,.string x.t,.int .i64 x.p] 127))):=Al.of hbn
 have HBW:Hid (Below w.heap.size w (w.alloc (.cells #[.int .i64 x.k,.string x.t,.int .i64 x.p] 127))):=hbn
 have HRS:Hid (Rd rb (.slice a L.length cc) ((w.setCell ⟨rb,1,none⟩ (.int .i64 ((I:Int)+1))).alloc (.cells #[.int .i64 x.k,.string x.t,.int .i64 x.p] 127)) ((I+1:Nat):Int) o 0 0):=(hR.setI _).below ((Below.refl _ _).alloc (Nat.le_refl _) _)
 have HAS:Hid (Al rb w ((w.setCell ⟨rb,1,none⟩ (.int .i64 ((I:Int)+1))).alloc (.cells #[.int .i64 x.k,.string x.t,.int .i64 x.p] 127))):=((Al.refl _ _).set _ _).then ((Below.refl _ _).alloc (Nat.le_refl _) _)
 obtain⟨c0,c1,c2,c3,c4⟩:=hR1.cells
 obtain⟨f0,f1,f2,f3,f4⟩:=hR1.free
 have HR1:=Lib.hid hR1
 have HB:=Lib.hid hB
 have HP:=Lib.hid hP
 have HX:=Lib.hid hx
 have e1:((x.k:Int)==1)=false:=by rw[beq_eq_false_iff_ne];omega
 have e2:((x.k:Int)==2)=false:=by rw[beq_eq_false_iff_ne];omega
 obtain⟨q4,hq4⟩ : ∃ q4,((x.k:Int) != 4)=q4:=⟨_,rfl⟩
 have hor:q4=false∨(q4=true∧((x.k:Int) != 3)=false):=by
  rcases hk with h | h
  ·right;rw[← hq4];simp[h]
  ·left;rw[← hq4];simp[h]
 have hp:=prefix_any x.t (w.alloc (.cells #[.int .i64 x.k,.string x.t,.int .i64 x.p] 127))
 have e25:preI x.t=op:=by unfold preI;rw[hq];rfl
 rw[e25] at hp
 have hop:=preAt_is hq
 have g1:(op==25)=false:=by rw[beq_eq_false_iff_ne];exact h25
 have g2:(0:Int)<op:=by omega
 clear hbn hR1 hR hB hP hx hk hq e25 h25
 go_enter Tryz.func142,Tryz.ntmps142
 rcases hor with rfl | ⟨rfl,e3⟩
 all_goals
  go_wp2_with fail
  refine hp.mono ?_
  rintro e w1 ⟨rfl,rfl⟩
  go_wp2_with fail
  generalize hW2:(w.setCell ⟨rb,1,none⟩ (.int .i64 ((I:Int)+1))).alloc (.cells #[.int .i64 x.k,.string x.t,.int .i64 x.p] 127)=W2
  have hR2:Rd rb (.slice a L.length cc) W2 ((I+1:Nat):Int) o 0 0:=by rw[← hW2];exact HRS.out
  have HA2:Hid (Al rb w W2):=by show Al _ _ _;rw[← hW2];exact HAS.out
  clear hW2 c0 c1 c2 c3 c4 f0 f1 f2 f3 f4
  obtain⟨r3,hr3⟩ : ∃ r3,P L f (.bin 8) (I+1) o=some r3:=by
   rcases thenE_some HP.out with ⟨e,h,_⟩ | ⟨a,i,h,_⟩
   ·exact⟨_,h⟩
   ·exact⟨_,h⟩
  have hcall:=IH.out f (Nat.le_refl _) 8 (I+1) o r3 W2 (by omega) (by omega) hr3 (HB.out.next HA2.out) hR2
  have HR3:=Lib.hid hr3
  clear hR2 hr3 hp
  refine hcall.mono ?_
  rintro e w3 ⟨hA4,hpost⟩
  have HA4:Hid (Al rb w w3):=HA2.out.next hA4
  have hsz:w.heap.size≤w3.heap.size:=HA4.out.size
  clear hcall hA4 HA2
  match r3,hpost with
  | .error (c,p),⟨y,yn,yk,i3,he,hc,hi3,hR4⟩ =>
   subst he
   have HRE:Hid (r=.error (c,p)):=by
    rcases thenE_some HP.out with ⟨e,h,h2⟩ | ⟨a,i,h,_⟩
    ·have h3:=HR3.out.symm.trans h;cases h3;exact h2
    ·have h3:=HR3.out.symm.trans h;cases h3
   have HR4:=Lib.hid hR4
   obtain⟨c0,c1,c2,c3,c4⟩:=hR4.cells
   have e0:(c != 0)=true:=by simp[hc]
   have e00:(c==0)=false:=by simp[hc]
   clear hR4
   go_wp2_with fail
   go_ret
   rw[HRE.out];exact rpost_err HA4.out hc hi3 HR4.out
  | .ok (l,j),⟨G,v,hl,he,hO4,hR4⟩ =>
   subst hl he
   obtain⟨k1,k2,k3,k4⟩:=(P_ok EV.out.ok f).bin (by omega) HR3.out
   obtain⟨ya,yc,rfl,-⟩:=hO4.form
   have hj:=r4one op 0 G (.slice ya (G.flat 0).length yc) w3 hO4.isE k1.one (by omega) (by omega)
   have h9:=thenE_is (f:=fun a i=>one (node op 0 noS a) i) HP.out HR3.out
   have HRE:=Lib.hid (one_some h9)
   have HR5:=Lib.hid hR4
   clear h9
   obtain⟨c0,c1,c2,c3,c4⟩:=hR4.cells
   clear hR4 hO4 k1
   go_wp2_with fail
   refine hj.mono ?_
   rintro r4 w4 ⟨v4,rfl,ho,hb⟩
   have HR6:=Lib.hid (HR5.out.below hb)
   have HA6:=Lib.hid (HA4.out.then hb)
   have HO6:=Lib.hid (ho.mono hsz)
   clear hj ho hb c0 c1 c2 c3 c4
   go_wp2_with fail
   go_ret
   rw[HRE.out];exact rpost_ok HA6.out HO6.out HR6.out
set_option maxRecDepth 100000 in
set_option maxHeartbeats 2000000 in
theorem r4begun_true (EV:Hid (EnvOk w0 rb a cc L)) (f:Nat) (_IH:Hid (∀ g,g≤f→LvOk w0 rb a cc L g)) (I o:Nat) (x:Tok) (r:Res) (w:World) (hx:L[I]?=some x) (hk:x.k=3∨x.k=4) (ht:x.t=⟨#[116,114,117,101]⟩) (hP:one (node 2 1 noS .no) (I+1)=some r) (hB:Al rb w0 w) (hR:Rd rb (.slice a L.length cc) w I o 0 0) :
  Calls Tryz.prog 142 #[.pointer (some ⟨rb,0,none⟩),.agg #[.int .i64 x.k,.string x.t,.int .i64 x.p]] w (RPost (Rd rb (.slice a L.length cc)) rb o w r):=by
 have hL:=EV.out.len
 have hI:=(List.getElem?_eq_some_iff.1 hx).1
 have hlt:=hR.lt
 have hbn:Below w.heap.size w (w.alloc (.cells #[.int .i64 x.k,.string x.t,.int .i64 x.p] 127)):=(Below.refl _ _).alloc (Nat.le_refl _) _
 have hR1:=hR.below hbn
 have HA1:Hid (Al rb w (w.alloc (.cells #[.int .i64 x.k,.string x.t,.int .i64 x.p] 127))):=Al.of hbn
 have HBW:Hid (Below w.heap.size w (w.alloc (.cells #[.int .i64 x.k,.string x.t,.int .i64 x.p] 127))):=hbn
 have HRS:Hid (Rd rb (.slice a L.length cc) ((w.setCell ⟨rb,1,none⟩ (.int .i64 ((I:Int)+1))).alloc (.cells #[.int .i64 x.k,.string x.t,.int .i64 x.p] 127)) ((I+1:Nat):Int) o 0 0):=(hR.setI _).below ((Below.refl _ _).alloc (Nat.le_refl _) _)
 have HAS:Hid (Al rb w ((w.setCell ⟨rb,1,none⟩ (.int .i64 ((I:Int)+1))).alloc (.cells #[.int .i64 x.k,.string x.t,.int .i64 x.p] 127))):=((Al.refl _ _).set _ _).then ((Below.refl _ _).alloc (Nat.le_refl _) _)
 obtain⟨c0,c1,c2,c3,c4⟩:=hR1.cells
 obtain⟨f0,f1,f2,f3,f4⟩:=hR1.free
 have HR1:=Lib.hid hR1
 have HB:=Lib.hid hB
 have HP:=Lib.hid hP
 have HX:=Lib.hid hx
 have e1:((x.k:Int)==1)=false:=by rw[beq_eq_false_iff_ne];omega
 have e2:((x.k:Int)==2)=false:=by rw[beq_eq_false_iff_ne];omega
 obtain⟨q4,hq4⟩ : ∃ q4,((x.k:Int) != 4)=q4:=⟨_,rfl⟩
 have hor:q4=false∨(q4=true∧((x.k:Int) != 3)=false):=by
  rcases hk with h | h
  ·right;rw[← hq4];simp[h]
  ·left;rw[← hq4];simp[h]
 have hp:=prefix_any x.t (w.alloc (.cells #[.int .i64 x.k,.string x.t,.int .i64 x.p] 127))
 have e25:preI x.t=0:=by rw[ht];decide
 rw[e25] at hp
 have HT:=Lib.hid ht
 have hkk:=hk
 clear hbn hR1 hR hB hP hx hk ht e25 c0 c1 c2 c3 c4 f0 f1 f2 f3 f4
 go_enter Tryz.func142,Tryz.ntmps142
 rcases hor with rfl | ⟨rfl,e3⟩
 all_goals
  go_wp2_with fail
  refine hp.mono ?_
  rintro e w1 ⟨rfl,rfl⟩
  clear hp
  have HBL0:Hid (Below (w.alloc (.cells #[.int .i64 x.k,.string x.t,.int .i64 x.p] 127)).heap.size (w.alloc (.cells #[.int .i64 x.k,.string x.t,.int .i64 x.p] 127)) (w.alloc (.cells #[.int .i64 x.k,.string x.t,.int .i64 x.p] 127))):=Below.refl _ _
  have hc:=r4take_yes EV I (by omega) o 0 ⟨#[116,114,117,101]⟩ (by rw[isT_text HX.out hkk,HT.out];simp) (w.alloc (.cells #[.int .i64 x.k,.string x.t,.int .i64 x.p] 127)) ((HB.out.next HA1.out).then HBL0.out) (HR1.out.below HBL0.out)
  go_wp2_with fail
  refine hc.mono ?_
  rintro r2 w2 ⟨rfl,hR2,hA2⟩
  have hR2:Rd rb (.slice a L.length cc) w2 ((I+1:Nat):Int) o 0 0:=by simpa using hR2
  have HR2:=Lib.hid hR2
  have HA2:Hid (Al rb w w2):=(HA1.out.then HBL0.out).next hA2
  have hsz2:w.heap.size≤w2.heap.size:=HA2.out.size
  clear hc hR2 hA2
  have hj:=r4leaf 2 1 ⟨#[]⟩ w2 (Or.inr (Or.inl rfl))
  go_wp2_with fail
  refine hj.mono ?_
  rintro r4 w9 ⟨v9,rfl,ho,hb⟩
  have HR9:=Lib.hid (HR2.out.below hb)
  have HA9:=Lib.hid (HA2.out.then hb)
  have HO9:=Lib.hid (ho.mono hsz2)
  clear hj ho hb
  go_wp2_with fail
  go_ret
  rw[one_some HP.out];exact rpost_ok HA9.out HO9.out HR9.out
set_option maxRecDepth 100000 in
set_option maxHeartbeats 2000000 in
theorem r4begun_false (EV:Hid (EnvOk w0 rb a cc L)) (f:Nat) (_IH:Hid (∀ g,g≤f→LvOk w0 rb a cc L g)) (I o:Nat) (x:Tok) (r:Res) (w:World) (hx:L[I]?=some x) (hk:x.k=3∨x.k=4) (ht:x.t=⟨#[102,97,108,115,101]⟩) (hP:one (node 2 0 noS .no) (I+1)=some r) (hB:Al rb w0 w) (hR:Rd rb (.slice a L.length cc) w I o 0 0) :
  Calls Tryz.prog 142 #[.pointer (some ⟨rb,0,none⟩),.agg #[.int .i64 x.k,.string x.t,.int .i64 x.p]] w (RPost (Rd rb (.slice a L.length cc)) rb o w r):=by
 have hL:=EV.out.len
 have hI:=(List.getElem?_eq_some_iff.1 hx).1
 have hlt:=hR.lt
 have hbn:Below w.heap.size w (w.alloc (.cells #[.int .i64 x.k,.string x.t,.int .i64 x.p] 127)):=(Below.refl _ _).alloc (Nat.le_refl _) _
 have hR1:=hR.below hbn
 have HA1:Hid (Al rb w (w.alloc (.cells #[.int .i64 x.k,.string x.t,.int .i64 x.p] 127))):=Al.of hbn
 have HBW:Hid (Below w.heap.size w (w.alloc (.cells #[.int .i64 x.k,.string x.t,.int .i64 x.p] 127))):=hbn
 have HRS:Hid (Rd rb (.slice a L.length cc) ((w.setCell ⟨rb,1,none⟩ (.int .i64 ((I:Int)+1))).alloc (.cells #[.int .i64 x.k,.string x.t,.int .i64 x.p] 127)) ((I+1:Nat):Int) o 0 0):=(hR.setI _).below ((Below.refl _ _).alloc (Nat.le_refl _) _)
 have HAS:Hid (Al rb w ((w.setCell ⟨rb,1,none⟩ (.int .i64 ((I:Int)+1))).alloc (.cells #[.int .i64 x.k,.string x.t,.int .i64 x.p] 127))):=((Al.refl _ _).set _ _).then ((Below.refl _ _).alloc (Nat.le_refl _) _)
 obtain⟨c0,c1,c2,c3,c4⟩:=hR1.cells
 obtain⟨f0,f1,f2,f3,f4⟩:=hR1.free
 have HR1:=Lib.hid hR1
 have HB:=Lib.hid hB
 have HP:=Lib.hid hP
 have HX:=Lib.hid hx
 have e1:((x.k:Int)==1)=false:=by rw[beq_eq_false_iff_ne];omega
 have e2:((x.k:Int)==2)=false:=by rw[beq_eq_false_iff_ne];omega
 obtain⟨q4,hq4⟩ : ∃ q4,((x.k:Int) != 4)=q4:=⟨_,rfl⟩
 have hor:q4=false∨(q4=true∧((x.k:Int) != 3)=false):=by
  rcases hk with h | h
  ·right;rw[← hq4];simp[h]
  ·left;rw[← hq4];simp[h]
 have hp:=prefix_any x.t (w.alloc (.cells #[.int .i64 x.k,.string x.t,.int .i64 x.p] 127))
 have e25:preI x.t=0:=by rw[ht];decide
 rw[e25] at hp
 have HT:=Lib.hid ht
 have hkk:=hk
 clear hbn hR1 hR hB hP hx hk ht e25 c0 c1 c2 c3 c4 f0 f1 f2 f3 f4
 go_enter Tryz.func142,Tryz.ntmps142
 rcases hor with rfl | ⟨rfl,e3⟩
 all_goals
  go_wp2_with fail
  refine hp.mono ?_
  rintro e w1 ⟨rfl,rfl⟩
  clear hp
  have HBL0:Hid (Below (w.alloc (.cells #[.int .i64 x.k,.string x.t,.int .i64 x.p] 127)).heap.size (w.alloc (.cells #[.int .i64 x.k,.string x.t,.int .i64 x.p] 127)) (w.alloc (.cells #[.int .i64 x.k,.string x.t,.int .i64 x.p] 127))):=Below.refl _ _
  have hc:=r4take_no EV I (by omega) o 0 0 ⟨#[116,114,117,101]⟩ (Or.inl (by rw[isT_text HX.out hkk,HT.out];decide)) (w.alloc (.cells #[.int .i64 x.k,.string x.t,.int .i64 x.p] 127)) ((HB.out.next HA1.out).then HBL0.out) (HR1.out.below HBL0.out)
  go_wp2_with fail
  refine hc.mono ?_
  rintro r2 v1 ⟨rfl,hb⟩
  have HBL1:=Lib.hid (below_next HBL0.out hb)
  clear hc hb HBL0
  have hc:=r4take_yes EV I (by omega) o 0 ⟨#[102,97,108,115,101]⟩ (by rw[isT_text HX.out hkk,HT.out];simp) v1 ((HB.out.next HA1.out).then HBL1.out) (HR1.out.below HBL1.out)
  go_wp2_with fail
  refine hc.mono ?_
  rintro r2 w2 ⟨rfl,hR2,hA2⟩
  have hR2:Rd rb (.slice a L.length cc) w2 ((I+1:Nat):Int) o 0 0:=by simpa using hR2
  have HR2:=Lib.hid hR2
  have HA2:Hid (Al rb w w2):=(HA1.out.then HBL1.out).next hA2
  have hsz2:w.heap.size≤w2.heap.size:=HA2.out.size
  clear hc hR2 hA2
  have hj:=r4leaf 2 0 ⟨#[]⟩ w2 (Or.inr (Or.inl rfl))
  go_wp2_with fail
  refine hj.mono ?_
  rintro r4 w9 ⟨v9,rfl,ho,hb⟩
  have HR9:=Lib.hid (HR2.out.below hb)
  have HA9:=Lib.hid (HA2.out.then hb)
  have HO9:=Lib.hid (ho.mono hsz2)
  clear hj ho hb
  go_wp2_with fail
  go_ret
  rw[one_some HP.out];exact rpost_ok HA9.out HO9.out HR9.out
set_option maxRecDepth 100000 in
set_option maxHeartbeats 2000000 in
theorem r4begun_par (EV:Hid (EnvOk w0 rb a cc L)) (f:Nat) (IH:Hid (∀ g,g≤f→LvOk w0 rb a cc L g)) (I o:Nat) (x:Tok) (r:Res) (w:World) (hx:L[I]?=some x) (hk:x.k=3∨x.k=4) (ht:x.t=⟨#[40]⟩) (hP:(thenE (P L f (.bin 0) (I+1) o) fun a i=>needT L tRpar i fun i=>one a i)=some r) (hB:Al rb w0 w) (hR:Rd rb (.slice a L.length cc) w I o 0 0) :
  Calls Tryz.prog 142 #[.pointer (some ⟨rb,0,none⟩),.agg #[.int .i64 x.k,.string x.t,.int .i64 x.p]] w (RPost (Rd rb (.slice a L.length cc)) rb o w r):=by
 have hL:=EV.out.len
 have hI:=(List.getElem?_eq_some_iff.1 hx).1
 have hlt:=hR.lt
 have hbn:Below w.heap.size w (w.alloc (.cells #[.int .i64 x.k,.string x.t,.int .i64 x.p] 127)):=(Below.refl _ _).alloc (Nat.le_refl _) _
 have hR1:=hR.below hbn
 have HA1:Hid (Al rb w (w.alloc (.cells #[.int .i64 x.k,.string x.t,.int .i64 x.p] 127))):=Al.of hbn
 have HBW:Hid (Below w.heap.size w (w.alloc (.cells #[.int .i64 x.k,.string x.t,.int .i64 x.p] 127))):=hbn
 have HRS:Hid (Rd rb (.slice a L.length cc) ((w.setCell ⟨rb,1,none⟩ (.int .i64 ((I:Int)+1))).alloc (.cells #[.int .i64 x.k,.string x.t,.int .i64 x.p] 127)) ((I+1:Nat):Int) o 0 0):=(hR.setI _).below ((Below.refl _ _).alloc (Nat.le_refl _) _)
 have HAS:Hid (Al rb w ((w.setCell ⟨rb,1,none⟩ (.int .i64 ((I:Int)+1))).alloc (.cells #[.int .i64 x.k,.string x.t,.int .i64 x.p] 127))):=((Al.refl _ _).set _ _).then ((Below.refl _ _).alloc (Nat.le_refl _) _)
 obtain⟨c0,c1,c2,c3,c4⟩:=hR1.cells
 obtain⟨f0,f1,f2,f3,f4⟩:=hR1.free
 have HR1:=Lib.hid hR1
 have HB:=Lib.hid hB
 have HP:=Lib.hid hP
 have HX:=Lib.hid hx
 have e1:((x.k:Int)==1)=false:=by rw[beq_eq_false_iff_ne];omega
 have e2:((x.k:Int)==2)=false:=by rw[beq_eq_false_iff_ne];omega
 obtain⟨q4,hq4⟩ : ∃ q4,((x.k:Int) != 4)=q4:=⟨_,rfl⟩
 have hor:q4=false∨(q4=true∧((x.k:Int) != 3)=false):=by
  rcases hk with h | h
  ·right;rw[← hq4];simp[h]
  ·left;rw[← hq4];simp[h]
 have hp:=prefix_any x.t (w.alloc (.cells #[.int .i64 x.k,.string x.t,.int .i64 x.p] 127))
 have e25:preI x.t=0:=by rw[ht];decide
 rw[e25] at hp
 have HT:=Lib.hid ht
 have hkk:=hk
 clear hbn hR1 hR hB hP hx hk ht e25 c0 c1 c2 c3 c4 f0 f1 f2 f3 f4
 go_enter Tryz.func142,Tryz.ntmps142
 rcases hor with rfl | ⟨rfl,e3⟩
 all_goals
  go_wp2_with fail
  refine hp.mono ?_
  rintro e w1 ⟨rfl,rfl⟩
  clear hp
  have HBL0:Hid (Below (w.alloc (.cells #[.int .i64 x.k,.string x.t,.int .i64 x.p] 127)).heap.size (w.alloc (.cells #[.int .i64 x.k,.string x.t,.int .i64 x.p] 127)) (w.alloc (.cells #[.int .i64 x.k,.string x.t,.int .i64 x.p] 127))):=Below.refl _ _
  have hc:=r4take_no EV I (by omega) o 0 0 ⟨#[116,114,117,101]⟩ (Or.inl (by rw[isT_text HX.out hkk,HT.out];decide)) (w.alloc (.cells #[.int .i64 x.k,.string x.t,.int .i64 x.p] 127)) ((HB.out.next HA1.out).then HBL0.out) (HR1.out.below HBL0.out)
  go_wp2_with fail
  refine hc.mono ?_
  rintro r2 v1 ⟨rfl,hb⟩
  have HBL1:=Lib.hid (below_next HBL0.out hb)
  clear hc hb HBL0
  have hc:=r4take_no EV I (by omega) o 0 0 ⟨#[102,97,108,115,101]⟩ (Or.inl (by rw[isT_text HX.out hkk,HT.out];decide)) v1 ((HB.out.next HA1.out).then HBL1.out) (HR1.out.below HBL1.out)
  go_wp2_with fail
  refine hc.mono ?_
  rintro r2 v2 ⟨rfl,hb⟩
  have HBL2:=Lib.hid (below_next HBL1.out hb)
  clear hc hb HBL1
  have hc:=r4take_yes EV I (by omega) o 0 ⟨#[40]⟩ (by rw[isT_text HX.out hkk,HT.out];simp) v2 ((HB.out.next HA1.out).then HBL2.out) (HR1.out.below HBL2.out)
  go_wp2_with fail
  refine hc.mono ?_
  rintro r2 w2 ⟨rfl,hR2,hA2⟩
  have hR2:Rd rb (.slice a L.length cc) w2 ((I+1:Nat):Int) o 0 0:=by simpa using hR2
  have HR2:=Lib.hid hR2
  have HA2:Hid (Al rb w w2):=(HA1.out.then HBL2.out).next hA2
  have hsz2:w.heap.size≤w2.heap.size:=HA2.out.size
  clear hc hR2 hA2
  obtain⟨r3,hr3⟩ : ∃ r3,P L f (.bin 0) (I+1) o=some r3:=by
   rcases thenE_some HP.out with ⟨e,h,_⟩ | ⟨a,i,h,_⟩
   ·exact⟨_,h⟩
   ·exact⟨_,h⟩
  have hcall:=IH.out f (Nat.le_refl _) 0 (I+1) o r3 w2 (by omega) (by omega) hr3 (HB.out.next HA2.out) HR2.out
  have HR3:=Lib.hid hr3
  have hltw:rb<w.heap.size:=hlt
  clear hr3
  go_wp2_with fail
  refine hcall.mono ?_
  rintro e w3 ⟨hA4,hpost⟩
  have HA4:Hid (Al rb w w3):=HA2.out.next hA4
  clear hcall hA4 HA2
  match r3,hpost with
  | .error (c,p),⟨y,yn,yk,i3,he,hc,hi3,hR4⟩ =>
   subst he
   have HRE:Hid (r=.error (c,p)):=by
    rcases thenE_some HP.out with ⟨e,h,h2⟩ | ⟨a,i,h,_⟩
    ·have h3:=HR3.out.symm.trans h;cases h3;exact h2
    ·have h3:=HR3.out.symm.trans h;cases h3
   have HR4:=Lib.hid hR4
   have hn:=r4need_fault EV i3 hi3 o c p ⟨#[41]⟩ hc w3 (HB.out.next HA4.out) hR4
   clear hR4
   go_wp2_with fail
   refine hn.mono ?_
   rintro e w4 ⟨rfl,hb⟩
   have HR5:=Lib.hid (HR4.out.below hb)
   have HA5:=Lib.hid (HA4.out.then hb)
   clear hn hb
   go_wp2_with fail
   go_ret
   rw[HRE.out];exact rpost_err HA5.out hc hi3 HR5.out
  | .ok (l,j),⟨G,v,hl,he,hO4,hR4⟩ =>
   subst hl he
   obtain⟨k1,k2,k3,k4⟩:=(P_ok EV.out.ok f).bin (by omega) HR3.out
   obtain⟨ya,yc,rfl,-⟩:=hO4.form
   have HP3:=Lib.hid (thenE_is HP.out HR3.out)
   have HO4:=Lib.hid (hO4.mono hsz2)
   have HR4:=Lib.hid hR4
   clear hR4 hO4 k1
   rcases hT:isT L j ⟨#[41]⟩ with _ | _
   ·have hn:=r4need_no EV j (by omega) o 0 ⟨#[41]⟩ hT w3 (HB.out.next HA4.out) HR4.out
    have HRE:Hid (r=.error (5,atP L j)):=by
     rcases needT_two HP3.out with h | ⟨h,_⟩
     ·exact h.2
     ·exact absurd (hT.symm.trans h) (by decide)
    clear hT
    go_wp2_with fail
    refine hn.mono ?_
    rintro e w4 ⟨rfl,hR5,hA5⟩
    have HR5:=Lib.hid hR5
    have HA5:=Lib.hid (HA4.out.next hA5)
    clear hn hR5 hA5
    go_wp2_with fail
    go_ret
    rw[HRE.out];exact rpost_err HA5.out (by decide) (by omega) HR5.out
   ·have hn:=r4need_yes EV j (by omega) o 0 ⟨#[41]⟩ hT w3 (HB.out.next HA4.out) HR4.out
    have HRE:=Lib.hid (one_some (needT_is HP3.out hT))
    clear hT
    go_wp2_with fail
    refine hn.mono ?_
    rintro e w4 ⟨rfl,hR5,hA5⟩
    have HR5:Hid (Rd rb (.slice a L.length cc) w4 ((j+1:Nat):Int) o 0 0):=by show Rd _ _ _ _ _ _ _;simpa using hR5
    have HO5:=Lib.hid (hA5.ownE HO4.out hltw)
    have HA5:=Lib.hid (HA4.out.next hA5)
    clear hn hR5 hA5
    go_wp2_with fail
    go_ret
    rw[HRE.out];exact rpost_ok HA5.out HO5.out HR5.out
set_option maxRecDepth 100000 in
set_option maxHeartbeats 2000000 in
theorem r4begun_if (EV:Hid (EnvOk w0 rb a cc L)) (f:Nat) (IH:Hid (∀ g,g≤f→LvOk w0 rb a cc L g)) (I o:Nat) (x:Tok) (r:Res) (w:World) (hx:L[I]?=some x) (hk:x.k=3∨x.k=4) (ht:x.t=⟨#[105,102]⟩) (hP:choiceS (P L f) L (I+1) o=some r) (hB:Al rb w0 w) (hR:Rd rb (.slice a L.length cc) w I o 0 0) :
  Calls Tryz.prog 142 #[.pointer (some ⟨rb,0,none⟩),.agg #[.int .i64 x.k,.string x.t,.int .i64 x.p]] w (RPost (Rd rb (.slice a L.length cc)) rb o w r):=by
 have hL:=EV.out.len
 have hI:=(List.getElem?_eq_some_iff.1 hx).1
 have hlt:=hR.lt
 have hbn:Below w.heap.size w (w.alloc (.cells #[.int .i64 x.k,.string x.t,.int .i64 x.p] 127)):=(Below.refl _ _).alloc (Nat.le_refl _) _
 have hR1:=hR.below hbn
 have HA1:Hid (Al rb w (w.alloc (.cells #[.int .i64 x.k,.string x.t,.int .i64 x.p] 127))):=Al.of hbn
 have HBW:Hid (Below w.heap.size w (w.alloc (.cells #[.int .i64 x.k,.string x.t,.int .i64 x.p] 127))):=hbn
 have HRS:Hid (Rd rb (.slice a L.length cc) ((w.setCell ⟨rb,1,none⟩ (.int .i64 ((I:Int)+1))).alloc (.cells #[.int .i64 x.k,.string x.t,.int .i64 x.p] 127)) ((I+1:Nat):Int) o 0 0):=(hR.setI _).below ((Below.refl _ _).alloc (Nat.le_refl _) _)
 have HAS:Hid (Al rb w ((w.setCell ⟨rb,1,none⟩ (.int .i64 ((I:Int)+1))).alloc (.cells #[.int .i64 x.k,.string x.t,.int .i64 x.p] 127))):=((Al.refl _ _).set _ _).then ((Below.refl _ _).alloc (Nat.le_refl _) _)
 obtain⟨c0,c1,c2,c3,c4⟩:=hR1.cells
 obtain⟨f0,f1,f2,f3,f4⟩:=hR1.free
 have HR1:=Lib.hid hR1
 have HB:=Lib.hid hB
 have HP:=Lib.hid hP
 have HX:=Lib.hid hx
 have e1:((x.k:Int)==1)=false:=by rw[beq_eq_false_iff_ne];omega
 have e2:((x.k:Int)==2)=false:=by rw[beq_eq_false_iff_ne];omega
 obtain⟨q4,hq4⟩ : ∃ q4,((x.k:Int) != 4)=q4:=⟨_,rfl⟩
 have hor:q4=false∨(q4=true∧((x.k:Int) != 3)=false):=by
  rcases hk with h | h
  ·right;rw[← hq4];simp[h]
  ·left;rw[← hq4];simp[h]
 have hp:=prefix_any x.t (w.alloc (.cells #[.int .i64 x.k,.string x.t,.int .i64 x.p] 127))
 have e25:preI x.t=0:=by rw[ht];decide
 rw[e25] at hp
 have HT:=Lib.hid ht
 have hkk:=hk
 clear hbn hR1 hR hB hP hx hk ht e25 c0 c1 c2 c3 c4 f0 f1 f2 f3 f4
 go_enter Tryz.func142,Tryz.ntmps142
 rcases hor with rfl | ⟨rfl,e3⟩
 all_goals
  go_wp2_with fail
  refine hp.mono ?_
  rintro e w1 ⟨rfl,rfl⟩
  clear hp
  have HBL0:Hid (Below (w.alloc (.cells #[.int .i64 x.k,.string x.t,.int .i64 x.p] 127)).heap.size (w.alloc (.cells #[.int .i64 x.k,.string x.t,.int .i64 x.p] 127)) (w.alloc (.cells #[.int .i64 x.k,.string x.t,.int .i64 x.p] 127))):=Below.refl _ _
  have hc:=r4take_no EV I (by omega) o 0 0 ⟨#[116,114,117,101]⟩ (Or.inl (by rw[isT_text HX.out hkk,HT.out];decide)) (w.alloc (.cells #[.int .i64 x.k,.string x.t,.int .i64 x.p] 127)) ((HB.out.next HA1.out).then HBL0.out) (HR1.out.below HBL0.out)
  go_wp2_with fail
  refine hc.mono ?_
  rintro r2 v1 ⟨rfl,hb⟩
  have HBL1:=Lib.hid (below_next HBL0.out hb)
  clear hc hb HBL0
  have hc:=r4take_no EV I (by omega) o 0 0 ⟨#[102,97,108,115,101]⟩ (Or.inl (by rw[isT_text HX.out hkk,HT.out];decide)) v1 ((HB.out.next HA1.out).then HBL1.out) (HR1.out.below HBL1.out)
  go_wp2_with fail
  refine hc.mono ?_
  rintro r2 v2 ⟨rfl,hb⟩
  have HBL2:=Lib.hid (below_next HBL1.out hb)
  clear hc hb HBL1
  have hc:=r4take_no EV I (by omega) o 0 0 ⟨#[40]⟩ (Or.inl (by rw[isT_text HX.out hkk,HT.out];decide)) v2 ((HB.out.next HA1.out).then HBL2.out) (HR1.out.below HBL2.out)
  go_wp2_with fail
  refine hc.mono ?_
  rintro r2 v3 ⟨rfl,hb⟩
  have HBL3:=Lib.hid (below_next HBL2.out hb)
  clear hc hb HBL2
  have hc:=r4take_yes EV I (by omega) o 0 ⟨#[105,102]⟩ (by rw[isT_text HX.out hkk,HT.out];simp) v3 ((HB.out.next HA1.out).then HBL3.out) (HR1.out.below HBL3.out)
  go_wp2_with fail
  refine hc.mono ?_
  rintro r2 w2 ⟨rfl,hR2,hA2⟩
  have hR2:Rd rb (.slice a L.length cc) w2 ((I+1:Nat):Int) o 0 0:=by simpa using hR2
  have HR2:=Lib.hid hR2
  have HA2:Hid (Al rb w w2):=(HA1.out.then HBL3.out).next hA2
  have hsz2:w.heap.size≤w2.heap.size:=HA2.out.size
  clear hc hR2 hA2
  have hcall:=r4choice_any EV f (Lib.hid (IH.out f (Nat.le_refl _))) (I+1) o r w2 (by omega) HP.out (HB.out.next HA2.out) HR2.out
  go_wp2_with fail
  refine hcall.mono ?_
  rintro e w3 ⟨hA,hpost⟩
  have HA3:Hid (Al rb w w3):=HA2.out.next hA
  clear hcall hA
  match r,hpost with
  | .error (c,p),⟨y,yn,yk,i3,he,hc,hi3,hR4⟩ =>
   subst he
   have HR4:=Lib.hid hR4
   clear hR4 HP
   go_wp2_with fail
   go_ret
   exact rpost_err HA3.out hc hi3 HR4.out
  | .ok (l,j),⟨G,v,hl,he,hO,hR4⟩ =>
   subst hl he
   obtain⟨ya,yc,rfl,-⟩:=hO.form
   have HR4:=Lib.hid hR4
   have HO4:=Lib.hid (hO.mono hsz2)
   clear hR4 hO HP
   go_wp2_with fail
   go_ret
   exact rpost_ok HA3.out HO4.out HR4.out
set_option maxRecDepth 100000 in
set_option maxHeartbeats 2000000 in
theorem r4begun_none (EV:Hid (EnvOk w0 rb a cc L)) (f:Nat) (_IH:Hid (∀ g,g≤f→LvOk w0 rb a cc L g)) (I o:Nat) (x:Tok) (r:Res) (w:World) (hx:L[I]?=some x) (hk:x.k=3∨x.k=4) (hq:preAt x.t=none) (ht:x.t≠⟨#[116,114,117,101]⟩∧x.t≠⟨#[102,97,108,115,101]⟩∧x.t≠⟨#[40]⟩∧x.t≠⟨#[105,102]⟩) (hP:errAt L 5 I=some r) (hB:Al rb w0 w) (hR:Rd rb (.slice a L.length cc) w I o 0 0) :
  Calls Tryz.prog 142 #[.pointer (some ⟨rb,0,none⟩),.agg #[.int .i64 x.k,.string x.t,.int .i64 x.p]] w (RPost (Rd rb (.slice a L.length cc)) rb o w r):=by
 have hL:=EV.out.len
 have hI:=(List.getElem?_eq_some_iff.1 hx).1
 have hlt:=hR.lt
 have hbn:Below w.heap.size w (w.alloc (.cells #[.int .i64 x.k,.string x.t,.int .i64 x.p] 127)):=(Below.refl _ _).alloc (Nat.le_refl _) _
 have hR1:=hR.below hbn
 have HA1:Hid (Al rb w (w.alloc (.cells #[.int .i64 x.k,.string x.t,.int .i64 x.p] 127))):=Al.of hbn
 have HBW:Hid (Below w.heap.size w (w.alloc (.cells #[.int .i64 x.k,.string x.t,.int .i64 x.p] 127))):=hbn
 have HRS:Hid (Rd rb (.slice a L.length cc) ((w.setCell ⟨rb,1,none⟩ (.int .i64 ((I:Int)+1))).alloc (.cells #[.int .i64 x.k,.string x.t,.int .i64 x.p] 127)) ((I+1:Nat):Int) o 0 0):=(hR.setI _).below ((Below.refl _ _).alloc (Nat.le_refl _) _)
 have HAS:Hid (Al rb w ((w.setCell ⟨rb,1,none⟩ (.int .i64 ((I:Int)+1))).alloc (.cells #[.int .i64 x.k,.string x.t,.int .i64 x.p] 127))):=((Al.refl _ _).set _ _).then ((Below.refl _ _).alloc (Nat.le_refl _) _)
 obtain⟨c0,c1,c2,c3,c4⟩:=hR1.cells
 obtain⟨f0,f1,f2,f3,f4⟩:=hR1.free
 have HR1:=Lib.hid hR1
 have HB:=Lib.hid hB
 have HP:=Lib.hid hP
 have HX:=Lib.hid hx
 have e1:((x.k:Int)==1)=false:=by rw[beq_eq_false_iff_ne];omega
 have e2:((x.k:Int)==2)=false:=by rw[beq_eq_false_iff_ne];omega
 obtain⟨q4,hq4⟩ : ∃ q4,((x.k:Int) != 4)=q4:=⟨_,rfl⟩
 have hor:q4=false∨(q4=true∧((x.k:Int) != 3)=false):=by
  rcases hk with h | h
  ·right;rw[← hq4];simp[h]
  ·left;rw[← hq4];simp[h]
 have hp:=prefix_any x.t (w.alloc (.cells #[.int .i64 x.k,.string x.t,.int .i64 x.p] 127))
 have e25:preI x.t=0:=by unfold preI;rw[hq];rfl
 rw[e25] at hp
 have HT:=Lib.hid ht
 have hkk:=hk
 clear hbn hR1 hR hB hP hx hk hq ht e25 c0 c1 c2 c3 c4 f0 f1 f2 f3 f4
 go_enter Tryz.func142,Tryz.ntmps142
 rcases hor with rfl | ⟨rfl,e3⟩
 all_goals
  go_wp2_with fail
  refine hp.mono ?_
  rintro e w1 ⟨rfl,rfl⟩
  clear hp
  have HBL0:Hid (Below (w.alloc (.cells #[.int .i64 x.k,.string x.t,.int .i64 x.p] 127)).heap.size (w.alloc (.cells #[.int .i64 x.k,.string x.t,.int .i64 x.p] 127)) (w.alloc (.cells #[.int .i64 x.k,.string x.t,.int .i64 x.p] 127))):=Below.refl _ _
  have hc:=r4take_no EV I (by omega) o 0 0 ⟨#[116,114,117,101]⟩ (Or.inl (by rw[isT_text HX.out hkk];exact decide_eq_false HT.out.1)) (w.alloc (.cells #[.int .i64 x.k,.string x.t,.int .i64 x.p] 127)) ((HB.out.next HA1.out).then HBL0.out) (HR1.out.below HBL0.out)
  go_wp2_with fail
  refine hc.mono ?_
  rintro r2 v1 ⟨rfl,hb⟩
  have HBL1:=Lib.hid (below_next HBL0.out hb)
  clear hc hb HBL0
  have hc:=r4take_no EV I (by omega) o 0 0 ⟨#[102,97,108,115,101]⟩ (Or.inl (by rw[isT_text HX.out hkk];exact decide_eq_false HT.out.2.1)) v1 ((HB.out.next HA1.out).then HBL1.out) (HR1.out.below HBL1.out)
  go_wp2_with fail
  refine hc.mono ?_
  rintro r2 v2 ⟨rfl,hb⟩
  have HBL2:=Lib.hid (below_next HBL1.out hb)
  clear hc hb HBL1
  have hc:=r4take_no EV I (by omega) o 0 0 ⟨#[40]⟩ (Or.inl (by rw[isT_text HX.out hkk];exact decide_eq_false HT.out.2.2.1)) v2 ((HB.out.next HA1.out).then HBL2.out) (HR1.out.below HBL2.out)
  go_wp2_with fail
  refine hc.mono ?_
  rintro r2 v3 ⟨rfl,hb⟩
  have HBL3:=Lib.hid (below_next HBL2.out hb)
  clear hc hb HBL2
  have hc:=r4take_no EV I (by omega) o 0 0 ⟨#[105,102]⟩ (Or.inl (by rw[isT_text HX.out hkk];exact decide_eq_false HT.out.2.2.2)) v3 ((HB.out.next HA1.out).then HBL3.out) (HR1.out.below HBL3.out)
  go_wp2_with fail
  refine hc.mono ?_
  rintro r2 v4 ⟨rfl,hb⟩
  have HBL4:=Lib.hid (below_next HBL3.out hb)
  clear hc hb HBL3
  have HR3:=Lib.hid (HR1.out.below HBL4.out)
  have HA3:=Lib.hid (HA1.out.then HBL4.out)
  have hf:=r4fail_yes EV I (by omega) o 0 5 v4 (HB.out.next HA3.out) HR3.out
  go_wp2_with fail
  refine hf.mono ?_
  rintro e w9 ⟨rfl,hR5,hA5⟩
  have HR5:=Lib.hid hR5
  have HA5:=Lib.hid (HA3.out.next hA5)
  clear hf hR5 hA5
  go_wp2_with fail
  go_ret
  rw[(Option.some.inj HP.out).symm];exact rpost_err HA5.out (by decide) (by omega) HR5.out
end
end Go.Proofs.YtmacepicoandkaaGreatDoor
