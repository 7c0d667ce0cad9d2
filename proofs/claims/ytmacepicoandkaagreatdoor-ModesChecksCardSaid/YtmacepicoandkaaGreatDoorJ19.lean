/- The reference's reader of expressions: operators ahead of an operand; numbers; within: the walk. The reference's reader of expressions: behind if: the walk. -/
import Derived.Test.YtmacepicoandkaaGreatDoorJ18
set_option linter.unusedVariables false
set_option linter.unusedSimpArgs false
namespace Go.Proofs.YtmacepicoandkaaGreatDoor
open Go.RowKit Go.Shelf Tx Px
theorem rValue_tok {L:List Tok} (hL:∀ t∈L,TokOk t) {i:Nat} {x:Tok} (hx:L[i]?=some x) (hk:x.k=2) (w:World) :
  Calls Tryz.prog 99 #[.string x.t] w fun e w'=>e=.returned (.int .i64 (Lx.val x.t.data.toList:Nat))∧w'=w:=by
 obtain⟨h1,h2,h3,-⟩:=(hL x (List.mem_of_getElem? hx)).num hk
 refine (rValue_any x.t h1 (by omega) w).mono ?_
 rintro e w' ⟨n,rfl,k1,k2,rfl⟩
 refine⟨?_,rfl⟩
 rw[k2 (by omega)]
theorem lst_eq (s:ByteArray) (l:List UInt8):(s.toList==l)=decide (s=bs l):=by
 have:=bytes_eq s (bs l)
 rw[Lib.toList_data (bs l)] at this
 exact this
def preI (s:ByteArray):Int:=(preAt s).getD 0
theorem preI_eq (s:ByteArray):preI s=if (s.toList == [110,111,116])=true then 4 else if (s.toList == [45])=true then 5 else if (s.toList == [112,114,101])=true then 21 else if (s.toList == [111,110,99,101])=true then 22
 else if (s.toList == [104,105,115,116])=true then 23 else if (s.toList == [112,114,101,118])=true then 24 else if (s.toList == [119,105,116,104,105,110])=true then 25 else 0:=by
 simp only[lst_eq,decide_eq_true_eq]
 unfold preI preAt
 repeat' split
 all_goals rfl
theorem ret_i {a b:Int} (h:a=b):Ending.returned (.int .i64 a)=.returned (.int .i64 b):=by rw[h]
set_option maxRecDepth 100000 in
set_option maxHeartbeats 1000000 in
theorem prefix_any (s:ByteArray) (w:World):Calls Tryz.prog 144 #[.string s] w fun e w'=>e=.returned (.int .i64 (preI s))∧w'=w:=by
 have HF:Hid (preI s=_):=preI_eq s
 go_enter Tryz.func144,Tryz.ntmps144
 go_wp2_with fail
 all_goals
  go_ret
  exact⟨ret_i (by rw[HF.out];simp only[*,if_true,if_false,Bool.false_eq_true]),rfl⟩
def withinS (p:Orc) (L:List Tok) (I o:Nat):Option Res:=match L[I+1]? with
 | some u=>if u.k=2∧Lx.val u.t.data.toList≤1000 then thenE (p (.bin 8) (I+2) o) fun a i=>one (node 25 (Lx.val u.t.data.toList) noS a) i else errAt L 5 (I+1)
 | none=>errAt L 5 (I+1)
section
variable {L : List Tok} {a : Option Addr} {cc rb : Nat} {w0 : World}
theorem r4one (op n:Int) (A:Fo) (u:Value) (w:World) (hu:IsE w u (A.flat 0)) (hA:A.count=1) (hz:A.size≤400000) (hop:op=4∨op=5∨(21≤op∧op≤25)) :
  Calls Tryz.prog 62 #[.int .i64 op,.int .i64 n,.string ⟨#[]⟩,.slice (some ⟨w.heap.size,0,none⟩) 1 1] (w.alloc (.cells #[u] 54)) fun r w'=>∃ v',r=.returned v'∧OwnE w.heap.size w' v' ((node op n noS A).flat 0)∧Below w.heap.size w w':=by
 have nb:=(Below.refl w.heap.size w).alloc (Nat.le_refl _) (.cells #[u] 54)
 have hj:=rJoin_any op n noS [A] (.slice (some ⟨w.heap.size,0,none⟩) 1 1) (w.alloc (.cells #[u] 54))
  (sg_one (Blk.new _ _ _) (Sl.below hu nb)) (fun F hF=>by simp at hF;subst hF;exact hA) (by simp[cat,Fo.size_app,Fo.size];omega) (by omega) (fun _=>by
   rw[kids_leaf,if_neg (by omega),if_neg (by omega),if_neg (by omega),if_neg (by omega),if_pos (by omega)];rfl)
 rw[join_one op n A (by omega)] at hj
 refine hj.mono ?_
 rintro r w1 ⟨v',rfl,ho,hb⟩
 exact⟨v',rfl,ho.mono nb.size,nb.trans (hb.mono nb.size)⟩
set_option maxRecDepth 100000 in
set_option maxHeartbeats 4000000 in
theorem r4within_any (EV:Hid (EnvOk w0 rb a cc L)) (f:Nat) (IH:Hid (LvOk w0 rb a cc L f)) (I o:Nat) (r:Res) (w:World) (hI:I<L.length) (hP:withinS (P L f) L I o=some r) (hB:Al rb w0 w) (hR:Rd rb (.slice a L.length cc) w I o 0 0) :
  Calls Tryz.prog 145 #[.pointer (some ⟨rb,0,none⟩)] w (RPost (Rd rb (.slice a L.length cc)) rb o w r):=by
 have hL:=EV.out.len
 have hcap:=EV.out.cap
 obtain⟨c0,c1,c2,c3,c4⟩:=hR.cells
 obtain⟨f0,f1,f2,f3,f4⟩:=hR.free
 obtain⟨W,hW⟩ : ∃ W,W=w.setCell ⟨rb,1,none⟩ (.int .i64 ((I:Int)+1)):=⟨_,rfl⟩
 have hR1:Rd rb (.slice a L.length cc) W ((I:Int)+1) o 0 0:=by rw[hW];exact hR.setI _
 have hA1:Al rb w W:=by rw[hW];exact (Al.refl _ _).set _ _
 have hB1:=hB.next hA1
 obtain⟨d0,d1,d2,d3,d4⟩:=hR1.cells
 obtain⟨g0,g1,g2,g3,g4⟩:=hR1.free
 have HR1:=Lib.hid hR1
 have HA1:=Lib.hid hA1
 have HB1:=Lib.hid hB1
 have HB0:=Lib.hid hB
 have HW:=Lib.hid hW
 have i0:(0:Int)≤(I:Int)+1:=by omega
 have i1:IntKind.i64.wrap ((I:Int)+1)=(I:Int)+1:=IntWalk.i64_in _ (by omega)
 by_cases h:I+1<L.length
 ·obtain⟨x,hx⟩ : ∃ x,L[I+1]?=some x:=⟨_,List.getElem?_eq_getElem h⟩
  obtain⟨b,q,rfl,t0,t1,t2⟩:=EV.out.tok W hB1 (I+1) x hx
  have h2:(I:Int)+1<(L.length:Int):=by omega
  have e3:((I:Int)+1).toNat=I+1:=by omega
  have e4:decide ((L.length:Int)≤(I:Int)+1)=false:=decide_eq_false (by omega)
  by_cases hk:x.k=2
  ·have hv:=rValue_tok EV.out.ok hx hk
   obtain⟨n,hn⟩ : ∃ n,n=Lx.val x.t.data.toList:=⟨_,rfl⟩
   have hnb:=((EV.out.ok x (List.mem_of_getElem? hx)).num hk).2.1
   rw[← hn] at hv hnb
   rw[hk] at t0
   by_cases hn2:n≤1000
   ·have HP:Hid ((thenE (P L f (.bin 8) (I+2) o) fun a i=>one (node 25 (n:Int) noS a) i)=some r):=by
     show _=_
     rw[← hP];unfold withinS;rw[hx];simp only;rw[if_pos ⟨hk,by omega⟩,hn]
    have hn3:(n:Int)≤1000:=by omega
    have e5:decide ((1000:Int)<(n:Int))=false:=decide_eq_false (by omega)
    have HV:=Lib.hid hv
    clear hP hx hn hR hB hW hR1 hA1 hB1 hk h
    go_enter Tryz.func145,Tryz.ntmps145
    go_wp2_with fail
    rw[← HW.out]
    clear HW
    have hv:=HV.out
    go_quiet ((go_at_call 99;exact Calls.quiet_of_same (hv _)))
    go_wp2_with fail
    have hv2:=HV.out
    generalize hW2:W.drewN nq=W2
    have hR2:Rd rb (.slice (some ⟨b,q,none⟩) L.length cc) W2 ((I:Int)+1) o 0 0:=by rw[← hW2];exact HR1.out
    have hA2:Al rb w W2:=by rw[← hW2];exact HA1.out.drewN nq
    have t0':W2.cell? ⟨b,q+(I+1) * 3,none⟩=some (.int .i64 (2:Nat)):=by rw[← hW2];exact t0
    have t1':W2.cell? ⟨b,q+(I+1) * 3+1,none⟩=some (.string x.t):=by rw[← hW2];exact t1
    have HR2:=Lib.hid hR2
    have HA2:=Lib.hid hA2
    clear hW2 c0 c1 c2 c3 c4 d0 d1 d2 d3 d4 g0 g1 g2 g3 g4 f0 f1 f2 f3 f4 t0 t1 t2
    obtain⟨d0,d1,d2,d3,d4⟩:=hR2.cells
    obtain⟨g0,g1,g2,g3,g4⟩:=hR2.free
    clear hR2 hA2
    go_still_tail 12,(by kernel_rfl)
    still_call (hv2 _)
    repeat still_step
    try refine wpStill_nil ?_
    clear hv hv2
    go_wp2_with fail
    generalize hW3:(W2.setCell ⟨rb,1,none⟩ (.int .i64 ((I:Int)+1+1))).drew=W3
    have hR3:Rd rb (.slice (some ⟨b,q,none⟩) L.length cc) W3 ((I+2:Nat):Int) o 0 0:=by
     rw[← hW3]
     have:=HR2.out.setI ((I:Int)+1+1)
     rw[show ((I+2:Nat):Int)=(I:Int)+1+1 by omega];exact this
    have hA3:Al rb w W3:=by rw[← hW3];exact (HA2.out.set _ _).drew
    obtain⟨r3,hr3⟩ : ∃ r3,P L f (.bin 8) (I+2) o=some r3:=by
     rcases thenE_some HP.out with ⟨e,h,_⟩ | ⟨a,i,h,_⟩
     ·exact⟨_,h⟩
     ·exact⟨_,h⟩
    have hcall:=IH.out 8 (I+2) o r3 W3 (by omega) (by omega) hr3 (HB0.out.next hA3) hR3
    have HR3:=Lib.hid hr3
    have HA3:=Lib.hid hA3
    clear hW3 hR3 hA3 hr3 d0 d1 d2 d3 d4 g0 g1 g2 g3 g4 t0' t1' HR2 HA2
    refine hcall.mono ?_
    rintro e w3 ⟨hA4,hpost⟩
    have HA4:Hid (Al rb w w3):=HA3.out.next hA4
    have hsz:w.heap.size≤w3.heap.size:=HA4.out.size
    clear hcall hA4 HA3
    match r3,hpost with
    | .error (c,p),⟨y,yn,yk,i3,he,hc,hi3,hR4⟩ =>
     subst he
     have HRE:Hid (r=.error (c,p)):=by
      rcases thenE_some HP.out with ⟨e,h,h2⟩ | ⟨a,i,h,_⟩
      ·have h3:=HR3.out.symm.trans h;cases h3;exact h2
      ·have h3:=HR3.out.symm.trans h;cases h3
     have HR4:=Lib.hid hR4
     obtain⟨c0,c1,c2,c3,c4⟩:=hR4.cells
     have e0:(c != 0)=true:=by simp[hc]
     have e00:(c==0)=false:=by simp[hc]
     clear hR4
     go_wp2_with fail
     go_ret
     rw[HRE.out];exact rpost_err HA4.out hc hi3 HR4.out
    | .ok (l,j),⟨G,v,hl,he,hO4,hR4⟩ =>
     subst hl he
     obtain⟨k1,k2,k3,k4⟩:=(P_ok EV.out.ok f).bin (by omega) HR3.out
     obtain⟨ya,yc,rfl,-⟩:=hO4.form
     have hj:=r4one 25 n G (.slice ya (G.flat 0).length yc) w3 hO4.isE k1.one (by omega) (by omega)
     have HRE:Hid (r=.ok ([node 25 n noS G],j)):=by
      rcases thenE_some HP.out with ⟨e,h,h2⟩ | ⟨a,i,h,h2⟩
      ·have h3:=HR3.out.symm.trans h;cases h3
      ·have h3:=HR3.out.symm.trans h;cases h3
       exact one_some h2
     have HR5:=Lib.hid hR4
     obtain⟨c0,c1,c2,c3,c4⟩:=hR4.cells
     clear hR4 hO4 k1
     go_wp2_with fail
     refine hj.mono ?_
     rintro r4 w4 ⟨v4,rfl,ho,hb⟩
     have HR6:=Lib.hid (HR5.out.below hb)
     have HA6:=Lib.hid (HA4.out.then hb)
     have HO6:=Lib.hid (ho.mono hsz)
     clear hj ho hb c0 c1 c2 c3 c4
     go_wp2_with fail
     go_ret
     rw[HRE.out];exact rpost_ok HA6.out HO6.out HR6.out
   ·have HP:Hid (r=.error (5,atP L (I+1))):=by
     have h:=hP
     unfold withinS at h;rw[hx] at h;simp only at h;rw[if_neg (by omega)] at h
     exact (Option.some.inj h).symm
    have e5:decide ((1000:Int)<(n:Int))=true:=decide_eq_true (by omega)
    have HV:=Lib.hid hv
    clear hP hx hn hR hB hW hR1 hA1 hB1 hk h
    go_enter Tryz.func145,Tryz.ntmps145
    go_wp2_with fail
    rw[← HW.out]
    clear HW
    have hv:=HV.out
    go_quiet ((go_at_call 99;exact Calls.quiet_of_same (hv _)))
    clear hv
    go_wp2_with fail
    generalize hW2:W.drewN nq=W2
    have hR2:Rd rb (.slice (some ⟨b,q,none⟩) L.length cc) W2 ((I:Int)+1) o 0 0:=by rw[← hW2];exact HR1.out
    have HA2:Hid (Al rb w W2):=by show Al _ _ _;rw[← hW2];exact HA1.out.drewN nq
    have hf:=r4fail_yes EV (I+1) (by omega) o 0 5 W2 (HB0.out.next HA2.out) hR2
    clear hW2 c0 c1 c2 c3 c4 d0 d1 d2 d3 d4 g0 g1 g2 g3 g4 f0 f1 f2 f3 f4 t0 t1 t2 hR2
    refine hf.mono ?_
    rintro e w3 ⟨rfl,hR3,hA3⟩
    have HR3:=Lib.hid hR3
    have HA3:=Lib.hid hA3
    clear hf hR3 hA3
    go_wp2_with fail
    go_ret
    rw[HP.out];exact rpost_err (HA2.out.next HA3.out) (by decide) (by omega) HR3.out
  ·have HP:Hid (r=.error (5,atP L (I+1))):=by
    have h:=hP
    unfold withinS at h;rw[hx] at h;simp only at h;rw[if_neg (fun e=>hk e.1)] at h
    exact (Option.some.inj h).symm
   have e6:((x.k:Int) != 2)=true:=by rw[bne_iff_ne];omega
   clear hP hx hR hB hW hR1 hA1 hB1 hk h
   go_enter Tryz.func145,Tryz.ntmps145
   go_wp2_with fail
   rw[← HW.out]
   clear HW
   go_quiet (fail)
   go_wp2_with fail
   generalize hW2:W.drewN nq=W2
   have hR2:Rd rb (.slice (some ⟨b,q,none⟩) L.length cc) W2 ((I:Int)+1) o 0 0:=by rw[← hW2];exact HR1.out
   have HA2:Hid (Al rb w W2):=by show Al _ _ _;rw[← hW2];exact HA1.out.drewN nq
   have hf:=r4fail_yes EV (I+1) (by omega) o 0 5 W2 (HB0.out.next HA2.out) hR2
   clear hW2 c0 c1 c2 c3 c4 d0 d1 d2 d3 d4 g0 g1 g2 g3 g4 f0 f1 f2 f3 f4 t0 t1 t2 hR2
   refine hf.mono ?_
   rintro e w3 ⟨rfl,hR3,hA3⟩
   have HR3:=Lib.hid hR3
   have HA3:=Lib.hid hA3
   clear hf hR3 hA3
   go_wp2_with fail
   go_ret
   rw[HP.out];exact rpost_err (HA2.out.next HA3.out) (by decide) (by omega) HR3.out
 ·have HP:Hid (r=.error (5,atP L (I+1))):=by
   have h':=hP
   unfold withinS at h';rw[List.getElem?_eq_none (by omega)] at h'
   exact (Option.some.inj h').symm
  have e4:decide ((L.length:Int)≤(I:Int)+1)=true:=decide_eq_true (by omega)
  clear hP hR hB hW hR1 hA1 hB1 h
  go_enter Tryz.func145,Tryz.ntmps145
  go_wp2_with fail
  rw[← HW.out]
  clear HW
  go_quiet (fail)
  go_wp2_with fail
  generalize hW2:W.drewN nq=W2
  have hR2:Rd rb (.slice a L.length cc) W2 ((I:Int)+1) o 0 0:=by rw[← hW2];exact HR1.out
  have HA2:Hid (Al rb w W2):=by show Al _ _ _;rw[← hW2];exact HA1.out.drewN nq
  have hf:=r4fail_yes EV (I+1) (by omega) o 0 5 W2 (HB0.out.next HA2.out) hR2
  clear hW2 c0 c1 c2 c3 c4 d0 d1 d2 d3 d4 g0 g1 g2 g3 g4 f0 f1 f2 f3 f4  hR2
  refine hf.mono ?_
  rintro e w3 ⟨rfl,hR3,hA3⟩
  have HR3:=Lib.hid hR3
  have HA3:=Lib.hid hA3
  clear hf hR3 hA3
  go_wp2_with fail
  go_ret
  rw[HP.out];exact rpost_err (HA2.out.next HA3.out) (by decide) (by omega) HR3.out
end
end Go.Proofs.YtmacepicoandkaaGreatDoor
namespace Go.Proofs.YtmacepicoandkaaGreatDoor
open Go.RowKit Go.Shelf Tx Px
theorem needT_two {L:List Tok} {s:ByteArray} {i:Nat} {f:Nat→Option Res} {q:Res} (h:needT L s i f=some q):(isT L i s=false∧q=.error (5,atP L i))∨(isT L i s=true∧f (i+1)=some q):=by
 unfold needT errAt at h
 split at h
 ·rename_i h1;exact Or.inr ⟨h1,h⟩
 ·rename_i h1;exact Or.inl ⟨by simpa using h1,(Option.some.inj h).symm⟩
theorem thenE_is {q:Option Res} {f:Fo→Nat→Option Res} {r:Res} {a:Fo} {i:Nat} (h:thenE q f=some r) (hq:q=some (.ok ([a],i))):f a i=some r:=by rw[hq] at h;exact h
theorem needT_is {L:List Tok} {s:ByteArray} {i:Nat} {f:Nat→Option Res} {q:Res} (h:needT L s i f=some q) (hs:isT L i s=true):f (i+1)=some q:=by unfold needT at h;rw[if_pos hs] at h;exact h
section
variable {L : List Tok} {a : Option Addr} {cc rb : Nat} {w0 : World}
theorem r4three (A B C:Fo) (u v z:Value) (w:World) (hu:IsE w u (A.flat 0)) (hv:IsE w v (B.flat 0)) (hz:IsE w z (C.flat 0)) (hA:A.count=1) (hB:B.count=1) (hC:C.count=1) (hs:A.size+B.size+C.size≤400000) :
  Calls Tryz.prog 62 #[.int .i64 26,.int .i64 0,.string ⟨#[]⟩,.slice (some ⟨w.heap.size,0,none⟩) 3 3] (w.alloc (.cells #[u,v,z] 54)) fun r w'=>∃ v',r=.returned v'∧OwnE w.heap.size w' v' ((node 26 0 noS (A.app (B.app C))).flat 0)∧Below w.heap.size w w':=by
 have nb:=(Below.refl w.heap.size w).alloc (Nat.le_refl _) (.cells #[u,v,z] 54)
 have hj:=rJoin_any 26 0 noS [A,B,C] (.slice (some ⟨w.heap.size,0,none⟩) 3 3) (w.alloc (.cells #[u,v,z] 54))
  (sg_three (Blk.new _ _ _) (Sl.below hu nb) (Sl.below hv nb) (Sl.below hz nb)) (fun F hF=>by simp at hF;rcases hF with rfl | rfl | rfl;exact hA;exact hB;exact hC) (by simp[cat,Fo.size_app,Fo.size];omega) (by omega) (fun _=>by
   rw[kids_leaf,if_pos rfl];rfl)
 rw[join_three 26 0 A B C (by omega)] at hj
 refine hj.mono ?_
 rintro r w1 ⟨v',rfl,ho,hb⟩
 exact⟨v',rfl,ho.mono nb.size,nb.trans (hb.mono nb.size)⟩
def choiceS (p:Orc) (L:List Tok) (I o:Nat):Option Res:=thenE (p (.bin 0) I o) fun a i=>needT L tThen i fun i=>thenE (p (.bin 0) i o) fun b i=>needT L tElse i fun i=>thenE (p (.bin 0) i o) fun c i=>one (node 26 0 noS (a.app (b.app c))) i
set_option maxRecDepth 100000 in
set_option maxHeartbeats 4000000 in
theorem r4choice_any (EV:Hid (EnvOk w0 rb a cc L)) (f:Nat) (IH:Hid (LvOk w0 rb a cc L f)) (I o:Nat) (r:Res) (w:World) (hI:I≤L.length) (hP:choiceS (P L f) L I o=some r) (hB:Al rb w0 w) (hR:Rd rb (.slice a L.length cc) w I o 0 0) :
  Calls Tryz.prog 147 #[.pointer (some ⟨rb,0,none⟩)] w (RPost (Rd rb (.slice a L.length cc)) rb o w r):=by
 have hL:=EV.out.len
 have hlt:=hR.lt
 obtain⟨nb,hnb⟩ : ∃ nb,nb=w.heap.size:=⟨_,rfl⟩
 have HNB:=Lib.hid hnb
 rw[← hnb] at hlt
 have HB0:=Lib.hid hB
 have HP0:Hid (choiceS (P L f) L I o=some r):=hP
 have HR0:=Lib.hid hR
 have HA0:Hid (Al rb w w):=Al.refl _ _
 clear hB hP hR hnb
 go_enter Tryz.func147,Tryz.ntmps147
 obtain⟨r1,hr⟩ : ∃ q,P L f (.bin 0) I o=some q:=by
  rcases thenE_some HP0.out with ⟨e,h,_⟩ | ⟨a,i,h,_⟩
  ·exact⟨_,h⟩
  ·exact⟨_,h⟩
 have HQ1:=Lib.hid hr
 have hcall:=IH.out 0 I o r1 w (by omega) (by omega) hr (HB0.out.next HA0.out) HR0.out
 clear hr
 go_wp2_with fail
 refine hcall.mono ?_
 rintro e w1 ⟨hA,hpost⟩
 have HA1:=Lib.hid (HA0.out.next hA)
 have hsz1:nb≤w1.heap.size:=by rw[HNB.out];exact HA1.out.size
 have hsw1:nb≤w.heap.size:=by rw[HNB.out];exact HA0.out.size
 clear hcall hA
 match r1,hpost with
 | .error (c,p),⟨y,yn,yk,i3,he,hc,hi3,hR4⟩ =>
  subst he
  have HRE:Hid (r=.error (c,p)):=by
   rcases thenE_some HP0.out with ⟨e,h,h2⟩ | ⟨a,i,h,_⟩
   ·have h3:=HQ1.out.symm.trans h;cases h3;exact h2
   ·have h3:=HQ1.out.symm.trans h;cases h3
  have HRf:=Lib.hid hR4
  have HAf:=HA1
  clear hR4
  have hf:=r4need_fault EV i3 hi3 o c p ⟨#[116,104,101,110]⟩ hc w1 (HB0.out.next HAf.out) HRf.out
  go_wp2_with fail
  refine hf.mono ?_
  rintro e u1 ⟨rfl,hb⟩
  replace HRf:=Lib.hid (HRf.out.below hb)
  replace HAf:=Lib.hid (HAf.out.then hb)
  clear hf hb
  have hf:=r4Arrow_fault EV i3 hi3 o c p hc u1 (HB0.out.next HAf.out) HRf.out
  go_wp2_with fail
  refine hf.mono ?_
  rintro e u2 ⟨rfl,hb⟩
  replace HRf:=Lib.hid (HRf.out.below hb)
  replace HAf:=Lib.hid (HAf.out.then hb)
  clear hf hb
  have hf:=r4need_fault EV i3 hi3 o c p ⟨#[101,108,115,101]⟩ hc u2 (HB0.out.next HAf.out) HRf.out
  go_wp2_with fail
  refine hf.mono ?_
  rintro e u3 ⟨rfl,hb⟩
  replace HRf:=Lib.hid (HRf.out.below hb)
  replace HAf:=Lib.hid (HAf.out.then hb)
  clear hf hb
  have hf:=r4Arrow_fault EV i3 hi3 o c p hc u3 (HB0.out.next HAf.out) HRf.out
  go_wp2_with fail
  refine hf.mono ?_
  rintro e u4 ⟨rfl,hb⟩
  replace HRf:=Lib.hid (HRf.out.below hb)
  replace HAf:=Lib.hid (HAf.out.then hb)
  clear hf hb
  obtain⟨c0,c1,c2,c3,c4⟩:=HRf.out.cells
  have e0:(c != 0)=true:=by simp[hc]
  have e00:(c==0)=false:=by simp[hc]
  go_wp2_with fail
  go_ret
  rw[HRE.out];exact rpost_err HAf.out hc hi3 HRf.out
 | .ok (l,j1),⟨F1,v1,hl,he,hO,hR4⟩ =>
  subst hl he
  obtain⟨k1,k2,hj1,k4⟩:=(P_ok EV.out.ok f).bin (by omega) HQ1.out
  obtain⟨va1,vc1,rfl,-⟩:=hO.form
  have hlj1:I≤j1:=k2
  have hsz01:F1.size+1≤3 * (j1 - I):=k4
  have HG1:=Lib.hid k1
  have HO1:Hid (OwnE nb w1 (.slice va1 (F1.flat 0).length vc1) (F1.flat 0)):=hO.mono hsw1
  have HR1:=Lib.hid hR4
  have HP1:=Lib.hid (thenE_is HP0.out HQ1.out)
  clear hR4 hO k1 k2 k4
  rcases hT2:isT L j1 ⟨#[116,104,101,110]⟩ with _ | _
  ·have hn:=r4need_no EV j1 (by omega) o 0 ⟨#[116,104,101,110]⟩ hT2 w1 (HB0.out.next HA1.out) HR1.out
   have HRE:Hid (r=.error (5,atP L j1)):=by
    rcases needT_two HP1.out with h | ⟨h,_⟩
    ·exact h.2
    ·exact absurd (hT2.symm.trans h) (by decide)
   have HT:=Lib.hid hT2
   clear hT2
   go_wp2_with fail
   refine hn.mono ?_
   rintro e w2 ⟨rfl,hR4,hA⟩
   have HAf:=Lib.hid (HA1.out.next hA)
   obtain⟨c,p,hc,i3,hi3,hRe,hR5⟩ : ∃ (c p:Int),c≠0∧∃ i3:Nat,i3≤200000∧Hid (r=.error (c,p))∧Rd rb (.slice a L.length cc) w2 i3 o c p:=⟨5,atP L j1,by decide,j1,by omega,HRE,hR4⟩
   have HRf:=Lib.hid hR5
   clear hn hR4 hA hR5 HRE
   have HRE:=hRe
   have hf:=r4Arrow_fault EV i3 hi3 o c p hc w2 (HB0.out.next HAf.out) HRf.out
   go_wp2_with fail
   refine hf.mono ?_
   rintro e u1 ⟨rfl,hb⟩
   replace HRf:=Lib.hid (HRf.out.below hb)
   replace HAf:=Lib.hid (HAf.out.then hb)
   clear hf hb
   have hf:=r4need_fault EV i3 hi3 o c p ⟨#[101,108,115,101]⟩ hc u1 (HB0.out.next HAf.out) HRf.out
   go_wp2_with fail
   refine hf.mono ?_
   rintro e u2 ⟨rfl,hb⟩
   replace HRf:=Lib.hid (HRf.out.below hb)
   replace HAf:=Lib.hid (HAf.out.then hb)
   clear hf hb
   have hf:=r4Arrow_fault EV i3 hi3 o c p hc u2 (HB0.out.next HAf.out) HRf.out
   go_wp2_with fail
   refine hf.mono ?_
   rintro e u3 ⟨rfl,hb⟩
   replace HRf:=Lib.hid (HRf.out.below hb)
   replace HAf:=Lib.hid (HAf.out.then hb)
   clear hf hb
   obtain⟨c0,c1,c2,c3,c4⟩:=HRf.out.cells
   have e0:(c != 0)=true:=by simp[hc]
   have e00:(c==0)=false:=by simp[hc]
   go_wp2_with fail
   go_ret
   rw[HRE.out];exact rpost_err HAf.out hc hi3 HRf.out
  ·have hn:=r4need_yes EV j1 (by omega) o 0 ⟨#[116,104,101,110]⟩ hT2 w1 (HB0.out.next HA1.out) HR1.out
   have hlt2:j1<L.length:=isT_lt hT2
   have HP2:=Lib.hid (needT_is HP1.out hT2)
   clear hT2
   go_wp2_with fail
   refine hn.mono ?_
   rintro e w2 ⟨rfl,hR4,hA⟩
   have HR2:Hid (Rd rb (.slice a L.length cc) w2 ((j1+1:Nat):Int) o 0 0):=by show Rd _ _ _ _ _ _ _;simpa using hR4
   have HA2:=Lib.hid (HA1.out.next hA)
   replace HO1:=Lib.hid (hA.ownE HO1.out hlt)
   clear hn hR4 hA
   obtain⟨r3,hr⟩ : ∃ q,P L f (.bin 0) (j1+1) o=some q:=by
    rcases thenE_some HP2.out with ⟨e,h,_⟩ | ⟨a,i,h,_⟩
    ·exact⟨_,h⟩
    ·exact⟨_,h⟩
   have HQ3:=Lib.hid hr
   have hcall:=IH.out 0 (j1+1) o r3 w2 (by omega) (by omega) hr (HB0.out.next HA2.out) HR2.out
   clear hr
   go_wp2_with fail
   refine hcall.mono ?_
   rintro e w3 ⟨hA,hpost⟩
   have HA3:=Lib.hid (HA2.out.next hA)
   replace HO1:=Lib.hid (hA.ownE HO1.out hlt)
   have hsz3:nb≤w3.heap.size:=by rw[HNB.out];exact HA3.out.size
   have hsw3:nb≤w2.heap.size:=by rw[HNB.out];exact HA2.out.size
   clear hcall hA
   match r3,hpost with
   | .error (c,p),⟨y,yn,yk,i3,he,hc,hi3,hR4⟩ =>
    subst he
    have HRE:Hid (r=.error (c,p)):=by
     rcases thenE_some HP2.out with ⟨e,h,h2⟩ | ⟨a,i,h,_⟩
     ·have h3:=HQ3.out.symm.trans h;cases h3;exact h2
     ·have h3:=HQ3.out.symm.trans h;cases h3
    have HRf:=Lib.hid hR4
    have HAf:=HA3
    clear hR4
    have hf:=r4need_fault EV i3 hi3 o c p ⟨#[101,108,115,101]⟩ hc w3 (HB0.out.next HAf.out) HRf.out
    go_wp2_with fail
    refine hf.mono ?_
    rintro e u1 ⟨rfl,hb⟩
    replace HRf:=Lib.hid (HRf.out.below hb)
    replace HAf:=Lib.hid (HAf.out.then hb)
    clear hf hb
    have hf:=r4Arrow_fault EV i3 hi3 o c p hc u1 (HB0.out.next HAf.out) HRf.out
    go_wp2_with fail
    refine hf.mono ?_
    rintro e u2 ⟨rfl,hb⟩
    replace HRf:=Lib.hid (HRf.out.below hb)
    replace HAf:=Lib.hid (HAf.out.then hb)
    clear hf hb
    obtain⟨c0,c1,c2,c3,c4⟩:=HRf.out.cells
    have e0:(c != 0)=true:=by simp[hc]
    have e00:(c==0)=false:=by simp[hc]
    go_wp2_with fail
    go_ret
    rw[HRE.out];exact rpost_err HAf.out hc hi3 HRf.out
   | .ok (l,j3),⟨F3,v3,hl,he,hO,hR4⟩ =>
    subst hl he
    obtain⟨k1,k2,hj3,k4⟩:=(P_ok EV.out.ok f).bin (by omega) HQ3.out
    obtain⟨va3,vc3,rfl,-⟩:=hO.form
    have hlj3:(j1+1)≤j3:=k2
    have hsz03:F3.size+1≤3 * (j3 - (j1+1)):=k4
    have HG3:=Lib.hid k1
    have HO3:Hid (OwnE nb w3 (.slice va3 (F3.flat 0).length vc3) (F3.flat 0)):=hO.mono hsw3
    have HR3:=Lib.hid hR4
    have HP3:=Lib.hid (thenE_is HP2.out HQ3.out)
    clear hR4 hO k1 k2 k4
    rcases hT4:isT L j3 ⟨#[101,108,115,101]⟩ with _ | _
    ·have hn:=r4need_no EV j3 (by omega) o 0 ⟨#[101,108,115,101]⟩ hT4 w3 (HB0.out.next HA3.out) HR3.out
     have HRE:Hid (r=.error (5,atP L j3)):=by
      rcases needT_two HP3.out with h | ⟨h,_⟩
      ·exact h.2
      ·exact absurd (hT4.symm.trans h) (by decide)
     have HT:=Lib.hid hT4
     clear hT4
     go_wp2_with fail
     refine hn.mono ?_
     rintro e w4 ⟨rfl,hR4,hA⟩
     have HAf:=Lib.hid (HA3.out.next hA)
     obtain⟨c,p,hc,i3,hi3,hRe,hR5⟩ : ∃ (c p:Int),c≠0∧∃ i3:Nat,i3≤200000∧Hid (r=.error (c,p))∧Rd rb (.slice a L.length cc) w4 i3 o c p:=⟨5,atP L j3,by decide,j3,by omega,HRE,hR4⟩
     have HRf:=Lib.hid hR5
     clear hn hR4 hA hR5 HRE
     have HRE:=hRe
     have hf:=r4Arrow_fault EV i3 hi3 o c p hc w4 (HB0.out.next HAf.out) HRf.out
     go_wp2_with fail
     refine hf.mono ?_
     rintro e u1 ⟨rfl,hb⟩
     replace HRf:=Lib.hid (HRf.out.below hb)
     replace HAf:=Lib.hid (HAf.out.then hb)
     clear hf hb
     obtain⟨c0,c1,c2,c3,c4⟩:=HRf.out.cells
     have e0:(c != 0)=true:=by simp[hc]
     have e00:(c==0)=false:=by simp[hc]
     go_wp2_with fail
     go_ret
     rw[HRE.out];exact rpost_err HAf.out hc hi3 HRf.out
    ·have hn:=r4need_yes EV j3 (by omega) o 0 ⟨#[101,108,115,101]⟩ hT4 w3 (HB0.out.next HA3.out) HR3.out
     have hlt4:j3<L.length:=isT_lt hT4
     have HP4:=Lib.hid (needT_is HP3.out hT4)
     clear hT4
     go_wp2_with fail
     refine hn.mono ?_
     rintro e w4 ⟨rfl,hR4,hA⟩
     have HR4:Hid (Rd rb (.slice a L.length cc) w4 ((j3+1:Nat):Int) o 0 0):=by show Rd _ _ _ _ _ _ _;simpa using hR4
     have HA4:=Lib.hid (HA3.out.next hA)
     replace HO1:=Lib.hid (hA.ownE HO1.out hlt)
     replace HO3:=Lib.hid (hA.ownE HO3.out hlt)
     clear hn hR4 hA
     obtain⟨r5,hr⟩ : ∃ q,P L f (.bin 0) (j3+1) o=some q:=by
      rcases thenE_some HP4.out with ⟨e,h,_⟩ | ⟨a,i,h,_⟩
      ·exact⟨_,h⟩
      ·exact⟨_,h⟩
     have HQ5:=Lib.hid hr
     have hcall:=IH.out 0 (j3+1) o r5 w4 (by omega) (by omega) hr (HB0.out.next HA4.out) HR4.out
     clear hr
     go_wp2_with fail
     refine hcall.mono ?_
     rintro e w5 ⟨hA,hpost⟩
     have HA5:=Lib.hid (HA4.out.next hA)
     replace HO1:=Lib.hid (hA.ownE HO1.out hlt)
     replace HO3:=Lib.hid (hA.ownE HO3.out hlt)
     have hsz5:nb≤w5.heap.size:=by rw[HNB.out];exact HA5.out.size
     have hsw5:nb≤w4.heap.size:=by rw[HNB.out];exact HA4.out.size
     clear hcall hA
     match r5,hpost with
     | .error (c,p),⟨y,yn,yk,i3,he,hc,hi3,hR4⟩ =>
      subst he
      have HRE:Hid (r=.error (c,p)):=by
       rcases thenE_some HP4.out with ⟨e,h,h2⟩ | ⟨a,i,h,_⟩
       ·have h3:=HQ5.out.symm.trans h;cases h3;exact h2
       ·have h3:=HQ5.out.symm.trans h;cases h3
      have HRf:=Lib.hid hR4
      have HAf:=HA5
      clear hR4
      obtain⟨c0,c1,c2,c3,c4⟩:=HRf.out.cells
      have e0:(c != 0)=true:=by simp[hc]
      have e00:(c==0)=false:=by simp[hc]
      go_wp2_with fail
      go_ret
      rw[HRE.out];exact rpost_err HAf.out hc hi3 HRf.out
     | .ok (l,j5),⟨F5,v5,hl,he,hO,hR4⟩ =>
      subst hl he
      obtain⟨k1,k2,hj5,k4⟩:=(P_ok EV.out.ok f).bin (by omega) HQ5.out
      obtain⟨va5,vc5,rfl,-⟩:=hO.form
      have hlj5:(j3+1)≤j5:=k2
      have hsz05:F5.size+1≤3 * (j5 - (j3+1)):=k4
      have HG5:=Lib.hid k1
      have HO5:Hid (OwnE nb w5 (.slice va5 (F5.flat 0).length vc5) (F5.flat 0)):=hO.mono hsw5
      have HR5:=Lib.hid hR4
      have HP5:=Lib.hid (thenE_is HP4.out HQ5.out)
      clear hR4 hO k1 k2 k4
      have hj:=r4three F1 F3 F5 (.slice va1 (F1.flat 0).length vc1) (.slice va3 (F3.flat 0).length vc3) (.slice va5 (F5.flat 0).length vc5) w5 HO1.out.isE HO3.out.isE HO5.out.isE HG1.out.one HG3.out.one HG5.out.one (by omega)
      have HRE:=Lib.hid (one_some HP5.out)
      obtain⟨c0,c1,c2,c3,c4⟩:=HR5.out.cells
      have hsz:w.heap.size≤w5.heap.size:=HA5.out.size
      go_wp2_with fail
      refine hj.mono ?_
      rintro r4 w9 ⟨v9,rfl,ho,hb⟩
      have HR9:=Lib.hid (HR5.out.below hb)
      have HA9:=Lib.hid (HA5.out.then hb)
      have HO9:=Lib.hid (ho.mono hsz)
      clear hj ho hb c0 c1 c2 c3 c4
      go_wp2_with fail
      go_ret
      rw[HRE.out];exact rpost_ok HA9.out HO9.out HR9.out
end
end Go.Proofs.YtmacepicoandkaaGreatDoor
