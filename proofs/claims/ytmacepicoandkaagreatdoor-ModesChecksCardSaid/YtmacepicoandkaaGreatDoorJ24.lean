/- The reference's reader of expressions: the level of or: the walk. The reference's reader of expressions: an operand, each level: the walk. The reference's reader of expressions: an expression out of tokens: the walk. -/
import Derived.Test.YtmacepicoandkaaGreatDoorJ8
import Derived.Test.YtmacepicoandkaaGreatDoorJ17
import Derived.Test.YtmacepicoandkaaGreatDoorJ21
import Derived.Test.YtmacepicoandkaaGreatDoorJ22
import Derived.Test.YtmacepicoandkaaGreatDoorJ23
set_option linter.unusedVariables false
set_option linter.unusedSimpArgs false
namespace Go.Proofs.YtmacepicoandkaaGreatDoor
open Go.RowKit Go.Shelf Tx Px
section
variable {L : List Tok} {a : Option Addr} {cc rb : Nat} {w0 : World}
set_option maxRecDepth 100000 in
set_option maxHeartbeats 4000000 in
theorem r4or_any (EV:Hid (EnvOk w0 rb a cc L)) (f:Nat) (IH:Hid (∀ g,g<f→LvOk w0 rb a cc L g)) (I o:Nat) (r:Res) (w:World) (hI:I≤L.length) (hP:P L f (.bin 3) I o=some r) (hB:Al rb w0 w) (hR:Rd rb (.slice a L.length cc) w I o 0 0) :
  Calls Tryz.prog 126 #[.pointer (some ⟨rb,0,none⟩)] w (RPost (Rd rb (.slice a L.length cc)) rb o w r):=by
 obtain⟨g,rfl,hcs⟩:=bin_cases (by omega) hP
 have hL:=EV.out.len
 have hlt:=hR.lt
 obtain⟨nb,hnb⟩ : ∃ nb,nb=w.heap.size:=⟨_,rfl⟩
 have HNB:=Lib.hid hnb
 have HB:=Lib.hid hB
 rw[← hnb] at hlt
 have h1:∀ r1,P L g (.bin 4) I o=some r1→_:=fun r1 h=>IH.out g (by omega) 4 I o r1 w (by omega) hI h hB hR
 have H1:Hid (∀ r1,P L g (.bin 4) I o=some r1→_):=h1
 have HC:=Lib.hid hcs
 clear hP hcs h1 hB hR hnb
 obtain⟨r1,hr1⟩ : ∃ r1,P L g (.bin 4) I o=some r1:=by
  rcases HC.out with ⟨e,h,_⟩ | ⟨a,i,h,_⟩
  ·exact⟨_,h⟩
  ·exact⟨_,h⟩
 have HR1:=Lib.hid hr1
 clear hr1
 go_enter Tryz.func126,Tryz.ntmps126
 go_wp2_with fail
 refine (H1.out r1 HR1.out).mono ?_
 rintro e w1 ⟨hA,hpost⟩
 have HLP:Hid (∃ av,e=.returned av∧(∃ x n k,av=.slice x n k)∧LpR (Rd rb (.slice a L.length cc)) L rb nb o w 3 (g+1) r av w1):=by
  rcases HC.out with ⟨⟨c,p⟩,h,h2⟩ | ⟨F,i,h,h2⟩
  ·have h3:=HR1.out.symm.trans h
   cases h3
   obtain⟨x,n,k,i,h4,h5,h6,h7⟩:=hpost
   exact⟨_,h4,⟨_,_,_,rfl⟩,hA,Or.inr ⟨c,p,x,n,k,i,h2,h5,h6,h7,rfl⟩⟩
  ·have h3:=HR1.out.symm.trans h
   cases h3
   obtain⟨F',v,h4,h5,h6,h7⟩:=hpost
   cases h4
   obtain⟨g1,g2,g3,g4⟩:=(P_ok EV.out.ok g).bin hI h
   obtain⟨va,vc,hv,-⟩:=h6.form
   exact⟨v,h5,⟨_,_,_,hv⟩,hA,Or.inl ⟨F,i,g,by omega,by rw[HNB.out];exact h6,g1,by omega,g3,h7,h2⟩⟩
 obtain⟨av,rfl,⟨ax,an,ak,rfl⟩,hlp⟩:=HLP.out
 have HLP2:=Lib.hid hlp
 clear HLP hlp hpost hA H1 HR1 HC
 go_wp2_with fail
 go_loopw [3] (fun av wr=>LpR (Rd rb (.slice a L.length cc)) L rb nb o w 3 (g+1) r av wr) (fun _ wr=>mR rb 1 3 L.length wr)
 case atStart=>exact HLP2.out
 case round =>
  obtain⟨hA,⟨F,i,g2,hg2,hO,hG,hF,hi,hR,hP⟩ | ⟨c,p,x,n,k,i,hr,hc,hi,hR,rfl⟩⟩:=hrel
  ·have hBr:Al rb w0 wr:=HB.out.next hA
   obtain⟨va,vc,rfl,-⟩:=hO.form
   have hfr:=mR_ok (N:=L.length) hR.cells.2.1 hR.cells.2.2.2.1
   have HM:=Lib.hid hfr
   rcases loop_cases hP with ⟨hn,rfl⟩ | ⟨g3,s,op,sw,rfl,hs,hop,hrest⟩
   ·have HE:Hid (∀ w2,Below wr.heap.size wr w2→RPost (Rd rb (.slice a L.length cc)) rb o w (.ok ([F],i)) (.returned (.slice va (F.flat 0).length vc)) w2):=fun w2 hb=>rpost_ok (hA.then hb) (by rw[← HNB.out];exact hO.below hb) (hR.below hb)
    have HR0:=Lib.hid hR
    have HB0:Hid (Al rb w0 wr):=hBr
    have HBL0:Hid (Below wr.heap.size wr wr):=Below.refl _ _
    have hno0:Hid (isT L i ⟨#[111,114]⟩=false∨(0:Int)≠0):=Or.inl (isT_none hn (by decide))
    have hno1:Hid (isT L i ⟨#[120,111,114]⟩=false∨(0:Int)≠0):=Or.inl (isT_none hn (by decide))
    clear hP hn hBr hA hO hG hF hR hfr
    have hc0:=r4is_no EV i (by omega) o 0 0 ⟨#[111,114]⟩ hno0.out wr HB0.out HR0.out
    go_wp2_with fail
    refine hc0.mono ?_
    rintro r2 w2 ⟨rfl,hb⟩
    have HR1:=Lib.hid (HR0.out.below hb)
    have HB1:=Lib.hid (HB0.out.then hb)
    have HBL1:=Lib.hid (below_next HBL0.out hb)
    clear hc0 hb HR0 HB0 HBL0
    have hc1:=r4is_no EV i (by omega) o 0 0 ⟨#[120,111,114]⟩ hno1.out w2 HB1.out HR1.out
    go_wp2_with fail
    refine hc1.mono ?_
    rintro r2 w3 ⟨rfl,hb⟩
    have HR2:=Lib.hid (HR1.out.below hb)
    have HB2:=Lib.hid (HB1.out.then hb)
    have HBL2:=Lib.hid (below_next HBL1.out hb)
    clear hc1 hb HR1 HB1 HBL1
    go_wp2_with fail
    go_ret
    exact HE.out w3 HBL2.out
   ·have hil:i<L.length:=hereT_lt hs
    have hso:(s=⟨#[111,114]⟩∧op=7∧sw=false)∨(s=⟨#[120,111,114]⟩∧op=8∧sw=false):=by
     unfold Px.opAt at hop
     simp only at hop
     repeat' (split at hop)
     all_goals first | (cases hop;done) | (rename_i e;cases hop;rw[e];simp[bs])
    have HO:=Lib.hid hO
    have HG:=Lib.hid hG
    have HA:=Lib.hid hA
    have HR0:=Lib.hid hR
    have HBR:=Lib.hid hBr
    have HBL0:Hid (Below wr.heap.size wr wr):=Below.refl _ _
    have HRS:=Lib.hid hrest
    have hrw:nb≤wr.heap.size:=by rw[HNB.out];exact hA.size
    clear hP hop hBr hA hO hG hR hfr hrest
    rcases hso with ⟨rfl,rfl,rfl⟩ | ⟨rfl,rfl,rfl⟩
    ·have HS:=Lib.hid hs
     clear hs
     have hc:=r4is_yes EV i (by omega) o 0 ⟨#[111,114]⟩ (by rw[isT_some HS.out];simp) wr (HBR.out.then HBL0.out) (HR0.out.below HBL0.out)
     go_wp2_with fail
     refine hc.mono ?_
     rintro r2 v1 ⟨rfl,hb⟩
     have HBL1:=Lib.hid (below_next HBL0.out hb)
     clear hc hb HBL0
     have hc:=r4is_no EV i (by omega) o 0 0 ⟨#[120,111,114]⟩ (Or.inl (by rw[isT_some HS.out];decide)) v1 (HBR.out.then HBL1.out) (HR0.out.below HBL1.out)
     go_wp2_with fail
     refine hc.mono ?_
     rintro r2 v2 ⟨rfl,hb⟩
     have HBL2:=Lib.hid (below_next HBL1.out hb)
     clear hc hb HBL1
     have hR9:=HR0.out.below HBL2.out
     obtain⟨c0,c1,c2,c3,c4⟩:=hR9.cells
     obtain⟨f0,f1,f2,f3,f4⟩:=hR9.free
     have HR9:=Lib.hid (hR9.setI ((i:Int)+1))
     have HA9:Hid (Al rb wr (v2.setCell ⟨rb,1,none⟩ (.int .i64 ((i:Int)+1)))):=(Al.of HBL2.out).set _ _
     clear hR9 HBL2
     obtain⟨r3,hr3⟩ : ∃ r3,P L g3 (.bin 4) (i+1) o=some r3:=by
      rcases HRS.out with ⟨e,h,_⟩ | ⟨a,i,h,_⟩
      ·exact⟨_,h⟩
      ·exact⟨_,h⟩
     have HR3:=Lib.hid hr3
     clear hr3
     go_wp2_with fail
     generalize v2.setCell ⟨rb,1,none⟩ (.int .i64 ((i:Int)+1))=w2 at *
     have hA2:=HA9.out
     have hcall:=IH.out g3 (by omega) 4 (i+1) o r3 w2 (by omega) (by omega) HR3.out (HBR.out.next hA2) (by simpa using HR9.out)
     have HA2:Hid (Al rb w w2):=HA.out.next hA2
     have HO2:Hid (OwnE nb w2 (.slice va (F.flat 0).length vc) (F.flat 0)):=hA2.ownE HO.out hlt
     have hrw2:nb≤w2.heap.size:=by have:=hA2.size;omega
     clear hA2 HA9 HR9 HA HO HBR hrw c0 c1 c2 c3 c4 f0 f1 f2 f3 f4
     refine hcall.mono ?_
     rintro e w3 ⟨hA3,hpost⟩
     have HA3:Hid (Al rb w w3):=HA2.out.next hA3
     have HO3:=Lib.hid (hA3.ownE HO2.out hlt)
     have hrw3:nb≤w3.heap.size:=by have:=hA3.size;omega
     clear hcall hA3
     match r3,hpost with
     | .error (c,p),⟨y,yn,yk,i3,he,hc,hi3,hR3⟩ =>
      subst he
      have hj:=r4join_no i3 o c p 7 hc _ (.slice va (F.flat 0).length vc) (.slice y yn yk) w3 hR3
      have HRE:Hid (r=.error (c,p)):=by
       rcases HRS.out with ⟨e,h,h2⟩ | ⟨a,i,h,_⟩
       ·have h3:=HR3.out.symm.trans h;cases h3;exact h2
       ·have h3:=HR3.out.symm.trans h;cases h3
      have HR4:=Lib.hid hR3
      clear hR3
      go_wp2_with fail
      refine hj.mono ?_
      rintro r4 w4 ⟨rfl,rfl⟩
      clear hj
      go_wp2_with fail
      go_roundw
      case rel=>exact⟨HA3.out,Or.inr ⟨c,p,none,0,0,i3,HRE.out,hc,hi3,HR4.out,rfl⟩⟩
      case measure=>rw[HM.out,mR_err HR4.out.cells.2.2.2.1 hc];omega
     | .ok (l,j),⟨G,v,hl,he,hO4,hR4⟩ =>
      subst hl he
      obtain⟨g1,g2,g3',g4⟩:=(P_ok EV.out.ok g3).bin (by omega) HR3.out
      obtain⟨ya,yc,rfl,-⟩:=hO4.form
      have hj:=r4join_ok j o 0 _ 7 F G (.slice va (F.flat 0).length vc) (.slice ya (G.flat 0).length yc) w3 hR4 HO3.out.isE hO4.isE HG.out.one g1.one (by omega) (by omega)
      have HRE:Hid (P L g3 (.loop 3 (both 7 false F G)) j o=some r):=by
       rcases HRS.out with ⟨e,h,h2⟩ | ⟨a,i,h,h2⟩
       ·have h3:=HR3.out.symm.trans h;cases h3
       ·have h3:=HR3.out.symm.trans h;cases h3
        rcases h2 with ⟨h2,_⟩ | ⟨_,h2⟩
        ·omega
        ·exact h2
      have HR5:=Lib.hid hR4
      have HGG:=Lib.hid g1
      clear hR4 hO4 g1
      go_wp2_with fail
      refine hj.mono ?_
      rintro r4 w4 ⟨v4,rfl,ho,hb⟩
      have HR6:=Lib.hid (HR5.out.below hb)
      have HA6:=Lib.hid (HA3.out.then hb)
      have HO6:=Lib.hid (ho.mono hrw3)
      have hv:=both_size 7 false F G
      have HV:=Lib.hid hv
      clear hj ho hb hv
      go_wp2_with fail
      go_roundw
      case rel=>exact⟨HA6.out,Or.inl ⟨both 7 false F G,j,g3,by omega,HO6.out,both_good (by omega) HG.out HGG.out,by rw[HV.out];omega,g3',HR6.out,HRE.out⟩⟩
      case measure=>rw[HM.out,mR_ok HR6.out.cells.2.1 HR6.out.cells.2.2.2.1];omega
    ·have HS:=Lib.hid hs
     clear hs
     have hc:=r4is_no EV i (by omega) o 0 0 ⟨#[111,114]⟩ (Or.inl (by rw[isT_some HS.out];decide)) wr (HBR.out.then HBL0.out) (HR0.out.below HBL0.out)
     go_wp2_with fail
     refine hc.mono ?_
     rintro r2 v1 ⟨rfl,hb⟩
     have HBL1:=Lib.hid (below_next HBL0.out hb)
     clear hc hb HBL0
     have hc:=r4is_yes EV i (by omega) o 0 ⟨#[120,111,114]⟩ (by rw[isT_some HS.out];simp) v1 (HBR.out.then HBL1.out) (HR0.out.below HBL1.out)
     go_wp2_with fail
     refine hc.mono ?_
     rintro r2 v2 ⟨rfl,hb⟩
     have HBL2:=Lib.hid (below_next HBL1.out hb)
     clear hc hb HBL1
     have hc:=r4is_yes EV i (by omega) o 0 ⟨#[120,111,114]⟩ (by rw[isT_some HS.out];simp) v2 (HBR.out.then HBL2.out) (HR0.out.below HBL2.out)
     go_wp2_with fail
     refine hc.mono ?_
     rintro r2 v3 ⟨rfl,hb⟩
     have HBL3:=Lib.hid (below_next HBL2.out hb)
     clear hc hb HBL2
     have hR9:=HR0.out.below HBL3.out
     obtain⟨c0,c1,c2,c3,c4⟩:=hR9.cells
     obtain⟨f0,f1,f2,f3,f4⟩:=hR9.free
     have HR9:=Lib.hid (hR9.setI ((i:Int)+1))
     have HA9:Hid (Al rb wr (v3.setCell ⟨rb,1,none⟩ (.int .i64 ((i:Int)+1)))):=(Al.of HBL3.out).set _ _
     clear hR9 HBL3
     obtain⟨r3,hr3⟩ : ∃ r3,P L g3 (.bin 4) (i+1) o=some r3:=by
      rcases HRS.out with ⟨e,h,_⟩ | ⟨a,i,h,_⟩
      ·exact⟨_,h⟩
      ·exact⟨_,h⟩
     have HR3:=Lib.hid hr3
     clear hr3
     go_wp2_with fail
     generalize v3.setCell ⟨rb,1,none⟩ (.int .i64 ((i:Int)+1))=w2 at *
     have hA2:=HA9.out
     have hcall:=IH.out g3 (by omega) 4 (i+1) o r3 w2 (by omega) (by omega) HR3.out (HBR.out.next hA2) (by simpa using HR9.out)
     have HA2:Hid (Al rb w w2):=HA.out.next hA2
     have HO2:Hid (OwnE nb w2 (.slice va (F.flat 0).length vc) (F.flat 0)):=hA2.ownE HO.out hlt
     have hrw2:nb≤w2.heap.size:=by have:=hA2.size;omega
     clear hA2 HA9 HR9 HA HO HBR hrw c0 c1 c2 c3 c4 f0 f1 f2 f3 f4
     refine hcall.mono ?_
     rintro e w3 ⟨hA3,hpost⟩
     have HA3:Hid (Al rb w w3):=HA2.out.next hA3
     have HO3:=Lib.hid (hA3.ownE HO2.out hlt)
     have hrw3:nb≤w3.heap.size:=by have:=hA3.size;omega
     clear hcall hA3
     match r3,hpost with
     | .error (c,p),⟨y,yn,yk,i3,he,hc,hi3,hR3⟩ =>
      subst he
      have hj:=r4join_no i3 o c p 8 hc _ (.slice va (F.flat 0).length vc) (.slice y yn yk) w3 hR3
      have HRE:Hid (r=.error (c,p)):=by
       rcases HRS.out with ⟨e,h,h2⟩ | ⟨a,i,h,_⟩
       ·have h3:=HR3.out.symm.trans h;cases h3;exact h2
       ·have h3:=HR3.out.symm.trans h;cases h3
      have HR4:=Lib.hid hR3
      clear hR3
      go_wp2_with fail
      refine hj.mono ?_
      rintro r4 w4 ⟨rfl,rfl⟩
      clear hj
      go_wp2_with fail
      go_roundw
      case rel=>exact⟨HA3.out,Or.inr ⟨c,p,none,0,0,i3,HRE.out,hc,hi3,HR4.out,rfl⟩⟩
      case measure=>rw[HM.out,mR_err HR4.out.cells.2.2.2.1 hc];omega
     | .ok (l,j),⟨G,v,hl,he,hO4,hR4⟩ =>
      subst hl he
      obtain⟨g1,g2,g3',g4⟩:=(P_ok EV.out.ok g3).bin (by omega) HR3.out
      obtain⟨ya,yc,rfl,-⟩:=hO4.form
      have hj:=r4join_ok j o 0 _ 8 F G (.slice va (F.flat 0).length vc) (.slice ya (G.flat 0).length yc) w3 hR4 HO3.out.isE hO4.isE HG.out.one g1.one (by omega) (by omega)
      have HRE:Hid (P L g3 (.loop 3 (both 8 false F G)) j o=some r):=by
       rcases HRS.out with ⟨e,h,h2⟩ | ⟨a,i,h,h2⟩
       ·have h3:=HR3.out.symm.trans h;cases h3
       ·have h3:=HR3.out.symm.trans h;cases h3
        rcases h2 with ⟨h2,_⟩ | ⟨_,h2⟩
        ·omega
        ·exact h2
      have HR5:=Lib.hid hR4
      have HGG:=Lib.hid g1
      clear hR4 hO4 g1
      go_wp2_with fail
      refine hj.mono ?_
      rintro r4 w4 ⟨v4,rfl,ho,hb⟩
      have HR6:=Lib.hid (HR5.out.below hb)
      have HA6:=Lib.hid (HA3.out.then hb)
      have HO6:=Lib.hid (ho.mono hrw3)
      have hv:=both_size 8 false F G
      have HV:=Lib.hid hv
      clear hj ho hb hv
      go_wp2_with fail
      go_roundw
      case rel=>exact⟨HA6.out,Or.inl ⟨both 8 false F G,j,g3,by omega,HO6.out,both_good (by omega) HG.out HGG.out,by rw[HV.out];omega,g3',HR6.out,HRE.out⟩⟩
      case measure=>rw[HM.out,mR_ok HR6.out.cells.2.1 HR6.out.cells.2.2.2.1];omega
  ·have HE:Hid (∀ w2,Below wr.heap.size wr w2→RPost (Rd rb (.slice a L.length cc)) rb o w r (.returned (.slice x n k)) w2):=fun w2 hb=>by rw[hr];exact rpost_err (hA.then hb) hc hi (hR.below hb)
   have HR0:=Lib.hid hR
   have HB0:Hid (Al rb w0 wr):=HB.out.next hA
   have HBL0:Hid (Below wr.heap.size wr wr):=Below.refl _ _
   have hno0:Hid (isT L i ⟨#[111,114]⟩=false∨c≠0):=Or.inr hc
   have hno1:Hid (isT L i ⟨#[120,111,114]⟩=false∨c≠0):=Or.inr hc
   clear hA hR hr hc
   have hc0:=r4is_no EV i (by omega) o c p ⟨#[111,114]⟩ hno0.out wr HB0.out HR0.out
   go_wp2_with fail
   refine hc0.mono ?_
   rintro r2 w2 ⟨rfl,hb⟩
   have HR1:=Lib.hid (HR0.out.below hb)
   have HB1:=Lib.hid (HB0.out.then hb)
   have HBL1:=Lib.hid (below_next HBL0.out hb)
   clear hc0 hb HR0 HB0 HBL0
   have hc1:=r4is_no EV i (by omega) o c p ⟨#[120,111,114]⟩ hno1.out w2 HB1.out HR1.out
   go_wp2_with fail
   refine hc1.mono ?_
   rintro r2 w3 ⟨rfl,hb⟩
   have HR2:=Lib.hid (HR1.out.below hb)
   have HB2:=Lib.hid (HB1.out.then hb)
   have HBL2:=Lib.hid (below_next HBL1.out hb)
   clear hc1 hb HR1 HB1 HBL1
   go_wp2_with fail
   go_ret
   exact HE.out w3 HBL2.out
end
end Go.Proofs.YtmacepicoandkaaGreatDoor
namespace Go.Proofs.YtmacepicoandkaaGreatDoor
open Go.RowKit Go.Shelf Tx Px
section
variable {L : List Tok} {a : Option Addr} {cc rb : Nat} {w0 : World}
theorem operand_cases {p:Orc} {L:List Tok} {I o:Nat} {r:Res} (h:operandS p L I o=some r) :
  (200≤o∧r=.error (6,atP L I))∨(o<200∧L.length≤I∧r=.error (5,atP L I))∨(o<200∧∃ x,L[I]?=some x ∧
   ((x.k=2∧one (node 1 (Lx.val x.t.data.toList) noS .no) (I+1)=some r)∨(x.k=1∧namedS p L x.t I (o+1)=some r)∨((x.k=3∨x.k=4)∧signS p L x.t I o=some r)∨((x.k≠1∧x.k≠2∧x.k≠3∧x.k≠4)∧errAt L 5 I=some r))):=by
 unfold operandS at h
 split at h
 ·rename_i h1;exact Or.inl ⟨h1,(Option.some.inj h).symm⟩
 rename_i h1
 right
 split at h
 ·rename_i h2;exact Or.inl ⟨by omega,List.getElem?_eq_none_iff.1 h2,(Option.some.inj h).symm⟩
 rename_i x hx
 refine Or.inr ⟨by omega,x,hx,?_⟩
 split at h
 ·rename_i h2;exact Or.inl ⟨h2,h⟩
 rename_i h2
 split at h
 ·rename_i h3;exact Or.inr (Or.inl ⟨h3,by unfold namedS;exact h⟩)
 rename_i h3
 split at h
 ·rename_i h4;exact Or.inr (Or.inr (Or.inl ⟨h4,h⟩))
 ·rename_i h4;exact Or.inr (Or.inr (Or.inr ⟨by omega,h⟩))
theorem sign_cases {p:Orc} {L:List Tok} {s:ByteArray} {I o:Nat} {r:Res} (h:signS p L s I o=some r) :
  (preAt s=some 25∧withinS p L I (o+1)=some r)∨(∃ op,preAt s=some op∧op≠25∧(thenE (p (.bin 8) (I+1) (o+1)) fun a i=>one (node op 0 noS a) i)=some r) ∨
  (s=⟨#[116,114,117,101]⟩∧one (node 2 1 noS .no) (I+1)=some r)∨(s=⟨#[102,97,108,115,101]⟩∧one (node 2 0 noS .no) (I+1)=some r) ∨
  (s=⟨#[40]⟩∧(thenE (p (.bin 0) (I+1) (o+1)) fun a i=>needT L tRpar i fun i=>one a i)=some r)∨(s=⟨#[105,102]⟩∧choiceS p L (I+1) (o+1)=some r) ∨
  (preAt s=none∧(s≠⟨#[116,114,117,101]⟩∧s≠⟨#[102,97,108,115,101]⟩∧s≠⟨#[40]⟩∧s≠⟨#[105,102]⟩)∧errAt L 5 I=some r):=by
 unfold signS at h
 split at h
 ·rename_i op hop
  split at h
  ·rename_i h25;subst h25;exact Or.inl ⟨hop,by unfold withinS;exact h⟩
  ·rename_i h25;exact Or.inr (Or.inl ⟨op,hop,h25,h⟩)
 ·rename_i hop
  right;right
  split at h
  ·rename_i h1;exact Or.inl ⟨h1,h⟩
  rename_i h1;right
  split at h
  ·rename_i h2;exact Or.inl ⟨h2,h⟩
  rename_i h2;right
  split at h
  ·rename_i h3;exact Or.inl ⟨h3,h⟩
  rename_i h3;right
  split at h
  ·rename_i h4;exact Or.inl ⟨h4,by unfold choiceS;exact h⟩
  rename_i h4;right
  exact⟨hop,⟨h1,h2,h3,h4⟩,h⟩
theorem r4begun_any (EV:Hid (EnvOk w0 rb a cc L)) (f:Nat) (IH:Hid (∀ g,g≤f→LvOk w0 rb a cc L g)) (I o:Nat) (x:Tok) (r:Res) (w:World) (hx:L[I]?=some x)
  (hP:(x.k=2∧one (node 1 (Lx.val x.t.data.toList) noS .no) (I+1)=some r)∨(x.k=1∧namedS (P L f) L x.t I (o+1)=some r)∨((x.k=3∨x.k=4)∧signS (P L f) L x.t I o=some r)∨((x.k≠1∧x.k≠2∧x.k≠3∧x.k≠4)∧errAt L 5 I=some r))
  (hB:Al rb w0 w) (hR:Rd rb (.slice a L.length cc) w I ((o+1:Nat):Int) 0 0) :
  Calls Tryz.prog 142 #[.pointer (some ⟨rb,0,none⟩),.agg #[.int .i64 x.k,.string x.t,.int .i64 x.p]] w (RPost (Rd rb (.slice a L.length cc)) rb ((o+1:Nat):Int) w r):=by
 rcases hP with ⟨hk,h⟩ | ⟨hk,h⟩ | ⟨hk,h⟩ | ⟨hk,h⟩
 ·exact r4begun_num EV f IH I (o+1) x r w hx hk h hB hR
 ·exact r4begun_name EV f IH I (o+1) x r w hx hk h hB hR
 ·rcases sign_cases h with ⟨h1,h⟩ | ⟨op,h1,h2,h⟩ | ⟨h1,h⟩ | ⟨h1,h⟩ | ⟨h1,h⟩ | ⟨h1,h⟩ | ⟨h1,h2,h⟩
  ·exact r4begun_within EV f IH I (o+1) x r w hx hk h1 h hB hR
  ·exact r4begun_pre EV f IH I (o+1) x r w hx op hk h1 h2 h hB hR
  ·exact r4begun_true EV f IH I (o+1) x r w hx hk h1 h hB hR
  ·exact r4begun_false EV f IH I (o+1) x r w hx hk h1 h hB hR
  ·exact r4begun_par EV f IH I (o+1) x r w hx hk h1 h hB hR
  ·exact r4begun_if EV f IH I (o+1) x r w hx hk h1 h hB hR
  ·exact r4begun_none EV f IH I (o+1) x r w hx hk h1 h2 h hB hR
 ·exact r4begun_other EV f IH I (o+1) x r w hx hk h hB hR
set_option maxRecDepth 100000 in
set_option maxHeartbeats 2000000 in
theorem r4operand_any (EV : Hid (EnvOk w0 rb a cc L)) (f : Nat) (IH : Hid (∀ g, g < f → LvOk w0 rb a cc L g)) (I o : Nat) (r : Res) (w : World) (hI : I ≤ L.length) (hP : P L f (.bin 8) I o = some r) (hB : Al rb w0 w) (hR : Rd rb (.slice a L.length cc) w I o 0 0) :
    Calls Tryz.prog 140 #[.pointer (some ⟨rb, 0, none⟩)] w (RPost (Rd rb (.slice a L.length cc)) rb o w r) := by
  obtain ⟨g, rfl, hP⟩ := top_cases hP
  have hL := EV.out.len
  have hcap := EV.out.cap
  have hi1 : (0 : Int) ≤ (I : Int) := by omega
  obtain ⟨c0, c1, c2, c3, c4⟩ := hR.cells
  obtain ⟨f0, f1, f2, f3, f4⟩ := hR.free
  have hlt := hR.lt
  have HB := Lib.hid hB
  have HR := Lib.hid hR
  rcases operand_cases hP with ⟨h1, rfl⟩ | ⟨h1, h2, rfl⟩ | ⟨h1, x, hx, hrest⟩
  · have hf := r4fail_yes EV I (by omega) o 0 6 w hB hR
    have e1 : decide ((200 : Int) ≤ (o : Int)) = true := decide_eq_true (by omega)
    clear hB hR hP f0 f1 f2 f3 f4
    go_enter Tryz.func140, Tryz.ntmps140
    go_wp2_with fail
    refine hf.mono ?_
    rintro e w1 ⟨rfl, hR1, hA1⟩
    have HR1 := Lib.hid hR1
    have HA1 := Lib.hid hA1
    clear hf hR1 hA1 c0 c1 c2 c3 c4
    go_wp2_with fail
    go_ret
    exact rpost_err HA1.out (by decide) (by omega) HR1.out
  · have hf : ∀ q, _ := fun q => r4fail_yes EV I (by omega) o 0 5 (w.drewN q) (hB.drewN q) (show Rd rb (.slice a L.length cc) (w.drewN q) I o 0 0 from hR)
    have e1 : decide ((200 : Int) ≤ (o : Int)) = false := decide_eq_false (by omega)
    have e2 : decide ((L.length : Int) ≤ (I : Int)) = true := decide_eq_true (by omega)
    have HF := Lib.hid hf
    clear hB hR hP f0 f1 f2 f3 f4 hf
    go_enter Tryz.func140, Tryz.ntmps140
    go_wp2_with fail
    go_quiet (fail)
    go_wp2_with fail
    refine (HF.out _).mono ?_
    rintro e w1 ⟨rfl, hR1, hA1⟩
    have HR1 := Lib.hid hR1
    have HA1 : Hid (Al rb w w1) := ((Al.refl rb w).drewN _).next hA1
    clear hR1 hA1 c0 c1 c2 c3 c4
    go_wp2_with fail
    go_ret
    exact rpost_err HA1.out (by decide) (by omega) HR1.out
  · have hil := (List.getElem?_eq_some_iff.1 hx).1
    have e1 : decide ((200 : Int) ≤ (o : Int)) = false := decide_eq_false (by omega)
    have e2 : decide ((L.length : Int) ≤ (I : Int)) = false := decide_eq_false (by omega)
    have h2 : (I : Int) < (L.length : Int) := by omega
    have ho9 : (o : Int) ≤ 200 := by omega
    have HRS := Lib.hid hrest
    have HX := Lib.hid hx
    clear hB hR hP hrest hx
    go_enter Tryz.func140, Tryz.ntmps140
    go_wp2_with fail
    go_quiet (fail)
    go_wp2_with fail
    -- the reader has one operand more begun
    generalize hW : World.setCell _ ⟨rb, 2, none⟩ _ = W
    have hR1 : Rd rb (.slice a L.length cc) W I ((o + 1 : Nat) : Int) 0 0 := by
      rw [← hW]
      exact Rd.setO (W := w.drewN nq) HR.out ((o : Int) + 1)
    have HA1 : Hid (Al rb w W) := by show Al _ _ _; rw [← hW]; exact ((Al.refl rb w).drewN nq).set _ _
    have HR1 := Lib.hid hR1
    clear hW c0 c1 c2 c3 c4 f0 f1 f2 f3 f4
    obtain ⟨b, q, rfl, d0', d1', d2'⟩ := EV.out.tok W (HB.out.next HA1.out) I x HX.out
    obtain ⟨c0', c1', -, -, -⟩ := hR1.cells
    have hbn : Below W.heap.size W (W.alloc (.cells #[.int .i64 0, .string ⟨#[]⟩, .int .i64 0] 127)) := (Below.refl _ _).alloc (Nat.le_refl _) _
    have l1 := World.block_lt_of_cell? W _ c0'
    have l2 := World.block_lt_of_cell? W _ d0'
    have n0 := (hbn.cell (p := ⟨rb, 0, none⟩) l1).trans c0'
    have n1 := (hbn.cell (p := ⟨rb, 1, none⟩) l1).trans c1'
    have n2 := (hbn.cell (p := ⟨b, q + I * 3, none⟩) l2).trans d0'
    have n3 := (hbn.cell (p := ⟨b, q + I * 3 + 1, none⟩) l2).trans d1'
    have n4 := (hbn.cell (p := ⟨b, q + I * 3 + 2, none⟩) l2).trans d2'
    have hbt : Below W.heap.size W (W.alloc (.cells #[.int .i64 x.k, .string x.t, .int .i64 x.p] 127)).drew := ((Below.refl _ _).alloc (Nat.le_refl _) _).drew
    have HR2 := Lib.hid (hR1.below hbt)
    have HA2 := Lib.hid (HA1.out.then hbt)
    have HCALL := Lib.hid (r4begun_any EV g (Lib.hid (fun k hk => IH.out k (by omega))) I o x r _ HX.out HRS.out (HB.out.next HA2.out) HR2.out)
    clear hbn hbt hR1
    go_region
    all_goals
      clear c0' c1' d0' d1' d2' n0 n1 n2 n3 n4
      go_wp2_with fail
      refine HCALL.out.mono ?_
      rintro e w3 ⟨hA3, hpost⟩
      have HA3 := Lib.hid (HA2.out.next hA3)
      have HSZ := Lib.hid HA2.out.size
      clear hA3
      match r, hpost with
      | .error (c, p), ⟨y, yn, yk, i3, he, hc, hi3, hR4⟩ =>
        subst he
        have HR4 := Lib.hid hR4
        obtain ⟨c0, c1, c2, c3, c4⟩ := hR4.cells
        obtain ⟨f0, f1, f2, f3, f4⟩ := hR4.free
        clear hR4 HRS HCALL
        go_wp2_with fail
        go_ret
        have hR5 := HR4.out.setO (o : Int)
        refine rpost_err ?_ hc hi3 ?_
        · exact HA3.out.set _ _
        · exact hR5
      | .ok (l, j), ⟨G, v, hl, he, hO, hR4⟩ =>
        subst hl he
        obtain ⟨ya, yc, rfl, -⟩ := hO.form
        have HR4 := Lib.hid hR4
        have HO4 := Lib.hid (hO.mono HSZ.out)
        obtain ⟨c0, c1, c2, c3, c4⟩ := hR4.cells
        obtain ⟨f0, f1, f2, f3, f4⟩ := hR4.free
        clear hR4 hO HRS HCALL
        go_wp2_with fail
        go_ret
        refine rpost_ok ?_ ?_ ?_
        · exact HA3.out.set _ _
        · exact OwnE.set HO4.out (fun e => by have := (HO4.out.low rb e).1; omega) _ _
        · exact HR4.out.setO (o : Int)
end
end Go.Proofs.YtmacepicoandkaaGreatDoor
namespace Go.Proofs.YtmacepicoandkaaGreatDoor
open Go.RowKit Go.Shelf Tx Px
theorem lv_all {L:List Tok} {a:Option Addr} {cc rb:Nat} {w0:World} (EV:Hid (EnvOk w0 rb a cc L)):∀ f,LvOk w0 rb a cc L f:=by
 intro f
 induction f using Nat.strongRecOn with
 | _ f ih =>
  intro n I o r w hn hI hP hB hR
  match n,hn,hP with
  | 0,_,hP=>exact r4Arrow_any EV f (Lib.hid ih) I o r w hI hP hB hR
  | 1,_,hP=>exact r4imp_any EV f (Lib.hid ih) I o r w hI hP hB hR
  | 2,_,hP=>exact r4since_any EV f (Lib.hid ih) I o r w hI hP hB hR
  | 3,_,hP=>exact r4or_any EV f (Lib.hid ih) I o r w hI hP hB hR
  | 4,_,hP=>exact r4and_any EV f (Lib.hid ih) I o r w hI hP hB hR
  | 5,_,hP=>exact r4cmp_any EV f (Lib.hid ih) I o r w hI hP hB hR
  | 6,_,hP=>exact r4sum_any EV f (Lib.hid ih) I o r w hI hP hB hR
  | 7,_,hP=>exact r4prod_any EV f (Lib.hid ih) I o r w hI hP hB hR
  | 8,_,hP=>exact r4operand_any EV f (Lib.hid ih) I o r w hI hP hB hR
  | n+9,hn,_=>omega
theorem depL_flat {F:Fo} (hw:F.wf=true) (hc:F.count=1):depL (F.flat 0)=F.depth:=by
 have hs:=one_size hc
 have hN:=flat_NodeP hw
 have hR:InR (F.flat 0):=fun i x hx=>(hN i x hx).2.1
 rw[depL_T hR (by rw[Fo.flat_len];exact hs),Fo.flat_len,T_flat0 hw hc]
def ParPost (_L:List Tok) (_from_:Nat) (w:World) (r:Except (Int×Int) (Fo×Nat)) (e:Ending) (w':World):Prop :=
 Below w.heap.size w w'∧match r with
 | .error (c,p)=>e=.returned (.tuple #[.slice none 0 0,.int .i64 0,.agg #[.int .i64 c,.int .i64 p]])
 | .ok (F,i)=>∃ v,e=.returned (.tuple #[v,.int .i64 i,.agg #[.int .i64 0,.int .i64 0]])∧OwnE w.heap.size w' v (F.flat 0)
theorem tok_at {L:List Tok} {a:Option Addr} {cc rb:Nat} {w W0:World} (hv:Sl tokC 3 w (.slice a L.length cc) L) (hL:L.length≤100000) (hok:∀ t∈L,TokOk t) (hb:Below w.heap.size w W0) (hrb:w.heap.size≤rb):EnvOk W0 rb a cc L:=by
 obtain⟨a',c',h1,hc,hx⟩:=hv.form
 cases h1
 refine⟨hL,hc,fun W hW i x hi=>?_,hok⟩
 have hB:=hW.keeps hb hb.size hrb
 obtain⟨b,o,rfl,hj⟩:=hx W hB i x hi
 exact⟨b,o,rfl,by have:=hj 0 _ rfl;simpa using this,hj 1 _ rfl,hj 2 _ rfl⟩
set_option maxRecDepth 100000 in
set_option maxHeartbeats 4000000 in
theorem rParse_any (L:List Tok) (hL:L.length≤100000) (hok:∀ t∈L,TokOk t) (v:Value) (from_:Nat) (hf:from_≤L.length) (r:Except (Int×Int) (Fo×Nat)) (w:World) (hv:Sl tokC 3 w v L) (hr:ParR L from_ r) :
  Calls Tryz.prog 69 #[v,.int .i64 from_] w (ParPost L from_ w r):=by
 obtain⟨a,cc,rfl,hcc,-⟩:=hv.form
 obtain⟨f,hf2⟩:=hr
 have C1:=Blk.new w #[.int .i64 0,.int .i64 0] 91
 have hba:Below w.heap.size w (w.alloc (.cells #[.int .i64 0,.int .i64 0] 91)):=(Below.refl _ _).alloc (Nat.le_refl _) _
 have hz1:(w.alloc (.cells #[.int .i64 0,.int .i64 0] 91)).heap.size=w.heap.size+1:=by simp
 have nb:=(Below.refl (w.alloc (.cells #[.int .i64 0,.int .i64 0] 91)).heap.size (w.alloc (.cells #[.int .i64 0,.int .i64 0] 91))).alloc (Nat.le_refl _) (.cells #[.slice a L.length cc,.int .i64 from_,.int .i64 0,.int .i64 0,.int .i64 0] 154)
 have C2:=Blk.new (w.alloc (.cells #[.int .i64 0,.int .i64 0] 91)) #[.slice a L.length cc,.int .i64 from_,.int .i64 0,.int .i64 0,.int .i64 0] 154
 rw[hz1] at C2
 have hb2:=below_next hba nb
 have C1':=C1.below nb
 obtain⟨W0,hW0⟩ : ∃ W0,W0=(w.alloc (.cells #[.int .i64 0,.int .i64 0] 91)).alloc (.cells #[.slice a L.length cc,.int .i64 from_,.int .i64 0,.int .i64 0,.int .i64 0] 154):=⟨_,rfl⟩
 rw[← hW0] at C2 hb2 C1'
 have hR0:Rd (w.heap.size+1) (.slice a L.length cc) W0 from_ 0 0 0:=C2
 have EV:=Lib.hid (tok_at hv hL hok hb2 (rb:=w.heap.size+1) (by omega))
 have HB0:=Lib.hid hb2
 have HC1:=Lib.hid C1'
 have HW0:=Lib.hid hW0
 have hlt:¬ ((from_:Int)<0):=by omega
 have hgt:¬ ((L.length:Int)<(from_:Int)):=by omega
 have HF2:=Lib.hid hf2
 obtain⟨r1,hr1⟩ : ∃ r1,P L f (.bin 0) from_ 0=some r1:=by
  unfold parse at hf2
  cases h:P L f (.bin 0) from_ 0 with
  | none=>rw[h] at hf2;cases hf2
  | some q=>exact⟨q,rfl⟩
 have hcall:=lv_all EV f 0 from_ 0 r1 W0 (by omega) hf hr1 (Al.refl _ _) (by simpa using hR0)
 have hAt:Hid (∀ W,Al (w.heap.size+1) W0 W→_):=fun W (h:Al (w.heap.size+1) W0 W)=>r4At_any EV from_ (by omega) W h
 have HR1:=Lib.hid hr1
 obtain⟨fb,hfb⟩ : ∃ fb,fb=w.heap.size:=⟨_,rfl⟩
 have HFB:=Lib.hid hfb
 clear hv hba nb C1 C1' C2 hb2 hR0 hW0 hf2 hr1 hz1 hfb
 go_enter Tryz.func69,Tryz.ntmps69
 go_wp2_with fail
 rw[← HW0.out]
 refine hcall.mono ?_
 rintro e w1 ⟨hA,hpost⟩
 have HA:Hid (Al (w.heap.size+1) W0 w1):=hA
 have hB1:Below w.heap.size w w1:=hA.keeps HB0.out HB0.out.size (by omega)
 have k1:=hA.blk HC1.out (by omega)
 have HB1:=Lib.hid hB1
 obtain⟨k1c0,k1c1,k1f0,k1f1⟩:=two_cells k1
 have HK1:=Lib.hid k1
 clear hcall hA hB1 HW0
 match r1,hpost with
 | .error (c,p),⟨y,yn,yk,i3,he,hc,hi3,hR4⟩ =>
  subst he
  have HRE:Hid (r=.error (c,p)):=by
   have h:=HF2.out
   unfold parse at h;rw[HR1.out] at h
   exact (Option.some.inj h).symm
  obtain⟨c0,c1,c2,c3,c4⟩:=hR4.cells
  have e0:(c != 0)=true:=by simp[hc]
  clear hR4 hpost
  have HS:Hid (Below w.heap.size w ((w1.drew.setCell ⟨w.heap.size,0,none⟩ (.int .i64 c)).setCell ⟨w.heap.size,1,none⟩ (.int .i64 p))):=(HB1.out.drew.setCell (Nat.le_refl _) _).setCell (Nat.le_refl _) _
  go_wp2_with fail
  go_region
  all_goals
   go_wp2_with fail
   refine bodyPost_ret (v:=.tuple #[.slice none 0 0,.int .i64 0,.agg #[.int .i64 c,.int .i64 p]]) (by simp[results,Tryz.results69,go_sem,k1c0,k1c1]) rfl ?_
   rw[HRE.out]
   exact⟨HS.out,rfl⟩
 | .ok (l,j),⟨G,v,hl,he,hO4,hR4⟩ =>
  subst hl he
  obtain⟨g1,g2,g3,g4⟩:=(P_ok hok f).bin hf HR1.out
  obtain⟨ya,yc,rfl,-⟩:=hO4.form
  have hdep:=depL_flat g1.wf g1.one
  have HRE:Hid (r=if 5000<G.size then .error (7,atP L from_) else if 40<G.depth then .error (6,atP L from_) else .ok (G,j)):=by
   have h:=HF2.out
   unfold parse at h;rw[HR1.out] at h
   exact (Option.some.inj h).symm
  obtain⟨c0,c1,c2,c3,c4⟩:=hR4.cells
  have hlow:∀ g,(Value.slice ya (G.flat 0).length yc).ownBlock=some g→g≠w.heap.size:=fun g hg e=>by have h1:=(hO4.low g hg).1;have h2:=HC1.out.lt;omega
  have hO4:=hO4.mono HB0.out.size
  have hsz:=Fo.flat_len G 0
  rw[hsz] at hO4 hlow ⊢
  have HLOW:=Lib.hid hlow
  clear hlow
  have hcat:=hAt.out w1 HA.out
  by_cases h1:5000<G.size
  ·rw[if_pos h1] at HRE
   have e1:decide ((5000:Int)<(G.size:Int))=true:=decide_eq_true (by omega)
   have HS:Hid (Below w.heap.size w ((w1.setCell ⟨w.heap.size,0,none⟩ (.int .i64 7)).setCell ⟨w.heap.size,1,none⟩ (.int .i64 (atP L from_)))):=(HB1.out.setCell (Nat.le_refl _) _).setCell (Nat.le_refl _) _
   clear hR4 hpost hdep hO4 g1 g4 hsz
   go_wp2_with fail
   refine hcat.mono ?_
   rintro e w2 ⟨rfl,rfl⟩
   clear hcat
   go_wp2_with fail
   refine bodyPost_ret (v:=.tuple #[.slice none 0 0,.int .i64 0,.agg #[.int .i64 7,.int .i64 (atP L from_)]]) (by simp[results,Tryz.results69,go_sem,k1c0,k1c1]) rfl ?_
   rw[HRE.out]
   exact⟨HS.out,rfl⟩
  ·rw[if_neg h1] at HRE
   have e1:decide ((5000:Int)<(G.size:Int))=false:=decide_eq_false (by omega)
   have hd:=rDepth_any (G.flat 0) (.slice ya G.size yc) w1 (by rw[hsz];omega) hO4.isE
   rw[hdep] at hd
   have HO4:=Lib.hid hO4
   have HR4:=Lib.hid hR4
   by_cases h2:40<G.depth
   ·rw[if_pos h2] at HRE
    have e2:decide ((40:Int)<(G.depth:Int))=true:=decide_eq_true (by omega)
    clear hR4 hpost hdep hO4 g1 g4 hsz hcat
    go_wp2_with fail
    refine hd.mono ?_
    rintro e w2 ⟨rfl,hb2⟩
    have HA2:=Lib.hid (HA.out.then hb2)
    have hcat:=hAt.out w2 HA2.out
    have hk2:=HK1.out.below hb2
    have HB2:=Lib.hid (below_next HB1.out hb2)
    obtain⟨p0,p1,p2,p3⟩:=two_cells hk2
    have HS:Hid (Below w.heap.size w ((w2.setCell ⟨w.heap.size,0,none⟩ (.int .i64 6)).setCell ⟨w.heap.size,1,none⟩ (.int .i64 (atP L from_)))):=(HB2.out.setCell (Nat.le_refl _) _).setCell (Nat.le_refl _) _
    clear hd hb2 hk2 c0 c1 c2 c3 c4 k1 k1c0 k1c1
    go_wp2_with fail
    refine hcat.mono ?_
    rintro e w3 ⟨rfl,rfl⟩
    clear hcat
    go_wp2_with fail
    refine bodyPost_ret (v:=.tuple #[.slice none 0 0,.int .i64 0,.agg #[.int .i64 6,.int .i64 (atP L from_)]]) (by simp[results,Tryz.results69,go_sem,p0,p1]) rfl ?_
    rw[HRE.out]
    exact⟨HS.out,rfl⟩
   ·rw[if_neg h2] at HRE
    have e2:decide ((40:Int)<(G.depth:Int))=false:=decide_eq_false (by omega)
    clear hR4 hpost hdep hO4 g1 g4 hsz hcat
    go_wp2_with fail
    refine hd.mono ?_
    rintro e w2 ⟨rfl,hb2⟩
    have hk2:=HK1.out.below hb2
    have HB2:=Lib.hid (below_next HB1.out hb2)
    have HO5:=Lib.hid (HO4.out.below hb2)
    obtain⟨p0,p1,p2,p3⟩:=two_cells hk2
    obtain⟨q0,q1,q2,q3,q4⟩:=(HR4.out.below hb2).cells
    have HS:Hid (Below w.heap.size w ((w2.drew.setCell ⟨w.heap.size,0,none⟩ (.int .i64 0)).setCell ⟨w.heap.size,1,none⟩ (.int .i64 0))∧OwnE w.heap.size ((w2.drew.setCell ⟨w.heap.size,0,none⟩ (.int .i64 0)).setCell ⟨w.heap.size,1,none⟩ (.int .i64 0)) (.slice ya G.size yc) (G.flat 0)) :=
     ⟨(HB2.out.drew.setCell (Nat.le_refl _) _).setCell (Nat.le_refl _) _,OwnE.set (OwnE.set (w:=w2.drew) HO5.out (fun e=>HLOW.out _ e rfl) _ _) (fun e=>HLOW.out _ e rfl) _ _⟩
    clear hd hb2 hk2 c0 c1 c2 c3 c4 k1 k1c0 k1c1
    go_wp2_with fail
    go_region
    all_goals
     go_wp2_with fail
     refine bodyPost_ret (v:=.tuple #[.slice ya G.size yc,.int .i64 j,.agg #[.int .i64 0,.int .i64 0]]) (by simp[results,Tryz.results69,go_sem,p0,p1]) rfl ?_
     rw[HRE.out]
     exact⟨HS.out.1,_,rfl,HS.out.2⟩
end Go.Proofs.YtmacepicoandkaaGreatDoor
