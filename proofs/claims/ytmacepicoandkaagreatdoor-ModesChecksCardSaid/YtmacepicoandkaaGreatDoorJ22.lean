/- The reference's reader of expressions: level 6 (cmp): the walk. -/
import Derived.Test.YtmacepicoandkaaGreatDoorJ17
set_option linter.unusedVariables false
set_option linter.unusedSimpArgs false
namespace Go.Proofs.YtmacepicoandkaaGreatDoor
open Go.RowKit Go.Shelf Tx Px
section
variable {L : List Tok} {a : Option Addr} {cc rb : Nat} {w0 : World}
set_option maxRecDepth 100000 in
set_option maxHeartbeats 4000000 in
theorem r4cmp_any (EV:Hid (EnvOk w0 rb a cc L)) (f:Nat) (IH:Hid (∀ g,g<f→LvOk w0 rb a cc L g)) (I o:Nat) (r:Res) (w:World) (hI:I≤L.length) (hP:P L f (.bin 5) I o=some r) (hB:Al rb w0 w) (hR:Rd rb (.slice a L.length cc) w I o 0 0) :
  Calls Tryz.prog 137 #[.pointer (some ⟨rb,0,none⟩)] w (RPost (Rd rb (.slice a L.length cc)) rb o w r):=by
 have HB:=Lib.hid hB
 obtain⟨g,rfl,hcs⟩:=bin_cases (by omega) hP
 have hL:=EV.out.len
 have hlt:=hR.lt
 obtain⟨nb,hnb⟩ : ∃ nb,nb=w.heap.size:=⟨_,rfl⟩
 have HNB:=Lib.hid hnb
 rw[← hnb] at hlt
 have h1:∀ r1,P L g (.bin 6) I o=some r1→_:=fun r1 h=>IH.out g (by omega) 6 I o r1 w (by omega) hI h hB hR
 have H1:Hid (∀ r1,P L g (.bin 6) I o=some r1→_):=h1
 have HC:=Lib.hid hcs
 clear hP hcs h1 hB hR hnb
 obtain⟨r1,hr1⟩ : ∃ r1,P L g (.bin 6) I o=some r1:=by
  rcases HC.out with ⟨e,h,_⟩ | ⟨a,i,h,_⟩
  ·exact⟨_,h⟩
  ·exact⟨_,h⟩
 have HR1:=Lib.hid hr1
 clear hr1
 go_enter Tryz.func137,Tryz.ntmps137
 go_wp2_with fail
 refine (H1.out r1 HR1.out).mono ?_
 rintro e w1 ⟨hA,hpost⟩
 have HLP:Hid (∃ av,e=.returned av∧(∃ x n k,av=.slice x n k)∧LpR (Rd rb (.slice a L.length cc)) L rb nb o w 5 (g+1) r av w1):=by
  rcases HC.out with ⟨⟨c,p⟩,h,h2⟩ | ⟨F,i,h,h2⟩
  ·have h3:=HR1.out.symm.trans h
   cases h3
   obtain⟨x,n,k,i,h4,h5,h6,h7⟩:=hpost
   exact⟨_,h4,⟨_,_,_,rfl⟩,hA,Or.inr ⟨c,p,x,n,k,i,h2,h5,h6,h7,rfl⟩⟩
  ·have h3:=HR1.out.symm.trans h
   cases h3
   obtain⟨F',v,h4,h5,h6,h7⟩:=hpost
   cases h4
   obtain⟨g1,g2,g3,g4⟩:=(P_ok EV.out.ok g).bin hI h
   obtain⟨va,vc,hv,-⟩:=h6.form
   exact⟨v,h5,⟨_,_,_,hv⟩,hA,Or.inl ⟨F,i,g,by omega,by rw[HNB.out];exact h6,g1,by omega,g3,h7,h2⟩⟩
 obtain⟨av,rfl,⟨ax,an,ak,rfl⟩,hlp⟩:=HLP.out
 have HLP2:=Lib.hid hlp
 clear HLP hlp hpost hA H1 HR1 HC
 obtain⟨hA,⟨F,i,g2,hg2,hO,hG,hF,hi,hR,hP⟩ | ⟨c,p,x,n,k,i,hr,hc,hi,hR,hax⟩⟩:=HLP2.out
 ·have hBr:Al rb w0 w1:=HB.out.next hA
  obtain⟨va,vc,hva,-⟩:=hO.form
  cases hva
  rcases loop_cases hP with ⟨hn,rfl⟩ | ⟨g3,s,op,sw,rfl,hs,hop,hrest⟩
  ·have HE:Hid (∀ w2,Below w1.heap.size w1 w2→RPost (Rd rb (.slice a L.length cc)) rb o w (.ok ([F],i)) (.returned (.slice ax (F.flat 0).length ak)) w2):=fun w2 hb=>rpost_ok (hA.then hb) (by rw[← HNB.out];exact hO.below hb) (hR.below hb)
   have HR0:=Lib.hid hR
   have HB0:Hid (Al rb w0 w1):=hBr
   have HBL0:Hid (Below w1.heap.size w1 w1):=Below.refl _ _
   have hno0:Hid (isT L i ⟨#[61]⟩=false∨(0:Int)≠0):=Or.inl (isT_none hn (by decide))
   have hno1:Hid (isT L i ⟨#[60,62]⟩=false∨(0:Int)≠0):=Or.inl (isT_none hn (by decide))
   have hno2:Hid (isT L i ⟨#[60]⟩=false∨(0:Int)≠0):=Or.inl (isT_none hn (by decide))
   have hno3:Hid (isT L i ⟨#[60,61]⟩=false∨(0:Int)≠0):=Or.inl (isT_none hn (by decide))
   have hno4:Hid (isT L i ⟨#[62]⟩=false∨(0:Int)≠0):=Or.inl (isT_none hn (by decide))
   have hno5:Hid (isT L i ⟨#[62,61]⟩=false∨(0:Int)≠0):=Or.inl (isT_none hn (by decide))
   clear hP hn hBr hA hO hG hF hR
   have hc0:=r4take_no EV i (by omega) o 0 0 ⟨#[61]⟩ hno0.out w1 HB0.out HR0.out
   go_wp2_with fail
   refine hc0.mono ?_
   rintro r2 w2 ⟨rfl,hb⟩
   have HR1:=Lib.hid (HR0.out.below hb)
   have HB1:=Lib.hid (HB0.out.then hb)
   have HBL1:=Lib.hid (below_next HBL0.out hb)
   clear hc0 hb HR0 HB0 HBL0
   have hc1:=r4take_no EV i (by omega) o 0 0 ⟨#[60,62]⟩ hno1.out w2 HB1.out HR1.out
   go_wp2_with fail
   refine hc1.mono ?_
   rintro r2 w3 ⟨rfl,hb⟩
   have HR2:=Lib.hid (HR1.out.below hb)
   have HB2:=Lib.hid (HB1.out.then hb)
   have HBL2:=Lib.hid (below_next HBL1.out hb)
   clear hc1 hb HR1 HB1 HBL1
   have hc2:=r4take_no EV i (by omega) o 0 0 ⟨#[60]⟩ hno2.out w3 HB2.out HR2.out
   go_wp2_with fail
   refine hc2.mono ?_
   rintro r2 w4 ⟨rfl,hb⟩
   have HR3:=Lib.hid (HR2.out.below hb)
   have HB3:=Lib.hid (HB2.out.then hb)
   have HBL3:=Lib.hid (below_next HBL2.out hb)
   clear hc2 hb HR2 HB2 HBL2
   have hc3:=r4take_no EV i (by omega) o 0 0 ⟨#[60,61]⟩ hno3.out w4 HB3.out HR3.out
   go_wp2_with fail
   refine hc3.mono ?_
   rintro r2 w5 ⟨rfl,hb⟩
   have HR4:=Lib.hid (HR3.out.below hb)
   have HB4:=Lib.hid (HB3.out.then hb)
   have HBL4:=Lib.hid (below_next HBL3.out hb)
   clear hc3 hb HR3 HB3 HBL3
   have hc4:=r4take_no EV i (by omega) o 0 0 ⟨#[62]⟩ hno4.out w5 HB4.out HR4.out
   go_wp2_with fail
   refine hc4.mono ?_
   rintro r2 w6 ⟨rfl,hb⟩
   have HR5:=Lib.hid (HR4.out.below hb)
   have HB5:=Lib.hid (HB4.out.then hb)
   have HBL5:=Lib.hid (below_next HBL4.out hb)
   clear hc4 hb HR4 HB4 HBL4
   have hc5:=r4take_no EV i (by omega) o 0 0 ⟨#[62,61]⟩ hno5.out w6 HB5.out HR5.out
   go_wp2_with fail
   refine hc5.mono ?_
   rintro r2 w7 ⟨rfl,hb⟩
   have HR6:=Lib.hid (HR5.out.below hb)
   have HB6:=Lib.hid (HB5.out.then hb)
   have HBL6:=Lib.hid (below_next HBL5.out hb)
   clear hc5 hb HR5 HB5 HBL5
   go_wp2_with fail
   go_ret
   exact HE.out w7 HBL6.out
  ·have hil:i<L.length:=hereT_lt hs
   have hso:(s=⟨#[61]⟩∧op=10∧sw=false)∨(s=⟨#[60,62]⟩∧op=11∧sw=false)∨(s=⟨#[60]⟩∧op=12∧sw=false)∨(s=⟨#[60,61]⟩∧op=13∧sw=false)∨(s=⟨#[62]⟩∧op=12∧sw=true)∨(s=⟨#[62,61]⟩∧op=13∧sw=true):=by
    unfold Px.opAt at hop
    simp only at hop
    repeat' (split at hop)
    all_goals first | (cases hop;done) | (rename_i e;cases hop;rw[e];simp[bs])
   have HO:=Lib.hid hO
   have HG:=Lib.hid hG
   have HA:=Lib.hid hA
   have HR0:=Lib.hid hR
   have HBR:=Lib.hid hBr
   have HBL0:Hid (Below w1.heap.size w1 w1):=Below.refl _ _
   have HRS:=Lib.hid hrest
   have hrw:nb≤w1.heap.size:=by rw[HNB.out];exact hA.size
   clear hP hop hBr hA hO hG hR hrest HLP2
   rcases hso with ⟨rfl,rfl,rfl⟩ | ⟨rfl,rfl,rfl⟩ | ⟨rfl,rfl,rfl⟩ | ⟨rfl,rfl,rfl⟩ | ⟨rfl,rfl,rfl⟩ | ⟨rfl,rfl,rfl⟩
   ·have HS:=Lib.hid hs
    clear hs
    have hc:=r4take_yes EV i (by omega) o 0 ⟨#[61]⟩ (by rw[isT_some HS.out];simp) w1 (HBR.out.then HBL0.out) (HR0.out.below HBL0.out)
    go_wp2_with fail
    refine hc.mono ?_
    rintro r2 w2 ⟨rfl,hR9,hA9⟩
    have hA2:Al rb w1 w2:=(Al.of HBL0.out).next hA9
    obtain⟨r3,hr3⟩ : ∃ r3,P L g3 (.bin 6) (i+1) o=some r3:=by
     rcases HRS.out with ⟨e,h,_⟩ | ⟨a,i,h,_⟩
     ·exact⟨_,h⟩
     ·exact⟨_,h⟩
    have HR3:=Lib.hid hr3
    have hcall:=IH.out g3 (by omega) 6 (i+1) o r3 w2 (by omega) (by omega) hr3 (HBR.out.next hA2) (by simpa using hR9)
    have HA2:Hid (Al rb w w2):=HA.out.next hA2
    have HO2:Hid (OwnE nb w2 (.slice ax (F.flat 0).length ak) (F.flat 0)):=hA2.ownE HO.out hlt
    have hrw2:nb≤w2.heap.size:=by have:=hA2.size;omega
    clear hc hR9 hA9 hA2 hr3 HA HO HBR hrw HBL0 HR0
    go_wp2_with fail
    refine hcall.mono ?_
    rintro e w3 ⟨hA3,hpost⟩
    have HA3:Hid (Al rb w w3):=HA2.out.next hA3
    have HO3:=Lib.hid (hA3.ownE HO2.out hlt)
    have hrw3:nb≤w3.heap.size:=by have:=hA3.size;omega
    clear hcall hA3
    match r3,hpost with
    | .error (c,p),⟨y,yn,yk,i3,he,hc,hi3,hR3⟩ =>
     subst he
     have hj:=r4join_no i3 o c p 10 hc _ (.slice ax (F.flat 0).length ak) (.slice y yn yk) w3 hR3
     have HRE:Hid (r=.error (c,p)):=by
      rcases HRS.out with ⟨e,h,h2⟩ | ⟨a,i,h,_⟩
      ·have h3:=HR3.out.symm.trans h;cases h3;exact h2
      ·have h3:=HR3.out.symm.trans h;cases h3
     have HR4:=Lib.hid hR3
     clear hR3
     go_wp2_with fail
     refine hj.mono ?_
     rintro r4 w4 ⟨rfl,rfl⟩
     clear hj
     go_wp2_with fail
     go_ret
     rw[HRE.out];exact rpost_err HA3.out hc hi3 HR4.out
    | .ok (l,j),⟨G,v,hl,he,hO4,hR4⟩ =>
     subst hl he
     obtain⟨g1,g2,g3',g4⟩:=(P_ok EV.out.ok g3).bin (by omega) HR3.out
     obtain⟨ya,yc,rfl,-⟩:=hO4.form
     have hj:=r4join_ok j o 0 _ 10 F G (.slice ax (F.flat 0).length ak) (.slice ya (G.flat 0).length yc) w3 hR4 HO3.out.isE hO4.isE HG.out.one g1.one (by omega) (by omega)
     have HRE:Hid (r=.ok ([both 10 false F G],j)):=by
      rcases HRS.out with ⟨e,h,h2⟩ | ⟨a,i,h,h2⟩
      ·have h3:=HR3.out.symm.trans h;cases h3
      ·have h3:=HR3.out.symm.trans h;cases h3
       rcases h2 with ⟨_,h2⟩ | ⟨h2,_⟩
       ·exact h2
       ·exact absurd (by decide) h2
     have HR5:=Lib.hid hR4
     clear hR4 hO4 g1
     go_wp2_with fail
     refine hj.mono ?_
     rintro r4 w4 ⟨v4,rfl,ho,hb⟩
     have HR6:=Lib.hid (HR5.out.below hb)
     have HA6:=Lib.hid (HA3.out.then hb)
     have HO6:=Lib.hid (ho.mono hrw3)
     clear hj ho hb
     go_wp2_with fail
     go_ret
     rw[HRE.out];exact rpost_ok HA6.out (by rw[← HNB.out];exact HO6.out) HR6.out
   ·have HS:=Lib.hid hs
    clear hs
    have hc:=r4take_no EV i (by omega) o 0 0 ⟨#[61]⟩ (Or.inl (by rw[isT_some HS.out];decide)) w1 (HBR.out.then HBL0.out) (HR0.out.below HBL0.out)
    go_wp2_with fail
    refine hc.mono ?_
    rintro r2 v1 ⟨rfl,hb⟩
    have HBL1:=Lib.hid (below_next HBL0.out hb)
    clear hc hb HBL0
    have hc:=r4take_yes EV i (by omega) o 0 ⟨#[60,62]⟩ (by rw[isT_some HS.out];simp) v1 (HBR.out.then HBL1.out) (HR0.out.below HBL1.out)
    go_wp2_with fail
    refine hc.mono ?_
    rintro r2 w2 ⟨rfl,hR9,hA9⟩
    have hA2:Al rb w1 w2:=(Al.of HBL1.out).next hA9
    obtain⟨r3,hr3⟩ : ∃ r3,P L g3 (.bin 6) (i+1) o=some r3:=by
     rcases HRS.out with ⟨e,h,_⟩ | ⟨a,i,h,_⟩
     ·exact⟨_,h⟩
     ·exact⟨_,h⟩
    have HR3:=Lib.hid hr3
    have hcall:=IH.out g3 (by omega) 6 (i+1) o r3 w2 (by omega) (by omega) hr3 (HBR.out.next hA2) (by simpa using hR9)
    have HA2:Hid (Al rb w w2):=HA.out.next hA2
    have HO2:Hid (OwnE nb w2 (.slice ax (F.flat 0).length ak) (F.flat 0)):=hA2.ownE HO.out hlt
    have hrw2:nb≤w2.heap.size:=by have:=hA2.size;omega
    clear hc hR9 hA9 hA2 hr3 HA HO HBR hrw HBL1 HR0
    go_wp2_with fail
    refine hcall.mono ?_
    rintro e w3 ⟨hA3,hpost⟩
    have HA3:Hid (Al rb w w3):=HA2.out.next hA3
    have HO3:=Lib.hid (hA3.ownE HO2.out hlt)
    have hrw3:nb≤w3.heap.size:=by have:=hA3.size;omega
    clear hcall hA3
    match r3,hpost with
    | .error (c,p),⟨y,yn,yk,i3,he,hc,hi3,hR3⟩ =>
     subst he
     have hj:=r4join_no i3 o c p 11 hc _ (.slice ax (F.flat 0).length ak) (.slice y yn yk) w3 hR3
     have HRE:Hid (r=.error (c,p)):=by
      rcases HRS.out with ⟨e,h,h2⟩ | ⟨a,i,h,_⟩
      ·have h3:=HR3.out.symm.trans h;cases h3;exact h2
      ·have h3:=HR3.out.symm.trans h;cases h3
     have HR4:=Lib.hid hR3
     clear hR3
     go_wp2_with fail
     refine hj.mono ?_
     rintro r4 w4 ⟨rfl,rfl⟩
     clear hj
     go_wp2_with fail
     go_ret
     rw[HRE.out];exact rpost_err HA3.out hc hi3 HR4.out
    | .ok (l,j),⟨G,v,hl,he,hO4,hR4⟩ =>
     subst hl he
     obtain⟨g1,g2,g3',g4⟩:=(P_ok EV.out.ok g3).bin (by omega) HR3.out
     obtain⟨ya,yc,rfl,-⟩:=hO4.form
     have hj:=r4join_ok j o 0 _ 11 F G (.slice ax (F.flat 0).length ak) (.slice ya (G.flat 0).length yc) w3 hR4 HO3.out.isE hO4.isE HG.out.one g1.one (by omega) (by omega)
     have HRE:Hid (r=.ok ([both 11 false F G],j)):=by
      rcases HRS.out with ⟨e,h,h2⟩ | ⟨a,i,h,h2⟩
      ·have h3:=HR3.out.symm.trans h;cases h3
      ·have h3:=HR3.out.symm.trans h;cases h3
       rcases h2 with ⟨_,h2⟩ | ⟨h2,_⟩
       ·exact h2
       ·exact absurd (by decide) h2
     have HR5:=Lib.hid hR4
     clear hR4 hO4 g1
     go_wp2_with fail
     refine hj.mono ?_
     rintro r4 w4 ⟨v4,rfl,ho,hb⟩
     have HR6:=Lib.hid (HR5.out.below hb)
     have HA6:=Lib.hid (HA3.out.then hb)
     have HO6:=Lib.hid (ho.mono hrw3)
     clear hj ho hb
     go_wp2_with fail
     go_ret
     rw[HRE.out];exact rpost_ok HA6.out (by rw[← HNB.out];exact HO6.out) HR6.out
   ·have HS:=Lib.hid hs
    clear hs
    have hc:=r4take_no EV i (by omega) o 0 0 ⟨#[61]⟩ (Or.inl (by rw[isT_some HS.out];decide)) w1 (HBR.out.then HBL0.out) (HR0.out.below HBL0.out)
    go_wp2_with fail
    refine hc.mono ?_
    rintro r2 v1 ⟨rfl,hb⟩
    have HBL1:=Lib.hid (below_next HBL0.out hb)
    clear hc hb HBL0
    have hc:=r4take_no EV i (by omega) o 0 0 ⟨#[60,62]⟩ (Or.inl (by rw[isT_some HS.out];decide)) v1 (HBR.out.then HBL1.out) (HR0.out.below HBL1.out)
    go_wp2_with fail
    refine hc.mono ?_
    rintro r2 v2 ⟨rfl,hb⟩
    have HBL2:=Lib.hid (below_next HBL1.out hb)
    clear hc hb HBL1
    have hc:=r4take_yes EV i (by omega) o 0 ⟨#[60]⟩ (by rw[isT_some HS.out];simp) v2 (HBR.out.then HBL2.out) (HR0.out.below HBL2.out)
    go_wp2_with fail
    refine hc.mono ?_
    rintro r2 w2 ⟨rfl,hR9,hA9⟩
    have hA2:Al rb w1 w2:=(Al.of HBL2.out).next hA9
    obtain⟨r3,hr3⟩ : ∃ r3,P L g3 (.bin 6) (i+1) o=some r3:=by
     rcases HRS.out with ⟨e,h,_⟩ | ⟨a,i,h,_⟩
     ·exact⟨_,h⟩
     ·exact⟨_,h⟩
    have HR3:=Lib.hid hr3
    have hcall:=IH.out g3 (by omega) 6 (i+1) o r3 w2 (by omega) (by omega) hr3 (HBR.out.next hA2) (by simpa using hR9)
    have HA2:Hid (Al rb w w2):=HA.out.next hA2
    have HO2:Hid (OwnE nb w2 (.slice ax (F.flat 0).length ak) (F.flat 0)):=hA2.ownE HO.out hlt
    have hrw2:nb≤w2.heap.size:=by have:=hA2.size;omega
    clear hc hR9 hA9 hA2 hr3 HA HO HBR hrw HBL2 HR0
    go_wp2_with fail
    refine hcall.mono ?_
    rintro e w3 ⟨hA3,hpost⟩
    have HA3:Hid (Al rb w w3):=HA2.out.next hA3
    have HO3:=Lib.hid (hA3.ownE HO2.out hlt)
    have hrw3:nb≤w3.heap.size:=by have:=hA3.size;omega
    clear hcall hA3
    match r3,hpost with
    | .error (c,p),⟨y,yn,yk,i3,he,hc,hi3,hR3⟩ =>
     subst he
     have hj:=r4join_no i3 o c p 12 hc _ (.slice ax (F.flat 0).length ak) (.slice y yn yk) w3 hR3
     have HRE:Hid (r=.error (c,p)):=by
      rcases HRS.out with ⟨e,h,h2⟩ | ⟨a,i,h,_⟩
      ·have h3:=HR3.out.symm.trans h;cases h3;exact h2
      ·have h3:=HR3.out.symm.trans h;cases h3
     have HR4:=Lib.hid hR3
     clear hR3
     go_wp2_with fail
     refine hj.mono ?_
     rintro r4 w4 ⟨rfl,rfl⟩
     clear hj
     go_wp2_with fail
     go_ret
     rw[HRE.out];exact rpost_err HA3.out hc hi3 HR4.out
    | .ok (l,j),⟨G,v,hl,he,hO4,hR4⟩ =>
     subst hl he
     obtain⟨g1,g2,g3',g4⟩:=(P_ok EV.out.ok g3).bin (by omega) HR3.out
     obtain⟨ya,yc,rfl,-⟩:=hO4.form
     have hj:=r4join_ok j o 0 _ 12 F G (.slice ax (F.flat 0).length ak) (.slice ya (G.flat 0).length yc) w3 hR4 HO3.out.isE hO4.isE HG.out.one g1.one (by omega) (by omega)
     have HRE:Hid (r=.ok ([both 12 false F G],j)):=by
      rcases HRS.out with ⟨e,h,h2⟩ | ⟨a,i,h,h2⟩
      ·have h3:=HR3.out.symm.trans h;cases h3
      ·have h3:=HR3.out.symm.trans h;cases h3
       rcases h2 with ⟨_,h2⟩ | ⟨h2,_⟩
       ·exact h2
       ·exact absurd (by decide) h2
     have HR5:=Lib.hid hR4
     clear hR4 hO4 g1
     go_wp2_with fail
     refine hj.mono ?_
     rintro r4 w4 ⟨v4,rfl,ho,hb⟩
     have HR6:=Lib.hid (HR5.out.below hb)
     have HA6:=Lib.hid (HA3.out.then hb)
     have HO6:=Lib.hid (ho.mono hrw3)
     clear hj ho hb
     go_wp2_with fail
     go_ret
     rw[HRE.out];exact rpost_ok HA6.out (by rw[← HNB.out];exact HO6.out) HR6.out
   ·have HS:=Lib.hid hs
    clear hs
    have hc:=r4take_no EV i (by omega) o 0 0 ⟨#[61]⟩ (Or.inl (by rw[isT_some HS.out];decide)) w1 (HBR.out.then HBL0.out) (HR0.out.below HBL0.out)
    go_wp2_with fail
    refine hc.mono ?_
    rintro r2 v1 ⟨rfl,hb⟩
    have HBL1:=Lib.hid (below_next HBL0.out hb)
    clear hc hb HBL0
    have hc:=r4take_no EV i (by omega) o 0 0 ⟨#[60,62]⟩ (Or.inl (by rw[isT_some HS.out];decide)) v1 (HBR.out.then HBL1.out) (HR0.out.below HBL1.out)
    go_wp2_with fail
    refine hc.mono ?_
    rintro r2 v2 ⟨rfl,hb⟩
    have HBL2:=Lib.hid (below_next HBL1.out hb)
    clear hc hb HBL1
    have hc:=r4take_no EV i (by omega) o 0 0 ⟨#[60]⟩ (Or.inl (by rw[isT_some HS.out];decide)) v2 (HBR.out.then HBL2.out) (HR0.out.below HBL2.out)
    go_wp2_with fail
    refine hc.mono ?_
    rintro r2 v3 ⟨rfl,hb⟩
    have HBL3:=Lib.hid (below_next HBL2.out hb)
    clear hc hb HBL2
    have hc:=r4take_yes EV i (by omega) o 0 ⟨#[60,61]⟩ (by rw[isT_some HS.out];simp) v3 (HBR.out.then HBL3.out) (HR0.out.below HBL3.out)
    go_wp2_with fail
    refine hc.mono ?_
    rintro r2 w2 ⟨rfl,hR9,hA9⟩
    have hA2:Al rb w1 w2:=(Al.of HBL3.out).next hA9
    obtain⟨r3,hr3⟩ : ∃ r3,P L g3 (.bin 6) (i+1) o=some r3:=by
     rcases HRS.out with ⟨e,h,_⟩ | ⟨a,i,h,_⟩
     ·exact⟨_,h⟩
     ·exact⟨_,h⟩
    have HR3:=Lib.hid hr3
    have hcall:=IH.out g3 (by omega) 6 (i+1) o r3 w2 (by omega) (by omega) hr3 (HBR.out.next hA2) (by simpa using hR9)
    have HA2:Hid (Al rb w w2):=HA.out.next hA2
    have HO2:Hid (OwnE nb w2 (.slice ax (F.flat 0).length ak) (F.flat 0)):=hA2.ownE HO.out hlt
    have hrw2:nb≤w2.heap.size:=by have:=hA2.size;omega
    clear hc hR9 hA9 hA2 hr3 HA HO HBR hrw HBL3 HR0
    go_wp2_with fail
    refine hcall.mono ?_
    rintro e w3 ⟨hA3,hpost⟩
    have HA3:Hid (Al rb w w3):=HA2.out.next hA3
    have HO3:=Lib.hid (hA3.ownE HO2.out hlt)
    have hrw3:nb≤w3.heap.size:=by have:=hA3.size;omega
    clear hcall hA3
    match r3,hpost with
    | .error (c,p),⟨y,yn,yk,i3,he,hc,hi3,hR3⟩ =>
     subst he
     have hj:=r4join_no i3 o c p 13 hc _ (.slice ax (F.flat 0).length ak) (.slice y yn yk) w3 hR3
     have HRE:Hid (r=.error (c,p)):=by
      rcases HRS.out with ⟨e,h,h2⟩ | ⟨a,i,h,_⟩
      ·have h3:=HR3.out.symm.trans h;cases h3;exact h2
      ·have h3:=HR3.out.symm.trans h;cases h3
     have HR4:=Lib.hid hR3
     clear hR3
     go_wp2_with fail
     refine hj.mono ?_
     rintro r4 w4 ⟨rfl,rfl⟩
     clear hj
     go_wp2_with fail
     go_ret
     rw[HRE.out];exact rpost_err HA3.out hc hi3 HR4.out
    | .ok (l,j),⟨G,v,hl,he,hO4,hR4⟩ =>
     subst hl he
     obtain⟨g1,g2,g3',g4⟩:=(P_ok EV.out.ok g3).bin (by omega) HR3.out
     obtain⟨ya,yc,rfl,-⟩:=hO4.form
     have hj:=r4join_ok j o 0 _ 13 F G (.slice ax (F.flat 0).length ak) (.slice ya (G.flat 0).length yc) w3 hR4 HO3.out.isE hO4.isE HG.out.one g1.one (by omega) (by omega)
     have HRE:Hid (r=.ok ([both 13 false F G],j)):=by
      rcases HRS.out with ⟨e,h,h2⟩ | ⟨a,i,h,h2⟩
      ·have h3:=HR3.out.symm.trans h;cases h3
      ·have h3:=HR3.out.symm.trans h;cases h3
       rcases h2 with ⟨_,h2⟩ | ⟨h2,_⟩
       ·exact h2
       ·exact absurd (by decide) h2
     have HR5:=Lib.hid hR4
     clear hR4 hO4 g1
     go_wp2_with fail
     refine hj.mono ?_
     rintro r4 w4 ⟨v4,rfl,ho,hb⟩
     have HR6:=Lib.hid (HR5.out.below hb)
     have HA6:=Lib.hid (HA3.out.then hb)
     have HO6:=Lib.hid (ho.mono hrw3)
     clear hj ho hb
     go_wp2_with fail
     go_ret
     rw[HRE.out];exact rpost_ok HA6.out (by rw[← HNB.out];exact HO6.out) HR6.out
   ·have HS:=Lib.hid hs
    clear hs
    have hc:=r4take_no EV i (by omega) o 0 0 ⟨#[61]⟩ (Or.inl (by rw[isT_some HS.out];decide)) w1 (HBR.out.then HBL0.out) (HR0.out.below HBL0.out)
    go_wp2_with fail
    refine hc.mono ?_
    rintro r2 v1 ⟨rfl,hb⟩
    have HBL1:=Lib.hid (below_next HBL0.out hb)
    clear hc hb HBL0
    have hc:=r4take_no EV i (by omega) o 0 0 ⟨#[60,62]⟩ (Or.inl (by rw[isT_some HS.out];decide)) v1 (HBR.out.then HBL1.out) (HR0.out.below HBL1.out)
    go_wp2_with fail
    refine hc.mono ?_
    rintro r2 v2 ⟨rfl,hb⟩
    have HBL2:=Lib.hid (below_next HBL1.out hb)
    clear hc hb HBL1
    have hc:=r4take_no EV i (by omega) o 0 0 ⟨#[60]⟩ (Or.inl (by rw[isT_some HS.out];decide)) v2 (HBR.out.then HBL2.out) (HR0.out.below HBL2.out)
    go_wp2_with fail
    refine hc.mono ?_
    rintro r2 v3 ⟨rfl,hb⟩
    have HBL3:=Lib.hid (below_next HBL2.out hb)
    clear hc hb HBL2
    have hc:=r4take_no EV i (by omega) o 0 0 ⟨#[60,61]⟩ (Or.inl (by rw[isT_some HS.out];decide)) v3 (HBR.out.then HBL3.out) (HR0.out.below HBL3.out)
    go_wp2_with fail
    refine hc.mono ?_
    rintro r2 v4 ⟨rfl,hb⟩
    have HBL4:=Lib.hid (below_next HBL3.out hb)
    clear hc hb HBL3
    have hc:=r4take_yes EV i (by omega) o 0 ⟨#[62]⟩ (by rw[isT_some HS.out];simp) v4 (HBR.out.then HBL4.out) (HR0.out.below HBL4.out)
    go_wp2_with fail
    refine hc.mono ?_
    rintro r2 w2 ⟨rfl,hR9,hA9⟩
    have hA2:Al rb w1 w2:=(Al.of HBL4.out).next hA9
    obtain⟨r3,hr3⟩ : ∃ r3,P L g3 (.bin 6) (i+1) o=some r3:=by
     rcases HRS.out with ⟨e,h,_⟩ | ⟨a,i,h,_⟩
     ·exact⟨_,h⟩
     ·exact⟨_,h⟩
    have HR3:=Lib.hid hr3
    have hcall:=IH.out g3 (by omega) 6 (i+1) o r3 w2 (by omega) (by omega) hr3 (HBR.out.next hA2) (by simpa using hR9)
    have HA2:Hid (Al rb w w2):=HA.out.next hA2
    have HO2:Hid (OwnE nb w2 (.slice ax (F.flat 0).length ak) (F.flat 0)):=hA2.ownE HO.out hlt
    have hrw2:nb≤w2.heap.size:=by have:=hA2.size;omega
    clear hc hR9 hA9 hA2 hr3 HA HO HBR hrw HBL4 HR0
    go_wp2_with fail
    refine hcall.mono ?_
    rintro e w3 ⟨hA3,hpost⟩
    have HA3:Hid (Al rb w w3):=HA2.out.next hA3
    have HO3:=Lib.hid (hA3.ownE HO2.out hlt)
    have hrw3:nb≤w3.heap.size:=by have:=hA3.size;omega
    clear hcall hA3
    match r3,hpost with
    | .error (c,p),⟨y,yn,yk,i3,he,hc,hi3,hR3⟩ =>
     subst he
     have hj:=r4join_no i3 o c p 12 hc _ (.slice y yn yk) (.slice ax (F.flat 0).length ak) w3 hR3
     have HRE:Hid (r=.error (c,p)):=by
      rcases HRS.out with ⟨e,h,h2⟩ | ⟨a,i,h,_⟩
      ·have h3:=HR3.out.symm.trans h;cases h3;exact h2
      ·have h3:=HR3.out.symm.trans h;cases h3
     have HR4:=Lib.hid hR3
     clear hR3
     go_wp2_with fail
     refine hj.mono ?_
     rintro r4 w4 ⟨rfl,rfl⟩
     clear hj
     go_wp2_with fail
     go_ret
     rw[HRE.out];exact rpost_err HA3.out hc hi3 HR4.out
    | .ok (l,j),⟨G,v,hl,he,hO4,hR4⟩ =>
     subst hl he
     obtain⟨g1,g2,g3',g4⟩:=(P_ok EV.out.ok g3).bin (by omega) HR3.out
     obtain⟨ya,yc,rfl,-⟩:=hO4.form
     have hj:=r4join_ok j o 0 _ 12 G F (.slice ya (G.flat 0).length yc) (.slice ax (F.flat 0).length ak) w3 hR4 hO4.isE HO3.out.isE g1.one HG.out.one (by omega) (by omega)
     have HRE:Hid (r=.ok ([both 12 true F G],j)):=by
      rcases HRS.out with ⟨e,h,h2⟩ | ⟨a,i,h,h2⟩
      ·have h3:=HR3.out.symm.trans h;cases h3
      ·have h3:=HR3.out.symm.trans h;cases h3
       rcases h2 with ⟨_,h2⟩ | ⟨h2,_⟩
       ·exact h2
       ·exact absurd (by decide) h2
     have HR5:=Lib.hid hR4
     clear hR4 hO4 g1
     go_wp2_with fail
     refine hj.mono ?_
     rintro r4 w4 ⟨v4,rfl,ho,hb⟩
     have HR6:=Lib.hid (HR5.out.below hb)
     have HA6:=Lib.hid (HA3.out.then hb)
     have HO6:=Lib.hid (ho.mono hrw3)
     clear hj ho hb
     go_wp2_with fail
     go_ret
     rw[HRE.out];exact rpost_ok HA6.out (by rw[← HNB.out];exact HO6.out) HR6.out
   ·have HS:=Lib.hid hs
    clear hs
    have hc:=r4take_no EV i (by omega) o 0 0 ⟨#[61]⟩ (Or.inl (by rw[isT_some HS.out];decide)) w1 (HBR.out.then HBL0.out) (HR0.out.below HBL0.out)
    go_wp2_with fail
    refine hc.mono ?_
    rintro r2 v1 ⟨rfl,hb⟩
    have HBL1:=Lib.hid (below_next HBL0.out hb)
    clear hc hb HBL0
    have hc:=r4take_no EV i (by omega) o 0 0 ⟨#[60,62]⟩ (Or.inl (by rw[isT_some HS.out];decide)) v1 (HBR.out.then HBL1.out) (HR0.out.below HBL1.out)
    go_wp2_with fail
    refine hc.mono ?_
    rintro r2 v2 ⟨rfl,hb⟩
    have HBL2:=Lib.hid (below_next HBL1.out hb)
    clear hc hb HBL1
    have hc:=r4take_no EV i (by omega) o 0 0 ⟨#[60]⟩ (Or.inl (by rw[isT_some HS.out];decide)) v2 (HBR.out.then HBL2.out) (HR0.out.below HBL2.out)
    go_wp2_with fail
    refine hc.mono ?_
    rintro r2 v3 ⟨rfl,hb⟩
    have HBL3:=Lib.hid (below_next HBL2.out hb)
    clear hc hb HBL2
    have hc:=r4take_no EV i (by omega) o 0 0 ⟨#[60,61]⟩ (Or.inl (by rw[isT_some HS.out];decide)) v3 (HBR.out.then HBL3.out) (HR0.out.below HBL3.out)
    go_wp2_with fail
    refine hc.mono ?_
    rintro r2 v4 ⟨rfl,hb⟩
    have HBL4:=Lib.hid (below_next HBL3.out hb)
    clear hc hb HBL3
    have hc:=r4take_no EV i (by omega) o 0 0 ⟨#[62]⟩ (Or.inl (by rw[isT_some HS.out];decide)) v4 (HBR.out.then HBL4.out) (HR0.out.below HBL4.out)
    go_wp2_with fail
    refine hc.mono ?_
    rintro r2 v5 ⟨rfl,hb⟩
    have HBL5:=Lib.hid (below_next HBL4.out hb)
    clear hc hb HBL4
    have hc:=r4take_yes EV i (by omega) o 0 ⟨#[62,61]⟩ (by rw[isT_some HS.out];simp) v5 (HBR.out.then HBL5.out) (HR0.out.below HBL5.out)
    go_wp2_with fail
    refine hc.mono ?_
    rintro r2 w2 ⟨rfl,hR9,hA9⟩
    have hA2:Al rb w1 w2:=(Al.of HBL5.out).next hA9
    obtain⟨r3,hr3⟩ : ∃ r3,P L g3 (.bin 6) (i+1) o=some r3:=by
     rcases HRS.out with ⟨e,h,_⟩ | ⟨a,i,h,_⟩
     ·exact⟨_,h⟩
     ·exact⟨_,h⟩
    have HR3:=Lib.hid hr3
    have hcall:=IH.out g3 (by omega) 6 (i+1) o r3 w2 (by omega) (by omega) hr3 (HBR.out.next hA2) (by simpa using hR9)
    have HA2:Hid (Al rb w w2):=HA.out.next hA2
    have HO2:Hid (OwnE nb w2 (.slice ax (F.flat 0).length ak) (F.flat 0)):=hA2.ownE HO.out hlt
    have hrw2:nb≤w2.heap.size:=by have:=hA2.size;omega
    clear hc hR9 hA9 hA2 hr3 HA HO HBR hrw HBL5 HR0
    go_wp2_with fail
    refine hcall.mono ?_
    rintro e w3 ⟨hA3,hpost⟩
    have HA3:Hid (Al rb w w3):=HA2.out.next hA3
    have HO3:=Lib.hid (hA3.ownE HO2.out hlt)
    have hrw3:nb≤w3.heap.size:=by have:=hA3.size;omega
    clear hcall hA3
    match r3,hpost with
    | .error (c,p),⟨y,yn,yk,i3,he,hc,hi3,hR3⟩ =>
     subst he
     have hj:=r4join_no i3 o c p 13 hc _ (.slice y yn yk) (.slice ax (F.flat 0).length ak) w3 hR3
     have HRE:Hid (r=.error (c,p)):=by
      rcases HRS.out with ⟨e,h,h2⟩ | ⟨a,i,h,_⟩
      ·have h3:=HR3.out.symm.trans h;cases h3;exact h2
      ·have h3:=HR3.out.symm.trans h;cases h3
     have HR4:=Lib.hid hR3
     clear hR3
     go_wp2_with fail
     refine hj.mono ?_
     rintro r4 w4 ⟨rfl,rfl⟩
     clear hj
     go_wp2_with fail
     go_ret
     rw[HRE.out];exact rpost_err HA3.out hc hi3 HR4.out
    | .ok (l,j),⟨G,v,hl,he,hO4,hR4⟩ =>
     subst hl he
     obtain⟨g1,g2,g3',g4⟩:=(P_ok EV.out.ok g3).bin (by omega) HR3.out
     obtain⟨ya,yc,rfl,-⟩:=hO4.form
     have hj:=r4join_ok j o 0 _ 13 G F (.slice ya (G.flat 0).length yc) (.slice ax (F.flat 0).length ak) w3 hR4 hO4.isE HO3.out.isE g1.one HG.out.one (by omega) (by omega)
     have HRE:Hid (r=.ok ([both 13 true F G],j)):=by
      rcases HRS.out with ⟨e,h,h2⟩ | ⟨a,i,h,h2⟩
      ·have h3:=HR3.out.symm.trans h;cases h3
      ·have h3:=HR3.out.symm.trans h;cases h3
       rcases h2 with ⟨_,h2⟩ | ⟨h2,_⟩
       ·exact h2
       ·exact absurd (by decide) h2
     have HR5:=Lib.hid hR4
     clear hR4 hO4 g1
     go_wp2_with fail
     refine hj.mono ?_
     rintro r4 w4 ⟨v4,rfl,ho,hb⟩
     have HR6:=Lib.hid (HR5.out.below hb)
     have HA6:=Lib.hid (HA3.out.then hb)
     have HO6:=Lib.hid (ho.mono hrw3)
     clear hj ho hb
     go_wp2_with fail
     go_ret
     rw[HRE.out];exact rpost_ok HA6.out (by rw[← HNB.out];exact HO6.out) HR6.out
 ·cases hax
  have HE:Hid (∀ w2,Below w1.heap.size w1 w2→RPost (Rd rb (.slice a L.length cc)) rb o w r (.returned (.slice ax an ak)) w2):=fun w2 hb=>by rw[hr];exact rpost_err (hA.then hb) hc hi (hR.below hb)
  have HR0:=Lib.hid hR
  have HB0:Hid (Al rb w0 w1):=HB.out.next hA
  have HBL0:Hid (Below w1.heap.size w1 w1):=Below.refl _ _
  have hno0:Hid (isT L i ⟨#[61]⟩=false∨c≠0):=Or.inr hc
  have hno1:Hid (isT L i ⟨#[60,62]⟩=false∨c≠0):=Or.inr hc
  have hno2:Hid (isT L i ⟨#[60]⟩=false∨c≠0):=Or.inr hc
  have hno3:Hid (isT L i ⟨#[60,61]⟩=false∨c≠0):=Or.inr hc
  have hno4:Hid (isT L i ⟨#[62]⟩=false∨c≠0):=Or.inr hc
  have hno5:Hid (isT L i ⟨#[62,61]⟩=false∨c≠0):=Or.inr hc
  clear hA hR hr hc
  have hc0:=r4take_no EV i (by omega) o c p ⟨#[61]⟩ hno0.out w1 HB0.out HR0.out
  go_wp2_with fail
  refine hc0.mono ?_
  rintro r2 w2 ⟨rfl,hb⟩
  have HR1:=Lib.hid (HR0.out.below hb)
  have HB1:=Lib.hid (HB0.out.then hb)
  have HBL1:=Lib.hid (below_next HBL0.out hb)
  clear hc0 hb HR0 HB0 HBL0
  have hc1:=r4take_no EV i (by omega) o c p ⟨#[60,62]⟩ hno1.out w2 HB1.out HR1.out
  go_wp2_with fail
  refine hc1.mono ?_
  rintro r2 w3 ⟨rfl,hb⟩
  have HR2:=Lib.hid (HR1.out.below hb)
  have HB2:=Lib.hid (HB1.out.then hb)
  have HBL2:=Lib.hid (below_next HBL1.out hb)
  clear hc1 hb HR1 HB1 HBL1
  have hc2:=r4take_no EV i (by omega) o c p ⟨#[60]⟩ hno2.out w3 HB2.out HR2.out
  go_wp2_with fail
  refine hc2.mono ?_
  rintro r2 w4 ⟨rfl,hb⟩
  have HR3:=Lib.hid (HR2.out.below hb)
  have HB3:=Lib.hid (HB2.out.then hb)
  have HBL3:=Lib.hid (below_next HBL2.out hb)
  clear hc2 hb HR2 HB2 HBL2
  have hc3:=r4take_no EV i (by omega) o c p ⟨#[60,61]⟩ hno3.out w4 HB3.out HR3.out
  go_wp2_with fail
  refine hc3.mono ?_
  rintro r2 w5 ⟨rfl,hb⟩
  have HR4:=Lib.hid (HR3.out.below hb)
  have HB4:=Lib.hid (HB3.out.then hb)
  have HBL4:=Lib.hid (below_next HBL3.out hb)
  clear hc3 hb HR3 HB3 HBL3
  have hc4:=r4take_no EV i (by omega) o c p ⟨#[62]⟩ hno4.out w5 HB4.out HR4.out
  go_wp2_with fail
  refine hc4.mono ?_
  rintro r2 w6 ⟨rfl,hb⟩
  have HR5:=Lib.hid (HR4.out.below hb)
  have HB5:=Lib.hid (HB4.out.then hb)
  have HBL5:=Lib.hid (below_next HBL4.out hb)
  clear hc4 hb HR4 HB4 HBL4
  have hc5:=r4take_no EV i (by omega) o c p ⟨#[62,61]⟩ hno5.out w6 HB5.out HR5.out
  go_wp2_with fail
  refine hc5.mono ?_
  rintro r2 w7 ⟨rfl,hb⟩
  have HR6:=Lib.hid (HR5.out.below hb)
  have HB6:=Lib.hid (HB5.out.then hb)
  have HBL6:=Lib.hid (below_next HBL5.out hb)
  clear hc5 hb HR5 HB5 HBL5
  go_wp2_with fail
  go_ret
  exact HE.out w7 HBL6.out
end
end Go.Proofs.YtmacepicoandkaaGreatDoor
