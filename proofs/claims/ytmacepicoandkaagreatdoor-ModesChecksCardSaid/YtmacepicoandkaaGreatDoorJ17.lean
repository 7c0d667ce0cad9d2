/- The reference's reader of expressions: level 3 (since): the walk. The reference's reader of expressions: level 5 (and): the walk. The reference's reader of expressions: the level of sum: the walk. The reference's reader of expressions: the level of prod: the walk. -/
import Derived.Test.YtmacepicoandkaaGreatDoorJ15
import Derived.Test.YtmacepicoandkaaGreatDoorJ16
set_option linter.unusedVariables false
set_option linter.unusedSimpArgs false
namespace Go.Proofs.YtmacepicoandkaaGreatDoor
open Go.RowKit Go.Shelf Tx Px
def lvF:Nat→Nat
 | 0=>90
 | 1=>103
 | 2=>116
 | 3=>126
 | 4=>134
 | 5=>137
 | 6=>138
 | 7=>139
 | _=>140
def LvOk (w0:World) (rb:Nat) (a:Option Addr) (cc:Nat) (L:List Tok) (f:Nat):Prop :=
 ∀ (n I o:Nat) (r:Res) (w:World),n≤8→I≤L.length→P L f (.bin n) I o=some r→Al rb w0 w→Rd rb (.slice a L.length cc) w I o 0 0 →
  Calls Tryz.prog (lvF n) #[.pointer (some ⟨rb,0,none⟩)] w (RPost (Rd rb (.slice a L.length cc)) rb o w r)
section
variable {L : List Tok} {a : Option Addr} {cc rb : Nat} {w0 : World}
set_option maxRecDepth 100000 in
set_option maxHeartbeats 2000000 in
theorem r4since_any (EV:Hid (EnvOk w0 rb a cc L)) (f:Nat) (IH:Hid (∀ g,g<f→LvOk w0 rb a cc L g)) (I o:Nat) (r:Res) (w:World) (hI:I≤L.length) (hP:P L f (.bin 2) I o=some r) (hB:Al rb w0 w) (hR:Rd rb (.slice a L.length cc) w I o 0 0) :
  Calls Tryz.prog 116 #[.pointer (some ⟨rb,0,none⟩)] w (RPost (Rd rb (.slice a L.length cc)) rb o w r):=by
 obtain⟨g,rfl,hcs⟩:=bin_cases (by omega) hP
 have hL:=EV.out.len
 have hlt:=hR.lt
 obtain⟨nb,hnb⟩ : ∃ nb,nb=w.heap.size:=⟨_,rfl⟩
 have HNB:=Lib.hid hnb
 have HB:=Lib.hid hB
 rw[← hnb] at hlt
 have h1:∀ r1,P L g (.bin 3) I o=some r1→_:=fun r1 h=>IH.out g (by omega) 3 I o r1 w (by omega) hI h hB hR
 have H1:Hid (∀ r1,P L g (.bin 3) I o=some r1→_):=h1
 have HC:=Lib.hid hcs
 clear hP hcs h1 hB hR hnb
 obtain⟨r1,hr1⟩ : ∃ r1,P L g (.bin 3) I o=some r1:=by
  rcases HC.out with ⟨e,h,_⟩ | ⟨a,i,h,_⟩
  ·exact⟨_,h⟩
  ·exact⟨_,h⟩
 have HR1:=Lib.hid hr1
 clear hr1
 go_enter Tryz.func116,Tryz.ntmps116
 go_wp2_with fail
 refine (H1.out r1 HR1.out).mono ?_
 rintro e w1 ⟨hA,hpost⟩
 have HLP:Hid (∃ av,e=.returned av∧(∃ x n k,av=.slice x n k)∧LpR (Rd rb (.slice a L.length cc)) L rb nb o w 2 (g+1) r av w1):=by
  rcases HC.out with ⟨⟨c,p⟩,h,h2⟩ | ⟨F,i,h,h2⟩
  ·have h3:=HR1.out.symm.trans h
   cases h3
   obtain⟨x,n,k,i,h4,h5,h6,h7⟩:=hpost
   exact⟨_,h4,⟨_,_,_,rfl⟩,hA,Or.inr ⟨c,p,x,n,k,i,h2,h5,h6,h7,rfl⟩⟩
  ·have h3:=HR1.out.symm.trans h
   cases h3
   obtain⟨F',v,h4,h5,h6,h7⟩:=hpost
   cases h4
   obtain⟨g1,g2,g3,g4⟩:=(P_ok EV.out.ok g).bin hI h
   obtain⟨va,vc,hv,-⟩:=h6.form
   exact⟨v,h5,⟨_,_,_,hv⟩,hA,Or.inl ⟨F,i,g,by omega,by rw[HNB.out];exact h6,g1,by omega,g3,h7,h2⟩⟩
 obtain⟨av,rfl,⟨ax,an,ak,rfl⟩,hlp⟩:=HLP.out
 have HLP2:=Lib.hid hlp
 clear HLP hlp hpost hA H1 HR1 HC
 go_wp2_with fail
 go_loopw [3] (fun av wr=>LpR (Rd rb (.slice a L.length cc)) L rb nb o w 2 (g+1) r av wr) (fun _ wr=>mR rb 1 3 L.length wr)
 case atStart=>exact HLP2.out
 case round =>
  obtain⟨hA,⟨F,i,g2,hg2,hO,hG,hF,hi,hR,hP⟩ | ⟨c,p,x,n,k,i,hr,hc,hi,hR,rfl⟩⟩:=hrel
  ·have hBr:Al rb w0 wr:=HB.out.next hA
   obtain⟨va,vc,rfl,-⟩:=hO.form
   have hfr:=mR_ok (N:=L.length) hR.cells.2.1 hR.cells.2.2.2.1
   have HM:=Lib.hid hfr
   rcases loop_cases hP with ⟨hn,rfl⟩ | ⟨g3,s,op,sw,rfl,hs,hop,hrest⟩
   ·have ht:=r4take_no EV i (by omega) o 0 0 ⟨#[115,105,110,99,101]⟩ (Or.inl (isT_none hn (by decide))) wr hBr hR
    have HE:Hid (∀ w2,Below wr.heap.size wr w2→RPost (Rd rb (.slice a L.length cc)) rb o w (.ok ([F],i)) (.returned (.slice va (F.flat 0).length vc)) w2):=fun w2 hb=>rpost_ok (hA.then hb) (by rw[← HNB.out];exact hO.below hb) (hR.below hb)
    clear hP hn hBr hA hO hG hF hi hR hfr
    go_wp2_with fail
    refine ht.mono ?_
    rintro r2 w2 ⟨rfl,hb⟩
    have HB2:=Lib.hid hb
    clear ht hb
    go_wp2_with fail
    go_ret
    exact HE.out w2 HB2.out
   ·have hso:s=⟨#[115,105,110,99,101]⟩∧op=20∧sw=false:=by
     unfold Px.opAt at hop
     simp only at hop
     split at hop
     ·rename_i e;cases hop;exact⟨e,rfl,rfl⟩
     ·cases hop
    obtain⟨rfl,rfl,rfl⟩:=hso
    have ht:=r4take_yes EV i (by omega) o 0 ⟨#[115,105,110,99,101]⟩ (by rw[isT_some hs];simp) wr hBr hR
    have hil:i<L.length:=hereT_lt hs
    have HO:=Lib.hid hO
    have HG:=Lib.hid hG
    have HA:=Lib.hid hA
    have HBR:=Lib.hid hBr
    have HRS:=Lib.hid hrest
    have hrw:nb≤wr.heap.size:=by rw[HNB.out];exact hA.size
    clear hP hs hop hBr hA hO hG hR hfr hrest
    go_wp2_with fail
    refine ht.mono ?_
    rintro r2 w2 ⟨rfl,hR2,hA2⟩
    obtain⟨r3,hr3⟩ : ∃ r3,P L g3 (.bin 3) (i+1) o=some r3:=by
     rcases HRS.out with ⟨e,h,_⟩ | ⟨a,i,h,_⟩
     ·exact⟨_,h⟩
     ·exact⟨_,h⟩
    have hcall:=IH.out g3 (by omega) 3 (i+1) o r3 w2 (by omega) (by omega) hr3 (HBR.out.next hA2) (by simpa using hR2)
    have HR3:=Lib.hid hr3
    have HA2:Hid (Al rb w w2):=HA.out.next hA2
    have HO2:Hid (OwnE nb w2 (.slice va (F.flat 0).length vc) (F.flat 0)):=hA2.ownE HO.out hlt
    have hrw2:nb≤w2.heap.size:=by have:=hA2.size;omega
    clear ht hR2 hA2 hr3 HA HO HBR hrw
    go_wp2_with fail
    refine hcall.mono ?_
    rintro e w3 ⟨hA3,hpost⟩
    have HA3:Hid (Al rb w w3):=HA2.out.next hA3
    have HO3:=Lib.hid (hA3.ownE HO2.out hlt)
    have hrw3:nb≤w3.heap.size:=by have:=hA3.size;omega
    clear hcall hA3
    match r3,hpost with
    | .error (c,p),⟨y,yn,yk,i3,he,hc,hi3,hR3⟩ =>
     subst he
     have hj:=r4join_no i3 o c p 20 hc _ (.slice va (F.flat 0).length vc) (.slice y yn yk) w3 hR3
     have HRE:Hid (r=.error (c,p)):=by
      rcases HRS.out with ⟨e,h,h2⟩ | ⟨a,i,h,_⟩
      ·have h3:=HR3.out.symm.trans h;cases h3;exact h2
      ·have h3:=HR3.out.symm.trans h;cases h3
     have HR4:=Lib.hid hR3
     clear hR3
     go_wp2_with fail
     refine hj.mono ?_
     rintro r4 w4 ⟨rfl,rfl⟩
     clear hj
     go_wp2_with fail
     go_roundw
     case rel=>exact⟨HA3.out,Or.inr ⟨c,p,none,0,0,i3,HRE.out,hc,hi3,HR4.out,rfl⟩⟩
     case measure=>rw[HM.out,mR_err HR4.out.cells.2.2.2.1 hc];omega
    | .ok (l,j),⟨G,v,hl,he,hO4,hR4⟩ =>
     subst hl he
     obtain⟨g1,g2,g3',g4⟩:=(P_ok EV.out.ok g3).bin (by omega) HR3.out
     obtain⟨ya,yc,rfl,-⟩:=hO4.form
     have hj:=r4join_ok j o 0 _ 20 F G (.slice va (F.flat 0).length vc) (.slice ya (G.flat 0).length yc) w3 hR4 HO3.out.isE hO4.isE HG.out.one g1.one (by omega) (by omega)
     have HRE:Hid (P L g3 (.loop 2 (both 20 false F G)) j o=some r):=by
      rcases HRS.out with ⟨e,h,h2⟩ | ⟨a,i,h,h2⟩
      ·have h3:=HR3.out.symm.trans h;cases h3
      ·have h3:=HR3.out.symm.trans h;cases h3
       rcases h2 with ⟨h2,_⟩ | ⟨_,h2⟩
       ·omega
       ·exact h2
     have HR5:=Lib.hid hR4
     have HGG:=Lib.hid g1
     clear hR4 hO4 g1
     go_wp2_with fail
     refine hj.mono ?_
     rintro r4 w4 ⟨v4,rfl,ho,hb⟩
     have HR6:=Lib.hid (HR5.out.below hb)
     have HA6:=Lib.hid (HA3.out.then hb)
     have HO6:=Lib.hid (ho.mono hrw3)
     have hv:=both_size 20 false F G
     have HV:=Lib.hid hv
     clear hj ho hb hv
     go_wp2_with fail
     go_roundw
     case rel=>exact⟨HA6.out,Or.inl ⟨both 20 false F G,j,g3,by omega,HO6.out,both_good (by omega) HG.out HGG.out,by rw[HV.out];omega,g3',HR6.out,HRE.out⟩⟩
     case measure=>rw[HM.out,mR_ok HR6.out.cells.2.1 HR6.out.cells.2.2.2.1];omega
  ·have ht:=r4take_no EV i hi o c p ⟨#[115,105,110,99,101]⟩ (Or.inr hc) wr (HB.out.next hA) hR
   have HE:Hid (∀ w2,Below wr.heap.size wr w2→RPost (Rd rb (.slice a L.length cc)) rb o w r (.returned (.slice x n k)) w2):=fun w2 hb=>by rw[hr];exact rpost_err (hA.then hb) hc hi (hR.below hb)
   clear hA hR hr hc hi
   go_wp2_with fail
   refine ht.mono ?_
   rintro r2 w2 ⟨rfl,hb⟩
   have HB2:=Lib.hid hb
   clear ht hb
   go_wp2_with fail
   go_ret
   exact HE.out w2 HB2.out
end
end Go.Proofs.YtmacepicoandkaaGreatDoor
namespace Go.Proofs.YtmacepicoandkaaGreatDoor
open Go.RowKit Go.Shelf Tx Px
section
variable {L : List Tok} {a : Option Addr} {cc rb : Nat} {w0 : World}
set_option maxRecDepth 100000 in
set_option maxHeartbeats 2000000 in
theorem r4and_any (EV:Hid (EnvOk w0 rb a cc L)) (f:Nat) (IH:Hid (∀ g,g<f→LvOk w0 rb a cc L g)) (I o:Nat) (r:Res) (w:World) (hI:I≤L.length) (hP:P L f (.bin 4) I o=some r) (hB:Al rb w0 w) (hR:Rd rb (.slice a L.length cc) w I o 0 0) :
  Calls Tryz.prog 134 #[.pointer (some ⟨rb,0,none⟩)] w (RPost (Rd rb (.slice a L.length cc)) rb o w r):=by
 obtain⟨g,rfl,hcs⟩:=bin_cases (by omega) hP
 have hL:=EV.out.len
 have hlt:=hR.lt
 obtain⟨nb,hnb⟩ : ∃ nb,nb=w.heap.size:=⟨_,rfl⟩
 have HNB:=Lib.hid hnb
 have HB:=Lib.hid hB
 rw[← hnb] at hlt
 have h1:∀ r1,P L g (.bin 5) I o=some r1→_:=fun r1 h=>IH.out g (by omega) 5 I o r1 w (by omega) hI h hB hR
 have H1:Hid (∀ r1,P L g (.bin 5) I o=some r1→_):=h1
 have HC:=Lib.hid hcs
 clear hP hcs h1 hB hR hnb
 obtain⟨r1,hr1⟩ : ∃ r1,P L g (.bin 5) I o=some r1:=by
  rcases HC.out with ⟨e,h,_⟩ | ⟨a,i,h,_⟩
  ·exact⟨_,h⟩
  ·exact⟨_,h⟩
 have HR1:=Lib.hid hr1
 clear hr1
 go_enter Tryz.func134,Tryz.ntmps134
 go_wp2_with fail
 refine (H1.out r1 HR1.out).mono ?_
 rintro e w1 ⟨hA,hpost⟩
 have HLP:Hid (∃ av,e=.returned av∧(∃ x n k,av=.slice x n k)∧LpR (Rd rb (.slice a L.length cc)) L rb nb o w 4 (g+1) r av w1):=by
  rcases HC.out with ⟨⟨c,p⟩,h,h2⟩ | ⟨F,i,h,h2⟩
  ·have h3:=HR1.out.symm.trans h
   cases h3
   obtain⟨x,n,k,i,h4,h5,h6,h7⟩:=hpost
   exact⟨_,h4,⟨_,_,_,rfl⟩,hA,Or.inr ⟨c,p,x,n,k,i,h2,h5,h6,h7,rfl⟩⟩
  ·have h3:=HR1.out.symm.trans h
   cases h3
   obtain⟨F',v,h4,h5,h6,h7⟩:=hpost
   cases h4
   obtain⟨g1,g2,g3,g4⟩:=(P_ok EV.out.ok g).bin hI h
   obtain⟨va,vc,hv,-⟩:=h6.form
   exact⟨v,h5,⟨_,_,_,hv⟩,hA,Or.inl ⟨F,i,g,by omega,by rw[HNB.out];exact h6,g1,by omega,g3,h7,h2⟩⟩
 obtain⟨av,rfl,⟨ax,an,ak,rfl⟩,hlp⟩:=HLP.out
 have HLP2:=Lib.hid hlp
 clear HLP hlp hpost hA H1 HR1 HC
 go_wp2_with fail
 go_loopw [3] (fun av wr=>LpR (Rd rb (.slice a L.length cc)) L rb nb o w 4 (g+1) r av wr) (fun _ wr=>mR rb 1 3 L.length wr)
 case atStart=>exact HLP2.out
 case round =>
  obtain⟨hA,⟨F,i,g2,hg2,hO,hG,hF,hi,hR,hP⟩ | ⟨c,p,x,n,k,i,hr,hc,hi,hR,rfl⟩⟩:=hrel
  ·have hBr:Al rb w0 wr:=HB.out.next hA
   obtain⟨va,vc,rfl,-⟩:=hO.form
   have hfr:=mR_ok (N:=L.length) hR.cells.2.1 hR.cells.2.2.2.1
   have HM:=Lib.hid hfr
   rcases loop_cases hP with ⟨hn,rfl⟩ | ⟨g3,s,op,sw,rfl,hs,hop,hrest⟩
   ·have ht:=r4take_no EV i (by omega) o 0 0 ⟨#[97,110,100]⟩ (Or.inl (isT_none hn (by decide))) wr hBr hR
    have HE:Hid (∀ w2,Below wr.heap.size wr w2→RPost (Rd rb (.slice a L.length cc)) rb o w (.ok ([F],i)) (.returned (.slice va (F.flat 0).length vc)) w2):=fun w2 hb=>rpost_ok (hA.then hb) (by rw[← HNB.out];exact hO.below hb) (hR.below hb)
    clear hP hn hBr hA hO hG hF hi hR hfr
    go_wp2_with fail
    refine ht.mono ?_
    rintro r2 w2 ⟨rfl,hb⟩
    have HB2:=Lib.hid hb
    clear ht hb
    go_wp2_with fail
    go_ret
    exact HE.out w2 HB2.out
   ·have hso:s=⟨#[97,110,100]⟩∧op=6∧sw=false:=by
     unfold Px.opAt at hop
     simp only at hop
     split at hop
     ·rename_i e;cases hop;exact⟨e,rfl,rfl⟩
     ·cases hop
    obtain⟨rfl,rfl,rfl⟩:=hso
    have ht:=r4take_yes EV i (by omega) o 0 ⟨#[97,110,100]⟩ (by rw[isT_some hs];simp) wr hBr hR
    have hil:i<L.length:=hereT_lt hs
    have HO:=Lib.hid hO
    have HG:=Lib.hid hG
    have HA:=Lib.hid hA
    have HBR:=Lib.hid hBr
    have HRS:=Lib.hid hrest
    have hrw:nb≤wr.heap.size:=by rw[HNB.out];exact hA.size
    clear hP hs hop hBr hA hO hG hR hfr hrest
    go_wp2_with fail
    refine ht.mono ?_
    rintro r2 w2 ⟨rfl,hR2,hA2⟩
    obtain⟨r3,hr3⟩ : ∃ r3,P L g3 (.bin 5) (i+1) o=some r3:=by
     rcases HRS.out with ⟨e,h,_⟩ | ⟨a,i,h,_⟩
     ·exact⟨_,h⟩
     ·exact⟨_,h⟩
    have hcall:=IH.out g3 (by omega) 5 (i+1) o r3 w2 (by omega) (by omega) hr3 (HBR.out.next hA2) (by simpa using hR2)
    have HR3:=Lib.hid hr3
    have HA2:Hid (Al rb w w2):=HA.out.next hA2
    have HO2:Hid (OwnE nb w2 (.slice va (F.flat 0).length vc) (F.flat 0)):=hA2.ownE HO.out hlt
    have hrw2:nb≤w2.heap.size:=by have:=hA2.size;omega
    clear ht hR2 hA2 hr3 HA HO HBR hrw
    go_wp2_with fail
    refine hcall.mono ?_
    rintro e w3 ⟨hA3,hpost⟩
    have HA3:Hid (Al rb w w3):=HA2.out.next hA3
    have HO3:=Lib.hid (hA3.ownE HO2.out hlt)
    have hrw3:nb≤w3.heap.size:=by have:=hA3.size;omega
    clear hcall hA3
    match r3,hpost with
    | .error (c,p),⟨y,yn,yk,i3,he,hc,hi3,hR3⟩ =>
     subst he
     have hj:=r4join_no i3 o c p 6 hc _ (.slice va (F.flat 0).length vc) (.slice y yn yk) w3 hR3
     have HRE:Hid (r=.error (c,p)):=by
      rcases HRS.out with ⟨e,h,h2⟩ | ⟨a,i,h,_⟩
      ·have h3:=HR3.out.symm.trans h;cases h3;exact h2
      ·have h3:=HR3.out.symm.trans h;cases h3
     have HR4:=Lib.hid hR3
     clear hR3
     go_wp2_with fail
     refine hj.mono ?_
     rintro r4 w4 ⟨rfl,rfl⟩
     clear hj
     go_wp2_with fail
     go_roundw
     case rel=>exact⟨HA3.out,Or.inr ⟨c,p,none,0,0,i3,HRE.out,hc,hi3,HR4.out,rfl⟩⟩
     case measure=>rw[HM.out,mR_err HR4.out.cells.2.2.2.1 hc];omega
    | .ok (l,j),⟨G,v,hl,he,hO4,hR4⟩ =>
     subst hl he
     obtain⟨g1,g2,g3',g4⟩:=(P_ok EV.out.ok g3).bin (by omega) HR3.out
     obtain⟨ya,yc,rfl,-⟩:=hO4.form
     have hj:=r4join_ok j o 0 _ 6 F G (.slice va (F.flat 0).length vc) (.slice ya (G.flat 0).length yc) w3 hR4 HO3.out.isE hO4.isE HG.out.one g1.one (by omega) (by omega)
     have HRE:Hid (P L g3 (.loop 4 (both 6 false F G)) j o=some r):=by
      rcases HRS.out with ⟨e,h,h2⟩ | ⟨a,i,h,h2⟩
      ·have h3:=HR3.out.symm.trans h;cases h3
      ·have h3:=HR3.out.symm.trans h;cases h3
       rcases h2 with ⟨h2,_⟩ | ⟨_,h2⟩
       ·omega
       ·exact h2
     have HR5:=Lib.hid hR4
     have HGG:=Lib.hid g1
     clear hR4 hO4 g1
     go_wp2_with fail
     refine hj.mono ?_
     rintro r4 w4 ⟨v4,rfl,ho,hb⟩
     have HR6:=Lib.hid (HR5.out.below hb)
     have HA6:=Lib.hid (HA3.out.then hb)
     have HO6:=Lib.hid (ho.mono hrw3)
     have hv:=both_size 6 false F G
     have HV:=Lib.hid hv
     clear hj ho hb hv
     go_wp2_with fail
     go_roundw
     case rel=>exact⟨HA6.out,Or.inl ⟨both 6 false F G,j,g3,by omega,HO6.out,both_good (by omega) HG.out HGG.out,by rw[HV.out];omega,g3',HR6.out,HRE.out⟩⟩
     case measure=>rw[HM.out,mR_ok HR6.out.cells.2.1 HR6.out.cells.2.2.2.1];omega
  ·have ht:=r4take_no EV i hi o c p ⟨#[97,110,100]⟩ (Or.inr hc) wr (HB.out.next hA) hR
   have HE:Hid (∀ w2,Below wr.heap.size wr w2→RPost (Rd rb (.slice a L.length cc)) rb o w r (.returned (.slice x n k)) w2):=fun w2 hb=>by rw[hr];exact rpost_err (hA.then hb) hc hi (hR.below hb)
   clear hA hR hr hc hi
   go_wp2_with fail
   refine ht.mono ?_
   rintro r2 w2 ⟨rfl,hb⟩
   have HB2:=Lib.hid hb
   clear ht hb
   go_wp2_with fail
   go_ret
   exact HE.out w2 HB2.out
end
end Go.Proofs.YtmacepicoandkaaGreatDoor
namespace Go.Proofs.YtmacepicoandkaaGreatDoor
open Go.RowKit Go.Shelf Tx Px
section
variable {L : List Tok} {a : Option Addr} {cc rb : Nat} {w0 : World}
set_option maxRecDepth 100000 in
set_option maxHeartbeats 4000000 in
theorem r4sum_any (EV:Hid (EnvOk w0 rb a cc L)) (f:Nat) (IH:Hid (∀ g,g<f→LvOk w0 rb a cc L g)) (I o:Nat) (r:Res) (w:World) (hI:I≤L.length) (hP:P L f (.bin 6) I o=some r) (hB:Al rb w0 w) (hR:Rd rb (.slice a L.length cc) w I o 0 0) :
  Calls Tryz.prog 138 #[.pointer (some ⟨rb,0,none⟩)] w (RPost (Rd rb (.slice a L.length cc)) rb o w r):=by
 obtain⟨g,rfl,hcs⟩:=bin_cases (by omega) hP
 have hL:=EV.out.len
 have hlt:=hR.lt
 obtain⟨nb,hnb⟩ : ∃ nb,nb=w.heap.size:=⟨_,rfl⟩
 have HNB:=Lib.hid hnb
 have HB:=Lib.hid hB
 rw[← hnb] at hlt
 have h1:∀ r1,P L g (.bin 7) I o=some r1→_:=fun r1 h=>IH.out g (by omega) 7 I o r1 w (by omega) hI h hB hR
 have H1:Hid (∀ r1,P L g (.bin 7) I o=some r1→_):=h1
 have HC:=Lib.hid hcs
 clear hP hcs h1 hB hR hnb
 obtain⟨r1,hr1⟩ : ∃ r1,P L g (.bin 7) I o=some r1:=by
  rcases HC.out with ⟨e,h,_⟩ | ⟨a,i,h,_⟩
  ·exact⟨_,h⟩
  ·exact⟨_,h⟩
 have HR1:=Lib.hid hr1
 clear hr1
 go_enter Tryz.func138,Tryz.ntmps138
 go_wp2_with fail
 refine (H1.out r1 HR1.out).mono ?_
 rintro e w1 ⟨hA,hpost⟩
 have HLP:Hid (∃ av,e=.returned av∧(∃ x n k,av=.slice x n k)∧LpR (Rd rb (.slice a L.length cc)) L rb nb o w 6 (g+1) r av w1):=by
  rcases HC.out with ⟨⟨c,p⟩,h,h2⟩ | ⟨F,i,h,h2⟩
  ·have h3:=HR1.out.symm.trans h
   cases h3
   obtain⟨x,n,k,i,h4,h5,h6,h7⟩:=hpost
   exact⟨_,h4,⟨_,_,_,rfl⟩,hA,Or.inr ⟨c,p,x,n,k,i,h2,h5,h6,h7,rfl⟩⟩
  ·have h3:=HR1.out.symm.trans h
   cases h3
   obtain⟨F',v,h4,h5,h6,h7⟩:=hpost
   cases h4
   obtain⟨g1,g2,g3,g4⟩:=(P_ok EV.out.ok g).bin hI h
   obtain⟨va,vc,hv,-⟩:=h6.form
   exact⟨v,h5,⟨_,_,_,hv⟩,hA,Or.inl ⟨F,i,g,by omega,by rw[HNB.out];exact h6,g1,by omega,g3,h7,h2⟩⟩
 obtain⟨av,rfl,⟨ax,an,ak,rfl⟩,hlp⟩:=HLP.out
 have HLP2:=Lib.hid hlp
 clear HLP hlp hpost hA H1 HR1 HC
 go_wp2_with fail
 go_loopw [3] (fun av wr=>LpR (Rd rb (.slice a L.length cc)) L rb nb o w 6 (g+1) r av wr) (fun _ wr=>mR rb 1 3 L.length wr)
 case atStart=>exact HLP2.out
 case round =>
  obtain⟨hA,⟨F,i,g2,hg2,hO,hG,hF,hi,hR,hP⟩ | ⟨c,p,x,n,k,i,hr,hc,hi,hR,rfl⟩⟩:=hrel
  ·have hBr:Al rb w0 wr:=HB.out.next hA
   obtain⟨va,vc,rfl,-⟩:=hO.form
   have hfr:=mR_ok (N:=L.length) hR.cells.2.1 hR.cells.2.2.2.1
   have HM:=Lib.hid hfr
   rcases loop_cases hP with ⟨hn,rfl⟩ | ⟨g3,s,op,sw,rfl,hs,hop,hrest⟩
   ·have HE:Hid (∀ w2,Below wr.heap.size wr w2→RPost (Rd rb (.slice a L.length cc)) rb o w (.ok ([F],i)) (.returned (.slice va (F.flat 0).length vc)) w2):=fun w2 hb=>rpost_ok (hA.then hb) (by rw[← HNB.out];exact hO.below hb) (hR.below hb)
    have HR0:=Lib.hid hR
    have HB0:Hid (Al rb w0 wr):=hBr
    have HBL0:Hid (Below wr.heap.size wr wr):=Below.refl _ _
    have hno0:Hid (isT L i ⟨#[43]⟩=false∨(0:Int)≠0):=Or.inl (isT_none hn (by decide))
    have hno1:Hid (isT L i ⟨#[45]⟩=false∨(0:Int)≠0):=Or.inl (isT_none hn (by decide))
    clear hP hn hBr hA hO hG hF hR hfr
    have hc0:=r4is_no EV i (by omega) o 0 0 ⟨#[43]⟩ hno0.out wr HB0.out HR0.out
    go_wp2_with fail
    refine hc0.mono ?_
    rintro r2 w2 ⟨rfl,hb⟩
    have HR1:=Lib.hid (HR0.out.below hb)
    have HB1:=Lib.hid (HB0.out.then hb)
    have HBL1:=Lib.hid (below_next HBL0.out hb)
    clear hc0 hb HR0 HB0 HBL0
    have hc1:=r4is_no EV i (by omega) o 0 0 ⟨#[45]⟩ hno1.out w2 HB1.out HR1.out
    go_wp2_with fail
    refine hc1.mono ?_
    rintro r2 w3 ⟨rfl,hb⟩
    have HR2:=Lib.hid (HR1.out.below hb)
    have HB2:=Lib.hid (HB1.out.then hb)
    have HBL2:=Lib.hid (below_next HBL1.out hb)
    clear hc1 hb HR1 HB1 HBL1
    go_wp2_with fail
    go_ret
    exact HE.out w3 HBL2.out
   ·have hil:i<L.length:=hereT_lt hs
    have hso:(s=⟨#[43]⟩∧op=14∧sw=false)∨(s=⟨#[45]⟩∧op=15∧sw=false):=by
     unfold Px.opAt at hop
     simp only at hop
     repeat' (split at hop)
     all_goals first | (cases hop;done) | (rename_i e;cases hop;rw[e];simp[bs])
    have HO:=Lib.hid hO
    have HG:=Lib.hid hG
    have HA:=Lib.hid hA
    have HR0:=Lib.hid hR
    have HBR:=Lib.hid hBr
    have HBL0:Hid (Below wr.heap.size wr wr):=Below.refl _ _
    have HRS:=Lib.hid hrest
    have hrw:nb≤wr.heap.size:=by rw[HNB.out];exact hA.size
    clear hP hop hBr hA hO hG hR hfr hrest
    rcases hso with ⟨rfl,rfl,rfl⟩ | ⟨rfl,rfl,rfl⟩
    ·have HS:=Lib.hid hs
     clear hs
     have hc:=r4is_yes EV i (by omega) o 0 ⟨#[43]⟩ (by rw[isT_some HS.out];simp) wr (HBR.out.then HBL0.out) (HR0.out.below HBL0.out)
     go_wp2_with fail
     refine hc.mono ?_
     rintro r2 v1 ⟨rfl,hb⟩
     have HBL1:=Lib.hid (below_next HBL0.out hb)
     clear hc hb HBL0
     have hc:=r4is_no EV i (by omega) o 0 0 ⟨#[45]⟩ (Or.inl (by rw[isT_some HS.out];decide)) v1 (HBR.out.then HBL1.out) (HR0.out.below HBL1.out)
     go_wp2_with fail
     refine hc.mono ?_
     rintro r2 v2 ⟨rfl,hb⟩
     have HBL2:=Lib.hid (below_next HBL1.out hb)
     clear hc hb HBL1
     have hR9:=HR0.out.below HBL2.out
     obtain⟨c0,c1,c2,c3,c4⟩:=hR9.cells
     obtain⟨f0,f1,f2,f3,f4⟩:=hR9.free
     have HR9:=Lib.hid (hR9.setI ((i:Int)+1))
     have HA9:Hid (Al rb wr (v2.setCell ⟨rb,1,none⟩ (.int .i64 ((i:Int)+1)))):=(Al.of HBL2.out).set _ _
     clear hR9 HBL2
     obtain⟨r3,hr3⟩ : ∃ r3,P L g3 (.bin 7) (i+1) o=some r3:=by
      rcases HRS.out with ⟨e,h,_⟩ | ⟨a,i,h,_⟩
      ·exact⟨_,h⟩
      ·exact⟨_,h⟩
     have HR3:=Lib.hid hr3
     clear hr3
     go_wp2_with fail
     generalize v2.setCell ⟨rb,1,none⟩ (.int .i64 ((i:Int)+1))=w2 at *
     have hA2:=HA9.out
     have hcall:=IH.out g3 (by omega) 7 (i+1) o r3 w2 (by omega) (by omega) HR3.out (HBR.out.next hA2) (by simpa using HR9.out)
     have HA2:Hid (Al rb w w2):=HA.out.next hA2
     have HO2:Hid (OwnE nb w2 (.slice va (F.flat 0).length vc) (F.flat 0)):=hA2.ownE HO.out hlt
     have hrw2:nb≤w2.heap.size:=by have:=hA2.size;omega
     clear hA2 HA9 HR9 HA HO HBR hrw c0 c1 c2 c3 c4 f0 f1 f2 f3 f4
     refine hcall.mono ?_
     rintro e w3 ⟨hA3,hpost⟩
     have HA3:Hid (Al rb w w3):=HA2.out.next hA3
     have HO3:=Lib.hid (hA3.ownE HO2.out hlt)
     have hrw3:nb≤w3.heap.size:=by have:=hA3.size;omega
     clear hcall hA3
     match r3,hpost with
     | .error (c,p),⟨y,yn,yk,i3,he,hc,hi3,hR3⟩ =>
      subst he
      have hj:=r4join_no i3 o c p 14 hc _ (.slice va (F.flat 0).length vc) (.slice y yn yk) w3 hR3
      have HRE:Hid (r=.error (c,p)):=by
       rcases HRS.out with ⟨e,h,h2⟩ | ⟨a,i,h,_⟩
       ·have h3:=HR3.out.symm.trans h;cases h3;exact h2
       ·have h3:=HR3.out.symm.trans h;cases h3
      have HR4:=Lib.hid hR3
      clear hR3
      go_wp2_with fail
      refine hj.mono ?_
      rintro r4 w4 ⟨rfl,rfl⟩
      clear hj
      go_wp2_with fail
      go_roundw
      case rel=>exact⟨HA3.out,Or.inr ⟨c,p,none,0,0,i3,HRE.out,hc,hi3,HR4.out,rfl⟩⟩
      case measure=>rw[HM.out,mR_err HR4.out.cells.2.2.2.1 hc];omega
     | .ok (l,j),⟨G,v,hl,he,hO4,hR4⟩ =>
      subst hl he
      obtain⟨g1,g2,g3',g4⟩:=(P_ok EV.out.ok g3).bin (by omega) HR3.out
      obtain⟨ya,yc,rfl,-⟩:=hO4.form
      have hj:=r4join_ok j o 0 _ 14 F G (.slice va (F.flat 0).length vc) (.slice ya (G.flat 0).length yc) w3 hR4 HO3.out.isE hO4.isE HG.out.one g1.one (by omega) (by omega)
      have HRE:Hid (P L g3 (.loop 6 (both 14 false F G)) j o=some r):=by
       rcases HRS.out with ⟨e,h,h2⟩ | ⟨a,i,h,h2⟩
       ·have h3:=HR3.out.symm.trans h;cases h3
       ·have h3:=HR3.out.symm.trans h;cases h3
        rcases h2 with ⟨h2,_⟩ | ⟨_,h2⟩
        ·omega
        ·exact h2
      have HR5:=Lib.hid hR4
      have HGG:=Lib.hid g1
      clear hR4 hO4 g1
      go_wp2_with fail
      refine hj.mono ?_
      rintro r4 w4 ⟨v4,rfl,ho,hb⟩
      have HR6:=Lib.hid (HR5.out.below hb)
      have HA6:=Lib.hid (HA3.out.then hb)
      have HO6:=Lib.hid (ho.mono hrw3)
      have hv:=both_size 14 false F G
      have HV:=Lib.hid hv
      clear hj ho hb hv
      go_wp2_with fail
      go_roundw
      case rel=>exact⟨HA6.out,Or.inl ⟨both 14 false F G,j,g3,by omega,HO6.out,both_good (by omega) HG.out HGG.out,by rw[HV.out];omega,g3',HR6.out,HRE.out⟩⟩
      case measure=>rw[HM.out,mR_ok HR6.out.cells.2.1 HR6.out.cells.2.2.2.1];omega
    ·have HS:=Lib.hid hs
     clear hs
     have hc:=r4is_no EV i (by omega) o 0 0 ⟨#[43]⟩ (Or.inl (by rw[isT_some HS.out];decide)) wr (HBR.out.then HBL0.out) (HR0.out.below HBL0.out)
     go_wp2_with fail
     refine hc.mono ?_
     rintro r2 v1 ⟨rfl,hb⟩
     have HBL1:=Lib.hid (below_next HBL0.out hb)
     clear hc hb HBL0
     have hc:=r4is_yes EV i (by omega) o 0 ⟨#[45]⟩ (by rw[isT_some HS.out];simp) v1 (HBR.out.then HBL1.out) (HR0.out.below HBL1.out)
     go_wp2_with fail
     refine hc.mono ?_
     rintro r2 v2 ⟨rfl,hb⟩
     have HBL2:=Lib.hid (below_next HBL1.out hb)
     clear hc hb HBL1
     have hc:=r4is_yes EV i (by omega) o 0 ⟨#[45]⟩ (by rw[isT_some HS.out];simp) v2 (HBR.out.then HBL2.out) (HR0.out.below HBL2.out)
     go_wp2_with fail
     refine hc.mono ?_
     rintro r2 v3 ⟨rfl,hb⟩
     have HBL3:=Lib.hid (below_next HBL2.out hb)
     clear hc hb HBL2
     have hR9:=HR0.out.below HBL3.out
     obtain⟨c0,c1,c2,c3,c4⟩:=hR9.cells
     obtain⟨f0,f1,f2,f3,f4⟩:=hR9.free
     have HR9:=Lib.hid (hR9.setI ((i:Int)+1))
     have HA9:Hid (Al rb wr (v3.setCell ⟨rb,1,none⟩ (.int .i64 ((i:Int)+1)))):=(Al.of HBL3.out).set _ _
     clear hR9 HBL3
     obtain⟨r3,hr3⟩ : ∃ r3,P L g3 (.bin 7) (i+1) o=some r3:=by
      rcases HRS.out with ⟨e,h,_⟩ | ⟨a,i,h,_⟩
      ·exact⟨_,h⟩
      ·exact⟨_,h⟩
     have HR3:=Lib.hid hr3
     clear hr3
     go_wp2_with fail
     generalize v3.setCell ⟨rb,1,none⟩ (.int .i64 ((i:Int)+1))=w2 at *
     have hA2:=HA9.out
     have hcall:=IH.out g3 (by omega) 7 (i+1) o r3 w2 (by omega) (by omega) HR3.out (HBR.out.next hA2) (by simpa using HR9.out)
     have HA2:Hid (Al rb w w2):=HA.out.next hA2
     have HO2:Hid (OwnE nb w2 (.slice va (F.flat 0).length vc) (F.flat 0)):=hA2.ownE HO.out hlt
     have hrw2:nb≤w2.heap.size:=by have:=hA2.size;omega
     clear hA2 HA9 HR9 HA HO HBR hrw c0 c1 c2 c3 c4 f0 f1 f2 f3 f4
     refine hcall.mono ?_
     rintro e w3 ⟨hA3,hpost⟩
     have HA3:Hid (Al rb w w3):=HA2.out.next hA3
     have HO3:=Lib.hid (hA3.ownE HO2.out hlt)
     have hrw3:nb≤w3.heap.size:=by have:=hA3.size;omega
     clear hcall hA3
     match r3,hpost with
     | .error (c,p),⟨y,yn,yk,i3,he,hc,hi3,hR3⟩ =>
      subst he
      have hj:=r4join_no i3 o c p 15 hc _ (.slice va (F.flat 0).length vc) (.slice y yn yk) w3 hR3
      have HRE:Hid (r=.error (c,p)):=by
       rcases HRS.out with ⟨e,h,h2⟩ | ⟨a,i,h,_⟩
       ·have h3:=HR3.out.symm.trans h;cases h3;exact h2
       ·have h3:=HR3.out.symm.trans h;cases h3
      have HR4:=Lib.hid hR3
      clear hR3
      go_wp2_with fail
      refine hj.mono ?_
      rintro r4 w4 ⟨rfl,rfl⟩
      clear hj
      go_wp2_with fail
      go_roundw
      case rel=>exact⟨HA3.out,Or.inr ⟨c,p,none,0,0,i3,HRE.out,hc,hi3,HR4.out,rfl⟩⟩
      case measure=>rw[HM.out,mR_err HR4.out.cells.2.2.2.1 hc];omega
     | .ok (l,j),⟨G,v,hl,he,hO4,hR4⟩ =>
      subst hl he
      obtain⟨g1,g2,g3',g4⟩:=(P_ok EV.out.ok g3).bin (by omega) HR3.out
      obtain⟨ya,yc,rfl,-⟩:=hO4.form
      have hj:=r4join_ok j o 0 _ 15 F G (.slice va (F.flat 0).length vc) (.slice ya (G.flat 0).length yc) w3 hR4 HO3.out.isE hO4.isE HG.out.one g1.one (by omega) (by omega)
      have HRE:Hid (P L g3 (.loop 6 (both 15 false F G)) j o=some r):=by
       rcases HRS.out with ⟨e,h,h2⟩ | ⟨a,i,h,h2⟩
       ·have h3:=HR3.out.symm.trans h;cases h3
       ·have h3:=HR3.out.symm.trans h;cases h3
        rcases h2 with ⟨h2,_⟩ | ⟨_,h2⟩
        ·omega
        ·exact h2
      have HR5:=Lib.hid hR4
      have HGG:=Lib.hid g1
      clear hR4 hO4 g1
      go_wp2_with fail
      refine hj.mono ?_
      rintro r4 w4 ⟨v4,rfl,ho,hb⟩
      have HR6:=Lib.hid (HR5.out.below hb)
      have HA6:=Lib.hid (HA3.out.then hb)
      have HO6:=Lib.hid (ho.mono hrw3)
      have hv:=both_size 15 false F G
      have HV:=Lib.hid hv
      clear hj ho hb hv
      go_wp2_with fail
      go_roundw
      case rel=>exact⟨HA6.out,Or.inl ⟨both 15 false F G,j,g3,by omega,HO6.out,both_good (by omega) HG.out HGG.out,by rw[HV.out];omega,g3',HR6.out,HRE.out⟩⟩
      case measure=>rw[HM.out,mR_ok HR6.out.cells.2.1 HR6.out.cells.2.2.2.1];omega
  ·have HE:Hid (∀ w2,Below wr.heap.size wr w2→RPost (Rd rb (.slice a L.length cc)) rb o w r (.returned (.slice x n k)) w2):=fun w2 hb=>by rw[hr];exact rpost_err (hA.then hb) hc hi (hR.below hb)
   have HR0:=Lib.hid hR
   have HB0:Hid (Al rb w0 wr):=HB.out.next hA
   have HBL0:Hid (Below wr.heap.size wr wr):=Below.refl _ _
   have hno0:Hid (isT L i ⟨#[43]⟩=false∨c≠0):=Or.inr hc
   have hno1:Hid (isT L i ⟨#[45]⟩=false∨c≠0):=Or.inr hc
   clear hA hR hr hc
   have hc0:=r4is_no EV i (by omega) o c p ⟨#[43]⟩ hno0.out wr HB0.out HR0.out
   go_wp2_with fail
   refine hc0.mono ?_
   rintro r2 w2 ⟨rfl,hb⟩
   have HR1:=Lib.hid (HR0.out.below hb)
   have HB1:=Lib.hid (HB0.out.then hb)
   have HBL1:=Lib.hid (below_next HBL0.out hb)
   clear hc0 hb HR0 HB0 HBL0
   have hc1:=r4is_no EV i (by omega) o c p ⟨#[45]⟩ hno1.out w2 HB1.out HR1.out
   go_wp2_with fail
   refine hc1.mono ?_
   rintro r2 w3 ⟨rfl,hb⟩
   have HR2:=Lib.hid (HR1.out.below hb)
   have HB2:=Lib.hid (HB1.out.then hb)
   have HBL2:=Lib.hid (below_next HBL1.out hb)
   clear hc1 hb HR1 HB1 HBL1
   go_wp2_with fail
   go_ret
   exact HE.out w3 HBL2.out
end
end Go.Proofs.YtmacepicoandkaaGreatDoor
namespace Go.Proofs.YtmacepicoandkaaGreatDoor
open Go.RowKit Go.Shelf Tx Px
section
variable {L : List Tok} {a : Option Addr} {cc rb : Nat} {w0 : World}
set_option maxRecDepth 100000 in
set_option maxHeartbeats 4000000 in
theorem r4prod_any (EV:Hid (EnvOk w0 rb a cc L)) (f:Nat) (IH:Hid (∀ g,g<f→LvOk w0 rb a cc L g)) (I o:Nat) (r:Res) (w:World) (hI:I≤L.length) (hP:P L f (.bin 7) I o=some r) (hB:Al rb w0 w) (hR:Rd rb (.slice a L.length cc) w I o 0 0) :
  Calls Tryz.prog 139 #[.pointer (some ⟨rb,0,none⟩)] w (RPost (Rd rb (.slice a L.length cc)) rb o w r):=by
 obtain⟨g,rfl,hcs⟩:=bin_cases (by omega) hP
 have hL:=EV.out.len
 have hlt:=hR.lt
 obtain⟨nb,hnb⟩ : ∃ nb,nb=w.heap.size:=⟨_,rfl⟩
 have HNB:=Lib.hid hnb
 have HB:=Lib.hid hB
 rw[← hnb] at hlt
 have h1:∀ r1,P L g (.bin 8) I o=some r1→_:=fun r1 h=>IH.out g (by omega) 8 I o r1 w (by omega) hI h hB hR
 have H1:Hid (∀ r1,P L g (.bin 8) I o=some r1→_):=h1
 have HC:=Lib.hid hcs
 clear hP hcs h1 hB hR hnb
 obtain⟨r1,hr1⟩ : ∃ r1,P L g (.bin 8) I o=some r1:=by
  rcases HC.out with ⟨e,h,_⟩ | ⟨a,i,h,_⟩
  ·exact⟨_,h⟩
  ·exact⟨_,h⟩
 have HR1:=Lib.hid hr1
 clear hr1
 go_enter Tryz.func139,Tryz.ntmps139
 go_wp2_with fail
 refine (H1.out r1 HR1.out).mono ?_
 rintro e w1 ⟨hA,hpost⟩
 have HLP:Hid (∃ av,e=.returned av∧(∃ x n k,av=.slice x n k)∧LpR (Rd rb (.slice a L.length cc)) L rb nb o w 7 (g+1) r av w1):=by
  rcases HC.out with ⟨⟨c,p⟩,h,h2⟩ | ⟨F,i,h,h2⟩
  ·have h3:=HR1.out.symm.trans h
   cases h3
   obtain⟨x,n,k,i,h4,h5,h6,h7⟩:=hpost
   exact⟨_,h4,⟨_,_,_,rfl⟩,hA,Or.inr ⟨c,p,x,n,k,i,h2,h5,h6,h7,rfl⟩⟩
  ·have h3:=HR1.out.symm.trans h
   cases h3
   obtain⟨F',v,h4,h5,h6,h7⟩:=hpost
   cases h4
   obtain⟨g1,g2,g3,g4⟩:=(P_ok EV.out.ok g).bin hI h
   obtain⟨va,vc,hv,-⟩:=h6.form
   exact⟨v,h5,⟨_,_,_,hv⟩,hA,Or.inl ⟨F,i,g,by omega,by rw[HNB.out];exact h6,g1,by omega,g3,h7,h2⟩⟩
 obtain⟨av,rfl,⟨ax,an,ak,rfl⟩,hlp⟩:=HLP.out
 have HLP2:=Lib.hid hlp
 clear HLP hlp hpost hA H1 HR1 HC
 go_wp2_with fail
 go_loopw [3] (fun av wr=>LpR (Rd rb (.slice a L.length cc)) L rb nb o w 7 (g+1) r av wr) (fun _ wr=>mR rb 1 3 L.length wr)
 case atStart=>exact HLP2.out
 case round =>
  obtain⟨hA,⟨F,i,g2,hg2,hO,hG,hF,hi,hR,hP⟩ | ⟨c,p,x,n,k,i,hr,hc,hi,hR,rfl⟩⟩:=hrel
  ·have hBr:Al rb w0 wr:=HB.out.next hA
   obtain⟨va,vc,rfl,-⟩:=hO.form
   have hfr:=mR_ok (N:=L.length) hR.cells.2.1 hR.cells.2.2.2.1
   have HM:=Lib.hid hfr
   rcases loop_cases hP with ⟨hn,rfl⟩ | ⟨g3,s,op,sw,rfl,hs,hop,hrest⟩
   ·have HE:Hid (∀ w2,Below wr.heap.size wr w2→RPost (Rd rb (.slice a L.length cc)) rb o w (.ok ([F],i)) (.returned (.slice va (F.flat 0).length vc)) w2):=fun w2 hb=>rpost_ok (hA.then hb) (by rw[← HNB.out];exact hO.below hb) (hR.below hb)
    have HR0:=Lib.hid hR
    have HB0:Hid (Al rb w0 wr):=hBr
    have HBL0:Hid (Below wr.heap.size wr wr):=Below.refl _ _
    have hno0:Hid (isT L i ⟨#[42]⟩=false∨(0:Int)≠0):=Or.inl (isT_none hn (by decide))
    have hno1:Hid (isT L i ⟨#[100,105,118]⟩=false∨(0:Int)≠0):=Or.inl (isT_none hn (by decide))
    have hno2:Hid (isT L i ⟨#[109,111,100]⟩=false∨(0:Int)≠0):=Or.inl (isT_none hn (by decide))
    clear hP hn hBr hA hO hG hF hR hfr
    have hc0:=r4is_no EV i (by omega) o 0 0 ⟨#[42]⟩ hno0.out wr HB0.out HR0.out
    go_wp2_with fail
    refine hc0.mono ?_
    rintro r2 w2 ⟨rfl,hb⟩
    have HR1:=Lib.hid (HR0.out.below hb)
    have HB1:=Lib.hid (HB0.out.then hb)
    have HBL1:=Lib.hid (below_next HBL0.out hb)
    clear hc0 hb HR0 HB0 HBL0
    have hc1:=r4is_no EV i (by omega) o 0 0 ⟨#[100,105,118]⟩ hno1.out w2 HB1.out HR1.out
    go_wp2_with fail
    refine hc1.mono ?_
    rintro r2 w3 ⟨rfl,hb⟩
    have HR2:=Lib.hid (HR1.out.below hb)
    have HB2:=Lib.hid (HB1.out.then hb)
    have HBL2:=Lib.hid (below_next HBL1.out hb)
    clear hc1 hb HR1 HB1 HBL1
    have hc2:=r4is_no EV i (by omega) o 0 0 ⟨#[109,111,100]⟩ hno2.out w3 HB2.out HR2.out
    go_wp2_with fail
    refine hc2.mono ?_
    rintro r2 w4 ⟨rfl,hb⟩
    have HR3:=Lib.hid (HR2.out.below hb)
    have HB3:=Lib.hid (HB2.out.then hb)
    have HBL3:=Lib.hid (below_next HBL2.out hb)
    clear hc2 hb HR2 HB2 HBL2
    go_wp2_with fail
    go_ret
    exact HE.out w4 HBL3.out
   ·have hil:i<L.length:=hereT_lt hs
    have hso:(s=⟨#[42]⟩∧op=16∧sw=false)∨(s=⟨#[100,105,118]⟩∧op=17∧sw=false)∨(s=⟨#[109,111,100]⟩∧op=18∧sw=false):=by
     unfold Px.opAt at hop
     simp only at hop
     repeat' (split at hop)
     all_goals first | (cases hop;done) | (rename_i e;cases hop;rw[e];simp[bs])
    have HO:=Lib.hid hO
    have HG:=Lib.hid hG
    have HA:=Lib.hid hA
    have HR0:=Lib.hid hR
    have HBR:=Lib.hid hBr
    have HBL0:Hid (Below wr.heap.size wr wr):=Below.refl _ _
    have HRS:=Lib.hid hrest
    have hrw:nb≤wr.heap.size:=by rw[HNB.out];exact hA.size
    clear hP hop hBr hA hO hG hR hfr hrest
    rcases hso with ⟨rfl,rfl,rfl⟩ | ⟨rfl,rfl,rfl⟩ | ⟨rfl,rfl,rfl⟩
    ·have HS:=Lib.hid hs
     clear hs
     have hc:=r4is_yes EV i (by omega) o 0 ⟨#[42]⟩ (by rw[isT_some HS.out];simp) wr (HBR.out.then HBL0.out) (HR0.out.below HBL0.out)
     go_wp2_with fail
     refine hc.mono ?_
     rintro r2 v1 ⟨rfl,hb⟩
     have HBL1:=Lib.hid (below_next HBL0.out hb)
     clear hc hb HBL0
     have hc:=r4is_no EV i (by omega) o 0 0 ⟨#[100,105,118]⟩ (Or.inl (by rw[isT_some HS.out];decide)) v1 (HBR.out.then HBL1.out) (HR0.out.below HBL1.out)
     go_wp2_with fail
     refine hc.mono ?_
     rintro r2 v2 ⟨rfl,hb⟩
     have HBL2:=Lib.hid (below_next HBL1.out hb)
     clear hc hb HBL1
     have hc:=r4is_no EV i (by omega) o 0 0 ⟨#[109,111,100]⟩ (Or.inl (by rw[isT_some HS.out];decide)) v2 (HBR.out.then HBL2.out) (HR0.out.below HBL2.out)
     go_wp2_with fail
     refine hc.mono ?_
     rintro r2 v3 ⟨rfl,hb⟩
     have HBL3:=Lib.hid (below_next HBL2.out hb)
     clear hc hb HBL2
     have hR9:=HR0.out.below HBL3.out
     obtain⟨c0,c1,c2,c3,c4⟩:=hR9.cells
     obtain⟨f0,f1,f2,f3,f4⟩:=hR9.free
     have HR9:=Lib.hid (hR9.setI ((i:Int)+1))
     have HA9:Hid (Al rb wr (v3.setCell ⟨rb,1,none⟩ (.int .i64 ((i:Int)+1)))):=(Al.of HBL3.out).set _ _
     clear hR9 HBL3
     obtain⟨r3,hr3⟩ : ∃ r3,P L g3 (.bin 8) (i+1) o=some r3:=by
      rcases HRS.out with ⟨e,h,_⟩ | ⟨a,i,h,_⟩
      ·exact⟨_,h⟩
      ·exact⟨_,h⟩
     have HR3:=Lib.hid hr3
     clear hr3
     go_wp2_with fail
     generalize v3.setCell ⟨rb,1,none⟩ (.int .i64 ((i:Int)+1))=w2 at *
     have hA2:=HA9.out
     have hcall:=IH.out g3 (by omega) 8 (i+1) o r3 w2 (by omega) (by omega) HR3.out (HBR.out.next hA2) (by simpa using HR9.out)
     have HA2:Hid (Al rb w w2):=HA.out.next hA2
     have HO2:Hid (OwnE nb w2 (.slice va (F.flat 0).length vc) (F.flat 0)):=hA2.ownE HO.out hlt
     have hrw2:nb≤w2.heap.size:=by have:=hA2.size;omega
     clear hA2 HA9 HR9 HA HO HBR hrw c0 c1 c2 c3 c4 f0 f1 f2 f3 f4
     refine hcall.mono ?_
     rintro e w3 ⟨hA3,hpost⟩
     have HA3:Hid (Al rb w w3):=HA2.out.next hA3
     have HO3:=Lib.hid (hA3.ownE HO2.out hlt)
     have hrw3:nb≤w3.heap.size:=by have:=hA3.size;omega
     clear hcall hA3
     match r3,hpost with
     | .error (c,p),⟨y,yn,yk,i3,he,hc,hi3,hR3⟩ =>
      subst he
      have hj:=r4join_no i3 o c p 16 hc _ (.slice va (F.flat 0).length vc) (.slice y yn yk) w3 hR3
      have HRE:Hid (r=.error (c,p)):=by
       rcases HRS.out with ⟨e,h,h2⟩ | ⟨a,i,h,_⟩
       ·have h3:=HR3.out.symm.trans h;cases h3;exact h2
       ·have h3:=HR3.out.symm.trans h;cases h3
      have HR4:=Lib.hid hR3
      clear hR3
      go_wp2_with fail
      refine hj.mono ?_
      rintro r4 w4 ⟨rfl,rfl⟩
      clear hj
      go_wp2_with fail
      go_roundw
      case rel=>exact⟨HA3.out,Or.inr ⟨c,p,none,0,0,i3,HRE.out,hc,hi3,HR4.out,rfl⟩⟩
      case measure=>rw[HM.out,mR_err HR4.out.cells.2.2.2.1 hc];omega
     | .ok (l,j),⟨G,v,hl,he,hO4,hR4⟩ =>
      subst hl he
      obtain⟨g1,g2,g3',g4⟩:=(P_ok EV.out.ok g3).bin (by omega) HR3.out
      obtain⟨ya,yc,rfl,-⟩:=hO4.form
      have hj:=r4join_ok j o 0 _ 16 F G (.slice va (F.flat 0).length vc) (.slice ya (G.flat 0).length yc) w3 hR4 HO3.out.isE hO4.isE HG.out.one g1.one (by omega) (by omega)
      have HRE:Hid (P L g3 (.loop 7 (both 16 false F G)) j o=some r):=by
       rcases HRS.out with ⟨e,h,h2⟩ | ⟨a,i,h,h2⟩
       ·have h3:=HR3.out.symm.trans h;cases h3
       ·have h3:=HR3.out.symm.trans h;cases h3
        rcases h2 with ⟨h2,_⟩ | ⟨_,h2⟩
        ·omega
        ·exact h2
      have HR5:=Lib.hid hR4
      have HGG:=Lib.hid g1
      clear hR4 hO4 g1
      go_wp2_with fail
      refine hj.mono ?_
      rintro r4 w4 ⟨v4,rfl,ho,hb⟩
      have HR6:=Lib.hid (HR5.out.below hb)
      have HA6:=Lib.hid (HA3.out.then hb)
      have HO6:=Lib.hid (ho.mono hrw3)
      have hv:=both_size 16 false F G
      have HV:=Lib.hid hv
      clear hj ho hb hv
      go_wp2_with fail
      go_roundw
      case rel=>exact⟨HA6.out,Or.inl ⟨both 16 false F G,j,g3,by omega,HO6.out,both_good (by omega) HG.out HGG.out,by rw[HV.out];omega,g3',HR6.out,HRE.out⟩⟩
      case measure=>rw[HM.out,mR_ok HR6.out.cells.2.1 HR6.out.cells.2.2.2.1];omega
    ·have HS:=Lib.hid hs
     clear hs
     have hc:=r4is_no EV i (by omega) o 0 0 ⟨#[42]⟩ (Or.inl (by rw[isT_some HS.out];decide)) wr (HBR.out.then HBL0.out) (HR0.out.below HBL0.out)
     go_wp2_with fail
     refine hc.mono ?_
     rintro r2 v1 ⟨rfl,hb⟩
     have HBL1:=Lib.hid (below_next HBL0.out hb)
     clear hc hb HBL0
     have hc:=r4is_yes EV i (by omega) o 0 ⟨#[100,105,118]⟩ (by rw[isT_some HS.out];simp) v1 (HBR.out.then HBL1.out) (HR0.out.below HBL1.out)
     go_wp2_with fail
     refine hc.mono ?_
     rintro r2 v2 ⟨rfl,hb⟩
     have HBL2:=Lib.hid (below_next HBL1.out hb)
     clear hc hb HBL1
     have hc:=r4is_yes EV i (by omega) o 0 ⟨#[100,105,118]⟩ (by rw[isT_some HS.out];simp) v2 (HBR.out.then HBL2.out) (HR0.out.below HBL2.out)
     go_wp2_with fail
     refine hc.mono ?_
     rintro r2 v3 ⟨rfl,hb⟩
     have HBL3:=Lib.hid (below_next HBL2.out hb)
     clear hc hb HBL2
     have hc:=r4is_no EV i (by omega) o 0 0 ⟨#[109,111,100]⟩ (Or.inl (by rw[isT_some HS.out];decide)) v3 (HBR.out.then HBL3.out) (HR0.out.below HBL3.out)
     go_wp2_with fail
     refine hc.mono ?_
     rintro r2 v4 ⟨rfl,hb⟩
     have HBL4:=Lib.hid (below_next HBL3.out hb)
     clear hc hb HBL3
     have hR9:=HR0.out.below HBL4.out
     obtain⟨c0,c1,c2,c3,c4⟩:=hR9.cells
     obtain⟨f0,f1,f2,f3,f4⟩:=hR9.free
     have HR9:=Lib.hid (hR9.setI ((i:Int)+1))
     have HA9:Hid (Al rb wr (v4.setCell ⟨rb,1,none⟩ (.int .i64 ((i:Int)+1)))):=(Al.of HBL4.out).set _ _
     clear hR9 HBL4
     obtain⟨r3,hr3⟩ : ∃ r3,P L g3 (.bin 8) (i+1) o=some r3:=by
      rcases HRS.out with ⟨e,h,_⟩ | ⟨a,i,h,_⟩
      ·exact⟨_,h⟩
      ·exact⟨_,h⟩
     have HR3:=Lib.hid hr3
     clear hr3
     go_wp2_with fail
     generalize v4.setCell ⟨rb,1,none⟩ (.int .i64 ((i:Int)+1))=w2 at *
     have hA2:=HA9.out
     have hcall:=IH.out g3 (by omega) 8 (i+1) o r3 w2 (by omega) (by omega) HR3.out (HBR.out.next hA2) (by simpa using HR9.out)
     have HA2:Hid (Al rb w w2):=HA.out.next hA2
     have HO2:Hid (OwnE nb w2 (.slice va (F.flat 0).length vc) (F.flat 0)):=hA2.ownE HO.out hlt
     have hrw2:nb≤w2.heap.size:=by have:=hA2.size;omega
     clear hA2 HA9 HR9 HA HO HBR hrw c0 c1 c2 c3 c4 f0 f1 f2 f3 f4
     refine hcall.mono ?_
     rintro e w3 ⟨hA3,hpost⟩
     have HA3:Hid (Al rb w w3):=HA2.out.next hA3
     have HO3:=Lib.hid (hA3.ownE HO2.out hlt)
     have hrw3:nb≤w3.heap.size:=by have:=hA3.size;omega
     clear hcall hA3
     match r3,hpost with
     | .error (c,p),⟨y,yn,yk,i3,he,hc,hi3,hR3⟩ =>
      subst he
      have hj:=r4join_no i3 o c p 17 hc _ (.slice va (F.flat 0).length vc) (.slice y yn yk) w3 hR3
      have HRE:Hid (r=.error (c,p)):=by
       rcases HRS.out with ⟨e,h,h2⟩ | ⟨a,i,h,_⟩
       ·have h3:=HR3.out.symm.trans h;cases h3;exact h2
       ·have h3:=HR3.out.symm.trans h;cases h3
      have HR4:=Lib.hid hR3
      clear hR3
      go_wp2_with fail
      refine hj.mono ?_
      rintro r4 w4 ⟨rfl,rfl⟩
      clear hj
      go_wp2_with fail
      go_roundw
      case rel=>exact⟨HA3.out,Or.inr ⟨c,p,none,0,0,i3,HRE.out,hc,hi3,HR4.out,rfl⟩⟩
      case measure=>rw[HM.out,mR_err HR4.out.cells.2.2.2.1 hc];omega
     | .ok (l,j),⟨G,v,hl,he,hO4,hR4⟩ =>
      subst hl he
      obtain⟨g1,g2,g3',g4⟩:=(P_ok EV.out.ok g3).bin (by omega) HR3.out
      obtain⟨ya,yc,rfl,-⟩:=hO4.form
      have hj:=r4join_ok j o 0 _ 17 F G (.slice va (F.flat 0).length vc) (.slice ya (G.flat 0).length yc) w3 hR4 HO3.out.isE hO4.isE HG.out.one g1.one (by omega) (by omega)
      have HRE:Hid (P L g3 (.loop 7 (both 17 false F G)) j o=some r):=by
       rcases HRS.out with ⟨e,h,h2⟩ | ⟨a,i,h,h2⟩
       ·have h3:=HR3.out.symm.trans h;cases h3
       ·have h3:=HR3.out.symm.trans h;cases h3
        rcases h2 with ⟨h2,_⟩ | ⟨_,h2⟩
        ·omega
        ·exact h2
      have HR5:=Lib.hid hR4
      have HGG:=Lib.hid g1
      clear hR4 hO4 g1
      go_wp2_with fail
      refine hj.mono ?_
      rintro r4 w4 ⟨v4,rfl,ho,hb⟩
      have HR6:=Lib.hid (HR5.out.below hb)
      have HA6:=Lib.hid (HA3.out.then hb)
      have HO6:=Lib.hid (ho.mono hrw3)
      have hv:=both_size 17 false F G
      have HV:=Lib.hid hv
      clear hj ho hb hv
      go_wp2_with fail
      go_roundw
      case rel=>exact⟨HA6.out,Or.inl ⟨both 17 false F G,j,g3,by omega,HO6.out,both_good (by omega) HG.out HGG.out,by rw[HV.out];omega,g3',HR6.out,HRE.out⟩⟩
      case measure=>rw[HM.out,mR_ok HR6.out.cells.2.1 HR6.out.cells.2.2.2.1];omega
    ·have HS:=Lib.hid hs
     clear hs
     have hc:=r4is_no EV i (by omega) o 0 0 ⟨#[42]⟩ (Or.inl (by rw[isT_some HS.out];decide)) wr (HBR.out.then HBL0.out) (HR0.out.below HBL0.out)
     go_wp2_with fail
     refine hc.mono ?_
     rintro r2 v1 ⟨rfl,hb⟩
     have HBL1:=Lib.hid (below_next HBL0.out hb)
     clear hc hb HBL0
     have hc:=r4is_no EV i (by omega) o 0 0 ⟨#[100,105,118]⟩ (Or.inl (by rw[isT_some HS.out];decide)) v1 (HBR.out.then HBL1.out) (HR0.out.below HBL1.out)
     go_wp2_with fail
     refine hc.mono ?_
     rintro r2 v2 ⟨rfl,hb⟩
     have HBL2:=Lib.hid (below_next HBL1.out hb)
     clear hc hb HBL1
     have hc:=r4is_yes EV i (by omega) o 0 ⟨#[109,111,100]⟩ (by rw[isT_some HS.out];simp) v2 (HBR.out.then HBL2.out) (HR0.out.below HBL2.out)
     go_wp2_with fail
     refine hc.mono ?_
     rintro r2 v3 ⟨rfl,hb⟩
     have HBL3:=Lib.hid (below_next HBL2.out hb)
     clear hc hb HBL2
     have hc:=r4is_no EV i (by omega) o 0 0 ⟨#[100,105,118]⟩ (Or.inl (by rw[isT_some HS.out];decide)) v3 (HBR.out.then HBL3.out) (HR0.out.below HBL3.out)
     go_wp2_with fail
     refine hc.mono ?_
     rintro r2 v4 ⟨rfl,hb⟩
     have HBL4:=Lib.hid (below_next HBL3.out hb)
     clear hc hb HBL3
     have hc:=r4is_yes EV i (by omega) o 0 ⟨#[109,111,100]⟩ (by rw[isT_some HS.out];simp) v4 (HBR.out.then HBL4.out) (HR0.out.below HBL4.out)
     go_wp2_with fail
     refine hc.mono ?_
     rintro r2 v5 ⟨rfl,hb⟩
     have HBL5:=Lib.hid (below_next HBL4.out hb)
     clear hc hb HBL4
     have hR9:=HR0.out.below HBL5.out
     obtain⟨c0,c1,c2,c3,c4⟩:=hR9.cells
     obtain⟨f0,f1,f2,f3,f4⟩:=hR9.free
     have HR9:=Lib.hid (hR9.setI ((i:Int)+1))
     have HA9:Hid (Al rb wr (v5.setCell ⟨rb,1,none⟩ (.int .i64 ((i:Int)+1)))):=(Al.of HBL5.out).set _ _
     clear hR9 HBL5
     obtain⟨r3,hr3⟩ : ∃ r3,P L g3 (.bin 8) (i+1) o=some r3:=by
      rcases HRS.out with ⟨e,h,_⟩ | ⟨a,i,h,_⟩
      ·exact⟨_,h⟩
      ·exact⟨_,h⟩
     have HR3:=Lib.hid hr3
     clear hr3
     go_wp2_with fail
     generalize v5.setCell ⟨rb,1,none⟩ (.int .i64 ((i:Int)+1))=w2 at *
     have hA2:=HA9.out
     have hcall:=IH.out g3 (by omega) 8 (i+1) o r3 w2 (by omega) (by omega) HR3.out (HBR.out.next hA2) (by simpa using HR9.out)
     have HA2:Hid (Al rb w w2):=HA.out.next hA2
     have HO2:Hid (OwnE nb w2 (.slice va (F.flat 0).length vc) (F.flat 0)):=hA2.ownE HO.out hlt
     have hrw2:nb≤w2.heap.size:=by have:=hA2.size;omega
     clear hA2 HA9 HR9 HA HO HBR hrw c0 c1 c2 c3 c4 f0 f1 f2 f3 f4
     refine hcall.mono ?_
     rintro e w3 ⟨hA3,hpost⟩
     have HA3:Hid (Al rb w w3):=HA2.out.next hA3
     have HO3:=Lib.hid (hA3.ownE HO2.out hlt)
     have hrw3:nb≤w3.heap.size:=by have:=hA3.size;omega
     clear hcall hA3
     match r3,hpost with
     | .error (c,p),⟨y,yn,yk,i3,he,hc,hi3,hR3⟩ =>
      subst he
      have hj:=r4join_no i3 o c p 18 hc _ (.slice va (F.flat 0).length vc) (.slice y yn yk) w3 hR3
      have HRE:Hid (r=.error (c,p)):=by
       rcases HRS.out with ⟨e,h,h2⟩ | ⟨a,i,h,_⟩
       ·have h3:=HR3.out.symm.trans h;cases h3;exact h2
       ·have h3:=HR3.out.symm.trans h;cases h3
      have HR4:=Lib.hid hR3
      clear hR3
      go_wp2_with fail
      refine hj.mono ?_
      rintro r4 w4 ⟨rfl,rfl⟩
      clear hj
      go_wp2_with fail
      go_roundw
      case rel=>exact⟨HA3.out,Or.inr ⟨c,p,none,0,0,i3,HRE.out,hc,hi3,HR4.out,rfl⟩⟩
      case measure=>rw[HM.out,mR_err HR4.out.cells.2.2.2.1 hc];omega
     | .ok (l,j),⟨G,v,hl,he,hO4,hR4⟩ =>
      subst hl he
      obtain⟨g1,g2,g3',g4⟩:=(P_ok EV.out.ok g3).bin (by omega) HR3.out
      obtain⟨ya,yc,rfl,-⟩:=hO4.form
      have hj:=r4join_ok j o 0 _ 18 F G (.slice va (F.flat 0).length vc) (.slice ya (G.flat 0).length yc) w3 hR4 HO3.out.isE hO4.isE HG.out.one g1.one (by omega) (by omega)
      have HRE:Hid (P L g3 (.loop 7 (both 18 false F G)) j o=some r):=by
       rcases HRS.out with ⟨e,h,h2⟩ | ⟨a,i,h,h2⟩
       ·have h3:=HR3.out.symm.trans h;cases h3
       ·have h3:=HR3.out.symm.trans h;cases h3
        rcases h2 with ⟨h2,_⟩ | ⟨_,h2⟩
        ·omega
        ·exact h2
      have HR5:=Lib.hid hR4
      have HGG:=Lib.hid g1
      clear hR4 hO4 g1
      go_wp2_with fail
      refine hj.mono ?_
      rintro r4 w4 ⟨v4,rfl,ho,hb⟩
      have HR6:=Lib.hid (HR5.out.below hb)
      have HA6:=Lib.hid (HA3.out.then hb)
      have HO6:=Lib.hid (ho.mono hrw3)
      have hv:=both_size 18 false F G
      have HV:=Lib.hid hv
      clear hj ho hb hv
      go_wp2_with fail
      go_roundw
      case rel=>exact⟨HA6.out,Or.inl ⟨both 18 false F G,j,g3,by omega,HO6.out,both_good (by omega) HG.out HGG.out,by rw[HV.out];omega,g3',HR6.out,HRE.out⟩⟩
      case measure=>rw[HM.out,mR_ok HR6.out.cells.2.1 HR6.out.cells.2.2.2.1];omega
  ·have HE:Hid (∀ w2,Below wr.heap.size wr w2→RPost (Rd rb (.slice a L.length cc)) rb o w r (.returned (.slice x n k)) w2):=fun w2 hb=>by rw[hr];exact rpost_err (hA.then hb) hc hi (hR.below hb)
   have HR0:=Lib.hid hR
   have HB0:Hid (Al rb w0 wr):=HB.out.next hA
   have HBL0:Hid (Below wr.heap.size wr wr):=Below.refl _ _
   have hno0:Hid (isT L i ⟨#[42]⟩=false∨c≠0):=Or.inr hc
   have hno1:Hid (isT L i ⟨#[100,105,118]⟩=false∨c≠0):=Or.inr hc
   have hno2:Hid (isT L i ⟨#[109,111,100]⟩=false∨c≠0):=Or.inr hc
   clear hA hR hr hc
   have hc0:=r4is_no EV i (by omega) o c p ⟨#[42]⟩ hno0.out wr HB0.out HR0.out
   go_wp2_with fail
   refine hc0.mono ?_
   rintro r2 w2 ⟨rfl,hb⟩
   have HR1:=Lib.hid (HR0.out.below hb)
   have HB1:=Lib.hid (HB0.out.then hb)
   have HBL1:=Lib.hid (below_next HBL0.out hb)
   clear hc0 hb HR0 HB0 HBL0
   have hc1:=r4is_no EV i (by omega) o c p ⟨#[100,105,118]⟩ hno1.out w2 HB1.out HR1.out
   go_wp2_with fail
   refine hc1.mono ?_
   rintro r2 w3 ⟨rfl,hb⟩
   have HR2:=Lib.hid (HR1.out.below hb)
   have HB2:=Lib.hid (HB1.out.then hb)
   have HBL2:=Lib.hid (below_next HBL1.out hb)
   clear hc1 hb HR1 HB1 HBL1
   have hc2:=r4is_no EV i (by omega) o c p ⟨#[109,111,100]⟩ hno2.out w3 HB2.out HR2.out
   go_wp2_with fail
   refine hc2.mono ?_
   rintro r2 w4 ⟨rfl,hb⟩
   have HR3:=Lib.hid (HR2.out.below hb)
   have HB3:=Lib.hid (HB2.out.then hb)
   have HBL3:=Lib.hid (below_next HBL2.out hb)
   clear hc2 hb HR2 HB2 HBL2
   go_wp2_with fail
   go_ret
   exact HE.out w4 HBL3.out
end
end Go.Proofs.YtmacepicoandkaaGreatDoor
