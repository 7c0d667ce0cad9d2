/- The reference's reader of expressions: levels 1 and 2 (Arrow, imp): the walk. DERIVED: THE SHELF's CONTRACTS AT THIS DUMP, IN PLAIN WORDS (tools/lay-plain.mjs out of 'TryzShelf.lean', which tools/lay-shelf.mjs wrote): THE SAME DECLARATIONS UNDER THE SAME NAMES: 'import', 'namespace', 'open', 'def', 'theorem' AND NOTHING ELSE: no command of the shelf's: FOR A HAND-IN. Each laying: the table of numbers ('.._ren') and one theorem, a field a fact of the dump's own or the kernel's comparison; each contract: ONE APPLICATION. -/
import Derived.Shelf.Small.Wraps
import Derived.Shelf.Strconv.Atoi
import Derived.Shelf.Strconv.Itoa0
import Derived.Shelf.Strconv.Itoa1
import Derived.Shelf.LaysM
import Derived.Shelf.Strconv.Itoa2
import Derived.Shelf.Strconv.Itoa3
import Derived.Shelf.Strconv.AtoiErrFast
import Derived.Shelf.Strconv.ParseIntEmpty
import Derived.Shelf.Strconv.AtoiFail
import Derived.Shelf.Strconv.Clone
import Derived.Shelf.Strconv.SyntaxError
import Derived.Shelf.LaysC
import Derived.Shelf.Strconv.ToError
import Derived.Shelf.Strconv.AtoiErr
import Derived.Shelf.Strconv.ErrVar
import Derived.Shelf.Strconv.Lower
import Derived.Shelf.Strconv.ParseUint10
import Derived.Shelf.Strconv.ParseUint10Empty
import Derived.Shelf.Strconv.ParseUint10Any
import Derived.Shelf.Strconv.ParseInt10
import Derived.Shelf.Strconv.AtoiLong
import Derived.Shelf.Strconv.AtoiInnerAll
import Derived.Shelf.Strconv.RangeError
import Derived.Shelf.Strconv.ToErrorRange
import Derived.Shelf.Strconv.AtoiAll
import Derived.Shelf.Strconv.ErrVarAll
import Derived.Shelf.Strconv.ParseUintEmpty
import Derived.Shelf.Strconv.ParseUint10b64
import Derived.Shelf.Strconv.ParseUint10b32
import Derived.Shelf.Strconv.ParseUint10b16
import Derived.Shelf.Strconv.ParseUint10b8
import Derived.Shelf.Strconv.ParseUint10At
import Derived.Shelf.Strconv.ParseInt10At64
import Derived.Shelf.Strconv.ParseInt10At32
import Derived.Shelf.Strconv.ParseInt10At16
import Derived.Shelf.Strconv.ParseInt10At8
import Derived.Shelf.Strconv.ParseInt10All
import Derived.Shelf.Strings.Prefix
import Derived.Test.YtmacepicoandkaaGreatDoorProg
import Derived.Test.YtmacepicoandkaaGreatDoorJ17
set_option linter.unusedVariables false
set_option linter.unusedSimpArgs false
namespace Go.Proofs.YtmacepicoandkaaGreatDoor
open Go.RowKit Go.Shelf Tx Px
section
variable {L : List Tok} {a : Option Addr} {cc rb : Nat} {w0 : World}
set_option maxRecDepth 100000 in
set_option maxHeartbeats 4000000 in
theorem r4Arrow_any (EV:Hid (EnvOk w0 rb a cc L)) (f:Nat) (IH:Hid (∀ g,g<f→LvOk w0 rb a cc L g)) (I o:Nat) (r:Res) (w:World) (hI:I≤L.length) (hP:P L f (.bin 0) I o=some r) (hB:Al rb w0 w) (hR:Rd rb (.slice a L.length cc) w I o 0 0) :
  Calls Tryz.prog 90 #[.pointer (some ⟨rb,0,none⟩)] w (RPost (Rd rb (.slice a L.length cc)) rb o w r):=by
 have HB:=Lib.hid hB
 obtain⟨g,rfl,hcs⟩:=bin_cases (by omega) hP
 have hL:=EV.out.len
 have hlt:=hR.lt
 obtain⟨nb,hnb⟩ : ∃ nb,nb=w.heap.size:=⟨_,rfl⟩
 have HNB:=Lib.hid hnb
 rw[← hnb] at hlt
 have h1:∀ r1,P L g (.bin 1) I o=some r1→_:=fun r1 h=>IH.out g (by omega) 1 I o r1 w (by omega) hI h hB hR
 have H1:Hid (∀ r1,P L g (.bin 1) I o=some r1→_):=h1
 have HC:=Lib.hid hcs
 clear hP hcs h1 hB hR hnb
 obtain⟨r1,hr1⟩ : ∃ r1,P L g (.bin 1) I o=some r1:=by
  rcases HC.out with ⟨e,h,_⟩ | ⟨a,i,h,_⟩
  ·exact⟨_,h⟩
  ·exact⟨_,h⟩
 have HR1:=Lib.hid hr1
 clear hr1
 go_enter Tryz.func90,Tryz.ntmps90
 go_wp2_with fail
 refine (H1.out r1 HR1.out).mono ?_
 rintro e w1 ⟨hA,hpost⟩
 have HLP:Hid (∃ av,e=.returned av∧(∃ x n k,av=.slice x n k)∧LpR (Rd rb (.slice a L.length cc)) L rb nb o w 0 (g+1) r av w1):=by
  rcases HC.out with ⟨⟨c,p⟩,h,h2⟩ | ⟨F,i,h,h2⟩
  ·have h3:=HR1.out.symm.trans h
   cases h3
   obtain⟨x,n,k,i,h4,h5,h6,h7⟩:=hpost
   exact⟨_,h4,⟨_,_,_,rfl⟩,hA,Or.inr ⟨c,p,x,n,k,i,h2,h5,h6,h7,rfl⟩⟩
  ·have h3:=HR1.out.symm.trans h
   cases h3
   obtain⟨F',v,h4,h5,h6,h7⟩:=hpost
   cases h4
   obtain⟨g1,g2,g3,g4⟩:=(P_ok EV.out.ok g).bin hI h
   obtain⟨va,vc,hv,-⟩:=h6.form
   exact⟨v,h5,⟨_,_,_,hv⟩,hA,Or.inl ⟨F,i,g,by omega,by rw[HNB.out];exact h6,g1,by omega,g3,h7,h2⟩⟩
 obtain⟨av,rfl,⟨ax,an,ak,rfl⟩,hlp⟩:=HLP.out
 have HLP2:=Lib.hid hlp
 clear HLP hlp hpost hA H1 HR1 HC
 obtain⟨hA,⟨F,i,g2,hg2,hO,hG,hF,hi,hR,hP⟩ | ⟨c,p,x,n,k,i,hr,hc,hi,hR,hax⟩⟩:=HLP2.out
 ·have hBr:Al rb w0 w1:=HB.out.next hA
  obtain⟨va,vc,hva,-⟩:=hO.form
  cases hva
  rcases loop_cases hP with ⟨hn,rfl⟩ | ⟨g3,s,op,sw,rfl,hs,hop,hrest⟩
  ·have HE:Hid (∀ w2,Below w1.heap.size w1 w2→RPost (Rd rb (.slice a L.length cc)) rb o w (.ok ([F],i)) (.returned (.slice ax (F.flat 0).length ak)) w2):=fun w2 hb=>rpost_ok (hA.then hb) (by rw[← HNB.out];exact hO.below hb) (hR.below hb)
   have HR0:=Lib.hid hR
   have HB0:Hid (Al rb w0 w1):=hBr
   have HBL0:Hid (Below w1.heap.size w1 w1):=Below.refl _ _
   have hno0:Hid (isT L i ⟨#[45,62]⟩=false∨(0:Int)≠0):=Or.inl (isT_none hn (by decide))
   clear hP hn hBr hA hO hG hF hR
   have hc0:=r4take_no EV i (by omega) o 0 0 ⟨#[45,62]⟩ hno0.out w1 HB0.out HR0.out
   go_wp2_with fail
   refine hc0.mono ?_
   rintro r2 w2 ⟨rfl,hb⟩
   have HR1:=Lib.hid (HR0.out.below hb)
   have HB1:=Lib.hid (HB0.out.then hb)
   have HBL1:=Lib.hid (below_next HBL0.out hb)
   clear hc0 hb HR0 HB0 HBL0
   go_wp2_with fail
   go_ret
   exact HE.out w2 HBL1.out
  ·have hil:i<L.length:=hereT_lt hs
   have hso:(s=⟨#[45,62]⟩∧op=19∧sw=false):=by
    unfold Px.opAt at hop
    simp only at hop
    repeat' (split at hop)
    all_goals first | (cases hop;done) | (rename_i e;cases hop;rw[e];simp[bs])
   have HO:=Lib.hid hO
   have HG:=Lib.hid hG
   have HA:=Lib.hid hA
   have HR0:=Lib.hid hR
   have HBR:=Lib.hid hBr
   have HBL0:Hid (Below w1.heap.size w1 w1):=Below.refl _ _
   have HRS:=Lib.hid hrest
   have hrw:nb≤w1.heap.size:=by rw[HNB.out];exact hA.size
   clear hP hop hBr hA hO hG hR hrest HLP2
   rcases hso with ⟨rfl,rfl,rfl⟩
   ·have HS:=Lib.hid hs
    clear hs
    have hc:=r4take_yes EV i (by omega) o 0 ⟨#[45,62]⟩ (by rw[isT_some HS.out];simp) w1 (HBR.out.then HBL0.out) (HR0.out.below HBL0.out)
    go_wp2_with fail
    refine hc.mono ?_
    rintro r2 w2 ⟨rfl,hR9,hA9⟩
    have hA2:Al rb w1 w2:=(Al.of HBL0.out).next hA9
    obtain⟨r3,hr3⟩ : ∃ r3,P L g3 (.bin 0) (i+1) o=some r3:=by
     rcases HRS.out with ⟨e,h,_⟩ | ⟨a,i,h,_⟩
     ·exact⟨_,h⟩
     ·exact⟨_,h⟩
    have HR3:=Lib.hid hr3
    have hcall:=IH.out g3 (by omega) 0 (i+1) o r3 w2 (by omega) (by omega) hr3 (HBR.out.next hA2) (by simpa using hR9)
    have HA2:Hid (Al rb w w2):=HA.out.next hA2
    have HO2:Hid (OwnE nb w2 (.slice ax (F.flat 0).length ak) (F.flat 0)):=hA2.ownE HO.out hlt
    have hrw2:nb≤w2.heap.size:=by have:=hA2.size;omega
    clear hc hR9 hA9 hA2 hr3 HA HO HBR hrw HBL0 HR0
    go_wp2_with fail
    refine hcall.mono ?_
    rintro e w3 ⟨hA3,hpost⟩
    have HA3:Hid (Al rb w w3):=HA2.out.next hA3
    have HO3:=Lib.hid (hA3.ownE HO2.out hlt)
    have hrw3:nb≤w3.heap.size:=by have:=hA3.size;omega
    clear hcall hA3
    match r3,hpost with
    | .error (c,p),⟨y,yn,yk,i3,he,hc,hi3,hR3⟩ =>
     subst he
     have hj:=r4join_no i3 o c p 19 hc _ (.slice ax (F.flat 0).length ak) (.slice y yn yk) w3 hR3
     have HRE:Hid (r=.error (c,p)):=by
      rcases HRS.out with ⟨e,h,h2⟩ | ⟨a,i,h,_⟩
      ·have h3:=HR3.out.symm.trans h;cases h3;exact h2
      ·have h3:=HR3.out.symm.trans h;cases h3
     have HR4:=Lib.hid hR3
     clear hR3
     go_wp2_with fail
     refine hj.mono ?_
     rintro r4 w4 ⟨rfl,rfl⟩
     clear hj
     go_wp2_with fail
     go_ret
     rw[HRE.out];exact rpost_err HA3.out hc hi3 HR4.out
    | .ok (l,j),⟨G,v,hl,he,hO4,hR4⟩ =>
     subst hl he
     obtain⟨g1,g2,g3',g4⟩:=(P_ok EV.out.ok g3).bin (by omega) HR3.out
     obtain⟨ya,yc,rfl,-⟩:=hO4.form
     have hj:=r4join_ok j o 0 _ 19 F G (.slice ax (F.flat 0).length ak) (.slice ya (G.flat 0).length yc) w3 hR4 HO3.out.isE hO4.isE HG.out.one g1.one (by omega) (by omega)
     have HRE:Hid (r=.ok ([both 19 false F G],j)):=by
      rcases HRS.out with ⟨e,h,h2⟩ | ⟨a,i,h,h2⟩
      ·have h3:=HR3.out.symm.trans h;cases h3
      ·have h3:=HR3.out.symm.trans h;cases h3
       rcases h2 with ⟨_,h2⟩ | ⟨h2,_⟩
       ·exact h2
       ·exact absurd (by decide) h2
     have HR5:=Lib.hid hR4
     clear hR4 hO4 g1
     go_wp2_with fail
     refine hj.mono ?_
     rintro r4 w4 ⟨v4,rfl,ho,hb⟩
     have HR6:=Lib.hid (HR5.out.below hb)
     have HA6:=Lib.hid (HA3.out.then hb)
     have HO6:=Lib.hid (ho.mono hrw3)
     clear hj ho hb
     go_wp2_with fail
     go_ret
     rw[HRE.out];exact rpost_ok HA6.out (by rw[← HNB.out];exact HO6.out) HR6.out
 ·cases hax
  have HE:Hid (∀ w2,Below w1.heap.size w1 w2→RPost (Rd rb (.slice a L.length cc)) rb o w r (.returned (.slice ax an ak)) w2):=fun w2 hb=>by rw[hr];exact rpost_err (hA.then hb) hc hi (hR.below hb)
  have HR0:=Lib.hid hR
  have HB0:Hid (Al rb w0 w1):=HB.out.next hA
  have HBL0:Hid (Below w1.heap.size w1 w1):=Below.refl _ _
  have hno0:Hid (isT L i ⟨#[45,62]⟩=false∨c≠0):=Or.inr hc
  clear hA hR hr hc
  have hc0:=r4take_no EV i (by omega) o c p ⟨#[45,62]⟩ hno0.out w1 HB0.out HR0.out
  go_wp2_with fail
  refine hc0.mono ?_
  rintro r2 w2 ⟨rfl,hb⟩
  have HR1:=Lib.hid (HR0.out.below hb)
  have HB1:=Lib.hid (HB0.out.then hb)
  have HBL1:=Lib.hid (below_next HBL0.out hb)
  clear hc0 hb HR0 HB0 HBL0
  go_wp2_with fail
  go_ret
  exact HE.out w2 HBL1.out
set_option maxRecDepth 100000 in
set_option maxHeartbeats 4000000 in
theorem r4imp_any (EV:Hid (EnvOk w0 rb a cc L)) (f:Nat) (IH:Hid (∀ g,g<f→LvOk w0 rb a cc L g)) (I o:Nat) (r:Res) (w:World) (hI:I≤L.length) (hP:P L f (.bin 1) I o=some r) (hB:Al rb w0 w) (hR:Rd rb (.slice a L.length cc) w I o 0 0) :
  Calls Tryz.prog 103 #[.pointer (some ⟨rb,0,none⟩)] w (RPost (Rd rb (.slice a L.length cc)) rb o w r):=by
 have HB:=Lib.hid hB
 obtain⟨g,rfl,hcs⟩:=bin_cases (by omega) hP
 have hL:=EV.out.len
 have hlt:=hR.lt
 obtain⟨nb,hnb⟩ : ∃ nb,nb=w.heap.size:=⟨_,rfl⟩
 have HNB:=Lib.hid hnb
 rw[← hnb] at hlt
 have h1:∀ r1,P L g (.bin 2) I o=some r1→_:=fun r1 h=>IH.out g (by omega) 2 I o r1 w (by omega) hI h hB hR
 have H1:Hid (∀ r1,P L g (.bin 2) I o=some r1→_):=h1
 have HC:=Lib.hid hcs
 clear hP hcs h1 hB hR hnb
 obtain⟨r1,hr1⟩ : ∃ r1,P L g (.bin 2) I o=some r1:=by
  rcases HC.out with ⟨e,h,_⟩ | ⟨a,i,h,_⟩
  ·exact⟨_,h⟩
  ·exact⟨_,h⟩
 have HR1:=Lib.hid hr1
 clear hr1
 go_enter Tryz.func103,Tryz.ntmps103
 go_wp2_with fail
 refine (H1.out r1 HR1.out).mono ?_
 rintro e w1 ⟨hA,hpost⟩
 have HLP:Hid (∃ av,e=.returned av∧(∃ x n k,av=.slice x n k)∧LpR (Rd rb (.slice a L.length cc)) L rb nb o w 1 (g+1) r av w1):=by
  rcases HC.out with ⟨⟨c,p⟩,h,h2⟩ | ⟨F,i,h,h2⟩
  ·have h3:=HR1.out.symm.trans h
   cases h3
   obtain⟨x,n,k,i,h4,h5,h6,h7⟩:=hpost
   exact⟨_,h4,⟨_,_,_,rfl⟩,hA,Or.inr ⟨c,p,x,n,k,i,h2,h5,h6,h7,rfl⟩⟩
  ·have h3:=HR1.out.symm.trans h
   cases h3
   obtain⟨F',v,h4,h5,h6,h7⟩:=hpost
   cases h4
   obtain⟨g1,g2,g3,g4⟩:=(P_ok EV.out.ok g).bin hI h
   obtain⟨va,vc,hv,-⟩:=h6.form
   exact⟨v,h5,⟨_,_,_,hv⟩,hA,Or.inl ⟨F,i,g,by omega,by rw[HNB.out];exact h6,g1,by omega,g3,h7,h2⟩⟩
 obtain⟨av,rfl,⟨ax,an,ak,rfl⟩,hlp⟩:=HLP.out
 have HLP2:=Lib.hid hlp
 clear HLP hlp hpost hA H1 HR1 HC
 obtain⟨hA,⟨F,i,g2,hg2,hO,hG,hF,hi,hR,hP⟩ | ⟨c,p,x,n,k,i,hr,hc,hi,hR,hax⟩⟩:=HLP2.out
 ·have hBr:Al rb w0 w1:=HB.out.next hA
  obtain⟨va,vc,hva,-⟩:=hO.form
  cases hva
  rcases loop_cases hP with ⟨hn,rfl⟩ | ⟨g3,s,op,sw,rfl,hs,hop,hrest⟩
  ·have HE:Hid (∀ w2,Below w1.heap.size w1 w2→RPost (Rd rb (.slice a L.length cc)) rb o w (.ok ([F],i)) (.returned (.slice ax (F.flat 0).length ak)) w2):=fun w2 hb=>rpost_ok (hA.then hb) (by rw[← HNB.out];exact hO.below hb) (hR.below hb)
   have HR0:=Lib.hid hR
   have HB0:Hid (Al rb w0 w1):=hBr
   have HBL0:Hid (Below w1.heap.size w1 w1):=Below.refl _ _
   have hno0:Hid (isT L i ⟨#[61,62]⟩=false∨(0:Int)≠0):=Or.inl (isT_none hn (by decide))
   clear hP hn hBr hA hO hG hF hR
   have hc0:=r4take_no EV i (by omega) o 0 0 ⟨#[61,62]⟩ hno0.out w1 HB0.out HR0.out
   go_wp2_with fail
   refine hc0.mono ?_
   rintro r2 w2 ⟨rfl,hb⟩
   have HR1:=Lib.hid (HR0.out.below hb)
   have HB1:=Lib.hid (HB0.out.then hb)
   have HBL1:=Lib.hid (below_next HBL0.out hb)
   clear hc0 hb HR0 HB0 HBL0
   go_wp2_with fail
   go_ret
   exact HE.out w2 HBL1.out
  ·have hil:i<L.length:=hereT_lt hs
   have hso:(s=⟨#[61,62]⟩∧op=9∧sw=false):=by
    unfold Px.opAt at hop
    simp only at hop
    repeat' (split at hop)
    all_goals first | (cases hop;done) | (rename_i e;cases hop;rw[e];simp[bs])
   have HO:=Lib.hid hO
   have HG:=Lib.hid hG
   have HA:=Lib.hid hA
   have HR0:=Lib.hid hR
   have HBR:=Lib.hid hBr
   have HBL0:Hid (Below w1.heap.size w1 w1):=Below.refl _ _
   have HRS:=Lib.hid hrest
   have hrw:nb≤w1.heap.size:=by rw[HNB.out];exact hA.size
   clear hP hop hBr hA hO hG hR hrest HLP2
   rcases hso with ⟨rfl,rfl,rfl⟩
   ·have HS:=Lib.hid hs
    clear hs
    have hc:=r4take_yes EV i (by omega) o 0 ⟨#[61,62]⟩ (by rw[isT_some HS.out];simp) w1 (HBR.out.then HBL0.out) (HR0.out.below HBL0.out)
    go_wp2_with fail
    refine hc.mono ?_
    rintro r2 w2 ⟨rfl,hR9,hA9⟩
    have hA2:Al rb w1 w2:=(Al.of HBL0.out).next hA9
    obtain⟨r3,hr3⟩ : ∃ r3,P L g3 (.bin 1) (i+1) o=some r3:=by
     rcases HRS.out with ⟨e,h,_⟩ | ⟨a,i,h,_⟩
     ·exact⟨_,h⟩
     ·exact⟨_,h⟩
    have HR3:=Lib.hid hr3
    have hcall:=IH.out g3 (by omega) 1 (i+1) o r3 w2 (by omega) (by omega) hr3 (HBR.out.next hA2) (by simpa using hR9)
    have HA2:Hid (Al rb w w2):=HA.out.next hA2
    have HO2:Hid (OwnE nb w2 (.slice ax (F.flat 0).length ak) (F.flat 0)):=hA2.ownE HO.out hlt
    have hrw2:nb≤w2.heap.size:=by have:=hA2.size;omega
    clear hc hR9 hA9 hA2 hr3 HA HO HBR hrw HBL0 HR0
    go_wp2_with fail
    refine hcall.mono ?_
    rintro e w3 ⟨hA3,hpost⟩
    have HA3:Hid (Al rb w w3):=HA2.out.next hA3
    have HO3:=Lib.hid (hA3.ownE HO2.out hlt)
    have hrw3:nb≤w3.heap.size:=by have:=hA3.size;omega
    clear hcall hA3
    match r3,hpost with
    | .error (c,p),⟨y,yn,yk,i3,he,hc,hi3,hR3⟩ =>
     subst he
     have hj:=r4join_no i3 o c p 9 hc _ (.slice ax (F.flat 0).length ak) (.slice y yn yk) w3 hR3
     have HRE:Hid (r=.error (c,p)):=by
      rcases HRS.out with ⟨e,h,h2⟩ | ⟨a,i,h,_⟩
      ·have h3:=HR3.out.symm.trans h;cases h3;exact h2
      ·have h3:=HR3.out.symm.trans h;cases h3
     have HR4:=Lib.hid hR3
     clear hR3
     go_wp2_with fail
     refine hj.mono ?_
     rintro r4 w4 ⟨rfl,rfl⟩
     clear hj
     go_wp2_with fail
     go_ret
     rw[HRE.out];exact rpost_err HA3.out hc hi3 HR4.out
    | .ok (l,j),⟨G,v,hl,he,hO4,hR4⟩ =>
     subst hl he
     obtain⟨g1,g2,g3',g4⟩:=(P_ok EV.out.ok g3).bin (by omega) HR3.out
     obtain⟨ya,yc,rfl,-⟩:=hO4.form
     have hj:=r4join_ok j o 0 _ 9 F G (.slice ax (F.flat 0).length ak) (.slice ya (G.flat 0).length yc) w3 hR4 HO3.out.isE hO4.isE HG.out.one g1.one (by omega) (by omega)
     have HRE:Hid (r=.ok ([both 9 false F G],j)):=by
      rcases HRS.out with ⟨e,h,h2⟩ | ⟨a,i,h,h2⟩
      ·have h3:=HR3.out.symm.trans h;cases h3
      ·have h3:=HR3.out.symm.trans h;cases h3
       rcases h2 with ⟨_,h2⟩ | ⟨h2,_⟩
       ·exact h2
       ·exact absurd (by decide) h2
     have HR5:=Lib.hid hR4
     clear hR4 hO4 g1
     go_wp2_with fail
     refine hj.mono ?_
     rintro r4 w4 ⟨v4,rfl,ho,hb⟩
     have HR6:=Lib.hid (HR5.out.below hb)
     have HA6:=Lib.hid (HA3.out.then hb)
     have HO6:=Lib.hid (ho.mono hrw3)
     clear hj ho hb
     go_wp2_with fail
     go_ret
     rw[HRE.out];exact rpost_ok HA6.out (by rw[← HNB.out];exact HO6.out) HR6.out
 ·cases hax
  have HE:Hid (∀ w2,Below w1.heap.size w1 w2→RPost (Rd rb (.slice a L.length cc)) rb o w r (.returned (.slice ax an ak)) w2):=fun w2 hb=>by rw[hr];exact rpost_err (hA.then hb) hc hi (hR.below hb)
  have HR0:=Lib.hid hR
  have HB0:Hid (Al rb w0 w1):=HB.out.next hA
  have HBL0:Hid (Below w1.heap.size w1 w1):=Below.refl _ _
  have hno0:Hid (isT L i ⟨#[61,62]⟩=false∨c≠0):=Or.inr hc
  clear hA hR hr hc
  have hc0:=r4take_no EV i (by omega) o c p ⟨#[61,62]⟩ hno0.out w1 HB0.out HR0.out
  go_wp2_with fail
  refine hc0.mono ?_
  rintro r2 w2 ⟨rfl,hb⟩
  have HR1:=Lib.hid (HR0.out.below hb)
  have HB1:=Lib.hid (HB0.out.then hb)
  have HBL1:=Lib.hid (below_next HBL0.out hb)
  clear hc0 hb HR0 HB0 HBL0
  go_wp2_with fail
  go_ret
  exact HE.out w2 HBL1.out
end
end Go.Proofs.YtmacepicoandkaaGreatDoor
namespace Go.Proofs
open Go.Shelf
def Tryz.lays103_ren:Go.Shelf.Ren:=⟨fun | 103=>80 | 210=>94 | 206=>107 | n=>n,fun | 9=>9 | 4=>4 | 24=>134 | 3=>3 | n=>n,fun | n=>n⟩
theorem Tryz.lays103:Go.Proofs.Lays.n103 Tryz.prog Tryz.lays103_ren:={
 mixed:=by kernel_rfl
 f103:=Tryz.func80.trans (congrArg some (by kernel_rfl))
 f206:=Tryz.func107.trans (congrArg some (by kernel_rfl))
 f210:=Tryz.func94.trans (congrArg some (by kernel_rfl))
 t3:=Tryz.underlying3
 a3:=Tryz.isAgg3
 z3:=Tryz.sizeOf3
 v3:=Tryz.zeroValue3
 t4:=Tryz.underlying4
 a4:=Tryz.isAgg4
 z4:=Tryz.sizeOf4
 v4:=Tryz.zeroValue4
 t9:=Tryz.underlying9
 a9:=Tryz.isAgg9
 z9:=Tryz.sizeOf9
 v9:=Tryz.zeroValue9
 t24:=Tryz.underlying134
 a24:=Tryz.isAgg134
 z24:=Tryz.sizeOf134
 v24:=Tryz.zeroValue134 }
open Go.RowKit in
theorem Tryz.strings_CutPrefix (s p:ByteArray) (w:World) :
  Calls Tryz.prog 80 #[.string s,.string p] w fun e w'=>e=.returned (.tuple #[.string ⟨(Lib.trimPrefix s.data.toList p.data.toList).toArray⟩,.bool (Lib.hasPrefix s.data.toList p.data.toList)])∧w'=w:=Any.strings_CutPrefix Tryz.lays103 s p w
def Tryz.laysM171_ren:Go.Shelf.Ren:=⟨fun | 171=>79 | 243=>93 | 246=>106 | 283=>118 | 284=>119 | 285=>120 | 286=>121 | 129=>128 | 317=>127 | 318=>129 | 319=>130 | 320=>131 | 337=>135 | 338=>136 | n=>n,fun | 3=>3 | 9=>9 | 2=>2 | 4=>4 | 171=>175 | 0=>0 | 53=>176 | 37=>149 | 5=>5 | 173=>179 | 212=>187 | 51=>188 | 20=>20 | 213=>189 | 46=>113 | 232=>197 | 233=>198 | n=>n,fun | 17=>2 | 18=>3 | 19=>4 | n=>n⟩
theorem Tryz.laysM171:Go.Proofs.LaysM.n171 Tryz.prog Tryz.laysM171_ren:={
 mixed:=by kernel_rfl
 f129:=Tryz.func128.trans (congrArg some (by kernel_rfl))
 f171:=Tryz.func79.trans (congrArg some (by kernel_rfl))
 f243:=Tryz.func93.trans (congrArg some (by kernel_rfl))
 f246:=Tryz.func106.trans (congrArg some (by kernel_rfl))
 f283:=Tryz.func118.trans (congrArg some (by kernel_rfl))
 f284:=Tryz.func119.trans (congrArg some (by kernel_rfl))
 f285:=Tryz.func120.trans (congrArg some (by kernel_rfl))
 f286:=Tryz.func121.trans (congrArg some (by kernel_rfl))
 f317:=Tryz.func127.trans (congrArg some (by kernel_rfl))
 f318:=Tryz.func129.trans (congrArg some (by kernel_rfl))
 f319:=Tryz.func130.trans (congrArg some (by kernel_rfl))
 f320:=Tryz.func131.trans (congrArg some (by kernel_rfl))
 f337:=Tryz.func135.trans (congrArg some (by kernel_rfl))
 f338:=Tryz.func136.trans (congrArg some (by kernel_rfl))
 t0:=Tryz.underlying0
 a0:=Tryz.isAgg0
 z0:=Tryz.sizeOf0
 v0:=Tryz.zeroValue0
 t2:=Tryz.underlying2
 a2:=Tryz.isAgg2
 z2:=Tryz.sizeOf2
 v2:=Tryz.zeroValue2
 t3:=Tryz.underlying3
 a3:=Tryz.isAgg3
 z3:=Tryz.sizeOf3
 v3:=Tryz.zeroValue3
 t4:=Tryz.underlying4
 a4:=Tryz.isAgg4
 z4:=Tryz.sizeOf4
 v4:=Tryz.zeroValue4
 t5:=Tryz.underlying5
 a5:=Tryz.isAgg5
 z5:=Tryz.sizeOf5
 v5:=Tryz.zeroValue5
 t9:=Tryz.underlying9
 a9:=Tryz.isAgg9
 z9:=Tryz.sizeOf9
 v9:=Tryz.zeroValue9
 t20:=Tryz.underlying20
 a20:=Tryz.isAgg20
 z20:=Tryz.sizeOf20
 v20:=Tryz.zeroValue20
 t37:=Tryz.underlying149
 a37:=Tryz.isAgg149
 z37:=Tryz.sizeOf149
 v37:=Tryz.zeroValue149
 t46:=Tryz.underlying113
 a46:=Tryz.isAgg113
 z46:=Tryz.sizeOf113
 v46:=Tryz.zeroValue113
 t51:=Tryz.underlying188
 a51:=Tryz.isAgg188
 z51:=Tryz.sizeOf188
 v51:=Tryz.zeroValue188
 t53:=Tryz.underlying176
 a53:=Tryz.isAgg176
 z53:=Tryz.sizeOf176
 v53:=Tryz.zeroValue176
 t171:=Tryz.underlying175
 a171:=Tryz.isAgg175
 z171:=Tryz.sizeOf175
 v171:=Tryz.zeroValue175
 t173:=Tryz.underlying179
 a173:=Tryz.isAgg179
 z173:=Tryz.sizeOf179
 v173:=Tryz.zeroValue179
 t212:=Tryz.underlying187
 a212:=Tryz.isAgg187
 z212:=Tryz.sizeOf187
 v212:=Tryz.zeroValue187
 t213:=Tryz.underlying189
 a213:=Tryz.isAgg189
 z213:=Tryz.sizeOf189
 t232:=Tryz.underlying197
 a232:=Tryz.isAgg197
 z232:=Tryz.sizeOf197
 v232:=Tryz.zeroValue197
 t233:=Tryz.underlying198
 a233:=Tryz.isAgg198
 z233:=Tryz.sizeOf198
 v233:=Tryz.zeroValue198
 g17:=by kernel_rfl
 g18:=by kernel_rfl
 g19:=by kernel_rfl
 i0:=by kernel_rfl
 i2:=by kernel_rfl
 i3:=by kernel_rfl
 i4:=by kernel_rfl
 i5:=by kernel_rfl
 i9:=by kernel_rfl
 i20:=by kernel_rfl
 i37:=by kernel_rfl
 i46:=by kernel_rfl
 i51:=by kernel_rfl
 i53:=by kernel_rfl
 i171:=by kernel_rfl
 i173:=by kernel_rfl
 i212:=by kernel_rfl
 i232:=by kernel_rfl
 i233:=by kernel_rfl
 m17:=by kernel_rfl
 m18:=by kernel_rfl
 m19:=by kernel_rfl }
open Go.RowKit Go.Sort Go.Lib in
theorem Tryz.strconv_Itoa (n : Int) (h0 : -9223372036854775808 ≤ n) (h1 : n ≤ 9223372036854775807) (w : World) (htab : Lib.TabIs Tryz.prog w "internal/strconv.uint64pow10" .u64 Lib.pow10Tab) :
  Calls Tryz.prog 79 #[.int .i64 n] w fun e w'=>e=.returned (.string ⟨(Lib.itoa n).toArray⟩)∧∃ k os,w'=grow (w.drewN k) os:=Any.strconv_Itoa Tryz.laysM171 n h0 h1 w htab
def Tryz.laysC172_ren:Go.Shelf.Ren:=⟨fun | 172=>81 | 244=>95 | 245=>96 | 247=>108 | 279=>109 | 280=>110 | 281=>111 | 282=>112 | 287=>122 | 316=>123 | 171=>79 | 205=>124 | 321=>132 | 322=>133 | 243=>93 | 246=>106 | 283=>118 | 284=>119 | 285=>120 | 286=>121 | 129=>128 | 317=>127 | 318=>129 | 319=>130 | 320=>131 | 337=>135 | 338=>136 | n=>n,fun | 9=>9 | 3=>3 | 75=>137 | 76=>138 | 4=>4 | 5=>5 | 167=>168 | 37=>149 | 0=>0 | 85=>169 | 2=>2 | 168=>171 | 53=>176 | 175=>181 | 46=>113 | 210=>184 | 127=>192 | 145=>195 | 143=>193 | 21=>21 | 171=>175 | 173=>179 | 212=>187 | 51=>188 | 20=>20 | 213=>189 | 232=>197 | 233=>198 | 80=>204 | n=>n,fun | 15=>0 | 16=>1 | 17=>2 | 18=>3 | 19=>4 | n=>n⟩
theorem Tryz.laysC172:Go.Proofs.LaysC.n172 Tryz.prog Tryz.laysC172_ren:={
 mixed:=by kernel_rfl
 f129:=Tryz.func128.trans (congrArg some (by kernel_rfl))
 f171:=Tryz.func79.trans (congrArg some (by kernel_rfl))
 f172:=Tryz.func81.trans (congrArg some (by kernel_rfl))
 f205:=Tryz.func124.trans (congrArg some (by kernel_rfl))
 f243:=Tryz.func93.trans (congrArg some (by kernel_rfl))
 f244:=Tryz.func95.trans (congrArg some (by kernel_rfl))
 f245:=Tryz.func96.trans (congrArg some (by kernel_rfl))
 f246:=Tryz.func106.trans (congrArg some (by kernel_rfl))
 f247:=Tryz.func108.trans (congrArg some (by kernel_rfl))
 f279:=Tryz.func109.trans (congrArg some (by kernel_rfl))
 f280:=Tryz.func110.trans (congrArg some (by kernel_rfl))
 f281:=Tryz.func111.trans (congrArg some (by kernel_rfl))
 f282:=Tryz.func112.trans (congrArg some (by kernel_rfl))
 f283:=Tryz.func118.trans (congrArg some (by kernel_rfl))
 f284:=Tryz.func119.trans (congrArg some (by kernel_rfl))
 f285:=Tryz.func120.trans (congrArg some (by kernel_rfl))
 f286:=Tryz.func121.trans (congrArg some (by kernel_rfl))
 f287:=Tryz.func122.trans (congrArg some (by kernel_rfl))
 f316:=Tryz.func123.trans (congrArg some (by kernel_rfl))
 f317:=Tryz.func127.trans (congrArg some (by kernel_rfl))
 f318:=Tryz.func129.trans (congrArg some (by kernel_rfl))
 f319:=Tryz.func130.trans (congrArg some (by kernel_rfl))
 f320:=Tryz.func131.trans (congrArg some (by kernel_rfl))
 f321:=Tryz.func132.trans (congrArg some (by kernel_rfl))
 f322:=Tryz.func133.trans (congrArg some (by kernel_rfl))
 f337:=Tryz.func135.trans (congrArg some (by kernel_rfl))
 f338:=Tryz.func136.trans (congrArg some (by kernel_rfl))
 t0:=Tryz.underlying0
 a0:=Tryz.isAgg0
 z0:=Tryz.sizeOf0
 v0:=Tryz.zeroValue0
 t2:=Tryz.underlying2
 a2:=Tryz.isAgg2
 z2:=Tryz.sizeOf2
 v2:=Tryz.zeroValue2
 t3:=Tryz.underlying3
 a3:=Tryz.isAgg3
 z3:=Tryz.sizeOf3
 v3:=Tryz.zeroValue3
 t4:=Tryz.underlying4
 a4:=Tryz.isAgg4
 z4:=Tryz.sizeOf4
 v4:=Tryz.zeroValue4
 t5:=Tryz.underlying5
 a5:=Tryz.isAgg5
 z5:=Tryz.sizeOf5
 v5:=Tryz.zeroValue5
 t9:=Tryz.underlying9
 a9:=Tryz.isAgg9
 z9:=Tryz.sizeOf9
 v9:=Tryz.zeroValue9
 t20:=Tryz.underlying20
 a20:=Tryz.isAgg20
 z20:=Tryz.sizeOf20
 v20:=Tryz.zeroValue20
 t21:=Tryz.underlying21
 a21:=Tryz.isAgg21
 z21:=Tryz.sizeOf21
 v21:=Tryz.zeroValue21
 t37:=Tryz.underlying149
 a37:=Tryz.isAgg149
 z37:=Tryz.sizeOf149
 v37:=Tryz.zeroValue149
 t46:=Tryz.underlying113
 a46:=Tryz.isAgg113
 z46:=Tryz.sizeOf113
 v46:=Tryz.zeroValue113
 t51:=Tryz.underlying188
 a51:=Tryz.isAgg188
 z51:=Tryz.sizeOf188
 v51:=Tryz.zeroValue188
 t53:=Tryz.underlying176
 a53:=Tryz.isAgg176
 z53:=Tryz.sizeOf176
 v53:=Tryz.zeroValue176
 t75:=Tryz.underlying137
 a75:=Tryz.isAgg137
 z75:=Tryz.sizeOf137
 v75:=Tryz.zeroValue137
 t76:=Tryz.underlying138
 a76:=Tryz.isAgg138
 z76:=Tryz.sizeOf138
 v76:=Tryz.zeroValue138
 t85:=Tryz.underlying169
 a85:=Tryz.isAgg169
 z85:=Tryz.sizeOf169
 v85:=Tryz.zeroValue169
 t127:=Tryz.underlying192
 a127:=Tryz.isAgg192
 z127:=Tryz.sizeOf192
 v127:=Tryz.zeroValue192
 t143:=Tryz.underlying193
 a143:=Tryz.isAgg193
 z143:=Tryz.sizeOf193
 v143:=Tryz.zeroValue193
 t145:=Tryz.underlying195
 a145:=Tryz.isAgg195
 z145:=Tryz.sizeOf195
 v145:=Tryz.zeroValue195
 t167:=Tryz.underlying168
 a167:=Tryz.isAgg168
 z167:=Tryz.sizeOf168
 v167:=Tryz.zeroValue168
 t168:=Tryz.underlying171
 a168:=Tryz.isAgg171
 z168:=Tryz.sizeOf171
 v168:=Tryz.zeroValue171
 t171:=Tryz.underlying175
 a171:=Tryz.isAgg175
 z171:=Tryz.sizeOf175
 v171:=Tryz.zeroValue175
 t173:=Tryz.underlying179
 a173:=Tryz.isAgg179
 z173:=Tryz.sizeOf179
 v173:=Tryz.zeroValue179
 t175:=Tryz.underlying181
 a175:=Tryz.isAgg181
 z175:=Tryz.sizeOf181
 v175:=Tryz.zeroValue181
 t210:=Tryz.underlying184
 a210:=Tryz.isAgg184
 z210:=Tryz.sizeOf184
 v210:=Tryz.zeroValue184
 t212:=Tryz.underlying187
 a212:=Tryz.isAgg187
 z212:=Tryz.sizeOf187
 v212:=Tryz.zeroValue187
 t213:=Tryz.underlying189
 a213:=Tryz.isAgg189
 z213:=Tryz.sizeOf189
 t232:=Tryz.underlying197
 a232:=Tryz.isAgg197
 z232:=Tryz.sizeOf197
 v232:=Tryz.zeroValue197
 t233:=Tryz.underlying198
 a233:=Tryz.isAgg198
 z233:=Tryz.sizeOf198
 v233:=Tryz.zeroValue198
 g15:=by kernel_rfl
 g16:=by kernel_rfl
 g17:=by kernel_rfl
 g18:=by kernel_rfl
 g19:=by kernel_rfl
 t80:=Tryz.underlying204
 a80:=Tryz.isAgg204
 z80:=Tryz.sizeOf204
 v80:=Tryz.zeroValue204
 i0:=by kernel_rfl
 i2:=by kernel_rfl
 i3:=by kernel_rfl
 i4:=by kernel_rfl
 i5:=by kernel_rfl
 i9:=by kernel_rfl
 i20:=by kernel_rfl
 i21:=by kernel_rfl
 i37:=by kernel_rfl
 i46:=by kernel_rfl
 i51:=by kernel_rfl
 i53:=by kernel_rfl
 i75:=by kernel_rfl
 i76:=by kernel_rfl
 i80:=by kernel_rfl
 i85:=by kernel_rfl
 i127:=by kernel_rfl
 i143:=by kernel_rfl
 i145:=by kernel_rfl
 i167:=by kernel_rfl
 i168:=by kernel_rfl
 i171:=by kernel_rfl
 i173:=by kernel_rfl
 i175:=by kernel_rfl
 i210:=by kernel_rfl
 i212:=by kernel_rfl
 i232:=by kernel_rfl
 i233:=by kernel_rfl
 m15:=by kernel_rfl
 m16:=by kernel_rfl
 m17:=by kernel_rfl
 m18:=by kernel_rfl
 m19:=by kernel_rfl
 c0:=by kernel_rfl
 c2:=by kernel_rfl
 c3:=by kernel_rfl
 c4:=by kernel_rfl
 c5:=by kernel_rfl
 c9:=by kernel_rfl
 c20:=by kernel_rfl
 c21:=by kernel_rfl
 c37:=by kernel_rfl
 c46:=by kernel_rfl
 c51:=by kernel_rfl
 c53:=by kernel_rfl
 c75:=by kernel_rfl
 c76:=by kernel_rfl
 c80:=by kernel_rfl
 c85:=by kernel_rfl
 c127:=by kernel_rfl
 c143:=by kernel_rfl
 c145:=by kernel_rfl
 c167:=by kernel_rfl
 c168:=by kernel_rfl
 c171:=by kernel_rfl
 c173:=by kernel_rfl
 c175:=by kernel_rfl
 c210:=by kernel_rfl
 c212:=by kernel_rfl
 c213:=by kernel_rfl
 c232:=by kernel_rfl
 c233:=by kernel_rfl }
open Go.RowKit in
theorem Tryz.strconv_Atoi_ok (s:ByteArray) (hmax:s.size≤9223372036854775806) (v:Int) (h:Lib.atoiAll s.data.toList=.ok v) (w:World) :
  Calls Tryz.prog 81 #[.string s] w fun e w'=>e=.returned (.tuple #[.int .i64 v,.nilIface])∧(w'=w∨∃ t,w'=Lib.bytesWorld w 5 t):=Any.strconv_Atoi_ok Tryz.laysC172 s hmax v h w
open Go.RowKit in
theorem Tryz.strconv_Atoi_syntax_var (s : ByteArray) (hlim : s.size ≤ 281474976710656) (h : ∀ v, Lib.atoiAll s.data.toList ≠ .ok v) (h2 : Lib.atoiAll s.data.toList ≠ .range) (tp : TypeId) (p : Value) (w : World) (hvar : w.var? Tryz.prog "strconv.ErrSyntax" = some #[.iface tp p]) :
  Calls Tryz.prog 81 #[.string s] w fun e w'=>∃ N,e=.returned (.tuple #[.int .i64 0,.iface 171 (.pointer (some ⟨N,0,none⟩))])∧w.heap.size≤N∧w'.heap[N]?=some (.cells #[.string ⟨#[65,116,111,105]⟩,.string s,.iface tp p] 184 (0,0))∧Below w.heap.size w w':=Any.strconv_Atoi_syntax_var Tryz.laysC172 s hlim (by cases hq:Lib.atoiAll s.data.toList with | ok v=>exact absurd hq (h v) | range=>exact absurd hq h2 | _=>rfl) tp p w hvar
open Go.RowKit in
theorem Tryz.strconv_Atoi_range_var (s : ByteArray) (hlim : s.size ≤ 281474976710656) (h : Lib.atoiAll s.data.toList = .range) (tp : TypeId) (p : Value) (w : World) (hvar : w.var? Tryz.prog "strconv.ErrRange" = some #[.iface tp p]) :
  Calls Tryz.prog 81 #[.string s] w fun e w'=>∃ N,e=.returned (.tuple #[.int .i64 (Lib.atoiSat s.data.toList),.iface 171 (.pointer (some ⟨N,0,none⟩))])∧w.heap.size≤N∧w'.heap[N]?=some (.cells #[.string ⟨#[65,116,111,105]⟩,.string s,.iface tp p] 184 (0,0))∧Below w.heap.size w w':=Any.strconv_Atoi_range_var Tryz.laysC172 s hlim h tp p w hvar
end Go.Proofs
