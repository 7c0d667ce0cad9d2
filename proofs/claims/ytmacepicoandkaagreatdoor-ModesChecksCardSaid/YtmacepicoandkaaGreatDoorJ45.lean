/- The document's Texts: are two lists of texts the same: the walk. Pairs of modes, read; items and modes in live. live of the laws of modes: the walk. The law ModesChecks: the plain law. -/
import Derived.Lib.Hide
import Derived.Test.YtmacepicoandkaaGreatDoorJ3
import Derived.Test.YtmacepicoandkaaGreatDoorJ4
import Derived.Test.YtmacepicoandkaaGreatDoorJ30
import Derived.Test.YtmacepicoandkaaGreatDoorJ32
import Derived.Test.YtmacepicoandkaaGreatDoorJ41
import Derived.Test.YtmacepicoandkaaGreatDoorJ42
import Derived.Test.YtmacepicoandkaaGreatDoorJ43
import Derived.Test.YtmacepicoandkaaGreatDoorJ44
set_option linter.unusedVariables false
set_option linter.unusedSimpArgs false
namespace Go.Proofs.YtmacepicoandkaaGreatDoor
open Go.RowKit Go.Shelf
set_option maxRecDepth 100000 in
set_option maxHeartbeats 2000000 in
theorem rTexts_any (A B:List ByteArray) (u v:Value) (w:World) (hAl:A.length≤1000000) (hBl:B.length≤1000000) (hu:Sl strC 1 w u A) (hv:Sl strC 1 w v B) :
  Calls Tryz.prog 11 #[u,v] w fun r w'=>r=.returned (.bool (decide (A=B)))∧Below w.heap.size w w':=by
 obtain⟨a,c,rfl,hc,hx⟩:=hu.form
 obtain⟨a2,c2,rfl,hc2,hx2⟩:=hv.form
 obtain⟨n,hn⟩ : ∃ n,n=A.length:=⟨_,rfl⟩
 obtain⟨m,hm⟩ : ∃ m,m=B.length:=⟨_,rfl⟩
 have HX:=Lib.hid hx
 have HX2:=Lib.hid hx2
 rw[← hn] at hAl hc ⊢
 rw[← hm] at hBl hc2 ⊢
 have HN:=Lib.hid hn
 have HM:=Lib.hid hm
 obtain⟨nb,hnb⟩ : ∃ nb,nb=w.heap.size:=⟨_,rfl⟩
 have HNB:=Lib.hid hnb
 clear hu hv hx hx2 hn hm hnb
 by_cases hl:n=m
 ·subst hl
  have e0:((n:Int) != (n:Int))=false:=by simp
  go_enter Tryz.func11,Tryz.ntmps11
  go_wp2_with fail
  go_loopw [5] (fun i wr=>∃ t:Nat,i=.int .i64 t∧t≤n∧(∀ j,j<t→A[j]?=B[j]?)∧Below nb w wr) (fun i _=>n - (intOf i).toNat)
  case atStart=>exact⟨0,rfl,Nat.zero_le _,(fun j h=>by omega),Below.refl _ _⟩
  case round =>
   obtain⟨t,rfl,ht,hok,hB⟩:=hrel
   have HOK:=Lib.hid hok
   have HB:Hid (Below w.heap.size w wr):=by show Below _ _ _;rw[← HNB.out];exact hB
   clear hok hB
   by_cases hlt:t<n
   ·obtain⟨x,hx⟩ : ∃ x,A[t]?=some x:=⟨_,List.getElem?_eq_getElem (by have:=HN.out;omega)⟩
    obtain⟨y,hy⟩ : ∃ y,B[t]?=some y:=⟨_,List.getElem?_eq_getElem (by have:=HM.out;omega)⟩
    obtain⟨b,o,rfl,hcell⟩:=HX.out _ HB.out t x hx
    obtain⟨b2,o2,rfl,hcell2⟩:=HX2.out _ HB.out t y hy
    have c0:=hcell 0 (.string x) rfl
    have d0:=hcell2 0 (.string y) rfl
    simp only[Nat.mul_one,Nat.add_zero] at c0 d0
    obtain⟨d,hd⟩ : ∃ d,d=(x.toList != y.toList):=⟨_,rfl⟩
    have hd2:d=decide (x≠y):=by
     rw[hd,Bool.eq_iff_iff,bne_iff_ne,decide_eq_true_eq,Lib.toList_data,Lib.toList_data]
     exact⟨fun h e=>h (by rw[e]),fun h e=>h (bytes_ext e)⟩
    have HXX:=Lib.hid hx
    have HYY:=Lib.hid hy
    have HD:=Lib.hid hd2
    have hdd:=hd.symm
    have hde:(x.toList==y.toList) = !d:=by rw[hd];simp only[bne,Bool.not_not]
    have htn:(t:Int)<(n:Int):=by omega
    have ht0:(0:Int)≤(t:Int):=by omega
    clear hx hy hd hd2 hcell hcell2
    cases d
    ·simp only[Bool.not_false] at hde
     have HALL:Hid (∀ j,j<t+1→A[j]?=B[j]?):=fun j hj=>by
      by_cases h:j=t
      ·subst h
       rw[HXX.out,HYY.out]
       have h1:=of_decide_eq_false HD.out.symm
       rw[Classical.not_not.1 h1]
      ·exact HOK.out j (by omega)
     go_wp2_with fail
     go_quiet (fail)
     have HB2:=Lib.hid (below_drawn HB.out nq)
     clear c0 d0
     generalize wr.drewN nq=wq at *
     go_wp2_with fail
     go_roundw
     case rel=>exact⟨t+1,by go_num,by omega,HALL.out,by rw[HNB.out];exact HB2.out⟩
     case measure=>simp[intOf];omega
    ·simp only[Bool.not_true] at hde
     have HF:Hid (decide (A=B)=false):=by
      show _=_
      rw[decide_eq_false_iff_not]
      intro h
      have h1:=HXX.out
      rw[h,HYY.out] at h1
      exact of_decide_eq_true HD.out.symm (Option.some.inj h1).symm
     go_wp2_with fail
     go_quiet (fail)
     have HB2:=Lib.hid (below_drawn HB.out nq)
     clear c0 d0
     generalize wr.drewN nq=wq at *
     go_wp2_with fail
     go_ret
     exact⟨by rw[HF.out];rfl,HB2.out⟩
   ·have hte:t=n:=by omega
    subst hte
    have HF:Hid (decide (A=B)=true):=by
     show _=_
     rw[decide_eq_true_iff]
     apply List.ext_getElem?
     intro j
     rcases Nat.lt_or_ge j t with h | h
     ·exact HOK.out j h
     ·rw[List.getElem?_eq_none (by have:=HN.out;omega),List.getElem?_eq_none (by have:=HM.out;omega)]
    go_wp2_with fail
    go_ret
    exact⟨by rw[HF.out];rfl,HB.out⟩
 ·have e0:((n:Int) != (m:Int))=true:=by rw[bne_iff_ne];omega
  have HF:Hid (decide (A=B)=false):=by
   show _=_
   rw[decide_eq_false_iff_not]
   intro h
   exact hl (by rw[HN.out,HM.out,h])
  clear hl
  go_enter Tryz.func11,Tryz.ntmps11
  go_wp2_with fail
  go_ret
  exact⟨by rw[HF.out];rfl,Below.refl _ _⟩
end Go.Proofs.YtmacepicoandkaaGreatDoor
namespace Go.Proofs.YtmacepicoandkaaGreatDoor
open Go.RowKit Go.Shelf Tx Px
def IsP (Q:Nat×Nat→Int→Value→World→Prop) (W:World) (c:List Value) (p:Nat×Nat):Prop :=
 ∃ (vd:Int) (a:Option Addr) (n k:Nat),c=[.int .i64 p.1,.int .i64 p.2,.int .i64 vd,.slice a n k]∧Q p vd (.slice a n k) W∧∀ ad,a=some ad→ad.block<W.heap.size
theorem keepsP {Q:Nat×Nat→Int→Value→World→Prop} (hQ:QKeep Q):Keeps (IsP Q):=fun W W' c p ⟨vd,a,n,k,h1,h2,h3⟩ hb =>
 ⟨vd,a,n,k,h1,hQ _ _ _ _ _ h2 hb.size (fun a' n' c' e=>by cases e;exact hb.block _ (h3 _ rfl)),fun ad had=>Nat.lt_of_lt_of_le (h3 ad had) hb.size⟩
theorem PRow.sg {T:Nat} {Q:Nat×Nat→Int→Value→World→Prop} {base:Nat} {W:World} {v:Value} {L:List (Nat×Nat)} (h:PRow T Q base W v L):Sg 4 (IsP Q) W v L:=by
 obtain⟨cs,h1,h2,h3,h4⟩:=h
 refine Og.sg (T:=T) (base:=base) ⟨cs,h1,h2,h3,fun i c p hc hp=>?_⟩
 obtain⟨vd,a,n,k,e,hq,ha⟩:=h4 i c p hc hp
 exact⟨vd,a,n,k,e,hq,fun ad had=>(ha ad had).2.1⟩
theorem lit2I {w:World} {c1 c2:List Value} {x y:It} (h1:IsIt w c1 x) (h2:IsIt w c2 y):Sg 6 IsIt (w.alloc (.cells (c1++c2).toArray 56)) (.slice (some ⟨w.heap.size,0,none⟩) 2 2) [x,y]:=by
 have nb:=(Below.refl w.heap.size w).alloc (Nat.le_refl _) (.cells (c1++c2).toArray 56)
 have hb:=heap_alloc_new w (.cells (c1++c2).toArray 56)
 have l1:c1.length=6:=by obtain⟨_,_,_,_,_,_,_,_,rfl,_⟩:=h1;rfl
 have l2:c2.length=6:=by obtain⟨_,_,_,_,_,_,_,_,rfl,_⟩:=h2;rfl
 refine⟨[c1,c2],Or.inr ⟨w.heap.size,0,2,rfl,Nat.le_refl _,by rw[World.size_alloc];omega,fun i x hi j u hu=>?_⟩,rfl,fun i c x hc hx=>?_⟩
 ·change x[j]?=some u at hu
  have hj:=(List.getElem?_eq_some_iff.1 hu).1
  match i with
  | 0 =>
   simp at hi;subst hi
   unfold World.cell?;rw[hb]
   have:(c1++c2)[j]?=some u:=by rw[List.getElem?_append_left hj];exact hu
   simpa using this
  | 1 =>
   simp at hi;subst hi
   unfold World.cell?;rw[hb]
   have:(c1++c2)[6+j]?=some u:=by rw[List.getElem?_append_right (by omega),l1];simpa using hu
   simpa using this
  | i+2=>simp at hi
 ·match i with
  | 0=>simp at hc hx;subst hc hx;exact keepsIt _ _ _ _ h1 nb
  | 1=>simp at hc hx;subst hc hx;exact keepsIt _ _ _ _ h2 nb
  | i+2=>simp at hc
set_option maxRecDepth 100000 in
set_option maxHeartbeats 2000000 in
theorem mode_any (nm s:ByteArray) (hs:s.size≤100000) (F:Fo) (hr:RdS s (.ok F)) (w:World) :
  Calls Tryz.prog 20 #[.string nm,.string s] w fun r w'=>∃ a c,r=.returned (.agg #[.int .i64 4,.string nm,.int .i64 0,.slice a (F.flat 0).length c,.slice none 0 0,.slice none 0 0])∧IsE w' (.slice a (F.flat 0).length c) (F.flat 0)∧Below w.heap.size w w':=by
 have hrd:=fun W=>rRead_any s hs (.ok F) hr W
 obtain⟨rb,hrb⟩ : ∃ rb,rb=w.heap.size:=⟨_,rfl⟩
 have HRB:=Lib.hid hrb
 clear hrb
 go_enter Tryz.func20,Tryz.ntmps20
 go_wp2_with fail
 have hk:=Blk.new w #[.int .i64 0,.string ⟨#[]⟩,.int .i64 0,.slice none 0 0,.slice none 0 0,.slice none 0 0] 56
 have hb0:=(Below.refl w.heap.size w).alloc (Nat.le_refl _) (.cells #[.int .i64 0,.string ⟨#[]⟩,.int .i64 0,.slice none 0 0,.slice none 0 0,.slice none 0 0] 56)
 have hz0:(w.alloc (.cells #[.int .i64 0,.string ⟨#[]⟩,.int .i64 0,.slice none 0 0,.slice none 0 0,.slice none 0 0] 56)).heap.size=w.heap.size+1:=by simp
 rw[← HRB.out] at hk ⊢
 generalize w.alloc (.cells #[.int .i64 0,.string ⟨#[]⟩,.int .i64 0,.slice none 0 0,.slice none 0 0,.slice none 0 0] 56)=W0 at hk hb0 hz0 ⊢
 refine (hrd _).mono ?_
 rintro r w1 ⟨hb1,v1,rfl,ho1⟩
 obtain⟨a1,c1,hv1,-⟩:=ho1.isE.form
 subst hv1
 obtain⟨n,hn⟩ : ∃ n,n=(F.flat 0).length:=⟨_,rfl⟩
 rw[← hn] at ho1 ⊢
 have HN:=Lib.hid hn
 have HO:=Lib.hid ho1
 have HZ:Hid (W0.heap.size=rb+1):=by show _=_;rw[HRB.out];exact hz0
 have HB:Hid (Below w.heap.size w w1):=hb0.trans (hb1.mono (by rw[hz0];omega))
 have HK:=Lib.hid (hk.below hb1)
 have h1s:rb<w1.heap.size:=HK.out.lt
 clear hk hb0 hz0 hb1 ho1 hn hrd
 have hk2:=HK.out
 have k:∀ i v,(#[Value.int .i64 0,.string ⟨#[]⟩,.int .i64 0,.slice none 0 0,.slice none 0 0,.slice none 0 0] : Array Value)[i]?=some v→w1.cell? ⟨rb,i,none⟩=some v:=fun i v hv=>hk2.c hv
 have k0:=k 0 _ rfl
 have k1:=k 1 _ rfl
 have k2:=k 2 _ rfl
 have k3:=k 3 _ rfl
 have k4:=k 4 _ rfl
 have k5:=k 5 _ rfl
 have fz:=hk2.free
 clear k hk2
 go_wp2_with fail
 have hkF:Blk ((((((w1.setCell ⟨rb,0,none⟩ (.int .i64 4)).setCell ⟨rb,1,none⟩ (.string nm)).setCell ⟨rb,2,none⟩ (.int .i64 0)).setCell ⟨rb,3,none⟩ (.slice a1 n c1)).setCell ⟨rb,4,none⟩ (.slice none 0 0)).setCell ⟨rb,5,none⟩ (.slice none 0 0)) rb #[.int .i64 4,.string nm,.int .i64 0,.slice a1 n c1,.slice none 0 0,.slice none 0 0] 56:=(((((HK.out.seti 0 _).seti 1 _).seti 2 _).seti 3 _).seti 4 _).seti 5 _
 have hrw:w.heap.size≤rb:=by rw[HRB.out];exact Nat.le_refl _
 have hbF:Below w.heap.size w ((((((w1.setCell ⟨rb,0,none⟩ (.int .i64 4)).setCell ⟨rb,1,none⟩ (.string nm)).setCell ⟨rb,2,none⟩ (.int .i64 0)).setCell ⟨rb,3,none⟩ (.slice a1 n c1)).setCell ⟨rb,4,none⟩ (.slice none 0 0)).setCell ⟨rb,5,none⟩ (.slice none 0 0)):=(((((HB.out.setCell hrw _).setCell hrw _).setCell hrw _).setCell hrw _).setCell hrw _).setCell hrw _
 have heF:IsE ((((((w1.setCell ⟨rb,0,none⟩ (.int .i64 4)).setCell ⟨rb,1,none⟩ (.string nm)).setCell ⟨rb,2,none⟩ (.int .i64 0)).setCell ⟨rb,3,none⟩ (.slice a1 n c1)).setCell ⟨rb,4,none⟩ (.slice none 0 0)).setCell ⟨rb,5,none⟩ (.slice none 0 0)) (.slice a1 n c1) (F.flat 0):=by
  have h0:=HO.out
  have h1:OwnE W0.heap.size ((((((w1.setCell ⟨rb,0,none⟩ (.int .i64 4)).setCell ⟨rb,1,none⟩ (.string nm)).setCell ⟨rb,2,none⟩ (.int .i64 0)).setCell ⟨rb,3,none⟩ (.slice a1 n c1)).setCell ⟨rb,4,none⟩ (.slice none 0 0)).setCell ⟨rb,5,none⟩ (.slice none 0 0)) (.slice a1 n c1) (F.flat 0):=row_kept h0 (fun g hg _ _=>by
   have h2:g≠rb:=by have:=HZ.out;omega
   rw[Below.heap_setCell _ _ _ _ h2,Below.heap_setCell _ _ _ _ h2,Below.heap_setCell _ _ _ _ h2,Below.heap_setCell _ _ _ _ h2,Below.heap_setCell _ _ _ _ h2,Below.heap_setCell _ _ _ _ h2])
  exact h1.isE
 have hs1:((((((w1.setCell ⟨rb,0,none⟩ (.int .i64 4)).setCell ⟨rb,1,none⟩ (.string nm)).setCell ⟨rb,2,none⟩ (.int .i64 0)).setCell ⟨rb,3,none⟩ (.slice a1 n c1)).setCell ⟨rb,4,none⟩ (.slice none 0 0)).setCell ⟨rb,5,none⟩ (.slice none 0 0)).heap.size=w1.heap.size:=by simp
 generalize ((((((w1.setCell ⟨rb,0,none⟩ (.int .i64 4)).setCell ⟨rb,1,none⟩ (.string nm)).setCell ⟨rb,2,none⟩ (.int .i64 0)).setCell ⟨rb,3,none⟩ (.slice a1 n c1)).setCell ⟨rb,4,none⟩ (.slice none 0 0)).setCell ⟨rb,5,none⟩ (.slice none 0 0))=WF at hkF hbF heF hs1 ⊢
 have hbA:=(Below.refl WF.heap.size WF).alloc (Nat.le_refl _) (.cells #[.int .i64 0,.int .i64 0] 91)
 have hkA:=hkF.below hbA
 have heA:=Sl.below heF hbA
 have hbB:=below_next hbF hbA
 generalize WF.alloc (.cells #[.int .i64 0,.int .i64 0] 91)=WA at hkA heA hbB ⊢
 have q0:WA.cell? ⟨rb,0,none⟩=some _:=hkA.c rfl
 have q1:WA.cell? ⟨rb,1,none⟩=some _:=hkA.c rfl
 have q2:WA.cell? ⟨rb,2,none⟩=some _:=hkA.c rfl
 have q3:WA.cell? ⟨rb,3,none⟩=some _:=hkA.c rfl
 have q4:WA.cell? ⟨rb,4,none⟩=some _:=hkA.c rfl
 have q5:WA.cell? ⟨rb,5,none⟩=some _:=hkA.c rfl
 exact bodyPost_ret (v:=.agg #[.int .i64 4,.string nm,.int .i64 0,.slice a1 n c1,.slice none 0 0,.slice none 0 0]) (by simp[results,Tryz.results20,go_sem,q0,q1,q2,q3,q4,q5]) rfl ⟨a1,c1,by rw[HN.out],by rw[← HN.out];exact heA,hbB⟩
def lvL:List It:=[⟨4,⟨#[109]⟩,0,(Fo.tr 3 0 ⟨#[98]⟩ .no .no).flat 0⟩,⟨4,⟨#[110]⟩,0,(Fo.tr 6 0 ByteArray.empty (.tr 4 0 ByteArray.empty (.tr 3 0 ⟨#[98]⟩ .no .no) (.tr 12 0 ByteArray.empty (.tr 3 0 ⟨#[97]⟩ .no (.tr 1 1 ByteArray.empty .no .no)) .no)) .no).flat 0⟩]
def lv22B:Bool :=
 (everyL lvL).all mayB&&knownL lvL&&(splitR (everyL lvL)).1.length==2&&(asmL lvL).length==0&&(reqL lvL).length==2 &&
 satP [] ((overL lvL).drop 0) (Dd.rowList 2 0)&&decide (costL 2 ([]++(overL lvL).drop 0)<900)&&(List.range 4).all (fun j=>!satP (pairE lvL (0,1)) [] (Dd.rowList 2 j))&&decide (costL 2 (pairE lvL (0,1)++[])<900)
theorem lv22:lv22B=true:=by decide +kernel
end Go.Proofs.YtmacepicoandkaaGreatDoor
namespace Go.Proofs.YtmacepicoandkaaGreatDoor
open Go.RowKit Go.Shelf Tx Px
def lvM1:ByteArray:=⟨#[98]⟩
def lvM2:ByteArray:=⟨#[110,111,116,32,98,32,97,110,100,32,97,32,60,32,49]⟩
def fM1:Fo:=.tr 3 0 ⟨#[98]⟩ .no .no
def fM2:Fo:=.tr 6 0 ByteArray.empty (.tr 4 0 ByteArray.empty (.tr 3 0 ⟨#[98]⟩ .no .no) (.tr 12 0 ByteArray.empty (.tr 3 0 ⟨#[97]⟩ .no (.tr 1 1 ByteArray.empty .no .no)) .no)) .no
theorem lvM1_read:RdS lvM1 (.ok fM1):=by
 have h1:(Lx.lexS lvM1.data.toList).2=none:=by kernel_rfl
 unfold RdS
 rw[h1]
 exact⟨.ok (fM1,(toks lvM1.size (Lx.lexS lvM1.data.toList).1).length),⟨60,by kernel_rfl⟩,by kernel_rfl⟩
theorem lvM2_read:RdS lvM2 (.ok fM2):=by
 have h1:(Lx.lexS lvM2.data.toList).2=none:=by kernel_rfl
 unfold RdS
 rw[h1]
 exact⟨.ok (fM2,(toks lvM2.size (Lx.lexS lvM2.data.toList).1).length),⟨60,by kernel_rfl⟩,by kernel_rfl⟩
structure Lv22 (L:List It):Prop where
 few:L.length≤30∧∀ x∈L,x.e.length≤200
 good:¬ badL L 1000
 known:knownL L=true
 vars:(splitR (everyL L)).1.length=2
 asm:(asmL L).length=0
 req:(reqL L).length=2
 nms:nmsL L=[⟨#[109]⟩,⟨#[110]⟩]
 sat:satP [] ((overL L).drop 0) (Dd.rowList 2 0)=true
 cost:costL 2 ([]++(overL L).drop 0)<900
 pair:∀ j,j<4→satP (pairE L (0,1)) [] (Dd.rowList 2 j)=false
 cost2:costL 2 (pairE L (0,1)++[])<900
theorem lv22_ok:Lv22 lvL:=by
 have h:=lv22
 unfold lv22B at h
 simp only[Bool.and_eq_true,beq_iff_eq,decide_eq_true_eq] at h
 obtain⟨⟨⟨⟨⟨⟨⟨⟨h1,h2⟩,h3⟩,h4⟩,h5⟩,h6⟩,h7⟩,h8⟩,h9⟩:=h
 refine⟨⟨by decide +kernel,by decide +kernel⟩,?_,h2,h3,h4,h5,by decide +kernel,h6,h7,fun j hj=>?_,h9⟩
 ·rintro (h | h | h)
  ·rw[List.any_eq_true] at h
   obtain⟨e,he,h⟩:=h
   rw[List.all_eq_true.1 h1 e he] at h
   cases h
  ·omega
  ·omega
 ·simpa using List.all_eq_true.1 h8 j (List.mem_range.2 hj)
theorem Lv22.gap {L:List It} (h:Lv22 L) {ex:Int} {v:Value} {W:World} (hv:VerdQ (knownL L) (splitR (everyL L)).1.length 1000 ((overL L).take (asmL L).length) ((overL L).drop (asmL L).length) ex v W):ex=2∧SlBools W v [false,false]:=by
 rw[h.known,h.vars,h.asm] at hv
 unfold VerdQ at hv
 rw[if_pos rfl] at hv
 rcases hv with ⟨_,_,hc⟩ | ⟨h1,k,h2,h3,h4,h5⟩ | ⟨_,_,h3⟩
 ·have:=h.cost;rw[List.take_zero] at hc;omega
 ·have hk:k=0:=by
   rcases Nat.eq_zero_or_pos k with e | e
   ·exact e
   ·have:=h4 0 e;rw[List.take_zero,h.sat] at this;cases this
  subst hk
  exact⟨h1,h5⟩
 ·have:=h3 0 (by decide);rw[List.take_zero,h.sat] at this;cases this
theorem Lv22.never {L:List It} (h:Lv22 L) {vd:Int} {v:Value} {W:World} (hv:VerdQ (knownL L) (splitR (everyL L)).1.length 1000 (pairE L (0,1)) [] vd v W):vd=1:=by
 rw[h.known,h.vars] at hv
 unfold VerdQ at hv
 rw[if_pos rfl] at hv
 rcases hv with ⟨_,_,hc⟩ | ⟨h1,k,h2,h3,_⟩ | ⟨h1,_,_⟩
 ·have:=h.cost2;omega
 ·have:=h.pair k h2;rw[h3] at this;cases this
 ·exact h1
theorem lv22_start:∃ (L:List It) (e1 e2:List Nd),L=[⟨4,⟨#[109]⟩,0,e1⟩,⟨4,⟨#[110]⟩,0,e2⟩]∧fM1.flat 0=e1∧fM2.flat 0=e2∧Lv22 L:=⟨_,_,_,rfl,rfl,rfl,lv22_ok⟩
theorem lit2S (W:World) (a b:ByteArray):Sl strC 1 (W.alloc (.cells #[.string a,.string b] 9)) (.slice (some ⟨W.heap.size,0,none⟩) 2 2) [a,b] :=
 Sl.lit strC_len (fr:=(0,0)) (T:=9) (heap_alloc_new W (.cells #[.string a,.string b] 9)) (Nat.le_refl _)
set_option maxRecDepth 100000 in
set_option maxHeartbeats 4000000 in
theorem live22_any (w:World) (G:Gl w):Calls Tryz.prog 8 #[] w fun e w'=>e=.returned (.bool true)∧Below w.heap.size w w':=by
 obtain⟨L,e1,e2,hL,he1,he2,hlv⟩:=lv22_start
 have m1:=fun W=>mode_any ⟨#[109]⟩ lvM1 (by decide) fM1 lvM1_read W
 have m2:=fun W=>mode_any ⟨#[110]⟩ lvM2 (by decide) fM2 lvM2_read W
 simp only[he1] at m1
 simp only[he2] at m2
 have HL:=Lib.hid hL
 have HLV:=Lib.hid hlv
 have HG:=Lib.hid G
 have HM2:=Lib.hid m2
 clear hL he1 he2 hlv G m2
 go_enter Tryz.func8,Tryz.ntmps8
 go_wp2_with fail
 refine (m1 w).mono ?_
 rintro r w1 ⟨a1,c1,rfl,h1,b1⟩
 clear m1
 have H1:=Lib.hid h1
 have B1:=Lib.hid b1
 clear h1 b1
 go_wp2_with fail
 refine (HM2.out w1).mono ?_
 rintro r w2 ⟨a2,c2,rfl,h2,b2⟩
 have B2:=Lib.hid (below_next B1.out b2)
 have i1:IsIt w2 [.int .i64 4,.string ⟨#[109]⟩,.int .i64 0,.slice a1 e1.length c1,.slice none 0 0,.slice none 0 0] ⟨4,⟨#[109]⟩,0,e1⟩:=⟨a1,none,none,c1,0,0,0,0,rfl,Sl.below H1.out b2⟩
 have i2:IsIt w2 [.int .i64 4,.string ⟨#[110]⟩,.int .i64 0,.slice a2 e2.length c2,.slice none 0 0,.slice none 0 0] ⟨4,⟨#[110]⟩,0,e2⟩:=⟨a2,none,none,c2,0,0,0,0,rfl,h2⟩
 have hI:=lit2I i1 i2
 have hb3:=(Below.refl w2.heap.size w2).alloc (Nat.le_refl _) (.cells (([.int .i64 4,.string ⟨#[109]⟩,.int .i64 0,.slice a1 e1.length c1,.slice none 0 0,.slice none 0 0]++[.int .i64 4,.string ⟨#[110]⟩,.int .i64 0,.slice a2 e2.length c2,.slice none 0 0,.slice none 0 0] : List Value)).toArray 56)
 rw[← HL.out] at hI
 have hchk:=check_any L _ 1000 _ (HG.out.below (below_next B2.out hb3)) HLV.out.few.1 HLV.out.few.2 hI
 have HB3:=Lib.hid (below_next B2.out hb3)
 clear h2 b2 i1 i2 hI hb3
 go_wp2_with fail
 obtain⟨W3,hW3⟩ : ∃ W3,W3=w2.alloc (.cells #[.int .i64 4,.string ⟨#[109]⟩,.int .i64 0,.slice a1 e1.length c1,.slice none 0 0,.slice none 0 0,.int .i64 4,.string ⟨#[110]⟩,.int .i64 0,.slice a2 e2.length c2,.slice none 0 0,.slice none 0 0] 56):=⟨_,rfl⟩
 have hchk':Calls Tryz.prog 9 #[.slice (some ⟨w2.heap.size,0,none⟩) 2 2,.int .i64 1000] W3 (CheckPost L 1000 W3):=by rw[hW3];exact hchk
 have hb3':Below w.heap.size w W3:=by rw[hW3];exact HB3.out
 rw[← hW3]
 have HB3':=Lib.hid hb3'
 clear hchk hW3 hb3' HB3
 refine hchk'.mono ?_
 rintro r w4 ⟨hb4,er,rep,rfl,hor⟩
 obtain⟨rfl,bn,hbn,hrep⟩ : er=0∧∃ bn:Nat,(1000:Int)=(bn:Int)∧RepIs L bn W3.heap.size rep w4:=by
  rcases hor with ⟨_,h,_⟩ | ⟨h1,_,bn,h2,h3⟩
  ·exact absurd h HLV.out.good
  ·exact⟨h1,bn,h2,h3⟩
 obtain rfl:bn=1000:=by omega
 obtain⟨am,mo,ga,pa,ex,rfl,ham,hmo,hvd,hpr⟩:=hrep
 obtain⟨rfl,hga⟩:=HLV.out.gap hvd
 obtain⟨aa,ac,hfa,-,-⟩:=ham.form keepsL
 rw[HLV.out.vars] at hfa
 subst hfa
 rw[HLV.out.nms] at hmo
 obtain⟨ma,mc,hfm,-,-⟩:=hmo.form
 change mo=.slice ma 2 mc at hfm
 subst hfm
 obtain⟨gaa,gac,hfg,-⟩:=hga.form2
 change ga=.slice gaa 2 gac at hfg
 subst hfg
 rw[HLV.out.req,show prs 2=[(0,1)] from by decide] at hpr
 obtain⟨ppa,ppc,hfp,-,hpx⟩:=hpr.sg.form (keepsP (VerdQ.keeps _ _ _ _))
 change pa=.slice ppa 1 ppc at hfp
 subst hfp
 obtain⟨pb,po,pcs,rfl,⟨vd,va,vn,vc,rfl,hvd2,-⟩,hpc⟩:=hpx w4 (Below.refl _ _) 0 (0,1) rfl
 obtain rfl:=HLV.out.never hvd2
 have p1:w4.cell? ⟨pb,po+1,none⟩=some (.int .i64 1):=by have:=hpc 1 (.int .i64 1) rfl;simpa using this
 have p2:w4.cell? ⟨pb,po+2,none⟩=some (.int .i64 1):=by have:=hpc 2 (.int .i64 1) rfl;simpa using this
 have hpl:=World.block_lt_of_cell? w4 _ p1
 have HP:Hid (∀ W,Below w4.heap.size w4 W→W.cell? ⟨pb,po+1,none⟩=some (.int .i64 1)∧W.cell? ⟨pb,po+2,none⟩=some (.int .i64 1)):=fun W h=>⟨(h.cell (p:=⟨pb,po+1,none⟩) hpl).trans p1,(h.cell (p:=⟨pb,po+2,none⟩) hpl).trans p2⟩
 have HB4:=Lib.hid (below_next HB3'.out hb4)
 have HGA:=Lib.hid hga
 have HMO:=Lib.hid hmo
 clear hchk' hb4 hor hbn ham hmo hvd hga hpr hpx hpc hvd2 p1 p2 hpl
 have hb5:=(Below.refl w4.heap.size w4).alloc (Nat.le_refl _) (.cells #[.slice aa 2 ac,.slice ma 2 mc,.int .i64 2,.slice gaa 2 gac,.slice (some ⟨pb,po,none⟩) 1 ppc] 30)
 have hk5:=Blk.new w4 #[.slice aa 2 ac,.slice ma 2 mc,.int .i64 2,.slice gaa 2 gac,.slice (some ⟨pb,po,none⟩) 1 ppc] 30
 have hchk2:=check_any [] (.slice none 0 0) 1 _ (HG.out.below (below_next HB4.out hb5)) (by simp) (fun x hx=>by simp at hx) Sg.nil_
 go_upto_region 2 with fail
 obtain⟨W5,hW5⟩ : ∃ W5,W5=w4.alloc (.cells #[.slice aa 2 ac,.slice ma 2 mc,.int .i64 2,.slice gaa 2 gac,.slice (some ⟨pb,po,none⟩) 1 ppc] 30):=⟨_,rfl⟩
 obtain⟨rb,hrb⟩ : ∃ rb,rb=w4.heap.size:=⟨_,rfl⟩
 rw[← hW5] at hb5 hk5 hchk2 ⊢
 rw[← hrb] at hk5 ⊢
 have HB5:=Lib.hid hb5
 have HK5:=Lib.hid hk5
 clear hW5 hrb hb5 hk5
 go_wp2_with fail
 refine hchk2.mono ?_
 rintro r w6 ⟨hb6,er2,rep2,rfl,hor2⟩
 obtain⟨rfl,rfl⟩ : er2=1∧rep2=#[.slice none 0 0,.slice none 0 0,.int .i64 0,.slice none 0 0,.slice none 0 0]:=by
  rcases hor2 with ⟨h1,_,h3⟩ | ⟨_,h,_⟩
  ·exact⟨h1,h3⟩
  ·exact absurd (Or.inr (Or.inl (by decide))) h
 have hb7:=(Below.refl w6.heap.size w6).alloc (Nat.le_refl _) (.cells #[.slice none 0 0,.slice none 0 0,.int .i64 0,.slice none 0 0,.slice none 0 0] 30)
 have HB6:=Lib.hid hb6
 clear hchk2 hor2 hb6
 go_upto_region 3 with fail
 generalize w6.alloc (.cells #[.slice none 0 0,.slice none 0 0,.int .i64 0,.slice none 0 0,.slice none 0 0] 30)=W7 at hb7 ⊢
 have hb57:=below_next HB6.out hb7
 obtain⟨z0,z1,z2,z3,z4⟩:=five_cells (HK5.out.below hb57)
 have hb47:=below_next HB5.out hb57
 obtain⟨y1,y2⟩:=HP.out _ hb47
 have HB47:=Lib.hid hb47
 clear hb57 hb47
 have hb8:=(Below.refl W7.heap.size W7).alloc (Nat.le_refl _) (.cells #[.bool false,.bool false] 4)
 have hsm:=same20_any _ (.slice gaa 2 gac) (.slice (some ⟨W7.heap.size,0,none⟩) 2 2) [false,false] [false,false] ((HGA.out.below HB47.out).below hb8) (lit2B W7 false false) (by decide)
 go_wp2_with fail
 clear z0 z1 z2 z3 z4 y1 y2
 refine hsm.mono ?_
 rintro r w9 ⟨rfl,hb9⟩
 have hb59:=below_next HB6.out (below_next (by assumption:Below w6.heap.size w6 W7) (below_next hb8 hb9))
 obtain⟨z0,z1,z2,z3,z4⟩:=five_cells (HK5.out.below hb59)
 have hb49:=below_next HB5.out hb59
 obtain⟨y1,y2⟩:=HP.out _ hb49
 have HB49:=Lib.hid hb49
 have hb10:=(Below.refl w9.heap.size w9).alloc (Nat.le_refl _) (.cells #[.string ⟨#[109]⟩,.string ⟨#[110]⟩] 9)
 have htx:=rTexts_any [⟨#[109]⟩,⟨#[110]⟩] [⟨#[109]⟩,⟨#[110]⟩] (.slice ma 2 mc) (.slice (some ⟨w9.heap.size,0,none⟩) 2 2) _ (by simp) (by simp) (Sl.below (Sl.below HMO.out hb49) hb10) (lit2S w9 _ _)
 clear hsm hb8 hb9 hb59 hb49
 go_wp2_with fail
 refine htx.mono ?_
 rintro r w11 ⟨rfl,hb11⟩
 have HB11:=Lib.hid (below_next (below_next HB4.out HB49.out) (below_next hb10 hb11))
 clear htx hb10 hb11
 go_wp2_with fail
 go_ret
 exact⟨rfl,HB11.out⟩
end Go.Proofs.YtmacepicoandkaaGreatDoor
namespace Go.Proofs.YtmacepicoandkaaGreatDoor
open Go.RowKit Go.Shelf Tx
def VPair (sure:Bool) (W W':World) (ex fx:Int) (ga gb:Value):Prop :=
 ∃ l1 l2:List Bool,SlBools W ga l1∧SlBools W' gb l2∧(ex=fx→l1=l2)∧(ex≠2→l1=[])∧(ex=fx∨(ex=3∧sure=false)∨fx=3)∧l1.length≤30∧l2.length≤30
theorem verd_list {vars bud:Nat} {A B:List (List Nd)} {ex:Int} {v:Value} {W:World} (hv:vars≤30) (h:VerdIs vars bud A B ex v W):∃ l,SlBools W v l∧(ex≠2→l=[])∧l.length≤30:=by
 rcases h with ⟨h1,h2,_⟩ | ⟨h1,k,_,_,_,h5⟩ | ⟨h1,h2,_⟩
 ·exact⟨[],Or.inl ⟨h2,rfl⟩,fun _=>rfl,by simp⟩
 ·exact⟨_,h5,fun q=>absurd h1 q,by simp[Dd.rowList];omega⟩
 ·exact⟨[],Or.inl ⟨h2,rfl⟩,fun _=>rfl,by simp⟩
theorem first_list {vars:Nat} {φ:List Bool→Bool} {b:Bool} {v:Value} {W:World} (hv:vars≤30) (h:FirstIs vars φ b v W):∃ l,SlBools W v l∧l.length≤30:=by
 rcases h with ⟨_,h2,_⟩ | ⟨_,k,_,_,_,h5⟩
 ·exact⟨[],Or.inl ⟨h2,rfl⟩,by simp⟩
 ·exact⟨_,h5,by simp[Dd.rowList];omega⟩
theorem vpair {l:List It} {sure:Bool} {bud:Nat} {A B:List (List Nd)} {φ:List Bool→Bool} {ex fx:Int} {ga gb:Value} {W W':World}
  (hv30:knownL l=true→(splitR (everyL l)).1.length≤30) (hφ:knownL l=true→∀ j,φ (Dd.rowList (splitR (everyL l)).1.length j)=satP A B (Dd.rowList (splitR (everyL l)).1.length j))
  (hcost:sure=true→knownL l=true→2+costL (splitR (everyL l)).1.length (A++B)<bud)
  (h:VerdQ (knownL l) (splitR (everyL l)).1.length bud A B ex ga W) (k:RefV (rKnown l) (splitR (everyL l)).1.length φ fx gb W'):VPair sure W W' ex fx ga gb:=by
 unfold VerdQ at h
 unfold RefV at k
 cases hk:knownL l with
 | false =>
  rw[hk,if_neg (by decide)] at h
  have hr:rKnown l=false:=by unfold rKnown;rw[hk];rfl
  rw[hr,if_neg (by decide)] at k
  exact⟨[],[],Or.inl ⟨h.2,rfl⟩,Or.inl ⟨k.2,rfl⟩,fun _=>rfl,fun _=>rfl,Or.inr (Or.inr k.1),by simp,by simp⟩
 | true =>
  rw[hk,if_pos rfl] at h
  cases hr:rKnown l with
  | false =>
   rw[hr,if_neg (by decide)] at k
   obtain⟨l1,g1,g2,g3⟩:=verd_list (hv30 hk) h
   exact⟨l1,[],g1,Or.inl ⟨k.2,rfl⟩,fun e=>g2 (by rw[e,k.1];decide),g2,Or.inr (Or.inr k.1),g3,by simp⟩
  | true =>
   rw[hr,if_pos rfl] at k
   obtain⟨b,k1,k2⟩:=k
   rcases verd_first (hφ hk) h k2 with ⟨h1,h2,h3⟩ | ⟨h1,l0,g1,g2,g3,g4⟩
   ·obtain⟨l2,q1,q2⟩:=first_list (hv30 hk) k2
    have hs:sure=false:=by
     cases hs:sure with
     | false=>rfl
     | true=>have:=hcost hs hk;omega
    refine⟨[],l2,Or.inl ⟨h2,rfl⟩,q1,fun e=>?_,fun _=>rfl,Or.inr (Or.inl ⟨h1,hs⟩),by simp,q2⟩
    rw[h1,k1] at e
    cases b <;> simp at e
   ·have h30:=hv30 hk
    exact⟨l0,l0,g1,g2,fun _=>rfl,fun q=>g4 (by
     cases b with
     | false=>rfl
     | true=>exact absurd h1 q),Or.inl (by rw[h1,k1]),by omega,by omega⟩
theorem mem_sum {a:Nat} {D:List Nat} (h:a∈D):a≤D.sum:=by
 induction D with
 | nil=>simp at h
 | cons b D ih =>
  rw[List.sum_cons]
  rcases List.mem_cons.1 h with rfl | h
  ·omega
  ·have:=ih h;omega
theorem sum_two (L:List Nat) (n i j:Nat) (hij:i<j) (hj:n+j<L.length):(L.take n).sum+L.getD (n+i) 0+L.getD (n+j) 0≤L.sum:=by
 have h1:L.sum=(L.take n).sum+(L.drop n).sum:=by rw[← List.sum_append,List.take_append_drop]
 have h2:∀ (D:List Nat) (i j:Nat),i<j→j<D.length→D.getD i 0+D.getD j 0≤D.sum:=by
  intro D
  induction D with
  | nil=>intro i j _ h;simp at h
  | cons a D ih =>
   intro i j hij hj
   obtain⟨j',rfl⟩ : ∃ j',j=j'+1:=⟨j - 1,by omega⟩
   simp only[List.length_cons] at hj
   cases i with
   | zero =>
    simp only[List.getD_cons_zero,List.getD_cons_succ,List.sum_cons]
    have h3:D.getD j' 0≤D.sum:=by
     have hm:D.getD j' 0∈D:=by rw[List.getD_eq_getElem?_getD,List.getElem?_eq_getElem (by omega)];exact List.getElem_mem _
     exact mem_sum hm
    omega
   | succ i' =>
    simp only[List.getD_cons_succ,List.sum_cons]
    have:=ih i' j' (by omega) (by omega)
    omega
 have h3:=h2 (L.drop n) i j hij (by rw[List.length_drop];omega)
 have e1:∀ k,(L.drop n).getD k 0=L.getD (n+k) 0:=fun k=>by rw[List.getD_eq_getElem?_getD,List.getD_eq_getElem?_getD,List.getElem?_drop]
 rw[e1,e1] at h3
 omega
theorem sum_le_map {α β:Type} (f:α→Nat) (g:β→Nat):∀ (L:List α) (M:List β),L.length=M.length→(∀ (k:Nat) (a:α) (b:β),L[k]?=some a→M[k]?=some b→f a≤g b)→(L.map f).sum≤(M.map g).sum
 | [],[],_,_=>by simp
 | a :: L,b :: M,hl,h=>by
  have h1:=h 0 a b rfl rfl
  have h2:=sum_le_map f g L M (by simpa using hl) (fun k a b ha hb=>h (k+1) a b (by simpa using ha) (by simpa using hb))
  simp only[List.map_cons,List.sum_cons];omega
 | [],_ :: _,hl,_=>by simp at hl
 | _ :: _,[],hl,_=>by simp at hl
theorem out_len {l:List (List Nd)} (h:(splitR l).2.2=0) (k:Nat) (o e:List Nd) (hk:(splitR l).2.1[k]?=some o) (he:l[k]?=some e):o.length≤e.length:=by
 obtain⟨g1,g2,g3⟩:=splitR_ok h
 rw[g3] at hk
 simp only at hk
 rw[List.getElem?_map,splitT_out l k e he] at hk
 simp only[Option.map_some,Option.some.injEq] at hk
 subst hk
 rw[Fo.flat_len]
 refine Nat.le_trans (Ux.cut_size _ _) (Nat.le_of_eq (may_size ?_))
 exact g1 e (List.mem_of_getElem? he)
structure FewP (l:List It):Prop where
 len:l.length≤12
 each:∀ x∈l,x.e.length≤100
theorem FewP.outs {l:List It} (h:FewP l) (hk:knownL l=true):(splitR (everyL l)).2.1.length=(everyL l).length∧(splitR (everyL l)).1.length≤30∧(∀ o∈(splitR (everyL l)).2.1,Ux.mayA o (splitR (everyL l)).1.length=true)∧lenS (splitR (everyL l)).2.1≤lenS (everyL l):=by
 have he:(splitR (everyL l)).2.2=0:=by unfold knownL at hk;simpa using hk
 have hM:=every_len (M:=200) (fun x hx=>Nat.le_trans (h.each x hx) (by omega))
 have hF:=putF_of hM he
 refine⟨hF.outs,hF.len,fun o ho=>(outs_may hM he o ho).1,?_⟩
 unfold lenS
 exact sum_le_map _ _ _ _ hF.outs fun k o e hk hke=>out_len he k o e hk hke
theorem FewP.lens {l:List It} (h:FewP l):(everyL l).length≤12:=by
 unfold everyL
 rw[List.length_append]
 have h1:∀ l:List It,(asmL l).length+(reqL l).length≤l.length:=by
  intro l
  unfold asmL reqL
  simp only[List.length_map]
  induction l with
  | nil=>simp
  | cons x l ih =>
   simp only[List.filter_cons,List.length_cons]
   by_cases h1:x.kind=1
   ·simp[h1];omega
   ·by_cases h4:x.kind=4
    ·simp[h4];omega
    ·simp[h1,h4];omega
 have:=h1 l
 have:=h.len
 omega
theorem lenS_every (l:List It):lenS (everyL l)=lenS (asmL l)+lenS (reqL l):=by unfold everyL lenS;simp
theorem row_len (v j:Nat):(Dd.rowList v j).length=v:=by simp[Dd.rowList]
theorem FewP.cost_gap {l:List It} (h:FewP l) (hk:knownL l=true) (hv:(splitR (everyL l)).1.length≤5) (hn:lenS (everyL l)≤100) (n:Nat):2+costL (splitR (everyL l)).1.length ((overL l).take n++(overL l).drop n)<10000:=by
 obtain⟨h1,h2,h3,h4⟩:=h.outs hk
 have hO:overL l=(splitR (everyL l)).2.1:=by unfold overL;rw[hk];rfl
 rw[List.take_append_drop,hO]
 have h5:=cost_ok hv (splitR (everyL l)).2.1
 have h6:((splitR (everyL l)).2.1.map List.length).sum≤100:=Nat.le_trans h4 hn
 have h7:=h.lens
 omega
theorem FewP.cost_pair {l:List It} (h:FewP l) (hk:knownL l=true) (hv:(splitR (everyL l)).1.length≤5) (hn:lenS (everyL l)≤100) {i j:Nat} (hij:i<j) (hj:j<(reqL l).length):2+costL (splitR (everyL l)).1.length (pairE l (i,j)++[])<10000:=by
 obtain⟨h1,h2,h3,h4⟩:=h.outs hk
 have hO:overL l=(splitR (everyL l)).2.1:=by unfold overL;rw[hk];rfl
 have hel:(everyL l).length=(asmL l).length+(reqL l).length:=by unfold everyL;simp
 have h7:=h.lens
 have h8:=sum_two ((overL l).map List.length) (asmL l).length i j hij (by rw[List.length_map,hO,h1];omega)
 have h6:((overL l).map List.length).sum≤100:=by rw[hO];exact Nat.le_trans h4 hn
 have e1:∀ k,((overL l).map List.length).getD k 0=((overL l).getD k []).length:=fun k=>by
  rw[List.getD_eq_getElem?_getD,List.getD_eq_getElem?_getD,List.getElem?_map]
  cases (overL l)[k]? <;> rfl
 rw[e1,e1] at h8
 rw[List.append_nil]
 have h5:=cost_ok hv (pairE l (i,j))
 have e2:((pairE l (i,j)).map List.length).sum=(((overL l).map List.length).take (asmL l).length).sum+((overL l).getD ((asmL l).length+i) []).length+((overL l).getD ((asmL l).length+j) []).length:=by
  unfold pairE;simp[List.map_take];omega
 have e3:(pairE l (i,j)).length≤12:=by
  unfold pairE;simp;omega
 rw[e2] at h5
 omega
def sureB (l:List It) (bud:Int):Bool:=bud==10000&&decide (lenS (asmL l)+lenS (reqL l)≤100)&&decide ((if knownL l=true then (splitR (everyL l)).1 else []).length≤5)
theorem FewP.gap {l:List It} (h:FewP l) {bn:Nat} {ex fx:Int} {ga gb:Value} {W W':World} (hv:VerdQ (knownL l) (splitR (everyL l)).1.length bn ((overL l).take (asmL l).length) ((overL l).drop (asmL l).length) ex ga W)
  (hr:RefV (rKnown l) (splitR (everyL l)).1.length (phiE l) fx gb W'):VPair (sureB l bn) W W' ex fx ga gb:=by
 refine vpair (fun hk=>(h.outs hk).2.1) (fun hk j=>?_) (fun hs hk=>?_) hv hr
 ·obtain⟨h1,h2,h3,h4⟩:=h.outs hk
  have hO:overL l=(splitR (everyL l)).2.1:=by unfold overL;rw[hk];rfl
  unfold phiE
  rw[hO]
  exact satV_sat fun e he=>by rw[List.take_append_drop] at he;rw[row_len];exact h3 e he
 ·unfold sureB at hs
  simp only[Bool.and_eq_true,beq_iff_eq,decide_eq_true_eq] at hs
  obtain⟨⟨s1,s2⟩,s3⟩:=hs
  rw[if_pos hk] at s3
  have:=h.cost_gap hk s3 (by rw[lenS_every];exact s2) (asmL l).length
  omega
theorem FewP.pair {l:List It} (h:FewP l) {bn:Nat} {p:Nat×Nat} {ex fx:Int} {ga gb:Value} {W W':World} (hp:p.1<p.2) (hp2:p.2<(reqL l).length) (hv:VerdQ (knownL l) (splitR (everyL l)).1.length bn (pairE l p) [] ex ga W)
  (hr:RefV (rKnown l) (splitR (everyL l)).1.length (phiP l p) fx gb W'):VPair (sureB l bn) W W' ex fx ga gb:=by
 refine vpair (fun hk=>(h.outs hk).2.1) (fun hk j=>?_) (fun hs hk=>?_) hv hr
 ·obtain⟨h1,h2,h3,h4⟩:=h.outs hk
  have hO:overL l=(splitR (everyL l)).2.1:=by unfold overL;rw[hk];rfl
  have hel:(everyL l).length=(asmL l).length+(reqL l).length:=by unfold everyL;simp
  unfold phiP pairE
  rw[hO]
  refine satV2_sat fun e he=>?_
  rw[row_len]
  have hget:∀ k,k<(splitR (everyL l)).2.1.length→(splitR (everyL l)).2.1.getD k []∈(splitR (everyL l)).2.1:=fun k hk=>by
   rw[List.getD_eq_getElem?_getD,List.getElem?_eq_getElem hk];exact List.getElem_mem _
  rcases List.mem_append.1 he with he | he
  ·exact h3 e (List.mem_of_mem_take he)
  ·simp only[List.mem_cons,List.not_mem_nil,or_false] at he
   rcases he with rfl | rfl
   ·exact h3 _ (hget _ (by rw[h1];omega))
   ·exact h3 _ (hget _ (by rw[h1];omega))
 ·unfold sureB at hs
  simp only[Bool.and_eq_true,beq_iff_eq,decide_eq_true_eq] at hs
  obtain⟨⟨s1,s2⟩,s3⟩:=hs
  rw[if_pos hk] at s3
  have:=h.cost_pair hk s3 (by rw[lenS_every];exact s2) hp hp2
  have e:(p.1,p.2)=p:=rfl
  rw[e] at this
  omega
theorem prs_mem {m:Nat} {k:Nat} {p:Nat×Nat} (h:(prs m)[k]?=some p):p.1<p.2∧p.2<m:=by
 have hm:=List.mem_of_getElem? h
 unfold prs at hm
 obtain⟨a,ha,hb⟩:=List.mem_flatMap.1 hm
 obtain⟨b,hb2,rfl⟩:=List.mem_map.1 hb
 rw[List.mem_range] at ha
 rw[List.mem_range'_1] at hb2
 simp only
 omega
theorem VerdQ.below {known:Bool} {vars bud:Nat} {A B:List (List Nd)} {vd:Int} {v:Value} {W W':World} (h:VerdQ known vars bud A B vd v W) (hb:Below W.heap.size W W'):VerdQ known vars bud A B vd v W' :=
 h.kept hb.size fun a n c e=>by
  obtain⟨a',n',c',e',h'⟩:=h.form
  rw[e] at e';cases e';exact hb.block _ (h' _ rfl).1
theorem RefV.form {kn:Bool} {vars:Nat} {φ:List Bool→Bool} {vd:Int} {v:Value} {W:World} (h:RefV kn vars φ vd v W):∃ a n c,v=.slice a n c∧∀ ad,a=some ad→ad.block<W.heap.size∧ad.spot=none:=by
 unfold RefV at h
 split at h
 ·obtain⟨b,_,h2⟩:=h;exact h2.form
 ·exact⟨none,0,0,h.2,fun ad had=>by cases had⟩
theorem RefV.below {kn:Bool} {vars:Nat} {φ:List Bool→Bool} {vd:Int} {v:Value} {W W':World} (h:RefV kn vars φ vd v W) (hb:Below W.heap.size W W'):RefV kn vars φ vd v W' :=
 h.kept hb.size fun a n c e=>by
  obtain⟨a',n',c',e',h'⟩:=h.form
  rw[e] at e';cases e';exact hb.block _ (h' _ rfl).1
end Go.Proofs.YtmacepicoandkaaGreatDoor
