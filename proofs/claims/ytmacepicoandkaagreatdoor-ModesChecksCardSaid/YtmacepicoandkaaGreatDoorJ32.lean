/- Walks: Witness; Value's and Witness's other ways. Walks: Count. Walks of the reference: digit, Row. The document's Same of truths: the walk. -/
import Derived.Deep.RegionHeld3
import Derived.Laws.EntriesVeiled
import Derived.Test.YtmacepicoandkaaGreatDoorJ14
import Derived.Test.YtmacepicoandkaaGreatDoorJ27
import Derived.Test.YtmacepicoandkaaGreatDoorJ31
set_option linter.unusedVariables false
set_option linter.unusedSimpArgs false
namespace Go.Proofs.YtmacepicoandkaaGreatDoor
open Go.RowKit
set_option maxRecDepth 20000
set_option maxHeartbeats 400000 in
theorem Witness_none (w:World) (s:St) (h:StoreAt w s) (f:Int) (hbad:okIn s.ns.length [f]=false∨f=0) :
  Calls Tryz.prog 30 #[.pointer (some ⟨s.sb,0,none⟩),.int .i64 f] w fun e w'=>e=.returned (.tuple #[.slice none 0 0,.bool false])∧Below w.heap.size w w':=by
 have hB:Below w.heap.size w (w.alloc (.cells #[.int .i64 f] 3)):=(Below.refl _ _).alloc (Nat.le_refl _) _
 cases hok:okIn s.ns.length [f]
 ·go_enter Tryz.func30,Tryz.ntmps30
  go_wp2_with fail
  refine (are_any _ s (h.below hB) _ [f] (SlInts.new1 w f)).mono ?_
  rintro e w1 ⟨rfl,hw1⟩
  rw[hok]
  have hB1:Below w.heap.size w w1:=by rw[hw1];exact hB
  clear hw1 hB hok hbad
  go_wp2_with fail
  go_ret2
  exact⟨rfl,hB1⟩
 ·have hf:f=0:=by
   rcases hbad with q | q
   ·rw[hok] at q;cases q
   ·exact q
  subst hf
  go_enter Tryz.func30,Tryz.ntmps30
  go_wp2_with fail
  refine (are_any _ s (h.below hB) _ [0] (SlInts.new1 w 0)).mono ?_
  rintro e w1 ⟨rfl,hw1⟩
  rw[hok]
  have hB1:Below w.heap.size w w1:=by rw[hw1];exact hB
  clear hw1 hB hok hbad
  go_wp2_with fail
  go_ret2
  exact⟨rfl,hB1⟩
theorem infoBool:(Tryz.prog.info? 4).map (fun i=>(i.zero,i.size,i.bytes))=some (some (.bool false),1,1):=by kernel_rfl
theorem rowList_zero (vars:Nat):(Dd.rowList vars 0).map Value.bool=List.replicate vars (.bool false):=by
 apply List.ext_getElem?
 intro j
 by_cases hj:j<vars <;> simp[Dd.rowList,Dd.rowEnv,hj]
theorem rowList_set {vars k k' t:Nat} (_ht:t<vars) (h:∀ i,i<vars→Dd.rowEnv vars k' i=if i=t then true else Dd.rowEnv vars k i) :
  ((Dd.rowList vars k).map Value.bool).set t (.bool true)=(Dd.rowList vars k').map Value.bool:=by
 apply List.ext_getElem?
 intro j
 by_cases hj:j<vars
 ·simp only[List.getElem?_set,Dd.rowList,List.getElem?_map,List.length_map,List.length_range,List.getElem?_range hj,Option.map_some,h j hj]
  by_cases e:t=j
  ·subst e;simp[hj]
  ·rw[if_neg e,if_neg (fun q=>e q.symm)]
 ·simp[List.getElem?_set,Dd.rowList,hj]
set_option maxHeartbeats 1000000 in
theorem Witness_any (w:World) (s:St) (h:StoreAt w s) (f:Nat) (hf:f<s.ns.length) (hf0:f≠0) :
  Calls Tryz.prog 30 #[.pointer (some ⟨s.sb,0,none⟩),.int .i64 f] w fun e w'=>∃ g k,e=.returned (.tuple #[.slice (some ⟨g,0,none⟩) s.vars s.vars,.bool true]) ∧
   w'.ownsRow w.heap.size 4 1 (.slice (some ⟨g,0,none⟩) s.vars s.vars) s.vars ((Dd.rowList s.vars k).map Value.bool)∧Dd.Wit s.vars s.ns f k 1∧Below w.heap.size w w':=by
 have hok:okIn s.ns.length [(f:Int)]=true:=okIn_nat (l:=[f]) (by simpa using hf)
 have hB:Below w.heap.size w (w.alloc (.cells #[.int .i64 f] 3)):=(Below.refl _ _).alloc (Nat.le_refl _) _
 have hne:((f:Int)==0)=false:=by simp;omega
 have hsm:=h.small
 obtain⟨i0,hi,hz0,hz1,hz2⟩:=info_parts infoBool
 go_enter Tryz.func30,Tryz.ntmps30
 go_wp2_with fail
 refine (are_any _ s (h.below hB) _ [(f:Int)] (SlInts.new1 w f)).mono ?_
 rintro e w1 ⟨rfl,hw1⟩
 rw[hok]
 have hS1:StoreAt w1 s:=by rw[hw1];exact h.below hB
 have hB1:Below w.heap.size w w1:=by rw[hw1];exact hB
 have c0:=hS1.c0
 clear hw1 hB hok
 go_wp2_with (at_make;refine wpList_make_full _ rfl _ _ 27 rfl w.heap.size 4 i0 (.bool false) 1 Tryz.underlying27 hi hz0 hz1 _ _ _ _ s.vars rfl rfl rfl rfl ?_ ?_ ?_ ?_;rotate_right;intro w2 hown2 hgrow2)
 case refine_1=>rw[hz2];omega
 case refine_2=>unfold maxLen;omega
 case refine_3=>exact hB1.size
 have hS2:StoreAt w2 s:=hS1.kept fun k hk=>hgrow2.block k (hS1.lt hk) (by simp)
 have hB2:Below w.heap.size w w2:=hB1.grown hgrow2 hB1.size (by simp)
 have hgb:¬ s.bl w1.heap.size:=bl_new hS1 (Nat.le_refl _)
 have hgw:w.heap.size≤w1.heap.size:=hB1.size
 have hown:w2.ownsRow w.heap.size 4 1 (.slice (some ⟨w1.heap.size,0,none⟩) s.vars s.vars) s.vars ((Dd.rowList s.vars 0).map Value.bool):=by
  rw[rowList_zero]
  have:=hown2
  simp only[Value.cells,Nat.mul_one,toList_madeCells_one] at this
  exact this
 generalize w1.heap.size=g at hown hgb hgw ⊢
 clear hown2 hgrow2 hS1 hB1 c0 hi hz0 hz1 hz2
 go_loopw [1] (fun x wr=>∃ f' k:Nat,x=.int .i64 f'∧Dd.Wit s.vars s.ns f k f'∧wr.ownsRow w.heap.size 4 1 (.slice (some ⟨g,0,none⟩) s.vars s.vars) s.vars ((Dd.rowList s.vars k).map Value.bool)∧Below w.heap.size w wr∧StoreAt wr s) (fun x _=>(intOf x).toNat)
 case atStart=>exact⟨f,0,rfl,Dd.Wit.start h.wf hf hf0,hown,hB2,hS2⟩
 case round =>
  obtain⟨f',k,rfl,hW,hown,hBr,hSr⟩:=hrel
  have hlenr:=hSr.len
  have hf':=hW.lt
  have hp':=hW.pos
  clear hS2 hB2
  by_cases h2:2≤f'
  ·obtain⟨hLH,hL,hH,hT,_⟩:=h.wf.nd f' h2 hf'
   have c2:=hSr.c2
   have n0:=hSr.n0 hf'
   have n1:=hSr.n1 hf'
   have n2:=hSr.n2 hf'
   have hlt:s.nb<wr.heap.size:=hSr.lt (Or.inr (Or.inl rfl))
   have hlt2:s.sb<wr.heap.size:=hSr.lt (Or.inl rfl)
   have hlt3:g<wr.heap.size:=(hown.lt g rfl).2
   have hBa:Below wr.heap.size wr (wr.alloc (.cells #[.int .i64 (Dd.T s.ns f'),.int .i64 (Dd.L s.ns f'),.int .i64 (Dd.H s.ns f')] 100)):=(Below.refl _ _).alloc (Nat.le_refl _) _
   by_cases hl0:Dd.L s.ns f'=0
   ·have hl0':((Dd.L s.ns f':Int)==0)=true:=by simp;omega
    have HW:=hW.high h.wf h2 hl0
    have HB:=hW.bit h.wf h2
    clear hl0
    go_wp2_with fail
    have hown3:=hown.alloc (.cells #[Value.int .i64 (Dd.T s.ns f'),Value.int .i64 (Dd.L s.ns f'),Value.int .i64 (Dd.H s.ns f')] 100)
    have hS3:=hSr.below hBa
    have hB3:=hBr.trans (hBa.mono hBr.size)
    have hkb:=heap_alloc_new wr (.cells #[Value.int .i64 (Dd.T s.ns f'),Value.int .i64 (Dd.L s.ns f'),Value.int .i64 (Dd.H s.ns f')] 100)
    generalize wr.alloc (.cells #[Value.int .i64 (Dd.T s.ns f'),Value.int .i64 (Dd.L s.ns f'),Value.int .i64 (Dd.H s.ns f')] 100)=W3 at hown3 hS3 hB3 hkb ⊢
    have k0:W3.cell? ⟨wr.heap.size,0,none⟩=some (.int .i64 (Dd.T s.ns f')):=by simp[World.cell?,hkb]
    have k2:W3.cell? ⟨wr.heap.size,2,none⟩=some (.int .i64 (Dd.H s.ns f')):=by simp[World.cell?,hkb]
    have hg1:=hown3.cellAt (Dd.T s.ns f') (by omega)
    obtain⟨vb,hvb⟩ : ∃ vb,((Dd.rowList s.vars k).map Value.bool)[Dd.T s.ns f']?=some vb:=by
     exact⟨_,List.getElem?_eq_getElem (by simp[Dd.rowList];exact hT)⟩
    rw[hvb] at hg1
    have hg2:=hown3.frozenAt (Dd.T s.ns f')
    have hst:=hown3.stored (Dd.T s.ns f') (.bool true)
    rw[rowList_set hT HB.2] at hst
    clear hBa hkb c2 n0 n1 n2 hown hBr hSr hW hvb HB hown3
    go_region
    all_goals
     go_wp2_with fail
     go_roundw
     case rel=>exact⟨_,_,rfl,HW,hst.1,(hB3.setCell (p:=⟨g,Dd.T s.ns f',none⟩) hgw (.bool true)).drew,hS3.kept fun q hq=>hst.2.block q (hS3.lt hq) (by simp;exact fun e=>hgb (e ▸ hq))⟩
     case measure=>simp[intOf];omega
   ·have hl0':((Dd.L s.ns f':Int)==0)=false:=by simp;omega
    have HW:=hW.low h.wf h2 hl0
    go_wp2_with fail
    go_roundw
    case rel=>exact⟨_,k,rfl,HW,hown.alloc _,hBr.trans (hBa.mono hBr.size),hSr.below hBa⟩
    case measure=>simp[intOf];omega
  ·have hfe:f'=1:=by omega
   subst hfe
   go_wp2_with fail
   go_ret2
   exact⟨g,k,rfl,hown,hW,hBr⟩
end Go.Proofs.YtmacepicoandkaaGreatDoor
namespace Go.Proofs.YtmacepicoandkaaGreatDoor
open Go.RowKit
set_option maxRecDepth 20000
def kI (n:Int):Value:=.int .i64 n
end Go.Proofs.YtmacepicoandkaaGreatDoor
namespace Go.Proofs.YtmacepicoandkaaGreatDoor
open Go.RowKit
set_option maxRecDepth 20000
theorem SlBools.own {w:World} {base g cap:Nat} {l:List Bool} {e:TypeId} (h:w.ownsRow base e 1 (.slice (some ⟨g,0,none⟩) l.length cap) l.length (l.map Value.bool)):SlBools w (.slice (some ⟨g,0,none⟩) l.length cap) l:=by
 refine Or.inr ⟨g,0,cap,rfl,(h.lt g rfl).2,fun i hi=>?_⟩
 rw[Nat.zero_add,h.cellAt i (by omega)]
 simp[List.getD,hi]
theorem SlBools.own' {w:World} {base n:Nat} {v:Value} {l:List Bool} {e:TypeId} (h:w.ownsRow base e 1 v n (l.map Value.bool)) (hl:l.length=n):SlBools w v l:=by
 subst hl
 have h0:=h
 obtain⟨_,h2⟩:=h
 rcases h2 with ⟨rfl,h3⟩ | ⟨g,cap,cur,rfl,_⟩
 ·exact Or.inl ⟨rfl,List.eq_nil_of_length_eq_zero h3⟩
 ·exact SlBools.own h0
end Go.Proofs.YtmacepicoandkaaGreatDoor
namespace Go.Proofs.YtmacepicoandkaaGreatDoor
open Go.RowKit
set_option maxRecDepth 20000
theorem take_eq_succ (a b:List Bool) (k:Nat) (ha:k<a.length) (hb:k<b.length) (h:a.take k=b.take k):(a.take (k+1)=b.take (k+1))↔a.getD k false=b.getD k false:=by
 rw[List.take_succ_eq_append_getElem ha,List.take_succ_eq_append_getElem hb,h]
 have e1:a.getD k false=a[k]:=by simp[List.getD,ha]
 have e2:b.getD k false=b[k]:=by simp[List.getD,hb]
 rw[e1,e2]
 constructor
 ·intro q;have:=List.append_cancel_left q;simpa using this
 ·intro q;rw[q]
theorem SlBools.form2 {w:World} {v:Value} {l:List Bool} (h:SlBools w v l):∃ a c,v=.slice a l.length c∧∀ W,Below w.heap.size w W→∀ i,i<l.length→∃ b o,a=some ⟨b,o,none⟩∧W.cell? ⟨b,o+i,none⟩=some (.bool (l.getD i false)):=by
 obtain⟨a,c,rfl,_⟩:=h.form
 refine⟨a,c,rfl,fun W hW i hi=>?_⟩
 obtain⟨a',c',e,hx⟩:=(h.below hW).form
 cases e;exact hx i hi
set_option maxHeartbeats 1000000 in
theorem same20_any (w:World) (va vb:Value) (a b:List Bool) (ha:SlBools w va a) (hb:SlBools w vb b) (hla:a.length≤1073741824) :
  Calls Tryz.prog 15 #[va,vb] w fun e w'=>e=.returned (.bool (decide (a=b)))∧Below w.heap.size w w':=by
 obtain⟨pa,ca,rfl,hca⟩:=ha.form2
 obtain⟨pb,cb,rfl,hcb⟩:=hb.form2
 clear ha hb
 by_cases hl:a.length=b.length
 ·obtain⟨n,hn⟩ : ∃ n,n=a.length:=⟨_,rfl⟩
  have hn2:n=b.length:=by omega
  rw[← hn] at hca hla
  rw[← hn2] at hcb
  rw[← hn,← hn2]
  have HA:Hid (n=a.length):=hn
  have HB:Hid (n=b.length):=hn2
  clear hn hn2 hl
  go_enter Tryz.func15,Tryz.ntmps15
  go_wp2_with fail
  go_loopw [5] (fun i wr=>∃ k:Nat,k≤n∧i=.int .i64 k∧Below w.heap.size w wr∧a.take k=b.take k) (fun i _=>n - (intOf i).toNat)
  case atStart=>exact⟨0,Nat.zero_le _,rfl,Below.refl _ _,by simp⟩
  case round =>
   obtain⟨k,hk,rfl,hB,heq⟩:=hrel
   by_cases hlt:k<n
   ·obtain⟨b1,o1,h1,k1⟩:=hca wr hB k hlt
    obtain⟨b2,o2,h2,k2⟩:=hcb wr hB k hlt
    subst h1 h2
    have HE:=take_eq_succ a b k (by have:=HA.out;omega) (by have:=HB.out;omega) heq
    obtain⟨x,hx⟩ : ∃ x,x=a.getD k false:=⟨_,rfl⟩
    obtain⟨y,hy⟩ : ∃ y,y=b.getD k false:=⟨_,rfl⟩
    rw[← hx] at k1 HE
    rw[← hy] at k2 HE
    have HEE:Hid ((a.take (k+1)=b.take (k+1))↔x=y):=HE
    have HNE:Hid (a=b→a.take (k+1)=b.take (k+1)):=fun q=>by show _=_;rw[q]
    have hk0:(0:Int)≤(k:Int):=by omega
    have hk1:(k:Int)<(n:Int):=by omega
    clear hx hy HE heq hca hcb
    cases x <;> cases y
    ·have hne:(false != false)=false:=rfl
     go_wp2_with fail
     go_quiet (fail)
     go_wp2_with fail
     go_roundw
     case rel=>exact⟨k+1,by omega,by go_num,below_drawn hB _,HEE.out.2 (by trivial)⟩
     case measure=>simp[intOf];omega
    ·go_wp2_with fail
     go_quiet (fail)
     go_wp2_with fail
     go_ret
     refine⟨?_,below_drawn hB _⟩
     have:decide (a=b)=false:=by
      rw[decide_eq_false_iff_not];intro q;exact absurd (HEE.out.1 (HNE.out q)) (by simp)
     rw[this];rfl
    ·go_wp2_with fail
     go_quiet (fail)
     go_wp2_with fail
     go_ret
     refine⟨?_,below_drawn hB _⟩
     have:decide (a=b)=false:=by
      rw[decide_eq_false_iff_not];intro q;exact absurd (HEE.out.1 (HNE.out q)) (by simp)
     rw[this];rfl
    ·go_wp2_with fail
     go_quiet (fail)
     go_wp2_with fail
     go_roundw
     case rel=>exact⟨k+1,by omega,by go_num,below_drawn hB _,HEE.out.2 (by trivial)⟩
     case measure=>simp[intOf];omega
   ·have hke:k=n:=by omega
    subst hke
    have HF:Hid (decide (a=b)=true):=by
     show _=true
     rw[decide_eq_true_eq]
     have h1:=HA.out;have h2:=HB.out
     have h3:a.take k=a:=by rw[h1];exact List.take_length
     have h4:b.take k=b:=by rw[h2];exact List.take_length
     rw[h3,h4] at heq;exact heq
    clear heq hca hcb
    go_wp2_with fail
    go_ret
    exact⟨by rw[HF.out];rfl,hB⟩
 ·have hne:((a.length:Int) != (b.length:Int))=true:=by simp;omega
  have HF:Hid (decide (a=b)=false):=by
   show _=false
   rw[decide_eq_false_iff_not];rintro rfl;exact hl rfl
  clear hca hcb
  go_enter Tryz.func15,Tryz.ntmps15
  go_wp2_with fail
  go_ret
  exact⟨by rw[HF.out];rfl,Below.refl _ _⟩
end Go.Proofs.YtmacepicoandkaaGreatDoor
