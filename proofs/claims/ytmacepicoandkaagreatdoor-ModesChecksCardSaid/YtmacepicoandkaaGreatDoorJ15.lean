/- Maps in memory by plain lists of keys and values; frames that may turn a set of blocks; the store of diagrams in memory. Readers of expressions: what both share: their memory, tokens. Readers of expressions: what one level's answer is made of: the plain part. -/
import Derived.WalkKit
import Derived.WalkSpells
import Derived.WalkLawsBesides
import Derived.Maps.Own
import Derived.Test.YtmacepicoandkaaGreatDoorJ8
import Derived.Test.YtmacepicoandkaaGreatDoorJ9
import Derived.Test.YtmacepicoandkaaGreatDoorJ14
set_option linter.unusedVariables false
set_option linter.unusedSimpArgs false
namespace Go.Proofs.YtmacepicoandkaaGreatDoor
open Go.RowKit
structure Fr (S:Nat→Prop) (w w':World):Prop where
 os:w'.os=w.os
 tape:w'.tape=w.tape
 output:w'.output=w.output
 size:w.heap.size≤w'.heap.size
 block:∀ k,k<w.heap.size→¬ S k→w'.heap[k]?=w.heap[k]?
theorem Fr.refl (S:Nat→Prop) (w:World):Fr S w w:=⟨rfl,rfl,rfl,Nat.le_refl _,fun _ _ _=>rfl⟩
theorem Fr.trans {S S':Nat→Prop} {a b c:World} (h:Fr S a b) (k:Fr S' b c) (hs:∀ i,i<a.heap.size→S' i→S i):Fr S a c :=
 ⟨k.os.trans h.os,k.tape.trans h.tape,k.output.trans h.output,Nat.le_trans h.size k.size,fun i hi hn=>(k.block i (Nat.lt_of_lt_of_le hi h.size) (fun q=>hn (hs i hi q))).trans (h.block i hi hn)⟩
theorem Fr.mono {S S':Nat→Prop} {a b:World} (h:Fr S a b) (hs:∀ i,i<a.heap.size→S i→S' i):Fr S' a b :=
 ⟨h.os,h.tape,h.output,h.size,fun i hi hn=>h.block i hi fun q=>hn (hs i hi q)⟩
theorem Fr.cell {S:Nat→Prop} {w w':World} (h:Fr S w w') {p:Addr} (hp:p.block<w.heap.size) (hn:¬ S p.block):w'.cell? p=w.cell? p:=World.cell?_of_block (w:=w) (h.block p.block hp hn)
theorem Fr.below {S:Nat→Prop} {a w w':World} {B:Nat} (h:Below B a w) (k:Fr S w w') (hB:B≤w.heap.size) (hs:∀ i,S i→B≤i):Below B a w' :=
 ⟨k.os.trans h.os,k.tape.trans h.tape,k.output.trans h.output,Nat.le_trans h.size k.size,fun i hi=>(k.block i (by omega) (fun q=>by have:=hs i q;omega)).trans (h.block i hi)⟩
theorem Fr.of_below {w w':World} (h:Below w.heap.size w w') (S:Nat→Prop):Fr S w w':=⟨h.os,h.tape,h.output,h.size,fun k hk _=>h.block k hk⟩
theorem Fr.ownsRow {S:Nat→Prop} {w w':World} (h:Fr S w w') {base e size n:Nat} {v:Value} {xs:List Value} (ho:w.ownsRow base e size v n xs) (hn:∀ k,v.ownBlock=some k→¬ S k):w'.ownsRow base e size v n xs:=by
 have hlt:=ho.lt
 obtain⟨h1,h2⟩:=ho
 refine⟨h1,?_⟩
 rcases h2 with h2 | ⟨g,cap,cur,rfl,hg,hh,r⟩
 ·exact Or.inl h2
 ·exact Or.inr ⟨g,cap,cur,rfl,hg,by rw[h.block g (hlt g rfl).2 (hn g rfl)];exact hh,r⟩
structure KeyLaw' (P:Program) (k:TypeId) {κ:Type} (code:κ→Value):Prop where
 inj:∀ a b,code a=code b→a=b
 check:∀ (b:Bool) (x:κ) (w:World),(Instr.checkKey b 10000 k (code x)).run P w=.ok () w
 find:∀ (x:κ) (es:List MapEntry) (l:List κ),es.map (·.key)=l.map code→∀ w,∃ r,(Instr.findKey k (code x) es).run P w=.ok r w ∧
  ((r=none∧x ∉ l)∨∃ i e,r=some (i,e.val)∧es[i]?=some e∧l[i]?=some x∧∀ j,j<i→l[j]?≠some x)
 stays:∀ (x:κ) (w:World),(Instr.keyThatStays (code x) (code x)).run P w=.ok (code x) w
def MapIs {κ ν:Type} (kc:κ→Value) (vc:ν→Value) (w:World) (m:Nat) (l:List (κ×ν)):Prop :=
 ∃ es clock,w.heap[m]?=some (.map es clock)∧es.toList.map (fun e=>(e.key,e.val))=l.map (fun p=>(kc p.1,vc p.2))
theorem MapIs.lt {κ ν:Type} {kc:κ→Value} {vc:ν→Value} {w:World} {m:Nat} {l:List (κ×ν)} (h:MapIs kc vc w m l):m<w.heap.size:=by
 obtain⟨es,clock,hb,_⟩:=h
 exact (Array.getElem?_eq_some_iff.1 hb).1
theorem MapIs.of_block {κ ν:Type} {kc:κ→Value} {vc:ν→Value} {w w':World} {m:Nat} {l:List (κ×ν)} (h:MapIs kc vc w m l) (hb:w'.heap[m]?=w.heap[m]?):MapIs kc vc w' m l:=by
 obtain⟨es,clock,h1,h2⟩:=h
 exact⟨es,clock,hb.trans h1,h2⟩
theorem MapIs.made {κ ν:Type} (kc:κ→Value) (vc:ν→Value) (w:World):MapIs kc vc (w.alloc (.map #[] 0)) w.heap.size [] :=
 ⟨#[],0,(MapKept.heap_alloc w _).1,rfl⟩
def look {κ ν:Type} [DecidableEq κ] (x:κ):List (κ×ν)→Option ν
 | []=>none
 | p :: r=>if p.1=x then some p.2 else look x r
theorem look_at {κ ν:Type} [DecidableEq κ] (x:κ):∀ (l:List (κ×ν)) (i:Nat) (v:ν),l[i]?=some (x,v)→(∀ j,j<i→(l[j]?).map (·.1)≠some x)→look x l=some v
 | [],i,v,h,_=>by simp at h
 | p :: r,0,v,h,_=>by simp at h;subst h;simp[look]
 | p :: r,i+1,v,h,hn=>by
  have h0:=hn 0 (by omega)
  simp at h0 h
  rw[look,if_neg h0]
  exact look_at x r i v h fun j hj=>by have:=hn (j+1) (by omega);simpa using this
theorem look_none {κ ν:Type} [DecidableEq κ] (x:κ):∀ (l:List (κ×ν)),(x ∉ l.map (·.1))→look x l=none
 | [],_=>rfl
 | p :: r,h=>by
  simp at h
  rw[look,if_neg (fun e=>h.1 e.symm)]
  exact look_none x r (by simpa using h.2)
theorem look_mem {κ ν:Type} [DecidableEq κ] {x:κ} {v:ν} : ∀ {l:List (κ×ν)},look x l=some v→(x,v)∈l
 | [],h=>by simp[look] at h
 | p :: r,h=>by
  rw[look] at h
  split at h
  ·rename_i e;simp at h;subst e;subst h;simp
  ·exact List.mem_cons_of_mem _ (look_mem h)
theorem MapIs.lookup {P:Program} {κ ν:Type} [DecidableEq κ] {kc:κ→Value} {vc:ν→Value} {w:World} {m:Nat} {l:List (κ×ν)} {t k e:TypeId} (h:MapIs kc vc w m l) (K:KeyLaw' P k kc) (ht:P.underlying t=some (.map k e))
  {z:Value} (hz:∀ w,(zeroValue e).run P w=.ok z w) (x:κ) :
  (Instr.lookup t (.map (some m)) (kc x) true).run P w=.ok (.tuple #[((look x l).map vc).getD z,.bool (look x l).isSome]) w:=by
 obtain⟨es,clock,hb,hl⟩:=h
 have hk:es.toList.map (·.key)=(l.map (·.1)).map kc:=by
  have:=congrArg (List.map Prod.fst) hl
  simpa [Function.comp_def] using this
 obtain⟨r,hr,hcase⟩:=K.find x es.toList (l.map (·.1)) hk w
 have hget:(getObj m).run P w=.ok (.map es clock) w:=by simp[getObj,Sem.run,hb]
 rcases hcase with ⟨rfl,hno⟩ | ⟨i,en,rfl,hi,hli,hfirst⟩
 ·have hn:=look_none x l hno
  simp[Instr.lookup,run_underlying ht,hget,K.check,hr,hz,hn,go_sem]
 ·obtain⟨p,hp⟩ : ∃ p,l[i]?=some p∧p.1=x:=by
   rw[List.getElem?_map] at hli
   obtain⟨p,h1,h2⟩:=Option.map_eq_some_iff.1 hli
   exact⟨p,h1,h2⟩
  obtain⟨hp1,rfl⟩:=hp
  have hv:en.val=vc p.2:=by
   have:=congrArg (fun q=>(q[i]?).map Prod.snd) hl
   simpa [hi,hp1] using this
  have hsome:look p.1 l=some p.2:=look_at _ l i p.2 (by rw[hp1]) fun j hj=>by
   have:=hfirst j hj
   rw[List.getElem?_map] at this
   exact this
  simp[Instr.lookup,run_underlying ht,hget,K.check,hr,hsome,hv,go_sem]
def putAt {κ ν:Type} [DecidableEq κ] (x:κ) (v:ν):List (κ×ν)→List (κ×ν)
 | []=>[(x,v)]
 | p :: r=>if p.1=x then (x,v) :: r else p :: putAt x v r
theorem putAt_none {κ ν:Type} [DecidableEq κ] (x:κ) (v:ν):∀ (l:List (κ×ν)),x ∉ l.map (·.1)→putAt x v l=l++[(x,v)]
 | [],_=>rfl
 | p :: r,h=>by
  simp at h
  rw[putAt,if_neg (fun e=>h.1 e.symm),putAt_none x v r (by simpa using h.2)];rfl
theorem putAt_at {κ ν:Type} [DecidableEq κ] (x:κ) (v:ν):∀ (l:List (κ×ν)) (i:Nat),(l[i]?).map (·.1)=some x→(∀ j,j<i→(l[j]?).map (·.1)≠some x)→putAt x v l=l.set i (x,v)
 | [],i,h,_=>by simp at h
 | p :: r,0,h,_=>by simp at h;simp[putAt,h]
 | p :: r,i+1,h,hn=>by
  have h0:=hn 0 (by omega)
  simp at h0 h
  rw[putAt,if_neg h0,putAt_at x v r i (by simpa using h) fun j hj=>by have:=hn (j+1) (by omega);simpa using this]
  rfl
theorem mem_putAt {κ ν:Type} [DecidableEq κ] {x:κ} {v:ν} {q:κ×ν} : ∀ {l:List (κ×ν)},q∈putAt x v l→q=(x,v)∨q∈l
 | [],h=>by simp[putAt] at h;exact Or.inl h
 | p :: r,h=>by
  rw[putAt] at h
  split at h
  ·simp at h;rcases h with h | h
   ·exact Or.inl h
   ·exact Or.inr (by simp[h])
  ·simp at h;rcases h with h | h
   ·exact Or.inr (by simp[h])
   ·rcases mem_putAt h with h | h
    ·exact Or.inl h
    ·exact Or.inr (by simp[h])
theorem MapIs.update {P:Program} {κ ν:Type} [DecidableEq κ] {kc:κ→Value} {vc:ν→Value} {w:World} {m:Nat} {l:List (κ×ν)} {t k e:TypeId} (h:MapIs kc vc w m l) (K:KeyLaw' P k kc) (ht:P.underlying t=some (.map k e)) (x:κ) (v:ν) :
  ∃ w',(Instr.mapUpdate t (.map (some m)) (kc x) (vc v)).run P w=.ok () w'∧MapIs kc vc w' m (putAt x v l)∧w.grownBy w' (some m):=by
 have hlt:=h.lt
 obtain⟨es,clock,hb,hl⟩:=h
 have hk:es.toList.map (·.key)=(l.map (·.1)).map kc:=by
  have:=congrArg (List.map Prod.fst) hl
  simpa [Function.comp_def] using this
 obtain⟨r,hr,hcase⟩:=K.find x es.toList (l.map (·.1)) hk w
 have hget:(getObj m).run P w=.ok (.map es clock) w:=by simp[getObj,Sem.run,hb]
 have hset:∀ o,(setObj m o).run P w=.ok () { w with heap:=w.heap.setIfInBounds m o }:=fun o=>by simp[setObj,Sem.run,hb]
 have hgrown:∀ o,w.grownBy { w with heap:=w.heap.setIfInBounds m o } (some m):=fun o =>
  ⟨rfl,rfl,rfl,by simp,fun i hi hne=>by simp only[Array.getElem?_setIfInBounds];rw[if_neg (fun e=>hne (by rw[e]))]⟩
 rcases hcase with ⟨rfl,hno⟩ | ⟨i,en,rfl,hi,hli,hfirst⟩
 ·refine⟨{ w with heap:=w.heap.setIfInBounds m (.map (es.push { key:=kc x,val:=vc v,born:=clock }) (clock+1)) },?_,⟨_,_,by simp[hlt];exact⟨rfl,rfl⟩,?_⟩,hgrown _⟩
  ·simp[Instr.mapUpdate,run_underlying ht,hget,hset,K.check,hr,go_sem]
  ·rw[putAt_none x v l hno];simp[hl]
 ·obtain⟨p,hp1,hp2⟩ : ∃ p,l[i]?=some p∧p.1=x:=by
   rw[List.getElem?_map] at hli
   obtain⟨p,h1,h2⟩:=Option.map_eq_some_iff.1 hli
   exact⟨p,h1,h2⟩
  have hkey:en.key=kc x:=by
   have:=congrArg (fun q=>(q[i]?).map Prod.fst) hl
   simp[hi,hp1,hp2] at this
   exact this
  have hi':es[i]?=some en:=by simpa using hi
  refine⟨{ w with heap:=w.heap.setIfInBounds m (.map (es.modify i fun e=>{ e with key:=kc x,val:=vc v }) clock) },?_,⟨_,_,by simp[hlt];exact⟨rfl,rfl⟩,?_⟩,hgrown _⟩
  ·simp[Instr.mapUpdate,run_underlying ht,hget,hset,K.check,hr,hi',hkey,K.stays,go_sem]
  ·rw[putAt_at x v l i (by rw[hp1];simp[hp2]) (fun j hj=>by have:=hfirst j hj;rw[List.getElem?_map] at this;exact this)]
   apply List.ext_getElem?
   intro j
   have hj:=congrArg (fun q=>q[j]?) hl
   simp only[List.getElem?_map] at hj ⊢
   simp only[Array.getElem?_toList,Array.getElem?_modify,List.getElem?_set]
   simp only[Array.getElem?_toList] at hj
   by_cases e:i=j
   ·subst e
    have hlen:i<l.length:=(List.getElem?_eq_some_iff.1 hp1).1
    simp[hi',hlen]
   ·simp[e,hj]
theorem wpList_update_is {P:Program} {κ ν:Type} [DecidableEq κ] {kc:κ→Value} {vc:ν→Value} {w:World} {ops:Array Oper} {rest:List Oper} {o:Oper} {a:Act} {Q:Exit→Act→World→Prop}
  (hg:o.guard=none) (m x v:Operand) (t:TypeId) (hop:o.op=Op.mapUpdate t m x v) {k e:TypeId} (K:KeyLaw' P k kc) (ht:P.underlying t=some (.map k e)) {mb:Nat} {l:List (κ×ν)} (hM:MapIs kc vc w mb l)
  (hm:a.eval m=.map (some mb)) (key:κ) (val:ν) (hx:a.eval x=kc key) (hv:a.eval v=vc val)
  (hK:∀ w',MapIs kc vc w' mb (putAt key val l)→w.grownBy w' (some mb)→wpList P ops Q rest (a.put o.dst undef) w'):wpList P ops Q (o :: rest) a w:=by
 refine wpList_plain hg fun K' hK'=>?_
 obtain⟨w',hrun,r1,r2⟩:=hM.update K ht key val
 unfold Oper.wp
 simp[execOp,hop,hm,hx,hv,hrun,Result.andThen]
 exact hK' _ _ (hK w' r1 r2)
def tri (x:Nat×Nat×Nat):Value:=.agg #[.int .i64 x.1,.int .i64 x.2.1,.int .i64 x.2.2]
theorem keyLaw_tri {P:Program} {k:TypeId} {fs:Array Field} {_i:TypeInfo}
  (hk:P.underlying k=some (.struct fs))
  (hcheck:∀ (b:Bool) (x:Nat×Nat×Nat) (w:World),(Instr.checkKey b 10000 k (tri x)).run P w=.ok () w)
  (heq:∀ (x y:Nat×Nat×Nat) (w:World),(Op.equal k (tri x) (tri y)).run P w=.ok (decide (x=y)) w):KeyLaw' P k tri where
 inj a b h:=by
  obtain⟨a1,a2,a3⟩:=a
  obtain⟨b1,b2,b3⟩:=b
  simp[tri] at h
  simp;omega
 check:=hcheck
 find x es l hl w:=by
  have key:∀ (es:List MapEntry) (l:List (Nat×Nat×Nat)) (i:Nat),es.map (·.key)=l.map tri →
    ∃ r,(Instr.findAsking k (tri x) es i).run P w=.ok r w∧((r=none∧x ∉ l)∨∃ j e,r=some (i+j,e.val)∧es[j]?=some e∧l[j]?=some x∧∀ j',j'<j→l[j']?≠some x):=by
   intro es
   induction es with
   | nil=>intro l i h;cases l <;> simp at h;exact⟨none,rfl,Or.inl ⟨rfl,by simp⟩⟩
   | cons e es ih =>
    intro l i h
    cases l with
    | nil=>simp at h
    | cons y l =>
     simp at h
     obtain⟨he,h⟩:=h
     by_cases hxy:x=y
     ·subst hxy
      exact⟨some (i,e.val),by simp[Instr.findAsking,he,heq,go_sem],Or.inr ⟨0,e,rfl,rfl,rfl,by simp⟩⟩
     ·obtain⟨r,h1,h2⟩:=ih l (i+1) h
      refine⟨r,by simp[Instr.findAsking,he,heq,hxy,h1,go_sem],?_⟩
      rcases h2 with ⟨rfl,hn⟩ | ⟨j,e',rfl,h3,h4,h5⟩
      ·exact Or.inl ⟨rfl,by simp[hxy,hn]⟩
      ·refine Or.inr ⟨j+1,e',by simp;omega,by simpa using h3,by simpa using h4,?_⟩
       intro j' hj'
       cases j' with
       | zero=>simp;exact fun e=>hxy e.symm
       | succ j'=>simpa using h5 j' (by omega)
  cases es with
  | nil =>
   cases l <;> simp at hl
   exact⟨none,by simp[Instr.findKey,run_underlying hk,Instr.findNow,go_sem],Or.inl ⟨rfl,by simp⟩⟩
  | cons e es =>
   obtain⟨r,h1,h2⟩:=key (e :: es) l 0 hl
   refine⟨r,?_,by simpa using h2⟩
   simp[Instr.findKey,run_underlying hk,Instr.findNow,Instr.sameNow,h1,go_sem]
 stays x w:=by
  have h:Instr.sameBits (9999+1) (tri x) (tri x)=true:=by
   unfold tri;rw[Instr.sameBits];simp[Instr.sameBits]
  have h':Instr.sameBits 10000 (tri x) (tri x)=true:=h
  simp[Instr.keyThatStays,h',go_sem]
end Go.Proofs.YtmacepicoandkaaGreatDoor
namespace Go.Proofs.YtmacepicoandkaaGreatDoor
open Go.RowKit Go.Shelf Tx Px
abbrev Al (rb:Nat) (w w':World):Prop:=Fr (fun k=>k=rb) w w'
section
variable {W W' : World} {rb : Nat}
theorem set_size (W:World) (a:Addr) (y:Value):(W.setCell a y).heap.size=W.heap.size:=by simp[World.setCell]
theorem Al.set {w:World} (h:Al rb w W) (i:Nat) (y:Value):Al rb w (W.setCell ⟨rb,i,none⟩ y):=by
 refine⟨h.os,h.tape,h.output,?_,fun k hk hn=>?_⟩
 ·rw[set_size];exact h.size
 ·rw[Below.heap_setCell _ _ _ _ (by show k≠rb;exact hn)];exact h.block k hk hn
theorem Al.next {w:World} (h:Al rb w W) (k:Al rb W W'):Al rb w W':=Fr.trans h k fun _ _ q=>q
theorem Al.then {w:World} (h:Al rb w W) (k:Below W.heap.size W W'):Al rb w W':=h.next (Fr.of_below k _)
theorem Al.refl (rb:Nat) (w:World):Al rb w w:=Fr.refl _ w
theorem Al.drew {w:World} (h:Al rb w W):Al rb w W.drew:=⟨h.os,h.tape,h.output,h.size,h.block⟩
theorem Al.drewN {w:World} (h:Al rb w W) (q:Nat):Al rb w (W.drewN q):=⟨h.os,h.tape,h.output,h.size,h.block⟩
theorem Al.of (h:Below W.heap.size W W'):Al rb W W':=Fr.of_below h _
theorem Al.ownE {base:Nat} {v:Value} {e:List Nd} (h:Al rb W W') (ho:OwnE base W v e) (hb:rb<base):OwnE base W' v e:=Fr.ownsRow h ho (fun k hk e=>by have:=(World.ownsRow.lt ho k hk).1;omega)
theorem Al.blk {b T:Nat} {cs:Array Value} (h:Al rb W W') (hk:Blk W b cs T) (hb:b≠rb):Blk W' b cs T:=(h.block b hk.lt hb).trans hk
theorem Al.keeps {w0:World} {base:Nat} (h:Al rb W W') (hb:Below base w0 W) (hlt:base≤W.heap.size) (hr:base≤rb):Below base w0 W':=Fr.below hb h hlt (fun i hi=>by omega)
end
def TokAt (w0:World) (rb:Nat) (a:Option Addr) (L:List Tok):Prop:=∀ W,Al rb w0 W→∀ i x,L[i]?=some x→∃ b o,a=some ⟨b,o,none⟩∧W.cell? ⟨b,o+i * 3,none⟩=some (.int .i64 x.k)∧W.cell? ⟨b,o+i * 3+1,none⟩=some (.string x.t)∧W.cell? ⟨b,o+i * 3+2,none⟩=some (.int .i64 x.p)
structure EnvOk (w0:World) (rb:Nat) (a:Option Addr) (cc:Nat) (L:List Tok):Prop where
 len:L.length≤100000
 cap:L.length≤cc
 tok:TokAt w0 rb a L
 ok:∀ t∈L,TokOk t
theorem atP_lt {L:List Tok} {i:Nat} {x:Tok} (h:L[i]?=some x):atP L i=x.p:=by unfold atP;rw[h]
theorem atP_ge {L:List Tok} {i:Nat} (h:L.length≤i):atP L i = -1:=by unfold atP;rw[List.getElem?_eq_none h]
theorem isT_ge {L:List Tok} {i:Nat} (h:L.length≤i) (s:ByteArray):isT L i s=false:=by
 unfold isT hereT;rw[List.getElem?_eq_none h];rfl
theorem isT_kind {L:List Tok} {i:Nat} {x:Tok} (h:L[i]?=some x) (hk:x.k≠3∧x.k≠4) (s:ByteArray):isT L i s=false:=by
 unfold isT hereT;rw[h];simp[hk.1,hk.2]
theorem isT_text {L:List Tok} {i:Nat} {x:Tok} (h:L[i]?=some x) (hk:x.k=3∨x.k=4) (s:ByteArray):isT L i s=decide (x.t=s):=by
 unfold isT hereT;rw[h];simp[hk]
theorem bytes_eq (s t:ByteArray):(s.toList==t.toList)=decide (s=t):=by
 rw[Bool.eq_iff_iff,beq_iff_eq,decide_eq_true_eq,Lib.toList_data,Lib.toList_data]
 exact⟨fun h=>bytes_ext h,fun h=>by rw[h]⟩
theorem sg_parts {W:World} {g:Nat} {us:List Value} {Fs:List Fo} {T:TypeId} (h:Blk W g us.toArray T) (hl:us.length=Fs.length) (hx:∀ (i:Nat) u F,us[i]?=some u→Fs[i]?=some F→IsE W u (F.flat 0)):Sg 1 IsF W (.slice (some ⟨g,0,none⟩) Fs.length Fs.length) Fs:=by
 refine⟨us.map oneC,Or.inr ⟨g,0,Fs.length,by simp[hl],by simp[hl],h.lt,fun i x hi j u hu=>?_⟩,by simp[hl],fun i c F hc hF=>?_⟩
 ·rw[List.getElem?_map] at hi
  obtain⟨y,hy,rfl⟩:=Option.map_eq_some_iff.1 hi
  have hj:j=0∧u=y:=by
   cases j with
   | zero=>simp[oneC] at hu;exact⟨rfl,hu.symm⟩
   | succ j=>simp[oneC] at hu
  obtain⟨rfl,rfl⟩:=hj
  unfold Blk at h
  simp[World.cell?,h,hy]
 ·rw[List.getElem?_map] at hc
  obtain⟨u,hu,rfl⟩:=Option.map_eq_some_iff.1 hc
  exact⟨u,rfl,hx i u F hu hF⟩
theorem sg_two {W:World} {g:Nat} {u v:Value} {A B:Fo} {T:TypeId} (h:Blk W g #[u,v] T) (hu:IsE W u (A.flat 0)) (hv:IsE W v (B.flat 0)):Sg 1 IsF W (.slice (some ⟨g,0,none⟩) 2 2) [A,B] :=
 sg_parts (us:=[u,v]) (Fs:=[A,B]) h rfl fun i x F hx hF=>by
  match i with
  | 0=>simp at hx hF;subst hx hF;exact hu
  | 1=>simp at hx hF;subst hx hF;exact hv
  | i+2=>simp at hx
theorem sg_one {W:World} {g:Nat} {u:Value} {A:Fo} {T:TypeId} (h:Blk W g #[u] T) (hu:IsE W u (A.flat 0)):Sg 1 IsF W (.slice (some ⟨g,0,none⟩) 1 1) [A] :=
 sg_parts (us:=[u]) (Fs:=[A]) h rfl fun i x F hx hF=>by
  match i with
  | 0=>simp at hx hF;subst hx hF;exact hu
  | i+1=>simp at hx
theorem sg_three {W:World} {g:Nat} {u v z:Value} {A B C:Fo} {T:TypeId} (h:Blk W g #[u,v,z] T) (hu:IsE W u (A.flat 0)) (hv:IsE W v (B.flat 0)) (hz:IsE W z (C.flat 0)):Sg 1 IsF W (.slice (some ⟨g,0,none⟩) 3 3) [A,B,C] :=
 sg_parts (us:=[u,v,z]) (Fs:=[A,B,C]) h rfl fun i x F hx hF=>by
  match i with
  | 0=>simp at hx hF;subst hx hF;exact hu
  | 1=>simp at hx hF;subst hx hF;exact hv
  | 2=>simp at hx hF;subst hx hF;exact hz
  | i+3=>simp at hx
theorem join_two (op n:Int) (A B:Fo) (h:op≠27):joinF op n noS [A,B]=node op n noS (A.app B):=by
 unfold joinF node;rw[if_neg h];simp[cat,Fo.app_no]
theorem join_one (op n:Int) (A:Fo) (h:op≠27):joinF op n noS [A]=node op n noS A:=by
 unfold joinF node;rw[if_neg h];simp[cat,Fo.app_no]
theorem join_three (op n:Int) (A B C:Fo) (h:op≠27):joinF op n noS [A,B,C]=node op n noS (A.app (B.app C)):=by
 unfold joinF node;rw[if_neg h];simp[cat,Fo.app_no]
theorem join_nil (op n:Int) (s:ByteArray) (h:op≠27):joinF op n s []=node op n s .no:=by
 unfold joinF node;rw[if_neg h];simp[cat]
def RPost (St:World→Int→Int→Int→Int→Prop) (rb:Nat) (o:Int) (w:World) (r:Res) (e:Ending) (w':World):Prop :=
 Al rb w w'∧match r with
 | .error (c,p)=>∃ (a:Option Addr) (n k i:Nat),e=.returned (.slice a n k)∧c≠0∧i≤200000∧St w' (i:Nat) o c p
 | .ok (l,i)=>∃ F v,l=[F]∧e=.returned v∧OwnE w.heap.size w' v (F.flat 0)∧St w' (i:Nat) o 0 0
theorem rpost_err {St:World→Int→Int→Int→Int→Prop} {rb:Nat} {o:Int} {w w':World} {c p:Int} {a:Option Addr} {n k i:Nat} (h:Al rb w w') (hc:c≠0) (hi:i≤200000) (hs:St w' (i:Nat) o c p):RPost St rb o w (.error (c,p)) (.returned (.slice a n k)) w':=⟨h,a,n,k,i,rfl,hc,hi,hs⟩
theorem rpost_ok {St:World→Int→Int→Int→Int→Prop} {rb:Nat} {o:Int} {w w':World} {i:Nat} {F:Fo} {v:Value} (h:Al rb w w') (hv:OwnE w.heap.size w' v (F.flat 0)) (hs:St w' (i:Nat) o 0 0):RPost St rb o w (.ok ([F],i)) (.returned v) w':=⟨h,F,v,rfl,rfl,hv,hs⟩
end Go.Proofs.YtmacepicoandkaaGreatDoor
namespace Go.Proofs.YtmacepicoandkaaGreatDoor
open Go.RowKit Go.Shelf Tx Px
theorem bin_cases {L:List Tok} {f n I o:Nat} {r:Res} (hn:n<8) (h:P L f (.bin n) I o=some r) :
  ∃ g,f=g+1∧((∃ e,P L g (.bin (n+1)) I o=some (.error e)∧r=.error e)∨∃ a i,P L g (.bin (n+1)) I o=some (.ok ([a],i))∧P L g (.loop n a) i o=some r):=by
 cases f with
 | zero=>cases h
 | succ g =>
  refine⟨g,rfl,?_⟩
  simp only[P,stepP,if_pos hn] at h
  rcases thenE_some h with ⟨e,h1,h2⟩ | ⟨a,i,h1,h2⟩
  ·exact Or.inl ⟨e,h1,h2⟩
  ·exact Or.inr ⟨a,i,h1,h2⟩
theorem top_cases {L:List Tok} {f I o:Nat} {r:Res} (h:P L f (.bin 8) I o=some r):∃ g,f=g+1∧operandS (P L g) L I o=some r:=by
 cases f with
 | zero=>cases h
 | succ g=>exact⟨g,rfl,by simpa [P,stepP] using h⟩
def both (op:Int) (sw:Bool) (a b:Fo):Fo:=node op 0 noS (if sw then b.app a else a.app b)
theorem loop_cases {L:List Tok} {f n i o:Nat} {a:Fo} {r:Res} (h:P L f (.loop n a) i o=some r) :
  ((hereT L i).bind (Px.opAt n)=none∧r=.ok ([a],i))∨∃ g s op sw,f=g+1∧hereT L i=some s∧Px.opAt n s=some (op,sw) ∧
   ((∃ e,P L g (.bin (if n≤1 then n else n+1)) (i+1) o=some (.error e)∧r=.error e)∨∃ b j,P L g (.bin (if n≤1 then n else n+1)) (i+1) o=some (.ok ([b],j)) ∧
    (((n≤1∨n=5)∧r=.ok ([both op sw a b],j))∨(¬ (n≤1∨n=5)∧P L g (.loop n (both op sw a b)) j o=some r))):=by
 cases f with
 | zero=>cases h
 | succ g =>
  simp only[P,stepP] at h
  cases hq:(hereT L i).bind (Px.opAt n) with
  | none=>rw[hq] at h;exact Or.inl ⟨rfl,(Option.some.inj h).symm⟩
  | some x =>
   obtain⟨op,sw⟩:=x
   rw[hq] at h
   right
   obtain⟨s,hs,hs2⟩:=Option.bind_eq_some_iff.1 hq
   refine⟨g,s,op,sw,rfl,hs,hs2,?_⟩
   rcases thenE_some h with ⟨e,h1,h2⟩ | ⟨b,j,h1,h2⟩
   ·exact Or.inl ⟨e,h1,h2⟩
   ·refine Or.inr ⟨b,j,h1,?_⟩
    split at h2
    ·rename_i h3;exact Or.inl ⟨h3,(Option.some.inj h2).symm⟩
    ·rename_i h3;exact Or.inr ⟨h3,h2⟩
theorem isT_some {L:List Tok} {i:Nat} {s t:ByteArray} (h:hereT L i=some s):isT L i t=decide (s=t):=by unfold isT;rw[h];simp
theorem isT_none {L:List Tok} {i n:Nat} {t:ByteArray} (h:(hereT L i).bind (Px.opAt n)=none) (ht:Px.opAt n t≠none):isT L i t=false:=by
 unfold isT
 simp only[decide_eq_false_iff_not]
 intro e
 rw[e] at h
 exact ht h
def cI (w:World) (a:Addr):Int:=match w.cell? a with
 | some (.int _ i)=>i
 | _=>0
theorem cI_at {w:World} {a:Addr} {k:IntKind} {i:Int} (h:w.cell? a=some (.int k i)):cI w a=i:=by unfold cI;rw[h]
theorem both_good {op:Int} {sw:Bool} {a b:Fo} (ho:6≤op∧op≤20) (ha:Px.Good a) (hb:Px.Good b):Px.Good (both op sw a b):=by
 unfold both
 cases sw
 ·exact good_two ho ha hb
 ·exact good_two ho hb ha
theorem both_size (op:Int) (sw:Bool) (a b:Fo):(both op sw a b).size=a.size+b.size+1:=by
 unfold both node
 cases sw <;> simp[Fo.size,Fo.size_app];omega
def mR (rb ia ic N:Nat) (w:World):Nat:=if cI w ⟨rb,ic,none⟩=0 then N+1 - (cI w ⟨rb,ia,none⟩).toNat else 0
theorem mR_ok {rb ia ic N:Nat} {w:World} {k1 k2:IntKind} {i:Nat} (h1:w.cell? ⟨rb,ia,none⟩=some (.int k1 i)) (h2:w.cell? ⟨rb,ic,none⟩=some (.int k2 0)):mR rb ia ic N w=N+1 - i:=by
 unfold mR;rw[cI_at h1,cI_at h2];simp
theorem mR_err {rb ia ic N:Nat} {w:World} {k2:IntKind} {c:Int} (h2:w.cell? ⟨rb,ic,none⟩=some (.int k2 c)) (hc:c≠0):mR rb ia ic N w=0:=by
 unfold mR;rw[cI_at h2,if_neg hc]
def LpR (St:World→Int→Int→Int→Int→Prop) (L:List Tok) (rb base:Nat) (o:Nat) (w:World) (n fu:Nat) (r:Res) (av:Value) (wr:World):Prop :=
 Al rb w wr∧((∃ F i g,g<fu∧OwnE base wr av (F.flat 0)∧Px.Good F∧F.size+1≤3 * i∧i≤L.length∧St wr (i:Nat) o 0 0∧P L g (.loop n F) i o=some r) ∨
  ∃ (c p:Int) (a:Option Addr) (m k i:Nat),r=.error (c,p)∧c≠0∧i≤200000∧St wr (i:Nat) o c p∧av=.slice a m k)
end Go.Proofs.YtmacepicoandkaaGreatDoor
