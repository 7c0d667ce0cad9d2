/- Plain mathematics of ordered decision diagrams: what a list of nodes means; two nodes that mean the same are one; counting; the first row. Maps in memory by plain lists of keys and values; frames that may turn a set of blocks; the store of diagrams in memory. Machine: sets of numbers in maps; what is not among them: the walks. -/
import Derived.WalkKit
import Derived.WalkSpells
import Derived.WalkLawsBesides
import Derived.Maps.Own
import Derived.Test.YtdmelebgdaiinaaGreatDoorJ36
set_option linter.unusedVariables false
set_option linter.unusedSimpArgs false
namespace Go.Proofs.YtdmelebgdaiinaaGreatDoor
namespace Dd
abbrev Nd:=Nat×Nat×Nat
def T (ns:List Nd) (f:Nat):Nat:=(ns.getD f (0,0,0)).1
def L (ns:List Nd) (f:Nat):Nat:=(ns.getD f (0,0,0)).2.1
def H (ns:List Nd) (f:Nat):Nat:=(ns.getD f (0,0,0)).2.2
def ev (ns:List Nd) (env:Nat→Bool):Nat→Nat→Bool
 | 0,f=>f==1
 | k+1,f=>if f≤1 then f==1 else if env (T ns f) then ev ns env k (H ns f) else ev ns env k (L ns f)
end Dd
end Go.Proofs.YtdmelebgdaiinaaGreatDoor
namespace Go.Proofs.YtdmelebgdaiinaaGreatDoor
open Go.RowKit
structure Fr (S:Nat→Prop) (w w':World):Prop where
 os:w'.os=w.os
 tape:w'.tape=w.tape
 output:w'.output=w.output
 size:w.heap.size≤w'.heap.size
 block:∀ k,k<w.heap.size→¬ S k→w'.heap[k]?=w.heap[k]?
theorem Fr.refl (S:Nat→Prop) (w:World):Fr S w w:=⟨rfl,rfl,rfl,Nat.le_refl _,fun _ _ _=>rfl⟩
theorem Fr.trans {S S':Nat→Prop} {a b c:World} (h:Fr S a b) (k:Fr S' b c) (hs:∀ i,i<a.heap.size→S' i→S i):Fr S a c :=
 ⟨k.os.trans h.os,k.tape.trans h.tape,k.output.trans h.output,Nat.le_trans h.size k.size,fun i hi hn=>(k.block i (Nat.lt_of_lt_of_le hi h.size) (fun q=>hn (hs i hi q))).trans (h.block i hi hn)⟩
theorem Fr.mono {S S':Nat→Prop} {a b:World} (h:Fr S a b) (hs:∀ i,i<a.heap.size→S i→S' i):Fr S' a b :=
 ⟨h.os,h.tape,h.output,h.size,fun i hi hn=>h.block i hi fun q=>hn (hs i hi q)⟩
theorem Fr.cell {S:Nat→Prop} {w w':World} (h:Fr S w w') {p:Addr} (hp:p.block<w.heap.size) (hn:¬ S p.block):w'.cell? p=w.cell? p:=World.cell?_of_block (w:=w) (h.block p.block hp hn)
theorem Fr.below {S:Nat→Prop} {a w w':World} {B:Nat} (h:Below B a w) (k:Fr S w w') (hB:B≤w.heap.size) (hs:∀ i,S i→B≤i):Below B a w' :=
 ⟨k.os.trans h.os,k.tape.trans h.tape,k.output.trans h.output,Nat.le_trans h.size k.size,fun i hi=>(k.block i (by omega) (fun q=>by have:=hs i q;omega)).trans (h.block i hi)⟩
theorem Fr.of_below {w w':World} (h:Below w.heap.size w w') (S:Nat→Prop):Fr S w w':=⟨h.os,h.tape,h.output,h.size,fun k hk _=>h.block k hk⟩
theorem Fr.ownsRow {S:Nat→Prop} {w w':World} (h:Fr S w w') {base e size n:Nat} {v:Value} {xs:List Value} (ho:w.ownsRow base e size v n xs) (hn:∀ k,v.ownBlock=some k→¬ S k):w'.ownsRow base e size v n xs:=by
 have hlt:=ho.lt
 obtain⟨h1,h2⟩:=ho
 refine⟨h1,?_⟩
 rcases h2 with h2 | ⟨g,cap,cur,rfl,hg,hh,r⟩
 ·exact Or.inl h2
 ·exact Or.inr ⟨g,cap,cur,rfl,hg,by rw[h.block g (hlt g rfl).2 (hn g rfl)];exact hh,r⟩
structure KeyLaw' (P:Program) (k:TypeId) {κ:Type} (code:κ→Value):Prop where
 inj:∀ a b,code a=code b→a=b
 check:∀ (b:Bool) (x:κ) (w:World),(Instr.checkKey b 10000 k (code x)).run P w=.ok () w
 find:∀ (x:κ) (es:List MapEntry) (l:List κ),es.map (·.key)=l.map code→∀ w,∃ r,(Instr.findKey k (code x) es).run P w=.ok r w ∧
  ((r=none∧x ∉ l)∨∃ i e,r=some (i,e.val)∧es[i]?=some e∧l[i]?=some x∧∀ j,j<i→l[j]?≠some x)
 stays:∀ (x:κ) (w:World),(Instr.keyThatStays (code x) (code x)).run P w=.ok (code x) w
def MapIs {κ ν:Type} (kc:κ→Value) (vc:ν→Value) (w:World) (m:Nat) (l:List (κ×ν)):Prop :=
 ∃ es clock,w.heap[m]?=some (.map es clock)∧es.toList.map (fun e=>(e.key,e.val))=l.map (fun p=>(kc p.1,vc p.2))
theorem MapIs.lt {κ ν:Type} {kc:κ→Value} {vc:ν→Value} {w:World} {m:Nat} {l:List (κ×ν)} (h:MapIs kc vc w m l):m<w.heap.size:=by
 obtain⟨es,clock,hb,_⟩:=h
 exact (Array.getElem?_eq_some_iff.1 hb).1
theorem MapIs.of_block {κ ν:Type} {kc:κ→Value} {vc:ν→Value} {w w':World} {m:Nat} {l:List (κ×ν)} (h:MapIs kc vc w m l) (hb:w'.heap[m]?=w.heap[m]?):MapIs kc vc w' m l:=by
 obtain⟨es,clock,h1,h2⟩:=h
 exact⟨es,clock,hb.trans h1,h2⟩
theorem MapIs.made {κ ν:Type} (kc:κ→Value) (vc:ν→Value) (w:World):MapIs kc vc (w.alloc (.map #[] 0)) w.heap.size [] :=
 ⟨#[],0,(MapKept.heap_alloc w _).1,rfl⟩
def look {κ ν:Type} [DecidableEq κ] (x:κ):List (κ×ν)→Option ν
 | []=>none
 | p :: r=>if p.1=x then some p.2 else look x r
theorem look_at {κ ν:Type} [DecidableEq κ] (x:κ):∀ (l:List (κ×ν)) (i:Nat) (v:ν),l[i]?=some (x,v)→(∀ j,j<i→(l[j]?).map (·.1)≠some x)→look x l=some v
 | [],i,v,h,_=>by simp at h
 | p :: r,0,v,h,_=>by simp at h;subst h;simp[look]
 | p :: r,i+1,v,h,hn=>by
  have h0:=hn 0 (by omega)
  simp at h0 h
  rw[look,if_neg h0]
  exact look_at x r i v h fun j hj=>by have:=hn (j+1) (by omega);simpa using this
theorem look_none {κ ν:Type} [DecidableEq κ] (x:κ):∀ (l:List (κ×ν)),(x ∉ l.map (·.1))→look x l=none
 | [],_=>rfl
 | p :: r,h=>by
  simp at h
  rw[look,if_neg (fun e=>h.1 e.symm)]
  exact look_none x r (by simpa using h.2)
theorem MapIs.lookup {P:Program} {κ ν:Type} [DecidableEq κ] {kc:κ→Value} {vc:ν→Value} {w:World} {m:Nat} {l:List (κ×ν)} {t k e:TypeId} (h:MapIs kc vc w m l) (K:KeyLaw' P k kc) (ht:P.underlying t=some (.map k e))
  {z:Value} (hz:∀ w,(zeroValue e).run P w=.ok z w) (x:κ) :
  (Instr.lookup t (.map (some m)) (kc x) true).run P w=.ok (.tuple #[((look x l).map vc).getD z,.bool (look x l).isSome]) w:=by
 obtain⟨es,clock,hb,hl⟩:=h
 have hk:es.toList.map (·.key)=(l.map (·.1)).map kc:=by
  have:=congrArg (List.map Prod.fst) hl
  simpa [Function.comp_def] using this
 obtain⟨r,hr,hcase⟩:=K.find x es.toList (l.map (·.1)) hk w
 have hget:(getObj m).run P w=.ok (.map es clock) w:=by simp[getObj,Sem.run,hb]
 rcases hcase with ⟨rfl,hno⟩ | ⟨i,en,rfl,hi,hli,hfirst⟩
 ·have hn:=look_none x l hno
  simp[Instr.lookup,run_underlying ht,hget,K.check,hr,hz,hn,go_sem]
 ·obtain⟨p,hp⟩ : ∃ p,l[i]?=some p∧p.1=x:=by
   rw[List.getElem?_map] at hli
   obtain⟨p,h1,h2⟩:=Option.map_eq_some_iff.1 hli
   exact⟨p,h1,h2⟩
  obtain⟨hp1,rfl⟩:=hp
  have hv:en.val=vc p.2:=by
   have:=congrArg (fun q=>(q[i]?).map Prod.snd) hl
   simpa [hi,hp1] using this
  have hsome:look p.1 l=some p.2:=look_at _ l i p.2 (by rw[hp1]) fun j hj=>by
   have:=hfirst j hj
   rw[List.getElem?_map] at this
   exact this
  simp[Instr.lookup,run_underlying ht,hget,K.check,hr,hsome,hv,go_sem]
def putAt {κ ν:Type} [DecidableEq κ] (x:κ) (v:ν):List (κ×ν)→List (κ×ν)
 | []=>[(x,v)]
 | p :: r=>if p.1=x then (x,v) :: r else p :: putAt x v r
theorem putAt_none {κ ν:Type} [DecidableEq κ] (x:κ) (v:ν):∀ (l:List (κ×ν)),x ∉ l.map (·.1)→putAt x v l=l++[(x,v)]
 | [],_=>rfl
 | p :: r,h=>by
  simp at h
  rw[putAt,if_neg (fun e=>h.1 e.symm),putAt_none x v r (by simpa using h.2)];rfl
theorem putAt_at {κ ν:Type} [DecidableEq κ] (x:κ) (v:ν):∀ (l:List (κ×ν)) (i:Nat),(l[i]?).map (·.1)=some x→(∀ j,j<i→(l[j]?).map (·.1)≠some x)→putAt x v l=l.set i (x,v)
 | [],i,h,_=>by simp at h
 | p :: r,0,h,_=>by simp at h;simp[putAt,h]
 | p :: r,i+1,h,hn=>by
  have h0:=hn 0 (by omega)
  simp at h0 h
  rw[putAt,if_neg h0,putAt_at x v r i (by simpa using h) fun j hj=>by have:=hn (j+1) (by omega);simpa using this]
  rfl
theorem look_putAt {κ ν:Type} [DecidableEq κ] (x y:κ) (v:ν):∀ (l:List (κ×ν)),look y (putAt x v l)=if x=y then some v else look y l
 | []=>by simp[putAt,look]
 | p :: r=>by
  rw[putAt]
  split
  ·rename_i e;subst e;simp only[look];split <;> simp_all
  ·rename_i e
   simp only[look,look_putAt x y v r]
   split <;> split <;> simp_all
theorem MapIs.update {P:Program} {κ ν:Type} [DecidableEq κ] {kc:κ→Value} {vc:ν→Value} {w:World} {m:Nat} {l:List (κ×ν)} {t k e:TypeId} (h:MapIs kc vc w m l) (K:KeyLaw' P k kc) (ht:P.underlying t=some (.map k e)) (x:κ) (v:ν) :
  ∃ w',(Instr.mapUpdate t (.map (some m)) (kc x) (vc v)).run P w=.ok () w'∧MapIs kc vc w' m (putAt x v l)∧w.grownBy w' (some m):=by
 have hlt:=h.lt
 obtain⟨es,clock,hb,hl⟩:=h
 have hk:es.toList.map (·.key)=(l.map (·.1)).map kc:=by
  have:=congrArg (List.map Prod.fst) hl
  simpa [Function.comp_def] using this
 obtain⟨r,hr,hcase⟩:=K.find x es.toList (l.map (·.1)) hk w
 have hget:(getObj m).run P w=.ok (.map es clock) w:=by simp[getObj,Sem.run,hb]
 have hset:∀ o,(setObj m o).run P w=.ok () { w with heap:=w.heap.setIfInBounds m o }:=fun o=>by simp[setObj,Sem.run,hb]
 have hgrown:∀ o,w.grownBy { w with heap:=w.heap.setIfInBounds m o } (some m):=fun o =>
  ⟨rfl,rfl,rfl,by simp,fun i hi hne=>by simp only[Array.getElem?_setIfInBounds];rw[if_neg (fun e=>hne (by rw[e]))]⟩
 rcases hcase with ⟨rfl,hno⟩ | ⟨i,en,rfl,hi,hli,hfirst⟩
 ·refine⟨{ w with heap:=w.heap.setIfInBounds m (.map (es.push { key:=kc x,val:=vc v,born:=clock }) (clock+1)) },?_,⟨_,_,by simp[hlt];exact⟨rfl,rfl⟩,?_⟩,hgrown _⟩
  ·simp[Instr.mapUpdate,run_underlying ht,hget,hset,K.check,hr,go_sem]
  ·rw[putAt_none x v l hno];simp[hl]
 ·obtain⟨p,hp1,hp2⟩ : ∃ p,l[i]?=some p∧p.1=x:=by
   rw[List.getElem?_map] at hli
   obtain⟨p,h1,h2⟩:=Option.map_eq_some_iff.1 hli
   exact⟨p,h1,h2⟩
  have hkey:en.key=kc x:=by
   have:=congrArg (fun q=>(q[i]?).map Prod.fst) hl
   simp[hi,hp1,hp2] at this
   exact this
  have hi':es[i]?=some en:=by simpa using hi
  refine⟨{ w with heap:=w.heap.setIfInBounds m (.map (es.modify i fun e=>{ e with key:=kc x,val:=vc v }) clock) },?_,⟨_,_,by simp[hlt];exact⟨rfl,rfl⟩,?_⟩,hgrown _⟩
  ·simp[Instr.mapUpdate,run_underlying ht,hget,hset,K.check,hr,hi',hkey,K.stays,go_sem]
  ·rw[putAt_at x v l i (by rw[hp1];simp[hp2]) (fun j hj=>by have:=hfirst j hj;rw[List.getElem?_map] at this;exact this)]
   apply List.ext_getElem?
   intro j
   have hj:=congrArg (fun q=>q[j]?) hl
   simp only[List.getElem?_map] at hj ⊢
   simp only[Array.getElem?_toList,Array.getElem?_modify,List.getElem?_set]
   simp only[Array.getElem?_toList] at hj
   by_cases e:i=j
   ·subst e
    have hlen:i<l.length:=(List.getElem?_eq_some_iff.1 hp1).1
    simp[hi',hlen]
   ·simp[e,hj]
theorem wpList_update_is {P:Program} {κ ν:Type} [DecidableEq κ] {kc:κ→Value} {vc:ν→Value} {w:World} {ops:Array Oper} {rest:List Oper} {o:Oper} {a:Act} {Q:Exit→Act→World→Prop}
  (hg:o.guard=none) (m x v:Operand) (t:TypeId) (hop:o.op=Op.mapUpdate t m x v) {k e:TypeId} (K:KeyLaw' P k kc) (ht:P.underlying t=some (.map k e)) {mb:Nat} {l:List (κ×ν)} (hM:MapIs kc vc w mb l)
  (hm:a.eval m=.map (some mb)) (key:κ) (val:ν) (hx:a.eval x=kc key) (hv:a.eval v=vc val)
  (hK:∀ w',MapIs kc vc w' mb (putAt key val l)→w.grownBy w' (some mb)→wpList P ops Q rest (a.put o.dst undef) w'):wpList P ops Q (o :: rest) a w:=by
 refine wpList_plain hg fun K' hK'=>?_
 obtain⟨w',hrun,r1,r2⟩:=hM.update K ht key val
 unfold Oper.wp
 simp[execOp,hop,hm,hx,hv,hrun,Result.andThen]
 exact hK' _ _ (hK w' r1 r2)
theorem keyLaw_int {P:Program} {k:TypeId} (hk:P.underlying k=some (.int .i64)):KeyLaw' P k (fun n:Int=>Value.int .i64 n) where
 inj a b h:=by simpa using h
 check b x w:=by
  show (Instr.checkKey b (9999+1) k (.int .i64 x)).run P w=.ok () w
  rw[Instr.checkKey]
  simp[run_underlying hk,go_sem]
 find x es l hl w:=by
  have key:∀ (es:List MapEntry) (l:List Int) (i:Nat),es.map (·.key)=l.map (fun n:Int=>Value.int .i64 n) →
    ∃ r,Instr.findNow (.int .i64) (.int .i64 x) es i=some r∧((r=none∧x ∉ l)∨∃ j e,r=some (i+j,e.val)∧es[j]?=some e∧l[j]?=some x∧∀ j',j'<j→l[j']?≠some x):=by
   intro es
   induction es with
   | nil=>intro l i h;cases l <;> simp at h;exact⟨none,rfl,Or.inl ⟨rfl,by simp⟩⟩
   | cons e es ih =>
    intro l i h
    cases l with
    | nil=>simp at h
    | cons y l =>
     simp at h
     obtain⟨he,h⟩:=h
     simp only[Instr.findNow,he,Instr.sameNow,if_true]
     by_cases hxy:x=y
     ·subst hxy
      simp only[beq_self_eq_true]
      exact⟨_,rfl,Or.inr ⟨0,e,rfl,rfl,rfl,by simp⟩⟩
     ·have:(x==y)=false:=by simpa using hxy
      simp only[this]
      obtain⟨r,h1,h2⟩:=ih l (i+1) h
      refine⟨r,h1,?_⟩
      rcases h2 with ⟨rfl,hn⟩ | ⟨j,e',rfl,h3,h4,h5⟩
      ·exact Or.inl ⟨rfl,by simp[hxy,hn]⟩
      ·refine Or.inr ⟨j+1,e',by simp;omega,by simpa using h3,by simpa using h4,?_⟩
       intro j' hj'
       cases j' with
       | zero=>simp;exact fun e=>hxy e.symm
       | succ j'=>simpa using h5 j' (by omega)
  obtain⟨r,h1,h2⟩:=key es l 0 hl
  refine⟨r,?_,by simpa using h2⟩
  simp[Instr.findKey,run_underlying hk,h1,go_sem]
 stays x w:=by
  have h:Instr.sameBits 10000 (.int .i64 x) (.int .i64 x)=true:=by rw[Instr.sameBits];simp
  simp[Instr.keyThatStays,h,go_sem]
end Go.Proofs.YtdmelebgdaiinaaGreatDoor
namespace Go.Proofs.YtdmelebgdaiinaaGreatDoor
open Go.RowKit
set_option maxRecDepth 100000
theorem MapIs.look1 {P:Program} {κ ν:Type} [DecidableEq κ] {kc:κ→Value} {vc:ν→Value} {w:World} {m:Nat} {l:List (κ×ν)} {t k e:TypeId} (h:MapIs kc vc w m l) (K:KeyLaw' P k kc) (ht:P.underlying t=some (.map k e))
  {z:Value} (hz:∀ w,(zeroValue e).run P w=.ok z w) (x:κ) :
  (Instr.lookup t (.map (some m)) (kc x) false).run P w=.ok (((look x l).map vc).getD z) w:=by
 obtain⟨es,clock,hb,hl⟩:=h
 have hk:es.toList.map (·.key)=(l.map (·.1)).map kc:=by
  have:=congrArg (List.map Prod.fst) hl
  simpa [Function.comp_def] using this
 obtain⟨r,hr,hcase⟩:=K.find x es.toList (l.map (·.1)) hk w
 have hget:(getObj m).run P w=.ok (.map es clock) w:=by simp[getObj,Sem.run,hb]
 rcases hcase with ⟨rfl,hno⟩ | ⟨i,en,rfl,hi,hli,hfirst⟩
 ·have hn:=look_none x l hno
  simp[Instr.lookup,run_underlying ht,hget,K.check,hr,hz,hn,go_sem]
 ·obtain⟨p,hp⟩ : ∃ p,l[i]?=some p∧p.1=x:=by
   rw[List.getElem?_map] at hli
   obtain⟨p,h1,h2⟩:=Option.map_eq_some_iff.1 hli
   exact⟨p,h1,h2⟩
  obtain⟨hp1,rfl⟩:=hp
  have hv:en.val=vc p.2:=by
   have:=congrArg (fun q=>(q[i]?).map Prod.snd) hl
   simpa [hi,hp1] using this
  have hsome:look p.1 l=some p.2:=look_at _ l i p.2 (by rw[hp1]) fun j hj=>by
   have:=hfirst j hj
   rw[List.getElem?_map] at this
   exact this
  simp[Instr.lookup,run_underlying ht,hget,K.check,hr,hsome,hv,go_sem]
def kJ (n:Int):Value:=.int .i64 n
def vB (b:Bool):Value:=.bool b
theorem keyJ:KeyLaw' Tryz.prog 3 kJ:=keyLaw_int Tryz.underlying3
structure SetAt (w:World) (mb:Nat) (s:List Int):Prop where
 ex:∃ L,MapIs kJ vB w mb L∧∀ x,look x L=if x∈s then some true else none
theorem SetAt.lt {w:World} {mb:Nat} {s:List Int} (h:SetAt w mb s):mb<w.heap.size:=by obtain⟨L,h1,_⟩:=h.ex;exact h1.lt
theorem SetAt.of_block {w w':World} {mb:Nat} {s:List Int} (h:SetAt w mb s) (hb:w'.heap[mb]?=w.heap[mb]?):SetAt w' mb s:=by
 obtain⟨L,h1,h2⟩:=h.ex;exact⟨L,h1.of_block hb,h2⟩
theorem SetAt.fr {S:List Nat} {w w':World} {mb:Nat} {s:List Int} (h:SetAt w mb s) (hf:FrS S w w') (hn:mb ∉ S):SetAt w' mb s:=h.of_block (hf.block mb h.lt hn)
theorem SetAt.made (w:World):SetAt (w.alloc (.map #[] 0)) w.heap.size []:=⟨[],MapIs.made kJ vB w,fun x=>rfl⟩
theorem SetAt.lookup {w:World} {mb:Nat} {s:List Int} (h:SetAt w mb s) (x:Int):(Instr.lookup 119 (.map (some mb)) (.int .i64 x) false).run Tryz.prog w=.ok (.bool (decide (x∈s))) w:=by
 obtain⟨L,h1,h2⟩:=h.ex
 have:=h1.look1 keyJ Tryz.underlying119 (z:=.bool false) (fun w=>by kernel_rfl) x
 rw[h2 x] at this
 refine this.trans ?_
 by_cases hx:x∈s
 ·rw[if_pos hx,decide_eq_true hx];rfl
 ·rw[if_neg hx,decide_eq_false hx];rfl
theorem SetAt.puts {L:List (Int×Bool)} {s:List Int} (h:∀ x,look x L=if x∈s then some true else none) (d:Int):∀ x,look x (putAt d true L)=if x∈d :: s then some true else none:=by
 intro x
 rw[look_putAt,h x]
 by_cases e:d=x
 ·subst e;simp
 ·have e':x≠d:=fun q=>e q.symm
  rw[if_neg e];simp[e']
theorem SetAt.len {w:World} {mb:Nat} {s:List Int} (h:SetAt w mb s):∃ (es:Array MapEntry) (clock:Nat),w.heap[mb]?=some (.map es clock)∧(es.size=0↔s=[]):=by
 obtain⟨L,⟨es,clock,h1,h2⟩,h3⟩:=h.ex
 refine⟨es,clock,h1,?_⟩
 have hl:es.size=L.length:=by have:=congrArg List.length h2;simpa using this
 rw[hl]
 constructor
 ·intro h0
  have:L=[]:=List.eq_nil_of_length_eq_zero h0
  subst this
  cases s with
  | nil=>rfl
  | cons a s=>have:=h3 a;simp[look] at this
 ·intro h0
  subst h0
  cases L with
  | nil=>rfl
  | cons p L=>have:=h3 p.1;simp[look] at this
theorem SetAt.lens {w:World} {mb:Nat} {s:List Int} (h:SetAt w mb s):∃ N:Nat,(∀ ty,(Builtin.len_ #[119] ty #[.map (some mb)]).run Tryz.prog w=.ok (.int .i64 N) w)∧(N=0↔s=[]):=by
 obtain⟨es,clock,h1,h2⟩:=h.len
 have hget:(getObj mb).run Tryz.prog w=.ok (.map es clock) w:=by simp[getObj,Sem.run,h1]
 exact⟨es.size,fun ty=>by simp[Builtin.len_,run_underlying Tryz.underlying119,hget,goInt],h2⟩
set_option maxHeartbeats 1000000 in
theorem unwr_any {w:World} {wc mb:Nat} {s:List Int} (hw:Blk w wc #[.map (some mb)] 119) (hs:SetAt w mb s) (r:Int) :
  Calls Tryz.prog 56 #[.int .i64 r,.pointer (some ⟨wc,0,none⟩)] w fun e w'=>e=.returned (.bool (!decide (r∈s)))∧w'=w:=by
 have hl:=hs.lookup r
 have c0:w.cell? ⟨wc,0,none⟩=some (.map (some mb)):=hw.c rfl
 clear hw hs
 go_enter Tryz.func56,Tryz.ntmps56
 go_wp2_with fail
 go_ret
 exact⟨rfl,rfl⟩
set_option maxHeartbeats 1000000 in
theorem firstUn_any {w:World} {wc mb:Nat} {s:List Int} (hw:Blk w wc #[.map (some mb)] 119) (hs:SetAt w mb s) (l:List Int) (v:Value) (hv:Sl intC 1 w v l) (hl:l.length≤1000000) :
  Calls Tryz.prog 101 #[v,.func (.func 56) #[] #[.pointer (some ⟨wc,0,none⟩)]] w fun e w'=>∃ n:Int,e=.returned (.int .i64 n)∧w'=w∧decide (0≤n)=l.any (fun r=>!decide (r∈s)):=by
 obtain⟨a,c,rfl,hc,hx⟩:=hv.form
 have HW:=Lib.hid hw
 have HS:=Lib.hid hs
 have HX:=Lib.hid hx
 clear hw hs hx hv
 go_enter Tryz.func101,Tryz.ntmps101
 go_wp2_with fail
 go_loopw [5,8] (fun _ iv wr=>∃ k:Nat,k≤l.length∧iv=.int .i64 k∧wr=w∧(l.take k).any (fun r=>!decide (r∈s))=false) (fun _ iv _=>l.length - (intOf iv).toNat)
 case atStart=>exact⟨0,Nat.zero_le _,rfl,rfl,rfl⟩
 case round =>
  obtain⟨k,hk,rfl,rfl,hno⟩:=hrel
  have hk0:(0:Int)≤(k:Int):=by omega
  by_cases hlt:k<l.length
  ·obtain⟨r,hr⟩ : ∃ r,l[k]?=some r:=⟨_,List.getElem?_eq_getElem hlt⟩
   obtain⟨b,o,rfl,hcl⟩:=HX.out wr (Below.refl _ _) k r hr
   have c0:wr.cell? ⟨b,o+k,none⟩=some (.int .i64 r):=by have:=hcl 0 _ rfl;simpa using this
   have hkl:(k:Int)<(l.length:Int):=by omega
   have hcall:=unwr_any HW.out HS.out r
   have ht:(l.take (k+1)).any (fun r=>!decide (r∈s)) = !decide (r∈s):=by rw[List.take_add_one,hr];simp[hno]
   have HAN:Hid ((!decide (r∈s))=true→l.any (fun r=>!decide (r∈s))=true):=fun q=>List.any_eq_true.2 ⟨r,List.mem_of_getElem? hr,q⟩
   generalize (!decide (r∈s))=B at hcall ht HAN
   have HT:=Lib.hid ht
   clear hcl hr ht hno
   cases B
   ·go_wp2_with fail
    refine hcall.mono ?_
    rintro e w1 ⟨rfl,rfl⟩
    go_wp2_with fail
    go_roundw
    case rel=>exact⟨k+1,by omega,by go_num,by first | rfl | trivial,HT.out⟩
    case measure=>simp[intOf];omega
   ·go_wp2_with fail
    refine hcall.mono ?_
    rintro e w1 ⟨rfl,rfl⟩
    go_wp2_with fail
    go_ret
    exact⟨_,rfl,rfl,by rw[HAN.out (by first | rfl | trivial)];simp⟩
  ·have hkl:k=l.length:=by omega
   subst hkl
   rw[List.take_length] at hno
   have HNO:=Lib.hid hno
   clear hno
   go_wp2_with fail
   go_ret
   exact⟨_,rfl,rfl,by rw[HNO.out];simp⟩
set_option maxHeartbeats 1000000 in
theorem anyUn_any {w:World} {wc mb:Nat} {s:List Int} (hw:Blk w wc #[.map (some mb)] 119) (hs:SetAt w mb s) (l:List Int) (v:Value) (hv:Sl intC 1 w v l) (hl:l.length≤1000000) :
  Calls Tryz.prog 55 #[v,.func (.func 56) #[] #[.pointer (some ⟨wc,0,none⟩)]] w fun e w'=>e=.returned (.bool (l.any (fun r=>!decide (r∈s))))∧w'=w:=by
 have hcall:=firstUn_any hw hs l v hv hl
 clear hw hs hv
 go_enter Tryz.func55,Tryz.ntmps55
 go_wp2_with fail
 refine hcall.mono ?_
 rintro e w1 ⟨n,rfl,rfl,hn⟩
 have HN:=Lib.hid hn
 clear hn
 go_wp2_with fail
 go_ret
 exact⟨ret_bool HN.out,rfl⟩
end Go.Proofs.YtdmelebgdaiinaaGreatDoor
