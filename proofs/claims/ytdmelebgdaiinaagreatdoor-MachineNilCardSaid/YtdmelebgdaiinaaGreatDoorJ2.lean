/- Blocks and slices in memory, for all that follows. Machine: plain mathematics: what operators make of numbers; code that may be; a step. What lies in memory: slices apart from the blocks that turn; rows of numbers that are written. -/
import Derived.Laws.EntriesVeiled
import Derived.Deep.RegionHeld3
import Derived.Deep.QuietTactic
import Derived.BigQuiet
import Derived.StillTailTactics
import Derived.Laws.OwnMore
import Derived.Lib.SliceRun
import Derived.Test.YtdmelebgdaiinaaGreatDoorJ1
set_option linter.unusedVariables false
set_option linter.unusedSimpArgs false
namespace Go.Proofs.YtdmelebgdaiinaaGreatDoor
open Go.RowKit Go.Shelf
theorem bytes_ext {a b:ByteArray} (h:a.data.toList=b.data.toList):a=b:=by
 obtain⟨⟨a⟩⟩:=a
 obtain⟨⟨b⟩⟩:=b
 simp at h;rw[h]
def Blk (w:World) (b:Nat) (cs:Array Value) (T:Nat):Prop:=w.heap[b]?=some (.cells cs T (0,0))
theorem Blk.new (w:World) (cs:Array Value) (T:Nat):Blk (w.alloc (.cells cs T)) w.heap.size cs T:=heap_alloc_new w _
theorem Blk.below {w w':World} {b T:Nat} {cs:Array Value} (h:Blk w b cs T) (hb:Below w.heap.size w w'):Blk w' b cs T:=(hb.block b (Array.getElem?_eq_some_iff.1 h).1).trans h
theorem Blk.lt {w:World} {b T:Nat} {cs:Array Value} (h:Blk w b cs T):b<w.heap.size:=(Array.getElem?_eq_some_iff.1 h).1
theorem Blk.c {W:World} {b i T:Nat} {cs:Array Value} {v:Value} (h:Blk W b cs T) (hv:cs[i]?=some v):W.cell? ⟨b,i,none⟩=some v:=by unfold Blk at h;simp[World.cell?,h,hv]
theorem Blk.z {W:World} {b i T:Nat} {cs:Array Value} {v:Value} (h:Blk W b cs T) (_:cs[i]?=some v):W.frozen? ⟨b,i,none⟩=false:=by unfold Blk at h;simp[World.frozen?,h]
theorem Blk.other {W:World} {b T:Nat} {cs:Array Value} (h:Blk W b cs T) {p:Nat} (i:Nat) (hp:b≠p) (y:Value):Blk (W.setCell ⟨p,i,none⟩ y) b cs T:=by
 unfold Blk at h ⊢
 rw[Below.heap_setCell _ _ _ _ hp];exact h
theorem Sl.lit {α:Type} {enc:α→List Value} {k:Nat} (hk:∀ x,(enc x).length=k) {w:World} {b c T:Nat} {fr:Nat×Nat} {l:List α} (h:w.heap[b]?=some (.cells (l.flatMap enc).toArray T fr)) (hc:l.length≤c):Sl enc k w (.slice (some ⟨b,0,none⟩) l.length c) l :=
 Or.inr ⟨b,0,c,rfl,hc,(Array.getElem?_eq_some_iff.1 h).1,fun i x hi j u hu=>by
  rw[cell_of_row w b (0+i * k+j) _ T fr h,Nat.zero_add]
  have:=flatMap_cell hk l i x hi j u hu
  simpa using this⟩
theorem Sl.take {α:Type} {enc:α→List Value} {k:Nat} {w:World} {a:Option Addr} {l:List α} {c n:Nat} (h:Sl enc k w (.slice a l.length c) l) (hn:n≤l.length):Sl enc k w (.slice a n c) (l.take n):=by
 rcases h with ⟨h2,a',c',h1⟩ | ⟨b,o,c',h1,hc,hlt,hx⟩
 ·subst h2;simp at hn;subst hn;exact Or.inl ⟨rfl,_,_,rfl⟩
 ·simp only[Value.slice.injEq] at h1
  obtain⟨rfl,_,rfl⟩:=h1
  refine Or.inr ⟨b,o,c,by rw[List.length_take,Nat.min_eq_left hn],by rw[List.length_take];omega,hlt,fun i x hi j u hu=>hx i x ?_ j u hu⟩
  rw[List.getElem?_take] at hi
  split at hi
  ·exact hi
  ·cases hi
def intC (x:Int):List Value:=[.int .i64 x]
theorem intC_len (x:Int):(intC x).length=1:=rfl
def Sg {β:Type} (k:Nat) (P:World→List Value→β→Prop) (w:World) (v:Value) (L:List β):Prop :=
 ∃ cs:List (List Value),Sl id k w v cs∧cs.length=L.length∧∀ (i:Nat) (c:List Value) (x:β),cs[i]?=some c→L[i]?=some x→P w c x
def Keeps {β:Type} (P:World→List Value→β→Prop):Prop:=∀ (w w':World) (c:List Value) (x:β),P w c x→Below w.heap.size w w'→P w' c x
section
variable {β : Type} {k : Nat} {P : World → List Value → β → Prop} {w w' : World} {v : Value} {L : List β}
theorem Sg.below (hP:Keeps P) (h:Sg k P w v L) (hb:Below w.heap.size w w'):Sg k P w' v L:=by
 obtain⟨cs,h1,h2,h3⟩:=h
 exact⟨cs,h1.below hb,h2,fun i c x hc hx=>hP _ _ _ _ (h3 i c x hc hx) hb⟩
theorem Sg.nil_:Sg k P w (.slice none 0 0) []:=⟨[],Sl.nil_,rfl,fun i c x hc _=>by simp at hc⟩
theorem Sg.form (hP:Keeps P) (h:Sg k P w v L):∃ a c,v=.slice a L.length c∧L.length≤c∧∀ W,Below w.heap.size w W→∀ i x,L[i]?=some x→∃ b o cs,a=some ⟨b,o,none⟩∧P W cs x∧∀ j u,cs[j]?=some u→W.cell? ⟨b,o+i * k+j,none⟩=some u:=by
 obtain⟨cs,h1,h2,h3⟩:=h
 obtain⟨a,c,rfl,hc,hx⟩:=h1.form
 rw[h2]
 refine⟨a,c,rfl,by omega,fun W hW i x hi=>?_⟩
 have hi2:=(List.getElem?_eq_some_iff.1 hi).1
 obtain⟨y,hy⟩ : ∃ y,cs[i]?=some y:=⟨_,List.getElem?_eq_getElem (by omega)⟩
 obtain⟨b,o,rfl,hj⟩:=hx W hW i y hy
 exact⟨b,o,y,rfl,hP _ _ _ _ (h3 i y x hy hi) hW,hj⟩
end
def Og {β:Type} (T k:Nat) (P:World→List Value→β→Prop) (base:Nat) (w:World) (v:Value) (L:List β):Prop :=
 ∃ cs:List (List Value),w.ownsRow base T k v L.length (cs.flatMap id)∧cs.length=L.length∧(∀ c∈cs,c.length=k)∧∀ (i:Nat) (c:List Value) (x:β),cs[i]?=some c→L[i]?=some x→P w c x
section
variable {β : Type} {T k base : Nat} {P : World → List Value → β → Prop} {w w' : World} {v : Value} {L : List β}
theorem Og.nil_:Og T k P base w (.slice none 0 0) []:=⟨[],World.ownsRow_nil _ _ _ _,rfl,fun c hc=>by simp at hc,fun i c x hc _=>by simp at hc⟩
theorem Og.below (hP:Keeps P) (h:Og T k P base w v L) (hb:Below w.heap.size w w'):Og T k P base w' v L:=by
 obtain⟨cs,h1,h2,h3,h4⟩:=h
 exact⟨cs,below_row hb h1,h2,h3,fun i c x hc hx=>hP _ _ _ _ (h4 i c x hc hx) hb⟩
theorem flatMap_cell' {k:Nat} : ∀ (l:List (List Value)) (i:Nat) (x:List Value),(∀ c∈l,c.length=k)→l[i]?=some x→∀ j u,x[j]?=some u→(l.flatMap id)[i * k+j]?=some u
 | [],i,x,_,h,_,_,_=>by simp at h
 | y :: r,0,x,hk,h,j,u,hu=>by
  simp at h;subst h
  have hj:=(List.getElem?_eq_some_iff.1 hu).1
  rw[List.flatMap_cons,Nat.zero_mul,Nat.zero_add]
  show (y++_)[j]?=_
  rw[List.getElem?_append_left hj];exact hu
 | y :: r,i+1,x,hk,h,j,u,hu=>by
  have h':r[i]?=some x:=by simpa using h
  have:=flatMap_cell' r i x (fun c hc=>hk c (by simp[hc])) h' j u hu
  have hy:=hk y (by simp)
  rw[List.flatMap_cons,List.getElem?_append_right (by simp only[id];rw[hy,Nat.add_mul];omega)]
  simp only[id]
  rw[hy,show (i+1) * k+j - k=i * k+j by rw[Nat.add_mul];omega]
  exact this
theorem Og.sg (h:Og T k P base w v L):Sg k P w v L:=by
 obtain⟨cs,h1,h2,h3,h4⟩:=h
 refine⟨cs,?_,h2,h4⟩
 rcases h1.2 with ⟨rfl,h0⟩ | ⟨g,cap,cur,rfl,_,hg,hcap,_,hsz,htake⟩
 ·exact Or.inl ⟨List.eq_nil_of_length_eq_zero (by omega),none,0,rfl⟩
 ·refine Or.inr ⟨g,0,cap,by rw[h2],by omega,(Array.getElem?_eq_some_iff.1 hg).1,fun i x hi j u hu=>?_⟩
  have hc:=flatMap_cell' cs i x h3 hi j u hu
  rw[cell_of_row w g (0+i * k+j) cur T (0,0) hg,Nat.zero_add]
  rw[← htake,List.getElem?_take] at hc
  split at hc
  ·simpa using hc
  ·cases hc
theorem Og.len (h:Og T k P base w v L) (hP:Keeps P):∃ a c,v=.slice a L.length c∧L.length≤c:=by
 obtain⟨a,c,h1,h2,_⟩:=h.sg.form hP
 exact⟨a,c,h1,h2⟩
theorem Og.push (h:Og T k P base w v L) {w1:World} {v1:Value} {x:β} {news:List Value} (hP:∀ c x,P w c x→P w1 c x) (hn:news.length=k) (hx:P w1 news x)
  (ho:∀ xs,w.ownsRow base T k v L.length xs→w1.ownsRow base T k v1 (L.length+1) (xs++news)):Og T k P base w1 v1 (L++[x]):=by
 obtain⟨cs,h1,h2,h3,h4⟩:=h
 refine⟨cs++[news],?_,by simp[h2],?_,?_⟩
 ·have:=ho _ h1
  simpa using this
 ·intro c hc
  rcases List.mem_append.1 hc with hc | hc
  ·exact h3 c hc
  ·rw[List.mem_singleton.1 hc];exact hn
 ·intro i c y hc hy
  rcases Nat.lt_or_ge i L.length with hi | hi
  ·rw[List.getElem?_append_left (by omega)] at hc hy
   exact hP c y (h4 i c y hc hy)
  ·have hi2:i=L.length:=by
    have:=(List.getElem?_eq_some_iff.1 hy).1
    simp at this;omega
   subst hi2
   rw[List.getElem?_append_right (by omega)] at hc hy
   simp[h2] at hc hy
   subst hc hy;exact hx
end
end Go.Proofs.YtdmelebgdaiinaaGreatDoor
namespace Go.Proofs.YtdmelebgdaiinaaGreatDoor
open Go.RowKit
namespace Cx
def fits (n:Int):Bool:=decide (-2147483648≤n∧n≤2147483647)
structure In where
 op:Int
 d:Int
 a:Int
 b:Int
 c:Int
 n:Int
end Cx
end Go.Proofs.YtdmelebgdaiinaaGreatDoor
namespace Go.Proofs.YtdmelebgdaiinaaGreatDoor
open Go.RowKit
structure FrS (S:List Nat) (w w':World):Prop where
 os:w'.os=w.os
 tape:w'.tape=w.tape
 output:w'.output=w.output
 size:w.heap.size≤w'.heap.size
 block:∀ k,k<w.heap.size→k ∉ S→w'.heap[k]?=w.heap[k]?
theorem FrS.refl (S:List Nat) (w:World):FrS S w w:=⟨rfl,rfl,rfl,Nat.le_refl _,fun _ _ _=>rfl⟩
theorem FrS.of_below {w w':World} (h:Below w.heap.size w w') (S:List Nat):FrS S w w':=⟨h.os,h.tape,h.output,h.size,fun k hk _=>h.block k hk⟩
theorem FrS.trans {S S':List Nat} {a b c:World} (h:FrS S a b) (k:FrS S' b c) (hs:∀ i∈S',i<a.heap.size→i∈S):FrS S a c :=
 ⟨k.os.trans h.os,k.tape.trans h.tape,k.output.trans h.output,Nat.le_trans h.size k.size,fun i hi hn=>(k.block i (Nat.lt_of_lt_of_le hi h.size) (fun q=>hn (hs i q hi))).trans (h.block i hi hn)⟩
theorem FrS.next {S:List Nat} {a b c:World} (h:FrS S a b) (k:Below b.heap.size b c):FrS S a c:=h.trans (FrS.of_below k []) (fun i hi=>by cases hi)
theorem FrS.mono {S S':List Nat} {a b:World} (h:FrS S a b) (hs:∀ i∈S,i<a.heap.size→i∈S'):FrS S' a b:=⟨h.os,h.tape,h.output,h.size,fun i hi hn=>h.block i hi fun q=>hn (hs i q hi)⟩
theorem FrS.below {S:List Nat} {a w w':World} {B:Nat} (h:Below B a w) (k:FrS S w w') (hB:B≤w.heap.size) (hs:∀ i∈S,B≤i):Below B a w' :=
 ⟨k.os.trans h.os,k.tape.trans h.tape,k.output.trans h.output,Nat.le_trans h.size k.size,fun i hi=>(k.block i (by omega) (fun q=>by have:=hs i q;omega)).trans (h.block i hi)⟩
theorem FrS.setCell {S:List Nat} {a w:World} (h:FrS S a w) {p i:Nat} (hp:p∈S∨a.heap.size≤p) (y:Value):FrS S a (w.setCell ⟨p,i,none⟩ y) :=
 ⟨h.os,h.tape,h.output,by simpa using h.size,fun k hk hn=>by
  have:k≠p:=fun e=>by subst e;rcases hp with hp | hp;exact hn hp;omega
  rw[Below.heap_setCell _ _ _ _ this];exact h.block k hk hn⟩
theorem FrS.grown {S:List Nat} {a w w':World} {row:Option Nat} (h:FrS S a w) (hg:w.grownBy w' row) (hr:∀ q,row=some q→a.heap.size≤q):FrS S a w' :=
 ⟨hg.os.trans h.os,hg.tape.trans h.tape,hg.output.trans h.output,Nat.le_trans h.size hg.size,fun k hk hn=>(hg.block k (Nat.lt_of_lt_of_le hk h.size) (fun e=>by have:=hr k e.symm;omega)).trans (h.block k hk hn)⟩
theorem FrS.alloc {S:List Nat} {a w:World} (h:FrS S a w) (o:Obj):FrS S a (w.alloc o) :=
 ⟨h.os,h.tape,h.output,by have:=h.size;simp;omega,fun k hk hn=>(Below.heap_alloc _ _ _ (Nat.lt_of_lt_of_le hk h.size)).trans (h.block k hk hn)⟩
theorem FrS.drew {S:List Nat} {a w:World} (h:FrS S a w):FrS S a w.drew:=⟨h.os,h.tape,h.output,h.size,h.block⟩
theorem FrS.blk {S:List Nat} {w w':World} (h:FrS S w w') {b T:Nat} {cs:Array Value} (hb:Blk w b cs T) (hn:b ∉ S):Blk w' b cs T:=(h.block b hb.lt hn).trans hb
theorem FrS.drawn {S:List Nat} {a w:World} (h:FrS S a w) (n:Nat):FrS S a (w.drewN n):=⟨h.os,h.tape,h.output,h.size,h.block⟩
def SlN {α:Type} (enc:α→List Value) (k:Nat) (M:List Nat) (w:World) (v:Value) (l:List α):Prop :=
 (l=[]∧∃ a c,v=.slice a 0 c)∨∃ b o c,v=.slice (some ⟨b,o,none⟩) l.length c∧l.length≤c∧b<w.heap.size∧b ∉ M∧∀ i x,l[i]?=some x→∀ j u,(enc x)[j]?=some u→w.cell? ⟨b,o+i * k+j,none⟩=some u
section
variable {α : Type} {enc : α → List Value} {k : Nat} {w w' : World} {v : Value} {l : List α} {M M' S : List Nat}
theorem SlN.sl (h:SlN enc k M w v l):Sl enc k w v l:=by
 rcases h with h | ⟨b,o,c,h1,h2,h3,_,h4⟩
 ·exact Or.inl h
 ·exact Or.inr ⟨b,o,c,h1,h2,h3,h4⟩
theorem SlN.fr (h:SlN enc k M w v l) (hf:FrS S w w') (hS:∀ i∈S,i∈M):SlN enc k M w' v l:=by
 rcases h with h | ⟨b,o,c,h1,h2,h3,hm,h4⟩
 ·exact Or.inl h
 ·exact Or.inr ⟨b,o,c,h1,h2,Nat.lt_of_lt_of_le h3 hf.size,hm,fun i x hi j u hu=>(World.cell?_of_block (w:=w) (a:=⟨b,o+i * k+j,none⟩) (hf.block b h3 fun q=>hm (hS b q))).trans (h4 i x hi j u hu)⟩
theorem SlN.below (h:SlN enc k M w v l) (hb:Below w.heap.size w w'):SlN enc k M w' v l:=h.fr (FrS.of_below hb []) (fun i hi=>by cases hi)
theorem SlN.more (h:SlN enc k M w v l) (hM:∀ i∈M',i∈M∨w.heap.size≤i):SlN enc k M' w v l:=by
 rcases h with h | ⟨b,o,c,h1,h2,h3,hm,h4⟩
 ·exact Or.inl h
 ·exact Or.inr ⟨b,o,c,h1,h2,h3,fun q=>by rcases hM b q with q | q;exact hm q;omega,h4⟩
theorem Sl.apart (h:Sl enc k w v l) (hM:∀ i∈M,w.heap.size≤i):SlN enc k M w v l:=by
 rcases h with h | ⟨b,o,c,h1,h2,h3,h4⟩
 ·exact Or.inl h
 ·exact Or.inr ⟨b,o,c,h1,h2,h3,fun q=>by have:=hM b q;omega,h4⟩
theorem SlN.form (h:SlN enc k M w v l):∃ a c,v=.slice a l.length c∧l.length≤c∧∀ W S,FrS S w W→(∀ i∈S,i∈M∨w.heap.size≤i)→∀ i x,l[i]?=some x→∃ b o,a=some ⟨b,o,none⟩∧b<w.heap.size∧b ∉ M∧∀ j u,(enc x)[j]?=some u→W.cell? ⟨b,o+i * k+j,none⟩=some u:=by
 rcases h with ⟨rfl,a,c,rfl⟩ | ⟨b,o,c,rfl,hc,hlt,hm,hx⟩
 ·exact⟨a,c,rfl,Nat.zero_le _,fun W S _ _ i x hi=>by simp at hi⟩
 ·exact⟨_,c,rfl,hc,fun W S hW hS i x hi=>⟨b,o,rfl,hlt,hm,fun j u hu=>(World.cell?_of_block (w:=w) (a:=⟨b,o+i * k+j,none⟩) (hW.block b hlt fun q=>by rcases hS b q with q | q;exact hm q;omega)).trans (hx i x hi j u hu)⟩⟩
end
def RegsL (w:World) (rb o:Nat) (v:Value) (l:List Int):Prop :=
 (l=[]∧∃ a c,v=.slice a 0 c)∨∃ c,v=.slice (some ⟨rb,o,none⟩) l.length c∧l.length≤c∧rb<w.heap.size∧∀ i x,l[i]?=some x→w.cell? ⟨rb,o+i,none⟩=some (.int .i64 x)∧w.frozen? ⟨rb,o+i,none⟩=false
section
variable {w w' : World} {rb o : Nat} {v : Value} {l : List Int}
theorem RegsL.form (h:RegsL w rb o v l):∃ a c,v=.slice a l.length c∧l.length≤c∧(l≠[]→a=some ⟨rb,o,none⟩∧rb<w.heap.size)∧∀ i x,l[i]?=some x→w.cell? ⟨rb,o+i,none⟩=some (.int .i64 x)∧w.frozen? ⟨rb,o+i,none⟩=false:=by
 rcases h with ⟨rfl,a,c,rfl⟩ | ⟨c,rfl,hc,hb,hx⟩
 ·exact⟨a,c,rfl,Nat.zero_le _,fun q=>absurd rfl q,fun i x hi=>by simp at hi⟩
 ·exact⟨_,c,rfl,hc,fun _=>⟨rfl,hb⟩,hx⟩
theorem RegsL.of_block (h:RegsL w rb o v l) (hb:l≠[]→w'.heap[rb]?=w.heap[rb]?):RegsL w' rb o v l:=by
 rcases h with h | ⟨c,h1,hc,h2,h3⟩
 ·exact Or.inl h
 ·by_cases e:l=[]
  ·exact Or.inl ⟨e,some ⟨rb,o,none⟩,c,by rw[h1,e];rfl⟩
  ·refine Or.inr ⟨c,h1,hc,?_,fun i x hi=>?_⟩
   ·have h4:=hb e
    rw[Array.getElem?_eq_getElem h2] at h4
    exact (Array.getElem?_eq_some_iff.1 h4).1
   ·rw[World.cell?_of_block (w:=w) (a:=⟨rb,o+i,none⟩) (hb e),World.frozen?_of_block (w:=w) (a:=⟨rb,o+i,none⟩) (hb e)]
    exact h3 i x hi
theorem RegsL.lt (h:RegsL w rb o v l) (hl:l≠[]):rb<w.heap.size:=by obtain⟨_,_,_,_,h,_⟩:=h.form;exact (h hl).2
theorem RegsL.fr {S:List Nat} (h:RegsL w rb o v l) (hf:FrS S w w') (hn:l≠[]→rb ∉ S):RegsL w' rb o v l:=h.of_block fun e=>hf.block rb (h.lt e) (hn e)
theorem RegsL.below (h:RegsL w rb o v l) (hb:Below w.heap.size w w'):RegsL w' rb o v l:=h.of_block fun e=>hb.block rb (h.lt e)
theorem RegsL.drawn (h:RegsL w rb o v l) (n:Nat):RegsL (w.drewN n) rb o v l:=h
theorem RegsL.set (h:RegsL w rb o v l) (i:Nat) (y:Int):RegsL (w.setCell ⟨rb,o+i,none⟩ (.int .i64 y)) rb o v (l.set i y):=by
 rcases h with ⟨rfl,h⟩ | ⟨c,h1,hc,h2,h3⟩
 ·exact Or.inl ⟨rfl,h⟩
 ·refine Or.inr ⟨c,by rw[List.length_set];exact h1,by rw[List.length_set];exact hc,by simpa using h2,fun j x hj=>?_⟩
  rw[List.getElem?_set] at hj
  split at hj
  ·rename_i e;subst e
   split at hj
   ·rename_i hi
    cases hj
    obtain⟨q1,q2⟩:=h3 i l[i] (List.getElem?_eq_getElem hi)
    exact⟨World.cell?_setCell_same _ _ _ q1,by simpa using q2⟩
   ·cases hj
  ·rename_i e
   obtain⟨q1,q2⟩:=h3 j x hj
   refine⟨?_,by simpa using q2⟩
   have hne:(⟨rb,o+i,none⟩ : Addr)≠⟨rb,o+j,none⟩:=fun q=>e (by injection q with _ q2 _;omega)
   exact (World.cell?_setCell_other _ _ _ _ hne).trans q1
theorem RegsL.other (h:RegsL w rb o v l) {p:Nat} (hp:l≠[]→rb≠p) (i:Nat) (y:Value):RegsL (w.setCell ⟨p,i,none⟩ y) rb o v l:=h.of_block fun e=>Below.heap_setCell _ _ _ _ (hp e)
theorem RegsL.own {base n:Nat} (h:w.ownsRow base 3 1 v n (l.flatMap intC)) (hn:l.length=n):∃ rb,(l≠[]→base≤rb)∧RegsL w rb 0 v l:=by
 subst hn
 rcases h.2 with ⟨rfl,h0⟩ | ⟨g,cap,cur,rfl,hg0,hg,hcap,_,hsz,htake⟩
 ·exact⟨0,fun e=>absurd (List.eq_nil_of_length_eq_zero h0) e,Or.inl ⟨List.eq_nil_of_length_eq_zero h0,none,0,rfl⟩⟩
 ·refine⟨g,fun _=>hg0,Or.inr ⟨cap,rfl,hcap,(Array.getElem?_eq_some_iff.1 hg).1,fun i x hi=>?_⟩⟩
  have hc:=flatMap_cell (k:=1) intC_len l i x hi 0 (.int .i64 x) rfl
  rw[Nat.mul_one,Nat.add_zero,← htake,List.getElem?_take] at hc
  rw[Nat.zero_add]
  split at hc
  ·rw[cell_of_row w g i cur 3 (0,0) hg]
   exact⟨by simpa using hc,frozen_of_row w g i cur 3 hg⟩
  ·cases hc
end
end Go.Proofs.YtdmelebgdaiinaaGreatDoor
