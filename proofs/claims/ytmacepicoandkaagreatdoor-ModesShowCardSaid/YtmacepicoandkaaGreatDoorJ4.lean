/- Blocks and slices in memory, for all that follows. Nodes and expressions in memory; the operands of a node. The operands of a node: the walk. -/
import Derived.Laws.EntriesVeiled
import Derived.Deep.RegionHeld3
import Derived.Deep.QuietTactic
import Derived.BigQuiet
import Derived.StillTailTactics
import Derived.Test.YtmacepicoandkaaGreatDoorJ2
import Derived.Test.YtmacepicoandkaaGreatDoorJ3
set_option linter.unusedVariables false
set_option linter.unusedSimpArgs false
namespace Go.Proofs.YtmacepicoandkaaGreatDoor
open Go.RowKit Go.Shelf
theorem concat_bytes (a b:ByteArray):(a++b).data.toList=a.data.toList++b.data.toList:=by simp
theorem bytes_ext {a b:ByteArray} (h:a.data.toList=b.data.toList):a=b:=by
 obtain⟨⟨a⟩⟩:=a
 obtain⟨⟨b⟩⟩:=b
 simp at h;rw[h]
theorem list_size (s:ByteArray):s.data.toList.length=s.size:=by rw[Array.length_toList];rfl
theorem fields_eq {P:Program} {t:TypeId} {fs:Array Field} (h:P.underlying t=some (.struct fs)):P.fieldsOf t=fs:=by unfold Program.fieldsOf;rw[h]
def Blk (w:World) (b:Nat) (cs:Array Value) (T:Nat):Prop:=w.heap[b]?=some (.cells cs T (0,0))
theorem Blk.new (w:World) (cs:Array Value) (T:Nat):Blk (w.alloc (.cells cs T)) w.heap.size cs T:=heap_alloc_new w _
theorem Blk.below {w w':World} {b T:Nat} {cs:Array Value} (h:Blk w b cs T) (hb:Below w.heap.size w w'):Blk w' b cs T:=(hb.block b (Array.getElem?_eq_some_iff.1 h).1).trans h
theorem Blk.lt {w:World} {b T:Nat} {cs:Array Value} (h:Blk w b cs T):b<w.heap.size:=(Array.getElem?_eq_some_iff.1 h).1
theorem Blk.c {W:World} {b i T:Nat} {cs:Array Value} {v:Value} (h:Blk W b cs T) (hv:cs[i]?=some v):W.cell? ⟨b,i,none⟩=some v:=by unfold Blk at h;simp[World.cell?,h,hv]
theorem Blk.z {W:World} {b i T:Nat} {cs:Array Value} {v:Value} (h:Blk W b cs T) (_:cs[i]?=some v):W.frozen? ⟨b,i,none⟩=false:=by unfold Blk at h;simp[World.frozen?,h]
theorem one_cell {W:World} {b T:Nat} {x:Value} (h:Blk W b #[x] T):W.cell? ⟨b,0,none⟩=some x∧W.frozen? ⟨b,0,none⟩=false:=by
 unfold Blk at h;exact⟨by simp[World.cell?,h],by simp[World.frozen?,h]⟩
theorem Blk.set1 {W:World} {b T:Nat} {x:Value} (h:Blk W b #[x] T) (y:Value):Blk (W.setCell ⟨b,0,none⟩ y) b #[y] T:=by
 unfold Blk at h ⊢
 simp[World.setCell,Array.getElem?_modify,h]
theorem Blk.other {W:World} {b T:Nat} {cs:Array Value} (h:Blk W b cs T) {p:Nat} (i:Nat) (hp:b≠p) (y:Value):Blk (W.setCell ⟨p,i,none⟩ y) b cs T:=by
 unfold Blk at h ⊢
 rw[Below.heap_setCell _ _ _ _ hp];exact h
theorem Sl.lit {α:Type} {enc:α→List Value} {k:Nat} (hk:∀ x,(enc x).length=k) {w:World} {b c T:Nat} {fr:Nat×Nat} {l:List α} (h:w.heap[b]?=some (.cells (l.flatMap enc).toArray T fr)) (hc:l.length≤c):Sl enc k w (.slice (some ⟨b,0,none⟩) l.length c) l :=
 Or.inr ⟨b,0,c,rfl,hc,(Array.getElem?_eq_some_iff.1 h).1,fun i x hi j u hu=>by
  rw[cell_of_row w b (0+i * k+j) _ T fr h,Nat.zero_add]
  have:=flatMap_cell hk l i x hi j u hu
  simpa using this⟩
theorem Sl.take {α:Type} {enc:α→List Value} {k:Nat} {w:World} {a:Option Addr} {l:List α} {c n:Nat} (h:Sl enc k w (.slice a l.length c) l) (hn:n≤l.length):Sl enc k w (.slice a n c) (l.take n):=by
 rcases h with ⟨h2,a',c',h1⟩ | ⟨b,o,c',h1,hc,hlt,hx⟩
 ·subst h2;simp at hn;subst hn;exact Or.inl ⟨rfl,_,_,rfl⟩
 ·simp only[Value.slice.injEq] at h1
  obtain⟨rfl,_,rfl⟩:=h1
  refine Or.inr ⟨b,o,c,by rw[List.length_take,Nat.min_eq_left hn],by rw[List.length_take];omega,hlt,fun i x hi j u hu=>hx i x ?_ j u hu⟩
  rw[List.getElem?_take] at hi
  split at hi
  ·exact hi
  ·cases hi
def intC (x:Int):List Value:=[.int .i64 x]
theorem intC_len (x:Int):(intC x).length=1:=rfl
def strC (s:ByteArray):List Value:=[.string s]
theorem strC_len (x:ByteArray):(strC x).length=1:=rfl
def oneC (v:Value):List Value:=[v]
theorem oneC_len (x:Value):(oneC x).length=1:=rfl
theorem flat_one (l:List Value):l.flatMap oneC=l:=by induction l with
 | nil=>rfl
 | cons a l ih=>simp[List.flatMap_cons,oneC,ih]
def Sg {β:Type} (k:Nat) (P:World→List Value→β→Prop) (w:World) (v:Value) (L:List β):Prop :=
 ∃ cs:List (List Value),Sl id k w v cs∧cs.length=L.length∧∀ (i:Nat) (c:List Value) (x:β),cs[i]?=some c→L[i]?=some x→P w c x
def Keeps {β:Type} (P:World→List Value→β→Prop):Prop:=∀ (w w':World) (c:List Value) (x:β),P w c x→Below w.heap.size w w'→P w' c x
section
variable {β : Type} {k : Nat} {P : World → List Value → β → Prop} {w w' : World} {v : Value} {L : List β}
theorem Sg.below (hP:Keeps P) (h:Sg k P w v L) (hb:Below w.heap.size w w'):Sg k P w' v L:=by
 obtain⟨cs,h1,h2,h3⟩:=h
 exact⟨cs,h1.below hb,h2,fun i c x hc hx=>hP _ _ _ _ (h3 i c x hc hx) hb⟩
theorem Sg.nil_:Sg k P w (.slice none 0 0) []:=⟨[],Sl.nil_,rfl,fun i c x hc _=>by simp at hc⟩
theorem Sg.form (hP:Keeps P) (h:Sg k P w v L):∃ a c,v=.slice a L.length c∧L.length≤c∧∀ W,Below w.heap.size w W→∀ i x,L[i]?=some x→∃ b o cs,a=some ⟨b,o,none⟩∧P W cs x∧∀ j u,cs[j]?=some u→W.cell? ⟨b,o+i * k+j,none⟩=some u:=by
 obtain⟨cs,h1,h2,h3⟩:=h
 obtain⟨a,c,rfl,hc,hx⟩:=h1.form
 rw[h2]
 refine⟨a,c,rfl,by omega,fun W hW i x hi=>?_⟩
 have hi2:=(List.getElem?_eq_some_iff.1 hi).1
 obtain⟨y,hy⟩ : ∃ y,cs[i]?=some y:=⟨_,List.getElem?_eq_getElem (by omega)⟩
 obtain⟨b,o,rfl,hj⟩:=hx W hW i y hy
 exact⟨b,o,y,rfl,hP _ _ _ _ (h3 i y x hy hi) hW,hj⟩
end
def Og {β:Type} (T k:Nat) (P:World→List Value→β→Prop) (base:Nat) (w:World) (v:Value) (L:List β):Prop :=
 ∃ cs:List (List Value),w.ownsRow base T k v L.length (cs.flatMap id)∧cs.length=L.length∧(∀ c∈cs,c.length=k)∧∀ (i:Nat) (c:List Value) (x:β),cs[i]?=some c→L[i]?=some x→P w c x
section
variable {β : Type} {T k base : Nat} {P : World → List Value → β → Prop} {w w' : World} {v : Value} {L : List β}
theorem Og.nil_:Og T k P base w (.slice none 0 0) []:=⟨[],World.ownsRow_nil _ _ _ _,rfl,fun c hc=>by simp at hc,fun i c x hc _=>by simp at hc⟩
theorem Og.below (hP:Keeps P) (h:Og T k P base w v L) (hb:Below w.heap.size w w'):Og T k P base w' v L:=by
 obtain⟨cs,h1,h2,h3,h4⟩:=h
 exact⟨cs,below_row hb h1,h2,h3,fun i c x hc hx=>hP _ _ _ _ (h4 i c x hc hx) hb⟩
theorem flatMap_cell' {k:Nat} : ∀ (l:List (List Value)) (i:Nat) (x:List Value),(∀ c∈l,c.length=k)→l[i]?=some x→∀ j u,x[j]?=some u→(l.flatMap id)[i * k+j]?=some u
 | [],i,x,_,h,_,_,_=>by simp at h
 | y :: r,0,x,hk,h,j,u,hu=>by
  simp at h;subst h
  have hj:=(List.getElem?_eq_some_iff.1 hu).1
  rw[List.flatMap_cons,Nat.zero_mul,Nat.zero_add]
  show (y++_)[j]?=_
  rw[List.getElem?_append_left hj];exact hu
 | y :: r,i+1,x,hk,h,j,u,hu=>by
  have h':r[i]?=some x:=by simpa using h
  have:=flatMap_cell' r i x (fun c hc=>hk c (by simp[hc])) h' j u hu
  have hy:=hk y (by simp)
  rw[List.flatMap_cons,List.getElem?_append_right (by simp only[id];rw[hy,Nat.add_mul];omega)]
  simp only[id]
  rw[hy,show (i+1) * k+j - k=i * k+j by rw[Nat.add_mul];omega]
  exact this
theorem Og.sg (h:Og T k P base w v L):Sg k P w v L:=by
 obtain⟨cs,h1,h2,h3,h4⟩:=h
 refine⟨cs,?_,h2,h4⟩
 rcases h1.2 with ⟨rfl,h0⟩ | ⟨g,cap,cur,rfl,_,hg,hcap,_,hsz,htake⟩
 ·exact Or.inl ⟨List.eq_nil_of_length_eq_zero (by omega),none,0,rfl⟩
 ·refine Or.inr ⟨g,0,cap,by rw[h2],by omega,(Array.getElem?_eq_some_iff.1 hg).1,fun i x hi j u hu=>?_⟩
  have hc:=flatMap_cell' cs i x h3 hi j u hu
  rw[cell_of_row w g (0+i * k+j) cur T (0,0) hg,Nat.zero_add]
  rw[← htake,List.getElem?_take] at hc
  split at hc
  ·simpa using hc
  ·cases hc
theorem Og.len (h:Og T k P base w v L) (hP:Keeps P):∃ a c,v=.slice a L.length c∧L.length≤c:=by
 obtain⟨a,c,h1,h2,_⟩:=h.sg.form hP
 exact⟨a,c,h1,h2⟩
theorem Og.push (h:Og T k P base w v L) {w1:World} {v1:Value} {x:β} {news:List Value} (hP:∀ c x,P w c x→P w1 c x) (hn:news.length=k) (hx:P w1 news x)
  (ho:∀ xs,w.ownsRow base T k v L.length xs→w1.ownsRow base T k v1 (L.length+1) (xs++news)):Og T k P base w1 v1 (L++[x]):=by
 obtain⟨cs,h1,h2,h3,h4⟩:=h
 refine⟨cs++[news],?_,by simp[h2],?_,?_⟩
 ·have:=ho _ h1
  simpa using this
 ·intro c hc
  rcases List.mem_append.1 hc with hc | hc
  ·exact h3 c hc
  ·rw[List.mem_singleton.1 hc];exact hn
 ·intro i c y hc hy
  rcases Nat.lt_or_ge i L.length with hi | hi
  ·rw[List.getElem?_append_left (by omega)] at hc hy
   exact hP c y (h4 i c y hc hy)
  ·have hi2:i=L.length:=by
    have:=(List.getElem?_eq_some_iff.1 hy).1
    simp at this;omega
   subst hi2
   rw[List.getElem?_append_right (by omega)] at hc hy
   simp[h2] at hc hy
   subst hc hy;exact hx
end
end Go.Proofs.YtmacepicoandkaaGreatDoor
namespace Go.Proofs.YtmacepicoandkaaGreatDoor
open Go.RowKit Go.Shelf Tx
def ndL (x:Nd):List Value:=[.int .i64 x.op,.int .i64 x.a,.int .i64 x.b,.int .i64 x.c,.int .i64 x.n,.string x.s]
theorem ndL_len (x:Nd):(ndL x).length=6:=rfl
abbrev ndV (x:Nd):Value:=.agg #[.int .i64 x.op,.int .i64 x.a,.int .i64 x.b,.int .i64 x.c,.int .i64 x.n,.string x.s]
theorem rowNd:RowTy Tryz.prog 54 85 6 56:=RowTy.mk' (z:=.agg #[.int .i64 0,.int .i64 0,.int .i64 0,.int .i64 0,.int .i64 0,.string ⟨#[]⟩]) Tryz.underlying54 (by kernel_rfl) rfl (by omega)
theorem rowI:RowTy Tryz.prog 83 3 1 8:=RowTy.mk' (z:=.int .i64 0) Tryz.underlying83 (by kernel_rfl) rfl (by omega)
def IsE (w:World) (v:Value) (e:List Nd):Prop:=Sl ndL 6 w v e
def OwnE (base:Nat) (w:World) (v:Value) (e:List Nd):Prop:=w.ownsRow base 85 6 v e.length (e.flatMap ndL)
theorem OwnE.isE {base:Nat} {w:World} {v:Value} {e:List Nd} (h:OwnE base w v e):IsE w v e:=Sl.own ndL_len h rfl
theorem OwnE.nil_ (base:Nat) (w:World):OwnE base w (.slice none 0 0) []:=World.ownsRow_nil _ _ _ _
theorem OwnE.below {base:Nat} {w w':World} {v:Value} {e:List Nd} (h:OwnE base w v e) (hb:Below w.heap.size w w'):OwnE base w' v e:=below_row hb h
theorem OwnE.mono {base b2:Nat} {w:World} {v:Value} {e:List Nd} (h:OwnE base w v e) (hb:b2≤base):OwnE b2 w v e:=World.ownsRow.mono h hb
theorem nd_cells {W:World} {b o:Nat} {x:Nd} (h:∀ j u,(ndL x)[j]?=some u→W.cell? ⟨b,o+j,none⟩=some u) :
  W.cell? ⟨b,o,none⟩=some (.int .i64 x.op)∧W.cell? ⟨b,o+1,none⟩=some (.int .i64 x.a)∧W.cell? ⟨b,o+2,none⟩=some (.int .i64 x.b)∧W.cell? ⟨b,o+3,none⟩=some (.int .i64 x.c)∧W.cell? ⟨b,o+4,none⟩=some (.int .i64 x.n)∧W.cell? ⟨b,o+5,none⟩=some (.string x.s) :=
 ⟨h 0 _ rfl,h 1 _ rfl,h 2 _ rfl,h 3 _ rfl,h 4 _ rfl,h 5 _ rfl⟩
def RowI (base:Nat) (w:World) (v:Value) (l:List Int):Prop :=
 (l=[]∧v=.slice none 0 0)∨∃ g,v=.slice (some ⟨g,0,none⟩) l.length l.length∧base≤g∧Blk w g (l.map (Value.int .i64)).toArray 3
theorem flat_ints (l:List Int):l.flatMap intC=l.map (Value.int .i64):=by
 induction l with
 | nil=>rfl
 | cons a l ih=>rw[List.flatMap_cons,List.map_cons,ih];rfl
theorem RowI.sl {base:Nat} {w:World} {v:Value} {l:List Int} (h:RowI base w v l):Sl intC 1 w v l:=by
 rcases h with ⟨rfl,rfl⟩ | ⟨g,rfl,_,hb⟩
 ·exact Sl.nil_
 ·refine Sl.lit intC_len (T:=3) (fr:=(0,0)) ?_ (Nat.le_refl _)
  rw[flat_ints];exact hb
theorem RowI.below {base:Nat} {w w':World} {v:Value} {l:List Int} (h:RowI base w v l) (hb:Below w.heap.size w w'):RowI base w' v l:=by
 rcases h with h | ⟨g,h1,h2,h3⟩
 ·exact Or.inl h
 ·exact Or.inr ⟨g,h1,h2,h3.below hb⟩
theorem RowI.form {base:Nat} {w:World} {v:Value} {l:List Int} (h:RowI base w v l):∃ a c,v=.slice a l.length c∧l.length≤c:=by
 rcases h with ⟨rfl,rfl⟩ | ⟨g,rfl,_⟩
 ·exact⟨none,0,rfl,Nat.le_refl _⟩
 ·exact⟨_,_,rfl,Nat.le_refl _⟩
theorem RowI.at {base:Nat} {w:World} {a:Option Addr} {n c:Nat} {l:List Int} (h:RowI base w (.slice a n c) l) {t:Nat} {y:Int} (hy:l[t]?=some y):∃ g,a=some ⟨g,0,none⟩∧base≤g∧g<w.heap.size∧w.cell? ⟨g,t,none⟩=some (.int .i64 y)∧w.frozen? ⟨g,t,none⟩=false:=by
 rcases h with ⟨rfl,_⟩ | ⟨g,h1,h2,h3⟩
 ·simp at hy
 ·cases h1
  refine⟨g,rfl,h2,h3.lt,?_,?_⟩
  ·unfold Blk at h3;simp[World.cell?,h3,hy]
  ·unfold Blk at h3;simp[World.frozen?,h3]
theorem RowI.other {base:Nat} {w:World} {v:Value} {l:List Int} (h:RowI base w v l) {p:Nat} (hp:p<base) (i:Nat) (y:Value):RowI base (w.setCell ⟨p,i,none⟩ y) v l:=by
 rcases h with h | ⟨g,h1,h2,h3⟩
 ·exact Or.inl h
 ·exact Or.inr ⟨g,h1,h2,h3.other i (by omega) y⟩
theorem RowI.mono {base b2:Nat} {w:World} {v:Value} {l:List Int} (h:RowI base w v l) (hb:b2≤base):RowI b2 w v l:=by
 rcases h with h | ⟨g,h1,h2,h3⟩
 ·exact Or.inl h
 ·exact Or.inr ⟨g,h1,by omega,h3⟩
theorem RowI.drawn {base:Nat} {w:World} {v:Value} {l:List Int} (h:RowI base w v l) (k:Nat):RowI base (w.drewN k) v l:=h
def KidsPost (x:Nd) (w:World) (e:Ending) (w':World):Prop:=∃ v,e=.returned v∧RowI w.heap.size w' v (kids x)∧Below w.heap.size w w'
theorem kidsPost_nil {x:Nd} {w w':World} (h:kids x=[]) (hb:Below w.heap.size w w'):KidsPost x w (.returned (.slice none 0 0)) w':=⟨_,rfl,Or.inl ⟨h,rfl⟩,hb⟩
theorem kidsPost_row {x:Nd} {w w':World} {l:List Int} {g:Nat} {n:Nat} (h:kids x=l) (hn:l.length=n) (hg:w.heap.size≤g) (hk:Blk w' g (l.map (Value.int .i64)).toArray 3) (hb:Below w.heap.size w w'):KidsPost x w (.returned (.slice (some ⟨g,0,none⟩) n n)) w':=by
 subst h hn;exact⟨_,rfl,Or.inr ⟨g,rfl,hg,hk⟩,hb⟩
end Go.Proofs.YtmacepicoandkaaGreatDoor
namespace Go.Proofs.YtmacepicoandkaaGreatDoor
open Go.RowKit Go.Shelf Tx
set_option maxRecDepth 100000 in
set_option maxHeartbeats 1000000 in
theorem Kids_any (x:Nd) (w:World):Calls Tryz.prog 45 #[ndV x] w (KidsPost x w):=by
 obtain⟨op,a,b,c,n,s⟩:=x
 unfold ndV
 simp only[]
 have hB:Below w.heap.size w (w.alloc (.cells #[.int .i64 op,.int .i64 a,.int .i64 b,.int .i64 c,.int .i64 n,.string s] 85)):=(Below.refl _ _).alloc (Nat.le_refl _) _
 have hsz:(w.alloc (.cells #[.int .i64 op,.int .i64 a,.int .i64 b,.int .i64 c,.int .i64 n,.string s] 85)).heap.size=w.heap.size+1:=by simp
 have row:∀ l:List Value,Blk ((w.alloc (.cells #[.int .i64 op,.int .i64 a,.int .i64 b,.int .i64 c,.int .i64 n,.string s] 85)).alloc (.cells l.toArray 3)) (w.heap.size+1) l.toArray 3∧Below w.heap.size w ((w.alloc (.cells #[.int .i64 op,.int .i64 a,.int .i64 b,.int .i64 c,.int .i64 n,.string s] 85)).alloc (.cells l.toArray 3)):=fun l=>by
  refine⟨?_,hB.alloc (by rw[hsz];omega) _⟩
  have:=Blk.new (w.alloc (.cells #[.int .i64 op,.int .i64 a,.int .i64 b,.int .i64 c,.int .i64 n,.string s] 85)) l.toArray 3
  rwa [hsz] at this
 have R3:Hid _:=row [.int .i64 a,.int .i64 b,.int .i64 c]
 have R2:Hid _:=row [.int .i64 b,.int .i64 a]
 have R2':Hid _:=row [.int .i64 a,.int .i64 b]
 have R1:Hid _:=row [.int .i64 a]
 have HB:Hid _:=hB
 clear row hB hsz
 by_cases h26:op=26
 ·have e1:(op==26)=true:=by simp[h26]
  have HK:Hid (kids ⟨op,a,b,c,n,s⟩=[a,b,c]):=by show _=_;unfold kids;rw[if_pos h26]
  clear h26
  go_enter Tryz.func45,Tryz.ntmps45
  go_wp2_with fail
  go_ret
  exact kidsPost_row HK.out rfl (Nat.le_succ _) R3.out.1 R3.out.2
 have e26:(op==26)=false:=by simp[h26]
 by_cases h28:op=28
 ·have e28:(op==28)=true:=by simp[h28]
  by_cases hb:b = -1
  ·have eb:(b != -1)=false:=by simp[hb]
   have HK:Hid (kids ⟨op,a,b,c,n,s⟩=[a]):=by show _=_;unfold kids;rw[if_neg h26,if_pos h28,if_pos hb]
   have f1:(op==27)=false:=by rw[beq_eq_false_iff_ne];omega
   have f2:(6:Int)≤op:=by omega
   have f3:¬ op≤20:=by omega
   have f4:(op==4)=false:=by rw[beq_eq_false_iff_ne];omega
   have f5:(op==5)=false:=by rw[beq_eq_false_iff_ne];omega
   have f6:(21:Int)≤op:=by omega
   have f7:op≤28:=by omega
   clear h26 h28 hb
   go_enter Tryz.func45,Tryz.ntmps45
   go_wp2_with fail
   go_ret
   exact kidsPost_row HK.out rfl (Nat.le_succ _) R1.out.1 R1.out.2
  ·have eb:(b != -1)=true:=by simp[hb]
   have HK:Hid (kids ⟨op,a,b,c,n,s⟩=[b,a]):=by show _=_;unfold kids;rw[if_neg h26,if_pos h28,if_neg hb]
   clear h26 h28 hb
   go_enter Tryz.func45,Tryz.ntmps45
   go_wp2_with fail
   go_ret
   exact kidsPost_row HK.out rfl (Nat.le_succ _) R2.out.1 R2.out.2
 have e28:(op==28)=false:=by simp[h28]
 by_cases h27:op=27
 ·have e27:(op==27)=true:=by simp[h27]
  by_cases ha:a = -1
  ·have ea:(a == -1)=true:=by simp[ha]
   have HK:Hid (kids ⟨op,a,b,c,n,s⟩=[]):=by show _=_;unfold kids;rw[if_neg h26,if_neg h28,if_pos h27,if_pos ha]
   clear h26 h28 h27 ha
   go_enter Tryz.func45,Tryz.ntmps45
   go_wp2_with fail
   go_ret
   exact kidsPost_nil HK.out HB.out
  ·have ea:(a == -1)=false:=by simp[ha]
   have HK:Hid (kids ⟨op,a,b,c,n,s⟩=[a]):=by show _=_;unfold kids;rw[if_neg h26,if_neg h28,if_pos h27,if_neg ha]
   have f2:(6:Int)≤op:=by omega
   have f3:¬ op≤20:=by omega
   have f4:(op==4)=false:=by rw[beq_eq_false_iff_ne];omega
   have f5:(op==5)=false:=by rw[beq_eq_false_iff_ne];omega
   have f6:(21:Int)≤op:=by omega
   have f7:op≤28:=by omega
   clear h26 h28 h27 ha
   go_enter Tryz.func45,Tryz.ntmps45
   go_wp2_with fail
   go_ret
   exact kidsPost_row HK.out rfl (Nat.le_succ _) R1.out.1 R1.out.2
 have e27:(op==27)=false:=by simp[h27]
 by_cases h6:6≤op∧op≤20
 ·have HK:Hid (kids ⟨op,a,b,c,n,s⟩=[a,b]):=by show _=_;unfold kids;rw[if_neg h26,if_neg h28,if_neg h27,if_pos h6]
  obtain⟨f1,f2⟩:=h6
  clear h26 h28 h27
  go_enter Tryz.func45,Tryz.ntmps45
  go_wp2_with fail
  go_ret
  exact kidsPost_row HK.out rfl (Nat.le_succ _) R2'.out.1 R2'.out.2
 by_cases h4:op=4∨op=5∨(21≤op∧op≤25)
 ·have HK:Hid (kids ⟨op,a,b,c,n,s⟩=[a]):=by show _=_;unfold kids;rw[if_neg h26,if_neg h28,if_neg h27,if_neg h6,if_pos h4]
  have hor:((op==4)=true∧¬ (6:Int)≤op)∨((op==4)=false∧(op==5)=true∧¬ (6:Int)≤op)∨((op==4)=false∧(op==5)=false∧(6:Int)≤op∧¬ op≤20∧(21:Int)≤op∧op≤28):=by
   rcases h4 with h | h | ⟨h,h'⟩
   ·exact Or.inl ⟨by simp[h],by omega⟩
   ·exact Or.inr (Or.inl ⟨by simp[h],by simp[h],by omega⟩)
   ·exact Or.inr (Or.inr ⟨by rw[beq_eq_false_iff_ne];omega,by rw[beq_eq_false_iff_ne];omega,by omega,by omega,by omega,by omega⟩)
  clear h26 h28 h27 h6 h4
  rcases hor with ⟨g1,g2⟩ | ⟨g1,g2,g3⟩ | ⟨g1,g2,g3,g4,g5,g6⟩
  all_goals
   go_enter Tryz.func45,Tryz.ntmps45
   go_wp2_with fail
   go_ret
   exact kidsPost_row HK.out rfl (Nat.le_succ _) R1.out.1 R1.out.2
 ·have HK:Hid (kids ⟨op,a,b,c,n,s⟩=[]):=by show _=_;unfold kids;rw[if_neg h26,if_neg h28,if_neg h27,if_neg h6,if_neg h4]
  have g1:(op==4)=false:=by rw[beq_eq_false_iff_ne];omega
  have g2:(op==5)=false:=by rw[beq_eq_false_iff_ne];omega
  have hor:¬ (6:Int)≤op∧¬ (21:Int)≤op∨((6:Int)≤op∧¬ op≤20∧(21:Int)≤op∧¬ op≤28):=by omega
  clear h26 h28 h27 h6 h4
  rcases hor with ⟨g3,g4⟩ | ⟨g3,g4,g5,g6⟩
  all_goals
   go_enter Tryz.func45,Tryz.ntmps45
   go_wp2_with fail
   go_ret
   exact kidsPost_nil HK.out HB.out
end Go.Proofs.YtmacepicoandkaaGreatDoor
