/- Blocks and slices in memory, for all that follows. Data that came in, opened: numbers, rows of numbers; slices of things. The evaluator: the function behind slices.Backward, over an expression's nodes. -/
import Derived.Laws.EntriesVeiled
import Derived.Deep.RegionHeld3
import Derived.Deep.QuietTactic
import Derived.BigQuiet
import Derived.StillTailTactics
import Derived.Test.YtbdbhdcbdfbnnaaGreatDoorRows
import Derived.ProofKit
import Derived.OpenShut
import Derived.Lib.SmallJoins
import Derived.Deep.Slices
import Derived.Deep.Matrix
import Derived.ChangeSlices
import Derived.RangeFuncNested
import Derived.RangeFuncBound
import Derived.RangeFuncCalls
import Derived.RangeFuncLeaves
import Derived.WalkKit
import Derived.OwnWalkIn
import Derived.TacticsInMore
import Derived.LoopNIn
import Derived.LoopIn
import Derived.Outline
import Derived.Lib.Hide
import Derived.Test.YtbdbhdcbdfbnnaaGreatDoorJ1
import Derived.Test.YtbdbhdcbdfbnnaaGreatDoorJ8
set_option linter.unusedVariables false
set_option linter.unusedSimpArgs false
namespace Go.Proofs.YtbdbhdcbdfbnnaaGreatDoor
open Go.RowKit Go.Shelf
theorem bytes_ext {a b:ByteArray} (h:a.data.toList=b.data.toList):a=b:=by
 obtain⟨⟨a⟩⟩:=a
 obtain⟨⟨b⟩⟩:=b
 simp at h;rw[h]
def Blk (w:World) (b:Nat) (cs:Array Value) (T:Nat):Prop:=w.heap[b]?=some (.cells cs T (0,0))
theorem Blk.new (w:World) (cs:Array Value) (T:Nat):Blk (w.alloc (.cells cs T)) w.heap.size cs T:=heap_alloc_new w _
theorem Blk.below {w w':World} {b T:Nat} {cs:Array Value} (h:Blk w b cs T) (hb:Below w.heap.size w w'):Blk w' b cs T:=(hb.block b (Array.getElem?_eq_some_iff.1 h).1).trans h
theorem Blk.lt {w:World} {b T:Nat} {cs:Array Value} (h:Blk w b cs T):b<w.heap.size:=(Array.getElem?_eq_some_iff.1 h).1
theorem Blk.c {W:World} {b i T:Nat} {cs:Array Value} {v:Value} (h:Blk W b cs T) (hv:cs[i]?=some v):W.cell? ⟨b,i,none⟩=some v:=by unfold Blk at h;simp[World.cell?,h,hv]
theorem Blk.z {W:World} {b i T:Nat} {cs:Array Value} {v:Value} (h:Blk W b cs T) (_:cs[i]?=some v):W.frozen? ⟨b,i,none⟩=false:=by unfold Blk at h;simp[World.frozen?,h]
theorem Blk.other {W:World} {b T:Nat} {cs:Array Value} (h:Blk W b cs T) {p:Nat} (i:Nat) (hp:b≠p) (y:Value):Blk (W.setCell ⟨p,i,none⟩ y) b cs T:=by
 unfold Blk at h ⊢
 rw[Below.heap_setCell _ _ _ _ hp];exact h
theorem Sl.lit {α:Type} {enc:α→List Value} {k:Nat} (hk:∀ x,(enc x).length=k) {w:World} {b c T:Nat} {fr:Nat×Nat} {l:List α} (h:w.heap[b]?=some (.cells (l.flatMap enc).toArray T fr)) (hc:l.length≤c):Sl enc k w (.slice (some ⟨b,0,none⟩) l.length c) l :=
 Or.inr ⟨b,0,c,rfl,hc,(Array.getElem?_eq_some_iff.1 h).1,fun i x hi j u hu=>by
  rw[cell_of_row w b (0+i * k+j) _ T fr h,Nat.zero_add]
  have:=flatMap_cell hk l i x hi j u hu
  simpa using this⟩
theorem Sl.take {α:Type} {enc:α→List Value} {k:Nat} {w:World} {a:Option Addr} {l:List α} {c n:Nat} (h:Sl enc k w (.slice a l.length c) l) (hn:n≤l.length):Sl enc k w (.slice a n c) (l.take n):=by
 rcases h with ⟨h2,a',c',h1⟩ | ⟨b,o,c',h1,hc,hlt,hx⟩
 ·subst h2;simp at hn;subst hn;exact Or.inl ⟨rfl,_,_,rfl⟩
 ·simp only[Value.slice.injEq] at h1
  obtain⟨rfl,_,rfl⟩:=h1
  refine Or.inr ⟨b,o,c,by rw[List.length_take,Nat.min_eq_left hn],by rw[List.length_take];omega,hlt,fun i x hi j u hu=>hx i x ?_ j u hu⟩
  rw[List.getElem?_take] at hi
  split at hi
  ·exact hi
  ·cases hi
def intC (x:Int):List Value:=[.int .i64 x]
theorem intC_len (x:Int):(intC x).length=1:=rfl
def Sg {β:Type} (k:Nat) (P:World→List Value→β→Prop) (w:World) (v:Value) (L:List β):Prop :=
 ∃ cs:List (List Value),Sl id k w v cs∧cs.length=L.length∧∀ (i:Nat) (c:List Value) (x:β),cs[i]?=some c→L[i]?=some x→P w c x
def Keeps {β:Type} (P:World→List Value→β→Prop):Prop:=∀ (w w':World) (c:List Value) (x:β),P w c x→Below w.heap.size w w'→P w' c x
section
variable {β : Type} {k : Nat} {P : World → List Value → β → Prop} {w w' : World} {v : Value} {L : List β}
theorem Sg.below (hP:Keeps P) (h:Sg k P w v L) (hb:Below w.heap.size w w'):Sg k P w' v L:=by
 obtain⟨cs,h1,h2,h3⟩:=h
 exact⟨cs,h1.below hb,h2,fun i c x hc hx=>hP _ _ _ _ (h3 i c x hc hx) hb⟩
theorem Sg.nil_:Sg k P w (.slice none 0 0) []:=⟨[],Sl.nil_,rfl,fun i c x hc _=>by simp at hc⟩
theorem Sg.form (hP:Keeps P) (h:Sg k P w v L):∃ a c,v=.slice a L.length c∧L.length≤c∧∀ W,Below w.heap.size w W→∀ i x,L[i]?=some x→∃ b o cs,a=some ⟨b,o,none⟩∧P W cs x∧∀ j u,cs[j]?=some u→W.cell? ⟨b,o+i * k+j,none⟩=some u:=by
 obtain⟨cs,h1,h2,h3⟩:=h
 obtain⟨a,c,rfl,hc,hx⟩:=h1.form
 rw[h2]
 refine⟨a,c,rfl,by omega,fun W hW i x hi=>?_⟩
 have hi2:=(List.getElem?_eq_some_iff.1 hi).1
 obtain⟨y,hy⟩ : ∃ y,cs[i]?=some y:=⟨_,List.getElem?_eq_getElem (by omega)⟩
 obtain⟨b,o,rfl,hj⟩:=hx W hW i y hy
 exact⟨b,o,y,rfl,hP _ _ _ _ (h3 i y x hy hi) hW,hj⟩
end
def Og {β:Type} (T k:Nat) (P:World→List Value→β→Prop) (base:Nat) (w:World) (v:Value) (L:List β):Prop :=
 ∃ cs:List (List Value),w.ownsRow base T k v L.length (cs.flatMap id)∧cs.length=L.length∧(∀ c∈cs,c.length=k)∧∀ (i:Nat) (c:List Value) (x:β),cs[i]?=some c→L[i]?=some x→P w c x
section
variable {β : Type} {T k base : Nat} {P : World → List Value → β → Prop} {w w' : World} {v : Value} {L : List β}
theorem Og.nil_:Og T k P base w (.slice none 0 0) []:=⟨[],World.ownsRow_nil _ _ _ _,rfl,fun c hc=>by simp at hc,fun i c x hc _=>by simp at hc⟩
theorem Og.below (hP:Keeps P) (h:Og T k P base w v L) (hb:Below w.heap.size w w'):Og T k P base w' v L:=by
 obtain⟨cs,h1,h2,h3,h4⟩:=h
 exact⟨cs,below_row hb h1,h2,h3,fun i c x hc hx=>hP _ _ _ _ (h4 i c x hc hx) hb⟩
theorem flatMap_cell' {k:Nat} : ∀ (l:List (List Value)) (i:Nat) (x:List Value),(∀ c∈l,c.length=k)→l[i]?=some x→∀ j u,x[j]?=some u→(l.flatMap id)[i * k+j]?=some u
 | [],i,x,_,h,_,_,_=>by simp at h
 | y :: r,0,x,hk,h,j,u,hu=>by
  simp at h;subst h
  have hj:=(List.getElem?_eq_some_iff.1 hu).1
  rw[List.flatMap_cons,Nat.zero_mul,Nat.zero_add]
  show (y++_)[j]?=_
  rw[List.getElem?_append_left hj];exact hu
 | y :: r,i+1,x,hk,h,j,u,hu=>by
  have h':r[i]?=some x:=by simpa using h
  have:=flatMap_cell' r i x (fun c hc=>hk c (by simp[hc])) h' j u hu
  have hy:=hk y (by simp)
  rw[List.flatMap_cons,List.getElem?_append_right (by simp only[id];rw[hy,Nat.add_mul];omega)]
  simp only[id]
  rw[hy,show (i+1) * k+j - k=i * k+j by rw[Nat.add_mul];omega]
  exact this
theorem Og.sg (h:Og T k P base w v L):Sg k P w v L:=by
 obtain⟨cs,h1,h2,h3,h4⟩:=h
 refine⟨cs,?_,h2,h4⟩
 rcases h1.2 with ⟨rfl,h0⟩ | ⟨g,cap,cur,rfl,_,hg,hcap,_,hsz,htake⟩
 ·exact Or.inl ⟨List.eq_nil_of_length_eq_zero (by omega),none,0,rfl⟩
 ·refine Or.inr ⟨g,0,cap,by rw[h2],by omega,(Array.getElem?_eq_some_iff.1 hg).1,fun i x hi j u hu=>?_⟩
  have hc:=flatMap_cell' cs i x h3 hi j u hu
  rw[cell_of_row w g (0+i * k+j) cur T (0,0) hg,Nat.zero_add]
  rw[← htake,List.getElem?_take] at hc
  split at hc
  ·simpa using hc
  ·cases hc
theorem Og.len (h:Og T k P base w v L) (hP:Keeps P):∃ a c,v=.slice a L.length c∧L.length≤c:=by
 obtain⟨a,c,h1,h2,_⟩:=h.sg.form hP
 exact⟨a,c,h1,h2⟩
theorem Og.push (h:Og T k P base w v L) {w1:World} {v1:Value} {x:β} {news:List Value} (hP:∀ c x,P w c x→P w1 c x) (hn:news.length=k) (hx:P w1 news x)
  (ho:∀ xs,w.ownsRow base T k v L.length xs→w1.ownsRow base T k v1 (L.length+1) (xs++news)):Og T k P base w1 v1 (L++[x]):=by
 obtain⟨cs,h1,h2,h3,h4⟩:=h
 refine⟨cs++[news],?_,by simp[h2],?_,?_⟩
 ·have:=ho _ h1
  simpa using this
 ·intro c hc
  rcases List.mem_append.1 hc with hc | hc
  ·exact h3 c hc
  ·rw[List.mem_singleton.1 hc];exact hn
 ·intro i c y hc hy
  rcases Nat.lt_or_ge i L.length with hi | hi
  ·rw[List.getElem?_append_left (by omega)] at hc hy
   exact hP c y (h4 i c y hc hy)
  ·have hi2:i=L.length:=by
    have:=(List.getElem?_eq_some_iff.1 hy).1
    simp at this;omega
   subst hi2
   rw[List.getElem?_append_right (by omega)] at hc hy
   simp[h2] at hc hy
   subst hc hy;exact hx
end
end Go.Proofs.YtbdbhdcbdfbnnaaGreatDoor
namespace Go.Proofs.YtbdbhdcbdfbnnaaGreatDoor
open Go.ChangeShapes Go.WideShapes Go.ChangeAt Go.RowKit Go.Deep Go.Joins
def R64 (n:Int):Prop:=-9223372036854775808≤n∧n≤9223372036854775807
theorem cellsIntD:Tryz.prog.cellsOf 3=1:=by kernel_rfl
theorem cellsIntsD:Tryz.prog.cellsOf 23=1:=by kernel_rfl
theorem wf_r64 {n:Int} (h:(Lit.int .i64 n).wf=true):R64 n:=by
 simp[Lit.wf,IntKind.min,IntKind.max,IntKind.signed,IntKind.bits] at h
 unfold R64;omega
theorem spot_of_cellD {w:World} {a:Addr} {v:Value} (h:w.cell? a=some v):a.spot=none∧a.block<w.heap.size:=by
 unfold World.cell? at h
 split at h
 ·rename_i hb
  refine⟨?_,(Array.getElem?_eq_some_iff.1 hb).1⟩
  cases hs:a.spot
  ·rfl
  ·rw[hs] at h;simp at h
 ·simp at h
theorem add_of_spotD {a:Addr} (h:a.spot=none) (n:Nat):a.add n=⟨a.block,a.off+n,none⟩:=by
 unfold Addr.add
 split
 ·subst_vars;cases a;simp_all
 ·rfl
section
variable {H : Type} {enc : TypeId × Value → H} {W : World} {base : Nat} {held : Bool} {fuel : Nat}
theorem slice_inD {β:Type} {t e k:Nat} (ht:Tryz.prog.underlying t=some (.slice e)) (hc:Tryz.prog.cellsOf e=k) (h1:1≤k) (R:List Value→β→Prop) {v:Value} {x:DataW H×List MemPlace}
  (h:DataW.trod enc Tryz.prog W base (fun _=>true) held fuel t [v]=some x)
  (hR:∀ (n:Nat) (cs:List Value) (y:DataW H×List MemPlace),DataW.trod enc Tryz.prog W base (fun _=>true) held n e cs=some y→∃ b:β,R cs b∧cs.length=k) :
  ∃ L:List β,Sg k (fun _ c b=>R c b) W v L∧L.length≤maxLen:=by
 rcases open_slice ht h with ⟨hcs,_⟩ | ⟨a,len,cap,m,n,D,Pl,hcs,_,hle,hcm,hm,hxx,hx⟩
 ·simp at hcs;subst hcs
  exact⟨[],Sg.nil_,by simp⟩
 ·simp at hcs;subst hcs
  have hmc:m=cap:=by rw[hm];rfl
  have hx':∀ i:Fin len,∃ p:List Value×β,R p.1 p.2∧p.1.length=k∧W.cells? base (a.add (i.1 * k)) k=some p.1:=fun i=>by
   obtain⟨cs',h2,h3⟩:=hx i.1 (by have:=i.2;omega)
   obtain⟨b,h4,h5⟩:=hR _ _ _ h3
   rw[hc] at h2
   exact⟨(cs',b),h4,h5,h2⟩
  obtain⟨f,hf⟩:=Classical.axiomOfChoice hx'
  refine⟨List.ofFn fun i=>(f i).2,⟨List.ofFn fun i=>(f i).1,?_,by simp,fun i c y hc hy=>?_⟩,by rw[List.length_ofFn];omega⟩
  ·by_cases h0:len=0
   ·subst h0;exact Or.inl ⟨by simp,_,_,rfl⟩
   ·have hz:=(World.cells?_some (hf ⟨0,by omega⟩).2.2).2.2 0 (by omega)
    have hzl:=(hf ⟨0,by omega⟩).2.1
    rw[List.getElem?_eq_getElem (by omega)] at hz
    have hs:=spot_of_cellD hz
    have hs0:a.spot=none:=by simpa [Addr.add] using hs.1
    have hs1:a.block<W.heap.size:=by simpa [Addr.add] using hs.2
    have ha:a=⟨a.block,a.off,none⟩:=by cases a;simp_all
    refine Or.inr ⟨a.block,a.off,cap,by rw[List.length_ofFn,← ha],by rw[List.length_ofFn];omega,hs1,fun i c hi j u hu=>?_⟩
    rw[List.getElem?_ofFn] at hi
    split at hi
    ·rename_i hil
     simp only[Option.some.injEq] at hi
     subst hi
     obtain⟨-,g2,g3⟩:=hf ⟨i,hil⟩
     have hj:j<k:=by have:=(List.getElem?_eq_some_iff.1 hu).1;simp only[id] at this;omega
     obtain⟨r1,r2,r3⟩:=World.cells?_some g3
     have r4:=r3 j hj
     rw[add_of_spotD hs0,add_of_spotD rfl] at r4
     simp only[id] at hu
     exact r4.trans hu
    ·cases hi
  ·rw[List.getElem?_ofFn] at hc hy
   split at hc
   ·rename_i hil
    rw[dif_pos hil] at hy
    simp only[Option.some.injEq] at hc hy
    subst hc hy
    exact (hf ⟨i,hil⟩).1
   ·cases hc
theorem sl_of_sgD {α:Type} {k:Nat} {c:α→List Value} {v:Value} {L:List α} (h:Sg k (fun _ cs y=>cs=c y) W v L):Sl c k W v L:=by
 obtain⟨cs,h1,h2,h3⟩:=h
 have he:cs=L.map c:=by
  apply List.ext_getElem?
  intro i
  rcases Nat.lt_or_ge i L.length with hi | hi
  ·obtain⟨y,hy⟩ : ∃ y,L[i]?=some y:=⟨_,List.getElem?_eq_getElem hi⟩
   obtain⟨z,hz⟩ : ∃ z,cs[i]?=some z:=⟨_,List.getElem?_eq_getElem (by omega)⟩
   rw[List.getElem?_map,hy,hz,h3 i z y hz hy];rfl
  ·rw[List.getElem?_eq_none (by omega),List.getElem?_eq_none (by simpa using hi)]
 subst he
 rcases h1 with ⟨g1,a,q,rfl⟩ | ⟨b,o,q,rfl,g2,g3,g4⟩
 ·exact Or.inl ⟨by simpa using g1,a,q,rfl⟩
 ·refine Or.inr ⟨b,o,q,by simp,by simpa using g2,g3,fun i x hi j u hu=>g4 i (c x) (by rw[List.getElem?_map,hi];rfl) j u hu⟩
theorem slice_inP {β:Type} {t e k:Nat} (ht:Tryz.prog.underlying t=some (.slice e)) (hc:Tryz.prog.cellsOf e=k) (h1:1≤k) (C:β→List Value) (Q:β→Prop) {v:Value} {x:DataW H×List MemPlace}
  (h:DataW.trod enc Tryz.prog W base (fun _=>true) held fuel t [v]=some x)
  (hR:∀ (n:Nat) (cs:List Value) (y:DataW H×List MemPlace),DataW.trod enc Tryz.prog W base (fun _=>true) held n e cs=some y→∃ b:β,cs=C b∧Q b∧cs.length=k) :
  ∃ L:List β,Sl C k W v L∧L.length≤maxLen∧∀ b∈L,Q b:=by
 obtain⟨L,g1,g2⟩:=slice_inD (β:={ b:β // Q b }) ht hc h1 (fun cs b=>cs=C b.1) h (fun n cs y hy=>by
  obtain⟨b,q1,q2,q3⟩:=hR n cs y hy
  exact⟨⟨b,q2⟩,q1,q3⟩)
 have g3:Sl (fun b : { b:β // Q b }=>C b.1) k W v L:=sl_of_sgD g1
 refine⟨L.map (·.1),?_,by simpa using g2,fun b hb=>?_⟩
 ·rcases g3 with ⟨rfl,a,q,rfl⟩ | ⟨b,o,q,rfl,h2,h3,h4⟩
  ·exact Or.inl ⟨rfl,a,q,rfl⟩
  ·refine Or.inr ⟨b,o,q,by simp,by simpa using h2,h3,fun i x hi j u hu=>?_⟩
   rw[List.getElem?_map] at hi
   obtain⟨y,hy,rfl⟩:=Option.map_eq_some_iff.1 hi
   exact h4 i y hy j u hu
 ·obtain⟨y,_,rfl⟩:=List.mem_map.1 hb
  exact y.2
theorem ints_inD {v:Value} {x:DataW H×List MemPlace} (h:DataW.trod enc Tryz.prog W base (fun _=>true) held fuel 23 [v]=some x) :
  ∃ l:List Int,Sl intC 1 W v l∧l.length≤maxLen∧∀ n∈l,R64 n :=
 slice_inP Tryz.underlying23 cellsIntD (by omega) intC R64 h (fun n cs y hy=>by
  obtain⟨z,q1,_,q2⟩:=DataW.trod_int Tryz.underlying3 hy
  exact⟨z,by rw[q1];rfl,wf_r64 q2,by rw[q1];rfl⟩)
def RwP (w:World) (cs:List Value) (l:List Int):Prop:=∃ u,cs=[u]∧Sl intC 1 w u l
theorem RwP.keeps:Keeps RwP:=fun w w' c x h hb=>by obtain⟨u,h1,h2⟩:=h;exact⟨u,h1,h2.below hb⟩
theorem rows_inD {v:Value} {x:DataW H×List MemPlace} (h:DataW.trod enc Tryz.prog W base (fun _=>true) held fuel 26 [v]=some x) :
  ∃ l:List (List Int),Sg 1 RwP W v l∧l.length≤maxLen∧∀ r∈l,r.length≤maxLen∧∀ n∈r,R64 n:=by
 obtain⟨L,⟨cs,g1,g2,g3⟩,h2⟩:=slice_inD (β:={ r:List Int // r.length≤maxLen∧∀ n∈r,R64 n }) Tryz.underlying26 cellsIntsD (by omega) (fun c y=>RwP W c y.1) h (fun n cs y hy=>by
  obtain⟨u,rfl⟩ : ∃ u,cs=[u]:=by
   rcases open_slice Tryz.underlying23 hy with ⟨hcs,_⟩ | ⟨a,len,cap,m,n,D,Pl,hcs,_⟩ <;> exact⟨_,hcs⟩
  obtain⟨e,e1,e2,e3⟩:=ints_inD hy
  exact⟨⟨e,e2,e3⟩,⟨u,rfl,e1⟩,rfl⟩)
 refine⟨L.map (·.1),⟨cs,g1,by simpa using g2,fun i c x hc hx=>?_⟩,by simpa using h2,fun r hr=>?_⟩
 ·rw[List.getElem?_map] at hx
  obtain⟨y,hy,rfl⟩:=Option.map_eq_some_iff.1 hx
  exact g3 i c y hc hy
 ·obtain⟨y,_,rfl⟩:=List.mem_map.1 hr
  exact y.2
end
end Go.Proofs.YtbdbhdcbdfbnnaaGreatDoor
namespace Go.Proofs.YtbdbhdcbdfbnnaaGreatDoor
open Go.RowKit
attribute [local go_sem] Oper.semAt_some
set_option maxRecDepth 100000 in
set_option maxHeartbeats 2000000 in
theorem back_iter:Ev.IterOk Tryz.prog 229 6:=by
 refine⟨fun args w=>rfl,?_⟩
 intro l A len I W0 hI hlen hc hround h0
 obtain⟨a0,cap0,hc⟩:=hc
 have HR:=Lib.hid hround
 have HI:=Lib.hid hI
 have H0:=Lib.hid h0
 clear hround hI h0
 refine callsIn_of_wp Tryz.func229 rfl trivial ?_
 simp only[Tryz.ntmps229,List.size_toArray,List.length_cons,List.length_nil,Nat.reduceAdd,Nat.reduceSub,Array.replicate_succ,Array.replicate_zero,List.push_toArray,List.append_toArray,List.nil_append,List.cons_append]
 gi_wp2
 gi_loopw [3] (fun i wr=>∃ k:Nat,k≤len∧i=.int .i64 ((k:Int) - 1)∧I k wr) (fun i _=>(intOf i+1).toNat)
 case atStart=>exact⟨len,Nat.le_refl _,by go_num,H0.out⟩
 case round =>
  obtain⟨k,hk,rfl,hIk⟩:=hrel
  cases k with
  | zero =>
   clear hc
   gi_wp2
   go_end0
   exact⟨⟨_,rfl⟩,hIk⟩
  | succ k =>
   obtain⟨ab,ao,m,cap,us,h1,h2,h3,h4,h5⟩:=HR.out k wr hIk
   obtain⟨u0,u1,u2,u3,u4,u5,rfl⟩ : ∃ u0 u1 u2 u3 u4 u5,us=[u0,u1,u2,u3,u4,u5]:=by
    match us,h3 with
    | [u0,u1,u2,u3,u4,u5],_=>exact⟨u0,u1,u2,u3,u4,u5,rfl⟩
   have c0:wr.cell? ⟨ab,ao+k * 6,none⟩=some u0:=h4 0 _ rfl
   have c1:wr.cell? ⟨ab,ao+k * 6+1,none⟩=some u1:=h4 1 _ rfl
   have c2:wr.cell? ⟨ab,ao+k * 6+2,none⟩=some u2:=h4 2 _ rfl
   have c3:wr.cell? ⟨ab,ao+k * 6+3,none⟩=some u3:=h4 3 _ rfl
   have c4:wr.cell? ⟨ab,ao+k * 6+4,none⟩=some u4:=h4 4 _ rfl
   have c5:wr.cell? ⟨ab,ao+k * 6+5,none⟩=some u5:=h4 5 _ rfl
   have hk0:(0:Int)≤(k:Int):=by omega
   have hkm:(k:Int)<(m:Int):=by omega
   have e1:(((k+1:Nat):Int) - 1)=(k:Int):=by omega
   rw[e1]
   obtain⟨fn,tmps,assign,body,hy,hR⟩ : YieldAt Fence.wide 0 Tryz.prog l #[.int .i64 (k:Int),.agg #[u0,u1,u2,u3,u4,u5]] wr (fun e W'=>e=.returned (.bool true)∧I k W'):=h5 0
   clear hc h4 h5 e1 h3 h2
   gi_wp2
   refine⟨rfl,hR.mono ?_⟩
   rintro e W3 ⟨rfl,hI3⟩
   clear c0 c1 c2 c3 c4 c5 h1 hy hR
   gi_wp2
   go_roundw
   case rel=>exact⟨k,by omega,by go_num,hI3⟩
   case measure=>simp[intOf]
end Go.Proofs.YtbdbhdcbdfbnnaaGreatDoor
