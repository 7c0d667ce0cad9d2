/- Tokens: the plain mathematics of a lexer over lists of bytes. Tokens: plain laws of the lexer. Slices that read as lists, each element in some cells; appends of one element. Tokens in memory; bytes, texts: what both lexers share. Blocks and slices in memory, for all that follows. Machine: plain mathematics: what operators make of numbers; code that may be; a step. What lies in memory: slices apart from the blocks that turn; rows of numbers that are written. slices.Clone of numbers: the walk. (Printed.) Data that came in, opened: numbers, rows of numbers; slices of things. The evaluator: the function behind slices.Backward, over an expression's nodes. -/
import Derived.WalkKit
import Derived.WalkSpells
import Derived.Deep.Onto
import Derived.Deep.AppendLies
import Derived.Deep.Draws
import Derived.OwnWalk
import Derived.Test.YtdmelebgdaiinaaGreatDoorProg
import Derived.Shelf.Abstract
import Derived.Lib.Strings
import Derived.WalkLawsBesides
import Derived.Outline
import Derived.Laws.EntriesVeiled
import Derived.Deep.RegionHeld3
import Derived.Deep.QuietTactic
import Derived.BigQuiet
import Derived.StillTailTactics
import Derived.Laws.OwnMore
import Derived.Lib.SliceRun
import Derived.Lib.Walk
import Derived.Lib.Hide
import Derived.Test.YtdmelebgdaiinaaGreatDoorRows
import Derived.ProofKit
import Derived.OpenShut
import Derived.Lib.SmallJoins
import Derived.Deep.Slices
import Derived.Deep.Matrix
import Derived.ChangeSlices
import Derived.RangeFuncNested
import Derived.RangeFuncBound
import Derived.RangeFuncCalls
import Derived.RangeFuncLeaves
import Derived.OwnWalkIn
import Derived.TacticsInMore
import Derived.LoopNIn
import Derived.LoopIn
import Derived.Test.YtdmelebgdaiinaaGreatDoorJ4
set_option linter.unusedVariables false
set_option linter.unusedSimpArgs false
namespace Go.Proofs.YtdmelebgdaiinaaGreatDoor.Lx
abbrev Bs:=List UInt8
def isDig (c:UInt8):Bool:=48≤c&&c≤57
def isLet (c:UInt8):Bool:=(97≤c&&c≤122) || c==95
def isPt (c:UInt8):Bool:=isLet c || isDig c
def isBl (c:UInt8):Bool:=c==32 || c==9 || c==10 || c==13
def val (l:Bs):Nat:=l.foldl (fun n c=>10 * n+(c.toNat - 48)) 0
def words:List Bs:=[[97,110,100],[97,115,115,117,109,101],[98,111,111,108],[99,111,110,116,114,97,99,116],[100,105,118],[101,108,115,101],[101,110,100],[101,110,115,117,114,101],[102,97,108,108,98,97,99,107],[102,97,108,115,101],[103,104,111,115,116],[103,117,97,114,97,110,116,101,101],[104,105,115,116],[105,102],[105,109,112,111,114,116],[105,110,116],[108,101,116],[109,97,105,110],[109,111,100],[109,111,100,101],[110,111,100,101],[110,111,116],[111,110,99,101],[111,114],[112,114,101],[112,114,101,118],[114,101,113,117,105,114,101],[114,101,116,117,114,110,115],[115,105,110,99,101],[116,101,108],[116,104,101,110],[116,114,117,101],[118,97,114],[119,105,116,104,105,110],[120,111,114]]
def signs:List Bs:=[[45,62],[61,62],[60,61],[62,61],[60,62],[61],[60],[62],[43],[45],[42],[40],[41],[44],[59],[58]]
def isWord (t:Bs):Bool:=words.contains t
def isName (t:Bs):Bool:=!t.isEmpty&&decide (t.length≤40)&&t.all isPt && !(t.headD 0 |> isDig) && !isWord t
def tooBig (d:Bs):Bool:=decide (10<d.length) || decide (2147483647<val d) || (decide (1<d.length)&&d.headD 0==48)
inductive Tk where
 | err (e:Nat)
 | tok (k:Nat) (t:Bs)
def first (r:Bs):Tk :=
 let d:=r.takeWhile isDig
 if d.isEmpty then
  let p:=r.takeWhile isPt
  if isWord p then .tok 3 p else if isName p then .tok 1 p else if p.isEmpty then
   match signs.find? (·.isPrefixOf r) with
   | some t=>.tok 4 t
   | none=>.err 5
  else .err 5
 else if tooBig d then .err 2 else .tok 2 d
def afterLine (r:Bs):Bs:=(r.dropWhile (· != 10)).drop 1
structure R where
 k:Nat
 t:Bs
 m:Nat
def isCom (r:Bs):Bool:=[45,45].isPrefixOf r
def lexR:Nat→Bs→List R×Option (Nat×Nat)
 | 0,_=>([],none)
 | f+1,r =>
  let u:=r.dropWhile isBl
  if u.isEmpty then ([],none)
  else if isCom u then lexR f (afterLine u)
  else match first u with
   | .err e=>([],some (e,u.length))
   | .tok k t=>(⟨k,t,u.length⟩ :: (lexR f (u.drop t.length)).1,(lexR f (u.drop t.length)).2)
def lexS (s:Bs):List R×Option (Nat×Nat):=lexR (s.length+1) s
end Go.Proofs.YtdmelebgdaiinaaGreatDoor.Lx
namespace Go.Proofs.YtdmelebgdaiinaaGreatDoor.Lx
structure Is (k:Nat) (t:Bs):Prop where
 self:first t=.tok k t
 ne:t≠[]
 com:isCom t=false
 bl:t.dropWhile isBl=t
def Chain (s:Bs):Nat→List R→Prop
 | _,[]=>True
 | e,x :: l=>e≤s.length - x.m∧x.m≤s.length∧x.t≠[]∧x.t <+: s.drop (s.length - x.m)∧Chain s (s.length - x.m+x.t.length) l
theorem Chain.mono {s:Bs} {e e':Nat} (h:e'≤e):∀ {l:List R},Chain s e l→Chain s e' l
 | [],_=>trivial
 | _ :: _,⟨a,b⟩=>⟨Nat.le_trans h a,b⟩
def sh (n:Nat) (x:R):R:=⟨x.k,x.t,x.m+n⟩
end Go.Proofs.YtdmelebgdaiinaaGreatDoor.Lx
namespace Go.Proofs.YtdmelebgdaiinaaGreatDoor
structure Tok where
 k:Nat
 t:ByteArray
 p:Nat
end Go.Proofs.YtdmelebgdaiinaaGreatDoor
namespace Go.Proofs.YtdmelebgdaiinaaGreatDoor
open Go.RowKit
theorem below_drawn {B:Nat} {a w:World} (h:Below B a w) (n:Nat):Below B a (w.drewN n):=⟨h.os,h.tape,h.output,h.size,h.block⟩
theorem below_grow {w w':World} (h:Below w.heap.size w w') (row:Option Nat):w.grownBy w' row:=⟨h.os,h.tape,h.output,h.size,fun k hk _=>h.block k hk⟩
theorem below_next {a w w':World} (h:Below a.heap.size a w) (k:Below w.heap.size w w'):Below a.heap.size a w':=h.trans (k.mono h.size)
theorem below_row {w w':World} (h:Below w.heap.size w w') {base e size n:Nat} {v:Value} {xs:List Value} (ho:w.ownsRow base e size v n xs):w'.ownsRow base e size v n xs :=
 ho.kept (below_grow h none) (by cases v.ownBlock <;> simp)
def Sl {α:Type} (enc:α→List Value) (k:Nat) (w:World) (v:Value) (l:List α):Prop :=
 (l=[]∧∃ a c,v=.slice a 0 c)∨∃ b o c,v=.slice (some ⟨b,o,none⟩) l.length c∧l.length≤c∧b<w.heap.size∧∀ i x,l[i]?=some x→∀ j u,(enc x)[j]?=some u→w.cell? ⟨b,o+i * k+j,none⟩=some u
section
variable {α : Type} {enc : α → List Value} {k : Nat} {w w' : World} {v : Value} {l : List α}
theorem Sl.nil_:Sl enc k w (.slice none 0 0) []:=Or.inl ⟨rfl,none,0,rfl⟩
theorem Sl.below (h:Sl enc k w v l) (hb:Below w.heap.size w w'):Sl enc k w' v l:=by
 rcases h with h | ⟨b,o,c,rfl,hc,hlt,hx⟩
 ·exact Or.inl h
 ·exact Or.inr ⟨b,o,c,rfl,hc,Nat.lt_of_lt_of_le hlt hb.size,fun i x hi j u hu=>(hb.cell (p:=⟨b,o+i * k+j,none⟩) hlt).trans (hx i x hi j u hu)⟩
theorem Sl.form (h:Sl enc k w v l):∃ a c,v=.slice a l.length c∧l.length≤c∧∀ W,Below w.heap.size w W→∀ i x,l[i]?=some x→∃ b o,a=some ⟨b,o,none⟩∧∀ j u,(enc x)[j]?=some u→W.cell? ⟨b,o+i * k+j,none⟩=some u:=by
 rcases h with ⟨rfl,a,c,rfl⟩ | ⟨b,o,c,rfl,hc,hlt,hx⟩
 ·exact⟨a,c,rfl,Nat.zero_le _,fun W _ i x hi=>by simp at hi⟩
 ·exact⟨_,c,rfl,hc,fun W hW i x hi=>⟨b,o,rfl,fun j u hu=>(hW.cell (p:=⟨b,o+i * k+j,none⟩) hlt).trans (hx i x hi j u hu)⟩⟩
end
theorem flatMap_cell {α:Type} {enc:α→List Value} {k:Nat} (hk:∀ x,(enc x).length=k):∀ (l:List α) (i:Nat) (x:α),l[i]?=some x→∀ j u,(enc x)[j]?=some u→(l.flatMap enc)[i * k+j]?=some u
 | [],i,x,h,_,_,_=>by simp at h
 | y :: r,0,x,h,j,u,hu=>by
  simp at h;subst h
  have hj:j<(enc y).length:=(List.getElem?_eq_some_iff.1 hu).1
  rw[List.flatMap_cons,Nat.zero_mul,Nat.zero_add,List.getElem?_append_left hj];exact hu
 | y :: r,i+1,x,h,j,u,hu=>by
  have h':r[i]?=some x:=by simpa using h
  have:=flatMap_cell hk r i x h' j u hu
  rw[List.flatMap_cons,List.getElem?_append_right (by rw[hk,Nat.add_mul];omega),hk,show (i+1) * k+j - k=i * k+j by rw[Nat.add_mul];omega]
  exact this
theorem flatMap_len {α:Type} {enc:α→List Value} {k:Nat} (hk:∀ x,(enc x).length=k):∀ (l:List α),(l.flatMap enc).length=l.length * k
 | []=>by simp
 | y :: r=>by rw[List.flatMap_cons,List.length_append,hk,flatMap_len hk r,List.length_cons,Nat.add_mul];omega
theorem Sl.own {α:Type} {enc:α→List Value} {k:Nat} (hk:∀ x,(enc x).length=k) {w:World} {v:Value} {l:List α} {base e n:Nat} (h:w.ownsRow base e k v n (l.flatMap enc)) (hn:l.length=n):Sl enc k w v l:=by
 subst hn
 rcases h.2 with ⟨rfl,h0⟩ | ⟨g,cap,cur,rfl,_,hg,hcap,_,hsz,htake⟩
 ·exact Or.inl ⟨List.eq_nil_of_length_eq_zero h0,none,0,rfl⟩
 ·refine Or.inr ⟨g,0,cap,rfl,hcap,(Array.getElem?_eq_some_iff.1 hg).1,fun i x hi j u hu=>?_⟩
  have hc:=flatMap_cell hk l i x hi j u hu
  rw[cell_of_row w g (0+i * k+j) cur e (0,0) hg,Nat.zero_add]
  rw[← htake,List.getElem?_take] at hc
  split at hc
  ·simpa using hc
  ·cases hc
structure RowTy (P:Program) (t e size bytes:Nat):Prop where
 ht:P.underlying t=some (.slice e)
 ex:∃ i z,P.info? e=some i∧i.zero=some z∧i.size=size∧i.bytes=bytes∧z.cells.size=size
 pos:0<size
theorem RowTy.mk' {P:Program} {t e size bytes:Nat} {z:Value} (ht:P.underlying t=some (.slice e)) (h:(P.info? e).map (fun i=>(i.zero,i.size,i.bytes))=some (some z,size,bytes)) (hz:z.cells.size=size) (hp:0<size):RowTy P t e size bytes:=by
 obtain⟨i,hi,a,b,c⟩:=info_parts h
 exact⟨ht,⟨i,z,hi,a,b,c,hz⟩,hp⟩
theorem wpList_app {P:Program} {w:World} {ops:Array Oper} {rest:List Oper} {o:Oper} {a:Act} {Q:Exit→Act→World→Prop} {t e size bytes:Nat} (R:RowTy P t e size bytes) (hgd:o.guard=none) (s x:Operand)
  (ho:o.op=.call { callee:=.builtin .append,args:=#[s,x],argTypes:=#[t,t] })
  (base:Nat) (v:Value) (n:Nat) (xs:List Value) (hs:a.eval s=v) (hown:w.ownsRow base e size v n xs)
  (ad:Addr) (c:Nat) (news:List Value) (hx:a.eval x=.slice (some ad) 1 c) (hl:news.length=size) (hnews:∀ j u,news[j]?=some u→w.cell? (ad.add j)=some u) (h1:∀ u∈news,u.oneCell'=true)
  (hn:(n+1) * (bytes+1)≤140737488355328) (hbase:base≤w.heap.size) (H:Nat) (hH:w.heap.size=H)
  (h:∀ g cap w',w'.ownsRow base e size (.slice (some ⟨g,0,none⟩) (n+1) cap) (n+1) (xs++news)→w.grownBy w' v.ownBlock→(v.ownBlock=some g∨g=H)→g<w'.heap.size→n+1≤cap→wpList P ops Q rest (a.put o.dst (.slice (some ⟨g,0,none⟩) (n+1) cap)) w'):wpList P ops Q (o :: rest) a w:=by
 obtain⟨i,z,hi,hz,hsize,hby,hzs⟩:=R.ex
 have hb:(n+1) * bytes≤140737488355328:=Nat.le_trans (Nat.mul_le_mul_left _ (by omega)) hn
 have hm:n+1≤maxLen:=by
  have:(n+1) * 1≤(n+1) * (bytes+1):=Nat.mul_le_mul_left _ (by omega)
  unfold maxLen;omega
 refine wpList_append_lies w hgd s x t ho base e i z size bytes R.ht hi hz hsize hby hzs R.pos v n xs hs hown ad 1 c news hx (by rw[hl];omega) hnews h1 (by omega) hm hb hbase H hH ?_
 intro g cap w' ho' hg hat hlt
 refine h g cap w' ho' hg hat hlt ?_
 rcases ho'.2 with ⟨h0,_⟩ | ⟨g',cap',cur,h0,_,_,hc,_⟩
 ·cases h0
 ·cases h0;exact hc
end Go.Proofs.YtdmelebgdaiinaaGreatDoor
namespace Go.Proofs.YtdmelebgdaiinaaGreatDoor
open Go.RowKit Go.Shelf
namespace Lx
end Lx
theorem ret_bool {a b:Bool} (h:a=b):Ending.returned (.bool a)=.returned (.bool b):=by rw[h]
theorem size_toList (s:ByteArray):s.data.toList.length=s.size:=by rw[Array.length_toList];rfl
def tokC (x:Tok):List Value:=[.int .i64 x.k,.string x.t,.int .i64 x.p]
def tok (N:Nat) (x:Lx.R):Tok:=⟨x.k,⟨x.t.toArray⟩,N - x.m⟩
def toks (N:Nat) (l:List Lx.R):List Tok:=l.map (tok N)
structure LexLp (s:ByteArray) (w:World) (l:Value) (r:ByteArray) (done:List Lx.R) (wr:World):Prop where
 sz:r.size≤s.size
 few:done.length+r.size≤s.size
 below:Below w.heap.size w wr
 ret:wr.heap[w.heap.size]?=some (.cells #[.int .i64 0,.int .i64 0] 63 (0,0))
 own:wr.ownsRow (w.heap.size+1) 127 3 l done.length ((toks s.size done).flatMap tokC)
 eq:Lx.lexS s.data.toList=(done++(Lx.lexS r.data.toList).1,(Lx.lexS r.data.toList).2)
theorem size_of_list (r:ByteArray):r.size=r.data.toList.length:=(size_toList r).symm
theorem LexLp.step {s:ByteArray} {w:World} {l:Value} {r u:ByteArray} {done:List Lx.R} {wr w1:World} (h:LexLp s w l r done wr) (hb:Below wr.heap.size wr w1) (hu:u.size≤r.size) (he:Lx.lexS u.data.toList=Lx.lexS r.data.toList):LexLp s w l u done w1 where
 sz:=Nat.le_trans hu h.sz
 few:=Nat.le_trans (Nat.add_le_add_left hu _) h.few
 below:=below_next h.below hb
 ret:=(hb.block _ (Array.getElem?_eq_some_iff.1 h.ret).1).trans h.ret
 own:=below_row hb h.own
 eq:=by rw[he];exact h.eq
theorem LexLp.push {s:ByteArray} {w:World} {l:Value} {u u' t:ByteArray} {done:List Lx.R} {w3 w4:World} {o:Obj} {g cap k d:Nat} (h:LexLp s w l u done w3) (hd:(s.size:Int) - (u.size:Int)=(d:Int)) (hne:t.data.toList≠[]) (hle:t.size≤u.size)
  (he:Lx.lexS u.data.toList=(⟨k,t.data.toList,u.data.toList.length⟩ :: (Lx.lexS (u.data.toList.drop t.data.toList.length)).1,(Lx.lexS (u.data.toList.drop t.data.toList.length)).2))
  (hu:u'.data.toList=u.data.toList.drop t.data.toList.length)
  (ho:w4.ownsRow (w.heap.size+1) 127 3 (.slice (some ⟨g,0,none⟩) (done.length+1) cap) (done.length+1) ((toks s.size done).flatMap tokC++[.int .i64 k,.string t,.int .i64 d])) (hg:(w3.alloc o).grownBy w4 l.ownBlock) :
  LexLp s w (.slice (some ⟨g,0,none⟩) (done.length+1) cap) u' (done++[⟨k,t.data.toList,u.data.toList.length⟩]) w4:=by
 have hsz:=h.sz
 have hpos:0<t.size:=by rw[size_of_list];exact List.length_pos_iff.2 hne
 have hu2:u'.size=u.size - t.size:=by rw[size_of_list,hu,List.length_drop,size_toList,size_toList]
 have hlow:∀ k,l.ownBlock=some k→w.heap.size+1≤k:=fun k hk=>(h.own.lt k hk).1
 have hsize:=h.below.size
 have hret:=(Array.getElem?_eq_some_iff.1 h.ret).1
 refine⟨by omega,?_,?_,?_,?_,?_⟩
 ·have:=h.few;simp;omega
 ·exact (h.below.alloc hsize o).grown hg (by simp;omega) (fun q hq=>by have:=hlow q hq;omega)
 ·rw[hg.block w.heap.size (by simp;omega) (fun e=>by have:=hlow _ e.symm;omega),Below.heap_alloc _ _ _ hret];exact h.ret
 ·have e:(toks s.size (done++[⟨k,t.data.toList,u.data.toList.length⟩])).flatMap tokC=(toks s.size done).flatMap tokC++[.int .i64 k,.string t,.int .i64 d]:=by
   unfold toks
   rw[List.map_append,List.flatMap_append]
   congr 1
   have e2:s.size - u.size=d:=by omega
   simp[tok,tokC,e2]
  rw[e]
  simpa using ho
 ·rw[h.eq,he,hu];simp
end Go.Proofs.YtdmelebgdaiinaaGreatDoor
namespace Go.Proofs.YtdmelebgdaiinaaGreatDoor
open Go.RowKit Go.Shelf
theorem bytes_ext {a b:ByteArray} (h:a.data.toList=b.data.toList):a=b:=by
 obtain⟨⟨a⟩⟩:=a
 obtain⟨⟨b⟩⟩:=b
 simp at h;rw[h]
def Blk (w:World) (b:Nat) (cs:Array Value) (T:Nat):Prop:=w.heap[b]?=some (.cells cs T (0,0))
theorem Blk.new (w:World) (cs:Array Value) (T:Nat):Blk (w.alloc (.cells cs T)) w.heap.size cs T:=heap_alloc_new w _
theorem Blk.below {w w':World} {b T:Nat} {cs:Array Value} (h:Blk w b cs T) (hb:Below w.heap.size w w'):Blk w' b cs T:=(hb.block b (Array.getElem?_eq_some_iff.1 h).1).trans h
theorem Blk.lt {w:World} {b T:Nat} {cs:Array Value} (h:Blk w b cs T):b<w.heap.size:=(Array.getElem?_eq_some_iff.1 h).1
theorem Blk.c {W:World} {b i T:Nat} {cs:Array Value} {v:Value} (h:Blk W b cs T) (hv:cs[i]?=some v):W.cell? ⟨b,i,none⟩=some v:=by unfold Blk at h;simp[World.cell?,h,hv]
theorem Blk.z {W:World} {b i T:Nat} {cs:Array Value} {v:Value} (h:Blk W b cs T) (_:cs[i]?=some v):W.frozen? ⟨b,i,none⟩=false:=by unfold Blk at h;simp[World.frozen?,h]
theorem Blk.other {W:World} {b T:Nat} {cs:Array Value} (h:Blk W b cs T) {p:Nat} (i:Nat) (hp:b≠p) (y:Value):Blk (W.setCell ⟨p,i,none⟩ y) b cs T:=by
 unfold Blk at h ⊢
 rw[Below.heap_setCell _ _ _ _ hp];exact h
theorem Sl.lit {α:Type} {enc:α→List Value} {k:Nat} (hk:∀ x,(enc x).length=k) {w:World} {b c T:Nat} {fr:Nat×Nat} {l:List α} (h:w.heap[b]?=some (.cells (l.flatMap enc).toArray T fr)) (hc:l.length≤c):Sl enc k w (.slice (some ⟨b,0,none⟩) l.length c) l :=
 Or.inr ⟨b,0,c,rfl,hc,(Array.getElem?_eq_some_iff.1 h).1,fun i x hi j u hu=>by
  rw[cell_of_row w b (0+i * k+j) _ T fr h,Nat.zero_add]
  have:=flatMap_cell hk l i x hi j u hu
  simpa using this⟩
theorem Sl.take {α:Type} {enc:α→List Value} {k:Nat} {w:World} {a:Option Addr} {l:List α} {c n:Nat} (h:Sl enc k w (.slice a l.length c) l) (hn:n≤l.length):Sl enc k w (.slice a n c) (l.take n):=by
 rcases h with ⟨h2,a',c',h1⟩ | ⟨b,o,c',h1,hc,hlt,hx⟩
 ·subst h2;simp at hn;subst hn;exact Or.inl ⟨rfl,_,_,rfl⟩
 ·simp only[Value.slice.injEq] at h1
  obtain⟨rfl,_,rfl⟩:=h1
  refine Or.inr ⟨b,o,c,by rw[List.length_take,Nat.min_eq_left hn],by rw[List.length_take];omega,hlt,fun i x hi j u hu=>hx i x ?_ j u hu⟩
  rw[List.getElem?_take] at hi
  split at hi
  ·exact hi
  ·cases hi
def intC (x:Int):List Value:=[.int .i64 x]
theorem intC_len (x:Int):(intC x).length=1:=rfl
def Sg {β:Type} (k:Nat) (P:World→List Value→β→Prop) (w:World) (v:Value) (L:List β):Prop :=
 ∃ cs:List (List Value),Sl id k w v cs∧cs.length=L.length∧∀ (i:Nat) (c:List Value) (x:β),cs[i]?=some c→L[i]?=some x→P w c x
def Keeps {β:Type} (P:World→List Value→β→Prop):Prop:=∀ (w w':World) (c:List Value) (x:β),P w c x→Below w.heap.size w w'→P w' c x
section
variable {β : Type} {k : Nat} {P : World → List Value → β → Prop} {w w' : World} {v : Value} {L : List β}
theorem Sg.below (hP:Keeps P) (h:Sg k P w v L) (hb:Below w.heap.size w w'):Sg k P w' v L:=by
 obtain⟨cs,h1,h2,h3⟩:=h
 exact⟨cs,h1.below hb,h2,fun i c x hc hx=>hP _ _ _ _ (h3 i c x hc hx) hb⟩
theorem Sg.nil_:Sg k P w (.slice none 0 0) []:=⟨[],Sl.nil_,rfl,fun i c x hc _=>by simp at hc⟩
theorem Sg.form (hP:Keeps P) (h:Sg k P w v L):∃ a c,v=.slice a L.length c∧L.length≤c∧∀ W,Below w.heap.size w W→∀ i x,L[i]?=some x→∃ b o cs,a=some ⟨b,o,none⟩∧P W cs x∧∀ j u,cs[j]?=some u→W.cell? ⟨b,o+i * k+j,none⟩=some u:=by
 obtain⟨cs,h1,h2,h3⟩:=h
 obtain⟨a,c,rfl,hc,hx⟩:=h1.form
 rw[h2]
 refine⟨a,c,rfl,by omega,fun W hW i x hi=>?_⟩
 have hi2:=(List.getElem?_eq_some_iff.1 hi).1
 obtain⟨y,hy⟩ : ∃ y,cs[i]?=some y:=⟨_,List.getElem?_eq_getElem (by omega)⟩
 obtain⟨b,o,rfl,hj⟩:=hx W hW i y hy
 exact⟨b,o,y,rfl,hP _ _ _ _ (h3 i y x hy hi) hW,hj⟩
end
def Og {β:Type} (T k:Nat) (P:World→List Value→β→Prop) (base:Nat) (w:World) (v:Value) (L:List β):Prop :=
 ∃ cs:List (List Value),w.ownsRow base T k v L.length (cs.flatMap id)∧cs.length=L.length∧(∀ c∈cs,c.length=k)∧∀ (i:Nat) (c:List Value) (x:β),cs[i]?=some c→L[i]?=some x→P w c x
section
variable {β : Type} {T k base : Nat} {P : World → List Value → β → Prop} {w w' : World} {v : Value} {L : List β}
theorem Og.nil_:Og T k P base w (.slice none 0 0) []:=⟨[],World.ownsRow_nil _ _ _ _,rfl,fun c hc=>by simp at hc,fun i c x hc _=>by simp at hc⟩
theorem Og.below (hP:Keeps P) (h:Og T k P base w v L) (hb:Below w.heap.size w w'):Og T k P base w' v L:=by
 obtain⟨cs,h1,h2,h3,h4⟩:=h
 exact⟨cs,below_row hb h1,h2,h3,fun i c x hc hx=>hP _ _ _ _ (h4 i c x hc hx) hb⟩
theorem flatMap_cell' {k:Nat} : ∀ (l:List (List Value)) (i:Nat) (x:List Value),(∀ c∈l,c.length=k)→l[i]?=some x→∀ j u,x[j]?=some u→(l.flatMap id)[i * k+j]?=some u
 | [],i,x,_,h,_,_,_=>by simp at h
 | y :: r,0,x,hk,h,j,u,hu=>by
  simp at h;subst h
  have hj:=(List.getElem?_eq_some_iff.1 hu).1
  rw[List.flatMap_cons,Nat.zero_mul,Nat.zero_add]
  show (y++_)[j]?=_
  rw[List.getElem?_append_left hj];exact hu
 | y :: r,i+1,x,hk,h,j,u,hu=>by
  have h':r[i]?=some x:=by simpa using h
  have:=flatMap_cell' r i x (fun c hc=>hk c (by simp[hc])) h' j u hu
  have hy:=hk y (by simp)
  rw[List.flatMap_cons,List.getElem?_append_right (by simp only[id];rw[hy,Nat.add_mul];omega)]
  simp only[id]
  rw[hy,show (i+1) * k+j - k=i * k+j by rw[Nat.add_mul];omega]
  exact this
theorem Og.sg (h:Og T k P base w v L):Sg k P w v L:=by
 obtain⟨cs,h1,h2,h3,h4⟩:=h
 refine⟨cs,?_,h2,h4⟩
 rcases h1.2 with ⟨rfl,h0⟩ | ⟨g,cap,cur,rfl,_,hg,hcap,_,hsz,htake⟩
 ·exact Or.inl ⟨List.eq_nil_of_length_eq_zero (by omega),none,0,rfl⟩
 ·refine Or.inr ⟨g,0,cap,by rw[h2],by omega,(Array.getElem?_eq_some_iff.1 hg).1,fun i x hi j u hu=>?_⟩
  have hc:=flatMap_cell' cs i x h3 hi j u hu
  rw[cell_of_row w g (0+i * k+j) cur T (0,0) hg,Nat.zero_add]
  rw[← htake,List.getElem?_take] at hc
  split at hc
  ·simpa using hc
  ·cases hc
theorem Og.len (h:Og T k P base w v L) (hP:Keeps P):∃ a c,v=.slice a L.length c∧L.length≤c:=by
 obtain⟨a,c,h1,h2,_⟩:=h.sg.form hP
 exact⟨a,c,h1,h2⟩
theorem Og.push (h:Og T k P base w v L) {w1:World} {v1:Value} {x:β} {news:List Value} (hP:∀ c x,P w c x→P w1 c x) (hn:news.length=k) (hx:P w1 news x)
  (ho:∀ xs,w.ownsRow base T k v L.length xs→w1.ownsRow base T k v1 (L.length+1) (xs++news)):Og T k P base w1 v1 (L++[x]):=by
 obtain⟨cs,h1,h2,h3,h4⟩:=h
 refine⟨cs++[news],?_,by simp[h2],?_,?_⟩
 ·have:=ho _ h1
  simpa using this
 ·intro c hc
  rcases List.mem_append.1 hc with hc | hc
  ·exact h3 c hc
  ·rw[List.mem_singleton.1 hc];exact hn
 ·intro i c y hc hy
  rcases Nat.lt_or_ge i L.length with hi | hi
  ·rw[List.getElem?_append_left (by omega)] at hc hy
   exact hP c y (h4 i c y hc hy)
  ·have hi2:i=L.length:=by
    have:=(List.getElem?_eq_some_iff.1 hy).1
    simp at this;omega
   subst hi2
   rw[List.getElem?_append_right (by omega)] at hc hy
   simp[h2] at hc hy
   subst hc hy;exact hx
end
end Go.Proofs.YtdmelebgdaiinaaGreatDoor
namespace Go.Proofs.YtdmelebgdaiinaaGreatDoor
open Go.RowKit
namespace Cx
def fits (n:Int):Bool:=decide (-2147483648≤n∧n≤2147483647)
def opsN (op:Int):Int:=if op=4∨op=5 then 1 else if 6≤op∧op≤18 then 2 else if op=26 then 3 else -1
def trI (b:Bool):Int:=if b then 1 else 0
def ovr (n:Int):Int×Int:=if fits n then (n,0) else (0,2)
def doV (op a b c:Int):Int×Int :=
 if op=4 then (trI (a==0),0) else if op=5 then ovr (-a) else if op=6 then (trI (a != 0&&b != 0),0) else if op=7 then (trI (a != 0 || b != 0),0)
 else if op=8 then (trI ((a != 0) != (b != 0)),0) else if op=9 then (trI (a==0 || b != 0),0) else if op=10 then (trI (a==b),0) else if op=11 then (trI (a != b),0)
 else if op=12 then (trI (decide (a<b)),0) else if op=13 then (trI (decide (a≤b)),0) else if op=14 then ovr (a+b) else if op=15 then ovr (a - b) else if op=16 then ovr (a * b)
 else if op=17 then (if b=0 then (0,3) else ovr (a.tdiv b)) else if op=18 then (if b=0 then (0,3) else (a.tmod b,0)) else if op=26 then (if a=0 then c else b,0) else (0,1)
def doS (op a b c:Int):Int×Int :=
 if fits a=true∧(opsN op > 1→fits b=true)∧(opsN op > 2→fits c=true) then doV op a b c else (0,1)
structure In where
 op:Int
 d:Int
 a:Int
 b:Int
 c:Int
 n:Int
structure Co where
 ins:List In
 regs:Int
 slots:Int
 outs:List Int
 inputs:List Int
def inL (x:In):List Value:=[.int .i64 x.op,.int .i64 x.d,.int .i64 x.a,.int .i64 x.b,.int .i64 x.c,.int .i64 x.n]
theorem inL_len (x:In):(inL x).length=6:=rfl
def readsN (op:Int):Int:=if op=3∨op=1∨op=2∨op=21 then 0 else if op=30 then 1 else if op=19 then 2 else opsN op
theorem opsN_cases (op:Int):(opsN op=1∧(op=4∨op=5))∨(opsN op=2∧6≤op∧op≤18)∨(opsN op=3∧op=26)∨opsN op = -1:=by
 unfold opsN
 split
 ·left;exact⟨rfl,by assumption⟩
 ·split
  ·right;left;exact⟨rfl,by assumption⟩
  ·split
   ·right;right;left;exact⟨rfl,by assumption⟩
   ·right;right;right;rfl
theorem readsN_le (op:Int) : -1≤readsN op∧readsN op≤3:=by
 unfold readsN
 have:=opsN_cases op
 repeat' split
 all_goals omega
def rds (x:In):List Int:=[x.a,x.b,x.c].take (readsN x.op).toNat
def restS (x:In):Bool:=decide (readsN x.op<1→x.a=0)&&decide (readsN x.op<2→x.b=0)&&decide (readsN x.op<3→x.c=0)&&decide (x.op=30→x.d=0)
def numS (slots:Int) (ins:Nat) (x:In):Bool :=
 if x.op=3 then decide (0≤x.n∧x.n<(ins:Int)) else if x.op=1 then fits x.n else if x.op=2 then decide (0≤x.n∧x.n≤1) else if x.op=21∨x.op=30 then decide (0≤x.n∧x.n<slots) else decide (x.n=0)
def plainS (slots:Int) (ins:Nat) (x:In):Bool:=decide (0≤readsN x.op)&&restS x&&numS slots ins x
def chk1 (regs slots:Int) (ins:Nat) (x:In) (s:List Int×List Int):Option (List Int×List Int) :=
 if plainS slots ins x=false then none else if (rds x).all (fun r=>decide (r∈s.1))=false then none
 else if x.op=30 then (if x.n∈s.2 then none else some (s.1,x.n :: s.2))
 else if x.d<0∨regs≤x.d∨(x.op=21∧s.2≠[]) then none else some (x.d :: s.1,s.2)
def chkL (regs slots:Int) (ins:Nat):List In→List Int×List Int→Option (List Int×List Int)
 | [],s=>some s
 | x :: r,s=>match chk1 regs slots ins x s with | some t=>chkL regs slots ins r t | none=>none
def sizeS (c:Co):Bool:=decide (0≤c.regs∧c.regs≤100000∧0≤c.slots∧c.slots≤100000∧c.ins.length≤200000)
def okS (c:Co):Bool:=sizeS c&&match chkL c.regs c.slots c.inputs.length c.ins ([],[]) with | some (w,_)=>c.outs.all fun r=>decide (r∈w) | none=>false
def frameS (inputs inp:List Int):Bool:=decide (inp.length=inputs.length)&&(List.range inp.length).all fun i=>fits (inp.getD i 0)&&(!(inputs.getD i 0==1) || inp.getD i 0==0 || inp.getD i 0==1)
def madeS (x:In) (inp r sl:List Int) (first:Bool):Int×Int :=
 if x.op=3 then (inp.getD x.n.toNat 0,0) else if x.op=1∨x.op=2 then (x.n,0) else if x.op=21 then (sl.getD x.n.toNat 0,0)
 else if x.op=19 then (if first then r.getD x.a.toNat 0 else r.getD x.b.toNat 0,0)
 else doS x.op (r.getD x.a.toNat 0) (if readsN x.op ≥ 2 then r.getD x.b.toNat 0 else 0) (if readsN x.op ≥ 3 then r.getD x.c.toNat 0 else 0)
def least (f e:Int):Int:=if e≠0∧(f=0∨e<f) then e else f
structure Rs where
 r:List Int
 nx:List Int
 f:Int
def run1 (inp sl:List Int) (first:Bool) (s:Rs) (x:In):Rs :=
 if x.op=30 then { s with nx:=s.nx.set x.n.toNat (s.r.getD x.a.toNat 0) }
 else { s with r:=s.r.set x.d.toNat (madeS x inp s.r sl first).1,f:=least s.f (madeS x inp s.r sl first).2 }
def runS (inp sl:List Int) (first:Bool) (s:Rs) (l:List In):Rs:=l.foldl (run1 inp sl first) s
structure Ms where
 sl:List Int
 steps:Int
 f:Int
def beginS (c:Co):Ms:=⟨List.replicate c.slots.toNat 0,0,0⟩
def stepS (c:Co) (m:Ms) (inp:List Int):List Int×Ms :=
 if m.f≠0 then ([],m) else if frameS c.inputs inp=false then ([],{ m with f:=17 })
 else
  let q:=runS inp m.sl (m.steps==0) ⟨List.replicate c.regs.toNat 0,m.sl,0⟩ c.ins
  if q.f≠0 then ([],{ m with f:=q.f }) else (c.outs.map fun r=>q.r.getD r.toNat 0,⟨q.nx,m.steps+1,0⟩)
structure InOk (regs slots:Int) (ins:Nat) (x:In):Prop where
 reads:0≤readsN x.op
 var:x.op=3→0≤x.n∧x.n<(ins:Int)
 slot:x.op=21∨x.op=30→0≤x.n∧x.n<slots
 a:1≤readsN x.op→0≤x.a∧x.a<regs
 b:2≤readsN x.op→0≤x.b∧x.b<regs
 c:3≤readsN x.op→0≤x.c∧x.c<regs
 d:x.op≠30→0≤x.d∧x.d<regs
theorem plainS_parts {slots:Int} {ins:Nat} {x:In} (h:plainS slots ins x=true):0≤readsN x.op∧restS x=true∧numS slots ins x=true:=by
 unfold plainS at h
 simp only[Bool.and_eq_true,decide_eq_true_eq] at h
 exact⟨h.1.1,h.1.2,h.2⟩
theorem rds_mem {x:In} : (1≤readsN x.op→x.a∈rds x)∧(2≤readsN x.op→x.b∈rds x)∧(3≤readsN x.op→x.c∈rds x):=by
 have:=readsN_le x.op
 unfold rds
 generalize readsN x.op=k at *
 have:k = -1∨k=0∨k=1∨k=2∨k=3:=by omega
 rcases this with rfl | rfl | rfl | rfl | rfl <;> simp
theorem chk1_ok {regs slots:Int} {ins:Nat} {x:In} {s t:List Int×List Int} (hs:∀ r∈s.1,0≤r∧r<regs) (h:chk1 regs slots ins x s=some t):InOk regs slots ins x∧(∀ r∈t.1,0≤r∧r<regs)∧(∀ r∈s.1,r∈t.1):=by
 unfold chk1 at h
 split at h
 ·cases h
 rename_i hp
 split at h
 ·cases h
 rename_i hr
 have hp':plainS slots ins x=true:=by cases e:plainS slots ins x <;> simp_all
 have hr':(rds x).all (fun r=>decide (r∈s.1))=true:=by cases e:(rds x).all (fun r=>decide (r∈s.1)) <;> simp_all
 obtain⟨p1,p2,p3⟩:=plainS_parts hp'
 have hm:∀ r∈rds x,0≤r∧r<regs:=fun r hr2=>hs r (by simpa using List.all_eq_true.1 hr' r hr2)
 obtain⟨m1,m2,m3⟩:=@rds_mem x
 have hb:∀ (hd:x.op≠30→0≤x.d∧x.d<regs),InOk regs slots ins x:=fun hd=>by
  refine⟨p1,fun e=>?_,fun e=>?_,fun e=>hm _ (m1 e),fun e=>hm _ (m2 e),fun e=>hm _ (m3 e),hd⟩
  ·unfold numS at p3;rw[if_pos e] at p3;simpa using p3
  ·unfold numS at p3;rw[if_neg (by omega),if_neg (by omega),if_neg (by omega),if_pos e] at p3;simpa using p3
 split at h
 ·rename_i e
  split at h
  ·cases h
  ·cases h;exact⟨hb (fun q=>absurd e q),hs,fun r hr2=>hr2⟩
 ·rename_i e
  split at h
  ·cases h
  ·rename_i q
   cases h
   refine⟨hb (fun _=>by omega),fun r hr2=>?_,fun r hr2=>List.mem_cons_of_mem _ hr2⟩
   rcases List.mem_cons.1 hr2 with rfl | hr2
   ·omega
   ·exact hs r hr2
theorem chkL_ok {regs slots:Int} {ins:Nat} : ∀ {l:List In} {s t:List Int×List Int},(∀ r∈s.1,0≤r∧r<regs)→chkL regs slots ins l s=some t→(∀ x∈l,InOk regs slots ins x)∧∀ r∈t.1,0≤r∧r<regs
 | [],s,t,hs,h=>by cases h;exact⟨fun x hx=>by simp at hx,hs⟩
 | x :: r,s,t,hs,h=>by
  unfold chkL at h
  split at h
  ·rename_i u hu
   obtain⟨h1,h2,_⟩:=chk1_ok hs hu
   obtain⟨h3,h4⟩:=chkL_ok h2 h
   exact⟨fun y hy=>by
    rcases List.mem_cons.1 hy with rfl | hy
    ·exact h1
    ·exact h3 y hy,h4⟩
  ·cases h
structure CoOk (c:Co):Prop where
 size:0≤c.regs∧c.regs≤100000∧0≤c.slots∧c.slots≤100000∧c.ins.length≤200000
 ins:∀ x∈c.ins,InOk c.regs c.slots c.inputs.length x
 outs:∀ r∈c.outs,0≤r∧r<c.regs
theorem okS_ok {c:Co} (h:okS c=true):CoOk c:=by
 unfold okS at h
 rw[Bool.and_eq_true] at h
 obtain⟨h1,h2⟩:=h
 unfold sizeS at h1
 simp only[decide_eq_true_eq] at h1
 split at h2
 ·rename_i w s hw
  obtain⟨h3,h4⟩:=chkL_ok (fun r hr=>by simp at hr) hw
  exact⟨h1,h3,fun r hr=>h4 r (by simpa using List.all_eq_true.1 h2 r hr)⟩
 ·cases h2
theorem run1_len (inp sl:List Int) (first:Bool) (s:Rs) (x:In):(run1 inp sl first s x).r.length=s.r.length∧(run1 inp sl first s x).nx.length=s.nx.length:=by
 unfold run1;split <;> simp
theorem runS_snoc (inp sl:List Int) (first:Bool) (l:List In) (s:Rs) (x:In):runS inp sl first s (l++[x])=run1 inp sl first (runS inp sl first s l) x:=by simp[runS]
theorem least_le {f e:Int} (hf:0≤f) (he:0≤e):0≤least f e:=by unfold least;split <;> omega
end Cx
end Go.Proofs.YtdmelebgdaiinaaGreatDoor
namespace Go.Proofs.YtdmelebgdaiinaaGreatDoor
open Go.RowKit
structure FrS (S:List Nat) (w w':World):Prop where
 os:w'.os=w.os
 tape:w'.tape=w.tape
 output:w'.output=w.output
 size:w.heap.size≤w'.heap.size
 block:∀ k,k<w.heap.size→k ∉ S→w'.heap[k]?=w.heap[k]?
theorem FrS.refl (S:List Nat) (w:World):FrS S w w:=⟨rfl,rfl,rfl,Nat.le_refl _,fun _ _ _=>rfl⟩
theorem FrS.of_below {w w':World} (h:Below w.heap.size w w') (S:List Nat):FrS S w w':=⟨h.os,h.tape,h.output,h.size,fun k hk _=>h.block k hk⟩
theorem FrS.trans {S S':List Nat} {a b c:World} (h:FrS S a b) (k:FrS S' b c) (hs:∀ i∈S',i<a.heap.size→i∈S):FrS S a c :=
 ⟨k.os.trans h.os,k.tape.trans h.tape,k.output.trans h.output,Nat.le_trans h.size k.size,fun i hi hn=>(k.block i (Nat.lt_of_lt_of_le hi h.size) (fun q=>hn (hs i q hi))).trans (h.block i hi hn)⟩
theorem FrS.next {S:List Nat} {a b c:World} (h:FrS S a b) (k:Below b.heap.size b c):FrS S a c:=h.trans (FrS.of_below k []) (fun i hi=>by cases hi)
theorem FrS.mono {S S':List Nat} {a b:World} (h:FrS S a b) (hs:∀ i∈S,i<a.heap.size→i∈S'):FrS S' a b:=⟨h.os,h.tape,h.output,h.size,fun i hi hn=>h.block i hi fun q=>hn (hs i q hi)⟩
theorem FrS.below {S:List Nat} {a w w':World} {B:Nat} (h:Below B a w) (k:FrS S w w') (hB:B≤w.heap.size) (hs:∀ i∈S,B≤i):Below B a w' :=
 ⟨k.os.trans h.os,k.tape.trans h.tape,k.output.trans h.output,Nat.le_trans h.size k.size,fun i hi=>(k.block i (by omega) (fun q=>by have:=hs i q;omega)).trans (h.block i hi)⟩
theorem FrS.setCell {S:List Nat} {a w:World} (h:FrS S a w) {p i:Nat} (hp:p∈S∨a.heap.size≤p) (y:Value):FrS S a (w.setCell ⟨p,i,none⟩ y) :=
 ⟨h.os,h.tape,h.output,by simpa using h.size,fun k hk hn=>by
  have:k≠p:=fun e=>by subst e;rcases hp with hp | hp;exact hn hp;omega
  rw[Below.heap_setCell _ _ _ _ this];exact h.block k hk hn⟩
theorem FrS.grown {S:List Nat} {a w w':World} {row:Option Nat} (h:FrS S a w) (hg:w.grownBy w' row) (hr:∀ q,row=some q→a.heap.size≤q):FrS S a w' :=
 ⟨hg.os.trans h.os,hg.tape.trans h.tape,hg.output.trans h.output,Nat.le_trans h.size hg.size,fun k hk hn=>(hg.block k (Nat.lt_of_lt_of_le hk h.size) (fun e=>by have:=hr k e.symm;omega)).trans (h.block k hk hn)⟩
theorem FrS.alloc {S:List Nat} {a w:World} (h:FrS S a w) (o:Obj):FrS S a (w.alloc o) :=
 ⟨h.os,h.tape,h.output,by have:=h.size;simp;omega,fun k hk hn=>(Below.heap_alloc _ _ _ (Nat.lt_of_lt_of_le hk h.size)).trans (h.block k hk hn)⟩
theorem FrS.drew {S:List Nat} {a w:World} (h:FrS S a w):FrS S a w.drew:=⟨h.os,h.tape,h.output,h.size,h.block⟩
theorem FrS.blk {S:List Nat} {w w':World} (h:FrS S w w') {b T:Nat} {cs:Array Value} (hb:Blk w b cs T) (hn:b ∉ S):Blk w' b cs T:=(h.block b hb.lt hn).trans hb
theorem FrS.drawn {S:List Nat} {a w:World} (h:FrS S a w) (n:Nat):FrS S a (w.drewN n):=⟨h.os,h.tape,h.output,h.size,h.block⟩
theorem Blk.puti {W:World} {b T:Nat} {cs:Array Value} (h:Blk W b cs T) (i:Nat) (y:Value):Blk (W.setCell ⟨b,i,none⟩ y) b (cs.setIfInBounds i y) T:=heap_setCell_same W b i cs T y h
def SlN {α:Type} (enc:α→List Value) (k:Nat) (M:List Nat) (w:World) (v:Value) (l:List α):Prop :=
 (l=[]∧∃ a c,v=.slice a 0 c)∨∃ b o c,v=.slice (some ⟨b,o,none⟩) l.length c∧l.length≤c∧b<w.heap.size∧b ∉ M∧∀ i x,l[i]?=some x→∀ j u,(enc x)[j]?=some u→w.cell? ⟨b,o+i * k+j,none⟩=some u
section
variable {α : Type} {enc : α → List Value} {k : Nat} {w w' : World} {v : Value} {l : List α} {M M' S : List Nat}
theorem SlN.sl (h:SlN enc k M w v l):Sl enc k w v l:=by
 rcases h with h | ⟨b,o,c,h1,h2,h3,_,h4⟩
 ·exact Or.inl h
 ·exact Or.inr ⟨b,o,c,h1,h2,h3,h4⟩
theorem SlN.fr (h:SlN enc k M w v l) (hf:FrS S w w') (hS:∀ i∈S,i∈M):SlN enc k M w' v l:=by
 rcases h with h | ⟨b,o,c,h1,h2,h3,hm,h4⟩
 ·exact Or.inl h
 ·exact Or.inr ⟨b,o,c,h1,h2,Nat.lt_of_lt_of_le h3 hf.size,hm,fun i x hi j u hu=>(World.cell?_of_block (w:=w) (a:=⟨b,o+i * k+j,none⟩) (hf.block b h3 fun q=>hm (hS b q))).trans (h4 i x hi j u hu)⟩
theorem SlN.below (h:SlN enc k M w v l) (hb:Below w.heap.size w w'):SlN enc k M w' v l:=h.fr (FrS.of_below hb []) (fun i hi=>by cases hi)
theorem SlN.more (h:SlN enc k M w v l) (hM:∀ i∈M',i∈M∨w.heap.size≤i):SlN enc k M' w v l:=by
 rcases h with h | ⟨b,o,c,h1,h2,h3,hm,h4⟩
 ·exact Or.inl h
 ·exact Or.inr ⟨b,o,c,h1,h2,h3,fun q=>by rcases hM b q with q | q;exact hm q;omega,h4⟩
theorem Sl.apart (h:Sl enc k w v l) (hM:∀ i∈M,w.heap.size≤i):SlN enc k M w v l:=by
 rcases h with h | ⟨b,o,c,h1,h2,h3,h4⟩
 ·exact Or.inl h
 ·exact Or.inr ⟨b,o,c,h1,h2,h3,fun q=>by have:=hM b q;omega,h4⟩
theorem SlN.form (h:SlN enc k M w v l):∃ a c,v=.slice a l.length c∧l.length≤c∧∀ W S,FrS S w W→(∀ i∈S,i∈M∨w.heap.size≤i)→∀ i x,l[i]?=some x→∃ b o,a=some ⟨b,o,none⟩∧b<w.heap.size∧b ∉ M∧∀ j u,(enc x)[j]?=some u→W.cell? ⟨b,o+i * k+j,none⟩=some u:=by
 rcases h with ⟨rfl,a,c,rfl⟩ | ⟨b,o,c,rfl,hc,hlt,hm,hx⟩
 ·exact⟨a,c,rfl,Nat.zero_le _,fun W S _ _ i x hi=>by simp at hi⟩
 ·exact⟨_,c,rfl,hc,fun W S hW hS i x hi=>⟨b,o,rfl,hlt,hm,fun j u hu=>(World.cell?_of_block (w:=w) (a:=⟨b,o+i * k+j,none⟩) (hW.block b hlt fun q=>by rcases hS b q with q | q;exact hm q;omega)).trans (hx i x hi j u hu)⟩⟩
end
theorem ownsRow_apart {α:Type} {enc:α→List Value} {k:Nat} (hk:∀ x,(enc x).length=k) {w:World} {v:Value} {l:List α} {base e n:Nat} {M:List Nat} (h:w.ownsRow base e k v n (l.flatMap enc)) (hn:l.length=n) (hM:∀ i∈M,i<base):SlN enc k M w v l:=by
 subst hn
 rcases h.2 with ⟨rfl,h0⟩ | ⟨g,cap,cur,rfl,hg0,hg,hcap,_,hsz,htake⟩
 ·exact Or.inl ⟨List.eq_nil_of_length_eq_zero h0,none,0,rfl⟩
 ·refine Or.inr ⟨g,0,cap,rfl,hcap,(Array.getElem?_eq_some_iff.1 hg).1,fun q=>by have:=hM g q;omega,fun i x hi j u hu=>?_⟩
  have hc:=flatMap_cell hk l i x hi j u hu
  rw[cell_of_row w g (0+i * k+j) cur e (0,0) hg,Nat.zero_add]
  rw[← htake,List.getElem?_take] at hc
  split at hc
  ·simpa using hc
  ·cases hc
def RegsL (w:World) (rb o:Nat) (v:Value) (l:List Int):Prop :=
 (l=[]∧∃ a c,v=.slice a 0 c)∨∃ c,v=.slice (some ⟨rb,o,none⟩) l.length c∧l.length≤c∧rb<w.heap.size∧∀ i x,l[i]?=some x→w.cell? ⟨rb,o+i,none⟩=some (.int .i64 x)∧w.frozen? ⟨rb,o+i,none⟩=false
section
variable {w w' : World} {rb o : Nat} {v : Value} {l : List Int}
theorem RegsL.form (h:RegsL w rb o v l):∃ a c,v=.slice a l.length c∧l.length≤c∧(l≠[]→a=some ⟨rb,o,none⟩∧rb<w.heap.size)∧∀ i x,l[i]?=some x→w.cell? ⟨rb,o+i,none⟩=some (.int .i64 x)∧w.frozen? ⟨rb,o+i,none⟩=false:=by
 rcases h with ⟨rfl,a,c,rfl⟩ | ⟨c,rfl,hc,hb,hx⟩
 ·exact⟨a,c,rfl,Nat.zero_le _,fun q=>absurd rfl q,fun i x hi=>by simp at hi⟩
 ·exact⟨_,c,rfl,hc,fun _=>⟨rfl,hb⟩,hx⟩
theorem RegsL.of_block (h:RegsL w rb o v l) (hb:l≠[]→w'.heap[rb]?=w.heap[rb]?):RegsL w' rb o v l:=by
 rcases h with h | ⟨c,h1,hc,h2,h3⟩
 ·exact Or.inl h
 ·by_cases e:l=[]
  ·exact Or.inl ⟨e,some ⟨rb,o,none⟩,c,by rw[h1,e];rfl⟩
  ·refine Or.inr ⟨c,h1,hc,?_,fun i x hi=>?_⟩
   ·have h4:=hb e
    rw[Array.getElem?_eq_getElem h2] at h4
    exact (Array.getElem?_eq_some_iff.1 h4).1
   ·rw[World.cell?_of_block (w:=w) (a:=⟨rb,o+i,none⟩) (hb e),World.frozen?_of_block (w:=w) (a:=⟨rb,o+i,none⟩) (hb e)]
    exact h3 i x hi
theorem RegsL.lt (h:RegsL w rb o v l) (hl:l≠[]):rb<w.heap.size:=by obtain⟨_,_,_,_,h,_⟩:=h.form;exact (h hl).2
theorem RegsL.fr {S:List Nat} (h:RegsL w rb o v l) (hf:FrS S w w') (hn:l≠[]→rb ∉ S):RegsL w' rb o v l:=h.of_block fun e=>hf.block rb (h.lt e) (hn e)
theorem RegsL.below (h:RegsL w rb o v l) (hb:Below w.heap.size w w'):RegsL w' rb o v l:=h.of_block fun e=>hb.block rb (h.lt e)
theorem RegsL.drawn (h:RegsL w rb o v l) (n:Nat):RegsL (w.drewN n) rb o v l:=h
theorem RegsL.set (h:RegsL w rb o v l) (i:Nat) (y:Int):RegsL (w.setCell ⟨rb,o+i,none⟩ (.int .i64 y)) rb o v (l.set i y):=by
 rcases h with ⟨rfl,h⟩ | ⟨c,h1,hc,h2,h3⟩
 ·exact Or.inl ⟨rfl,h⟩
 ·refine Or.inr ⟨c,by rw[List.length_set];exact h1,by rw[List.length_set];exact hc,by simpa using h2,fun j x hj=>?_⟩
  rw[List.getElem?_set] at hj
  split at hj
  ·rename_i e;subst e
   split at hj
   ·rename_i hi
    cases hj
    obtain⟨q1,q2⟩:=h3 i l[i] (List.getElem?_eq_getElem hi)
    exact⟨World.cell?_setCell_same _ _ _ q1,by simpa using q2⟩
   ·cases hj
  ·rename_i e
   obtain⟨q1,q2⟩:=h3 j x hj
   refine⟨?_,by simpa using q2⟩
   have hne:(⟨rb,o+i,none⟩ : Addr)≠⟨rb,o+j,none⟩:=fun q=>e (by injection q with _ q2 _;omega)
   exact (World.cell?_setCell_other _ _ _ _ hne).trans q1
theorem RegsL.other (h:RegsL w rb o v l) {p:Nat} (hp:l≠[]→rb≠p) (i:Nat) (y:Value):RegsL (w.setCell ⟨p,i,none⟩ y) rb o v l:=h.of_block fun e=>Below.heap_setCell _ _ _ _ (hp e)
theorem RegsL.sln {M:List Nat} (h:RegsL w rb o v l) (hn:l≠[]→rb ∉ M):SlN intC 1 M w v l:=by
 by_cases e:l=[]
 ·subst e
  rcases h with ⟨_,h⟩ | ⟨c,h1,_⟩
  ·exact Or.inl ⟨rfl,h⟩
  ·exact Or.inl ⟨rfl,some ⟨rb,o,none⟩,c,h1⟩
 ·rcases h with ⟨h,_⟩ | ⟨c,h1,hc,h2,h3⟩
  ·exact absurd h e
  ·refine Or.inr ⟨rb,o,c,h1,hc,h2,hn e,fun i x hi j u hu=>?_⟩
   cases j with
   | succ j=>simp[intC] at hu
   | zero =>
    simp[intC] at hu;subst hu
    rw[Nat.mul_one,Nat.add_zero]
    exact (h3 i x hi).1
theorem RegsL.own {base n:Nat} (h:w.ownsRow base 3 1 v n (l.flatMap intC)) (hn:l.length=n):∃ rb,(l≠[]→base≤rb)∧RegsL w rb 0 v l:=by
 subst hn
 rcases h.2 with ⟨rfl,h0⟩ | ⟨g,cap,cur,rfl,hg0,hg,hcap,_,hsz,htake⟩
 ·exact⟨0,fun e=>absurd (List.eq_nil_of_length_eq_zero h0) e,Or.inl ⟨List.eq_nil_of_length_eq_zero h0,none,0,rfl⟩⟩
 ·refine⟨g,fun _=>hg0,Or.inr ⟨cap,rfl,hcap,(Array.getElem?_eq_some_iff.1 hg).1,fun i x hi=>?_⟩⟩
  have hc:=flatMap_cell (k:=1) intC_len l i x hi 0 (.int .i64 x) rfl
  rw[Nat.mul_one,Nat.add_zero,← htake,List.getElem?_take] at hc
  rw[Nat.zero_add]
  split at hc
  ·rw[cell_of_row w g i cur 3 (0,0) hg]
   exact⟨by simpa using hc,frozen_of_row w g i cur 3 hg⟩
  ·cases hc
end
end Go.Proofs.YtdmelebgdaiinaaGreatDoor
namespace Go.Proofs.YtdmelebgdaiinaaGreatDoor
open Go.RowKit
theorem flat_at {α:Type} {enc:α→List Value} {k:Nat} (hk:∀ x,(enc x).length=k) (h0:0<k):∀ (l:List α) (j:Nat) (u:Value),(l.flatMap enc)[j]?=some u→∃ i q x,l[i]?=some x∧(enc x)[q]?=some u∧i * k+q=j
 | [],j,u,h=>by simp at h
 | y :: r,j,u,h=>by
  rw[List.flatMap_cons] at h
  by_cases hj:j<k
  ·rw[List.getElem?_append_left (by rw[hk];exact hj)] at h
   exact⟨0,j,y,rfl,h,by omega⟩
  ·rw[List.getElem?_append_right (by rw[hk];omega),hk] at h
   obtain⟨i,q,x,h1,h2,h3⟩:=flat_at hk h0 r (j - k) u h
   exact⟨i+1,q,x,by simpa using h1,h2,by rw[Nat.add_mul];omega⟩
theorem rowIM:RowTy Tryz.prog 23 3 1 8:=RowTy.mk' (z:=.int .i64 0) Tryz.underlying23 (by kernel_rfl) rfl (by omega)
set_option maxRecDepth 100000 in
theorem cloneI_any (l:List Int) (v:Value) (w:World) (hv:Sl intC 1 w v l) (hl:l.length≤1000000) :
  Calls Tryz.prog 26 #[v] w fun e w'=>∃ u,e=.returned u∧w'.ownsRow w.heap.size 3 1 u l.length (l.flatMap intC)∧Below w.heap.size w w':=by
 obtain⟨a,c,rfl,hc,hx⟩:=hv.form
 have hq:∀ (w:World) (a:Option Addr) (n c n' c':Nat),(binOp .eql 23 (.slice a n c) (.slice none n' c')).run Tryz.prog w=.ok (.bool a.isNone) w:=fun w a n c n' c'=>Lib.run_eql_slice_nil w _ _ a n c n' c' Tryz.underlying23
 have H1:Hid (∀ (w':World),Below w.heap.size w w'→∀ j u,(l.flatMap intC)[j]?=some u→∃ ad,a=some ad∧w'.cell? (ad.add j)=some u):=by
  intro w' hw' j u hu
  obtain⟨i,q,x,hi,hq1,hj⟩:=flat_at (k:=1) intC_len (by decide) l j u hu
  obtain⟨b,o,e,h2⟩:=hx w' hw' i x hi
  exact⟨_,e,by rw[← hj,Addr.add_lit,← Nat.add_assoc];exact h2 q u hq1⟩
 have H2:Hid (a=none→l=[]):=fun e=>by
  show _=_
  cases l with
  | nil=>rfl
  | cons x r=>obtain⟨b,o,e2,_⟩:=hx w (Below.refl _ _) 0 x rfl;rw[e] at e2;cases e2
 have H3:Hid ((l.flatMap intC).length=l.length * 1):=flatMap_len intC_len l
 have H4:Hid (∀ u∈l.flatMap intC,u.oneCell'=true):=by
  intro u hu
  obtain⟨x,_,hx⟩:=List.mem_flatMap.1 hu
  simp[intC] at hx
  simp_all [Value.oneCell']
 obtain⟨n,hn⟩ : ∃ n,n=l.length:=⟨_,rfl⟩
 rw[← hn] at hc hl H3 ⊢
 clear hx hv
 cases a with
 | none =>
  have hl0:=H2.out rfl
  have hn0:n=0:=by rw[hn,hl0];rfl
  subst hn0
  have HL:=Lib.hid hl0
  clear hn hl0
  go_enter Tryz.func26,Tryz.ntmps26
  go_wp2_with fail
  go_ret
  refine⟨_,rfl,?_,Below.refl _ _⟩
  rw[HL.out]
  exact World.ownsRow_nil _ _ _ _
 | some ad =>
  have HN:=Lib.hid hn
  clear hn
  obtain⟨i0,z,hi,hz,hs1,hby,hzs⟩:=rowIM.ex
  go_enter Tryz.func26,Tryz.ntmps26
  go_wp2_with (at_builtin;refine wpList_append_own _ rfl _ _ 23 rfl w.heap.size 3 i0 z 1 8 Tryz.underlying23 hi hz hs1 hby hzs (by decide) _ _ _ rfl (World.ownsRow_made w #[] 0 (Nat.le_refl _) (Nat.zero_le _) (by simp)) ad n c (l.flatMap intC) rfl ?qc1 ?qc2 ?qc3 ?qc4 ?qc5 ?qc6 ?_)
  case qc1=>exact H3.out
  case qc2 =>
   intro j u hj
   obtain⟨ad',e,h⟩:=H1.out w (Below.refl _ _) j u hj
   cases e
   exact Lib.cell?_alloc_some _ h
  case qc3=>exact H4.out
  case qc4=>simp[maxLen];omega
  case qc5=>omega
  case qc6=>simp
  intro v' w1 hown hgrow hnil
  go_wp2_with fail
  go_ret
  refine⟨v',rfl,by simpa using hown,?_⟩
  exact ((Below.refl _ w).alloc (Nat.le_refl _) _).grown hgrow (by simp) (by intro k hk;simp[Value.ownBlock] at hk;omega)
end Go.Proofs.YtdmelebgdaiinaaGreatDoor
namespace Go.Proofs.YtdmelebgdaiinaaGreatDoor
open Go.ChangeShapes Go.WideShapes Go.ChangeAt Go.RowKit Go.Deep Go.Joins
def R64 (n:Int):Prop:=-9223372036854775808≤n∧n≤9223372036854775807
theorem cellsIntD:Tryz.prog.cellsOf 3=1:=by kernel_rfl
theorem cellsIntsD:Tryz.prog.cellsOf 23=1:=by kernel_rfl
theorem wf_r64 {n:Int} (h:(Lit.int .i64 n).wf=true):R64 n:=by
 simp[Lit.wf,IntKind.min,IntKind.max,IntKind.signed,IntKind.bits] at h
 unfold R64;omega
theorem spot_of_cellD {w:World} {a:Addr} {v:Value} (h:w.cell? a=some v):a.spot=none∧a.block<w.heap.size:=by
 unfold World.cell? at h
 split at h
 ·rename_i hb
  refine⟨?_,(Array.getElem?_eq_some_iff.1 hb).1⟩
  cases hs:a.spot
  ·rfl
  ·rw[hs] at h;simp at h
 ·simp at h
theorem add_of_spotD {a:Addr} (h:a.spot=none) (n:Nat):a.add n=⟨a.block,a.off+n,none⟩:=by
 unfold Addr.add
 split
 ·subst_vars;cases a;simp_all
 ·rfl
section
variable {H : Type} {enc : TypeId × Value → H} {W : World} {base : Nat} {held : Bool} {fuel : Nat}
theorem slice_inD {β:Type} {t e k:Nat} (ht:Tryz.prog.underlying t=some (.slice e)) (hc:Tryz.prog.cellsOf e=k) (h1:1≤k) (R:List Value→β→Prop) {v:Value} {x:DataW H×List MemPlace}
  (h:DataW.trod enc Tryz.prog W base (fun _=>true) held fuel t [v]=some x)
  (hR:∀ (n:Nat) (cs:List Value) (y:DataW H×List MemPlace),DataW.trod enc Tryz.prog W base (fun _=>true) held n e cs=some y→∃ b:β,R cs b∧cs.length=k) :
  ∃ L:List β,Sg k (fun _ c b=>R c b) W v L∧L.length≤maxLen:=by
 rcases open_slice ht h with ⟨hcs,_⟩ | ⟨a,len,cap,m,n,D,Pl,hcs,_,hle,hcm,hm,hxx,hx⟩
 ·simp at hcs;subst hcs
  exact⟨[],Sg.nil_,by simp⟩
 ·simp at hcs;subst hcs
  have hmc:m=cap:=by rw[hm];rfl
  have hx':∀ i:Fin len,∃ p:List Value×β,R p.1 p.2∧p.1.length=k∧W.cells? base (a.add (i.1 * k)) k=some p.1:=fun i=>by
   obtain⟨cs',h2,h3⟩:=hx i.1 (by have:=i.2;omega)
   obtain⟨b,h4,h5⟩:=hR _ _ _ h3
   rw[hc] at h2
   exact⟨(cs',b),h4,h5,h2⟩
  obtain⟨f,hf⟩:=Classical.axiomOfChoice hx'
  refine⟨List.ofFn fun i=>(f i).2,⟨List.ofFn fun i=>(f i).1,?_,by simp,fun i c y hc hy=>?_⟩,by rw[List.length_ofFn];omega⟩
  ·by_cases h0:len=0
   ·subst h0;exact Or.inl ⟨by simp,_,_,rfl⟩
   ·have hz:=(World.cells?_some (hf ⟨0,by omega⟩).2.2).2.2 0 (by omega)
    have hzl:=(hf ⟨0,by omega⟩).2.1
    rw[List.getElem?_eq_getElem (by omega)] at hz
    have hs:=spot_of_cellD hz
    have hs0:a.spot=none:=by simpa [Addr.add] using hs.1
    have hs1:a.block<W.heap.size:=by simpa [Addr.add] using hs.2
    have ha:a=⟨a.block,a.off,none⟩:=by cases a;simp_all
    refine Or.inr ⟨a.block,a.off,cap,by rw[List.length_ofFn,← ha],by rw[List.length_ofFn];omega,hs1,fun i c hi j u hu=>?_⟩
    rw[List.getElem?_ofFn] at hi
    split at hi
    ·rename_i hil
     simp only[Option.some.injEq] at hi
     subst hi
     obtain⟨-,g2,g3⟩:=hf ⟨i,hil⟩
     have hj:j<k:=by have:=(List.getElem?_eq_some_iff.1 hu).1;simp only[id] at this;omega
     obtain⟨r1,r2,r3⟩:=World.cells?_some g3
     have r4:=r3 j hj
     rw[add_of_spotD hs0,add_of_spotD rfl] at r4
     simp only[id] at hu
     exact r4.trans hu
    ·cases hi
  ·rw[List.getElem?_ofFn] at hc hy
   split at hc
   ·rename_i hil
    rw[dif_pos hil] at hy
    simp only[Option.some.injEq] at hc hy
    subst hc hy
    exact (hf ⟨i,hil⟩).1
   ·cases hc
theorem sl_of_sgD {α:Type} {k:Nat} {c:α→List Value} {v:Value} {L:List α} (h:Sg k (fun _ cs y=>cs=c y) W v L):Sl c k W v L:=by
 obtain⟨cs,h1,h2,h3⟩:=h
 have he:cs=L.map c:=by
  apply List.ext_getElem?
  intro i
  rcases Nat.lt_or_ge i L.length with hi | hi
  ·obtain⟨y,hy⟩ : ∃ y,L[i]?=some y:=⟨_,List.getElem?_eq_getElem hi⟩
   obtain⟨z,hz⟩ : ∃ z,cs[i]?=some z:=⟨_,List.getElem?_eq_getElem (by omega)⟩
   rw[List.getElem?_map,hy,hz,h3 i z y hz hy];rfl
  ·rw[List.getElem?_eq_none (by omega),List.getElem?_eq_none (by simpa using hi)]
 subst he
 rcases h1 with ⟨g1,a,q,rfl⟩ | ⟨b,o,q,rfl,g2,g3,g4⟩
 ·exact Or.inl ⟨by simpa using g1,a,q,rfl⟩
 ·refine Or.inr ⟨b,o,q,by simp,by simpa using g2,g3,fun i x hi j u hu=>g4 i (c x) (by rw[List.getElem?_map,hi];rfl) j u hu⟩
theorem slice_inP {β:Type} {t e k:Nat} (ht:Tryz.prog.underlying t=some (.slice e)) (hc:Tryz.prog.cellsOf e=k) (h1:1≤k) (C:β→List Value) (Q:β→Prop) {v:Value} {x:DataW H×List MemPlace}
  (h:DataW.trod enc Tryz.prog W base (fun _=>true) held fuel t [v]=some x)
  (hR:∀ (n:Nat) (cs:List Value) (y:DataW H×List MemPlace),DataW.trod enc Tryz.prog W base (fun _=>true) held n e cs=some y→∃ b:β,cs=C b∧Q b∧cs.length=k) :
  ∃ L:List β,Sl C k W v L∧L.length≤maxLen∧∀ b∈L,Q b:=by
 obtain⟨L,g1,g2⟩:=slice_inD (β:={ b:β // Q b }) ht hc h1 (fun cs b=>cs=C b.1) h (fun n cs y hy=>by
  obtain⟨b,q1,q2,q3⟩:=hR n cs y hy
  exact⟨⟨b,q2⟩,q1,q3⟩)
 have g3:Sl (fun b : { b:β // Q b }=>C b.1) k W v L:=sl_of_sgD g1
 refine⟨L.map (·.1),?_,by simpa using g2,fun b hb=>?_⟩
 ·rcases g3 with ⟨rfl,a,q,rfl⟩ | ⟨b,o,q,rfl,h2,h3,h4⟩
  ·exact Or.inl ⟨rfl,a,q,rfl⟩
  ·refine Or.inr ⟨b,o,q,by simp,by simpa using h2,h3,fun i x hi j u hu=>?_⟩
   rw[List.getElem?_map] at hi
   obtain⟨y,hy,rfl⟩:=Option.map_eq_some_iff.1 hi
   exact h4 i y hy j u hu
 ·obtain⟨y,_,rfl⟩:=List.mem_map.1 hb
  exact y.2
theorem ints_inD {v:Value} {x:DataW H×List MemPlace} (h:DataW.trod enc Tryz.prog W base (fun _=>true) held fuel 23 [v]=some x) :
  ∃ l:List Int,Sl intC 1 W v l∧l.length≤maxLen∧∀ n∈l,R64 n :=
 slice_inP Tryz.underlying23 cellsIntD (by omega) intC R64 h (fun n cs y hy=>by
  obtain⟨z,q1,_,q2⟩:=DataW.trod_int Tryz.underlying3 hy
  exact⟨z,by rw[q1];rfl,wf_r64 q2,by rw[q1];rfl⟩)
def RwP (w:World) (cs:List Value) (l:List Int):Prop:=∃ u,cs=[u]∧Sl intC 1 w u l
theorem RwP.keeps:Keeps RwP:=fun w w' c x h hb=>by obtain⟨u,h1,h2⟩:=h;exact⟨u,h1,h2.below hb⟩
theorem rows_inD {v:Value} {x:DataW H×List MemPlace} (h:DataW.trod enc Tryz.prog W base (fun _=>true) held fuel 26 [v]=some x) :
  ∃ l:List (List Int),Sg 1 RwP W v l∧l.length≤maxLen∧∀ r∈l,r.length≤maxLen∧∀ n∈r,R64 n:=by
 obtain⟨L,⟨cs,g1,g2,g3⟩,h2⟩:=slice_inD (β:={ r:List Int // r.length≤maxLen∧∀ n∈r,R64 n }) Tryz.underlying26 cellsIntsD (by omega) (fun c y=>RwP W c y.1) h (fun n cs y hy=>by
  obtain⟨u,rfl⟩ : ∃ u,cs=[u]:=by
   rcases open_slice Tryz.underlying23 hy with ⟨hcs,_⟩ | ⟨a,len,cap,m,n,D,Pl,hcs,_⟩ <;> exact⟨_,hcs⟩
  obtain⟨e,e1,e2,e3⟩:=ints_inD hy
  exact⟨⟨e,e2,e3⟩,⟨u,rfl,e1⟩,rfl⟩)
 refine⟨L.map (·.1),⟨cs,g1,by simpa using g2,fun i c x hc hx=>?_⟩,by simpa using h2,fun r hr=>?_⟩
 ·rw[List.getElem?_map] at hx
  obtain⟨y,hy,rfl⟩:=Option.map_eq_some_iff.1 hx
  exact g3 i c y hc hy
 ·obtain⟨y,_,rfl⟩:=List.mem_map.1 hr
  exact y.2
end
end Go.Proofs.YtdmelebgdaiinaaGreatDoor
namespace Go.Proofs.YtdmelebgdaiinaaGreatDoor
open Go.RowKit
attribute [local go_sem] Oper.semAt_some
set_option maxRecDepth 100000 in
set_option maxHeartbeats 2000000 in
theorem back_iter:Ev.IterOk Tryz.prog 233 6:=by
 refine⟨fun args w=>rfl,?_⟩
 intro l A len I W0 hI hlen hc hround h0
 obtain⟨a0,cap0,hc⟩:=hc
 have HR:=Lib.hid hround
 have HI:=Lib.hid hI
 have H0:=Lib.hid h0
 clear hround hI h0
 refine callsIn_of_wp Tryz.func233 rfl trivial ?_
 simp only[Tryz.ntmps233,List.size_toArray,List.length_cons,List.length_nil,Nat.reduceAdd,Nat.reduceSub,Array.replicate_succ,Array.replicate_zero,List.push_toArray,List.append_toArray,List.nil_append,List.cons_append]
 gi_wp2
 gi_loopw [3] (fun i wr=>∃ k:Nat,k≤len∧i=.int .i64 ((k:Int) - 1)∧I k wr) (fun i _=>(intOf i+1).toNat)
 case atStart=>exact⟨len,Nat.le_refl _,by go_num,H0.out⟩
 case round =>
  obtain⟨k,hk,rfl,hIk⟩:=hrel
  cases k with
  | zero =>
   clear hc
   gi_wp2
   go_end0
   exact⟨⟨_,rfl⟩,hIk⟩
  | succ k =>
   obtain⟨ab,ao,m,cap,us,h1,h2,h3,h4,h5⟩:=HR.out k wr hIk
   obtain⟨u0,u1,u2,u3,u4,u5,rfl⟩ : ∃ u0 u1 u2 u3 u4 u5,us=[u0,u1,u2,u3,u4,u5]:=by
    match us,h3 with
    | [u0,u1,u2,u3,u4,u5],_=>exact⟨u0,u1,u2,u3,u4,u5,rfl⟩
   have c0:wr.cell? ⟨ab,ao+k * 6,none⟩=some u0:=h4 0 _ rfl
   have c1:wr.cell? ⟨ab,ao+k * 6+1,none⟩=some u1:=h4 1 _ rfl
   have c2:wr.cell? ⟨ab,ao+k * 6+2,none⟩=some u2:=h4 2 _ rfl
   have c3:wr.cell? ⟨ab,ao+k * 6+3,none⟩=some u3:=h4 3 _ rfl
   have c4:wr.cell? ⟨ab,ao+k * 6+4,none⟩=some u4:=h4 4 _ rfl
   have c5:wr.cell? ⟨ab,ao+k * 6+5,none⟩=some u5:=h4 5 _ rfl
   have hk0:(0:Int)≤(k:Int):=by omega
   have hkm:(k:Int)<(m:Int):=by omega
   have e1:(((k+1:Nat):Int) - 1)=(k:Int):=by omega
   rw[e1]
   obtain⟨fn,tmps,assign,body,hy,hR⟩ : YieldAt Fence.wide 0 Tryz.prog l #[.int .i64 (k:Int),.agg #[u0,u1,u2,u3,u4,u5]] wr (fun e W'=>e=.returned (.bool true)∧I k W'):=h5 0
   clear hc h4 h5 e1 h3 h2
   gi_wp2
   refine⟨rfl,hR.mono ?_⟩
   rintro e W3 ⟨rfl,hI3⟩
   clear c0 c1 c2 c3 c4 c5 h1 hy hR
   gi_wp2
   go_roundw
   case rel=>exact⟨k,by omega,by go_num,hI3⟩
   case measure=>simp[intOf]
end Go.Proofs.YtdmelebgdaiinaaGreatDoor
