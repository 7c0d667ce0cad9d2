/- Tokens: the plain mathematics of a lexer over lists of bytes. Tokens: plain laws of the lexer. Slices that read as lists, each element in some cells; appends of one element. Tokens in memory; bytes, texts: what both lexers share. -/
import Derived.WalkKit
import Derived.WalkSpells
import Derived.Deep.Onto
import Derived.Deep.AppendLies
import Derived.Deep.Draws
import Derived.OwnWalk
import Derived.Test.YtbdbhdcbdfbnnaaGreatDoorProg
import Derived.Shelf.Abstract
import Derived.Lib.Strings
import Derived.WalkLawsBesides
import Derived.Outline
set_option linter.unusedVariables false
set_option linter.unusedSimpArgs false
namespace Go.Proofs.YtbdbhdcbdfbnnaaGreatDoor.Lx
abbrev Bs:=List UInt8
def isDig (c:UInt8):Bool:=48≤c&&c≤57
def isLet (c:UInt8):Bool:=(97≤c&&c≤122) || c==95
def isPt (c:UInt8):Bool:=isLet c || isDig c
def isBl (c:UInt8):Bool:=c==32 || c==9 || c==10 || c==13
def val (l:Bs):Nat:=l.foldl (fun n c=>10 * n+(c.toNat - 48)) 0
def words:List Bs:=[[97,110,100],[97,115,115,117,109,101],[98,111,111,108],[99,111,110,116,114,97,99,116],[100,105,118],[101,108,115,101],[101,110,100],[101,110,115,117,114,101],[102,97,108,108,98,97,99,107],[102,97,108,115,101],[103,104,111,115,116],[103,117,97,114,97,110,116,101,101],[104,105,115,116],[105,102],[105,109,112,111,114,116],[105,110,116],[108,101,116],[109,97,105,110],[109,111,100],[109,111,100,101],[110,111,100,101],[110,111,116],[111,110,99,101],[111,114],[112,114,101],[112,114,101,118],[114,101,113,117,105,114,101],[114,101,116,117,114,110,115],[115,105,110,99,101],[116,101,108],[116,104,101,110],[116,114,117,101],[118,97,114],[119,105,116,104,105,110],[120,111,114]]
def signs:List Bs:=[[45,62],[61,62],[60,61],[62,61],[60,62],[61],[60],[62],[43],[45],[42],[40],[41],[44],[59],[58]]
def isWord (t:Bs):Bool:=words.contains t
def isName (t:Bs):Bool:=!t.isEmpty&&decide (t.length≤40)&&t.all isPt && !(t.headD 0 |> isDig) && !isWord t
def tooBig (d:Bs):Bool:=decide (10<d.length) || decide (2147483647<val d) || (decide (1<d.length)&&d.headD 0==48)
inductive Tk where
 | err (e:Nat)
 | tok (k:Nat) (t:Bs)
def first (r:Bs):Tk :=
 let d:=r.takeWhile isDig
 if d.isEmpty then
  let p:=r.takeWhile isPt
  if isWord p then .tok 3 p else if isName p then .tok 1 p else if p.isEmpty then
   match signs.find? (·.isPrefixOf r) with
   | some t=>.tok 4 t
   | none=>.err 5
  else .err 5
 else if tooBig d then .err 2 else .tok 2 d
def afterLine (r:Bs):Bs:=(r.dropWhile (· != 10)).drop 1
structure R where
 k:Nat
 t:Bs
 m:Nat
def isCom (r:Bs):Bool:=[45,45].isPrefixOf r
def lexR:Nat→Bs→List R×Option (Nat×Nat)
 | 0,_=>([],none)
 | f+1,r =>
  let u:=r.dropWhile isBl
  if u.isEmpty then ([],none)
  else if isCom u then lexR f (afterLine u)
  else match first u with
   | .err e=>([],some (e,u.length))
   | .tok k t=>(⟨k,t,u.length⟩ :: (lexR f (u.drop t.length)).1,(lexR f (u.drop t.length)).2)
def lexS (s:Bs):List R×Option (Nat×Nat):=lexR (s.length+1) s
end Go.Proofs.YtbdbhdcbdfbnnaaGreatDoor.Lx
namespace Go.Proofs.YtbdbhdcbdfbnnaaGreatDoor.Lx
structure Is (k:Nat) (t:Bs):Prop where
 self:first t=.tok k t
 ne:t≠[]
 com:isCom t=false
 bl:t.dropWhile isBl=t
def Chain (s:Bs):Nat→List R→Prop
 | _,[]=>True
 | e,x :: l=>e≤s.length - x.m∧x.m≤s.length∧x.t≠[]∧x.t <+: s.drop (s.length - x.m)∧Chain s (s.length - x.m+x.t.length) l
theorem Chain.mono {s:Bs} {e e':Nat} (h:e'≤e):∀ {l:List R},Chain s e l→Chain s e' l
 | [],_=>trivial
 | _ :: _,⟨a,b⟩=>⟨Nat.le_trans h a,b⟩
def sh (n:Nat) (x:R):R:=⟨x.k,x.t,x.m+n⟩
end Go.Proofs.YtbdbhdcbdfbnnaaGreatDoor.Lx
namespace Go.Proofs.YtbdbhdcbdfbnnaaGreatDoor
structure Tok where
 k:Nat
 t:ByteArray
 p:Nat
end Go.Proofs.YtbdbhdcbdfbnnaaGreatDoor
namespace Go.Proofs.YtbdbhdcbdfbnnaaGreatDoor
open Go.RowKit
theorem below_drawn {B:Nat} {a w:World} (h:Below B a w) (n:Nat):Below B a (w.drewN n):=⟨h.os,h.tape,h.output,h.size,h.block⟩
theorem below_grow {w w':World} (h:Below w.heap.size w w') (row:Option Nat):w.grownBy w' row:=⟨h.os,h.tape,h.output,h.size,fun k hk _=>h.block k hk⟩
theorem below_next {a w w':World} (h:Below a.heap.size a w) (k:Below w.heap.size w w'):Below a.heap.size a w':=h.trans (k.mono h.size)
theorem below_row {w w':World} (h:Below w.heap.size w w') {base e size n:Nat} {v:Value} {xs:List Value} (ho:w.ownsRow base e size v n xs):w'.ownsRow base e size v n xs :=
 ho.kept (below_grow h none) (by cases v.ownBlock <;> simp)
def Sl {α:Type} (enc:α→List Value) (k:Nat) (w:World) (v:Value) (l:List α):Prop :=
 (l=[]∧∃ a c,v=.slice a 0 c)∨∃ b o c,v=.slice (some ⟨b,o,none⟩) l.length c∧l.length≤c∧b<w.heap.size∧∀ i x,l[i]?=some x→∀ j u,(enc x)[j]?=some u→w.cell? ⟨b,o+i * k+j,none⟩=some u
section
variable {α : Type} {enc : α → List Value} {k : Nat} {w w' : World} {v : Value} {l : List α}
theorem Sl.nil_:Sl enc k w (.slice none 0 0) []:=Or.inl ⟨rfl,none,0,rfl⟩
theorem Sl.below (h:Sl enc k w v l) (hb:Below w.heap.size w w'):Sl enc k w' v l:=by
 rcases h with h | ⟨b,o,c,rfl,hc,hlt,hx⟩
 ·exact Or.inl h
 ·exact Or.inr ⟨b,o,c,rfl,hc,Nat.lt_of_lt_of_le hlt hb.size,fun i x hi j u hu=>(hb.cell (p:=⟨b,o+i * k+j,none⟩) hlt).trans (hx i x hi j u hu)⟩
theorem Sl.form (h:Sl enc k w v l):∃ a c,v=.slice a l.length c∧l.length≤c∧∀ W,Below w.heap.size w W→∀ i x,l[i]?=some x→∃ b o,a=some ⟨b,o,none⟩∧∀ j u,(enc x)[j]?=some u→W.cell? ⟨b,o+i * k+j,none⟩=some u:=by
 rcases h with ⟨rfl,a,c,rfl⟩ | ⟨b,o,c,rfl,hc,hlt,hx⟩
 ·exact⟨a,c,rfl,Nat.zero_le _,fun W _ i x hi=>by simp at hi⟩
 ·exact⟨_,c,rfl,hc,fun W hW i x hi=>⟨b,o,rfl,fun j u hu=>(hW.cell (p:=⟨b,o+i * k+j,none⟩) hlt).trans (hx i x hi j u hu)⟩⟩
end
theorem flatMap_cell {α:Type} {enc:α→List Value} {k:Nat} (hk:∀ x,(enc x).length=k):∀ (l:List α) (i:Nat) (x:α),l[i]?=some x→∀ j u,(enc x)[j]?=some u→(l.flatMap enc)[i * k+j]?=some u
 | [],i,x,h,_,_,_=>by simp at h
 | y :: r,0,x,h,j,u,hu=>by
  simp at h;subst h
  have hj:j<(enc y).length:=(List.getElem?_eq_some_iff.1 hu).1
  rw[List.flatMap_cons,Nat.zero_mul,Nat.zero_add,List.getElem?_append_left hj];exact hu
 | y :: r,i+1,x,h,j,u,hu=>by
  have h':r[i]?=some x:=by simpa using h
  have:=flatMap_cell hk r i x h' j u hu
  rw[List.flatMap_cons,List.getElem?_append_right (by rw[hk,Nat.add_mul];omega),hk,show (i+1) * k+j - k=i * k+j by rw[Nat.add_mul];omega]
  exact this
theorem flatMap_len {α:Type} {enc:α→List Value} {k:Nat} (hk:∀ x,(enc x).length=k):∀ (l:List α),(l.flatMap enc).length=l.length * k
 | []=>by simp
 | y :: r=>by rw[List.flatMap_cons,List.length_append,hk,flatMap_len hk r,List.length_cons,Nat.add_mul];omega
theorem Sl.own {α:Type} {enc:α→List Value} {k:Nat} (hk:∀ x,(enc x).length=k) {w:World} {v:Value} {l:List α} {base e n:Nat} (h:w.ownsRow base e k v n (l.flatMap enc)) (hn:l.length=n):Sl enc k w v l:=by
 subst hn
 rcases h.2 with ⟨rfl,h0⟩ | ⟨g,cap,cur,rfl,_,hg,hcap,_,hsz,htake⟩
 ·exact Or.inl ⟨List.eq_nil_of_length_eq_zero h0,none,0,rfl⟩
 ·refine Or.inr ⟨g,0,cap,rfl,hcap,(Array.getElem?_eq_some_iff.1 hg).1,fun i x hi j u hu=>?_⟩
  have hc:=flatMap_cell hk l i x hi j u hu
  rw[cell_of_row w g (0+i * k+j) cur e (0,0) hg,Nat.zero_add]
  rw[← htake,List.getElem?_take] at hc
  split at hc
  ·simpa using hc
  ·cases hc
structure RowTy (P:Program) (t e size bytes:Nat):Prop where
 ht:P.underlying t=some (.slice e)
 ex:∃ i z,P.info? e=some i∧i.zero=some z∧i.size=size∧i.bytes=bytes∧z.cells.size=size
 pos:0<size
theorem RowTy.mk' {P:Program} {t e size bytes:Nat} {z:Value} (ht:P.underlying t=some (.slice e)) (h:(P.info? e).map (fun i=>(i.zero,i.size,i.bytes))=some (some z,size,bytes)) (hz:z.cells.size=size) (hp:0<size):RowTy P t e size bytes:=by
 obtain⟨i,hi,a,b,c⟩:=info_parts h
 exact⟨ht,⟨i,z,hi,a,b,c,hz⟩,hp⟩
theorem wpList_app {P:Program} {w:World} {ops:Array Oper} {rest:List Oper} {o:Oper} {a:Act} {Q:Exit→Act→World→Prop} {t e size bytes:Nat} (R:RowTy P t e size bytes) (hgd:o.guard=none) (s x:Operand)
  (ho:o.op=.call { callee:=.builtin .append,args:=#[s,x],argTypes:=#[t,t] })
  (base:Nat) (v:Value) (n:Nat) (xs:List Value) (hs:a.eval s=v) (hown:w.ownsRow base e size v n xs)
  (ad:Addr) (c:Nat) (news:List Value) (hx:a.eval x=.slice (some ad) 1 c) (hl:news.length=size) (hnews:∀ j u,news[j]?=some u→w.cell? (ad.add j)=some u) (h1:∀ u∈news,u.oneCell'=true)
  (hn:(n+1) * (bytes+1)≤140737488355328) (hbase:base≤w.heap.size) (H:Nat) (hH:w.heap.size=H)
  (h:∀ g cap w',w'.ownsRow base e size (.slice (some ⟨g,0,none⟩) (n+1) cap) (n+1) (xs++news)→w.grownBy w' v.ownBlock→(v.ownBlock=some g∨g=H)→g<w'.heap.size→n+1≤cap→wpList P ops Q rest (a.put o.dst (.slice (some ⟨g,0,none⟩) (n+1) cap)) w'):wpList P ops Q (o :: rest) a w:=by
 obtain⟨i,z,hi,hz,hsize,hby,hzs⟩:=R.ex
 have hb:(n+1) * bytes≤140737488355328:=Nat.le_trans (Nat.mul_le_mul_left _ (by omega)) hn
 have hm:n+1≤maxLen:=by
  have:(n+1) * 1≤(n+1) * (bytes+1):=Nat.mul_le_mul_left _ (by omega)
  unfold maxLen;omega
 refine wpList_append_lies w hgd s x t ho base e i z size bytes R.ht hi hz hsize hby hzs R.pos v n xs hs hown ad 1 c news hx (by rw[hl];omega) hnews h1 (by omega) hm hb hbase H hH ?_
 intro g cap w' ho' hg hat hlt
 refine h g cap w' ho' hg hat hlt ?_
 rcases ho'.2 with ⟨h0,_⟩ | ⟨g',cap',cur,h0,_,_,hc,_⟩
 ·cases h0
 ·cases h0;exact hc
end Go.Proofs.YtbdbhdcbdfbnnaaGreatDoor
namespace Go.Proofs.YtbdbhdcbdfbnnaaGreatDoor
open Go.RowKit Go.Shelf
namespace Lx
end Lx
theorem ret_bool {a b:Bool} (h:a=b):Ending.returned (.bool a)=.returned (.bool b):=by rw[h]
theorem size_toList (s:ByteArray):s.data.toList.length=s.size:=by rw[Array.length_toList];rfl
def tokC (x:Tok):List Value:=[.int .i64 x.k,.string x.t,.int .i64 x.p]
def tok (N:Nat) (x:Lx.R):Tok:=⟨x.k,⟨x.t.toArray⟩,N - x.m⟩
def toks (N:Nat) (l:List Lx.R):List Tok:=l.map (tok N)
structure LexLp (s:ByteArray) (w:World) (l:Value) (r:ByteArray) (done:List Lx.R) (wr:World):Prop where
 sz:r.size≤s.size
 few:done.length+r.size≤s.size
 below:Below w.heap.size w wr
 ret:wr.heap[w.heap.size]?=some (.cells #[.int .i64 0,.int .i64 0] 61 (0,0))
 own:wr.ownsRow (w.heap.size+1) 126 3 l done.length ((toks s.size done).flatMap tokC)
 eq:Lx.lexS s.data.toList=(done++(Lx.lexS r.data.toList).1,(Lx.lexS r.data.toList).2)
theorem size_of_list (r:ByteArray):r.size=r.data.toList.length:=(size_toList r).symm
theorem LexLp.step {s:ByteArray} {w:World} {l:Value} {r u:ByteArray} {done:List Lx.R} {wr w1:World} (h:LexLp s w l r done wr) (hb:Below wr.heap.size wr w1) (hu:u.size≤r.size) (he:Lx.lexS u.data.toList=Lx.lexS r.data.toList):LexLp s w l u done w1 where
 sz:=Nat.le_trans hu h.sz
 few:=Nat.le_trans (Nat.add_le_add_left hu _) h.few
 below:=below_next h.below hb
 ret:=(hb.block _ (Array.getElem?_eq_some_iff.1 h.ret).1).trans h.ret
 own:=below_row hb h.own
 eq:=by rw[he];exact h.eq
theorem LexLp.push {s:ByteArray} {w:World} {l:Value} {u u' t:ByteArray} {done:List Lx.R} {w3 w4:World} {o:Obj} {g cap k d:Nat} (h:LexLp s w l u done w3) (hd:(s.size:Int) - (u.size:Int)=(d:Int)) (hne:t.data.toList≠[]) (hle:t.size≤u.size)
  (he:Lx.lexS u.data.toList=(⟨k,t.data.toList,u.data.toList.length⟩ :: (Lx.lexS (u.data.toList.drop t.data.toList.length)).1,(Lx.lexS (u.data.toList.drop t.data.toList.length)).2))
  (hu:u'.data.toList=u.data.toList.drop t.data.toList.length)
  (ho:w4.ownsRow (w.heap.size+1) 126 3 (.slice (some ⟨g,0,none⟩) (done.length+1) cap) (done.length+1) ((toks s.size done).flatMap tokC++[.int .i64 k,.string t,.int .i64 d])) (hg:(w3.alloc o).grownBy w4 l.ownBlock) :
  LexLp s w (.slice (some ⟨g,0,none⟩) (done.length+1) cap) u' (done++[⟨k,t.data.toList,u.data.toList.length⟩]) w4:=by
 have hsz:=h.sz
 have hpos:0<t.size:=by rw[size_of_list];exact List.length_pos_iff.2 hne
 have hu2:u'.size=u.size - t.size:=by rw[size_of_list,hu,List.length_drop,size_toList,size_toList]
 have hlow:∀ k,l.ownBlock=some k→w.heap.size+1≤k:=fun k hk=>(h.own.lt k hk).1
 have hsize:=h.below.size
 have hret:=(Array.getElem?_eq_some_iff.1 h.ret).1
 refine⟨by omega,?_,?_,?_,?_,?_⟩
 ·have:=h.few;simp;omega
 ·exact (h.below.alloc hsize o).grown hg (by simp;omega) (fun q hq=>by have:=hlow q hq;omega)
 ·rw[hg.block w.heap.size (by simp;omega) (fun e=>by have:=hlow _ e.symm;omega),Below.heap_alloc _ _ _ hret];exact h.ret
 ·have e:(toks s.size (done++[⟨k,t.data.toList,u.data.toList.length⟩])).flatMap tokC=(toks s.size done).flatMap tokC++[.int .i64 k,.string t,.int .i64 d]:=by
   unfold toks
   rw[List.map_append,List.flatMap_append]
   congr 1
   have e2:s.size - u.size=d:=by omega
   simp[tok,tokC,e2]
  rw[e]
  simpa using ho
 ·rw[h.eq,he,hu];simp
end Go.Proofs.YtbdbhdcbdfbnnaaGreatDoor
