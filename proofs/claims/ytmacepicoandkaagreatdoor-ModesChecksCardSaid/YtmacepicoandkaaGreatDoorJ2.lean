/- Slices that read as lists, each element in some cells; appends of one element. Tokens in memory; bytes, texts: what both lexers share. The reference's lexer: words, signs, letters, names. -/
import Derived.WalkKit
import Derived.WalkSpells
import Derived.Deep.Onto
import Derived.Deep.AppendLies
import Derived.Deep.Draws
import Derived.OwnWalk
import Derived.Test.YtmacepicoandkaaGreatDoorProg
import Derived.Shelf.Abstract
import Derived.Lib.Strings
import Derived.WalkLawsBesides
import Derived.Outline
import Derived.Deep.QuietTactic
import Derived.Test.YtmacepicoandkaaGreatDoorJ1
set_option linter.unusedVariables false
set_option linter.unusedSimpArgs false
namespace Go.Proofs.YtmacepicoandkaaGreatDoor
open Go.RowKit
theorem below_drawn {B:Nat} {a w:World} (h:Below B a w) (n:Nat):Below B a (w.drewN n):=⟨h.os,h.tape,h.output,h.size,h.block⟩
theorem below_grow {w w':World} (h:Below w.heap.size w w') (row:Option Nat):w.grownBy w' row:=⟨h.os,h.tape,h.output,h.size,fun k hk _=>h.block k hk⟩
theorem below_next {a w w':World} (h:Below a.heap.size a w) (k:Below w.heap.size w w'):Below a.heap.size a w':=h.trans (k.mono h.size)
theorem below_row {w w':World} (h:Below w.heap.size w w') {base e size n:Nat} {v:Value} {xs:List Value} (ho:w.ownsRow base e size v n xs):w'.ownsRow base e size v n xs :=
 ho.kept (below_grow h none) (by cases v.ownBlock <;> simp)
def Sl {α:Type} (enc:α→List Value) (k:Nat) (w:World) (v:Value) (l:List α):Prop :=
 (l=[]∧∃ a c,v=.slice a 0 c)∨∃ b o c,v=.slice (some ⟨b,o,none⟩) l.length c∧l.length≤c∧b<w.heap.size∧∀ i x,l[i]?=some x→∀ j u,(enc x)[j]?=some u→w.cell? ⟨b,o+i * k+j,none⟩=some u
section
variable {α : Type} {enc : α → List Value} {k : Nat} {w w' : World} {v : Value} {l : List α}
theorem Sl.nil_:Sl enc k w (.slice none 0 0) []:=Or.inl ⟨rfl,none,0,rfl⟩
theorem Sl.below (h:Sl enc k w v l) (hb:Below w.heap.size w w'):Sl enc k w' v l:=by
 rcases h with h | ⟨b,o,c,rfl,hc,hlt,hx⟩
 ·exact Or.inl h
 ·exact Or.inr ⟨b,o,c,rfl,hc,Nat.lt_of_lt_of_le hlt hb.size,fun i x hi j u hu=>(hb.cell (p:=⟨b,o+i * k+j,none⟩) hlt).trans (hx i x hi j u hu)⟩
theorem Sl.form (h:Sl enc k w v l):∃ a c,v=.slice a l.length c∧l.length≤c∧∀ W,Below w.heap.size w W→∀ i x,l[i]?=some x→∃ b o,a=some ⟨b,o,none⟩∧∀ j u,(enc x)[j]?=some u→W.cell? ⟨b,o+i * k+j,none⟩=some u:=by
 rcases h with ⟨rfl,a,c,rfl⟩ | ⟨b,o,c,rfl,hc,hlt,hx⟩
 ·exact⟨a,c,rfl,Nat.zero_le _,fun W _ i x hi=>by simp at hi⟩
 ·exact⟨_,c,rfl,hc,fun W hW i x hi=>⟨b,o,rfl,fun j u hu=>(hW.cell (p:=⟨b,o+i * k+j,none⟩) hlt).trans (hx i x hi j u hu)⟩⟩
end
theorem flatMap_cell {α:Type} {enc:α→List Value} {k:Nat} (hk:∀ x,(enc x).length=k):∀ (l:List α) (i:Nat) (x:α),l[i]?=some x→∀ j u,(enc x)[j]?=some u→(l.flatMap enc)[i * k+j]?=some u
 | [],i,x,h,_,_,_=>by simp at h
 | y :: r,0,x,h,j,u,hu=>by
  simp at h;subst h
  have hj:j<(enc y).length:=(List.getElem?_eq_some_iff.1 hu).1
  rw[List.flatMap_cons,Nat.zero_mul,Nat.zero_add,List.getElem?_append_left hj];exact hu
 | y :: r,i+1,x,h,j,u,hu=>by
  have h':r[i]?=some x:=by simpa using h
  have:=flatMap_cell hk r i x h' j u hu
  rw[List.flatMap_cons,List.getElem?_append_right (by rw[hk,Nat.add_mul];omega),hk,show (i+1) * k+j - k=i * k+j by rw[Nat.add_mul];omega]
  exact this
theorem Sl.own {α:Type} {enc:α→List Value} {k:Nat} (hk:∀ x,(enc x).length=k) {w:World} {v:Value} {l:List α} {base e n:Nat} (h:w.ownsRow base e k v n (l.flatMap enc)) (hn:l.length=n):Sl enc k w v l:=by
 subst hn
 rcases h.2 with ⟨rfl,h0⟩ | ⟨g,cap,cur,rfl,_,hg,hcap,_,hsz,htake⟩
 ·exact Or.inl ⟨List.eq_nil_of_length_eq_zero h0,none,0,rfl⟩
 ·refine Or.inr ⟨g,0,cap,rfl,hcap,(Array.getElem?_eq_some_iff.1 hg).1,fun i x hi j u hu=>?_⟩
  have hc:=flatMap_cell hk l i x hi j u hu
  rw[cell_of_row w g (0+i * k+j) cur e (0,0) hg,Nat.zero_add]
  rw[← htake,List.getElem?_take] at hc
  split at hc
  ·simpa using hc
  ·cases hc
structure RowTy (P:Program) (t e size bytes:Nat):Prop where
 ht:P.underlying t=some (.slice e)
 ex:∃ i z,P.info? e=some i∧i.zero=some z∧i.size=size∧i.bytes=bytes∧z.cells.size=size
 pos:0<size
theorem RowTy.mk' {P:Program} {t e size bytes:Nat} {z:Value} (ht:P.underlying t=some (.slice e)) (h:(P.info? e).map (fun i=>(i.zero,i.size,i.bytes))=some (some z,size,bytes)) (hz:z.cells.size=size) (hp:0<size):RowTy P t e size bytes:=by
 obtain⟨i,hi,a,b,c⟩:=info_parts h
 exact⟨ht,⟨i,z,hi,a,b,c,hz⟩,hp⟩
theorem wpList_app {P:Program} {w:World} {ops:Array Oper} {rest:List Oper} {o:Oper} {a:Act} {Q:Exit→Act→World→Prop} {t e size bytes:Nat} (R:RowTy P t e size bytes) (hgd:o.guard=none) (s x:Operand)
  (ho:o.op=.call { callee:=.builtin .append,args:=#[s,x],argTypes:=#[t,t] })
  (base:Nat) (v:Value) (n:Nat) (xs:List Value) (hs:a.eval s=v) (hown:w.ownsRow base e size v n xs)
  (ad:Addr) (c:Nat) (news:List Value) (hx:a.eval x=.slice (some ad) 1 c) (hl:news.length=size) (hnews:∀ j u,news[j]?=some u→w.cell? (ad.add j)=some u) (h1:∀ u∈news,u.oneCell'=true)
  (hn:(n+1) * (bytes+1)≤140737488355328) (hbase:base≤w.heap.size) (H:Nat) (hH:w.heap.size=H)
  (h:∀ g cap w',w'.ownsRow base e size (.slice (some ⟨g,0,none⟩) (n+1) cap) (n+1) (xs++news)→w.grownBy w' v.ownBlock→(v.ownBlock=some g∨g=H)→g<w'.heap.size→n+1≤cap→wpList P ops Q rest (a.put o.dst (.slice (some ⟨g,0,none⟩) (n+1) cap)) w'):wpList P ops Q (o :: rest) a w:=by
 obtain⟨i,z,hi,hz,hsize,hby,hzs⟩:=R.ex
 have hb:(n+1) * bytes≤140737488355328:=Nat.le_trans (Nat.mul_le_mul_left _ (by omega)) hn
 have hm:n+1≤maxLen:=by
  have:(n+1) * 1≤(n+1) * (bytes+1):=Nat.mul_le_mul_left _ (by omega)
  unfold maxLen;omega
 refine wpList_append_lies w hgd s x t ho base e i z size bytes R.ht hi hz hsize hby hzs R.pos v n xs hs hown ad 1 c news hx (by rw[hl];omega) hnews h1 (by omega) hm hb hbase H hH ?_
 intro g cap w' ho' hg hat hlt
 refine h g cap w' ho' hg hat hlt ?_
 rcases ho'.2 with ⟨h0,_⟩ | ⟨g',cap',cur,h0,_,_,hc,_⟩
 ·cases h0
 ·cases h0;exact hc
end Go.Proofs.YtmacepicoandkaaGreatDoor
namespace Go.Proofs.YtmacepicoandkaaGreatDoor
open Go.RowKit Go.Shelf
namespace Lx
theorem dig_nat {c:UInt8} (h:isDig c=true):48≤c.toNat∧c.toNat≤57:=by
 simp only[isDig,Bool.and_eq_true,decide_eq_true_eq,UInt8.le_iff_toNat_le] at h
 exact h
end Lx
theorem ret_bool {a b:Bool} (h:a=b):Ending.returned (.bool a)=.returned (.bool b):=by rw[h]
theorem ret_string {a b:ByteArray} (h:a=b):Ending.returned (.string a)=.returned (.string b):=by rw[h]
def digN (x:Nat):Bool:=decide (48≤x∧x≤57)
def letN (x:Nat):Bool:=decide ((97≤x∧x≤122)∨x=95)
theorem digN_byte (c:UInt8):digN c.toNat=Lx.isDig c:=by
 rw[Bool.eq_iff_iff];simp[digN,Lx.isDig,UInt8.le_iff_toNat_le]
theorem letN_byte (c:UInt8):letN c.toNat=Lx.isLet c:=by
 rw[Bool.eq_iff_iff];simp[letN,Lx.isLet,UInt8.le_iff_toNat_le,← UInt8.toNat_inj]
theorem size_toList (s:ByteArray):s.data.toList.length=s.size:=by rw[Array.length_toList];rfl
theorem extract_take (s:ByteArray) (n:Nat):(s.extract 0 n).data.toList=s.data.toList.take n:=by simp
theorem extract_drop (s:ByteArray) (n:Nat):(s.extract n s.size).data.toList=s.data.toList.drop n:=by
 rw[ByteArray.data_extract,Array.toList_extract,List.extract_eq_take_drop,← size_toList]
 rw[List.take_of_length_le (by simp)]
theorem headD_byte (s:ByteArray) (h:0<s.size):s.data.toList.headD 0=s[0]:=by
 rw[List.headD_eq_head?_getD,List.head?_eq_getElem?,List.getElem?_eq_getElem (by rw[size_toList];exact h)];rfl
theorem toList_nil {t:ByteArray} : t.toList=[]↔t.data.toList=[]:=by rw[Lib.toList_data]
def tokC (x:Tok):List Value:=[.int .i64 x.k,.string x.t,.int .i64 x.p]
theorem tokC_len (x:Tok):(tokC x).length=3:=rfl
def tok (N:Nat) (x:Lx.R):Tok:=⟨x.k,⟨x.t.toArray⟩,N - x.m⟩
def toks (N:Nat) (l:List Lx.R):List Tok:=l.map (tok N)
theorem rowTok:RowTy Tryz.prog 121 127 3 32:=RowTy.mk' (z:=.agg #[.int .i64 0,.string ⟨#[]⟩,.int .i64 0]) Tryz.underlying121 (by kernel_rfl) rfl (by omega)
def LexPost (s : ByteArray) (w : World) (e : Ending) (w' : World) : Prop :=
  ∃ (v : Value) (er at_ : Int), e = .returned (.tuple #[v, .agg #[.int .i64 er, .int .i64 at_]]) ∧ Below w.heap.size w w' ∧
    ((er = 0 ∧ at_ = 0 ∧ (Lx.lexS s.data.toList).2 = none ∧ w'.ownsRow w.heap.size 127 3 v (Lx.lexS s.data.toList).1.length ((toks s.size (Lx.lexS s.data.toList).1).flatMap tokC)) ∨
     (∃ c m : Nat, c ≠ 0 ∧ er = c ∧ at_ = (s.size - m : Nat) ∧ (Lx.lexS s.data.toList).2 = some (c, m) ∧ v = .slice none 0 0))
structure LexLp (s:ByteArray) (w:World) (l:Value) (r:ByteArray) (done:List Lx.R) (wr:World):Prop where
 sz:r.size≤s.size
 few:done.length+r.size≤s.size
 below:Below w.heap.size w wr
 ret:wr.heap[w.heap.size]?=some (.cells #[.int .i64 0,.int .i64 0] 91 (0,0))
 own:wr.ownsRow (w.heap.size+1) 127 3 l done.length ((toks s.size done).flatMap tokC)
 eq:Lx.lexS s.data.toList=(done++(Lx.lexS r.data.toList).1,(Lx.lexS r.data.toList).2)
theorem two_cells {W:World} {b T:Nat} {x y:Value} (h:W.heap[b]?=some (.cells #[x,y] T (0,0))) :
  W.cell? ⟨b,0,none⟩=some x∧W.cell? ⟨b,1,none⟩=some y∧W.frozen? ⟨b,0,none⟩=false∧W.frozen? ⟨b,1,none⟩=false :=
 ⟨by simp[World.cell?,h],by simp[World.cell?,h],by simp[World.frozen?,h],by simp[World.frozen?,h]⟩
theorem size_of_list (r:ByteArray):r.size=r.data.toList.length:=(size_toList r).symm
theorem LexLp.step {s:ByteArray} {w:World} {l:Value} {r u:ByteArray} {done:List Lx.R} {wr w1:World} (h:LexLp s w l r done wr) (hb:Below wr.heap.size wr w1) (hu:u.size≤r.size) (he:Lx.lexS u.data.toList=Lx.lexS r.data.toList):LexLp s w l u done w1 where
 sz:=Nat.le_trans hu h.sz
 few:=Nat.le_trans (Nat.add_le_add_left hu _) h.few
 below:=below_next h.below hb
 ret:=(hb.block _ (Array.getElem?_eq_some_iff.1 h.ret).1).trans h.ret
 own:=below_row hb h.own
 eq:=by rw[he];exact h.eq
theorem LexLp.push {s:ByteArray} {w:World} {l:Value} {u u' t:ByteArray} {done:List Lx.R} {w3 w4:World} {o:Obj} {g cap k d:Nat} (h:LexLp s w l u done w3) (hd:(s.size:Int) - (u.size:Int)=(d:Int)) (hne:t.data.toList≠[]) (hle:t.size≤u.size)
  (he:Lx.lexS u.data.toList=(⟨k,t.data.toList,u.data.toList.length⟩ :: (Lx.lexS (u.data.toList.drop t.data.toList.length)).1,(Lx.lexS (u.data.toList.drop t.data.toList.length)).2))
  (hu:u'.data.toList=u.data.toList.drop t.data.toList.length)
  (ho:w4.ownsRow (w.heap.size+1) 127 3 (.slice (some ⟨g,0,none⟩) (done.length+1) cap) (done.length+1) ((toks s.size done).flatMap tokC++[.int .i64 k,.string t,.int .i64 d])) (hg:(w3.alloc o).grownBy w4 l.ownBlock) :
  LexLp s w (.slice (some ⟨g,0,none⟩) (done.length+1) cap) u' (done++[⟨k,t.data.toList,u.data.toList.length⟩]) w4:=by
 have hsz:=h.sz
 have hpos:0<t.size:=by rw[size_of_list];exact List.length_pos_iff.2 hne
 have hu2:u'.size=u.size - t.size:=by rw[size_of_list,hu,List.length_drop,size_toList,size_toList]
 have hlow:∀ k,l.ownBlock=some k→w.heap.size+1≤k:=fun k hk=>(h.own.lt k hk).1
 have hsize:=h.below.size
 have hret:=(Array.getElem?_eq_some_iff.1 h.ret).1
 refine⟨by omega,?_,?_,?_,?_,?_⟩
 ·have:=h.few;simp;omega
 ·exact (h.below.alloc hsize o).grown hg (by simp;omega) (fun q hq=>by have:=hlow q hq;omega)
 ·rw[hg.block w.heap.size (by simp;omega) (fun e=>by have:=hlow _ e.symm;omega),Below.heap_alloc _ _ _ hret];exact h.ret
 ·have e:(toks s.size (done++[⟨k,t.data.toList,u.data.toList.length⟩])).flatMap tokC=(toks s.size done).flatMap tokC++[.int .i64 k,.string t,.int .i64 d]:=by
   unfold toks
   rw[List.map_append,List.flatMap_append]
   congr 1
   have e2:s.size - u.size=d:=by omega
   simp[tok,tokC,e2]
  rw[e]
  simpa using ho
 ·rw[h.eq,he,hu];simp
theorem first_dig {r:Lx.Bs} (h:r.takeWhile Lx.isDig≠[]):Lx.first r=if Lx.tooBig (r.takeWhile Lx.isDig) then .err 2 else .tok 2 (r.takeWhile Lx.isDig):=by
 unfold Lx.first
 have:(r.takeWhile Lx.isDig).isEmpty=false:=by
  cases h2:r.takeWhile Lx.isDig with
  | nil=>exact absurd h2 h
  | cons _ _=>rfl
 simp only[this,Bool.false_eq_true,if_false]
theorem first_word {r:Lx.Bs} (h:r.takeWhile Lx.isDig=[]) (hw:Lx.isWord (r.takeWhile Lx.isPt)=true):Lx.first r=.tok 3 (r.takeWhile Lx.isPt):=by
 unfold Lx.first;simp[h,hw]
theorem first_name {r:Lx.Bs} (h:r.takeWhile Lx.isDig=[]) (hw:Lx.isWord (r.takeWhile Lx.isPt)=false) (hn:Lx.isName (r.takeWhile Lx.isPt)=true):Lx.first r=.tok 1 (r.takeWhile Lx.isPt):=by
 unfold Lx.first;simp[h,hw,hn]
theorem first_none {r:Lx.Bs} (h:r.takeWhile Lx.isDig=[]) (hw:Lx.isWord (r.takeWhile Lx.isPt)=false) (hn:Lx.isName (r.takeWhile Lx.isPt)=false) (hp:r.takeWhile Lx.isPt≠[]):Lx.first r=.err 5:=by
 unfold Lx.first
 have:(r.takeWhile Lx.isPt).isEmpty=false:=by
  cases h2:r.takeWhile Lx.isPt with
  | nil=>exact absurd h2 hp
  | cons _ _=>rfl
 simp[h,hw,hn,this]
theorem first_sign {r:Lx.Bs} (h:r.takeWhile Lx.isDig=[]) (hp:r.takeWhile Lx.isPt=[]):Lx.first r=match Lx.signs.find? (·.isPrefixOf r) with | some t=>.tok 4 t | none=>.err 5:=by
 unfold Lx.first
 have a:Lx.isWord []=false:=by decide
 have b:Lx.isName []=false:=by decide
 simp only[h,hp,a,b,List.isEmpty_nil,if_true,Bool.false_eq_true,if_false]
 all_goals rfl
theorem byte48 {c:UInt8} : ((c.toNat:Int)==48)=true↔c=48:=by
 rw[beq_iff_eq,← UInt8.toNat_inj]
 have:(48:UInt8).toNat=48:=rfl
 omega
end Go.Proofs.YtmacepicoandkaaGreatDoor
namespace Go.Proofs.YtmacepicoandkaaGreatDoor
open Go.RowKit Go.Shelf
def wordC (l:Lx.Bs):Value:=.string ⟨l.toArray⟩
theorem Words_any (w:World):Calls Tryz.prog 125 #[] w fun e w'=>∃ b c,e=.returned (.slice (some ⟨b,0,none⟩) 35 c)∧Below w.heap.size w w'∧∀ j x,Lx.words[j]?=some x→w'.cell? ⟨b,j,none⟩=some (wordC x):=by
 have hc:∀ j x,Lx.words[j]?=some x→(w.alloc (.cells (Lx.words.map wordC).toArray 9)).cell? ⟨w.heap.size,j,none⟩=some (wordC x):=by
  intro j x h
  rw[cell_of_row _ _ j _ _ _ (heap_alloc_new w _)]
  simp[h]
 go_enter Tryz.func125,Tryz.ntmps125
 go_wp2_with fail
 go_ret
 exact⟨_,_,rfl,(Below.refl _ _).alloc (Nat.le_refl _) _,hc⟩
theorem Signs_any (w:World):Calls Tryz.prog 115 #[] w fun e w'=>∃ b c,e=.returned (.slice (some ⟨b,0,none⟩) 16 c)∧Below w.heap.size w w'∧∀ j x,Lx.signs[j]?=some x→w'.cell? ⟨b,j,none⟩=some (wordC x):=by
 have hc:∀ j x,Lx.signs[j]?=some x→(w.alloc (.cells (Lx.signs.map wordC).toArray 9)).cell? ⟨w.heap.size,j,none⟩=some (wordC x):=by
  intro j x h
  rw[cell_of_row _ _ j _ _ _ (heap_alloc_new w _)]
  simp[h]
 go_enter Tryz.func115,Tryz.ntmps115
 go_wp2_with fail
 go_ret
 exact⟨_,_,rfl,(Below.refl _ _).alloc (Nat.le_refl _) _,hc⟩
theorem contains_take (l:List Lx.Bs) (k:Nat) (x s:Lx.Bs) (h:l[k]?=some x):(l.take (k+1)).contains s=((l.take k).contains s || x==s):=by
 rw[List.take_add_one,h]
 simp only[Option.toList_some]
 rw[Bool.eq_iff_iff]
 simp only[List.contains_iff_mem,List.mem_append,List.mem_singleton,Bool.or_eq_true,beq_iff_eq]
 constructor
 ·rintro (h | h)
  ·exact Or.inl h
  ·exact Or.inr h.symm
 ·rintro (h | h)
  ·exact Or.inl h
  ·exact Or.inr h.symm
set_option maxHeartbeats 400000 in
theorem rIsWord_any (s:ByteArray) (w:World) :
  Calls Tryz.prog 113 #[.string s] w fun e w'=>e=.returned (.bool (Lx.isWord s.data.toList))∧Below w.heap.size w w':=by
 go_enter Tryz.func113,Tryz.ntmps113
 go_wp2_with fail
 refine (Words_any w).mono ?_
 rintro e w1 ⟨b,c,rfl,hb1,hc1⟩
 go_wp2_with fail
 go_loopw [4] (fun i wr=>∃ k:Nat,k≤35∧i=.int .i64 k∧(Lx.words.take k).contains s.data.toList=false∧wr=w1) (fun i _=>35 - (intOf i).toNat)
 case atStart=>exact⟨0,Nat.zero_le _,rfl,rfl,rfl⟩
 case round =>
  obtain⟨k,hk,rfl,hno,hB⟩:=hrel
  subst hB
  by_cases hlt:k<35
  ·obtain⟨x,hx⟩ : ∃ x,Lx.words[k]?=some x:=⟨_,List.getElem?_eq_getElem hlt⟩
   have hc:=hc1 k x hx
   unfold wordC at hc
   obtain⟨y,hy⟩ : ∃ y:ByteArray,y=⟨x.toArray⟩:=⟨_,rfl⟩
   rw[← hy] at hc
   have hyl:y.data.toList=x:=by rw[hy]
   have HT:=contains_take Lx.words k x s.data.toList hx
   rw[hno,Bool.false_or] at HT
   have HW:Hid (x∈Lx.words):=List.mem_of_getElem? hx
   have hk2:(k:Int)<35:=by omega
   by_cases heq:y.toList=s.toList
   ·have HF:Hid (Lx.isWord s.data.toList=true):=by
     show _=_
     unfold Lx.isWord
     rw[List.contains_iff_mem,← Lib.toList_data,← heq,Lib.toList_data,hyl];exact HW.out
    clear hc1 hx hy hyl HT hno
    go_wp2_with fail
    go_ret
    exact⟨ret_bool HF.out.symm,hb1⟩
   ·have HF:Hid ((Lx.words.take (k+1)).contains s.data.toList=false):=by
     show _=_
     rw[HT,beq_eq_false_iff_ne,← hyl,← Lib.toList_data,← Lib.toList_data];exact heq
    have hne:(y.toList==s.toList)=false:=by simp[heq]
    clear hc1 hx hy hyl HT hno
    go_wp2_with fail
    go_roundw
    case rel=>exact⟨k+1,by omega,by go_num,HF.out,by trivial⟩
    case measure=>simp[intOf];omega
  ·have hke:k=35:=by omega
   subst hke
   have HF:Hid (Lx.isWord s.data.toList=false):=hno
   clear hno hc1
   go_wp2_with fail
   go_ret
   exact⟨ret_bool HF.out.symm,hb1⟩
theorem rdigit_any (c:UInt8) (w:World) :
  Calls Tryz.prog 98 #[.int .u8 c.toNat] w fun e w'=>e=.returned (.bool (Lx.isDig c))∧w'=w:=by
 have h:=digN_byte c
 unfold digN at h
 go_enter Tryz.func98,Tryz.ntmps98
 go_wp2_with fail
 all_goals
  go_ret
  exact⟨ret_bool (by rw[← digN_byte,Bool.eq_iff_iff];simp[digN];omega),rfl⟩
theorem rletter_any (c:UInt8) (w:World) :
  Calls Tryz.prog 100 #[.int .u8 c.toNat] w fun e w'=>e=.returned (.bool (Lx.isLet c))∧w'=w:=by
 by_cases h1:(97:Int)≤(c.toNat:Int)
 ·by_cases h2:(c.toNat:Int)≤122
  ·go_enter Tryz.func100,Tryz.ntmps100
   go_wp2_with fail
   all_goals
    go_ret
    exact⟨ret_bool (by rw[← letN_byte,Bool.eq_iff_iff];simp[letN];omega),rfl⟩
  ·go_enter Tryz.func100,Tryz.ntmps100
   go_wp2_with fail
   all_goals
    go_ret
    exact⟨ret_bool (by rw[← letN_byte,Bool.eq_iff_iff];simp[letN];omega),rfl⟩
 ·go_enter Tryz.func100,Tryz.ntmps100
  go_wp2_with fail
  all_goals
   go_ret
   exact⟨ret_bool (by rw[← letN_byte,Bool.eq_iff_iff];simp[letN];omega),rfl⟩
end Go.Proofs.YtmacepicoandkaaGreatDoor
