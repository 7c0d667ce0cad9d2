/- Expressions over atoms, by whether each of these is true: the plain mathematics. The variables that are laid; a number's text: the walk. The splitter in memory; what turns while expressions are cut. -/
import Derived.Lib.AtoiAllCases
import Derived.Lib.AtoiTie
import Derived.Lib.ItoaNum
import Derived.Deep.RegionLaw
import Derived.Deep.AppendLies
import Derived.Test.YtmacepicoandkaaGreatDoorJ3
import Derived.Test.YtmacepicoandkaaGreatDoorJ20
import Derived.Test.YtmacepicoandkaaGreatDoorJ23
set_option linter.unusedVariables false
set_option linter.unusedSimpArgs false
namespace Go.Proofs.YtmacepicoandkaaGreatDoor
namespace Ux
open Tx
def numOf (s:ByteArray) (most:Nat):Option Nat:=(List.range most).find? fun k=>decide (atomName k=s)
theorem numOf_some {s:ByteArray} {most k:Nat} : numOf s most=some k↔k<most∧atomName k=s:=by
 unfold numOf
 rw[List.find?_range_eq_some]
 constructor
 ·rintro ⟨h1,h2,_⟩
  exact⟨by simpa using h2,by simpa using h1⟩
 ·rintro ⟨h1,h2⟩
  refine⟨by simpa using h2,by simpa using h1,fun j hj=>?_⟩
  rw[Bool.not_eq_true',decide_eq_false_iff_not]
  intro e;have:=atomName_inj (e.trans h2.symm);omega
def numP (s:ByteArray):Option Int:=match s.data.toList with
 | 63 :: d=>match Lib.atoiAll d with
  | .ok v=>if Lib.itoa v=d then some v else none
  | _=>none
 | _=>none
theorem digits_dec':∀ n:Nat,Lib.decDigits n=Fx.dec n:=by
 intro n
 induction n using Nat.strongRecOn with
 | _ n ih =>
  rw[Lib.decDigits]
  by_cases h:n<10
  ·rw[dif_pos h,Fx.dec_small h];rfl
  ·rw[dif_neg h,Fx.dec_big h,ih (n / 10) (by omega)];rfl
theorem lib_itoa' (n:Int):Lib.itoa n=Fx.itoa n:=by unfold Lib.itoa Fx.itoa;simp only[digits_dec']
theorem decFrom_all':∀ (l:List UInt8) (a:Nat),l.all Fx.isD=true→Lib.decFrom a l=some (l.foldl (fun n c=>10 * n+(c.toNat - 48)) a)
 | [],a,_=>rfl
 | c :: r,a,h=>by
  simp only[List.all_cons,Bool.and_eq_true] at h
  have hc:=Fx.isD_nat h.1
  simp only[Lib.decFrom,Lib.digitVal,if_pos hc,List.foldl_cons]
  rw[decFrom_all' r _ h.2,Nat.mul_comm]
theorem atoi_dec {m:Nat} (hm:m<10000000000):Lib.atoiAll (Fx.dec m)=.ok (m:Int):=by
 obtain⟨h1,h2,h3,h4,h5⟩:=Fx.dec_is m
 have k1:=h5 9 hm
 have k2:Lib.decNat (Fx.dec m)=some m:=by
  unfold Lib.decNat
  rw[if_neg (by simpa using h3),decFrom_all' _ _ h1]
  exact congrArg some h2
 rw[Lib.atoiAll_short _ (by omega)]
 revert k2 h1 h3
 generalize Fx.dec m=l
 intro hd hne k2
 cases l with
 | nil=>exact absurd rfl hne
 | cons c r =>
  simp only[List.all_cons,Bool.and_eq_true] at hd
  have hc:=Fx.isD_nat hd.1
  have h45:(c==45)=false:=by
   rw[beq_eq_false_iff_ne];rintro rfl;exact absurd hc.1 (by decide)
  have h43:(c==43)=false:=by
   rw[beq_eq_false_iff_ne];rintro rfl;exact absurd hc.1 (by decide)
  simp only[Lib.atoi,h45,h43,Bool.false_eq_true,if_false,k2,Option.map_some,Lib.NumEnd.ofOption]
theorem itoa_nat (k:Nat):Lib.itoa (k:Int)=Fx.dec k:=by
 rw[lib_itoa'];unfold Fx.itoa;rw[if_neg (by omega)];simp
theorem numP_name {k:Nat} (hk:k<10000000000):numP (atomName k)=some (k:Int):=by
 unfold numP
 have h:(atomName k).data.toList=63 :: Fx.dec k:=by simp[atomName]
 rw[h]
 simp only[atoi_dec hk]
 rw[if_pos (itoa_nat k)]
theorem numP_some {s:ByteArray} {v:Int} (h:numP s=some v):s.data.toList=63 :: Lib.itoa v∧-9223372036854775808≤v∧v≤9223372036854775807:=by
 unfold numP at h
 split at h
 ·rename_i d hd
  split at h
  ·rename_i u hu
   split at h
   ·rename_i he
    cases h
    exact⟨by rw[hd,he],Lib.atoiAll_bounds hu⟩
   ·cases h
  ·cases h
 ·cases h
theorem numP_at {s:ByteArray} {k:Nat} (h:numP s=some (k:Int)):s=atomName k:=by
 obtain⟨h1,_⟩:=numP_some h
 rw[itoa_nat] at h1
 obtain⟨⟨l⟩⟩:=s
 simp only at h1
 unfold atomName
 rw[← h1]
theorem num_both {s:ByteArray} {most:Nat} (hm:most≤1000000000) (k:Nat):numOf s most=some k↔numP s=some (k:Int)∧k<most:=by
 rw[numOf_some]
 constructor
 ·rintro ⟨h1,rfl⟩
  exact⟨numP_name (by omega),h1⟩
 ·rintro ⟨h1,h2⟩
  exact⟨h2,(numP_at h1).symm⟩
def nodeA (most:Nat) (x:Nd):Bool:=isLogic x.op || (x.op==3&&(numOf x.s most).isSome)
def mayA (e:List Nd) (most:Nat):Bool:=mayB e&&e.all (nodeA most)
def valN (l:List Bool) (vs:List Bool) (x:Nd):Bool :=
 if x.op=3 then l.getD ((numOf x.s l.length).getD 0) false
 else if x.op=2 then x.n==1
 else if x.op=4 then !vs.getD x.a.toNat false
 else if x.op=6 then vs.getD x.a.toNat false&&vs.getD x.b.toNat false
 else if x.op=7 then vs.getD x.a.toNat false || vs.getD x.b.toNat false
 else if x.op=8 then vs.getD x.a.toNat false != vs.getD x.b.toNat false
 else if x.op=9 then !vs.getD x.a.toNat false || vs.getD x.b.toNat false
 else (vs.getD x.a.toNat false&&vs.getD x.b.toNat false) || (!vs.getD x.a.toNat false&&vs.getD x.c.toNat false)
def vals (l:List Bool) (e:List Nd):List Bool:=e.foldl (fun vs x=>vs++[valN l vs x]) []
def valL (l:List Bool) (e:List Nd):Bool:=(vals l e).getLastD false
def valA (e:List Nd) (l:List Bool):Bool×Int:=if mayA e l.length then (valL l e,0) else (false,1)
theorem kids_logic {x:Nd} (h:isLogic x.op=true):(x.op=2∧kids x=[])∨(x.op=4∧kids x=[x.a])∨((x.op=6∨x.op=7∨x.op=8∨x.op=9)∧kids x=[x.a,x.b])∨(x.op=26∧kids x=[x.a,x.b,x.c]):=by
 have h2:x.op=2∨x.op=4∨(6≤x.op∧x.op≤9)∨x.op=26:=by
  unfold isLogic at h;simp at h;omega
 unfold kids
 rcases h2 with h | h | h | h
 ·left;simp[h]
 ·right;left;simp[h]
 ·right;right;left
  refine⟨by omega,?_⟩
  rw[if_neg (by omega),if_neg (by omega),if_neg (by omega),if_pos (by omega)]
 ·right;right;right;simp[h]
end Ux
end Go.Proofs.YtmacepicoandkaaGreatDoor
namespace Go.Proofs.YtmacepicoandkaaGreatDoor
open Go.RowKit Go.Shelf Tx
structure Gl (W:World):Prop where
 tab : Lib.TabIs Tryz.prog W "internal/strconv.uint64pow10" .u64 Lib.pow10Tab
 syn : ∃ tp p, W.var? Tryz.prog "strconv.ErrSyntax" = some #[.iface tp p]
 ran : ∃ tp p, W.var? Tryz.prog "strconv.ErrRange" = some #[.iface tp p]
 shaped:W.ShapedOpen Tryz.prog
theorem var_below {P:Program} {n:String} {g:Nat} {v:Array Value} {w w':World} (hg:P.globalNamed n=some g) (h:w.var? P n=some v) (hb:Below w.heap.size w w'):w'.var? P n=some v:=by
 unfold World.var? at h ⊢
 rw[hg] at h ⊢
 simp only[Option.bind_some] at h ⊢
 have hlt:g<w.heap.size:=by
  rcases Nat.lt_or_ge g w.heap.size with h' | h'
  ·exact h'
  ·rw[Array.getElem?_eq_none h'] at h;cases h
 rw[hb.block g hlt]
 exact h
theorem Gl.below {w w':World} (h:Gl w) (hb:Below w.heap.size w w'):Gl w':=by
 obtain⟨a,b,h1⟩:=h.syn
 obtain⟨c,d,h2⟩:=h.ran
 exact ⟨var_below (show Tryz.prog.globalNamed "internal/strconv.uint64pow10" = some 2 by kernel_rfl) h.tab hb,
  ⟨a, b, var_below (show Tryz.prog.globalNamed "strconv.ErrSyntax" = some 0 by kernel_rfl) h1 hb⟩,
  ⟨c, d, var_below (show Tryz.prog.globalNamed "strconv.ErrRange" = some 1 by kernel_rfl) h2 hb⟩,
  h.shaped.keptBut (hb.frame (fun _=>False)) (fun _ q=>q.elim)⟩
theorem below_more (w:World) (k:Nat) (os:Array Obj):Below w.heap.size w (Go.Sort.grow (w.drewN k) os) :=
 ⟨rfl,rfl,rfl,by show _≤(w.heap++os).size;simp,fun i hi=>by show (w.heap++os)[i]?=_;rw[Array.getElem?_append_left hi]⟩
theorem itoa_any (k:Nat) (hk:k<10000000000) (w:World) (G:Gl w):Calls Tryz.prog 79 #[.int .i64 k] w fun e w'=>e=.returned (.string ⟨(Fx.dec k).toArray⟩)∧Below w.heap.size w w':=by
 refine (Tryz.strconv_Itoa (k:Int) (by omega) (by omega) w G.tab).mono ?_
 rintro e w2 ⟨h,q,os,rfl⟩
 exact⟨by rw[h,Ux.itoa_nat],below_more w q os⟩
theorem itoa_int (n:Int) (h0 : -9223372036854775808≤n) (h1:n≤9223372036854775807) (w:World) (G:Gl w):Calls Tryz.prog 79 #[.int .i64 n] w fun e w'=>e=.returned (.string ⟨(Lib.itoa n).toArray⟩)∧Below w.heap.size w w':=by
 refine (Tryz.strconv_Itoa n h0 h1 w G.tab).mono ?_
 rintro e w2 ⟨h,q,os,rfl⟩
 exact⟨h,below_more w q os⟩
end Go.Proofs.YtmacepicoandkaaGreatDoor
namespace Go.Proofs.YtmacepicoandkaaGreatDoor
open Go.RowKit Go.Shelf Tx
abbrev Tsp:Nat:=98
structure Gs (sp:Nat) (w:World) (v:Value) (w':World) (v':Value):Prop where
 os:w'.os=w.os
 tape:w'.tape=w.tape
 output:w'.output=w.output
 size:w.heap.size≤w'.heap.size
 block:∀ k,k<w.heap.size→k≠sp→v.ownBlock≠some k→w'.heap[k]?=w.heap[k]?
 own:∀ g,v'.ownBlock=some g→v.ownBlock=some g∨w.heap.size≤g
section
variable {sp base : Nat} {w w1 w2 : World} {v v1 v2 : Value} {A : List (List Nd)}
theorem Gs.refl (sp:Nat) (w:World) (v:Value):Gs sp w v w v:=⟨rfl,rfl,rfl,Nat.le_refl _,fun _ _ _ _=>rfl,fun _ h=>Or.inl h⟩
theorem Gs.of_below (v:Value) (h:Below w.heap.size w w1):Gs sp w v w1 v:=⟨h.os,h.tape,h.output,h.size,fun k hk _ _=>h.block k hk,fun _ h=>Or.inl h⟩
theorem Gs.trans (h : Gs sp w v w1 v1) (k : Gs sp w1 v1 w2 v2) : Gs sp w v w2 v2 :=
  ⟨k.os.trans h.os, k.tape.trans h.tape, k.output.trans h.output, Nat.le_trans h.size k.size,
   fun i hi hs hn => (k.block i (Nat.lt_of_lt_of_le hi h.size) hs (fun e => by
     rcases h.own i e with q | q
     · exact hn q
     · omega)).trans (h.block i hi hs hn),
   fun g hg => by
     rcases k.own g hg with q | q
     · exact h.own g q
     · exact Or.inr (Nat.le_trans h.size q)⟩
theorem Gs.then (h:Gs sp w v w1 v1) (k:Below w1.heap.size w1 w2):Gs sp w v w2 v1:=h.trans (Gs.of_below _ k)
theorem Gs.other {u u' : Value} (h : Gs sp w v w1 v1) (k : Gr w1 u w2 u') (hu : ∀ g, u.ownBlock = some g → w.heap.size ≤ g) : Gs sp w v w2 v1 :=
  ⟨k.os.trans h.os, k.tape.trans h.tape, k.output.trans h.output, Nat.le_trans h.size k.size,
   fun i hi hs hn => (k.block i (Nat.lt_of_lt_of_le hi h.size) (fun e => by have := hu i e; omega)).trans (h.block i hi hs hn), h.own⟩
theorem Gs.below {w0:World} (h:Gs sp w v w1 v1) (hb:Below base w0 w) (hB:base≤w.heap.size) (hs:base≤sp) (hv:∀ g,v.ownBlock=some g→base≤g):Below base w0 w1 :=
 hb.trans ⟨h.os,h.tape,h.output,h.size,fun k hk=>h.block k (by omega) (by omega) (fun e=>by have:=hv k e;omega)⟩
theorem Gs.keeps (h:Gs sp w v w1 v1) (hs:Blk w sp #[v] Tsp) (hr:RwE base w v A) {b T:Nat} {cs:Array Value} {fr:Nat×Nat} (hb:w.heap[b]?=some (.cells cs T fr)) (hT1:T≠Tsp) (hT2:T≠54):w1.heap[b]?=some (.cells cs T fr):=by
 refine (h.block b (Array.getElem?_eq_some_iff.1 hb).1 ?_ ?_).trans hb
 ·rintro rfl
  unfold Blk at hs
  rw[hs] at hb
  cases hb;exact hT1 rfl
 ·intro e
  obtain⟨vs,h1,_⟩:=hr
  rcases h1.2 with ⟨rfl,_⟩ | ⟨g,cap,cur,rfl,_,hg,_⟩
  ·cases e
  ·cases e
   rw[hg] at hb
   cases hb;exact hT2 rfl
theorem Gs.blk (h:Gs sp w v w1 v1) (hs:Blk w sp #[v] Tsp) (hr:RwE base w v A) {b T:Nat} {cs:Array Value} (hb:Blk w b cs T) (hT1:T≠Tsp) (hT2:T≠54):Blk w1 b cs T:=h.keeps hs hr hb hT1 hT2
theorem Gs.row (h:Gs sp w v w1 v1) (hs:Blk w sp #[v] Tsp) (hr:RwE base w v A) {b2 e size n:Nat} {u:Value} {xs:List Value} (ho:w.ownsRow b2 e size u n xs) (hT1:e≠Tsp) (hT2:e≠54):w1.ownsRow b2 e size u n xs:=by
 refine⟨ho.1,?_⟩
 rcases ho.2 with h0 | ⟨g,cap,cur,rfl,hb,hg,rest⟩
 ·exact Or.inl h0
 ·exact Or.inr ⟨g,cap,cur,rfl,hb,h.keeps hs hr hg hT1 hT2,rest⟩
theorem Gs.ownE (h:Gs sp w v w1 v1) (hs:Blk w sp #[v] Tsp) (hr:RwE base w v A) {b2:Nat} {u:Value} {e:List Nd} (ho:OwnE b2 w u e):OwnE b2 w1 u e:=h.row hs hr ho (by decide) (by decide)
theorem Gs.rowI (h:Gs sp w v w1 v1) (hs:Blk w sp #[v] Tsp) (hr:RwE base w v A) {b2:Nat} {u:Value} {l:List Int} (ho:RowI b2 w u l):RowI b2 w1 u l:=by
 rcases ho with ho | ⟨g,h1,h2,h3⟩
 ·exact Or.inl ho
 ·exact Or.inr ⟨g,h1,h2,h.blk hs hr h3 (by decide) (by decide)⟩
theorem Gs.rwE (h:Gs sp w v w1 v1) (hs:Blk w sp #[v] Tsp) (hr:RwE base w v A) {b2:Nat} {u:Value} {L:List (List Nd)} (ho:RwE b2 w u L) (hd:∀ g,u.ownBlock=some g→v.ownBlock≠some g) :
  RwE b2 w1 u L∧∀ g,u.ownBlock=some g→v1.ownBlock≠some g:=by
 have hlow:=ho.low
 obtain⟨vs,h1,h2⟩:=ho
 refine⟨⟨vs,row_kept h1 (fun g hg he hl=>?_),fun i x e hx he=>h.ownE hs hr (h2 i x e hx he)⟩,fun g hg e=>?_⟩
 ·refine h.block g hl ?_ (hd g he)
  rintro rfl
  rcases h1.2 with ⟨rfl,_⟩ | ⟨g',cap,cur,rfl,_,hg',_⟩
  ·cases he
  ·cases he
   unfold Blk at hs
   rw[hs] at hg'
   cases hg'
 ·rcases h.own g e with q | q
  ·exact hd g hg q
  ·have:=(hlow g hg).2;omega
end
theorem step_atom {ops:Array Oper} {o:Oper} {a:Act} {K:Act→World→Prop} {Q:Exit→Act→World→Prop} {E:Prop} {W:World} {base sp n:Nat} {av xv:Value} {vs:List Value}
  (hgd:o.guard=none) (p q:Operand) (ho:o.op=.call { callee:=.builtin .append,args:=#[p,q],argTypes:=#[25,25] })
  (hp:a.eval p=av) (hq:a.eval q=.slice (some ⟨W.heap.size,0,none⟩) 1 1)
  (hown:W.ownsRow base 54 1 av n vs) (hlen:n≤1000000) (hbase:base≤W.heap.size) (h1x:xv.oneCell'=true)
  (hne:av.ownBlock≠some sp) (hlt:sp<W.heap.size) (hc:W.cell? ⟨sp,0,none⟩=some av) (hf:W.frozen? ⟨sp,0,none⟩=false)
  (hK:∀ g cap w1,w1.ownsRow base 54 1 (.slice (some ⟨g,0,none⟩) (n+1) cap) (n+1) (vs++[xv]) →
   ((W.alloc (.cells #[xv] 54)).drew).grownBy w1 av.ownBlock→(av.ownBlock=some g∨g=W.heap.size+1)→w1.cell? ⟨sp,0,none⟩=some av→w1.frozen? ⟨sp,0,none⟩=false→K (a.put o.dst (.slice (some ⟨g,0,none⟩) (n+1) cap)) w1) :
  if Region.wanted o (yielded ops a.tmps)=true then Oper.wp Tryz.prog o a ((W.alloc (.cells #[xv] 54)).drew) K Q else E:=by
 obtain⟨i0,z,hi,hz,hsize,hby,hzs⟩:=rowE.ex
 refine step_append_lies _ hgd p q 25 ho base 54 i0 z 1 24 rowE.ht hi hz hsize hby hzs (by decide) _ _ _ hp ((hown.alloc _).drew) _ 1 1 [xv] hq rfl
  (World.news_of_block (heap_alloc_new W _)) (by simp[h1x]) (by omega) (by unfold maxLen;omega) (by omega) (by show base≤(W.heap.push _).size;simp;omega) (W.heap.size+1) (by show (W.heap.push _).size=_;simp) ?_
 intro g cap w1 h1 h2 h3 _
 have hb:w1.heap[sp]?=W.heap[sp]?:=by
  rw[h2.block sp (by show sp<(W.heap.push _).size;simp;omega) (fun e=>hne e.symm)]
  exact Below.heap_alloc _ _ _ hlt
 exact hK g cap w1 h1 h2 h3 ((World.cell?_of_block hb).trans hc) ((World.frozen?_of_block hb).trans hf)
theorem RwE.setSp {base sp:Nat} {w:World} {v y u:Value} {A:List (List Nd)} (h:RwE base w v A) (hs:Blk w sp #[u] Tsp):RwE base (w.setCell ⟨sp,0,none⟩ y) v A:=by
 have key:∀ {b e size n:Nat} {u':Value} {xs:List Value},w.ownsRow b e size u' n xs→e≠Tsp→(w.setCell ⟨sp,0,none⟩ y).ownsRow b e size u' n xs:=fun {b e size n u' xs} ho he=>by
  refine row_kept ho fun g hg hu hl=>Below.heap_setCell _ _ _ _ ?_
  show g≠sp
  rintro rfl
  rcases ho.2 with ⟨rfl,_⟩ | ⟨g',cap,cur,rfl,_,hg',_⟩
  ·cases hu
  ·cases hu
   unfold Blk at hs;rw[hs] at hg'
   cases hg';exact he rfl
 obtain⟨vs,h1,h2⟩:=h
 exact⟨vs,key h1 (by decide),fun i x e hx he=>key (h2 i x e hx he) (by decide)⟩
theorem atom_more {base sp:Nat} {w4 w1:World} {av xv:Value} {A:List (List Nd)} {X:List Nd} {vs:List Value} {g cap al:Nat} (hal:A.length=al) (hs:Blk w4 sp #[av] Tsp) (hrow:w4.ownsRow base 54 1 av al vs)
  (hvs:∀ (i:Nat) (u:Value) (e:List Nd),vs[i]?=some u→A[i]?=some e→OwnE base w4 u e) (hx:OwnE base w4 xv X) (hne:av.ownBlock≠some sp)
  (hown:w1.ownsRow base 54 1 (.slice (some ⟨g,0,none⟩) (al+1) cap) (al+1) (vs++[xv])) (hgrow:((w4.alloc (.cells #[xv] 54)).drew).grownBy w1 av.ownBlock) (hat:av.ownBlock=some g∨g=w4.heap.size+1) :
  Blk (w1.setCell ⟨sp,0,none⟩ (.slice (some ⟨g,0,none⟩) (al+1) cap)) sp #[.slice (some ⟨g,0,none⟩) (al+1) cap] Tsp∧RwE base (w1.setCell ⟨sp,0,none⟩ (.slice (some ⟨g,0,none⟩) (al+1) cap)) (.slice (some ⟨g,0,none⟩) (al+1) cap) (A++[X]) ∧
   Gs sp w4 av (w1.setCell ⟨sp,0,none⟩ (.slice (some ⟨g,0,none⟩) (al+1) cap)) (.slice (some ⟨g,0,none⟩) (al+1) cap):=by
 have hgrow2:(w4.alloc (.cells #[xv] 54)).grownBy w1 av.ownBlock:=⟨hgrow.os,hgrow.tape,hgrow.output,hgrow.size,hgrow.block⟩
 have hlt:=hs.lt
 have hs1:Blk w1 sp #[av] Tsp:=by
  unfold Blk
  rw[hgrow2.block sp (by show sp<(w4.heap.push _).size;simp;omega) (fun e=>hne e.symm)]
  exact (Below.heap_alloc _ _ _ hlt).trans hs
 have hr:=RwE.push hal hrow hvs hx hown hgrow2
 have hgr:Gr w4 av w1 (.slice (some ⟨g,0,none⟩) (al+1) cap):=gr_append hgrow2 hat
 refine⟨?_,hr.setSp hs1,⟨hgr.os,hgr.tape,hgr.output,?_,fun k hk hks hn=>?_,hgr.own⟩⟩
 ·exact hs1.set1 _
 ·have:=hgr.size;simp[World.setCell];omega
 ·rw[Below.heap_setCell _ _ _ _ (by show k≠sp;exact hks)]
  exact hgr.block k hk hn
theorem firstI_idx {A : List (List Nd)} {x : List Nd} : (x ∈ A → firstI (fun y => decide (x = y)) A = (A.idxOf x : Int)) ∧ (x ∉ A → firstI (fun y => decide (x = y)) A = -1) := by
  refine ⟨fun h => ?_, fun h => firstI_none (by rw [List.any_eq_false]; intro y hy; simp; rintro rfl; exact h hy)⟩
  have h1 := List.idxOf_lt_length_iff.2 h
  have h2 : A[A.idxOf x]? = some x := by rw [List.getElem?_eq_getElem h1, List.getElem_idxOf]
  refine firstI_at h2 (by simp) ?_
  rw [List.any_eq_false]
  intro y hy
  simp only [decide_eq_true_eq]
  rintro rfl
  obtain ⟨j, hj, he⟩ := List.mem_take_iff_getElem.1 hy
  have hj2 : j < List.findIdx (· == x) A := by have : j < A.idxOf x := by omega
                                               simpa [List.idxOf] using this
  have h3 := List.not_of_lt_findIdx hj2
  rw [he] at h3
  simp at h3
theorem cut_lens (F:Fo):∀ A,∀ y∈(Ux.cutF F A).2,y∈A∨y.length≤F.size:=by
 induction F with
 | no=>intro A y hy;exact Or.inl hy
 | tr op n s ks r ihk ih =>
  intro A y hy
  simp only[Ux.cutF] at hy
  split at hy
  ·rcases ih _ y hy with h | h
   ·rcases ihk A y h with h | h
    ·exact Or.inl h
    ·exact Or.inr (by simp only[Fo.size];omega)
   ·exact Or.inr (by simp only[Fo.size];omega)
  ·rcases ih _ y hy with h | h
   ·split at h
    ·exact Or.inl h
    ·rcases List.mem_append.1 h with h | h
     ·exact Or.inl h
     ·rw[List.mem_singleton.1 h,Fo.flat_len];exact Or.inr (by simp only[Fo.size];omega)
   ·exact Or.inr (by simp only[Fo.size];omega)
end Go.Proofs.YtmacepicoandkaaGreatDoor
