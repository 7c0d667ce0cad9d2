/- Atoms that are put in their places again: the plain law. The law AtomsPut, whatever its argument: the walk. Items in memory; the assumptions, what modes require, their names: the plain mathematics, and the rows that are made of them. The assumptions, what modes require, their names: the walks of the program and of the reference. -/
import Derived.Test.YtmacepicoandkaaGreatDoorJ12
import Derived.Test.YtmacepicoandkaaGreatDoorJ30
import Derived.Test.YtmacepicoandkaaGreatDoorJ37
set_option linter.unusedVariables false
set_option linter.unusedSimpArgs false
namespace Go.Proofs.YtmacepicoandkaaGreatDoor
open Tx
theorem splitT_grow (l:List (List Nd)):∀ k,∃ C,(splitT l).2=(splitT (l.take k)).2++C:=by
 induction l using snoc_ind with
 | h0=>intro k;exact⟨[],by simp⟩
 | h1 l e ih =>
  intro k
  rcases Nat.lt_or_ge k (l.length+1) with h | h
  ·obtain⟨C,hC⟩:=ih k
   obtain⟨B,hB⟩:=Ux.cut_more (treeL e) (splitT l).2
   refine⟨C++B,?_⟩
   rw[List.take_append_of_le_length (by omega),splitT_snoc]
   show (Ux.cutF (treeL e) (splitT l).2).2=_
   rw[hB,hC,List.append_assoc]
  ·exact⟨[],by rw[List.take_of_length_le (by simp;omega)];simp⟩
theorem splitT_out (l:List (List Nd)):∀ (k:Nat) (e:List Nd),l[k]?=some e→(splitT l).1[k]?=some (Ux.cutF (treeL e) (splitT (l.take k)).2).1:=by
 induction l using snoc_ind with
 | h0=>intro k e h;simp at h
 | h1 l e ih =>
  intro k x hx
  rcases Nat.lt_or_ge k l.length with h | h
  ·rw[List.getElem?_append_left h] at hx
   rw[splitT_snoc,List.getElem?_append_left (by rw[splitT_len];exact h),List.take_append_of_le_length (by omega)]
   exact ih k x hx
  ·have hk:=(List.getElem?_eq_some_iff.1 hx).1
   simp only[List.length_append,List.length_singleton] at hk
   obtain rfl:k=l.length:=by omega
   rw[List.getElem?_append_right (Nat.le_refl _)] at hx
   simp at hx;subst hx
   rw[splitT_snoc,List.getElem?_append_right (by rw[splitT_len];omega),splitT_len,Nat.sub_self,List.take_left']
   ·rfl
   ·rfl
def namesN (n:Nat):List ByteArray:=(List.range n).map Ux.atomName
theorem namesN_len (n:Nat):(namesN n).length=n:=by simp[namesN]
theorem find_congr {α:Type} {p q:α→Bool} (l:List α) (h:∀ x∈l,p x=q x):l.find? p=l.find? q:=by
 induction l with
 | nil=>rfl
 | cons a r ih =>
  rw[List.find?_cons,List.find?_cons,h a (by simp),ih (fun x hx=>h x (by simp[hx]))]
theorem byL_names (A:List (List Nd)):byL (namesN A.length) A=Ux.byName A:=by
 funext s
 unfold byL Ux.byName placeL
 rw[namesN_len]
 congr 1
 refine find_congr _ ?_
 intro k hk
 have hk2:k<A.length:=by simpa using hk
 have:(namesN A.length).getD k ByteArray.empty=Ux.atomName k:=by
  unfold namesN
  rw[List.getD_eq_getElem?_getD,List.getElem?_map,List.getElem?_range hk2];rfl
 rw[this]
structure PutF (l A O:List (List Nd)):Prop where
 len:A.length≤30
 outs:O.length=l.length
 atom:∀ x∈A,mayB x=true∧x.length≤200
 each:∀ (k:Nat) (o e:List Nd),O[k]?=some o→l[k]?=some e→mayB o=true∧o.length≤200∧e.length≤200∧(subL e ((e.length:Int) - 1)).length≤200∧putE (namesN A.length) A o=subL e ((e.length:Int) - 1)
theorem putF_of {l:List (List Nd)} (hM:∀ e∈l,e.length≤200) (h:(splitR l).2.2=0):PutF l (splitR l).1 (splitR l).2.1:=by
 obtain⟨h1,h2,h3⟩:=splitR_ok h
 obtain⟨h4,h5⟩:=splitT_atoms 200 l h1 hM
 rw[h3]
 refine⟨h2,by simp[splitT_len],fun x hx=>?_,fun k o e ho he=>?_⟩
 ·obtain⟨a,_,_,_,_⟩:=atom_is (by omega) (h4 x hx)
  obtain⟨op,n,s,ks,e,_,_,_,hs,_⟩:=h4 x hx
  exact⟨a,by rw[e,Fo.flat_len];exact hs⟩
 ·have hme:=h1 e (List.mem_of_getElem? he)
  have hle:=hM e (List.mem_of_getElem? he)
  obtain⟨t1,t2,t3,t4,t5⟩:=tree_is hme
  simp only at ho
  rw[List.getElem?_map,splitT_out l k e he] at ho
  simp only[Option.map_some,Option.some.injEq] at ho
  subst ho
  generalize hA:(splitT (l.take k)).2=A0
  have c1:=Ux.cut_wf (treeL e) A0 t1 t3
  have c2:=Ux.cut_count (treeL e) A0
  have c3:=Ux.cut_size (treeL e) A0
  have c4:=Ux.cut_depth (treeL e) A0
  have c5:=Ux.cut_ops (treeL e) A0 t3
  rw[t2] at c2
  refine⟨?_,by rw[Fo.flat_len];omega,hle,by rw[sub_last hme,Fo.flat_len];have:=may_size hme;unfold treeL at this;omega,?_⟩
  ·rw[may_flat c1 c2]
   unfold okF
   simp only[Bool.and_eq_true,decide_eq_true_eq]
   obtain⟨op,n,s,ks,_,ho⟩:=ops_one c2
   refine⟨⟨by omega,by omega⟩,?_⟩
   rw[ho] at c5 ⊢
   simpa using c5
  ·rw[sub_last hme]
   unfold putE
   rw[byL_names,Fo.flat_len,T_flat0 c1 c2]
   have hB:∃ C,(splitT l).2=(Ux.cutF (treeL e) A0).2++C:=by
    obtain⟨C,hC⟩:=splitT_grow l (k+1)
    rw[splitT_next he,hA] at hC
    exact⟨C,hC⟩
   rw[Ux.cut_put (treeL e) A0 (splitT l).2 t1 t3 hB]
   rfl
end Go.Proofs.YtmacepicoandkaaGreatDoor
namespace Go.Proofs.YtmacepicoandkaaGreatDoor
open Go.RowKit Go.Shelf Tx
theorem rowStr:RowTy Tryz.prog 26 9 1 16:=RowTy.mk' Tryz.underlying26 (z:=.string ByteArray.empty) (by kernel_rfl) rfl (by decide)
theorem below_growth {B:Nat} {w w':World} {row:Option Nat} (h:w.grownBy w' row) (hB:B≤w.heap.size) (hr:∀ q,row=some q→B≤q):Below B w w' :=
 ⟨h.os,h.tape,h.output,h.size,fun k hk=>h.block k (by omega) (fun e=>by have:=hr k e.symm;omega)⟩
end Go.Proofs.YtmacepicoandkaaGreatDoor
namespace Go.Proofs.YtmacepicoandkaaGreatDoor
open Go.RowKit Go.Shelf Tx
structure It where
 kind:Int
 name:ByteArray
 ty:Int
 e:List Nd
def IsIt (w:World) (cs:List Value) (x:It):Prop:=∃ (ea fa ga:Option Addr) (ec fn fc gn gc:Nat),
 cs=[.int .i64 x.kind,.string x.name,.int .i64 x.ty,.slice ea x.e.length ec,.slice fa fn fc,.slice ga gn gc]∧IsE w (.slice ea x.e.length ec) x.e
theorem keepsIt:Keeps IsIt:=fun _ _ _ _ ⟨ea,fa,ga,ec,fn,fc,gn,gc,h1,h2⟩ hb=>⟨ea,fa,ga,ec,fn,fc,gn,gc,h1,Sl.below h2 hb⟩
def asmL (l:List It):List (List Nd):=(l.filter fun x=>x.kind==1).map (·.e)
def reqL (l:List It):List (List Nd):=(l.filter fun x=>x.kind==4).map (·.e)
def nmsL (l:List It):List ByteArray:=(l.filter fun x=>x.kind==4).map (·.name)
theorem asm_snoc (l:List It) (x:It):asmL (l++[x])=asmL l++if x.kind=1 then [x.e] else []:=by
 unfold asmL;rw[List.filter_append,List.map_append];congr 1
 by_cases h:x.kind=1 <;> simp[h]
theorem req_snoc (l:List It) (x:It):reqL (l++[x])=reqL l++if x.kind=4 then [x.e] else []:=by
 unfold reqL;rw[List.filter_append,List.map_append];congr 1
 by_cases h:x.kind=4 <;> simp[h]
theorem nms_snoc (l:List It) (x:It):nmsL (l++[x])=nmsL l++if x.kind=4 then [x.name] else []:=by
 unfold nmsL;rw[List.filter_append,List.map_append];congr 1
 by_cases h:x.kind=4 <;> simp[h]
theorem asm_len (l:List It):(asmL l).length≤l.length:=by unfold asmL;rw[List.length_map];exact List.length_filter_le _ _
theorem req_len (l:List It):(reqL l).length≤l.length:=by unfold reqL;rw[List.length_map];exact List.length_filter_le _ _
theorem nms_len (l:List It):(nmsL l).length=(reqL l).length:=by unfold nmsL reqL;simp
theorem asm_take {l:List It} {t:Nat} {x:It} (h:l[t]?=some x):asmL (l.take (t+1))=asmL (l.take t)++if x.kind=1 then [x.e] else []:=by rw[take_at h,asm_snoc]
theorem req_take {l:List It} {t:Nat} {x:It} (h:l[t]?=some x):reqL (l.take (t+1))=reqL (l.take t)++if x.kind=4 then [x.e] else []:=by rw[take_at h,req_snoc]
theorem nms_take {l:List It} {t:Nat} {x:It} (h:l[t]?=some x):nmsL (l.take (t+1))=nmsL (l.take t)++if x.kind=4 then [x.name] else []:=by rw[take_at h,nms_snoc]
theorem few_take (l:List It) (t:Nat):(asmL (l.take t)).length≤l.length∧(reqL (l.take t)).length≤l.length:=by
 have h1:=asm_len (l.take t)
 have h2:=req_len (l.take t)
 rw[List.length_take] at h1 h2
 omega
def RwI (w0:World) (base:Nat) (W:World) (v:Value) (L:List (List Nd)):Prop :=
 ∃ us:List Value,W.ownsRow base 54 1 v L.length us∧us.length=L.length∧∀ (i:Nat) (u:Value) (e:List Nd),us[i]?=some u→L[i]?=some e→IsE w0 u e
theorem RwI.nil_ (w0:World) (base:Nat) (W:World):RwI w0 base W (.slice none 0 0) []:=⟨[],World.ownsRow_nil _ _ _ _,rfl,fun i u e h=>by simp at h⟩
theorem RwI.sg {w0 W:World} {base:Nat} {v:Value} {L:List (List Nd)} (h:RwI w0 base W v L) (hb:Below w0.heap.size w0 W):Sg 1 IsL W v L:=by
 obtain⟨us,h1,h2,h3⟩:=h
 have hs:Sl oneC 1 W v us:=Sl.own oneC_len (by rw[flat_one];exact h1) h2
 refine⟨us.map oneC,?_,by simpa using h2,fun i c e hc he=>?_⟩
 ·rcases hs with ⟨rfl,a,c,rfl⟩ | ⟨b,o,c,rfl,g1,g2,g3⟩
  ·exact Or.inl ⟨rfl,a,c,rfl⟩
  ·refine Or.inr ⟨b,o,c,by simp,by simpa using g1,g2,fun i x hi j u hu=>?_⟩
   rw[List.getElem?_map] at hi
   obtain⟨y,hy,rfl⟩:=Option.map_eq_some_iff.1 hi
   exact g3 i y hy j u hu
 ·rw[List.getElem?_map] at hc
  obtain⟨y,hy,rfl⟩:=Option.map_eq_some_iff.1 hc
  exact⟨y,rfl,Sl.below (h3 i y e hy he) hb⟩
theorem RwI.own_lt {w0 W:World} {base:Nat} {v:Value} {L:List (List Nd)} (h:RwI w0 base W v L):∀ g,v.ownBlock=some g→base≤g∧g<W.heap.size:=by
 obtain⟨us,h1,_⟩:=h;exact fun g hg=>h1.lt g hg
theorem RwI.alloc {w0 W:World} {base:Nat} {v:Value} {L:List (List Nd)} (h:RwI w0 base W v L) (o:Obj):RwI w0 base (W.alloc o) v L:=by
 obtain⟨us,h1,h2,h3⟩:=h;exact⟨us,h1.alloc _,h2,h3⟩
theorem RwI.kept {w0 W W':World} {base:Nat} {v:Value} {L:List (List Nd)} (h:RwI w0 base W v L) {row:Option Nat} (hg:W.grownBy W' row) (hn:v.ownBlock=none∨v.ownBlock≠row):RwI w0 base W' v L:=by
 obtain⟨us,h1,h2,h3⟩:=h;exact⟨us,h1.kept hg hn,h2,h3⟩
theorem RwI.form {w0 W:World} {base:Nat} {v:Value} {L:List (List Nd)} (h:RwI w0 base W v L):∃ a c,v=.slice a L.length c∧L.length≤c:=by
 obtain⟨us,h1,h2,h3⟩:=h
 rcases h1.2 with ⟨rfl,h0⟩ | ⟨g,cap,cur,rfl,_,_,hc,_⟩
 ·exact⟨none,0,by rw[h0],by omega⟩
 ·exact⟨_,_,rfl,hc⟩
abbrev Names (base:Nat) (W:World) (v:Value) (L:List ByteArray):Prop:=W.ownsRow base 9 1 v L.length (L.map Value.string)
structure PartsAt (l:List It) (w:World) (t:Nat) (W:World) (a r n:Value):Prop where
 below:Below w.heap.size w W
 ra:RwI w w.heap.size W a (asmL (l.take t))
 rr:RwI w w.heap.size W r (reqL (l.take t))
 rn:Names w.heap.size W n (nmsL (l.take t))
 apart:∀ g,a.ownBlock=some g→r.ownBlock≠some g
theorem PartsAt.start (l:List It) (w:World):PartsAt l w 0 w (.slice none 0 0) (.slice none 0 0) (.slice none 0 0) :=
 ⟨Below.refl _ _,RwI.nil_ _ _ _,RwI.nil_ _ _ _,World.ownsRow_nil _ _ _ _,fun g h=>by simp[Value.ownBlock] at h⟩
theorem PartsAt.alloc {l:List It} {w W:World} {t:Nat} {a r n:Value} (h:PartsAt l w t W a r n) (o:Obj):PartsAt l w t (W.alloc o) a r n :=
 ⟨h.below.alloc h.below.size o,h.ra.alloc o,h.rr.alloc o,h.rn.alloc _,h.apart⟩
theorem PartsAt.pass {l:List It} {w W:World} {t:Nat} {a r n:Value} (h:PartsAt l w t W a r n) {x:It} (hx:l[t]?=some x) (h1:x.kind≠1) (h4:x.kind≠4):PartsAt l w (t+1) W a r n:=by
 refine⟨h.below,?_,?_,?_,h.apart⟩
 ·rw[asm_take hx,if_neg h1,List.append_nil];exact h.ra
 ·rw[req_take hx,if_neg h4,List.append_nil];exact h.rr
 ·show World.ownsRow _ _ _ _ _ _ _;rw[nms_take hx,if_neg h4,List.append_nil];exact h.rn
theorem own_some {g n c:Nat} : (Value.slice (some ⟨g,0,none⟩) n c).ownBlock=some g:=rfl
theorem PartsAt.assume {l:List It} {w W W':World} {t g cap:Nat} {a r n u:Value} {us:List Value} {x:It} (h:PartsAt l w t W a r n) (hx:l[t]?=some x) (hk:x.kind=1) (hu:IsE w u x.e)
  (h1:W.ownsRow w.heap.size 54 1 a (asmL (l.take t)).length us) (h2:us.length=(asmL (l.take t)).length) (h3:∀ (i:Nat) (u:Value) (e:List Nd),us[i]?=some u→(asmL (l.take t))[i]?=some e→IsE w u e)
  (hown:W'.ownsRow w.heap.size 54 1 (.slice (some ⟨g,0,none⟩) ((asmL (l.take t)).length+1) cap) ((asmL (l.take t)).length+1) (us++[u])) (hgrow:W.grownBy W' a.ownBlock) (hat:a.ownBlock=some g∨g=W.heap.size) :
  PartsAt l w (t+1) W' (.slice (some ⟨g,0,none⟩) ((asmL (l.take t)).length+1) cap) r n:=by
 refine⟨h.below.trans (below_growth hgrow h.below.size (fun q hq=>(h1.lt q hq).1)),?_,?_,?_,?_⟩
 ·rw[asm_take hx,if_pos hk]
  refine⟨us++[u],by rw[List.length_append,List.length_singleton];exact hown,by simp[h2],fun i v e hv he=>?_⟩
  rcases Nat.lt_or_ge i us.length with hi | hi
  ·rw[List.getElem?_append_left hi] at hv
   rw[List.getElem?_append_left (by omega)] at he
   exact h3 i v e hv he
  ·have hi2:=(List.getElem?_eq_some_iff.1 hv).1
   simp only[List.length_append,List.length_singleton] at hi2
   obtain rfl:i=us.length:=by omega
   rw[List.getElem?_append_right (Nat.le_refl _)] at hv
   rw[h2,List.getElem?_append_right (Nat.le_refl _)] at he
   simp at hv he;subst hv he;exact hu
 ·rw[req_take hx,if_neg (by rw[hk];decide),List.append_nil]
  refine h.rr.kept hgrow ?_
  cases hr:r.ownBlock with
  | none=>exact Or.inl rfl
  | some q=>exact Or.inr fun e=>h.apart q e.symm hr
 ·show World.ownsRow _ _ _ _ _ _ _
  rw[nms_take hx,if_neg (by rw[hk];decide),List.append_nil]
  exact World.ownsRow.kept h.rn hgrow (row_apart h.rn h1 (by decide))
 ·intro q hq hr
  rw[own_some] at hq
  cases hq
  rcases hat with hat | hat
  ·exact h.apart g hat hr
  ·have:=(h.rr.own_lt g hr).2;omega
theorem PartsAt.require {l:List It} {w W W' W2:World} {t g cap g2 cap2:Nat} {a r n u:Value} {us:List Value} {x:It} {o:Obj} (h:PartsAt l w t W a r n) (hx:l[t]?=some x) (hk:x.kind=4) (hu:IsE w u x.e)
  (h1:W.ownsRow w.heap.size 54 1 r (reqL (l.take t)).length us) (h2:us.length=(reqL (l.take t)).length) (h3:∀ (i:Nat) (u:Value) (e:List Nd),us[i]?=some u→(reqL (l.take t))[i]?=some e→IsE w u e)
  (hown:W'.ownsRow w.heap.size 54 1 (.slice (some ⟨g,0,none⟩) ((reqL (l.take t)).length+1) cap) ((reqL (l.take t)).length+1) (us++[u])) (hgrow:W.grownBy W' r.ownBlock) (hat:r.ownBlock=some g∨g=W.heap.size)
  (hown2:W2.ownsRow w.heap.size 9 1 (.slice (some ⟨g2,0,none⟩) ((nmsL (l.take t)).length+1) cap2) ((nmsL (l.take t)).length+1) ((nmsL (l.take t)).map Value.string++[.string x.name])) (hgrow2:(W'.alloc o).grownBy W2 n.ownBlock) :
  PartsAt l w (t+1) W2 a (.slice (some ⟨g,0,none⟩) ((reqL (l.take t)).length+1) cap) (.slice (some ⟨g2,0,none⟩) ((nmsL (l.take t)).length+1) cap2):=by
 have hb1:Below w.heap.size w W':=h.below.trans (below_growth hgrow h.below.size (fun q hq=>(h1.lt q hq).1))
 have hrn:W'.ownsRow w.heap.size 9 1 n (nmsL (l.take t)).length ((nmsL (l.take t)).map Value.string):=World.ownsRow.kept h.rn hgrow (row_apart h.rn h1 (by decide))
 have hra:RwI w w.heap.size W' a (asmL (l.take t)):=by
  refine h.ra.kept hgrow ?_
  cases ha:a.ownBlock with
  | none=>exact Or.inl rfl
  | some q=>exact Or.inr fun e=>h.apart q ha e.symm
 refine⟨(hb1.alloc hb1.size o).trans (below_growth hgrow2 (by have:=hb1.size;simp;omega) (fun q hq=>(hrn.lt q hq).1)),?_,?_,?_,?_⟩
 ·rw[asm_take hx,if_neg (by rw[hk];decide),List.append_nil]
  obtain⟨vs,k1,k2,k3⟩:=hra.alloc o
  exact⟨vs,World.ownsRow.kept k1 hgrow2 (row_apart k1 (World.ownsRow.alloc hrn o) (by decide)),k2,k3⟩
 ·rw[req_take hx,if_pos hk]
  refine⟨us++[u],by rw[List.length_append,List.length_singleton];exact World.ownsRow.kept (hown.alloc o) hgrow2 (row_apart (hown.alloc o) (World.ownsRow.alloc hrn o) (by decide)),by simp[h2],fun i v e hv he=>?_⟩
  rcases Nat.lt_or_ge i us.length with hi | hi
  ·rw[List.getElem?_append_left hi] at hv
   rw[List.getElem?_append_left (by omega)] at he
   exact h3 i v e hv he
  ·have hi2:=(List.getElem?_eq_some_iff.1 hv).1
   simp only[List.length_append,List.length_singleton] at hi2
   obtain rfl:i=us.length:=by omega
   rw[List.getElem?_append_right (Nat.le_refl _)] at hv
   rw[h2,List.getElem?_append_right (Nat.le_refl _)] at he
   simp at hv he;subst hv he;exact hu
 ·show World.ownsRow _ _ _ _ _ _ _
  rw[nms_take hx,if_pos hk,List.map_append,List.length_append]
  exact hown2
 ·intro q hq hr
  rw[own_some] at hr
  cases hr
  rcases hat with hat | hat
  ·exact h.apart g hq hat
  ·have:=(h.ra.own_lt g hq).2;omega
end Go.Proofs.YtmacepicoandkaaGreatDoor
namespace Go.Proofs.YtmacepicoandkaaGreatDoor
open Go.RowKit Go.Shelf Tx
def PartsPost (l:List It) (w:World) (r:Ending) (w':World):Prop :=
 ∃ va vr vn,r=.returned (.tuple #[va,vr,vn])∧PartsAt l w l.length w' va vr vn
theorem cell_one_at (w:World) (v:Value) (T H:Nat) (hH:w.heap.size=H):∀ (j:Nat) (u:Value),[v][j]?=some u→(w.alloc (.cells #[v] T)).cell? ((⟨H,0,none⟩ : Addr).add j)=some u:=by
 subst hH;exact cell_one_new w v T
theorem six_it {W:World} {b o:Nat} {cs:List Value} (h:∀ j u,cs[j]?=some u→W.cell? ⟨b,o+j,none⟩=some u) {c0 c1 c2 c3 c4 c5:Value} (hc:cs=[c0,c1,c2,c3,c4,c5]) :
  W.cell? ⟨b,o,none⟩=some c0∧W.cell? ⟨b,o+1,none⟩=some c1∧W.cell? ⟨b,o+2,none⟩=some c2∧W.cell? ⟨b,o+3,none⟩=some c3∧W.cell? ⟨b,o+4,none⟩=some c4∧W.cell? ⟨b,o+5,none⟩=some c5:=by
 subst hc
 exact⟨h 0 _ rfl,h 1 _ rfl,h 2 _ rfl,h 3 _ rfl,h 4 _ rfl,h 5 _ rfl⟩
set_option maxRecDepth 100000 in
set_option maxHeartbeats 4000000 in
theorem parts_any (l:List It) (v:Value) (w:World) (hl:l.length≤1000) (hv:Sg 6 IsIt w v l) :
  Calls Tryz.prog 21 #[v] w (PartsPost l w):=by
 obtain⟨a,c,rfl,hc,hx⟩:=hv.form keepsIt
 obtain⟨n,hn⟩ : ∃ n,n=l.length:=⟨_,rfl⟩
 have HX:=Lib.hid hx
 have HN:=Lib.hid hn
 rw[← hn] at hl hc ⊢
 clear hv hx hn
 go_enter Tryz.func21,Tryz.ntmps21
 go_wp2_with fail
 go_loopw [2,3,4,9] (fun a r m i wr=>∃ t:Nat,i=.int .i64 t∧t≤n∧PartsAt l w t wr a r m) (fun _ _ _ i _=>n - (intOf i).toNat)
 case atStart=>exact⟨0,rfl,Nat.zero_le _,PartsAt.start l w⟩
 case round =>
  obtain⟨t,rfl,ht,hP⟩:=hrel
  by_cases hlt:t<n
  ·obtain⟨x,hxt⟩ : ∃ x,l[t]?=some x:=⟨_,List.getElem?_eq_getElem (by have:=HN.out;omega)⟩
   obtain⟨b,o,cs,rfl,⟨ea,fa,ga,ec,fn,fc,gn,gc,hcs,hE⟩,hcell⟩:=HX.out wr hP.below t x hxt
   obtain⟨b0,o0,cs0,e0,⟨ea',fa',ga',ec',fn',fc',gn',gc',hcs0,hE0⟩,hcell0⟩:=HX.out w (Below.refl _ _) t x hxt
   cases e0
   obtain⟨c0,c1,c2,c3,c4,c5⟩:=six_it hcell hcs
   have hbl:b<w.heap.size:=by
    have h0:=hcell0 0 _ (by rw[hcs0];rfl)
    exact World.block_lt_of_cell? w _ h0
   have hu:IsE w (.slice ea x.e.length ec) x.e:=by
    have h0:=hcell0 3 _ (by rw[hcs0];rfl)
    have h1:=(hP.below.cell (p:=⟨b,o+t * 6+3,none⟩) hbl).trans h0
    rw[c3] at h1
    have h2:=Option.some.inj h1
    rw[h2];exact hE0
   have htn:(t:Int)<(n:Int):=by omega
   have ht0:(0:Int)≤(t:Int):=by omega
   have HXT:=Lib.hid hxt
   have HU:=Lib.hid hu
   have hPI:=hP.alloc (.cells #[.int .i64 x.kind,.string x.name,.int .i64 x.ty,.slice ea x.e.length ec,.slice fa fn fc,.slice ga gn gc] 56)
   have HP:=Lib.hid hPI
   have hfew:=few_take l t
   have hnl:=nms_len (l.take t)
   rw[← HN.out] at hfew
   obtain⟨el,hel⟩ : ∃ el,el=x.e.length:=⟨_,rfl⟩
   rw[← hel] at c3 HP HU
   obtain⟨nb,hnb⟩ : ∃ nb,nb=w.heap.size:=⟨_,rfl⟩
   have hwr:nb≤wr.heap.size:=by rw[hnb];exact hP.below.size
   have HNB:=Lib.hid hnb
   clear hxt hcs hcs0 hE hE0 hcell hcell0 hu hPI hel hnb hbl
   by_cases hk1:x.kind=1
   ·obtain⟨us,h1,h2,h3⟩:=HP.out.ra
    have e1:(x.kind==1)=true:=by simp[hk1]
    have HK:=Lib.hid hk1
    have H1:=Lib.hid h1
    have H2:=Lib.hid h2
    have H3:=Lib.hid h3
    obtain⟨k,hk⟩ : ∃ k,k=(asmL (l.take t)).length:=⟨_,rfl⟩
    obtain⟨Wi,hWi⟩ : ∃ Wi,Wi=wr.alloc (.cells #[.int .i64 x.kind,.string x.name,.int .i64 x.ty,.slice ea el ec,.slice fa fn fc,.slice ga gn gc] 56):=⟨_,rfl⟩
    have hwz:Wi.heap.size=wr.heap.size+1:=by rw[hWi];simp
    have HWI:=Lib.hid hWi
    have HWZ:=Lib.hid hwz
    rw[← hWi] at HP H1
    have h1':Hid ((wr.alloc (.cells #[.int .i64 x.kind,.string x.name,.int .i64 x.ty,.slice ea el ec,.slice fa fn fc,.slice ga gn gc] 56)).ownsRow nb 54 1 u2 k us):=by show World.ownsRow _ _ _ _ _ _ _;rw[HNB.out,hk,← HWI.out];exact H1.out
    have hkn:k≤n:=by rw[hk];exact hfew.1
    have HKK:=Lib.hid hk
    clear hk1 h1 h2 h3 hk hP hfew hnl hWi hwz
    go_wp2_with (at_builtin;refine wpList_app rowE rfl _ _ rfl nb u2 k us rfl (h1'.out.alloc _) ⟨wr.heap.size+1,0,none⟩ 1 [.slice ea el ec] rfl rfl (cell_one_at _ _ _ _ (by simp)) (by simp[Value.oneCell']) (by omega) (by simp;omega) (wr.heap.size+2) (by simp) ?_)
    intro g cap w4 hown hgrow hat _ _
    rw[← HWI.out] at hgrow h1'
    have hF:PartsAt l w (t+1) w4 (.slice (some ⟨g,0,none⟩) (k+1) cap) u3 u4:=by
     have hQ:=HP.out.alloc (.cells #[.slice ea el ec] 54)
     have:=hQ.assume HXT.out HK.out HU.out (by rw[← HKK.out,← HNB.out];exact h1'.out.alloc _) H2.out H3.out (cap:=cap) (g:=g) (by rw[← HKK.out,← HNB.out];exact hown) hgrow (by rcases hat with h | h;exact Or.inl h;right;rw[h,World.size_alloc,HWZ.out])
     rw[← HKK.out] at this;exact this
    have HF:=Lib.hid hF
    clear hown hgrow hat hF HP h1' H1 H2 H3
    go_wp2_with fail
    go_roundw
    case rel=>exact⟨t+1,by go_num,by omega,HF.out⟩
    case measure=>simp[intOf];omega
   ·have e1:(x.kind==1)=false:=by simpa using hk1
    have HK1:=Lib.hid hk1
    clear hk1
    by_cases hk4:x.kind=4
    ·obtain⟨us,h1,h2,h3⟩:=HP.out.rr
     have e4:(x.kind==4)=true:=by simp[hk4]
     have HK:=Lib.hid hk4
     have H2:=Lib.hid h2
     have H3:=Lib.hid h3
     have hrn:=HP.out.rn
     have HO3:Hid (∀ q,u3.ownBlock=some q→q<wr.heap.size):=fun q hq=>(hP.rr.own_lt q hq).2
     obtain⟨k,hk⟩ : ∃ k,k=(reqL (l.take t)).length:=⟨_,rfl⟩
     obtain⟨Wi,hWi⟩ : ∃ Wi,Wi=wr.alloc (.cells #[.int .i64 x.kind,.string x.name,.int .i64 x.ty,.slice ea el ec,.slice fa fn fc,.slice ga gn gc] 56):=⟨_,rfl⟩
     have hwz:Wi.heap.size=wr.heap.size+1:=by rw[hWi];simp
     have HWI:=Lib.hid hWi
     have HWZ:=Lib.hid hwz
     rw[← hWi] at HP h1 hrn
     have h1':Hid ((wr.alloc (.cells #[.int .i64 x.kind,.string x.name,.int .i64 x.ty,.slice ea el ec,.slice fa fn fc,.slice ga gn gc] 56)).ownsRow nb 54 1 u3 k us):=by show World.ownsRow _ _ _ _ _ _ _;rw[HNB.out,hk,← HWI.out];exact h1
     have hn':Hid (Wi.ownsRow nb 9 1 u4 k ((nmsL (l.take t)).map Value.string)):=by show World.ownsRow _ _ _ _ _ _ _;rw[HNB.out,hk,← hnl];exact hrn
     have HNL:Hid ((nmsL (l.take t)).length=k):=by show _=_;rw[hnl,hk]
     have hkn:k≤n:=by rw[hk];exact hfew.2
     have HKK:=Lib.hid hk
     clear hk4 h1 h2 h3 hk hP hfew hnl hWi hwz hrn
     go_wp2_with (at_builtin;refine wpList_app rowE rfl _ _ rfl nb u3 k us rfl (h1'.out.alloc _) ⟨wr.heap.size+1,0,none⟩ 1 [.slice ea el ec] rfl rfl (cell_one_at _ _ _ _ (by simp)) (by simp[Value.oneCell']) (by omega) (by simp;omega) (wr.heap.size+2) (by simp) ?_)
     intro g cap w4 hown hgrow hat _ _
     rw[← HWI.out] at hgrow h1'
     have hown0:=Lib.hid hown
     have hq1:=hn'.out.alloc (.cells #[.slice ea el ec] 54)
     have hq2:=h1'.out.alloc (.cells #[.slice ea el ec] 54)
     have hn4:Hid (w4.ownsRow nb 9 1 u4 k ((nmsL (l.take t)).map Value.string)):=World.ownsRow.kept hq1 hgrow (row_apart hq1 hq2 (by decide))
     have hk0:Blk w4 wr.heap.size #[.int .i64 x.kind,.string x.name,.int .i64 x.ty,.slice ea el ec,.slice fa fn fc,.slice ga gn gc] 56:=by
      have h0:Blk Wi wr.heap.size #[.int .i64 x.kind,.string x.name,.int .i64 x.ty,.slice ea el ec,.slice fa fn fc,.slice ga gn gc] 56:=by rw[HWI.out];exact Blk.new _ _ _
      have h1:=h0.below ((Below.refl Wi.heap.size Wi).alloc (Nat.le_refl _) (.cells #[.slice ea el ec] 54))
      exact (hgrow.block wr.heap.size h1.lt (fun e=>by have:=HO3.out _ e.symm;omega)).trans h1
     have hc4:w4.cell? ⟨wr.heap.size,1,none⟩=some (.string x.name):=by
      unfold Blk at hk0;simp[World.cell?,hk0]
     have hsz4:wr.heap.size+2≤w4.heap.size:=by have:=hgrow.size;rw[World.size_alloc,HWZ.out] at this;omega
     have HG4:=Lib.hid hgrow
     have HAT:=Lib.hid hat
     clear hq1 hq2 hk0 hown hgrow hat
     go_wp2_with (at_builtin;refine wpList_app rowStr rfl _ _ rfl nb u4 k _ rfl (hn4.out.alloc _) ⟨w4.heap.size,0,none⟩ 1 [.string x.name] rfl rfl (cell_one_new _ _ _) (by simp[Value.oneCell']) (by omega) (by simp;omega) (w4.heap.size+1) (by simp) ?_)
     intro g2 cap2 w5 hown2 hgrow2 _ _ _
     have hF:PartsAt l w (t+1) w5 u2 (.slice (some ⟨g,0,none⟩) (k+1) cap) (.slice (some ⟨g2,0,none⟩) (k+1) cap2):=by
      have hQ:=HP.out.alloc (.cells #[.slice ea el ec] 54)
      have:=hQ.require HXT.out HK.out HU.out (by rw[← HKK.out,← HNB.out];exact h1'.out.alloc _) H2.out H3.out (cap:=cap) (g:=g) (by rw[← HKK.out,← HNB.out];exact hown0.out) HG4.out (by rcases HAT.out with h | h;exact Or.inl h;right;rw[h,World.size_alloc,HWZ.out])
       (g2:=g2) (cap2:=cap2) (o:=.cells #[.string x.name] 9) (by rw[HNL.out,← HNB.out];exact hown2) hgrow2
      rw[← HKK.out,HNL.out] at this;exact this
     have HF:=Lib.hid hF
     clear hown2 hgrow2 hF HP h1' H2 H3 hn' hn4 hc4 HG4 HAT hown0 HO3
     go_wp2_with fail
     go_roundw
     case rel=>exact⟨t+1,by go_num,by omega,HF.out⟩
     case measure=>simp[intOf];omega
    ·have e4:(x.kind==4)=false:=by simpa using hk4
     have hF:=HP.out.pass HXT.out HK1.out hk4
     have HF:=Lib.hid hF
     clear hk4 hF hP hfew hnl HP
     go_wp2_with fail
     go_roundw
     case rel=>exact⟨t+1,by go_num,by omega,HF.out⟩
     case measure=>simp[intOf];omega
  ·have hte:t=n:=by omega
   subst hte
   have hF:PartsAt l w l.length wr u2 u3 u4:=by rw[← HN.out];exact hP
   have HF:=Lib.hid hF
   clear hP hF
   go_wp2_with fail
   go_ret3
   exact⟨_,_,_,rfl,HF.out⟩
end Go.Proofs.YtmacepicoandkaaGreatDoor
