/- Two lists of expressions, one behind the other: append to a slice that is cut at its length. A list of expressions behind a row that the call made: append to a slice of the call's own. Two expressions more behind some: a step of a region. -/
import Derived.ArgAppend
import Derived.Laws.OwnMore
import Derived.Deep.RegionLawGrows
import Derived.Test.YtmacepicoandkaaGreatDoorJ38
set_option linter.unusedVariables false
set_option linter.unusedSimpArgs false
namespace Go.Proofs.YtmacepicoandkaaGreatDoor
open Go.RowKit Go.Shelf Tx
theorem run_append_nothing {P:Program} {w:World} (t ty e:TypeId) (i:TypeInfo) (ht:P.underlying t=some (.slice e)) (hi:P.info? e=some i) (so xo:Option Addr) (n c:Nat) (hs:so=none→n=0) :
  (Builtin.append_ #[t,t] ty #[.slice so n n,.slice xo 0 c]).run P w=.ok (.slice so n n) w:=by
 have hf:∀ a:Addr,(Builtin.firstCells i.size 0 (.slice (some a) 0 c)).run P w=.ok #[] w:=fun a=>run_firstCells_some (P:=P) w i.size 0 a 0 c [] (by simp) (fun j u h=>by simp at h)
 cases so with
 | none =>
  obtain rfl:=hs rfl
  cases xo with
  | none=>simp[Builtin.append_,run_underlying ht,sizeOf,typeInfo,hi,Builtin.lenOf,Builtin.firstCells]
  | some a=>simp[Builtin.append_,run_underlying ht,sizeOf,typeInfo,hi,Builtin.lenOf,hf]
 | some b =>
  cases xo with
  | none=>simp[Builtin.append_,run_underlying ht,sizeOf,typeInfo,hi,Builtin.lenOf,Builtin.firstCells,storeCells]
  | some a=>simp[Builtin.append_,run_underlying ht,sizeOf,typeInfo,hi,Builtin.lenOf,hf,storeCells]
theorem wpList_join {P:Program} {w:World} {ops:Array Oper} {rest:List Oper} {o:Oper} {a:Act} {Q:Exit→Act→World→Prop} {t e:TypeId} (R:RowTy P t e 1 24) (hgd:o.guard=none) (s x:Operand)
  (ho:o.op=.call { callee:=.builtin .append,args:=#[s,x],argTypes:=#[t,t] })
  (so xo:Option Addr) (n m c:Nat) (us vs:List Value) (hs:a.eval s=.slice so n n) (hx:a.eval x=.slice xo m c) (hn:us.length=n) (hm:vs.length=m) (hsmall:n+m≤100000)
  (hso:so=none→n=0) (hU:∀ b,so=some b→∀ j u,us[j]?=some u→w.cell? (b.add j)=some u) (hV:∀ j u,vs[j]?=some u→∃ ad,xo=some ad∧w.cell? (ad.add j)=some u) (h1:∀ u∈vs,u.oneCell'=true)
  (h:∀ v' w',Below w.heap.size w w'→((vs=[]∧v'=.slice so n n)∨w'.ownsRow w.heap.size e 1 v' (n+m) (us++vs))→wpList P ops Q rest (a.put o.dst v') w'):wpList P ops Q (o :: rest) a w:=by
 obtain⟨i,z,hi,hz,hsize,hby,hzs⟩:=R.ex
 by_cases h0:m=0
 ·subst h0
  obtain rfl:vs=[]:=List.eq_nil_of_length_eq_zero hm
  have hrun:=run_append_nothing (P:=P) (w:=w) t o.type e i R.ht hi so xo n c hso
  refine wpList_plain hgd fun K hK'=>?_
  unfold Oper.wp
  simp[execOp,ho,resolve,invoke,builtin,hs,hx,hrun,Result.andThen]
  exact hK' _ _ (h _ _ (Below.refl _ _) (Or.inl ⟨rfl,rfl⟩))
 ·obtain⟨y,hy⟩ : ∃ y,vs[0]?=some y:=⟨_,List.getElem?_eq_getElem (by omega)⟩
  obtain⟨ad,rfl,_⟩:=hV 0 y hy
  refine wpList_append_grows w hgd s x t ho e i z 1 24 R.ht hi hz hsize hby hzs R.pos so n n us hs (fun e=>⟨hso e,hso e⟩) (by omega) hU ad m c vs hx (by omega) (fun j u hj=>by
   obtain⟨ad',e',hc⟩:=hV j u hj
   cases e';exact hc) h1 (by omega) (by unfold maxLen;omega) (by omega) ?_
  intro v' w' hown hgrow
  exact h v' w' ⟨hgrow.os,hgrow.tape,hgrow.output,hgrow.size,fun k hk=>hgrow.block k hk (by simp)⟩ (Or.inr hown)
structure RowV (w:World) (ao:Option Addr) (L:List (List Nd)) (us:List Value):Prop where
 len:us.length=L.length
 none:ao=none→L=[]
 cell:∀ b,ao=some b→∀ (j:Nat) (u:Value),us[j]?=some u→w.cell? (b.add j)=some u
 isE:∀ (i:Nat) (u:Value) (e:List Nd),us[i]?=some u→L[i]?=some e→IsE w u e
 one:∀ u∈us,u.oneCell'=true
 lit:L≠[]→∃ b o,ao=some ⟨b,o,.none⟩
theorem rowV {w:World} {ao:Option Addr} {n c:Nat} {L:List (List Nd)} (h:Sg 1 IsL w (.slice ao n c) L):n=L.length∧∃ us,RowV w ao L us:=by
 obtain⟨cs,h1,h2,h3⟩:=h
 have hn:n=L.length:=by
  rcases h1 with ⟨rfl,a,q,e⟩ | ⟨b,o,q,e,_,_,_⟩
  ·cases e;simpa using h2
  ·cases e;exact h2
 refine⟨hn,cs.map (fun c=>c.headD (.bool false)),by simpa using h2,fun e=>?_,fun b hb j u hu=>?_,fun i u e hu he=>?_,fun u hu=>?_,fun hne=>?_⟩
 ·subst e
  rcases h1 with ⟨rfl,a,q,e⟩ | ⟨b,o,q,e,_,_,_⟩
  ·exact List.eq_nil_of_length_eq_zero (by simpa using h2.symm)
  ·cases e
 ·rw[List.getElem?_map] at hu
  obtain⟨y,hy,rfl⟩:=Option.map_eq_some_iff.1 hu
  have hj:=(List.getElem?_eq_some_iff.1 hy).1
  obtain⟨e,he⟩ : ∃ e,L[j]?=some e:=⟨_,List.getElem?_eq_getElem (by omega)⟩
  obtain⟨z,rfl,hz⟩:=h3 j y e hy he
  rcases h1 with ⟨rfl,a,q,_⟩ | ⟨b',o,q,e',_,_,hx⟩
  ·simp at hy
  ·subst hb
   cases e'
   have:=hx j [z] hy 0 z rfl
   rw[Addr.add_lit]
   simpa using this
 ·rw[List.getElem?_map] at hu
  obtain⟨y,hy,rfl⟩:=Option.map_eq_some_iff.1 hu
  obtain⟨z,rfl,hz⟩:=h3 i y e hy he
  exact hz
 ·obtain⟨y,hy,rfl⟩:=List.mem_map.1 hu
  obtain⟨j,hj⟩:=List.mem_iff_getElem?.1 hy
  have hjl:=(List.getElem?_eq_some_iff.1 hj).1
  obtain⟨e,he⟩ : ∃ e,L[j]?=some e:=⟨_,List.getElem?_eq_getElem (by omega)⟩
  obtain⟨z,rfl,hz⟩:=h3 j y e hj he
  obtain⟨a,c,rfl,_⟩:=hz.form
  rfl
 ·rcases h1 with ⟨rfl,a,q,_⟩ | ⟨b',o,q,e',_,_,hx⟩
  ·exact absurd (List.eq_nil_of_length_eq_zero (by simpa using h2.symm)) hne
  ·cases e';exact⟨b',o,rfl⟩
theorem RowV.below {w w':World} {ao:Option Addr} {L:List (List Nd)} {us:List Value} (h:RowV w ao L us) (hb:Below w.heap.size w w'):RowV w' ao L us :=
 ⟨h.len,h.none,fun b hb' j u hu=>by
  have:=h.cell b hb' j u hu
  exact (hb.cell (World.block_lt_of_cell? w _ this)).trans this,fun i u e hu he=>Sl.below (h.isE i u e hu he) hb,h.one,h.lit⟩
theorem joined {w w':World} {so:Option Addr} {n m c:Nat} {T:TypeId} {A B:List (List Nd)} {us vs:List Value} {v':Value} (hA:RowV w so A us) (hSA:Sg 1 IsL w (.slice so n c) A) (hB:∀ (i:Nat) (u:Value) (e:List Nd),vs[i]?=some u→B[i]?=some e→IsE w u e) (hBl:vs.length=B.length)
  (hb:Below w.heap.size w w') (h:(vs=[]∧v'=.slice so n n)∨w'.ownsRow w.heap.size T 1 v' (n+m) (us++vs)):Sg 1 IsL w' v' (A++B):=by
 rcases h with ⟨rfl,rfl⟩ | h
 ·obtain rfl:B=[]:=List.eq_nil_of_length_eq_zero (by simpa using hBl.symm)
  rw[List.append_nil]
  have h1:=hSA.below keepsL hb
  obtain⟨cs,g1,g2,g3⟩:=h1
  refine⟨cs,?_,g2,g3⟩
  rcases g1 with ⟨rfl,a,q,e⟩ | ⟨b,o,q,e,k1,k2,k3⟩
  ·cases e;exact Or.inl ⟨rfl,_,_,rfl⟩
  ·cases e;exact Or.inr ⟨b,o,_,rfl,Nat.le_refl _,k2,k3⟩
 ·have hl:(us++vs).length=n+m:=by have:=h.1;omega
  have hs:Sl oneC 1 w' v' (us++vs):=Sl.own oneC_len (by rw[flat_one];exact h) hl
  refine⟨(us++vs).map oneC,?_,by simp[hA.len,hBl],fun i c e hc he=>?_⟩
  ·rcases hs with ⟨e0,a,c,rfl⟩ | ⟨b,o,c,rfl,g1,g2,g3⟩
   ·exact Or.inl ⟨by rw[e0];rfl,a,c,rfl⟩
   ·refine Or.inr ⟨b,o,c,by simp,by simpa using g1,g2,fun i x hi j u hu=>?_⟩
    rw[List.getElem?_map] at hi
    obtain⟨y,hy,rfl⟩:=Option.map_eq_some_iff.1 hi
    exact g3 i y hy j u hu
  ·rw[List.getElem?_map] at hc
   obtain⟨y,hy,rfl⟩:=Option.map_eq_some_iff.1 hc
   refine⟨y,rfl,?_⟩
   rcases Nat.lt_or_ge i us.length with hi | hi
   ·rw[List.getElem?_append_left hi] at hy
    rw[List.getElem?_append_left (by have:=hA.len;omega)] at he
    exact Sl.below (hA.isE i y e hy he) hb
   ·rw[List.getElem?_append_right hi] at hy
    rw[List.getElem?_append_right (by have:=hA.len;omega)] at he
    exact Sl.below (hB (i - us.length) y e hy (by rw[hA.len];exact he)) hb
end Go.Proofs.YtmacepicoandkaaGreatDoor
namespace Go.Proofs.YtmacepicoandkaaGreatDoor
open Go.RowKit Go.Shelf Tx
theorem run_append_none {P:Program} {w:World} (t ty e:TypeId) (i:TypeInfo) (ht:P.underlying t=some (.slice e)) (hi:P.info? e=some i) (b:Addr) (xo:Option Addr) (n k c:Nat) (hk:n≤k) :
  (Builtin.append_ #[t,t] ty #[.slice (some b) n k,.slice xo 0 c]).run P w=.ok (.slice (some b) n k) w:=by
 have hf:∀ a:Addr,(Builtin.firstCells i.size 0 (.slice (some a) 0 c)).run P w=.ok #[] w:=fun a=>run_firstCells_some (P:=P) w i.size 0 a 0 c [] (by simp) (fun j u h=>by simp at h)
 have hkn:¬ k<n:=by omega
 cases xo with
 | none=>simp[Builtin.append_,run_underlying ht,sizeOf,typeInfo,hi,Builtin.lenOf,Builtin.firstCells,storeCells,hk]
 | some a=>simp[Builtin.append_,run_underlying ht,sizeOf,typeInfo,hi,Builtin.lenOf,hf,storeCells,hk]
theorem wpList_join_own {P:Program} {w:World} {ops:Array Oper} {rest:List Oper} {o:Oper} {a:Act} {Q:Exit→Act→World→Prop} {t e:TypeId} (R:RowTy P t e 1 24) (hgd:o.guard=none) (s x:Operand)
  (ho:o.op=.call { callee:=.builtin .append,args:=#[s,x],argTypes:=#[t,t] })
  (base:Nat) (v:Value) (n:Nat) (us:List Value) (hs:a.eval s=v) (hown:w.ownsRow base e 1 v n us) (xo:Option Addr) (m c:Nat) (vs:List Value) (hx:a.eval x=.slice xo m c) (hm:vs.length=m) (hsmall:n+m≤100000) (hbase:base≤w.heap.size)
  (hV:∀ j u,vs[j]?=some u→∃ ad,xo=some ad∧w.cell? (ad.add j)=some u) (h1:∀ u∈vs,u.oneCell'=true)
  (h:∀ v' w',w'.ownsRow base e 1 v' (n+m) (us++vs)→w.grownBy w' v.ownBlock→(∀ g,v'.ownBlock=some g→v.ownBlock=some g∨w.heap.size≤g)→wpList P ops Q rest (a.put o.dst v') w'):wpList P ops Q (o :: rest) a w:=by
 obtain⟨i,z,hi,hz,hsize,hby,hzs⟩:=R.ex
 by_cases h0:m=0
 ·subst h0
  obtain rfl:vs=[]:=List.eq_nil_of_length_eq_zero hm
  have hrun:(Builtin.append_ #[t,t] o.type #[v,.slice xo 0 c]).run P w=.ok v w:=by
   rcases hown.2 with ⟨rfl,_⟩ | ⟨g,cap,cur,rfl,_,_,hc,_⟩
   ·exact run_append_nothing (P:=P) (w:=w) t o.type e i R.ht hi none xo 0 c (fun _=>rfl)
   ·exact run_append_none (P:=P) (w:=w) t o.type e i R.ht hi _ xo n cap c hc
  refine wpList_plain hgd fun K hK'=>?_
  unfold Oper.wp
  simp[execOp,ho,resolve,invoke,builtin,hs,hx,hrun,Result.andThen]
  exact hK' _ _ (h _ _ (by simpa using hown) ⟨rfl,rfl,rfl,Nat.le_refl _,fun _ _ _=>rfl⟩ fun g hg=>Or.inl hg)
 ·obtain⟨y,hy⟩ : ∃ y,vs[0]?=some y:=⟨_,List.getElem?_eq_getElem (by omega)⟩
  obtain⟨ad,rfl,_⟩:=hV 0 y hy
  refine wpList_append_lies w hgd s x t ho base e i z 1 24 R.ht hi hz hsize hby hzs R.pos v n us hs hown ad m c vs hx (by omega) (fun j u hj=>by
   obtain⟨ad',e',hc⟩:=hV j u hj
   cases e';exact hc) h1 (by omega) (by unfold maxLen;omega) (by omega) hbase w.heap.size rfl ?_
  intro g cap w' hown' hgrow hat hlt
  exact h _ _ hown' hgrow fun g' hg=>by
   obtain rfl:g=g':=Option.some.inj hg
   rcases hat with hat | hat
   ·exact Or.inl hat
   ·exact Or.inr (by omega)
end Go.Proofs.YtmacepicoandkaaGreatDoor
namespace Go.Proofs.YtmacepicoandkaaGreatDoor
open Go.RowKit Go.Shelf Tx
theorem step_two {ops:Array Oper} {o:Oper} {a:Act} {w:World} {K:Act→World→Prop} {Q:Exit→Act→World→Prop} {E:Prop} (hgd:o.guard=none) (s x:Operand)
  (hop:o.op=.call { callee:=.builtin .append,args:=#[s,x],argTypes:=#[25,25] })
  (so:Option Addr) (n:Nat) (A:List (List Nd)) (us:List Value) (hs:a.eval s=.slice so n n) (hn:n=A.length) (hsmall:n≤1000) (hU:RowV w so A us) (hSA:Sg 1 IsL w (.slice so n n) A)
  (ad:Addr) (c:Nat) (u1 u2:Value) (e1 e2:List Nd) (hx:a.eval x=.slice (some ad) 2 c) (h0:w.cell? (ad.add 0)=some u1) (h1:w.cell? (ad.add 1)=some u2) (i1:IsE w u1 e1) (i2:IsE w u2 e2)
  (hK:∀ v' w',Below w.heap.size w w'→(∃ g cap,v'=.slice (some ⟨g,0,none⟩) (n+2) cap∧n+2≤cap)→Sg 1 IsL w' v' (A++[e1,e2])→K (a.put o.dst v') w') :
  if Region.wanted o (yielded ops a.tmps)=true then Oper.wp Tryz.prog o a w K Q else E:=by
 obtain⟨i,z,hi,hz,hsize,hby,hzs⟩:=rowE.ex
 refine step_append_grows hgd s x 25 hop 54 i z 1 24 rowE.ht hi hz hsize hby hzs (by decide) so n n us hs (fun e=>?_) (by rw[hU.len,hn];omega) (fun b hb j u hj=>hU.cell b hb j u hj) ad 2 c [u1,u2] hx rfl (fun j u hj=>?_) (fun u hu=>?_) (by omega) (by unfold maxLen;omega) (by omega) ?_
 ·have h:=hU.none e
  rw[h] at hn;simp at hn;exact⟨hn,hn⟩
 ·match j with
  | 0=>cases hj;exact h0
  | 1=>cases hj;exact h1
  | j+2=>simp at hj
 ·simp at hu
  obtain⟨a1,c1,q1,_⟩:=i1.form
  obtain⟨a2,c2,q2,_⟩:=i2.form
  rcases hu with rfl | rfl
  ·rw[q1];rfl
  ·rw[q2];rfl
 ·intro v' w' hown hgrow
  have hb:Below w.heap.size w w':=⟨hgrow.os,hgrow.tape,hgrow.output,hgrow.size,fun k hk=>hgrow.block k hk (by simp)⟩
  refine hK v' w' hb ?_ (joined hU hSA (fun i u e hu he=>?_) rfl hb (Or.inr hown))
  ·rcases hown.2 with ⟨_,h⟩ | ⟨g,cap,cur,rfl,_,_,hc,_⟩
   ·omega
   ·exact⟨g,cap,rfl,hc⟩
  ·match i with
   | 0=>cases hu;cases he;exact i1
   | 1=>cases hu;cases he;exact i2
   | i+2=>simp at hu
end Go.Proofs.YtmacepicoandkaaGreatDoor
