/- How an expression over atoms is reckoned of truth: the walk of the functions that run is given. How an expression over atoms is reckoned of truth: the walk. Data that came in, opened: nodes, expressions, lists of these, truths; and what each of its strings weighs. -/
import Derived.Test.YtmacepicoandkaaGreatDoorRows
import Derived.ProofKit
import Derived.OpenShut
import Derived.SizedLaws
import Derived.Lib.SmallJoins
import Derived.Deep.Slices
import Derived.Deep.Matrix
import Derived.ChangeSlices
import Derived.Test.YtmacepicoandkaaGreatDoorJ12
import Derived.Test.YtmacepicoandkaaGreatDoorJ27
import Derived.Test.YtmacepicoandkaaGreatDoorJ30
set_option linter.unusedVariables false
set_option linter.unusedSimpArgs false
namespace Go.Proofs.YtmacepicoandkaaGreatDoor
open Go.RowKit Go.Shelf Tx
theorem SlBools.form {w:World} {v:Value} {l:List Bool} (h:SlBools w v l):∃ a c,v=.slice a l.length c∧∀ i,i<l.length→∃ b o,a=some ⟨b,o,none⟩∧w.cell? ⟨b,o+i,none⟩=some (.bool (l.getD i false)):=by
 rcases h with ⟨rfl,rfl⟩ | ⟨b,o,c,rfl,_,hc⟩
 ·exact⟨none,0,rfl,fun i h=>by simp at h⟩
 ·exact⟨_,c,rfl,fun i h=>⟨b,o,rfl,hc i h⟩⟩
end Go.Proofs.YtmacepicoandkaaGreatDoor
namespace Go.Proofs.YtmacepicoandkaaGreatDoor
open Go.RowKit Go.Shelf Tx
theorem far_set {W:World} {p q i j:Nat} {x u:Value} (h:W.cell? ⟨q,j,none⟩=some u) (hne:q≠p):((W.setCell ⟨p,i,none⟩ x).drew).cell? ⟨q,j,none⟩=some u:=by
 have:(W.setCell ⟨p,i,none⟩ x).cell? ⟨q,j,none⟩=W.cell? ⟨q,j,none⟩:=by
  have h2:(⟨p,i,none⟩ : Addr)≠⟨q,j,none⟩:=fun e=>hne (congrArg Addr.block e).symm
  apply World.cell?_setCell_other;exact h2
 exact this.trans h
theorem off_set {W:World} {p i j:Nat} {x u:Value} (h:W.cell? ⟨p,j,none⟩=some u) (hne:j≠i):((W.setCell ⟨p,i,none⟩ x).drew).cell? ⟨p,j,none⟩=some u:=by
 have:(W.setCell ⟨p,i,none⟩ x).cell? ⟨p,j,none⟩=W.cell? ⟨p,j,none⟩:=by
  have h2:(⟨p,i,none⟩ : Addr)≠⟨p,j,none⟩:=fun e=>hne (congrArg Addr.off e).symm
  apply World.cell?_setCell_other;exact h2
 exact this.trans h
theorem three_blk {W:World} {b T:Nat} {c0 c1 c2:Value} (h:Blk W b #[c0,c1,c2] T):W.cell? ⟨b,0,none⟩=some c0∧W.cell? ⟨b,1,none⟩=some c1∧W.cell? ⟨b,2,none⟩=some c2:=by
 unfold Blk at h;simp[World.cell?,h]
end Go.Proofs.YtmacepicoandkaaGreatDoor
namespace Go.Proofs.YtmacepicoandkaaGreatDoor
open Go.ChangeShapes Go.WideShapes Go.ChangeAt Go.RowKit Go.Deep Go.Joins Tx
theorem cellsNode:Tryz.prog.cellsOf 85=6:=by kernel_rfl
theorem cellsInt:Tryz.prog.cellsOf 3=1:=by kernel_rfl
theorem cellsStr:Tryz.prog.cellsOf 9=1:=by kernel_rfl
theorem cellsExpr:Tryz.prog.cellsOf 54=1:=by kernel_rfl
theorem wf_i64 {n:Int} (h:(Lit.int .i64 n).wf=true) : -9223372036854775808≤n∧n≤9223372036854775807:=by
 simp[Lit.wf,IntKind.min,IntKind.max,IntKind.signed,IntKind.bits] at h
 omega
theorem spot_of_cell {w:World} {a:Addr} {v:Value} (h:w.cell? a=some v):a.spot=none∧a.block<w.heap.size:=by
 unfold World.cell? at h
 split at h
 ·rename_i hb
  refine⟨?_,(Array.getElem?_eq_some_iff.1 hb).1⟩
  cases hs:a.spot
  ·rfl
  ·rw[hs] at h;simp at h
 ·simp at h
theorem add_of_spot {a:Addr} (h:a.spot=none) (n:Nat):a.add n=⟨a.block,a.off+n,none⟩:=by
 unfold Addr.add
 split
 ·subst_vars;cases a;simp_all
 ·rfl
section
variable {H : Type} {enc : TypeId × Value → H} {W : World} {base : Nat} {spare : Nat → Bool} {held : Bool} {fuel : Nat}
def NdFit (y:Nd):Prop:=(-9223372036854775808≤y.op∧y.op≤9223372036854775807)∧(-9223372036854775808≤y.a∧y.a≤9223372036854775807)∧(-9223372036854775808≤y.b∧y.b≤9223372036854775807)∧(-9223372036854775808≤y.c∧y.c≤9223372036854775807)∧(-9223372036854775808≤y.n∧y.n≤9223372036854775807)
set_option maxRecDepth 100000 in
theorem nd_in {cs:List Value} {x:DataW H×List MemPlace} (h:DataW.trod enc Tryz.prog W base spare held fuel 85 cs=some x) :
  ∃ y:Nd,cs=ndL y∧y.s.size∈x.1.weights Tryz.prog 85∧y.s.size≤maxLen∧NdFit y:=by
 obtain⟨xs,n,_,rfl,hl,hxs,hx⟩:=DataW.trod_struct Tryz.underlying85 h
 rw[cellsNode] at hl
 have hxs6:xs.length=6:=hxs
 match cs,hl with
 | [c0,c1,c2,c3,c4,c5],_ =>
  match xs,hxs6 with
  | [x0,x1,x2,x3,x4,x5],_ =>
   have i0:DataW.trod enc Tryz.prog W base spare held n 3 (List.take (Tryz.prog.cellsOf 3) [c0,c1,c2,c3,c4,c5])=some x0:=hx 0 _ rfl
   have i1:DataW.trod enc Tryz.prog W base spare held n 3 (List.take (Tryz.prog.cellsOf 3) [c1,c2,c3,c4,c5])=some x1:=hx 1 _ rfl
   have i2:DataW.trod enc Tryz.prog W base spare held n 3 (List.take (Tryz.prog.cellsOf 3) [c2,c3,c4,c5])=some x2:=hx 2 _ rfl
   have i3:DataW.trod enc Tryz.prog W base spare held n 3 (List.take (Tryz.prog.cellsOf 3) [c3,c4,c5])=some x3:=hx 3 _ rfl
   have i4:DataW.trod enc Tryz.prog W base spare held n 3 (List.take (Tryz.prog.cellsOf 3) [c4,c5])=some x4:=hx 4 _ rfl
   have i5:DataW.trod enc Tryz.prog W base spare held n 9 (List.take (Tryz.prog.cellsOf 9) [c5])=some x5:=hx 5 _ rfl
   rw[cellsInt] at i0 i1 i2 i3 i4
   rw[cellsStr] at i5
   obtain⟨n0,q0,_,w0⟩:=DataW.trod_int Tryz.underlying3 i0
   obtain⟨n1,q1,_,w1⟩:=DataW.trod_int Tryz.underlying3 i1
   obtain⟨n2,q2,_,w2⟩:=DataW.trod_int Tryz.underlying3 i2
   obtain⟨n3,q3,_,w3⟩:=DataW.trod_int Tryz.underlying3 i3
   obtain⟨n4,q4,_,w4⟩:=DataW.trod_int Tryz.underlying3 i4
   obtain⟨s,q5,hs,w5⟩:=DataW.trod_string Tryz.underlying9 i5
   simp at q0 q1 q2 q3 q4 q5
   subst q0 q1 q2 q3 q4 q5
   refine⟨⟨n0,n1,n2,n3,n4,s⟩,rfl,?_,w5,wf_i64 w0,wf_i64 w1,wf_i64 w2,wf_i64 w3,wf_i64 w4⟩
   have hm:s.size∈x5.1.weights Tryz.prog 9:=by rw[hs];simp[DataW.weights]
   simp only[DataW.weights,Tryz.underlying85,List.map_cons,List.map_nil,DataW.weightsEach,List.mem_append]
   refine Or.inr (Or.inr (Or.inr (Or.inr (Or.inr (Or.inl ?_)))))
   exact hm
theorem weights_all {P:Program} {e:TypeId} {l:List (DataW H)} {d:DataW H} (h:d∈l) {n:Nat} (hn:n∈d.weights P e):n∈DataW.weightsAll P e l:=by
 induction l with
 | nil=>cases h
 | cons a r ih =>
  simp only[DataW.weightsAll,List.mem_append]
  rcases List.mem_cons.1 h with rfl | h
  ·exact Or.inl hn
  ·exact Or.inr (ih h)
theorem weights_slice {t e:TypeId} (ht:Tryz.prog.underlying t=some (.slice e)) {l sp:List (DataW H)} {d:DataW H} (h:d∈l) {m:Nat} (hm:m∈d.weights Tryz.prog e):m∈(DataW.slice l sp).weights Tryz.prog t:=by
 simp only[DataW.weights,ht,List.mem_cons,List.mem_append]
 exact Or.inr (Or.inl (weights_all h hm))
theorem slice_in {β:Type} {t e k:Nat} (ht:Tryz.prog.underlying t=some (.slice e)) (hc:Tryz.prog.cellsOf e=k) (h1:1≤k) (R:List Value→β→Prop) (S:β→List Nat) {v:Value} {x:DataW H×List MemPlace}
  (h:DataW.trod enc Tryz.prog W base (fun _=>true) held fuel t [v]=some x)
  (hR:∀ (n:Nat) (cs:List Value) (y:DataW H×List MemPlace),DataW.trod enc Tryz.prog W base (fun _=>true) held n e cs=some y→∃ b:β,R cs b∧cs.length=k∧∀ m∈S b,m∈y.1.weights Tryz.prog e) :
  ∃ L:List β,Sg k (fun _ c b=>R c b) W v L∧L.length≤maxLen∧∀ b∈L,∀ m∈S b,m∈x.1.weights Tryz.prog t:=by
 rcases open_slice ht h with ⟨hcs,_⟩ | ⟨a,len,cap,m,n,D,Pl,hcs,_,hle,hcm,hm,hxx,hx⟩
 ·simp at hcs;subst hcs
  exact⟨[],Sg.nil_,by simp,fun b hb=>by cases hb⟩
 ·simp at hcs;subst hcs
  have hmc:m=cap:=by rw[hm];rfl
  have hx':∀ i:Fin len,∃ p:List Value×β,R p.1 p.2∧p.1.length=k∧W.cells? base (a.add (i.1 * k)) k=some p.1∧∀ q∈S p.2,q∈x.1.weights Tryz.prog t:=fun i=>by
   obtain⟨cs',h2,h3⟩:=hx i.1 (by have:=i.2;omega)
   obtain⟨b,h4,h5,h6⟩:=hR _ _ _ h3
   rw[hc] at h2
   refine⟨(cs',b),h4,h5,h2,fun q hq=>?_⟩
   rw[hxx]
   exact weights_slice ht (List.mem_map.2 ⟨i.1,List.mem_range.2 i.2,rfl⟩) (h6 q hq)
  obtain⟨f,hf⟩:=Classical.axiomOfChoice hx'
  refine⟨List.ofFn fun i=>(f i).2,⟨List.ofFn fun i=>(f i).1,?_,by simp,fun i c y hc hy=>?_⟩,by rw[List.length_ofFn];omega,fun b hb q hq=>?_⟩
  ·by_cases h0:len=0
   ·subst h0;exact Or.inl ⟨by simp,_,_,rfl⟩
   ·have hz:=(World.cells?_some (hf ⟨0,by omega⟩).2.2.1).2.2 0 (by omega)
    have hzl:=(hf ⟨0,by omega⟩).2.1
    rw[List.getElem?_eq_getElem (by omega)] at hz
    have hs:=spot_of_cell hz
    have hs0:a.spot=none:=by simpa [Addr.add] using hs.1
    have hs1:a.block<W.heap.size:=by simpa [Addr.add] using hs.2
    have ha:a=⟨a.block,a.off,none⟩:=by cases a;simp_all
    refine Or.inr ⟨a.block,a.off,cap,by rw[List.length_ofFn,← ha],by rw[List.length_ofFn];omega,hs1,fun i c hi j u hu=>?_⟩
    rw[List.getElem?_ofFn] at hi
    split at hi
    ·rename_i hil
     simp only[Option.some.injEq] at hi
     subst hi
     obtain⟨-,g2,g3,-⟩:=hf ⟨i,hil⟩
     have hj:j<k:=by have:=(List.getElem?_eq_some_iff.1 hu).1;simp only[id] at this;omega
     obtain⟨r1,r2,r3⟩:=World.cells?_some g3
     have r4:=r3 j hj
     rw[add_of_spot hs0,add_of_spot rfl] at r4
     simp only[id] at hu
     exact r4.trans hu
    ·cases hi
  ·rw[List.getElem?_ofFn] at hc hy
   split at hc
   ·rename_i hil
    rw[dif_pos hil] at hy
    simp only[Option.some.injEq] at hc hy
    subst hc hy
    exact (hf ⟨i,hil⟩).1
   ·cases hc
  ·obtain⟨i,rfl⟩:=List.mem_ofFn.1 hb
   exact (hf i).2.2.2 q hq
theorem sl_of_sg {α:Type} {k:Nat} {c:α→List Value} {v:Value} {L:List α} (h:Sg k (fun _ cs y=>cs=c y) W v L):Sl c k W v L:=by
 obtain⟨cs,h1,h2,h3⟩:=h
 have he:cs=L.map c:=by
  apply List.ext_getElem?
  intro i
  rcases Nat.lt_or_ge i L.length with hi | hi
  ·obtain⟨y,hy⟩ : ∃ y,L[i]?=some y:=⟨_,List.getElem?_eq_getElem hi⟩
   obtain⟨z,hz⟩ : ∃ z,cs[i]?=some z:=⟨_,List.getElem?_eq_getElem (by omega)⟩
   rw[List.getElem?_map,hy,hz,h3 i z y hz hy];rfl
  ·rw[List.getElem?_eq_none (by omega),List.getElem?_eq_none (by simpa using hi)]
 subst he
 rcases h1 with ⟨g1,a,q,rfl⟩ | ⟨b,o,q,rfl,g2,g3,g4⟩
 ·exact Or.inl ⟨by simpa using g1,a,q,rfl⟩
 ·refine Or.inr ⟨b,o,q,by simp,by simpa using g2,g3,fun i x hi j u hu=>g4 i (c x) (by rw[List.getElem?_map,hi];rfl) j u hu⟩
def sizesE (e:List Nd):List Nat:=e.map fun y=>y.s.size
structure ExprIn (W:World) (v:Value) (e:List Nd) (ws:List Nat):Prop where
 isE:IsE W v e
 len:e.length≤maxLen
 wts:∀ m∈sizesE e,m∈ws
theorem expr_in {v:Value} {x:DataW H×List MemPlace} (h:DataW.trod enc Tryz.prog W base (fun _=>true) held fuel 54 [v]=some x) :
  ∃ e:List Nd,ExprIn W v e (x.1.weights Tryz.prog 54):=by
 obtain⟨L,h1,h2,h3⟩:=slice_in (β:=Nd) Tryz.underlying54 cellsNode (by omega) (fun c y=>c=ndL y) (fun y=>[y.s.size]) h (fun n cs y hy=>by
  obtain⟨z,g1,g2,_,_⟩:=nd_in hy
  exact⟨z,g1,by rw[g1];rfl,fun m hm=>by rw[List.mem_singleton.1 hm];exact g2⟩)
 exact⟨L,sl_of_sg h1,h2,fun m hm=>by
  obtain⟨y,hy,rfl⟩:=List.mem_map.1 hm
  exact h3 y hy _ (List.mem_singleton.2 rfl)⟩
end
end Go.Proofs.YtmacepicoandkaaGreatDoor
