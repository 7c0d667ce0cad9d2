/- Machine: a machine that is none; small methods: the walks. Data that came in, opened: numbers, rows of numbers; slices of things. Machine: live of law 18, in any world that bears the words; the law MachineNil. -/
import Derived.LoopN
import Derived.Deep.Cut
import Derived.Lib.Hide
import Derived.Lib.Walk
import Derived.Lib.SliceRun
import Derived.Test.YtdmelebgdaiinaaGreatDoorRows
import Derived.ProofKit
import Derived.OpenShut
import Derived.Lib.SmallJoins
import Derived.Deep.Slices
import Derived.Deep.Matrix
import Derived.ChangeSlices
import Derived.Test.YtdmelebgdaiinaaGreatDoorJ2
import Derived.Test.YtdmelebgdaiinaaGreatDoorJ42
set_option linter.unusedVariables false
set_option linter.unusedSimpArgs false
namespace Go.Proofs.YtdmelebgdaiinaaGreatDoor
open Go.RowKit
set_option maxRecDepth 100000
theorem fault_nil (w:World):Calls Tryz.prog 19 #[.pointer none] w fun e w'=>e=.returned (.int .i64 1)∧w'=w:=by
 go_enter Tryz.func19,Tryz.ntmps19
 go_wp2_with fail
 go_ret
 exact⟨rfl,rfl⟩
theorem state_nil (w:World):Calls Tryz.prog 21 #[.pointer none] w fun e w'=>e=.returned (.slice none 0 0)∧w'=w:=by
 go_enter Tryz.func21,Tryz.ntmps21
 go_wp2_with fail
 go_ret
 exact⟨rfl,rfl⟩
theorem steps_nil (w:World):Calls Tryz.prog 20 #[.pointer none] w fun e w'=>e=.returned (.int .i64 0)∧w'=w:=by
 go_enter Tryz.func20,Tryz.ntmps20
 go_wp2_with fail
 go_ret
 exact⟨rfl,rfl⟩
theorem copy_nil (w:World):Calls Tryz.prog 15 #[.pointer none] w fun e w'=>e=.returned (.pointer none)∧w'=w:=by
 go_enter Tryz.func15,Tryz.ntmps15
 go_wp2_with fail
 go_ret
 exact⟨rfl,rfl⟩
theorem stepM_nil (v:Value) (w:World):Calls Tryz.prog 16 #[.pointer none,v] w fun e w'=>e=.returned (.tuple #[.slice none 0 0,.int .i64 1])∧w'=w:=by
 go_enter Tryz.func16,Tryz.ntmps16
 go_wp2_with fail
 go_ret2
 exact⟨rfl,rfl⟩
theorem machineNil_of {w:World} (v:Value) (hlive:∀ W,Below w.heap.size w W→Calls Tryz.prog 10 #[] W fun e w'=>e=.returned (.bool true)∧Below W.heap.size W w') :
  Calls Tryz.prog 4 #[v] w fun e w'=>e=.returned (.bool true)∧Below w.heap.size w w':=by
 go_enter Tryz.func4,Tryz.ntmps4
 go_wp2_with fail
 refine (stepM_nil _ _).mono ?_
 rintro e w1 ⟨rfl,rfl⟩
 go_wp2_with fail
 refine (fault_nil _).mono ?_
 rintro e w1 ⟨rfl,rfl⟩
 go_wp2_with fail
 refine (state_nil _).mono ?_
 rintro e w1 ⟨rfl,rfl⟩
 go_wp2_with fail
 refine (steps_nil _).mono ?_
 rintro e w1 ⟨rfl,rfl⟩
 go_wp2_with fail
 refine (copy_nil _).mono ?_
 rintro e w1 ⟨rfl,rfl⟩
 go_wp2_with fail
 refine (hlive _ (Below.refl _ _)).mono ?_
 rintro e w1 ⟨rfl,hb⟩
 have HB:=Lib.hid hb
 clear hb
 go_wp2_with fail
 go_ret
 exact⟨rfl,HB.out⟩
end Go.Proofs.YtdmelebgdaiinaaGreatDoor
namespace Go.Proofs.YtdmelebgdaiinaaGreatDoor
open Go.ChangeShapes Go.WideShapes Go.ChangeAt Go.RowKit Go.Deep Go.Joins
def R64 (n:Int):Prop:=-9223372036854775808≤n∧n≤9223372036854775807
theorem cellsIntD:Tryz.prog.cellsOf 3=1:=by kernel_rfl
theorem wf_r64 {n:Int} (h:(Lit.int .i64 n).wf=true):R64 n:=by
 simp[Lit.wf,IntKind.min,IntKind.max,IntKind.signed,IntKind.bits] at h
 unfold R64;omega
theorem spot_of_cellD {w:World} {a:Addr} {v:Value} (h:w.cell? a=some v):a.spot=none∧a.block<w.heap.size:=by
 unfold World.cell? at h
 split at h
 ·rename_i hb
  refine⟨?_,(Array.getElem?_eq_some_iff.1 hb).1⟩
  cases hs:a.spot
  ·rfl
  ·rw[hs] at h;simp at h
 ·simp at h
theorem add_of_spotD {a:Addr} (h:a.spot=none) (n:Nat):a.add n=⟨a.block,a.off+n,none⟩:=by
 unfold Addr.add
 split
 ·subst_vars;cases a;simp_all
 ·rfl
section
variable {H : Type} {enc : TypeId × Value → H} {W : World} {base : Nat} {held : Bool} {fuel : Nat}
theorem slice_inD {β:Type} {t e k:Nat} (ht:Tryz.prog.underlying t=some (.slice e)) (hc:Tryz.prog.cellsOf e=k) (h1:1≤k) (R:List Value→β→Prop) {v:Value} {x:DataW H×List MemPlace}
  (h:DataW.trod enc Tryz.prog W base (fun _=>true) held fuel t [v]=some x)
  (hR:∀ (n:Nat) (cs:List Value) (y:DataW H×List MemPlace),DataW.trod enc Tryz.prog W base (fun _=>true) held n e cs=some y→∃ b:β,R cs b∧cs.length=k) :
  ∃ L:List β,Sg k (fun _ c b=>R c b) W v L∧L.length≤maxLen:=by
 rcases open_slice ht h with ⟨hcs,_⟩ | ⟨a,len,cap,m,n,D,Pl,hcs,_,hle,hcm,hm,hxx,hx⟩
 ·simp at hcs;subst hcs
  exact⟨[],Sg.nil_,by simp⟩
 ·simp at hcs;subst hcs
  have hmc:m=cap:=by rw[hm];rfl
  have hx':∀ i:Fin len,∃ p:List Value×β,R p.1 p.2∧p.1.length=k∧W.cells? base (a.add (i.1 * k)) k=some p.1:=fun i=>by
   obtain⟨cs',h2,h3⟩:=hx i.1 (by have:=i.2;omega)
   obtain⟨b,h4,h5⟩:=hR _ _ _ h3
   rw[hc] at h2
   exact⟨(cs',b),h4,h5,h2⟩
  obtain⟨f,hf⟩:=Classical.axiomOfChoice hx'
  refine⟨List.ofFn fun i=>(f i).2,⟨List.ofFn fun i=>(f i).1,?_,by simp,fun i c y hc hy=>?_⟩,by rw[List.length_ofFn];omega⟩
  ·by_cases h0:len=0
   ·subst h0;exact Or.inl ⟨by simp,_,_,rfl⟩
   ·have hz:=(World.cells?_some (hf ⟨0,by omega⟩).2.2).2.2 0 (by omega)
    have hzl:=(hf ⟨0,by omega⟩).2.1
    rw[List.getElem?_eq_getElem (by omega)] at hz
    have hs:=spot_of_cellD hz
    have hs0:a.spot=none:=by simpa [Addr.add] using hs.1
    have hs1:a.block<W.heap.size:=by simpa [Addr.add] using hs.2
    have ha:a=⟨a.block,a.off,none⟩:=by cases a;simp_all
    refine Or.inr ⟨a.block,a.off,cap,by rw[List.length_ofFn,← ha],by rw[List.length_ofFn];omega,hs1,fun i c hi j u hu=>?_⟩
    rw[List.getElem?_ofFn] at hi
    split at hi
    ·rename_i hil
     simp only[Option.some.injEq] at hi
     subst hi
     obtain⟨-,g2,g3⟩:=hf ⟨i,hil⟩
     have hj:j<k:=by have:=(List.getElem?_eq_some_iff.1 hu).1;simp only[id] at this;omega
     obtain⟨r1,r2,r3⟩:=World.cells?_some g3
     have r4:=r3 j hj
     rw[add_of_spotD hs0,add_of_spotD rfl] at r4
     simp only[id] at hu
     exact r4.trans hu
    ·cases hi
  ·rw[List.getElem?_ofFn] at hc hy
   split at hc
   ·rename_i hil
    rw[dif_pos hil] at hy
    simp only[Option.some.injEq] at hc hy
    subst hc hy
    exact (hf ⟨i,hil⟩).1
   ·cases hc
theorem sl_of_sgD {α:Type} {k:Nat} {c:α→List Value} {v:Value} {L:List α} (h:Sg k (fun _ cs y=>cs=c y) W v L):Sl c k W v L:=by
 obtain⟨cs,h1,h2,h3⟩:=h
 have he:cs=L.map c:=by
  apply List.ext_getElem?
  intro i
  rcases Nat.lt_or_ge i L.length with hi | hi
  ·obtain⟨y,hy⟩ : ∃ y,L[i]?=some y:=⟨_,List.getElem?_eq_getElem hi⟩
   obtain⟨z,hz⟩ : ∃ z,cs[i]?=some z:=⟨_,List.getElem?_eq_getElem (by omega)⟩
   rw[List.getElem?_map,hy,hz,h3 i z y hz hy];rfl
  ·rw[List.getElem?_eq_none (by omega),List.getElem?_eq_none (by simpa using hi)]
 subst he
 rcases h1 with ⟨g1,a,q,rfl⟩ | ⟨b,o,q,rfl,g2,g3,g4⟩
 ·exact Or.inl ⟨by simpa using g1,a,q,rfl⟩
 ·refine Or.inr ⟨b,o,q,by simp,by simpa using g2,g3,fun i x hi j u hu=>g4 i (c x) (by rw[List.getElem?_map,hi];rfl) j u hu⟩
theorem slice_inP {β:Type} {t e k:Nat} (ht:Tryz.prog.underlying t=some (.slice e)) (hc:Tryz.prog.cellsOf e=k) (h1:1≤k) (C:β→List Value) (Q:β→Prop) {v:Value} {x:DataW H×List MemPlace}
  (h:DataW.trod enc Tryz.prog W base (fun _=>true) held fuel t [v]=some x)
  (hR:∀ (n:Nat) (cs:List Value) (y:DataW H×List MemPlace),DataW.trod enc Tryz.prog W base (fun _=>true) held n e cs=some y→∃ b:β,cs=C b∧Q b∧cs.length=k) :
  ∃ L:List β,Sl C k W v L∧L.length≤maxLen∧∀ b∈L,Q b:=by
 obtain⟨L,g1,g2⟩:=slice_inD (β:={ b:β // Q b }) ht hc h1 (fun cs b=>cs=C b.1) h (fun n cs y hy=>by
  obtain⟨b,q1,q2,q3⟩:=hR n cs y hy
  exact⟨⟨b,q2⟩,q1,q3⟩)
 have g3:Sl (fun b : { b:β // Q b }=>C b.1) k W v L:=sl_of_sgD g1
 refine⟨L.map (·.1),?_,by simpa using g2,fun b hb=>?_⟩
 ·rcases g3 with ⟨rfl,a,q,rfl⟩ | ⟨b,o,q,rfl,h2,h3,h4⟩
  ·exact Or.inl ⟨rfl,a,q,rfl⟩
  ·refine Or.inr ⟨b,o,q,by simp,by simpa using h2,h3,fun i x hi j u hu=>?_⟩
   rw[List.getElem?_map] at hi
   obtain⟨y,hy,rfl⟩:=Option.map_eq_some_iff.1 hi
   exact h4 i y hy j u hu
 ·obtain⟨y,_,rfl⟩:=List.mem_map.1 hb
  exact y.2
theorem ints_inD {v:Value} {x:DataW H×List MemPlace} (h:DataW.trod enc Tryz.prog W base (fun _=>true) held fuel 23 [v]=some x) :
  ∃ l:List Int,Sl intC 1 W v l∧l.length≤maxLen∧∀ n∈l,R64 n :=
 slice_inP Tryz.underlying23 cellsIntD (by omega) intC R64 h (fun n cs y hy=>by
  obtain⟨z,q1,_,q2⟩:=DataW.trod_int Tryz.underlying3 hy
  exact⟨z,by rw[q1];rfl,wf_r64 q2,by rw[q1];rfl⟩)
def RwP (w:World) (cs:List Value) (l:List Int):Prop:=∃ u,cs=[u]∧Sl intC 1 w u l
theorem RwP.keeps:Keeps RwP:=fun w w' c x h hb=>by obtain⟨u,h1,h2⟩:=h;exact⟨u,h1,h2.below hb⟩
end
end Go.Proofs.YtdmelebgdaiinaaGreatDoor
namespace Go.Proofs.YtdmelebgdaiinaaGreatDoor
open Go.RowKit
structure GlM (W:World):Prop where
 ex:∃ b o,W.cell? ⟨0,0,none⟩=some (.slice (some ⟨b,o,none⟩) 35 35)∧∀ (j:Nat) (v:Ev.AV),Ev.wordsRow[j]?=some v→∃ x,W.cell? ⟨b,o+j,none⟩=some x∧∀ r:Ev.Rho,Ev.Rel r v x
 h4:10≤W.heap.size
theorem GlM.below {w w':World} (h:GlM w) (hb:Below w.heap.size w w'):GlM w':=by
 obtain⟨b,o,h1,h2⟩:=h.ex
 have h4:=h.h4
 refine⟨⟨b,o,(hb.cell (p:=⟨0,0,none⟩) (by show 0<_;omega)).trans h1,fun j v hj=>?_⟩,Nat.le_trans h4 hb.size⟩
 obtain⟨x,h5,h6⟩:=h2 j v hj
 exact⟨x,(hb.cell (p:=⟨b,o+j,none⟩) (World.block_lt_of_cell? w _ h5)).trans h5,h6⟩
theorem live_any {W:World} (h:GlM W):Calls Tryz.prog 10 #[] W fun e w'=>e=.returned (.bool true)∧Below W.heap.size W w':=by
 obtain⟨b,o,h1,h2⟩:=h.ex
 refine (Ev.live_calls h1 h2 h.h4).mono ?_
 rintro e w' ⟨rfl,q1,q2,q3,q4,q5⟩
 exact⟨rfl,q1,q2,q3,q4,q5⟩
theorem machineNil_any (l:List Int) (v:Value) (W:World) (G:GlM W) (_:Sl intC 1 W v l):Calls Tryz.prog 4 #[v] W fun e w'=>e=.returned (.bool true)∧Below W.heap.size W w' :=
 machineNil_of v fun _ hb=>live_any (G.below hb)
end Go.Proofs.YtdmelebgdaiinaaGreatDoor
