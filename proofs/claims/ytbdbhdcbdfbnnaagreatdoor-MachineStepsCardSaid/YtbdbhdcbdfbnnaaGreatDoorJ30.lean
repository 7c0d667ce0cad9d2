/- Known calls: one run. Known calls: one run. Known calls: one run. Known calls: one run. Known calls: live of law 18. -/
import Derived.Test.YtbdbhdcbdfbnnaaGreatDoorJ8
import Derived.Test.YtbdbhdcbdfbnnaaGreatDoorJ9
import Derived.Test.YtbdbhdcbdfbnnaaGreatDoorJ17
import Derived.Test.YtbdbhdcbdfbnnaaGreatDoorJ18
import Derived.Test.YtbdbhdcbdfbnnaaGreatDoorJ23
import Derived.Test.YtbdbhdcbdfbnnaaGreatDoorJ24
import Derived.Test.YtbdbhdcbdfbnnaaGreatDoorJ25
import Derived.Test.YtbdbhdcbdfbnnaaGreatDoorJ26
import Derived.Test.YtbdbhdcbdfbnnaaGreatDoorJ27
import Derived.Test.YtbdbhdcbdfbnnaaGreatDoorJ28
import Derived.Test.YtbdbhdcbdfbnnaaGreatDoorJ29
set_option linter.unusedVariables false
set_option linter.unusedSimpArgs false
set_option maxRecDepth 100000
namespace Go.Proofs.YtbdbhdcbdfbnnaaGreatDoor.Ev
theorem kn2_run:runOk (ev (hookOr kret (hookOf [kn1])) Tryz.prog 100000 (.call kn2.f kn2.args) .leaf 0 (mkH kn2.S) kn2.nx) kn2.v kn2.S' kn2.nx'=true:=by kernel_rfl
end Go.Proofs.YtbdbhdcbdfbnnaaGreatDoor.Ev
set_option maxRecDepth 100000
namespace Go.Proofs.YtbdbhdcbdfbnnaaGreatDoor.Ev
theorem kn4_run:runOk (ev (hookOr kret (hookOf [kn3,kn2,kn1])) Tryz.prog 100000 (.call kn4.f kn4.args) .leaf 0 (mkH kn4.S) kn4.nx) kn4.v kn4.S' kn4.nx'=true:=by kernel_rfl
end Go.Proofs.YtbdbhdcbdfbnnaaGreatDoor.Ev
set_option maxRecDepth 100000
namespace Go.Proofs.YtbdbhdcbdfbnnaaGreatDoor.Ev
theorem kn6_run:runOk (ev (hookOr kret (hookOf [kn5,kn4,kn3,kn2,kn1])) Tryz.prog 100000 (.call kn6.f kn6.args) .leaf 0 (mkH kn6.S) kn6.nx) kn6.v kn6.S' kn6.nx'=true:=by kernel_rfl
end Go.Proofs.YtbdbhdcbdfbnnaaGreatDoor.Ev
set_option maxRecDepth 100000
namespace Go.Proofs.YtbdbhdcbdfbnnaaGreatDoor.Ev
theorem kn7_run:runOk (ev (hookOr kret (hookOf [kn6,kn5,kn4,kn3,kn2,kn1])) Tryz.prog 100000 (.call kn7.f kn7.args) .leaf 0 (mkH kn7.S) kn7.nx) kn7.v kn7.S' kn7.nx'=true:=by kernel_rfl
end Go.Proofs.YtbdbhdcbdfbnnaaGreatDoor.Ev
set_option maxRecDepth 20000
namespace Go.Proofs.YtbdbhdcbdfbnnaaGreatDoor.Ev
theorem mixed:Tryz.prog.follows .mixedOrders=true:=by kernel_rfl
theorem kret_ok:HookOk Tryz.prog kret:=hookOr_ok (retHook_ok resolve_idle) (iterHook_ok back_iter)
def AllOk (l:List Known):Prop:=∀ k∈l,k.ok Tryz.prog
theorem allOk_nil:AllOk []:=fun k hk=>absurd hk (by simp)
theorem allOk_cons {k:Known} {l:List Known} (h:k.ok Tryz.prog) (hl:AllOk l):AllOk (k :: l):=fun q hq=>by
 rcases List.mem_cons.1 hq with rfl | hq
 ·exact h
 ·exact hl q hq
theorem more_ok {l:List Known} (hl:AllOk l) {k:Known} (h:runOk (ev (hookOr kret (hookOf l)) Tryz.prog 100000 (.call k.f k.args) .leaf 0 (mkH k.S) k.nx) k.v k.S' k.nx'=true):AllOk (k :: l) :=
 allOk_cons (known_ok mixed (hookOr_ok kret_ok (hookOf_ok hl)) 100000 k h) hl
theorem allN:AllOk [kn26,kn25,kn24,kn23,kn22,kn21,kn20,kn19,kn18,kn17,kn16,kn15,kn14,kn13,kn12,kn11,kn10,kn9,kn8,kn7,kn6,kn5,kn4,kn3,kn2,kn1] :=
 more_ok (more_ok (more_ok (more_ok (more_ok (more_ok (more_ok (more_ok (more_ok (more_ok (more_ok (more_ok (more_ok (more_ok (more_ok (more_ok (more_ok (more_ok (more_ok (more_ok (more_ok (more_ok (more_ok (more_ok (more_ok (more_ok allOk_nil kn1_run) kn2_run) kn3_run) kn4_run) kn5_run) kn6_run) kn7_run) kn8_run) kn9_run) kn10_run) kn11_run) kn12_run) kn13_run) kn14_run) kn15_run) kn16_run) kn17_run) kn18_run) kn19_run) kn20_run) kn21_run) kn22_run) kn23_run) kn24_run) kn25_run) kn26_run
theorem live_known:kn26.ok Tryz.prog:=allN kn26 List.mem_cons_self
theorem mkH_mem:∀ {l:List (Nat×Blk)} {b:Nat} {k:Blk},getB (mkH l) b=some k→(b,k)∈l:=by
 intro l
 induction l with
 | nil=>intro b k h;exact absurd (show getP (pos b) .leaf=some k from h) (by rw[getP_leaf];simp)
 | cons p l ih =>
  intro b k h
  have h':getB (setB (some p.2) p.1 (mkH l)) b=some k:=h
  rw[getB_put] at h'
  unfold putH at h'
  split at h'
  ·rename_i e;injection h' with h'
   have:(b,k)=p:=Prod.ext e h'.symm
   rw[this];exact List.mem_cons_self
  ·exact List.mem_cons_of_mem _ (ih h')
theorem heap_of_cell {W:World} {b o:Nat} {v:Value} (h:W.cell? ⟨b,o,none⟩=some v):∃ c e f,W.heap[b]?=some (.cells c e f)∧c[o]?=some v:=by
 simp only[World.cell?] at h
 split at h <;> first | (rename_i c e f hc;exact⟨c,e,f,hc,by simpa using h⟩) | exact absurd h (by simp)
def r0 (b o:Nat):Rho:=fun i=>if i<10 then some ⟨i,0,0,true⟩ else if i=900 then some ⟨b,o,0,true⟩ else none
noncomputable def wordsRow:List AV:=(mkH kn26.S |> fun hp=>(getB hp 900)).elim [] fun k=>match k with | .cells cs _ _ _=>cs | _=>[]
theorem kn26_S:kn26.S=[(0,.cells [.slice 900 0 35 35 true] 1 false []),(900,.cells wordsRow 1 false [])]:=by kernel_rfl
theorem wordsRow_len:wordsRow.length=35:=by kernel_rfl
theorem live_calls {W:World} {b o:Nat} (h0:W.cell? ⟨0,0,none⟩=some (.slice (some ⟨b,o,none⟩) 35 35)) (h1:∀ (j:Nat) (v:AV),wordsRow[j]?=some v→∃ x,W.cell? ⟨b,o+j,none⟩=some x∧∀ r:Rho,Rel r v x) (h2:10≤W.heap.size) :
  Calls Tryz.prog 6 #[] W fun e w'=>e=.returned (.bool true)∧w'.os=W.os∧w'.tape=W.tape∧w'.output=W.output∧W.heap.size≤w'.heap.size∧∀ i,i<W.heap.size→w'.heap[i]?=W.heap[i]?:=by
 have hro:∀ i x,r0 b o i=some x→x.ro=true:=fun i x h=>by
  unfold r0 at h
  split at h
  ·injection h with h;subst h;rfl
  ·split at h
   ·injection h with h;subst h;rfl
   ·exact absurd h (by simp)
 have hlt:∀ {i:Nat} {v:AV},wordsRow[i]?=some v→i<35:=fun h=>by
  rw[← wordsRow_len];exact (List.getElem?_eq_some_iff.1 h).1
 have hget:∀ j,j<35→∃ v,wordsRow[j]?=some v:=fun j hj=>⟨_,List.getElem?_eq_getElem (by rw[wordsRow_len];exact hj)⟩
 obtain⟨v0,hv0⟩:=hget 0 (by omega)
 obtain⟨x0,hx0,_⟩:=h1 0 v0 hv0
 obtain⟨c,e,f,hc,_⟩:=heap_of_cell hx0
 obtain⟨c',e',f',hc',hv'⟩:=heap_of_cell h0
 have hb:b<W.heap.size:=(Array.getElem?_eq_some_iff.1 hc).1
 have hcell:∀ j v,wordsRow[j]?=some v→∃ x,c[o+j]?=some x∧∀ r:Rho,Rel r v x:=fun j v hj=>by
  obtain⟨x,q1,q2⟩:=h1 j v hj
  obtain⟨c1,e1,f1,q3,q4⟩:=heap_of_cell q1
  rw[hc] at q3;injection q3 with q3;injection q3 with q3;subst q3
  exact⟨x,q4,q2⟩
 have g:Gam (getB (mkH kn26.S)) (r0 b o) W:=by
  refine⟨fun i k hk=>?_,fun i x hx=>?_,fun i k x i' k' x' hk ho=>?_⟩
  ·have:=mkH_mem hk
   rw[kn26_S] at this
   simp only[List.mem_cons,Prod.mk.injEq,List.not_mem_nil,or_false] at this
   rcases this with ⟨rfl,rfl⟩ | ⟨rfl,rfl⟩
   ·refine⟨⟨0,0,0,true⟩,rfl,c',e',f',hc',?_,fun i a ha=>?_,fun h=>absurd h (by decide)⟩
    ·have:=(Array.getElem?_eq_some_iff.1 hv').1
     simp;omega
    ·cases i with
     | zero =>
      simp at ha;subst ha
      refine⟨_,hv',rel_slice.2 ⟨⟨b,o,0,true⟩,⟨b,o,none⟩,rfl,rfl,fun _=>rfl⟩⟩
     | succ i=>simp at ha
   ·refine⟨⟨b,o,0,true⟩,rfl,c,e,f,hc,?_,fun i a ha=>?_,fun h=>absurd h (by decide)⟩
    ·obtain⟨v,hv⟩:=hget 34 (by omega)
     obtain⟨x,q1,_⟩:=hcell 34 v hv
     have:=(Array.getElem?_eq_some_iff.1 q1).1
     rw[wordsRow_len];simp;omega
    ·obtain⟨x,q1,q2⟩:=hcell i a ha
     exact⟨x,q1,q2 _⟩
  ·unfold r0 at hx
   split at hx
   ·injection hx with hx;subst hx;show i<_;omega
   ·split at hx
    ·injection hx with hx;subst hx;exact hb
    ·exact absurd hx (by simp)
  ·have:=mkH_mem hk
   rw[kn26_S] at this
   simp only[List.mem_cons,Prod.mk.injEq,List.not_mem_nil,or_false] at this
   rcases this with ⟨rfl,rfl⟩ | ⟨rfl,rfl⟩ <;> exact absurd ho (by decide)
 have hgl:Glob Tryz.prog (r0 b o):=fun i hi=>by
  have:Tryz.prog.globals.size=10:=by kernel_rfl
  exact⟨0,by unfold r0;rw[if_pos (by omega)]⟩
 have hfr:Fresh kn26.nx (r0 b o):=fun i hi=>by
  have:kn26.nx=1000:=by kernel_rfl
  unfold r0;rw[if_neg (by omega),if_neg (by omega)]
 have hc5:=(live_known (r0 b o) W #[] (Rels_nil.2 rfl) hgl g hfr).1 rfl
 refine hc5.mono ?_
 rintro e w' ⟨x,r',rfl,q1,q2,q3,q4,q5⟩
 have hx:x=.bool true:=rel_bool.1 q1
 subst hx
 exact⟨rfl,q3.os,q3.tape,q3.output,q3.size,fun i hi=>q3.blk i hi fun b x hb hf=>by rw[hro b x hb] at hf;exact absurd hf (by decide)⟩
end Go.Proofs.YtbdbhdcbdfbnnaaGreatDoor.Ev
