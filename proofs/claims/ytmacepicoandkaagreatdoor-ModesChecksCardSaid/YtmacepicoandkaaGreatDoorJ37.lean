/- The law AtomsSplit, whatever its argument: the walk. Atoms that are split again; atoms that are put in their places: the plain law. The law AtomsOnce, whatever its argument: the walk. The document's look at modes: the first values of a gap, of two modes: the walks. -/
import Derived.Test.YtmacepicoandkaaGreatDoorJ28
import Derived.Test.YtmacepicoandkaaGreatDoorJ30
import Derived.Test.YtmacepicoandkaaGreatDoorJ32
import Derived.Test.YtmacepicoandkaaGreatDoorJ35
import Derived.Test.YtmacepicoandkaaGreatDoorJ36
set_option linter.unusedVariables false
set_option linter.unusedSimpArgs false
namespace Go.Proofs.YtmacepicoandkaaGreatDoor
open Go.RowKit Go.Shelf Tx
theorem splitT_outs (M:Nat) (l:List (List Nd)):(∀ e∈l,(treeL e).size≤M)→∀ f∈(splitT l).1,f.size≤M:=by
 induction l using snoc_ind with
 | h0=>intro _ f hf;simp[splitT] at hf
 | h1 l e ih =>
  intro h f hf
  rw[splitT_snoc] at hf
  rcases List.mem_append.1 hf with hf | hf
  ·exact ih (fun e he=>h e (by simp[he])) f hf
  ·rw[List.mem_singleton.1 hf]
   exact Nat.le_trans (Ux.cut_size _ _) (h e (by simp))
theorem any_may {l:List (List Nd)} (h:l.any (fun e=>!mayB e)=false):∀ e∈l,mayB e=true:=fun e he=>by
 have:=List.any_eq_false.1 h e he;simpa using this
theorem splitR_few {l:List (List Nd)} (hl:l.length≤30) (hM:∀ e∈l,e.length≤200):((splitR l).1.length≤30∧∀ e∈(splitR l).1,e.length≤200)∧(splitR l).2.1.length≤30∧∀ e∈(splitR l).2.1,e.length≤200:=by
 unfold splitR
 split
 ·exact⟨⟨by simp,fun e he=>by simp at he⟩,by simp,fun e he=>by simp at he⟩
 ·rename_i h1
  have hm:=any_may (Bool.not_eq_true _ ▸ h1)
  have hs:∀ e∈l,(treeL e).size≤200:=fun e he=>by rw[may_size (hm e he)];exact hM e he
  split
  ·exact⟨⟨by simp,fun e he=>by simp at he⟩,by simp,fun e he=>by simp at he⟩
  ·rename_i h2
   refine⟨⟨by simp only;omega,(splitT_few 200 l hs).2⟩,by simp only[List.length_map,splitT_len];exact hl,fun e he=>?_⟩
   obtain⟨f,hf,rfl⟩:=List.mem_map.1 he
   rw[Fo.flat_len];exact splitT_outs 200 l hs f hf
theorem sg_of_rwe {base:Nat} {w:World} {v:Value} {L:List (List Nd)} (h:RwE base w v L):Sg 1 IsL w v L :=
 RwE.sg (q:=fun x=>x) (M:=L) (by simpa using h) (fun u _ q=>⟨u,rfl,q.isE⟩)
end Go.Proofs.YtmacepicoandkaaGreatDoor
namespace Go.Proofs.YtmacepicoandkaaGreatDoor
open Tx
theorem ops_one {F:Fo} (hc:F.count=1):∃ op n s ks,F=.tr op n s ks .no∧F.ops=[op]:=by
 cases F with
 | no=>simp[Fo.count] at hc
 | tr op n s ks r =>
  simp only[Fo.count] at hc
  obtain rfl:=Fo.count_zero (a:=r) (by omega)
  exact⟨op,n,s,ks,rfl,rfl⟩
theorem tree_is {e:List Nd} (h:mayB e=true):(treeL e).wf=true∧(treeL e).count=1∧(treeL e).ops.all (fun p=>p != 28)=true∧(treeL e).size≤e.length∧(treeL e).depth≤40:=by
 have hP:=(mayB_iff e).1 h
 obtain⟨a,b,c⟩:=hP.tree
 unfold okF at c
 simp only[Bool.and_eq_true,decide_eq_true_eq] at c
 obtain⟨op,n,s,ks,_,ho⟩:=ops_one b
 refine⟨a,b,?_,by rw[may_size h];exact Nat.le_refl _,c.1.2⟩
 have h2:=c.2
 unfold treeL
 rw[ho] at h2 ⊢
 simpa using h2
theorem splitT_atoms (M:Nat) (l:List (List Nd)):(∀ e∈l,mayB e=true)→(∀ e∈l,e.length≤M)→(∀ x∈(splitT l).2,Ux.IsAtom M 40 x)∧(splitT l).2.Nodup:=by
 induction l using snoc_ind with
 | h0=>intro _ _;exact⟨fun x hx=>by simp[splitT] at hx,by simp[splitT]⟩
 | h1 l e ih =>
  intro hm hM
  obtain⟨h1,h2⟩:=ih (fun e he=>hm e (by simp[he])) (fun e he=>hM e (by simp[he]))
  obtain⟨a,_,b,c,d⟩:=tree_is (hm e (by simp))
  rw[splitT_snoc]
  exact Ux.cut_atoms M 40 (treeL e) _ a b (Nat.le_trans c (hM e (by simp))) d h1 h2
theorem atom_is {M:Nat} (hM:M≤5000) {x:List Nd} (h:Ux.IsAtom M 40 x):mayB x=true∧1≤x.length∧Ux.isLogic (x.getLastD dft).op=false∧x=(treeL x).flat 0∧∃ op n s ks,treeL x=.tr op n s ks .no∧Ux.isLogic op=false:=by
 obtain⟨op,n,s,ks,rfl,hl,h28,hw,hs,hd⟩:=h
 have hc:(Fo.tr op n s ks .no).count=1:=by simp[Fo.count]
 have ht:treeL ((Fo.tr op n s ks .no).flat 0)=.tr op n s ks .no:=by
  unfold treeL;rw[Fo.flat_len];exact T_flat0 hw hc
 have hok:okF (.tr op n s ks .no)=true:=by
  unfold okF
  simp only[Bool.and_eq_true,decide_eq_true_eq]
  exact⟨⟨by omega,hd⟩,by simpa [Fo.ops] using h28⟩
 have hop:=flat_last hc 0
 simp only[Fo.ops,List.cons.injEq,and_true] at hop
 refine⟨by rw[may_flat hw hc];exact hok,by rw[Fo.flat_len];exact one_size hc,by rw[← hop];exact hl,by rw[ht],op,n,s,ks,ht,hl⟩
theorem splitR_ok {l:List (List Nd)} (h:(splitR l).2.2=0):(∀ e∈l,mayB e=true)∧(splitT l).2.length≤30∧splitR l=((splitT l).2,(splitT l).1.map (Fo.flat 0),0):=by
 unfold splitR at h ⊢
 split at h
 ·simp at h
 ·rename_i h1
  split at h
  ·simp at h
  ·rename_i h2
   rw[if_neg h1,if_neg h2]
   exact⟨any_may (Bool.not_eq_true _ ▸ h1),by omega,rfl⟩
end Go.Proofs.YtmacepicoandkaaGreatDoor
namespace Go.Proofs.YtmacepicoandkaaGreatDoor
open Go.RowKit Go.Shelf Tx
def RowX (w:World) (a:Option Addr) (A:List (List Nd)):Prop :=
 ∀ W,Below w.heap.size w W→∀ i x,A[i]?=some x→∃ b o u,a=some ⟨b,o,none⟩∧IsE W u x∧W.cell? ⟨b,o+i,none⟩=some u
theorem rowX {w:World} {v:Value} {A:List (List Nd)} (h:Sg 1 IsL w v A):∃ a c,v=.slice a A.length c∧A.length≤c∧RowX w a A:=by
 obtain⟨a,c,rfl,hc,hx⟩:=h.form keepsL
 refine⟨a,c,rfl,hc,fun W hW i x hi=>?_⟩
 obtain⟨b,o,cs,e,⟨u,rfl,hu⟩,hcell⟩:=hx W hW i x hi
 have:=hcell 0 u rfl
 simp only[Nat.mul_one,Nat.add_zero] at this
 exact⟨b,o,u,e,hu,this⟩
end Go.Proofs.YtmacepicoandkaaGreatDoor
namespace Go.Proofs.YtmacepicoandkaaGreatDoor
open Go.RowKit Go.Shelf Tx
def satV (A B:List (List Nd)) (l:List Bool):Bool:=(A.all fun e=>(Ux.valA e l).1) && !(B.any fun e=>(Ux.valA e l).1)
def satV2 (A:List (List Nd)) (x y:List Nd) (l:List Bool):Bool:=(A.all fun e=>(Ux.valA e l).1)&&([x,y].all fun e=>(Ux.valA e l).1)
end Go.Proofs.YtmacepicoandkaaGreatDoor
