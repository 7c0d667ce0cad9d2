/- slices.Repeat of one number, up to 60 times: its contract. The walks: holds. -/
import Derived.Test.YtoalnjpeblgkbabGreatDoorJ28
import Derived.Test.YtoalnjpeblgkbabGreatDoorJ30
set_option linter.unusedVariables false
set_option linter.unusedSimpArgs false
set_option maxRecDepth 20000
namespace Go.Proofs.YtoalnjpeblgkbabGreatDoor.Ev
theorem allTo_ok {f:Nat→Bool} : ∀ {n:Nat},allTo f n=true→∀ k,k<n→f k=true:=by
 intro n
 induction n with
 | zero=>intro _ k hk;omega
 | succ n ih =>
  intro h k hk
  have h':sel (f n) (allTo f n) false=true:=h
  cases hb:f n with
  | false=>rw[hb] at h';exact absurd (show false=true from h') (by decide)
  | true =>
   rw[hb] at h'
   by_cases e:k=n
   ·subst e;exact hb
   ·exact ih h' k (by omega)
def r5 (b o:Nat):Rho:=fun i=>if i<4 then some ⟨i,0,0,true⟩ else if i=5 then some ⟨b,o,0,true⟩ else none
theorem repeat_calls {W:World} {b o:Nat} (hx:W.cell? ⟨b,o,none⟩=some (.int .i64 (-1))) (h4:4≤W.heap.size) {n:Nat} (hn:n≤60) :
  Calls Tryz.prog 16 #[.slice (some ⟨b,o,none⟩) 1 1,.int .i64 n] W fun e w'=>∃ a B O,e=.returned (.slice (some a) n n)∧(n≠0→a=⟨B,O,none⟩)∧W.heap.size≤B∧w'.os=W.os∧w'.tape=W.tape∧w'.output=W.output ∧
   W.heap.size≤w'.heap.size∧(∀ i,i<W.heap.size→w'.heap[i]?=W.heap[i]?)∧∀ i,i<n→w'.cell? ⟨B,O+i,none⟩=some (.int .i64 (-1))∧w'.frozen? ⟨B,O+i,none⟩=false:=by
 have hro:∀ i x,r5 b o i=some x→x.ro=true:=fun i x h=>by
  unfold r5 at h
  split at h
  ·injection h with h;subst h;rfl
  ·split at h
   ·injection h with h;subst h;rfl
   ·exact absurd h (by simp)
 obtain⟨c,e,f,hc,hv⟩:=heap_of_cell hx
 have hb:b<W.heap.size:=(Array.getElem?_eq_some_iff.1 hc).1
 have g:Gam (getB (mkH repS)) (r5 b o) W:=by
  refine⟨fun i k hk=>?_,fun i x hx=>?_,fun i k x i' k' x' hk ho=>?_⟩
  ·have:=mkH_mem hk
   simp only[repS,List.mem_cons,Prod.mk.injEq,List.not_mem_nil,or_false] at this
   obtain⟨rfl,rfl⟩:=this
   refine⟨⟨b,o,0,true⟩,rfl,c,e,f,hc,?_,fun i a ha=>?_,fun h=>absurd h (by decide)⟩
   ·have:=(Array.getElem?_eq_some_iff.1 hv).1
    simp;omega
   ·cases i with
    | zero=>simp at ha;subst ha;exact⟨_,hv,rel_int.2 rfl⟩
    | succ i=>simp at ha
  ·unfold r5 at hx
   split at hx
   ·injection hx with hx;subst hx;show i<_;omega
   ·split at hx
    ·injection hx with hx;subst hx;exact hb
    ·exact absurd hx (by simp)
  ·have:=mkH_mem hk
   simp only[repS,List.mem_cons,Prod.mk.injEq,List.not_mem_nil,or_false] at this
   obtain⟨rfl,rfl⟩:=this
   exact absurd ho (by decide)
 have hgl:Glob Tryz.prog (r5 b o):=fun i hi=>by
  have:Tryz.prog.globals.size=4:=by kernel_rfl
  exact⟨0,by unfold r5;rw[if_pos (by omega)]⟩
 have hfr:Fresh 1000 (r5 b o):=fun i hi=>by
  unfold r5;rw[if_neg (by omega),if_neg (by omega)]
 have hrun:=allTo_ok rep_runs n (by omega)
 unfold repOk at hrun
 split at hrun
 ·rename_i q off l c' ex hp nx' ho
  obtain⟨g1,g2⟩:=and2 hrun
  obtain⟨g3,g4⟩:=and2 g2
  obtain⟨g5,g6⟩:=and2 g4
  obtain⟨g7,g8⟩:=and2 g6
  have e1:=beq_eq g1;have e2:=beq_eq g3;have e3:=beq_eq g5
  subst e1;subst e2;subst e3;subst g7
  cases hq:getB hp q with
  | none=>rw[hq] at g8;exact absurd (show false=true from g8) (by decide)
  | some k =>
   rw[hq] at g8
   have hk:=eqBlk_eq (show eqBlk k (.cells (List.replicate c' (.int .i64 (-1))) 1 true [])=true from g8)
   subst hk
   have hargs:Rels (r5 b o) [.slice 5 0 1 1 true,.int .i64 (Int.ofNat c')] (#[.slice (some ⟨b,o,none⟩) 1 1,.int .i64 (c':Int)] : Array Value).toList :=
    Rels_cons.2 ⟨_,_,rfl,rel_slice.2 ⟨⟨b,o,0,true⟩,⟨b,o,none⟩,rfl,rfl,fun _=>rfl⟩,Rels_cons.2 ⟨_,_,rfl,rel_int.2 rfl,Rels_nil.2 rfl⟩⟩
   have hcall:=((ev_holds mixed (hookOf_ok (l:=[]) (fun k hk=>absurd hk (by simp))) 100000).call _ _ _ _ _ _ _ _ _ ho (r5 b o) W _ hargs hgl g hfr).1 rfl
   refine hcall.mono ?_
   rintro e w' ⟨x,r',rfl,q1,q2,q3,q4,q5⟩
   obtain⟨y,a,p1,p2,p3⟩:=rel_slice.1 q1
   obtain⟨y',m1,cc,ce,cf,m2,m3,m4,m5⟩:=q4.blk q _ hq
   rw[p1] at m1;injection m1 with m1;subst m1
   have hyro:=(m5 rfl).1
   have hnew:W.heap.size≤y.blk:=by
    cases hr:r5 b o q with
    | some z =>
     have:=q2.le _ _ hr
     rw[p1] at this;injection this with this;subst this
     rw[hro q _ hr] at hyro;exact absurd hyro (by decide)
    | none =>
     rcases (q2.new q y hr p1).2 with h | ⟨b0,x0,s1,s2,s3⟩
     ·exact h
     ·rw[hro b0 x0 s1] at s2;exact absurd s2 (by decide)
   refine⟨a,y.blk,y.sh,by rw[p2];rfl,fun h0=>p3 (by simpa using h0),hnew,q3.os,q3.tape,q3.output,q3.size,fun i hi=>q3.blk i hi fun b x hb hf=>by rw[hro b x hb] at hf;exact absurd hf (by decide),fun i hi=>?_⟩
   obtain⟨u,t1,t2⟩:=m4 i (.int .i64 (-1)) (by simp[hi])
   have:=rel_int.1 t2
   subst this
   refine⟨by rw[cell_of_heap m2];exact t1,?_⟩
   have:=(m5 rfl).2 (y.sh+i) (by simp at m3;omega)
   exact this
 ·exact absurd hrun (by decide)
end Go.Proofs.YtoalnjpeblgkbabGreatDoor.Ev
namespace Go.Proofs.YtoalnjpeblgkbabGreatDoor
open Go.RowKit
def holdsB (h:Int) (row:List Int):Bool:=decide (0≤h∧h<row.length)&&(row.getD h.toNat 0 != 0)
end Go.Proofs.YtoalnjpeblgkbabGreatDoor
