/- The evaluator: the function behind slices.Backward, over an expression's nodes. -/
import Derived.RangeFuncNested
import Derived.RangeFuncBound
import Derived.RangeFuncCalls
import Derived.RangeFuncLeaves
import Derived.WalkKit
import Derived.OwnWalkIn
import Derived.TacticsInMore
import Derived.LoopNIn
import Derived.LoopIn
import Derived.Outline
import Derived.Lib.Hide
import Derived.Test.YtdmelebgdaiinaaGreatDoorJ2
import Derived.Test.YtdmelebgdaiinaaGreatDoorJ16
set_option linter.unusedVariables false
set_option linter.unusedSimpArgs false
namespace Go.Proofs.YtdmelebgdaiinaaGreatDoor
open Go.RowKit
attribute [local go_sem] Oper.semAt_some
set_option maxRecDepth 100000 in
set_option maxHeartbeats 2000000 in
theorem back_iter:Ev.IterOk Tryz.prog 233 6:=by
 refine⟨fun args w=>rfl,?_⟩
 intro l A len I W0 hI hlen hc hround h0
 obtain⟨a0,cap0,hc⟩:=hc
 have HR:=Lib.hid hround
 have HI:=Lib.hid hI
 have H0:=Lib.hid h0
 clear hround hI h0
 refine callsIn_of_wp Tryz.func233 rfl trivial ?_
 simp only[Tryz.ntmps233,List.size_toArray,List.length_cons,List.length_nil,Nat.reduceAdd,Nat.reduceSub,Array.replicate_succ,Array.replicate_zero,List.push_toArray,List.append_toArray,List.nil_append,List.cons_append]
 gi_wp2
 gi_loopw [3] (fun i wr=>∃ k:Nat,k≤len∧i=.int .i64 ((k:Int) - 1)∧I k wr) (fun i _=>(intOf i+1).toNat)
 case atStart=>exact⟨len,Nat.le_refl _,by go_num,H0.out⟩
 case round =>
  obtain⟨k,hk,rfl,hIk⟩:=hrel
  cases k with
  | zero =>
   clear hc
   gi_wp2
   go_end0
   exact⟨⟨_,rfl⟩,hIk⟩
  | succ k =>
   obtain⟨ab,ao,m,cap,us,h1,h2,h3,h4,h5⟩:=HR.out k wr hIk
   obtain⟨u0,u1,u2,u3,u4,u5,rfl⟩ : ∃ u0 u1 u2 u3 u4 u5,us=[u0,u1,u2,u3,u4,u5]:=by
    match us,h3 with
    | [u0,u1,u2,u3,u4,u5],_=>exact⟨u0,u1,u2,u3,u4,u5,rfl⟩
   have c0:wr.cell? ⟨ab,ao+k * 6,none⟩=some u0:=h4 0 _ rfl
   have c1:wr.cell? ⟨ab,ao+k * 6+1,none⟩=some u1:=h4 1 _ rfl
   have c2:wr.cell? ⟨ab,ao+k * 6+2,none⟩=some u2:=h4 2 _ rfl
   have c3:wr.cell? ⟨ab,ao+k * 6+3,none⟩=some u3:=h4 3 _ rfl
   have c4:wr.cell? ⟨ab,ao+k * 6+4,none⟩=some u4:=h4 4 _ rfl
   have c5:wr.cell? ⟨ab,ao+k * 6+5,none⟩=some u5:=h4 5 _ rfl
   have hk0:(0:Int)≤(k:Int):=by omega
   have hkm:(k:Int)<(m:Int):=by omega
   have e1:(((k+1:Nat):Int) - 1)=(k:Int):=by omega
   rw[e1]
   obtain⟨fn,tmps,assign,body,hy,hR⟩ : YieldAt Fence.wide 0 Tryz.prog l #[.int .i64 (k:Int),.agg #[u0,u1,u2,u3,u4,u5]] wr (fun e W'=>e=.returned (.bool true)∧I k W'):=h5 0
   clear hc h4 h5 e1 h3 h2
   gi_wp2
   refine⟨rfl,hR.mono ?_⟩
   rintro e W3 ⟨rfl,hI3⟩
   clear c0 c1 c2 c3 c4 c5 h1 hy hR
   gi_wp2
   go_roundw
   case rel=>exact⟨k,by omega,by go_num,hI3⟩
   case measure=>simp[intOf]
end Go.Proofs.YtdmelebgdaiinaaGreatDoor
