/- Machine: the registers that an instruction reads, by the document: the walk. -/
import Derived.Test.YtdmelebgdaiinaaGreatDoorJ22
set_option linter.unusedVariables false
set_option linter.unusedSimpArgs false
namespace Go.Proofs.YtdmelebgdaiinaaGreatDoor
open Go.RowKit
theorem new_ints {W w':World} {b:Nat} {l:List Int} (hb:Blk w' b (l.map (Value.int .i64)).toArray 3) {k c:Nat} (hk:k≤l.length) (hc:l.length≤c) (hW:W.heap.size≤b):∀ M:List Nat,(∀ i∈M,i<W.heap.size)→SlN intC 1 M w' (.slice (some ⟨b,0,none⟩) k c) (l.take k):=by
 intro M hM
 refine Or.inr ⟨b,0,c,by rw[List.length_take,Nat.min_eq_left hk],by rw[List.length_take];omega,hb.lt,fun q=>by have:=hM b q;omega,fun i x hi j u hu=>?_⟩
 rw[List.getElem?_take] at hi
 split at hi
 ·cases j with
  | succ j=>simp[intC] at hu
  | zero =>
   simp[intC] at hu;subst hu
   rw[Nat.zero_add,Nat.mul_one,Nat.add_zero]
   exact hb.c (by simp[hi])
 ·cases hi
theorem rds_of {x:Cx.In} {k:Nat} (h:Cx.readsN x.op=k):Cx.rds x=[x.a,x.b,x.c].take k:=by unfold Cx.rds;rw[h];rfl
end Go.Proofs.YtdmelebgdaiinaaGreatDoor
