/- slices.Repeat of one number, up to 60 times: by the evaluator. -/
import Derived.Test.YtoalnjpeblgkbabGreatDoorJ27
set_option linter.unusedVariables false
set_option linter.unusedSimpArgs false
set_option maxRecDepth 100000
namespace Go.Proofs.YtoalnjpeblgkbabGreatDoor.Ev
noncomputable section
def repS:List (Nat×Blk):=[(5,.cells [.int .i64 (-1)] 1 false [])]
def repOut (n:Nat):Out:=ev (hookOf []) Tryz.prog 100000 (.call 16 [.slice 5 0 1 1 true,.int .i64 (Int.ofNat n)]) .leaf 0 (mkH repS) 1000
def repOk (n:Nat) (o:Out):Bool :=
 match o with
 | .value (.slice q off l c ex) hp nx=>and (Nat.beq off 0) (and (Nat.beq l n) (and (Nat.beq c n) (and ex (match getB hp q with | some k=>eqBlk k (.cells (List.replicate n (.int .i64 (-1))) 1 true []) | none=>false))))
 | _=>false
def allTo (f:Nat→Bool) (n:Nat):Bool:=Nat.rec (motive:=fun _=>Bool) true (fun k r=>sel (f k) r false) n
end
theorem rep_runs:allTo (fun n=>repOk n (repOut n)) 61=true:=by kernel_rfl
end Go.Proofs.YtoalnjpeblgkbabGreatDoor.Ev
