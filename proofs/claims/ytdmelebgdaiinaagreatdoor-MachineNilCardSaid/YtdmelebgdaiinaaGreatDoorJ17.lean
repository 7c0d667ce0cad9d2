/- The deferred function of names.Resolve, where nothing went wrong. -/
import Derived.Test.YtdmelebgdaiinaaGreatDoorChecked
import Derived.Recover
import Derived.Test.YtdmelebgdaiinaaGreatDoorJ16
set_option linter.unusedVariables false
set_option linter.unusedSimpArgs false
set_option maxRecDepth 20000
namespace Go.Proofs.YtdmelebgdaiinaaGreatDoor.Ev
theorem resolve_idle (us:Array Value) (hs:us.size=3) (w:World):CallsD Tryz.prog 73 us .returning w fun e u w'=>e=.returned (.tuple #[])∧u=.returning∧w'=w:=by
 obtain⟨l⟩:=us
 match l,hs with
 | [a,b,c],_ =>
 have hta:∀ w:World,(Instr.typeAssert .nilIface 20 31 true).run Tryz.prog w=.ok (.tuple #[.int .i64 0,.bool false]) w:=fun _=>by kernel_rfl
 refine callsD_of_wpS Tryz.func73 rfl fun c₀ cs hu=>?_
 apply wpS_seq
 apply wpS_region
 simp[wpOpsS,go_sem,recoverD,hu,hta,Tryz.ntmps73,Exit.thenS]
 apply wpS_seq
 apply wpS_region
 simp[wpOpsS,go_sem,Exit.thenS]
 refine wpS_cond (t:=false) (by simp[Act.eval,Array.replicate]) ?_
 simp only[Bool.false_eq_true,if_false]
 refine wpS_of_wp (wp_skip ?_)
 cases c₀
 simp_all [bodyPostS,results,Tryz.results73,Exit.thenS]
end Go.Proofs.YtdmelebgdaiinaaGreatDoor.Ev
