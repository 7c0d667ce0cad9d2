/- Known calls: one run. -/
import Derived.Test.YtdmelebgdaiinaaGreatDoorJ19
set_option linter.unusedVariables false
set_option linter.unusedSimpArgs false
set_option maxRecDepth 100000
namespace Go.Proofs.YtdmelebgdaiinaaGreatDoor.Ev
theorem kn6_run:runOk (ev (hookOr kret (hookOf [kn5,kn4,kn3,kn2,kn1])) Tryz.prog 100000 (.call kn6.f kn6.args) .leaf 0 (mkH kn6.S) kn6.nx) kn6.v kn6.S' kn6.nx'=true:=by kernel_rfl
end Go.Proofs.YtdmelebgdaiinaaGreatDoor.Ev
