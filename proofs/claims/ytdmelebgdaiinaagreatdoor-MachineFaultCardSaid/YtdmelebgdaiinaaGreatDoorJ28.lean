/- Known calls: one run. -/
import Derived.Test.YtdmelebgdaiinaaGreatDoorJ19
set_option linter.unusedVariables false
set_option linter.unusedSimpArgs false
set_option maxRecDepth 100000
namespace Go.Proofs.YtdmelebgdaiinaaGreatDoor.Ev
theorem kn7_run:runOk (ev (hookOr kret (hookOf [kn6,kn5,kn4,kn3,kn2,kn1])) Tryz.prog 100000 (.call kn7.f kn7.args) .leaf 0 (mkH kn7.S) kn7.nx) kn7.v kn7.S' kn7.nx'=true:=by kernel_rfl
end Go.Proofs.YtdmelebgdaiinaaGreatDoor.Ev
