/- Known calls: one run. -/
import Derived.Test.YtdmelebgdaiinaaGreatDoorJ19
set_option linter.unusedVariables false
set_option linter.unusedSimpArgs false
set_option maxRecDepth 100000
namespace Go.Proofs.YtdmelebgdaiinaaGreatDoor.Ev
theorem kn5_run:runOk (ev (hookOr kret (hookOf [kn4,kn3,kn2,kn1])) Tryz.prog 100000 (.call kn5.f kn5.args) .leaf 0 (mkH kn5.S) kn5.nx) kn5.v kn5.S' kn5.nx'=true:=by kernel_rfl
end Go.Proofs.YtdmelebgdaiinaaGreatDoor.Ev
