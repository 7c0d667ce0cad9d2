/- Known calls: one run. -/
import Derived.Test.YtdmelebgdaiinaaGreatDoorJ19
set_option linter.unusedVariables false
set_option linter.unusedSimpArgs false
set_option maxRecDepth 100000
namespace Go.Proofs.YtdmelebgdaiinaaGreatDoor.Ev
theorem kn4_run:runOk (ev (hookOr kret (hookOf [kn3,kn2,kn1])) Tryz.prog 100000 (.call kn4.f kn4.args) .leaf 0 (mkH kn4.S) kn4.nx) kn4.v kn4.S' kn4.nx'=true:=by kernel_rfl
end Go.Proofs.YtdmelebgdaiinaaGreatDoor.Ev
