/- Known calls: one run. -/
import Derived.Test.YtdmelebgdaiinaaGreatDoorJ19
set_option linter.unusedVariables false
set_option linter.unusedSimpArgs false
set_option maxRecDepth 100000
namespace Go.Proofs.YtdmelebgdaiinaaGreatDoor.Ev
theorem kn3_run:runOk (ev (hookOr kret (hookOf [kn2,kn1])) Tryz.prog 100000 (.call kn3.f kn3.args) .leaf 0 (mkH kn3.S) kn3.nx) kn3.v kn3.S' kn3.nx'=true:=by kernel_rfl
end Go.Proofs.YtdmelebgdaiinaaGreatDoor.Ev
