/- Known calls: one run. -/
import Derived.Test.YtdmelebgdaiinaaGreatDoorJ19
set_option linter.unusedVariables false
set_option linter.unusedSimpArgs false
set_option maxRecDepth 100000
namespace Go.Proofs.YtdmelebgdaiinaaGreatDoor.Ev
theorem kn2_run:runOk (ev (hookOr kret (hookOf [kn1])) Tryz.prog 100000 (.call kn2.f kn2.args) .leaf 0 (mkH kn2.S) kn2.nx) kn2.v kn2.S' kn2.nx'=true:=by kernel_rfl
end Go.Proofs.YtdmelebgdaiinaaGreatDoor.Ev
