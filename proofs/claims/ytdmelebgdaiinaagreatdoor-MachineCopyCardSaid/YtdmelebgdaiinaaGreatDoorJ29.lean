/- Known calls: one run. Known calls: one run. -/
import Derived.Test.YtdmelebgdaiinaaGreatDoorJ19
set_option linter.unusedVariables false
set_option linter.unusedSimpArgs false
set_option maxRecDepth 100000
namespace Go.Proofs.YtdmelebgdaiinaaGreatDoor.Ev
theorem kn8_run:runOk (ev (hookOr kret (hookOf [kn7,kn6,kn5,kn4,kn3,kn2,kn1])) Tryz.prog 100000 (.call kn8.f kn8.args) .leaf 0 (mkH kn8.S) kn8.nx) kn8.v kn8.S' kn8.nx'=true:=by kernel_rfl
end Go.Proofs.YtdmelebgdaiinaaGreatDoor.Ev
set_option maxRecDepth 100000
namespace Go.Proofs.YtdmelebgdaiinaaGreatDoor.Ev
theorem kn9_run:runOk (ev (hookOr kret (hookOf [kn8,kn7,kn6,kn5,kn4,kn3,kn2,kn1])) Tryz.prog 100000 (.call kn9.f kn9.args) .leaf 0 (mkH kn9.S) kn9.nx) kn9.v kn9.S' kn9.nx'=true:=by kernel_rfl
end Go.Proofs.YtdmelebgdaiinaaGreatDoor.Ev
