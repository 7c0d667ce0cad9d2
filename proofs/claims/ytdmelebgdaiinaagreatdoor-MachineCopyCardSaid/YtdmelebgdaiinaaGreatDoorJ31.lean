/- Known calls: one run. -/
import Derived.Test.YtdmelebgdaiinaaGreatDoorJ19
set_option linter.unusedVariables false
set_option linter.unusedSimpArgs false
set_option maxRecDepth 100000
namespace Go.Proofs.YtdmelebgdaiinaaGreatDoor.Ev
theorem kn13_run:runOk (ev (hookOr kret (hookOf [kn12,kn11,kn10,kn9,kn8,kn7,kn6,kn5,kn4,kn3,kn2,kn1])) Tryz.prog 100000 (.call kn13.f kn13.args) .leaf 0 (mkH kn13.S) kn13.nx) kn13.v kn13.S' kn13.nx'=true:=by kernel_rfl
end Go.Proofs.YtdmelebgdaiinaaGreatDoor.Ev
