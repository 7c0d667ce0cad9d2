/- Known calls: one run. Known calls: one run. -/
import Derived.Test.YtdmelebgdaiinaaGreatDoorJ19
set_option linter.unusedVariables false
set_option linter.unusedSimpArgs false
set_option maxRecDepth 100000
namespace Go.Proofs.YtdmelebgdaiinaaGreatDoor.Ev
theorem kn10_run:runOk (ev (hookOr kret (hookOf [kn9,kn8,kn7,kn6,kn5,kn4,kn3,kn2,kn1])) Tryz.prog 100000 (.call kn10.f kn10.args) .leaf 0 (mkH kn10.S) kn10.nx) kn10.v kn10.S' kn10.nx'=true:=by kernel_rfl
end Go.Proofs.YtdmelebgdaiinaaGreatDoor.Ev
set_option maxRecDepth 100000
namespace Go.Proofs.YtdmelebgdaiinaaGreatDoor.Ev
theorem kn16_run:runOk (ev (hookOr kret (hookOf [kn15,kn14,kn13,kn12,kn11,kn10,kn9,kn8,kn7,kn6,kn5,kn4,kn3,kn2,kn1])) Tryz.prog 100000 (.call kn16.f kn16.args) .leaf 0 (mkH kn16.S) kn16.nx) kn16.v kn16.S' kn16.nx'=true:=by kernel_rfl
end Go.Proofs.YtdmelebgdaiinaaGreatDoor.Ev
