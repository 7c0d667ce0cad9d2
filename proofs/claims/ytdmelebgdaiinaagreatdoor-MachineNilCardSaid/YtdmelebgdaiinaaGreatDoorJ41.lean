/- Known calls: one run. -/
import Derived.Test.YtdmelebgdaiinaaGreatDoorJ19
set_option linter.unusedVariables false
set_option linter.unusedSimpArgs false
set_option maxRecDepth 100000
namespace Go.Proofs.YtdmelebgdaiinaaGreatDoor.Ev
theorem kn26_run:runOk (ev (hookOr kret (hookOf [kn25,kn24,kn23,kn22,kn21,kn20,kn19,kn18,kn17,kn16,kn15,kn14,kn13,kn12,kn11,kn10,kn9,kn8,kn7,kn6,kn5,kn4,kn3,kn2,kn1])) Tryz.prog 100000 (.call kn26.f kn26.args) .leaf 0 (mkH kn26.S) kn26.nx) kn26.v kn26.S' kn26.nx'=true:=by kernel_rfl
end Go.Proofs.YtdmelebgdaiinaaGreatDoor.Ev
