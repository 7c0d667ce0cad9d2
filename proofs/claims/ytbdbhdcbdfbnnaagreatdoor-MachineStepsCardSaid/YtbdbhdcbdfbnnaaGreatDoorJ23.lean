/- Known calls: one run. -/
import Derived.Test.YtbdbhdcbdfbnnaaGreatDoorJ17
set_option linter.unusedVariables false
set_option linter.unusedSimpArgs false
set_option maxRecDepth 100000
namespace Go.Proofs.YtbdbhdcbdfbnnaaGreatDoor.Ev
theorem kn1_run:runOk (ev (hookOr kret (hookOf [])) Tryz.prog 100000 (.call kn1.f kn1.args) .leaf 0 (mkH kn1.S) kn1.nx) kn1.v kn1.S' kn1.nx'=true:=by kernel_rfl
end Go.Proofs.YtbdbhdcbdfbnnaaGreatDoor.Ev
