/- Known calls: one run. Known calls: one run. -/
import Derived.Test.YtbdbhdcbdfbnnaaGreatDoorJ17
set_option linter.unusedVariables false
set_option linter.unusedSimpArgs false
set_option maxRecDepth 100000
namespace Go.Proofs.YtbdbhdcbdfbnnaaGreatDoor.Ev
theorem kn18_run:runOk (ev (hookOr kret (hookOf [kn17,kn16,kn15,kn14,kn13,kn12,kn11,kn10,kn9,kn8,kn7,kn6,kn5,kn4,kn3,kn2,kn1])) Tryz.prog 100000 (.call kn18.f kn18.args) .leaf 0 (mkH kn18.S) kn18.nx) kn18.v kn18.S' kn18.nx'=true:=by kernel_rfl
end Go.Proofs.YtbdbhdcbdfbnnaaGreatDoor.Ev
set_option maxRecDepth 100000
namespace Go.Proofs.YtbdbhdcbdfbnnaaGreatDoor.Ev
theorem kn19_run:runOk (ev (hookOr kret (hookOf [kn18,kn17,kn16,kn15,kn14,kn13,kn12,kn11,kn10,kn9,kn8,kn7,kn6,kn5,kn4,kn3,kn2,kn1])) Tryz.prog 100000 (.call kn19.f kn19.args) .leaf 0 (mkH kn19.S) kn19.nx) kn19.v kn19.S' kn19.nx'=true:=by kernel_rfl
end Go.Proofs.YtbdbhdcbdfbnnaaGreatDoor.Ev
