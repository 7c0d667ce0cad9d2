/- Known calls: one run. Known calls: one run. -/
import Derived.Test.YtbdbhdcbdfbnnaaGreatDoorJ17
set_option linter.unusedVariables false
set_option linter.unusedSimpArgs false
set_option maxRecDepth 100000
namespace Go.Proofs.YtbdbhdcbdfbnnaaGreatDoor.Ev
theorem kn22_run:runOk (ev (hookOr kret (hookOf [kn21,kn20,kn19,kn18,kn17,kn16,kn15,kn14,kn13,kn12,kn11,kn10,kn9,kn8,kn7,kn6,kn5,kn4,kn3,kn2,kn1])) Tryz.prog 100000 (.call kn22.f kn22.args) .leaf 0 (mkH kn22.S) kn22.nx) kn22.v kn22.S' kn22.nx'=true:=by kernel_rfl
end Go.Proofs.YtbdbhdcbdfbnnaaGreatDoor.Ev
set_option maxRecDepth 100000
namespace Go.Proofs.YtbdbhdcbdfbnnaaGreatDoor.Ev
theorem kn23_run:runOk (ev (hookOr kret (hookOf [kn22,kn21,kn20,kn19,kn18,kn17,kn16,kn15,kn14,kn13,kn12,kn11,kn10,kn9,kn8,kn7,kn6,kn5,kn4,kn3,kn2,kn1])) Tryz.prog 100000 (.call kn23.f kn23.args) .leaf 0 (mkH kn23.S) kn23.nx) kn23.v kn23.S' kn23.nx'=true:=by kernel_rfl
end Go.Proofs.YtbdbhdcbdfbnnaaGreatDoor.Ev
