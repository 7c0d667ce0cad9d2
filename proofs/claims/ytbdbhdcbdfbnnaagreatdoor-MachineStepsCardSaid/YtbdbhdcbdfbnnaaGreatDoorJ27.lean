/- Known calls: one run. Known calls: one run. -/
import Derived.Test.YtbdbhdcbdfbnnaaGreatDoorJ17
set_option linter.unusedVariables false
set_option linter.unusedSimpArgs false
set_option maxRecDepth 100000
namespace Go.Proofs.YtbdbhdcbdfbnnaaGreatDoor.Ev
theorem kn20_run:runOk (ev (hookOr kret (hookOf [kn19,kn18,kn17,kn16,kn15,kn14,kn13,kn12,kn11,kn10,kn9,kn8,kn7,kn6,kn5,kn4,kn3,kn2,kn1])) Tryz.prog 100000 (.call kn20.f kn20.args) .leaf 0 (mkH kn20.S) kn20.nx) kn20.v kn20.S' kn20.nx'=true:=by kernel_rfl
end Go.Proofs.YtbdbhdcbdfbnnaaGreatDoor.Ev
set_option maxRecDepth 100000
namespace Go.Proofs.YtbdbhdcbdfbnnaaGreatDoor.Ev
theorem kn21_run:runOk (ev (hookOr kret (hookOf [kn20,kn19,kn18,kn17,kn16,kn15,kn14,kn13,kn12,kn11,kn10,kn9,kn8,kn7,kn6,kn5,kn4,kn3,kn2,kn1])) Tryz.prog 100000 (.call kn21.f kn21.args) .leaf 0 (mkH kn21.S) kn21.nx) kn21.v kn21.S' kn21.nx'=true:=by kernel_rfl
end Go.Proofs.YtbdbhdcbdfbnnaaGreatDoor.Ev
