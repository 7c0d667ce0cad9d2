/- Known calls: one run. Known calls: one run. Known calls: one run. Known calls: one run. -/
import Derived.Test.YtbdbhdcbdfbnnaaGreatDoorJ17
set_option linter.unusedVariables false
set_option linter.unusedSimpArgs false
set_option maxRecDepth 100000
namespace Go.Proofs.YtbdbhdcbdfbnnaaGreatDoor.Ev
theorem kn10_run:runOk (ev (hookOr kret (hookOf [kn9,kn8,kn7,kn6,kn5,kn4,kn3,kn2,kn1])) Tryz.prog 100000 (.call kn10.f kn10.args) .leaf 0 (mkH kn10.S) kn10.nx) kn10.v kn10.S' kn10.nx'=true:=by kernel_rfl
end Go.Proofs.YtbdbhdcbdfbnnaaGreatDoor.Ev
set_option maxRecDepth 100000
namespace Go.Proofs.YtbdbhdcbdfbnnaaGreatDoor.Ev
theorem kn11_run:runOk (ev (hookOr kret (hookOf [kn10,kn9,kn8,kn7,kn6,kn5,kn4,kn3,kn2,kn1])) Tryz.prog 100000 (.call kn11.f kn11.args) .leaf 0 (mkH kn11.S) kn11.nx) kn11.v kn11.S' kn11.nx'=true:=by kernel_rfl
end Go.Proofs.YtbdbhdcbdfbnnaaGreatDoor.Ev
set_option maxRecDepth 100000
namespace Go.Proofs.YtbdbhdcbdfbnnaaGreatDoor.Ev
theorem kn12_run:runOk (ev (hookOr kret (hookOf [kn11,kn10,kn9,kn8,kn7,kn6,kn5,kn4,kn3,kn2,kn1])) Tryz.prog 100000 (.call kn12.f kn12.args) .leaf 0 (mkH kn12.S) kn12.nx) kn12.v kn12.S' kn12.nx'=true:=by kernel_rfl
end Go.Proofs.YtbdbhdcbdfbnnaaGreatDoor.Ev
set_option maxRecDepth 100000
namespace Go.Proofs.YtbdbhdcbdfbnnaaGreatDoor.Ev
theorem kn13_run:runOk (ev (hookOr kret (hookOf [kn12,kn11,kn10,kn9,kn8,kn7,kn6,kn5,kn4,kn3,kn2,kn1])) Tryz.prog 100000 (.call kn13.f kn13.args) .leaf 0 (mkH kn13.S) kn13.nx) kn13.v kn13.S' kn13.nx'=true:=by kernel_rfl
end Go.Proofs.YtbdbhdcbdfbnnaaGreatDoor.Ev
