/-
  DERIVED. GIVEN WITH THE SEED: THE CARDS: each row of YtbdbhdcbdfbnnaaGreatDoorRows.lean that lists a variable, with what it lists TIED to the program's text (the seventh form; the later family's looks); each row that meets fmt, with fmt's text TOLD by the authors' own Lean function (tested against real Go, not proved from fmt's source: count such statements apart). THE CARD IS WHAT COUNTS. Prove the row's statement (the work); the ties are given (YtbdbhdcbdfbnnaaGreatDoorTie.lean); close each card by the builder's one call (the guide's Derived/Test/ToyasCard.lean, 'card_holds'). Laid BY PROGRAM, IN A SANDBOX (cutbox-door.mjs). By AI agents, Wed Nov 11 2026. No macro, syntax, notation, axiom, sorry.
-/
import Derived.Test.YtbdbhdcbdfbnnaaGreatDoorRows
import GoSem.ClaimSeven
namespace Go.Proofs.YtbdbhdcbdfbnnaaGreatDoor
namespace Rows

/-- THE TIED CARD OF 'bailmentlaw18.MachineSteps'. -/
def machineStepsCard : Claim7 := { stood := { row := machineStepsRow, standIns := [], harness := (true, "9a44673728956e64fa9543dba262bfccf4069c7f16b0f7b46e1dea11b07c8e5f"), looks := true }, kinds := [], alts := [], laidByText := true, laidKinds := [.data, .data, .data, .data, .sentinel, .sentinel, .widerDeep, .widerDeep, .pinned], laidTests := true, laidLooks := .later }
def MachineStepsCardSaid : Prop := Claim7.holds Tryz.pinned (.plain (OpenSpec.ofChange machineStepsSpec)) machineStepsCard

/-- THE SECOND FORM's CARD OF 'bailmentlaw18.MachineSteps'. -/
def machineStepsUptoCard : Claim7 := { stood := { row := machineStepsUptoRow, standIns := [], harness := (true, "9a44673728956e64fa9543dba262bfccf4069c7f16b0f7b46e1dea11b07c8e5f"), looks := true }, kinds := [], alts := [], laidByText := true, laidKinds := [.data, .data, .data, .data, .sentinel, .sentinel, .widerDeep, .widerDeep, .pinned], laidTests := true, laidLooks := .later }
def MachineStepsUptoCardSaid : Prop := Claim7.holds Tryz.pinned (.plain (OpenSpec.upto machineStepsSpec)) machineStepsUptoCard
end Rows
end Go.Proofs.YtbdbhdcbdfbnnaaGreatDoor
