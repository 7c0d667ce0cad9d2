/-
  DERIVED. GIVEN WITH THE SEED: THE CARDS: each row of YtdmelebgdaiinaaGreatDoorRows.lean that lists a variable, with what it lists TIED to the program's text (the seventh form; the later family's looks); each row that meets fmt, with fmt's text TOLD by the authors' own Lean function (tested against real Go, not proved from fmt's source: count such statements apart). THE CARD IS WHAT COUNTS. Prove the row's statement (the work); the ties are given (YtdmelebgdaiinaaGreatDoorTie.lean); close each card by the builder's one call (the guide's Derived/Test/ToyasCard.lean, 'card_holds'). Laid BY PROGRAM, IN A SANDBOX (cutbox-door.mjs). By AI agents, Wed Nov 11 2026. No macro, syntax, notation, axiom, sorry.
-/
import Derived.Test.YtdmelebgdaiinaaGreatDoorRows
import GoSem.ClaimSeven
namespace Go.Proofs.YtdmelebgdaiinaaGreatDoor
namespace Rows

/-- THE TIED CARD OF 'bailmentlaw18.MachineSteps'. -/
def machineStepsCard : Claim7 := { stood := { row := machineStepsRow, standIns := [], harness := (true, "73a578ac8dbbeec6b1f9433e427f1245ce7b7ab8d03bb90bd6b9d307fcb1cd6a"), looks := true }, kinds := [], alts := [], laidByText := true, laidKinds := [.data, .data, .data, .data, .sentinel, .sentinel, .widerDeep, .widerDeep, .pinned], laidTests := true, laidLooks := .later }
def MachineStepsCardSaid : Prop := Claim7.holds Tryz.pinned (.plain (OpenSpec.ofChange machineStepsSpec)) machineStepsCard

/-- THE TIED CARD OF 'bailmentlaw18.MachineNil'. -/
def machineNilCard : Claim7 := { stood := { row := machineNilRow, standIns := [], harness := (true, "73a578ac8dbbeec6b1f9433e427f1245ce7b7ab8d03bb90bd6b9d307fcb1cd6a"), looks := true }, kinds := [], alts := [], laidByText := true, laidKinds := [.data, .data, .data, .data, .sentinel, .sentinel, .widerDeep, .widerDeep, .pinned], laidTests := true, laidLooks := .later }
def MachineNilCardSaid : Prop := Claim7.holds Tryz.pinned (.plain (OpenSpec.ofChange machineNilSpec)) machineNilCard

/-- THE TIED CARD OF 'bailmentlaw18.MachineSize'. -/
def machineSizeCard : Claim7 := { stood := { row := machineSizeRow, standIns := [], harness := (true, "73a578ac8dbbeec6b1f9433e427f1245ce7b7ab8d03bb90bd6b9d307fcb1cd6a"), looks := true }, kinds := [], alts := [], laidByText := true, laidKinds := [.data, .data, .data, .data, .sentinel, .sentinel, .widerDeep, .widerDeep, .pinned], laidTests := true, laidLooks := .later }
def MachineSizeCardSaid : Prop := Claim7.holds Tryz.pinned (.plain (OpenSpec.ofChange machineSizeSpec)) machineSizeCard

/-- THE TIED CARD OF 'bailmentlaw18.MachineCopy'. -/
def machineCopyCard : Claim7 := { stood := { row := machineCopyRow, standIns := [], harness := (true, "73a578ac8dbbeec6b1f9433e427f1245ce7b7ab8d03bb90bd6b9d307fcb1cd6a"), looks := true }, kinds := [], alts := [], laidByText := true, laidKinds := [.data, .data, .data, .data, .sentinel, .sentinel, .widerDeep, .widerDeep, .pinned], laidTests := true, laidLooks := .later }
def MachineCopyCardSaid : Prop := Claim7.holds Tryz.pinned (.plain (OpenSpec.ofChange machineCopySpec)) machineCopyCard

/-- THE TIED CARD OF 'bailmentlaw18.MachineFault'. -/
def machineFaultCard : Claim7 := { stood := { row := machineFaultRow, standIns := [], harness := (true, "73a578ac8dbbeec6b1f9433e427f1245ce7b7ab8d03bb90bd6b9d307fcb1cd6a"), looks := true }, kinds := [], alts := [], laidByText := true, laidKinds := [.data, .data, .data, .data, .sentinel, .sentinel, .widerDeep, .widerDeep, .pinned], laidTests := true, laidLooks := .later }
def MachineFaultCardSaid : Prop := Claim7.holds Tryz.pinned (.plain (OpenSpec.ofChange machineFaultSpec)) machineFaultCard

/-- THE SECOND FORM's CARD OF 'bailmentlaw18.MachineSteps'. -/
def machineStepsUptoCard : Claim7 := { stood := { row := machineStepsUptoRow, standIns := [], harness := (true, "73a578ac8dbbeec6b1f9433e427f1245ce7b7ab8d03bb90bd6b9d307fcb1cd6a"), looks := true }, kinds := [], alts := [], laidByText := true, laidKinds := [.data, .data, .data, .data, .sentinel, .sentinel, .widerDeep, .widerDeep, .pinned], laidTests := true, laidLooks := .later }
def MachineStepsUptoCardSaid : Prop := Claim7.holds Tryz.pinned (.plain (OpenSpec.upto machineStepsSpec)) machineStepsUptoCard

/-- THE SECOND FORM's CARD OF 'bailmentlaw18.MachineNil'. -/
def machineNilUptoCard : Claim7 := { stood := { row := machineNilUptoRow, standIns := [], harness := (true, "73a578ac8dbbeec6b1f9433e427f1245ce7b7ab8d03bb90bd6b9d307fcb1cd6a"), looks := true }, kinds := [], alts := [], laidByText := true, laidKinds := [.data, .data, .data, .data, .sentinel, .sentinel, .widerDeep, .widerDeep, .pinned], laidTests := true, laidLooks := .later }
def MachineNilUptoCardSaid : Prop := Claim7.holds Tryz.pinned (.plain (OpenSpec.upto machineNilSpec)) machineNilUptoCard

/-- THE SECOND FORM's CARD OF 'bailmentlaw18.MachineSize'. -/
def machineSizeUptoCard : Claim7 := { stood := { row := machineSizeUptoRow, standIns := [], harness := (true, "73a578ac8dbbeec6b1f9433e427f1245ce7b7ab8d03bb90bd6b9d307fcb1cd6a"), looks := true }, kinds := [], alts := [], laidByText := true, laidKinds := [.data, .data, .data, .data, .sentinel, .sentinel, .widerDeep, .widerDeep, .pinned], laidTests := true, laidLooks := .later }
def MachineSizeUptoCardSaid : Prop := Claim7.holds Tryz.pinned (.plain (OpenSpec.upto machineSizeSpec)) machineSizeUptoCard

/-- THE SECOND FORM's CARD OF 'bailmentlaw18.MachineCopy'. -/
def machineCopyUptoCard : Claim7 := { stood := { row := machineCopyUptoRow, standIns := [], harness := (true, "73a578ac8dbbeec6b1f9433e427f1245ce7b7ab8d03bb90bd6b9d307fcb1cd6a"), looks := true }, kinds := [], alts := [], laidByText := true, laidKinds := [.data, .data, .data, .data, .sentinel, .sentinel, .widerDeep, .widerDeep, .pinned], laidTests := true, laidLooks := .later }
def MachineCopyUptoCardSaid : Prop := Claim7.holds Tryz.pinned (.plain (OpenSpec.upto machineCopySpec)) machineCopyUptoCard

/-- THE SECOND FORM's CARD OF 'bailmentlaw18.MachineFault'. -/
def machineFaultUptoCard : Claim7 := { stood := { row := machineFaultUptoRow, standIns := [], harness := (true, "73a578ac8dbbeec6b1f9433e427f1245ce7b7ab8d03bb90bd6b9d307fcb1cd6a"), looks := true }, kinds := [], alts := [], laidByText := true, laidKinds := [.data, .data, .data, .data, .sentinel, .sentinel, .widerDeep, .widerDeep, .pinned], laidTests := true, laidLooks := .later }
def MachineFaultUptoCardSaid : Prop := Claim7.holds Tryz.pinned (.plain (OpenSpec.upto machineFaultSpec)) machineFaultUptoCard
end Rows
end Go.Proofs.YtdmelebgdaiinaaGreatDoor
