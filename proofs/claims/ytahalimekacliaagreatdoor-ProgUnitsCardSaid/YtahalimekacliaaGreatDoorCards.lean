/-
  DERIVED. GIVEN WITH THE SEED: THE CARDS: each row of YtahalimekacliaaGreatDoorRows.lean that lists a variable, with what it lists TIED to the program's text (the seventh form; the later family's looks); each row that meets fmt, with fmt's text TOLD by the authors' own Lean function (tested against real Go, not proved from fmt's source: count such statements apart). THE CARD IS WHAT COUNTS. Prove the row's statement (the work); the ties are given (YtahalimekacliaaGreatDoorTie.lean); close each card by the builder's one call (the guide's Derived/Test/ToyasCard.lean, 'card_holds'). Laid BY PROGRAM, IN A SANDBOX (cutbox-door.mjs). By AI agents, Wed Nov 11 2026. No macro, syntax, notation, axiom, sorry.
-/
import Derived.Test.YtahalimekacliaaGreatDoorRows
import GoSem.ClaimSeven
namespace Go.Proofs.YtahalimekacliaaGreatDoor
namespace Rows

/-- THE TIED CARD OF 'bailmentlaw06.ProgBlank'. -/
def progBlankCard : Claim7 := { stood := { row := progBlankRow, standIns := [], harness := (true, "9ce44a5325634cdb696efdfb721034c7f77a0734dbb9d38feb492e78a56ac887"), looks := true }, kinds := [], alts := [], laidByText := true, laidKinds := [.data, .data, .data, .data, .sentinel, .sentinel, .widerDeep, .widerDeep, .pinned], laidTests := true, laidLooks := .later }
def ProgBlankCardSaid : Prop := Claim7.holds Tryz.pinned (.plain (OpenSpec.ofChange progBlankSpec)) progBlankCard

/-- THE TIED CARD OF 'bailmentlaw06.ProgShort'. -/
def progShortCard : Claim7 := { stood := { row := progShortRow, standIns := [], harness := (true, "9ce44a5325634cdb696efdfb721034c7f77a0734dbb9d38feb492e78a56ac887"), looks := true }, kinds := [], alts := [], laidByText := true, laidKinds := [.data, .data, .data, .data, .sentinel, .sentinel, .widerDeep, .widerDeep, .pinned], laidTests := true, laidLooks := .later }
def ProgShortCardSaid : Prop := Claim7.holds Tryz.pinned (.plain (OpenSpec.ofChange progShortSpec)) progShortCard

/-- THE TIED CARD OF 'bailmentlaw06.ProgUnits'. -/
def progUnitsCard : Claim7 := { stood := { row := progUnitsRow, standIns := [], harness := (true, "9ce44a5325634cdb696efdfb721034c7f77a0734dbb9d38feb492e78a56ac887"), looks := true }, kinds := [], alts := [], laidByText := true, laidKinds := [.data, .data, .data, .data, .sentinel, .sentinel, .widerDeep, .widerDeep, .pinned], laidTests := true, laidLooks := .later }
def ProgUnitsCardSaid : Prop := Claim7.holds Tryz.pinned (.plain (OpenSpec.ofChange progUnitsSpec)) progUnitsCard

/-- THE TIED CARD OF 'bailmentlaw06.ProgFault'. -/
def progFaultCard : Claim7 := { stood := { row := progFaultRow, standIns := [], harness := (true, "9ce44a5325634cdb696efdfb721034c7f77a0734dbb9d38feb492e78a56ac887"), looks := true }, kinds := [], alts := [], laidByText := true, laidKinds := [.data, .data, .data, .data, .sentinel, .sentinel, .widerDeep, .widerDeep, .pinned], laidTests := true, laidLooks := .later }
def ProgFaultCardSaid : Prop := Claim7.holds Tryz.pinned (.plain (OpenSpec.ofChange progFaultSpec)) progFaultCard

/-- THE TIED CARD OF 'bailmentlaw06.ProgBack'. -/
def progBackCard : Claim7 := { stood := { row := progBackRow, standIns := [], harness := (true, "9ce44a5325634cdb696efdfb721034c7f77a0734dbb9d38feb492e78a56ac887"), looks := true }, kinds := [], alts := [], laidByText := true, laidKinds := [.data, .data, .data, .data, .sentinel, .sentinel, .widerDeep, .widerDeep, .pinned], laidTests := true, laidLooks := .later }
def ProgBackCardSaid : Prop := Claim7.holds Tryz.pinned (.plain (OpenSpec.ofChange progBackSpec)) progBackCard

/-- THE SECOND FORM's CARD OF 'bailmentlaw06.ProgBlank'. -/
def progBlankUptoCard : Claim7 := { stood := { row := progBlankUptoRow, standIns := [], harness := (true, "9ce44a5325634cdb696efdfb721034c7f77a0734dbb9d38feb492e78a56ac887"), looks := true }, kinds := [], alts := [], laidByText := true, laidKinds := [.data, .data, .data, .data, .sentinel, .sentinel, .widerDeep, .widerDeep, .pinned], laidTests := true, laidLooks := .later }
def ProgBlankUptoCardSaid : Prop := Claim7.holds Tryz.pinned (.plain (OpenSpec.upto progBlankSpec)) progBlankUptoCard

/-- THE SECOND FORM's CARD OF 'bailmentlaw06.ProgShort'. -/
def progShortUptoCard : Claim7 := { stood := { row := progShortUptoRow, standIns := [], harness := (true, "9ce44a5325634cdb696efdfb721034c7f77a0734dbb9d38feb492e78a56ac887"), looks := true }, kinds := [], alts := [], laidByText := true, laidKinds := [.data, .data, .data, .data, .sentinel, .sentinel, .widerDeep, .widerDeep, .pinned], laidTests := true, laidLooks := .later }
def ProgShortUptoCardSaid : Prop := Claim7.holds Tryz.pinned (.plain (OpenSpec.upto progShortSpec)) progShortUptoCard

/-- THE SECOND FORM's CARD OF 'bailmentlaw06.ProgUnits'. -/
def progUnitsUptoCard : Claim7 := { stood := { row := progUnitsUptoRow, standIns := [], harness := (true, "9ce44a5325634cdb696efdfb721034c7f77a0734dbb9d38feb492e78a56ac887"), looks := true }, kinds := [], alts := [], laidByText := true, laidKinds := [.data, .data, .data, .data, .sentinel, .sentinel, .widerDeep, .widerDeep, .pinned], laidTests := true, laidLooks := .later }
def ProgUnitsUptoCardSaid : Prop := Claim7.holds Tryz.pinned (.plain (OpenSpec.upto progUnitsSpec)) progUnitsUptoCard

/-- THE SECOND FORM's CARD OF 'bailmentlaw06.ProgFault'. -/
def progFaultUptoCard : Claim7 := { stood := { row := progFaultUptoRow, standIns := [], harness := (true, "9ce44a5325634cdb696efdfb721034c7f77a0734dbb9d38feb492e78a56ac887"), looks := true }, kinds := [], alts := [], laidByText := true, laidKinds := [.data, .data, .data, .data, .sentinel, .sentinel, .widerDeep, .widerDeep, .pinned], laidTests := true, laidLooks := .later }
def ProgFaultUptoCardSaid : Prop := Claim7.holds Tryz.pinned (.plain (OpenSpec.upto progFaultSpec)) progFaultUptoCard

/-- THE SECOND FORM's CARD OF 'bailmentlaw06.ProgBack'. -/
def progBackUptoCard : Claim7 := { stood := { row := progBackUptoRow, standIns := [], harness := (true, "9ce44a5325634cdb696efdfb721034c7f77a0734dbb9d38feb492e78a56ac887"), looks := true }, kinds := [], alts := [], laidByText := true, laidKinds := [.data, .data, .data, .data, .sentinel, .sentinel, .widerDeep, .widerDeep, .pinned], laidTests := true, laidLooks := .later }
def ProgBackUptoCardSaid : Prop := Claim7.holds Tryz.pinned (.plain (OpenSpec.upto progBackSpec)) progBackUptoCard
end Rows
end Go.Proofs.YtahalimekacliaaGreatDoor
