/-
  DERIVED. GIVEN WITH THE SEED: THE CARDS: each row of YtmklieoikbgmpaaGreatDoorRows.lean that lists a variable, with what it lists TIED to the program's text (the seventh form; the later family's looks); each row that meets fmt, with fmt's text TOLD by the authors' own Lean function (tested against real Go, not proved from fmt's source: count such statements apart). THE CARD IS WHAT COUNTS. Prove the row's statement (the work); the ties are given (YtmklieoikbgmpaaGreatDoorTie.lean); close each card by the builder's one call (the guide's Derived/Test/ToyasCard.lean, 'card_holds'). Laid BY PROGRAM, IN A SANDBOX (cutbox-door.mjs). By AI agents, Wed Nov 11 2026. No macro, syntax, notation, axiom, sorry.
-/
import Derived.Test.YtmklieoikbgmpaaGreatDoorRows
import GoSem.ClaimSeven
namespace Go.Proofs.YtmklieoikbgmpaaGreatDoor
namespace Rows

/-- THE TIED CARD OF 'bailmentlaw04.ExprRound'. -/
def exprRoundCard : Claim7 := { stood := { row := exprRoundRow, standIns := [], harness := (true, "50a369d4a3e3e162280e3ed94734966668dac984d3cc16e385470442f2a3be2a"), looks := true }, kinds := [], alts := [], laidByText := true, laidKinds := [.data, .data, .data, .data, .sentinel, .sentinel, .widerDeep, .widerDeep, .pinned], laidTests := true, laidLooks := .later }
def ExprRoundCardSaid : Prop := Claim7.holds Tryz.pinned (.plain (OpenSpec.ofChange exprRoundSpec)) exprRoundCard

/-- THE TIED CARD OF 'bailmentlaw04.ExprBehind'. -/
def exprBehindCard : Claim7 := { stood := { row := exprBehindRow, standIns := [], harness := (true, "50a369d4a3e3e162280e3ed94734966668dac984d3cc16e385470442f2a3be2a"), looks := true }, kinds := [], alts := [], laidByText := true, laidKinds := [.data, .data, .data, .data, .sentinel, .sentinel, .widerDeep, .widerDeep, .pinned], laidTests := true, laidLooks := .later }
def ExprBehindCardSaid : Prop := Claim7.holds Tryz.pinned (.plain (OpenSpec.ofChange exprBehindSpec)) exprBehindCard

/-- THE TIED CARD OF 'bailmentlaw04.ExprFault'. -/
def exprFaultCard : Claim7 := { stood := { row := exprFaultRow, standIns := [], harness := (true, "50a369d4a3e3e162280e3ed94734966668dac984d3cc16e385470442f2a3be2a"), looks := true }, kinds := [], alts := [], laidByText := true, laidKinds := [.data, .data, .data, .data, .sentinel, .sentinel, .widerDeep, .widerDeep, .pinned], laidTests := true, laidLooks := .later }
def ExprFaultCardSaid : Prop := Claim7.holds Tryz.pinned (.plain (OpenSpec.ofChange exprFaultSpec)) exprFaultCard

/-- THE TIED CARD OF 'bailmentlaw06.ProgBlank'. -/
def progBlankCard : Claim7 := { stood := { row := progBlankRow, standIns := [], harness := (true, "50a369d4a3e3e162280e3ed94734966668dac984d3cc16e385470442f2a3be2a"), looks := true }, kinds := [], alts := [], laidByText := true, laidKinds := [.data, .data, .data, .data, .sentinel, .sentinel, .widerDeep, .widerDeep, .pinned], laidTests := true, laidLooks := .later }
def ProgBlankCardSaid : Prop := Claim7.holds Tryz.pinned (.plain (OpenSpec.ofChange progBlankSpec)) progBlankCard

/-- THE TIED CARD OF 'bailmentlaw06.ProgShort'. -/
def progShortCard : Claim7 := { stood := { row := progShortRow, standIns := [], harness := (true, "50a369d4a3e3e162280e3ed94734966668dac984d3cc16e385470442f2a3be2a"), looks := true }, kinds := [], alts := [], laidByText := true, laidKinds := [.data, .data, .data, .data, .sentinel, .sentinel, .widerDeep, .widerDeep, .pinned], laidTests := true, laidLooks := .later }
def ProgShortCardSaid : Prop := Claim7.holds Tryz.pinned (.plain (OpenSpec.ofChange progShortSpec)) progShortCard

/-- THE TIED CARD OF 'bailmentlaw06.ProgUnits'. -/
def progUnitsCard : Claim7 := { stood := { row := progUnitsRow, standIns := [], harness := (true, "50a369d4a3e3e162280e3ed94734966668dac984d3cc16e385470442f2a3be2a"), looks := true }, kinds := [], alts := [], laidByText := true, laidKinds := [.data, .data, .data, .data, .sentinel, .sentinel, .widerDeep, .widerDeep, .pinned], laidTests := true, laidLooks := .later }
def ProgUnitsCardSaid : Prop := Claim7.holds Tryz.pinned (.plain (OpenSpec.ofChange progUnitsSpec)) progUnitsCard

/-- THE TIED CARD OF 'bailmentlaw06.ProgFault'. -/
def progFaultCard : Claim7 := { stood := { row := progFaultRow, standIns := [], harness := (true, "50a369d4a3e3e162280e3ed94734966668dac984d3cc16e385470442f2a3be2a"), looks := true }, kinds := [], alts := [], laidByText := true, laidKinds := [.data, .data, .data, .data, .sentinel, .sentinel, .widerDeep, .widerDeep, .pinned], laidTests := true, laidLooks := .later }
def ProgFaultCardSaid : Prop := Claim7.holds Tryz.pinned (.plain (OpenSpec.ofChange progFaultSpec)) progFaultCard

/-- THE TIED CARD OF 'bailmentlaw06.ProgBack'. -/
def progBackCard : Claim7 := { stood := { row := progBackRow, standIns := [], harness := (true, "50a369d4a3e3e162280e3ed94734966668dac984d3cc16e385470442f2a3be2a"), looks := true }, kinds := [], alts := [], laidByText := true, laidKinds := [.data, .data, .data, .data, .sentinel, .sentinel, .widerDeep, .widerDeep, .pinned], laidTests := true, laidLooks := .later }
def ProgBackCardSaid : Prop := Claim7.holds Tryz.pinned (.plain (OpenSpec.ofChange progBackSpec)) progBackCard

/-- THE SECOND FORM's CARD OF 'bailmentlaw04.ExprRound'. -/
def exprRoundUptoCard : Claim7 := { stood := { row := exprRoundUptoRow, standIns := [], harness := (true, "50a369d4a3e3e162280e3ed94734966668dac984d3cc16e385470442f2a3be2a"), looks := true }, kinds := [], alts := [], laidByText := true, laidKinds := [.data, .data, .data, .data, .sentinel, .sentinel, .widerDeep, .widerDeep, .pinned], laidTests := true, laidLooks := .later }
def ExprRoundUptoCardSaid : Prop := Claim7.holds Tryz.pinned (.plain (OpenSpec.upto exprRoundSpec)) exprRoundUptoCard

/-- THE SECOND FORM's CARD OF 'bailmentlaw04.ExprBehind'. -/
def exprBehindUptoCard : Claim7 := { stood := { row := exprBehindUptoRow, standIns := [], harness := (true, "50a369d4a3e3e162280e3ed94734966668dac984d3cc16e385470442f2a3be2a"), looks := true }, kinds := [], alts := [], laidByText := true, laidKinds := [.data, .data, .data, .data, .sentinel, .sentinel, .widerDeep, .widerDeep, .pinned], laidTests := true, laidLooks := .later }
def ExprBehindUptoCardSaid : Prop := Claim7.holds Tryz.pinned (.plain (OpenSpec.upto exprBehindSpec)) exprBehindUptoCard

/-- THE SECOND FORM's CARD OF 'bailmentlaw04.ExprFault'. -/
def exprFaultUptoCard : Claim7 := { stood := { row := exprFaultUptoRow, standIns := [], harness := (true, "50a369d4a3e3e162280e3ed94734966668dac984d3cc16e385470442f2a3be2a"), looks := true }, kinds := [], alts := [], laidByText := true, laidKinds := [.data, .data, .data, .data, .sentinel, .sentinel, .widerDeep, .widerDeep, .pinned], laidTests := true, laidLooks := .later }
def ExprFaultUptoCardSaid : Prop := Claim7.holds Tryz.pinned (.plain (OpenSpec.upto exprFaultSpec)) exprFaultUptoCard

/-- THE SECOND FORM's CARD OF 'bailmentlaw06.ProgBlank'. -/
def progBlankUptoCard : Claim7 := { stood := { row := progBlankUptoRow, standIns := [], harness := (true, "50a369d4a3e3e162280e3ed94734966668dac984d3cc16e385470442f2a3be2a"), looks := true }, kinds := [], alts := [], laidByText := true, laidKinds := [.data, .data, .data, .data, .sentinel, .sentinel, .widerDeep, .widerDeep, .pinned], laidTests := true, laidLooks := .later }
def ProgBlankUptoCardSaid : Prop := Claim7.holds Tryz.pinned (.plain (OpenSpec.upto progBlankSpec)) progBlankUptoCard

/-- THE SECOND FORM's CARD OF 'bailmentlaw06.ProgShort'. -/
def progShortUptoCard : Claim7 := { stood := { row := progShortUptoRow, standIns := [], harness := (true, "50a369d4a3e3e162280e3ed94734966668dac984d3cc16e385470442f2a3be2a"), looks := true }, kinds := [], alts := [], laidByText := true, laidKinds := [.data, .data, .data, .data, .sentinel, .sentinel, .widerDeep, .widerDeep, .pinned], laidTests := true, laidLooks := .later }
def ProgShortUptoCardSaid : Prop := Claim7.holds Tryz.pinned (.plain (OpenSpec.upto progShortSpec)) progShortUptoCard

/-- THE SECOND FORM's CARD OF 'bailmentlaw06.ProgUnits'. -/
def progUnitsUptoCard : Claim7 := { stood := { row := progUnitsUptoRow, standIns := [], harness := (true, "50a369d4a3e3e162280e3ed94734966668dac984d3cc16e385470442f2a3be2a"), looks := true }, kinds := [], alts := [], laidByText := true, laidKinds := [.data, .data, .data, .data, .sentinel, .sentinel, .widerDeep, .widerDeep, .pinned], laidTests := true, laidLooks := .later }
def ProgUnitsUptoCardSaid : Prop := Claim7.holds Tryz.pinned (.plain (OpenSpec.upto progUnitsSpec)) progUnitsUptoCard

/-- THE SECOND FORM's CARD OF 'bailmentlaw06.ProgFault'. -/
def progFaultUptoCard : Claim7 := { stood := { row := progFaultUptoRow, standIns := [], harness := (true, "50a369d4a3e3e162280e3ed94734966668dac984d3cc16e385470442f2a3be2a"), looks := true }, kinds := [], alts := [], laidByText := true, laidKinds := [.data, .data, .data, .data, .sentinel, .sentinel, .widerDeep, .widerDeep, .pinned], laidTests := true, laidLooks := .later }
def ProgFaultUptoCardSaid : Prop := Claim7.holds Tryz.pinned (.plain (OpenSpec.upto progFaultSpec)) progFaultUptoCard

/-- THE SECOND FORM's CARD OF 'bailmentlaw06.ProgBack'. -/
def progBackUptoCard : Claim7 := { stood := { row := progBackUptoRow, standIns := [], harness := (true, "50a369d4a3e3e162280e3ed94734966668dac984d3cc16e385470442f2a3be2a"), looks := true }, kinds := [], alts := [], laidByText := true, laidKinds := [.data, .data, .data, .data, .sentinel, .sentinel, .widerDeep, .widerDeep, .pinned], laidTests := true, laidLooks := .later }
def ProgBackUptoCardSaid : Prop := Claim7.holds Tryz.pinned (.plain (OpenSpec.upto progBackSpec)) progBackUptoCard
end Rows
end Go.Proofs.YtmklieoikbgmpaaGreatDoor
