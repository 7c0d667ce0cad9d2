/-
  DERIVED. GIVEN WITH THE SEED: THE CARDS: each row of YthnofhobhkcpfaaDoorRows.lean that lists a variable, with what it lists TIED to the program's text (the seventh form; the later family's looks); each row that meets fmt, with fmt's text TOLD by the authors' own Lean function (tested against real Go, not proved from fmt's source: count such statements apart). THE CARD IS WHAT COUNTS. Prove the row's statement (the work); the ties are given (YthnofhobhkcpfaaDoorTie.lean); close each card by the builder's one call (the guide's Derived/Test/ToyasCard.lean, 'card_holds'). Laid BY PROGRAM, IN A SANDBOX (cutbox-door.mjs). By AI agents, Wed Nov 11 2026. No macro, syntax, notation, axiom, sorry.
-/
import Derived.Test.YthnofhobhkcpfaaDoorRows
import GoSem.ClaimSeven
namespace Go.Proofs.YthnofhobhkcpfaaDoor
namespace Rows

/-- THE TIED CARD OF 'bailmentlaw02.LexReads'. -/
def lexReadsCard : Claim7 := { stood := { row := lexReadsRow, standIns := [], harness := (true, "3020c5f36f89f53090c55934df61b454e536920143c25b99668004bae628e2d9"), looks := true }, kinds := [], alts := [], laidByText := true, laidKinds := [.data, .data, .data, .data, .sentinel, .sentinel, .widerDeep, .widerDeep, .pinned], laidTests := true, laidLooks := .later }
def LexReadsCardSaid : Prop := Claim7.holds Tryd.pinned (.plain (OpenSpec.ofChange lexReadsSpec)) lexReadsCard

/-- THE TIED CARD OF 'bailmentlaw02.LexBack'. -/
def lexBackCard : Claim7 := { stood := { row := lexBackRow, standIns := [], harness := (true, "3020c5f36f89f53090c55934df61b454e536920143c25b99668004bae628e2d9"), looks := true }, kinds := [], alts := [], laidByText := true, laidKinds := [.data, .data, .data, .data, .sentinel, .sentinel, .widerDeep, .widerDeep, .pinned], laidTests := true, laidLooks := .later }
def LexBackCardSaid : Prop := Claim7.holds Tryd.pinned (.plain (OpenSpec.ofChange lexBackSpec)) lexBackCard

/-- THE TIED CARD OF 'bailmentlaw02.LexStands'. -/
def lexStandsCard : Claim7 := { stood := { row := lexStandsRow, standIns := [], harness := (true, "3020c5f36f89f53090c55934df61b454e536920143c25b99668004bae628e2d9"), looks := true }, kinds := [], alts := [], laidByText := true, laidKinds := [.data, .data, .data, .data, .sentinel, .sentinel, .widerDeep, .widerDeep, .pinned], laidTests := true, laidLooks := .later }
def LexStandsCardSaid : Prop := Claim7.holds Tryd.pinned (.plain (OpenSpec.ofChange lexStandsSpec)) lexStandsCard

/-- THE TIED CARD OF 'bailmentlaw02.LexLines'. -/
def lexLinesCard : Claim7 := { stood := { row := lexLinesRow, standIns := [], harness := (true, "3020c5f36f89f53090c55934df61b454e536920143c25b99668004bae628e2d9"), looks := true }, kinds := [], alts := [], laidByText := true, laidKinds := [.data, .data, .data, .data, .sentinel, .sentinel, .widerDeep, .widerDeep, .pinned], laidTests := true, laidLooks := .later }
def LexLinesCardSaid : Prop := Claim7.holds Tryd.pinned (.plain (OpenSpec.ofChange lexLinesSpec)) lexLinesCard

/-- THE TIED CARD OF 'bailmentlaw02.LexBlanks'. -/
def lexBlanksCard : Claim7 := { stood := { row := lexBlanksRow, standIns := [], harness := (true, "3020c5f36f89f53090c55934df61b454e536920143c25b99668004bae628e2d9"), looks := true }, kinds := [], alts := [], laidByText := true, laidKinds := [.data, .data, .data, .data, .sentinel, .sentinel, .widerDeep, .widerDeep, .pinned], laidTests := true, laidLooks := .later }
def LexBlanksCardSaid : Prop := Claim7.holds Tryd.pinned (.plain (OpenSpec.ofChange lexBlanksSpec)) lexBlanksCard

/-- THE TIED CARD OF 'bailmentlaw02.LexNames'. -/
def lexNamesCard : Claim7 := { stood := { row := lexNamesRow, standIns := [], harness := (true, "3020c5f36f89f53090c55934df61b454e536920143c25b99668004bae628e2d9"), looks := true }, kinds := [], alts := [], laidByText := true, laidKinds := [.data, .data, .data, .data, .sentinel, .sentinel, .widerDeep, .widerDeep, .pinned], laidTests := true, laidLooks := .later }
def LexNamesCardSaid : Prop := Claim7.holds Tryd.pinned (.plain (OpenSpec.ofChange lexNamesSpec)) lexNamesCard

/-- THE SECOND FORM's CARD OF 'bailmentlaw02.LexReads'. -/
def lexReadsUptoCard : Claim7 := { stood := { row := lexReadsUptoRow, standIns := [], harness := (true, "3020c5f36f89f53090c55934df61b454e536920143c25b99668004bae628e2d9"), looks := true }, kinds := [], alts := [], laidByText := true, laidKinds := [.data, .data, .data, .data, .sentinel, .sentinel, .widerDeep, .widerDeep, .pinned], laidTests := true, laidLooks := .later }
def LexReadsUptoCardSaid : Prop := Claim7.holds Tryd.pinned (.plain (OpenSpec.upto lexReadsSpec)) lexReadsUptoCard

/-- THE SECOND FORM's CARD OF 'bailmentlaw02.LexBack'. -/
def lexBackUptoCard : Claim7 := { stood := { row := lexBackUptoRow, standIns := [], harness := (true, "3020c5f36f89f53090c55934df61b454e536920143c25b99668004bae628e2d9"), looks := true }, kinds := [], alts := [], laidByText := true, laidKinds := [.data, .data, .data, .data, .sentinel, .sentinel, .widerDeep, .widerDeep, .pinned], laidTests := true, laidLooks := .later }
def LexBackUptoCardSaid : Prop := Claim7.holds Tryd.pinned (.plain (OpenSpec.upto lexBackSpec)) lexBackUptoCard

/-- THE SECOND FORM's CARD OF 'bailmentlaw02.LexStands'. -/
def lexStandsUptoCard : Claim7 := { stood := { row := lexStandsUptoRow, standIns := [], harness := (true, "3020c5f36f89f53090c55934df61b454e536920143c25b99668004bae628e2d9"), looks := true }, kinds := [], alts := [], laidByText := true, laidKinds := [.data, .data, .data, .data, .sentinel, .sentinel, .widerDeep, .widerDeep, .pinned], laidTests := true, laidLooks := .later }
def LexStandsUptoCardSaid : Prop := Claim7.holds Tryd.pinned (.plain (OpenSpec.upto lexStandsSpec)) lexStandsUptoCard

/-- THE SECOND FORM's CARD OF 'bailmentlaw02.LexLines'. -/
def lexLinesUptoCard : Claim7 := { stood := { row := lexLinesUptoRow, standIns := [], harness := (true, "3020c5f36f89f53090c55934df61b454e536920143c25b99668004bae628e2d9"), looks := true }, kinds := [], alts := [], laidByText := true, laidKinds := [.data, .data, .data, .data, .sentinel, .sentinel, .widerDeep, .widerDeep, .pinned], laidTests := true, laidLooks := .later }
def LexLinesUptoCardSaid : Prop := Claim7.holds Tryd.pinned (.plain (OpenSpec.upto lexLinesSpec)) lexLinesUptoCard

/-- THE SECOND FORM's CARD OF 'bailmentlaw02.LexBlanks'. -/
def lexBlanksUptoCard : Claim7 := { stood := { row := lexBlanksUptoRow, standIns := [], harness := (true, "3020c5f36f89f53090c55934df61b454e536920143c25b99668004bae628e2d9"), looks := true }, kinds := [], alts := [], laidByText := true, laidKinds := [.data, .data, .data, .data, .sentinel, .sentinel, .widerDeep, .widerDeep, .pinned], laidTests := true, laidLooks := .later }
def LexBlanksUptoCardSaid : Prop := Claim7.holds Tryd.pinned (.plain (OpenSpec.upto lexBlanksSpec)) lexBlanksUptoCard

/-- THE SECOND FORM's CARD OF 'bailmentlaw02.LexNames'. -/
def lexNamesUptoCard : Claim7 := { stood := { row := lexNamesUptoRow, standIns := [], harness := (true, "3020c5f36f89f53090c55934df61b454e536920143c25b99668004bae628e2d9"), looks := true }, kinds := [], alts := [], laidByText := true, laidKinds := [.data, .data, .data, .data, .sentinel, .sentinel, .widerDeep, .widerDeep, .pinned], laidTests := true, laidLooks := .later }
def LexNamesUptoCardSaid : Prop := Claim7.holds Tryd.pinned (.plain (OpenSpec.upto lexNamesSpec)) lexNamesUptoCard
end Rows
end Go.Proofs.YthnofhobhkcpfaaDoor
