/-
  DERIVED. GIVEN WITH THE SEED: THE CARDS: each row of YtmacepicoandkaaGreatDoorRows.lean that lists a variable, with what it lists TIED to the program's text (the seventh form; the later family's looks); each row that meets fmt, with fmt's text TOLD by the authors' own Lean function (tested against real Go, not proved from fmt's source: count such statements apart). THE CARD IS WHAT COUNTS. Prove the row's statement (the work); the ties are given (YtmacepicoandkaaGreatDoorTie.lean); close each card by the builder's one call (the guide's Derived/Test/ToyasCard.lean, 'card_holds'). Laid BY PROGRAM, IN A SANDBOX (cutbox-door.mjs). By AI agents, Wed Nov 11 2026. No macro, syntax, notation, axiom, sorry.
-/
import Derived.Test.YtmacepicoandkaaGreatDoorRows
import GoSem.ClaimSeven
namespace Go.Proofs.YtmacepicoandkaaGreatDoor
namespace Rows

/-- THE TIED CARD OF 'bailmentlaw22.ModesChecks'. -/
def modesChecksCard : Claim7 := { stood := { row := modesChecksRow, standIns := [], harness := (true, "7396b35325d653ca47f1f74e9e6f40ee80dfcbeacbcea68405628e35b5396a0c"), looks := true }, kinds := [], alts := [], laidByText := true, laidKinds := [.data, .data, .data, .sentinel, .sentinel], laidTests := true, laidLooks := .later }
def ModesChecksCardSaid : Prop := Claim7.holds Tryz.pinned (.plain (OpenSpec.ofChange modesChecksSpec)) modesChecksCard

/-- THE TIED CARD OF 'bailmentlaw22.ModesShow'. -/
def modesShowCard : Claim7 := { stood := { row := modesShowRow, standIns := [], harness := (true, "7396b35325d653ca47f1f74e9e6f40ee80dfcbeacbcea68405628e35b5396a0c"), looks := true }, kinds := [], alts := [], laidByText := true, laidKinds := [.data, .data, .data, .sentinel, .sentinel], laidTests := true, laidLooks := .later }
def ModesShowCardSaid : Prop := Claim7.holds Tryz.pinned (.plain (OpenSpec.ofChange modesShowSpec)) modesShowCard

/-- THE TIED CARD OF 'bailmentlaw22.ModesPass'. -/
def modesPassCard : Claim7 := { stood := { row := modesPassRow, standIns := [], harness := (true, "7396b35325d653ca47f1f74e9e6f40ee80dfcbeacbcea68405628e35b5396a0c"), looks := true }, kinds := [], alts := [], laidByText := true, laidKinds := [.data, .data, .data, .sentinel, .sentinel], laidTests := true, laidLooks := .later }
def ModesPassCardSaid : Prop := Claim7.holds Tryz.pinned (.plain (OpenSpec.ofChange modesPassSpec)) modesPassCard

/-- THE TIED CARD OF 'bailmentlaw22.ModesMore'. -/
def modesMoreCard : Claim7 := { stood := { row := modesMoreRow, standIns := [], harness := (true, "7396b35325d653ca47f1f74e9e6f40ee80dfcbeacbcea68405628e35b5396a0c"), looks := true }, kinds := [], alts := [], laidByText := true, laidKinds := [.data, .data, .data, .sentinel, .sentinel], laidTests := true, laidLooks := .later }
def ModesMoreCardSaid : Prop := Claim7.holds Tryz.pinned (.plain (OpenSpec.ofChange modesMoreSpec)) modesMoreCard

/-- THE SECOND FORM's CARD OF 'bailmentlaw22.ModesChecks'. -/
def modesChecksUptoCard : Claim7 := { stood := { row := modesChecksUptoRow, standIns := [], harness := (true, "7396b35325d653ca47f1f74e9e6f40ee80dfcbeacbcea68405628e35b5396a0c"), looks := true }, kinds := [], alts := [], laidByText := true, laidKinds := [.data, .data, .data, .sentinel, .sentinel], laidTests := true, laidLooks := .later }
def ModesChecksUptoCardSaid : Prop := Claim7.holds Tryz.pinned (.plain (OpenSpec.upto modesChecksSpec)) modesChecksUptoCard

/-- THE SECOND FORM's CARD OF 'bailmentlaw22.ModesShow'. -/
def modesShowUptoCard : Claim7 := { stood := { row := modesShowUptoRow, standIns := [], harness := (true, "7396b35325d653ca47f1f74e9e6f40ee80dfcbeacbcea68405628e35b5396a0c"), looks := true }, kinds := [], alts := [], laidByText := true, laidKinds := [.data, .data, .data, .sentinel, .sentinel], laidTests := true, laidLooks := .later }
def ModesShowUptoCardSaid : Prop := Claim7.holds Tryz.pinned (.plain (OpenSpec.upto modesShowSpec)) modesShowUptoCard

/-- THE SECOND FORM's CARD OF 'bailmentlaw22.ModesPass'. -/
def modesPassUptoCard : Claim7 := { stood := { row := modesPassUptoRow, standIns := [], harness := (true, "7396b35325d653ca47f1f74e9e6f40ee80dfcbeacbcea68405628e35b5396a0c"), looks := true }, kinds := [], alts := [], laidByText := true, laidKinds := [.data, .data, .data, .sentinel, .sentinel], laidTests := true, laidLooks := .later }
def ModesPassUptoCardSaid : Prop := Claim7.holds Tryz.pinned (.plain (OpenSpec.upto modesPassSpec)) modesPassUptoCard

/-- THE SECOND FORM's CARD OF 'bailmentlaw22.ModesMore'. -/
def modesMoreUptoCard : Claim7 := { stood := { row := modesMoreUptoRow, standIns := [], harness := (true, "7396b35325d653ca47f1f74e9e6f40ee80dfcbeacbcea68405628e35b5396a0c"), looks := true }, kinds := [], alts := [], laidByText := true, laidKinds := [.data, .data, .data, .sentinel, .sentinel], laidTests := true, laidLooks := .later }
def ModesMoreUptoCardSaid : Prop := Claim7.holds Tryz.pinned (.plain (OpenSpec.upto modesMoreSpec)) modesMoreUptoCard
end Rows
end Go.Proofs.YtmacepicoandkaaGreatDoor
