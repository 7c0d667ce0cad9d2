/-
  DERIVED. GIVEN WITH THE SEED: THE CARDS: each row of YtjnpkdpljmkpiaaGreatDoorRows.lean that lists a variable, with what it lists TIED to the program's text (the seventh form; the later family's looks); each row that meets fmt, with fmt's text TOLD by the authors' own Lean function (tested against real Go, not proved from fmt's source: count such statements apart). THE CARD IS WHAT COUNTS. Prove the row's statement (the work); the ties are given (YtjnpkdpljmkpiaaGreatDoorTie.lean); close each card by the builder's one call (the guide's Derived/Test/ToyasCard.lean, 'card_holds'). Laid BY PROGRAM, IN A SANDBOX (cutbox-door.mjs). By AI agents, Wed Nov 11 2026. No macro, syntax, notation, axiom, sorry.
-/
import Derived.Test.YtjnpkdpljmkpiaaGreatDoorRows
import GoSem.ClaimSeven
namespace Go.Proofs.YtjnpkdpljmkpiaaGreatDoor
namespace Rows

/-- THE TIED CARD OF 'bailmentlaw21.AtomsSplit'. -/
def atomsSplitCard : Claim7 := { stood := { row := atomsSplitRow, standIns := [], harness := (true, "c9e4c544a3a0a00e212e08957990e2064b92156da4e9df3308c11062be46f8a2"), looks := true }, kinds := [], alts := [], laidByText := true, laidKinds := [.data, .data, .data, .sentinel, .sentinel], laidTests := true, laidLooks := .later }
def AtomsSplitCardSaid : Prop := Claim7.holds Tryz.pinned (.plain (OpenSpec.ofChange atomsSplitSpec)) atomsSplitCard

/-- THE TIED CARD OF 'bailmentlaw21.AtomsValues'. -/
def atomsValuesCard : Claim7 := { stood := { row := atomsValuesRow, standIns := [], harness := (true, "c9e4c544a3a0a00e212e08957990e2064b92156da4e9df3308c11062be46f8a2"), looks := true }, kinds := [], alts := [], laidByText := true, laidKinds := [.data, .data, .data, .sentinel, .sentinel], laidTests := true, laidLooks := .later }
def AtomsValuesCardSaid : Prop := Claim7.holds Tryz.pinned (.plain (OpenSpec.ofChange atomsValuesSpec)) atomsValuesCard

/-- THE TIED CARD OF 'bailmentlaw21.AtomsPut'. -/
def atomsPutCard : Claim7 := { stood := { row := atomsPutRow, standIns := [], harness := (true, "c9e4c544a3a0a00e212e08957990e2064b92156da4e9df3308c11062be46f8a2"), looks := true }, kinds := [], alts := [], laidByText := true, laidKinds := [.data, .data, .data, .sentinel, .sentinel], laidTests := true, laidLooks := .later }
def AtomsPutCardSaid : Prop := Claim7.holds Tryz.pinned (.plain (OpenSpec.ofChange atomsPutSpec)) atomsPutCard

/-- THE TIED CARD OF 'bailmentlaw21.AtomsOnce'. -/
def atomsOnceCard : Claim7 := { stood := { row := atomsOnceRow, standIns := [], harness := (true, "c9e4c544a3a0a00e212e08957990e2064b92156da4e9df3308c11062be46f8a2"), looks := true }, kinds := [], alts := [], laidByText := true, laidKinds := [.data, .data, .data, .sentinel, .sentinel], laidTests := true, laidLooks := .later }
def AtomsOnceCardSaid : Prop := Claim7.holds Tryz.pinned (.plain (OpenSpec.ofChange atomsOnceSpec)) atomsOnceCard

/-- THE TIED CARD OF 'bailmentlaw21.AtomsMakes'. -/
def atomsMakesCard : Claim7 := { stood := { row := atomsMakesRow, standIns := [], harness := (true, "c9e4c544a3a0a00e212e08957990e2064b92156da4e9df3308c11062be46f8a2"), looks := true }, kinds := [], alts := [], laidByText := true, laidKinds := [.data, .data, .data, .sentinel, .sentinel], laidTests := true, laidLooks := .later }
def AtomsMakesCardSaid : Prop := Claim7.holds Tryz.pinned (.plain (OpenSpec.ofChange atomsMakesSpec)) atomsMakesCard

/-- THE TIED CARD OF 'bailmentlaw22.ModesChecks'. -/
def modesChecksCard : Claim7 := { stood := { row := modesChecksRow, standIns := [], harness := (true, "c9e4c544a3a0a00e212e08957990e2064b92156da4e9df3308c11062be46f8a2"), looks := true }, kinds := [], alts := [], laidByText := true, laidKinds := [.data, .data, .data, .sentinel, .sentinel], laidTests := true, laidLooks := .later }
def ModesChecksCardSaid : Prop := Claim7.holds Tryz.pinned (.plain (OpenSpec.ofChange modesChecksSpec)) modesChecksCard

/-- THE TIED CARD OF 'bailmentlaw22.ModesShow'. -/
def modesShowCard : Claim7 := { stood := { row := modesShowRow, standIns := [], harness := (true, "c9e4c544a3a0a00e212e08957990e2064b92156da4e9df3308c11062be46f8a2"), looks := true }, kinds := [], alts := [], laidByText := true, laidKinds := [.data, .data, .data, .sentinel, .sentinel], laidTests := true, laidLooks := .later }
def ModesShowCardSaid : Prop := Claim7.holds Tryz.pinned (.plain (OpenSpec.ofChange modesShowSpec)) modesShowCard

/-- THE TIED CARD OF 'bailmentlaw22.ModesPass'. -/
def modesPassCard : Claim7 := { stood := { row := modesPassRow, standIns := [], harness := (true, "c9e4c544a3a0a00e212e08957990e2064b92156da4e9df3308c11062be46f8a2"), looks := true }, kinds := [], alts := [], laidByText := true, laidKinds := [.data, .data, .data, .sentinel, .sentinel], laidTests := true, laidLooks := .later }
def ModesPassCardSaid : Prop := Claim7.holds Tryz.pinned (.plain (OpenSpec.ofChange modesPassSpec)) modesPassCard

/-- THE TIED CARD OF 'bailmentlaw22.ModesMore'. -/
def modesMoreCard : Claim7 := { stood := { row := modesMoreRow, standIns := [], harness := (true, "c9e4c544a3a0a00e212e08957990e2064b92156da4e9df3308c11062be46f8a2"), looks := true }, kinds := [], alts := [], laidByText := true, laidKinds := [.data, .data, .data, .sentinel, .sentinel], laidTests := true, laidLooks := .later }
def ModesMoreCardSaid : Prop := Claim7.holds Tryz.pinned (.plain (OpenSpec.ofChange modesMoreSpec)) modesMoreCard

/-- THE SECOND FORM's CARD OF 'bailmentlaw21.AtomsSplit'. -/
def atomsSplitUptoCard : Claim7 := { stood := { row := atomsSplitUptoRow, standIns := [], harness := (true, "c9e4c544a3a0a00e212e08957990e2064b92156da4e9df3308c11062be46f8a2"), looks := true }, kinds := [], alts := [], laidByText := true, laidKinds := [.data, .data, .data, .sentinel, .sentinel], laidTests := true, laidLooks := .later }
def AtomsSplitUptoCardSaid : Prop := Claim7.holds Tryz.pinned (.plain (OpenSpec.upto atomsSplitSpec)) atomsSplitUptoCard

/-- THE SECOND FORM's CARD OF 'bailmentlaw21.AtomsValues'. -/
def atomsValuesUptoCard : Claim7 := { stood := { row := atomsValuesUptoRow, standIns := [], harness := (true, "c9e4c544a3a0a00e212e08957990e2064b92156da4e9df3308c11062be46f8a2"), looks := true }, kinds := [], alts := [], laidByText := true, laidKinds := [.data, .data, .data, .sentinel, .sentinel], laidTests := true, laidLooks := .later }
def AtomsValuesUptoCardSaid : Prop := Claim7.holds Tryz.pinned (.plain (OpenSpec.upto atomsValuesSpec)) atomsValuesUptoCard

/-- THE SECOND FORM's CARD OF 'bailmentlaw21.AtomsPut'. -/
def atomsPutUptoCard : Claim7 := { stood := { row := atomsPutUptoRow, standIns := [], harness := (true, "c9e4c544a3a0a00e212e08957990e2064b92156da4e9df3308c11062be46f8a2"), looks := true }, kinds := [], alts := [], laidByText := true, laidKinds := [.data, .data, .data, .sentinel, .sentinel], laidTests := true, laidLooks := .later }
def AtomsPutUptoCardSaid : Prop := Claim7.holds Tryz.pinned (.plain (OpenSpec.upto atomsPutSpec)) atomsPutUptoCard

/-- THE SECOND FORM's CARD OF 'bailmentlaw21.AtomsOnce'. -/
def atomsOnceUptoCard : Claim7 := { stood := { row := atomsOnceUptoRow, standIns := [], harness := (true, "c9e4c544a3a0a00e212e08957990e2064b92156da4e9df3308c11062be46f8a2"), looks := true }, kinds := [], alts := [], laidByText := true, laidKinds := [.data, .data, .data, .sentinel, .sentinel], laidTests := true, laidLooks := .later }
def AtomsOnceUptoCardSaid : Prop := Claim7.holds Tryz.pinned (.plain (OpenSpec.upto atomsOnceSpec)) atomsOnceUptoCard

/-- THE SECOND FORM's CARD OF 'bailmentlaw21.AtomsMakes'. -/
def atomsMakesUptoCard : Claim7 := { stood := { row := atomsMakesUptoRow, standIns := [], harness := (true, "c9e4c544a3a0a00e212e08957990e2064b92156da4e9df3308c11062be46f8a2"), looks := true }, kinds := [], alts := [], laidByText := true, laidKinds := [.data, .data, .data, .sentinel, .sentinel], laidTests := true, laidLooks := .later }
def AtomsMakesUptoCardSaid : Prop := Claim7.holds Tryz.pinned (.plain (OpenSpec.upto atomsMakesSpec)) atomsMakesUptoCard

/-- THE SECOND FORM's CARD OF 'bailmentlaw22.ModesChecks'. -/
def modesChecksUptoCard : Claim7 := { stood := { row := modesChecksUptoRow, standIns := [], harness := (true, "c9e4c544a3a0a00e212e08957990e2064b92156da4e9df3308c11062be46f8a2"), looks := true }, kinds := [], alts := [], laidByText := true, laidKinds := [.data, .data, .data, .sentinel, .sentinel], laidTests := true, laidLooks := .later }
def ModesChecksUptoCardSaid : Prop := Claim7.holds Tryz.pinned (.plain (OpenSpec.upto modesChecksSpec)) modesChecksUptoCard

/-- THE SECOND FORM's CARD OF 'bailmentlaw22.ModesShow'. -/
def modesShowUptoCard : Claim7 := { stood := { row := modesShowUptoRow, standIns := [], harness := (true, "c9e4c544a3a0a00e212e08957990e2064b92156da4e9df3308c11062be46f8a2"), looks := true }, kinds := [], alts := [], laidByText := true, laidKinds := [.data, .data, .data, .sentinel, .sentinel], laidTests := true, laidLooks := .later }
def ModesShowUptoCardSaid : Prop := Claim7.holds Tryz.pinned (.plain (OpenSpec.upto modesShowSpec)) modesShowUptoCard

/-- THE SECOND FORM's CARD OF 'bailmentlaw22.ModesPass'. -/
def modesPassUptoCard : Claim7 := { stood := { row := modesPassUptoRow, standIns := [], harness := (true, "c9e4c544a3a0a00e212e08957990e2064b92156da4e9df3308c11062be46f8a2"), looks := true }, kinds := [], alts := [], laidByText := true, laidKinds := [.data, .data, .data, .sentinel, .sentinel], laidTests := true, laidLooks := .later }
def ModesPassUptoCardSaid : Prop := Claim7.holds Tryz.pinned (.plain (OpenSpec.upto modesPassSpec)) modesPassUptoCard

/-- THE SECOND FORM's CARD OF 'bailmentlaw22.ModesMore'. -/
def modesMoreUptoCard : Claim7 := { stood := { row := modesMoreUptoRow, standIns := [], harness := (true, "c9e4c544a3a0a00e212e08957990e2064b92156da4e9df3308c11062be46f8a2"), looks := true }, kinds := [], alts := [], laidByText := true, laidKinds := [.data, .data, .data, .sentinel, .sentinel], laidTests := true, laidLooks := .later }
def ModesMoreUptoCardSaid : Prop := Claim7.holds Tryz.pinned (.plain (OpenSpec.upto modesMoreSpec)) modesMoreUptoCard
end Rows
end Go.Proofs.YtjnpkdpljmkpiaaGreatDoor
