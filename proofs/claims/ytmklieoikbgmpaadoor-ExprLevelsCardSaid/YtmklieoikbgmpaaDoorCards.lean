/-
  DERIVED. GIVEN WITH THE SEED: THE CARDS: each row of YtmklieoikbgmpaaDoorRows.lean that lists a variable, with what it lists TIED to the program's text (the seventh form; the later family's looks); each row that meets fmt, with fmt's text TOLD by the authors' own Lean function (tested against real Go, not proved from fmt's source: count such statements apart). THE CARD IS WHAT COUNTS. Prove the row's statement (the work); the ties are given (YtmklieoikbgmpaaDoorTie.lean); close each card by the builder's one call (the guide's Derived/Test/ToyasCard.lean, 'card_holds'). Laid BY PROGRAM, IN A SANDBOX (cutbox-door.mjs). By AI agents, Wed Nov 11 2026. No macro, syntax, notation, axiom, sorry.
-/
import Derived.Test.YtmklieoikbgmpaaDoorRows
import GoSem.ClaimSeven
namespace Go.Proofs.YtmklieoikbgmpaaDoor
namespace Rows

/-- THE TIED CARD OF 'bailmentlaw04.ExprLevels'. -/
def exprLevelsCard : Claim7 := { stood := { row := exprLevelsRow, standIns := [], harness := (true, "150949216ecc914229a8d625f54626faca2d44711e93502ab56b11cc4448ee12"), looks := true }, kinds := [], alts := [], laidByText := true, laidKinds := [.data, .data, .data, .data, .sentinel, .sentinel, .widerDeep, .widerDeep, .pinned], laidTests := true, laidLooks := .later }
def ExprLevelsCardSaid : Prop := Claim7.holds Tryd.pinned (.plain (OpenSpec.ofChange exprLevelsSpec)) exprLevelsCard

/-- THE SECOND FORM's CARD OF 'bailmentlaw04.ExprLevels'. -/
def exprLevelsUptoCard : Claim7 := { stood := { row := exprLevelsUptoRow, standIns := [], harness := (true, "150949216ecc914229a8d625f54626faca2d44711e93502ab56b11cc4448ee12"), looks := true }, kinds := [], alts := [], laidByText := true, laidKinds := [.data, .data, .data, .data, .sentinel, .sentinel, .widerDeep, .widerDeep, .pinned], laidTests := true, laidLooks := .later }
def ExprLevelsUptoCardSaid : Prop := Claim7.holds Tryd.pinned (.plain (OpenSpec.upto exprLevelsSpec)) exprLevelsUptoCard
end Rows
end Go.Proofs.YtmklieoikbgmpaaDoor
