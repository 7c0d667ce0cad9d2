/-
  DERIVED. GIVEN WITH THE SEED: THE CARDS: each row of YtoalnjpeblgkbabGreatDoorRows.lean that lists a variable, with what it lists TIED to the program's text (the seventh form; the later family's looks); each row that meets fmt, with fmt's text TOLD by the authors' own Lean function (tested against real Go, not proved from fmt's source: count such statements apart). THE CARD IS WHAT COUNTS. Prove the row's statement (the work); the ties are given (YtoalnjpeblgkbabGreatDoorTie.lean); close each card by the builder's one call (the guide's Derived/Test/ToyasCard.lean, 'card_holds'). Laid BY PROGRAM, IN A SANDBOX (cutbox-door.mjs). By AI agents, Wed Nov 11 2026. No macro, syntax, notation, axiom, sorry.
-/
import Derived.Test.YtoalnjpeblgkbabGreatDoorRows
import GoSem.ClaimSeven
namespace Go.Proofs.YtoalnjpeblgkbabGreatDoor
namespace Rows

/-- THE TIED CARD OF 'bailmentlaw19.MonitorWatches'. -/
def monitorWatchesCard : Claim7 := { stood := { row := monitorWatchesRow, standIns := [], harness := (true, "521eb8a128efa71eaf10712d70a8e557bd660703b39aae3706544d611fd41895"), looks := true }, kinds := [], alts := [], laidByText := true, laidKinds := [.data, .data, .data, .widerDeep], laidTests := true, laidLooks := .later }
def MonitorWatchesCardSaid : Prop := Claim7.holds Tryz.pinned (.plain (OpenSpec.ofChange monitorWatchesSpec)) monitorWatchesCard

/-- THE TIED CARD OF 'bailmentlaw19.MonitorOnce'. -/
def monitorOnceCard : Claim7 := { stood := { row := monitorOnceRow, standIns := [], harness := (true, "521eb8a128efa71eaf10712d70a8e557bd660703b39aae3706544d611fd41895"), looks := true }, kinds := [], alts := [], laidByText := true, laidKinds := [.data, .data, .data, .widerDeep], laidTests := true, laidLooks := .later }
def MonitorOnceCardSaid : Prop := Claim7.holds Tryz.pinned (.plain (OpenSpec.ofChange monitorOnceSpec)) monitorOnceCard

/-- THE SECOND FORM's CARD OF 'bailmentlaw19.MonitorWatches'. -/
def monitorWatchesUptoCard : Claim7 := { stood := { row := monitorWatchesUptoRow, standIns := [], harness := (true, "521eb8a128efa71eaf10712d70a8e557bd660703b39aae3706544d611fd41895"), looks := true }, kinds := [], alts := [], laidByText := true, laidKinds := [.data, .data, .data, .widerDeep], laidTests := true, laidLooks := .later }
def MonitorWatchesUptoCardSaid : Prop := Claim7.holds Tryz.pinned (.plain (OpenSpec.upto monitorWatchesSpec)) monitorWatchesUptoCard

/-- THE SECOND FORM's CARD OF 'bailmentlaw19.MonitorOnce'. -/
def monitorOnceUptoCard : Claim7 := { stood := { row := monitorOnceUptoRow, standIns := [], harness := (true, "521eb8a128efa71eaf10712d70a8e557bd660703b39aae3706544d611fd41895"), looks := true }, kinds := [], alts := [], laidByText := true, laidKinds := [.data, .data, .data, .widerDeep], laidTests := true, laidLooks := .later }
def MonitorOnceUptoCardSaid : Prop := Claim7.holds Tryz.pinned (.plain (OpenSpec.upto monitorOnceSpec)) monitorOnceUptoCard
end Rows
end Go.Proofs.YtoalnjpeblgkbabGreatDoor
