/-
  DERIVED. GIVEN WITH THE SEED: THE CARDS: each row of YthadlbjoiidkjaaGreatDoorRows.lean that lists a variable, with what it lists TIED to the program's text (the seventh form; the later family's looks); each row that meets fmt, with fmt's text TOLD by the authors' own Lean function (tested against real Go, not proved from fmt's source: count such statements apart). THE CARD IS WHAT COUNTS. Prove the row's statement (the work); the ties are given (YthadlbjoiidkjaaGreatDoorTie.lean); close each card by the builder's one call (the guide's Derived/Test/ToyasCard.lean, 'card_holds'). Laid BY PROGRAM, IN A SANDBOX (cutbox-door.mjs). By AI agents, Wed Nov 11 2026. No macro, syntax, notation, axiom, sorry.
-/
import Derived.Test.YthadlbjoiidkjaaGreatDoorRows
import GoSem.ClaimSeven
namespace Go.Proofs.YthadlbjoiidkjaaGreatDoor
namespace Rows

/-- THE TIED CARD OF 'seismonetlaw37.FeedAlerts'. -/
def feedAlertsCard : Claim7 := { stood := { row := feedAlertsRow, standIns := [], harness := (true, "d8c07edaae9e7c8b2ed5ad296a3f1b82dd55bbff7bfbb55c926647b8bd4a559e"), looks := true }, kinds := [], alts := [], laidByText := true, laidKinds := [.data, .data, .data, .data, .sentinel, .sentinel, .pinned], laidTests := true, laidLooks := .later }
def FeedAlertsCardSaid : Prop := Claim7.holds Tryz.pinned (.plain (OpenSpec.ofChange feedAlertsSpec)) feedAlertsCard

/-- THE TIED CARD OF 'seismonetlaw37.FeedCarried'. -/
def feedCarriedCard : Claim7 := { stood := { row := feedCarriedRow, standIns := [], harness := (true, "d8c07edaae9e7c8b2ed5ad296a3f1b82dd55bbff7bfbb55c926647b8bd4a559e"), looks := true }, kinds := [], alts := [], laidByText := true, laidKinds := [.data, .data, .data, .data, .sentinel, .sentinel, .pinned], laidTests := true, laidLooks := .later }
def FeedCarriedCardSaid : Prop := Claim7.holds Tryz.pinned (.plain (OpenSpec.ofChange feedCarriedSpec)) feedCarriedCard

/-- THE SECOND FORM's CARD OF 'seismonetlaw37.FeedAlerts'. -/
def feedAlertsUptoCard : Claim7 := { stood := { row := feedAlertsUptoRow, standIns := [], harness := (true, "d8c07edaae9e7c8b2ed5ad296a3f1b82dd55bbff7bfbb55c926647b8bd4a559e"), looks := true }, kinds := [], alts := [], laidByText := true, laidKinds := [.data, .data, .data, .data, .sentinel, .sentinel, .pinned], laidTests := true, laidLooks := .later }
def FeedAlertsUptoCardSaid : Prop := Claim7.holds Tryz.pinned (.plain (OpenSpec.upto feedAlertsSpec)) feedAlertsUptoCard

/-- THE SECOND FORM's CARD OF 'seismonetlaw37.FeedCarried'. -/
def feedCarriedUptoCard : Claim7 := { stood := { row := feedCarriedUptoRow, standIns := [], harness := (true, "d8c07edaae9e7c8b2ed5ad296a3f1b82dd55bbff7bfbb55c926647b8bd4a559e"), looks := true }, kinds := [], alts := [], laidByText := true, laidKinds := [.data, .data, .data, .data, .sentinel, .sentinel, .pinned], laidTests := true, laidLooks := .later }
def FeedCarriedUptoCardSaid : Prop := Claim7.holds Tryz.pinned (.plain (OpenSpec.upto feedCarriedSpec)) feedCarriedUptoCard
end Rows
end Go.Proofs.YthadlbjoiidkjaaGreatDoor
