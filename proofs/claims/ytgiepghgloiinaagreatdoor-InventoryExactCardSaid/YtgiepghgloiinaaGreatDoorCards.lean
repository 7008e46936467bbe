/-
  DERIVED. GIVEN WITH THE SEED: THE CARDS: each row of YtgiepghgloiinaaGreatDoorRows.lean that lists a variable, with what it lists TIED to the program's text (the seventh form; the later family's looks); each row that meets fmt, with fmt's text TOLD by the authors' own Lean function (tested against real Go, not proved from fmt's source: count such statements apart). THE CARD IS WHAT COUNTS. Prove the row's statement (the work); the ties are given (YtgiepghgloiinaaGreatDoorTie.lean); close each card by the builder's one call (the guide's Derived/Test/ToyasCard.lean, 'card_holds'). Laid BY PROGRAM, IN A SANDBOX (cutbox-door.mjs). By AI agents, Wed Nov 11 2026. No macro, syntax, notation, axiom, sorry.
-/
import Derived.Test.YtgiepghgloiinaaGreatDoorRows
import GoSem.ClaimSeven
namespace Go.Proofs.YtgiepghgloiinaaGreatDoor
namespace Rows

/-- THE TIED CARD OF 'seismonetlaw19.InventoryExact'. -/
def inventoryExactCard : Claim7 := { stood := { row := inventoryExactRow, standIns := [], harness := (true, "7987d015575a7d6bbef3fc5aea55173a559422774c5c980adff41d70770bcd07"), looks := false }, kinds := [], alts := [], laidByText := true, laidKinds := [.data, .pinned], laidTests := true, laidLooks := .later }
def InventoryExactCardSaid : Prop := Claim7.holds Tryz.pinned (.plain (OpenSpec.ofChange inventoryExactSpec)) inventoryExactCard

/-- THE SECOND FORM's CARD OF 'seismonetlaw19.InventoryExact'. -/
def inventoryExactUptoCard : Claim7 := { stood := { row := inventoryExactUptoRow, standIns := [], harness := (true, "7987d015575a7d6bbef3fc5aea55173a559422774c5c980adff41d70770bcd07"), looks := false }, kinds := [], alts := [], laidByText := true, laidKinds := [.data, .pinned], laidTests := true, laidLooks := .later }
def InventoryExactUptoCardSaid : Prop := Claim7.holds Tryz.pinned (.plain (OpenSpec.upto inventoryExactSpec)) inventoryExactUptoCard
end Rows
end Go.Proofs.YtgiepghgloiinaaGreatDoor
