/-
  DERIVED. GIVEN WITH THE SEED: THE CARDS: each row of YtkfmfbhngneklaaGreatDoorRows.lean that lists a variable, with what it lists TIED to the program's text (the seventh form; the later family's looks); each row that meets fmt, with fmt's text TOLD by the authors' own Lean function (tested against real Go, not proved from fmt's source: count such statements apart). THE CARD IS WHAT COUNTS. Prove the row's statement (the work); the ties are given (YtkfmfbhngneklaaGreatDoorTie.lean); close each card by the builder's one call (the guide's Derived/Test/ToyasCard.lean, 'card_holds'). Laid BY PROGRAM, IN A SANDBOX (cutbox-door.mjs). By AI agents, Wed Nov 11 2026. No macro, syntax, notation, axiom, sorry.
-/
import Derived.Test.YtkfmfbhngneklaaGreatDoorRows
import GoSem.ClaimSeven
namespace Go.Proofs.YtkfmfbhngneklaaGreatDoor
namespace Rows

/-- THE TIED CARD OF 'seismonetlaw19.InventoryTimes'. -/
def inventoryTimesCard : Claim7 := { stood := { row := inventoryTimesRow, standIns := [], harness := (true, "80792921ebac2ba2a7f0b6bd95d432e5fc1269b5bea7917ff22f3a491a54be7b"), looks := false }, kinds := [], alts := [], laidByText := true, laidKinds := [.data, .pinned], laidTests := true, laidLooks := .later }
def InventoryTimesCardSaid : Prop := Claim7.holds Tryz.pinned (.plain (OpenSpec.ofChange inventoryTimesSpec)) inventoryTimesCard

/-- THE TIED CARD OF 'seismonetlaw19.InventoryExact'. -/
def inventoryExactCard : Claim7 := { stood := { row := inventoryExactRow, standIns := [], harness := (true, "80792921ebac2ba2a7f0b6bd95d432e5fc1269b5bea7917ff22f3a491a54be7b"), looks := false }, kinds := [], alts := [], laidByText := true, laidKinds := [.data, .pinned], laidTests := true, laidLooks := .later }
def InventoryExactCardSaid : Prop := Claim7.holds Tryz.pinned (.plain (OpenSpec.ofChange inventoryExactSpec)) inventoryExactCard

/-- THE SECOND FORM's CARD OF 'seismonetlaw19.InventoryTimes'. -/
def inventoryTimesUptoCard : Claim7 := { stood := { row := inventoryTimesUptoRow, standIns := [], harness := (true, "80792921ebac2ba2a7f0b6bd95d432e5fc1269b5bea7917ff22f3a491a54be7b"), looks := false }, kinds := [], alts := [], laidByText := true, laidKinds := [.data, .pinned], laidTests := true, laidLooks := .later }
def InventoryTimesUptoCardSaid : Prop := Claim7.holds Tryz.pinned (.plain (OpenSpec.upto inventoryTimesSpec)) inventoryTimesUptoCard

/-- THE SECOND FORM's CARD OF 'seismonetlaw19.InventoryExact'. -/
def inventoryExactUptoCard : Claim7 := { stood := { row := inventoryExactUptoRow, standIns := [], harness := (true, "80792921ebac2ba2a7f0b6bd95d432e5fc1269b5bea7917ff22f3a491a54be7b"), looks := false }, kinds := [], alts := [], laidByText := true, laidKinds := [.data, .pinned], laidTests := true, laidLooks := .later }
def InventoryExactUptoCardSaid : Prop := Claim7.holds Tryz.pinned (.plain (OpenSpec.upto inventoryExactSpec)) inventoryExactUptoCard
end Rows
end Go.Proofs.YtkfmfbhngneklaaGreatDoor
