/-
  DERIVED. GIVEN WITH THE SEED: THE CARDS: each row of YtfmoipelhfkdkaaGreatDoorRows.lean that lists a variable, with what it lists TIED to the program's text (the seventh form; the later family's looks); each row that meets fmt, with fmt's text TOLD by the authors' own Lean function (tested against real Go, not proved from fmt's source: count such statements apart). THE CARD IS WHAT COUNTS. Prove the row's statement (the work); the ties are given (YtfmoipelhfkdkaaGreatDoorTie.lean); close each card by the builder's one call (the guide's Derived/Test/ToyasCard.lean, 'card_holds'). Laid BY PROGRAM, IN A SANDBOX (cutbox-door.mjs). By AI agents, Wed Nov 11 2026. No macro, syntax, notation, axiom, sorry.
-/
import Derived.Test.YtfmoipelhfkdkaaGreatDoorRows
import GoSem.ClaimSeven
namespace Go.Proofs.YtfmoipelhfkdkaaGreatDoor
namespace Rows

/-- THE TIED CARD OF 'seismonetlaw40.ReprocessExactly'. -/
def reprocessExactlyCard : Claim7 := { stood := { row := reprocessExactlyRow, standIns := [], harness := (true, "6486c3f2c118b7f08347a45220b874ad1d870b55a99918d0654056b22d5f06a5"), looks := true }, kinds := [], alts := [], laidByText := true, laidKinds := [.data, .data, .data], laidTests := true, laidLooks := .later }
def ReprocessExactlyCardSaid : Prop := Claim7.holds Tryz.pinned (.plain (OpenSpec.ofChange reprocessExactlySpec)) reprocessExactlyCard

/-- THE TIED CARD OF 'seismonetlaw40.ReprocessLocal'. -/
def reprocessLocalCard : Claim7 := { stood := { row := reprocessLocalRow, standIns := [], harness := (true, "6486c3f2c118b7f08347a45220b874ad1d870b55a99918d0654056b22d5f06a5"), looks := true }, kinds := [], alts := [], laidByText := true, laidKinds := [.data, .data, .data], laidTests := true, laidLooks := .later }
def ReprocessLocalCardSaid : Prop := Claim7.holds Tryz.pinned (.plain (OpenSpec.ofChange reprocessLocalSpec)) reprocessLocalCard

/-- THE TIED CARD OF 'seismonetlaw40.ReprocessEqual'. -/
def reprocessEqualCard : Claim7 := { stood := { row := reprocessEqualRow, standIns := [], harness := (true, "6486c3f2c118b7f08347a45220b874ad1d870b55a99918d0654056b22d5f06a5"), looks := true }, kinds := [], alts := [], laidByText := true, laidKinds := [.data, .data, .data], laidTests := true, laidLooks := .later }
def ReprocessEqualCardSaid : Prop := Claim7.holds Tryz.pinned (.plain (OpenSpec.ofChange reprocessEqualSpec)) reprocessEqualCard

/-- THE SECOND FORM's CARD OF 'seismonetlaw40.ReprocessExactly'. -/
def reprocessExactlyUptoCard : Claim7 := { stood := { row := reprocessExactlyUptoRow, standIns := [], harness := (true, "6486c3f2c118b7f08347a45220b874ad1d870b55a99918d0654056b22d5f06a5"), looks := true }, kinds := [], alts := [], laidByText := true, laidKinds := [.data, .data, .data], laidTests := true, laidLooks := .later }
def ReprocessExactlyUptoCardSaid : Prop := Claim7.holds Tryz.pinned (.plain (OpenSpec.upto reprocessExactlySpec)) reprocessExactlyUptoCard

/-- THE SECOND FORM's CARD OF 'seismonetlaw40.ReprocessLocal'. -/
def reprocessLocalUptoCard : Claim7 := { stood := { row := reprocessLocalUptoRow, standIns := [], harness := (true, "6486c3f2c118b7f08347a45220b874ad1d870b55a99918d0654056b22d5f06a5"), looks := true }, kinds := [], alts := [], laidByText := true, laidKinds := [.data, .data, .data], laidTests := true, laidLooks := .later }
def ReprocessLocalUptoCardSaid : Prop := Claim7.holds Tryz.pinned (.plain (OpenSpec.upto reprocessLocalSpec)) reprocessLocalUptoCard

/-- THE SECOND FORM's CARD OF 'seismonetlaw40.ReprocessEqual'. -/
def reprocessEqualUptoCard : Claim7 := { stood := { row := reprocessEqualUptoRow, standIns := [], harness := (true, "6486c3f2c118b7f08347a45220b874ad1d870b55a99918d0654056b22d5f06a5"), looks := true }, kinds := [], alts := [], laidByText := true, laidKinds := [.data, .data, .data], laidTests := true, laidLooks := .later }
def ReprocessEqualUptoCardSaid : Prop := Claim7.holds Tryz.pinned (.plain (OpenSpec.upto reprocessEqualSpec)) reprocessEqualUptoCard
end Rows
end Go.Proofs.YtfmoipelhfkdkaaGreatDoor
