/-
  DERIVED. GIVEN WITH THE SEED: THE CARDS: each row of YtpeijlelfekcoaaGreatDoorRows.lean that lists a variable, with what it lists TIED to the program's text (the seventh form; the later family's looks); each row that meets fmt, with fmt's text TOLD by the authors' own Lean function (tested against real Go, not proved from fmt's source: count such statements apart). THE CARD IS WHAT COUNTS. Prove the row's statement (the work); the ties are given (YtpeijlelfekcoaaGreatDoorTie.lean); close each card by the builder's one call (the guide's Derived/Test/ToyasCard.lean, 'card_holds'). Laid BY PROGRAM, IN A SANDBOX (cutbox-door.mjs). By AI agents, Wed Nov 11 2026. No macro, syntax, notation, axiom, sorry.
-/
import Derived.Test.YtpeijlelfekcoaaGreatDoorRows
import GoSem.ClaimSeven
namespace Go.Proofs.YtpeijlelfekcoaaGreatDoor
namespace Rows

/-- THE TIED CARD OF 'seismonetlaw37.FeedTexts'. -/
def feedTextsCard : Claim7 := { stood := { row := feedTextsRow, standIns := [], harness := (true, "b91d858ac33a3cbb2ec449379456c5ed169181a7535ee6c4f4275667f7a509e8"), looks := true }, kinds := [], alts := [], laidByText := true, laidKinds := [.data, .data, .data, .data, .sentinel, .sentinel, .pinned], laidTests := true, laidLooks := .later }
def FeedTextsCardSaid : Prop := Claim7.holds Tryz.pinned (.plain (OpenSpec.ofChange feedTextsSpec)) feedTextsCard

/-- THE TIED CARD OF 'seismonetlaw37.FeedBack'. -/
def feedBackCard : Claim7 := { stood := { row := feedBackRow, standIns := [], harness := (true, "b91d858ac33a3cbb2ec449379456c5ed169181a7535ee6c4f4275667f7a509e8"), looks := true }, kinds := [], alts := [], laidByText := true, laidKinds := [.data, .data, .data, .data, .sentinel, .sentinel, .pinned], laidTests := true, laidLooks := .later }
def FeedBackCardSaid : Prop := Claim7.holds Tryz.pinned (.plain (OpenSpec.ofChange feedBackSpec)) feedBackCard

/-- THE TIED CARD OF 'seismonetlaw37.FeedPrefix'. -/
def feedPrefixCard : Claim7 := { stood := { row := feedPrefixRow, standIns := [], harness := (true, "b91d858ac33a3cbb2ec449379456c5ed169181a7535ee6c4f4275667f7a509e8"), looks := true }, kinds := [], alts := [], laidByText := true, laidKinds := [.data, .data, .data, .data, .sentinel, .sentinel, .pinned], laidTests := true, laidLooks := .later }
def FeedPrefixCardSaid : Prop := Claim7.holds Tryz.pinned (.plain (OpenSpec.ofChange feedPrefixSpec)) feedPrefixCard

/-- THE TIED CARD OF 'seismonetlaw37.FeedHistories'. -/
def feedHistoriesCard : Claim7 := { stood := { row := feedHistoriesRow, standIns := [], harness := (true, "b91d858ac33a3cbb2ec449379456c5ed169181a7535ee6c4f4275667f7a509e8"), looks := true }, kinds := [], alts := [], laidByText := true, laidKinds := [.data, .data, .data, .data, .sentinel, .sentinel, .pinned], laidTests := true, laidLooks := .later }
def FeedHistoriesCardSaid : Prop := Claim7.holds Tryz.pinned (.plain (OpenSpec.ofChange feedHistoriesSpec)) feedHistoriesCard

/-- THE SECOND FORM's CARD OF 'seismonetlaw37.FeedTexts'. -/
def feedTextsUptoCard : Claim7 := { stood := { row := feedTextsUptoRow, standIns := [], harness := (true, "b91d858ac33a3cbb2ec449379456c5ed169181a7535ee6c4f4275667f7a509e8"), looks := true }, kinds := [], alts := [], laidByText := true, laidKinds := [.data, .data, .data, .data, .sentinel, .sentinel, .pinned], laidTests := true, laidLooks := .later }
def FeedTextsUptoCardSaid : Prop := Claim7.holds Tryz.pinned (.plain (OpenSpec.upto feedTextsSpec)) feedTextsUptoCard

/-- THE SECOND FORM's CARD OF 'seismonetlaw37.FeedBack'. -/
def feedBackUptoCard : Claim7 := { stood := { row := feedBackUptoRow, standIns := [], harness := (true, "b91d858ac33a3cbb2ec449379456c5ed169181a7535ee6c4f4275667f7a509e8"), looks := true }, kinds := [], alts := [], laidByText := true, laidKinds := [.data, .data, .data, .data, .sentinel, .sentinel, .pinned], laidTests := true, laidLooks := .later }
def FeedBackUptoCardSaid : Prop := Claim7.holds Tryz.pinned (.plain (OpenSpec.upto feedBackSpec)) feedBackUptoCard

/-- THE SECOND FORM's CARD OF 'seismonetlaw37.FeedPrefix'. -/
def feedPrefixUptoCard : Claim7 := { stood := { row := feedPrefixUptoRow, standIns := [], harness := (true, "b91d858ac33a3cbb2ec449379456c5ed169181a7535ee6c4f4275667f7a509e8"), looks := true }, kinds := [], alts := [], laidByText := true, laidKinds := [.data, .data, .data, .data, .sentinel, .sentinel, .pinned], laidTests := true, laidLooks := .later }
def FeedPrefixUptoCardSaid : Prop := Claim7.holds Tryz.pinned (.plain (OpenSpec.upto feedPrefixSpec)) feedPrefixUptoCard

/-- THE SECOND FORM's CARD OF 'seismonetlaw37.FeedHistories'. -/
def feedHistoriesUptoCard : Claim7 := { stood := { row := feedHistoriesUptoRow, standIns := [], harness := (true, "b91d858ac33a3cbb2ec449379456c5ed169181a7535ee6c4f4275667f7a509e8"), looks := true }, kinds := [], alts := [], laidByText := true, laidKinds := [.data, .data, .data, .data, .sentinel, .sentinel, .pinned], laidTests := true, laidLooks := .later }
def FeedHistoriesUptoCardSaid : Prop := Claim7.holds Tryz.pinned (.plain (OpenSpec.upto feedHistoriesSpec)) feedHistoriesUptoCard
end Rows
end Go.Proofs.YtpeijlelfekcoaaGreatDoor
