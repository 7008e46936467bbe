/-
  DERIVED. GIVEN WITH THE SEED: THE CARDS: each row of YtjlbpchimjjcpaaDoorRows.lean that lists a variable, with what it lists TIED to the program's text (the seventh form; the later family's looks); each row that meets fmt, with fmt's text TOLD by the authors' own Lean function (tested against real Go, not proved from fmt's source: count such statements apart). THE CARD IS WHAT COUNTS. Prove the row's statement (the work); the ties are given (YtjlbpchimjjcpaaDoorTie.lean); close each card by the builder's one call (the guide's Derived/Test/ToyasCard.lean, 'card_holds'). Laid BY PROGRAM, IN A SANDBOX (cutbox-door.mjs). By AI agents, Wed Nov 11 2026. No macro, syntax, notation, axiom, sorry.
-/
import Derived.Test.YtjlbpchimjjcpaaDoorRows
import GoSem.ClaimSeven
namespace Go.Proofs.YtjlbpchimjjcpaaDoor
namespace Rows

/-- THE TIED CARD OF 'seismonetlaw03.SourcePatterns'. -/
def sourcePatternsCard : Claim7 := { stood := { row := sourcePatternsRow, standIns := [], harness := (true, "5dcb18492e43af7f3b75353823c83ce9903f29bff8beec05d2b7b9e77c8f4dd7"), looks := false }, kinds := [], alts := [], laidByText := true, laidKinds := [.data, .pinned], laidTests := true, laidLooks := .later }
def SourcePatternsCardSaid : Prop := Claim7.holds Tryd.pinned (.plain (OpenSpec.ofChange sourcePatternsSpec)) sourcePatternsCard

/-- THE TIED CARD OF 'seismonetlaw03.SourceBack'. -/
def sourceBackCard : Claim7 := { stood := { row := sourceBackRow, standIns := [], harness := (true, "5dcb18492e43af7f3b75353823c83ce9903f29bff8beec05d2b7b9e77c8f4dd7"), looks := false }, kinds := [], alts := [], laidByText := true, laidKinds := [.data, .pinned], laidTests := true, laidLooks := .later }
def SourceBackCardSaid : Prop := Claim7.holds Tryd.pinned (.plain (OpenSpec.ofChange sourceBackSpec)) sourceBackCard

/-- THE TIED CARD OF 'seismonetlaw03.SourceOrder'. -/
def sourceOrderCard : Claim7 := { stood := { row := sourceOrderRow, standIns := [], harness := (true, "5dcb18492e43af7f3b75353823c83ce9903f29bff8beec05d2b7b9e77c8f4dd7"), looks := false }, kinds := [], alts := [], laidByText := true, laidKinds := [.data, .pinned], laidTests := true, laidLooks := .later }
def SourceOrderCardSaid : Prop := Claim7.holds Tryd.pinned (.plain (OpenSpec.ofChange sourceOrderSpec)) sourceOrderCard

/-- THE TIED CARD OF 'seismonetlaw03.SourceExact'. -/
def sourceExactCard : Claim7 := { stood := { row := sourceExactRow, standIns := [], harness := (true, "5dcb18492e43af7f3b75353823c83ce9903f29bff8beec05d2b7b9e77c8f4dd7"), looks := false }, kinds := [], alts := [], laidByText := true, laidKinds := [.data, .pinned], laidTests := true, laidLooks := .later }
def SourceExactCardSaid : Prop := Claim7.holds Tryd.pinned (.plain (OpenSpec.ofChange sourceExactSpec)) sourceExactCard

/-- THE SECOND FORM's CARD OF 'seismonetlaw03.SourcePatterns'. -/
def sourcePatternsUptoCard : Claim7 := { stood := { row := sourcePatternsUptoRow, standIns := [], harness := (true, "5dcb18492e43af7f3b75353823c83ce9903f29bff8beec05d2b7b9e77c8f4dd7"), looks := false }, kinds := [], alts := [], laidByText := true, laidKinds := [.data, .pinned], laidTests := true, laidLooks := .later }
def SourcePatternsUptoCardSaid : Prop := Claim7.holds Tryd.pinned (.plain (OpenSpec.upto sourcePatternsSpec)) sourcePatternsUptoCard

/-- THE SECOND FORM's CARD OF 'seismonetlaw03.SourceBack'. -/
def sourceBackUptoCard : Claim7 := { stood := { row := sourceBackUptoRow, standIns := [], harness := (true, "5dcb18492e43af7f3b75353823c83ce9903f29bff8beec05d2b7b9e77c8f4dd7"), looks := false }, kinds := [], alts := [], laidByText := true, laidKinds := [.data, .pinned], laidTests := true, laidLooks := .later }
def SourceBackUptoCardSaid : Prop := Claim7.holds Tryd.pinned (.plain (OpenSpec.upto sourceBackSpec)) sourceBackUptoCard

/-- THE SECOND FORM's CARD OF 'seismonetlaw03.SourceOrder'. -/
def sourceOrderUptoCard : Claim7 := { stood := { row := sourceOrderUptoRow, standIns := [], harness := (true, "5dcb18492e43af7f3b75353823c83ce9903f29bff8beec05d2b7b9e77c8f4dd7"), looks := false }, kinds := [], alts := [], laidByText := true, laidKinds := [.data, .pinned], laidTests := true, laidLooks := .later }
def SourceOrderUptoCardSaid : Prop := Claim7.holds Tryd.pinned (.plain (OpenSpec.upto sourceOrderSpec)) sourceOrderUptoCard

/-- THE SECOND FORM's CARD OF 'seismonetlaw03.SourceExact'. -/
def sourceExactUptoCard : Claim7 := { stood := { row := sourceExactUptoRow, standIns := [], harness := (true, "5dcb18492e43af7f3b75353823c83ce9903f29bff8beec05d2b7b9e77c8f4dd7"), looks := false }, kinds := [], alts := [], laidByText := true, laidKinds := [.data, .pinned], laidTests := true, laidLooks := .later }
def SourceExactUptoCardSaid : Prop := Claim7.holds Tryd.pinned (.plain (OpenSpec.upto sourceExactSpec)) sourceExactUptoCard
end Rows
end Go.Proofs.YtjlbpchimjjcpaaDoor
