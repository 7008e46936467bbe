/-
  No cell of these rows narrows 'for every input' (looked for: loops, veiled, ifaces, maps, wideKeys, modest, calm, conditions, laid).
  DERIVED. THE GIVEN ROWS OF THIS SEAT. 3 by the template 'for every input the law returns true; each argument reads behind the call as it read before'; 0 by the template 'total and deterministic' (their statements: YtjecbkklfphblaaGreatTotals.lean).
  GIVEN WITH THE SEED: the statements are not yours to turn. If you find one false, say at which input.
  Laid BY PROGRAM, IN A SANDBOX (cutbox-rows.mjs): the forced cells as the released guide's own fill.sh prints them over the translation 804e1b4e92bab61b… (all of the seat's roots in one cut). By AI agents, Wed Nov 11 2026. No macro, syntax, notation, axiom, sorry.
-/
import Derived.Test.YtjecbkklfphblaaGreatChecked
import GoSem.Claim
import GoSem.ClaimJoined
import GoSem.ClaimMapViews
import Derived.JoinedTies
import Derived.KernelRfl
namespace Go.Proofs.YtjecbkklfphblaaGreat
/- THE CELL 'sum', in the pinned program and in every row, IS THE sha256 OF THE DUMP (.gsa) THAT YtjecbkklfphblaaGreatProg.lean LOADS. Nothing in Lean hashes anything: it is a label: what it is worth is what the hold of that sum in a sandbox is worth. -/
noncomputable def Tryz.pinned : Pinned := { name := "ytjecbkklfphblaagreat", sum := "804e1b4e92bab61bc632ed0a132189a8f4dfb060eeecfff854e7c841d62ab569", checked := Tryz.checked }
namespace Rows
def none {H : Type} : Left H := { results := [], args := [] }

/-- 'seismonetlaw12.SessionSmooth': WHATEVER THE INPUT: true; the input reads as it did. -/
def sessionSmoothSpec : ChangeSpec := { name := "sessionSmooth", fn := fun _ => fun
  | [d] => { results := [.lit (.bool true)], args := [d] }
  | _ => none }
def sessionSmoothRow : OpenClaim := { program := "ytjecbkklfphblaagreat", sum := "804e1b4e92bab61bc632ed0a132189a8f4dfb060eeecfff854e7c841d62ab569", func := "seismonet/seismonetlaw12.SessionSmooth", spec := "sessionSmooth", inPlace := ["slices.overlaps[seismonet/api.Transit]"], unfollowed := true, recurses := true, apart := false }
def SessionSmoothSaid : Prop := sessionSmoothRow.holds Tryz.pinned (OpenSpec.ofChange sessionSmoothSpec)

/-- ITS FALSE NEIGHBOUR: 'it returns false'. Refute it at one input. -/
def sessionSmoothWrong : ChangeSpec := { name := "sessionSmooth", fn := fun _ => fun
  | [d] => { results := [.lit (.bool false)], args := [d] }
  | _ => none }
def SessionSmoothWrongFalsely : Prop := sessionSmoothRow.holds Tryz.pinned (OpenSpec.ofChange sessionSmoothWrong)

/-- 'seismonetlaw12.SessionLate': WHATEVER THE INPUT: true; the input reads as it did. -/
def sessionLateSpec : ChangeSpec := { name := "sessionLate", fn := fun _ => fun
  | [d1, d2] => { results := [.lit (.bool true)], args := [d1, d2] }
  | _ => none }
def sessionLateRow : OpenClaim := { program := "ytjecbkklfphblaagreat", sum := "804e1b4e92bab61bc632ed0a132189a8f4dfb060eeecfff854e7c841d62ab569", func := "seismonet/seismonetlaw12.SessionLate", spec := "sessionLate", inPlace := ["slices.overlaps[seismonet/api.Transit]"], unfollowed := true, recurses := true, apart := false }
def SessionLateSaid : Prop := sessionLateRow.holds Tryz.pinned (OpenSpec.ofChange sessionLateSpec)

/-- ITS FALSE NEIGHBOUR: 'it returns false'. Refute it at one input. -/
def sessionLateWrong : ChangeSpec := { name := "sessionLate", fn := fun _ => fun
  | [d1, d2] => { results := [.lit (.bool false)], args := [d1, d2] }
  | _ => none }
def SessionLateWrongFalsely : Prop := sessionLateRow.holds Tryz.pinned (OpenSpec.ofChange sessionLateWrong)

/-- 'seismonetlaw12.SessionMessages': WHATEVER THE INPUT: true; the input reads as it did. -/
def sessionMessagesSpec : ChangeSpec := { name := "sessionMessages", fn := fun _ => fun
  | [d1, d2, d3, d4, d5, d6] => { results := [.lit (.bool true)], args := [d1, d2, d3, d4, d5, d6] }
  | _ => none }
def sessionMessagesRow : OpenClaim := { program := "ytjecbkklfphblaagreat", sum := "804e1b4e92bab61bc632ed0a132189a8f4dfb060eeecfff854e7c841d62ab569", func := "seismonet/seismonetlaw12.SessionMessages", spec := "sessionMessages", inPlace := ["slices.overlaps[seismonet/api.Transit]"], unfollowed := true, recurses := true, apart := false }
def SessionMessagesSaid : Prop := sessionMessagesRow.holds Tryz.pinned (OpenSpec.ofChange sessionMessagesSpec)

/-- ITS FALSE NEIGHBOUR: 'it returns false'. Refute it at one input. -/
def sessionMessagesWrong : ChangeSpec := { name := "sessionMessages", fn := fun _ => fun
  | [d1, d2, d3, d4, d5, d6] => { results := [.lit (.bool false)], args := [d1, d2, d3, d4, d5, d6] }
  | _ => none }
def SessionMessagesWrongFalsely : Prop := sessionMessagesRow.holds Tryz.pinned (OpenSpec.ofChange sessionMessagesWrong)

/- THE SECOND FORM. 'bulk': how many values and letters a reading holds, each counted each time it is reached (what is shared counts as often as it is met; a slice's spare places count too). A statement '..UptoSaid' is the law's where the arguments, and the package variables that the reading takes, are together of bulk at most 1048576: NARROWER than '..Said'. Prove '..Said' where nothing that the law and all that it calls make is longer than what came in: it says more and counts as full. Else prove '..UptoSaid'. A law counts once. -/
mutual
def uptoBulk {H : Type} : DataW H → Nat
  | .lit (.string bytes) => bytes.length + 1
  | .lit _ => 1
  | .nil => 1
  | .ptr d => uptoBulk d + 1
  | .slice elems spare => uptoBulkAll elems + uptoBulkAll spare + 1
  | .agg parts => uptoBulkAll parts + 1
  | .iface _ d => uptoBulk d + 1
  | .map entries => uptoBulkEntries entries + 1
  | .held _ => 1
def uptoBulkAll {H : Type} : List (DataW H) → Nat
  | [] => 0
  | d :: r => uptoBulk d + uptoBulkAll r
def uptoBulkEntries {H : Type} : List (Lit × DataW H) → Nat
  | [] => 0
  | x :: r => uptoBulkEntry x + uptoBulkEntries r
def uptoBulkEntry {H : Type} : Lit × DataW H → Nat
  | (.string bytes, d) => bytes.length + uptoBulk d + 1
  | (_, d) => uptoBulk d + 1
 end
def uptoSmall : (H : Type) → List (DataW H) → Bool := fun _ ds => decide (uptoBulkAll ds ≤ 1048576)
def OpenSpec.upto (s : _root_.Go.ChangeSpec) : _root_.Go.OpenSpec := { _root_.Go.OpenSpec.ofChange s with cond := some uptoSmall }

/-- 'seismonetlaw12.SessionSmooth', WHERE WHAT IT READS IS OF BULK AT MOST 1048576: true; the input reads as it did. -/
def sessionSmoothUptoRow : OpenClaim := { program := "ytjecbkklfphblaagreat", sum := "804e1b4e92bab61bc632ed0a132189a8f4dfb060eeecfff854e7c841d62ab569", func := "seismonet/seismonetlaw12.SessionSmooth", spec := "sessionSmooth", inPlace := ["slices.overlaps[seismonet/api.Transit]"], unfollowed := true, recurses := true, apart := false, narrowed := true }
def SessionSmoothUptoSaid : Prop := sessionSmoothUptoRow.holds Tryz.pinned (OpenSpec.upto sessionSmoothSpec)

/-- 'seismonetlaw12.SessionLate', WHERE WHAT IT READS IS OF BULK AT MOST 1048576: true; the input reads as it did. -/
def sessionLateUptoRow : OpenClaim := { program := "ytjecbkklfphblaagreat", sum := "804e1b4e92bab61bc632ed0a132189a8f4dfb060eeecfff854e7c841d62ab569", func := "seismonet/seismonetlaw12.SessionLate", spec := "sessionLate", inPlace := ["slices.overlaps[seismonet/api.Transit]"], unfollowed := true, recurses := true, apart := false, narrowed := true }
def SessionLateUptoSaid : Prop := sessionLateUptoRow.holds Tryz.pinned (OpenSpec.upto sessionLateSpec)

/-- 'seismonetlaw12.SessionMessages', WHERE WHAT IT READS IS OF BULK AT MOST 1048576: true; the input reads as it did. -/
def sessionMessagesUptoRow : OpenClaim := { program := "ytjecbkklfphblaagreat", sum := "804e1b4e92bab61bc632ed0a132189a8f4dfb060eeecfff854e7c841d62ab569", func := "seismonet/seismonetlaw12.SessionMessages", spec := "sessionMessages", inPlace := ["slices.overlaps[seismonet/api.Transit]"], unfollowed := true, recurses := true, apart := false, narrowed := true }
def SessionMessagesUptoSaid : Prop := sessionMessagesUptoRow.holds Tryz.pinned (OpenSpec.upto sessionMessagesSpec)

end Rows
end Go.Proofs.YtjecbkklfphblaaGreat
