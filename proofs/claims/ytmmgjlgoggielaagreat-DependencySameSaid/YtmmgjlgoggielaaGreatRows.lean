/-
  No cell of these rows narrows 'for every input' (looked for: loops, veiled, ifaces, maps, wideKeys, modest, calm, conditions, laid).
  DERIVED. THE GIVEN ROWS OF THIS SEAT. 8 by the template 'for every input the law returns true; each argument reads behind the call as it read before'; 0 by the template 'total and deterministic' (their statements: YtmmgjlgoggielaaGreatTotals.lean).
  GIVEN WITH THE SEED: the statements are not yours to turn. If you find one false, say at which input.
  Laid BY PROGRAM, IN A SANDBOX (cutbox-rows.mjs): the forced cells as the released guide's own fill.sh prints them over the translation f9e993d3e160d1a7… (all of the seat's roots in one cut). By AI agents, Wed Nov 11 2026. No macro, syntax, notation, axiom, sorry.
-/
import Derived.Test.YtmmgjlgoggielaaGreatChecked
import GoSem.Claim
import GoSem.ClaimJoined
import GoSem.ClaimMapViews
import Derived.JoinedTies
import Derived.KernelRfl
namespace Go.Proofs.YtmmgjlgoggielaaGreat
/- THE CELL 'sum', in the pinned program and in every row, IS THE sha256 OF THE DUMP (.gsa) THAT YtmmgjlgoggielaaGreatProg.lean LOADS. Nothing in Lean hashes anything: it is a label: what it is worth is what the hold of that sum in a sandbox is worth. -/
noncomputable def Tryz.pinned : Pinned := { name := "ytmmgjlgoggielaagreat", sum := "f9e993d3e160d1a73ac9663bdff8a32e88596172c1f9a4280b74d0ce041f103f", checked := Tryz.checked }
namespace Rows
def none {H : Type} : Left H := { results := [], args := [] }

/-- 'seismonetlaw33.SolutionLeast': WHATEVER THE INPUT: true; the input reads as it did. -/
def solutionLeastSpec : ChangeSpec := { name := "solutionLeast", fn := fun _ => fun
  | [d] => { results := [.lit (.bool true)], args := [d] }
  | _ => none }
def solutionLeastRow : OpenClaim := { program := "ytmmgjlgoggielaagreat", sum := "f9e993d3e160d1a73ac9663bdff8a32e88596172c1f9a4280b74d0ce041f103f", func := "seismonet/seismonetlaw33.SolutionLeast", spec := "solutionLeast", unfollowed := true, recurses := true, plainKeys := false, apart := false }
def SolutionLeastSaid : Prop := solutionLeastRow.holds Tryz.pinned (OpenSpec.ofChange solutionLeastSpec)

/-- ITS FALSE NEIGHBOUR: 'it returns false'. Refute it at one input. -/
def solutionLeastWrong : ChangeSpec := { name := "solutionLeast", fn := fun _ => fun
  | [d] => { results := [.lit (.bool false)], args := [d] }
  | _ => none }
def SolutionLeastWrongFalsely : Prop := solutionLeastRow.holds Tryz.pinned (OpenSpec.ofChange solutionLeastWrong)

/-- 'seismonetlaw34.EventLocal': WHATEVER THE INPUT: true; the input reads as it did. -/
def eventLocalSpec : ChangeSpec := { name := "eventLocal", fn := fun _ => fun
  | [d] => { results := [.lit (.bool true)], args := [d] }
  | _ => none }
def eventLocalRow : OpenClaim := { program := "ytmmgjlgoggielaagreat", sum := "f9e993d3e160d1a73ac9663bdff8a32e88596172c1f9a4280b74d0ce041f103f", func := "seismonet/seismonetlaw34.EventLocal", spec := "eventLocal", unfollowed := true, recurses := true, plainKeys := false, apart := false }
def EventLocalSaid : Prop := eventLocalRow.holds Tryz.pinned (OpenSpec.ofChange eventLocalSpec)

/-- ITS FALSE NEIGHBOUR: 'it returns false'. Refute it at one input. -/
def eventLocalWrong : ChangeSpec := { name := "eventLocal", fn := fun _ => fun
  | [d] => { results := [.lit (.bool false)], args := [d] }
  | _ => none }
def EventLocalWrongFalsely : Prop := eventLocalRow.holds Tryz.pinned (OpenSpec.ofChange eventLocalWrong)

/-- 'seismonetlaw34.EventOrder': WHATEVER THE INPUT: true; the input reads as it did. -/
def eventOrderSpec : ChangeSpec := { name := "eventOrder", fn := fun _ => fun
  | [d1, d2] => { results := [.lit (.bool true)], args := [d1, d2] }
  | _ => none }
def eventOrderRow : OpenClaim := { program := "ytmmgjlgoggielaagreat", sum := "f9e993d3e160d1a73ac9663bdff8a32e88596172c1f9a4280b74d0ce041f103f", func := "seismonet/seismonetlaw34.EventOrder", spec := "eventOrder", unfollowed := true, recurses := true, plainKeys := false, apart := false }
def EventOrderSaid : Prop := eventOrderRow.holds Tryz.pinned (OpenSpec.ofChange eventOrderSpec)

/-- ITS FALSE NEIGHBOUR: 'it returns false'. Refute it at one input. -/
def eventOrderWrong : ChangeSpec := { name := "eventOrder", fn := fun _ => fun
  | [d1, d2] => { results := [.lit (.bool false)], args := [d1, d2] }
  | _ => none }
def EventOrderWrongFalsely : Prop := eventOrderRow.holds Tryz.pinned (OpenSpec.ofChange eventOrderWrong)

/-- 'seismonetlaw34.EventMade': WHATEVER THE INPUT: true; the input reads as it did. -/
def eventMadeSpec : ChangeSpec := { name := "eventMade", fn := fun _ => fun
  | [d] => { results := [.lit (.bool true)], args := [d] }
  | _ => none }
def eventMadeRow : OpenClaim := { program := "ytmmgjlgoggielaagreat", sum := "f9e993d3e160d1a73ac9663bdff8a32e88596172c1f9a4280b74d0ce041f103f", func := "seismonet/seismonetlaw34.EventMade", spec := "eventMade", unfollowed := true, recurses := true, plainKeys := false, apart := false }
def EventMadeSaid : Prop := eventMadeRow.holds Tryz.pinned (OpenSpec.ofChange eventMadeSpec)

/-- ITS FALSE NEIGHBOUR: 'it returns false'. Refute it at one input. -/
def eventMadeWrong : ChangeSpec := { name := "eventMade", fn := fun _ => fun
  | [d] => { results := [.lit (.bool false)], args := [d] }
  | _ => none }
def EventMadeWrongFalsely : Prop := eventMadeRow.holds Tryz.pinned (OpenSpec.ofChange eventMadeWrong)

/-- 'seismonetlaw34.EventClusters': WHATEVER THE INPUT: true; the input reads as it did. -/
def eventClustersSpec : ChangeSpec := { name := "eventClusters", fn := fun _ => fun
  | [d] => { results := [.lit (.bool true)], args := [d] }
  | _ => none }
def eventClustersRow : OpenClaim := { program := "ytmmgjlgoggielaagreat", sum := "f9e993d3e160d1a73ac9663bdff8a32e88596172c1f9a4280b74d0ce041f103f", func := "seismonet/seismonetlaw34.EventClusters", spec := "eventClusters", unfollowed := true, recurses := true, plainKeys := false, apart := false }
def EventClustersSaid : Prop := eventClustersRow.holds Tryz.pinned (OpenSpec.ofChange eventClustersSpec)

/-- ITS FALSE NEIGHBOUR: 'it returns false'. Refute it at one input. -/
def eventClustersWrong : ChangeSpec := { name := "eventClusters", fn := fun _ => fun
  | [d] => { results := [.lit (.bool false)], args := [d] }
  | _ => none }
def EventClustersWrongFalsely : Prop := eventClustersRow.holds Tryz.pinned (OpenSpec.ofChange eventClustersWrong)

/-- 'seismonetlaw34.EventParts': WHATEVER THE INPUT: true; the input reads as it did. -/
def eventPartsSpec : ChangeSpec := { name := "eventParts", fn := fun _ => fun
  | [d] => { results := [.lit (.bool true)], args := [d] }
  | _ => none }
def eventPartsRow : OpenClaim := { program := "ytmmgjlgoggielaagreat", sum := "f9e993d3e160d1a73ac9663bdff8a32e88596172c1f9a4280b74d0ce041f103f", func := "seismonet/seismonetlaw34.EventParts", spec := "eventParts", unfollowed := true, recurses := true, plainKeys := false, apart := false }
def EventPartsSaid : Prop := eventPartsRow.holds Tryz.pinned (OpenSpec.ofChange eventPartsSpec)

/-- ITS FALSE NEIGHBOUR: 'it returns false'. Refute it at one input. -/
def eventPartsWrong : ChangeSpec := { name := "eventParts", fn := fun _ => fun
  | [d] => { results := [.lit (.bool false)], args := [d] }
  | _ => none }
def EventPartsWrongFalsely : Prop := eventPartsRow.holds Tryz.pinned (OpenSpec.ofChange eventPartsWrong)

/-- 'seismonetlaw34.EventNames': WHATEVER THE INPUT: true; the input reads as it did. -/
def eventNamesSpec : ChangeSpec := { name := "eventNames", fn := fun _ => fun
  | [d1, d2, d3, d4, d5] => { results := [.lit (.bool true)], args := [d1, d2, d3, d4, d5] }
  | _ => none }
def eventNamesRow : OpenClaim := { program := "ytmmgjlgoggielaagreat", sum := "f9e993d3e160d1a73ac9663bdff8a32e88596172c1f9a4280b74d0ce041f103f", func := "seismonet/seismonetlaw34.EventNames", spec := "eventNames", unfollowed := true, recurses := true, plainKeys := false, apart := false }
def EventNamesSaid : Prop := eventNamesRow.holds Tryz.pinned (OpenSpec.ofChange eventNamesSpec)

/-- ITS FALSE NEIGHBOUR: 'it returns false'. Refute it at one input. -/
def eventNamesWrong : ChangeSpec := { name := "eventNames", fn := fun _ => fun
  | [d1, d2, d3, d4, d5] => { results := [.lit (.bool false)], args := [d1, d2, d3, d4, d5] }
  | _ => none }
def EventNamesWrongFalsely : Prop := eventNamesRow.holds Tryz.pinned (OpenSpec.ofChange eventNamesWrong)

/-- 'seismonetlaw39.DependencySame': WHATEVER THE INPUT: true; the input reads as it did. -/
def dependencySameSpec : ChangeSpec := { name := "dependencySame", fn := fun _ => fun
  | [d] => { results := [.lit (.bool true)], args := [d] }
  | _ => none }
def dependencySameRow : OpenClaim := { program := "ytmmgjlgoggielaagreat", sum := "f9e993d3e160d1a73ac9663bdff8a32e88596172c1f9a4280b74d0ce041f103f", func := "seismonet/seismonetlaw39.DependencySame", spec := "dependencySame", unfollowed := true, recurses := true, plainKeys := false, apart := false }
def DependencySameSaid : Prop := dependencySameRow.holds Tryz.pinned (OpenSpec.ofChange dependencySameSpec)

/-- ITS FALSE NEIGHBOUR: 'it returns false'. Refute it at one input. -/
def dependencySameWrong : ChangeSpec := { name := "dependencySame", fn := fun _ => fun
  | [d] => { results := [.lit (.bool false)], args := [d] }
  | _ => none }
def DependencySameWrongFalsely : Prop := dependencySameRow.holds Tryz.pinned (OpenSpec.ofChange dependencySameWrong)

/- THE SECOND FORM. 'bulk': how many values and letters a reading holds, each counted each time it is reached (what is shared counts as often as it is met; a slice's spare places count too). A statement '..UptoSaid' is the law's where the arguments, and the package variables that the reading takes, are together of bulk at most 1048576: NARROWER than '..Said'. Prove '..Said' where nothing that the law and all that it calls make is longer than what came in: it says more and counts as full. Else prove '..UptoSaid'. A law counts once. -/
mutual
def uptoBulk {H : Type} : DataW H → Nat
  | .lit (.string bytes) => bytes.length + 1
  | .lit _ => 1
  | .nil => 1
  | .ptr d => uptoBulk d + 1
  | .slice elems spare => uptoBulkAll elems + uptoBulkAll spare + 1
  | .agg parts => uptoBulkAll parts + 1
  | .iface _ d => uptoBulk d + 1
  | .map entries => uptoBulkEntries entries + 1
  | .held _ => 1
def uptoBulkAll {H : Type} : List (DataW H) → Nat
  | [] => 0
  | d :: r => uptoBulk d + uptoBulkAll r
def uptoBulkEntries {H : Type} : List (Lit × DataW H) → Nat
  | [] => 0
  | x :: r => uptoBulkEntry x + uptoBulkEntries r
def uptoBulkEntry {H : Type} : Lit × DataW H → Nat
  | (.string bytes, d) => bytes.length + uptoBulk d + 1
  | (_, d) => uptoBulk d + 1
 end
def uptoSmall : (H : Type) → List (DataW H) → Bool := fun _ ds => decide (uptoBulkAll ds ≤ 1048576)
def OpenSpec.upto (s : _root_.Go.ChangeSpec) : _root_.Go.OpenSpec := { _root_.Go.OpenSpec.ofChange s with cond := some uptoSmall }

/-- 'seismonetlaw33.SolutionLeast', WHERE WHAT IT READS IS OF BULK AT MOST 1048576: true; the input reads as it did. -/
def solutionLeastUptoRow : OpenClaim := { program := "ytmmgjlgoggielaagreat", sum := "f9e993d3e160d1a73ac9663bdff8a32e88596172c1f9a4280b74d0ce041f103f", func := "seismonet/seismonetlaw33.SolutionLeast", spec := "solutionLeast", unfollowed := true, recurses := true, plainKeys := false, apart := false, narrowed := true }
def SolutionLeastUptoSaid : Prop := solutionLeastUptoRow.holds Tryz.pinned (OpenSpec.upto solutionLeastSpec)

/-- 'seismonetlaw34.EventLocal', WHERE WHAT IT READS IS OF BULK AT MOST 1048576: true; the input reads as it did. -/
def eventLocalUptoRow : OpenClaim := { program := "ytmmgjlgoggielaagreat", sum := "f9e993d3e160d1a73ac9663bdff8a32e88596172c1f9a4280b74d0ce041f103f", func := "seismonet/seismonetlaw34.EventLocal", spec := "eventLocal", unfollowed := true, recurses := true, plainKeys := false, apart := false, narrowed := true }
def EventLocalUptoSaid : Prop := eventLocalUptoRow.holds Tryz.pinned (OpenSpec.upto eventLocalSpec)

/-- 'seismonetlaw34.EventOrder', WHERE WHAT IT READS IS OF BULK AT MOST 1048576: true; the input reads as it did. -/
def eventOrderUptoRow : OpenClaim := { program := "ytmmgjlgoggielaagreat", sum := "f9e993d3e160d1a73ac9663bdff8a32e88596172c1f9a4280b74d0ce041f103f", func := "seismonet/seismonetlaw34.EventOrder", spec := "eventOrder", unfollowed := true, recurses := true, plainKeys := false, apart := false, narrowed := true }
def EventOrderUptoSaid : Prop := eventOrderUptoRow.holds Tryz.pinned (OpenSpec.upto eventOrderSpec)

/-- 'seismonetlaw34.EventMade', WHERE WHAT IT READS IS OF BULK AT MOST 1048576: true; the input reads as it did. -/
def eventMadeUptoRow : OpenClaim := { program := "ytmmgjlgoggielaagreat", sum := "f9e993d3e160d1a73ac9663bdff8a32e88596172c1f9a4280b74d0ce041f103f", func := "seismonet/seismonetlaw34.EventMade", spec := "eventMade", unfollowed := true, recurses := true, plainKeys := false, apart := false, narrowed := true }
def EventMadeUptoSaid : Prop := eventMadeUptoRow.holds Tryz.pinned (OpenSpec.upto eventMadeSpec)

/-- 'seismonetlaw34.EventClusters', WHERE WHAT IT READS IS OF BULK AT MOST 1048576: true; the input reads as it did. -/
def eventClustersUptoRow : OpenClaim := { program := "ytmmgjlgoggielaagreat", sum := "f9e993d3e160d1a73ac9663bdff8a32e88596172c1f9a4280b74d0ce041f103f", func := "seismonet/seismonetlaw34.EventClusters", spec := "eventClusters", unfollowed := true, recurses := true, plainKeys := false, apart := false, narrowed := true }
def EventClustersUptoSaid : Prop := eventClustersUptoRow.holds Tryz.pinned (OpenSpec.upto eventClustersSpec)

/-- 'seismonetlaw34.EventParts', WHERE WHAT IT READS IS OF BULK AT MOST 1048576: true; the input reads as it did. -/
def eventPartsUptoRow : OpenClaim := { program := "ytmmgjlgoggielaagreat", sum := "f9e993d3e160d1a73ac9663bdff8a32e88596172c1f9a4280b74d0ce041f103f", func := "seismonet/seismonetlaw34.EventParts", spec := "eventParts", unfollowed := true, recurses := true, plainKeys := false, apart := false, narrowed := true }
def EventPartsUptoSaid : Prop := eventPartsUptoRow.holds Tryz.pinned (OpenSpec.upto eventPartsSpec)

/-- 'seismonetlaw34.EventNames', WHERE WHAT IT READS IS OF BULK AT MOST 1048576: true; the input reads as it did. -/
def eventNamesUptoRow : OpenClaim := { program := "ytmmgjlgoggielaagreat", sum := "f9e993d3e160d1a73ac9663bdff8a32e88596172c1f9a4280b74d0ce041f103f", func := "seismonet/seismonetlaw34.EventNames", spec := "eventNames", unfollowed := true, recurses := true, plainKeys := false, apart := false, narrowed := true }
def EventNamesUptoSaid : Prop := eventNamesUptoRow.holds Tryz.pinned (OpenSpec.upto eventNamesSpec)

/-- 'seismonetlaw39.DependencySame', WHERE WHAT IT READS IS OF BULK AT MOST 1048576: true; the input reads as it did. -/
def dependencySameUptoRow : OpenClaim := { program := "ytmmgjlgoggielaagreat", sum := "f9e993d3e160d1a73ac9663bdff8a32e88596172c1f9a4280b74d0ce041f103f", func := "seismonet/seismonetlaw39.DependencySame", spec := "dependencySame", unfollowed := true, recurses := true, plainKeys := false, apart := false, narrowed := true }
def DependencySameUptoSaid : Prop := dependencySameUptoRow.holds Tryz.pinned (OpenSpec.upto dependencySameSpec)

end Rows
end Go.Proofs.YtmmgjlgoggielaaGreat
