/-
  No cell of these rows narrows 'for every input' (looked for: loops, veiled, ifaces, maps, wideKeys, modest, calm, conditions, laid).
  DERIVED. THE GIVEN ROWS OF THIS SEAT. 5 by the template 'for every input the law returns true; each argument reads behind the call as it read before'; 0 by the template 'total and deterministic' (their statements: YtkcfodpngpmlcaaGreatTotals.lean).
  GIVEN WITH THE SEED: the statements are not yours to turn. If you find one false, say at which input.
  Laid BY PROGRAM, IN A SANDBOX (cutbox-rows.mjs): the forced cells as the released guide's own fill.sh prints them over the translation e9f5628e10d69935… (all of the seat's roots in one cut). By AI agents, Wed Nov 11 2026. No macro, syntax, notation, axiom, sorry.
-/
import Derived.Test.YtkcfodpngpmlcaaGreatChecked
import GoSem.Claim
import GoSem.ClaimJoined
import GoSem.ClaimMapViews
import Derived.JoinedTies
import Derived.KernelRfl
namespace Go.Proofs.YtkcfodpngpmlcaaGreat
/- THE CELL 'sum', in the pinned program and in every row, IS THE sha256 OF THE DUMP (.gsa) THAT YtkcfodpngpmlcaaGreatProg.lean LOADS. Nothing in Lean hashes anything: it is a label: what it is worth is what the hold of that sum in a sandbox is worth. -/
noncomputable def Tryz.pinned : Pinned := { name := "ytkcfodpngpmlcaagreat", sum := "e9f5628e10d69935099b59c9147b359f6e5a210c81bf6e25e02a51f869f2de12", checked := Tryz.checked }
namespace Rows
def none {H : Type} : Left H := { results := [], args := [] }

/-- 'seismonetlaw39.DependencyApart': WHATEVER THE INPUT: true; the input reads as it did. -/
def dependencyApartSpec : ChangeSpec := { name := "dependencyApart", fn := fun _ => fun
  | [d] => { results := [.lit (.bool true)], args := [d] }
  | _ => none }
def dependencyApartRow : OpenClaim := { program := "ytkcfodpngpmlcaagreat", sum := "e9f5628e10d69935099b59c9147b359f6e5a210c81bf6e25e02a51f869f2de12", func := "seismonet/seismonetlaw39.DependencyApart", spec := "dependencyApart", unfollowed := true, recurses := true, plainKeys := false, apart := false }
def DependencyApartSaid : Prop := dependencyApartRow.holds Tryz.pinned (OpenSpec.ofChange dependencyApartSpec)

/-- ITS FALSE NEIGHBOUR: 'it returns false'. Refute it at one input. -/
def dependencyApartWrong : ChangeSpec := { name := "dependencyApart", fn := fun _ => fun
  | [d] => { results := [.lit (.bool false)], args := [d] }
  | _ => none }
def DependencyApartWrongFalsely : Prop := dependencyApartRow.holds Tryz.pinned (OpenSpec.ofChange dependencyApartWrong)

/-- 'seismonetlaw39.DependencyBatches': WHATEVER THE INPUT: true; the input reads as it did. -/
def dependencyBatchesSpec : ChangeSpec := { name := "dependencyBatches", fn := fun _ => fun
  | [d1, d2, d3, d4, d5] => { results := [.lit (.bool true)], args := [d1, d2, d3, d4, d5] }
  | _ => none }
def dependencyBatchesRow : OpenClaim := { program := "ytkcfodpngpmlcaagreat", sum := "e9f5628e10d69935099b59c9147b359f6e5a210c81bf6e25e02a51f869f2de12", func := "seismonet/seismonetlaw39.DependencyBatches", spec := "dependencyBatches", unfollowed := true, recurses := true, plainKeys := false, apart := false }
def DependencyBatchesSaid : Prop := dependencyBatchesRow.holds Tryz.pinned (OpenSpec.ofChange dependencyBatchesSpec)

/-- ITS FALSE NEIGHBOUR: 'it returns false'. Refute it at one input. -/
def dependencyBatchesWrong : ChangeSpec := { name := "dependencyBatches", fn := fun _ => fun
  | [d1, d2, d3, d4, d5] => { results := [.lit (.bool false)], args := [d1, d2, d3, d4, d5] }
  | _ => none }
def DependencyBatchesWrongFalsely : Prop := dependencyBatchesRow.holds Tryz.pinned (OpenSpec.ofChange dependencyBatchesWrong)

/-- 'seismonetlaw39.DependencyStale': WHATEVER THE INPUT: true; the input reads as it did. -/
def dependencyStaleSpec : ChangeSpec := { name := "dependencyStale", fn := fun _ => fun
  | [d] => { results := [.lit (.bool true)], args := [d] }
  | _ => none }
def dependencyStaleRow : OpenClaim := { program := "ytkcfodpngpmlcaagreat", sum := "e9f5628e10d69935099b59c9147b359f6e5a210c81bf6e25e02a51f869f2de12", func := "seismonet/seismonetlaw39.DependencyStale", spec := "dependencyStale", unfollowed := true, recurses := true, plainKeys := false, apart := false }
def DependencyStaleSaid : Prop := dependencyStaleRow.holds Tryz.pinned (OpenSpec.ofChange dependencyStaleSpec)

/-- ITS FALSE NEIGHBOUR: 'it returns false'. Refute it at one input. -/
def dependencyStaleWrong : ChangeSpec := { name := "dependencyStale", fn := fun _ => fun
  | [d] => { results := [.lit (.bool false)], args := [d] }
  | _ => none }
def DependencyStaleWrongFalsely : Prop := dependencyStaleRow.holds Tryz.pinned (OpenSpec.ofChange dependencyStaleWrong)

/-- 'seismonetlaw39.DependencyMetadata': WHATEVER THE INPUT: true; the input reads as it did. -/
def dependencyMetadataSpec : ChangeSpec := { name := "dependencyMetadata", fn := fun _ => fun
  | [d] => { results := [.lit (.bool true)], args := [d] }
  | _ => none }
def dependencyMetadataRow : OpenClaim := { program := "ytkcfodpngpmlcaagreat", sum := "e9f5628e10d69935099b59c9147b359f6e5a210c81bf6e25e02a51f869f2de12", func := "seismonet/seismonetlaw39.DependencyMetadata", spec := "dependencyMetadata", unfollowed := true, recurses := true, plainKeys := false, apart := false }
def DependencyMetadataSaid : Prop := dependencyMetadataRow.holds Tryz.pinned (OpenSpec.ofChange dependencyMetadataSpec)

/-- ITS FALSE NEIGHBOUR: 'it returns false'. Refute it at one input. -/
def dependencyMetadataWrong : ChangeSpec := { name := "dependencyMetadata", fn := fun _ => fun
  | [d] => { results := [.lit (.bool false)], args := [d] }
  | _ => none }
def DependencyMetadataWrongFalsely : Prop := dependencyMetadataRow.holds Tryz.pinned (OpenSpec.ofChange dependencyMetadataWrong)

/-- 'seismonetlaw39.DependencyCoarse': WHATEVER THE INPUT: true; the input reads as it did. -/
def dependencyCoarseSpec : ChangeSpec := { name := "dependencyCoarse", fn := fun _ => fun
  | [d] => { results := [.lit (.bool true)], args := [d] }
  | _ => none }
def dependencyCoarseRow : OpenClaim := { program := "ytkcfodpngpmlcaagreat", sum := "e9f5628e10d69935099b59c9147b359f6e5a210c81bf6e25e02a51f869f2de12", func := "seismonet/seismonetlaw39.DependencyCoarse", spec := "dependencyCoarse", unfollowed := true, recurses := true, plainKeys := false, apart := false }
def DependencyCoarseSaid : Prop := dependencyCoarseRow.holds Tryz.pinned (OpenSpec.ofChange dependencyCoarseSpec)

/-- ITS FALSE NEIGHBOUR: 'it returns false'. Refute it at one input. -/
def dependencyCoarseWrong : ChangeSpec := { name := "dependencyCoarse", fn := fun _ => fun
  | [d] => { results := [.lit (.bool false)], args := [d] }
  | _ => none }
def DependencyCoarseWrongFalsely : Prop := dependencyCoarseRow.holds Tryz.pinned (OpenSpec.ofChange dependencyCoarseWrong)

/- THE SECOND FORM. 'bulk': how many values and letters a reading holds, each counted each time it is reached (what is shared counts as often as it is met; a slice's spare places count too). A statement '..UptoSaid' is the law's where the arguments, and the package variables that the reading takes, are together of bulk at most 1048576: NARROWER than '..Said'. Prove '..Said' where nothing that the law and all that it calls make is longer than what came in: it says more and counts as full. Else prove '..UptoSaid'. A law counts once. -/
mutual
def uptoBulk {H : Type} : DataW H → Nat
  | .lit (.string bytes) => bytes.length + 1
  | .lit _ => 1
  | .nil => 1
  | .ptr d => uptoBulk d + 1
  | .slice elems spare => uptoBulkAll elems + uptoBulkAll spare + 1
  | .agg parts => uptoBulkAll parts + 1
  | .iface _ d => uptoBulk d + 1
  | .map entries => uptoBulkEntries entries + 1
  | .held _ => 1
def uptoBulkAll {H : Type} : List (DataW H) → Nat
  | [] => 0
  | d :: r => uptoBulk d + uptoBulkAll r
def uptoBulkEntries {H : Type} : List (Lit × DataW H) → Nat
  | [] => 0
  | x :: r => uptoBulkEntry x + uptoBulkEntries r
def uptoBulkEntry {H : Type} : Lit × DataW H → Nat
  | (.string bytes, d) => bytes.length + uptoBulk d + 1
  | (_, d) => uptoBulk d + 1
 end
def uptoSmall : (H : Type) → List (DataW H) → Bool := fun _ ds => decide (uptoBulkAll ds ≤ 1048576)
def OpenSpec.upto (s : _root_.Go.ChangeSpec) : _root_.Go.OpenSpec := { _root_.Go.OpenSpec.ofChange s with cond := some uptoSmall }

/-- 'seismonetlaw39.DependencyApart', WHERE WHAT IT READS IS OF BULK AT MOST 1048576: true; the input reads as it did. -/
def dependencyApartUptoRow : OpenClaim := { program := "ytkcfodpngpmlcaagreat", sum := "e9f5628e10d69935099b59c9147b359f6e5a210c81bf6e25e02a51f869f2de12", func := "seismonet/seismonetlaw39.DependencyApart", spec := "dependencyApart", unfollowed := true, recurses := true, plainKeys := false, apart := false, narrowed := true }
def DependencyApartUptoSaid : Prop := dependencyApartUptoRow.holds Tryz.pinned (OpenSpec.upto dependencyApartSpec)

/-- 'seismonetlaw39.DependencyBatches', WHERE WHAT IT READS IS OF BULK AT MOST 1048576: true; the input reads as it did. -/
def dependencyBatchesUptoRow : OpenClaim := { program := "ytkcfodpngpmlcaagreat", sum := "e9f5628e10d69935099b59c9147b359f6e5a210c81bf6e25e02a51f869f2de12", func := "seismonet/seismonetlaw39.DependencyBatches", spec := "dependencyBatches", unfollowed := true, recurses := true, plainKeys := false, apart := false, narrowed := true }
def DependencyBatchesUptoSaid : Prop := dependencyBatchesUptoRow.holds Tryz.pinned (OpenSpec.upto dependencyBatchesSpec)

/-- 'seismonetlaw39.DependencyStale', WHERE WHAT IT READS IS OF BULK AT MOST 1048576: true; the input reads as it did. -/
def dependencyStaleUptoRow : OpenClaim := { program := "ytkcfodpngpmlcaagreat", sum := "e9f5628e10d69935099b59c9147b359f6e5a210c81bf6e25e02a51f869f2de12", func := "seismonet/seismonetlaw39.DependencyStale", spec := "dependencyStale", unfollowed := true, recurses := true, plainKeys := false, apart := false, narrowed := true }
def DependencyStaleUptoSaid : Prop := dependencyStaleUptoRow.holds Tryz.pinned (OpenSpec.upto dependencyStaleSpec)

/-- 'seismonetlaw39.DependencyMetadata', WHERE WHAT IT READS IS OF BULK AT MOST 1048576: true; the input reads as it did. -/
def dependencyMetadataUptoRow : OpenClaim := { program := "ytkcfodpngpmlcaagreat", sum := "e9f5628e10d69935099b59c9147b359f6e5a210c81bf6e25e02a51f869f2de12", func := "seismonet/seismonetlaw39.DependencyMetadata", spec := "dependencyMetadata", unfollowed := true, recurses := true, plainKeys := false, apart := false, narrowed := true }
def DependencyMetadataUptoSaid : Prop := dependencyMetadataUptoRow.holds Tryz.pinned (OpenSpec.upto dependencyMetadataSpec)

/-- 'seismonetlaw39.DependencyCoarse', WHERE WHAT IT READS IS OF BULK AT MOST 1048576: true; the input reads as it did. -/
def dependencyCoarseUptoRow : OpenClaim := { program := "ytkcfodpngpmlcaagreat", sum := "e9f5628e10d69935099b59c9147b359f6e5a210c81bf6e25e02a51f869f2de12", func := "seismonet/seismonetlaw39.DependencyCoarse", spec := "dependencyCoarse", unfollowed := true, recurses := true, plainKeys := false, apart := false, narrowed := true }
def DependencyCoarseUptoSaid : Prop := dependencyCoarseUptoRow.holds Tryz.pinned (OpenSpec.upto dependencyCoarseSpec)

end Rows
end Go.Proofs.YtkcfodpngpmlcaaGreat
