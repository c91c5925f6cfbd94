/-
  No cell of these rows narrows 'for every input' (looked for: loops, veiled, ifaces, maps, wideKeys, modest, calm, conditions, laid).
  DERIVED. THE GIVEN ROWS OF THIS SEAT. 6 by the template 'for every input the law returns true; each argument reads behind the call as it read before'; 0 by the template 'total and deterministic' (their statements: YtkagpdbphdhbaaaTotals.lean).
  GIVEN WITH THE SEED: the statements are not yours to turn. If you find one false, say at which input.
  Laid BY PROGRAM, IN A SANDBOX (cutbox-rows.mjs): the forced cells as the released guide's own fill.sh prints them over the translation 2fce7b3b1c61a7cb… (all of the seat's roots in one cut). By AI agents, Wed Nov 11 2026. No macro, syntax, notation, axiom, sorry.
-/
import Derived.Test.YtkagpdbphdhbaaaChecked
import GoSem.Claim
import GoSem.ClaimJoined
import GoSem.ClaimMapViews
import Derived.JoinedTies
import Derived.KernelRfl
namespace Go.Proofs.Ytkagpdbphdhbaaa
/- THE CELL 'sum', in the pinned program and in every row, IS THE sha256 OF THE DUMP (.gsa) THAT YtkagpdbphdhbaaaProg.lean LOADS. Nothing in Lean hashes anything: it is a label: what it is worth is what the hold of that sum in a sandbox is worth. -/
noncomputable def Try.pinned : Pinned := { name := "ytkagpdbphdhbaaa", sum := "2fce7b3b1c61a7cb4d26558755d409af12cb9e9f4a458a7c24b3d9c51f5ce9a3", checked := Try.checked }
namespace Rows
def none {H : Type} : Left H := { results := [], args := [] }

/-- 'geofencelaw11.ArrayCounts': WHATEVER THE INPUT: true; the input reads as it did. -/
def arrayCountsSpec : ChangeSpec := { name := "arrayCounts", fn := fun _ => fun
  | [d] => { results := [.lit (.bool true)], args := [d] }
  | _ => none }
def arrayCountsRow : OpenClaim := { program := "ytkagpdbphdhbaaa", sum := "2fce7b3b1c61a7cb4d26558755d409af12cb9e9f4a458a7c24b3d9c51f5ce9a3", func := "geofence/geofencelaw11.ArrayCounts", spec := "arrayCounts", unfollowed := true, recurses := true, apart := false }
def ArrayCountsSaid : Prop := arrayCountsRow.holds Try.pinned (OpenSpec.ofChange arrayCountsSpec)

/-- ITS FALSE NEIGHBOUR: 'it returns false'. Refute it at one input. -/
def arrayCountsWrong : ChangeSpec := { name := "arrayCounts", fn := fun _ => fun
  | [d] => { results := [.lit (.bool false)], args := [d] }
  | _ => none }
def ArrayCountsWrongFalsely : Prop := arrayCountsRow.holds Try.pinned (OpenSpec.ofChange arrayCountsWrong)

/-- 'geofencelaw11.ArrayCombines': WHATEVER THE INPUT: true; the input reads as it did. -/
def arrayCombinesSpec : ChangeSpec := { name := "arrayCombines", fn := fun _ => fun
  | [d] => { results := [.lit (.bool true)], args := [d] }
  | _ => none }
def arrayCombinesRow : OpenClaim := { program := "ytkagpdbphdhbaaa", sum := "2fce7b3b1c61a7cb4d26558755d409af12cb9e9f4a458a7c24b3d9c51f5ce9a3", func := "geofence/geofencelaw11.ArrayCombines", spec := "arrayCombines", unfollowed := true, recurses := true, apart := false }
def ArrayCombinesSaid : Prop := arrayCombinesRow.holds Try.pinned (OpenSpec.ofChange arrayCombinesSpec)

/-- ITS FALSE NEIGHBOUR: 'it returns false'. Refute it at one input. -/
def arrayCombinesWrong : ChangeSpec := { name := "arrayCombines", fn := fun _ => fun
  | [d] => { results := [.lit (.bool false)], args := [d] }
  | _ => none }
def ArrayCombinesWrongFalsely : Prop := arrayCombinesRow.holds Try.pinned (OpenSpec.ofChange arrayCombinesWrong)

/-- 'geofencelaw11.ArrayReads': WHATEVER THE INPUT: true; the input reads as it did. -/
def arrayReadsSpec : ChangeSpec := { name := "arrayReads", fn := fun _ => fun
  | [d1, d2] => { results := [.lit (.bool true)], args := [d1, d2] }
  | _ => none }
def arrayReadsRow : OpenClaim := { program := "ytkagpdbphdhbaaa", sum := "2fce7b3b1c61a7cb4d26558755d409af12cb9e9f4a458a7c24b3d9c51f5ce9a3", func := "geofence/geofencelaw11.ArrayReads", spec := "arrayReads", unfollowed := true, recurses := true, apart := false }
def ArrayReadsSaid : Prop := arrayReadsRow.holds Try.pinned (OpenSpec.ofChange arrayReadsSpec)

/-- ITS FALSE NEIGHBOUR: 'it returns false'. Refute it at one input. -/
def arrayReadsWrong : ChangeSpec := { name := "arrayReads", fn := fun _ => fun
  | [d1, d2] => { results := [.lit (.bool false)], args := [d1, d2] }
  | _ => none }
def ArrayReadsWrongFalsely : Prop := arrayReadsRow.holds Try.pinned (OpenSpec.ofChange arrayReadsWrong)

/-- 'geofencelaw11.ArrayWrites': WHATEVER THE INPUT: true; the input reads as it did. -/
def arrayWritesSpec : ChangeSpec := { name := "arrayWrites", fn := fun _ => fun
  | [d1, d2, d3] => { results := [.lit (.bool true)], args := [d1, d2, d3] }
  | _ => none }
def arrayWritesRow : OpenClaim := { program := "ytkagpdbphdhbaaa", sum := "2fce7b3b1c61a7cb4d26558755d409af12cb9e9f4a458a7c24b3d9c51f5ce9a3", func := "geofence/geofencelaw11.ArrayWrites", spec := "arrayWrites", unfollowed := true, recurses := true, apart := false }
def ArrayWritesSaid : Prop := arrayWritesRow.holds Try.pinned (OpenSpec.ofChange arrayWritesSpec)

/-- ITS FALSE NEIGHBOUR: 'it returns false'. Refute it at one input. -/
def arrayWritesWrong : ChangeSpec := { name := "arrayWrites", fn := fun _ => fun
  | [d1, d2, d3] => { results := [.lit (.bool false)], args := [d1, d2, d3] }
  | _ => none }
def ArrayWritesWrongFalsely : Prop := arrayWritesRow.holds Try.pinned (OpenSpec.ofChange arrayWritesWrong)

/-- 'geofencelaw11.ArrayIsOblivious': WHATEVER THE INPUT: true; the input reads as it did. -/
def arrayIsObliviousSpec : ChangeSpec := { name := "arrayIsOblivious", fn := fun _ => fun
  | [d1, d2, d3] => { results := [.lit (.bool true)], args := [d1, d2, d3] }
  | _ => none }
def arrayIsObliviousRow : OpenClaim := { program := "ytkagpdbphdhbaaa", sum := "2fce7b3b1c61a7cb4d26558755d409af12cb9e9f4a458a7c24b3d9c51f5ce9a3", func := "geofence/geofencelaw11.ArrayIsOblivious", spec := "arrayIsOblivious", unfollowed := true, recurses := true, apart := false }
def ArrayIsObliviousSaid : Prop := arrayIsObliviousRow.holds Try.pinned (OpenSpec.ofChange arrayIsObliviousSpec)

/-- ITS FALSE NEIGHBOUR: 'it returns false'. Refute it at one input. -/
def arrayIsObliviousWrong : ChangeSpec := { name := "arrayIsOblivious", fn := fun _ => fun
  | [d1, d2, d3] => { results := [.lit (.bool false)], args := [d1, d2, d3] }
  | _ => none }
def ArrayIsObliviousWrongFalsely : Prop := arrayIsObliviousRow.holds Try.pinned (OpenSpec.ofChange arrayIsObliviousWrong)

/-- 'geofencelaw11.ArrayEvents': WHATEVER THE INPUT: true; the input reads as it did. -/
def arrayEventsSpec : ChangeSpec := { name := "arrayEvents", fn := fun _ => fun
  | [d1, d2, d3] => { results := [.lit (.bool true)], args := [d1, d2, d3] }
  | _ => none }
def arrayEventsRow : OpenClaim := { program := "ytkagpdbphdhbaaa", sum := "2fce7b3b1c61a7cb4d26558755d409af12cb9e9f4a458a7c24b3d9c51f5ce9a3", func := "geofence/geofencelaw11.ArrayEvents", spec := "arrayEvents", unfollowed := true, recurses := true, apart := false }
def ArrayEventsSaid : Prop := arrayEventsRow.holds Try.pinned (OpenSpec.ofChange arrayEventsSpec)

/-- ITS FALSE NEIGHBOUR: 'it returns false'. Refute it at one input. -/
def arrayEventsWrong : ChangeSpec := { name := "arrayEvents", fn := fun _ => fun
  | [d1, d2, d3] => { results := [.lit (.bool false)], args := [d1, d2, d3] }
  | _ => none }
def ArrayEventsWrongFalsely : Prop := arrayEventsRow.holds Try.pinned (OpenSpec.ofChange arrayEventsWrong)

/- THE SECOND FORM. 'bulk': how many values and letters a reading holds, each counted each time it is reached (what is shared counts as often as it is met; a slice's spare places count too). A statement '..UptoSaid' is the law's where the arguments, and the package variables that the reading takes, are together of bulk at most 1048576: NARROWER than '..Said'. Prove '..Said' where nothing that the law and all that it calls make is longer than what came in: it says more and counts as full. Else prove '..UptoSaid'. A law counts once. -/
mutual
def uptoBulk {H : Type} : DataW H → Nat
  | .lit (.string bytes) => bytes.length + 1
  | .lit _ => 1
  | .nil => 1
  | .ptr d => uptoBulk d + 1
  | .slice elems spare => uptoBulkAll elems + uptoBulkAll spare + 1
  | .agg parts => uptoBulkAll parts + 1
  | .iface _ d => uptoBulk d + 1
  | .map entries => uptoBulkEntries entries + 1
  | .held _ => 1
def uptoBulkAll {H : Type} : List (DataW H) → Nat
  | [] => 0
  | d :: r => uptoBulk d + uptoBulkAll r
def uptoBulkEntries {H : Type} : List (Lit × DataW H) → Nat
  | [] => 0
  | x :: r => uptoBulkEntry x + uptoBulkEntries r
def uptoBulkEntry {H : Type} : Lit × DataW H → Nat
  | (.string bytes, d) => bytes.length + uptoBulk d + 1
  | (_, d) => uptoBulk d + 1
 end
def uptoSmall : (H : Type) → List (DataW H) → Bool := fun _ ds => decide (uptoBulkAll ds ≤ 1048576)
def OpenSpec.upto (s : _root_.Go.ChangeSpec) : _root_.Go.OpenSpec := { _root_.Go.OpenSpec.ofChange s with cond := some uptoSmall }

/-- 'geofencelaw11.ArrayCounts', WHERE WHAT IT READS IS OF BULK AT MOST 1048576: true; the input reads as it did. -/
def arrayCountsUptoRow : OpenClaim := { program := "ytkagpdbphdhbaaa", sum := "2fce7b3b1c61a7cb4d26558755d409af12cb9e9f4a458a7c24b3d9c51f5ce9a3", func := "geofence/geofencelaw11.ArrayCounts", spec := "arrayCounts", unfollowed := true, recurses := true, apart := false, narrowed := true }
def ArrayCountsUptoSaid : Prop := arrayCountsUptoRow.holds Try.pinned (OpenSpec.upto arrayCountsSpec)

/-- 'geofencelaw11.ArrayCombines', WHERE WHAT IT READS IS OF BULK AT MOST 1048576: true; the input reads as it did. -/
def arrayCombinesUptoRow : OpenClaim := { program := "ytkagpdbphdhbaaa", sum := "2fce7b3b1c61a7cb4d26558755d409af12cb9e9f4a458a7c24b3d9c51f5ce9a3", func := "geofence/geofencelaw11.ArrayCombines", spec := "arrayCombines", unfollowed := true, recurses := true, apart := false, narrowed := true }
def ArrayCombinesUptoSaid : Prop := arrayCombinesUptoRow.holds Try.pinned (OpenSpec.upto arrayCombinesSpec)

/-- 'geofencelaw11.ArrayReads', WHERE WHAT IT READS IS OF BULK AT MOST 1048576: true; the input reads as it did. -/
def arrayReadsUptoRow : OpenClaim := { program := "ytkagpdbphdhbaaa", sum := "2fce7b3b1c61a7cb4d26558755d409af12cb9e9f4a458a7c24b3d9c51f5ce9a3", func := "geofence/geofencelaw11.ArrayReads", spec := "arrayReads", unfollowed := true, recurses := true, apart := false, narrowed := true }
def ArrayReadsUptoSaid : Prop := arrayReadsUptoRow.holds Try.pinned (OpenSpec.upto arrayReadsSpec)

/-- 'geofencelaw11.ArrayWrites', WHERE WHAT IT READS IS OF BULK AT MOST 1048576: true; the input reads as it did. -/
def arrayWritesUptoRow : OpenClaim := { program := "ytkagpdbphdhbaaa", sum := "2fce7b3b1c61a7cb4d26558755d409af12cb9e9f4a458a7c24b3d9c51f5ce9a3", func := "geofence/geofencelaw11.ArrayWrites", spec := "arrayWrites", unfollowed := true, recurses := true, apart := false, narrowed := true }
def ArrayWritesUptoSaid : Prop := arrayWritesUptoRow.holds Try.pinned (OpenSpec.upto arrayWritesSpec)

/-- 'geofencelaw11.ArrayIsOblivious', WHERE WHAT IT READS IS OF BULK AT MOST 1048576: true; the input reads as it did. -/
def arrayIsObliviousUptoRow : OpenClaim := { program := "ytkagpdbphdhbaaa", sum := "2fce7b3b1c61a7cb4d26558755d409af12cb9e9f4a458a7c24b3d9c51f5ce9a3", func := "geofence/geofencelaw11.ArrayIsOblivious", spec := "arrayIsOblivious", unfollowed := true, recurses := true, apart := false, narrowed := true }
def ArrayIsObliviousUptoSaid : Prop := arrayIsObliviousUptoRow.holds Try.pinned (OpenSpec.upto arrayIsObliviousSpec)

/-- 'geofencelaw11.ArrayEvents', WHERE WHAT IT READS IS OF BULK AT MOST 1048576: true; the input reads as it did. -/
def arrayEventsUptoRow : OpenClaim := { program := "ytkagpdbphdhbaaa", sum := "2fce7b3b1c61a7cb4d26558755d409af12cb9e9f4a458a7c24b3d9c51f5ce9a3", func := "geofence/geofencelaw11.ArrayEvents", spec := "arrayEvents", unfollowed := true, recurses := true, apart := false, narrowed := true }
def ArrayEventsUptoSaid : Prop := arrayEventsUptoRow.holds Try.pinned (OpenSpec.upto arrayEventsSpec)

end Rows
end Go.Proofs.Ytkagpdbphdhbaaa
