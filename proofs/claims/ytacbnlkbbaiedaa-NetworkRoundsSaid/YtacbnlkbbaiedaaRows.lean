/-
  No cell of these rows narrows 'for every input' (looked for: loops, veiled, ifaces, maps, wideKeys, modest, calm, conditions, laid).
  DERIVED. THE GIVEN ROWS OF THIS SEAT. 6 by the template 'for every input the law returns true; each argument reads behind the call as it read before'; 0 by the template 'total and deterministic' (their statements: YtacbnlkbbaiedaaTotals.lean).
  GIVEN WITH THE SEED: the statements are not yours to turn. If you find one false, say at which input.
  Laid BY PROGRAM, IN A SANDBOX (cutbox-rows.mjs): the forced cells as the released guide's own fill.sh prints them over the translation 73994e19d6d7307e… (all of the seat's roots in one cut). By AI agents, Wed Nov 11 2026. No macro, syntax, notation, axiom, sorry.
-/
import Derived.Test.YtacbnlkbbaiedaaChecked
import GoSem.Claim
import GoSem.ClaimJoined
import GoSem.ClaimMapViews
import Derived.JoinedTies
import Derived.KernelRfl
namespace Go.Proofs.Ytacbnlkbbaiedaa
/- THE CELL 'sum', in the pinned program and in every row, IS THE sha256 OF THE DUMP (.gsa) THAT YtacbnlkbbaiedaaProg.lean LOADS. Nothing in Lean hashes anything: it is a label: what it is worth is what the hold of that sum in a sandbox is worth. -/
noncomputable def Try.pinned : Pinned := { name := "ytacbnlkbbaiedaa", sum := "73994e19d6d7307e29f5d671a61250729b9491dd8f2c814325b706c0ad9d4748", checked := Try.checked }
namespace Rows
def none {H : Type} : Left H := { results := [], args := [] }

/-- 'geofencelaw12.NetworkSizes': WHATEVER THE INPUT: true; the input reads as it did. -/
def networkSizesSpec : ChangeSpec := { name := "networkSizes", fn := fun _ => fun
  | [d] => { results := [.lit (.bool true)], args := [d] }
  | _ => none }
def networkSizesRow : OpenClaim := { program := "ytacbnlkbbaiedaa", sum := "73994e19d6d7307e29f5d671a61250729b9491dd8f2c814325b706c0ad9d4748", func := "geofence/geofencelaw12.NetworkSizes", spec := "networkSizes", unfollowed := true, recurses := true, apart := false }
def NetworkSizesSaid : Prop := networkSizesRow.holds Try.pinned (OpenSpec.ofChange networkSizesSpec)

/-- ITS FALSE NEIGHBOUR: 'it returns false'. Refute it at one input. -/
def networkSizesWrong : ChangeSpec := { name := "networkSizes", fn := fun _ => fun
  | [d] => { results := [.lit (.bool false)], args := [d] }
  | _ => none }
def NetworkSizesWrongFalsely : Prop := networkSizesRow.holds Try.pinned (OpenSpec.ofChange networkSizesWrong)

/-- 'geofencelaw12.NetworkComparators': WHATEVER THE INPUT: true; the input reads as it did. -/
def networkComparatorsSpec : ChangeSpec := { name := "networkComparators", fn := fun _ => fun
  | [d] => { results := [.lit (.bool true)], args := [d] }
  | _ => none }
def networkComparatorsRow : OpenClaim := { program := "ytacbnlkbbaiedaa", sum := "73994e19d6d7307e29f5d671a61250729b9491dd8f2c814325b706c0ad9d4748", func := "geofence/geofencelaw12.NetworkComparators", spec := "networkComparators", unfollowed := true, recurses := true, apart := false }
def NetworkComparatorsSaid : Prop := networkComparatorsRow.holds Try.pinned (OpenSpec.ofChange networkComparatorsSpec)

/-- ITS FALSE NEIGHBOUR: 'it returns false'. Refute it at one input. -/
def networkComparatorsWrong : ChangeSpec := { name := "networkComparators", fn := fun _ => fun
  | [d] => { results := [.lit (.bool false)], args := [d] }
  | _ => none }
def NetworkComparatorsWrongFalsely : Prop := networkComparatorsRow.holds Try.pinned (OpenSpec.ofChange networkComparatorsWrong)

/-- 'geofencelaw12.NetworkSorts': WHATEVER THE INPUT: true; the input reads as it did. -/
def networkSortsSpec : ChangeSpec := { name := "networkSorts", fn := fun _ => fun
  | [d] => { results := [.lit (.bool true)], args := [d] }
  | _ => none }
def networkSortsRow : OpenClaim := { program := "ytacbnlkbbaiedaa", sum := "73994e19d6d7307e29f5d671a61250729b9491dd8f2c814325b706c0ad9d4748", func := "geofence/geofencelaw12.NetworkSorts", spec := "networkSorts", unfollowed := true, recurses := true, apart := false }
def NetworkSortsSaid : Prop := networkSortsRow.holds Try.pinned (OpenSpec.ofChange networkSortsSpec)

/-- ITS FALSE NEIGHBOUR: 'it returns false'. Refute it at one input. -/
def networkSortsWrong : ChangeSpec := { name := "networkSorts", fn := fun _ => fun
  | [d] => { results := [.lit (.bool false)], args := [d] }
  | _ => none }
def NetworkSortsWrongFalsely : Prop := networkSortsRow.holds Try.pinned (OpenSpec.ofChange networkSortsWrong)

/-- 'geofencelaw12.NetworkZeroOne': WHATEVER THE INPUT: true; the input reads as it did. -/
def networkZeroOneSpec : ChangeSpec := { name := "networkZeroOne", fn := fun _ => fun
  | [d1, d2] => { results := [.lit (.bool true)], args := [d1, d2] }
  | _ => none }
def networkZeroOneRow : OpenClaim := { program := "ytacbnlkbbaiedaa", sum := "73994e19d6d7307e29f5d671a61250729b9491dd8f2c814325b706c0ad9d4748", func := "geofence/geofencelaw12.NetworkZeroOne", spec := "networkZeroOne", unfollowed := true, recurses := true, apart := false }
def NetworkZeroOneSaid : Prop := networkZeroOneRow.holds Try.pinned (OpenSpec.ofChange networkZeroOneSpec)

/-- ITS FALSE NEIGHBOUR: 'it returns false'. Refute it at one input. -/
def networkZeroOneWrong : ChangeSpec := { name := "networkZeroOne", fn := fun _ => fun
  | [d1, d2] => { results := [.lit (.bool false)], args := [d1, d2] }
  | _ => none }
def NetworkZeroOneWrongFalsely : Prop := networkZeroOneRow.holds Try.pinned (OpenSpec.ofChange networkZeroOneWrong)

/-- 'geofencelaw12.NetworkRounds': WHATEVER THE INPUT: true; the input reads as it did. -/
def networkRoundsSpec : ChangeSpec := { name := "networkRounds", fn := fun _ => fun
  | [d] => { results := [.lit (.bool true)], args := [d] }
  | _ => none }
def networkRoundsRow : OpenClaim := { program := "ytacbnlkbbaiedaa", sum := "73994e19d6d7307e29f5d671a61250729b9491dd8f2c814325b706c0ad9d4748", func := "geofence/geofencelaw12.NetworkRounds", spec := "networkRounds", unfollowed := true, recurses := true, apart := false }
def NetworkRoundsSaid : Prop := networkRoundsRow.holds Try.pinned (OpenSpec.ofChange networkRoundsSpec)

/-- ITS FALSE NEIGHBOUR: 'it returns false'. Refute it at one input. -/
def networkRoundsWrong : ChangeSpec := { name := "networkRounds", fn := fun _ => fun
  | [d] => { results := [.lit (.bool false)], args := [d] }
  | _ => none }
def NetworkRoundsWrongFalsely : Prop := networkRoundsRow.holds Try.pinned (OpenSpec.ofChange networkRoundsWrong)

/-- 'geofencelaw12.NetworkStops': WHATEVER THE INPUT: true; the input reads as it did. -/
def networkStopsSpec : ChangeSpec := { name := "networkStops", fn := fun _ => fun
  | [d1, d2] => { results := [.lit (.bool true)], args := [d1, d2] }
  | _ => none }
def networkStopsRow : OpenClaim := { program := "ytacbnlkbbaiedaa", sum := "73994e19d6d7307e29f5d671a61250729b9491dd8f2c814325b706c0ad9d4748", func := "geofence/geofencelaw12.NetworkStops", spec := "networkStops", unfollowed := true, recurses := true, apart := false }
def NetworkStopsSaid : Prop := networkStopsRow.holds Try.pinned (OpenSpec.ofChange networkStopsSpec)

/-- ITS FALSE NEIGHBOUR: 'it returns false'. Refute it at one input. -/
def networkStopsWrong : ChangeSpec := { name := "networkStops", fn := fun _ => fun
  | [d1, d2] => { results := [.lit (.bool false)], args := [d1, d2] }
  | _ => none }
def NetworkStopsWrongFalsely : Prop := networkStopsRow.holds Try.pinned (OpenSpec.ofChange networkStopsWrong)

/- THE SECOND FORM. 'bulk': how many values and letters a reading holds, each counted each time it is reached (what is shared counts as often as it is met; a slice's spare places count too). A statement '..UptoSaid' is the law's where the arguments, and the package variables that the reading takes, are together of bulk at most 1048576: NARROWER than '..Said'. Prove '..Said' where nothing that the law and all that it calls make is longer than what came in: it says more and counts as full. Else prove '..UptoSaid'. A law counts once. -/
mutual
def uptoBulk {H : Type} : DataW H → Nat
  | .lit (.string bytes) => bytes.length + 1
  | .lit _ => 1
  | .nil => 1
  | .ptr d => uptoBulk d + 1
  | .slice elems spare => uptoBulkAll elems + uptoBulkAll spare + 1
  | .agg parts => uptoBulkAll parts + 1
  | .iface _ d => uptoBulk d + 1
  | .map entries => uptoBulkEntries entries + 1
  | .held _ => 1
def uptoBulkAll {H : Type} : List (DataW H) → Nat
  | [] => 0
  | d :: r => uptoBulk d + uptoBulkAll r
def uptoBulkEntries {H : Type} : List (Lit × DataW H) → Nat
  | [] => 0
  | x :: r => uptoBulkEntry x + uptoBulkEntries r
def uptoBulkEntry {H : Type} : Lit × DataW H → Nat
  | (.string bytes, d) => bytes.length + uptoBulk d + 1
  | (_, d) => uptoBulk d + 1
 end
def uptoSmall : (H : Type) → List (DataW H) → Bool := fun _ ds => decide (uptoBulkAll ds ≤ 1048576)
def OpenSpec.upto (s : _root_.Go.ChangeSpec) : _root_.Go.OpenSpec := { _root_.Go.OpenSpec.ofChange s with cond := some uptoSmall }

/-- 'geofencelaw12.NetworkSizes', WHERE WHAT IT READS IS OF BULK AT MOST 1048576: true; the input reads as it did. -/
def networkSizesUptoRow : OpenClaim := { program := "ytacbnlkbbaiedaa", sum := "73994e19d6d7307e29f5d671a61250729b9491dd8f2c814325b706c0ad9d4748", func := "geofence/geofencelaw12.NetworkSizes", spec := "networkSizes", unfollowed := true, recurses := true, apart := false, narrowed := true }
def NetworkSizesUptoSaid : Prop := networkSizesUptoRow.holds Try.pinned (OpenSpec.upto networkSizesSpec)

/-- 'geofencelaw12.NetworkComparators', WHERE WHAT IT READS IS OF BULK AT MOST 1048576: true; the input reads as it did. -/
def networkComparatorsUptoRow : OpenClaim := { program := "ytacbnlkbbaiedaa", sum := "73994e19d6d7307e29f5d671a61250729b9491dd8f2c814325b706c0ad9d4748", func := "geofence/geofencelaw12.NetworkComparators", spec := "networkComparators", unfollowed := true, recurses := true, apart := false, narrowed := true }
def NetworkComparatorsUptoSaid : Prop := networkComparatorsUptoRow.holds Try.pinned (OpenSpec.upto networkComparatorsSpec)

/-- 'geofencelaw12.NetworkSorts', WHERE WHAT IT READS IS OF BULK AT MOST 1048576: true; the input reads as it did. -/
def networkSortsUptoRow : OpenClaim := { program := "ytacbnlkbbaiedaa", sum := "73994e19d6d7307e29f5d671a61250729b9491dd8f2c814325b706c0ad9d4748", func := "geofence/geofencelaw12.NetworkSorts", spec := "networkSorts", unfollowed := true, recurses := true, apart := false, narrowed := true }
def NetworkSortsUptoSaid : Prop := networkSortsUptoRow.holds Try.pinned (OpenSpec.upto networkSortsSpec)

/-- 'geofencelaw12.NetworkZeroOne', WHERE WHAT IT READS IS OF BULK AT MOST 1048576: true; the input reads as it did. -/
def networkZeroOneUptoRow : OpenClaim := { program := "ytacbnlkbbaiedaa", sum := "73994e19d6d7307e29f5d671a61250729b9491dd8f2c814325b706c0ad9d4748", func := "geofence/geofencelaw12.NetworkZeroOne", spec := "networkZeroOne", unfollowed := true, recurses := true, apart := false, narrowed := true }
def NetworkZeroOneUptoSaid : Prop := networkZeroOneUptoRow.holds Try.pinned (OpenSpec.upto networkZeroOneSpec)

/-- 'geofencelaw12.NetworkRounds', WHERE WHAT IT READS IS OF BULK AT MOST 1048576: true; the input reads as it did. -/
def networkRoundsUptoRow : OpenClaim := { program := "ytacbnlkbbaiedaa", sum := "73994e19d6d7307e29f5d671a61250729b9491dd8f2c814325b706c0ad9d4748", func := "geofence/geofencelaw12.NetworkRounds", spec := "networkRounds", unfollowed := true, recurses := true, apart := false, narrowed := true }
def NetworkRoundsUptoSaid : Prop := networkRoundsUptoRow.holds Try.pinned (OpenSpec.upto networkRoundsSpec)

/-- 'geofencelaw12.NetworkStops', WHERE WHAT IT READS IS OF BULK AT MOST 1048576: true; the input reads as it did. -/
def networkStopsUptoRow : OpenClaim := { program := "ytacbnlkbbaiedaa", sum := "73994e19d6d7307e29f5d671a61250729b9491dd8f2c814325b706c0ad9d4748", func := "geofence/geofencelaw12.NetworkStops", spec := "networkStops", unfollowed := true, recurses := true, apart := false, narrowed := true }
def NetworkStopsUptoSaid : Prop := networkStopsUptoRow.holds Try.pinned (OpenSpec.upto networkStopsSpec)

end Rows
end Go.Proofs.Ytacbnlkbbaiedaa
