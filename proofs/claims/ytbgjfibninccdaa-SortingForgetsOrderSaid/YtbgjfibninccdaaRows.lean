/-
  No cell of these rows narrows 'for every input' (looked for: loops, veiled, ifaces, maps, wideKeys, modest, calm, conditions, laid).
  DERIVED. THE GIVEN ROWS OF THIS SEAT. 6 by the template 'for every input the law returns true; each argument reads behind the call as it read before'; 0 by the template 'total and deterministic' (their statements: YtbgjfibninccdaaTotals.lean).
  GIVEN WITH THE SEED: the statements are not yours to turn. If you find one false, say at which input.
  Laid BY PROGRAM, IN A SANDBOX (cutbox-rows.mjs): the forced cells as the released guide's own fill.sh prints them over the translation df083680f2ff4c3a… (all of the seat's roots in one cut). By AI agents, Wed Nov 11 2026. No macro, syntax, notation, axiom, sorry.
-/
import Derived.Test.YtbgjfibninccdaaChecked
import GoSem.Claim
import GoSem.ClaimJoined
import GoSem.ClaimMapViews
import Derived.JoinedTies
import Derived.KernelRfl
namespace Go.Proofs.Ytbgjfibninccdaa
/- THE CELL 'sum', in the pinned program and in every row, IS THE sha256 OF THE DUMP (.gsa) THAT YtbgjfibninccdaaProg.lean LOADS. Nothing in Lean hashes anything: it is a label: what it is worth is what the hold of that sum in a sandbox is worth. -/
noncomputable def Try.pinned : Pinned := { name := "ytbgjfibninccdaa", sum := "df083680f2ff4c3a7d64efd6f70f70480af5556e6d20996b2905562d7e58582f", checked := Try.checked }
namespace Rows
def none {H : Type} : Left H := { results := [], args := [] }

/-- 'geofencelaw13.SortingCompares': WHATEVER THE INPUT: true; the input reads as it did. -/
def sortingComparesSpec : ChangeSpec := { name := "sortingCompares", fn := fun _ => fun
  | [d1, d2] => { results := [.lit (.bool true)], args := [d1, d2] }
  | _ => none }
def sortingComparesRow : OpenClaim := { program := "ytbgjfibninccdaa", sum := "df083680f2ff4c3a7d64efd6f70f70480af5556e6d20996b2905562d7e58582f", func := "geofence/geofencelaw13.SortingCompares", spec := "sortingCompares", unfollowed := true, recurses := true, apart := false }
def SortingComparesSaid : Prop := sortingComparesRow.holds Try.pinned (OpenSpec.ofChange sortingComparesSpec)

/-- ITS FALSE NEIGHBOUR: 'it returns false'. Refute it at one input. -/
def sortingComparesWrong : ChangeSpec := { name := "sortingCompares", fn := fun _ => fun
  | [d1, d2] => { results := [.lit (.bool false)], args := [d1, d2] }
  | _ => none }
def SortingComparesWrongFalsely : Prop := sortingComparesRow.holds Try.pinned (OpenSpec.ofChange sortingComparesWrong)

/-- 'geofencelaw13.SortingLive': WHATEVER THE INPUT: true; the input reads as it did. -/
def sortingLiveSpec : ChangeSpec := { name := "sortingLive", fn := fun _ => fun
  | [d] => { results := [.lit (.bool true)], args := [d] }
  | _ => none }
def sortingLiveRow : OpenClaim := { program := "ytbgjfibninccdaa", sum := "df083680f2ff4c3a7d64efd6f70f70480af5556e6d20996b2905562d7e58582f", func := "geofence/geofencelaw13.SortingLive", spec := "sortingLive", unfollowed := true, recurses := true, apart := false }
def SortingLiveSaid : Prop := sortingLiveRow.holds Try.pinned (OpenSpec.ofChange sortingLiveSpec)

/-- ITS FALSE NEIGHBOUR: 'it returns false'. Refute it at one input. -/
def sortingLiveWrong : ChangeSpec := { name := "sortingLive", fn := fun _ => fun
  | [d] => { results := [.lit (.bool false)], args := [d] }
  | _ => none }
def SortingLiveWrongFalsely : Prop := sortingLiveRow.holds Try.pinned (OpenSpec.ofChange sortingLiveWrong)

/-- 'geofencelaw13.SortingSorts': WHATEVER THE INPUT: true; the input reads as it did. -/
def sortingSortsSpec : ChangeSpec := { name := "sortingSorts", fn := fun _ => fun
  | [d] => { results := [.lit (.bool true)], args := [d] }
  | _ => none }
def sortingSortsRow : OpenClaim := { program := "ytbgjfibninccdaa", sum := "df083680f2ff4c3a7d64efd6f70f70480af5556e6d20996b2905562d7e58582f", func := "geofence/geofencelaw13.SortingSorts", spec := "sortingSorts", unfollowed := true, recurses := true, apart := false }
def SortingSortsSaid : Prop := sortingSortsRow.holds Try.pinned (OpenSpec.ofChange sortingSortsSpec)

/-- ITS FALSE NEIGHBOUR: 'it returns false'. Refute it at one input. -/
def sortingSortsWrong : ChangeSpec := { name := "sortingSorts", fn := fun _ => fun
  | [d] => { results := [.lit (.bool false)], args := [d] }
  | _ => none }
def SortingSortsWrongFalsely : Prop := sortingSortsRow.holds Try.pinned (OpenSpec.ofChange sortingSortsWrong)

/-- 'geofencelaw13.SortingEvents': WHATEVER THE INPUT: true; the input reads as it did. -/
def sortingEventsSpec : ChangeSpec := { name := "sortingEvents", fn := fun _ => fun
  | [d] => { results := [.lit (.bool true)], args := [d] }
  | _ => none }
def sortingEventsRow : OpenClaim := { program := "ytbgjfibninccdaa", sum := "df083680f2ff4c3a7d64efd6f70f70480af5556e6d20996b2905562d7e58582f", func := "geofence/geofencelaw13.SortingEvents", spec := "sortingEvents", unfollowed := true, recurses := true, apart := false }
def SortingEventsSaid : Prop := sortingEventsRow.holds Try.pinned (OpenSpec.ofChange sortingEventsSpec)

/-- ITS FALSE NEIGHBOUR: 'it returns false'. Refute it at one input. -/
def sortingEventsWrong : ChangeSpec := { name := "sortingEvents", fn := fun _ => fun
  | [d] => { results := [.lit (.bool false)], args := [d] }
  | _ => none }
def SortingEventsWrongFalsely : Prop := sortingEventsRow.holds Try.pinned (OpenSpec.ofChange sortingEventsWrong)

/-- 'geofencelaw13.SortingIsOblivious': WHATEVER THE INPUT: true; the input reads as it did. -/
def sortingIsObliviousSpec : ChangeSpec := { name := "sortingIsOblivious", fn := fun _ => fun
  | [d1, d2, d3] => { results := [.lit (.bool true)], args := [d1, d2, d3] }
  | _ => none }
def sortingIsObliviousRow : OpenClaim := { program := "ytbgjfibninccdaa", sum := "df083680f2ff4c3a7d64efd6f70f70480af5556e6d20996b2905562d7e58582f", func := "geofence/geofencelaw13.SortingIsOblivious", spec := "sortingIsOblivious", unfollowed := true, recurses := true, apart := false }
def SortingIsObliviousSaid : Prop := sortingIsObliviousRow.holds Try.pinned (OpenSpec.ofChange sortingIsObliviousSpec)

/-- ITS FALSE NEIGHBOUR: 'it returns false'. Refute it at one input. -/
def sortingIsObliviousWrong : ChangeSpec := { name := "sortingIsOblivious", fn := fun _ => fun
  | [d1, d2, d3] => { results := [.lit (.bool false)], args := [d1, d2, d3] }
  | _ => none }
def SortingIsObliviousWrongFalsely : Prop := sortingIsObliviousRow.holds Try.pinned (OpenSpec.ofChange sortingIsObliviousWrong)

/-- 'geofencelaw13.SortingForgetsOrder': WHATEVER THE INPUT: true; the input reads as it did. -/
def sortingForgetsOrderSpec : ChangeSpec := { name := "sortingForgetsOrder", fn := fun _ => fun
  | [d1, d2] => { results := [.lit (.bool true)], args := [d1, d2] }
  | _ => none }
def sortingForgetsOrderRow : OpenClaim := { program := "ytbgjfibninccdaa", sum := "df083680f2ff4c3a7d64efd6f70f70480af5556e6d20996b2905562d7e58582f", func := "geofence/geofencelaw13.SortingForgetsOrder", spec := "sortingForgetsOrder", unfollowed := true, recurses := true, apart := false }
def SortingForgetsOrderSaid : Prop := sortingForgetsOrderRow.holds Try.pinned (OpenSpec.ofChange sortingForgetsOrderSpec)

/-- ITS FALSE NEIGHBOUR: 'it returns false'. Refute it at one input. -/
def sortingForgetsOrderWrong : ChangeSpec := { name := "sortingForgetsOrder", fn := fun _ => fun
  | [d1, d2] => { results := [.lit (.bool false)], args := [d1, d2] }
  | _ => none }
def SortingForgetsOrderWrongFalsely : Prop := sortingForgetsOrderRow.holds Try.pinned (OpenSpec.ofChange sortingForgetsOrderWrong)

/- THE SECOND FORM. 'bulk': how many values and letters a reading holds, each counted each time it is reached (what is shared counts as often as it is met; a slice's spare places count too). A statement '..UptoSaid' is the law's where the arguments, and the package variables that the reading takes, are together of bulk at most 1048576: NARROWER than '..Said'. Prove '..Said' where nothing that the law and all that it calls make is longer than what came in: it says more and counts as full. Else prove '..UptoSaid'. A law counts once. -/
mutual
def uptoBulk {H : Type} : DataW H → Nat
  | .lit (.string bytes) => bytes.length + 1
  | .lit _ => 1
  | .nil => 1
  | .ptr d => uptoBulk d + 1
  | .slice elems spare => uptoBulkAll elems + uptoBulkAll spare + 1
  | .agg parts => uptoBulkAll parts + 1
  | .iface _ d => uptoBulk d + 1
  | .map entries => uptoBulkEntries entries + 1
  | .held _ => 1
def uptoBulkAll {H : Type} : List (DataW H) → Nat
  | [] => 0
  | d :: r => uptoBulk d + uptoBulkAll r
def uptoBulkEntries {H : Type} : List (Lit × DataW H) → Nat
  | [] => 0
  | x :: r => uptoBulkEntry x + uptoBulkEntries r
def uptoBulkEntry {H : Type} : Lit × DataW H → Nat
  | (.string bytes, d) => bytes.length + uptoBulk d + 1
  | (_, d) => uptoBulk d + 1
 end
def uptoSmall : (H : Type) → List (DataW H) → Bool := fun _ ds => decide (uptoBulkAll ds ≤ 1048576)
def OpenSpec.upto (s : _root_.Go.ChangeSpec) : _root_.Go.OpenSpec := { _root_.Go.OpenSpec.ofChange s with cond := some uptoSmall }

/-- 'geofencelaw13.SortingCompares', WHERE WHAT IT READS IS OF BULK AT MOST 1048576: true; the input reads as it did. -/
def sortingComparesUptoRow : OpenClaim := { program := "ytbgjfibninccdaa", sum := "df083680f2ff4c3a7d64efd6f70f70480af5556e6d20996b2905562d7e58582f", func := "geofence/geofencelaw13.SortingCompares", spec := "sortingCompares", unfollowed := true, recurses := true, apart := false, narrowed := true }
def SortingComparesUptoSaid : Prop := sortingComparesUptoRow.holds Try.pinned (OpenSpec.upto sortingComparesSpec)

/-- 'geofencelaw13.SortingLive', WHERE WHAT IT READS IS OF BULK AT MOST 1048576: true; the input reads as it did. -/
def sortingLiveUptoRow : OpenClaim := { program := "ytbgjfibninccdaa", sum := "df083680f2ff4c3a7d64efd6f70f70480af5556e6d20996b2905562d7e58582f", func := "geofence/geofencelaw13.SortingLive", spec := "sortingLive", unfollowed := true, recurses := true, apart := false, narrowed := true }
def SortingLiveUptoSaid : Prop := sortingLiveUptoRow.holds Try.pinned (OpenSpec.upto sortingLiveSpec)

/-- 'geofencelaw13.SortingSorts', WHERE WHAT IT READS IS OF BULK AT MOST 1048576: true; the input reads as it did. -/
def sortingSortsUptoRow : OpenClaim := { program := "ytbgjfibninccdaa", sum := "df083680f2ff4c3a7d64efd6f70f70480af5556e6d20996b2905562d7e58582f", func := "geofence/geofencelaw13.SortingSorts", spec := "sortingSorts", unfollowed := true, recurses := true, apart := false, narrowed := true }
def SortingSortsUptoSaid : Prop := sortingSortsUptoRow.holds Try.pinned (OpenSpec.upto sortingSortsSpec)

/-- 'geofencelaw13.SortingEvents', WHERE WHAT IT READS IS OF BULK AT MOST 1048576: true; the input reads as it did. -/
def sortingEventsUptoRow : OpenClaim := { program := "ytbgjfibninccdaa", sum := "df083680f2ff4c3a7d64efd6f70f70480af5556e6d20996b2905562d7e58582f", func := "geofence/geofencelaw13.SortingEvents", spec := "sortingEvents", unfollowed := true, recurses := true, apart := false, narrowed := true }
def SortingEventsUptoSaid : Prop := sortingEventsUptoRow.holds Try.pinned (OpenSpec.upto sortingEventsSpec)

/-- 'geofencelaw13.SortingIsOblivious', WHERE WHAT IT READS IS OF BULK AT MOST 1048576: true; the input reads as it did. -/
def sortingIsObliviousUptoRow : OpenClaim := { program := "ytbgjfibninccdaa", sum := "df083680f2ff4c3a7d64efd6f70f70480af5556e6d20996b2905562d7e58582f", func := "geofence/geofencelaw13.SortingIsOblivious", spec := "sortingIsOblivious", unfollowed := true, recurses := true, apart := false, narrowed := true }
def SortingIsObliviousUptoSaid : Prop := sortingIsObliviousUptoRow.holds Try.pinned (OpenSpec.upto sortingIsObliviousSpec)

/-- 'geofencelaw13.SortingForgetsOrder', WHERE WHAT IT READS IS OF BULK AT MOST 1048576: true; the input reads as it did. -/
def sortingForgetsOrderUptoRow : OpenClaim := { program := "ytbgjfibninccdaa", sum := "df083680f2ff4c3a7d64efd6f70f70480af5556e6d20996b2905562d7e58582f", func := "geofence/geofencelaw13.SortingForgetsOrder", spec := "sortingForgetsOrder", unfollowed := true, recurses := true, apart := false, narrowed := true }
def SortingForgetsOrderUptoSaid : Prop := sortingForgetsOrderUptoRow.holds Try.pinned (OpenSpec.upto sortingForgetsOrderSpec)

end Rows
end Go.Proofs.Ytbgjfibninccdaa
