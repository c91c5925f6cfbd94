/-
  No cell of these rows narrows 'for every input' (looked for: loops, veiled, ifaces, maps, wideKeys, modest, calm, conditions, laid).
  DERIVED. THE GIVEN ROWS OF THIS SEAT. 6 by the template 'for every input the law returns true; each argument reads behind the call as it read before'; 0 by the template 'total and deterministic' (their statements: YtgdnkpngojbjpaaTotals.lean).
  GIVEN WITH THE SEED: the statements are not yours to turn. If you find one false, say at which input.
  Laid BY PROGRAM, IN A SANDBOX (cutbox-rows.mjs): the forced cells as the released guide's own fill.sh prints them over the translation 79a45226d8211444… (all of the seat's roots in one cut). By AI agents, Wed Nov 11 2026. No macro, syntax, notation, axiom, sorry.
-/
import Derived.Test.YtgdnkpngojbjpaaChecked
import GoSem.Claim
import GoSem.ClaimJoined
import GoSem.ClaimMapViews
import Derived.JoinedTies
import Derived.KernelRfl
namespace Go.Proofs.Ytgdnkpngojbjpaa
/- THE CELL 'sum', in the pinned program and in every row, IS THE sha256 OF THE DUMP (.gsa) THAT YtgdnkpngojbjpaaProg.lean LOADS. Nothing in Lean hashes anything: it is a label: what it is worth is what the hold of that sum in a sandbox is worth. -/
noncomputable def Try.pinned : Pinned := { name := "ytgdnkpngojbjpaa", sum := "79a45226d82114446040acae9a7fc2a4da9bc1ff7e8a764265d4f7288db67d7e", checked := Try.checked }
namespace Rows
def none {H : Type} : Left H := { results := [], args := [] }

/-- 'geofencelaw09.PlaneOrients': WHATEVER THE INPUT: true; the input reads as it did. -/
def planeOrientsSpec : ChangeSpec := { name := "planeOrients", fn := fun _ => fun
  | [d1, d2, d3] => { results := [.lit (.bool true)], args := [d1, d2, d3] }
  | _ => none }
def planeOrientsRow : OpenClaim := { program := "ytgdnkpngojbjpaa", sum := "79a45226d82114446040acae9a7fc2a4da9bc1ff7e8a764265d4f7288db67d7e", func := "geofence/geofencelaw09.PlaneOrients", spec := "planeOrients", inPlace := ["math.Float64bits", "math.Float64frombits", "math.archTrunc"], apart := false }
def PlaneOrientsSaid : Prop := planeOrientsRow.holds Try.pinned (OpenSpec.ofChange planeOrientsSpec)

/-- ITS FALSE NEIGHBOUR: 'it returns false'. Refute it at one input. -/
def planeOrientsWrong : ChangeSpec := { name := "planeOrients", fn := fun _ => fun
  | [d1, d2, d3] => { results := [.lit (.bool false)], args := [d1, d2, d3] }
  | _ => none }
def PlaneOrientsWrongFalsely : Prop := planeOrientsRow.holds Try.pinned (OpenSpec.ofChange planeOrientsWrong)

/-- 'geofencelaw09.PlaneMultiplies': WHATEVER THE INPUT: true; the input reads as it did. -/
def planeMultipliesSpec : ChangeSpec := { name := "planeMultiplies", fn := fun _ => fun
  | [d1, d2] => { results := [.lit (.bool true)], args := [d1, d2] }
  | _ => none }
def planeMultipliesRow : OpenClaim := { program := "ytgdnkpngojbjpaa", sum := "79a45226d82114446040acae9a7fc2a4da9bc1ff7e8a764265d4f7288db67d7e", func := "geofence/geofencelaw09.PlaneMultiplies", spec := "planeMultiplies", inPlace := ["math.Float64bits", "math.Float64frombits", "math.archTrunc"], apart := false }
def PlaneMultipliesSaid : Prop := planeMultipliesRow.holds Try.pinned (OpenSpec.ofChange planeMultipliesSpec)

/-- ITS FALSE NEIGHBOUR: 'it returns false'. Refute it at one input. -/
def planeMultipliesWrong : ChangeSpec := { name := "planeMultiplies", fn := fun _ => fun
  | [d1, d2] => { results := [.lit (.bool false)], args := [d1, d2] }
  | _ => none }
def PlaneMultipliesWrongFalsely : Prop := planeMultipliesRow.holds Try.pinned (OpenSpec.ofChange planeMultipliesWrong)

/-- 'geofencelaw09.PlaneTurns': WHATEVER THE INPUT: true; the input reads as it did. -/
def planeTurnsSpec : ChangeSpec := { name := "planeTurns", fn := fun _ => fun
  | [d1, d2] => { results := [.lit (.bool true)], args := [d1, d2] }
  | _ => none }
def planeTurnsRow : OpenClaim := { program := "ytgdnkpngojbjpaa", sum := "79a45226d82114446040acae9a7fc2a4da9bc1ff7e8a764265d4f7288db67d7e", func := "geofence/geofencelaw09.PlaneTurns", spec := "planeTurns", inPlace := ["math.Float64bits", "math.Float64frombits", "math.archTrunc"], apart := false }
def PlaneTurnsSaid : Prop := planeTurnsRow.holds Try.pinned (OpenSpec.ofChange planeTurnsSpec)

/-- ITS FALSE NEIGHBOUR: 'it returns false'. Refute it at one input. -/
def planeTurnsWrong : ChangeSpec := { name := "planeTurns", fn := fun _ => fun
  | [d1, d2] => { results := [.lit (.bool false)], args := [d1, d2] }
  | _ => none }
def PlaneTurnsWrongFalsely : Prop := planeTurnsRow.holds Try.pinned (OpenSpec.ofChange planeTurnsWrong)

/-- 'geofencelaw09.PlaneConverts': WHATEVER THE INPUT: true; the input reads as it did. -/
def planeConvertsSpec : ChangeSpec := { name := "planeConverts", fn := fun _ => fun
  | [d] => { results := [.lit (.bool true)], args := [d] }
  | _ => none }
def planeConvertsRow : OpenClaim := { program := "ytgdnkpngojbjpaa", sum := "79a45226d82114446040acae9a7fc2a4da9bc1ff7e8a764265d4f7288db67d7e", func := "geofence/geofencelaw09.PlaneConverts", spec := "planeConverts", inPlace := ["math.Float64bits", "math.Float64frombits", "math.archTrunc"], apart := false }
def PlaneConvertsSaid : Prop := planeConvertsRow.holds Try.pinned (OpenSpec.ofChange planeConvertsSpec)

/-- ITS FALSE NEIGHBOUR: 'it returns false'. Refute it at one input. -/
def planeConvertsWrong : ChangeSpec := { name := "planeConverts", fn := fun _ => fun
  | [d] => { results := [.lit (.bool false)], args := [d] }
  | _ => none }
def PlaneConvertsWrongFalsely : Prop := planeConvertsRow.holds Try.pinned (OpenSpec.ofChange planeConvertsWrong)

/-- 'geofencelaw09.PlaneIntegers': WHATEVER THE INPUT: true; the input reads as it did. -/
def planeIntegersSpec : ChangeSpec := { name := "planeIntegers", fn := fun _ => fun
  | [d1, d2] => { results := [.lit (.bool true)], args := [d1, d2] }
  | _ => none }
def planeIntegersRow : OpenClaim := { program := "ytgdnkpngojbjpaa", sum := "79a45226d82114446040acae9a7fc2a4da9bc1ff7e8a764265d4f7288db67d7e", func := "geofence/geofencelaw09.PlaneIntegers", spec := "planeIntegers", inPlace := ["math.Float64bits", "math.Float64frombits", "math.archTrunc"], apart := false }
def PlaneIntegersSaid : Prop := planeIntegersRow.holds Try.pinned (OpenSpec.ofChange planeIntegersSpec)

/-- ITS FALSE NEIGHBOUR: 'it returns false'. Refute it at one input. -/
def planeIntegersWrong : ChangeSpec := { name := "planeIntegers", fn := fun _ => fun
  | [d1, d2] => { results := [.lit (.bool false)], args := [d1, d2] }
  | _ => none }
def PlaneIntegersWrongFalsely : Prop := planeIntegersRow.holds Try.pinned (OpenSpec.ofChange planeIntegersWrong)

/-- 'geofencelaw09.PlaneNorms': WHATEVER THE INPUT: true; the input reads as it did. -/
def planeNormsSpec : ChangeSpec := { name := "planeNorms", fn := fun _ => fun
  | [d1, d2, d3] => { results := [.lit (.bool true)], args := [d1, d2, d3] }
  | _ => none }
def planeNormsRow : OpenClaim := { program := "ytgdnkpngojbjpaa", sum := "79a45226d82114446040acae9a7fc2a4da9bc1ff7e8a764265d4f7288db67d7e", func := "geofence/geofencelaw09.PlaneNorms", spec := "planeNorms", inPlace := ["math.Float64bits", "math.Float64frombits", "math.archTrunc"], apart := false }
def PlaneNormsSaid : Prop := planeNormsRow.holds Try.pinned (OpenSpec.ofChange planeNormsSpec)

/-- ITS FALSE NEIGHBOUR: 'it returns false'. Refute it at one input. -/
def planeNormsWrong : ChangeSpec := { name := "planeNorms", fn := fun _ => fun
  | [d1, d2, d3] => { results := [.lit (.bool false)], args := [d1, d2, d3] }
  | _ => none }
def PlaneNormsWrongFalsely : Prop := planeNormsRow.holds Try.pinned (OpenSpec.ofChange planeNormsWrong)

/- THE SECOND FORM. 'bulk': how many values and letters a reading holds, each counted each time it is reached (what is shared counts as often as it is met; a slice's spare places count too). A statement '..UptoSaid' is the law's where the arguments, and the package variables that the reading takes, are together of bulk at most 1048576: NARROWER than '..Said'. Prove '..Said' where nothing that the law and all that it calls make is longer than what came in: it says more and counts as full. Else prove '..UptoSaid'. A law counts once. -/
mutual
def uptoBulk {H : Type} : DataW H → Nat
  | .lit (.string bytes) => bytes.length + 1
  | .lit _ => 1
  | .nil => 1
  | .ptr d => uptoBulk d + 1
  | .slice elems spare => uptoBulkAll elems + uptoBulkAll spare + 1
  | .agg parts => uptoBulkAll parts + 1
  | .iface _ d => uptoBulk d + 1
  | .map entries => uptoBulkEntries entries + 1
  | .held _ => 1
def uptoBulkAll {H : Type} : List (DataW H) → Nat
  | [] => 0
  | d :: r => uptoBulk d + uptoBulkAll r
def uptoBulkEntries {H : Type} : List (Lit × DataW H) → Nat
  | [] => 0
  | x :: r => uptoBulkEntry x + uptoBulkEntries r
def uptoBulkEntry {H : Type} : Lit × DataW H → Nat
  | (.string bytes, d) => bytes.length + uptoBulk d + 1
  | (_, d) => uptoBulk d + 1
 end
def uptoSmall : (H : Type) → List (DataW H) → Bool := fun _ ds => decide (uptoBulkAll ds ≤ 1048576)
def OpenSpec.upto (s : _root_.Go.ChangeSpec) : _root_.Go.OpenSpec := { _root_.Go.OpenSpec.ofChange s with cond := some uptoSmall }

/-- 'geofencelaw09.PlaneOrients', WHERE WHAT IT READS IS OF BULK AT MOST 1048576: true; the input reads as it did. -/
def planeOrientsUptoRow : OpenClaim := { program := "ytgdnkpngojbjpaa", sum := "79a45226d82114446040acae9a7fc2a4da9bc1ff7e8a764265d4f7288db67d7e", func := "geofence/geofencelaw09.PlaneOrients", spec := "planeOrients", inPlace := ["math.Float64bits", "math.Float64frombits", "math.archTrunc"], apart := false, narrowed := true }
def PlaneOrientsUptoSaid : Prop := planeOrientsUptoRow.holds Try.pinned (OpenSpec.upto planeOrientsSpec)

/-- 'geofencelaw09.PlaneMultiplies', WHERE WHAT IT READS IS OF BULK AT MOST 1048576: true; the input reads as it did. -/
def planeMultipliesUptoRow : OpenClaim := { program := "ytgdnkpngojbjpaa", sum := "79a45226d82114446040acae9a7fc2a4da9bc1ff7e8a764265d4f7288db67d7e", func := "geofence/geofencelaw09.PlaneMultiplies", spec := "planeMultiplies", inPlace := ["math.Float64bits", "math.Float64frombits", "math.archTrunc"], apart := false, narrowed := true }
def PlaneMultipliesUptoSaid : Prop := planeMultipliesUptoRow.holds Try.pinned (OpenSpec.upto planeMultipliesSpec)

/-- 'geofencelaw09.PlaneTurns', WHERE WHAT IT READS IS OF BULK AT MOST 1048576: true; the input reads as it did. -/
def planeTurnsUptoRow : OpenClaim := { program := "ytgdnkpngojbjpaa", sum := "79a45226d82114446040acae9a7fc2a4da9bc1ff7e8a764265d4f7288db67d7e", func := "geofence/geofencelaw09.PlaneTurns", spec := "planeTurns", inPlace := ["math.Float64bits", "math.Float64frombits", "math.archTrunc"], apart := false, narrowed := true }
def PlaneTurnsUptoSaid : Prop := planeTurnsUptoRow.holds Try.pinned (OpenSpec.upto planeTurnsSpec)

/-- 'geofencelaw09.PlaneConverts', WHERE WHAT IT READS IS OF BULK AT MOST 1048576: true; the input reads as it did. -/
def planeConvertsUptoRow : OpenClaim := { program := "ytgdnkpngojbjpaa", sum := "79a45226d82114446040acae9a7fc2a4da9bc1ff7e8a764265d4f7288db67d7e", func := "geofence/geofencelaw09.PlaneConverts", spec := "planeConverts", inPlace := ["math.Float64bits", "math.Float64frombits", "math.archTrunc"], apart := false, narrowed := true }
def PlaneConvertsUptoSaid : Prop := planeConvertsUptoRow.holds Try.pinned (OpenSpec.upto planeConvertsSpec)

/-- 'geofencelaw09.PlaneIntegers', WHERE WHAT IT READS IS OF BULK AT MOST 1048576: true; the input reads as it did. -/
def planeIntegersUptoRow : OpenClaim := { program := "ytgdnkpngojbjpaa", sum := "79a45226d82114446040acae9a7fc2a4da9bc1ff7e8a764265d4f7288db67d7e", func := "geofence/geofencelaw09.PlaneIntegers", spec := "planeIntegers", inPlace := ["math.Float64bits", "math.Float64frombits", "math.archTrunc"], apart := false, narrowed := true }
def PlaneIntegersUptoSaid : Prop := planeIntegersUptoRow.holds Try.pinned (OpenSpec.upto planeIntegersSpec)

/-- 'geofencelaw09.PlaneNorms', WHERE WHAT IT READS IS OF BULK AT MOST 1048576: true; the input reads as it did. -/
def planeNormsUptoRow : OpenClaim := { program := "ytgdnkpngojbjpaa", sum := "79a45226d82114446040acae9a7fc2a4da9bc1ff7e8a764265d4f7288db67d7e", func := "geofence/geofencelaw09.PlaneNorms", spec := "planeNorms", inPlace := ["math.Float64bits", "math.Float64frombits", "math.archTrunc"], apart := false, narrowed := true }
def PlaneNormsUptoSaid : Prop := planeNormsUptoRow.holds Try.pinned (OpenSpec.upto planeNormsSpec)

end Rows
end Go.Proofs.Ytgdnkpngojbjpaa
