/-
  No cell of these rows narrows 'for every input' (looked for: loops, veiled, ifaces, maps, wideKeys, modest, calm, conditions, laid).
  DERIVED. THE GIVEN ROWS OF THIS SEAT. 6 by the template 'for every input the law returns true; each argument reads behind the call as it read before'; 0 by the template 'total and deterministic' (their statements: YtoefjgcehmcbcaaTotals.lean).
  GIVEN WITH THE SEED: the statements are not yours to turn. If you find one false, say at which input.
  Laid BY PROGRAM, IN A SANDBOX (cutbox-rows.mjs): the forced cells as the released guide's own fill.sh prints them over the translation 868cbd7cb426f344… (all of the seat's roots in one cut). By AI agents, Wed Nov 11 2026. No macro, syntax, notation, axiom, sorry.
-/
import Derived.Test.YtoefjgcehmcbcaaChecked
import GoSem.Claim
import GoSem.ClaimJoined
import GoSem.ClaimMapViews
import Derived.JoinedTies
import Derived.KernelRfl
namespace Go.Proofs.Ytoefjgcehmcbcaa
/- THE CELL 'sum', in the pinned program and in every row, IS THE sha256 OF THE DUMP (.gsa) THAT YtoefjgcehmcbcaaProg.lean LOADS. Nothing in Lean hashes anything: it is a label: what it is worth is what the hold of that sum in a sandbox is worth. -/
noncomputable def Try.pinned : Pinned := { name := "ytoefjgcehmcbcaa", sum := "868cbd7cb426f344e6057c11d2fac785cce8bf9699de4b936b72b35797137920", checked := Try.checked }
namespace Rows
def none {H : Type} : Left H := { results := [], args := [] }

/-- 'geofencelaw10.TapeRecords': WHATEVER THE INPUT: true; the input reads as it did. -/
def tapeRecordsSpec : ChangeSpec := { name := "tapeRecords", fn := fun _ => fun
  | [d1, d2] => { results := [.lit (.bool true)], args := [d1, d2] }
  | _ => none }
def tapeRecordsRow : OpenClaim := { program := "ytoefjgcehmcbcaa", sum := "868cbd7cb426f344e6057c11d2fac785cce8bf9699de4b936b72b35797137920", func := "geofence/geofencelaw10.TapeRecords", spec := "tapeRecords", apart := false }
def TapeRecordsSaid : Prop := tapeRecordsRow.holds Try.pinned (OpenSpec.ofChange tapeRecordsSpec)

/-- ITS FALSE NEIGHBOUR: 'it returns false'. Refute it at one input. -/
def tapeRecordsWrong : ChangeSpec := { name := "tapeRecords", fn := fun _ => fun
  | [d1, d2] => { results := [.lit (.bool false)], args := [d1, d2] }
  | _ => none }
def TapeRecordsWrongFalsely : Prop := tapeRecordsRow.holds Try.pinned (OpenSpec.ofChange tapeRecordsWrong)

/-- 'geofencelaw10.TapeCompares': WHATEVER THE INPUT: true; the input reads as it did. -/
def tapeComparesSpec : ChangeSpec := { name := "tapeCompares", fn := fun _ => fun
  | [d1, d2] => { results := [.lit (.bool true)], args := [d1, d2] }
  | _ => none }
def tapeComparesRow : OpenClaim := { program := "ytoefjgcehmcbcaa", sum := "868cbd7cb426f344e6057c11d2fac785cce8bf9699de4b936b72b35797137920", func := "geofence/geofencelaw10.TapeCompares", spec := "tapeCompares", apart := false }
def TapeComparesSaid : Prop := tapeComparesRow.holds Try.pinned (OpenSpec.ofChange tapeComparesSpec)

/-- ITS FALSE NEIGHBOUR: 'it returns false'. Refute it at one input. -/
def tapeComparesWrong : ChangeSpec := { name := "tapeCompares", fn := fun _ => fun
  | [d1, d2] => { results := [.lit (.bool false)], args := [d1, d2] }
  | _ => none }
def TapeComparesWrongFalsely : Prop := tapeComparesRow.holds Try.pinned (OpenSpec.ofChange tapeComparesWrong)

/-- 'geofencelaw10.TapeIsolated': WHATEVER THE INPUT: true; the input reads as it did. -/
def tapeIsolatedSpec : ChangeSpec := { name := "tapeIsolated", fn := fun _ => fun
  | [d1, d2] => { results := [.lit (.bool true)], args := [d1, d2] }
  | _ => none }
def tapeIsolatedRow : OpenClaim := { program := "ytoefjgcehmcbcaa", sum := "868cbd7cb426f344e6057c11d2fac785cce8bf9699de4b936b72b35797137920", func := "geofence/geofencelaw10.TapeIsolated", spec := "tapeIsolated", apart := false }
def TapeIsolatedSaid : Prop := tapeIsolatedRow.holds Try.pinned (OpenSpec.ofChange tapeIsolatedSpec)

/-- ITS FALSE NEIGHBOUR: 'it returns false'. Refute it at one input. -/
def tapeIsolatedWrong : ChangeSpec := { name := "tapeIsolated", fn := fun _ => fun
  | [d1, d2] => { results := [.lit (.bool false)], args := [d1, d2] }
  | _ => none }
def TapeIsolatedWrongFalsely : Prop := tapeIsolatedRow.holds Try.pinned (OpenSpec.ofChange tapeIsolatedWrong)

/-- 'geofencelaw10.TapeSums': WHATEVER THE INPUT: true; the input reads as it did. -/
def tapeSumsSpec : ChangeSpec := { name := "tapeSums", fn := fun _ => fun
  | [d] => { results := [.lit (.bool true)], args := [d] }
  | _ => none }
def tapeSumsRow : OpenClaim := { program := "ytoefjgcehmcbcaa", sum := "868cbd7cb426f344e6057c11d2fac785cce8bf9699de4b936b72b35797137920", func := "geofence/geofencelaw10.TapeSums", spec := "tapeSums", apart := false }
def TapeSumsSaid : Prop := tapeSumsRow.holds Try.pinned (OpenSpec.ofChange tapeSumsSpec)

/-- ITS FALSE NEIGHBOUR: 'it returns false'. Refute it at one input. -/
def tapeSumsWrong : ChangeSpec := { name := "tapeSums", fn := fun _ => fun
  | [d] => { results := [.lit (.bool false)], args := [d] }
  | _ => none }
def TapeSumsWrongFalsely : Prop := tapeSumsRow.holds Try.pinned (OpenSpec.ofChange tapeSumsWrong)

/-- 'geofencelaw10.TapeNil': WHATEVER THE INPUT: true; the input reads as it did. -/
def tapeNilSpec : ChangeSpec := { name := "tapeNil", fn := fun _ => fun
  | [d1, d2] => { results := [.lit (.bool true)], args := [d1, d2] }
  | _ => none }
def tapeNilRow : OpenClaim := { program := "ytoefjgcehmcbcaa", sum := "868cbd7cb426f344e6057c11d2fac785cce8bf9699de4b936b72b35797137920", func := "geofence/geofencelaw10.TapeNil", spec := "tapeNil", apart := false }
def TapeNilSaid : Prop := tapeNilRow.holds Try.pinned (OpenSpec.ofChange tapeNilSpec)

/-- ITS FALSE NEIGHBOUR: 'it returns false'. Refute it at one input. -/
def tapeNilWrong : ChangeSpec := { name := "tapeNil", fn := fun _ => fun
  | [d1, d2] => { results := [.lit (.bool false)], args := [d1, d2] }
  | _ => none }
def TapeNilWrongFalsely : Prop := tapeNilRow.holds Try.pinned (OpenSpec.ofChange tapeNilWrong)

/-- 'geofencelaw10.TapePrefixes': WHATEVER THE INPUT: true; the input reads as it did. -/
def tapePrefixesSpec : ChangeSpec := { name := "tapePrefixes", fn := fun _ => fun
  | [d1, d2] => { results := [.lit (.bool true)], args := [d1, d2] }
  | _ => none }
def tapePrefixesRow : OpenClaim := { program := "ytoefjgcehmcbcaa", sum := "868cbd7cb426f344e6057c11d2fac785cce8bf9699de4b936b72b35797137920", func := "geofence/geofencelaw10.TapePrefixes", spec := "tapePrefixes", apart := false }
def TapePrefixesSaid : Prop := tapePrefixesRow.holds Try.pinned (OpenSpec.ofChange tapePrefixesSpec)

/-- ITS FALSE NEIGHBOUR: 'it returns false'. Refute it at one input. -/
def tapePrefixesWrong : ChangeSpec := { name := "tapePrefixes", fn := fun _ => fun
  | [d1, d2] => { results := [.lit (.bool false)], args := [d1, d2] }
  | _ => none }
def TapePrefixesWrongFalsely : Prop := tapePrefixesRow.holds Try.pinned (OpenSpec.ofChange tapePrefixesWrong)

/- THE SECOND FORM. 'bulk': how many values and letters a reading holds, each counted each time it is reached (what is shared counts as often as it is met; a slice's spare places count too). A statement '..UptoSaid' is the law's where the arguments, and the package variables that the reading takes, are together of bulk at most 1048576: NARROWER than '..Said'. Prove '..Said' where nothing that the law and all that it calls make is longer than what came in: it says more and counts as full. Else prove '..UptoSaid'. A law counts once. -/
mutual
def uptoBulk {H : Type} : DataW H → Nat
  | .lit (.string bytes) => bytes.length + 1
  | .lit _ => 1
  | .nil => 1
  | .ptr d => uptoBulk d + 1
  | .slice elems spare => uptoBulkAll elems + uptoBulkAll spare + 1
  | .agg parts => uptoBulkAll parts + 1
  | .iface _ d => uptoBulk d + 1
  | .map entries => uptoBulkEntries entries + 1
  | .held _ => 1
def uptoBulkAll {H : Type} : List (DataW H) → Nat
  | [] => 0
  | d :: r => uptoBulk d + uptoBulkAll r
def uptoBulkEntries {H : Type} : List (Lit × DataW H) → Nat
  | [] => 0
  | x :: r => uptoBulkEntry x + uptoBulkEntries r
def uptoBulkEntry {H : Type} : Lit × DataW H → Nat
  | (.string bytes, d) => bytes.length + uptoBulk d + 1
  | (_, d) => uptoBulk d + 1
 end
def uptoSmall : (H : Type) → List (DataW H) → Bool := fun _ ds => decide (uptoBulkAll ds ≤ 1048576)
def OpenSpec.upto (s : _root_.Go.ChangeSpec) : _root_.Go.OpenSpec := { _root_.Go.OpenSpec.ofChange s with cond := some uptoSmall }

/-- 'geofencelaw10.TapeRecords', WHERE WHAT IT READS IS OF BULK AT MOST 1048576: true; the input reads as it did. -/
def tapeRecordsUptoRow : OpenClaim := { program := "ytoefjgcehmcbcaa", sum := "868cbd7cb426f344e6057c11d2fac785cce8bf9699de4b936b72b35797137920", func := "geofence/geofencelaw10.TapeRecords", spec := "tapeRecords", apart := false, narrowed := true }
def TapeRecordsUptoSaid : Prop := tapeRecordsUptoRow.holds Try.pinned (OpenSpec.upto tapeRecordsSpec)

/-- 'geofencelaw10.TapeCompares', WHERE WHAT IT READS IS OF BULK AT MOST 1048576: true; the input reads as it did. -/
def tapeComparesUptoRow : OpenClaim := { program := "ytoefjgcehmcbcaa", sum := "868cbd7cb426f344e6057c11d2fac785cce8bf9699de4b936b72b35797137920", func := "geofence/geofencelaw10.TapeCompares", spec := "tapeCompares", apart := false, narrowed := true }
def TapeComparesUptoSaid : Prop := tapeComparesUptoRow.holds Try.pinned (OpenSpec.upto tapeComparesSpec)

/-- 'geofencelaw10.TapeIsolated', WHERE WHAT IT READS IS OF BULK AT MOST 1048576: true; the input reads as it did. -/
def tapeIsolatedUptoRow : OpenClaim := { program := "ytoefjgcehmcbcaa", sum := "868cbd7cb426f344e6057c11d2fac785cce8bf9699de4b936b72b35797137920", func := "geofence/geofencelaw10.TapeIsolated", spec := "tapeIsolated", apart := false, narrowed := true }
def TapeIsolatedUptoSaid : Prop := tapeIsolatedUptoRow.holds Try.pinned (OpenSpec.upto tapeIsolatedSpec)

/-- 'geofencelaw10.TapeSums', WHERE WHAT IT READS IS OF BULK AT MOST 1048576: true; the input reads as it did. -/
def tapeSumsUptoRow : OpenClaim := { program := "ytoefjgcehmcbcaa", sum := "868cbd7cb426f344e6057c11d2fac785cce8bf9699de4b936b72b35797137920", func := "geofence/geofencelaw10.TapeSums", spec := "tapeSums", apart := false, narrowed := true }
def TapeSumsUptoSaid : Prop := tapeSumsUptoRow.holds Try.pinned (OpenSpec.upto tapeSumsSpec)

/-- 'geofencelaw10.TapeNil', WHERE WHAT IT READS IS OF BULK AT MOST 1048576: true; the input reads as it did. -/
def tapeNilUptoRow : OpenClaim := { program := "ytoefjgcehmcbcaa", sum := "868cbd7cb426f344e6057c11d2fac785cce8bf9699de4b936b72b35797137920", func := "geofence/geofencelaw10.TapeNil", spec := "tapeNil", apart := false, narrowed := true }
def TapeNilUptoSaid : Prop := tapeNilUptoRow.holds Try.pinned (OpenSpec.upto tapeNilSpec)

/-- 'geofencelaw10.TapePrefixes', WHERE WHAT IT READS IS OF BULK AT MOST 1048576: true; the input reads as it did. -/
def tapePrefixesUptoRow : OpenClaim := { program := "ytoefjgcehmcbcaa", sum := "868cbd7cb426f344e6057c11d2fac785cce8bf9699de4b936b72b35797137920", func := "geofence/geofencelaw10.TapePrefixes", spec := "tapePrefixes", apart := false, narrowed := true }
def TapePrefixesUptoSaid : Prop := tapePrefixesUptoRow.holds Try.pinned (OpenSpec.upto tapePrefixesSpec)

end Rows
end Go.Proofs.Ytoefjgcehmcbcaa
