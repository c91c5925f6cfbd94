/-
  NARROWER THAN 'FOR EVERY INPUT', by the rows' own cells (each row's printed sentence says how): TopClassifier: laid · TopTranslates: laid · TopTransposes: laid · TopTriangles: laid · TopMiddles: laid.
  DERIVED. THE GIVEN ROWS OF THIS SEAT. 5 by the template 'for every input the law returns true; each argument reads behind the call as it read before'; 0 by the template 'total and deterministic' (their statements: YtmoajobnhiopiaaGreatDoorTotals.lean).
  GIVEN WITH THE SEED: the statements are not yours to turn. If you find one false, say at which input.
  Laid BY PROGRAM, IN A SANDBOX (cutbox-rows.mjs): the forced cells as the released guide's own fill.sh prints them over the translation 38958c6ad75f40fe… (all of the seat's roots in one cut). By AI agents, Wed Nov 11 2026. No macro, syntax, notation, axiom, sorry.
-/
import Derived.Test.YtmoajobnhiopiaaGreatDoorChecked
import GoSem.Claim
import GoSem.ClaimJoined
import GoSem.ClaimMapViews
import Derived.JoinedTies
import Derived.KernelRfl
namespace Go.Proofs.YtmoajobnhiopiaaGreatDoor
/- THE CELL 'sum', in the pinned program and in every row, IS THE sha256 OF THE DUMP (.gsa) THAT YtmoajobnhiopiaaGreatDoorProg.lean LOADS. Nothing in Lean hashes anything: it is a label: what it is worth is what the hold of that sum in a sandbox is worth. -/
noncomputable def Tryz.pinned : Pinned := { name := "ytmoajobnhiopiaagreatdoor", sum := "38958c6ad75f40fefa095e78c0404ad5bdd1c01fe67a673494891946bd24d97f", checked := Tryz.checked }
namespace Rows
def none {H : Type} : Left H := { results := [], args := [] }

/- WHAT THE LISTED PACKAGE-LEVEL VARIABLES READ AS WHEN THE CALL BEGINS. Each datum BY PROGRAM (the guide's laid-datum.mjs) off the statement by which the dump's own 'gosem.cut.vars' lays the variable. In a bare row this is a premise. The card (YtmoajobnhiopiaaGreatDoorCards.lean) ties it to the program's text. -/
def laid_geofence_mask_words {H : Type} : DataW H := .agg [.lit (.int .u64 9223372036854775808), .lit (.int .u64 18446744073709551615)]
def laid_geofence_header_fixed {H : Type} : DataW H := .agg [.lit (.int .i64 0), .lit (.int .i64 3), .lit (.int .i64 4), .lit (.int .i64 1), .lit (.int .i64 1), .lit (.int .i64 0)]

/-- 'geofencetop.TopClassifier': WHATEVER THE INPUT: true; the input reads as it did. -/
def topClassifierSpec : ChangeSpec := { name := "topClassifier", fn := fun _ => fun
  | [d1, d2] => { results := [.lit (.bool true)], args := [d1, d2] }
  | _ => none }
def topClassifierRow : OpenClaim := { program := "ytmoajobnhiopiaagreatdoor", sum := "38958c6ad75f40fefa095e78c0404ad5bdd1c01fe67a673494891946bd24d97f", func := "geofence/geofencetop.TopClassifier", spec := "topClassifier", inPlace := ["math/bits.Sub64", "math/bits.Add64"], unfollowed := true, recurses := true, named := ["geofence/header.fixed", "geofence/mask.words"], apart := false, laid := [("geofence/mask.words", laid_geofence_mask_words), ("geofence/header.fixed", laid_geofence_header_fixed)] }
def TopClassifierSaid : Prop := topClassifierRow.holds Tryz.pinned (OpenSpec.ofChange topClassifierSpec)

/-- ITS FALSE NEIGHBOUR: 'it returns false'. Refute it at one input. -/
def topClassifierWrong : ChangeSpec := { name := "topClassifier", fn := fun _ => fun
  | [d1, d2] => { results := [.lit (.bool false)], args := [d1, d2] }
  | _ => none }
def TopClassifierWrongFalsely : Prop := topClassifierRow.holds Tryz.pinned (OpenSpec.ofChange topClassifierWrong)

/-- 'geofencetop.TopTranslates': WHATEVER THE INPUT: true; the input reads as it did. -/
def topTranslatesSpec : ChangeSpec := { name := "topTranslates", fn := fun _ => fun
  | [d1, d2, d3] => { results := [.lit (.bool true)], args := [d1, d2, d3] }
  | _ => none }
def topTranslatesRow : OpenClaim := { program := "ytmoajobnhiopiaagreatdoor", sum := "38958c6ad75f40fefa095e78c0404ad5bdd1c01fe67a673494891946bd24d97f", func := "geofence/geofencetop.TopTranslates", spec := "topTranslates", inPlace := ["math/bits.Sub64", "math/bits.Add64"], unfollowed := true, recurses := true, named := ["geofence/header.fixed", "geofence/mask.words"], apart := false, laid := [("geofence/mask.words", laid_geofence_mask_words), ("geofence/header.fixed", laid_geofence_header_fixed)] }
def TopTranslatesSaid : Prop := topTranslatesRow.holds Tryz.pinned (OpenSpec.ofChange topTranslatesSpec)

/-- ITS FALSE NEIGHBOUR: 'it returns false'. Refute it at one input. -/
def topTranslatesWrong : ChangeSpec := { name := "topTranslates", fn := fun _ => fun
  | [d1, d2, d3] => { results := [.lit (.bool false)], args := [d1, d2, d3] }
  | _ => none }
def TopTranslatesWrongFalsely : Prop := topTranslatesRow.holds Tryz.pinned (OpenSpec.ofChange topTranslatesWrong)

/-- 'geofencetop.TopTransposes': WHATEVER THE INPUT: true; the input reads as it did. -/
def topTransposesSpec : ChangeSpec := { name := "topTransposes", fn := fun _ => fun
  | [d1, d2] => { results := [.lit (.bool true)], args := [d1, d2] }
  | _ => none }
def topTransposesRow : OpenClaim := { program := "ytmoajobnhiopiaagreatdoor", sum := "38958c6ad75f40fefa095e78c0404ad5bdd1c01fe67a673494891946bd24d97f", func := "geofence/geofencetop.TopTransposes", spec := "topTransposes", inPlace := ["math/bits.Sub64", "math/bits.Add64"], unfollowed := true, recurses := true, named := ["geofence/mask.words", "geofence/header.fixed"], apart := false, laid := [("geofence/mask.words", laid_geofence_mask_words), ("geofence/header.fixed", laid_geofence_header_fixed)] }
def TopTransposesSaid : Prop := topTransposesRow.holds Tryz.pinned (OpenSpec.ofChange topTransposesSpec)

/-- ITS FALSE NEIGHBOUR: 'it returns false'. Refute it at one input. -/
def topTransposesWrong : ChangeSpec := { name := "topTransposes", fn := fun _ => fun
  | [d1, d2] => { results := [.lit (.bool false)], args := [d1, d2] }
  | _ => none }
def TopTransposesWrongFalsely : Prop := topTransposesRow.holds Tryz.pinned (OpenSpec.ofChange topTransposesWrong)

/-- 'geofencetop.TopTriangles': WHATEVER THE INPUT: true; the input reads as it did. -/
def topTrianglesSpec : ChangeSpec := { name := "topTriangles", fn := fun _ => fun
  | [d] => { results := [.lit (.bool true)], args := [d] }
  | _ => none }
def topTrianglesRow : OpenClaim := { program := "ytmoajobnhiopiaagreatdoor", sum := "38958c6ad75f40fefa095e78c0404ad5bdd1c01fe67a673494891946bd24d97f", func := "geofence/geofencetop.TopTriangles", spec := "topTriangles", inPlace := ["math/bits.Sub64", "math/bits.Add64"], unfollowed := true, recurses := true, named := ["geofence/mask.words", "geofence/header.fixed"], apart := false, laid := [("geofence/mask.words", laid_geofence_mask_words), ("geofence/header.fixed", laid_geofence_header_fixed)] }
def TopTrianglesSaid : Prop := topTrianglesRow.holds Tryz.pinned (OpenSpec.ofChange topTrianglesSpec)

/-- ITS FALSE NEIGHBOUR: 'it returns false'. Refute it at one input. -/
def topTrianglesWrong : ChangeSpec := { name := "topTriangles", fn := fun _ => fun
  | [d] => { results := [.lit (.bool false)], args := [d] }
  | _ => none }
def TopTrianglesWrongFalsely : Prop := topTrianglesRow.holds Tryz.pinned (OpenSpec.ofChange topTrianglesWrong)

/-- 'geofencetop.TopMiddles': WHATEVER THE INPUT: true; the input reads as it did. -/
def topMiddlesSpec : ChangeSpec := { name := "topMiddles", fn := fun _ => fun
  | [d1, d2, d3] => { results := [.lit (.bool true)], args := [d1, d2, d3] }
  | _ => none }
def topMiddlesRow : OpenClaim := { program := "ytmoajobnhiopiaagreatdoor", sum := "38958c6ad75f40fefa095e78c0404ad5bdd1c01fe67a673494891946bd24d97f", func := "geofence/geofencetop.TopMiddles", spec := "topMiddles", inPlace := ["math/bits.Sub64", "math/bits.Add64"], unfollowed := true, recurses := true, named := ["geofence/mask.words", "geofence/header.fixed"], apart := false, laid := [("geofence/mask.words", laid_geofence_mask_words), ("geofence/header.fixed", laid_geofence_header_fixed)] }
def TopMiddlesSaid : Prop := topMiddlesRow.holds Tryz.pinned (OpenSpec.ofChange topMiddlesSpec)

/-- ITS FALSE NEIGHBOUR: 'it returns false'. Refute it at one input. -/
def topMiddlesWrong : ChangeSpec := { name := "topMiddles", fn := fun _ => fun
  | [d1, d2, d3] => { results := [.lit (.bool false)], args := [d1, d2, d3] }
  | _ => none }
def TopMiddlesWrongFalsely : Prop := topMiddlesRow.holds Tryz.pinned (OpenSpec.ofChange topMiddlesWrong)

/- THE SECOND FORM. 'bulk': how many values and letters a reading holds, each counted each time it is reached (what is shared counts as often as it is met; a slice's spare places count too). A statement '..UptoSaid' is the law's where the arguments, and the package variables that the reading takes, are together of bulk at most 1048576: NARROWER than '..Said'. Prove '..Said' where nothing that the law and all that it calls make is longer than what came in: it says more and counts as full. Else prove '..UptoSaid'. A law counts once. -/
mutual
def uptoBulk {H : Type} : DataW H → Nat
  | .lit (.string bytes) => bytes.length + 1
  | .lit _ => 1
  | .nil => 1
  | .ptr d => uptoBulk d + 1
  | .slice elems spare => uptoBulkAll elems + uptoBulkAll spare + 1
  | .agg parts => uptoBulkAll parts + 1
  | .iface _ d => uptoBulk d + 1
  | .map entries => uptoBulkEntries entries + 1
  | .held _ => 1
def uptoBulkAll {H : Type} : List (DataW H) → Nat
  | [] => 0
  | d :: r => uptoBulk d + uptoBulkAll r
def uptoBulkEntries {H : Type} : List (Lit × DataW H) → Nat
  | [] => 0
  | x :: r => uptoBulkEntry x + uptoBulkEntries r
def uptoBulkEntry {H : Type} : Lit × DataW H → Nat
  | (.string bytes, d) => bytes.length + uptoBulk d + 1
  | (_, d) => uptoBulk d + 1
 end
def uptoSmall : (H : Type) → List (DataW H) → Bool := fun _ ds => decide (uptoBulkAll ds ≤ 1048576)
def OpenSpec.upto (s : _root_.Go.ChangeSpec) : _root_.Go.OpenSpec := { _root_.Go.OpenSpec.ofChange s with cond := some uptoSmall }

/-- 'geofencetop.TopClassifier', WHERE WHAT IT READS IS OF BULK AT MOST 1048576: true; the input reads as it did. -/
def topClassifierUptoRow : OpenClaim := { program := "ytmoajobnhiopiaagreatdoor", sum := "38958c6ad75f40fefa095e78c0404ad5bdd1c01fe67a673494891946bd24d97f", func := "geofence/geofencetop.TopClassifier", spec := "topClassifier", inPlace := ["math/bits.Sub64", "math/bits.Add64"], unfollowed := true, recurses := true, named := ["geofence/header.fixed", "geofence/mask.words"], apart := false, laid := [("geofence/mask.words", laid_geofence_mask_words), ("geofence/header.fixed", laid_geofence_header_fixed)], narrowed := true }
def TopClassifierUptoSaid : Prop := topClassifierUptoRow.holds Tryz.pinned (OpenSpec.upto topClassifierSpec)

/-- 'geofencetop.TopTranslates', WHERE WHAT IT READS IS OF BULK AT MOST 1048576: true; the input reads as it did. -/
def topTranslatesUptoRow : OpenClaim := { program := "ytmoajobnhiopiaagreatdoor", sum := "38958c6ad75f40fefa095e78c0404ad5bdd1c01fe67a673494891946bd24d97f", func := "geofence/geofencetop.TopTranslates", spec := "topTranslates", inPlace := ["math/bits.Sub64", "math/bits.Add64"], unfollowed := true, recurses := true, named := ["geofence/header.fixed", "geofence/mask.words"], apart := false, laid := [("geofence/mask.words", laid_geofence_mask_words), ("geofence/header.fixed", laid_geofence_header_fixed)], narrowed := true }
def TopTranslatesUptoSaid : Prop := topTranslatesUptoRow.holds Tryz.pinned (OpenSpec.upto topTranslatesSpec)

/-- 'geofencetop.TopTransposes', WHERE WHAT IT READS IS OF BULK AT MOST 1048576: true; the input reads as it did. -/
def topTransposesUptoRow : OpenClaim := { program := "ytmoajobnhiopiaagreatdoor", sum := "38958c6ad75f40fefa095e78c0404ad5bdd1c01fe67a673494891946bd24d97f", func := "geofence/geofencetop.TopTransposes", spec := "topTransposes", inPlace := ["math/bits.Sub64", "math/bits.Add64"], unfollowed := true, recurses := true, named := ["geofence/mask.words", "geofence/header.fixed"], apart := false, laid := [("geofence/mask.words", laid_geofence_mask_words), ("geofence/header.fixed", laid_geofence_header_fixed)], narrowed := true }
def TopTransposesUptoSaid : Prop := topTransposesUptoRow.holds Tryz.pinned (OpenSpec.upto topTransposesSpec)

/-- 'geofencetop.TopTriangles', WHERE WHAT IT READS IS OF BULK AT MOST 1048576: true; the input reads as it did. -/
def topTrianglesUptoRow : OpenClaim := { program := "ytmoajobnhiopiaagreatdoor", sum := "38958c6ad75f40fefa095e78c0404ad5bdd1c01fe67a673494891946bd24d97f", func := "geofence/geofencetop.TopTriangles", spec := "topTriangles", inPlace := ["math/bits.Sub64", "math/bits.Add64"], unfollowed := true, recurses := true, named := ["geofence/mask.words", "geofence/header.fixed"], apart := false, laid := [("geofence/mask.words", laid_geofence_mask_words), ("geofence/header.fixed", laid_geofence_header_fixed)], narrowed := true }
def TopTrianglesUptoSaid : Prop := topTrianglesUptoRow.holds Tryz.pinned (OpenSpec.upto topTrianglesSpec)

/-- 'geofencetop.TopMiddles', WHERE WHAT IT READS IS OF BULK AT MOST 1048576: true; the input reads as it did. -/
def topMiddlesUptoRow : OpenClaim := { program := "ytmoajobnhiopiaagreatdoor", sum := "38958c6ad75f40fefa095e78c0404ad5bdd1c01fe67a673494891946bd24d97f", func := "geofence/geofencetop.TopMiddles", spec := "topMiddles", inPlace := ["math/bits.Sub64", "math/bits.Add64"], unfollowed := true, recurses := true, named := ["geofence/mask.words", "geofence/header.fixed"], apart := false, laid := [("geofence/mask.words", laid_geofence_mask_words), ("geofence/header.fixed", laid_geofence_header_fixed)], narrowed := true }
def TopMiddlesUptoSaid : Prop := topMiddlesUptoRow.holds Tryz.pinned (OpenSpec.upto topMiddlesSpec)

end Rows
end Go.Proofs.YtmoajobnhiopiaaGreatDoor
