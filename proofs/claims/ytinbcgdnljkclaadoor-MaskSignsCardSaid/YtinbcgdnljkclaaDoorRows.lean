/-
  NARROWER THAN 'FOR EVERY INPUT', by the rows' own cells (each row's printed sentence says how): MaskBits: laid · MaskComparesSigned: laid · MaskCompares: laid · MaskSigns: laid · MaskSelects: laid · MaskSwapIsInvolution: laid.
  DERIVED. THE GIVEN ROWS OF THIS SEAT. 6 by the template 'for every input the law returns true; each argument reads behind the call as it read before'; 0 by the template 'total and deterministic' (their statements: YtinbcgdnljkclaaDoorTotals.lean).
  GIVEN WITH THE SEED: the statements are not yours to turn. If you find one false, say at which input.
  Laid BY PROGRAM, IN A SANDBOX (cutbox-rows.mjs): the forced cells as the released guide's own fill.sh prints them over the translation 72033af4a7d9465f… (all of the seat's roots in one cut). By AI agents, Wed Nov 11 2026. No macro, syntax, notation, axiom, sorry.
-/
import Derived.Test.YtinbcgdnljkclaaDoorChecked
import GoSem.Claim
import GoSem.ClaimJoined
import GoSem.ClaimMapViews
import Derived.JoinedTies
import Derived.KernelRfl
namespace Go.Proofs.YtinbcgdnljkclaaDoor
/- THE CELL 'sum', in the pinned program and in every row, IS THE sha256 OF THE DUMP (.gsa) THAT YtinbcgdnljkclaaDoorProg.lean LOADS. Nothing in Lean hashes anything: it is a label: what it is worth is what the hold of that sum in a sandbox is worth. -/
noncomputable def Tryd.pinned : Pinned := { name := "ytinbcgdnljkclaadoor", sum := "72033af4a7d9465f7a0aa498b7df62ba153ad3b5cb0597231b15ffabec05a864", checked := Tryd.checked }
namespace Rows
def none {H : Type} : Left H := { results := [], args := [] }

/- WHAT THE LISTED PACKAGE-LEVEL VARIABLES READ AS WHEN THE CALL BEGINS. Each datum BY PROGRAM (the guide's laid-datum.mjs) off the statement by which the dump's own 'gosem.cut.vars' lays the variable. In a bare row this is a premise. The card (YtinbcgdnljkclaaDoorCards.lean) ties it to the program's text. -/
def laid_geofence_mask_words {H : Type} : DataW H := .agg [.lit (.int .u64 9223372036854775808), .lit (.int .u64 18446744073709551615)]

/-- 'geofencelaw01.MaskBits': WHATEVER THE INPUT: true; the input reads as it did. -/
def maskBitsSpec : ChangeSpec := { name := "maskBits", fn := fun _ => fun
  | [d] => { results := [.lit (.bool true)], args := [d] }
  | _ => none }
def maskBitsRow : OpenClaim := { program := "ytinbcgdnljkclaadoor", sum := "72033af4a7d9465f7a0aa498b7df62ba153ad3b5cb0597231b15ffabec05a864", func := "geofence/geofencelaw01.MaskBits", spec := "maskBits", named := ["geofence/mask.words"], apart := false, laid := [("geofence/mask.words", laid_geofence_mask_words)] }
def MaskBitsSaid : Prop := maskBitsRow.holds Tryd.pinned (OpenSpec.ofChange maskBitsSpec)

/-- ITS FALSE NEIGHBOUR: 'it returns false'. Refute it at one input. -/
def maskBitsWrong : ChangeSpec := { name := "maskBits", fn := fun _ => fun
  | [d] => { results := [.lit (.bool false)], args := [d] }
  | _ => none }
def MaskBitsWrongFalsely : Prop := maskBitsRow.holds Tryd.pinned (OpenSpec.ofChange maskBitsWrong)

/-- 'geofencelaw01.MaskComparesSigned': WHATEVER THE INPUT: true; the input reads as it did. -/
def maskComparesSignedSpec : ChangeSpec := { name := "maskComparesSigned", fn := fun _ => fun
  | [d1, d2] => { results := [.lit (.bool true)], args := [d1, d2] }
  | _ => none }
def maskComparesSignedRow : OpenClaim := { program := "ytinbcgdnljkclaadoor", sum := "72033af4a7d9465f7a0aa498b7df62ba153ad3b5cb0597231b15ffabec05a864", func := "geofence/geofencelaw01.MaskComparesSigned", spec := "maskComparesSigned", named := ["geofence/mask.words"], apart := false, laid := [("geofence/mask.words", laid_geofence_mask_words)] }
def MaskComparesSignedSaid : Prop := maskComparesSignedRow.holds Tryd.pinned (OpenSpec.ofChange maskComparesSignedSpec)

/-- ITS FALSE NEIGHBOUR: 'it returns false'. Refute it at one input. -/
def maskComparesSignedWrong : ChangeSpec := { name := "maskComparesSigned", fn := fun _ => fun
  | [d1, d2] => { results := [.lit (.bool false)], args := [d1, d2] }
  | _ => none }
def MaskComparesSignedWrongFalsely : Prop := maskComparesSignedRow.holds Tryd.pinned (OpenSpec.ofChange maskComparesSignedWrong)

/-- 'geofencelaw01.MaskCompares': WHATEVER THE INPUT: true; the input reads as it did. -/
def maskComparesSpec : ChangeSpec := { name := "maskCompares", fn := fun _ => fun
  | [d1, d2] => { results := [.lit (.bool true)], args := [d1, d2] }
  | _ => none }
def maskComparesRow : OpenClaim := { program := "ytinbcgdnljkclaadoor", sum := "72033af4a7d9465f7a0aa498b7df62ba153ad3b5cb0597231b15ffabec05a864", func := "geofence/geofencelaw01.MaskCompares", spec := "maskCompares", named := ["geofence/mask.words"], apart := false, laid := [("geofence/mask.words", laid_geofence_mask_words)] }
def MaskComparesSaid : Prop := maskComparesRow.holds Tryd.pinned (OpenSpec.ofChange maskComparesSpec)

/-- ITS FALSE NEIGHBOUR: 'it returns false'. Refute it at one input. -/
def maskComparesWrong : ChangeSpec := { name := "maskCompares", fn := fun _ => fun
  | [d1, d2] => { results := [.lit (.bool false)], args := [d1, d2] }
  | _ => none }
def MaskComparesWrongFalsely : Prop := maskComparesRow.holds Tryd.pinned (OpenSpec.ofChange maskComparesWrong)

/-- 'geofencelaw01.MaskSigns': WHATEVER THE INPUT: true; the input reads as it did. -/
def maskSignsSpec : ChangeSpec := { name := "maskSigns", fn := fun _ => fun
  | [d1, d2, d3] => { results := [.lit (.bool true)], args := [d1, d2, d3] }
  | _ => none }
def maskSignsRow : OpenClaim := { program := "ytinbcgdnljkclaadoor", sum := "72033af4a7d9465f7a0aa498b7df62ba153ad3b5cb0597231b15ffabec05a864", func := "geofence/geofencelaw01.MaskSigns", spec := "maskSigns", named := ["geofence/mask.words"], apart := false, laid := [("geofence/mask.words", laid_geofence_mask_words)] }
def MaskSignsSaid : Prop := maskSignsRow.holds Tryd.pinned (OpenSpec.ofChange maskSignsSpec)

/-- ITS FALSE NEIGHBOUR: 'it returns false'. Refute it at one input. -/
def maskSignsWrong : ChangeSpec := { name := "maskSigns", fn := fun _ => fun
  | [d1, d2, d3] => { results := [.lit (.bool false)], args := [d1, d2, d3] }
  | _ => none }
def MaskSignsWrongFalsely : Prop := maskSignsRow.holds Tryd.pinned (OpenSpec.ofChange maskSignsWrong)

/-- 'geofencelaw01.MaskSelects': WHATEVER THE INPUT: true; the input reads as it did. -/
def maskSelectsSpec : ChangeSpec := { name := "maskSelects", fn := fun _ => fun
  | [d1, d2, d3] => { results := [.lit (.bool true)], args := [d1, d2, d3] }
  | _ => none }
def maskSelectsRow : OpenClaim := { program := "ytinbcgdnljkclaadoor", sum := "72033af4a7d9465f7a0aa498b7df62ba153ad3b5cb0597231b15ffabec05a864", func := "geofence/geofencelaw01.MaskSelects", spec := "maskSelects", named := ["geofence/mask.words"], apart := false, laid := [("geofence/mask.words", laid_geofence_mask_words)] }
def MaskSelectsSaid : Prop := maskSelectsRow.holds Tryd.pinned (OpenSpec.ofChange maskSelectsSpec)

/-- ITS FALSE NEIGHBOUR: 'it returns false'. Refute it at one input. -/
def maskSelectsWrong : ChangeSpec := { name := "maskSelects", fn := fun _ => fun
  | [d1, d2, d3] => { results := [.lit (.bool false)], args := [d1, d2, d3] }
  | _ => none }
def MaskSelectsWrongFalsely : Prop := maskSelectsRow.holds Tryd.pinned (OpenSpec.ofChange maskSelectsWrong)

/-- 'geofencelaw01.MaskSwapIsInvolution': WHATEVER THE INPUT: true; the input reads as it did. -/
def maskSwapIsInvolutionSpec : ChangeSpec := { name := "maskSwapIsInvolution", fn := fun _ => fun
  | [d1, d2, d3] => { results := [.lit (.bool true)], args := [d1, d2, d3] }
  | _ => none }
def maskSwapIsInvolutionRow : OpenClaim := { program := "ytinbcgdnljkclaadoor", sum := "72033af4a7d9465f7a0aa498b7df62ba153ad3b5cb0597231b15ffabec05a864", func := "geofence/geofencelaw01.MaskSwapIsInvolution", spec := "maskSwapIsInvolution", named := ["geofence/mask.words"], apart := false, laid := [("geofence/mask.words", laid_geofence_mask_words)] }
def MaskSwapIsInvolutionSaid : Prop := maskSwapIsInvolutionRow.holds Tryd.pinned (OpenSpec.ofChange maskSwapIsInvolutionSpec)

/-- ITS FALSE NEIGHBOUR: 'it returns false'. Refute it at one input. -/
def maskSwapIsInvolutionWrong : ChangeSpec := { name := "maskSwapIsInvolution", fn := fun _ => fun
  | [d1, d2, d3] => { results := [.lit (.bool false)], args := [d1, d2, d3] }
  | _ => none }
def MaskSwapIsInvolutionWrongFalsely : Prop := maskSwapIsInvolutionRow.holds Tryd.pinned (OpenSpec.ofChange maskSwapIsInvolutionWrong)

/- THE SECOND FORM. 'bulk': how many values and letters a reading holds, each counted each time it is reached (what is shared counts as often as it is met; a slice's spare places count too). A statement '..UptoSaid' is the law's where the arguments, and the package variables that the reading takes, are together of bulk at most 1048576: NARROWER than '..Said'. Prove '..Said' where nothing that the law and all that it calls make is longer than what came in: it says more and counts as full. Else prove '..UptoSaid'. A law counts once. -/
mutual
def uptoBulk {H : Type} : DataW H → Nat
  | .lit (.string bytes) => bytes.length + 1
  | .lit _ => 1
  | .nil => 1
  | .ptr d => uptoBulk d + 1
  | .slice elems spare => uptoBulkAll elems + uptoBulkAll spare + 1
  | .agg parts => uptoBulkAll parts + 1
  | .iface _ d => uptoBulk d + 1
  | .map entries => uptoBulkEntries entries + 1
  | .held _ => 1
def uptoBulkAll {H : Type} : List (DataW H) → Nat
  | [] => 0
  | d :: r => uptoBulk d + uptoBulkAll r
def uptoBulkEntries {H : Type} : List (Lit × DataW H) → Nat
  | [] => 0
  | x :: r => uptoBulkEntry x + uptoBulkEntries r
def uptoBulkEntry {H : Type} : Lit × DataW H → Nat
  | (.string bytes, d) => bytes.length + uptoBulk d + 1
  | (_, d) => uptoBulk d + 1
 end
def uptoSmall : (H : Type) → List (DataW H) → Bool := fun _ ds => decide (uptoBulkAll ds ≤ 1048576)
def OpenSpec.upto (s : _root_.Go.ChangeSpec) : _root_.Go.OpenSpec := { _root_.Go.OpenSpec.ofChange s with cond := some uptoSmall }

/-- 'geofencelaw01.MaskBits', WHERE WHAT IT READS IS OF BULK AT MOST 1048576: true; the input reads as it did. -/
def maskBitsUptoRow : OpenClaim := { program := "ytinbcgdnljkclaadoor", sum := "72033af4a7d9465f7a0aa498b7df62ba153ad3b5cb0597231b15ffabec05a864", func := "geofence/geofencelaw01.MaskBits", spec := "maskBits", named := ["geofence/mask.words"], apart := false, laid := [("geofence/mask.words", laid_geofence_mask_words)], narrowed := true }
def MaskBitsUptoSaid : Prop := maskBitsUptoRow.holds Tryd.pinned (OpenSpec.upto maskBitsSpec)

/-- 'geofencelaw01.MaskComparesSigned', WHERE WHAT IT READS IS OF BULK AT MOST 1048576: true; the input reads as it did. -/
def maskComparesSignedUptoRow : OpenClaim := { program := "ytinbcgdnljkclaadoor", sum := "72033af4a7d9465f7a0aa498b7df62ba153ad3b5cb0597231b15ffabec05a864", func := "geofence/geofencelaw01.MaskComparesSigned", spec := "maskComparesSigned", named := ["geofence/mask.words"], apart := false, laid := [("geofence/mask.words", laid_geofence_mask_words)], narrowed := true }
def MaskComparesSignedUptoSaid : Prop := maskComparesSignedUptoRow.holds Tryd.pinned (OpenSpec.upto maskComparesSignedSpec)

/-- 'geofencelaw01.MaskCompares', WHERE WHAT IT READS IS OF BULK AT MOST 1048576: true; the input reads as it did. -/
def maskComparesUptoRow : OpenClaim := { program := "ytinbcgdnljkclaadoor", sum := "72033af4a7d9465f7a0aa498b7df62ba153ad3b5cb0597231b15ffabec05a864", func := "geofence/geofencelaw01.MaskCompares", spec := "maskCompares", named := ["geofence/mask.words"], apart := false, laid := [("geofence/mask.words", laid_geofence_mask_words)], narrowed := true }
def MaskComparesUptoSaid : Prop := maskComparesUptoRow.holds Tryd.pinned (OpenSpec.upto maskComparesSpec)

/-- 'geofencelaw01.MaskSigns', WHERE WHAT IT READS IS OF BULK AT MOST 1048576: true; the input reads as it did. -/
def maskSignsUptoRow : OpenClaim := { program := "ytinbcgdnljkclaadoor", sum := "72033af4a7d9465f7a0aa498b7df62ba153ad3b5cb0597231b15ffabec05a864", func := "geofence/geofencelaw01.MaskSigns", spec := "maskSigns", named := ["geofence/mask.words"], apart := false, laid := [("geofence/mask.words", laid_geofence_mask_words)], narrowed := true }
def MaskSignsUptoSaid : Prop := maskSignsUptoRow.holds Tryd.pinned (OpenSpec.upto maskSignsSpec)

/-- 'geofencelaw01.MaskSelects', WHERE WHAT IT READS IS OF BULK AT MOST 1048576: true; the input reads as it did. -/
def maskSelectsUptoRow : OpenClaim := { program := "ytinbcgdnljkclaadoor", sum := "72033af4a7d9465f7a0aa498b7df62ba153ad3b5cb0597231b15ffabec05a864", func := "geofence/geofencelaw01.MaskSelects", spec := "maskSelects", named := ["geofence/mask.words"], apart := false, laid := [("geofence/mask.words", laid_geofence_mask_words)], narrowed := true }
def MaskSelectsUptoSaid : Prop := maskSelectsUptoRow.holds Tryd.pinned (OpenSpec.upto maskSelectsSpec)

/-- 'geofencelaw01.MaskSwapIsInvolution', WHERE WHAT IT READS IS OF BULK AT MOST 1048576: true; the input reads as it did. -/
def maskSwapIsInvolutionUptoRow : OpenClaim := { program := "ytinbcgdnljkclaadoor", sum := "72033af4a7d9465f7a0aa498b7df62ba153ad3b5cb0597231b15ffabec05a864", func := "geofence/geofencelaw01.MaskSwapIsInvolution", spec := "maskSwapIsInvolution", named := ["geofence/mask.words"], apart := false, laid := [("geofence/mask.words", laid_geofence_mask_words)], narrowed := true }
def MaskSwapIsInvolutionUptoSaid : Prop := maskSwapIsInvolutionUptoRow.holds Tryd.pinned (OpenSpec.upto maskSwapIsInvolutionSpec)

end Rows
end Go.Proofs.YtinbcgdnljkclaaDoor
