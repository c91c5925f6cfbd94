/-
  DERIVED. GIVEN WITH THE SEED: THE CARDS: each row of YtinbcgdnljkclaaDoorRows.lean that lists a variable, with what it lists TIED to the program's text (the seventh form; the later family's looks); each row that meets fmt, with fmt's text TOLD by the authors' own Lean function (tested against real Go, not proved from fmt's source: count such statements apart). THE CARD IS WHAT COUNTS. Prove the row's statement (the work); the ties are given (YtinbcgdnljkclaaDoorTie.lean); close each card by the builder's one call (the guide's Derived/Test/ToyasCard.lean, 'card_holds'). Laid BY PROGRAM, IN A SANDBOX (cutbox-door.mjs). By AI agents, Wed Nov 11 2026. No macro, syntax, notation, axiom, sorry.
-/
import Derived.Test.YtinbcgdnljkclaaDoorRows
import GoSem.ClaimSeven
namespace Go.Proofs.YtinbcgdnljkclaaDoor
namespace Rows

/-- THE TIED CARD OF 'geofencelaw01.MaskBits'. -/
def maskBitsCard : Claim7 := { stood := { row := maskBitsRow, standIns := [], harness := (true, "ffff34e7854a7ab89eed701b601e9f9516c3b1b70a74a3d505b6349b85ee659b"), looks := false }, kinds := [], alts := [], laidByText := true, laidKinds := [.data], laidTests := true, laidLooks := .later }
def MaskBitsCardSaid : Prop := Claim7.holds Tryd.pinned (.plain (OpenSpec.ofChange maskBitsSpec)) maskBitsCard

/-- THE TIED CARD OF 'geofencelaw01.MaskComparesSigned'. -/
def maskComparesSignedCard : Claim7 := { stood := { row := maskComparesSignedRow, standIns := [], harness := (true, "ffff34e7854a7ab89eed701b601e9f9516c3b1b70a74a3d505b6349b85ee659b"), looks := false }, kinds := [], alts := [], laidByText := true, laidKinds := [.data], laidTests := true, laidLooks := .later }
def MaskComparesSignedCardSaid : Prop := Claim7.holds Tryd.pinned (.plain (OpenSpec.ofChange maskComparesSignedSpec)) maskComparesSignedCard

/-- THE TIED CARD OF 'geofencelaw01.MaskCompares'. -/
def maskComparesCard : Claim7 := { stood := { row := maskComparesRow, standIns := [], harness := (true, "ffff34e7854a7ab89eed701b601e9f9516c3b1b70a74a3d505b6349b85ee659b"), looks := false }, kinds := [], alts := [], laidByText := true, laidKinds := [.data], laidTests := true, laidLooks := .later }
def MaskComparesCardSaid : Prop := Claim7.holds Tryd.pinned (.plain (OpenSpec.ofChange maskComparesSpec)) maskComparesCard

/-- THE TIED CARD OF 'geofencelaw01.MaskSigns'. -/
def maskSignsCard : Claim7 := { stood := { row := maskSignsRow, standIns := [], harness := (true, "ffff34e7854a7ab89eed701b601e9f9516c3b1b70a74a3d505b6349b85ee659b"), looks := false }, kinds := [], alts := [], laidByText := true, laidKinds := [.data], laidTests := true, laidLooks := .later }
def MaskSignsCardSaid : Prop := Claim7.holds Tryd.pinned (.plain (OpenSpec.ofChange maskSignsSpec)) maskSignsCard

/-- THE TIED CARD OF 'geofencelaw01.MaskSelects'. -/
def maskSelectsCard : Claim7 := { stood := { row := maskSelectsRow, standIns := [], harness := (true, "ffff34e7854a7ab89eed701b601e9f9516c3b1b70a74a3d505b6349b85ee659b"), looks := false }, kinds := [], alts := [], laidByText := true, laidKinds := [.data], laidTests := true, laidLooks := .later }
def MaskSelectsCardSaid : Prop := Claim7.holds Tryd.pinned (.plain (OpenSpec.ofChange maskSelectsSpec)) maskSelectsCard

/-- THE TIED CARD OF 'geofencelaw01.MaskSwapIsInvolution'. -/
def maskSwapIsInvolutionCard : Claim7 := { stood := { row := maskSwapIsInvolutionRow, standIns := [], harness := (true, "ffff34e7854a7ab89eed701b601e9f9516c3b1b70a74a3d505b6349b85ee659b"), looks := false }, kinds := [], alts := [], laidByText := true, laidKinds := [.data], laidTests := true, laidLooks := .later }
def MaskSwapIsInvolutionCardSaid : Prop := Claim7.holds Tryd.pinned (.plain (OpenSpec.ofChange maskSwapIsInvolutionSpec)) maskSwapIsInvolutionCard

/-- THE SECOND FORM's CARD OF 'geofencelaw01.MaskBits'. -/
def maskBitsUptoCard : Claim7 := { stood := { row := maskBitsUptoRow, standIns := [], harness := (true, "ffff34e7854a7ab89eed701b601e9f9516c3b1b70a74a3d505b6349b85ee659b"), looks := false }, kinds := [], alts := [], laidByText := true, laidKinds := [.data], laidTests := true, laidLooks := .later }
def MaskBitsUptoCardSaid : Prop := Claim7.holds Tryd.pinned (.plain (OpenSpec.upto maskBitsSpec)) maskBitsUptoCard

/-- THE SECOND FORM's CARD OF 'geofencelaw01.MaskComparesSigned'. -/
def maskComparesSignedUptoCard : Claim7 := { stood := { row := maskComparesSignedUptoRow, standIns := [], harness := (true, "ffff34e7854a7ab89eed701b601e9f9516c3b1b70a74a3d505b6349b85ee659b"), looks := false }, kinds := [], alts := [], laidByText := true, laidKinds := [.data], laidTests := true, laidLooks := .later }
def MaskComparesSignedUptoCardSaid : Prop := Claim7.holds Tryd.pinned (.plain (OpenSpec.upto maskComparesSignedSpec)) maskComparesSignedUptoCard

/-- THE SECOND FORM's CARD OF 'geofencelaw01.MaskCompares'. -/
def maskComparesUptoCard : Claim7 := { stood := { row := maskComparesUptoRow, standIns := [], harness := (true, "ffff34e7854a7ab89eed701b601e9f9516c3b1b70a74a3d505b6349b85ee659b"), looks := false }, kinds := [], alts := [], laidByText := true, laidKinds := [.data], laidTests := true, laidLooks := .later }
def MaskComparesUptoCardSaid : Prop := Claim7.holds Tryd.pinned (.plain (OpenSpec.upto maskComparesSpec)) maskComparesUptoCard

/-- THE SECOND FORM's CARD OF 'geofencelaw01.MaskSigns'. -/
def maskSignsUptoCard : Claim7 := { stood := { row := maskSignsUptoRow, standIns := [], harness := (true, "ffff34e7854a7ab89eed701b601e9f9516c3b1b70a74a3d505b6349b85ee659b"), looks := false }, kinds := [], alts := [], laidByText := true, laidKinds := [.data], laidTests := true, laidLooks := .later }
def MaskSignsUptoCardSaid : Prop := Claim7.holds Tryd.pinned (.plain (OpenSpec.upto maskSignsSpec)) maskSignsUptoCard

/-- THE SECOND FORM's CARD OF 'geofencelaw01.MaskSelects'. -/
def maskSelectsUptoCard : Claim7 := { stood := { row := maskSelectsUptoRow, standIns := [], harness := (true, "ffff34e7854a7ab89eed701b601e9f9516c3b1b70a74a3d505b6349b85ee659b"), looks := false }, kinds := [], alts := [], laidByText := true, laidKinds := [.data], laidTests := true, laidLooks := .later }
def MaskSelectsUptoCardSaid : Prop := Claim7.holds Tryd.pinned (.plain (OpenSpec.upto maskSelectsSpec)) maskSelectsUptoCard

/-- THE SECOND FORM's CARD OF 'geofencelaw01.MaskSwapIsInvolution'. -/
def maskSwapIsInvolutionUptoCard : Claim7 := { stood := { row := maskSwapIsInvolutionUptoRow, standIns := [], harness := (true, "ffff34e7854a7ab89eed701b601e9f9516c3b1b70a74a3d505b6349b85ee659b"), looks := false }, kinds := [], alts := [], laidByText := true, laidKinds := [.data], laidTests := true, laidLooks := .later }
def MaskSwapIsInvolutionUptoCardSaid : Prop := Claim7.holds Tryd.pinned (.plain (OpenSpec.upto maskSwapIsInvolutionSpec)) maskSwapIsInvolutionUptoCard
end Rows
end Go.Proofs.YtinbcgdnljkclaaDoor
