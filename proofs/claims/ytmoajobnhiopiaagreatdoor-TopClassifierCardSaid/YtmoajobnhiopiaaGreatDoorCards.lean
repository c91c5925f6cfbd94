/-
  DERIVED. GIVEN WITH THE SEED: THE CARDS: each row of YtmoajobnhiopiaaGreatDoorRows.lean that lists a variable, with what it lists TIED to the program's text (the seventh form; the later family's looks); each row that meets fmt, with fmt's text TOLD by the authors' own Lean function (tested against real Go, not proved from fmt's source: count such statements apart). THE CARD IS WHAT COUNTS. Prove the row's statement (the work); the ties are given (YtmoajobnhiopiaaGreatDoorTie.lean); close each card by the builder's one call (the guide's Derived/Test/ToyasCard.lean, 'card_holds'). Laid BY PROGRAM, IN A SANDBOX (cutbox-door.mjs). By AI agents, Wed Nov 11 2026. No macro, syntax, notation, axiom, sorry.
-/
import Derived.Test.YtmoajobnhiopiaaGreatDoorRows
import GoSem.ClaimSeven
namespace Go.Proofs.YtmoajobnhiopiaaGreatDoor
namespace Rows

/-- THE TIED CARD OF 'geofencetop.TopClassifier'. -/
def topClassifierCard : Claim7 := { stood := { row := topClassifierRow, standIns := [], harness := (true, "04120939d7857f34e34006f62c271bade7c0863992a5c299c4369981e007121f"), looks := false }, kinds := [], alts := [], laidByText := true, laidKinds := [.data, .data], laidTests := true, laidLooks := .later }
def TopClassifierCardSaid : Prop := Claim7.holds Tryz.pinned (.plain (OpenSpec.ofChange topClassifierSpec)) topClassifierCard

/-- THE TIED CARD OF 'geofencetop.TopTranslates'. -/
def topTranslatesCard : Claim7 := { stood := { row := topTranslatesRow, standIns := [], harness := (true, "04120939d7857f34e34006f62c271bade7c0863992a5c299c4369981e007121f"), looks := false }, kinds := [], alts := [], laidByText := true, laidKinds := [.data, .data], laidTests := true, laidLooks := .later }
def TopTranslatesCardSaid : Prop := Claim7.holds Tryz.pinned (.plain (OpenSpec.ofChange topTranslatesSpec)) topTranslatesCard

/-- THE TIED CARD OF 'geofencetop.TopTransposes'. -/
def topTransposesCard : Claim7 := { stood := { row := topTransposesRow, standIns := [], harness := (true, "04120939d7857f34e34006f62c271bade7c0863992a5c299c4369981e007121f"), looks := false }, kinds := [], alts := [], laidByText := true, laidKinds := [.data, .data], laidTests := true, laidLooks := .later }
def TopTransposesCardSaid : Prop := Claim7.holds Tryz.pinned (.plain (OpenSpec.ofChange topTransposesSpec)) topTransposesCard

/-- THE TIED CARD OF 'geofencetop.TopTriangles'. -/
def topTrianglesCard : Claim7 := { stood := { row := topTrianglesRow, standIns := [], harness := (true, "04120939d7857f34e34006f62c271bade7c0863992a5c299c4369981e007121f"), looks := false }, kinds := [], alts := [], laidByText := true, laidKinds := [.data, .data], laidTests := true, laidLooks := .later }
def TopTrianglesCardSaid : Prop := Claim7.holds Tryz.pinned (.plain (OpenSpec.ofChange topTrianglesSpec)) topTrianglesCard

/-- THE TIED CARD OF 'geofencetop.TopMiddles'. -/
def topMiddlesCard : Claim7 := { stood := { row := topMiddlesRow, standIns := [], harness := (true, "04120939d7857f34e34006f62c271bade7c0863992a5c299c4369981e007121f"), looks := false }, kinds := [], alts := [], laidByText := true, laidKinds := [.data, .data], laidTests := true, laidLooks := .later }
def TopMiddlesCardSaid : Prop := Claim7.holds Tryz.pinned (.plain (OpenSpec.ofChange topMiddlesSpec)) topMiddlesCard

/-- THE SECOND FORM's CARD OF 'geofencetop.TopClassifier'. -/
def topClassifierUptoCard : Claim7 := { stood := { row := topClassifierUptoRow, standIns := [], harness := (true, "04120939d7857f34e34006f62c271bade7c0863992a5c299c4369981e007121f"), looks := false }, kinds := [], alts := [], laidByText := true, laidKinds := [.data, .data], laidTests := true, laidLooks := .later }
def TopClassifierUptoCardSaid : Prop := Claim7.holds Tryz.pinned (.plain (OpenSpec.upto topClassifierSpec)) topClassifierUptoCard

/-- THE SECOND FORM's CARD OF 'geofencetop.TopTranslates'. -/
def topTranslatesUptoCard : Claim7 := { stood := { row := topTranslatesUptoRow, standIns := [], harness := (true, "04120939d7857f34e34006f62c271bade7c0863992a5c299c4369981e007121f"), looks := false }, kinds := [], alts := [], laidByText := true, laidKinds := [.data, .data], laidTests := true, laidLooks := .later }
def TopTranslatesUptoCardSaid : Prop := Claim7.holds Tryz.pinned (.plain (OpenSpec.upto topTranslatesSpec)) topTranslatesUptoCard

/-- THE SECOND FORM's CARD OF 'geofencetop.TopTransposes'. -/
def topTransposesUptoCard : Claim7 := { stood := { row := topTransposesUptoRow, standIns := [], harness := (true, "04120939d7857f34e34006f62c271bade7c0863992a5c299c4369981e007121f"), looks := false }, kinds := [], alts := [], laidByText := true, laidKinds := [.data, .data], laidTests := true, laidLooks := .later }
def TopTransposesUptoCardSaid : Prop := Claim7.holds Tryz.pinned (.plain (OpenSpec.upto topTransposesSpec)) topTransposesUptoCard

/-- THE SECOND FORM's CARD OF 'geofencetop.TopTriangles'. -/
def topTrianglesUptoCard : Claim7 := { stood := { row := topTrianglesUptoRow, standIns := [], harness := (true, "04120939d7857f34e34006f62c271bade7c0863992a5c299c4369981e007121f"), looks := false }, kinds := [], alts := [], laidByText := true, laidKinds := [.data, .data], laidTests := true, laidLooks := .later }
def TopTrianglesUptoCardSaid : Prop := Claim7.holds Tryz.pinned (.plain (OpenSpec.upto topTrianglesSpec)) topTrianglesUptoCard

/-- THE SECOND FORM's CARD OF 'geofencetop.TopMiddles'. -/
def topMiddlesUptoCard : Claim7 := { stood := { row := topMiddlesUptoRow, standIns := [], harness := (true, "04120939d7857f34e34006f62c271bade7c0863992a5c299c4369981e007121f"), looks := false }, kinds := [], alts := [], laidByText := true, laidKinds := [.data, .data], laidTests := true, laidLooks := .later }
def TopMiddlesUptoCardSaid : Prop := Claim7.holds Tryz.pinned (.plain (OpenSpec.upto topMiddlesSpec)) topMiddlesUptoCard
end Rows
end Go.Proofs.YtmoajobnhiopiaaGreatDoor
