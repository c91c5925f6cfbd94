/- Arguments of the laws of layer 9, opened: a point by value, a float. -/
import Derived.Test.YtgdnkpngojbjpaaPlaneI
import Derived.Test.YtgdnkpngojbjpaaRows
import Derived.ProofKit
import Derived.OpenShut
import Derived.Deep.Slices
import Derived.Deep.Strs
import Derived.SizedLaws
import Derived.ChangeSame
import Derived.JoinedOf
import Derived.WideKeyArgs
import Derived.Lib.SmallJoins
namespace Go.Proofs.Ytgdnkpngojbjpaa.pl
open Go Go.RowKit Go.ChangeShapes Go.WideShapes Go.ChangeAt Go.Deep

theorem own : ownKnob Try.prog.godebug = none := by kernel_rfl
theorem laidOut : laidOutB Try.prog = true := by kernel_rfl
theorem cellsPt : Try.prog.cellsOf 23 = 2 := by kernel_rfl
theorem cellsI : Try.prog.cellsOf 2 = 1 := by kernel_rfl

theorem open_pt {H : Type} {enc : TypeId × Value → H} {W : World} {r : Reach} {b0 : Nat} {v : Value} {d : DataW H} {p : List MemPlace} (hv : Value.okWide Try.prog W r b0 23 v) (h : DataW.Trod enc Try.prog W 0 (fun _ => true) true 23 v d p) :
    ∃ x y : Int, v = .agg #[.int .i64 x, .int .i64 y] := by
  obtain ⟨cs, rfl, hsz⟩ := okWide_struct Try.underlying23 hv
  obtain ⟨fuel, hf⟩ := h
  have hcs : (Value.agg cs).cells = cs := rfl
  rw [hcs] at hf
  obtain ⟨y0, y1, n, _, hl, h0, h1⟩ := trod_struct2 Try.underlying23 hf
  rw [cellsPt] at hl
  obtain ⟨l⟩ := cs
  match l, hl with
  | [c0, c1], _ =>
    have e0 : DataW.trod enc Try.prog W 0 (fun _ => true) true n 2 [c0] = some y0 := by simpa [cellsI] using h0
    have e1 : DataW.trod enc Try.prog W 0 (fun _ => true) true n 2 [c1] = some y1 := by simpa [cellsI] using h1
    obtain ⟨a0, q0, _, _⟩ := DataW.trod_int Try.underlying2 e0
    obtain ⟨a1, q1, _, _⟩ := DataW.trod_int Try.underlying2 e1
    simp at q0 q1
    exact ⟨a0, a1, by rw [q0, q1]⟩
theorem open_fl {H : Type} {enc : TypeId × Value → H} {W : World} {r : Reach} {b0 : Nat} {v : Value} {d : DataW H} {p : List MemPlace} (hv : Value.okWide Try.prog W r b0 33 v) (h : DataW.Trod enc Try.prog W 0 (fun _ => true) true 33 v d p) :
    ∃ b : Nat, v = .float .f64 b ∧ b < 18446744073709551616 := by
  obtain ⟨b, rfl, _, _, hw⟩ := open_float Try.underlying33 hv h
  exact ⟨b, rfl, of_decide_eq_true hw⟩
end Go.Proofs.Ytgdnkpngojbjpaa.pl
