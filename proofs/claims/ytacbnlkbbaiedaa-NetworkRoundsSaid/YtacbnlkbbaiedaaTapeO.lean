/- Arguments of the laws of layer 10, opened: a slice of events, an event by value. -/
import Derived.Test.YtacbnlkbbaiedaaTape
import Derived.Test.YtacbnlkbbaiedaaRows
import Derived.ProofKit
import Derived.OpenShut
import Derived.Deep.Slices
import Derived.Deep.Strs
import Derived.SizedLaws
import Derived.ChangeSame
import Derived.JoinedOf
import Derived.WideKeyArgs
import Derived.Lib.SmallJoins
namespace Go.Proofs.Ytacbnlkbbaiedaa.tp
open Go Go.RowKit Go.ChangeShapes Go.WideShapes Go.ChangeAt Go.Deep

theorem own : ownKnob Try.prog.godebug = none := by kernel_rfl
theorem laidOut : laidOutB Try.prog = true := by kernel_rfl
theorem cellsInt : Try.prog.cellsOf 3 = 1 := by kernel_rfl

theorem list_of {α : Type} {Q : Nat → α → Prop} : ∀ n : Nat, (∀ i, i < n → ∃ e, Q i e) → ∃ l : List α, l.length = n ∧ ∀ i e, l[i]? = some e → Q i e
  | 0, _ => ⟨[], rfl, fun i e h => by simp at h⟩
  | n + 1, h => by
    obtain ⟨l, hl, hq⟩ := list_of n (fun i hi => h i (by omega))
    obtain ⟨x, hx⟩ := h n (by omega)
    refine ⟨l ++ [x], by simp [hl], fun i e he => ?_⟩
    by_cases hi : i < l.length
    · rw [List.getElem?_append_left hi] at he
      exact hq i e he
    · rw [List.getElem?_append_right (by omega)] at he
      have h0 : i - l.length = 0 := by
        by_cases h1 : i - l.length = 0
        · exact h1
        · rw [List.getElem?_eq_none (by simp; omega)] at he; cases he
      rw [h0] at he
      simp at he
      subst he
      have : i = n := by omega
      rw [this]; exact hx

end Go.Proofs.Ytacbnlkbbaiedaa.tp
