/- Arguments of the laws of layer 10, opened: a slice of events, an event by value. -/
import Derived.Test.YtoefjgcehmcbcaaTape
import Derived.Test.YtoefjgcehmcbcaaRows
import Derived.ProofKit
import Derived.OpenShut
import Derived.Deep.Slices
import Derived.Deep.Strs
import Derived.SizedLaws
import Derived.ChangeSame
import Derived.JoinedOf
import Derived.WideKeyArgs
import Derived.Lib.SmallJoins
namespace Go.Proofs.Ytoefjgcehmcbcaa.tp
open Go Go.RowKit Go.ChangeShapes Go.WideShapes Go.ChangeAt Go.Deep

theorem own : ownKnob Try.prog.godebug = none := by kernel_rfl
theorem laidOut : laidOutB Try.prog = true := by kernel_rfl
theorem cellsEv : Try.prog.cellsOf 36 = 3 := by kernel_rfl
theorem cellsInt : Try.prog.cellsOf 3 = 1 := by kernel_rfl

theorem list_of {α : Type} {Q : Nat → α → Prop} : ∀ n : Nat, (∀ i, i < n → ∃ e, Q i e) → ∃ l : List α, l.length = n ∧ ∀ i e, l[i]? = some e → Q i e
  | 0, _ => ⟨[], rfl, fun i e h => by simp at h⟩
  | n + 1, h => by
    obtain ⟨l, hl, hq⟩ := list_of n (fun i hi => h i (by omega))
    obtain ⟨x, hx⟩ := h n (by omega)
    refine ⟨l ++ [x], by simp [hl], fun i e he => ?_⟩
    by_cases hi : i < l.length
    · rw [List.getElem?_append_left hi] at he
      exact hq i e he
    · rw [List.getElem?_append_right (by omega)] at he
      have h0 : i - l.length = 0 := by
        by_cases h1 : i - l.length = 0
        · exact h1
        · rw [List.getElem?_eq_none (by simp; omega)] at he; cases he
      rw [h0] at he
      simp at he
      subst he
      have : i = n := by omega
      rw [this]; exact hx

theorem ev_cells {H : Type} {enc : TypeId × Value → H} {W : World} {base : Nat} {sp : Nat → Bool} {held : Bool} {fuel : Nat} {cs : List Value} {x : DataW H × List MemPlace} (h : DataW.trod enc Try.prog W base sp held fuel 36 cs = some x) :
    ∃ e : Ev, EvOk e ∧ cs = evC e := by
  obtain ⟨y0, y1, y2, n, _, hl, h0, h1, h2⟩ := trod_struct3 Try.underlying36 h
  rw [cellsEv] at hl
  match cs, hl with
  | [c0, c1, c2], _ =>
    have e0 : DataW.trod enc Try.prog W base sp held n 3 [c0] = some y0 := by simpa [cellsInt] using h0
    have e1 : DataW.trod enc Try.prog W base sp held n 3 [c1] = some y1 := by simpa [cellsInt] using h1
    have e2 : DataW.trod enc Try.prog W base sp held n 3 [c2] = some y2 := by simpa [cellsInt] using h2
    obtain ⟨a0, q0, _, w0⟩ := DataW.trod_int Try.underlying3 e0
    obtain ⟨a1, q1, _, w1⟩ := DataW.trod_int Try.underlying3 e1
    obtain ⟨a2, q2, _, w2⟩ := DataW.trod_int Try.underlying3 e2
    simp at q0 q1 q2
    exact ⟨(a0, a1, a2), ⟨w0, w1, w2⟩, by rw [q0, q1, q2]; rfl⟩
theorem open_events {H : Type} {enc : TypeId × Value → H} {W : World} {fuel : Nat} {a0 : Option Addr} {len cap : Nat} {x : DataW H × List MemPlace}
    (h : DataW.trod enc Try.prog W 0 (fun _ => true) true fuel 22 (Value.slice a0 len cap).cells.toList = some x) :
    ∃ l : List Ev, argAt W (.slice a0 len cap) l ∧ (∀ e ∈ l, EvOk e) ∧ l.length ≤ 9223372036854775807 := by
  rcases open_slice Try.underlying22 h with ⟨hcs, _⟩ | ⟨a, len', cap', m, n, D, Pl, hcs, _, hl, hm, hmm, _, hi⟩
  · simp [Value.cells] at hcs
    obtain ⟨rfl, rfl, rfl⟩ := hcs
    exact ⟨[], ⟨.inl ⟨rfl, _, _, rfl⟩, fun n c e => by cases e; exact ⟨rfl, rfl⟩⟩, fun e he => by simp at he, by simp⟩
  · simp [Value.cells] at hcs
    obtain ⟨rfl, rfl, rfl⟩ := hcs
    simp only [if_true] at hmm
    subst hmm
    have each : ∀ i, i < len → ∃ e : Ev, EvOk e ∧ W.cell? (a.add (i * 3)) = some (.int .i64 e.1) ∧ W.cell? ((a.add (i * 3)).add 1) = some (.int .i64 e.2.1) ∧ W.cell? ((a.add (i * 3)).add 2) = some (.int .i64 e.2.2) := by
      intro i hil
      obtain ⟨cs', hc, ht⟩ := hi i (by omega)
      rw [cellsEv] at hc
      obtain ⟨_, _, hat⟩ := World.cells?_some hc
      obtain ⟨e, he, rfl⟩ := ev_cells ht
      refine ⟨e, he, ?_, hat 1 (by omega), hat 2 (by omega)⟩
      have := hat 0 (by omega)
      simpa [Addr.add, evC] using this
    obtain ⟨l, hll, hq⟩ := list_of len each
    have hok : ∀ e ∈ l, EvOk e := fun e he => by
      obtain ⟨i, hi'⟩ := List.getElem?_of_mem he
      exact (hq i e hi').1
    refine ⟨l, ⟨?_, fun n c e => by cases e⟩, hok, by unfold maxLen at hm; omega⟩
    subst hll
    by_cases hne : l = []
    · subst hne; exact .inl ⟨rfl, _, _, rfl⟩
    · have hlp : 0 < l.length := List.length_pos_iff.2 hne
      have h00 := (hq 0 l[0] (by simp [hlp])).2.1
      have hsp := World.cell?_spot h00
      have hlt := World.block_lt_of_cell? W _ h00
      obtain ⟨b, off, spot⟩ := a
      have hspot : spot = none := by simpa [Addr.add] using hsp
      subst hspot
      have add_at : ∀ k, (⟨b, off, none⟩ : Addr).add k = ⟨b, off + k, none⟩ := by intro k; unfold Addr.add; split <;> simp_all
      refine .inr ⟨hne, b, off, _, rfl, by simpa [Addr.add] using hlt, fun i e he => ?_⟩
      obtain ⟨_, q0, q1, q2⟩ := hq i e he
      rw [add_at] at q0 q1 q2
      exact ⟨q0, by simpa [Addr.add] using q1, by simpa [Addr.add] using q2⟩
theorem open_event {H : Type} {enc : TypeId × Value → H} {W : World} {r : Reach} {b0 : Nat} {v : Value} {d : DataW H} {p : List MemPlace} (hv : Value.okWide Try.prog W r b0 36 v) (h : DataW.Trod enc Try.prog W 0 (fun _ => true) true 36 v d p) :
    ∃ e : Ev, EvOk e ∧ v = evV e := by
  obtain ⟨cs, rfl, hsz⟩ := okWide_struct Try.underlying36 hv
  obtain ⟨fuel, hf⟩ := h
  obtain ⟨e, he, hc⟩ := ev_cells hf
  refine ⟨e, he, ?_⟩
  have : (Value.agg cs).cells = cs := rfl
  rw [this] at hc
  have hcs : cs = (evC e).toArray := by rw [← hc]
  rw [hcs]; rfl
end Go.Proofs.Ytoefjgcehmcbcaa.tp
