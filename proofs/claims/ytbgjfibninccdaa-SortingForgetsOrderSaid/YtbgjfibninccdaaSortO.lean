/- Arguments of the laws of layer 13, opened: a record by value, a list of records. -/
import Derived.Test.YtbgjfibninccdaaSortB
import Derived.Test.YtbgjfibninccdaaRows
import Derived.ProofKit
import Derived.OpenShut
import Derived.Deep.Slices
import Derived.Deep.Strs
import Derived.SizedLaws
import Derived.ChangeSame
import Derived.JoinedOf
import Derived.WideKeyArgs
import Derived.Lib.SmallJoins
set_option linter.unusedSimpArgs false
set_option linter.unusedVariables false
namespace Go.Proofs.Ytbgjfibninccdaa.so
open Go Go.RowKit Go.ChangeShapes Go.WideShapes Go.ChangeAt Go.Deep Go.Proofs.Ytbgjfibninccdaa.mk

theorem own : ownKnob Try.prog.godebug = none := by kernel_rfl
theorem laidOut : laidOutB Try.prog = true := by kernel_rfl
theorem cellsRec : Try.prog.cellsOf 24 = 2 := by kernel_rfl
theorem cellsU : Try.prog.cellsOf 22 = 1 := by kernel_rfl
theorem wf_isU {n : Int} (h : (Lit.int .u64 n).wf = true) : IsU n := by
  simp [Lit.wf, IntKind.min, IntKind.max, IntKind.bits, IntKind.signed] at h
  unfold IsU
  omega
theorem wf_u8 {n : Int} (h : (Lit.int .u8 n).wf = true) : 0 ≤ n ∧ n < 256 := by
  simp [Lit.wf, IntKind.min, IntKind.max, IntKind.bits, IntKind.signed] at h
  omega
theorem list_of' {α : Type} {Q : Nat → α → Prop} : ∀ n : Nat, (∀ i, i < n → ∃ e, Q i e) → ∃ l : List α, l.length = n ∧ ∀ i e, l[i]? = some e → Q i e
  | 0, _ => ⟨[], rfl, fun i e h => by simp at h⟩
  | n + 1, h => by
    obtain ⟨l, hl, hq⟩ := list_of' n (fun i hi => h i (by omega))
    obtain ⟨x, hx⟩ := h n (by omega)
    refine ⟨l ++ [x], by simp [hl], fun i e he => ?_⟩
    by_cases hi : i < l.length
    · rw [List.getElem?_append_left hi] at he
      exact hq i e he
    · rw [List.getElem?_append_right (by omega)] at he
      have h0 : i - l.length = 0 := by
        by_cases h1 : i - l.length = 0
        · exact h1
        · rw [List.getElem?_eq_none (by simp; omega)] at he; cases he
      rw [h0] at he
      simp at he
      subst he
      have : i = n := by omega
      rw [this]; exact hx
theorem rec_cs {H : Type} {enc : TypeId × Value → H} {W : World} {fuel : Nat} {cs : List Value} {x : DataW H × List MemPlace} (hf : DataW.trod enc Try.prog W 0 (fun _ => true) true fuel 24 cs = some x) :
    ∃ r : Rec, RecOk r ∧ cs = [.int .u64 r.1, .int .u64 r.2] := by
  obtain ⟨y0, y1, n, _, hl, h0, h1⟩ := trod_struct2 Try.underlying24 hf
  rw [cellsRec] at hl
  match cs, hl with
  | [c0, c1], _ =>
    have e0 : DataW.trod enc Try.prog W 0 (fun _ => true) true n 22 [c0] = some y0 := by simpa [cellsU] using h0
    have e1 : DataW.trod enc Try.prog W 0 (fun _ => true) true n 22 [c1] = some y1 := by simpa [cellsU] using h1
    obtain ⟨a0, q0, _, w0⟩ := DataW.trod_int Try.underlying22 e0
    obtain ⟨a1, q1, _, w1⟩ := DataW.trod_int Try.underlying22 e1
    simp at q0 q1
    exact ⟨(a0, a1), ⟨wf_isU w0, wf_isU w1⟩, by rw [q0, q1]⟩
theorem open_rec {H : Type} {enc : TypeId × Value → H} {W : World} {r : Reach} {b0 : Nat} {v : Value} {d : DataW H} {p : List MemPlace} (hv : Value.okWide Try.prog W r b0 24 v) (h : DataW.Trod enc Try.prog W 0 (fun _ => true) true 24 v d p) :
    ∃ x y : Int, IsU x ∧ IsU y ∧ v = .agg #[.int .u64 x, .int .u64 y] := by
  obtain ⟨cs, rfl, hsz⟩ := okWide_struct Try.underlying24 hv
  obtain ⟨fuel, hf⟩ := h
  obtain ⟨r, hr, hc⟩ := rec_cs hf
  refine ⟨r.1, r.2, hr.1, hr.2, ?_⟩
  have : (Value.agg cs).cells = cs := rfl
  rw [this] at hc
  have hcs : cs = #[.int .u64 r.1, .int .u64 r.2] := by rw [← Array.toList_inj]; exact hc
  rw [hcs]
theorem open_recs {H : Type} {enc : TypeId × Value → H} {W : World} {fuel : Nat} {a0 : Option Addr} {len cap : Nat} {x : DataW H × List MemPlace}
    (h : DataW.trod enc Try.prog W 0 (fun _ => true) true fuel 30 (Value.slice a0 len cap).cells.toList = some x) :
    ∃ l : List Rec, (recAt W (.slice a0 len cap) l ∧ ∀ n c, Value.slice a0 len cap = .slice none n c → n = 0 ∧ c = 0) ∧ Recs l ∧ len = l.length ∧ l.length ≤ 9223372036854775807 := by
  rcases open_slice Try.underlying30 h with ⟨hcs, _⟩ | ⟨a, len', cap', m, n, D, Pl, hcs, _, hl, hm, hmm, _, hi⟩
  · simp [Value.cells] at hcs
    obtain ⟨rfl, rfl, rfl⟩ := hcs
    exact ⟨[], ⟨.inl ⟨rfl, _, _, rfl⟩, fun n c e => by cases e; exact ⟨rfl, rfl⟩⟩, fun e he => by simp at he, rfl, by simp⟩
  · simp [Value.cells] at hcs
    obtain ⟨rfl, rfl, rfl⟩ := hcs
    simp only [if_true] at hmm
    subst hmm
    have each : ∀ i, i < len → ∃ e : Rec, RecOk e ∧ W.cell? (a.add (i * 2)) = some (.int .u64 e.1) ∧ W.cell? ((a.add (i * 2)).add 1) = some (.int .u64 e.2) := by
      intro i hil
      obtain ⟨cs', hc, ht⟩ := hi i (by omega)
      rw [cellsRec] at hc
      obtain ⟨_, _, hat⟩ := World.cells?_some hc
      obtain ⟨e, he, rfl⟩ := rec_cs ht
      refine ⟨e, he, ?_, hat 1 (by omega)⟩
      have := hat 0 (by omega)
      simpa [Addr.add] using this
    obtain ⟨l, hll, hq⟩ := list_of' len each
    have hok : Recs l := fun e he => by
      obtain ⟨i, hi'⟩ := List.getElem?_of_mem he
      exact (hq i e hi').1
    refine ⟨l, ⟨?_, fun n c e => by cases e⟩, hok, hll.symm, by unfold maxLen at hm; omega⟩
    subst hll
    by_cases hne : l = []
    · subst hne; exact .inl ⟨rfl, _, _, rfl⟩
    · have hlp : 0 < l.length := List.length_pos_iff.2 hne
      have h00 := (hq 0 l[0] (by simp [hlp])).2.1
      have hsp := World.cell?_spot h00
      have hlt := World.block_lt_of_cell? W _ h00
      obtain ⟨b, off, spot⟩ := a
      have hspot : spot = none := by simpa [Addr.add] using hsp
      subst hspot
      refine .inr ⟨hne, b, off, _, rfl, by simpa [Addr.add] using hlt, fun i r hi' => ?_⟩
      obtain ⟨_, q1, q2⟩ := hq i r hi'
      have add_at : ∀ (o k : Nat), (⟨b, o, none⟩ : Addr).add k = ⟨b, o + k, none⟩ := by intro o k; unfold Addr.add; split <;> simp_all
      rw [add_at] at q1 q2
      rw [add_at] at q2
      exact ⟨q1, q2⟩
theorem open_caps {H : Type} {enc : TypeId × Value → H} {W : World} {fuel : Nat} {a0 : Option Addr} {len cap : Nat} {x : DataW H × List MemPlace}
    (h : DataW.trod enc Try.prog W 0 (fun _ => true) true fuel 30 (Value.slice a0 len cap).cells.toList = some x) : len ≤ cap ∧ cap ≤ 9223372036854775807 := by
  rcases open_slice Try.underlying30 h with ⟨hcs, _⟩ | ⟨a, len', cap', m, n, D, Pl, hcs, _, hl, hm, hmm, _, hi⟩
  · simp [Value.cells] at hcs
    omega
  · simp [Value.cells] at hcs
    unfold maxLen at hm
    omega
end Go.Proofs.Ytbgjfibninccdaa.so
