/- How the arguments of layer 11 (lists of words) lie in memory. -/
import Derived.Test.YtacbnlkbbaiedaaArrayG
import Derived.Test.YtacbnlkbbaiedaaTapeO
import Derived.ChangeSlices
namespace Go.Proofs.Ytacbnlkbbaiedaa.ar
open Go Go.RowKit Go.ChangeShapes Go.WideShapes Go.ChangeAt Go.Deep Go.Proofs.Ytacbnlkbbaiedaa.tp Go.Proofs.Ytacbnlkbbaiedaa.mk

theorem cellsU : Try.prog.cellsOf 38 = 1 := by kernel_rfl
theorem wf_isU {n : Int} (h : (Lit.int .u64 n).wf = true) : IsU n := by
  simp [Lit.wf, IntKind.min, IntKind.max, IntKind.bits, IntKind.signed] at h
  unfold IsU
  omega
theorem open_argw {H : Type} {enc : TypeId × Value → H} {W : World} {fuel : Nat} {a0 : Option Addr} {len cap : Nat} {x : DataW H × List MemPlace}
    (h : DataW.trod enc Try.prog W 0 (fun _ => true) true fuel 36 (Value.slice a0 len cap).cells.toList = some x) :
    ∃ l : List Int, (wordsAt W (.slice a0 len cap) l ∧ ∀ n c, Value.slice a0 len cap = .slice none n c → n = 0 ∧ c = 0) ∧ Words l ∧ l.length ≤ 9223372036854775807 := by
  rcases open_ints Try.underlying36 Try.underlying38 cellsU h with ⟨hcs, _⟩ | ⟨a, len', cap', zs, hcs, _, hl, hm, hz, _, hc, hw⟩
  · simp [Value.cells] at hcs
    obtain ⟨rfl, rfl, rfl⟩ := hcs
    exact ⟨[], ⟨.inl ⟨rfl, _, _, rfl⟩, fun n c e => by cases e; exact ⟨rfl, rfl⟩⟩, fun e he => by simp at he, by simp⟩
  · simp [Value.cells] at hcs
    obtain ⟨rfl, rfl, rfl⟩ := hcs
    simp only [if_true] at hz
    have hlen : (zs.take len).length = len := by rw [List.length_take]; omega
    refine ⟨zs.take len, ⟨?_, fun n c e => by cases e⟩, fun e he => wf_isU (hw e (List.mem_of_mem_take he)), by unfold maxLen at hm; omega⟩
    by_cases h0 : len = 0
    · subst h0
      exact .inl ⟨by simp, _, _, rfl⟩
    · have h00 := hc 0 (by omega)
      have hsp := World.cell?_spot h00
      have hlt := World.block_lt_of_cell? W _ h00
      obtain ⟨b, off, spot⟩ := a
      have hspot : spot = none := by simpa [Addr.add] using hsp
      subst hspot
      have add_at : ∀ k, (⟨b, off, none⟩ : Addr).add k = ⟨b, off + k, none⟩ := by intro k; unfold Addr.add; split <;> simp_all
      refine .inr ⟨fun e => by rw [e] at hlen; simp at hlen; omega, b, off, cap, by rw [hlen], by simpa [Addr.add] using hlt, fun i e he => ?_⟩
      have hi : i < len := by have := (List.getElem?_eq_some_iff.1 he).1; omega
      rw [List.getElem?_take, if_pos hi] at he
      have q := hc i (by omega)
      rw [add_at, List.getD_eq_getElem?_getD, he] at q
      exact q
theorem open_words {H : Type} {enc : TypeId × Value → H} {W : World} {fuel : Nat} {a0 : Option Addr} {len cap : Nat} {x : DataW H × List MemPlace}
    (h : DataW.trod enc Try.prog W 0 (fun _ => true) true fuel 36 (Value.slice a0 len cap).cells.toList = some x) :
    ∃ l : List Int, wordsAt W (.slice a0 len cap) l ∧ Words l ∧ l.length ≤ 9223372036854775807 := by
  obtain ⟨l, h1, h2, h3⟩ := open_argw h
  exact ⟨l, h1.1, h2, h3⟩
end Go.Proofs.Ytacbnlkbbaiedaa.ar
