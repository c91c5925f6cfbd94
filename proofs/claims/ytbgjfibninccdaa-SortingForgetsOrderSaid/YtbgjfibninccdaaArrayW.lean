/- The functions of package array, by walking their text over the law of a loop over visit. -/
import Derived.Test.YtbgjfibninccdaaVisit
import Derived.Test.YtbgjfibninccdaaRound
import Derived.Outline
import Derived.Lib.Hide
namespace Go.Proofs.Ytbgjfibninccdaa.ar
open Go Go.RowKit Go.Shelf Go.Proofs.Ytbgjfibninccdaa.tp Go.Proofs.Ytbgjfibninccdaa.mk Go.Proofs.Ytbgjfibninccdaa.rg

attribute [local go_sem] Oper.semAt_some

/-- What Read returns. -/
def readI (l : List Int) (i : Int) : Int := if 0 ≤ i ∧ i < l.length then l.getD i.toNat 0 else 0
/-- All words of a list are of the kind uint64. -/
def Words (l : List Int) : Prop := ∀ x ∈ l, IsU x

/-- What is left of the tape and of memory behind a call: S0 may have turned. -/
def Tail (q : Option Addr) (l0 : List Ev) (kind : Int) (n : Nat) (S0 : Nat → Prop) (w w' : World) : Prop :=
  (∃ S, qAt w' S q (recs q l0 kind n) ∧ ∀ k, S k → S0 k ∨ w.heap.size ≤ k) ∧ Keeps S0 w w'

theorem words_cell {w : World} {v : Value} {l : List Int} (h : wordsAt w v l) : ∃ b off, ((l.length = 0 ∧ ∃ ao cap, v = .slice ao 0 cap) ∨ ∃ cap, v = .slice (some ⟨b, off, none⟩) l.length cap) ∧
    (∀ (i : Nat) (x : Int), l[i]? = some x → w.cell? ⟨b, off + i, none⟩ = some (.int .u64 x)) ∧ (l ≠ [] → b < w.heap.size ∧ v.ownBlock = some b) := by
  rcases h with ⟨rfl, ao, cap, rfl⟩ | ⟨hne, b, off, cap, rfl, hb, hc⟩
  · exact ⟨0, 0, .inl ⟨rfl, ao, cap, rfl⟩, fun i x h => by simp at h, fun h => absurd rfl h⟩
  · exact ⟨b, off, .inr ⟨cap, rfl⟩, hc, fun _ => ⟨hb, rfl⟩⟩
theorem words_shape {w : World} {v : Value} {l : List Int} (h : wordsAt w v l) : ∃ ao cap, v = .slice ao l.length cap := by
  rcases h with ⟨rfl, ao, cap, rfl⟩ | ⟨hne, b, off, cap, rfl, _⟩
  · exact ⟨_, _, rfl⟩
  · exact ⟨_, _, rfl⟩

theorem alloc5 (w : World) (o0 o1 o2 o3 o4 : Obj) :
    (((((w.alloc o0).alloc o1).alloc o2).alloc o3).alloc o4).heap.size = w.heap.size + 5 ∧ (((((w.alloc o0).alloc o1).alloc o2).alloc o3).alloc o4).heap[w.heap.size]? = some o0 ∧ (((((w.alloc o0).alloc o1).alloc o2).alloc o3).alloc o4).heap[w.heap.size + 1]? = some o1 ∧
    (((((w.alloc o0).alloc o1).alloc o2).alloc o3).alloc o4).heap[w.heap.size + 2]? = some o2 ∧ (((((w.alloc o0).alloc o1).alloc o2).alloc o3).alloc o4).heap[w.heap.size + 3]? = some o3 ∧ (((((w.alloc o0).alloc o1).alloc o2).alloc o3).alloc o4).heap[w.heap.size + 4]? = some o4 ∧
    Keeps (fun _ => False) w (((((w.alloc o0).alloc o1).alloc o2).alloc o3).alloc o4) := by
  have z1 : (w.alloc o0).heap.size = w.heap.size + 1 := by simp
  have z2 : ((w.alloc o0).alloc o1).heap.size = w.heap.size + 2 := by simp
  have z3 : (((w.alloc o0).alloc o1).alloc o2).heap.size = w.heap.size + 3 := by simp
  have z4 : ((((w.alloc o0).alloc o1).alloc o2).alloc o3).heap.size = w.heap.size + 4 := by simp
  refine ⟨by simp, ?_, ?_, ?_, ?_, ?_, (((((Keeps.refl _ w).alloc _).alloc _).alloc _).alloc _).alloc _⟩
  · rw [Below.heap_alloc _ _ _ (by omega), Below.heap_alloc _ _ _ (by omega), Below.heap_alloc _ _ _ (by omega), Below.heap_alloc _ _ _ (by omega)]; exact World.alloc_heap_new w o0
  · rw [Below.heap_alloc _ _ _ (by omega), Below.heap_alloc _ _ _ (by omega), Below.heap_alloc _ _ _ (by omega), ← z1]; exact World.alloc_heap_new _ o1
  · rw [Below.heap_alloc _ _ _ (by omega), Below.heap_alloc _ _ _ (by omega), ← z2]; exact World.alloc_heap_new _ o2
  · rw [Below.heap_alloc _ _ _ (by omega), ← z3]; exact World.alloc_heap_new _ o3
  · rw [← z4]; exact World.alloc_heap_new _ o4

theorem or_zero {a : Int} (h : IsU a) : bits .or .u64 a 0 = a := by rw [bits_or, show bv 0 = 0#64 from by decide, BitVec.or_zero, nu_bv h]
theorem zero_or {a : Int} (h : IsU a) : bits .or .u64 0 a = a := by rw [bits_or, show bv 0 = 0#64 from by decide, BitVec.zero_or, nu_bv h]
theorem mask_and {a : Int} (c : Bool) (h : IsU a) : bits .and .u64 (maskI c) a = if c then a else 0 := by
  rw [bits_and, bv_maskI]
  cases c
  · show nu (0#64 &&& bv a) = 0
    rw [BitVec.zero_and]; decide
  · show nu (BitVec.allOnes 64 &&& bv a) = a
    rw [BitVec.allOnes_and, nu_bv h]
theorem readI_isU {l : List Int} (h : Words l) (i : Int) : IsU (readI l i) := by
  unfold readI
  split
  · rename_i hc
    have hlt : i.toNat < l.length := by omega
    rw [List.getD_eq_getElem?_getD, List.getElem?_eq_getElem hlt]
    exact h _ (List.getElem_mem hlt)
  · unfold IsU; omega
theorem readI_nil (i : Int) : readI [] i = 0 := by
  unfold readI
  rw [if_neg (by simp)]
theorem words_take {l : List Int} (h : Words l) (k : Nat) : Words (l.take k) := fun x hx => h x (List.mem_of_mem_take hx)
theorem read_step {l : List Int} (hw : Words l) {k : Nat} {x i : Int} (hx : l[k]? = some x) : bits .or .u64 (readI (l.take k) i) (bits .and .u64 (maskI (i == (k : Int))) x) = readI (l.take (k + 1)) i := by
  have hk := (List.getElem?_eq_some_iff.1 hx).1
  have hxu : IsU x := hw x (List.mem_of_getElem? hx)
  have hlen : (l.take k).length = k := by rw [List.length_take]; omega
  have hlen1 : (l.take (k + 1)).length = k + 1 := by rw [List.length_take]; omega
  rw [mask_and _ hxu]
  by_cases h : i = (k : Int)
  · subst h
    have e : readI (l.take k) (k : Int) = 0 := by
      unfold readI
      rw [if_neg (by rw [hlen]; omega)]
    rw [e, if_pos (by simp), zero_or hxu]
    unfold readI
    rw [if_pos (by rw [hlen1]; omega), Int.toNat_natCast, List.getD_eq_getElem?_getD, List.getElem?_take, if_pos (by omega), hx]
    rfl
  · rw [if_neg (by simpa using h), or_zero (readI_isU (words_take hw k) i)]
    unfold readI
    rw [hlen, hlen1]
    by_cases hc : 0 ≤ i ∧ i < (k : Int)
    · rw [if_pos hc, if_pos (by omega)]
      rw [List.getD_eq_getElem?_getD, List.getD_eq_getElem?_getD, List.getElem?_take, List.getElem?_take, if_pos (by omega), if_pos (by omega)]
    · rw [if_neg hc, if_neg (by omega)]

theorem one_cell {w : World} {b : Nat} {u : Value} {t : TypeId} (h : w.heap[b]? = some (.cells #[u] t (0, 0))) : w.cell? ⟨b, 0, none⟩ = some u ∧ w.frozen? ⟨b, 0, none⟩ = false := ⟨by rw [cell_of_row _ _ 0 _ _ _ h]; rfl, two_frozen h _⟩
theorem keeps_set (w : World) (b : Nat) (u : Value) : Keeps (fun k => k = b) w (w.setCell ⟨b, 0, none⟩ u) := (Keeps.refl (fun k => k = b) w).setCell ⟨b, 0, none⟩ (fun _ => rfl) u
theorem one_set {w : World} {b : Nat} {v u : Value} {t : TypeId} (h : w.heap[b]? = some (.cells #[v] t (0, 0))) : (w.setCell ⟨b, 0, none⟩ u).heap[b]? = some (.cells #[u] t (0, 0)) := one_setCell h
theorem other_set {w : World} {b c : Nat} {u : Value} {o : Obj} (h : w.heap[c]? = some o) (hne : c ≠ b) : (w.setCell ⟨b, 0, none⟩ u).heap[c]? = some o := (Below.heap_setCell _ _ _ _ hne).trans h

end Go.Proofs.Ytbgjfibninccdaa.ar
