/- Count, First, All and Some of package array. -/
import Derived.Test.YtbgjfibninccdaaArrayW
namespace Go.Proofs.Ytbgjfibninccdaa.ar
open Go Go.RowKit Go.Shelf Go.Proofs.Ytbgjfibninccdaa.tp Go.Proofs.Ytbgjfibninccdaa.mk Go.Proofs.Ytbgjfibninccdaa.rg

attribute [local go_sem] Oper.semAt_some

theorem alloc4 (w : World) (o0 o1 o2 o3 : Obj) :
    ((((w.alloc o0).alloc o1).alloc o2).alloc o3).heap.size = w.heap.size + 4 ∧ ((((w.alloc o0).alloc o1).alloc o2).alloc o3).heap[w.heap.size]? = some o0 ∧ ((((w.alloc o0).alloc o1).alloc o2).alloc o3).heap[w.heap.size + 1]? = some o1 ∧
    ((((w.alloc o0).alloc o1).alloc o2).alloc o3).heap[w.heap.size + 2]? = some o2 ∧ ((((w.alloc o0).alloc o1).alloc o2).alloc o3).heap[w.heap.size + 3]? = some o3 ∧ Keeps (fun _ => False) w ((((w.alloc o0).alloc o1).alloc o2).alloc o3) := by
  obtain ⟨_, h0, h1, h2, h3, _, _⟩ := alloc5 w o0 o1 o2 o3 o3
  rw [Below.heap_alloc _ _ _ (by simp <;> omega)] at h0
  rw [Below.heap_alloc _ _ _ (by simp <;> omega)] at h1
  rw [Below.heap_alloc _ _ _ (by simp <;> omega)] at h2
  rw [Below.heap_alloc _ _ _ (by simp <;> omega)] at h3
  exact ⟨by simp, h0, h1, h2, h3, ((((Keeps.refl _ w).alloc _).alloc _).alloc _).alloc _⟩

theorem takeWhile_all {p : Int → Bool} {l : List Int} : (l.takeWhile p).length = l.length ↔ l.all p = true := by
  induction l with
  | nil => simp
  | cons x l ih =>
    rw [List.takeWhile_cons]
    by_cases h : p x = true
    · rw [if_pos h]; simp [h, ih]
    · rw [if_neg h]; simp [h]
theorem take_step {l : List Int} {k : Nat} {x : Int} (hx : l[k]? = some x) : l.take (k + 1) = l.take k ++ [x] := by rw [List.take_add_one, hx]; rfl

/-- What Count returns. -/
def countI : List Int → Int
  | [] => 0
  | x :: l => x % 2 + countI l
theorem countI_append (l m : List Int) : countI (l ++ m) = countI l + countI m := by
  induction l with
  | nil => simp [countI]
  | cons x l ih => simp only [List.cons_append, countI, ih]; omega
theorem countI_bounds (l : List Int) : 0 ≤ countI l ∧ countI l ≤ l.length := by
  induction l with
  | nil => simp [countI]
  | cons x l ih => simp only [countI, List.length_cons]; omega
theorem count_step {l : List Int} (hl : l.length ≤ 549755813888) {k : Nat} {x : Int} (hx : l[k]? = some x) : IntKind.u64.wrap (countI (l.take k) + x % 2) = countI (l.take (k + 1)) := by
  have h := countI_bounds (l.take (k + 1))
  have hlen : (l.take (k + 1)).length ≤ 549755813888 := by rw [List.length_take]; omega
  rw [take_step hx] at h hlen ⊢
  rw [countI_append] at h ⊢
  simp only [countI, Int.add_zero] at h ⊢
  rw [wrap_u64]
  omega

/-- Whether no element is odd: 1 or 0. -/
def openI (l : List Int) : Int := if l.all (fun x => x % 2 == 0) then 1 else 0
/-- What First returns. -/
def firstI (l : List Int) : Int := ((l.takeWhile fun x => x % 2 == 0).length : Nat)
theorem open_step {l : List Int} (hw : Words l) {k : Nat} {x : Int} (hx : l[k]? = some x) : bits .andNot .u64 (openI (l.take k)) (x % 2) = openI (l.take (k + 1)) := by
  have hxu : IsU x := hw x (List.mem_of_getElem? hx)
  rw [take_step hx]
  unfold openI
  rw [List.all_append]
  rcases Int.emod_two_eq x with h | h <;> rw [h]
  · cases hc : (l.take k).all fun x => x % 2 == 0 <;> simp [h] <;> decide
  · cases hc : (l.take k).all fun x => x % 2 == 0 <;> simp [h] <;> decide
theorem first_step {l : List Int} (hl : l.length ≤ 549755813888) {k : Nat} {x : Int} (hx : l[k]? = some x) : IntKind.u64.wrap (firstI (l.take k) + openI (l.take (k + 1))) = firstI (l.take (k + 1)) := by
  have hk := (List.getElem?_eq_some_iff.1 hx).1
  have hlen : (l.take k).length = k := by rw [List.length_take]; omega
  rw [take_step hx]
  have h0 : firstI (l.take k) ≤ k := by
    unfold firstI
    have := (List.takeWhile_sublist (l := l.take k) (fun x => x % 2 == 0)).length_le
    omega
  have h1 : 0 ≤ firstI (l.take k) := by unfold firstI; omega
  rw [wrap_u64]
  unfold openI
  rw [List.all_append]
  unfold firstI at h0 h1 ⊢
  rw [List.takeWhile_append]
  by_cases ha : (l.take k).all (fun x => x % 2 == 0)
  · have e : ((l.take k).takeWhile fun x => x % 2 == 0) = l.take k := by
      exact (List.takeWhile_sublist (l := l.take k) (fun x => x % 2 == 0)).eq_of_length (takeWhile_all.2 ha)
    rw [e, ha, if_pos rfl, List.length_append, hlen]
    rw [e, hlen] at h0 h1
    rcases Int.emod_two_eq x with h | h <;> simp [h] <;> omega
  · have e : ((l.take k).takeWhile fun x => x % 2 == 0).length ≠ (l.take k).length := by
      intro he
      exact ha (takeWhile_all.1 he)
    rw [if_neg e]
    simp only [Bool.not_eq_true] at ha
    rw [ha]
    simp
    omega

/-- What All returns. -/
def andI (l : List Int) : Int := l.foldl (fun a x => bits .and .u64 a x) 18446744073709551615
/-- What Some returns. -/
def orI (l : List Int) : Int := l.foldl (fun a x => bits .or .u64 a x) 0
theorem and_step {l : List Int} {k : Nat} {x : Int} (hx : l[k]? = some x) : bits .and .u64 (andI (l.take k)) x = andI (l.take (k + 1)) := by
  rw [take_step hx]; unfold andI; rw [List.foldl_append]; rfl
theorem or_step {l : List Int} {k : Nat} {x : Int} (hx : l[k]? = some x) : bits .or .u64 (orI (l.take k)) x = orI (l.take (k + 1)) := by
  rw [take_step hx]; unfold orI; rw [List.foldl_append]; rfl

end Go.Proofs.Ytbgjfibninccdaa.ar
