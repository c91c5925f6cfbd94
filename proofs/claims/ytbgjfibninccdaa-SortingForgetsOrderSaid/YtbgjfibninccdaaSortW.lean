/- Clean, Less and exchange of package sorting; Clean and Less of the reference. -/
import Derived.Test.YtbgjfibninccdaaSortP
import Derived.Test.YtbgjfibninccdaaLate
import Derived.Test.YtbgjfibninccdaaMaskW
import Derived.Test.YtbgjfibninccdaaTapeW
import Derived.Test.YtbgjfibninccdaaArrayW
set_option linter.unusedSimpArgs false
set_option linter.unusedVariables false
namespace Go.Proofs.Ytbgjfibninccdaa.so
open Go Go.RowKit Go.Shelf Go.Proofs.Ytbgjfibninccdaa.mk Go.Proofs.Ytbgjfibninccdaa.nw Go.Proofs.Ytbgjfibninccdaa.tp Go.Proofs.Ytbgjfibninccdaa.rg Go.Proofs.Ytbgjfibninccdaa.ar

theorem results_cell1 {fn : Func} {p : Tmp} {ty : TypeId} (h : fn.results = #[.cell p ty]) (tmps : Array Value) (P : Program) (w : World) :
    (results fn tmps).run P w = ((asAddr (tmps.getD p undef)).run P w).andThen fun a w1 => (loadVar ty a).run P w1 := by
  simp only [results, h]
  simp [Sem.run_bind, Result.andThen]
theorem results_rec {fn : Func} {p : Tmp} (h : fn.results = #[.cell p 24]) (tmps : Array Value) (w : World) (g : Nat) (t : TypeId) (x y : Value) (fr : Nat × Nat)
    (hp : tmps.getD p undef = .pointer (some ⟨g, 0, none⟩)) (hg : w.heap[g]? = some (.cells #[x, y] t fr)) : (results fn tmps).run Try.prog w = .ok (.agg #[x, y]) w := by
  rw [results_cell1 h, hp]
  have e := run_loadVar_row (P := Try.prog) w g t 24 #[x, y] fr _ hg Try.underlying24 rfl (by kernel_rfl)
  simp [asAddr, e, Result.andThen]
theorem cells_set {w : World} {b : Nat} {cs : Array Value} {t : TypeId} {fr : Nat × Nat} (h : w.heap[b]? = some (.cells cs t fr)) (i : Nat) (u : Value) : (w.setCell ⟨b, i, none⟩ u).heap[b]? = some (.cells (cs.setIfInBounds i u) t fr) := by
  obtain ⟨hlt, hk⟩ := Array.getElem?_eq_some_iff.1 h
  show (w.heap.modify b _)[b]? = _
  rw [Array.getElem?_eq_getElem (by rw [Array.size_modify]; exact hlt), Array.getElem_modify_self, hk]
  simp
theorem two_set {w : World} {b : Nat} {u v x y : Value} {t : TypeId} {fr : Nat × Nat} (h : w.heap[b]? = some (.cells #[u, v] t fr)) : ((w.setCell ⟨b, 0, none⟩ x).setCell ⟨b, 1, none⟩ y).heap[b]? = some (.cells #[x, y] t fr) :=
  cells_set (cells_set h 0 x) 1 y
set_option maxRecDepth 100000 in
theorem sclean_calls (a b : Int) (ha : IsU a) (hb : IsU b) (w : World) : Calls Try.prog 10 #[.agg #[.int .u64 a, .int .u64 b]] w fun e w' => e = .returned (.agg #[.int .u64 (cleanR (a, b)).1, .int .u64 (cleanR (a, b)).2]) ∧ Keeps (fun _ => False) w w' := by
  go_enter Try.func10, Try.ntmps10
  go_wp2_with fail
  obtain ⟨w1, hw1⟩ : ∃ w1, (w.alloc (.cells #[.int .u64 a, .int .u64 b] 24)).alloc (.cells #[.int .u64 0, .int .u64 0] 24) = w1 := ⟨_, rfl⟩
  have hk1 : Keeps (fun _ => False) w w1 := by rw [← hw1]; exact ((Keeps.refl _ w).alloc _).alloc _
  have hg0 : w1.heap[w.heap.size]? = some (.cells #[.int .u64 a, .int .u64 b] 24 (0, 0)) := by rw [← hw1, Below.heap_alloc _ _ _ (by simp)]; exact heap_alloc_new w _
  have hg1 : w1.heap[w.heap.size + 1]? = some (.cells #[.int .u64 0, .int .u64 0] 24 (0, 0)) := by
    rw [← hw1]
    have := heap_alloc_new (w.alloc (.cells #[.int .u64 a, .int .u64 b] 24)) (.cells #[.int .u64 0, .int .u64 0] 24)
    simpa using this
  rw [hw1]
  clear hw1
  have c0 : w1.cell? ⟨w.heap.size, 0, none⟩ = some (.int .u64 a) := by rw [cell_of_row _ _ _ _ _ _ hg0]; rfl
  have c1 : w1.cell? ⟨w.heap.size, 1, none⟩ = some (.int .u64 b) := by rw [cell_of_row _ _ _ _ _ _ hg0]; rfl
  have d0 : w1.cell? ⟨w.heap.size + 1, 0, none⟩ = some (.int .u64 0) := by rw [cell_of_row _ _ _ _ _ _ hg1]; rfl
  have d1 : w1.cell? ⟨w.heap.size + 1, 1, none⟩ = some (.int .u64 0) := by rw [cell_of_row _ _ _ _ _ _ hg1]; rfl
  have e0 := two_frozen hg1 0
  have e1 := two_frozen hg1 1
  have hlt : w.heap.size < w1.heap.size := (Array.getElem?_eq_some_iff.1 hg0).1
  have hne : ¬ w.heap.size = w.heap.size + 1 := by omega
  have kx : ∀ u v, Keeps (fun i => i = w.heap.size + 1) w1 ((w1.setCell ⟨w.heap.size + 1, 0, none⟩ u).setCell ⟨w.heap.size + 1, 1, none⟩ v) := fun u v => ((Keeps.refl (fun i => i = w.heap.size + 1) w1).setCell ⟨w.heap.size + 1, 0, none⟩ (fun _ => rfl) u).setCell ⟨w.heap.size + 1, 1, none⟩ (fun _ => rfl) v
  have hm := mask_and (a % 2 == 1) hb
  have hm' : bits .and .u64 b (maskI (a % 2 == 1)) = (cleanR (a, b)).2 := by
    rw [bits_and, BitVec.and_comm, ← bits_and, hm]
    unfold cleanR
    simp only [beq_iff_eq]
  have hm1 : (cleanR (a, b)).1 = a % 2 := rfl
  have Hg1 := Lib.hid hg1
  have Hk1 := Lib.hid hk1
  clear hm hg0 hg1 hk1
  refine wp_region_late (fun W => W.cell? ⟨w.heap.size, 0, none⟩ = some (.int .u64 a) ∧ W.cell? ⟨w.heap.size, 1, none⟩ = some (.int .u64 b)) [] (by kernel_rfl) ?_
  have hS : w1.drew.cell? ⟨w.heap.size, 0, none⟩ = some (.int .u64 a) ∧ w1.drew.cell? ⟨w.heap.size, 1, none⟩ = some (.int .u64 b) := ⟨c0, c1⟩
  refine wpAnyL_take (i := 0) (oi := _) (v := .pointer (some ⟨w.heap.size, 0, none⟩)) rfl (by kernel_rfl) (by kernel_rfl) (by kernel_rfl) (by kernel_rfl) (fun _ _ _ h => (h : False).elim) (Or.inl ⟨by kernel_rfl, ?_⟩) (by assumption) ?_
  · intro w hSw
    obtain ⟨s0, s1⟩ := hSw
    go_simp
  try simp only [Act.put, List.setIfInBounds_toArray, List.set_cons_zero, List.set_cons_succ]
  refine wpAnyL_take (i := 1) (oi := _) (v := .int .u64 a) rfl (by kernel_rfl) (by kernel_rfl) (by kernel_rfl) (by kernel_rfl) (fun _ _ _ h => (h : False).elim) (Or.inl ⟨by kernel_rfl, ?_⟩) (by assumption) ?_
  · intro w hSw
    obtain ⟨s0, s1⟩ := hSw
    go_simp
  try simp only [Act.put, List.setIfInBounds_toArray, List.set_cons_zero, List.set_cons_succ]
  refine wpAnyL_take (i := 3) (oi := _) (v := .pointer (some ⟨w.heap.size, 1, none⟩)) rfl (by kernel_rfl) (by kernel_rfl) (by kernel_rfl) (by kernel_rfl) (fun _ _ _ h => (h : False).elim) (Or.inl ⟨by kernel_rfl, ?_⟩) (by assumption) ?_
  · intro w hSw
    obtain ⟨s0, s1⟩ := hSw
    go_simp
  try simp only [Act.put, List.setIfInBounds_toArray, List.set_cons_zero, List.set_cons_succ]
  refine wpAnyL_take (i := 4) (oi := _) (v := .int .u64 b) rfl (by kernel_rfl) (by kernel_rfl) (by kernel_rfl) (by kernel_rfl) (fun _ _ _ h => (h : False).elim) (Or.inl ⟨by kernel_rfl, ?_⟩) (by assumption) ?_
  · intro w hSw
    obtain ⟨s0, s1⟩ := hSw
    go_simp
  try simp only [Act.put, List.setIfInBounds_toArray, List.set_cons_zero, List.set_cons_succ]
  refine wpAnyL_take (i := 5) (oi := _) (v := .pointer (some ⟨w.heap.size, 0, none⟩)) rfl (by kernel_rfl) (by kernel_rfl) (by kernel_rfl) (by kernel_rfl) (fun _ _ _ h => (h : False).elim) (Or.inl ⟨by kernel_rfl, ?_⟩) (by assumption) ?_
  · intro w hSw
    obtain ⟨s0, s1⟩ := hSw
    go_simp
  try simp only [Act.put, List.setIfInBounds_toArray, List.set_cons_zero, List.set_cons_succ]
  refine wpAnyL_take (i := 6) (oi := _) (v := .int .u64 a) rfl (by kernel_rfl) (by kernel_rfl) (by kernel_rfl) (by kernel_rfl) (fun _ _ _ h => (h : False).elim) (Or.inl ⟨by kernel_rfl, ?_⟩) (by assumption) ?_
  · intro w hSw
    obtain ⟨s0, s1⟩ := hSw
    go_simp
  try simp only [Act.put, List.setIfInBounds_toArray, List.set_cons_zero, List.set_cons_succ]
  refine wpAnyL_next (i := 2) (by kernel_rfl) rfl (fun K hK => ?_)
  go_simp
  refine (bit_calls a ha _).mono ?_; rintro e w3 ⟨rfl, rfl⟩
  go_wp2_with fail
  refine hK.out _ _ ⟨c0, c1⟩ (fun hHeld => ?_)
  clear hK K
  try simp only [Act.put, List.setIfInBounds_toArray, List.set_cons_zero, List.set_cons_succ]
  refine wpAnyL_next (i := 7) (by kernel_rfl) rfl (fun K hK => ?_)
  go_simp
  refine (of_calls a ha _).mono ?_; rintro e w3 ⟨rfl, rfl⟩
  go_wp2_with fail
  refine hK.out _ _ ⟨c0, c1⟩ (fun hHeld => ?_)
  clear hK K
  try simp only [Act.put, List.setIfInBounds_toArray, List.set_cons_zero, List.set_cons_succ]
  refine wpAnyL_take (i := 8) (oi := _) (v := .int .u64 (cleanR (a, b)).2) rfl (by kernel_rfl) (by kernel_rfl) (by kernel_rfl) (by kernel_rfl) (fun _ _ _ h => (h : False).elim) (Or.inl ⟨by kernel_rfl, ?_⟩) (by assumption) ?_
  · intro w hSw
    obtain ⟨s0, s1⟩ := hSw
    go_simp
  try simp only [Act.put, List.setIfInBounds_toArray, List.set_cons_zero, List.set_cons_succ]
  refine wpAnyL_take (i := 9) (oi := _) (v := .agg #[.int .u64 (cleanR (a, b)).1, .int .u64 (cleanR (a, b)).2]) rfl (by kernel_rfl) (by kernel_rfl) (by kernel_rfl) (by kernel_rfl) (fun _ _ _ h => (h : False).elim) (Or.inl ⟨by kernel_rfl, ?_⟩) (by assumption) ?_
  · intro w hSw
    obtain ⟨s0, s1⟩ := hSw
    go_simp
  try simp only [Act.put, List.setIfInBounds_toArray, List.set_cons_zero, List.set_cons_succ]
  refine wpAnyL_next (i := 10) (by kernel_rfl) rfl (fun K hK => ?_)
  go_simp
  refine hK.out _ _ ⟨((kx _ _).cell (p := ⟨w.heap.size, 0, none⟩) hlt hne).trans c0, ((kx _ _).cell (p := ⟨w.heap.size, 1, none⟩) hlt hne).trans c1⟩ (fun hHeld => ?_)
  clear hK K
  try simp only [Act.put, List.setIfInBounds_toArray, List.set_cons_zero, List.set_cons_succ]
  refine wpAnyL_done (by kernel_rfl) ?_ _
  refine NoPanic.normal ?_
  have hret : (w1.setCell ⟨w.heap.size + 1, 0, none⟩ (.int .u64 (a % 2))).setCell ⟨w.heap.size + 1, 1, none⟩ (.int .u64 (cleanR (a, b)).2) = (w1.setCell ⟨w.heap.size + 1, 0, none⟩ (.int .u64 (a % 2))).setCell ⟨w.heap.size + 1, 1, none⟩ (.int .u64 (cleanR (a, b)).2) := rfl
  go_wp2_with fail
  refine bodyPost_ret (results_rec rfl _ _ _ _ _ _ _ rfl (two_set Hg1.out)) rfl ⟨rfl, (Hk1.out.trans (kx _ _) (fun i hi h => by omega)).drew⟩
theorem rclean_calls (a b : Int) (ha : IsU a) (w : World) : Calls Try.prog 11 #[.agg #[.int .u64 a, .int .u64 b]] w fun e w' => e = .returned (.agg #[.int .u64 (cleanR (a, b)).1, .int .u64 (cleanR (a, b)).2]) ∧ Keeps (fun _ => False) w w' := by
  have Hg := Lib.hid (fun (x y : Value) => show ((w.alloc (.cells #[.int .u64 a, .int .u64 b] 24)).alloc (.cells #[x, y] 24)).heap[w.heap.size + 1]? = some (.cells #[x, y] 24 (0, 0)) by
    have := heap_alloc_new (w.alloc (.cells #[.int .u64 a, .int .u64 b] 24)) (.cells #[x, y] 24)
    simpa using this)
  by_cases h : a % 2 = 1
  · have e : cleanR (a, b) = (1, b) := by unfold cleanR; simp only; rw [if_pos h, h]
    rw [e]
    clear e
    have ht : (a.tmod 2 == 1) = true := by rw [Int.tmod_eq_emod_of_nonneg ha.1, h]; rfl
    go_enter Try.func11, Try.ntmps11
    go_wp2
    refine bodyPost_ret (results_rec rfl _ _ (w.heap.size + 1) _ _ _ _ rfl (Hg.out _ _)) rfl ⟨rfl, ((Keeps.refl _ w).alloc _).alloc _⟩
  · have h0 : a % 2 = 0 := by omega
    have e : cleanR (a, b) = (0, 0) := by unfold cleanR; simp only; rw [if_neg h, h0]
    rw [e]
    clear e h
    have ht : (a.tmod 2 == 1) = false := by rw [Int.tmod_eq_emod_of_nonneg ha.1, h0]; rfl
    go_enter Try.func11, Try.ntmps11
    go_wp2
    refine bodyPost_ret (results_rec rfl _ _ (w.heap.size + 1) _ _ _ _ rfl (Hg.out _ _)) rfl ⟨rfl, ((Keeps.refl _ w).alloc _).alloc _⟩
end Go.Proofs.Ytbgjfibninccdaa.so
