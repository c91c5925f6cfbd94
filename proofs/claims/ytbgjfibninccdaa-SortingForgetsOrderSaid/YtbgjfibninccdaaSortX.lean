/- Less of package sorting and of the reference; exchange. -/
import Derived.Test.YtbgjfibninccdaaSortW
set_option linter.unusedSimpArgs false
set_option linter.unusedVariables false
namespace Go.Proofs.Ytbgjfibninccdaa.so
open Go Go.RowKit Go.Shelf Go.Proofs.Ytbgjfibninccdaa.mk Go.Proofs.Ytbgjfibninccdaa.nw Go.Proofs.Ytbgjfibninccdaa.tp Go.Proofs.Ytbgjfibninccdaa.rg Go.Proofs.Ytbgjfibninccdaa.ar

theorem mask_mask_and (p q : Bool) : bits .and .u64 (maskI p) (maskI q) = maskI (p && q) := by cases p <;> cases q <;> decide
theorem mask_mask_or (p q : Bool) : bits .or .u64 (maskI p) (maskI q) = maskI (p || q) := by cases p <;> cases q <;> decide
theorem recok {a b : Int} (ha : IsU a) (hb : IsU b) : RecOk (a, b) := ⟨ha, hb⟩
set_option maxRecDepth 100000 in
set_option maxHeartbeats 1000000 in
theorem sless_calls (a b c d : Int) (ha : IsU a) (hb : IsU b) (hc : IsU c) (hd : IsU d) (w : World) : Calls Try.prog 12 #[.agg #[.int .u64 a, .int .u64 b], .agg #[.int .u64 c, .int .u64 d]] w fun e w' => e = .returned (.int .u64 (maskI (lessR (a, b) (c, d)))) ∧ Keeps (fun _ => False) w w' := by
  have ha1 : IsU (cleanR (a, b)).1 := (cleanR_ok (recok ha hb)).1
  have hb1 : IsU (cleanR (a, b)).2 := (cleanR_ok (recok ha hb)).2
  have hc1 : IsU (cleanR (c, d)).1 := (cleanR_ok (recok hc hd)).1
  have hd1 : IsU (cleanR (c, d)).2 := (cleanR_ok (recok hc hd)).2
  have hpt := less_parts (recok ha hb) (recok hc hd)
  go_enter Try.func12, Try.ntmps12
  go_wp2_with fail
  obtain ⟨w1, hw1⟩ : ∃ w1, (w.alloc (.cells #[.int .u64 a, .int .u64 b] 24)).alloc (.cells #[.int .u64 c, .int .u64 d] 24) = w1 := ⟨_, rfl⟩
  have hk1 : Keeps (fun _ => False) w w1 := by rw [← hw1]; exact ((Keeps.refl _ w).alloc _).alloc _
  have hg0 : w1.heap[w.heap.size]? = some (.cells #[.int .u64 a, .int .u64 b] 24 (0, 0)) := by rw [← hw1, Below.heap_alloc _ _ _ (by simp)]; exact heap_alloc_new w _
  have hg1 : w1.heap[w.heap.size + 1]? = some (.cells #[.int .u64 c, .int .u64 d] 24 (0, 0)) := by
    rw [← hw1]
    have := heap_alloc_new (w.alloc (.cells #[.int .u64 a, .int .u64 b] 24)) (.cells #[.int .u64 c, .int .u64 d] 24)
    simpa using this
  rw [hw1]
  clear hw1
  have c0 : w1.cell? ⟨w.heap.size, 0, none⟩ = some (.int .u64 a) := by rw [cell_of_row _ _ _ _ _ _ hg0]; rfl
  have c1 : w1.cell? ⟨w.heap.size, 1, none⟩ = some (.int .u64 b) := by rw [cell_of_row _ _ _ _ _ _ hg0]; rfl
  have c2 : w1.cell? ⟨w.heap.size + 1, 0, none⟩ = some (.int .u64 c) := by rw [cell_of_row _ _ _ _ _ _ hg1]; rfl
  have c3 : w1.cell? ⟨w.heap.size + 1, 1, none⟩ = some (.int .u64 d) := by rw [cell_of_row _ _ _ _ _ _ hg1]; rfl
  have hl0 : w.heap.size < w1.heap.size := (Array.getElem?_eq_some_iff.1 hg0).1
  have hl1 : w.heap.size + 1 < w1.heap.size := (Array.getElem?_eq_some_iff.1 hg1).1
  have Hg0 := Lib.hid hg0
  have Hg1 := Lib.hid hg1
  have Hk1 := Lib.hid hk1
  have Hpt := Lib.hid hpt
  clear hg0 hg1 hk1 hpt
  refine wp_region_late (fun W => W.cell? ⟨w.heap.size, 0, none⟩ = some (.int .u64 a) ∧ W.cell? ⟨w.heap.size, 1, none⟩ = some (.int .u64 b) ∧ W.cell? ⟨w.heap.size + 1, 0, none⟩ = some (.int .u64 c) ∧ W.cell? ⟨w.heap.size + 1, 1, none⟩ = some (.int .u64 d)) [4] (by kernel_rfl) ?_
  have hS : w1.drew.cell? ⟨w.heap.size, 0, none⟩ = some (.int .u64 a) ∧ w1.drew.cell? ⟨w.heap.size, 1, none⟩ = some (.int .u64 b) ∧ w1.drew.cell? ⟨w.heap.size + 1, 0, none⟩ = some (.int .u64 c) ∧ w1.drew.cell? ⟨w.heap.size + 1, 1, none⟩ = some (.int .u64 d) := ⟨c0, c1, c2, c3⟩
  refine wpAnyL_take (i := 0) (oi := _) (v := .agg #[.int .u64 a, .int .u64 b]) rfl (by kernel_rfl) (by kernel_rfl) (by kernel_rfl) (by kernel_rfl) (fun _ _ _ h => (h : False).elim) (Or.inl ⟨by kernel_rfl, ?_⟩) (by assumption) ?_
  · intro w hSw
    obtain ⟨s0, s1, s2, s3⟩ := hSw
    go_simp
  try simp only [Act.put, List.setIfInBounds_toArray, List.set_cons_zero, List.set_cons_succ]
  refine wpAnyL_take (i := 2) (oi := _) (v := .agg #[.int .u64 c, .int .u64 d]) rfl (by kernel_rfl) (by kernel_rfl) (by kernel_rfl) (by kernel_rfl) (fun _ _ _ h => (h : False).elim) (Or.inl ⟨by kernel_rfl, ?_⟩) (by assumption) ?_
  · intro w hSw
    obtain ⟨s0, s1, s2, s3⟩ := hSw
    go_simp
  try simp only [Act.put, List.setIfInBounds_toArray, List.set_cons_zero, List.set_cons_succ]
  refine wpAnyL_next (i := 1) (by kernel_rfl) rfl (fun K hK => ?_)
  go_simp
  refine (sclean_calls a b ha hb _).mono ?_; rintro e w2 ⟨rfl, hk2'⟩
  have hk2 : Keeps (fun _ => False) w1 w2 := ((Keeps.refl _ w1).drewN 1).trans hk2' (fun _ _ h => h)
  clear hk2'
  go_wp2_with fail
  refine hK.out _ _ ⟨(hk2.cell (p := ⟨w.heap.size, 0, none⟩) hl0 (fun h => h)).trans c0, (hk2.cell (p := ⟨w.heap.size, 1, none⟩) hl0 (fun h => h)).trans c1, (hk2.cell (p := ⟨w.heap.size + 1, 0, none⟩) hl1 (fun h => h)).trans c2, (hk2.cell (p := ⟨w.heap.size + 1, 1, none⟩) hl1 (fun h => h)).trans c3⟩ (fun hHeld => ?_)
  clear hK K
  try simp only [Act.put, List.setIfInBounds_toArray, List.set_cons_zero, List.set_cons_succ]
  refine wpAnyL_next (i := 3) (by kernel_rfl) rfl (fun K hK => ?_)
  go_simp
  refine (sclean_calls c d hc hd _).mono ?_; rintro e w3 ⟨rfl, hk3'⟩
  have hk3 : Keeps (fun _ => False) w1 w3 := hk2.trans hk3' (fun _ _ h => h)
  clear hk3'
  go_wp2_with fail
  refine hK.out _ _ ⟨(hk3.cell (p := ⟨w.heap.size, 0, none⟩) hl0 (fun h => h)).trans c0, (hk3.cell (p := ⟨w.heap.size, 1, none⟩) hl0 (fun h => h)).trans c1, (hk3.cell (p := ⟨w.heap.size + 1, 0, none⟩) hl1 (fun h => h)).trans c2, (hk3.cell (p := ⟨w.heap.size + 1, 1, none⟩) hl1 (fun h => h)).trans c3⟩ (fun hHeld => ?_)
  clear hK K
  try simp only [Act.put, List.setIfInBounds_toArray, List.set_cons_zero, List.set_cons_succ]
  have hg0' : w3.heap[w.heap.size]? = _ := (hk3.block _ hl0 (fun h => h)).trans Hg0.out
  have hg1' : w3.heap[w.heap.size + 1]? = _ := (hk3.block _ hl1 (fun h => h)).trans Hg1.out
  have p0 : w3.cell? ⟨w.heap.size, 0, none⟩ = some (.int .u64 a) := by rw [cell_of_row _ _ _ _ _ _ hg0']; rfl
  have p1 : w3.cell? ⟨w.heap.size, 1, none⟩ = some (.int .u64 b) := by rw [cell_of_row _ _ _ _ _ _ hg0']; rfl
  have p2 : w3.cell? ⟨w.heap.size + 1, 0, none⟩ = some (.int .u64 c) := by rw [cell_of_row _ _ _ _ _ _ hg1']; rfl
  have p3 : w3.cell? ⟨w.heap.size + 1, 1, none⟩ = some (.int .u64 d) := by rw [cell_of_row _ _ _ _ _ _ hg1']; rfl
  have q0 := two_frozen hg0' 0
  have q1 := two_frozen hg0' 1
  have q2 := two_frozen hg1' 0
  have q3 := two_frozen hg1' 1
  have Hq0 := Lib.hid hg0'
  have Hq1 := Lib.hid hg1'
  clear hg0' hg1' c0 c1 c2 c3
  refine wpAnyL_late (i := 4) (by kernel_rfl) rfl (by kernel_rfl) (fun K hK => ?_)
  go_simp
  clear p0 p1 q0 q1
  refine hK.out _ _ (fun _ => ?_)
  clear hK K
  try simp only [Act.put, List.setIfInBounds_toArray, List.set_cons_zero, List.set_cons_succ]
  refine wpAnyL_late (i := 5) (by kernel_rfl) rfl (by kernel_rfl) (fun K hK => ?_)
  go_simp
  refine hK.out _ _ (fun _ => ?_)
  clear hK K
  try simp only [Act.put, List.setIfInBounds_toArray, List.set_cons_zero, List.set_cons_succ]
  refine wpAnyL_done (by kernel_rfl) ?_ _
  refine NoPanic.normal ?_
  go_wp2_with fail
  obtain ⟨w4, hw4⟩ : ∃ w4, (((w3.setCell ⟨w.heap.size, 0, none⟩ (.int .u64 (cleanR (a, b)).1)).setCell ⟨w.heap.size, 1, none⟩ (.int .u64 (cleanR (a, b)).2)).setCell ⟨w.heap.size + 1, 0, none⟩ (.int .u64 (cleanR (c, d)).1)).setCell ⟨w.heap.size + 1, 1, none⟩ (.int .u64 (cleanR (c, d)).2) = w4 := ⟨_, rfl⟩
  rw [hw4]
  have kxy : Keeps (fun i => i = w.heap.size + 1) ((w3.setCell ⟨w.heap.size, 0, none⟩ (.int .u64 (cleanR (a, b)).1)).setCell ⟨w.heap.size, 1, none⟩ (.int .u64 (cleanR (a, b)).2)) w4 := by
    rw [← hw4]
    exact ((Keeps.refl (fun i => i = w.heap.size + 1) _).setCell ⟨w.heap.size + 1, 0, none⟩ (fun _ => rfl) _).setCell ⟨w.heap.size + 1, 1, none⟩ (fun _ => rfl) _
  have kx : Keeps (fun i => i = w.heap.size) w3 ((w3.setCell ⟨w.heap.size, 0, none⟩ (.int .u64 (cleanR (a, b)).1)).setCell ⟨w.heap.size, 1, none⟩ (.int .u64 (cleanR (a, b)).2)) := ((Keeps.refl (fun i => i = w.heap.size) w3).setCell ⟨w.heap.size, 0, none⟩ (fun _ => rfl) _).setCell ⟨w.heap.size, 1, none⟩ (fun _ => rfl) _
  have hz3 := hk3.size
  have r0 := (kxy.block w.heap.size (by have := kx.size; omega) (by omega)).trans (two_set (x := .int .u64 (cleanR (a, b)).1) (y := .int .u64 (cleanR (a, b)).2) Hq0.out)
  have r1 : w4.heap[w.heap.size + 1]? = some (.cells #[.int .u64 (cleanR (c, d)).1, .int .u64 (cleanR (c, d)).2] 24 (0, 0)) := by
    rw [← hw4]
    exact two_set ((kx.block (w.heap.size + 1) (by omega) (by omega)).trans Hq1.out)
  have Hk4 := Lib.hid (show Keeps (fun _ => False) w w4 from ((Hk1.out.trans hk3 (fun _ _ h => h)).trans kx (fun i hi h => by omega)).trans kxy (fun i hi h => by omega))
  have c0 : w4.cell? ⟨w.heap.size, 0, none⟩ = some (.int .u64 (cleanR (a, b)).1) := by rw [cell_of_row _ _ _ _ _ _ r0]; rfl
  have c1 : w4.cell? ⟨w.heap.size, 1, none⟩ = some (.int .u64 (cleanR (a, b)).2) := by rw [cell_of_row _ _ _ _ _ _ r0]; rfl
  have c2 : w4.cell? ⟨w.heap.size + 1, 0, none⟩ = some (.int .u64 (cleanR (c, d)).1) := by rw [cell_of_row _ _ _ _ _ _ r1]; rfl
  have c3 : w4.cell? ⟨w.heap.size + 1, 1, none⟩ = some (.int .u64 (cleanR (c, d)).2) := by rw [cell_of_row _ _ _ _ _ _ r1]; rfl
  have hand := mask_mask_and ((cleanR (a, b)).1 == (cleanR (c, d)).1) (decide ((cleanR (a, b)).2 < (cleanR (c, d)).2))
  have hor : bits .or .u64 (maskI (decide ((cleanR (c, d)).1 < (cleanR (a, b)).1))) (maskI ((cleanR (a, b)).1 == (cleanR (c, d)).1 && decide ((cleanR (a, b)).2 < (cleanR (c, d)).2))) = maskI (lessR (a, b) (c, d)) := by
    rw [mask_mask_or, Hpt.out]
  clear hw4 kxy kx r0 r1 hk2 hk3 hz3 p2 p3 q2 q3
  refine wp_region_late (fun W => W.cell? ⟨w.heap.size, 0, none⟩ = some (.int .u64 (cleanR (a, b)).1) ∧ W.cell? ⟨w.heap.size, 1, none⟩ = some (.int .u64 (cleanR (a, b)).2) ∧ W.cell? ⟨w.heap.size + 1, 0, none⟩ = some (.int .u64 (cleanR (c, d)).1) ∧ W.cell? ⟨w.heap.size + 1, 1, none⟩ = some (.int .u64 (cleanR (c, d)).2)) [] (by kernel_rfl) ?_
  have hS : w4.drew.cell? ⟨w.heap.size, 0, none⟩ = some (.int .u64 (cleanR (a, b)).1) ∧ w4.drew.cell? ⟨w.heap.size, 1, none⟩ = some (.int .u64 (cleanR (a, b)).2) ∧ w4.drew.cell? ⟨w.heap.size + 1, 0, none⟩ = some (.int .u64 (cleanR (c, d)).1) ∧ w4.drew.cell? ⟨w.heap.size + 1, 1, none⟩ = some (.int .u64 (cleanR (c, d)).2) := ⟨c0, c1, c2, c3⟩
  refine wpAnyL_take (i := 0) (oi := _) (v := .pointer (some ⟨w.heap.size + 1, 0, none⟩)) rfl (by kernel_rfl) (by kernel_rfl) (by kernel_rfl) (by kernel_rfl) (fun _ _ _ h => (h : False).elim) (Or.inl ⟨by kernel_rfl, ?_⟩) (by assumption) ?_
  · intro w hSw
    obtain ⟨s0, s1, s2, s3⟩ := hSw
    go_simp
  try simp only [Act.put, List.setIfInBounds_toArray, List.set_cons_zero, List.set_cons_succ]
  refine wpAnyL_take (i := 1) (oi := _) (v := .int .u64 (cleanR (c, d)).1) rfl (by kernel_rfl) (by kernel_rfl) (by kernel_rfl) (by kernel_rfl) (fun _ _ _ h => (h : False).elim) (Or.inl ⟨by kernel_rfl, ?_⟩) (by assumption) ?_
  · intro w hSw
    obtain ⟨s0, s1, s2, s3⟩ := hSw
    go_simp
  try simp only [Act.put, List.setIfInBounds_toArray, List.set_cons_zero, List.set_cons_succ]
  refine wpAnyL_take (i := 2) (oi := _) (v := .pointer (some ⟨w.heap.size, 0, none⟩)) rfl (by kernel_rfl) (by kernel_rfl) (by kernel_rfl) (by kernel_rfl) (fun _ _ _ h => (h : False).elim) (Or.inl ⟨by kernel_rfl, ?_⟩) (by assumption) ?_
  · intro w hSw
    obtain ⟨s0, s1, s2, s3⟩ := hSw
    go_simp
  try simp only [Act.put, List.setIfInBounds_toArray, List.set_cons_zero, List.set_cons_succ]
  refine wpAnyL_take (i := 3) (oi := _) (v := .int .u64 (cleanR (a, b)).1) rfl (by kernel_rfl) (by kernel_rfl) (by kernel_rfl) (by kernel_rfl) (fun _ _ _ h => (h : False).elim) (Or.inl ⟨by kernel_rfl, ?_⟩) (by assumption) ?_
  · intro w hSw
    obtain ⟨s0, s1, s2, s3⟩ := hSw
    go_simp
  try simp only [Act.put, List.setIfInBounds_toArray, List.set_cons_zero, List.set_cons_succ]
  refine wpAnyL_take (i := 5) (oi := _) (v := .pointer (some ⟨w.heap.size, 0, none⟩)) rfl (by kernel_rfl) (by kernel_rfl) (by kernel_rfl) (by kernel_rfl) (fun _ _ _ h => (h : False).elim) (Or.inl ⟨by kernel_rfl, ?_⟩) (by assumption) ?_
  · intro w hSw
    obtain ⟨s0, s1, s2, s3⟩ := hSw
    go_simp
  try simp only [Act.put, List.setIfInBounds_toArray, List.set_cons_zero, List.set_cons_succ]
  refine wpAnyL_take (i := 6) (oi := _) (v := .int .u64 (cleanR (a, b)).1) rfl (by kernel_rfl) (by kernel_rfl) (by kernel_rfl) (by kernel_rfl) (fun _ _ _ h => (h : False).elim) (Or.inl ⟨by kernel_rfl, ?_⟩) (by assumption) ?_
  · intro w hSw
    obtain ⟨s0, s1, s2, s3⟩ := hSw
    go_simp
  try simp only [Act.put, List.setIfInBounds_toArray, List.set_cons_zero, List.set_cons_succ]
  refine wpAnyL_take (i := 7) (oi := _) (v := .pointer (some ⟨w.heap.size + 1, 0, none⟩)) rfl (by kernel_rfl) (by kernel_rfl) (by kernel_rfl) (by kernel_rfl) (fun _ _ _ h => (h : False).elim) (Or.inl ⟨by kernel_rfl, ?_⟩) (by assumption) ?_
  · intro w hSw
    obtain ⟨s0, s1, s2, s3⟩ := hSw
    go_simp
  try simp only [Act.put, List.setIfInBounds_toArray, List.set_cons_zero, List.set_cons_succ]
  refine wpAnyL_take (i := 8) (oi := _) (v := .int .u64 (cleanR (c, d)).1) rfl (by kernel_rfl) (by kernel_rfl) (by kernel_rfl) (by kernel_rfl) (fun _ _ _ h => (h : False).elim) (Or.inl ⟨by kernel_rfl, ?_⟩) (by assumption) ?_
  · intro w hSw
    obtain ⟨s0, s1, s2, s3⟩ := hSw
    go_simp
  try simp only [Act.put, List.setIfInBounds_toArray, List.set_cons_zero, List.set_cons_succ]
  refine wpAnyL_take (i := 10) (oi := _) (v := .pointer (some ⟨w.heap.size, 1, none⟩)) rfl (by kernel_rfl) (by kernel_rfl) (by kernel_rfl) (by kernel_rfl) (fun _ _ _ h => (h : False).elim) (Or.inl ⟨by kernel_rfl, ?_⟩) (by assumption) ?_
  · intro w hSw
    obtain ⟨s0, s1, s2, s3⟩ := hSw
    go_simp
  try simp only [Act.put, List.setIfInBounds_toArray, List.set_cons_zero, List.set_cons_succ]
  refine wpAnyL_take (i := 11) (oi := _) (v := .int .u64 (cleanR (a, b)).2) rfl (by kernel_rfl) (by kernel_rfl) (by kernel_rfl) (by kernel_rfl) (fun _ _ _ h => (h : False).elim) (Or.inl ⟨by kernel_rfl, ?_⟩) (by assumption) ?_
  · intro w hSw
    obtain ⟨s0, s1, s2, s3⟩ := hSw
    go_simp
  try simp only [Act.put, List.setIfInBounds_toArray, List.set_cons_zero, List.set_cons_succ]
  refine wpAnyL_take (i := 12) (oi := _) (v := .pointer (some ⟨w.heap.size + 1, 1, none⟩)) rfl (by kernel_rfl) (by kernel_rfl) (by kernel_rfl) (by kernel_rfl) (fun _ _ _ h => (h : False).elim) (Or.inl ⟨by kernel_rfl, ?_⟩) (by assumption) ?_
  · intro w hSw
    obtain ⟨s0, s1, s2, s3⟩ := hSw
    go_simp
  try simp only [Act.put, List.setIfInBounds_toArray, List.set_cons_zero, List.set_cons_succ]
  refine wpAnyL_take (i := 13) (oi := _) (v := .int .u64 (cleanR (c, d)).2) rfl (by kernel_rfl) (by kernel_rfl) (by kernel_rfl) (by kernel_rfl) (fun _ _ _ h => (h : False).elim) (Or.inl ⟨by kernel_rfl, ?_⟩) (by assumption) ?_
  · intro w hSw
    obtain ⟨s0, s1, s2, s3⟩ := hSw
    go_simp
  try simp only [Act.put, List.setIfInBounds_toArray, List.set_cons_zero, List.set_cons_succ]
  refine wpAnyL_next (i := 4) (by kernel_rfl) rfl (fun K hK => ?_)
  go_simp
  refine (less_calls (cleanR (c, d)).1 (cleanR (a, b)).1 hc1 ha1 _).mono ?_; rintro e w5 ⟨rfl, rfl⟩
  go_wp2_with fail
  refine hK.out _ _ ⟨c0, c1, c2, c3⟩ (fun hHeld => ?_)
  clear hK K
  try simp only [Act.put, List.setIfInBounds_toArray, List.set_cons_zero, List.set_cons_succ]
  refine wpAnyL_next (i := 9) (by kernel_rfl) rfl (fun K hK => ?_)
  go_simp
  refine (equal_calls (cleanR (a, b)).1 (cleanR (c, d)).1 ha1 hc1 _).mono ?_; rintro e w5 ⟨rfl, rfl⟩
  go_wp2_with fail
  refine hK.out _ _ ⟨c0, c1, c2, c3⟩ (fun hHeld => ?_)
  clear hK K
  try simp only [Act.put, List.setIfInBounds_toArray, List.set_cons_zero, List.set_cons_succ]
  refine wpAnyL_next (i := 14) (by kernel_rfl) rfl (fun K hK => ?_)
  go_simp
  refine (less_calls (cleanR (a, b)).2 (cleanR (c, d)).2 hb1 hd1 _).mono ?_; rintro e w5 ⟨rfl, rfl⟩
  go_wp2_with fail
  refine hK.out _ _ ⟨c0, c1, c2, c3⟩ (fun hHeld => ?_)
  clear hK K
  try simp only [Act.put, List.setIfInBounds_toArray, List.set_cons_zero, List.set_cons_succ]
  refine wpAnyL_take (i := 15) (oi := _) (v := .int .u64 (maskI ((cleanR (a, b)).1 == (cleanR (c, d)).1 && decide ((cleanR (a, b)).2 < (cleanR (c, d)).2)))) rfl (by kernel_rfl) (by kernel_rfl) (by kernel_rfl) (by kernel_rfl) (fun _ _ _ h => (h : False).elim) (Or.inl ⟨by kernel_rfl, ?_⟩) (by assumption) ?_
  · intro w hSw
    obtain ⟨s0, s1, s2, s3⟩ := hSw
    go_simp
  try simp only [Act.put, List.setIfInBounds_toArray, List.set_cons_zero, List.set_cons_succ]
  refine wpAnyL_take (i := 16) (oi := _) (v := .int .u64 (maskI (lessR (a, b) (c, d)))) rfl (by kernel_rfl) (by kernel_rfl) (by kernel_rfl) (by kernel_rfl) (fun _ _ _ h => (h : False).elim) (Or.inl ⟨by kernel_rfl, ?_⟩) (by assumption) ?_
  · intro w hSw
    obtain ⟨s0, s1, s2, s3⟩ := hSw
    go_simp
  try simp only [Act.put, List.setIfInBounds_toArray, List.set_cons_zero, List.set_cons_succ]
  refine wpAnyL_next (i := 17) (by kernel_rfl) rfl (fun K hK => ?_)
  go_simp
  refine hK.out _ _ ⟨c0, c1, c2, c3⟩ (fun hHeld => ?_)
  clear hK K
  try simp only [Act.put, List.setIfInBounds_toArray, List.set_cons_zero, List.set_cons_succ]
  refine wpAnyL_done (by kernel_rfl) ?_ _
  refine NoPanic.normal ?_
  go_wp2_with fail
  go_ret
  exact ⟨rfl, Hk4.out.drew⟩
end Go.Proofs.Ytbgjfibninccdaa.so
