/- Products of vectors, orientations and positions relative to circles, by walking their text. -/
import Derived.Test.YtmoajobnhiopiaaGreatDoorLimbZ
import Derived.Test.YtmoajobnhiopiaaGreatDoorFork
import Derived.Deep.Cut
set_option linter.unusedSimpArgs false
set_option linter.unusedVariables false
namespace Go.Proofs.YtmoajobnhiopiaaGreatDoor.lm
open Go Go.RowKit Go.Shelf Go.Maps Go.Proofs.YtmoajobnhiopiaaGreatDoor.mk Go.Proofs.YtmoajobnhiopiaaGreatDoor.tp Go.Proofs.YtmoajobnhiopiaaGreatDoor.rg Go.Proofs.YtmoajobnhiopiaaGreatDoor.gm

set_option maxRecDepth 100000 in
theorem cross_calls (u v : Value) (x y : Int × Int) (w : World) (hu : vecAt w u x) (hv : vecAt w v y) (fx : Fit 2 x.1 ∧ Fit 2 x.2) (fy : Fit 2 y.1 ∧ Fit 2 y.2) :
    Calls Tryz.prog 68 #[u, v] w (GivesNum w 4 (cr x y)) := by
  have HU := Lib.hid hu
  have HV := Lib.hid hv
  obtain ⟨s1, s2, rfl, h1, h2⟩ := hu
  obtain ⟨s3, s4, rfl, h3, h4⟩ := hv
  obtain ⟨b1, o1, c1, rfl⟩ := h1.shape
  obtain ⟨b2, o2, c2, rfl⟩ := h2.shape
  obtain ⟨b3, o3, c3, rfl⟩ := h3.shape
  obtain ⟨b4, o4, c4, rfl⟩ := h4.shape
  clear h1 h2 h3 h4
  go_enter Tryz.func68, Tryz.ntmps68
  go_wp2_with fail
  have hk : ∀ o1 o2, Keeps (fun _ => False) w ((w.alloc o1).alloc o2) := fun o1 o2 => ((Keeps.refl _ w).alloc o1).alloc o2
  refine (prod_cross _ _ x y _ (HU.out.kept (hk _ _)) (HV.out.kept (hk _ _)) fx ⟨fy.2, fy.1⟩).mono ?_; rintro e w1 ⟨v', rfl, hv', hk'⟩
  go_wp2
  go_ret
  exact ⟨v', rfl, hv', knil (hk _ _) hk'⟩
set_option maxRecDepth 100000 in
theorem dot_calls (u v : Value) (x y : Int × Int) (w : World) (hu : vecAt w u x) (hv : vecAt w v y) (fx : Fit 2 x.1 ∧ Fit 2 x.2) (fy : Fit 2 y.1 ∧ Fit 2 y.2) :
    Calls Tryz.prog 103 #[u, v] w (GivesNum w 4 (x.1 * y.1 + x.2 * y.2)) := by
  have HU := Lib.hid hu
  have HV := Lib.hid hv
  obtain ⟨s1, s2, rfl, h1, h2⟩ := hu
  obtain ⟨s3, s4, rfl, h3, h4⟩ := hv
  obtain ⟨b1, o1, c1, rfl⟩ := h1.shape
  obtain ⟨b2, o2, c2, rfl⟩ := h2.shape
  obtain ⟨b3, o3, c3, rfl⟩ := h3.shape
  obtain ⟨b4, o4, c4, rfl⟩ := h4.shape
  clear h1 h2 h3 h4
  go_enter Tryz.func103, Tryz.ntmps103
  go_wp2_with fail
  have hk : ∀ o1 o2, Keeps (fun _ => False) w ((w.alloc o1).alloc o2) := fun o1 o2 => ((Keeps.refl _ w).alloc o1).alloc o2
  refine (prod_dot _ _ x y _ (HU.out.kept (hk _ _)) (HV.out.kept (hk _ _)) fx fy).mono ?_; rintro e w1 ⟨v', rfl, hv', hk'⟩
  go_wp2
  go_ret
  exact ⟨v', rfl, hv', knil (hk _ _) hk'⟩
theorem norm_calls (u : Value) (x : Int × Int) (w : World) (hu : vecAt w u x) (fx : Fit 2 x.1 ∧ Fit 2 x.2) :
    Calls Tryz.prog 71 #[u] w (GivesNum w 4 (nrm x)) := by
  have HU := Lib.hid hu
  obtain ⟨s1, s2, rfl, h1, h2⟩ := hu
  obtain ⟨b1, o1, c1, rfl⟩ := h1.shape
  obtain ⟨b2, o2, c2, rfl⟩ := h2.shape
  clear h1 h2
  go_enter Tryz.func71, Tryz.ntmps71
  go_wp2_with fail
  have hk : ∀ o1, Keeps (fun _ => False) w (w.alloc o1) := fun o1 => (Keeps.refl _ w).alloc o1
  refine (dot_calls _ _ x x _ (HU.out.kept (hk _)) (HU.out.kept (hk _)) fx fx).mono ?_; rintro e w1 ⟨v', rfl, hv', hk'⟩
  go_wp2
  go_ret
  exact ⟨v', rfl, hv', knil (hk _) hk'⟩
theorem fit_two {x : Int} (h : In 18446744073709551615 x) : Fit 2 x := h.fit (by decide)
theorem vec_fit {a b : Int × Int} (ha : Pt a) (hb : Pt b) : Fit 2 (vec a b).1 ∧ Fit 2 (vec a b).2 := ⟨fit_two (in_vec ha hb).1, fit_two (in_vec ha hb).2⟩
/-- n boxes of points lie at the end of the heap. -/
theorem box0 (w : World) (o : Obj) (P : World → Prop) (h : ∀ w', Keeps (fun _ => False) w w' → w'.heap[w.heap.size]? = some o → w'.heap.size = w.heap.size + 1 → P w') : P (w.alloc o) := h _ ((Keeps.refl _ w).alloc o) (heap_alloc_new w o) (by simp)

set_option maxRecDepth 100000 in
set_option maxHeartbeats 4000000 in
theorem ovalue_calls (a b c : Int × Int) (ha : Pt a) (hb : Pt b) (hc : Pt c) (w : World) : Calls Tryz.prog 40 #[.agg #[.int .i64 a.1, .int .i64 a.2], .agg #[.int .i64 b.1, .int .i64 b.2], .agg #[.int .i64 c.1, .int .i64 c.2]] w (GivesNum w 3 (det a b c)) := by
  go_enter Tryz.func40, Tryz.ntmps40
  go_wp2_with fail
  obtain ⟨w1, hw1⟩ : ∃ w1, (((w.alloc (.cells #[.int .i64 a.1, .int .i64 a.2] 35)).alloc (.cells #[.int .i64 b.1, .int .i64 b.2] 35)).alloc (.cells #[.int .i64 c.1, .int .i64 c.2] 35)) = w1 := ⟨_, rfl⟩
  have hk1 : Keeps (fun _ => False) w w1 := by rw [← hw1]; exact ((((Keeps.refl _ w).alloc _).alloc _).alloc _)
  have hg0 : w1.heap[w.heap.size]? = some (.cells #[.int .i64 a.1, .int .i64 a.2] 35 (0, 0)) := by
    rw [← hw1, Below.heap_alloc _ _ _ (by simp <;> omega), Below.heap_alloc _ _ _ (by simp <;> omega)]
    have := heap_alloc_new w (.cells #[.int .i64 a.1, .int .i64 a.2] 35)
    simpa using this
  have hg1 : w1.heap[w.heap.size + 1]? = some (.cells #[.int .i64 b.1, .int .i64 b.2] 35 (0, 0)) := by
    rw [← hw1, Below.heap_alloc _ _ _ (by simp <;> omega)]
    have := heap_alloc_new (w.alloc (.cells #[.int .i64 a.1, .int .i64 a.2] 35)) (.cells #[.int .i64 b.1, .int .i64 b.2] 35)
    simpa using this
  have hg2 : w1.heap[w.heap.size + 1 + 1]? = some (.cells #[.int .i64 c.1, .int .i64 c.2] 35 (0, 0)) := by
    rw [← hw1]
    have := heap_alloc_new ((w.alloc (.cells #[.int .i64 a.1, .int .i64 a.2] 35)).alloc (.cells #[.int .i64 b.1, .int .i64 b.2] 35)) (.cells #[.int .i64 c.1, .int .i64 c.2] 35)
    simpa using this
  have c0 := cells_at hg0 0
  have c1 := cells_at hg0 1
  have hl0 : w.heap.size < w1.heap.size := (Array.getElem?_eq_some_iff.1 hg0).1
  have c2 := cells_at hg1 0
  have c3 := cells_at hg1 1
  have hl1 : w.heap.size + 1 < w1.heap.size := (Array.getElem?_eq_some_iff.1 hg1).1
  have c4 := cells_at hg2 0
  have c5 := cells_at hg2 1
  have hl2 : w.heap.size + 1 + 1 < w1.heap.size := (Array.getElem?_eq_some_iff.1 hg2).1
  rw [hw1]
  clear hw1 hg0 hg1 hg2
  refine wp_region_late (fun W => W.cell? ⟨w.heap.size, 0, none⟩ = some (.int .i64 a.1) ∧ W.cell? ⟨w.heap.size, 1, none⟩ = some (.int .i64 a.2) ∧ W.cell? ⟨w.heap.size + 1, 0, none⟩ = some (.int .i64 b.1) ∧ W.cell? ⟨w.heap.size + 1, 1, none⟩ = some (.int .i64 b.2) ∧ W.cell? ⟨w.heap.size + 1 + 1, 0, none⟩ = some (.int .i64 c.1) ∧ W.cell? ⟨w.heap.size + 1 + 1, 1, none⟩ = some (.int .i64 c.2)) [] (by kernel_rfl) ?_
  have hS : w1.drew.cell? ⟨w.heap.size, 0, none⟩ = some (.int .i64 a.1) ∧ w1.drew.cell? ⟨w.heap.size, 1, none⟩ = some (.int .i64 a.2) ∧ w1.drew.cell? ⟨w.heap.size + 1, 0, none⟩ = some (.int .i64 b.1) ∧ w1.drew.cell? ⟨w.heap.size + 1, 1, none⟩ = some (.int .i64 b.2) ∧ w1.drew.cell? ⟨w.heap.size + 1 + 1, 0, none⟩ = some (.int .i64 c.1) ∧ w1.drew.cell? ⟨w.heap.size + 1 + 1, 1, none⟩ = some (.int .i64 c.2) := ⟨c0, c1, c2, c3, c4, c5⟩
  refine wpAnyL_take (i := 0) (oi := _) (v := .agg #[.int .i64 a.1, .int .i64 a.2]) rfl (by kernel_rfl) (by kernel_rfl) (by kernel_rfl) (by kernel_rfl) (fun _ _ _ h => (h : False).elim) (Or.inl ⟨by kernel_rfl, ?_⟩) (by assumption) ?_
  · intro w hSw
    obtain ⟨s0, s1, s2, s3, s4, s5⟩ := hSw
    go_simp
  try simp only [List.getElem_toArray, List.getElem_cons_zero, List.getElem_cons_succ, Act.put, List.setIfInBounds_toArray, List.set_cons_zero, List.set_cons_succ]
  refine wpAnyL_take (i := 1) (oi := _) (v := .agg #[.int .i64 b.1, .int .i64 b.2]) rfl (by kernel_rfl) (by kernel_rfl) (by kernel_rfl) (by kernel_rfl) (fun _ _ _ h => (h : False).elim) (Or.inl ⟨by kernel_rfl, ?_⟩) (by assumption) ?_
  · intro w hSw
    obtain ⟨s0, s1, s2, s3, s4, s5⟩ := hSw
    go_simp
  try simp only [List.getElem_toArray, List.getElem_cons_zero, List.getElem_cons_succ, Act.put, List.setIfInBounds_toArray, List.set_cons_zero, List.set_cons_succ]
  refine wpAnyL_take (i := 3) (oi := _) (v := .agg #[.int .i64 a.1, .int .i64 a.2]) rfl (by kernel_rfl) (by kernel_rfl) (by kernel_rfl) (by kernel_rfl) (fun _ _ _ h => (h : False).elim) (Or.inl ⟨by kernel_rfl, ?_⟩) (by assumption) ?_
  · intro w hSw
    obtain ⟨s0, s1, s2, s3, s4, s5⟩ := hSw
    go_simp
  try simp only [List.getElem_toArray, List.getElem_cons_zero, List.getElem_cons_succ, Act.put, List.setIfInBounds_toArray, List.set_cons_zero, List.set_cons_succ]
  refine wpAnyL_take (i := 4) (oi := _) (v := .agg #[.int .i64 c.1, .int .i64 c.2]) rfl (by kernel_rfl) (by kernel_rfl) (by kernel_rfl) (by kernel_rfl) (fun _ _ _ h => (h : False).elim) (Or.inl ⟨by kernel_rfl, ?_⟩) (by assumption) ?_
  · intro w hSw
    obtain ⟨s0, s1, s2, s3, s4, s5⟩ := hSw
    go_simp
  try simp only [List.getElem_toArray, List.getElem_cons_zero, List.getElem_cons_succ, Act.put, List.setIfInBounds_toArray, List.set_cons_zero, List.set_cons_succ]
  refine wpAnyL_next (i := 2) (by kernel_rfl) rfl (fun K hK => ?_)
  go_simp
  refine (between_calls a b ha hb _).mono ?_; rintro e w2 ⟨v1, rfl, hv1, hk2⟩
  have hk12 : Keeps (fun _ => False) w1 w2 := knil ((Keeps.refl _ w1).drewN 1) hk2
  go_wp2_with fail
  refine hK.out _ _ ⟨((hk12).cell (p := ⟨w.heap.size, 0, none⟩) hl0 (fun h => h)).trans c0, ((hk12).cell (p := ⟨w.heap.size, 1, none⟩) hl0 (fun h => h)).trans c1, ((hk12).cell (p := ⟨w.heap.size + 1, 0, none⟩) hl1 (fun h => h)).trans c2, ((hk12).cell (p := ⟨w.heap.size + 1, 1, none⟩) hl1 (fun h => h)).trans c3, ((hk12).cell (p := ⟨w.heap.size + 1 + 1, 0, none⟩) hl2 (fun h => h)).trans c4, ((hk12).cell (p := ⟨w.heap.size + 1 + 1, 1, none⟩) hl2 (fun h => h)).trans c5⟩ (fun hHeld => ?_)
  clear hK K
  try simp only [List.getElem_toArray, List.getElem_cons_zero, List.getElem_cons_succ, Act.put, List.setIfInBounds_toArray, List.set_cons_zero, List.set_cons_succ]
  refine wpAnyL_next (i := 5) (by kernel_rfl) rfl (fun K hK => ?_)
  go_simp
  refine (between_calls a c ha hc _).mono ?_; rintro e w3 ⟨v2, rfl, hv2, hk3⟩
  have hv1 := hv1.kept hk3
  have hk13 : Keeps (fun _ => False) w1 w3 := knil hk12 hk3
  go_wp2_with fail
  refine hK.out _ _ ⟨((hk13).cell (p := ⟨w.heap.size, 0, none⟩) hl0 (fun h => h)).trans c0, ((hk13).cell (p := ⟨w.heap.size, 1, none⟩) hl0 (fun h => h)).trans c1, ((hk13).cell (p := ⟨w.heap.size + 1, 0, none⟩) hl1 (fun h => h)).trans c2, ((hk13).cell (p := ⟨w.heap.size + 1, 1, none⟩) hl1 (fun h => h)).trans c3, ((hk13).cell (p := ⟨w.heap.size + 1 + 1, 0, none⟩) hl2 (fun h => h)).trans c4, ((hk13).cell (p := ⟨w.heap.size + 1 + 1, 1, none⟩) hl2 (fun h => h)).trans c5⟩ (fun hHeld => ?_)
  clear hK K
  try simp only [List.getElem_toArray, List.getElem_cons_zero, List.getElem_cons_succ, Act.put, List.setIfInBounds_toArray, List.set_cons_zero, List.set_cons_succ]
  refine wpAnyL_next (i := 6) (by kernel_rfl) rfl (fun K hK => ?_)
  go_simp
  refine (cross_calls v1 v2 _ _ _ hv1 hv2 (vec_fit ha hb) (vec_fit ha hc)).mono ?_; rintro e w4 ⟨v3, rfl, hv3, hk4⟩
  have hk14 : Keeps (fun _ => False) w1 w4 := knil hk13 hk4
  go_wp2_with fail
  refine hK.out _ _ ⟨((hk14).cell (p := ⟨w.heap.size, 0, none⟩) hl0 (fun h => h)).trans c0, ((hk14).cell (p := ⟨w.heap.size, 1, none⟩) hl0 (fun h => h)).trans c1, ((hk14).cell (p := ⟨w.heap.size + 1, 0, none⟩) hl1 (fun h => h)).trans c2, ((hk14).cell (p := ⟨w.heap.size + 1, 1, none⟩) hl1 (fun h => h)).trans c3, ((hk14).cell (p := ⟨w.heap.size + 1 + 1, 0, none⟩) hl2 (fun h => h)).trans c4, ((hk14).cell (p := ⟨w.heap.size + 1 + 1, 1, none⟩) hl2 (fun h => h)).trans c5⟩ (fun hHeld => ?_)
  clear hK K
  try simp only [List.getElem_toArray, List.getElem_cons_zero, List.getElem_cons_succ, Act.put, List.setIfInBounds_toArray, List.set_cons_zero, List.set_cons_succ]
  refine wpAnyL_next (i := 7) (by kernel_rfl) rfl (fun K hK => ?_)
  go_simp
  refine (extend_calls v3 3 3 _ (by decide) (by decide) (by decide) (.inl (by decide)) _ hv3).mono ?_; rintro e w5 ⟨v4, rfl, hv4, hk5⟩
  have hk15 : Keeps (fun _ => False) w1 w5 := knil hk14 hk5
  go_wp2_with fail
  refine hK.out _ _ ⟨((hk15).cell (p := ⟨w.heap.size, 0, none⟩) hl0 (fun h => h)).trans c0, ((hk15).cell (p := ⟨w.heap.size, 1, none⟩) hl0 (fun h => h)).trans c1, ((hk15).cell (p := ⟨w.heap.size + 1, 0, none⟩) hl1 (fun h => h)).trans c2, ((hk15).cell (p := ⟨w.heap.size + 1, 1, none⟩) hl1 (fun h => h)).trans c3, ((hk15).cell (p := ⟨w.heap.size + 1 + 1, 0, none⟩) hl2 (fun h => h)).trans c4, ((hk15).cell (p := ⟨w.heap.size + 1 + 1, 1, none⟩) hl2 (fun h => h)).trans c5⟩ (fun hHeld => ?_)
  clear hK K
  try simp only [List.getElem_toArray, List.getElem_cons_zero, List.getElem_cons_succ, Act.put, List.setIfInBounds_toArray, List.set_cons_zero, List.set_cons_succ]
  refine wpAnyL_any (i := 8) (oi := _) (v := v4) rfl (by kernel_rfl) (by kernel_rfl) (by kernel_rfl) (by kernel_rfl) (fun _ _ _ h => (h : False).elim) (Or.inl ⟨by kernel_rfl, ?_⟩) (fun _ => by assumption) ?_
  · intro w _
    go_simp
  try simp only [List.getElem_toArray, List.getElem_cons_zero, List.getElem_cons_succ, Act.put, List.setIfInBounds_toArray, List.set_cons_zero, List.set_cons_succ]
  refine wpAnyL_done (by kernel_rfl) ?_ _
  refine NoPanic.normal ?_
  obtain ⟨b7, o7, c7, rfl⟩ := hv4.shape
  clear hS c0 c1 c2 c3 c4 c5
  go_wp2
  go_ret
  exact ⟨_, rfl, hv4, knil hk1 hk15⟩
set_option maxRecDepth 100000 in
theorem osign_calls (a b c : Int × Int) (ha : Pt a) (hb : Pt b) (hc : Pt c) (w : World) (hG : Gl w) : Calls Tryz.prog 20 #[.agg #[.int .i64 a.1, .int .i64 a.2], .agg #[.int .i64 b.1, .int .i64 b.2], .agg #[.int .i64 c.1, .int .i64 c.2]] w fun e w' => e = .returned (.int .i64 (sgnI (det a b c))) ∧ Keeps (fun _ => False) w w' := by
  have HG := Lib.hid hG
  clear hG
  go_enter Tryz.func20, Tryz.ntmps20
  go_wp2_with fail
  obtain ⟨w1, hw1⟩ : ∃ w1, (((w.alloc (.cells #[.int .i64 a.1, .int .i64 a.2] 35)).alloc (.cells #[.int .i64 b.1, .int .i64 b.2] 35)).alloc (.cells #[.int .i64 c.1, .int .i64 c.2] 35)) = w1 := ⟨_, rfl⟩
  have hk1 : Keeps (fun _ => False) w w1 := by rw [← hw1]; exact ((((Keeps.refl _ w).alloc _).alloc _).alloc _)
  have hg0 : w1.heap[w.heap.size]? = some (.cells #[.int .i64 a.1, .int .i64 a.2] 35 (0, 0)) := by
    rw [← hw1, Below.heap_alloc _ _ _ (by simp <;> omega), Below.heap_alloc _ _ _ (by simp <;> omega)]
    have := heap_alloc_new w (.cells #[.int .i64 a.1, .int .i64 a.2] 35)
    simpa using this
  have hg1 : w1.heap[w.heap.size + 1]? = some (.cells #[.int .i64 b.1, .int .i64 b.2] 35 (0, 0)) := by
    rw [← hw1, Below.heap_alloc _ _ _ (by simp <;> omega)]
    have := heap_alloc_new (w.alloc (.cells #[.int .i64 a.1, .int .i64 a.2] 35)) (.cells #[.int .i64 b.1, .int .i64 b.2] 35)
    simpa using this
  have hg2 : w1.heap[w.heap.size + 1 + 1]? = some (.cells #[.int .i64 c.1, .int .i64 c.2] 35 (0, 0)) := by
    rw [← hw1]
    have := heap_alloc_new ((w.alloc (.cells #[.int .i64 a.1, .int .i64 a.2] 35)).alloc (.cells #[.int .i64 b.1, .int .i64 b.2] 35)) (.cells #[.int .i64 c.1, .int .i64 c.2] 35)
    simpa using this
  have c0 := cells_at hg0 0
  have c1 := cells_at hg0 1
  have hl0 : w.heap.size < w1.heap.size := (Array.getElem?_eq_some_iff.1 hg0).1
  have c2 := cells_at hg1 0
  have c3 := cells_at hg1 1
  have hl1 : w.heap.size + 1 < w1.heap.size := (Array.getElem?_eq_some_iff.1 hg1).1
  have c4 := cells_at hg2 0
  have c5 := cells_at hg2 1
  have hl2 : w.heap.size + 1 + 1 < w1.heap.size := (Array.getElem?_eq_some_iff.1 hg2).1
  rw [hw1]
  clear hw1 hg0 hg1 hg2
  refine (ovalue_calls a b c ha hb hc _).mono ?_; rintro e w2 ⟨v1, rfl, hv1, hk2⟩
  obtain ⟨b7, o7, c7, rfl⟩ := hv1.shape
  clear c0 c1 c2 c3 c4 c5
  go_wp2_with fail
  refine (lsign_calls _ 2 _ (by decide) (fit_det ha hb hc) w2 (HG.out.kept (knil hk1 hk2)) hv1).mono ?_; rintro e w3 ⟨rfl, hk3⟩
  go_wp2
  go_ret
  exact ⟨rfl, knil (knil hk1 hk2) hk3⟩
end Go.Proofs.YtmoajobnhiopiaaGreatDoor.lm
