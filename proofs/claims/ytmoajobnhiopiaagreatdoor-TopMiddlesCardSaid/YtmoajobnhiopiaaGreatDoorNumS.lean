/- The orientation of the reference, by walking its text. -/
import Derived.Test.YtmoajobnhiopiaaGreatDoorNumZ
set_option linter.unusedSimpArgs false
set_option linter.unusedVariables false
namespace Go.Proofs.YtmoajobnhiopiaaGreatDoor.nb
open Go Go.RowKit Go.Shelf Go.Maps Go.Proofs.YtmoajobnhiopiaaGreatDoor.mk Go.Proofs.YtmoajobnhiopiaaGreatDoor.tp Go.Proofs.YtmoajobnhiopiaaGreatDoor.rg Go.Proofs.YtmoajobnhiopiaaGreatDoor.lm Go.Proofs.YtmoajobnhiopiaaGreatDoor.gm

theorem nAt.up {w : World} {v : Value} {x : Int} {n n' : Nat} (h : nAt w v x n) (hn : n ≤ n') : nAt w v x n' := by
  obtain ⟨s, sv, l, h1, h2, h3, h4⟩ := h
  exact ⟨s, sv, l, h1, h2, h3, by omega⟩

set_option maxRecDepth 100000 in
theorem rprod_calls (x y : Int) (hx : IsS x) (hy : IsS y) (w : World) : Calls Tryz.prog 112 #[.int .i64 x, .int .i64 y] w (GivesN w (x * y) 8) := by
  go_enter Tryz.func112, Tryz.ntmps112
  go_upto_region 1 with fail
  obtain ⟨w1, hw1⟩ : ∃ w1, (w.alloc (.cells #[.int .i64 0, .slice none 0 0] 92)) = w1 := ⟨_, rfl⟩
  have hk1 : Keeps (fun _ => False) w w1 := by rw [← hw1]; exact ((Keeps.refl _ w).alloc _)
  have hgn : w1.heap[w.heap.size]? = some (.cells #[.int .i64 0, .slice none 0 0] 92 (0, 0)) := by
    rw [← hw1]
    have := heap_alloc_new w (.cells #[.int .i64 0, .slice none 0 0] 92)
    simpa using this
  have hln : w.heap.size < w1.heap.size := (Array.getElem?_eq_some_iff.1 hgn).1
  rw [hw1]
  have HGN := Lib.hid hgn
  clear hw1 hgn 
  go_wp2_with fail
  refine (int_calls x hx _).mono ?_; rintro e w2 ⟨v1, rfl, hv1, hk2⟩
  go_wp2_with fail
  refine (int_calls y hy _).mono ?_; rintro e w3 ⟨v2, rfl, hv2, hk3⟩
  have hv1 := hv1.kept hk3
  have HV1 := Lib.hid hv1
  have HV2 := Lib.hid hv2
  obtain ⟨s5, a5, q5, l5, rfl, hd5, hr5, hn5⟩ := hv1.open
  obtain ⟨s6, a6, q6, l6, rfl, hd6, hr6, hn6⟩ := hv2.open
  clear hd5 hr5 hd6 hr6 hv1 hv2
  go_wp2_with fail
  refine (nmul_calls _ _ x y 4 4 (by decide) (by decide) _ HV1.out HV2.out).mono ?_; rintro e w4 ⟨v4, rfl, hv4, hk4⟩
  have hk14 : Keeps (fun _ => False) w1 w4 := knil (knil hk2 hk3) hk4
  obtain ⟨s9, a9, q9, l9, rfl, hd9, hr9, hn9⟩ := hv4.open
  have hG := (hk14.block _ hln (fun h => h)).trans HGN.out
  have e0 := two_frozen hG 0
  have e1 := two_frozen hG 1
  have f0 := cells_at hG 0
  have f1 := cells_at hG 1
  have HG := Lib.hid hG
  have HD9 := Lib.hid hd9
  have HR9 := Lib.hid hr9
  clear hG hd9 hr9
  go_wp2_with fail
  refine bodyPost_ret (results_nb rfl _ _ _ _ _ _ _ rfl (cells_two HG.out)) rfl (fin_nb (knil hk1 hk14) HG.out (by omega) HD9.out HR9.out (by omega))
set_option maxRecDepth 100000 in
set_option maxHeartbeats 2000000 in
theorem minor_calls (a b : Int × Int) (ha : Pt a) (hb : Pt b) (w : World) : Calls Tryz.prog 77 #[.agg #[.int .i64 a.1, .int .i64 a.2], .agg #[.int .i64 b.1, .int .i64 b.2]] w (GivesN w (a.1 * b.2 - a.2 * b.1) 9) := by
  go_enter Tryz.func77, Tryz.ntmps77
  go_upto_region 1 with fail
  obtain ⟨w1, hw1⟩ : ∃ w1, (((w.alloc (.cells #[.int .i64 a.1, .int .i64 a.2] 35)).alloc (.cells #[.int .i64 b.1, .int .i64 b.2] 35)).alloc (.cells #[.int .i64 0, .slice none 0 0] 92)) = w1 := ⟨_, rfl⟩
  have hk1 : Keeps (fun _ => False) w w1 := by rw [← hw1]; exact ((((Keeps.refl _ w).alloc _).alloc _).alloc _)
  have hg0 : w1.heap[w.heap.size]? = some (.cells #[.int .i64 a.1, .int .i64 a.2] 35 (0, 0)) := by
    rw [← hw1, Below.heap_alloc _ _ _ (by simp <;> omega), Below.heap_alloc _ _ _ (by simp <;> omega)]
    have := heap_alloc_new w (.cells #[.int .i64 a.1, .int .i64 a.2] 35)
    simpa using this
  have hg1 : w1.heap[w.heap.size + 1]? = some (.cells #[.int .i64 b.1, .int .i64 b.2] 35 (0, 0)) := by
    rw [← hw1, Below.heap_alloc _ _ _ (by simp <;> omega)]
    have := heap_alloc_new (w.alloc (.cells #[.int .i64 a.1, .int .i64 a.2] 35)) (.cells #[.int .i64 b.1, .int .i64 b.2] 35)
    simpa using this
  have hgn : w1.heap[w.heap.size + 1 + 1]? = some (.cells #[.int .i64 0, .slice none 0 0] 92 (0, 0)) := by
    rw [← hw1]
    have := heap_alloc_new ((w.alloc (.cells #[.int .i64 a.1, .int .i64 a.2] 35)).alloc (.cells #[.int .i64 b.1, .int .i64 b.2] 35)) (.cells #[.int .i64 0, .slice none 0 0] 92)
    simpa using this
  have c0 := cells_at hg0 0
  have c1 := cells_at hg0 1
  have hl0 : w.heap.size < w1.heap.size := (Array.getElem?_eq_some_iff.1 hg0).1
  have c2 := cells_at hg1 0
  have c3 := cells_at hg1 1
  have hl1 : w.heap.size + 1 < w1.heap.size := (Array.getElem?_eq_some_iff.1 hg1).1
  have hln : w.heap.size + 1 + 1 < w1.heap.size := (Array.getElem?_eq_some_iff.1 hgn).1
  rw [hw1]
  have HGN := Lib.hid hgn
  clear hw1 hgn hg0 hg1
  refine wp_region_late (fun W => W.cell? ⟨w.heap.size, 0, none⟩ = some (.int .i64 a.1) ∧ W.cell? ⟨w.heap.size, 1, none⟩ = some (.int .i64 a.2) ∧ W.cell? ⟨w.heap.size + 1, 0, none⟩ = some (.int .i64 b.1) ∧ W.cell? ⟨w.heap.size + 1, 1, none⟩ = some (.int .i64 b.2)) [11] (by kernel_rfl) ?_
  have hS : w1.drew.cell? ⟨w.heap.size, 0, none⟩ = some (.int .i64 a.1) ∧ w1.drew.cell? ⟨w.heap.size, 1, none⟩ = some (.int .i64 a.2) ∧ w1.drew.cell? ⟨w.heap.size + 1, 0, none⟩ = some (.int .i64 b.1) ∧ w1.drew.cell? ⟨w.heap.size + 1, 1, none⟩ = some (.int .i64 b.2) := ⟨c0, c1, c2, c3⟩
  refine wpAnyL_any (i := 0) (oi := _) (v := .pointer (some ⟨w.heap.size, 0, none⟩)) rfl (by kernel_rfl) (by kernel_rfl) (by kernel_rfl) (by kernel_rfl) (fun _ _ _ h => (h : False).elim) (Or.inl ⟨by kernel_rfl, ?_⟩) (fun _ => by assumption) ?_
  · intro w _
    go_simp
  try simp only [List.getElem_toArray, List.getElem_cons_zero, List.getElem_cons_succ, Act.put, List.setIfInBounds_toArray, List.set_cons_zero, List.set_cons_succ]
  refine wpAnyL_take (i := 1) (oi := _) (v := .int .i64 a.1) rfl (by kernel_rfl) (by kernel_rfl) (by kernel_rfl) (by kernel_rfl) (fun _ _ _ h => (h : False).elim) (Or.inl ⟨by kernel_rfl, ?_⟩) (by assumption) ?_
  · intro w hSw
    obtain ⟨s0, s1, s2, s3⟩ := hSw
    go_simp
  try simp only [List.getElem_toArray, List.getElem_cons_zero, List.getElem_cons_succ, Act.put, List.setIfInBounds_toArray, List.set_cons_zero, List.set_cons_succ]
  refine wpAnyL_any (i := 2) (oi := _) (v := .pointer (some ⟨w.heap.size + 1, 1, none⟩)) rfl (by kernel_rfl) (by kernel_rfl) (by kernel_rfl) (by kernel_rfl) (fun _ _ _ h => (h : False).elim) (Or.inl ⟨by kernel_rfl, ?_⟩) (fun _ => by assumption) ?_
  · intro w _
    go_simp
  try simp only [List.getElem_toArray, List.getElem_cons_zero, List.getElem_cons_succ, Act.put, List.setIfInBounds_toArray, List.set_cons_zero, List.set_cons_succ]
  refine wpAnyL_take (i := 3) (oi := _) (v := .int .i64 b.2) rfl (by kernel_rfl) (by kernel_rfl) (by kernel_rfl) (by kernel_rfl) (fun _ _ _ h => (h : False).elim) (Or.inl ⟨by kernel_rfl, ?_⟩) (by assumption) ?_
  · intro w hSw
    obtain ⟨s0, s1, s2, s3⟩ := hSw
    go_simp
  try simp only [List.getElem_toArray, List.getElem_cons_zero, List.getElem_cons_succ, Act.put, List.setIfInBounds_toArray, List.set_cons_zero, List.set_cons_succ]
  refine wpAnyL_any (i := 5) (oi := _) (v := .pointer (some ⟨w.heap.size, 1, none⟩)) rfl (by kernel_rfl) (by kernel_rfl) (by kernel_rfl) (by kernel_rfl) (fun _ _ _ h => (h : False).elim) (Or.inl ⟨by kernel_rfl, ?_⟩) (fun _ => by assumption) ?_
  · intro w _
    go_simp
  try simp only [List.getElem_toArray, List.getElem_cons_zero, List.getElem_cons_succ, Act.put, List.setIfInBounds_toArray, List.set_cons_zero, List.set_cons_succ]
  refine wpAnyL_take (i := 6) (oi := _) (v := .int .i64 a.2) rfl (by kernel_rfl) (by kernel_rfl) (by kernel_rfl) (by kernel_rfl) (fun _ _ _ h => (h : False).elim) (Or.inl ⟨by kernel_rfl, ?_⟩) (by assumption) ?_
  · intro w hSw
    obtain ⟨s0, s1, s2, s3⟩ := hSw
    go_simp
  try simp only [List.getElem_toArray, List.getElem_cons_zero, List.getElem_cons_succ, Act.put, List.setIfInBounds_toArray, List.set_cons_zero, List.set_cons_succ]
  refine wpAnyL_any (i := 7) (oi := _) (v := .pointer (some ⟨w.heap.size + 1, 0, none⟩)) rfl (by kernel_rfl) (by kernel_rfl) (by kernel_rfl) (by kernel_rfl) (fun _ _ _ h => (h : False).elim) (Or.inl ⟨by kernel_rfl, ?_⟩) (fun _ => by assumption) ?_
  · intro w _
    go_simp
  try simp only [List.getElem_toArray, List.getElem_cons_zero, List.getElem_cons_succ, Act.put, List.setIfInBounds_toArray, List.set_cons_zero, List.set_cons_succ]
  refine wpAnyL_take (i := 8) (oi := _) (v := .int .i64 b.1) rfl (by kernel_rfl) (by kernel_rfl) (by kernel_rfl) (by kernel_rfl) (fun _ _ _ h => (h : False).elim) (Or.inl ⟨by kernel_rfl, ?_⟩) (by assumption) ?_
  · intro w hSw
    obtain ⟨s0, s1, s2, s3⟩ := hSw
    go_simp
  try simp only [List.getElem_toArray, List.getElem_cons_zero, List.getElem_cons_succ, Act.put, List.setIfInBounds_toArray, List.set_cons_zero, List.set_cons_succ]
  refine wpAnyL_next (i := 4) (by kernel_rfl) rfl (fun K hK => ?_)
  go_simp
  refine (rprod_calls a.1 b.2 ha.1 hb.2 _).mono ?_; rintro e w2 ⟨v1, rfl, hv1, hk2⟩
  have hk12 : Keeps (fun _ => False) w1 w2 := knil ((Keeps.refl _ w1).drewN 1) hk2
  go_wp2_with fail
  refine hK.out _ _ ⟨((hk12).cell (p := ⟨w.heap.size, 0, none⟩) hl0 (fun h => h)).trans c0, ((hk12).cell (p := ⟨w.heap.size, 1, none⟩) hl0 (fun h => h)).trans c1, ((hk12).cell (p := ⟨w.heap.size + 1, 0, none⟩) hl1 (fun h => h)).trans c2, ((hk12).cell (p := ⟨w.heap.size + 1, 1, none⟩) hl1 (fun h => h)).trans c3⟩ (fun hHeld => ?_)
  clear hK K
  try simp only [List.getElem_toArray, List.getElem_cons_zero, List.getElem_cons_succ, Act.put, List.setIfInBounds_toArray, List.set_cons_zero, List.set_cons_succ]
  refine wpAnyL_next (i := 9) (by kernel_rfl) rfl (fun K hK => ?_)
  go_simp
  refine (rprod_calls a.2 b.1 ha.2 hb.1 _).mono ?_; rintro e w3 ⟨v2, rfl, hv2, hk3⟩
  have hv1 := hv1.kept hk3
  have hk13 : Keeps (fun _ => False) w1 w3 := knil hk12 hk3
  go_wp2_with fail
  refine hK.out _ _ ⟨((hk13).cell (p := ⟨w.heap.size, 0, none⟩) hl0 (fun h => h)).trans c0, ((hk13).cell (p := ⟨w.heap.size, 1, none⟩) hl0 (fun h => h)).trans c1, ((hk13).cell (p := ⟨w.heap.size + 1, 0, none⟩) hl1 (fun h => h)).trans c2, ((hk13).cell (p := ⟨w.heap.size + 1, 1, none⟩) hl1 (fun h => h)).trans c3⟩ (fun hHeld => ?_)
  clear hK K
  try simp only [List.getElem_toArray, List.getElem_cons_zero, List.getElem_cons_succ, Act.put, List.setIfInBounds_toArray, List.set_cons_zero, List.set_cons_succ]
  refine wpAnyL_next (i := 10) (by kernel_rfl) rfl (fun K hK => ?_)
  go_simp
  refine (nsub_calls v1 v2 _ _ 8 (by decide) _ hv1 hv2).mono ?_; rintro e w4 ⟨v4, rfl, hv4, hk4⟩
  have hk14 : Keeps (fun _ => False) w1 w4 := knil hk13 hk4
  go_wp2_with fail
  refine hK.out _ _ ⟨((hk14).cell (p := ⟨w.heap.size, 0, none⟩) hl0 (fun h => h)).trans c0, ((hk14).cell (p := ⟨w.heap.size, 1, none⟩) hl0 (fun h => h)).trans c1, ((hk14).cell (p := ⟨w.heap.size + 1, 0, none⟩) hl1 (fun h => h)).trans c2, ((hk14).cell (p := ⟨w.heap.size + 1, 1, none⟩) hl1 (fun h => h)).trans c3⟩ (fun hHeld => ?_)
  clear hK K
  try simp only [List.getElem_toArray, List.getElem_cons_zero, List.getElem_cons_succ, Act.put, List.setIfInBounds_toArray, List.set_cons_zero, List.set_cons_succ]
  obtain ⟨s9, a9, q9, l9, rfl, hd9, hr9, hn9⟩ := hv4.open
  have hG := (hk14.block _ hln (fun h => h)).trans HGN.out
  have e0 := two_frozen hG 0
  have e1 := two_frozen hG 1
  have f0 := cells_at hG 0
  have f1 := cells_at hG 1
  have HG := Lib.hid hG
  have HD9 := Lib.hid hd9
  have HR9 := Lib.hid hr9
  clear hG hd9 hr9
  refine wpAnyL_late (i := 11) (by kernel_rfl) rfl (by kernel_rfl) (fun K hK => ?_)
  go_simp
  go_wp2_with fail
  refine hK.out _ _ (fun _ => ?_)
  clear hK K
  try simp only [List.getElem_toArray, List.getElem_cons_zero, List.getElem_cons_succ, Act.put, List.setIfInBounds_toArray, List.set_cons_zero, List.set_cons_succ]
  refine wpAnyL_done (by kernel_rfl) ?_ _
  refine NoPanic.normal ?_
  go_wp2_with fail
  refine bodyPost_ret (results_nb rfl _ _ _ _ _ _ _ rfl (cells_two HG.out)) rfl (fin_nb (knil hk1 hk14) HG.out (by omega) HD9.out HR9.out (by omega))
set_option maxRecDepth 100000 in
set_option maxHeartbeats 4000000 in
theorem rvalue_calls (a b c : Int × Int) (ha : Pt a) (hb : Pt b) (hc : Pt c) (w : World) : Calls Tryz.prog 48 #[.agg #[.int .i64 a.1, .int .i64 a.2], .agg #[.int .i64 b.1, .int .i64 b.2], .agg #[.int .i64 c.1, .int .i64 c.2]] w (GivesN w (det a b c) 11) := by
  rw [← det_ref]
  go_enter Tryz.func48, Tryz.ntmps48
  go_upto_region 1 with fail
  obtain ⟨w1, hw1⟩ : ∃ w1, ((((w.alloc (.cells #[.int .i64 a.1, .int .i64 a.2] 35)).alloc (.cells #[.int .i64 b.1, .int .i64 b.2] 35)).alloc (.cells #[.int .i64 c.1, .int .i64 c.2] 35)).alloc (.cells #[.int .i64 0, .slice none 0 0] 92)) = w1 := ⟨_, rfl⟩
  have hk1 : Keeps (fun _ => False) w w1 := by rw [← hw1]; exact (((((Keeps.refl _ w).alloc _).alloc _).alloc _).alloc _)
  have hg0 : w1.heap[w.heap.size]? = some (.cells #[.int .i64 a.1, .int .i64 a.2] 35 (0, 0)) := by
    rw [← hw1, Below.heap_alloc _ _ _ (by simp <;> omega), Below.heap_alloc _ _ _ (by simp <;> omega), Below.heap_alloc _ _ _ (by simp <;> omega)]
    have := heap_alloc_new w (.cells #[.int .i64 a.1, .int .i64 a.2] 35)
    simpa using this
  have hg1 : w1.heap[w.heap.size + 1]? = some (.cells #[.int .i64 b.1, .int .i64 b.2] 35 (0, 0)) := by
    rw [← hw1, Below.heap_alloc _ _ _ (by simp <;> omega), Below.heap_alloc _ _ _ (by simp <;> omega)]
    have := heap_alloc_new (w.alloc (.cells #[.int .i64 a.1, .int .i64 a.2] 35)) (.cells #[.int .i64 b.1, .int .i64 b.2] 35)
    simpa using this
  have hg2 : w1.heap[w.heap.size + 1 + 1]? = some (.cells #[.int .i64 c.1, .int .i64 c.2] 35 (0, 0)) := by
    rw [← hw1, Below.heap_alloc _ _ _ (by simp <;> omega)]
    have := heap_alloc_new ((w.alloc (.cells #[.int .i64 a.1, .int .i64 a.2] 35)).alloc (.cells #[.int .i64 b.1, .int .i64 b.2] 35)) (.cells #[.int .i64 c.1, .int .i64 c.2] 35)
    simpa using this
  have hgn : w1.heap[w.heap.size + 1 + 1 + 1]? = some (.cells #[.int .i64 0, .slice none 0 0] 92 (0, 0)) := by
    rw [← hw1]
    have := heap_alloc_new (((w.alloc (.cells #[.int .i64 a.1, .int .i64 a.2] 35)).alloc (.cells #[.int .i64 b.1, .int .i64 b.2] 35)).alloc (.cells #[.int .i64 c.1, .int .i64 c.2] 35)) (.cells #[.int .i64 0, .slice none 0 0] 92)
    simpa using this
  have c0 := cells_at hg0 0
  have c1 := cells_at hg0 1
  have hl0 : w.heap.size < w1.heap.size := (Array.getElem?_eq_some_iff.1 hg0).1
  have c2 := cells_at hg1 0
  have c3 := cells_at hg1 1
  have hl1 : w.heap.size + 1 < w1.heap.size := (Array.getElem?_eq_some_iff.1 hg1).1
  have c4 := cells_at hg2 0
  have c5 := cells_at hg2 1
  have hl2 : w.heap.size + 1 + 1 < w1.heap.size := (Array.getElem?_eq_some_iff.1 hg2).1
  have hln : w.heap.size + 1 + 1 + 1 < w1.heap.size := (Array.getElem?_eq_some_iff.1 hgn).1
  rw [hw1]
  have HGN := Lib.hid hgn
  clear hw1 hgn hg0 hg1 hg2
  refine wp_region_late (fun W => W.cell? ⟨w.heap.size, 0, none⟩ = some (.int .i64 a.1) ∧ W.cell? ⟨w.heap.size, 1, none⟩ = some (.int .i64 a.2) ∧ W.cell? ⟨w.heap.size + 1, 0, none⟩ = some (.int .i64 b.1) ∧ W.cell? ⟨w.heap.size + 1, 1, none⟩ = some (.int .i64 b.2) ∧ W.cell? ⟨w.heap.size + 1 + 1, 0, none⟩ = some (.int .i64 c.1) ∧ W.cell? ⟨w.heap.size + 1 + 1, 1, none⟩ = some (.int .i64 c.2)) [11] (by kernel_rfl) ?_
  have hS : w1.drew.cell? ⟨w.heap.size, 0, none⟩ = some (.int .i64 a.1) ∧ w1.drew.cell? ⟨w.heap.size, 1, none⟩ = some (.int .i64 a.2) ∧ w1.drew.cell? ⟨w.heap.size + 1, 0, none⟩ = some (.int .i64 b.1) ∧ w1.drew.cell? ⟨w.heap.size + 1, 1, none⟩ = some (.int .i64 b.2) ∧ w1.drew.cell? ⟨w.heap.size + 1 + 1, 0, none⟩ = some (.int .i64 c.1) ∧ w1.drew.cell? ⟨w.heap.size + 1 + 1, 1, none⟩ = some (.int .i64 c.2) := ⟨c0, c1, c2, c3, c4, c5⟩
  refine wpAnyL_take (i := 0) (oi := _) (v := .agg #[.int .i64 b.1, .int .i64 b.2]) rfl (by kernel_rfl) (by kernel_rfl) (by kernel_rfl) (by kernel_rfl) (fun _ _ _ h => (h : False).elim) (Or.inl ⟨by kernel_rfl, ?_⟩) (by assumption) ?_
  · intro w hSw
    obtain ⟨s0, s1, s2, s3, s4, s5⟩ := hSw
    go_simp
  try simp only [List.getElem_toArray, List.getElem_cons_zero, List.getElem_cons_succ, Act.put, List.setIfInBounds_toArray, List.set_cons_zero, List.set_cons_succ]
  refine wpAnyL_take (i := 1) (oi := _) (v := .agg #[.int .i64 c.1, .int .i64 c.2]) rfl (by kernel_rfl) (by kernel_rfl) (by kernel_rfl) (by kernel_rfl) (fun _ _ _ h => (h : False).elim) (Or.inl ⟨by kernel_rfl, ?_⟩) (by assumption) ?_
  · intro w hSw
    obtain ⟨s0, s1, s2, s3, s4, s5⟩ := hSw
    go_simp
  try simp only [List.getElem_toArray, List.getElem_cons_zero, List.getElem_cons_succ, Act.put, List.setIfInBounds_toArray, List.set_cons_zero, List.set_cons_succ]
  refine wpAnyL_take (i := 3) (oi := _) (v := .agg #[.int .i64 a.1, .int .i64 a.2]) rfl (by kernel_rfl) (by kernel_rfl) (by kernel_rfl) (by kernel_rfl) (fun _ _ _ h => (h : False).elim) (Or.inl ⟨by kernel_rfl, ?_⟩) (by assumption) ?_
  · intro w hSw
    obtain ⟨s0, s1, s2, s3, s4, s5⟩ := hSw
    go_simp
  try simp only [List.getElem_toArray, List.getElem_cons_zero, List.getElem_cons_succ, Act.put, List.setIfInBounds_toArray, List.set_cons_zero, List.set_cons_succ]
  refine wpAnyL_take (i := 4) (oi := _) (v := .agg #[.int .i64 c.1, .int .i64 c.2]) rfl (by kernel_rfl) (by kernel_rfl) (by kernel_rfl) (by kernel_rfl) (fun _ _ _ h => (h : False).elim) (Or.inl ⟨by kernel_rfl, ?_⟩) (by assumption) ?_
  · intro w hSw
    obtain ⟨s0, s1, s2, s3, s4, s5⟩ := hSw
    go_simp
  try simp only [List.getElem_toArray, List.getElem_cons_zero, List.getElem_cons_succ, Act.put, List.setIfInBounds_toArray, List.set_cons_zero, List.set_cons_succ]
  refine wpAnyL_take (i := 7) (oi := _) (v := .agg #[.int .i64 a.1, .int .i64 a.2]) rfl (by kernel_rfl) (by kernel_rfl) (by kernel_rfl) (by kernel_rfl) (fun _ _ _ h => (h : False).elim) (Or.inl ⟨by kernel_rfl, ?_⟩) (by assumption) ?_
  · intro w hSw
    obtain ⟨s0, s1, s2, s3, s4, s5⟩ := hSw
    go_simp
  try simp only [List.getElem_toArray, List.getElem_cons_zero, List.getElem_cons_succ, Act.put, List.setIfInBounds_toArray, List.set_cons_zero, List.set_cons_succ]
  refine wpAnyL_take (i := 8) (oi := _) (v := .agg #[.int .i64 b.1, .int .i64 b.2]) rfl (by kernel_rfl) (by kernel_rfl) (by kernel_rfl) (by kernel_rfl) (fun _ _ _ h => (h : False).elim) (Or.inl ⟨by kernel_rfl, ?_⟩) (by assumption) ?_
  · intro w hSw
    obtain ⟨s0, s1, s2, s3, s4, s5⟩ := hSw
    go_simp
  try simp only [List.getElem_toArray, List.getElem_cons_zero, List.getElem_cons_succ, Act.put, List.setIfInBounds_toArray, List.set_cons_zero, List.set_cons_succ]
  refine wpAnyL_next (i := 2) (by kernel_rfl) rfl (fun K hK => ?_)
  go_simp
  refine (minor_calls b c hb hc _).mono ?_; rintro e w2 ⟨v1, rfl, hv1, hk2⟩
  have hk12 : Keeps (fun _ => False) w1 w2 := knil ((Keeps.refl _ w1).drewN 1) hk2
  go_wp2_with fail
  refine hK.out _ _ ⟨((hk12).cell (p := ⟨w.heap.size, 0, none⟩) hl0 (fun h => h)).trans c0, ((hk12).cell (p := ⟨w.heap.size, 1, none⟩) hl0 (fun h => h)).trans c1, ((hk12).cell (p := ⟨w.heap.size + 1, 0, none⟩) hl1 (fun h => h)).trans c2, ((hk12).cell (p := ⟨w.heap.size + 1, 1, none⟩) hl1 (fun h => h)).trans c3, ((hk12).cell (p := ⟨w.heap.size + 1 + 1, 0, none⟩) hl2 (fun h => h)).trans c4, ((hk12).cell (p := ⟨w.heap.size + 1 + 1, 1, none⟩) hl2 (fun h => h)).trans c5⟩ (fun hHeld => ?_)
  clear hK K
  try simp only [List.getElem_toArray, List.getElem_cons_zero, List.getElem_cons_succ, Act.put, List.setIfInBounds_toArray, List.set_cons_zero, List.set_cons_succ]
  refine wpAnyL_next (i := 5) (by kernel_rfl) rfl (fun K hK => ?_)
  go_simp
  refine (minor_calls a c ha hc _).mono ?_; rintro e w3 ⟨v2, rfl, hv2, hk3⟩
  have hv1 := hv1.kept hk3
  have hk13 : Keeps (fun _ => False) w1 w3 := knil hk12 hk3
  go_wp2_with fail
  refine hK.out _ _ ⟨((hk13).cell (p := ⟨w.heap.size, 0, none⟩) hl0 (fun h => h)).trans c0, ((hk13).cell (p := ⟨w.heap.size, 1, none⟩) hl0 (fun h => h)).trans c1, ((hk13).cell (p := ⟨w.heap.size + 1, 0, none⟩) hl1 (fun h => h)).trans c2, ((hk13).cell (p := ⟨w.heap.size + 1, 1, none⟩) hl1 (fun h => h)).trans c3, ((hk13).cell (p := ⟨w.heap.size + 1 + 1, 0, none⟩) hl2 (fun h => h)).trans c4, ((hk13).cell (p := ⟨w.heap.size + 1 + 1, 1, none⟩) hl2 (fun h => h)).trans c5⟩ (fun hHeld => ?_)
  clear hK K
  try simp only [List.getElem_toArray, List.getElem_cons_zero, List.getElem_cons_succ, Act.put, List.setIfInBounds_toArray, List.set_cons_zero, List.set_cons_succ]
  refine wpAnyL_next (i := 6) (by kernel_rfl) rfl (fun K hK => ?_)
  go_simp
  refine (nsub_calls v1 v2 _ _ 9 (by decide) _ hv1 hv2).mono ?_; rintro e w5 ⟨v5, rfl, hv5, hk5⟩
  have hk15 : Keeps (fun _ => False) w1 w5 := knil hk13 hk5
  go_wp2_with fail
  refine hK.out _ _ ⟨((hk15).cell (p := ⟨w.heap.size, 0, none⟩) hl0 (fun h => h)).trans c0, ((hk15).cell (p := ⟨w.heap.size, 1, none⟩) hl0 (fun h => h)).trans c1, ((hk15).cell (p := ⟨w.heap.size + 1, 0, none⟩) hl1 (fun h => h)).trans c2, ((hk15).cell (p := ⟨w.heap.size + 1, 1, none⟩) hl1 (fun h => h)).trans c3, ((hk15).cell (p := ⟨w.heap.size + 1 + 1, 0, none⟩) hl2 (fun h => h)).trans c4, ((hk15).cell (p := ⟨w.heap.size + 1 + 1, 1, none⟩) hl2 (fun h => h)).trans c5⟩ (fun hHeld => ?_)
  clear hK K
  try simp only [List.getElem_toArray, List.getElem_cons_zero, List.getElem_cons_succ, Act.put, List.setIfInBounds_toArray, List.set_cons_zero, List.set_cons_succ]
  refine wpAnyL_next (i := 9) (by kernel_rfl) rfl (fun K hK => ?_)
  go_simp
  refine (minor_calls a b ha hb _).mono ?_; rintro e w6 ⟨v6, rfl, hv6, hk6⟩
  have hv5 := hv5.kept hk6
  have hk16 : Keeps (fun _ => False) w1 w6 := knil hk15 hk6
  go_wp2_with fail
  refine hK.out _ _ ⟨((hk16).cell (p := ⟨w.heap.size, 0, none⟩) hl0 (fun h => h)).trans c0, ((hk16).cell (p := ⟨w.heap.size, 1, none⟩) hl0 (fun h => h)).trans c1, ((hk16).cell (p := ⟨w.heap.size + 1, 0, none⟩) hl1 (fun h => h)).trans c2, ((hk16).cell (p := ⟨w.heap.size + 1, 1, none⟩) hl1 (fun h => h)).trans c3, ((hk16).cell (p := ⟨w.heap.size + 1 + 1, 0, none⟩) hl2 (fun h => h)).trans c4, ((hk16).cell (p := ⟨w.heap.size + 1 + 1, 1, none⟩) hl2 (fun h => h)).trans c5⟩ (fun hHeld => ?_)
  clear hK K
  try simp only [List.getElem_toArray, List.getElem_cons_zero, List.getElem_cons_succ, Act.put, List.setIfInBounds_toArray, List.set_cons_zero, List.set_cons_succ]
  refine wpAnyL_next (i := 10) (by kernel_rfl) rfl (fun K hK => ?_)
  go_simp
  refine (nadd_calls v5 v6 _ _ 10 (by decide) _ hv5 (hv6.up (by decide))).mono ?_; rintro e w4 ⟨v4, rfl, hv4, hk4⟩
  have hk14 : Keeps (fun _ => False) w1 w4 := knil hk16 hk4
  go_wp2_with fail
  refine hK.out _ _ ⟨((hk14).cell (p := ⟨w.heap.size, 0, none⟩) hl0 (fun h => h)).trans c0, ((hk14).cell (p := ⟨w.heap.size, 1, none⟩) hl0 (fun h => h)).trans c1, ((hk14).cell (p := ⟨w.heap.size + 1, 0, none⟩) hl1 (fun h => h)).trans c2, ((hk14).cell (p := ⟨w.heap.size + 1, 1, none⟩) hl1 (fun h => h)).trans c3, ((hk14).cell (p := ⟨w.heap.size + 1 + 1, 0, none⟩) hl2 (fun h => h)).trans c4, ((hk14).cell (p := ⟨w.heap.size + 1 + 1, 1, none⟩) hl2 (fun h => h)).trans c5⟩ (fun hHeld => ?_)
  clear hK K
  try simp only [List.getElem_toArray, List.getElem_cons_zero, List.getElem_cons_succ, Act.put, List.setIfInBounds_toArray, List.set_cons_zero, List.set_cons_succ]
  obtain ⟨s9, a9, q9, l9, rfl, hd9, hr9, hn9⟩ := hv4.open
  have hG := (hk14.block _ hln (fun h => h)).trans HGN.out
  have e0 := two_frozen hG 0
  have e1 := two_frozen hG 1
  have f0 := cells_at hG 0
  have f1 := cells_at hG 1
  have HG := Lib.hid hG
  have HD9 := Lib.hid hd9
  have HR9 := Lib.hid hr9
  clear hG hd9 hr9
  refine wpAnyL_late (i := 11) (by kernel_rfl) rfl (by kernel_rfl) (fun K hK => ?_)
  go_simp
  go_wp2_with fail
  refine hK.out _ _ (fun _ => ?_)
  clear hK K
  try simp only [List.getElem_toArray, List.getElem_cons_zero, List.getElem_cons_succ, Act.put, List.setIfInBounds_toArray, List.set_cons_zero, List.set_cons_succ]
  refine wpAnyL_done (by kernel_rfl) ?_ _
  refine NoPanic.normal ?_
  go_wp2_with fail
  refine bodyPost_ret (results_nb rfl _ _ _ _ _ _ _ rfl (cells_two HG.out)) rfl (fin_nb (knil hk1 hk14) HG.out (by omega) HD9.out HR9.out (by omega))
set_option maxRecDepth 100000 in
theorem rsign_calls (a b c : Int × Int) (ha : Pt a) (hb : Pt b) (hc : Pt c) (w : World) : Calls Tryz.prog 26 #[.agg #[.int .i64 a.1, .int .i64 a.2], .agg #[.int .i64 b.1, .int .i64 b.2], .agg #[.int .i64 c.1, .int .i64 c.2]] w fun e w' => e = .returned (.int .i64 (sgnI (det a b c))) ∧ Keeps (fun _ => False) w w' := by
  go_enter Tryz.func26, Tryz.ntmps26
  go_wp2_with fail
  obtain ⟨w1, hw1⟩ : ∃ w1, (((w.alloc (.cells #[.int .i64 a.1, .int .i64 a.2] 35)).alloc (.cells #[.int .i64 b.1, .int .i64 b.2] 35)).alloc (.cells #[.int .i64 c.1, .int .i64 c.2] 35)) = w1 := ⟨_, rfl⟩
  have hk1 : Keeps (fun _ => False) w w1 := by rw [← hw1]; exact ((((Keeps.refl _ w).alloc _).alloc _).alloc _)
  have hg0 : w1.heap[w.heap.size]? = some (.cells #[.int .i64 a.1, .int .i64 a.2] 35 (0, 0)) := by
    rw [← hw1, Below.heap_alloc _ _ _ (by simp <;> omega), Below.heap_alloc _ _ _ (by simp <;> omega)]
    have := heap_alloc_new w (.cells #[.int .i64 a.1, .int .i64 a.2] 35)
    simpa using this
  have hg1 : w1.heap[w.heap.size + 1]? = some (.cells #[.int .i64 b.1, .int .i64 b.2] 35 (0, 0)) := by
    rw [← hw1, Below.heap_alloc _ _ _ (by simp <;> omega)]
    have := heap_alloc_new (w.alloc (.cells #[.int .i64 a.1, .int .i64 a.2] 35)) (.cells #[.int .i64 b.1, .int .i64 b.2] 35)
    simpa using this
  have hg2 : w1.heap[w.heap.size + 1 + 1]? = some (.cells #[.int .i64 c.1, .int .i64 c.2] 35 (0, 0)) := by
    rw [← hw1]
    have := heap_alloc_new ((w.alloc (.cells #[.int .i64 a.1, .int .i64 a.2] 35)).alloc (.cells #[.int .i64 b.1, .int .i64 b.2] 35)) (.cells #[.int .i64 c.1, .int .i64 c.2] 35)
    simpa using this
  have c0 := cells_at hg0 0
  have c1 := cells_at hg0 1
  have hl0 : w.heap.size < w1.heap.size := (Array.getElem?_eq_some_iff.1 hg0).1
  have c2 := cells_at hg1 0
  have c3 := cells_at hg1 1
  have hl1 : w.heap.size + 1 < w1.heap.size := (Array.getElem?_eq_some_iff.1 hg1).1
  have c4 := cells_at hg2 0
  have c5 := cells_at hg2 1
  have hl2 : w.heap.size + 1 + 1 < w1.heap.size := (Array.getElem?_eq_some_iff.1 hg2).1
  rw [hw1]
  clear hw1 hg0 hg1 hg2
  refine (rvalue_calls a b c ha hb hc _).mono ?_; rintro e w2 ⟨v1, rfl, hv1, hk2⟩
  obtain ⟨s9, a9, q9, l9, rfl, hd9, hr9, hn9⟩ := hv1.open
  have hs := hr9.1
  clear c0 c1 c2 c3 c4 c5 hd9 hr9 hn9
  subst hs
  have hfd : ∀ w : World, (Instr.field 92 (.agg #[.int .i64 (sgnI (det a b c)), .slice a9 l9.length q9]) 0).run Tryz.prog w = .ok (.int .i64 (sgnI (det a b c))) w := fun _ => by kernel_rfl
  go_wp2_with (simp only [hfd])
  go_ret
  exact ⟨rfl, knil hk1 hk2⟩
end Go.Proofs.YtmoajobnhiopiaaGreatDoor.nb
