/- Positions relative to circles, by walking their text. -/
import Derived.Test.YtmoajobnhiopiaaGreatDoorOri
set_option linter.unusedSimpArgs false
set_option linter.unusedVariables false
namespace Go.Proofs.YtmoajobnhiopiaaGreatDoor.lm
open Go Go.RowKit Go.Shelf Go.Maps Go.Proofs.YtmoajobnhiopiaaGreatDoor.mk Go.Proofs.YtmoajobnhiopiaaGreatDoor.tp Go.Proofs.YtmoajobnhiopiaaGreatDoor.rg Go.Proofs.YtmoajobnhiopiaaGreatDoor.gm

theorem vecAt_mk {w w' : World} {a b : Value} {x : Int × Int} (ha : numAt w a 2 x.1) (hb : numAt w b 2 x.2) (hk : Keeps (fun _ => False) w w') : vecAt w' (.agg #[a, b]) x := ⟨a, b, rfl, ha.kept hk, hb.kept hk⟩
theorem fit_cr {a b d : Int × Int} (hd : Pt d) (ha : Pt a) (hb : Pt b) : Fit 3 (cr (vec d a) (vec d b)) := (in_cr (in_vec hd ha) (in_vec hd hb)).fit (by decide)
theorem fit_nrm {a d : Int × Int} (hd : Pt d) (ha : Pt a) : Fit 3 (nrm (vec d a)) := (in_nrm (in_vec hd ha)).fit (by decide)
/-- The sum of the first k products. -/
def part (x y z : Int × Int) : Nat → Int
  | 0 => 0
  | 1 => 0 + nrm x * cr y z
  | 2 => 0 + nrm x * cr y z + nrm y * cr z x
  | _ => 0 + nrm x * cr y z + nrm y * cr z x + nrm z * cr x y
theorem part_end (a b c d : Int × Int) : part (vec d a) (vec d b) (vec d c) 3 = inc a b c d := by
  show 0 + nrm (vec d a) * cr (vec d b) (vec d c) + nrm (vec d b) * cr (vec d c) (vec d a) + nrm (vec d c) * cr (vec d a) (vec d b) = _
  unfold inc
  omega

/-- The six integers of three vectors at block g. -/
def SixAt (w : World) (g : Nat) (x y z : Int × Int) : Prop := ∃ s0 s1 s2 s3 s4 s5, w.heap[g]? = some (.cells #[s0, s1, s2, s3, s4, s5] 123 (0, 0)) ∧ numAt w s0 2 x.1 ∧ numAt w s1 2 x.2 ∧ numAt w s2 2 y.1 ∧ numAt w s3 2 y.2 ∧ numAt w s4 2 z.1 ∧ numAt w s5 2 z.2
theorem fro_cells {w : World} {g : Nat} {cs : Array Value} {t : TypeId} (h : w.heap[g]? = some (.cells cs t (0, 0))) (i : Nat) : w.frozen? ⟨g, i, none⟩ = false := two_frozen h i
theorem SixAt.kept {w w' : World} {g : Nat} {x y z : Int × Int} (h : SixAt w g x y z) (hk : Keeps (fun _ => False) w w') : SixAt w' g x y z := by
  obtain ⟨s0, s1, s2, s3, s4, s5, h0, h1, h2, h3, h4, h5, h6⟩ := h
  exact ⟨s0, s1, s2, s3, s4, s5, (hk.block _ (Array.getElem?_eq_some_iff.1 h0).1 (fun h => h)).trans h0, h1.kept hk, h2.kept hk, h3.kept hk, h4.kept hk, h5.kept hk, h6.kept hk⟩
theorem numAt.off {w w' : World} {v : Value} {n : Nat} {x : Int} {g : Nat} {t : TypeId} {fr : Nat × Nat} {cs : Array Value} (h : numAt w v (n + 1) x) (hg : w.heap[g]? = some (.cells cs t fr)) (hn : ∀ (i : Nat) y, cs[i]? ≠ some (.int .u64 y)) (hk : Keeps (fun i => i = g) w w') : numAt w' v (n + 1) x := by
  obtain ⟨b, off, cap, rfl, hb, hc⟩ := h.cases
  have hne : b ≠ g := by
    rintro rfl
    have h0 := hc 0 (by omega)
    rw [cells_at hg] at h0
    exact hn _ _ h0
  exact numAt.mk (Nat.lt_of_lt_of_le hb hk.size) (fun i hi => (hk.cell (p := ⟨b, off + i, none⟩) hb hne).trans (hc i hi))
theorem six_put {w W : World} {g : Nat} {x y z : Int × Int} {s0 s1 s2 s3 s4 s5 : Value} (hk : Keeps (fun _ => False) w W) (hG : W.heap[g]? = some (.cells #[.slice none 0 0, .slice none 0 0, .slice none 0 0, .slice none 0 0, .slice none 0 0, .slice none 0 0] 123 (0, 0))) (hg : w.heap.size ≤ g)
    (h0 : numAt W s0 2 x.1) (h1 : numAt W s1 2 x.2) (h2 : numAt W s2 2 y.1) (h3 : numAt W s3 2 y.2) (h4 : numAt W s4 2 z.1) (h5 : numAt W s5 2 z.2) :
    ∃ g', (Value.pointer (some ⟨g, 0, none⟩)) = .pointer (some ⟨g', 0, none⟩) ∧ SixAt ((((((W.setCell ⟨g, 0, none⟩ s0).setCell ⟨g, 1, none⟩ s1).setCell ⟨g, 2, none⟩ s2).setCell ⟨g, 3, none⟩ s3).setCell ⟨g, 4, none⟩ s4).setCell ⟨g, 5, none⟩ s5) g' x y z ∧ Keeps (fun _ => False) w ((((((W.setCell ⟨g, 0, none⟩ s0).setCell ⟨g, 1, none⟩ s1).setCell ⟨g, 2, none⟩ s2).setCell ⟨g, 3, none⟩ s3).setCell ⟨g, 4, none⟩ s4).setCell ⟨g, 5, none⟩ s5) := by
  have hk2 : Keeps (fun i => i = g) W ((((((W.setCell ⟨g, 0, none⟩ s0).setCell ⟨g, 1, none⟩ s1).setCell ⟨g, 2, none⟩ s2).setCell ⟨g, 3, none⟩ s3).setCell ⟨g, 4, none⟩ s4).setCell ⟨g, 5, none⟩ s5) := ((((((Keeps.refl (fun i => i = g) W).setCell ⟨g, 0, none⟩ (fun _ => rfl) s0).setCell ⟨g, 1, none⟩ (fun _ => rfl) s1).setCell ⟨g, 2, none⟩ (fun _ => rfl) s2).setCell ⟨g, 3, none⟩ (fun _ => rfl) s3).setCell ⟨g, 4, none⟩ (fun _ => rfl) s4).setCell ⟨g, 5, none⟩ (fun _ => rfl) s5
  have hn : ∀ (i : Nat) y, (#[Value.slice none 0 0, .slice none 0 0, .slice none 0 0, .slice none 0 0, .slice none 0 0, .slice none 0 0] : Array Value)[i]? ≠ some (.int .u64 y) := by
    intro i y h
    match i, h with
    | 0, h => cases h
    | 1, h => cases h
    | 2, h => cases h
    | 3, h => cases h
    | 4, h => cases h
    | 5, h => cases h
    | k + 6, h => simp at h
  exact ⟨g, rfl, ⟨s0, s1, s2, s3, s4, s5, cells_put (cells_put (cells_put (cells_put (cells_put (cells_put hG 0 s0) 1 s1) 2 s2) 3 s3) 4 s4) 5 s5, h0.off hG hn hk2, h1.off hG hn hk2, h2.off hG hn hk2, h3.off hG hn hk2, h4.off hG hn hk2, h5.off hG hn hk2⟩, hk.trans hk2 (fun i hi h => by omega)⟩
set_option maxRecDepth 100000 in
set_option maxHeartbeats 8000000 in
theorem cvalue_calls (a b c d : Int × Int) (ha : Pt a) (hb : Pt b) (hc : Pt c) (hd : Pt d) (w : World) : Calls Tryz.prog 41 #[.agg #[.int .i64 a.1, .int .i64 a.2], .agg #[.int .i64 b.1, .int .i64 b.2], .agg #[.int .i64 c.1, .int .i64 c.2], .agg #[.int .i64 d.1, .int .i64 d.2]] w (GivesNum w 5 (inc a b c d)) := by
  go_enter Tryz.func41, Tryz.ntmps41
  go_upto_region 1 with fail
  obtain ⟨w1, hw1⟩ : ∃ w1, ((((w.alloc (.cells #[.int .i64 a.1, .int .i64 a.2] 35)).alloc (.cells #[.int .i64 b.1, .int .i64 b.2] 35)).alloc (.cells #[.int .i64 c.1, .int .i64 c.2] 35)).alloc (.cells #[.int .i64 d.1, .int .i64 d.2] 35)) = w1 := ⟨_, rfl⟩
  have hk1 : Keeps (fun _ => False) w w1 := by rw [← hw1]; exact (((((Keeps.refl _ w).alloc _).alloc _).alloc _).alloc _)
  have hg0 : w1.heap[w.heap.size]? = some (.cells #[.int .i64 a.1, .int .i64 a.2] 35 (0, 0)) := by
    rw [← hw1, Below.heap_alloc _ _ _ (by simp <;> omega), Below.heap_alloc _ _ _ (by simp <;> omega), Below.heap_alloc _ _ _ (by simp <;> omega)]
    have := heap_alloc_new w (.cells #[.int .i64 a.1, .int .i64 a.2] 35)
    simpa using this
  have hg1 : w1.heap[w.heap.size + 1]? = some (.cells #[.int .i64 b.1, .int .i64 b.2] 35 (0, 0)) := by
    rw [← hw1, Below.heap_alloc _ _ _ (by simp <;> omega), Below.heap_alloc _ _ _ (by simp <;> omega)]
    have := heap_alloc_new (w.alloc (.cells #[.int .i64 a.1, .int .i64 a.2] 35)) (.cells #[.int .i64 b.1, .int .i64 b.2] 35)
    simpa using this
  have hg2 : w1.heap[w.heap.size + 1 + 1]? = some (.cells #[.int .i64 c.1, .int .i64 c.2] 35 (0, 0)) := by
    rw [← hw1, Below.heap_alloc _ _ _ (by simp <;> omega)]
    have := heap_alloc_new ((w.alloc (.cells #[.int .i64 a.1, .int .i64 a.2] 35)).alloc (.cells #[.int .i64 b.1, .int .i64 b.2] 35)) (.cells #[.int .i64 c.1, .int .i64 c.2] 35)
    simpa using this
  have hg3 : w1.heap[w.heap.size + 1 + 1 + 1]? = some (.cells #[.int .i64 d.1, .int .i64 d.2] 35 (0, 0)) := by
    rw [← hw1]
    have := heap_alloc_new (((w.alloc (.cells #[.int .i64 a.1, .int .i64 a.2] 35)).alloc (.cells #[.int .i64 b.1, .int .i64 b.2] 35)).alloc (.cells #[.int .i64 c.1, .int .i64 c.2] 35)) (.cells #[.int .i64 d.1, .int .i64 d.2] 35)
    simpa using this
  have c0 := cells_at hg0 0
  have c1 := cells_at hg0 1
  have hl0 : w.heap.size < w1.heap.size := (Array.getElem?_eq_some_iff.1 hg0).1
  have c2 := cells_at hg1 0
  have c3 := cells_at hg1 1
  have hl1 : w.heap.size + 1 < w1.heap.size := (Array.getElem?_eq_some_iff.1 hg1).1
  have c4 := cells_at hg2 0
  have c5 := cells_at hg2 1
  have hl2 : w.heap.size + 1 + 1 < w1.heap.size := (Array.getElem?_eq_some_iff.1 hg2).1
  have c6 := cells_at hg3 0
  have c7 := cells_at hg3 1
  have hl3 : w.heap.size + 1 + 1 + 1 < w1.heap.size := (Array.getElem?_eq_some_iff.1 hg3).1
  rw [hw1]
  clear hw1 hg0 hg1 hg2 hg3
  go_cut [9] from 14 (fun p wx => ∃ g, p = .pointer (some ⟨g, 0, none⟩) ∧ SixAt wx g (vec d a) (vec d b) (vec d c) ∧ Keeps (fun _ => False) w wx)
  case first =>
    refine wp_region_late (fun W => W.cell? ⟨w.heap.size, 0, none⟩ = some (.int .i64 a.1) ∧ W.cell? ⟨w.heap.size, 1, none⟩ = some (.int .i64 a.2) ∧ W.cell? ⟨w.heap.size + 1, 0, none⟩ = some (.int .i64 b.1) ∧ W.cell? ⟨w.heap.size + 1, 1, none⟩ = some (.int .i64 b.2) ∧ W.cell? ⟨w.heap.size + 1 + 1, 0, none⟩ = some (.int .i64 c.1) ∧ W.cell? ⟨w.heap.size + 1 + 1, 1, none⟩ = some (.int .i64 c.2) ∧ W.cell? ⟨w.heap.size + 1 + 1 + 1, 0, none⟩ = some (.int .i64 d.1) ∧ W.cell? ⟨w.heap.size + 1 + 1 + 1, 1, none⟩ = some (.int .i64 d.2)) [11] (by kernel_rfl) ?_
    have hS : w1.drew.cell? ⟨w.heap.size, 0, none⟩ = some (.int .i64 a.1) ∧ w1.drew.cell? ⟨w.heap.size, 1, none⟩ = some (.int .i64 a.2) ∧ w1.drew.cell? ⟨w.heap.size + 1, 0, none⟩ = some (.int .i64 b.1) ∧ w1.drew.cell? ⟨w.heap.size + 1, 1, none⟩ = some (.int .i64 b.2) ∧ w1.drew.cell? ⟨w.heap.size + 1 + 1, 0, none⟩ = some (.int .i64 c.1) ∧ w1.drew.cell? ⟨w.heap.size + 1 + 1, 1, none⟩ = some (.int .i64 c.2) ∧ w1.drew.cell? ⟨w.heap.size + 1 + 1 + 1, 0, none⟩ = some (.int .i64 d.1) ∧ w1.drew.cell? ⟨w.heap.size + 1 + 1 + 1, 1, none⟩ = some (.int .i64 d.2) := ⟨c0, c1, c2, c3, c4, c5, c6, c7⟩
    have hwd : Keeps (fun _ => False) w1 w1.drew := (Keeps.refl _ w1).drewN 1
    generalize w1.drew = wd at hS hwd ⊢
    refine wpAnyL_take (i := 0) (oi := _) (v := .agg #[.int .i64 d.1, .int .i64 d.2]) rfl (by kernel_rfl) (by kernel_rfl) (by kernel_rfl) (by kernel_rfl) (fun _ _ _ h => (h : False).elim) (Or.inl ⟨by kernel_rfl, ?_⟩) (by assumption) ?_
    · intro w hSw
      obtain ⟨s0, s1, s2, s3, s4, s5, s6, s7⟩ := hSw
      go_simp
    try simp only [List.getElem_toArray, List.getElem_cons_zero, List.getElem_cons_succ, Act.put, List.setIfInBounds_toArray, List.set_cons_zero, List.set_cons_succ]
    refine wpAnyL_take (i := 1) (oi := _) (v := .agg #[.int .i64 a.1, .int .i64 a.2]) rfl (by kernel_rfl) (by kernel_rfl) (by kernel_rfl) (by kernel_rfl) (fun _ _ _ h => (h : False).elim) (Or.inl ⟨by kernel_rfl, ?_⟩) (by assumption) ?_
    · intro w hSw
      obtain ⟨s0, s1, s2, s3, s4, s5, s6, s7⟩ := hSw
      go_simp
    try simp only [List.getElem_toArray, List.getElem_cons_zero, List.getElem_cons_succ, Act.put, List.setIfInBounds_toArray, List.set_cons_zero, List.set_cons_succ]
    refine wpAnyL_take (i := 3) (oi := _) (v := .agg #[.int .i64 d.1, .int .i64 d.2]) rfl (by kernel_rfl) (by kernel_rfl) (by kernel_rfl) (by kernel_rfl) (fun _ _ _ h => (h : False).elim) (Or.inl ⟨by kernel_rfl, ?_⟩) (by assumption) ?_
    · intro w hSw
      obtain ⟨s0, s1, s2, s3, s4, s5, s6, s7⟩ := hSw
      go_simp
    try simp only [List.getElem_toArray, List.getElem_cons_zero, List.getElem_cons_succ, Act.put, List.setIfInBounds_toArray, List.set_cons_zero, List.set_cons_succ]
    refine wpAnyL_take (i := 4) (oi := _) (v := .agg #[.int .i64 b.1, .int .i64 b.2]) rfl (by kernel_rfl) (by kernel_rfl) (by kernel_rfl) (by kernel_rfl) (fun _ _ _ h => (h : False).elim) (Or.inl ⟨by kernel_rfl, ?_⟩) (by assumption) ?_
    · intro w hSw
      obtain ⟨s0, s1, s2, s3, s4, s5, s6, s7⟩ := hSw
      go_simp
    try simp only [List.getElem_toArray, List.getElem_cons_zero, List.getElem_cons_succ, Act.put, List.setIfInBounds_toArray, List.set_cons_zero, List.set_cons_succ]
    refine wpAnyL_take (i := 6) (oi := _) (v := .agg #[.int .i64 d.1, .int .i64 d.2]) rfl (by kernel_rfl) (by kernel_rfl) (by kernel_rfl) (by kernel_rfl) (fun _ _ _ h => (h : False).elim) (Or.inl ⟨by kernel_rfl, ?_⟩) (by assumption) ?_
    · intro w hSw
      obtain ⟨s0, s1, s2, s3, s4, s5, s6, s7⟩ := hSw
      go_simp
    try simp only [List.getElem_toArray, List.getElem_cons_zero, List.getElem_cons_succ, Act.put, List.setIfInBounds_toArray, List.set_cons_zero, List.set_cons_succ]
    refine wpAnyL_take (i := 7) (oi := _) (v := .agg #[.int .i64 c.1, .int .i64 c.2]) rfl (by kernel_rfl) (by kernel_rfl) (by kernel_rfl) (by kernel_rfl) (fun _ _ _ h => (h : False).elim) (Or.inl ⟨by kernel_rfl, ?_⟩) (by assumption) ?_
    · intro w hSw
      obtain ⟨s0, s1, s2, s3, s4, s5, s6, s7⟩ := hSw
      go_simp
    try simp only [List.getElem_toArray, List.getElem_cons_zero, List.getElem_cons_succ, Act.put, List.setIfInBounds_toArray, List.set_cons_zero, List.set_cons_succ]
    refine wpAnyL_fork (rs := [2, 10]) (by kernel_rfl) (by simp) ?_
    refine AllL.cons (i := 2) rfl (fun K hK => ?_) ?_
    · go_simp
      refine (between_calls d a hd ha _).mono ?_; rintro e x00 ⟨va, rfl, hva, hkk⟩
      have hx00 : Keeps (fun _ => False) w1 x00 := knil hwd hkk
      clear hkk
      go_wp2_with fail
      refine hK.out _ _ ⟨((hx00).cell (p := ⟨w.heap.size, 0, none⟩) hl0 (fun h => h)).trans c0, ((hx00).cell (p := ⟨w.heap.size, 1, none⟩) hl0 (fun h => h)).trans c1, ((hx00).cell (p := ⟨w.heap.size + 1, 0, none⟩) hl1 (fun h => h)).trans c2, ((hx00).cell (p := ⟨w.heap.size + 1, 1, none⟩) hl1 (fun h => h)).trans c3, ((hx00).cell (p := ⟨w.heap.size + 1 + 1, 0, none⟩) hl2 (fun h => h)).trans c4, ((hx00).cell (p := ⟨w.heap.size + 1 + 1, 1, none⟩) hl2 (fun h => h)).trans c5, ((hx00).cell (p := ⟨w.heap.size + 1 + 1 + 1, 0, none⟩) hl3 (fun h => h)).trans c6, ((hx00).cell (p := ⟨w.heap.size + 1 + 1 + 1, 1, none⟩) hl3 (fun h => h)).trans c7⟩ (fun hHeld => ?_)
      clear hK K
      try simp only [List.getElem_toArray, List.getElem_cons_zero, List.getElem_cons_succ, Act.put, List.setIfInBounds_toArray, List.set_cons_zero, List.set_cons_succ]
      refine wpAnyL_fork (rs := [5, 10]) (by kernel_rfl) (by simp) ?_
      refine AllL.cons (i := 5) rfl (fun K hK => ?_) ?_
      · go_simp
        refine (between_calls d b hd hb _).mono ?_; rintro e x10 ⟨vb, rfl, hvb, hkk⟩
        have hx10 : Keeps (fun _ => False) w1 x10 := knil hx00 hkk
        have hva := hva.kept hkk
        clear hkk
        go_wp2_with fail
        refine hK.out _ _ ⟨((hx10).cell (p := ⟨w.heap.size, 0, none⟩) hl0 (fun h => h)).trans c0, ((hx10).cell (p := ⟨w.heap.size, 1, none⟩) hl0 (fun h => h)).trans c1, ((hx10).cell (p := ⟨w.heap.size + 1, 0, none⟩) hl1 (fun h => h)).trans c2, ((hx10).cell (p := ⟨w.heap.size + 1, 1, none⟩) hl1 (fun h => h)).trans c3, ((hx10).cell (p := ⟨w.heap.size + 1 + 1, 0, none⟩) hl2 (fun h => h)).trans c4, ((hx10).cell (p := ⟨w.heap.size + 1 + 1, 1, none⟩) hl2 (fun h => h)).trans c5, ((hx10).cell (p := ⟨w.heap.size + 1 + 1 + 1, 0, none⟩) hl3 (fun h => h)).trans c6, ((hx10).cell (p := ⟨w.heap.size + 1 + 1 + 1, 1, none⟩) hl3 (fun h => h)).trans c7⟩ (fun hHeld => ?_)
        clear hK K
        try simp only [List.getElem_toArray, List.getElem_cons_zero, List.getElem_cons_succ, Act.put, List.setIfInBounds_toArray, List.set_cons_zero, List.set_cons_succ]
        refine wpAnyL_fork (rs := [8, 10]) (by kernel_rfl) (by simp) ?_
        refine AllL.cons (i := 8) rfl (fun K hK => ?_) ?_
        · go_simp
          refine (between_calls d c hd hc _).mono ?_; rintro e x20 ⟨vc, rfl, hvc, hkk⟩
          have hx20 : Keeps (fun _ => False) w1 x20 := knil hx10 hkk
          have hva := hva.kept hkk
          have hvb := hvb.kept hkk
          clear hkk
          go_wp2_with fail
          refine hK.out _ _ ⟨((hx20).cell (p := ⟨w.heap.size, 0, none⟩) hl0 (fun h => h)).trans c0, ((hx20).cell (p := ⟨w.heap.size, 1, none⟩) hl0 (fun h => h)).trans c1, ((hx20).cell (p := ⟨w.heap.size + 1, 0, none⟩) hl1 (fun h => h)).trans c2, ((hx20).cell (p := ⟨w.heap.size + 1, 1, none⟩) hl1 (fun h => h)).trans c3, ((hx20).cell (p := ⟨w.heap.size + 1 + 1, 0, none⟩) hl2 (fun h => h)).trans c4, ((hx20).cell (p := ⟨w.heap.size + 1 + 1, 1, none⟩) hl2 (fun h => h)).trans c5, ((hx20).cell (p := ⟨w.heap.size + 1 + 1 + 1, 0, none⟩) hl3 (fun h => h)).trans c6, ((hx20).cell (p := ⟨w.heap.size + 1 + 1 + 1, 1, none⟩) hl3 (fun h => h)).trans c7⟩ (fun hHeld => ?_)
          clear hK K
          try simp only [List.getElem_toArray, List.getElem_cons_zero, List.getElem_cons_succ, Act.put, List.setIfInBounds_toArray, List.set_cons_zero, List.set_cons_succ]
          obtain ⟨a1, a2, rfl, ha1, ha2⟩ := hva
          obtain ⟨b1, b2, rfl, hb1, hb2⟩ := hvb
          obtain ⟨c1_, c2_, rfl, hc1, hc2⟩ := hvc
          obtain ⟨a1b, a1o, a1c, rfl⟩ := ha1.shape
          obtain ⟨a2b, a2o, a2c, rfl⟩ := ha2.shape
          obtain ⟨b1b, b1o, b1c, rfl⟩ := hb1.shape
          obtain ⟨b2b, b2o, b2c, rfl⟩ := hb2.shape
          obtain ⟨c1b, c1o, c1c, rfl⟩ := hc1.shape
          obtain ⟨c2b, c2o, c2c, rfl⟩ := hc2.shape
          refine wpAnyL_any (i := 9) (oi := _) (v := .agg #[.slice (some ⟨a1b, a1o, none⟩) 2 a1c, .slice (some ⟨a2b, a2o, none⟩) 2 a2c, .slice (some ⟨b1b, b1o, none⟩) 2 b1c, .slice (some ⟨b2b, b2o, none⟩) 2 b2c, .slice (some ⟨c1b, c1o, none⟩) 2 c1c, .slice (some ⟨c2b, c2o, none⟩) 2 c2c]) rfl (by kernel_rfl) (by kernel_rfl) (by kernel_rfl) (by kernel_rfl) (fun _ _ _ h => (h : False).elim) (Or.inl ⟨by kernel_rfl, ?_⟩) (fun _ => by assumption) ?_
          · intro w _
            go_simp
          try simp only [List.getElem_toArray, List.getElem_cons_zero, List.getElem_cons_succ, Act.put, List.setIfInBounds_toArray, List.set_cons_zero, List.set_cons_succ]
          refine wpAnyL_next (i := 10) (by kernel_rfl) rfl (fun K hK => ?_)
          go_simp
          obtain ⟨y3, hwy3⟩ : ∃ y3, (x20).alloc (.cells #[.slice none 0 0, .slice none 0 0, .slice none 0 0, .slice none 0 0, .slice none 0 0, .slice none 0 0] 123) = y3 := ⟨_, rfl⟩
          obtain ⟨g, hgg⟩ : ∃ g, (x20).heap.size = g := ⟨_, rfl⟩
          have hky : Keeps (fun _ => False) (x20) y3 := by rw [← hwy3]; exact (Keeps.refl _ _).alloc _
          have hy3 : Keeps (fun _ => False) w1 y3 := knil hx20 hky
          have hG := Lib.hid (show y3.heap[g]? = some (.cells #[.slice none 0 0, .slice none 0 0, .slice none 0 0, .slice none 0 0, .slice none 0 0, .slice none 0 0] 123 (0, 0)) by rw [← hwy3, ← hgg]; exact heap_alloc_new _ _)
          have hgs : w1.heap.size ≤ g := by rw [← hgg]; exact (hx20).size
          try rw [hwy3]
          try rw [hgg]
          refine hK.out _ _ ⟨((hy3).cell (p := ⟨w.heap.size, 0, none⟩) hl0 (fun h => h)).trans c0, ((hy3).cell (p := ⟨w.heap.size, 1, none⟩) hl0 (fun h => h)).trans c1, ((hy3).cell (p := ⟨w.heap.size + 1, 0, none⟩) hl1 (fun h => h)).trans c2, ((hy3).cell (p := ⟨w.heap.size + 1, 1, none⟩) hl1 (fun h => h)).trans c3, ((hy3).cell (p := ⟨w.heap.size + 1 + 1, 0, none⟩) hl2 (fun h => h)).trans c4, ((hy3).cell (p := ⟨w.heap.size + 1 + 1, 1, none⟩) hl2 (fun h => h)).trans c5, ((hy3).cell (p := ⟨w.heap.size + 1 + 1 + 1, 0, none⟩) hl3 (fun h => h)).trans c6, ((hy3).cell (p := ⟨w.heap.size + 1 + 1 + 1, 1, none⟩) hl3 (fun h => h)).trans c7⟩ (fun hHeld => ?_)
          clear hK K
          try simp only [List.getElem_toArray, List.getElem_cons_zero, List.getElem_cons_succ, Act.put, List.setIfInBounds_toArray, List.set_cons_zero, List.set_cons_succ]
          have ha1 := ha1.kept hky
          have ha2 := ha2.kept hky
          have hb1 := hb1.kept hky
          have hb2 := hb2.kept hky
          have hc1 := hc1.kept hky
          have hc2 := hc2.kept hky
          have Ha1 := Lib.hid ha1
          have Ha2 := Lib.hid ha2
          have Hb1 := Lib.hid hb1
          have Hb2 := Lib.hid hb2
          have Hc1 := Lib.hid hc1
          have Hc2 := Lib.hid hc2
          clear ha1 ha2 hb1 hb2 hc1 hc2
          have Hy := Lib.hid hy3
          have hG := hG.out
          have e0 := fro_cells hG 0
          have e1 := fro_cells hG 1
          have e2 := fro_cells hG 2
          have e3 := fro_cells hG 3
          have e4 := fro_cells hG 4
          have e5 := fro_cells hG 5
          have f0 := cells_at hG 0
          have f1 := cells_at hG 1
          have f2 := cells_at hG 2
          have f3 := cells_at hG 3
          have f4 := cells_at hG 4
          have f5 := cells_at hG 5
          have HG := Lib.hid hG
          clear hG
          refine wpAnyL_late (i := 11) (by kernel_rfl) rfl (by kernel_rfl) (fun K hK => ?_)
          go_wp2_with fail
          refine hK.out _ _ (fun _ => ?_)
          clear hK K
          try simp only [List.getElem_toArray, List.getElem_cons_zero, List.getElem_cons_succ, Act.put, List.setIfInBounds_toArray, List.set_cons_zero, List.set_cons_succ]
          refine wpAnyL_done (by kernel_rfl) ?_ _
          refine NoPanic.normal ?_
          go_wp2_with fail
          go_meet
          exact six_put (knil hk1 Hy.out) HG.out (by have := hk1.size; have := hl0; omega) Ha1.out Ha2.out Hb1.out Hb2.out Hc1.out Hc2.out
        refine AllL.cons (i := 10) rfl (fun K hK => ?_) AllL.nil
        go_simp
        obtain ⟨y2, hwy2⟩ : ∃ y2, (x10).alloc (.cells #[.slice none 0 0, .slice none 0 0, .slice none 0 0, .slice none 0 0, .slice none 0 0, .slice none 0 0] 123) = y2 := ⟨_, rfl⟩
        obtain ⟨g, hgg⟩ : ∃ g, (x10).heap.size = g := ⟨_, rfl⟩
        have hky : Keeps (fun _ => False) (x10) y2 := by rw [← hwy2]; exact (Keeps.refl _ _).alloc _
        have hy2 : Keeps (fun _ => False) w1 y2 := knil hx10 hky
        have hG := Lib.hid (show y2.heap[g]? = some (.cells #[.slice none 0 0, .slice none 0 0, .slice none 0 0, .slice none 0 0, .slice none 0 0, .slice none 0 0] 123 (0, 0)) by rw [← hwy2, ← hgg]; exact heap_alloc_new _ _)
        have hgs : w1.heap.size ≤ g := by rw [← hgg]; exact (hx10).size
        try rw [hwy2]
        try rw [hgg]
        refine hK.out _ _ ⟨((hy2).cell (p := ⟨w.heap.size, 0, none⟩) hl0 (fun h => h)).trans c0, ((hy2).cell (p := ⟨w.heap.size, 1, none⟩) hl0 (fun h => h)).trans c1, ((hy2).cell (p := ⟨w.heap.size + 1, 0, none⟩) hl1 (fun h => h)).trans c2, ((hy2).cell (p := ⟨w.heap.size + 1, 1, none⟩) hl1 (fun h => h)).trans c3, ((hy2).cell (p := ⟨w.heap.size + 1 + 1, 0, none⟩) hl2 (fun h => h)).trans c4, ((hy2).cell (p := ⟨w.heap.size + 1 + 1, 1, none⟩) hl2 (fun h => h)).trans c5, ((hy2).cell (p := ⟨w.heap.size + 1 + 1 + 1, 0, none⟩) hl3 (fun h => h)).trans c6, ((hy2).cell (p := ⟨w.heap.size + 1 + 1 + 1, 1, none⟩) hl3 (fun h => h)).trans c7⟩ (fun hHeld => ?_)
        clear hK K
        try simp only [List.getElem_toArray, List.getElem_cons_zero, List.getElem_cons_succ, Act.put, List.setIfInBounds_toArray, List.set_cons_zero, List.set_cons_succ]
        have hva := hva.kept hky
        have hvb := hvb.kept hky
        refine wpAnyL_next (i := 8) (by kernel_rfl) rfl (fun K hK => ?_)
        go_simp
        refine (between_calls d c hd hc _).mono ?_; rintro e x21 ⟨vc, rfl, hvc, hkk⟩
        have hx21 : Keeps (fun _ => False) w1 x21 := knil hy2 hkk
        have hva := hva.kept hkk
        have hvb := hvb.kept hkk
        have hG := Lib.hid ((hkk.block _ (Array.getElem?_eq_some_iff.1 hG.out).1 (fun h => h)).trans hG.out)
        clear hkk
        go_wp2_with fail
        refine hK.out _ _ ⟨((hx21).cell (p := ⟨w.heap.size, 0, none⟩) hl0 (fun h => h)).trans c0, ((hx21).cell (p := ⟨w.heap.size, 1, none⟩) hl0 (fun h => h)).trans c1, ((hx21).cell (p := ⟨w.heap.size + 1, 0, none⟩) hl1 (fun h => h)).trans c2, ((hx21).cell (p := ⟨w.heap.size + 1, 1, none⟩) hl1 (fun h => h)).trans c3, ((hx21).cell (p := ⟨w.heap.size + 1 + 1, 0, none⟩) hl2 (fun h => h)).trans c4, ((hx21).cell (p := ⟨w.heap.size + 1 + 1, 1, none⟩) hl2 (fun h => h)).trans c5, ((hx21).cell (p := ⟨w.heap.size + 1 + 1 + 1, 0, none⟩) hl3 (fun h => h)).trans c6, ((hx21).cell (p := ⟨w.heap.size + 1 + 1 + 1, 1, none⟩) hl3 (fun h => h)).trans c7⟩ (fun hHeld => ?_)
        clear hK K
        try simp only [List.getElem_toArray, List.getElem_cons_zero, List.getElem_cons_succ, Act.put, List.setIfInBounds_toArray, List.set_cons_zero, List.set_cons_succ]
        obtain ⟨a1, a2, rfl, ha1, ha2⟩ := hva
        obtain ⟨b1, b2, rfl, hb1, hb2⟩ := hvb
        obtain ⟨c1_, c2_, rfl, hc1, hc2⟩ := hvc
        obtain ⟨a1b, a1o, a1c, rfl⟩ := ha1.shape
        obtain ⟨a2b, a2o, a2c, rfl⟩ := ha2.shape
        obtain ⟨b1b, b1o, b1c, rfl⟩ := hb1.shape
        obtain ⟨b2b, b2o, b2c, rfl⟩ := hb2.shape
        obtain ⟨c1b, c1o, c1c, rfl⟩ := hc1.shape
        obtain ⟨c2b, c2o, c2c, rfl⟩ := hc2.shape
        refine wpAnyL_any (i := 9) (oi := _) (v := .agg #[.slice (some ⟨a1b, a1o, none⟩) 2 a1c, .slice (some ⟨a2b, a2o, none⟩) 2 a2c, .slice (some ⟨b1b, b1o, none⟩) 2 b1c, .slice (some ⟨b2b, b2o, none⟩) 2 b2c, .slice (some ⟨c1b, c1o, none⟩) 2 c1c, .slice (some ⟨c2b, c2o, none⟩) 2 c2c]) rfl (by kernel_rfl) (by kernel_rfl) (by kernel_rfl) (by kernel_rfl) (fun _ _ _ h => (h : False).elim) (Or.inl ⟨by kernel_rfl, ?_⟩) (fun _ => by assumption) ?_
        · intro w _
          go_simp
        try simp only [List.getElem_toArray, List.getElem_cons_zero, List.getElem_cons_succ, Act.put, List.setIfInBounds_toArray, List.set_cons_zero, List.set_cons_succ]
        have Ha1 := Lib.hid ha1
        have Ha2 := Lib.hid ha2
        have Hb1 := Lib.hid hb1
        have Hb2 := Lib.hid hb2
        have Hc1 := Lib.hid hc1
        have Hc2 := Lib.hid hc2
        clear ha1 ha2 hb1 hb2 hc1 hc2
        have Hy := Lib.hid hx21
        have hG := hG.out
        have e0 := fro_cells hG 0
        have e1 := fro_cells hG 1
        have e2 := fro_cells hG 2
        have e3 := fro_cells hG 3
        have e4 := fro_cells hG 4
        have e5 := fro_cells hG 5
        have f0 := cells_at hG 0
        have f1 := cells_at hG 1
        have f2 := cells_at hG 2
        have f3 := cells_at hG 3
        have f4 := cells_at hG 4
        have f5 := cells_at hG 5
        have HG := Lib.hid hG
        clear hG
        refine wpAnyL_late (i := 11) (by kernel_rfl) rfl (by kernel_rfl) (fun K hK => ?_)
        go_wp2_with fail
        refine hK.out _ _ (fun _ => ?_)
        clear hK K
        try simp only [List.getElem_toArray, List.getElem_cons_zero, List.getElem_cons_succ, Act.put, List.setIfInBounds_toArray, List.set_cons_zero, List.set_cons_succ]
        refine wpAnyL_done (by kernel_rfl) ?_ _
        refine NoPanic.normal ?_
        go_wp2_with fail
        go_meet
        exact six_put (knil hk1 Hy.out) HG.out (by have := hk1.size; have := hl0; omega) Ha1.out Ha2.out Hb1.out Hb2.out Hc1.out Hc2.out
      refine AllL.cons (i := 10) rfl (fun K hK => ?_) AllL.nil
      go_simp
      obtain ⟨y1, hwy1⟩ : ∃ y1, (x00).alloc (.cells #[.slice none 0 0, .slice none 0 0, .slice none 0 0, .slice none 0 0, .slice none 0 0, .slice none 0 0] 123) = y1 := ⟨_, rfl⟩
      obtain ⟨g, hgg⟩ : ∃ g, (x00).heap.size = g := ⟨_, rfl⟩
      have hky : Keeps (fun _ => False) (x00) y1 := by rw [← hwy1]; exact (Keeps.refl _ _).alloc _
      have hy1 : Keeps (fun _ => False) w1 y1 := knil hx00 hky
      have hG := Lib.hid (show y1.heap[g]? = some (.cells #[.slice none 0 0, .slice none 0 0, .slice none 0 0, .slice none 0 0, .slice none 0 0, .slice none 0 0] 123 (0, 0)) by rw [← hwy1, ← hgg]; exact heap_alloc_new _ _)
      have hgs : w1.heap.size ≤ g := by rw [← hgg]; exact (hx00).size
      try rw [hwy1]
      try rw [hgg]
      refine hK.out _ _ ⟨((hy1).cell (p := ⟨w.heap.size, 0, none⟩) hl0 (fun h => h)).trans c0, ((hy1).cell (p := ⟨w.heap.size, 1, none⟩) hl0 (fun h => h)).trans c1, ((hy1).cell (p := ⟨w.heap.size + 1, 0, none⟩) hl1 (fun h => h)).trans c2, ((hy1).cell (p := ⟨w.heap.size + 1, 1, none⟩) hl1 (fun h => h)).trans c3, ((hy1).cell (p := ⟨w.heap.size + 1 + 1, 0, none⟩) hl2 (fun h => h)).trans c4, ((hy1).cell (p := ⟨w.heap.size + 1 + 1, 1, none⟩) hl2 (fun h => h)).trans c5, ((hy1).cell (p := ⟨w.heap.size + 1 + 1 + 1, 0, none⟩) hl3 (fun h => h)).trans c6, ((hy1).cell (p := ⟨w.heap.size + 1 + 1 + 1, 1, none⟩) hl3 (fun h => h)).trans c7⟩ (fun hHeld => ?_)
      clear hK K
      try simp only [List.getElem_toArray, List.getElem_cons_zero, List.getElem_cons_succ, Act.put, List.setIfInBounds_toArray, List.set_cons_zero, List.set_cons_succ]
      have hva := hva.kept hky
      refine wpAnyL_next (i := 5) (by kernel_rfl) rfl (fun K hK => ?_)
      go_simp
      refine (between_calls d b hd hb _).mono ?_; rintro e x11 ⟨vb, rfl, hvb, hkk⟩
      have hx11 : Keeps (fun _ => False) w1 x11 := knil hy1 hkk
      have hva := hva.kept hkk
      have hG := Lib.hid ((hkk.block _ (Array.getElem?_eq_some_iff.1 hG.out).1 (fun h => h)).trans hG.out)
      clear hkk
      go_wp2_with fail
      refine hK.out _ _ ⟨((hx11).cell (p := ⟨w.heap.size, 0, none⟩) hl0 (fun h => h)).trans c0, ((hx11).cell (p := ⟨w.heap.size, 1, none⟩) hl0 (fun h => h)).trans c1, ((hx11).cell (p := ⟨w.heap.size + 1, 0, none⟩) hl1 (fun h => h)).trans c2, ((hx11).cell (p := ⟨w.heap.size + 1, 1, none⟩) hl1 (fun h => h)).trans c3, ((hx11).cell (p := ⟨w.heap.size + 1 + 1, 0, none⟩) hl2 (fun h => h)).trans c4, ((hx11).cell (p := ⟨w.heap.size + 1 + 1, 1, none⟩) hl2 (fun h => h)).trans c5, ((hx11).cell (p := ⟨w.heap.size + 1 + 1 + 1, 0, none⟩) hl3 (fun h => h)).trans c6, ((hx11).cell (p := ⟨w.heap.size + 1 + 1 + 1, 1, none⟩) hl3 (fun h => h)).trans c7⟩ (fun hHeld => ?_)
      clear hK K
      try simp only [List.getElem_toArray, List.getElem_cons_zero, List.getElem_cons_succ, Act.put, List.setIfInBounds_toArray, List.set_cons_zero, List.set_cons_succ]
      refine wpAnyL_next (i := 8) (by kernel_rfl) rfl (fun K hK => ?_)
      go_simp
      refine (between_calls d c hd hc _).mono ?_; rintro e x21 ⟨vc, rfl, hvc, hkk⟩
      have hx21 : Keeps (fun _ => False) w1 x21 := knil hx11 hkk
      have hva := hva.kept hkk
      have hvb := hvb.kept hkk
      have hG := Lib.hid ((hkk.block _ (Array.getElem?_eq_some_iff.1 hG.out).1 (fun h => h)).trans hG.out)
      clear hkk
      go_wp2_with fail
      refine hK.out _ _ ⟨((hx21).cell (p := ⟨w.heap.size, 0, none⟩) hl0 (fun h => h)).trans c0, ((hx21).cell (p := ⟨w.heap.size, 1, none⟩) hl0 (fun h => h)).trans c1, ((hx21).cell (p := ⟨w.heap.size + 1, 0, none⟩) hl1 (fun h => h)).trans c2, ((hx21).cell (p := ⟨w.heap.size + 1, 1, none⟩) hl1 (fun h => h)).trans c3, ((hx21).cell (p := ⟨w.heap.size + 1 + 1, 0, none⟩) hl2 (fun h => h)).trans c4, ((hx21).cell (p := ⟨w.heap.size + 1 + 1, 1, none⟩) hl2 (fun h => h)).trans c5, ((hx21).cell (p := ⟨w.heap.size + 1 + 1 + 1, 0, none⟩) hl3 (fun h => h)).trans c6, ((hx21).cell (p := ⟨w.heap.size + 1 + 1 + 1, 1, none⟩) hl3 (fun h => h)).trans c7⟩ (fun hHeld => ?_)
      clear hK K
      try simp only [List.getElem_toArray, List.getElem_cons_zero, List.getElem_cons_succ, Act.put, List.setIfInBounds_toArray, List.set_cons_zero, List.set_cons_succ]
      obtain ⟨a1, a2, rfl, ha1, ha2⟩ := hva
      obtain ⟨b1, b2, rfl, hb1, hb2⟩ := hvb
      obtain ⟨c1_, c2_, rfl, hc1, hc2⟩ := hvc
      obtain ⟨a1b, a1o, a1c, rfl⟩ := ha1.shape
      obtain ⟨a2b, a2o, a2c, rfl⟩ := ha2.shape
      obtain ⟨b1b, b1o, b1c, rfl⟩ := hb1.shape
      obtain ⟨b2b, b2o, b2c, rfl⟩ := hb2.shape
      obtain ⟨c1b, c1o, c1c, rfl⟩ := hc1.shape
      obtain ⟨c2b, c2o, c2c, rfl⟩ := hc2.shape
      refine wpAnyL_any (i := 9) (oi := _) (v := .agg #[.slice (some ⟨a1b, a1o, none⟩) 2 a1c, .slice (some ⟨a2b, a2o, none⟩) 2 a2c, .slice (some ⟨b1b, b1o, none⟩) 2 b1c, .slice (some ⟨b2b, b2o, none⟩) 2 b2c, .slice (some ⟨c1b, c1o, none⟩) 2 c1c, .slice (some ⟨c2b, c2o, none⟩) 2 c2c]) rfl (by kernel_rfl) (by kernel_rfl) (by kernel_rfl) (by kernel_rfl) (fun _ _ _ h => (h : False).elim) (Or.inl ⟨by kernel_rfl, ?_⟩) (fun _ => by assumption) ?_
      · intro w _
        go_simp
      try simp only [List.getElem_toArray, List.getElem_cons_zero, List.getElem_cons_succ, Act.put, List.setIfInBounds_toArray, List.set_cons_zero, List.set_cons_succ]
      have Ha1 := Lib.hid ha1
      have Ha2 := Lib.hid ha2
      have Hb1 := Lib.hid hb1
      have Hb2 := Lib.hid hb2
      have Hc1 := Lib.hid hc1
      have Hc2 := Lib.hid hc2
      clear ha1 ha2 hb1 hb2 hc1 hc2
      have Hy := Lib.hid hx21
      have hG := hG.out
      have e0 := fro_cells hG 0
      have e1 := fro_cells hG 1
      have e2 := fro_cells hG 2
      have e3 := fro_cells hG 3
      have e4 := fro_cells hG 4
      have e5 := fro_cells hG 5
      have f0 := cells_at hG 0
      have f1 := cells_at hG 1
      have f2 := cells_at hG 2
      have f3 := cells_at hG 3
      have f4 := cells_at hG 4
      have f5 := cells_at hG 5
      have HG := Lib.hid hG
      clear hG
      refine wpAnyL_late (i := 11) (by kernel_rfl) rfl (by kernel_rfl) (fun K hK => ?_)
      go_wp2_with fail
      refine hK.out _ _ (fun _ => ?_)
      clear hK K
      try simp only [List.getElem_toArray, List.getElem_cons_zero, List.getElem_cons_succ, Act.put, List.setIfInBounds_toArray, List.set_cons_zero, List.set_cons_succ]
      refine wpAnyL_done (by kernel_rfl) ?_ _
      refine NoPanic.normal ?_
      go_wp2_with fail
      go_meet
      exact six_put (knil hk1 Hy.out) HG.out (by have := hk1.size; have := hl0; omega) Ha1.out Ha2.out Hb1.out Hb2.out Hc1.out Hc2.out
    refine AllL.cons (i := 10) rfl (fun K hK => ?_) AllL.nil
    go_simp
    obtain ⟨y0, hwy0⟩ : ∃ y0, (wd).alloc (.cells #[.slice none 0 0, .slice none 0 0, .slice none 0 0, .slice none 0 0, .slice none 0 0, .slice none 0 0] 123) = y0 := ⟨_, rfl⟩
    obtain ⟨g, hgg⟩ : ∃ g, (wd).heap.size = g := ⟨_, rfl⟩
    have hky : Keeps (fun _ => False) (wd) y0 := by rw [← hwy0]; exact (Keeps.refl _ _).alloc _
    have hy0 : Keeps (fun _ => False) w1 y0 := knil hwd hky
    have hG := Lib.hid (show y0.heap[g]? = some (.cells #[.slice none 0 0, .slice none 0 0, .slice none 0 0, .slice none 0 0, .slice none 0 0, .slice none 0 0] 123 (0, 0)) by rw [← hwy0, ← hgg]; exact heap_alloc_new _ _)
    have hgs : w1.heap.size ≤ g := by rw [← hgg]; exact (hwd).size
    try rw [hwy0]
    try rw [hgg]
    refine hK.out _ _ ⟨((hy0).cell (p := ⟨w.heap.size, 0, none⟩) hl0 (fun h => h)).trans c0, ((hy0).cell (p := ⟨w.heap.size, 1, none⟩) hl0 (fun h => h)).trans c1, ((hy0).cell (p := ⟨w.heap.size + 1, 0, none⟩) hl1 (fun h => h)).trans c2, ((hy0).cell (p := ⟨w.heap.size + 1, 1, none⟩) hl1 (fun h => h)).trans c3, ((hy0).cell (p := ⟨w.heap.size + 1 + 1, 0, none⟩) hl2 (fun h => h)).trans c4, ((hy0).cell (p := ⟨w.heap.size + 1 + 1, 1, none⟩) hl2 (fun h => h)).trans c5, ((hy0).cell (p := ⟨w.heap.size + 1 + 1 + 1, 0, none⟩) hl3 (fun h => h)).trans c6, ((hy0).cell (p := ⟨w.heap.size + 1 + 1 + 1, 1, none⟩) hl3 (fun h => h)).trans c7⟩ (fun hHeld => ?_)
    clear hK K
    try simp only [List.getElem_toArray, List.getElem_cons_zero, List.getElem_cons_succ, Act.put, List.setIfInBounds_toArray, List.set_cons_zero, List.set_cons_succ]
    refine wpAnyL_next (i := 2) (by kernel_rfl) rfl (fun K hK => ?_)
    go_simp
    refine (between_calls d a hd ha _).mono ?_; rintro e x01 ⟨va, rfl, hva, hkk⟩
    have hx01 : Keeps (fun _ => False) w1 x01 := knil hy0 hkk
    have hG := Lib.hid ((hkk.block _ (Array.getElem?_eq_some_iff.1 hG.out).1 (fun h => h)).trans hG.out)
    clear hkk
    go_wp2_with fail
    refine hK.out _ _ ⟨((hx01).cell (p := ⟨w.heap.size, 0, none⟩) hl0 (fun h => h)).trans c0, ((hx01).cell (p := ⟨w.heap.size, 1, none⟩) hl0 (fun h => h)).trans c1, ((hx01).cell (p := ⟨w.heap.size + 1, 0, none⟩) hl1 (fun h => h)).trans c2, ((hx01).cell (p := ⟨w.heap.size + 1, 1, none⟩) hl1 (fun h => h)).trans c3, ((hx01).cell (p := ⟨w.heap.size + 1 + 1, 0, none⟩) hl2 (fun h => h)).trans c4, ((hx01).cell (p := ⟨w.heap.size + 1 + 1, 1, none⟩) hl2 (fun h => h)).trans c5, ((hx01).cell (p := ⟨w.heap.size + 1 + 1 + 1, 0, none⟩) hl3 (fun h => h)).trans c6, ((hx01).cell (p := ⟨w.heap.size + 1 + 1 + 1, 1, none⟩) hl3 (fun h => h)).trans c7⟩ (fun hHeld => ?_)
    clear hK K
    try simp only [List.getElem_toArray, List.getElem_cons_zero, List.getElem_cons_succ, Act.put, List.setIfInBounds_toArray, List.set_cons_zero, List.set_cons_succ]
    refine wpAnyL_next (i := 5) (by kernel_rfl) rfl (fun K hK => ?_)
    go_simp
    refine (between_calls d b hd hb _).mono ?_; rintro e x11 ⟨vb, rfl, hvb, hkk⟩
    have hx11 : Keeps (fun _ => False) w1 x11 := knil hx01 hkk
    have hva := hva.kept hkk
    have hG := Lib.hid ((hkk.block _ (Array.getElem?_eq_some_iff.1 hG.out).1 (fun h => h)).trans hG.out)
    clear hkk
    go_wp2_with fail
    refine hK.out _ _ ⟨((hx11).cell (p := ⟨w.heap.size, 0, none⟩) hl0 (fun h => h)).trans c0, ((hx11).cell (p := ⟨w.heap.size, 1, none⟩) hl0 (fun h => h)).trans c1, ((hx11).cell (p := ⟨w.heap.size + 1, 0, none⟩) hl1 (fun h => h)).trans c2, ((hx11).cell (p := ⟨w.heap.size + 1, 1, none⟩) hl1 (fun h => h)).trans c3, ((hx11).cell (p := ⟨w.heap.size + 1 + 1, 0, none⟩) hl2 (fun h => h)).trans c4, ((hx11).cell (p := ⟨w.heap.size + 1 + 1, 1, none⟩) hl2 (fun h => h)).trans c5, ((hx11).cell (p := ⟨w.heap.size + 1 + 1 + 1, 0, none⟩) hl3 (fun h => h)).trans c6, ((hx11).cell (p := ⟨w.heap.size + 1 + 1 + 1, 1, none⟩) hl3 (fun h => h)).trans c7⟩ (fun hHeld => ?_)
    clear hK K
    try simp only [List.getElem_toArray, List.getElem_cons_zero, List.getElem_cons_succ, Act.put, List.setIfInBounds_toArray, List.set_cons_zero, List.set_cons_succ]
    refine wpAnyL_next (i := 8) (by kernel_rfl) rfl (fun K hK => ?_)
    go_simp
    refine (between_calls d c hd hc _).mono ?_; rintro e x21 ⟨vc, rfl, hvc, hkk⟩
    have hx21 : Keeps (fun _ => False) w1 x21 := knil hx11 hkk
    have hva := hva.kept hkk
    have hvb := hvb.kept hkk
    have hG := Lib.hid ((hkk.block _ (Array.getElem?_eq_some_iff.1 hG.out).1 (fun h => h)).trans hG.out)
    clear hkk
    go_wp2_with fail
    refine hK.out _ _ ⟨((hx21).cell (p := ⟨w.heap.size, 0, none⟩) hl0 (fun h => h)).trans c0, ((hx21).cell (p := ⟨w.heap.size, 1, none⟩) hl0 (fun h => h)).trans c1, ((hx21).cell (p := ⟨w.heap.size + 1, 0, none⟩) hl1 (fun h => h)).trans c2, ((hx21).cell (p := ⟨w.heap.size + 1, 1, none⟩) hl1 (fun h => h)).trans c3, ((hx21).cell (p := ⟨w.heap.size + 1 + 1, 0, none⟩) hl2 (fun h => h)).trans c4, ((hx21).cell (p := ⟨w.heap.size + 1 + 1, 1, none⟩) hl2 (fun h => h)).trans c5, ((hx21).cell (p := ⟨w.heap.size + 1 + 1 + 1, 0, none⟩) hl3 (fun h => h)).trans c6, ((hx21).cell (p := ⟨w.heap.size + 1 + 1 + 1, 1, none⟩) hl3 (fun h => h)).trans c7⟩ (fun hHeld => ?_)
    clear hK K
    try simp only [List.getElem_toArray, List.getElem_cons_zero, List.getElem_cons_succ, Act.put, List.setIfInBounds_toArray, List.set_cons_zero, List.set_cons_succ]
    obtain ⟨a1, a2, rfl, ha1, ha2⟩ := hva
    obtain ⟨b1, b2, rfl, hb1, hb2⟩ := hvb
    obtain ⟨c1_, c2_, rfl, hc1, hc2⟩ := hvc
    obtain ⟨a1b, a1o, a1c, rfl⟩ := ha1.shape
    obtain ⟨a2b, a2o, a2c, rfl⟩ := ha2.shape
    obtain ⟨b1b, b1o, b1c, rfl⟩ := hb1.shape
    obtain ⟨b2b, b2o, b2c, rfl⟩ := hb2.shape
    obtain ⟨c1b, c1o, c1c, rfl⟩ := hc1.shape
    obtain ⟨c2b, c2o, c2c, rfl⟩ := hc2.shape
    refine wpAnyL_any (i := 9) (oi := _) (v := .agg #[.slice (some ⟨a1b, a1o, none⟩) 2 a1c, .slice (some ⟨a2b, a2o, none⟩) 2 a2c, .slice (some ⟨b1b, b1o, none⟩) 2 b1c, .slice (some ⟨b2b, b2o, none⟩) 2 b2c, .slice (some ⟨c1b, c1o, none⟩) 2 c1c, .slice (some ⟨c2b, c2o, none⟩) 2 c2c]) rfl (by kernel_rfl) (by kernel_rfl) (by kernel_rfl) (by kernel_rfl) (fun _ _ _ h => (h : False).elim) (Or.inl ⟨by kernel_rfl, ?_⟩) (fun _ => by assumption) ?_
    · intro w _
      go_simp
    try simp only [List.getElem_toArray, List.getElem_cons_zero, List.getElem_cons_succ, Act.put, List.setIfInBounds_toArray, List.set_cons_zero, List.set_cons_succ]
    have Ha1 := Lib.hid ha1
    have Ha2 := Lib.hid ha2
    have Hb1 := Lib.hid hb1
    have Hb2 := Lib.hid hb2
    have Hc1 := Lib.hid hc1
    have Hc2 := Lib.hid hc2
    clear ha1 ha2 hb1 hb2 hc1 hc2
    have Hy := Lib.hid hx21
    have hG := hG.out
    have e0 := fro_cells hG 0
    have e1 := fro_cells hG 1
    have e2 := fro_cells hG 2
    have e3 := fro_cells hG 3
    have e4 := fro_cells hG 4
    have e5 := fro_cells hG 5
    have f0 := cells_at hG 0
    have f1 := cells_at hG 1
    have f2 := cells_at hG 2
    have f3 := cells_at hG 3
    have f4 := cells_at hG 4
    have f5 := cells_at hG 5
    have HG := Lib.hid hG
    clear hG
    refine wpAnyL_late (i := 11) (by kernel_rfl) rfl (by kernel_rfl) (fun K hK => ?_)
    go_wp2_with fail
    refine hK.out _ _ (fun _ => ?_)
    clear hK K
    try simp only [List.getElem_toArray, List.getElem_cons_zero, List.getElem_cons_succ, Act.put, List.setIfInBounds_toArray, List.set_cons_zero, List.set_cons_succ]
    refine wpAnyL_done (by kernel_rfl) ?_ _
    refine NoPanic.normal ?_
    go_wp2_with fail
    go_meet
    exact six_put (knil hk1 Hy.out) HG.out (by have := hk1.size; have := hl0; omega) Ha1.out Ha2.out Hb1.out Hb2.out Hc1.out Hc2.out
  case rest =>
    obtain ⟨g, rfl, ⟨s0, s1, s2, s3, s4, s5, hg, n0, n1, n2, n3, n4, n5⟩, hkc⟩ := hcut
    obtain ⟨b0, o0, q0, rfl⟩ := n0.shape
    have N0 := Lib.hid n0
    obtain ⟨b1, o1, q1, rfl⟩ := n1.shape
    have N1 := Lib.hid n1
    obtain ⟨b2, o2, q2, rfl⟩ := n2.shape
    have N2 := Lib.hid n2
    obtain ⟨b3, o3, q3, rfl⟩ := n3.shape
    have N3 := Lib.hid n3
    obtain ⟨b4, o4, q4, rfl⟩ := n4.shape
    have N4 := Lib.hid n4
    obtain ⟨b5, o5, q5, rfl⟩ := n5.shape
    have N5 := Lib.hid n5
    clear n0 n1 n2 n3 n4 n5
    have HG := Lib.hid hg
    have hgl : g < wc.heap.size := (Array.getElem?_eq_some_iff.1 hg).1
    clear hg c0 c1 c2 c3 c4 c5 c6 c7
    have fa := vec_fit hd ha
    have fb := vec_fit hd hb
    have fc := vec_fit hd hc
    have FA := Lib.hid fa
    have FB := Lib.hid fb
    have FC := Lib.hid fc
    clear fa fb fc
    go_wp2_with fail
    refine (from_calls 0 (by unfold IsS; omega) 5 (by decide) (by decide) _).mono ?_; rintro e w2 ⟨vs, rfl, hvs, hk2⟩
    obtain ⟨b7, o7, q7, rfl⟩ := hvs.shape
    have HS0 := Lib.hid hvs
    clear hvs
    have HK2 := Lib.hid hk2
    clear hk2
    go_wp2_with fail
    go_loopw [10, 11, 12, 13, 25] (fun s _ _ _ i wr => ∃ (k bs os cs : Nat), k ≤ 3 ∧ i = .int .i64 k ∧ s = .slice (some ⟨bs, os, none⟩) 5 cs ∧ RowKit.Hid (numAt wr (.slice (some ⟨bs, os, none⟩) 5 cs) 5 (part (vec d a) (vec d b) (vec d c) k)) ∧ RowKit.Hid (Keeps (fun _ => False) wc wr)) (fun _ _ _ _ i _ => 3 - (intOf i).toNat)
    case atStart => exact ⟨0, _, _, _, by omega, rfl, rfl, HS0, HK2⟩
    case round =>
      obtain ⟨k, bs, os, cs, hk, rfl, rfl, HS, HK⟩ := hrel
      have hwr1 : IntKind.i64.wrap 1 = 1 := by decide
      have hwr2 : IntKind.i64.wrap 2 = 2 := by decide
      have hwr3 : IntKind.i64.wrap 3 = 3 := by decide
      have hwr4 : IntKind.i64.wrap 4 = 4 := by decide
      rcases (show k = 0 ∨ k = 1 ∨ k = 2 ∨ k = 3 by omega) with rfl | rfl | rfl | rfl
      · have hgr : g < wr.heap.size := Nat.lt_of_lt_of_le hgl HK.out.size
        have hg := (HK.out.block _ hgl (fun h => h)).trans HG.out
        have c0 := cells_at hg 2
        have c1 := cells_at hg 3
        have c2 := cells_at hg 4
        have c3 := cells_at hg 5
        have d0 := cells_at hg 0
        have d1 := cells_at hg 1
        have HGR := Lib.hid hg
        clear hg d0 d1
        go_wp2_with fail
        refine wp_region_late (fun W => W.cell? ⟨g, 2, none⟩ = some (.slice (some ⟨b2, o2, none⟩) 2 q2) ∧ W.cell? ⟨g, 3, none⟩ = some (.slice (some ⟨b3, o3, none⟩) 2 q3) ∧ W.cell? ⟨g, 4, none⟩ = some (.slice (some ⟨b4, o4, none⟩) 2 q4) ∧ W.cell? ⟨g, 5, none⟩ = some (.slice (some ⟨b5, o5, none⟩) 2 q5)) [] (by kernel_rfl) ?_
        have hS : wr.drew.cell? ⟨g, 2, none⟩ = some (.slice (some ⟨b2, o2, none⟩) 2 q2) ∧ wr.drew.cell? ⟨g, 3, none⟩ = some (.slice (some ⟨b3, o3, none⟩) 2 q3) ∧ wr.drew.cell? ⟨g, 4, none⟩ = some (.slice (some ⟨b4, o4, none⟩) 2 q4) ∧ wr.drew.cell? ⟨g, 5, none⟩ = some (.slice (some ⟨b5, o5, none⟩) 2 q5) := ⟨c0, c1, c2, c3⟩
        refine wpAnyL_any (i := 0) (oi := _) (v := .int .i64 0) rfl (by kernel_rfl) (by kernel_rfl) (by kernel_rfl) (by kernel_rfl) (fun _ _ _ h => (h : False).elim) (Or.inl ⟨by kernel_rfl, ?_⟩) (fun _ => by assumption) ?_
        · intro w _
          go_simp
        try simp only [List.getElem_toArray, List.getElem_cons_zero, List.getElem_cons_succ, Act.put, List.setIfInBounds_toArray, List.set_cons_zero, List.set_cons_succ]
        refine wpAnyL_any (i := 1) (oi := _) (v := .int .i64 1) rfl (by kernel_rfl) (by kernel_rfl) (by kernel_rfl) (by kernel_rfl) (fun _ _ _ h => (h : False).elim) (Or.inl ⟨by kernel_rfl, ?_⟩) (fun _ => by assumption) ?_
        · intro w _
          go_simp
        try simp only [List.getElem_toArray, List.getElem_cons_zero, List.getElem_cons_succ, Act.put, List.setIfInBounds_toArray, List.set_cons_zero, List.set_cons_succ]
        refine wpAnyL_any (i := 2) (oi := _) (v := .int .i64 1) rfl (by kernel_rfl) (by kernel_rfl) (by kernel_rfl) (by kernel_rfl) (fun _ _ _ h => (h : False).elim) (Or.inl ⟨by kernel_rfl, ?_⟩) (fun _ => by assumption) ?_
        · intro w _
          go_simp
        try simp only [List.getElem_toArray, List.getElem_cons_zero, List.getElem_cons_succ, Act.put, List.setIfInBounds_toArray, List.set_cons_zero, List.set_cons_succ]
        refine wpAnyL_any (i := 3) (oi := _) (v := .pointer (some ⟨g, 2, none⟩)) rfl (by kernel_rfl) (by kernel_rfl) (by kernel_rfl) (by kernel_rfl) (fun _ _ _ h => (h : False).elim) (Or.inl ⟨by kernel_rfl, ?_⟩) (fun _ => by assumption) ?_
        · intro w _
          go_simp
        try simp only [List.getElem_toArray, List.getElem_cons_zero, List.getElem_cons_succ, Act.put, List.setIfInBounds_toArray, List.set_cons_zero, List.set_cons_succ]
        refine wpAnyL_take (i := 4) (oi := _) (v := .agg #[.slice (some ⟨b2, o2, none⟩) 2 q2, .slice (some ⟨b3, o3, none⟩) 2 q3]) rfl (by kernel_rfl) (by kernel_rfl) (by kernel_rfl) (by kernel_rfl) (fun _ _ _ h => (h : False).elim) (Or.inl ⟨by kernel_rfl, ?_⟩) (by assumption) ?_
        · intro w hSw
          obtain ⟨s0, s1, s2, s3⟩ := hSw
          go_simp
        try simp only [List.getElem_toArray, List.getElem_cons_zero, List.getElem_cons_succ, Act.put, List.setIfInBounds_toArray, List.set_cons_zero, List.set_cons_succ]
        refine wpAnyL_any (i := 5) (oi := _) (v := .int .i64 0) rfl (by kernel_rfl) (by kernel_rfl) (by kernel_rfl) (by kernel_rfl) (fun _ _ _ h => (h : False).elim) (Or.inl ⟨by kernel_rfl, ?_⟩) (fun _ => by assumption) ?_
        · intro w _
          go_simp
        try simp only [List.getElem_toArray, List.getElem_cons_zero, List.getElem_cons_succ, Act.put, List.setIfInBounds_toArray, List.set_cons_zero, List.set_cons_succ]
        refine wpAnyL_any (i := 6) (oi := _) (v := .int .i64 2) rfl (by kernel_rfl) (by kernel_rfl) (by kernel_rfl) (by kernel_rfl) (fun _ _ _ h => (h : False).elim) (Or.inl ⟨by kernel_rfl, ?_⟩) (fun _ => by assumption) ?_
        · intro w _
          go_simp
        try simp only [List.getElem_toArray, List.getElem_cons_zero, List.getElem_cons_succ, Act.put, List.setIfInBounds_toArray, List.set_cons_zero, List.set_cons_succ]
        refine wpAnyL_any (i := 7) (oi := _) (v := .int .i64 2) rfl (by kernel_rfl) (by kernel_rfl) (by kernel_rfl) (by kernel_rfl) (fun _ _ _ h => (h : False).elim) (Or.inl ⟨by kernel_rfl, ?_⟩) (fun _ => by assumption) ?_
        · intro w _
          go_simp
        try simp only [List.getElem_toArray, List.getElem_cons_zero, List.getElem_cons_succ, Act.put, List.setIfInBounds_toArray, List.set_cons_zero, List.set_cons_succ]
        refine wpAnyL_any (i := 8) (oi := _) (v := .pointer (some ⟨g, 4, none⟩)) rfl (by kernel_rfl) (by kernel_rfl) (by kernel_rfl) (by kernel_rfl) (fun _ _ _ h => (h : False).elim) (Or.inl ⟨by kernel_rfl, ?_⟩) (fun _ => by assumption) ?_
        · intro w _
          go_simp
        try simp only [List.getElem_toArray, List.getElem_cons_zero, List.getElem_cons_succ, Act.put, List.setIfInBounds_toArray, List.set_cons_zero, List.set_cons_succ]
        refine wpAnyL_take (i := 9) (oi := _) (v := .agg #[.slice (some ⟨b4, o4, none⟩) 2 q4, .slice (some ⟨b5, o5, none⟩) 2 q5]) rfl (by kernel_rfl) (by kernel_rfl) (by kernel_rfl) (by kernel_rfl) (fun _ _ _ h => (h : False).elim) (Or.inl ⟨by kernel_rfl, ?_⟩) (by assumption) ?_
        · intro w hSw
          obtain ⟨s0, s1, s2, s3⟩ := hSw
          go_simp
        try simp only [List.getElem_toArray, List.getElem_cons_zero, List.getElem_cons_succ, Act.put, List.setIfInBounds_toArray, List.set_cons_zero, List.set_cons_succ]
        refine wpAnyL_next (i := 10) (by kernel_rfl) rfl (fun K hK => ?_)
        go_simp
        refine (cross_calls _ _ (vec d b) (vec d c) _ (vecAt_mk N2.out N3.out (HK.out.drewN 1)) (vecAt_mk N4.out N5.out (HK.out.drewN 1)) FB.out FC.out).mono ?_; rintro e w3 ⟨v3, rfl, hv3, hk3⟩
        have hk13 : Keeps (fun _ => False) wr w3 := knil ((Keeps.refl _ wr).drewN 1) hk3
        go_wp2_with fail
        refine hK.out _ _ ⟨((hk13).cell (p := ⟨g, 2, none⟩) hgr (fun h => h)).trans c0, ((hk13).cell (p := ⟨g, 3, none⟩) hgr (fun h => h)).trans c1, ((hk13).cell (p := ⟨g, 4, none⟩) hgr (fun h => h)).trans c2, ((hk13).cell (p := ⟨g, 5, none⟩) hgr (fun h => h)).trans c3⟩ (fun hHeld => ?_)
        clear hK K
        try simp only [List.getElem_toArray, List.getElem_cons_zero, List.getElem_cons_succ, Act.put, List.setIfInBounds_toArray, List.set_cons_zero, List.set_cons_succ]
        refine wpAnyL_next (i := 11) (by kernel_rfl) rfl (fun K hK => ?_)
        go_simp
        refine (extend_calls v3 3 3 _ (by decide) (by decide) (by decide) (.inl (by decide)) _ hv3).mono ?_; rintro e w4 ⟨v4, rfl, hv4, hk4⟩
        have hk14 : Keeps (fun _ => False) wr w4 := knil hk13 hk4
        go_wp2_with fail
        refine hK.out _ _ ⟨((hk14).cell (p := ⟨g, 2, none⟩) hgr (fun h => h)).trans c0, ((hk14).cell (p := ⟨g, 3, none⟩) hgr (fun h => h)).trans c1, ((hk14).cell (p := ⟨g, 4, none⟩) hgr (fun h => h)).trans c2, ((hk14).cell (p := ⟨g, 5, none⟩) hgr (fun h => h)).trans c3⟩ (fun hHeld => ?_)
        clear hK K
        try simp only [List.getElem_toArray, List.getElem_cons_zero, List.getElem_cons_succ, Act.put, List.setIfInBounds_toArray, List.set_cons_zero, List.set_cons_succ]
        refine wpAnyL_any (i := 12) (oi := _) (v := v4) rfl (by kernel_rfl) (by kernel_rfl) (by kernel_rfl) (by kernel_rfl) (fun _ _ _ h => (h : False).elim) (Or.inl ⟨by kernel_rfl, ?_⟩) (fun _ => by assumption) ?_
        · intro w _
          go_simp
        try simp only [List.getElem_toArray, List.getElem_cons_zero, List.getElem_cons_succ, Act.put, List.setIfInBounds_toArray, List.set_cons_zero, List.set_cons_succ]
        refine wpAnyL_done (by kernel_rfl) ?_ _
        refine NoPanic.normal ?_
        have hg := (hk14.block _ hgr (fun h => h)).trans HGR.out
        have d0 := cells_at hg 0
        have d1 := cells_at hg 1
        clear hg hS c0 c1 c2 c3
        obtain ⟨b8, o8, q8, rfl⟩ := hv4.shape
        have HV4 := Lib.hid hv4
        clear hv4 hv3
        have HK14 := Lib.hid hk14
        clear hk14 hk13 hk3 hk4
        go_wp2_with fail
        refine (norm_calls _ (vec d a) _ (vecAt_mk N0.out N1.out (knil HK.out HK14.out)) FA.out).mono ?_; rintro e w5 ⟨v5, rfl, hv5, hk5⟩
        clear d0 d1
        go_wp2_with fail
        refine (extend_calls v5 3 3 _ (by decide) (by decide) (by decide) (.inl (by decide)) _ hv5).mono ?_; rintro e w6 ⟨v6, rfl, hv6, hk6⟩
        obtain ⟨b9, o9, q9, rfl⟩ := hv6.shape
        have hk46 := knil hk5 hk6
        have hk16 := knil HK14.out hk46
        have h4 := HV4.out.kept hk46
        have HV6 := Lib.hid hv6
        have HV4 := Lib.hid h4
        have HK16 := Lib.hid hk16
        clear hv5 hv6 hk5 hk6 hk46 hk16 h4
        go_wp2_with fail
        refine (lmul_calls _ _ 2 2 (nrm (vec d a)) (cr (vec d b) (vec d c)) (by decide) _ HV6.out HV4.out (fit_nrm hd ha) (fit_cr hd hb hc)).mono ?_; rintro e w7 ⟨v7, rfl, hv7, hk7⟩
        go_wp2_with fail
        refine (extend_calls v7 5 5 _ (by decide) (by decide) (by decide) (.inl (by decide)) _ hv7).mono ?_; rintro e w8 ⟨v8, rfl, hv8, hk8⟩
        have hk18 := knil (knil HK16.out hk7) hk8
        have hs8 := HS.out.kept hk18
        go_wp2_with fail
        refine (ladd_calls _ v8 5 _ _ (by decide) (by decide) _ hs8 hv8).mono ?_; rintro e w9 ⟨v9, rfl, hv9, hk9⟩
        obtain ⟨ba, oa, qa, rfl⟩ := hv9.shape
        have HV9 := Lib.hid hv9
        have HK19 := Lib.hid (knil hk18 hk9)
        clear hv9 hs8 hv8 hk8 hk7 hv7 hk9 hk18
        go_wp2
        go_roundw
        case rel => exact ⟨1, _, _, _, by omega, rfl, rfl, HV9, knil HK.out HK19.out⟩
        case measure => simp [intOf]
      · have hgr : g < wr.heap.size := Nat.lt_of_lt_of_le hgl HK.out.size
        have hg := (HK.out.block _ hgl (fun h => h)).trans HG.out
        have c0 := cells_at hg 4
        have c1 := cells_at hg 5
        have c2 := cells_at hg 0
        have c3 := cells_at hg 1
        have d0 := cells_at hg 2
        have d1 := cells_at hg 3
        have HGR := Lib.hid hg
        clear hg d0 d1
        go_wp2_with fail
        refine wp_region_late (fun W => W.cell? ⟨g, 4, none⟩ = some (.slice (some ⟨b4, o4, none⟩) 2 q4) ∧ W.cell? ⟨g, 5, none⟩ = some (.slice (some ⟨b5, o5, none⟩) 2 q5) ∧ W.cell? ⟨g, 0, none⟩ = some (.slice (some ⟨b0, o0, none⟩) 2 q0) ∧ W.cell? ⟨g, 1, none⟩ = some (.slice (some ⟨b1, o1, none⟩) 2 q1)) [] (by kernel_rfl) ?_
        have hS : wr.drew.cell? ⟨g, 4, none⟩ = some (.slice (some ⟨b4, o4, none⟩) 2 q4) ∧ wr.drew.cell? ⟨g, 5, none⟩ = some (.slice (some ⟨b5, o5, none⟩) 2 q5) ∧ wr.drew.cell? ⟨g, 0, none⟩ = some (.slice (some ⟨b0, o0, none⟩) 2 q0) ∧ wr.drew.cell? ⟨g, 1, none⟩ = some (.slice (some ⟨b1, o1, none⟩) 2 q1) := ⟨c0, c1, c2, c3⟩
        refine wpAnyL_any (i := 0) (oi := _) (v := .int .i64 1) rfl (by kernel_rfl) (by kernel_rfl) (by kernel_rfl) (by kernel_rfl) (fun _ _ _ h => (h : False).elim) (Or.inl ⟨by kernel_rfl, ?_⟩) (fun _ => by assumption) ?_
        · intro w _
          go_simp
        try simp only [List.getElem_toArray, List.getElem_cons_zero, List.getElem_cons_succ, Act.put, List.setIfInBounds_toArray, List.set_cons_zero, List.set_cons_succ]
        refine wpAnyL_any (i := 1) (oi := _) (v := .int .i64 2) rfl (by kernel_rfl) (by kernel_rfl) (by kernel_rfl) (by kernel_rfl) (fun _ _ _ h => (h : False).elim) (Or.inl ⟨by kernel_rfl, ?_⟩) (fun _ => by assumption) ?_
        · intro w _
          go_simp
        try simp only [List.getElem_toArray, List.getElem_cons_zero, List.getElem_cons_succ, Act.put, List.setIfInBounds_toArray, List.set_cons_zero, List.set_cons_succ]
        refine wpAnyL_any (i := 2) (oi := _) (v := .int .i64 2) rfl (by kernel_rfl) (by kernel_rfl) (by kernel_rfl) (by kernel_rfl) (fun _ _ _ h => (h : False).elim) (Or.inl ⟨by kernel_rfl, ?_⟩) (fun _ => by assumption) ?_
        · intro w _
          go_simp
        try simp only [List.getElem_toArray, List.getElem_cons_zero, List.getElem_cons_succ, Act.put, List.setIfInBounds_toArray, List.set_cons_zero, List.set_cons_succ]
        refine wpAnyL_any (i := 3) (oi := _) (v := .pointer (some ⟨g, 4, none⟩)) rfl (by kernel_rfl) (by kernel_rfl) (by kernel_rfl) (by kernel_rfl) (fun _ _ _ h => (h : False).elim) (Or.inl ⟨by kernel_rfl, ?_⟩) (fun _ => by assumption) ?_
        · intro w _
          go_simp
        try simp only [List.getElem_toArray, List.getElem_cons_zero, List.getElem_cons_succ, Act.put, List.setIfInBounds_toArray, List.set_cons_zero, List.set_cons_succ]
        refine wpAnyL_take (i := 4) (oi := _) (v := .agg #[.slice (some ⟨b4, o4, none⟩) 2 q4, .slice (some ⟨b5, o5, none⟩) 2 q5]) rfl (by kernel_rfl) (by kernel_rfl) (by kernel_rfl) (by kernel_rfl) (fun _ _ _ h => (h : False).elim) (Or.inl ⟨by kernel_rfl, ?_⟩) (by assumption) ?_
        · intro w hSw
          obtain ⟨s0, s1, s2, s3⟩ := hSw
          go_simp
        try simp only [List.getElem_toArray, List.getElem_cons_zero, List.getElem_cons_succ, Act.put, List.setIfInBounds_toArray, List.set_cons_zero, List.set_cons_succ]
        refine wpAnyL_any (i := 5) (oi := _) (v := .int .i64 1) rfl (by kernel_rfl) (by kernel_rfl) (by kernel_rfl) (by kernel_rfl) (fun _ _ _ h => (h : False).elim) (Or.inl ⟨by kernel_rfl, ?_⟩) (fun _ => by assumption) ?_
        · intro w _
          go_simp
        try simp only [List.getElem_toArray, List.getElem_cons_zero, List.getElem_cons_succ, Act.put, List.setIfInBounds_toArray, List.set_cons_zero, List.set_cons_succ]
        refine wpAnyL_any (i := 6) (oi := _) (v := .int .i64 3) rfl (by kernel_rfl) (by kernel_rfl) (by kernel_rfl) (by kernel_rfl) (fun _ _ _ h => (h : False).elim) (Or.inl ⟨by kernel_rfl, ?_⟩) (fun _ => by assumption) ?_
        · intro w _
          go_simp
        try simp only [List.getElem_toArray, List.getElem_cons_zero, List.getElem_cons_succ, Act.put, List.setIfInBounds_toArray, List.set_cons_zero, List.set_cons_succ]
        refine wpAnyL_any (i := 7) (oi := _) (v := .int .i64 0) rfl (by kernel_rfl) (by kernel_rfl) (by kernel_rfl) (by kernel_rfl) (fun _ _ _ h => (h : False).elim) (Or.inl ⟨by kernel_rfl, ?_⟩) (fun _ => by assumption) ?_
        · intro w _
          go_simp
        try simp only [List.getElem_toArray, List.getElem_cons_zero, List.getElem_cons_succ, Act.put, List.setIfInBounds_toArray, List.set_cons_zero, List.set_cons_succ]
        refine wpAnyL_any (i := 8) (oi := _) (v := .pointer (some ⟨g, 0, none⟩)) rfl (by kernel_rfl) (by kernel_rfl) (by kernel_rfl) (by kernel_rfl) (fun _ _ _ h => (h : False).elim) (Or.inl ⟨by kernel_rfl, ?_⟩) (fun _ => by assumption) ?_
        · intro w _
          go_simp
        try simp only [List.getElem_toArray, List.getElem_cons_zero, List.getElem_cons_succ, Act.put, List.setIfInBounds_toArray, List.set_cons_zero, List.set_cons_succ]
        refine wpAnyL_take (i := 9) (oi := _) (v := .agg #[.slice (some ⟨b0, o0, none⟩) 2 q0, .slice (some ⟨b1, o1, none⟩) 2 q1]) rfl (by kernel_rfl) (by kernel_rfl) (by kernel_rfl) (by kernel_rfl) (fun _ _ _ h => (h : False).elim) (Or.inl ⟨by kernel_rfl, ?_⟩) (by assumption) ?_
        · intro w hSw
          obtain ⟨s0, s1, s2, s3⟩ := hSw
          go_simp
        try simp only [List.getElem_toArray, List.getElem_cons_zero, List.getElem_cons_succ, Act.put, List.setIfInBounds_toArray, List.set_cons_zero, List.set_cons_succ]
        refine wpAnyL_next (i := 10) (by kernel_rfl) rfl (fun K hK => ?_)
        go_simp
        refine (cross_calls _ _ (vec d c) (vec d a) _ (vecAt_mk N4.out N5.out (HK.out.drewN 1)) (vecAt_mk N0.out N1.out (HK.out.drewN 1)) FC.out FA.out).mono ?_; rintro e w3 ⟨v3, rfl, hv3, hk3⟩
        have hk13 : Keeps (fun _ => False) wr w3 := knil ((Keeps.refl _ wr).drewN 1) hk3
        go_wp2_with fail
        refine hK.out _ _ ⟨((hk13).cell (p := ⟨g, 4, none⟩) hgr (fun h => h)).trans c0, ((hk13).cell (p := ⟨g, 5, none⟩) hgr (fun h => h)).trans c1, ((hk13).cell (p := ⟨g, 0, none⟩) hgr (fun h => h)).trans c2, ((hk13).cell (p := ⟨g, 1, none⟩) hgr (fun h => h)).trans c3⟩ (fun hHeld => ?_)
        clear hK K
        try simp only [List.getElem_toArray, List.getElem_cons_zero, List.getElem_cons_succ, Act.put, List.setIfInBounds_toArray, List.set_cons_zero, List.set_cons_succ]
        refine wpAnyL_next (i := 11) (by kernel_rfl) rfl (fun K hK => ?_)
        go_simp
        refine (extend_calls v3 3 3 _ (by decide) (by decide) (by decide) (.inl (by decide)) _ hv3).mono ?_; rintro e w4 ⟨v4, rfl, hv4, hk4⟩
        have hk14 : Keeps (fun _ => False) wr w4 := knil hk13 hk4
        go_wp2_with fail
        refine hK.out _ _ ⟨((hk14).cell (p := ⟨g, 4, none⟩) hgr (fun h => h)).trans c0, ((hk14).cell (p := ⟨g, 5, none⟩) hgr (fun h => h)).trans c1, ((hk14).cell (p := ⟨g, 0, none⟩) hgr (fun h => h)).trans c2, ((hk14).cell (p := ⟨g, 1, none⟩) hgr (fun h => h)).trans c3⟩ (fun hHeld => ?_)
        clear hK K
        try simp only [List.getElem_toArray, List.getElem_cons_zero, List.getElem_cons_succ, Act.put, List.setIfInBounds_toArray, List.set_cons_zero, List.set_cons_succ]
        refine wpAnyL_any (i := 12) (oi := _) (v := v4) rfl (by kernel_rfl) (by kernel_rfl) (by kernel_rfl) (by kernel_rfl) (fun _ _ _ h => (h : False).elim) (Or.inl ⟨by kernel_rfl, ?_⟩) (fun _ => by assumption) ?_
        · intro w _
          go_simp
        try simp only [List.getElem_toArray, List.getElem_cons_zero, List.getElem_cons_succ, Act.put, List.setIfInBounds_toArray, List.set_cons_zero, List.set_cons_succ]
        refine wpAnyL_done (by kernel_rfl) ?_ _
        refine NoPanic.normal ?_
        have hg := (hk14.block _ hgr (fun h => h)).trans HGR.out
        have d0 := cells_at hg 2
        have d1 := cells_at hg 3
        clear hg hS c0 c1 c2 c3
        obtain ⟨b8, o8, q8, rfl⟩ := hv4.shape
        have HV4 := Lib.hid hv4
        clear hv4 hv3
        have HK14 := Lib.hid hk14
        clear hk14 hk13 hk3 hk4
        go_wp2_with fail
        refine (norm_calls _ (vec d b) _ (vecAt_mk N2.out N3.out (knil HK.out HK14.out)) FB.out).mono ?_; rintro e w5 ⟨v5, rfl, hv5, hk5⟩
        clear d0 d1
        go_wp2_with fail
        refine (extend_calls v5 3 3 _ (by decide) (by decide) (by decide) (.inl (by decide)) _ hv5).mono ?_; rintro e w6 ⟨v6, rfl, hv6, hk6⟩
        obtain ⟨b9, o9, q9, rfl⟩ := hv6.shape
        have hk46 := knil hk5 hk6
        have hk16 := knil HK14.out hk46
        have h4 := HV4.out.kept hk46
        have HV6 := Lib.hid hv6
        have HV4 := Lib.hid h4
        have HK16 := Lib.hid hk16
        clear hv5 hv6 hk5 hk6 hk46 hk16 h4
        go_wp2_with fail
        refine (lmul_calls _ _ 2 2 (nrm (vec d b)) (cr (vec d c) (vec d a)) (by decide) _ HV6.out HV4.out (fit_nrm hd hb) (fit_cr hd hc ha)).mono ?_; rintro e w7 ⟨v7, rfl, hv7, hk7⟩
        go_wp2_with fail
        refine (extend_calls v7 5 5 _ (by decide) (by decide) (by decide) (.inl (by decide)) _ hv7).mono ?_; rintro e w8 ⟨v8, rfl, hv8, hk8⟩
        have hk18 := knil (knil HK16.out hk7) hk8
        have hs8 := HS.out.kept hk18
        go_wp2_with fail
        refine (ladd_calls _ v8 5 _ _ (by decide) (by decide) _ hs8 hv8).mono ?_; rintro e w9 ⟨v9, rfl, hv9, hk9⟩
        obtain ⟨ba, oa, qa, rfl⟩ := hv9.shape
        have HV9 := Lib.hid hv9
        have HK19 := Lib.hid (knil hk18 hk9)
        clear hv9 hs8 hv8 hk8 hk7 hv7 hk9 hk18
        go_wp2
        go_roundw
        case rel => exact ⟨2, _, _, _, by omega, rfl, rfl, HV9, knil HK.out HK19.out⟩
        case measure => simp [intOf]
      · have hgr : g < wr.heap.size := Nat.lt_of_lt_of_le hgl HK.out.size
        have hg := (HK.out.block _ hgl (fun h => h)).trans HG.out
        have c0 := cells_at hg 0
        have c1 := cells_at hg 1
        have c2 := cells_at hg 2
        have c3 := cells_at hg 3
        have d0 := cells_at hg 4
        have d1 := cells_at hg 5
        have HGR := Lib.hid hg
        clear hg d0 d1
        go_wp2_with fail
        refine wp_region_late (fun W => W.cell? ⟨g, 0, none⟩ = some (.slice (some ⟨b0, o0, none⟩) 2 q0) ∧ W.cell? ⟨g, 1, none⟩ = some (.slice (some ⟨b1, o1, none⟩) 2 q1) ∧ W.cell? ⟨g, 2, none⟩ = some (.slice (some ⟨b2, o2, none⟩) 2 q2) ∧ W.cell? ⟨g, 3, none⟩ = some (.slice (some ⟨b3, o3, none⟩) 2 q3)) [] (by kernel_rfl) ?_
        have hS : wr.drew.cell? ⟨g, 0, none⟩ = some (.slice (some ⟨b0, o0, none⟩) 2 q0) ∧ wr.drew.cell? ⟨g, 1, none⟩ = some (.slice (some ⟨b1, o1, none⟩) 2 q1) ∧ wr.drew.cell? ⟨g, 2, none⟩ = some (.slice (some ⟨b2, o2, none⟩) 2 q2) ∧ wr.drew.cell? ⟨g, 3, none⟩ = some (.slice (some ⟨b3, o3, none⟩) 2 q3) := ⟨c0, c1, c2, c3⟩
        refine wpAnyL_any (i := 0) (oi := _) (v := .int .i64 2) rfl (by kernel_rfl) (by kernel_rfl) (by kernel_rfl) (by kernel_rfl) (fun _ _ _ h => (h : False).elim) (Or.inl ⟨by kernel_rfl, ?_⟩) (fun _ => by assumption) ?_
        · intro w _
          go_simp
        try simp only [List.getElem_toArray, List.getElem_cons_zero, List.getElem_cons_succ, Act.put, List.setIfInBounds_toArray, List.set_cons_zero, List.set_cons_succ]
        refine wpAnyL_any (i := 1) (oi := _) (v := .int .i64 3) rfl (by kernel_rfl) (by kernel_rfl) (by kernel_rfl) (by kernel_rfl) (fun _ _ _ h => (h : False).elim) (Or.inl ⟨by kernel_rfl, ?_⟩) (fun _ => by assumption) ?_
        · intro w _
          go_simp
        try simp only [List.getElem_toArray, List.getElem_cons_zero, List.getElem_cons_succ, Act.put, List.setIfInBounds_toArray, List.set_cons_zero, List.set_cons_succ]
        refine wpAnyL_any (i := 2) (oi := _) (v := .int .i64 0) rfl (by kernel_rfl) (by kernel_rfl) (by kernel_rfl) (by kernel_rfl) (fun _ _ _ h => (h : False).elim) (Or.inl ⟨by kernel_rfl, ?_⟩) (fun _ => by assumption) ?_
        · intro w _
          go_simp
        try simp only [List.getElem_toArray, List.getElem_cons_zero, List.getElem_cons_succ, Act.put, List.setIfInBounds_toArray, List.set_cons_zero, List.set_cons_succ]
        refine wpAnyL_any (i := 3) (oi := _) (v := .pointer (some ⟨g, 0, none⟩)) rfl (by kernel_rfl) (by kernel_rfl) (by kernel_rfl) (by kernel_rfl) (fun _ _ _ h => (h : False).elim) (Or.inl ⟨by kernel_rfl, ?_⟩) (fun _ => by assumption) ?_
        · intro w _
          go_simp
        try simp only [List.getElem_toArray, List.getElem_cons_zero, List.getElem_cons_succ, Act.put, List.setIfInBounds_toArray, List.set_cons_zero, List.set_cons_succ]
        refine wpAnyL_take (i := 4) (oi := _) (v := .agg #[.slice (some ⟨b0, o0, none⟩) 2 q0, .slice (some ⟨b1, o1, none⟩) 2 q1]) rfl (by kernel_rfl) (by kernel_rfl) (by kernel_rfl) (by kernel_rfl) (fun _ _ _ h => (h : False).elim) (Or.inl ⟨by kernel_rfl, ?_⟩) (by assumption) ?_
        · intro w hSw
          obtain ⟨s0, s1, s2, s3⟩ := hSw
          go_simp
        try simp only [List.getElem_toArray, List.getElem_cons_zero, List.getElem_cons_succ, Act.put, List.setIfInBounds_toArray, List.set_cons_zero, List.set_cons_succ]
        refine wpAnyL_any (i := 5) (oi := _) (v := .int .i64 2) rfl (by kernel_rfl) (by kernel_rfl) (by kernel_rfl) (by kernel_rfl) (fun _ _ _ h => (h : False).elim) (Or.inl ⟨by kernel_rfl, ?_⟩) (fun _ => by assumption) ?_
        · intro w _
          go_simp
        try simp only [List.getElem_toArray, List.getElem_cons_zero, List.getElem_cons_succ, Act.put, List.setIfInBounds_toArray, List.set_cons_zero, List.set_cons_succ]
        refine wpAnyL_any (i := 6) (oi := _) (v := .int .i64 4) rfl (by kernel_rfl) (by kernel_rfl) (by kernel_rfl) (by kernel_rfl) (fun _ _ _ h => (h : False).elim) (Or.inl ⟨by kernel_rfl, ?_⟩) (fun _ => by assumption) ?_
        · intro w _
          go_simp
        try simp only [List.getElem_toArray, List.getElem_cons_zero, List.getElem_cons_succ, Act.put, List.setIfInBounds_toArray, List.set_cons_zero, List.set_cons_succ]
        refine wpAnyL_any (i := 7) (oi := _) (v := .int .i64 1) rfl (by kernel_rfl) (by kernel_rfl) (by kernel_rfl) (by kernel_rfl) (fun _ _ _ h => (h : False).elim) (Or.inl ⟨by kernel_rfl, ?_⟩) (fun _ => by assumption) ?_
        · intro w _
          go_simp
        try simp only [List.getElem_toArray, List.getElem_cons_zero, List.getElem_cons_succ, Act.put, List.setIfInBounds_toArray, List.set_cons_zero, List.set_cons_succ]
        refine wpAnyL_any (i := 8) (oi := _) (v := .pointer (some ⟨g, 2, none⟩)) rfl (by kernel_rfl) (by kernel_rfl) (by kernel_rfl) (by kernel_rfl) (fun _ _ _ h => (h : False).elim) (Or.inl ⟨by kernel_rfl, ?_⟩) (fun _ => by assumption) ?_
        · intro w _
          go_simp
        try simp only [List.getElem_toArray, List.getElem_cons_zero, List.getElem_cons_succ, Act.put, List.setIfInBounds_toArray, List.set_cons_zero, List.set_cons_succ]
        refine wpAnyL_take (i := 9) (oi := _) (v := .agg #[.slice (some ⟨b2, o2, none⟩) 2 q2, .slice (some ⟨b3, o3, none⟩) 2 q3]) rfl (by kernel_rfl) (by kernel_rfl) (by kernel_rfl) (by kernel_rfl) (fun _ _ _ h => (h : False).elim) (Or.inl ⟨by kernel_rfl, ?_⟩) (by assumption) ?_
        · intro w hSw
          obtain ⟨s0, s1, s2, s3⟩ := hSw
          go_simp
        try simp only [List.getElem_toArray, List.getElem_cons_zero, List.getElem_cons_succ, Act.put, List.setIfInBounds_toArray, List.set_cons_zero, List.set_cons_succ]
        refine wpAnyL_next (i := 10) (by kernel_rfl) rfl (fun K hK => ?_)
        go_simp
        refine (cross_calls _ _ (vec d a) (vec d b) _ (vecAt_mk N0.out N1.out (HK.out.drewN 1)) (vecAt_mk N2.out N3.out (HK.out.drewN 1)) FA.out FB.out).mono ?_; rintro e w3 ⟨v3, rfl, hv3, hk3⟩
        have hk13 : Keeps (fun _ => False) wr w3 := knil ((Keeps.refl _ wr).drewN 1) hk3
        go_wp2_with fail
        refine hK.out _ _ ⟨((hk13).cell (p := ⟨g, 0, none⟩) hgr (fun h => h)).trans c0, ((hk13).cell (p := ⟨g, 1, none⟩) hgr (fun h => h)).trans c1, ((hk13).cell (p := ⟨g, 2, none⟩) hgr (fun h => h)).trans c2, ((hk13).cell (p := ⟨g, 3, none⟩) hgr (fun h => h)).trans c3⟩ (fun hHeld => ?_)
        clear hK K
        try simp only [List.getElem_toArray, List.getElem_cons_zero, List.getElem_cons_succ, Act.put, List.setIfInBounds_toArray, List.set_cons_zero, List.set_cons_succ]
        refine wpAnyL_next (i := 11) (by kernel_rfl) rfl (fun K hK => ?_)
        go_simp
        refine (extend_calls v3 3 3 _ (by decide) (by decide) (by decide) (.inl (by decide)) _ hv3).mono ?_; rintro e w4 ⟨v4, rfl, hv4, hk4⟩
        have hk14 : Keeps (fun _ => False) wr w4 := knil hk13 hk4
        go_wp2_with fail
        refine hK.out _ _ ⟨((hk14).cell (p := ⟨g, 0, none⟩) hgr (fun h => h)).trans c0, ((hk14).cell (p := ⟨g, 1, none⟩) hgr (fun h => h)).trans c1, ((hk14).cell (p := ⟨g, 2, none⟩) hgr (fun h => h)).trans c2, ((hk14).cell (p := ⟨g, 3, none⟩) hgr (fun h => h)).trans c3⟩ (fun hHeld => ?_)
        clear hK K
        try simp only [List.getElem_toArray, List.getElem_cons_zero, List.getElem_cons_succ, Act.put, List.setIfInBounds_toArray, List.set_cons_zero, List.set_cons_succ]
        refine wpAnyL_any (i := 12) (oi := _) (v := v4) rfl (by kernel_rfl) (by kernel_rfl) (by kernel_rfl) (by kernel_rfl) (fun _ _ _ h => (h : False).elim) (Or.inl ⟨by kernel_rfl, ?_⟩) (fun _ => by assumption) ?_
        · intro w _
          go_simp
        try simp only [List.getElem_toArray, List.getElem_cons_zero, List.getElem_cons_succ, Act.put, List.setIfInBounds_toArray, List.set_cons_zero, List.set_cons_succ]
        refine wpAnyL_done (by kernel_rfl) ?_ _
        refine NoPanic.normal ?_
        have hg := (hk14.block _ hgr (fun h => h)).trans HGR.out
        have d0 := cells_at hg 4
        have d1 := cells_at hg 5
        clear hg hS c0 c1 c2 c3
        obtain ⟨b8, o8, q8, rfl⟩ := hv4.shape
        have HV4 := Lib.hid hv4
        clear hv4 hv3
        have HK14 := Lib.hid hk14
        clear hk14 hk13 hk3 hk4
        go_wp2_with fail
        refine (norm_calls _ (vec d c) _ (vecAt_mk N4.out N5.out (knil HK.out HK14.out)) FC.out).mono ?_; rintro e w5 ⟨v5, rfl, hv5, hk5⟩
        clear d0 d1
        go_wp2_with fail
        refine (extend_calls v5 3 3 _ (by decide) (by decide) (by decide) (.inl (by decide)) _ hv5).mono ?_; rintro e w6 ⟨v6, rfl, hv6, hk6⟩
        obtain ⟨b9, o9, q9, rfl⟩ := hv6.shape
        have hk46 := knil hk5 hk6
        have hk16 := knil HK14.out hk46
        have h4 := HV4.out.kept hk46
        have HV6 := Lib.hid hv6
        have HV4 := Lib.hid h4
        have HK16 := Lib.hid hk16
        clear hv5 hv6 hk5 hk6 hk46 hk16 h4
        go_wp2_with fail
        refine (lmul_calls _ _ 2 2 (nrm (vec d c)) (cr (vec d a) (vec d b)) (by decide) _ HV6.out HV4.out (fit_nrm hd hc) (fit_cr hd ha hb)).mono ?_; rintro e w7 ⟨v7, rfl, hv7, hk7⟩
        go_wp2_with fail
        refine (extend_calls v7 5 5 _ (by decide) (by decide) (by decide) (.inl (by decide)) _ hv7).mono ?_; rintro e w8 ⟨v8, rfl, hv8, hk8⟩
        have hk18 := knil (knil HK16.out hk7) hk8
        have hs8 := HS.out.kept hk18
        go_wp2_with fail
        refine (ladd_calls _ v8 5 _ _ (by decide) (by decide) _ hs8 hv8).mono ?_; rintro e w9 ⟨v9, rfl, hv9, hk9⟩
        obtain ⟨ba, oa, qa, rfl⟩ := hv9.shape
        have HV9 := Lib.hid hv9
        have HK19 := Lib.hid (knil hk18 hk9)
        clear hv9 hs8 hv8 hk8 hk7 hv7 hk9 hk18
        go_wp2
        go_roundw
        case rel => exact ⟨3, _, _, _, by omega, rfl, rfl, HV9, knil HK.out HK19.out⟩
        case measure => simp [intOf]
      · go_wp2
        go_ret
        refine ⟨_, rfl, ?_, knil hkc HK.out⟩
        have h := HS.out
        rw [part_end] at h
        exact h
set_option maxRecDepth 100000 in
theorem csign_calls (a b c d : Int × Int) (ha : Pt a) (hb : Pt b) (hc : Pt c) (hd : Pt d) (w : World) (hG : Gl w) : Calls Tryz.prog 21 #[.agg #[.int .i64 a.1, .int .i64 a.2], .agg #[.int .i64 b.1, .int .i64 b.2], .agg #[.int .i64 c.1, .int .i64 c.2], .agg #[.int .i64 d.1, .int .i64 d.2]] w fun e w' => e = .returned (.int .i64 (sgnI (inc a b c d))) ∧ Keeps (fun _ => False) w w' := by
  have HG := Lib.hid hG
  clear hG
  go_enter Tryz.func21, Tryz.ntmps21
  go_wp2_with fail
  obtain ⟨w1, hw1⟩ : ∃ w1, ((((w.alloc (.cells #[.int .i64 a.1, .int .i64 a.2] 35)).alloc (.cells #[.int .i64 b.1, .int .i64 b.2] 35)).alloc (.cells #[.int .i64 c.1, .int .i64 c.2] 35)).alloc (.cells #[.int .i64 d.1, .int .i64 d.2] 35)) = w1 := ⟨_, rfl⟩
  have hk1 : Keeps (fun _ => False) w w1 := by rw [← hw1]; exact (((((Keeps.refl _ w).alloc _).alloc _).alloc _).alloc _)
  have hg0 : w1.heap[w.heap.size]? = some (.cells #[.int .i64 a.1, .int .i64 a.2] 35 (0, 0)) := by
    rw [← hw1, Below.heap_alloc _ _ _ (by simp <;> omega), Below.heap_alloc _ _ _ (by simp <;> omega), Below.heap_alloc _ _ _ (by simp <;> omega)]
    have := heap_alloc_new w (.cells #[.int .i64 a.1, .int .i64 a.2] 35)
    simpa using this
  have hg1 : w1.heap[w.heap.size + 1]? = some (.cells #[.int .i64 b.1, .int .i64 b.2] 35 (0, 0)) := by
    rw [← hw1, Below.heap_alloc _ _ _ (by simp <;> omega), Below.heap_alloc _ _ _ (by simp <;> omega)]
    have := heap_alloc_new (w.alloc (.cells #[.int .i64 a.1, .int .i64 a.2] 35)) (.cells #[.int .i64 b.1, .int .i64 b.2] 35)
    simpa using this
  have hg2 : w1.heap[w.heap.size + 1 + 1]? = some (.cells #[.int .i64 c.1, .int .i64 c.2] 35 (0, 0)) := by
    rw [← hw1, Below.heap_alloc _ _ _ (by simp <;> omega)]
    have := heap_alloc_new ((w.alloc (.cells #[.int .i64 a.1, .int .i64 a.2] 35)).alloc (.cells #[.int .i64 b.1, .int .i64 b.2] 35)) (.cells #[.int .i64 c.1, .int .i64 c.2] 35)
    simpa using this
  have hg3 : w1.heap[w.heap.size + 1 + 1 + 1]? = some (.cells #[.int .i64 d.1, .int .i64 d.2] 35 (0, 0)) := by
    rw [← hw1]
    have := heap_alloc_new (((w.alloc (.cells #[.int .i64 a.1, .int .i64 a.2] 35)).alloc (.cells #[.int .i64 b.1, .int .i64 b.2] 35)).alloc (.cells #[.int .i64 c.1, .int .i64 c.2] 35)) (.cells #[.int .i64 d.1, .int .i64 d.2] 35)
    simpa using this
  have c0 := cells_at hg0 0
  have c1 := cells_at hg0 1
  have hl0 : w.heap.size < w1.heap.size := (Array.getElem?_eq_some_iff.1 hg0).1
  have c2 := cells_at hg1 0
  have c3 := cells_at hg1 1
  have hl1 : w.heap.size + 1 < w1.heap.size := (Array.getElem?_eq_some_iff.1 hg1).1
  have c4 := cells_at hg2 0
  have c5 := cells_at hg2 1
  have hl2 : w.heap.size + 1 + 1 < w1.heap.size := (Array.getElem?_eq_some_iff.1 hg2).1
  have c6 := cells_at hg3 0
  have c7 := cells_at hg3 1
  have hl3 : w.heap.size + 1 + 1 + 1 < w1.heap.size := (Array.getElem?_eq_some_iff.1 hg3).1
  rw [hw1]
  clear hw1 hg0 hg1 hg2 hg3
  refine (cvalue_calls a b c d ha hb hc hd _).mono ?_; rintro e w2 ⟨v1, rfl, hv1, hk2⟩
  obtain ⟨b7, o7, q7, rfl⟩ := hv1.shape
  clear c0 c1 c2 c3 c4 c5 c6 c7
  go_wp2_with fail
  refine (lsign_calls _ 4 _ (by decide) (fit_inc ha hb hc hd) w2 (HG.out.kept (knil hk1 hk2)) hv1).mono ?_; rintro e w3 ⟨rfl, hk3⟩
  go_wp2
  go_ret
  exact ⟨rfl, knil (knil hk1 hk2) hk3⟩

theorem sgn_mul_wrap (x y : Int) : IntKind.i64.wrap (sgnI x * sgnI y) = sgnI x * sgnI y := by
  rcases sgnI_cases x with ⟨_, e⟩ | ⟨_, e⟩ | ⟨_, e⟩ <;> rcases sgnI_cases y with ⟨_, f⟩ | ⟨_, f⟩ | ⟨_, f⟩ <;> rw [e, f] <;> decide
set_option maxRecDepth 100000 in
set_option maxHeartbeats 4000000 in
theorem cside_calls (a b c d : Int × Int) (ha : Pt a) (hb : Pt b) (hc : Pt c) (hd : Pt d) (w : World) (hG : Gl w) : Calls Tryz.prog 22 #[.agg #[.int .i64 a.1, .int .i64 a.2], .agg #[.int .i64 b.1, .int .i64 b.2], .agg #[.int .i64 c.1, .int .i64 c.2], .agg #[.int .i64 d.1, .int .i64 d.2]] w fun e w' => e = .returned (.int .i64 (sgnI (inc a b c d) * sgnI (det a b c))) ∧ Keeps (fun _ => False) w w' := by
  have HG := Lib.hid hG
  have hmw := sgn_mul_wrap (inc a b c d) (det a b c)
  clear hG
  go_enter Tryz.func22, Tryz.ntmps22
  go_wp2_with fail
  obtain ⟨w1, hw1⟩ : ∃ w1, ((((w.alloc (.cells #[.int .i64 a.1, .int .i64 a.2] 35)).alloc (.cells #[.int .i64 b.1, .int .i64 b.2] 35)).alloc (.cells #[.int .i64 c.1, .int .i64 c.2] 35)).alloc (.cells #[.int .i64 d.1, .int .i64 d.2] 35)) = w1 := ⟨_, rfl⟩
  have hk1 : Keeps (fun _ => False) w w1 := by rw [← hw1]; exact (((((Keeps.refl _ w).alloc _).alloc _).alloc _).alloc _)
  have hg0 : w1.heap[w.heap.size]? = some (.cells #[.int .i64 a.1, .int .i64 a.2] 35 (0, 0)) := by
    rw [← hw1, Below.heap_alloc _ _ _ (by simp <;> omega), Below.heap_alloc _ _ _ (by simp <;> omega), Below.heap_alloc _ _ _ (by simp <;> omega)]
    have := heap_alloc_new w (.cells #[.int .i64 a.1, .int .i64 a.2] 35)
    simpa using this
  have hg1 : w1.heap[w.heap.size + 1]? = some (.cells #[.int .i64 b.1, .int .i64 b.2] 35 (0, 0)) := by
    rw [← hw1, Below.heap_alloc _ _ _ (by simp <;> omega), Below.heap_alloc _ _ _ (by simp <;> omega)]
    have := heap_alloc_new (w.alloc (.cells #[.int .i64 a.1, .int .i64 a.2] 35)) (.cells #[.int .i64 b.1, .int .i64 b.2] 35)
    simpa using this
  have hg2 : w1.heap[w.heap.size + 1 + 1]? = some (.cells #[.int .i64 c.1, .int .i64 c.2] 35 (0, 0)) := by
    rw [← hw1, Below.heap_alloc _ _ _ (by simp <;> omega)]
    have := heap_alloc_new ((w.alloc (.cells #[.int .i64 a.1, .int .i64 a.2] 35)).alloc (.cells #[.int .i64 b.1, .int .i64 b.2] 35)) (.cells #[.int .i64 c.1, .int .i64 c.2] 35)
    simpa using this
  have hg3 : w1.heap[w.heap.size + 1 + 1 + 1]? = some (.cells #[.int .i64 d.1, .int .i64 d.2] 35 (0, 0)) := by
    rw [← hw1]
    have := heap_alloc_new (((w.alloc (.cells #[.int .i64 a.1, .int .i64 a.2] 35)).alloc (.cells #[.int .i64 b.1, .int .i64 b.2] 35)).alloc (.cells #[.int .i64 c.1, .int .i64 c.2] 35)) (.cells #[.int .i64 d.1, .int .i64 d.2] 35)
    simpa using this
  have c0 := cells_at hg0 0
  have c1 := cells_at hg0 1
  have hl0 : w.heap.size < w1.heap.size := (Array.getElem?_eq_some_iff.1 hg0).1
  have c2 := cells_at hg1 0
  have c3 := cells_at hg1 1
  have hl1 : w.heap.size + 1 < w1.heap.size := (Array.getElem?_eq_some_iff.1 hg1).1
  have c4 := cells_at hg2 0
  have c5 := cells_at hg2 1
  have hl2 : w.heap.size + 1 + 1 < w1.heap.size := (Array.getElem?_eq_some_iff.1 hg2).1
  have c6 := cells_at hg3 0
  have c7 := cells_at hg3 1
  have hl3 : w.heap.size + 1 + 1 + 1 < w1.heap.size := (Array.getElem?_eq_some_iff.1 hg3).1
  rw [hw1]
  clear hw1 hg0 hg1 hg2 hg3
  refine wp_region_late (fun W => W.cell? ⟨w.heap.size, 0, none⟩ = some (.int .i64 a.1) ∧ W.cell? ⟨w.heap.size, 1, none⟩ = some (.int .i64 a.2) ∧ W.cell? ⟨w.heap.size + 1, 0, none⟩ = some (.int .i64 b.1) ∧ W.cell? ⟨w.heap.size + 1, 1, none⟩ = some (.int .i64 b.2) ∧ W.cell? ⟨w.heap.size + 1 + 1, 0, none⟩ = some (.int .i64 c.1) ∧ W.cell? ⟨w.heap.size + 1 + 1, 1, none⟩ = some (.int .i64 c.2) ∧ W.cell? ⟨w.heap.size + 1 + 1 + 1, 0, none⟩ = some (.int .i64 d.1) ∧ W.cell? ⟨w.heap.size + 1 + 1 + 1, 1, none⟩ = some (.int .i64 d.2)) [] (by kernel_rfl) ?_
  have hS : w1.drew.cell? ⟨w.heap.size, 0, none⟩ = some (.int .i64 a.1) ∧ w1.drew.cell? ⟨w.heap.size, 1, none⟩ = some (.int .i64 a.2) ∧ w1.drew.cell? ⟨w.heap.size + 1, 0, none⟩ = some (.int .i64 b.1) ∧ w1.drew.cell? ⟨w.heap.size + 1, 1, none⟩ = some (.int .i64 b.2) ∧ w1.drew.cell? ⟨w.heap.size + 1 + 1, 0, none⟩ = some (.int .i64 c.1) ∧ w1.drew.cell? ⟨w.heap.size + 1 + 1, 1, none⟩ = some (.int .i64 c.2) ∧ w1.drew.cell? ⟨w.heap.size + 1 + 1 + 1, 0, none⟩ = some (.int .i64 d.1) ∧ w1.drew.cell? ⟨w.heap.size + 1 + 1 + 1, 1, none⟩ = some (.int .i64 d.2) := ⟨c0, c1, c2, c3, c4, c5, c6, c7⟩
  refine wpAnyL_take (i := 0) (oi := _) (v := .agg #[.int .i64 a.1, .int .i64 a.2]) rfl (by kernel_rfl) (by kernel_rfl) (by kernel_rfl) (by kernel_rfl) (fun _ _ _ h => (h : False).elim) (Or.inl ⟨by kernel_rfl, ?_⟩) (by assumption) ?_
  · intro w hSw
    obtain ⟨s0, s1, s2, s3, s4, s5, s6, s7⟩ := hSw
    go_simp
  try simp only [List.getElem_toArray, List.getElem_cons_zero, List.getElem_cons_succ, Act.put, List.setIfInBounds_toArray, List.set_cons_zero, List.set_cons_succ]
  refine wpAnyL_take (i := 1) (oi := _) (v := .agg #[.int .i64 b.1, .int .i64 b.2]) rfl (by kernel_rfl) (by kernel_rfl) (by kernel_rfl) (by kernel_rfl) (fun _ _ _ h => (h : False).elim) (Or.inl ⟨by kernel_rfl, ?_⟩) (by assumption) ?_
  · intro w hSw
    obtain ⟨s0, s1, s2, s3, s4, s5, s6, s7⟩ := hSw
    go_simp
  try simp only [List.getElem_toArray, List.getElem_cons_zero, List.getElem_cons_succ, Act.put, List.setIfInBounds_toArray, List.set_cons_zero, List.set_cons_succ]
  refine wpAnyL_take (i := 2) (oi := _) (v := .agg #[.int .i64 c.1, .int .i64 c.2]) rfl (by kernel_rfl) (by kernel_rfl) (by kernel_rfl) (by kernel_rfl) (fun _ _ _ h => (h : False).elim) (Or.inl ⟨by kernel_rfl, ?_⟩) (by assumption) ?_
  · intro w hSw
    obtain ⟨s0, s1, s2, s3, s4, s5, s6, s7⟩ := hSw
    go_simp
  try simp only [List.getElem_toArray, List.getElem_cons_zero, List.getElem_cons_succ, Act.put, List.setIfInBounds_toArray, List.set_cons_zero, List.set_cons_succ]
  refine wpAnyL_take (i := 3) (oi := _) (v := .agg #[.int .i64 d.1, .int .i64 d.2]) rfl (by kernel_rfl) (by kernel_rfl) (by kernel_rfl) (by kernel_rfl) (fun _ _ _ h => (h : False).elim) (Or.inl ⟨by kernel_rfl, ?_⟩) (by assumption) ?_
  · intro w hSw
    obtain ⟨s0, s1, s2, s3, s4, s5, s6, s7⟩ := hSw
    go_simp
  try simp only [List.getElem_toArray, List.getElem_cons_zero, List.getElem_cons_succ, Act.put, List.setIfInBounds_toArray, List.set_cons_zero, List.set_cons_succ]
  refine wpAnyL_take (i := 5) (oi := _) (v := .agg #[.int .i64 a.1, .int .i64 a.2]) rfl (by kernel_rfl) (by kernel_rfl) (by kernel_rfl) (by kernel_rfl) (fun _ _ _ h => (h : False).elim) (Or.inl ⟨by kernel_rfl, ?_⟩) (by assumption) ?_
  · intro w hSw
    obtain ⟨s0, s1, s2, s3, s4, s5, s6, s7⟩ := hSw
    go_simp
  try simp only [List.getElem_toArray, List.getElem_cons_zero, List.getElem_cons_succ, Act.put, List.setIfInBounds_toArray, List.set_cons_zero, List.set_cons_succ]
  refine wpAnyL_take (i := 6) (oi := _) (v := .agg #[.int .i64 b.1, .int .i64 b.2]) rfl (by kernel_rfl) (by kernel_rfl) (by kernel_rfl) (by kernel_rfl) (fun _ _ _ h => (h : False).elim) (Or.inl ⟨by kernel_rfl, ?_⟩) (by assumption) ?_
  · intro w hSw
    obtain ⟨s0, s1, s2, s3, s4, s5, s6, s7⟩ := hSw
    go_simp
  try simp only [List.getElem_toArray, List.getElem_cons_zero, List.getElem_cons_succ, Act.put, List.setIfInBounds_toArray, List.set_cons_zero, List.set_cons_succ]
  refine wpAnyL_take (i := 7) (oi := _) (v := .agg #[.int .i64 c.1, .int .i64 c.2]) rfl (by kernel_rfl) (by kernel_rfl) (by kernel_rfl) (by kernel_rfl) (fun _ _ _ h => (h : False).elim) (Or.inl ⟨by kernel_rfl, ?_⟩) (by assumption) ?_
  · intro w hSw
    obtain ⟨s0, s1, s2, s3, s4, s5, s6, s7⟩ := hSw
    go_simp
  try simp only [List.getElem_toArray, List.getElem_cons_zero, List.getElem_cons_succ, Act.put, List.setIfInBounds_toArray, List.set_cons_zero, List.set_cons_succ]
  refine wpAnyL_next (i := 4) (by kernel_rfl) rfl (fun K hK => ?_)
  go_simp
  refine (csign_calls a b c d ha hb hc hd _ (HG.out.kept (hk1.drewN 1))).mono ?_; rintro e w2 ⟨rfl, hk2⟩
  have hk12 : Keeps (fun _ => False) w1 w2 := knil ((Keeps.refl _ w1).drewN 1) hk2
  go_wp2_with fail
  refine hK.out _ _ ⟨((hk12).cell (p := ⟨w.heap.size, 0, none⟩) hl0 (fun h => h)).trans c0, ((hk12).cell (p := ⟨w.heap.size, 1, none⟩) hl0 (fun h => h)).trans c1, ((hk12).cell (p := ⟨w.heap.size + 1, 0, none⟩) hl1 (fun h => h)).trans c2, ((hk12).cell (p := ⟨w.heap.size + 1, 1, none⟩) hl1 (fun h => h)).trans c3, ((hk12).cell (p := ⟨w.heap.size + 1 + 1, 0, none⟩) hl2 (fun h => h)).trans c4, ((hk12).cell (p := ⟨w.heap.size + 1 + 1, 1, none⟩) hl2 (fun h => h)).trans c5, ((hk12).cell (p := ⟨w.heap.size + 1 + 1 + 1, 0, none⟩) hl3 (fun h => h)).trans c6, ((hk12).cell (p := ⟨w.heap.size + 1 + 1 + 1, 1, none⟩) hl3 (fun h => h)).trans c7⟩ (fun hHeld => ?_)
  clear hK K
  try simp only [List.getElem_toArray, List.getElem_cons_zero, List.getElem_cons_succ, Act.put, List.setIfInBounds_toArray, List.set_cons_zero, List.set_cons_succ]
  refine wpAnyL_next (i := 8) (by kernel_rfl) rfl (fun K hK => ?_)
  go_simp
  refine (osign_calls a b c ha hb hc _ (HG.out.kept (knil hk1 hk12))).mono ?_; rintro e w3 ⟨rfl, hk3⟩
  have hk13 : Keeps (fun _ => False) w1 w3 := knil hk12 hk3
  go_wp2_with fail
  refine hK.out _ _ ⟨((hk13).cell (p := ⟨w.heap.size, 0, none⟩) hl0 (fun h => h)).trans c0, ((hk13).cell (p := ⟨w.heap.size, 1, none⟩) hl0 (fun h => h)).trans c1, ((hk13).cell (p := ⟨w.heap.size + 1, 0, none⟩) hl1 (fun h => h)).trans c2, ((hk13).cell (p := ⟨w.heap.size + 1, 1, none⟩) hl1 (fun h => h)).trans c3, ((hk13).cell (p := ⟨w.heap.size + 1 + 1, 0, none⟩) hl2 (fun h => h)).trans c4, ((hk13).cell (p := ⟨w.heap.size + 1 + 1, 1, none⟩) hl2 (fun h => h)).trans c5, ((hk13).cell (p := ⟨w.heap.size + 1 + 1 + 1, 0, none⟩) hl3 (fun h => h)).trans c6, ((hk13).cell (p := ⟨w.heap.size + 1 + 1 + 1, 1, none⟩) hl3 (fun h => h)).trans c7⟩ (fun hHeld => ?_)
  clear hK K
  try simp only [List.getElem_toArray, List.getElem_cons_zero, List.getElem_cons_succ, Act.put, List.setIfInBounds_toArray, List.set_cons_zero, List.set_cons_succ]
  refine wpAnyL_any (i := 9) (oi := _) (v := .int .i64 (sgnI (inc a b c d) * sgnI (det a b c))) rfl (by kernel_rfl) (by kernel_rfl) (by kernel_rfl) (by kernel_rfl) (fun _ _ _ h => (h : False).elim) (Or.inl ⟨by kernel_rfl, ?_⟩) (fun _ => by assumption) ?_
  · intro w _
    go_simp
  try simp only [List.getElem_toArray, List.getElem_cons_zero, List.getElem_cons_succ, Act.put, List.setIfInBounds_toArray, List.set_cons_zero, List.set_cons_succ]
  refine wpAnyL_any (i := 10) (oi := _) (v := .int .i64 (sgnI (inc a b c d) * sgnI (det a b c))) rfl (by kernel_rfl) (by kernel_rfl) (by kernel_rfl) (by kernel_rfl) (fun _ _ _ h => (h : False).elim) (Or.inl ⟨by kernel_rfl, ?_⟩) (fun _ => by assumption) ?_
  · intro w _
    go_simp
  try simp only [List.getElem_toArray, List.getElem_cons_zero, List.getElem_cons_succ, Act.put, List.setIfInBounds_toArray, List.set_cons_zero, List.set_cons_succ]
  refine wpAnyL_done (by kernel_rfl) ?_ _
  refine NoPanic.normal ?_
  clear hS c0 c1 c2 c3 c4 c5 c6 c7
  go_wp2
  go_ret
  exact ⟨rfl, knil hk1 hk13⟩
end Go.Proofs.YtmoajobnhiopiaaGreatDoor.lm
