/- Differences of points, and the orientation, by walking their text. -/
import Derived.Test.YtmoajobnhiopiaaGreatDoorLimbY
import Derived.Test.YtmoajobnhiopiaaGreatDoorGeo
set_option linter.unusedSimpArgs false
set_option linter.unusedVariables false
namespace Go.Proofs.YtmoajobnhiopiaaGreatDoor.lm
open Go Go.RowKit Go.Shelf Go.Maps Go.Proofs.YtmoajobnhiopiaaGreatDoor.mk Go.Proofs.YtmoajobnhiopiaaGreatDoor.tp Go.Proofs.YtmoajobnhiopiaaGreatDoor.rg Go.Proofs.YtmoajobnhiopiaaGreatDoor.gm

/-- A vector's value. -/
def vecAt (w : World) (v : Value) (x : Int × Int) : Prop := ∃ a b, v = .agg #[a, b] ∧ numAt w a 2 x.1 ∧ numAt w b 2 x.2
theorem vecAt.kept {w w' : World} {v : Value} {x : Int × Int} (h : vecAt w v x) (hk : Keeps (fun _ => False) w w') : vecAt w' v x := by
  obtain ⟨a, b, h1, h2, h3⟩ := h
  exact ⟨a, b, h1, h2.kept hk, h3.kept hk⟩
/-- The call returns a vector, and leaves what was there. -/
def GivesVec (w : World) (x : Int × Int) (e : Ending) (w' : World) : Prop := ∃ v', e = .returned v' ∧ vecAt w' v' x ∧ Keeps (fun _ => False) w w'
theorem numAt.shape {w : World} {v : Value} {n : Nat} {x : Int} (h : numAt w v n x) : ∃ b off cap, v = .slice (some ⟨b, off, none⟩) n cap := by
  obtain ⟨b, off, cap, h, _⟩ := h.cases
  exact ⟨b, off, cap, h⟩
theorem cells_at {w : World} {b : Nat} {cs : Array Value} {t : TypeId} {fr : Nat × Nat} (h : w.heap[b]? = some (.cells cs t fr)) (i : Nat) : w.cell? ⟨b, i, none⟩ = cs[i]? := by
  have := cell_of_row w b i cs t fr h
  rw [this]
theorem cells_put {w : World} {b : Nat} {cs : Array Value} {t : TypeId} {fr : Nat × Nat} (h : w.heap[b]? = some (.cells cs t fr)) (i : Nat) (u : Value) : (w.setCell ⟨b, i, none⟩ u).heap[b]? = some (.cells (cs.setIfInBounds i u) t fr) := by
  obtain ⟨hlt, hk⟩ := Array.getElem?_eq_some_iff.1 h
  show (w.heap.modify b _)[b]? = _
  rw [Array.getElem?_eq_getElem (by rw [Array.size_modify]; exact hlt), Array.getElem_modify_self, hk]
  simp
theorem cells_two {w : World} {b : Nat} {u v x y : Value} {t : TypeId} {fr : Nat × Nat} (h : w.heap[b]? = some (.cells #[u, v] t fr)) : ((w.setCell ⟨b, 0, none⟩ x).setCell ⟨b, 1, none⟩ y).heap[b]? = some (.cells #[x, y] t fr) :=
  cells_put (cells_put h 0 x) 1 y
theorem resultsV_cell1 {fn : Func} {p : Tmp} {ty : TypeId} (h : fn.results = #[.cell p ty]) (tmps : Array Value) (P : Program) (w : World) :
    (results fn tmps).run P w = ((asAddr (tmps.getD p undef)).run P w).andThen fun a w1 => (loadVar ty a).run P w1 := by
  simp only [results, h]
  simp [Sem.run_bind, Result.andThen]
theorem results_vec {fn : Func} {p : Tmp} (h : fn.results = #[.cell p 121]) (tmps : Array Value) (w : World) (g : Nat) (t : TypeId) (x y : Value) (fr : Nat × Nat)
    (hp : tmps.getD p undef = .pointer (some ⟨g, 0, none⟩)) (hg : w.heap[g]? = some (.cells #[x, y] t fr)) : (results fn tmps).run Tryz.prog w = .ok (.agg #[x, y]) w := by
  rw [resultsV_cell1 h, hp]
  have e := run_loadVar_row (P := Tryz.prog) w g t 121 #[x, y] fr _ hg Tryz.underlying121 rfl (by kernel_rfl)
  simp [asAddr, e, Result.andThen]
/-- What two writes into a block of one's own leave as it was. -/
theorem keeps_two {a w : World} (h : Keeps (fun _ => False) a w) {b : Nat} (hb : a.heap.size ≤ b) (x y : Value) : Keeps (fun _ => False) a ((w.setCell ⟨b, 0, none⟩ x).setCell ⟨b, 1, none⟩ y) :=
  (h.setCell ⟨b, 0, none⟩ (fun hp => by have : b < a.heap.size := hp; omega) x).setCell ⟨b, 1, none⟩ (fun hp => by have : b < a.heap.size := hp; omega) y

theorem numAt.put {w : World} {v : Value} {n : Nat} {x : Int} {g : Nat} {t : TypeId} {fr : Nat × Nat} (h : numAt w v (n + 1) x) (hg : w.heap[g]? = some (.cells #[.slice none 0 0, .slice none 0 0] t fr)) (p q : Value) :
    numAt ((w.setCell ⟨g, 0, none⟩ p).setCell ⟨g, 1, none⟩ q) v (n + 1) x := by
  obtain ⟨b, off, cap, rfl, hb, hc⟩ := h.cases
  have hne : b ≠ g := by
    rintro rfl
    have h0 := hc 0 (by omega)
    rw [cells_at hg] at h0
    match off, h0 with
    | 0, h0 => cases h0
    | 1, h0 => cases h0
    | k + 2, h0 => simp at h0
  have hk : Keeps (fun i => i = g) w ((w.setCell ⟨g, 0, none⟩ p).setCell ⟨g, 1, none⟩ q) := ((Keeps.refl (fun i => i = g) w).setCell ⟨g, 0, none⟩ (fun _ => rfl) p).setCell ⟨g, 1, none⟩ (fun _ => rfl) q
  exact numAt.mk (Nat.lt_of_lt_of_le hb hk.size) (fun i hi => (hk.cell (p := ⟨b, off + i, none⟩) hb hne).trans (hc i hi))

theorem coord_calls (a b : Int) (ha : IsS a) (hb : IsS b) (w : World) : Calls Tryz.prog 102 #[.int .i64 a, .int .i64 b] w (GivesNum w 2 (a - b)) := by
  go_enter Tryz.func102, Tryz.ntmps102
  go_wp2_with fail
  refine (from_calls a ha 2 (by decide) (by decide) _).mono ?_; rintro e w1 ⟨va, rfl, hva, hk1⟩
  go_wp2_with fail
  refine (from_calls b hb 2 (by decide) (by decide) _).mono ?_; rintro e w2 ⟨vb, rfl, hvb, hk2⟩
  have hva2 := hva.kept hk2
  have hk2 := knil hk1 hk2
  go_wp2_with fail
  refine (lsub_calls va vb 2 a b (by decide) (by decide) w2 hva2 hvb).mono ?_; rintro e w3 ⟨vc, rfl, hvc, hk3⟩
  go_wp2
  go_ret
  exact ⟨vc, rfl, hvc, knil hk2 hk3⟩

set_option maxRecDepth 100000 in
set_option maxHeartbeats 2000000 in
theorem between_calls (a b : Int × Int) (ha : Pt a) (hb : Pt b) (w : World) : Calls Tryz.prog 69 #[.agg #[.int .i64 a.1, .int .i64 a.2], .agg #[.int .i64 b.1, .int .i64 b.2]] w (GivesVec w (vec a b)) := by
  go_enter Tryz.func69, Tryz.ntmps69
  go_wp2_with fail
  obtain ⟨w1, hw1⟩ : ∃ w1, ((w.alloc (.cells #[.int .i64 a.1, .int .i64 a.2] 35)).alloc (.cells #[.int .i64 b.1, .int .i64 b.2] 35)).alloc (.cells #[.slice none 0 0, .slice none 0 0] 121) = w1 := ⟨_, rfl⟩
  have hk1 : Keeps (fun _ => False) w w1 := by rw [← hw1]; exact (((Keeps.refl _ w).alloc _).alloc _).alloc _
  have hg0 : w1.heap[w.heap.size]? = some (.cells #[.int .i64 a.1, .int .i64 a.2] 35 (0, 0)) := by rw [← hw1, Below.heap_alloc _ _ _ (by simp; omega), Below.heap_alloc _ _ _ (by simp)]; exact heap_alloc_new w _
  have hg1 : w1.heap[w.heap.size + 1]? = some (.cells #[.int .i64 b.1, .int .i64 b.2] 35 (0, 0)) := by
    rw [← hw1, Below.heap_alloc _ _ _ (by simp)]
    have := heap_alloc_new (w.alloc (.cells #[.int .i64 a.1, .int .i64 a.2] 35)) (.cells #[.int .i64 b.1, .int .i64 b.2] 35)
    simpa using this
  have hg2 : w1.heap[w.heap.size + 1 + 1]? = some (.cells #[.slice none 0 0, .slice none 0 0] 121 (0, 0)) := by
    rw [← hw1]
    have := heap_alloc_new ((w.alloc (.cells #[.int .i64 a.1, .int .i64 a.2] 35)).alloc (.cells #[.int .i64 b.1, .int .i64 b.2] 35)) (.cells #[.slice none 0 0, .slice none 0 0] 121)
    simpa using this
  rw [hw1]
  clear hw1
  have c0 := cells_at hg0 0
  have c1 := cells_at hg0 1
  have c2 := cells_at hg1 0
  have c3 := cells_at hg1 1
  have hl0 : (⟨w.heap.size, 0, none⟩ : Addr).block < w1.heap.size := (Array.getElem?_eq_some_iff.1 hg0).1
  have hl1 : (⟨w.heap.size + 1, 0, none⟩ : Addr).block < w1.heap.size := (Array.getElem?_eq_some_iff.1 hg1).1
  have hl2 : w.heap.size + 1 + 1 < w1.heap.size := (Array.getElem?_eq_some_iff.1 hg2).1
  have Hg2 := Lib.hid hg2
  clear hg0 hg1
  refine wp_region_late (fun W => W.cell? ⟨w.heap.size, 0, none⟩ = some (.int .i64 a.1) ∧ W.cell? ⟨w.heap.size, 1, none⟩ = some (.int .i64 a.2) ∧ W.cell? ⟨w.heap.size + 1, 0, none⟩ = some (.int .i64 b.1) ∧ W.cell? ⟨w.heap.size + 1, 1, none⟩ = some (.int .i64 b.2)) [11] (by kernel_rfl) ?_
  have hS : w1.drew.cell? ⟨w.heap.size, 0, none⟩ = some (.int .i64 a.1) ∧ w1.drew.cell? ⟨w.heap.size, 1, none⟩ = some (.int .i64 a.2) ∧ w1.drew.cell? ⟨w.heap.size + 1, 0, none⟩ = some (.int .i64 b.1) ∧ w1.drew.cell? ⟨w.heap.size + 1, 1, none⟩ = some (.int .i64 b.2) := ⟨c0, c1, c2, c3⟩
  refine wpAnyL_any (i := 0) (oi := _) (v := .pointer (some ⟨w.heap.size + 1, 0, none⟩)) rfl (by kernel_rfl) (by kernel_rfl) (by kernel_rfl) (by kernel_rfl) (fun _ _ _ h => (h : False).elim) (Or.inl ⟨by kernel_rfl, ?_⟩) (fun _ => by assumption) ?_
  · intro w _
    go_simp
  try simp only [List.getElem_toArray, List.getElem_cons_zero, List.getElem_cons_succ, Act.put, List.setIfInBounds_toArray, List.set_cons_zero, List.set_cons_succ]
  refine wpAnyL_take (i := 1) (oi := _) (v := .int .i64 b.1) rfl (by kernel_rfl) (by kernel_rfl) (by kernel_rfl) (by kernel_rfl) (fun _ _ _ h => (h : False).elim) (Or.inl ⟨by kernel_rfl, ?_⟩) (by assumption) ?_
  · intro w hSw
    obtain ⟨s0, s1, s2, s3⟩ := hSw
    go_simp
  try simp only [List.getElem_toArray, List.getElem_cons_zero, List.getElem_cons_succ, Act.put, List.setIfInBounds_toArray, List.set_cons_zero, List.set_cons_succ]
  refine wpAnyL_any (i := 2) (oi := _) (v := .pointer (some ⟨w.heap.size, 0, none⟩)) rfl (by kernel_rfl) (by kernel_rfl) (by kernel_rfl) (by kernel_rfl) (fun _ _ _ h => (h : False).elim) (Or.inl ⟨by kernel_rfl, ?_⟩) (fun _ => by assumption) ?_
  · intro w _
    go_simp
  try simp only [List.getElem_toArray, List.getElem_cons_zero, List.getElem_cons_succ, Act.put, List.setIfInBounds_toArray, List.set_cons_zero, List.set_cons_succ]
  refine wpAnyL_take (i := 3) (oi := _) (v := .int .i64 a.1) rfl (by kernel_rfl) (by kernel_rfl) (by kernel_rfl) (by kernel_rfl) (fun _ _ _ h => (h : False).elim) (Or.inl ⟨by kernel_rfl, ?_⟩) (by assumption) ?_
  · intro w hSw
    obtain ⟨s0, s1, s2, s3⟩ := hSw
    go_simp
  try simp only [List.getElem_toArray, List.getElem_cons_zero, List.getElem_cons_succ, Act.put, List.setIfInBounds_toArray, List.set_cons_zero, List.set_cons_succ]
  refine wpAnyL_any (i := 5) (oi := _) (v := .pointer (some ⟨w.heap.size + 1, 1, none⟩)) rfl (by kernel_rfl) (by kernel_rfl) (by kernel_rfl) (by kernel_rfl) (fun _ _ _ h => (h : False).elim) (Or.inl ⟨by kernel_rfl, ?_⟩) (fun _ => by assumption) ?_
  · intro w _
    go_simp
  try simp only [List.getElem_toArray, List.getElem_cons_zero, List.getElem_cons_succ, Act.put, List.setIfInBounds_toArray, List.set_cons_zero, List.set_cons_succ]
  refine wpAnyL_take (i := 6) (oi := _) (v := .int .i64 b.2) rfl (by kernel_rfl) (by kernel_rfl) (by kernel_rfl) (by kernel_rfl) (fun _ _ _ h => (h : False).elim) (Or.inl ⟨by kernel_rfl, ?_⟩) (by assumption) ?_
  · intro w hSw
    obtain ⟨s0, s1, s2, s3⟩ := hSw
    go_simp
  try simp only [List.getElem_toArray, List.getElem_cons_zero, List.getElem_cons_succ, Act.put, List.setIfInBounds_toArray, List.set_cons_zero, List.set_cons_succ]
  refine wpAnyL_any (i := 7) (oi := _) (v := .pointer (some ⟨w.heap.size, 1, none⟩)) rfl (by kernel_rfl) (by kernel_rfl) (by kernel_rfl) (by kernel_rfl) (fun _ _ _ h => (h : False).elim) (Or.inl ⟨by kernel_rfl, ?_⟩) (fun _ => by assumption) ?_
  · intro w _
    go_simp
  try simp only [List.getElem_toArray, List.getElem_cons_zero, List.getElem_cons_succ, Act.put, List.setIfInBounds_toArray, List.set_cons_zero, List.set_cons_succ]
  refine wpAnyL_take (i := 8) (oi := _) (v := .int .i64 a.2) rfl (by kernel_rfl) (by kernel_rfl) (by kernel_rfl) (by kernel_rfl) (fun _ _ _ h => (h : False).elim) (Or.inl ⟨by kernel_rfl, ?_⟩) (by assumption) ?_
  · intro w hSw
    obtain ⟨s0, s1, s2, s3⟩ := hSw
    go_simp
  try simp only [List.getElem_toArray, List.getElem_cons_zero, List.getElem_cons_succ, Act.put, List.setIfInBounds_toArray, List.set_cons_zero, List.set_cons_succ]
  refine wpAnyL_next (i := 4) (by kernel_rfl) rfl (fun K hK => ?_)
  go_simp
  refine (coord_calls b.1 a.1 hb.1 ha.1 _).mono ?_; rintro e w3 ⟨v1, rfl, hv1, hk3⟩
  have hk13 : Keeps (fun _ => False) w1 w3 := knil ((Keeps.refl _ w1).drewN 1) hk3
  go_wp2_with fail
  refine hK.out _ _ ⟨((hk13).cell hl0 (fun h => h)).trans c0, ((hk13).cell hl0 (fun h => h)).trans c1, ((hk13).cell hl1 (fun h => h)).trans c2, ((hk13).cell hl1 (fun h => h)).trans c3⟩ (fun hHeld => ?_)
  clear hK K
  try simp only [List.getElem_toArray, List.getElem_cons_zero, List.getElem_cons_succ, Act.put, List.setIfInBounds_toArray, List.set_cons_zero, List.set_cons_succ]
  refine wpAnyL_next (i := 9) (by kernel_rfl) rfl (fun K hK => ?_)
  go_simp
  refine (coord_calls b.2 a.2 hb.2 ha.2 _).mono ?_; rintro e w4 ⟨v2, rfl, hv2, hk4⟩
  have hv1 := hv1.kept hk4
  obtain ⟨b1, o1, q1, rfl⟩ := hv1.shape
  obtain ⟨b2, o2, q2, rfl⟩ := hv2.shape
  have hk14 : Keeps (fun _ => False) w1 w4 := knil hk13 hk4
  go_wp2_with fail
  refine hK.out _ _ ⟨((hk14).cell hl0 (fun h => h)).trans c0, ((hk14).cell hl0 (fun h => h)).trans c1, ((hk14).cell hl1 (fun h => h)).trans c2, ((hk14).cell hl1 (fun h => h)).trans c3⟩ (fun hHeld => ?_)
  clear hK K
  try simp only [List.getElem_toArray, List.getElem_cons_zero, List.getElem_cons_succ, Act.put, List.setIfInBounds_toArray, List.set_cons_zero, List.set_cons_succ]
  refine wpAnyL_any (i := 10) (oi := _) (v := .agg #[.slice (some ⟨b1, o1, none⟩) 2 q1, .slice (some ⟨b2, o2, none⟩) 2 q2]) rfl (by kernel_rfl) (by kernel_rfl) (by kernel_rfl) (by kernel_rfl) (fun _ _ _ h => (h : False).elim) (Or.inl ⟨by kernel_rfl, ?_⟩) (fun _ => by assumption) ?_
  · intro w _
    go_simp
  try simp only [List.getElem_toArray, List.getElem_cons_zero, List.getElem_cons_succ, Act.put, List.setIfInBounds_toArray, List.set_cons_zero, List.set_cons_succ]
  have hg4 := (hk14.block _ hl2 (fun h => h)).trans hg2
  have e0 := two_frozen hg4 0
  have e1 := two_frozen hg4 1
  have f0 := cells_at hg4 0
  have f1 := cells_at hg4 1
  have Hv1 := Lib.hid hv1
  have Hv2 := Lib.hid hv2
  have Hg4 := Lib.hid hg4
  clear hv1 hv2 hg4
  refine wpAnyL_late (i := 11) (by kernel_rfl) rfl (by kernel_rfl) (fun K hK => ?_)
  go_simp
  go_wp2_with fail
  refine hK.out _ _ (fun _ => ?_)
  clear hK K
  try simp only [List.getElem_toArray, List.getElem_cons_zero, List.getElem_cons_succ, Act.put, List.setIfInBounds_toArray, List.set_cons_zero, List.set_cons_succ]
  refine wpAnyL_done (by kernel_rfl) ?_ _
  refine NoPanic.normal ?_
  go_wp2_with fail
  have hkE := keeps_two (knil hk1 hk14) (b := w.heap.size + 1 + 1) (by omega) (.slice (some ⟨b1, o1, none⟩) 2 q1) (.slice (some ⟨b2, o2, none⟩) 2 q2)
  refine bodyPost_ret (results_vec rfl _ _ _ _ _ _ _ rfl (cells_two Hg4.out)) rfl ⟨_, rfl, ⟨_, _, rfl, Hv1.out.put Hg4.out _ _, Hv2.out.put Hg4.out _ _⟩, hkE⟩

set_option maxRecDepth 100000 in
theorem turned_calls (v : Value) (x : Int × Int) (w : World) (hv : vecAt w v x) : Calls Tryz.prog 99 #[v] w (GivesVec w (x.2, x.1)) := by
  obtain ⟨a, b, rfl, ha, hb⟩ := hv
  obtain ⟨ba, oa, ca, rfl⟩ := ha.shape
  obtain ⟨bb, ob, cb, rfl⟩ := hb.shape
  have HA := Lib.hid ha
  have HB := Lib.hid hb
  clear ha hb
  go_enter Tryz.func99, Tryz.ntmps99
  go_wp2_with fail
  have hk2 : ∀ o1 o2, Keeps (fun _ => False) w ((w.alloc o1).alloc o2) := fun o1 o2 => ((Keeps.refl _ w).alloc o1).alloc o2
  have hg : ∀ o1 o2, ((w.alloc o1).alloc o2).heap[w.heap.size + 1]? = some o2 := fun o1 o2 => by
    have := heap_alloc_new (w.alloc o1) o2
    simpa using this
  refine bodyPost_ret (results_vec rfl _ _ _ _ _ _ _ rfl (hg _ _)) rfl ⟨_, rfl, ⟨_, _, rfl, HB.out.kept (hk2 _ _), HA.out.kept (hk2 _ _)⟩, hk2 _ _⟩
set_option maxRecDepth 100000 in
theorem same_calls (v : Value) (x : Int × Int) (w : World) (hv : vecAt w v x) : Calls Tryz.prog 132 #[v] w (GivesVec w x) := by
  obtain ⟨a, b, rfl, ha, hb⟩ := hv
  obtain ⟨ba, oa, ca, rfl⟩ := ha.shape
  obtain ⟨bb, ob, cb, rfl⟩ := hb.shape
  have HA := Lib.hid ha
  have HB := Lib.hid hb
  clear ha hb
  go_enter Tryz.func132, Tryz.ntmps132
  go_wp2_with fail
  have hk2 : ∀ o1 o2, Keeps (fun _ => False) w ((w.alloc o1).alloc o2) := fun o1 o2 => ((Keeps.refl _ w).alloc o1).alloc o2
  have hg : ∀ o1 o2, ((w.alloc o1).alloc o2).heap[w.heap.size + 1]? = some o2 := fun o1 o2 => by
    have := heap_alloc_new (w.alloc o1) o2
    simpa using this
  refine bodyPost_ret (results_vec rfl _ _ _ _ _ _ _ rfl (hg _ _)) rfl ⟨_, rfl, ⟨_, _, rfl, HA.out.kept (hk2 _ _), HB.out.kept (hk2 _ _)⟩, hk2 _ _⟩
set_option maxRecDepth 100000 in
set_option maxHeartbeats 2000000 in
theorem dis_calls (b1 o1 c1 b2 o2 c2 b3 o3 c3 b4 o4 c4 g : Nat) (w : World) (hg : w.heap[g]? = some (.cells #[.slice (some ⟨b1, o1, none⟩) 2 c1, .slice (some ⟨b2, o2, none⟩) 2 c2, .slice (some ⟨b3, o3, none⟩) 2 c3, .slice (some ⟨b4, o4, none⟩) 2 c4] 121 (0, 0))) :
    Calls Tryz.prog 130 #[.slice (some ⟨g, 0, none⟩) 2 2] w fun e w' => e = .returned (.bool true) ∧ Keeps (fun _ => False) w w' := by
  have HG := Lib.hid hg
  have hlt : g < w.heap.size := (Array.getElem?_eq_some_iff.1 hg).1
  clear hg
  go_enter Tryz.func130, Tryz.ntmps130
  go_wp2
  go_loopw [4, 7] (fun _ i wr => ∃ k : Nat, k ≤ 2 ∧ i = .int .i64 k ∧ Keeps (fun _ => False) w wr) (fun _ i _ => 2 - (intOf i).toNat)
  case atStart => exact ⟨0, by omega, rfl, Keeps.refl _ _⟩
  case round =>
    obtain ⟨k, hk, rfl, hK⟩ := hrel
    have hgr := (hK.block g hlt (fun h => h)).trans HG.out
    have a0 := cells_at hgr 0
    have a1 := cells_at hgr 1
    have a2 := cells_at hgr 2
    have a3 := cells_at hgr 3
    have HK := Lib.hid hK
    clear hgr hK
    rcases (show k = 0 ∨ k = 1 ∨ k = 2 by omega) with rfl | rfl | rfl
    · go_wp2
      go_roundw
      case rel => exact ⟨1, by omega, rfl, HK.out.alloc _⟩
      case measure => simp [intOf]
    · go_wp2
      go_roundw
      case rel => exact ⟨2, by omega, rfl, HK.out.alloc _⟩
      case measure => simp [intOf]
    · go_wp2
      go_ret
      exact ⟨rfl, HK.out⟩
theorem lsub_calls1 (v u : Value) (m : Nat) (x y : Int) (hm1 : 1 ≤ m) (hm : m ≤ 8) (w : World) (hv : numAt w v m x) (hu : numAt w u m y) :
    Calls Tryz.prog 100 #[v, u] w (GivesNum w m (x - y)) := by
  obtain ⟨b1, o1, c1, rfl⟩ := hv.shape
  obtain ⟨b2, o2, c2, rfl⟩ := hu.shape
  have HV := Lib.hid hv
  have HU := Lib.hid hu
  clear hv hu
  go_enter Tryz.func100, Tryz.ntmps100
  go_wp2_with fail
  refine (lsub_calls _ _ m x y hm1 hm w HV.out HU.out).mono ?_; rintro e w1 ⟨v', rfl, hv', hk'⟩
  go_wp2
  go_ret
  exact ⟨v', rfl, hv', hk'⟩
set_option maxRecDepth 100000 in
set_option maxHeartbeats 4000000 in
theorem prod_cross (u v : Value) (x y : Int × Int) (w : World) (hu : vecAt w u x) (hv : vecAt w v y) (fx : Fit 2 x.1 ∧ Fit 2 x.2) (fz : Fit 2 (y.2, y.1).1 ∧ Fit 2 (y.2, y.1).2) :
    Calls Tryz.prog 98 #[u, v, .func (.func 99) #[] #[], .func (.func 100) #[] #[]] w (GivesNum w 4 (x.1 * (y.2, y.1).1 - x.2 * (y.2, y.1).2)) := by
  obtain ⟨s1, s2, rfl, h1, h2⟩ := hu
  obtain ⟨s3, s4, rfl, h3, h4⟩ := hv
  obtain ⟨b1, o1, c1, rfl⟩ := h1.shape
  obtain ⟨b2, o2, c2, rfl⟩ := h2.shape
  obtain ⟨b3, o3, c3, rfl⟩ := h3.shape
  obtain ⟨b4, o4, c4, rfl⟩ := h4.shape
  have HV := Lib.hid (show vecAt w (.agg #[.slice (some ⟨b3, o3, none⟩) 2 c3, .slice (some ⟨b4, o4, none⟩) 2 c4]) y from ⟨_, _, rfl, h3, h4⟩)
  have H1 := Lib.hid h1
  have H2 := Lib.hid h2
  clear h1 h2 h3 h4
  go_enter Tryz.func98, Tryz.ntmps98
  go_wp2_with fail
  obtain ⟨w1, hw1⟩ : ∃ w1, ((w.alloc (.cells #[.slice (some ⟨b1, o1, none⟩) 2 c1, .slice (some ⟨b2, o2, none⟩) 2 c2] 121)).alloc (.cells #[.slice (some ⟨b3, o3, none⟩) 2 c3, .slice (some ⟨b4, o4, none⟩) 2 c4] 121)).alloc (.cells #[.slice (some ⟨b1, o1, none⟩) 2 c1, .slice (some ⟨b2, o2, none⟩) 2 c2, .slice (some ⟨b3, o3, none⟩) 2 c3, .slice (some ⟨b4, o4, none⟩) 2 c4] 121) = w1 := ⟨_, rfl⟩
  have hk1 : Keeps (fun _ => False) w w1 := by rw [← hw1]; exact (((Keeps.refl _ w).alloc _).alloc _).alloc _
  have hg0 : w1.heap[w.heap.size]? = some (.cells #[.slice (some ⟨b1, o1, none⟩) 2 c1, .slice (some ⟨b2, o2, none⟩) 2 c2] 121 (0, 0)) := by rw [← hw1, Below.heap_alloc _ _ _ (by simp; omega), Below.heap_alloc _ _ _ (by simp)]; exact heap_alloc_new w _
  have hg1 : w1.heap[w.heap.size + 1]? = some (.cells #[.slice (some ⟨b3, o3, none⟩) 2 c3, .slice (some ⟨b4, o4, none⟩) 2 c4] 121 (0, 0)) := by
    rw [← hw1, Below.heap_alloc _ _ _ (by simp)]
    have := heap_alloc_new (w.alloc (.cells #[.slice (some ⟨b1, o1, none⟩) 2 c1, .slice (some ⟨b2, o2, none⟩) 2 c2] 121)) (.cells #[.slice (some ⟨b3, o3, none⟩) 2 c3, .slice (some ⟨b4, o4, none⟩) 2 c4] 121)
    simpa using this
  have hg2 : w1.heap[w.heap.size + 1 + 1]? = some (.cells #[.slice (some ⟨b1, o1, none⟩) 2 c1, .slice (some ⟨b2, o2, none⟩) 2 c2, .slice (some ⟨b3, o3, none⟩) 2 c3, .slice (some ⟨b4, o4, none⟩) 2 c4] 121 (0, 0)) := by
    rw [← hw1]
    have := heap_alloc_new ((w.alloc (.cells #[.slice (some ⟨b1, o1, none⟩) 2 c1, .slice (some ⟨b2, o2, none⟩) 2 c2] 121)).alloc (.cells #[.slice (some ⟨b3, o3, none⟩) 2 c3, .slice (some ⟨b4, o4, none⟩) 2 c4] 121)) (.cells #[.slice (some ⟨b1, o1, none⟩) 2 c1, .slice (some ⟨b2, o2, none⟩) 2 c2, .slice (some ⟨b3, o3, none⟩) 2 c3, .slice (some ⟨b4, o4, none⟩) 2 c4] 121)
    simpa using this
  rw [hw1]
  clear hw1
  have hl0 : w.heap.size < w1.heap.size := (Array.getElem?_eq_some_iff.1 hg0).1
  have hl1 : w.heap.size + 1 < w1.heap.size := (Array.getElem?_eq_some_iff.1 hg1).1
  have Hg0 := Lib.hid hg0
  have Hg1 := Lib.hid hg1
  refine (dis_calls b1 o1 c1 b2 o2 c2 b3 o3 c3 b4 o4 c4 _ _ hg2).mono ?_; rintro e w2 ⟨rfl, hk2⟩
  clear hg0 hg1 hg2
  have hg1 := (hk2.block _ hl1 (fun h => h)).trans Hg1.out
  have d0 := cells_at hg1 0
  have d1 := cells_at hg1 1
  have hk12 := knil hk1 hk2
  go_wp2_with fail
  refine (turned_calls _ y w2 (HV.out.kept hk12)).mono ?_; rintro e w3 ⟨vz, rfl, hvz, hk3⟩
  clear d0 d1 hg1
  obtain ⟨s5, s6, rfl, h5, h6⟩ := hvz
  obtain ⟨b5, o5, c5, rfl⟩ := h5.shape
  obtain ⟨b6, o6, c6, rfl⟩ := h6.shape
  have H5 := Lib.hid h5
  have H6 := Lib.hid h6
  clear h5 h6
  go_wp2_with fail
  obtain ⟨w5, hw5⟩ : ∃ w5, w3.alloc (.cells #[.slice (some ⟨b5, o5, none⟩) 2 c5, .slice (some ⟨b6, o6, none⟩) 2 c6] 121) = w5 := ⟨_, rfl⟩
  obtain ⟨g, hg⟩ : ∃ g, w3.heap.size = g := ⟨_, rfl⟩
  have hgg : w5.heap[g]? = some (.cells #[.slice (some ⟨b5, o5, none⟩) 2 c5, .slice (some ⟨b6, o6, none⟩) 2 c6] 121 (0, 0)) := by rw [← hw5, ← hg]; exact heap_alloc_new w3 _
  have hk35 : Keeps (fun _ => False) w3 w5 := by rw [← hw5]; exact (Keeps.refl _ w3).alloc _
  rw [hw5]
  try rw [hg]
  have hk15 : Keeps (fun _ => False) w1 w5 := knil (knil hk2 hk3) hk35
  have hk05 : Keeps (fun _ => False) w w5 := knil hk1 hk15
  have hd5 : Keeps (fun _ => False) w5 (w5.drewN 1) := (Keeps.refl _ w5).drewN 1
  have hg0 := (hk15.block _ hl0 (fun h => h)).trans Hg0.out
  have q0 := cells_at hg0 0
  have q1 := cells_at hg0 1
  have q2 := cells_at hgg 0
  have q3 := cells_at hgg 1
  have hl0 : (⟨w.heap.size, 0, none⟩ : Addr).block < w5.heap.size := (Array.getElem?_eq_some_iff.1 hg0).1
  have hl1 : (⟨g, 0, none⟩ : Addr).block < w5.heap.size := (Array.getElem?_eq_some_iff.1 hgg).1
  have H1 := Lib.hid (H1.out.kept hk05)
  have H2 := Lib.hid (H2.out.kept hk05)
  have H5 := Lib.hid (H5.out.kept hk35)
  have H6 := Lib.hid (H6.out.kept hk35)
  clear hg0 hgg hk35 hk3 hk2 hk1 hk12 hw5 hg hk15
  refine wp_region_late (fun W => W.cell? ⟨w.heap.size, 0, none⟩ = some (.slice (some ⟨b1, o1, none⟩) 2 c1) ∧ W.cell? ⟨w.heap.size, 1, none⟩ = some (.slice (some ⟨b2, o2, none⟩) 2 c2) ∧ W.cell? ⟨g, 0, none⟩ = some (.slice (some ⟨b5, o5, none⟩) 2 c5) ∧ W.cell? ⟨g, 1, none⟩ = some (.slice (some ⟨b6, o6, none⟩) 2 c6)) [] (by kernel_rfl) ?_
  have hS : w5.drew.cell? ⟨w.heap.size, 0, none⟩ = some (.slice (some ⟨b1, o1, none⟩) 2 c1) ∧ w5.drew.cell? ⟨w.heap.size, 1, none⟩ = some (.slice (some ⟨b2, o2, none⟩) 2 c2) ∧ w5.drew.cell? ⟨g, 0, none⟩ = some (.slice (some ⟨b5, o5, none⟩) 2 c5) ∧ w5.drew.cell? ⟨g, 1, none⟩ = some (.slice (some ⟨b6, o6, none⟩) 2 c6) := ⟨q0, q1, q2, q3⟩
  refine wpAnyL_any (i := 0) (oi := _) (v := .func (.func 100) #[] #[]) rfl (by kernel_rfl) (by kernel_rfl) (by kernel_rfl) (by kernel_rfl) (fun _ _ _ h => (h : False).elim) (Or.inl ⟨by kernel_rfl, ?_⟩) (fun _ => by assumption) ?_
  · intro w _
    go_simp
  try simp only [List.getElem_toArray, List.getElem_cons_zero, List.getElem_cons_succ, Act.put, List.setIfInBounds_toArray, List.set_cons_zero, List.set_cons_succ]
  refine wpAnyL_any (i := 1) (oi := _) (v := .pointer (some ⟨w.heap.size, 0, none⟩)) rfl (by kernel_rfl) (by kernel_rfl) (by kernel_rfl) (by kernel_rfl) (fun _ _ _ h => (h : False).elim) (Or.inl ⟨by kernel_rfl, ?_⟩) (fun _ => by assumption) ?_
  · intro w _
    go_simp
  try simp only [List.getElem_toArray, List.getElem_cons_zero, List.getElem_cons_succ, Act.put, List.setIfInBounds_toArray, List.set_cons_zero, List.set_cons_succ]
  refine wpAnyL_take (i := 2) (oi := _) (v := .slice (some ⟨b1, o1, none⟩) 2 c1) rfl (by kernel_rfl) (by kernel_rfl) (by kernel_rfl) (by kernel_rfl) (fun _ _ _ h => (h : False).elim) (Or.inl ⟨by kernel_rfl, ?_⟩) (by assumption) ?_
  · intro w hSw
    obtain ⟨s0, s1, s2, s3⟩ := hSw
    go_simp
  try simp only [List.getElem_toArray, List.getElem_cons_zero, List.getElem_cons_succ, Act.put, List.setIfInBounds_toArray, List.set_cons_zero, List.set_cons_succ]
  refine wpAnyL_any (i := 3) (oi := _) (v := .pointer (some ⟨g, 0, none⟩)) rfl (by kernel_rfl) (by kernel_rfl) (by kernel_rfl) (by kernel_rfl) (fun _ _ _ h => (h : False).elim) (Or.inl ⟨by kernel_rfl, ?_⟩) (fun _ => by assumption) ?_
  · intro w _
    go_simp
  try simp only [List.getElem_toArray, List.getElem_cons_zero, List.getElem_cons_succ, Act.put, List.setIfInBounds_toArray, List.set_cons_zero, List.set_cons_succ]
  refine wpAnyL_take (i := 4) (oi := _) (v := .slice (some ⟨b5, o5, none⟩) 2 c5) rfl (by kernel_rfl) (by kernel_rfl) (by kernel_rfl) (by kernel_rfl) (fun _ _ _ h => (h : False).elim) (Or.inl ⟨by kernel_rfl, ?_⟩) (by assumption) ?_
  · intro w hSw
    obtain ⟨s0, s1, s2, s3⟩ := hSw
    go_simp
  try simp only [List.getElem_toArray, List.getElem_cons_zero, List.getElem_cons_succ, Act.put, List.setIfInBounds_toArray, List.set_cons_zero, List.set_cons_succ]
  refine wpAnyL_any (i := 6) (oi := _) (v := .pointer (some ⟨w.heap.size, 1, none⟩)) rfl (by kernel_rfl) (by kernel_rfl) (by kernel_rfl) (by kernel_rfl) (fun _ _ _ h => (h : False).elim) (Or.inl ⟨by kernel_rfl, ?_⟩) (fun _ => by assumption) ?_
  · intro w _
    go_simp
  try simp only [List.getElem_toArray, List.getElem_cons_zero, List.getElem_cons_succ, Act.put, List.setIfInBounds_toArray, List.set_cons_zero, List.set_cons_succ]
  refine wpAnyL_take (i := 7) (oi := _) (v := .slice (some ⟨b2, o2, none⟩) 2 c2) rfl (by kernel_rfl) (by kernel_rfl) (by kernel_rfl) (by kernel_rfl) (fun _ _ _ h => (h : False).elim) (Or.inl ⟨by kernel_rfl, ?_⟩) (by assumption) ?_
  · intro w hSw
    obtain ⟨s0, s1, s2, s3⟩ := hSw
    go_simp
  try simp only [List.getElem_toArray, List.getElem_cons_zero, List.getElem_cons_succ, Act.put, List.setIfInBounds_toArray, List.set_cons_zero, List.set_cons_succ]
  refine wpAnyL_any (i := 8) (oi := _) (v := .pointer (some ⟨g, 1, none⟩)) rfl (by kernel_rfl) (by kernel_rfl) (by kernel_rfl) (by kernel_rfl) (fun _ _ _ h => (h : False).elim) (Or.inl ⟨by kernel_rfl, ?_⟩) (fun _ => by assumption) ?_
  · intro w _
    go_simp
  try simp only [List.getElem_toArray, List.getElem_cons_zero, List.getElem_cons_succ, Act.put, List.setIfInBounds_toArray, List.set_cons_zero, List.set_cons_succ]
  refine wpAnyL_take (i := 9) (oi := _) (v := .slice (some ⟨b6, o6, none⟩) 2 c6) rfl (by kernel_rfl) (by kernel_rfl) (by kernel_rfl) (by kernel_rfl) (fun _ _ _ h => (h : False).elim) (Or.inl ⟨by kernel_rfl, ?_⟩) (by assumption) ?_
  · intro w hSw
    obtain ⟨s0, s1, s2, s3⟩ := hSw
    go_simp
  try simp only [List.getElem_toArray, List.getElem_cons_zero, List.getElem_cons_succ, Act.put, List.setIfInBounds_toArray, List.set_cons_zero, List.set_cons_succ]
  refine wpAnyL_next (i := 5) (by kernel_rfl) rfl (fun K hK => ?_)
  go_simp
  refine (lmul_calls _ _ 1 1 x.1 (y.2, y.1).1 (by decide) _ (H1.out.kept hd5) (H5.out.kept hd5) fx.1 fz.1).mono ?_; rintro e w6 ⟨p1, rfl, hp1, hk6⟩
  have hk56 : Keeps (fun _ => False) w5 w6 := knil ((Keeps.refl _ w5).drewN 1) hk6
  go_wp2_with fail
  refine hK.out _ _ ⟨((hk56).cell hl0 (fun h => h)).trans q0, ((hk56).cell hl0 (fun h => h)).trans q1, ((hk56).cell hl1 (fun h => h)).trans q2, ((hk56).cell hl1 (fun h => h)).trans q3⟩ (fun hHeld => ?_)
  clear hK K
  try simp only [List.getElem_toArray, List.getElem_cons_zero, List.getElem_cons_succ, Act.put, List.setIfInBounds_toArray, List.set_cons_zero, List.set_cons_succ]
  refine wpAnyL_next (i := 10) (by kernel_rfl) rfl (fun K hK => ?_)
  go_simp
  refine (lmul_calls _ _ 1 1 x.2 (y.2, y.1).2 (by decide) _ (H2.out.kept hk56) (H6.out.kept hk56) fx.2 fz.2).mono ?_; rintro e w7 ⟨p2, rfl, hp2, hk7⟩
  have hp1 := hp1.kept hk7
  have hk57 : Keeps (fun _ => False) w5 w7 := knil hk56 hk7
  go_wp2_with fail
  refine hK.out _ _ ⟨((hk57).cell hl0 (fun h => h)).trans q0, ((hk57).cell hl0 (fun h => h)).trans q1, ((hk57).cell hl1 (fun h => h)).trans q2, ((hk57).cell hl1 (fun h => h)).trans q3⟩ (fun hHeld => ?_)
  clear hK K
  try simp only [List.getElem_toArray, List.getElem_cons_zero, List.getElem_cons_succ, Act.put, List.setIfInBounds_toArray, List.set_cons_zero, List.set_cons_succ]
  refine wpAnyL_next (i := 11) (by kernel_rfl) rfl (fun K hK => ?_)
  go_simp
  refine (lsub_calls1 p1 p2 4 _ _ (by decide) (by decide) _ hp1 hp2).mono ?_; rintro e w8 ⟨p3, rfl, hp3, hk8⟩
  have hk58 : Keeps (fun _ => False) w5 w8 := knil hk57 hk8
  go_wp2_with fail
  refine hK.out _ _ ⟨((hk58).cell hl0 (fun h => h)).trans q0, ((hk58).cell hl0 (fun h => h)).trans q1, ((hk58).cell hl1 (fun h => h)).trans q2, ((hk58).cell hl1 (fun h => h)).trans q3⟩ (fun hHeld => ?_)
  clear hK K
  try simp only [List.getElem_toArray, List.getElem_cons_zero, List.getElem_cons_succ, Act.put, List.setIfInBounds_toArray, List.set_cons_zero, List.set_cons_succ]
  refine wpAnyL_any (i := 12) (oi := _) (v := p3) rfl (by kernel_rfl) (by kernel_rfl) (by kernel_rfl) (by kernel_rfl) (fun _ _ _ h => (h : False).elim) (Or.inl ⟨by kernel_rfl, ?_⟩) (fun _ => by assumption) ?_
  · intro w _
    go_simp
  try simp only [List.getElem_toArray, List.getElem_cons_zero, List.getElem_cons_succ, Act.put, List.setIfInBounds_toArray, List.set_cons_zero, List.set_cons_succ]
  refine wpAnyL_done (by kernel_rfl) ?_ _
  refine NoPanic.normal ?_
  obtain ⟨b7, o7, c7, rfl⟩ := hp3.shape
  clear hS q0 q1 q2 q3
  go_wp2
  go_ret
  exact ⟨_, rfl, hp3, knil hk05 hk58⟩
theorem ladd_calls1 (v u : Value) (m : Nat) (x y : Int) (hm1 : 1 ≤ m) (hm : m ≤ 8) (w : World) (hv : numAt w v m x) (hu : numAt w u m y) :
    Calls Tryz.prog 133 #[v, u] w (GivesNum w m (x + y)) := by
  obtain ⟨b1, o1, c1, rfl⟩ := hv.shape
  obtain ⟨b2, o2, c2, rfl⟩ := hu.shape
  have HV := Lib.hid hv
  have HU := Lib.hid hu
  clear hv hu
  go_enter Tryz.func133, Tryz.ntmps133
  go_wp2_with fail
  refine (ladd_calls _ _ m x y hm1 hm w HV.out HU.out).mono ?_; rintro e w1 ⟨v', rfl, hv', hk'⟩
  go_wp2
  go_ret
  exact ⟨v', rfl, hv', hk'⟩
set_option maxRecDepth 100000 in
set_option maxHeartbeats 4000000 in
theorem prod_dot (u v : Value) (x y : Int × Int) (w : World) (hu : vecAt w u x) (hv : vecAt w v y) (fx : Fit 2 x.1 ∧ Fit 2 x.2) (fz : Fit 2 y.1 ∧ Fit 2 y.2) :
    Calls Tryz.prog 98 #[u, v, .func (.func 132) #[] #[], .func (.func 133) #[] #[]] w (GivesNum w 4 (x.1 * y.1 + x.2 * y.2)) := by
  obtain ⟨s1, s2, rfl, h1, h2⟩ := hu
  obtain ⟨s3, s4, rfl, h3, h4⟩ := hv
  obtain ⟨b1, o1, c1, rfl⟩ := h1.shape
  obtain ⟨b2, o2, c2, rfl⟩ := h2.shape
  obtain ⟨b3, o3, c3, rfl⟩ := h3.shape
  obtain ⟨b4, o4, c4, rfl⟩ := h4.shape
  have HV := Lib.hid (show vecAt w (.agg #[.slice (some ⟨b3, o3, none⟩) 2 c3, .slice (some ⟨b4, o4, none⟩) 2 c4]) y from ⟨_, _, rfl, h3, h4⟩)
  have H1 := Lib.hid h1
  have H2 := Lib.hid h2
  clear h1 h2 h3 h4
  go_enter Tryz.func98, Tryz.ntmps98
  go_wp2_with fail
  obtain ⟨w1, hw1⟩ : ∃ w1, ((w.alloc (.cells #[.slice (some ⟨b1, o1, none⟩) 2 c1, .slice (some ⟨b2, o2, none⟩) 2 c2] 121)).alloc (.cells #[.slice (some ⟨b3, o3, none⟩) 2 c3, .slice (some ⟨b4, o4, none⟩) 2 c4] 121)).alloc (.cells #[.slice (some ⟨b1, o1, none⟩) 2 c1, .slice (some ⟨b2, o2, none⟩) 2 c2, .slice (some ⟨b3, o3, none⟩) 2 c3, .slice (some ⟨b4, o4, none⟩) 2 c4] 121) = w1 := ⟨_, rfl⟩
  have hk1 : Keeps (fun _ => False) w w1 := by rw [← hw1]; exact (((Keeps.refl _ w).alloc _).alloc _).alloc _
  have hg0 : w1.heap[w.heap.size]? = some (.cells #[.slice (some ⟨b1, o1, none⟩) 2 c1, .slice (some ⟨b2, o2, none⟩) 2 c2] 121 (0, 0)) := by rw [← hw1, Below.heap_alloc _ _ _ (by simp; omega), Below.heap_alloc _ _ _ (by simp)]; exact heap_alloc_new w _
  have hg1 : w1.heap[w.heap.size + 1]? = some (.cells #[.slice (some ⟨b3, o3, none⟩) 2 c3, .slice (some ⟨b4, o4, none⟩) 2 c4] 121 (0, 0)) := by
    rw [← hw1, Below.heap_alloc _ _ _ (by simp)]
    have := heap_alloc_new (w.alloc (.cells #[.slice (some ⟨b1, o1, none⟩) 2 c1, .slice (some ⟨b2, o2, none⟩) 2 c2] 121)) (.cells #[.slice (some ⟨b3, o3, none⟩) 2 c3, .slice (some ⟨b4, o4, none⟩) 2 c4] 121)
    simpa using this
  have hg2 : w1.heap[w.heap.size + 1 + 1]? = some (.cells #[.slice (some ⟨b1, o1, none⟩) 2 c1, .slice (some ⟨b2, o2, none⟩) 2 c2, .slice (some ⟨b3, o3, none⟩) 2 c3, .slice (some ⟨b4, o4, none⟩) 2 c4] 121 (0, 0)) := by
    rw [← hw1]
    have := heap_alloc_new ((w.alloc (.cells #[.slice (some ⟨b1, o1, none⟩) 2 c1, .slice (some ⟨b2, o2, none⟩) 2 c2] 121)).alloc (.cells #[.slice (some ⟨b3, o3, none⟩) 2 c3, .slice (some ⟨b4, o4, none⟩) 2 c4] 121)) (.cells #[.slice (some ⟨b1, o1, none⟩) 2 c1, .slice (some ⟨b2, o2, none⟩) 2 c2, .slice (some ⟨b3, o3, none⟩) 2 c3, .slice (some ⟨b4, o4, none⟩) 2 c4] 121)
    simpa using this
  rw [hw1]
  clear hw1
  have hl0 : w.heap.size < w1.heap.size := (Array.getElem?_eq_some_iff.1 hg0).1
  have hl1 : w.heap.size + 1 < w1.heap.size := (Array.getElem?_eq_some_iff.1 hg1).1
  have Hg0 := Lib.hid hg0
  have Hg1 := Lib.hid hg1
  refine (dis_calls b1 o1 c1 b2 o2 c2 b3 o3 c3 b4 o4 c4 _ _ hg2).mono ?_; rintro e w2 ⟨rfl, hk2⟩
  clear hg0 hg1 hg2
  have hg1 := (hk2.block _ hl1 (fun h => h)).trans Hg1.out
  have d0 := cells_at hg1 0
  have d1 := cells_at hg1 1
  have hk12 := knil hk1 hk2
  go_wp2_with fail
  refine (same_calls _ y w2 (HV.out.kept hk12)).mono ?_; rintro e w3 ⟨vz, rfl, hvz, hk3⟩
  clear d0 d1 hg1
  obtain ⟨s5, s6, rfl, h5, h6⟩ := hvz
  obtain ⟨b5, o5, c5, rfl⟩ := h5.shape
  obtain ⟨b6, o6, c6, rfl⟩ := h6.shape
  have H5 := Lib.hid h5
  have H6 := Lib.hid h6
  clear h5 h6
  go_wp2_with fail
  obtain ⟨w5, hw5⟩ : ∃ w5, w3.alloc (.cells #[.slice (some ⟨b5, o5, none⟩) 2 c5, .slice (some ⟨b6, o6, none⟩) 2 c6] 121) = w5 := ⟨_, rfl⟩
  obtain ⟨g, hg⟩ : ∃ g, w3.heap.size = g := ⟨_, rfl⟩
  have hgg : w5.heap[g]? = some (.cells #[.slice (some ⟨b5, o5, none⟩) 2 c5, .slice (some ⟨b6, o6, none⟩) 2 c6] 121 (0, 0)) := by rw [← hw5, ← hg]; exact heap_alloc_new w3 _
  have hk35 : Keeps (fun _ => False) w3 w5 := by rw [← hw5]; exact (Keeps.refl _ w3).alloc _
  rw [hw5]
  try rw [hg]
  have hk15 : Keeps (fun _ => False) w1 w5 := knil (knil hk2 hk3) hk35
  have hk05 : Keeps (fun _ => False) w w5 := knil hk1 hk15
  have hd5 : Keeps (fun _ => False) w5 (w5.drewN 1) := (Keeps.refl _ w5).drewN 1
  have hg0 := (hk15.block _ hl0 (fun h => h)).trans Hg0.out
  have q0 := cells_at hg0 0
  have q1 := cells_at hg0 1
  have q2 := cells_at hgg 0
  have q3 := cells_at hgg 1
  have hl0 : (⟨w.heap.size, 0, none⟩ : Addr).block < w5.heap.size := (Array.getElem?_eq_some_iff.1 hg0).1
  have hl1 : (⟨g, 0, none⟩ : Addr).block < w5.heap.size := (Array.getElem?_eq_some_iff.1 hgg).1
  have H1 := Lib.hid (H1.out.kept hk05)
  have H2 := Lib.hid (H2.out.kept hk05)
  have H5 := Lib.hid (H5.out.kept hk35)
  have H6 := Lib.hid (H6.out.kept hk35)
  clear hg0 hgg hk35 hk3 hk2 hk1 hk12 hw5 hg hk15
  refine wp_region_late (fun W => W.cell? ⟨w.heap.size, 0, none⟩ = some (.slice (some ⟨b1, o1, none⟩) 2 c1) ∧ W.cell? ⟨w.heap.size, 1, none⟩ = some (.slice (some ⟨b2, o2, none⟩) 2 c2) ∧ W.cell? ⟨g, 0, none⟩ = some (.slice (some ⟨b5, o5, none⟩) 2 c5) ∧ W.cell? ⟨g, 1, none⟩ = some (.slice (some ⟨b6, o6, none⟩) 2 c6)) [] (by kernel_rfl) ?_
  have hS : w5.drew.cell? ⟨w.heap.size, 0, none⟩ = some (.slice (some ⟨b1, o1, none⟩) 2 c1) ∧ w5.drew.cell? ⟨w.heap.size, 1, none⟩ = some (.slice (some ⟨b2, o2, none⟩) 2 c2) ∧ w5.drew.cell? ⟨g, 0, none⟩ = some (.slice (some ⟨b5, o5, none⟩) 2 c5) ∧ w5.drew.cell? ⟨g, 1, none⟩ = some (.slice (some ⟨b6, o6, none⟩) 2 c6) := ⟨q0, q1, q2, q3⟩
  refine wpAnyL_any (i := 0) (oi := _) (v := .func (.func 133) #[] #[]) rfl (by kernel_rfl) (by kernel_rfl) (by kernel_rfl) (by kernel_rfl) (fun _ _ _ h => (h : False).elim) (Or.inl ⟨by kernel_rfl, ?_⟩) (fun _ => by assumption) ?_
  · intro w _
    go_simp
  try simp only [List.getElem_toArray, List.getElem_cons_zero, List.getElem_cons_succ, Act.put, List.setIfInBounds_toArray, List.set_cons_zero, List.set_cons_succ]
  refine wpAnyL_any (i := 1) (oi := _) (v := .pointer (some ⟨w.heap.size, 0, none⟩)) rfl (by kernel_rfl) (by kernel_rfl) (by kernel_rfl) (by kernel_rfl) (fun _ _ _ h => (h : False).elim) (Or.inl ⟨by kernel_rfl, ?_⟩) (fun _ => by assumption) ?_
  · intro w _
    go_simp
  try simp only [List.getElem_toArray, List.getElem_cons_zero, List.getElem_cons_succ, Act.put, List.setIfInBounds_toArray, List.set_cons_zero, List.set_cons_succ]
  refine wpAnyL_take (i := 2) (oi := _) (v := .slice (some ⟨b1, o1, none⟩) 2 c1) rfl (by kernel_rfl) (by kernel_rfl) (by kernel_rfl) (by kernel_rfl) (fun _ _ _ h => (h : False).elim) (Or.inl ⟨by kernel_rfl, ?_⟩) (by assumption) ?_
  · intro w hSw
    obtain ⟨s0, s1, s2, s3⟩ := hSw
    go_simp
  try simp only [List.getElem_toArray, List.getElem_cons_zero, List.getElem_cons_succ, Act.put, List.setIfInBounds_toArray, List.set_cons_zero, List.set_cons_succ]
  refine wpAnyL_any (i := 3) (oi := _) (v := .pointer (some ⟨g, 0, none⟩)) rfl (by kernel_rfl) (by kernel_rfl) (by kernel_rfl) (by kernel_rfl) (fun _ _ _ h => (h : False).elim) (Or.inl ⟨by kernel_rfl, ?_⟩) (fun _ => by assumption) ?_
  · intro w _
    go_simp
  try simp only [List.getElem_toArray, List.getElem_cons_zero, List.getElem_cons_succ, Act.put, List.setIfInBounds_toArray, List.set_cons_zero, List.set_cons_succ]
  refine wpAnyL_take (i := 4) (oi := _) (v := .slice (some ⟨b5, o5, none⟩) 2 c5) rfl (by kernel_rfl) (by kernel_rfl) (by kernel_rfl) (by kernel_rfl) (fun _ _ _ h => (h : False).elim) (Or.inl ⟨by kernel_rfl, ?_⟩) (by assumption) ?_
  · intro w hSw
    obtain ⟨s0, s1, s2, s3⟩ := hSw
    go_simp
  try simp only [List.getElem_toArray, List.getElem_cons_zero, List.getElem_cons_succ, Act.put, List.setIfInBounds_toArray, List.set_cons_zero, List.set_cons_succ]
  refine wpAnyL_any (i := 6) (oi := _) (v := .pointer (some ⟨w.heap.size, 1, none⟩)) rfl (by kernel_rfl) (by kernel_rfl) (by kernel_rfl) (by kernel_rfl) (fun _ _ _ h => (h : False).elim) (Or.inl ⟨by kernel_rfl, ?_⟩) (fun _ => by assumption) ?_
  · intro w _
    go_simp
  try simp only [List.getElem_toArray, List.getElem_cons_zero, List.getElem_cons_succ, Act.put, List.setIfInBounds_toArray, List.set_cons_zero, List.set_cons_succ]
  refine wpAnyL_take (i := 7) (oi := _) (v := .slice (some ⟨b2, o2, none⟩) 2 c2) rfl (by kernel_rfl) (by kernel_rfl) (by kernel_rfl) (by kernel_rfl) (fun _ _ _ h => (h : False).elim) (Or.inl ⟨by kernel_rfl, ?_⟩) (by assumption) ?_
  · intro w hSw
    obtain ⟨s0, s1, s2, s3⟩ := hSw
    go_simp
  try simp only [List.getElem_toArray, List.getElem_cons_zero, List.getElem_cons_succ, Act.put, List.setIfInBounds_toArray, List.set_cons_zero, List.set_cons_succ]
  refine wpAnyL_any (i := 8) (oi := _) (v := .pointer (some ⟨g, 1, none⟩)) rfl (by kernel_rfl) (by kernel_rfl) (by kernel_rfl) (by kernel_rfl) (fun _ _ _ h => (h : False).elim) (Or.inl ⟨by kernel_rfl, ?_⟩) (fun _ => by assumption) ?_
  · intro w _
    go_simp
  try simp only [List.getElem_toArray, List.getElem_cons_zero, List.getElem_cons_succ, Act.put, List.setIfInBounds_toArray, List.set_cons_zero, List.set_cons_succ]
  refine wpAnyL_take (i := 9) (oi := _) (v := .slice (some ⟨b6, o6, none⟩) 2 c6) rfl (by kernel_rfl) (by kernel_rfl) (by kernel_rfl) (by kernel_rfl) (fun _ _ _ h => (h : False).elim) (Or.inl ⟨by kernel_rfl, ?_⟩) (by assumption) ?_
  · intro w hSw
    obtain ⟨s0, s1, s2, s3⟩ := hSw
    go_simp
  try simp only [List.getElem_toArray, List.getElem_cons_zero, List.getElem_cons_succ, Act.put, List.setIfInBounds_toArray, List.set_cons_zero, List.set_cons_succ]
  refine wpAnyL_next (i := 5) (by kernel_rfl) rfl (fun K hK => ?_)
  go_simp
  refine (lmul_calls _ _ 1 1 x.1 y.1 (by decide) _ (H1.out.kept hd5) (H5.out.kept hd5) fx.1 fz.1).mono ?_; rintro e w6 ⟨p1, rfl, hp1, hk6⟩
  have hk56 : Keeps (fun _ => False) w5 w6 := knil ((Keeps.refl _ w5).drewN 1) hk6
  go_wp2_with fail
  refine hK.out _ _ ⟨((hk56).cell hl0 (fun h => h)).trans q0, ((hk56).cell hl0 (fun h => h)).trans q1, ((hk56).cell hl1 (fun h => h)).trans q2, ((hk56).cell hl1 (fun h => h)).trans q3⟩ (fun hHeld => ?_)
  clear hK K
  try simp only [List.getElem_toArray, List.getElem_cons_zero, List.getElem_cons_succ, Act.put, List.setIfInBounds_toArray, List.set_cons_zero, List.set_cons_succ]
  refine wpAnyL_next (i := 10) (by kernel_rfl) rfl (fun K hK => ?_)
  go_simp
  refine (lmul_calls _ _ 1 1 x.2 y.2 (by decide) _ (H2.out.kept hk56) (H6.out.kept hk56) fx.2 fz.2).mono ?_; rintro e w7 ⟨p2, rfl, hp2, hk7⟩
  have hp1 := hp1.kept hk7
  have hk57 : Keeps (fun _ => False) w5 w7 := knil hk56 hk7
  go_wp2_with fail
  refine hK.out _ _ ⟨((hk57).cell hl0 (fun h => h)).trans q0, ((hk57).cell hl0 (fun h => h)).trans q1, ((hk57).cell hl1 (fun h => h)).trans q2, ((hk57).cell hl1 (fun h => h)).trans q3⟩ (fun hHeld => ?_)
  clear hK K
  try simp only [List.getElem_toArray, List.getElem_cons_zero, List.getElem_cons_succ, Act.put, List.setIfInBounds_toArray, List.set_cons_zero, List.set_cons_succ]
  refine wpAnyL_next (i := 11) (by kernel_rfl) rfl (fun K hK => ?_)
  go_simp
  refine (ladd_calls1 p1 p2 4 _ _ (by decide) (by decide) _ hp1 hp2).mono ?_; rintro e w8 ⟨p3, rfl, hp3, hk8⟩
  have hk58 : Keeps (fun _ => False) w5 w8 := knil hk57 hk8
  go_wp2_with fail
  refine hK.out _ _ ⟨((hk58).cell hl0 (fun h => h)).trans q0, ((hk58).cell hl0 (fun h => h)).trans q1, ((hk58).cell hl1 (fun h => h)).trans q2, ((hk58).cell hl1 (fun h => h)).trans q3⟩ (fun hHeld => ?_)
  clear hK K
  try simp only [List.getElem_toArray, List.getElem_cons_zero, List.getElem_cons_succ, Act.put, List.setIfInBounds_toArray, List.set_cons_zero, List.set_cons_succ]
  refine wpAnyL_any (i := 12) (oi := _) (v := p3) rfl (by kernel_rfl) (by kernel_rfl) (by kernel_rfl) (by kernel_rfl) (fun _ _ _ h => (h : False).elim) (Or.inl ⟨by kernel_rfl, ?_⟩) (fun _ => by assumption) ?_
  · intro w _
    go_simp
  try simp only [List.getElem_toArray, List.getElem_cons_zero, List.getElem_cons_succ, Act.put, List.setIfInBounds_toArray, List.set_cons_zero, List.set_cons_succ]
  refine wpAnyL_done (by kernel_rfl) ?_ _
  refine NoPanic.normal ?_
  obtain ⟨b7, o7, c7, rfl⟩ := hp3.shape
  clear hS q0 q1 q2 q3
  go_wp2
  go_ret
  exact ⟨_, rfl, hp3, knil hk05 hk58⟩
end Go.Proofs.YtmoajobnhiopiaaGreatDoor.lm
