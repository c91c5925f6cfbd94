/- Numbers of the reference, by walking their text. -/
import Derived.Test.YtmoajobnhiopiaaGreatDoorNumX
import Derived.Test.YtmoajobnhiopiaaGreatDoorOri
set_option linter.unusedSimpArgs false
set_option linter.unusedVariables false
namespace Go.Proofs.YtmoajobnhiopiaaGreatDoor.nb
open Go Go.RowKit Go.Shelf Go.Maps Go.Proofs.YtmoajobnhiopiaaGreatDoor.mk Go.Proofs.YtmoajobnhiopiaaGreatDoor.tp Go.Proofs.YtmoajobnhiopiaaGreatDoor.rg Go.Proofs.YtmoajobnhiopiaaGreatDoor.lm Go.Proofs.YtmoajobnhiopiaaGreatDoor.gm

theorem dAt.put {w : World} {v : Value} {l : List Int} {g : Nat} {t : TypeId} {fr : Nat × Nat} (h : dAt w v l) (hn : Norm l) (hg : w.heap[g]? = some (.cells #[.int .i64 0, .slice none 0 0] t fr)) (p q : Value) : dAt ((w.setCell ⟨g, 0, none⟩ p).setCell ⟨g, 1, none⟩ q) v l := by
  have hk : Keeps (fun i => i = g) w ((w.setCell ⟨g, 0, none⟩ p).setCell ⟨g, 1, none⟩ q) := ((Keeps.refl (fun i => i = g) w).setCell ⟨g, 0, none⟩ (fun _ => rfl) p).setCell ⟨g, 1, none⟩ (fun _ => rfl) q
  rcases h with h | ⟨b, off, cap, hv, hle, hb, hc⟩
  · exact .inl h
  · refine .inr ⟨b, off, cap, hv, hle, Nat.lt_of_lt_of_le hb hk.size, fun i x hi => ?_⟩
    have hne : b ≠ g := by
      rintro rfl
      obtain ⟨k, hlen⟩ : ∃ k, l.length = k + 1 := ⟨l.length - 1, by have := (List.getElem?_eq_some_iff.1 hi).1; omega⟩
      have h0 := hn.2 k hlen
      have hx : l[k]? = some (dg l k) := by unfold dg; rw [List.getElem?_eq_getElem (by omega)]; rfl
      have h1 := hc k _ hx
      rw [cells_at hg] at h1
      match off + k, h1 with
      | 0, h1 => simp at h1; exact h0 h1.symm
      | 1, h1 => simp at h1
      | m + 2, h1 => simp at h1
    exact (hk.cell (p := ⟨b, off + i, none⟩) hb hne).trans (hc i x hi)
theorem nAt.open {w : World} {v : Value} {x : Int} {n : Nat} (h : nAt w v x n) : ∃ s ao cap l, v = .agg #[.int .i64 s, .slice ao l.length cap] ∧ dAt w (.slice ao l.length cap) l ∧ Rep s l x ∧ l.length ≤ n := by
  obtain ⟨s, sv, l, rfl, h2, h3, h4⟩ := h
  obtain ⟨ao, cap, rfl⟩ := h2.shape
  exact ⟨s, ao, cap, l, rfl, h2, h3, h4⟩
/-- A result is laid into its own block. -/
theorem fin_nb {w W : World} {g : Nat} {t : TypeId} {fr : Nat × Nat} {s : Int} {sv : Value} {l : List Int} {x : Int} {n : Nat} (hk : Keeps (fun _ => False) w W) (hG : W.heap[g]? = some (.cells #[.int .i64 0, .slice none 0 0] t fr)) (hg : w.heap.size ≤ g) (hd : dAt W sv l) (hr : Rep s l x) (hn : l.length ≤ n) :
    GivesN w x n (.returned (.agg #[.int .i64 s, sv])) ((W.setCell ⟨g, 0, none⟩ (.int .i64 s)).setCell ⟨g, 1, none⟩ sv) := ⟨_, rfl, ⟨s, sv, l, rfl, hd.put hr.2.1 hG _ _, hr, hn⟩, keeps_two hk hg _ _⟩
theorem rep_sign {s : Int} {l : List Int} {x : Int} (h : Rep s l x) : -1 ≤ s ∧ s ≤ 1 := by rw [h.1]; exact sgnI_bound x
set_option maxRecDepth 100000 in
theorem neg_calls (v : Value) (x : Int) (n : Nat) (w : World) (h : nAt w v x n) : Calls Tryz.prog 111 #[v] w (GivesN w (-x) n) := by
  obtain ⟨s, ao, cap, l, rfl, hd, hr, hn⟩ := h.open
  have hs := rep_sign hr
  have hw1 : IntKind.i64.wrap (-s) = -s := by rw [IntKind.wrap_i64]; omega
  have HD := Lib.hid hd
  have HR := Lib.hid hr
  clear h hd hr hs
  go_enter Tryz.func111, Tryz.ntmps111
  go_wp2_with fail
  have hk2 : ∀ o1 o2, Keeps (fun _ => False) w ((w.alloc o1).alloc o2) := fun o1 o2 => ((Keeps.refl _ w).alloc o1).alloc o2
  have hg : ∀ o1 o2, ((w.alloc o1).alloc o2).heap[w.heap.size + 1]? = some o2 := fun o1 o2 => by
    have := heap_alloc_new (w.alloc o1) o2
    simpa using this
  refine bodyPost_ret (results_nb rfl _ _ _ _ _ _ _ rfl (hg _ _)) rfl ⟨_, rfl, ⟨_, _, l, rfl, HD.out.kept (hk2 _ _), HR.out.neg, hn⟩, hk2 _ _⟩

theorem add_same {s t x y : Int} {l m : List Int} (h : Rep s l x) (k : Rep t m y) (hs : s ≠ 0) (he : s = t) : x + y = s * (dv l + dv m) ∧ (s = 1 ∨ s = -1) := by
  rcases rep_cases h with ⟨rfl, _, e⟩ | ⟨rfl, _, e⟩ | ⟨rfl, _, e⟩ <;> rcases rep_cases k with ⟨rfl, _, f⟩ | ⟨rfl, _, f⟩ | ⟨rfl, _, f⟩ <;> rw [e, f] <;> omega
theorem add_diff {s t x y : Int} {l m : List Int} (h : Rep s l x) (k : Rep t m y) (hs : s ≠ 0) (ht : t ≠ 0) (he : s ≠ t) : x + y = s * (dv l - dv m) ∧ x + y = t * (dv m - dv l) ∧ (s = 1 ∨ s = -1) ∧ (t = 1 ∨ t = -1) := by
  rcases rep_cases h with ⟨rfl, _, e⟩ | ⟨rfl, _, e⟩ | ⟨rfl, _, e⟩ <;> rcases rep_cases k with ⟨rfl, _, f⟩ | ⟨rfl, _, f⟩ | ⟨rfl, _, f⟩ <;> rw [e, f] <;> omega
theorem rep_zero {s x : Int} {l : List Int} (h : Rep s l x) : s = 0 ↔ x = 0 := by
  rcases rep_cases h with ⟨rfl, _, e⟩ | ⟨rfl, _, e⟩ | ⟨rfl, _, e⟩ <;> omega
set_option maxRecDepth 100000 in
set_option maxHeartbeats 4000000 in
theorem nadd_calls (v u : Value) (x y : Int) (n : Nat) (hn : n ≤ 800) (w : World) (hv : nAt w v x n) (hu : nAt w u y n) : Calls Tryz.prog 75 #[v, u] w (GivesN w (x + y) (n + 1)) := by
  obtain ⟨s, ao, cap, l, rfl, hd, hr, hln⟩ := hv.open
  obtain ⟨t, bo, cbp, m, rfl, hd', hr', hmn⟩ := hu.open
  have HD := Lib.hid hd
  have HR := Lib.hid hr
  have HD' := Lib.hid hd'
  have HR' := Lib.hid hr'
  clear hv hu hd hr hd' hr'
  go_enter Tryz.func75, Tryz.ntmps75
  go_upto_region 1 with fail
  obtain ⟨w1, hw1⟩ : ∃ w1, ((w.alloc (.cells #[.int .i64 s, .slice ao l.length cap] 92)).alloc (.cells #[.int .i64 t, .slice bo m.length cbp] 92)).alloc (.cells #[.int .i64 0, .slice none 0 0] 92) = w1 := ⟨_, rfl⟩
  have hk1 : Keeps (fun _ => False) w w1 := by rw [← hw1]; exact (((Keeps.refl _ w).alloc _).alloc _).alloc _
  have hg0 : w1.heap[w.heap.size]? = some (.cells #[.int .i64 s, .slice ao l.length cap] 92 (0, 0)) := by rw [← hw1, Below.heap_alloc _ _ _ (by simp <;> omega), Below.heap_alloc _ _ _ (by simp)]; exact heap_alloc_new w _
  have hg1 : w1.heap[w.heap.size + 1]? = some (.cells #[.int .i64 t, .slice bo m.length cbp] 92 (0, 0)) := by
    rw [← hw1, Below.heap_alloc _ _ _ (by simp)]
    have := heap_alloc_new (w.alloc (.cells #[.int .i64 s, .slice ao l.length cap] 92)) (.cells #[.int .i64 t, .slice bo m.length cbp] 92)
    simpa using this
  have hg2 : w1.heap[w.heap.size + 1 + 1]? = some (.cells #[.int .i64 0, .slice none 0 0] 92 (0, 0)) := by
    rw [← hw1]
    have := heap_alloc_new ((w.alloc (.cells #[.int .i64 s, .slice ao l.length cap] 92)).alloc (.cells #[.int .i64 t, .slice bo m.length cbp] 92)) (.cells #[.int .i64 0, .slice none 0 0] 92)
    simpa using this
  rw [hw1]
  clear hw1
  have c0 := cells_at hg0 0
  have c1 := cells_at hg0 1
  have c2 := cells_at hg1 0
  have c3 := cells_at hg1 1
  have hl0 : w.heap.size < w1.heap.size := (Array.getElem?_eq_some_iff.1 hg0).1
  have hl1 : w.heap.size + 1 < w1.heap.size := (Array.getElem?_eq_some_iff.1 hg1).1
  have hl2 : w.heap.size + 1 + 1 < w1.heap.size := (Array.getElem?_eq_some_iff.1 hg2).1
  have e0 := two_frozen hg2 0
  have e1 := two_frozen hg2 1
  have f0 := cells_at hg2 0
  have f1 := cells_at hg2 1
  have HG2 := Lib.hid hg2
  have HDw := Lib.hid (HD.out.kept hk1)
  have HDw' := Lib.hid (HD'.out.kept hk1)
  clear hg0 hg1 hg2
  by_cases hs : s = 0
  · have hx := (rep_zero HR.out).1 hs
    have hs' : (s == 0) = true := by rw [hs]; rfl
    rw [hs] at c0
    clear hs hs'
    go_wp2_with fail
    refine bodyPost_ret (results_nb rfl _ _ _ _ _ _ _ rfl (cells_two HG2.out)) rfl ?_
    rw [hx, Int.zero_add]
    exact fin_nb hk1 HG2.out (by omega) HDw'.out HR'.out (by omega)
  · have hs' : (s == 0) = false := beq_eq_false_iff_ne.2 hs
    by_cases ht : t = 0
    · have hx := (rep_zero HR'.out).1 ht
      have ht' : (t == 0) = true := by rw [ht]; rfl
      rw [ht] at c2
      clear ht ht'
      go_wp2_with fail
      refine bodyPost_ret (results_nb rfl _ _ _ _ _ _ _ rfl (cells_two HG2.out)) rfl ?_
      rw [hx, Int.add_zero]
      exact fin_nb hk1 HG2.out (by omega) HDw.out HR.out (by omega)
    · have ht' : (t == 0) = false := beq_eq_false_iff_ne.2 ht
      have hg2 := HG2.out
      clear e0 e1 f0 f1
      by_cases he : s = t
      · have he' : (s == t) = true := by rw [he, beq_iff_eq]
        have hA := add_same HR.out HR'.out hs he
        have HH2 := Lib.hid hg2
        clear hg2 hs ht
        obtain rfl : s = t := he
        clear he'
        go_wp2_with fail
        refine wp_region_late (fun W => W.cell? ⟨w.heap.size, 0, none⟩ = some (.int .i64 s) ∧ W.cell? ⟨w.heap.size, 1, none⟩ = some (.slice ao l.length cap) ∧ W.cell? ⟨w.heap.size + 1, 0, none⟩ = some (.int .i64 s) ∧ W.cell? ⟨w.heap.size + 1, 1, none⟩ = some (.slice bo m.length cbp)) [8] (by kernel_rfl) ?_
        have hS : w1.drew.cell? ⟨w.heap.size, 0, none⟩ = some (.int .i64 s) ∧ w1.drew.cell? ⟨w.heap.size, 1, none⟩ = some (.slice ao l.length cap) ∧ w1.drew.cell? ⟨w.heap.size + 1, 0, none⟩ = some (.int .i64 s) ∧ w1.drew.cell? ⟨w.heap.size + 1, 1, none⟩ = some (.slice bo m.length cbp) := ⟨c0, c1, c2, c3⟩
        have hg2 := HH2.out
        refine wpAnyL_any (i := 0) (oi := _) (v := .pointer (some ⟨w.heap.size, 0, none⟩)) rfl (by kernel_rfl) (by kernel_rfl) (by kernel_rfl) (by kernel_rfl) (fun _ _ _ h => (h : False).elim) (Or.inl ⟨by kernel_rfl, ?_⟩) (fun _ => by assumption) ?_
        · intro w _
          go_simp
        try simp only [List.getElem_toArray, List.getElem_cons_zero, List.getElem_cons_succ, Act.put, List.setIfInBounds_toArray, List.set_cons_zero, List.set_cons_succ]
        refine wpAnyL_take (i := 1) (oi := _) (v := .int .i64 s) rfl (by kernel_rfl) (by kernel_rfl) (by kernel_rfl) (by kernel_rfl) (fun _ _ _ h => (h : False).elim) (Or.inl ⟨by kernel_rfl, ?_⟩) (by assumption) ?_
        · intro w hSw
          obtain ⟨s0, s1, s2, s3⟩ := hSw
          go_simp
        try simp only [List.getElem_toArray, List.getElem_cons_zero, List.getElem_cons_succ, Act.put, List.setIfInBounds_toArray, List.set_cons_zero, List.set_cons_succ]
        refine wpAnyL_any (i := 2) (oi := _) (v := .pointer (some ⟨w.heap.size, 1, none⟩)) rfl (by kernel_rfl) (by kernel_rfl) (by kernel_rfl) (by kernel_rfl) (fun _ _ _ h => (h : False).elim) (Or.inl ⟨by kernel_rfl, ?_⟩) (fun _ => by assumption) ?_
        · intro w _
          go_simp
        try simp only [List.getElem_toArray, List.getElem_cons_zero, List.getElem_cons_succ, Act.put, List.setIfInBounds_toArray, List.set_cons_zero, List.set_cons_succ]
        refine wpAnyL_take (i := 3) (oi := _) (v := .slice ao l.length cap) rfl (by kernel_rfl) (by kernel_rfl) (by kernel_rfl) (by kernel_rfl) (fun _ _ _ h => (h : False).elim) (Or.inl ⟨by kernel_rfl, ?_⟩) (by assumption) ?_
        · intro w hSw
          obtain ⟨s0, s1, s2, s3⟩ := hSw
          go_simp
        try simp only [List.getElem_toArray, List.getElem_cons_zero, List.getElem_cons_succ, Act.put, List.setIfInBounds_toArray, List.set_cons_zero, List.set_cons_succ]
        refine wpAnyL_any (i := 4) (oi := _) (v := .pointer (some ⟨w.heap.size + 1, 1, none⟩)) rfl (by kernel_rfl) (by kernel_rfl) (by kernel_rfl) (by kernel_rfl) (fun _ _ _ h => (h : False).elim) (Or.inl ⟨by kernel_rfl, ?_⟩) (fun _ => by assumption) ?_
        · intro w _
          go_simp
        try simp only [List.getElem_toArray, List.getElem_cons_zero, List.getElem_cons_succ, Act.put, List.setIfInBounds_toArray, List.set_cons_zero, List.set_cons_succ]
        refine wpAnyL_take (i := 5) (oi := _) (v := .slice bo m.length cbp) rfl (by kernel_rfl) (by kernel_rfl) (by kernel_rfl) (by kernel_rfl) (fun _ _ _ h => (h : False).elim) (Or.inl ⟨by kernel_rfl, ?_⟩) (by assumption) ?_
        · intro w hSw
          obtain ⟨s0, s1, s2, s3⟩ := hSw
          go_simp
        try simp only [List.getElem_toArray, List.getElem_cons_zero, List.getElem_cons_succ, Act.put, List.setIfInBounds_toArray, List.set_cons_zero, List.set_cons_succ]
        refine wpAnyL_next (i := 6) (by kernel_rfl) rfl (fun K hK => ?_)
        go_simp
        refine (addD_calls _ _ l m n hln hmn (by omega) HR.out.2.1.1 HR'.out.2.1.1 _ (HDw.out.kept ((Keeps.refl _ w1).drewN 1)) (HDw'.out.kept ((Keeps.refl _ w1).drewN 1))).mono ?_; rintro e w3 ⟨v3, l3, rfl, hd3, hD3, hdv3, hn3, hk3⟩
        obtain ⟨a3, q3, rfl⟩ := hd3.shape
        have hk13 : Keeps (fun _ => False) w1 w3 := knil ((Keeps.refl _ w1).drewN 1) hk3
        go_wp2_with fail
        refine hK.out _ _ ⟨((hk13).cell (p := ⟨w.heap.size, 0, none⟩) hl0 (fun h => h)).trans c0, ((hk13).cell (p := ⟨w.heap.size, 1, none⟩) hl0 (fun h => h)).trans c1, ((hk13).cell (p := ⟨w.heap.size + 1, 0, none⟩) hl1 (fun h => h)).trans c2, ((hk13).cell (p := ⟨w.heap.size + 1, 1, none⟩) hl1 (fun h => h)).trans c3⟩ (fun hHeld => ?_)
        clear hK K
        try simp only [List.getElem_toArray, List.getElem_cons_zero, List.getElem_cons_succ, Act.put, List.setIfInBounds_toArray, List.set_cons_zero, List.set_cons_succ]
        refine wpAnyL_next (i := 7) (by kernel_rfl) rfl (fun K hK => ?_)
        go_simp
        refine (make_calls s _ l3 (x + y) (n + 1) hn3 (by omega) hD3 (fun _ => hA.2) (by rw [hdv3]; exact hA.1) _ hd3).mono ?_; rintro e w4 ⟨v4, rfl, hv4, hk4⟩
        have hk14 : Keeps (fun _ => False) w1 w4 := knil hk13 hk4
        go_wp2_with fail
        refine hK.out _ _ ⟨((hk14).cell (p := ⟨w.heap.size, 0, none⟩) hl0 (fun h => h)).trans c0, ((hk14).cell (p := ⟨w.heap.size, 1, none⟩) hl0 (fun h => h)).trans c1, ((hk14).cell (p := ⟨w.heap.size + 1, 0, none⟩) hl1 (fun h => h)).trans c2, ((hk14).cell (p := ⟨w.heap.size + 1, 1, none⟩) hl1 (fun h => h)).trans c3⟩ (fun hHeld => ?_)
        clear hK K
        try simp only [List.getElem_toArray, List.getElem_cons_zero, List.getElem_cons_succ, Act.put, List.setIfInBounds_toArray, List.set_cons_zero, List.set_cons_succ]
        obtain ⟨s9, a9, q9, l9, rfl, hd9, hr9, hn9⟩ := hv4.open
        have hG := (hk14.block _ hl2 (fun h => h)).trans hg2
        have e0 := two_frozen hG 0
        have e1 := two_frozen hG 1
        have f0 := cells_at hG 0
        have f1 := cells_at hG 1
        have HG := Lib.hid hG
        have HD9 := Lib.hid hd9
        have HR9 := Lib.hid hr9
        clear hG hd9 hr9
        refine wpAnyL_late (i := 8) (by kernel_rfl) rfl (by kernel_rfl) (fun K hK => ?_)
        go_simp
        go_wp2_with fail
        refine hK.out _ _ (fun _ => ?_)
        clear hK K
        try simp only [List.getElem_toArray, List.getElem_cons_zero, List.getElem_cons_succ, Act.put, List.setIfInBounds_toArray, List.set_cons_zero, List.set_cons_succ]
        refine wpAnyL_done (by kernel_rfl) ?_ _
        refine NoPanic.normal ?_
        go_wp2_with fail
        refine bodyPost_ret (results_nb rfl _ _ _ _ _ _ _ rfl (cells_two HG.out)) rfl (fin_nb (knil hk1 hk14) HG.out (by omega) HD9.out HR9.out (by omega))
      · have he' : (s == t) = false := beq_eq_false_iff_ne.2 he
        have hA := add_diff HR.out HR'.out hs ht he
        have HH2 := Lib.hid hg2
        clear hg2 hs ht he
        go_wp2_with fail
        refine (cmpD_calls _ _ l m (by omega) (by omega) HR.out.2.1 HR'.out.2.1 _ HDw.out HDw'.out).mono ?_; rintro e w2 ⟨rfl, hk2⟩
        have hC := sgnI_cases (dv l - dv m)
        obtain ⟨r, hr⟩ : ∃ r, sgnI (dv l - dv m) = r := ⟨_, rfl⟩
        rw [hr] at hC ⊢
        have HC := Lib.hid hC
        clear hC hr
        have d0 := (hk2.cell (p := ⟨w.heap.size, 0, none⟩) hl0 (fun h => h)).trans c0
        have d1 := (hk2.cell (p := ⟨w.heap.size, 1, none⟩) hl0 (fun h => h)).trans c1
        have d2 := (hk2.cell (p := ⟨w.heap.size + 1, 0, none⟩) hl1 (fun h => h)).trans c2
        have d3 := (hk2.cell (p := ⟨w.heap.size + 1, 1, none⟩) hl1 (fun h => h)).trans c3
        by_cases hr0 : r ≥ 0
        · have hle : dv m ≤ dv l := by have := HC.out; omega
          have HLE := Lib.hid hle
          clear hle
          go_wp2_with fail
          refine wp_region_late (fun W => W.cell? ⟨w.heap.size, 0, none⟩ = some (.int .i64 s) ∧ W.cell? ⟨w.heap.size, 1, none⟩ = some (.slice ao l.length cap) ∧ W.cell? ⟨w.heap.size + 1, 0, none⟩ = some (.int .i64 t) ∧ W.cell? ⟨w.heap.size + 1, 1, none⟩ = some (.slice bo m.length cbp)) [8] (by kernel_rfl) ?_
          have hS : w2.drew.cell? ⟨w.heap.size, 0, none⟩ = some (.int .i64 s) ∧ w2.drew.cell? ⟨w.heap.size, 1, none⟩ = some (.slice ao l.length cap) ∧ w2.drew.cell? ⟨w.heap.size + 1, 0, none⟩ = some (.int .i64 t) ∧ w2.drew.cell? ⟨w.heap.size + 1, 1, none⟩ = some (.slice bo m.length cbp) := ⟨d0, d1, d2, d3⟩
          have hg2 := HH2.out
          refine wpAnyL_any (i := 0) (oi := _) (v := .pointer (some ⟨w.heap.size, 0, none⟩)) rfl (by kernel_rfl) (by kernel_rfl) (by kernel_rfl) (by kernel_rfl) (fun _ _ _ h => (h : False).elim) (Or.inl ⟨by kernel_rfl, ?_⟩) (fun _ => by assumption) ?_
          · intro w _
            go_simp
          try simp only [List.getElem_toArray, List.getElem_cons_zero, List.getElem_cons_succ, Act.put, List.setIfInBounds_toArray, List.set_cons_zero, List.set_cons_succ]
          refine wpAnyL_take (i := 1) (oi := _) (v := .int .i64 s) rfl (by kernel_rfl) (by kernel_rfl) (by kernel_rfl) (by kernel_rfl) (fun _ _ _ h => (h : False).elim) (Or.inl ⟨by kernel_rfl, ?_⟩) (by assumption) ?_
          · intro w hSw
            obtain ⟨s0, s1, s2, s3⟩ := hSw
            go_simp
          try simp only [List.getElem_toArray, List.getElem_cons_zero, List.getElem_cons_succ, Act.put, List.setIfInBounds_toArray, List.set_cons_zero, List.set_cons_succ]
          refine wpAnyL_any (i := 2) (oi := _) (v := .pointer (some ⟨w.heap.size, 1, none⟩)) rfl (by kernel_rfl) (by kernel_rfl) (by kernel_rfl) (by kernel_rfl) (fun _ _ _ h => (h : False).elim) (Or.inl ⟨by kernel_rfl, ?_⟩) (fun _ => by assumption) ?_
          · intro w _
            go_simp
          try simp only [List.getElem_toArray, List.getElem_cons_zero, List.getElem_cons_succ, Act.put, List.setIfInBounds_toArray, List.set_cons_zero, List.set_cons_succ]
          refine wpAnyL_take (i := 3) (oi := _) (v := .slice ao l.length cap) rfl (by kernel_rfl) (by kernel_rfl) (by kernel_rfl) (by kernel_rfl) (fun _ _ _ h => (h : False).elim) (Or.inl ⟨by kernel_rfl, ?_⟩) (by assumption) ?_
          · intro w hSw
            obtain ⟨s0, s1, s2, s3⟩ := hSw
            go_simp
          try simp only [List.getElem_toArray, List.getElem_cons_zero, List.getElem_cons_succ, Act.put, List.setIfInBounds_toArray, List.set_cons_zero, List.set_cons_succ]
          refine wpAnyL_any (i := 4) (oi := _) (v := .pointer (some ⟨w.heap.size + 1, 1, none⟩)) rfl (by kernel_rfl) (by kernel_rfl) (by kernel_rfl) (by kernel_rfl) (fun _ _ _ h => (h : False).elim) (Or.inl ⟨by kernel_rfl, ?_⟩) (fun _ => by assumption) ?_
          · intro w _
            go_simp
          try simp only [List.getElem_toArray, List.getElem_cons_zero, List.getElem_cons_succ, Act.put, List.setIfInBounds_toArray, List.set_cons_zero, List.set_cons_succ]
          refine wpAnyL_take (i := 5) (oi := _) (v := .slice bo m.length cbp) rfl (by kernel_rfl) (by kernel_rfl) (by kernel_rfl) (by kernel_rfl) (fun _ _ _ h => (h : False).elim) (Or.inl ⟨by kernel_rfl, ?_⟩) (by assumption) ?_
          · intro w hSw
            obtain ⟨s0, s1, s2, s3⟩ := hSw
            go_simp
          try simp only [List.getElem_toArray, List.getElem_cons_zero, List.getElem_cons_succ, Act.put, List.setIfInBounds_toArray, List.set_cons_zero, List.set_cons_succ]
          refine wpAnyL_next (i := 6) (by kernel_rfl) rfl (fun K hK => ?_)
          go_simp
          refine (subD_calls _ _ l m (by omega) (by omega) HR.out.2.1 HR'.out.2.1 HLE.out _ (HDw.out.kept (knil hk2 ((Keeps.refl _ w2).drewN 1))) (HDw'.out.kept (knil hk2 ((Keeps.refl _ w2).drewN 1)))).mono ?_; rintro e w3 ⟨v3, l3, rfl, hd3, hD3, hdv3, hn3, hk3⟩
          obtain ⟨a3, q3, rfl⟩ := hd3.shape
          have hk13 : Keeps (fun _ => False) w1 w3 := knil (knil hk2 ((Keeps.refl _ w2).drewN 1)) hk3
          go_wp2_with fail
          refine hK.out _ _ ⟨((hk13).cell (p := ⟨w.heap.size, 0, none⟩) hl0 (fun h => h)).trans c0, ((hk13).cell (p := ⟨w.heap.size, 1, none⟩) hl0 (fun h => h)).trans c1, ((hk13).cell (p := ⟨w.heap.size + 1, 0, none⟩) hl1 (fun h => h)).trans c2, ((hk13).cell (p := ⟨w.heap.size + 1, 1, none⟩) hl1 (fun h => h)).trans c3⟩ (fun hHeld => ?_)
          clear hK K
          try simp only [List.getElem_toArray, List.getElem_cons_zero, List.getElem_cons_succ, Act.put, List.setIfInBounds_toArray, List.set_cons_zero, List.set_cons_succ]
          refine wpAnyL_next (i := 7) (by kernel_rfl) rfl (fun K hK => ?_)
          go_simp
          refine (make_calls s _ l3 (x + y) (n + 1) (by omega) (by omega) hD3 (fun _ => hA.2.2.1) (by rw [hdv3]; exact hA.1) _ hd3).mono ?_; rintro e w4 ⟨v4, rfl, hv4, hk4⟩
          have hk14 : Keeps (fun _ => False) w1 w4 := knil hk13 hk4
          go_wp2_with fail
          refine hK.out _ _ ⟨((hk14).cell (p := ⟨w.heap.size, 0, none⟩) hl0 (fun h => h)).trans c0, ((hk14).cell (p := ⟨w.heap.size, 1, none⟩) hl0 (fun h => h)).trans c1, ((hk14).cell (p := ⟨w.heap.size + 1, 0, none⟩) hl1 (fun h => h)).trans c2, ((hk14).cell (p := ⟨w.heap.size + 1, 1, none⟩) hl1 (fun h => h)).trans c3⟩ (fun hHeld => ?_)
          clear hK K
          try simp only [List.getElem_toArray, List.getElem_cons_zero, List.getElem_cons_succ, Act.put, List.setIfInBounds_toArray, List.set_cons_zero, List.set_cons_succ]
          obtain ⟨s9, a9, q9, l9, rfl, hd9, hr9, hn9⟩ := hv4.open
          have hG := (hk14.block _ hl2 (fun h => h)).trans hg2
          have e0 := two_frozen hG 0
          have e1 := two_frozen hG 1
          have f0 := cells_at hG 0
          have f1 := cells_at hG 1
          have HG := Lib.hid hG
          have HD9 := Lib.hid hd9
          have HR9 := Lib.hid hr9
          clear hG hd9 hr9
          refine wpAnyL_late (i := 8) (by kernel_rfl) rfl (by kernel_rfl) (fun K hK => ?_)
          go_simp
          go_wp2_with fail
          refine hK.out _ _ (fun _ => ?_)
          clear hK K
          try simp only [List.getElem_toArray, List.getElem_cons_zero, List.getElem_cons_succ, Act.put, List.setIfInBounds_toArray, List.set_cons_zero, List.set_cons_succ]
          refine wpAnyL_done (by kernel_rfl) ?_ _
          refine NoPanic.normal ?_
          go_wp2_with fail
          refine bodyPost_ret (results_nb rfl _ _ _ _ _ _ _ rfl (cells_two HG.out)) rfl (fin_nb (knil hk1 hk14) HG.out (by omega) HD9.out HR9.out (by omega))
        · have hr0' : ¬ r ≥ 0 := hr0
          have hle : dv l ≤ dv m := by have := HC.out; omega
          have HLE := Lib.hid hle
          clear hle
          go_wp2_with fail
          refine wp_region_late (fun W => W.cell? ⟨w.heap.size, 0, none⟩ = some (.int .i64 s) ∧ W.cell? ⟨w.heap.size, 1, none⟩ = some (.slice ao l.length cap) ∧ W.cell? ⟨w.heap.size + 1, 0, none⟩ = some (.int .i64 t) ∧ W.cell? ⟨w.heap.size + 1, 1, none⟩ = some (.slice bo m.length cbp)) [8] (by kernel_rfl) ?_
          have hS : w2.drew.cell? ⟨w.heap.size, 0, none⟩ = some (.int .i64 s) ∧ w2.drew.cell? ⟨w.heap.size, 1, none⟩ = some (.slice ao l.length cap) ∧ w2.drew.cell? ⟨w.heap.size + 1, 0, none⟩ = some (.int .i64 t) ∧ w2.drew.cell? ⟨w.heap.size + 1, 1, none⟩ = some (.slice bo m.length cbp) := ⟨d0, d1, d2, d3⟩
          have hg2 := HH2.out
          refine wpAnyL_any (i := 0) (oi := _) (v := .pointer (some ⟨w.heap.size + 1, 0, none⟩)) rfl (by kernel_rfl) (by kernel_rfl) (by kernel_rfl) (by kernel_rfl) (fun _ _ _ h => (h : False).elim) (Or.inl ⟨by kernel_rfl, ?_⟩) (fun _ => by assumption) ?_
          · intro w _
            go_simp
          try simp only [List.getElem_toArray, List.getElem_cons_zero, List.getElem_cons_succ, Act.put, List.setIfInBounds_toArray, List.set_cons_zero, List.set_cons_succ]
          refine wpAnyL_take (i := 1) (oi := _) (v := .int .i64 t) rfl (by kernel_rfl) (by kernel_rfl) (by kernel_rfl) (by kernel_rfl) (fun _ _ _ h => (h : False).elim) (Or.inl ⟨by kernel_rfl, ?_⟩) (by assumption) ?_
          · intro w hSw
            obtain ⟨s0, s1, s2, s3⟩ := hSw
            go_simp
          try simp only [List.getElem_toArray, List.getElem_cons_zero, List.getElem_cons_succ, Act.put, List.setIfInBounds_toArray, List.set_cons_zero, List.set_cons_succ]
          refine wpAnyL_any (i := 2) (oi := _) (v := .pointer (some ⟨w.heap.size + 1, 1, none⟩)) rfl (by kernel_rfl) (by kernel_rfl) (by kernel_rfl) (by kernel_rfl) (fun _ _ _ h => (h : False).elim) (Or.inl ⟨by kernel_rfl, ?_⟩) (fun _ => by assumption) ?_
          · intro w _
            go_simp
          try simp only [List.getElem_toArray, List.getElem_cons_zero, List.getElem_cons_succ, Act.put, List.setIfInBounds_toArray, List.set_cons_zero, List.set_cons_succ]
          refine wpAnyL_take (i := 3) (oi := _) (v := .slice bo m.length cbp) rfl (by kernel_rfl) (by kernel_rfl) (by kernel_rfl) (by kernel_rfl) (fun _ _ _ h => (h : False).elim) (Or.inl ⟨by kernel_rfl, ?_⟩) (by assumption) ?_
          · intro w hSw
            obtain ⟨s0, s1, s2, s3⟩ := hSw
            go_simp
          try simp only [List.getElem_toArray, List.getElem_cons_zero, List.getElem_cons_succ, Act.put, List.setIfInBounds_toArray, List.set_cons_zero, List.set_cons_succ]
          refine wpAnyL_any (i := 4) (oi := _) (v := .pointer (some ⟨w.heap.size, 1, none⟩)) rfl (by kernel_rfl) (by kernel_rfl) (by kernel_rfl) (by kernel_rfl) (fun _ _ _ h => (h : False).elim) (Or.inl ⟨by kernel_rfl, ?_⟩) (fun _ => by assumption) ?_
          · intro w _
            go_simp
          try simp only [List.getElem_toArray, List.getElem_cons_zero, List.getElem_cons_succ, Act.put, List.setIfInBounds_toArray, List.set_cons_zero, List.set_cons_succ]
          refine wpAnyL_take (i := 5) (oi := _) (v := .slice ao l.length cap) rfl (by kernel_rfl) (by kernel_rfl) (by kernel_rfl) (by kernel_rfl) (fun _ _ _ h => (h : False).elim) (Or.inl ⟨by kernel_rfl, ?_⟩) (by assumption) ?_
          · intro w hSw
            obtain ⟨s0, s1, s2, s3⟩ := hSw
            go_simp
          try simp only [List.getElem_toArray, List.getElem_cons_zero, List.getElem_cons_succ, Act.put, List.setIfInBounds_toArray, List.set_cons_zero, List.set_cons_succ]
          refine wpAnyL_next (i := 6) (by kernel_rfl) rfl (fun K hK => ?_)
          go_simp
          refine (subD_calls _ _ m l (by omega) (by omega) HR'.out.2.1 HR.out.2.1 HLE.out _ (HDw'.out.kept (knil hk2 ((Keeps.refl _ w2).drewN 1))) (HDw.out.kept (knil hk2 ((Keeps.refl _ w2).drewN 1)))).mono ?_; rintro e w3 ⟨v3, l3, rfl, hd3, hD3, hdv3, hn3, hk3⟩
          obtain ⟨a3, q3, rfl⟩ := hd3.shape
          have hk13 : Keeps (fun _ => False) w1 w3 := knil (knil hk2 ((Keeps.refl _ w2).drewN 1)) hk3
          go_wp2_with fail
          refine hK.out _ _ ⟨((hk13).cell (p := ⟨w.heap.size, 0, none⟩) hl0 (fun h => h)).trans c0, ((hk13).cell (p := ⟨w.heap.size, 1, none⟩) hl0 (fun h => h)).trans c1, ((hk13).cell (p := ⟨w.heap.size + 1, 0, none⟩) hl1 (fun h => h)).trans c2, ((hk13).cell (p := ⟨w.heap.size + 1, 1, none⟩) hl1 (fun h => h)).trans c3⟩ (fun hHeld => ?_)
          clear hK K
          try simp only [List.getElem_toArray, List.getElem_cons_zero, List.getElem_cons_succ, Act.put, List.setIfInBounds_toArray, List.set_cons_zero, List.set_cons_succ]
          refine wpAnyL_next (i := 7) (by kernel_rfl) rfl (fun K hK => ?_)
          go_simp
          refine (make_calls t _ l3 (x + y) (n + 1) (by omega) (by omega) hD3 (fun _ => hA.2.2.2) (by rw [hdv3]; exact hA.2.1) _ hd3).mono ?_; rintro e w4 ⟨v4, rfl, hv4, hk4⟩
          have hk14 : Keeps (fun _ => False) w1 w4 := knil hk13 hk4
          go_wp2_with fail
          refine hK.out _ _ ⟨((hk14).cell (p := ⟨w.heap.size, 0, none⟩) hl0 (fun h => h)).trans c0, ((hk14).cell (p := ⟨w.heap.size, 1, none⟩) hl0 (fun h => h)).trans c1, ((hk14).cell (p := ⟨w.heap.size + 1, 0, none⟩) hl1 (fun h => h)).trans c2, ((hk14).cell (p := ⟨w.heap.size + 1, 1, none⟩) hl1 (fun h => h)).trans c3⟩ (fun hHeld => ?_)
          clear hK K
          try simp only [List.getElem_toArray, List.getElem_cons_zero, List.getElem_cons_succ, Act.put, List.setIfInBounds_toArray, List.set_cons_zero, List.set_cons_succ]
          obtain ⟨s9, a9, q9, l9, rfl, hd9, hr9, hn9⟩ := hv4.open
          have hG := (hk14.block _ hl2 (fun h => h)).trans hg2
          have e0 := two_frozen hG 0
          have e1 := two_frozen hG 1
          have f0 := cells_at hG 0
          have f1 := cells_at hG 1
          have HG := Lib.hid hG
          have HD9 := Lib.hid hd9
          have HR9 := Lib.hid hr9
          clear hG hd9 hr9
          refine wpAnyL_late (i := 8) (by kernel_rfl) rfl (by kernel_rfl) (fun K hK => ?_)
          go_simp
          go_wp2_with fail
          refine hK.out _ _ (fun _ => ?_)
          clear hK K
          try simp only [List.getElem_toArray, List.getElem_cons_zero, List.getElem_cons_succ, Act.put, List.setIfInBounds_toArray, List.set_cons_zero, List.set_cons_succ]
          refine wpAnyL_done (by kernel_rfl) ?_ _
          refine NoPanic.normal ?_
          go_wp2_with fail
          refine bodyPost_ret (results_nb rfl _ _ _ _ _ _ _ rfl (cells_two HG.out)) rfl (fin_nb (knil hk1 hk14) HG.out (by omega) HD9.out HR9.out (by omega))
set_option maxRecDepth 100000 in
set_option maxHeartbeats 4000000 in
theorem nsub_calls (v u : Value) (x y : Int) (n : Nat) (hn : n ≤ 800) (w : World) (hv : nAt w v x n) (hu : nAt w u y n) : Calls Tryz.prog 76 #[v, u] w (GivesN w (x - y) (n + 1)) := by
  have HV := Lib.hid hv
  have HU := Lib.hid hu
  obtain ⟨s, ao, cap, l, rfl, hd, hr, hln⟩ := hv.open
  obtain ⟨t, bo, cbp, m, rfl, hd', hr', hmn⟩ := hu.open
  clear hv hu hd hr hd' hr'
  go_enter Tryz.func76, Tryz.ntmps76
  go_upto_region 1 with fail
  obtain ⟨w1, hw1⟩ : ∃ w1, ((w.alloc (.cells #[.int .i64 s, .slice ao l.length cap] 92)).alloc (.cells #[.int .i64 t, .slice bo m.length cbp] 92)).alloc (.cells #[.int .i64 0, .slice none 0 0] 92) = w1 := ⟨_, rfl⟩
  have hk1 : Keeps (fun _ => False) w w1 := by rw [← hw1]; exact (((Keeps.refl _ w).alloc _).alloc _).alloc _
  have hg0 : w1.heap[w.heap.size]? = some (.cells #[.int .i64 s, .slice ao l.length cap] 92 (0, 0)) := by rw [← hw1, Below.heap_alloc _ _ _ (by simp <;> omega), Below.heap_alloc _ _ _ (by simp)]; exact heap_alloc_new w _
  have hg1 : w1.heap[w.heap.size + 1]? = some (.cells #[.int .i64 t, .slice bo m.length cbp] 92 (0, 0)) := by
    rw [← hw1, Below.heap_alloc _ _ _ (by simp)]
    have := heap_alloc_new (w.alloc (.cells #[.int .i64 s, .slice ao l.length cap] 92)) (.cells #[.int .i64 t, .slice bo m.length cbp] 92)
    simpa using this
  have hg2 : w1.heap[w.heap.size + 1 + 1]? = some (.cells #[.int .i64 0, .slice none 0 0] 92 (0, 0)) := by
    rw [← hw1]
    have := heap_alloc_new ((w.alloc (.cells #[.int .i64 s, .slice ao l.length cap] 92)).alloc (.cells #[.int .i64 t, .slice bo m.length cbp] 92)) (.cells #[.int .i64 0, .slice none 0 0] 92)
    simpa using this
  rw [hw1]
  clear hw1
  have c0 := cells_at hg0 0
  have c1 := cells_at hg0 1
  have c2 := cells_at hg1 0
  have c3 := cells_at hg1 1
  have hl0 : w.heap.size < w1.heap.size := (Array.getElem?_eq_some_iff.1 hg0).1
  have hl1 : w.heap.size + 1 < w1.heap.size := (Array.getElem?_eq_some_iff.1 hg1).1
  have hl2 : w.heap.size + 1 + 1 < w1.heap.size := (Array.getElem?_eq_some_iff.1 hg2).1
  have HG2 := Lib.hid hg2
  clear hg0 hg1 hg2
  refine wp_region_late (fun W => W.cell? ⟨w.heap.size, 0, none⟩ = some (.int .i64 s) ∧ W.cell? ⟨w.heap.size, 1, none⟩ = some (.slice ao l.length cap) ∧ W.cell? ⟨w.heap.size + 1, 0, none⟩ = some (.int .i64 t) ∧ W.cell? ⟨w.heap.size + 1, 1, none⟩ = some (.slice bo m.length cbp)) [4] (by kernel_rfl) ?_
  have hS : w1.drew.cell? ⟨w.heap.size, 0, none⟩ = some (.int .i64 s) ∧ w1.drew.cell? ⟨w.heap.size, 1, none⟩ = some (.slice ao l.length cap) ∧ w1.drew.cell? ⟨w.heap.size + 1, 0, none⟩ = some (.int .i64 t) ∧ w1.drew.cell? ⟨w.heap.size + 1, 1, none⟩ = some (.slice bo m.length cbp) := ⟨c0, c1, c2, c3⟩
  have hg2 := HG2.out
  refine wpAnyL_take (i := 0) (oi := _) (v := .agg #[.int .i64 s, .slice ao l.length cap]) rfl (by kernel_rfl) (by kernel_rfl) (by kernel_rfl) (by kernel_rfl) (fun _ _ _ h => (h : False).elim) (Or.inl ⟨by kernel_rfl, ?_⟩) (by assumption) ?_
  · intro w hSw
    obtain ⟨s0, s1, s2, s3⟩ := hSw
    go_simp
  try simp only [List.getElem_toArray, List.getElem_cons_zero, List.getElem_cons_succ, Act.put, List.setIfInBounds_toArray, List.set_cons_zero, List.set_cons_succ]
  refine wpAnyL_take (i := 1) (oi := _) (v := .agg #[.int .i64 t, .slice bo m.length cbp]) rfl (by kernel_rfl) (by kernel_rfl) (by kernel_rfl) (by kernel_rfl) (fun _ _ _ h => (h : False).elim) (Or.inl ⟨by kernel_rfl, ?_⟩) (by assumption) ?_
  · intro w hSw
    obtain ⟨s0, s1, s2, s3⟩ := hSw
    go_simp
  try simp only [List.getElem_toArray, List.getElem_cons_zero, List.getElem_cons_succ, Act.put, List.setIfInBounds_toArray, List.set_cons_zero, List.set_cons_succ]
  refine wpAnyL_next (i := 2) (by kernel_rfl) rfl (fun K hK => ?_)
  go_simp
  refine (neg_calls _ y n _ (HU.out.kept (knil hk1 ((Keeps.refl _ w1).drewN 1)))).mono ?_; rintro e w3 ⟨v3, rfl, hv3, hk3⟩
  obtain ⟨s3, a3, q3, l3, rfl, hd3, hr3, hn3⟩ := hv3.open
  have HV3 := Lib.hid hv3
  clear hd3 hr3 hv3
  have hk13 : Keeps (fun _ => False) w1 w3 := knil ((Keeps.refl _ w1).drewN 1) hk3
  go_wp2_with fail
  refine hK.out _ _ ⟨((hk13).cell (p := ⟨w.heap.size, 0, none⟩) hl0 (fun h => h)).trans c0, ((hk13).cell (p := ⟨w.heap.size, 1, none⟩) hl0 (fun h => h)).trans c1, ((hk13).cell (p := ⟨w.heap.size + 1, 0, none⟩) hl1 (fun h => h)).trans c2, ((hk13).cell (p := ⟨w.heap.size + 1, 1, none⟩) hl1 (fun h => h)).trans c3⟩ (fun hHeld => ?_)
  clear hK K
  try simp only [List.getElem_toArray, List.getElem_cons_zero, List.getElem_cons_succ, Act.put, List.setIfInBounds_toArray, List.set_cons_zero, List.set_cons_succ]
  refine wpAnyL_next (i := 3) (by kernel_rfl) rfl (fun K hK => ?_)
  go_simp
  refine (nadd_calls _ _ x (-y) n hn _ (HV.out.kept (knil hk1 hk13)) HV3.out).mono ?_; rintro e w4 ⟨v4, rfl, hv4, hk4⟩
  have hk14 : Keeps (fun _ => False) w1 w4 := knil hk13 hk4
  go_wp2_with fail
  refine hK.out _ _ ⟨((hk14).cell (p := ⟨w.heap.size, 0, none⟩) hl0 (fun h => h)).trans c0, ((hk14).cell (p := ⟨w.heap.size, 1, none⟩) hl0 (fun h => h)).trans c1, ((hk14).cell (p := ⟨w.heap.size + 1, 0, none⟩) hl1 (fun h => h)).trans c2, ((hk14).cell (p := ⟨w.heap.size + 1, 1, none⟩) hl1 (fun h => h)).trans c3⟩ (fun hHeld => ?_)
  clear hK K
  try simp only [List.getElem_toArray, List.getElem_cons_zero, List.getElem_cons_succ, Act.put, List.setIfInBounds_toArray, List.set_cons_zero, List.set_cons_succ]
  obtain ⟨s9, a9, q9, l9, rfl, hd9, hr9, hn9⟩ := hv4.open
  have hG := (hk14.block _ hl2 (fun h => h)).trans hg2
  have e0 := two_frozen hG 0
  have e1 := two_frozen hG 1
  have f0 := cells_at hG 0
  have f1 := cells_at hG 1
  have HG := Lib.hid hG
  have HD9 := Lib.hid hd9
  have HR9 := Lib.hid hr9
  clear hG hd9 hr9
  refine wpAnyL_late (i := 4) (by kernel_rfl) rfl (by kernel_rfl) (fun K hK => ?_)
  go_simp
  go_wp2_with fail
  refine hK.out _ _ (fun _ => ?_)
  clear hK K
  try simp only [List.getElem_toArray, List.getElem_cons_zero, List.getElem_cons_succ, Act.put, List.setIfInBounds_toArray, List.set_cons_zero, List.set_cons_succ]
  refine wpAnyL_done (by kernel_rfl) ?_ _
  refine NoPanic.normal ?_
  go_wp2_with fail
  rw [Int.sub_eq_add_neg]
  refine bodyPost_ret (results_nb rfl _ _ _ _ _ _ _ rfl (cells_two HG.out)) rfl (fin_nb (knil hk1 hk14) HG.out (by omega) HD9.out HR9.out (by omega))
end Go.Proofs.YtmoajobnhiopiaaGreatDoor.nb
