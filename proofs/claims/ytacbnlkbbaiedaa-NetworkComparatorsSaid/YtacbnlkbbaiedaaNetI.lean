/- The law NetworkComparators. -/
import Derived.Test.YtacbnlkbbaiedaaNetH
namespace Go.Proofs.Ytacbnlkbbaiedaa.nw
open Go Go.RowKit Go.Shelf Go.Proofs.Ytacbnlkbbaiedaa.tp Go.Proofs.Ytacbnlkbbaiedaa.rg Go.Proofs.Ytacbnlkbbaiedaa.ar Go.Proofs.Ytacbnlkbbaiedaa.mk

attribute [local go_sem] Oper.semAt_some

theorem rcomps_calls (nv : Int) (L : List (Nat × Nat)) (hL : IsNet nv L) (w : World) : Calls Try.prog 13 #[.int .i64 nv] w fun e w' => ∃ v, e = .returned v ∧ pairs w' w.heap.size v L ∧ Keeps (fun _ => False) w w' := by
  rcases hL with ⟨r, N, hr, hN, rfl, rfl⟩ | ⟨hB, _, rfl⟩
  · exact rcomps_some r N hr hN w
  · exact rcomps_none nv hB w
theorem net_of (nv : Int) (hwf : wf64 nv = true) : ∃ L, IsNet nv L := by
  cases hB : isB nv with
  | false => exact ⟨[], .inr ⟨hB, hwf, rfl⟩⟩
  | true =>
    obtain ⟨r, hr, h⟩ := isB_iff.1 hB
    exact ⟨nl (2 ^ r) r, .inl ⟨r, 2 ^ r, hr, rfl, h, rfl⟩⟩
theorem pair_shape {w : World} {v : Value} {L : List (Nat × Nat)} (h : pairAt w v L) : ∃ ao cap, v = .slice ao L.length cap ∧ ∀ (i : Nat) (c : Nat × Nat), L[i]? = some c → ∃ g, ao = some ⟨g, 0, none⟩ ∧ g < w.heap.size ∧ w.cell? ⟨g, i * 2, none⟩ = some (.int .i64 (c.1 : Int)) ∧ w.cell? ⟨g, i * 2 + 1, none⟩ = some (.int .i64 (c.2 : Int)) := by
  rcases h with ⟨rfl, ao, cap, rfl⟩ | ⟨hne, g, cap, rfl, hg, hc⟩
  · exact ⟨ao, cap, rfl, fun i c h => by simp at h⟩
  · exact ⟨_, cap, rfl, fun i c h => ⟨g, rfl, hg, hc i c h⟩⟩
theorem pairAt_far {w w1 w2 : World} {T : Nat → Prop} {v : Value} {L : List (Nat × Nat)} (h : pairAt w v L) (hk1 : Keeps (fun _ => False) w w1) (hk2 : Keeps T w1 w2) (hT : ∀ g, g < w.heap.size → ¬ T g) : pairAt w2 v L := by
  rcases h with h | ⟨hne, g, cap, rfl, hlt, hc⟩
  · exact .inl h
  · have hlt1 := Nat.lt_of_lt_of_le hlt hk1.size
    exact .inr ⟨hne, g, cap, rfl, Nat.lt_of_lt_of_le hlt1 hk2.size, fun i c hi => ⟨((hk2.cell (p := ⟨g, _, none⟩) hlt1 (hT g hlt)).trans (hk1.cell (p := ⟨g, _, none⟩) hlt (fun h => h))).trans (hc i c hi).1, ((hk2.cell (p := ⟨g, _, none⟩) hlt1 (hT g hlt)).trans (hk1.cell (p := ⟨g, _, none⟩) hlt (fun h => h))).trans (hc i c hi).2⟩⟩
theorem results_cell1 {fn : Func} {p : Tmp} {ty : TypeId} (h : fn.results = #[.cell p ty]) (tmps : Array Value) (P : Program) (w : World) :
    (results fn tmps).run P w = ((asAddr (tmps.getD p undef)).run P w).andThen fun a w1 => (loadVar ty a).run P w1 := by
  simp only [results, h]
  simp [Sem.run_bind, Result.andThen]
theorem results_bool {fn : Func} {p : Tmp} (h : fn.results = #[.cell p 4]) (tmps : Array Value) (w : World) (g : Nat) (b : Bool)
    (hp : tmps.getD p undef = .pointer (some ⟨g, 0, none⟩)) (hg : Boxed w g 4 (.bool b)) : (results fn tmps).run Try.prog w = .ok (.bool b) w := by
  rw [results_cell1 h, hp]
  have hc := hg.cell
  go_simp
theorem nil_func (f : Nat) (c : Array Value) (w : World) : (binOp .eql 28 (.func (.func f) #[] c) .nilFunc).run Try.prog w = .ok (.bool false) w := by
  have hu := Try.underlying28
  have e : binOp .eql 28 (.func (.func f) #[] c) .nilFunc = (do pure (.bool (← Op.equal 28 (.func (.func f) #[] c) .nilFunc))) := rfl
  rw [e]
  unfold Op.equal
  rw [show Op.maxDepth = (Op.maxDepth - 1) + 1 from rfl]
  simp [Op.equalIn, Sem.run_bind, Result.andThen, go_sem, hu]
set_option maxRecDepth 100000 in
set_option maxHeartbeats 4000000 in
theorem comparators_law (nv : Int) (w : World) (hwf : wf64 nv = true) : Calls Try.prog 4 #[.int .i64 nv] w (Yes w) := by
  obtain ⟨L, hL⟩ := net_of nv hwf
  have ci := fun w => ris_calls nv w
  have HB := Lib.hid (net_bound hL)
  have hnf := nil_func 24
  refine (callsIn_wide (n := 5)).1 ?_
  refine callsIn_of_wp_marks Try.func4 rfl trivial ?_ rfl
  simp only [Try.ntmps4, List.size_toArray, List.length_cons, List.length_nil, Nat.reduceAdd, Nat.reduceSub, Array.replicate_succ, Array.replicate_zero, List.push_toArray, List.append_toArray, List.nil_append, List.cons_append]
  by_cases hbig : 256 < nv ∧ isB nv = true
  · obtain ⟨h1, h2⟩ := hbig
    rw [h2] at ci
    gi_wp2_with fail
    refine ⟨trivial, ?_⟩
    refine (callsIn_wide.2 (ci _)).mono ?_; rintro e w1 ⟨rfl, rfl⟩
    gi_wp2_with fail
    refine ⟨trivial, ?_⟩
    refine (callsIn_wide.2 (alive_calls _)).mono ?_; rintro e w2 ⟨rfl, hk2⟩
    have hbx : Boxed w2 w.heap.size 4 (.bool false) := (hk2.block _ (by simp) (fun h => h)).trans (heap_alloc_new w _)
    have q0 := hbx.cell
    have q1 := hbx.frozen
    have hk3 := ((Keeps.refl (fun _ => False) w).alloc (.cells #[.bool false] 4)).trans hk2 (fun _ _ h => h)
    have hk4 := hk3.setCell ⟨w.heap.size, 0, none⟩ (fun h => by simp at h) (.bool true)
    have Hb := Lib.hid (hbx.set (.bool true))
    clear hbx
    gi_wp2_with fail
    exact ⟨_, results_bool rfl _ _ _ _ rfl Hb.out, rfl, hk4⟩
  · by_cases h1 : nv ≤ 256
    · clear hbig ci
      gi_wp2_with fail
      refine ⟨trivial, ?_⟩
      gi_wp2_with fail
      refine ⟨trivial, ?_⟩
      refine (callsIn_wide.2 (rcomps_calls nv L hL _)).mono ?_; rintro e w2 ⟨vw, rfl, hr2, hk2⟩
      have hp2 := pairAt_of_row hr2
      obtain ⟨ao, cap, rfl, Hc⟩ := pair_shape hp2
      have Hp := Lib.hid hp2
      have HC := Lib.hid Hc
      have hb0 : Boxed w2 w.heap.size 4 (.bool false) := (hk2.block _ (by simp) (fun h => h)).trans (heap_alloc_new w _)
      have hk3 := ((Keeps.refl (fun _ => False) w).alloc (.cells #[.bool false] 4)).trans hk2 (fun _ _ h => h)
      clear hr2 hk2 hp2 Hc
      gi_wp2_with fail
      refine ⟨trivial, ?_⟩
      refine (callsIn_wide.2 (netall_calls _ _)).mono ?_; rintro e w3 ⟨rfl, rfl⟩
      gi_wp2_with fail
      obtain ⟨w3, hw3⟩ : ∃ w3, ((w2.alloc (.cells #[.slice ao L.length cap] 25)).alloc (.cells #[.int .i64 0] 3)).alloc (.cells #[.int .i64 nv] 3) = w3 := ⟨_, rfl⟩
      have hz : w3.heap.size = w2.heap.size + 3 := by rw [← hw3]; simp
      have hk23 : Keeps (fun _ => False) w2 w3 := by rw [← hw3]; exact (((Keeps.refl _ w2).alloc _).alloc _).alloc _
      have hbw : Boxed w3 w2.heap.size 25 (.slice ao L.length cap) := by rw [← hw3]; exact (Boxed.new w2 _ _).alloc _ |>.alloc _
      have hbi : Boxed w3 (w2.heap.size + 1) 3 (.int .i64 0) := by rw [← hw3]; have := (Boxed.new (w2.alloc (.cells #[.slice ao L.length cap] 25)) 3 (.int .i64 0)).alloc (.cells #[.int .i64 nv] 3); simpa using this
      have hbn : Boxed w3 (w2.heap.size + 2) 3 (.int .i64 nv) := by rw [← hw3]; have := (Boxed.new ((w2.alloc (.cells #[.slice ao L.length cap] 25)).alloc (.cells #[.int .i64 0] 3)) 3 (.int .i64 nv)); simpa using this
      have hb0' : Boxed w3 w.heap.size 4 (.bool false) := (hk23.block _ hb0.lt (fun h => h)).trans hb0
      have hb0lt := hb0.lt
      rw [hw3]
      have Hb0 := Lib.hid hb0'
      have Hbw := Lib.hid hbw
      have Hbi := Lib.hid hbi
      have Hbn := Lib.hid hbn
      have Hz := Lib.hid hz
      have Hk3 := Lib.hid hk3
      have hk23' := Lib.hid hk23
      clear hw3 hb0 hb0' hbw hbi hbn hz hk3 hk23
      gi_wp2_with fail
      refine over_all (w2.heap.size + 2) nv L hL
        (fun k W => Boxed W w.heap.size 4 (.bool false) ∧ Boxed W w2.heap.size 25 (.slice ao L.length cap) ∧ Boxed W (w2.heap.size + 1) 3 (.int .i64 k) ∧ W.cell? ⟨w2.heap.size + 2, 0, none⟩ = some (.int .i64 nv) ∧ Keeps (fun i => i = w2.heap.size + 1) w3 W)
        rfl (fun _ _ h => h.2.2.2.1) ?_ ?_
        (fun gg x y => { tmps := #[.int .i64 nv, undef, .pointer (some ⟨w.heap.size, 0, none⟩), .pointer (some ⟨w2.heap.size, 0, none⟩), .pointer (some ⟨w2.heap.size + 1, 0, none⟩), .func (.func 24) #[] #[.pointer (some ⟨w2.heap.size + 2, 0, none⟩)], .pointer (some ⟨gg, 0, none⟩), .int .i64 nv, .bool false, .bool false, undef, undef, .bool false, undef, .int .i64 nv, .slice ao L.length cap, .int .i64 nv, .func (.func 24) #[] #[.pointer (some ⟨w2.heap.size + 2, 0, none⟩)], .func (.func 24) #[] #[.pointer (some ⟨w2.heap.size + 2, 0, none⟩)], .bool false, .func (.func 24) #[] #[.pointer (some ⟨w2.heap.size + 2, 0, none⟩)], .agg #[.int .i64 x, .int .i64 y], undef, undef, undef, undef, undef, undef, undef, undef, undef, undef, undef, undef, undef, undef, undef, undef, undef, undef, undef, undef, undef, undef, undef, undef, undef, undef, undef, undef, undef, undef, undef, undef, undef, undef, undef, undef, undef, undef, undef], defers := [] }) ?assign ?body ?done
      · rintro k W W' ⟨h1, h2, h3, h4, h5⟩ hz2 hl
        have hz := Hz.out
        exact ⟨(hl.block _ h1.lt (by omega)).trans h1, (hl.block _ h2.lt (by omega)).trans h2, (hl.block _ h3.lt (by omega)).trans h3, (hl.cell (p := ⟨w2.heap.size + 2, 0, none⟩) (World.block_lt_of_cell? _ _ h4) (by simp only; omega)).trans h4, h5.trans hl (fun i hi h => by omega)⟩
      · intro rr
        have hz := Hz.out
        have hk : Keeps (fun _ => False) w3 ((w3.alloc (.deferred (some []))).alloc (.loop rr)) := ((Keeps.refl _ w3).alloc _).alloc _
        exact ⟨(hk.block _ Hb0.out.lt (fun h => h)).trans Hb0.out, (hk.block _ Hbw.out.lt (fun h => h)).trans Hbw.out, (hk.block _ Hbi.out.lt (fun h => h)).trans Hbi.out, ((show Boxed _ _ _ _ from (hk.block _ Hbn.out.lt (fun h => h)).trans Hbn.out)).cell, hk.mono (fun _ _ h => h.elim)⟩
      case assign =>
        intro W x y K hK
        gi_wp2
        exact hK
      case body =>
        rintro k x y gg W ⟨h1, h2, h3, h4, h5⟩ hxy hlo hhi c0 c1
        have hkl : k < L.length := (List.getElem?_eq_some_iff.1 hxy).1
        have hkb : k < 589824 := Nat.lt_of_lt_of_le hkl HB.out
        obtain ⟨g, rfl, hg, r0, r1⟩ := HC.out k _ hxy
        simp only at r0 r1
        have hz := Hz.out
        have hgn : g < w3.heap.size := by omega
        have e0 := (hk23'.out.cell (p := ⟨g, k * 2, none⟩) hg (fun h => h)).trans r0
        have e1 := (hk23'.out.cell (p := ⟨g, k * 2 + 1, none⟩) hg (fun h => h)).trans r1
        have f0 := (h5.cell (p := ⟨g, k * 2, none⟩) hgn (by simp only; omega)).trans e0
        have f1 := (h5.cell (p := ⟨g, k * 2 + 1, none⟩) hgn (by simp only; omega)).trans e1
        have a0 := h2.cell
        have a1 := h3.cell
        have a2 := h3.frozen
        have hk0 : (0 : Int) ≤ (k : Int) := by omega
        have hkl' : (k : Int) < (L.length : Int) := by omega
        have Hz2 := Lib.hid hz
        have H1 := Lib.hid h1
        have H2 := Lib.hid h2
        have H3 := Lib.hid h3
        have H4 := Lib.hid h4
        have H5 := Lib.hid h5
        have Hlo := Lib.hid hlo
        clear e0 e1 r0 r1 hxy h1 h2 h3 h4 h5 hz hlo hg hgn
        gi_wp2_with fail
        refine round_still_tail 23 (by kernel_rfl) (by kernel_rfl) (by kernel_rfl) (fun ⟨_, _, h⟩ => h) ?_
        simp only [List.take_succ_cons, List.take_zero, List.drop_succ_cons, List.drop_zero]
        repeat (first | still_step)
        refine wpStill_nil ?_
        go_wp2
        gi_wp2_with fail
        have hz := Hz2.out
        have hlo := Hlo.out
        have K2 : Keeps (fun i => i = w2.heap.size + 1) W (W.drew.setCell ⟨w2.heap.size + 1, 0, none⟩ (.int .i64 ((k : Int) + 1))) := ((Keeps.refl (fun i => i = w2.heap.size + 1) W).drewN 1).setCell ⟨w2.heap.size + 1, 0, none⟩ (fun _ => rfl) _
        have H2' := H2.out
        refine ⟨⟨K2.block _ (by omega) (by omega), K2.block _ (by omega) (by omega)⟩, Nat.le_trans (show w3.heap.size + 2 ≤ W.heap.size by omega) K2.size, (K2.block _ H1.out.lt (by have := Hb0.out.lt; omega)).trans H1.out, (K2.block _ H2'.lt (by omega)).trans H2', ?_, (K2.cell (p := ⟨w2.heap.size + 2, 0, none⟩) (World.block_lt_of_cell? _ _ H4.out) (by simp only; omega)).trans H4.out, H5.out.trans K2 (fun _ _ h => h)⟩
        exact H3.out.set _
      case done =>
        rintro W ⟨h1, h2, h3, h4, h5⟩ hz2 hdd
        have a0 := h2.cell
        have a1 := h3.cell
        have hz := Hz.out
        have hkW : Keeps (fun _ => False) w W := (Hk3.out.trans hk23'.out (fun _ _ h => h)).trans h5 (fun i hi h => by omega)
        have hp3 : pairAt W (.slice ao L.length cap) L := pairAt_far Hp.out hk23'.out h5 (fun g hg => by omega)
        have hbi3 := h3.lt
        have hbw3 := h2.lt
        have H1 := Lib.hid h1
        have Hd := Lib.hid hdd
        have Hz3 := Lib.hid hz
        have Hz2 := Lib.hid hz2
        clear h1 h2 h3 h4 h5 hz hz2 hdd
        gi_wp2_with fail
        refine wpIn_wide.2 (wp_region_noPanic (wp_region_held_drew (S := fun W' => W'.cell? ⟨w2.heap.size + 1, 0, none⟩ = some (.int .i64 (L.length : Int)) ∧ W'.cell? ⟨w2.heap.size, 0, none⟩ = some (.slice ao L.length cap)) (by kernel_rfl) ⟨a1, a0⟩ (fun hHeld => ?_)))
        refine wpAnyH_ready (rs := [0]) (by kernel_rfl) (by simp) ?_
        refine AllReadyH.cons (o := _) rfl (fun K hK => ?_) AllReadyH.nil
        go_simp
        refine (alive_calls _).mono ?_; rintro e w5 ⟨rfl, hk5'⟩
        have hk5 : Keeps (fun _ => False) W w5 := ((Keeps.refl _ W).drewN 1).trans hk5' (fun _ _ h => h)
        clear hk5'
        go_wp2_with fail
        refine hK.out _ _ ⟨(hk5.cell (p := ⟨w2.heap.size + 1, 0, none⟩) hbi3 (fun h => h)).trans a1, (hk5.cell (p := ⟨w2.heap.size, 0, none⟩) hbw3 (fun h => h)).trans a0⟩ (fun hHeld => ?_)
        clear hK K
        try simp only [Act.put, List.setIfInBounds_toArray, List.set_cons_zero, List.set_cons_succ]
        refine wpAnyH_take (i := 1) (oi := _) (v := .bool true) rfl (by kernel_rfl) (by kernel_rfl) (by kernel_rfl) (fun _ _ _ h => (h : False).elim) (Or.inl ⟨by kernel_rfl, ?_⟩) (by assumption) ?_
        · intro w hSw
          obtain ⟨s0, s1⟩ := hSw
          go_simp
        try simp only [Act.put, List.setIfInBounds_toArray, List.set_cons_zero, List.set_cons_succ]
        refine wpAnyH_take (i := 2) (oi := _) (v := .int .i64 (L.length : Int)) rfl (by kernel_rfl) (by kernel_rfl) (by kernel_rfl) (fun _ _ _ h => (h : False).elim) (Or.inl ⟨by kernel_rfl, ?_⟩) (by assumption) ?_
        · intro w hSw
          obtain ⟨s0, s1⟩ := hSw
          go_simp
        try simp only [Act.put, List.setIfInBounds_toArray, List.set_cons_zero, List.set_cons_succ]
        refine wpAnyH_take (i := 3) (oi := _) (v := .slice ao L.length cap) rfl (by kernel_rfl) (by kernel_rfl) (by kernel_rfl) (fun _ _ _ h => (h : False).elim) (Or.inl ⟨by kernel_rfl, ?_⟩) (by assumption) ?_
        · intro w hSw
          obtain ⟨s0, s1⟩ := hSw
          go_simp
        try simp only [Act.put, List.setIfInBounds_toArray, List.set_cons_zero, List.set_cons_succ]
        refine wpAnyH_take (i := 4) (oi := _) (v := .int .i64 (L.length : Int)) rfl (by kernel_rfl) (by kernel_rfl) (by kernel_rfl) (fun _ _ _ h => (h : False).elim) (Or.inl ⟨by kernel_rfl, ?_⟩) (by assumption) ?_
        · intro w hSw
          obtain ⟨s0, s1⟩ := hSw
          go_simp
        try simp only [Act.put, List.setIfInBounds_toArray, List.set_cons_zero, List.set_cons_succ]
        refine wpAnyH_take (i := 5) (oi := _) (v := .bool true) rfl (by kernel_rfl) (by kernel_rfl) (by kernel_rfl) (fun _ _ _ h => (h : False).elim) (Or.inl ⟨by kernel_rfl, ?_⟩) (by assumption) ?_
        · intro w hSw
          obtain ⟨s0, s1⟩ := hSw
          go_simp
        try simp only [Act.put, List.setIfInBounds_toArray, List.set_cons_zero, List.set_cons_succ]
        refine wpAnyH_take (i := 6) (oi := _) (v := .bool true) rfl (by kernel_rfl) (by kernel_rfl) (by kernel_rfl) (fun _ _ _ h => (h : False).elim) (Or.inl ⟨by kernel_rfl, ?_⟩) (by assumption) ?_
        · intro w hSw
          obtain ⟨s0, s1⟩ := hSw
          go_simp
        try simp only [Act.put, List.setIfInBounds_toArray, List.set_cons_zero, List.set_cons_succ]
        refine wpAnyH_take (i := 7) (oi := _) (v := .bool true) rfl (by kernel_rfl) (by kernel_rfl) (by kernel_rfl) (fun _ _ _ h => (h : False).elim) (Or.inl ⟨by kernel_rfl, ?_⟩) (by assumption) ?_
        · intro w hSw
          obtain ⟨s0, s1⟩ := hSw
          go_simp
        try simp only [Act.put, List.setIfInBounds_toArray, List.set_cons_zero, List.set_cons_succ]
        refine wpAnyH_take (i := 8) (oi := _) (v := .int .i64 nv) rfl (by kernel_rfl) (by kernel_rfl) (by kernel_rfl) (fun _ _ _ h => (h : False).elim) (Or.inl ⟨by kernel_rfl, ?_⟩) (by assumption) ?_
        · intro w hSw
          obtain ⟨s0, s1⟩ := hSw
          go_simp
        try simp only [Act.put, List.setIfInBounds_toArray, List.set_cons_zero, List.set_cons_succ]
        refine wpAnyH_take (i := 10) (oi := _) (v := .slice ao L.length cap) rfl (by kernel_rfl) (by kernel_rfl) (by kernel_rfl) (fun _ _ _ h => (h : False).elim) (Or.inl ⟨by kernel_rfl, ?_⟩) (by assumption) ?_
        · intro w hSw
          obtain ⟨s0, s1⟩ := hSw
          go_simp
        try simp only [Act.put, List.setIfInBounds_toArray, List.set_cons_zero, List.set_cons_succ]
        refine wpAnyH_ready (rs := [9]) (by kernel_rfl) (by simp) ?_
        refine AllReadyH.cons (o := _) rfl (fun K hK => ?_) AllReadyH.nil
        go_simp
        refine (comparators_calls nv L hL _).mono ?_; rintro e w6 ⟨v6, rfl, hr6, hk6'⟩
        have hk6 := hk5.trans hk6' (fun _ _ h => h)
        have hp6 := pairAt_of_row hr6
        clear hk6' hr6
        go_wp2_with fail
        refine hK.out _ _ ⟨(hk6.cell (p := ⟨w2.heap.size + 1, 0, none⟩) hbi3 (fun h => h)).trans a1, (hk6.cell (p := ⟨w2.heap.size, 0, none⟩) hbw3 (fun h => h)).trans a0⟩ (fun hHeld => ?_)
        clear hK K
        try simp only [Act.put, List.setIfInBounds_toArray, List.set_cons_zero, List.set_cons_succ]
        refine wpAnyH_ready (rs := [11]) (by kernel_rfl) (by simp) ?_
        refine AllReadyH.cons (o := _) rfl (fun K hK => ?_) AllReadyH.nil
        go_simp
        refine (same_calls _ _ L (by have := HB.out; omega) _ hp6 (hp3.kept hk6)).mono ?_; rintro e w7 ⟨rfl, n7, rfl⟩
        have hk7 := hk6.drewN n7
        go_wp2_with fail
        refine hK.out _ _ ⟨(hk7.cell (p := ⟨w2.heap.size + 1, 0, none⟩) hbi3 (fun h => h)).trans a1, (hk7.cell (p := ⟨w2.heap.size, 0, none⟩) hbw3 (fun h => h)).trans a0⟩ (fun hHeld => ?_)
        clear hK K
        try simp only [Act.put, List.setIfInBounds_toArray, List.set_cons_zero, List.set_cons_succ]
        refine wpAnyH_take (i := 12) (oi := _) (v := .bool true) rfl (by kernel_rfl) (by kernel_rfl) (by kernel_rfl) (fun _ _ _ h => (h : False).elim) (Or.inl ⟨by kernel_rfl, ?_⟩) (by assumption) ?_
        · intro w hSw
          obtain ⟨s0, s1⟩ := hSw
          go_simp
        try simp only [Act.put, List.setIfInBounds_toArray, List.set_cons_zero, List.set_cons_succ]
        have hb7 : Boxed (w6.drewN n7) w.heap.size 4 (.bool false) := (hk7.block _ H1.out.lt (fun h => h)).trans H1.out
        have b0 := hb7.cell
        have b1 := hb7.frozen
        have Hb7 := Lib.hid hb7
        clear hb7
        refine wpAnyH_ready (rs := [13]) (by kernel_rfl) (by simp) ?_
        refine AllReadyH.cons (o := _) rfl (fun K hK => ?_) AllReadyH.nil
        go_simp
        have hk8 : Keeps (fun i => i = w.heap.size) W ((w6.drewN n7).setCell ⟨w.heap.size, 0, none⟩ (.bool true)) := (show Keeps (fun i => i = w.heap.size) W (w6.drewN n7) from hk7.mono (fun _ _ h => h.elim)).setCell ⟨w.heap.size, 0, none⟩ (fun _ => rfl) (.bool true)
        have hlt0 := Hb0.out.lt
        have hsz2 : w.heap.size < w2.heap.size := hb0lt
        refine hK.out _ _ ⟨(hk8.cell (p := ⟨w2.heap.size + 1, 0, none⟩) hbi3 (by simp only; omega)).trans a1, (hk8.cell (p := ⟨w2.heap.size, 0, none⟩) hbw3 (by simp only; omega)).trans a0⟩ (fun hHeld => ?_)
        clear hK K
        try simp only [Act.put, List.setIfInBounds_toArray, List.set_cons_zero, List.set_cons_succ]
        refine wpAnyH_done (by kernel_rfl) ?_ _
        refine NoPanic.normal ?_
        have hd8 := (hk8.block w3.heap.size (by have := Hz2.out; omega) (by have := Hz3.out; omega)).trans Hd.out
        have Hbf := Lib.hid (Hb7.out.set (.bool true))
        have hkp := keeps_putObj ((w6.drewN n7).setCell ⟨w.heap.size, 0, none⟩ (.bool true)) w3.heap.size (.deferred none)
        have hkf : Keeps (fun _ => False) w ((w6.drewN n7).setCell ⟨w.heap.size, 0, none⟩ (.bool true)) := hkW.trans hk8 (fun i hi h => by omega)
        have Hkf := Lib.hid (show Keeps (fun _ => False) w (((w6.drewN n7).setCell ⟨w.heap.size, 0, none⟩ (.bool true)).putObj w3.heap.size (.deferred none)) from hkf.trans hkp (fun i hi h => by have := Hz3.out; omega))
        have Hbg := Lib.hid (show Boxed (((w6.drewN n7).setCell ⟨w.heap.size, 0, none⟩ (.bool true)).putObj w3.heap.size (.deferred none)) w.heap.size 4 (.bool true) from (hkp.block _ Hbf.out.lt (by have := Hz3.out; omega)).trans Hbf.out)
        clear hkf hkp hk8 hkW hk7 hk6 hk5 hp3 hp6 a0 a1 b0 b1
        gi_wp2_with fail
        refine ⟨by simp, .inl ⟨_, _, rfl, run_takeDeferred hd8, ⟨_, results_bool rfl _ _ _ _ rfl Hbg.out, rfl, Hkf.out⟩⟩⟩

    · have h2 : isB nv = false := by
        cases h : isB nv
        · rfl
        · exact absurd ⟨by omega, h⟩ hbig
      have h3 : 256 < nv := by omega
      rw [h2] at ci
      clear hbig h1
      gi_wp2_with fail
      refine ⟨trivial, ?_⟩
      refine (callsIn_wide.2 (ci _)).mono ?_; rintro e w1 ⟨rfl, rfl⟩
      clear ci h2
      gi_wp2_with fail
      refine ⟨trivial, ?_⟩
      refine (callsIn_wide.2 (rcomps_calls nv L hL _)).mono ?_; rintro e w2 ⟨vw, rfl, hr2, hk2⟩
      have hp2 := pairAt_of_row hr2
      obtain ⟨ao, cap, rfl, Hc⟩ := pair_shape hp2
      have Hp := Lib.hid hp2
      have HC := Lib.hid Hc
      have hb0 : Boxed w2 w.heap.size 4 (.bool false) := (hk2.block _ (by simp) (fun h => h)).trans (heap_alloc_new w _)
      have hk3 := ((Keeps.refl (fun _ => False) w).alloc (.cells #[.bool false] 4)).trans hk2 (fun _ _ h => h)
      clear hr2 hk2 hp2 Hc
      gi_wp2_with fail
      refine ⟨trivial, ?_⟩
      refine (callsIn_wide.2 (netall_calls _ _)).mono ?_; rintro e w3 ⟨rfl, rfl⟩
      gi_wp2_with fail
      obtain ⟨w3, hw3⟩ : ∃ w3, ((w2.alloc (.cells #[.slice ao L.length cap] 25)).alloc (.cells #[.int .i64 0] 3)).alloc (.cells #[.int .i64 nv] 3) = w3 := ⟨_, rfl⟩
      have hz : w3.heap.size = w2.heap.size + 3 := by rw [← hw3]; simp
      have hk23 : Keeps (fun _ => False) w2 w3 := by rw [← hw3]; exact (((Keeps.refl _ w2).alloc _).alloc _).alloc _
      have hbw : Boxed w3 w2.heap.size 25 (.slice ao L.length cap) := by rw [← hw3]; exact (Boxed.new w2 _ _).alloc _ |>.alloc _
      have hbi : Boxed w3 (w2.heap.size + 1) 3 (.int .i64 0) := by rw [← hw3]; have := (Boxed.new (w2.alloc (.cells #[.slice ao L.length cap] 25)) 3 (.int .i64 0)).alloc (.cells #[.int .i64 nv] 3); simpa using this
      have hbn : Boxed w3 (w2.heap.size + 2) 3 (.int .i64 nv) := by rw [← hw3]; have := (Boxed.new ((w2.alloc (.cells #[.slice ao L.length cap] 25)).alloc (.cells #[.int .i64 0] 3)) 3 (.int .i64 nv)); simpa using this
      have hb0' : Boxed w3 w.heap.size 4 (.bool false) := (hk23.block _ hb0.lt (fun h => h)).trans hb0
      have hb0lt := hb0.lt
      rw [hw3]
      have Hb0 := Lib.hid hb0'
      have Hbw := Lib.hid hbw
      have Hbi := Lib.hid hbi
      have Hbn := Lib.hid hbn
      have Hz := Lib.hid hz
      have Hk3 := Lib.hid hk3
      have hk23' := Lib.hid hk23
      clear hw3 hb0 hb0' hbw hbi hbn hz hk3 hk23
      gi_wp2_with fail
      refine over_all (w2.heap.size + 2) nv L hL
        (fun k W => Boxed W w.heap.size 4 (.bool false) ∧ Boxed W w2.heap.size 25 (.slice ao L.length cap) ∧ Boxed W (w2.heap.size + 1) 3 (.int .i64 k) ∧ W.cell? ⟨w2.heap.size + 2, 0, none⟩ = some (.int .i64 nv) ∧ Keeps (fun i => i = w2.heap.size + 1) w3 W)
        rfl (fun _ _ h => h.2.2.2.1) ?_ ?_
        (fun gg x y => { tmps := #[.int .i64 nv, undef, .pointer (some ⟨w.heap.size, 0, none⟩), .pointer (some ⟨w2.heap.size, 0, none⟩), .pointer (some ⟨w2.heap.size + 1, 0, none⟩), .func (.func 24) #[] #[.pointer (some ⟨w2.heap.size + 2, 0, none⟩)], .pointer (some ⟨gg, 0, none⟩), .int .i64 nv, .bool true, .bool true, .int .i64 nv, .bool false, .bool false, undef, .int .i64 nv, .slice ao L.length cap, .int .i64 nv, .func (.func 24) #[] #[.pointer (some ⟨w2.heap.size + 2, 0, none⟩)], .func (.func 24) #[] #[.pointer (some ⟨w2.heap.size + 2, 0, none⟩)], .bool false, .func (.func 24) #[] #[.pointer (some ⟨w2.heap.size + 2, 0, none⟩)], .agg #[.int .i64 x, .int .i64 y], undef, undef, undef, undef, undef, undef, undef, undef, undef, undef, undef, undef, undef, undef, undef, undef, undef, undef, undef, undef, undef, undef, undef, undef, undef, undef, undef, undef, undef, undef, undef, undef, undef, undef, undef, undef, undef, undef, undef], defers := [] }) ?assign ?body ?done
      · rintro k W W' ⟨h1, h2, h3, h4, h5⟩ hz2 hl
        have hz := Hz.out
        exact ⟨(hl.block _ h1.lt (by omega)).trans h1, (hl.block _ h2.lt (by omega)).trans h2, (hl.block _ h3.lt (by omega)).trans h3, (hl.cell (p := ⟨w2.heap.size + 2, 0, none⟩) (World.block_lt_of_cell? _ _ h4) (by simp only; omega)).trans h4, h5.trans hl (fun i hi h => by omega)⟩
      · intro rr
        have hz := Hz.out
        have hk : Keeps (fun _ => False) w3 ((w3.alloc (.deferred (some []))).alloc (.loop rr)) := ((Keeps.refl _ w3).alloc _).alloc _
        exact ⟨(hk.block _ Hb0.out.lt (fun h => h)).trans Hb0.out, (hk.block _ Hbw.out.lt (fun h => h)).trans Hbw.out, (hk.block _ Hbi.out.lt (fun h => h)).trans Hbi.out, ((show Boxed _ _ _ _ from (hk.block _ Hbn.out.lt (fun h => h)).trans Hbn.out)).cell, hk.mono (fun _ _ h => h.elim)⟩
      case assign =>
        intro W x y K hK
        gi_wp2
        exact hK
      case body =>
        rintro k x y gg W ⟨h1, h2, h3, h4, h5⟩ hxy hlo hhi c0 c1
        have hkl : k < L.length := (List.getElem?_eq_some_iff.1 hxy).1
        have hkb : k < 589824 := Nat.lt_of_lt_of_le hkl HB.out
        obtain ⟨g, rfl, hg, r0, r1⟩ := HC.out k _ hxy
        simp only at r0 r1
        have hz := Hz.out
        have hgn : g < w3.heap.size := by omega
        have e0 := (hk23'.out.cell (p := ⟨g, k * 2, none⟩) hg (fun h => h)).trans r0
        have e1 := (hk23'.out.cell (p := ⟨g, k * 2 + 1, none⟩) hg (fun h => h)).trans r1
        have f0 := (h5.cell (p := ⟨g, k * 2, none⟩) hgn (by simp only; omega)).trans e0
        have f1 := (h5.cell (p := ⟨g, k * 2 + 1, none⟩) hgn (by simp only; omega)).trans e1
        have a0 := h2.cell
        have a1 := h3.cell
        have a2 := h3.frozen
        have hk0 : (0 : Int) ≤ (k : Int) := by omega
        have hkl' : (k : Int) < (L.length : Int) := by omega
        have Hz2 := Lib.hid hz
        have H1 := Lib.hid h1
        have H2 := Lib.hid h2
        have H3 := Lib.hid h3
        have H4 := Lib.hid h4
        have H5 := Lib.hid h5
        have Hlo := Lib.hid hlo
        clear e0 e1 r0 r1 hxy h1 h2 h3 h4 h5 hz hlo hg hgn
        gi_wp2_with fail
        refine round_still_tail 23 (by kernel_rfl) (by kernel_rfl) (by kernel_rfl) (fun ⟨_, _, h⟩ => h) ?_
        simp only [List.take_succ_cons, List.take_zero, List.drop_succ_cons, List.drop_zero]
        repeat (first | still_step)
        refine wpStill_nil ?_
        go_wp2
        gi_wp2_with fail
        have hz := Hz2.out
        have hlo := Hlo.out
        have K2 : Keeps (fun i => i = w2.heap.size + 1) W (W.drew.setCell ⟨w2.heap.size + 1, 0, none⟩ (.int .i64 ((k : Int) + 1))) := ((Keeps.refl (fun i => i = w2.heap.size + 1) W).drewN 1).setCell ⟨w2.heap.size + 1, 0, none⟩ (fun _ => rfl) _
        have H2' := H2.out
        refine ⟨⟨K2.block _ (by omega) (by omega), K2.block _ (by omega) (by omega)⟩, Nat.le_trans (show w3.heap.size + 2 ≤ W.heap.size by omega) K2.size, (K2.block _ H1.out.lt (by have := Hb0.out.lt; omega)).trans H1.out, (K2.block _ H2'.lt (by omega)).trans H2', ?_, (K2.cell (p := ⟨w2.heap.size + 2, 0, none⟩) (World.block_lt_of_cell? _ _ H4.out) (by simp only; omega)).trans H4.out, H5.out.trans K2 (fun _ _ h => h)⟩
        exact H3.out.set _
      case done =>
        rintro W ⟨h1, h2, h3, h4, h5⟩ hz2 hdd
        have a0 := h2.cell
        have a1 := h3.cell
        have hz := Hz.out
        have hkW : Keeps (fun _ => False) w W := (Hk3.out.trans hk23'.out (fun _ _ h => h)).trans h5 (fun i hi h => by omega)
        have hp3 : pairAt W (.slice ao L.length cap) L := pairAt_far Hp.out hk23'.out h5 (fun g hg => by omega)
        have hbi3 := h3.lt
        have hbw3 := h2.lt
        have H1 := Lib.hid h1
        have Hd := Lib.hid hdd
        have Hz3 := Lib.hid hz
        have Hz2 := Lib.hid hz2
        clear h1 h2 h3 h4 h5 hz hz2 hdd
        gi_wp2_with fail
        refine wpIn_wide.2 (wp_region_noPanic (wp_region_held_drew (S := fun W' => W'.cell? ⟨w2.heap.size + 1, 0, none⟩ = some (.int .i64 (L.length : Int)) ∧ W'.cell? ⟨w2.heap.size, 0, none⟩ = some (.slice ao L.length cap)) (by kernel_rfl) ⟨a1, a0⟩ (fun hHeld => ?_)))
        refine wpAnyH_ready (rs := [0]) (by kernel_rfl) (by simp) ?_
        refine AllReadyH.cons (o := _) rfl (fun K hK => ?_) AllReadyH.nil
        go_simp
        refine (alive_calls _).mono ?_; rintro e w5 ⟨rfl, hk5'⟩
        have hk5 : Keeps (fun _ => False) W w5 := ((Keeps.refl _ W).drewN 1).trans hk5' (fun _ _ h => h)
        clear hk5'
        go_wp2_with fail
        refine hK.out _ _ ⟨(hk5.cell (p := ⟨w2.heap.size + 1, 0, none⟩) hbi3 (fun h => h)).trans a1, (hk5.cell (p := ⟨w2.heap.size, 0, none⟩) hbw3 (fun h => h)).trans a0⟩ (fun hHeld => ?_)
        clear hK K
        try simp only [Act.put, List.setIfInBounds_toArray, List.set_cons_zero, List.set_cons_succ]
        refine wpAnyH_take (i := 1) (oi := _) (v := .bool true) rfl (by kernel_rfl) (by kernel_rfl) (by kernel_rfl) (fun _ _ _ h => (h : False).elim) (Or.inl ⟨by kernel_rfl, ?_⟩) (by assumption) ?_
        · intro w hSw
          obtain ⟨s0, s1⟩ := hSw
          go_simp
        try simp only [Act.put, List.setIfInBounds_toArray, List.set_cons_zero, List.set_cons_succ]
        refine wpAnyH_take (i := 2) (oi := _) (v := .int .i64 (L.length : Int)) rfl (by kernel_rfl) (by kernel_rfl) (by kernel_rfl) (fun _ _ _ h => (h : False).elim) (Or.inl ⟨by kernel_rfl, ?_⟩) (by assumption) ?_
        · intro w hSw
          obtain ⟨s0, s1⟩ := hSw
          go_simp
        try simp only [Act.put, List.setIfInBounds_toArray, List.set_cons_zero, List.set_cons_succ]
        refine wpAnyH_take (i := 3) (oi := _) (v := .slice ao L.length cap) rfl (by kernel_rfl) (by kernel_rfl) (by kernel_rfl) (fun _ _ _ h => (h : False).elim) (Or.inl ⟨by kernel_rfl, ?_⟩) (by assumption) ?_
        · intro w hSw
          obtain ⟨s0, s1⟩ := hSw
          go_simp
        try simp only [Act.put, List.setIfInBounds_toArray, List.set_cons_zero, List.set_cons_succ]
        refine wpAnyH_take (i := 4) (oi := _) (v := .int .i64 (L.length : Int)) rfl (by kernel_rfl) (by kernel_rfl) (by kernel_rfl) (fun _ _ _ h => (h : False).elim) (Or.inl ⟨by kernel_rfl, ?_⟩) (by assumption) ?_
        · intro w hSw
          obtain ⟨s0, s1⟩ := hSw
          go_simp
        try simp only [Act.put, List.setIfInBounds_toArray, List.set_cons_zero, List.set_cons_succ]
        refine wpAnyH_take (i := 5) (oi := _) (v := .bool true) rfl (by kernel_rfl) (by kernel_rfl) (by kernel_rfl) (fun _ _ _ h => (h : False).elim) (Or.inl ⟨by kernel_rfl, ?_⟩) (by assumption) ?_
        · intro w hSw
          obtain ⟨s0, s1⟩ := hSw
          go_simp
        try simp only [Act.put, List.setIfInBounds_toArray, List.set_cons_zero, List.set_cons_succ]
        refine wpAnyH_take (i := 6) (oi := _) (v := .bool true) rfl (by kernel_rfl) (by kernel_rfl) (by kernel_rfl) (fun _ _ _ h => (h : False).elim) (Or.inl ⟨by kernel_rfl, ?_⟩) (by assumption) ?_
        · intro w hSw
          obtain ⟨s0, s1⟩ := hSw
          go_simp
        try simp only [Act.put, List.setIfInBounds_toArray, List.set_cons_zero, List.set_cons_succ]
        refine wpAnyH_take (i := 7) (oi := _) (v := .bool true) rfl (by kernel_rfl) (by kernel_rfl) (by kernel_rfl) (fun _ _ _ h => (h : False).elim) (Or.inl ⟨by kernel_rfl, ?_⟩) (by assumption) ?_
        · intro w hSw
          obtain ⟨s0, s1⟩ := hSw
          go_simp
        try simp only [Act.put, List.setIfInBounds_toArray, List.set_cons_zero, List.set_cons_succ]
        refine wpAnyH_take (i := 8) (oi := _) (v := .int .i64 nv) rfl (by kernel_rfl) (by kernel_rfl) (by kernel_rfl) (fun _ _ _ h => (h : False).elim) (Or.inl ⟨by kernel_rfl, ?_⟩) (by assumption) ?_
        · intro w hSw
          obtain ⟨s0, s1⟩ := hSw
          go_simp
        try simp only [Act.put, List.setIfInBounds_toArray, List.set_cons_zero, List.set_cons_succ]
        refine wpAnyH_take (i := 10) (oi := _) (v := .slice ao L.length cap) rfl (by kernel_rfl) (by kernel_rfl) (by kernel_rfl) (fun _ _ _ h => (h : False).elim) (Or.inl ⟨by kernel_rfl, ?_⟩) (by assumption) ?_
        · intro w hSw
          obtain ⟨s0, s1⟩ := hSw
          go_simp
        try simp only [Act.put, List.setIfInBounds_toArray, List.set_cons_zero, List.set_cons_succ]
        refine wpAnyH_ready (rs := [9]) (by kernel_rfl) (by simp) ?_
        refine AllReadyH.cons (o := _) rfl (fun K hK => ?_) AllReadyH.nil
        go_simp
        refine (comparators_calls nv L hL _).mono ?_; rintro e w6 ⟨v6, rfl, hr6, hk6'⟩
        have hk6 := hk5.trans hk6' (fun _ _ h => h)
        have hp6 := pairAt_of_row hr6
        clear hk6' hr6
        go_wp2_with fail
        refine hK.out _ _ ⟨(hk6.cell (p := ⟨w2.heap.size + 1, 0, none⟩) hbi3 (fun h => h)).trans a1, (hk6.cell (p := ⟨w2.heap.size, 0, none⟩) hbw3 (fun h => h)).trans a0⟩ (fun hHeld => ?_)
        clear hK K
        try simp only [Act.put, List.setIfInBounds_toArray, List.set_cons_zero, List.set_cons_succ]
        refine wpAnyH_ready (rs := [11]) (by kernel_rfl) (by simp) ?_
        refine AllReadyH.cons (o := _) rfl (fun K hK => ?_) AllReadyH.nil
        go_simp
        refine (same_calls _ _ L (by have := HB.out; omega) _ hp6 (hp3.kept hk6)).mono ?_; rintro e w7 ⟨rfl, n7, rfl⟩
        have hk7 := hk6.drewN n7
        go_wp2_with fail
        refine hK.out _ _ ⟨(hk7.cell (p := ⟨w2.heap.size + 1, 0, none⟩) hbi3 (fun h => h)).trans a1, (hk7.cell (p := ⟨w2.heap.size, 0, none⟩) hbw3 (fun h => h)).trans a0⟩ (fun hHeld => ?_)
        clear hK K
        try simp only [Act.put, List.setIfInBounds_toArray, List.set_cons_zero, List.set_cons_succ]
        refine wpAnyH_take (i := 12) (oi := _) (v := .bool true) rfl (by kernel_rfl) (by kernel_rfl) (by kernel_rfl) (fun _ _ _ h => (h : False).elim) (Or.inl ⟨by kernel_rfl, ?_⟩) (by assumption) ?_
        · intro w hSw
          obtain ⟨s0, s1⟩ := hSw
          go_simp
        try simp only [Act.put, List.setIfInBounds_toArray, List.set_cons_zero, List.set_cons_succ]
        have hb7 : Boxed (w6.drewN n7) w.heap.size 4 (.bool false) := (hk7.block _ H1.out.lt (fun h => h)).trans H1.out
        have b0 := hb7.cell
        have b1 := hb7.frozen
        have Hb7 := Lib.hid hb7
        clear hb7
        refine wpAnyH_ready (rs := [13]) (by kernel_rfl) (by simp) ?_
        refine AllReadyH.cons (o := _) rfl (fun K hK => ?_) AllReadyH.nil
        go_simp
        have hk8 : Keeps (fun i => i = w.heap.size) W ((w6.drewN n7).setCell ⟨w.heap.size, 0, none⟩ (.bool true)) := (show Keeps (fun i => i = w.heap.size) W (w6.drewN n7) from hk7.mono (fun _ _ h => h.elim)).setCell ⟨w.heap.size, 0, none⟩ (fun _ => rfl) (.bool true)
        have hlt0 := Hb0.out.lt
        have hsz2 : w.heap.size < w2.heap.size := hb0lt
        refine hK.out _ _ ⟨(hk8.cell (p := ⟨w2.heap.size + 1, 0, none⟩) hbi3 (by simp only; omega)).trans a1, (hk8.cell (p := ⟨w2.heap.size, 0, none⟩) hbw3 (by simp only; omega)).trans a0⟩ (fun hHeld => ?_)
        clear hK K
        try simp only [Act.put, List.setIfInBounds_toArray, List.set_cons_zero, List.set_cons_succ]
        refine wpAnyH_done (by kernel_rfl) ?_ _
        refine NoPanic.normal ?_
        have hd8 := (hk8.block w3.heap.size (by have := Hz2.out; omega) (by have := Hz3.out; omega)).trans Hd.out
        have Hbf := Lib.hid (Hb7.out.set (.bool true))
        have hkp := keeps_putObj ((w6.drewN n7).setCell ⟨w.heap.size, 0, none⟩ (.bool true)) w3.heap.size (.deferred none)
        have hkf : Keeps (fun _ => False) w ((w6.drewN n7).setCell ⟨w.heap.size, 0, none⟩ (.bool true)) := hkW.trans hk8 (fun i hi h => by omega)
        have Hkf := Lib.hid (show Keeps (fun _ => False) w (((w6.drewN n7).setCell ⟨w.heap.size, 0, none⟩ (.bool true)).putObj w3.heap.size (.deferred none)) from hkf.trans hkp (fun i hi h => by have := Hz3.out; omega))
        have Hbg := Lib.hid (show Boxed (((w6.drewN n7).setCell ⟨w.heap.size, 0, none⟩ (.bool true)).putObj w3.heap.size (.deferred none)) w.heap.size 4 (.bool true) from (hkp.block _ Hbf.out.lt (by have := Hz3.out; omega)).trans Hbf.out)
        clear hkf hkp hk8 hkW hk7 hk6 hk5 hp3 hp6 a0 a1 b0 b1
        gi_wp2_with fail
        refine ⟨by simp, .inl ⟨_, _, rfl, run_takeDeferred hd8, ⟨_, results_bool rfl _ _ _ _ rfl Hbg.out, rfl, Hkf.out⟩⟩⟩

end Go.Proofs.Ytacbnlkbbaiedaa.nw
