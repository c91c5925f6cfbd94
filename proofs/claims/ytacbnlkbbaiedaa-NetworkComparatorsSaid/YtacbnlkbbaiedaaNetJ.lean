/- The law NetworkStops. -/
import Derived.Test.YtacbnlkbbaiedaaNetI
import Derived.Test.YtacbnlkbbaiedaaNetZ
namespace Go.Proofs.Ytacbnlkbbaiedaa.nw
open Go Go.RowKit Go.Shelf Go.Proofs.Ytacbnlkbbaiedaa.tp Go.Proofs.Ytacbnlkbbaiedaa.rg Go.Proofs.Ytacbnlkbbaiedaa.ar Go.Proofs.Ytacbnlkbbaiedaa.mk

attribute [local go_sem] Oper.semAt_some

set_option maxRecDepth 100000 in
set_option maxHeartbeats 4000000 in
theorem stops_law (p f : Int) (w : World) (hp0 : 0 ≤ p) (hp1 : p < 256) (hf0 : 0 ≤ f) (hf1 : f < 256) : Calls Try.prog 8 #[.int .u8 p, .int .u8 f] w (Yes w) := by
  obtain ⟨r, hr⟩ : ∃ r : Nat, p % 7 = (r : Int) := ⟨(p % 7).toNat, by omega⟩
  have hr7 : r < 7 := by omega
  have hw := pow_wrap (k := r) (by omega)
  obtain ⟨N, hN⟩ : ∃ N, 2 ^ r = N := ⟨_, rfl⟩
  rw [hN] at hw
  obtain ⟨L, hLd⟩ : ∃ L, nl N r = L := ⟨_, rfl⟩
  have hL : IsNet (N : Int) L := .inl ⟨r, N, by omega, hN.symm, rfl, hLd.symm⟩
  have HB := Lib.hid (net_bound hL)
  have hnf := nil_func 24
  clear hN hLd
  refine (callsIn_wide (n := 5)).1 ?_
  refine callsIn_of_wp_marks Try.func8 rfl trivial ?_ rfl
  simp only [Try.ntmps8, List.size_toArray, List.length_cons, List.length_nil, Nat.reduceAdd, Nat.reduceSub, Array.replicate_succ, Array.replicate_zero, List.push_toArray, List.append_toArray, List.nil_append, List.cons_append]
  gi_wp2_with fail
  refine ⟨trivial, ?_⟩
  refine (callsIn_wide.2 (rcomps_calls (N : Int) L hL _)).mono ?_; rintro e w2 ⟨vw, rfl, hr2, hk2⟩
  have hp2 := pairAt_of_row hr2
  obtain ⟨ao, cap, rfl, Hc⟩ := pair_shape hp2
  have HC := Lib.hid Hc
  have hb0 : Boxed w2 w.heap.size 4 (.bool false) := (hk2.block _ (by simp) (fun h => h)).trans (heap_alloc_new w _)
  have hk3 := ((Keeps.refl (fun _ => False) w).alloc (.cells #[.bool false] 4)).trans hk2 (fun _ _ h => h)
  clear hr2 hk2 hp2 Hc
  by_cases hfl : f ≤ (L.length : Int)
  · obtain ⟨K, rfl⟩ : ∃ K : Nat, f = (K : Int) := ⟨f.toNat, by omega⟩
    gi_wp2_with fail
    refine ⟨trivial, ?_⟩
    refine (callsIn_wide.2 (netall_calls _ _)).mono ?_; rintro e w3 ⟨rfl, rfl⟩
    gi_wp2_with fail
    obtain ⟨w3, hw3⟩ : ∃ w3, (((w2.alloc (.cells #[.slice ao L.length cap] 25)).alloc (.cells #[.int .i64 (K : Int)] 3)).alloc (.cells #[.int .i64 0] 3)).alloc (.cells #[.int .i64 (N : Int)] 3) = w3 := ⟨_, rfl⟩
    have hz : w3.heap.size = w2.heap.size + 4 := by rw [← hw3]; simp
    have hk23 : Keeps (fun _ => False) w2 w3 := by rw [← hw3]; exact ((((Keeps.refl _ w2).alloc _).alloc _).alloc _).alloc _
    obtain ⟨_, b1, b2, b3, b4, _⟩ := alloc4 w2 (.cells #[.slice ao L.length cap] 25) (.cells #[.int .i64 (K : Int)] 3) (.cells #[.int .i64 0] 3) (.cells #[.int .i64 (N : Int)] 3)
    rw [hw3] at b1 b2 b3 b4
    rw [hw3]
    have hb0' : Boxed w3 w.heap.size 4 (.bool false) := (hk23.block _ hb0.lt (fun h => h)).trans hb0
    have hb0lt := hb0.lt
    have Hb0 := Lib.hid hb0'
    have Hbw := Lib.hid (show Boxed w3 w2.heap.size 25 (.slice ao L.length cap) from b1)
    have Hbk := Lib.hid (show Boxed w3 (w2.heap.size + 1) 3 (.int .i64 (K : Int)) from b2)
    have Hbi := Lib.hid (show Boxed w3 (w2.heap.size + 2) 3 (.int .i64 0) from b3)
    have Hbn := Lib.hid (show Boxed w3 (w2.heap.size + 3) 3 (.int .i64 (N : Int)) from b4)
    have Hz := Lib.hid hz
    have Hk3 := Lib.hid hk3
    have hk23' := Lib.hid hk23
    clear hw3 hb0 hb0' b1 b2 b3 b4 hz hk3 hk23
    gi_wp2_with fail
    refine over_all2 (w2.heap.size + 3) (N : Int) L hL
      (fun k W => Boxed W w.heap.size 4 (.bool false) ∧ Boxed W w2.heap.size 25 (.slice ao L.length cap) ∧ Boxed W (w2.heap.size + 1) 3 (.int .i64 (K : Int)) ∧ (k ≤ K ∧ Boxed W (w2.heap.size + 2) 3 (.int .i64 k)) ∧ W.cell? ⟨w2.heap.size + 3, 0, none⟩ = some (.int .i64 (N : Int)) ∧ Keeps (fun i => i = w2.heap.size + 2) w3 W)
      (fun W => Boxed W w.heap.size 4 (.bool false) ∧ Boxed W w2.heap.size 25 (.slice ao L.length cap) ∧ Boxed W (w2.heap.size + 1) 3 (.int .i64 (K : Int)) ∧ Boxed W (w2.heap.size + 2) 3 (.int .i64 (K : Int)) ∧ W.cell? ⟨w2.heap.size + 3, 0, none⟩ = some (.int .i64 (N : Int)) ∧ Keeps (fun i => i = w2.heap.size + 2) w3 W) 0
      rfl (fun _ _ h => h.2.2.2.2.1) ?_ ?_ ?_
      (fun gg x y => { tmps := #[.int .u8 p, .int .u8 (K : Int), undef, undef, .pointer (some ⟨w.heap.size, 0, none⟩), .int .i64 (N : Int), .pointer (some ⟨w2.heap.size, 0, none⟩), .pointer (some ⟨w2.heap.size + 1, 0, none⟩), .pointer (some ⟨w2.heap.size + 2, 0, none⟩), .func (.func 24) #[] #[.pointer (some ⟨w2.heap.size + 3, 0, none⟩)], .pointer (some ⟨gg, 0, none⟩), .int .u8 p, .int .u8 (r : Int), .int .i64 (N : Int), .int .i64 (N : Int), .slice ao L.length cap, .int .u8 (K : Int), .int .i64 (K : Int), .slice ao L.length cap, .int .i64 (L.length : Int), .int .i64 (K : Int), .int .i64 (N : Int), .func (.func 24) #[] #[.pointer (some ⟨w2.heap.size + 3, 0, none⟩)], .func (.func 24) #[] #[.pointer (some ⟨w2.heap.size + 3, 0, none⟩)], .bool false, .func (.func 24) #[] #[.pointer (some ⟨w2.heap.size + 3, 0, none⟩)], .agg #[.int .i64 x, .int .i64 y], undef, undef, undef, undef, undef, undef, undef, undef, undef, undef, undef, undef, undef, undef, undef, undef, undef, undef, undef, undef, undef, undef, undef, undef, undef, undef, undef, undef, undef], defers := [] }) ?assign ?body ?done ?stop
    · rintro k W W' ⟨h1, h2, hk, ⟨hkK, h3⟩, h4, h5⟩ hz2 hl
      have hz := Hz.out
      exact ⟨(hl.block _ h1.lt (by omega)).trans h1, (hl.block _ h2.lt (by omega)).trans h2, (hl.block _ hk.lt (by omega)).trans hk, ⟨hkK, (hl.block _ h3.lt (by omega)).trans h3⟩, (hl.cell (p := ⟨w2.heap.size + 3, 0, none⟩) (World.block_lt_of_cell? _ _ h4) (by simp only; omega)).trans h4, h5.trans hl (fun i hi h => by omega)⟩
    · rintro W W' ⟨h1, h2, hk, h3, h4, h5⟩ hz2 hl
      have hz := Hz.out
      exact ⟨(hl.block _ h1.lt (by omega)).trans h1, (hl.block _ h2.lt (by omega)).trans h2, (hl.block _ hk.lt (by omega)).trans hk, (hl.block _ h3.lt (by omega)).trans h3, (hl.cell (p := ⟨w2.heap.size + 3, 0, none⟩) (World.block_lt_of_cell? _ _ h4) (by simp only; omega)).trans h4, h5.trans hl (fun i hi h => by omega)⟩
    · intro rr
      have hz := Hz.out
      have hk : Keeps (fun _ => False) w3 ((w3.alloc (.deferred (some []))).alloc (.loop rr)) := ((Keeps.refl _ w3).alloc _).alloc _
      exact ⟨(hk.block _ Hb0.out.lt (fun h => h)).trans Hb0.out, (hk.block _ Hbw.out.lt (fun h => h)).trans Hbw.out, (hk.block _ Hbk.out.lt (fun h => h)).trans Hbk.out, ⟨Nat.zero_le _, (hk.block _ Hbi.out.lt (fun h => h)).trans Hbi.out⟩, ((show Boxed _ _ _ _ from (hk.block _ Hbn.out.lt (fun h => h)).trans Hbn.out)).cell, hk.mono (fun _ _ h => h.elim)⟩
    case assign =>
      intro W x y K hK
      gi_wp2
      exact hK
    case body =>
      rintro k x y gg W ⟨h1, h2, hk, ⟨hkK, h3⟩, h4, h5⟩ hxy hlo hhi c0 c1
      have hkl : k < L.length := (List.getElem?_eq_some_iff.1 hxy).1
      have hkb : k < 589824 := Nat.lt_of_lt_of_le hkl HB.out
      obtain ⟨g, rfl, hg, r0, r1⟩ := HC.out k _ hxy
      simp only at r0 r1
      have hz := Hz.out
      have hgn : g < w3.heap.size := by omega
      have e0 := (hk23'.out.cell (p := ⟨g, k * 2, none⟩) hg (fun h => h)).trans r0
      have e1 := (hk23'.out.cell (p := ⟨g, k * 2 + 1, none⟩) hg (fun h => h)).trans r1
      have f0 := (h5.cell (p := ⟨g, k * 2, none⟩) hgn (by simp only; omega)).trans e0
      have f1 := (h5.cell (p := ⟨g, k * 2 + 1, none⟩) hgn (by simp only; omega)).trans e1
      have a0 := h2.cell
      have a1 := h3.cell
      have a2 := h3.frozen
      have a3 := hk.cell
      have hk0 : (0 : Int) ≤ (k : Int) := by omega
      have hkl' : (k : Int) < (L.length : Int) := by omega
      have Hz2 := Lib.hid hz
      have H1 := Lib.hid h1
      have H2 := Lib.hid h2
      have Hk := Lib.hid hk
      have H3 := Lib.hid h3
      have H4 := Lib.hid h4
      have H5 := Lib.hid h5
      have Hlo := Lib.hid hlo
      clear e0 e1 r0 r1 hxy h1 h2 hk h3 h4 h5 hz hlo hg hgn
      by_cases hkk : k < K
      · have hkk' : (k : Int) < (K : Int) := by omega
        gi_wp2_with fail
        refine round_still_tail 17 (by kernel_rfl) (by kernel_rfl) (by kernel_rfl) (fun ⟨_, _, h⟩ => h) ?_
        simp only [List.take_succ_cons, List.take_zero, List.drop_succ_cons, List.drop_zero]
        repeat (first | still_step)
        refine wpStill_nil ?_
        go_wp2
        gi_wp2_with fail
        have hz := Hz2.out
        have hlo := Hlo.out
        have K2 : Keeps (fun i => i = w2.heap.size + 2) W (W.drew.setCell ⟨w2.heap.size + 2, 0, none⟩ (.int .i64 ((k : Int) + 1))) := ((Keeps.refl (fun i => i = w2.heap.size + 2) W).drewN 1).setCell ⟨w2.heap.size + 2, 0, none⟩ (fun _ => rfl) _
        have H2' := H2.out
        have Hk' := Hk.out
        refine ⟨⟨K2.block _ (by omega) (by omega), K2.block _ (by omega) (by omega)⟩, Nat.le_trans (show w3.heap.size + 2 ≤ W.heap.size by omega) K2.size, (K2.block _ H1.out.lt (by have := Hb0.out.lt; omega)).trans H1.out, (K2.block _ H2'.lt (by omega)).trans H2', (K2.block _ Hk'.lt (by omega)).trans Hk', ⟨by omega, ?_⟩, (K2.cell (p := ⟨w2.heap.size + 3, 0, none⟩) (World.block_lt_of_cell? _ _ H4.out) (by simp only; omega)).trans H4.out, H5.out.trans K2 (fun _ _ h => h)⟩
        exact H3.out.set _
      · have hke : k = K := by omega
        have hkk' : ¬ (k : Int) < (K : Int) := by omega
        have hkk2 : (K : Int) ≤ (k : Int) := by omega
        have He := Lib.hid hke
        clear hke
        gi_wp2_with fail
        have hz := Hz2.out
        have hlo := Hlo.out
        have h3' := H3.out
        rw [show ((k : Nat) : Int) = (K : Int) from by have := He.out; omega] at h3'
        exact ⟨rfl, ⟨rfl, rfl⟩, by omega, H1.out, H2.out, Hk.out, h3', H4.out, H5.out⟩
    case done =>
      suffices hs : ∀ W, (Boxed W w.heap.size 4 (.bool false) ∧ Boxed W w2.heap.size 25 (.slice ao L.length cap) ∧ Boxed W (w2.heap.size + 1) 3 (.int .i64 (K : Int)) ∧ Boxed W (w2.heap.size + 2) 3 (.int .i64 (K : Int)) ∧ W.cell? ⟨w2.heap.size + 3, 0, none⟩ = some (.int .i64 (N : Int)) ∧ Keeps (fun i => i = w2.heap.size + 2) w3 W) → w3.heap.size + 2 ≤ W.heap.size → W.heap[w3.heap.size]? = some (.deferred (some [])) → _ by
        intro W h hz2 hdd
        refine hs W ⟨h.1, h.2.1, h.2.2.1, ?_, h.2.2.2.2.1, h.2.2.2.2.2⟩ hz2 hdd
        have h3' := h.2.2.2.1.2
        rw [show ((L.length : Nat) : Int) = (K : Int) from by have := h.2.2.2.1.1; omega] at h3'
        exact h3'
      rintro W ⟨h1, h2, hk, h3, h4, h5⟩ hz2 hdd
      have hz := Hz.out
      have hkW : Keeps (fun _ => False) w W := (Hk3.out.trans hk23'.out (fun _ _ h => h)).trans h5 (fun i hi h => by omega)
      have H1 := Lib.hid h1
      have H3 := Lib.hid h3
      have Hkb := Lib.hid hk
      have Hd := Lib.hid hdd
      have Hz3 := Lib.hid hz
      have Hz2 := Lib.hid hz2
      have Hkw := Lib.hid hkW
      clear h1 h2 hk h3 h4 h5 hz hz2 hdd hkW
      gi_wp2_with fail
      refine ⟨trivial, ?_⟩
      refine (callsIn_wide.2 (alive_calls _)).mono ?_; rintro e w5 ⟨rfl, hk5⟩
      have a0 := (show Boxed w5 (w2.heap.size + 2) 3 (.int .i64 (K : Int)) from (hk5.block _ H3.out.lt (fun h => h)).trans H3.out).cell
      have a1 := (show Boxed w5 (w2.heap.size + 1) 3 (.int .i64 (K : Int)) from (hk5.block _ Hkb.out.lt (fun h => h)).trans Hkb.out).cell
      have hb5 : Boxed w5 w.heap.size 4 (.bool false) := (hk5.block _ H1.out.lt (fun h => h)).trans H1.out
      have b0 := hb5.cell
      have b1 := hb5.frozen
      have hd5 := (hk5.block w3.heap.size (by have := Hz2.out; omega) (fun h => h)).trans Hd.out
      have hk8 := (Hkw.out.trans hk5 (fun _ _ h => h)).setCell ⟨w.heap.size, 0, none⟩ (fun h => by simp at h) (.bool true)
      have Hbf := Lib.hid (hb5.set (.bool true))
      have hsz2 : w.heap.size < w2.heap.size := hb0lt
      have hd8 : (w5.setCell ⟨w.heap.size, 0, none⟩ (.bool true)).heap[w3.heap.size]? = some (.deferred (some [])) := ((keeps_at w5 w.heap.size 0 (.bool true)).block _ (by have := (Array.getElem?_eq_some_iff.1 hd5).1; exact this) (by have := Hz3.out; omega)).trans hd5
      have hkp := keeps_putObj (w5.setCell ⟨w.heap.size, 0, none⟩ (.bool true)) w3.heap.size (.deferred none)
      have Hkf := Lib.hid (show Keeps (fun _ => False) w ((w5.setCell ⟨w.heap.size, 0, none⟩ (.bool true)).putObj w3.heap.size (.deferred none)) from hk8.trans hkp (fun i hi h => by have := Hz3.out; omega))
      have Hbg := Lib.hid (show Boxed ((w5.setCell ⟨w.heap.size, 0, none⟩ (.bool true)).putObj w3.heap.size (.deferred none)) w.heap.size 4 (.bool true) from (hkp.block _ Hbf.out.lt (by have := Hz3.out; omega)).trans Hbf.out)
      have Hd8 := Lib.hid hd8
      clear hkp hk8 hk5 hd5 hd8 hb5
      gi_wp2_with fail
      refine ⟨by simp, .inl ⟨_, _, rfl, run_takeDeferred Hd8.out, ⟨_, results_bool rfl _ _ _ _ rfl Hbg.out, rfl, Hkf.out⟩⟩⟩
    case stop =>
      rintro W ⟨h1, h2, hk, h3, h4, h5⟩ hz2 hdd
      have hz := Hz.out
      have hkW : Keeps (fun _ => False) w W := (Hk3.out.trans hk23'.out (fun _ _ h => h)).trans h5 (fun i hi h => by omega)
      have H1 := Lib.hid h1
      have H3 := Lib.hid h3
      have Hkb := Lib.hid hk
      have Hd := Lib.hid hdd
      have Hz3 := Lib.hid hz
      have Hz2 := Lib.hid hz2
      have Hkw := Lib.hid hkW
      clear h1 h2 hk h3 h4 h5 hz hz2 hdd hkW
      gi_wp2_with fail
      refine ⟨trivial, ?_⟩
      refine (callsIn_wide.2 (alive_calls _)).mono ?_; rintro e w5 ⟨rfl, hk5⟩
      have a0 := (show Boxed w5 (w2.heap.size + 2) 3 (.int .i64 (K : Int)) from (hk5.block _ H3.out.lt (fun h => h)).trans H3.out).cell
      have a1 := (show Boxed w5 (w2.heap.size + 1) 3 (.int .i64 (K : Int)) from (hk5.block _ Hkb.out.lt (fun h => h)).trans Hkb.out).cell
      have hb5 : Boxed w5 w.heap.size 4 (.bool false) := (hk5.block _ H1.out.lt (fun h => h)).trans H1.out
      have b0 := hb5.cell
      have b1 := hb5.frozen
      have hd5 := (hk5.block w3.heap.size (by have := Hz2.out; omega) (fun h => h)).trans Hd.out
      have hk8 := (Hkw.out.trans hk5 (fun _ _ h => h)).setCell ⟨w.heap.size, 0, none⟩ (fun h => by simp at h) (.bool true)
      have Hbf := Lib.hid (hb5.set (.bool true))
      have hsz2 : w.heap.size < w2.heap.size := hb0lt
      have hd8 : (w5.setCell ⟨w.heap.size, 0, none⟩ (.bool true)).heap[w3.heap.size]? = some (.deferred (some [])) := ((keeps_at w5 w.heap.size 0 (.bool true)).block _ (by have := (Array.getElem?_eq_some_iff.1 hd5).1; exact this) (by have := Hz3.out; omega)).trans hd5
      have hkp := keeps_putObj (w5.setCell ⟨w.heap.size, 0, none⟩ (.bool true)) w3.heap.size (.deferred none)
      have Hkf := Lib.hid (show Keeps (fun _ => False) w ((w5.setCell ⟨w.heap.size, 0, none⟩ (.bool true)).putObj w3.heap.size (.deferred none)) from hk8.trans hkp (fun i hi h => by have := Hz3.out; omega))
      have Hbg := Lib.hid (show Boxed ((w5.setCell ⟨w.heap.size, 0, none⟩ (.bool true)).putObj w3.heap.size (.deferred none)) w.heap.size 4 (.bool true) from (hkp.block _ Hbf.out.lt (by have := Hz3.out; omega)).trans Hbf.out)
      have Hd8 := Lib.hid hd8
      clear hkp hk8 hk5 hd5 hd8 hb5
      gi_wp2_with fail
      refine ⟨by simp, .inl ⟨_, _, rfl, run_takeDeferred Hd8.out, ⟨_, results_bool rfl _ _ _ _ rfl Hbg.out, rfl, Hkf.out⟩⟩⟩
  · have hfl' : (L.length : Int) < f := by omega
    gi_wp2_with fail
    refine ⟨trivial, ?_⟩
    refine (callsIn_wide.2 (netall_calls _ _)).mono ?_; rintro e w3 ⟨rfl, rfl⟩
    gi_wp2_with fail
    obtain ⟨w3, hw3⟩ : ∃ w3, (((w2.alloc (.cells #[.slice ao L.length cap] 25)).alloc (.cells #[.int .i64 (L.length : Int)] 3)).alloc (.cells #[.int .i64 0] 3)).alloc (.cells #[.int .i64 (N : Int)] 3) = w3 := ⟨_, rfl⟩
    have hz : w3.heap.size = w2.heap.size + 4 := by rw [← hw3]; simp
    have hk23 : Keeps (fun _ => False) w2 w3 := by rw [← hw3]; exact ((((Keeps.refl _ w2).alloc _).alloc _).alloc _).alloc _
    obtain ⟨_, b1, b2, b3, b4, _⟩ := alloc4 w2 (.cells #[.slice ao L.length cap] 25) (.cells #[.int .i64 (L.length : Int)] 3) (.cells #[.int .i64 0] 3) (.cells #[.int .i64 (N : Int)] 3)
    rw [hw3] at b1 b2 b3 b4
    rw [hw3]
    have hb0' : Boxed w3 w.heap.size 4 (.bool false) := (hk23.block _ hb0.lt (fun h => h)).trans hb0
    have hb0lt := hb0.lt
    have Hb0 := Lib.hid hb0'
    have Hbw := Lib.hid (show Boxed w3 w2.heap.size 25 (.slice ao L.length cap) from b1)
    have Hbk := Lib.hid (show Boxed w3 (w2.heap.size + 1) 3 (.int .i64 (L.length : Int)) from b2)
    have Hbi := Lib.hid (show Boxed w3 (w2.heap.size + 2) 3 (.int .i64 0) from b3)
    have Hbn := Lib.hid (show Boxed w3 (w2.heap.size + 3) 3 (.int .i64 (N : Int)) from b4)
    have Hz := Lib.hid hz
    have Hk3 := Lib.hid hk3
    have hk23' := Lib.hid hk23
    clear hw3 hb0 hb0' b1 b2 b3 b4 hz hk3 hk23
    gi_wp2_with fail
    refine over_all2 (w2.heap.size + 3) (N : Int) L hL
      (fun k W => Boxed W w.heap.size 4 (.bool false) ∧ Boxed W w2.heap.size 25 (.slice ao L.length cap) ∧ Boxed W (w2.heap.size + 1) 3 (.int .i64 (L.length : Int)) ∧ (k ≤ L.length ∧ Boxed W (w2.heap.size + 2) 3 (.int .i64 k)) ∧ W.cell? ⟨w2.heap.size + 3, 0, none⟩ = some (.int .i64 (N : Int)) ∧ Keeps (fun i => i = w2.heap.size + 2) w3 W)
      (fun W => Boxed W w.heap.size 4 (.bool false) ∧ Boxed W w2.heap.size 25 (.slice ao L.length cap) ∧ Boxed W (w2.heap.size + 1) 3 (.int .i64 (L.length : Int)) ∧ Boxed W (w2.heap.size + 2) 3 (.int .i64 (L.length : Int)) ∧ W.cell? ⟨w2.heap.size + 3, 0, none⟩ = some (.int .i64 (N : Int)) ∧ Keeps (fun i => i = w2.heap.size + 2) w3 W) 0
      rfl (fun _ _ h => h.2.2.2.2.1) ?_ ?_ ?_
      (fun gg x y => { tmps := #[.int .u8 p, .int .u8 f, undef, undef, .pointer (some ⟨w.heap.size, 0, none⟩), .int .i64 (N : Int), .pointer (some ⟨w2.heap.size, 0, none⟩), .pointer (some ⟨w2.heap.size + 1, 0, none⟩), .pointer (some ⟨w2.heap.size + 2, 0, none⟩), .func (.func 24) #[] #[.pointer (some ⟨w2.heap.size + 3, 0, none⟩)], .pointer (some ⟨gg, 0, none⟩), .int .u8 p, .int .u8 (r : Int), .int .i64 (N : Int), .int .i64 (N : Int), .slice ao L.length cap, .int .u8 f, .int .i64 f, .slice ao L.length cap, .int .i64 (L.length : Int), .int .i64 (L.length : Int), .int .i64 (N : Int), .func (.func 24) #[] #[.pointer (some ⟨w2.heap.size + 3, 0, none⟩)], .func (.func 24) #[] #[.pointer (some ⟨w2.heap.size + 3, 0, none⟩)], .bool false, .func (.func 24) #[] #[.pointer (some ⟨w2.heap.size + 3, 0, none⟩)], .agg #[.int .i64 x, .int .i64 y], undef, undef, undef, undef, undef, undef, undef, undef, undef, undef, undef, undef, undef, undef, undef, undef, undef, undef, undef, undef, undef, undef, undef, undef, undef, undef, undef, undef, undef], defers := [] }) ?assign ?body ?done ?stop
    · rintro k W W' ⟨h1, h2, hk, ⟨hkK, h3⟩, h4, h5⟩ hz2 hl
      have hz := Hz.out
      exact ⟨(hl.block _ h1.lt (by omega)).trans h1, (hl.block _ h2.lt (by omega)).trans h2, (hl.block _ hk.lt (by omega)).trans hk, ⟨hkK, (hl.block _ h3.lt (by omega)).trans h3⟩, (hl.cell (p := ⟨w2.heap.size + 3, 0, none⟩) (World.block_lt_of_cell? _ _ h4) (by simp only; omega)).trans h4, h5.trans hl (fun i hi h => by omega)⟩
    · rintro W W' ⟨h1, h2, hk, h3, h4, h5⟩ hz2 hl
      have hz := Hz.out
      exact ⟨(hl.block _ h1.lt (by omega)).trans h1, (hl.block _ h2.lt (by omega)).trans h2, (hl.block _ hk.lt (by omega)).trans hk, (hl.block _ h3.lt (by omega)).trans h3, (hl.cell (p := ⟨w2.heap.size + 3, 0, none⟩) (World.block_lt_of_cell? _ _ h4) (by simp only; omega)).trans h4, h5.trans hl (fun i hi h => by omega)⟩
    · intro rr
      have hz := Hz.out
      have hk : Keeps (fun _ => False) w3 ((w3.alloc (.deferred (some []))).alloc (.loop rr)) := ((Keeps.refl _ w3).alloc _).alloc _
      exact ⟨(hk.block _ Hb0.out.lt (fun h => h)).trans Hb0.out, (hk.block _ Hbw.out.lt (fun h => h)).trans Hbw.out, (hk.block _ Hbk.out.lt (fun h => h)).trans Hbk.out, ⟨Nat.zero_le _, (hk.block _ Hbi.out.lt (fun h => h)).trans Hbi.out⟩, ((show Boxed _ _ _ _ from (hk.block _ Hbn.out.lt (fun h => h)).trans Hbn.out)).cell, hk.mono (fun _ _ h => h.elim)⟩
    case assign =>
      intro W x y K hK
      gi_wp2
      exact hK
    case body =>
      rintro k x y gg W ⟨h1, h2, hk, ⟨hkK, h3⟩, h4, h5⟩ hxy hlo hhi c0 c1
      have hkl : k < L.length := (List.getElem?_eq_some_iff.1 hxy).1
      have hkb : k < 589824 := Nat.lt_of_lt_of_le hkl HB.out
      obtain ⟨g, rfl, hg, r0, r1⟩ := HC.out k _ hxy
      simp only at r0 r1
      have hz := Hz.out
      have hgn : g < w3.heap.size := by omega
      have e0 := (hk23'.out.cell (p := ⟨g, k * 2, none⟩) hg (fun h => h)).trans r0
      have e1 := (hk23'.out.cell (p := ⟨g, k * 2 + 1, none⟩) hg (fun h => h)).trans r1
      have f0 := (h5.cell (p := ⟨g, k * 2, none⟩) hgn (by simp only; omega)).trans e0
      have f1 := (h5.cell (p := ⟨g, k * 2 + 1, none⟩) hgn (by simp only; omega)).trans e1
      have a0 := h2.cell
      have a1 := h3.cell
      have a2 := h3.frozen
      have a3 := hk.cell
      have hk0 : (0 : Int) ≤ (k : Int) := by omega
      have hkl' : (k : Int) < (L.length : Int) := by omega
      have Hz2 := Lib.hid hz
      have H1 := Lib.hid h1
      have H2 := Lib.hid h2
      have Hk := Lib.hid hk
      have H3 := Lib.hid h3
      have H4 := Lib.hid h4
      have H5 := Lib.hid h5
      have Hlo := Lib.hid hlo
      clear e0 e1 r0 r1 hxy h1 h2 hk h3 h4 h5 hz hlo hg hgn
      by_cases hkk : k < L.length
      · have hkk' : (k : Int) < (L.length : Int) := by omega
        gi_wp2_with fail
        refine round_still_tail 17 (by kernel_rfl) (by kernel_rfl) (by kernel_rfl) (fun ⟨_, _, h⟩ => h) ?_
        simp only [List.take_succ_cons, List.take_zero, List.drop_succ_cons, List.drop_zero]
        repeat (first | still_step)
        refine wpStill_nil ?_
        go_wp2
        gi_wp2_with fail
        have hz := Hz2.out
        have hlo := Hlo.out
        have K2 : Keeps (fun i => i = w2.heap.size + 2) W (W.drew.setCell ⟨w2.heap.size + 2, 0, none⟩ (.int .i64 ((k : Int) + 1))) := ((Keeps.refl (fun i => i = w2.heap.size + 2) W).drewN 1).setCell ⟨w2.heap.size + 2, 0, none⟩ (fun _ => rfl) _
        have H2' := H2.out
        have Hk' := Hk.out
        refine ⟨⟨K2.block _ (by omega) (by omega), K2.block _ (by omega) (by omega)⟩, Nat.le_trans (show w3.heap.size + 2 ≤ W.heap.size by omega) K2.size, (K2.block _ H1.out.lt (by have := Hb0.out.lt; omega)).trans H1.out, (K2.block _ H2'.lt (by omega)).trans H2', (K2.block _ Hk'.lt (by omega)).trans Hk', ⟨by omega, ?_⟩, (K2.cell (p := ⟨w2.heap.size + 3, 0, none⟩) (World.block_lt_of_cell? _ _ H4.out) (by simp only; omega)).trans H4.out, H5.out.trans K2 (fun _ _ h => h)⟩
        exact H3.out.set _
      · have hke : k = L.length := by omega
        have hkk' : ¬ (k : Int) < (L.length : Int) := by omega
        have hkk2 : (L.length : Int) ≤ (k : Int) := by omega
        have He := Lib.hid hke
        clear hke
        gi_wp2_with fail
        have hz := Hz2.out
        have hlo := Hlo.out
        have h3' := H3.out
        rw [show ((k : Nat) : Int) = (L.length : Int) from by have := He.out; omega] at h3'
        exact ⟨rfl, ⟨rfl, rfl⟩, by omega, H1.out, H2.out, Hk.out, h3', H4.out, H5.out⟩
    case done =>
      suffices hs : ∀ W, (Boxed W w.heap.size 4 (.bool false) ∧ Boxed W w2.heap.size 25 (.slice ao L.length cap) ∧ Boxed W (w2.heap.size + 1) 3 (.int .i64 (L.length : Int)) ∧ Boxed W (w2.heap.size + 2) 3 (.int .i64 (L.length : Int)) ∧ W.cell? ⟨w2.heap.size + 3, 0, none⟩ = some (.int .i64 (N : Int)) ∧ Keeps (fun i => i = w2.heap.size + 2) w3 W) → w3.heap.size + 2 ≤ W.heap.size → W.heap[w3.heap.size]? = some (.deferred (some [])) → _ by
        intro W h hz2 hdd
        refine hs W ⟨h.1, h.2.1, h.2.2.1, ?_, h.2.2.2.2.1, h.2.2.2.2.2⟩ hz2 hdd
        have h3' := h.2.2.2.1.2
        rw [show ((L.length : Nat) : Int) = (L.length : Int) from by have := h.2.2.2.1.1; omega] at h3'
        exact h3'
      rintro W ⟨h1, h2, hk, h3, h4, h5⟩ hz2 hdd
      have hz := Hz.out
      have hkW : Keeps (fun _ => False) w W := (Hk3.out.trans hk23'.out (fun _ _ h => h)).trans h5 (fun i hi h => by omega)
      have H1 := Lib.hid h1
      have H3 := Lib.hid h3
      have Hkb := Lib.hid hk
      have Hd := Lib.hid hdd
      have Hz3 := Lib.hid hz
      have Hz2 := Lib.hid hz2
      have Hkw := Lib.hid hkW
      clear h1 h2 hk h3 h4 h5 hz hz2 hdd hkW
      gi_wp2_with fail
      refine ⟨trivial, ?_⟩
      refine (callsIn_wide.2 (alive_calls _)).mono ?_; rintro e w5 ⟨rfl, hk5⟩
      have a0 := (show Boxed w5 (w2.heap.size + 2) 3 (.int .i64 (L.length : Int)) from (hk5.block _ H3.out.lt (fun h => h)).trans H3.out).cell
      have a1 := (show Boxed w5 (w2.heap.size + 1) 3 (.int .i64 (L.length : Int)) from (hk5.block _ Hkb.out.lt (fun h => h)).trans Hkb.out).cell
      have hb5 : Boxed w5 w.heap.size 4 (.bool false) := (hk5.block _ H1.out.lt (fun h => h)).trans H1.out
      have b0 := hb5.cell
      have b1 := hb5.frozen
      have hd5 := (hk5.block w3.heap.size (by have := Hz2.out; omega) (fun h => h)).trans Hd.out
      have hk8 := (Hkw.out.trans hk5 (fun _ _ h => h)).setCell ⟨w.heap.size, 0, none⟩ (fun h => by simp at h) (.bool true)
      have Hbf := Lib.hid (hb5.set (.bool true))
      have hsz2 : w.heap.size < w2.heap.size := hb0lt
      have hd8 : (w5.setCell ⟨w.heap.size, 0, none⟩ (.bool true)).heap[w3.heap.size]? = some (.deferred (some [])) := ((keeps_at w5 w.heap.size 0 (.bool true)).block _ (by have := (Array.getElem?_eq_some_iff.1 hd5).1; exact this) (by have := Hz3.out; omega)).trans hd5
      have hkp := keeps_putObj (w5.setCell ⟨w.heap.size, 0, none⟩ (.bool true)) w3.heap.size (.deferred none)
      have Hkf := Lib.hid (show Keeps (fun _ => False) w ((w5.setCell ⟨w.heap.size, 0, none⟩ (.bool true)).putObj w3.heap.size (.deferred none)) from hk8.trans hkp (fun i hi h => by have := Hz3.out; omega))
      have Hbg := Lib.hid (show Boxed ((w5.setCell ⟨w.heap.size, 0, none⟩ (.bool true)).putObj w3.heap.size (.deferred none)) w.heap.size 4 (.bool true) from (hkp.block _ Hbf.out.lt (by have := Hz3.out; omega)).trans Hbf.out)
      have Hd8 := Lib.hid hd8
      clear hkp hk8 hk5 hd5 hd8 hb5
      gi_wp2_with fail
      refine ⟨by simp, .inl ⟨_, _, rfl, run_takeDeferred Hd8.out, ⟨_, results_bool rfl _ _ _ _ rfl Hbg.out, rfl, Hkf.out⟩⟩⟩
    case stop =>
      rintro W ⟨h1, h2, hk, h3, h4, h5⟩ hz2 hdd
      have hz := Hz.out
      have hkW : Keeps (fun _ => False) w W := (Hk3.out.trans hk23'.out (fun _ _ h => h)).trans h5 (fun i hi h => by omega)
      have H1 := Lib.hid h1
      have H3 := Lib.hid h3
      have Hkb := Lib.hid hk
      have Hd := Lib.hid hdd
      have Hz3 := Lib.hid hz
      have Hz2 := Lib.hid hz2
      have Hkw := Lib.hid hkW
      clear h1 h2 hk h3 h4 h5 hz hz2 hdd hkW
      gi_wp2_with fail
      refine ⟨trivial, ?_⟩
      refine (callsIn_wide.2 (alive_calls _)).mono ?_; rintro e w5 ⟨rfl, hk5⟩
      have a0 := (show Boxed w5 (w2.heap.size + 2) 3 (.int .i64 (L.length : Int)) from (hk5.block _ H3.out.lt (fun h => h)).trans H3.out).cell
      have a1 := (show Boxed w5 (w2.heap.size + 1) 3 (.int .i64 (L.length : Int)) from (hk5.block _ Hkb.out.lt (fun h => h)).trans Hkb.out).cell
      have hb5 : Boxed w5 w.heap.size 4 (.bool false) := (hk5.block _ H1.out.lt (fun h => h)).trans H1.out
      have b0 := hb5.cell
      have b1 := hb5.frozen
      have hd5 := (hk5.block w3.heap.size (by have := Hz2.out; omega) (fun h => h)).trans Hd.out
      have hk8 := (Hkw.out.trans hk5 (fun _ _ h => h)).setCell ⟨w.heap.size, 0, none⟩ (fun h => by simp at h) (.bool true)
      have Hbf := Lib.hid (hb5.set (.bool true))
      have hsz2 : w.heap.size < w2.heap.size := hb0lt
      have hd8 : (w5.setCell ⟨w.heap.size, 0, none⟩ (.bool true)).heap[w3.heap.size]? = some (.deferred (some [])) := ((keeps_at w5 w.heap.size 0 (.bool true)).block _ (by have := (Array.getElem?_eq_some_iff.1 hd5).1; exact this) (by have := Hz3.out; omega)).trans hd5
      have hkp := keeps_putObj (w5.setCell ⟨w.heap.size, 0, none⟩ (.bool true)) w3.heap.size (.deferred none)
      have Hkf := Lib.hid (show Keeps (fun _ => False) w ((w5.setCell ⟨w.heap.size, 0, none⟩ (.bool true)).putObj w3.heap.size (.deferred none)) from hk8.trans hkp (fun i hi h => by have := Hz3.out; omega))
      have Hbg := Lib.hid (show Boxed ((w5.setCell ⟨w.heap.size, 0, none⟩ (.bool true)).putObj w3.heap.size (.deferred none)) w.heap.size 4 (.bool true) from (hkp.block _ Hbf.out.lt (by have := Hz3.out; omega)).trans Hbf.out)
      have Hd8 := Lib.hid hd8
      clear hkp hk8 hk5 hd5 hd8 hb5
      gi_wp2_with fail
      refine ⟨by simp, .inl ⟨_, _, rfl, run_takeDeferred Hd8.out, ⟨_, results_bool rfl _ _ _ _ rfl Hbg.out, rfl, Hkf.out⟩⟩⟩
end Go.Proofs.Ytacbnlkbbaiedaa.nw
