/- Int and Mul of the reference, and its orientation, by walking their text. -/
import Derived.Test.YtmoajobnhiopiaaGreatDoorNumY
set_option linter.unusedSimpArgs false
set_option linter.unusedVariables false
namespace Go.Proofs.YtmoajobnhiopiaaGreatDoor.nb
open Go Go.RowKit Go.Shelf Go.Maps Go.Proofs.YtmoajobnhiopiaaGreatDoor.mk Go.Proofs.YtmoajobnhiopiaaGreatDoor.tp Go.Proofs.YtmoajobnhiopiaaGreatDoor.rg Go.Proofs.YtmoajobnhiopiaaGreatDoor.lm Go.Proofs.YtmoajobnhiopiaaGreatDoor.gm

theorem pd_four : pd 4 = 18446744073709551616 := rfl
theorem int_step {N u : Int} {k : Nat} {d : List Int} (hd : Digs d) (hl : d.length = k) (h : dv d + u * pd k = N) (hN : N < pd 4) (hu : 0 < u) :
    k < 4 ∧ Digs (d ++ [u % 65536]) ∧ dv (d ++ [u % 65536]) + u / 65536 * pd (k + 1) = N := by
  have h0 := dv_nonneg hd
  have hp := pd_pos k
  refine ⟨?_, hd.snoc (by omega), ?_⟩
  · apply Nat.lt_of_not_le
    intro hk
    have h1 := pd_mono hk
    have h2 := Int.mul_le_mul_of_nonneg_right (show (1 : Int) ≤ u by omega) (Int.le_of_lt hp)
    omega
  · rw [dv_snoc, hl, pd_succ]
    have e : u = 65536 * (u / 65536) + u % 65536 := by omega
    generalize u / 65536 = q at *
    generalize u % 65536 = r at *
    rw [e] at h
    grind
/-- The loop's digits, from the absolute value N on: the sign is s. -/
theorem int_rep {N x s : Int} (hs : s = 1 ∨ s = -1) (h : x = s * N) {d : List Int} (hd : dv d = N) : (dv d ≠ 0 → s = 1 ∨ s = -1) ∧ x = s * dv d := ⟨fun _ => hs, by rw [hd, h]⟩

set_option maxRecDepth 100000 in
set_option maxHeartbeats 4000000 in
theorem int_calls (x : Int) (hx : IsS x) (w : World) : Calls Tryz.prog 139 #[.int .i64 x] w (GivesN w x 4) := by
  obtain ⟨i0, hi, hz0, hz1, hz2⟩ := info_parts infoD
  by_cases hx0 : x < 0
  · have hneg : x < 0 := hx0
    have hu : IntKind.u64.wrap (-(x % 18446744073709551616)) = -x := by
      unfold IsS at hx
      rw [IntKind.wrap_u64]
      omega
    have hmod : x % 18446744073709551616 = x + 18446744073709551616 := by
      unfold IsS at hx
      omega
    have hwx : IntKind.u64.wrap x = x + 18446744073709551616 := by rw [IntKind.wrap_u64]; exact hmod
    have hu2 : IntKind.u64.wrap (-(x + 18446744073709551616)) = -x := by rw [← hmod]; exact hu
    have HN : RowKit.Hid (-x < pd 4 ∧ 0 ≤ -x) := by
      unfold IsS at hx
      rw [pd_four]
      exact ⟨by omega, by omega⟩
    clear hx
    go_enter Tryz.func139, Tryz.ntmps139
    go_upto_region 7 with fail
    obtain ⟨w1, hw1⟩ : ∃ w1, w.alloc (.cells #[.int .i64 0, .slice none 0 0] 92) = w1 := ⟨_, rfl⟩
    have hk1 : Keeps (fun _ => False) w w1 := by rw [← hw1]; exact (Keeps.refl _ w).alloc _
    have hg1 : w1.heap[w.heap.size]? = some (.cells #[.int .i64 0, .slice none 0 0] 92 (0, 0)) := by rw [← hw1]; exact heap_alloc_new w _
    have hl1 : w.heap.size < w1.heap.size := (Array.getElem?_eq_some_iff.1 hg1).1
    have hrow : w1.ownsRow w1.heap.size 3 1 (.slice none 0 0) 0 (dfl []) := World.ownsRow_nil ..
    obtain ⟨B, hB⟩ : ∃ B, B = w1.heap.size := ⟨_, rfl⟩
    rw [← hB] at hrow
    have hBw : w1.heap.size ≤ B := Nat.le_of_eq hB.symm
    have hB0 : B ≤ w1.heap.size := Nat.le_of_eq hB
    rw [hw1]
    have HG1 := Lib.hid hg1
    clear hB hw1 hg1
    go_loopw [3, 5] (fun uv v' wr => ∃ (k : Nat) (u : Int) (out : List Int), k ≤ 4 ∧ uv = .int .u64 u ∧ RowKit.Hid (Digs out ∧ 0 ≤ u ∧ u < 18446744073709551616 ∧ dv out + u * pd k = (-x)) ∧ RowKit.Hid (out.length = k) ∧ wr.ownsRow B 3 1 v' k (dfl out) ∧ Keeps (fun _ => False) w1 wr ∧ B ≤ wr.heap.size) (fun uv _ _ => (intOf uv).toNat)
    case atStart => exact ⟨0, (-x), [], by omega, rfl, ⟨fun _ h => (List.not_mem_nil h).elim, HN.out.2, by rw [← pd_four]; exact HN.out.1, by rw [pd_zero]; simp [dv]⟩, rfl, hrow, Keeps.refl _ _, by omega⟩
    case round =>
      clear hrow
      obtain ⟨k, u, out, hk, rfl, HO, Hlen, hr, hK, hBr⟩ := hrel
      obtain ⟨ao5, cap5, rfl⟩ := own_shape hr
      by_cases h1 : 0 < u
      · have h1' : u > 0 := h1
        have Hst := Lib.hid (int_step HO.out.1 Hlen.out HO.out.2.2.2 HN.out.1 h1)
        have hub := HO.out.2.2.1
        have hw3 : u.tmod 65536 = u % 65536 := Int.tmod_eq_emod_of_nonneg (by omega)
        have hw4 : u.tdiv 65536 = u / 65536 := Int.tdiv_eq_ediv_of_nonneg (by omega)
        have hw5 : IntKind.u64.wrap (u % 65536) = u % 65536 := by rw [IntKind.wrap_u64]; omega
        have hw6 : IntKind.u64.wrap (u / 65536) = u / 65536 := by rw [IntKind.wrap_u64]; omega
        have hw7 : IntKind.i64.wrap (u % 65536) = u % 65536 := by rw [IntKind.wrap_i64]; omega
        have hub2 : 0 ≤ u / 65536 ∧ u / 65536 < 18446744073709551616 ∧ u / 65536 < u := by omega
        have HUB := Lib.hid hub2
        clear hub hub2
        go_wp2_with (at_builtin; refine wpList_append_own _ rfl _ _ 90 rfl B 3 i0 (.int .i64 0) 1 8 Tryz.underlying90 hi hz0 hz1 hz2 rfl (by decide) _ _ _ rfl (hr.alloc _) ⟨wr.heap.size, 0, none⟩ 1 1 [.int .i64 (u % 65536)] rfl rfl ?c1 ?c2 ?c3 ?c4 ?c5 ?_)
        try
          case c1 =>
            intro j u hj
            have hadd : (⟨wr.heap.size, 0, none⟩ : Addr).add j = ⟨wr.heap.size, 0 + j, none⟩ := by unfold Addr.add; split <;> simp_all
            rw [hadd, cell_of_row _ _ _ _ _ _ (heap_alloc_new wr _), Nat.zero_add]
            simpa using hj
        case c2 => first | (intro u hu; simp at hu; rw [hu]; rfl) | rfl
        case c3 => unfold maxLen; omega
        case c4 => omega
        case c5 => first | omega | (simp; omega)
        intro v2 w2 hown2 hgrow2 _
        have hK2 : Keeps (fun _ => False) w1 w2 := (hK.alloc _).grown hgrow2 (fun g hg hlt => by have := hr.lt g hg; omega)
        have hsz : wr.heap.size ≤ w2.heap.size := Nat.le_trans (by simp) hgrow2.size
        have hown3 : w2.ownsRow B 3 1 v2 (k + 1) (dfl (out ++ [(u % 65536)])) := by rw [← dfl_snoc]; exact hown2
        clear hown2 hgrow2
        go_wp2
        go_roundw
        case rel => exact ⟨k + 1, u / 65536, out ++ [u % 65536], Hst.out.1, rfl, ⟨Hst.out.2.1, HUB.out.1, HUB.out.2.1, Hst.out.2.2⟩, len_snoc Hlen.out, hown3, hK2, by omega⟩
        case measure => have := HUB.out; simp [intOf]; omega
      · have h1' : ¬ u > 0 := h1
        have hu0 : u = 0 := by have := HO.out.2.1; omega
        have he : dv out = (-x) := by have := HO.out.2.2.2; rw [hu0] at this; omega
        have hdA := dAt_fin hr Hlen.out
        have hlen := Hlen.out
        have HDA := Lib.hid hdA
        have HE := Lib.hid he
        have HK := Lib.hid hK
        clear hu0 hr hdA he hK
        obtain ⟨kk, hkk⟩ : ∃ kk, out.length = kk := ⟨_, rfl⟩
        go_wp2_with fail
        refine (make_calls (-1) _ out x 4 (by omega) (by omega) HO.out.1 (fun _ => by omega) (by rw [HE.out]; omega) _ HDA.out).mono ?_; rintro e w4 ⟨v4, rfl, hv4, hk4⟩
        obtain ⟨s9, a9, q9, l9, rfl, hd9, hr9, hn9⟩ := hv4.open
        have hG := (knil HK.out hk4).block _ hl1 (fun h => h) |>.trans HG1.out
        have e0 := two_frozen hG 0
        have e1 := two_frozen hG 1
        have f0 := cells_at hG 0
        have f1 := cells_at hG 1
        have HG := Lib.hid hG
        have HD9 := Lib.hid hd9
        have HR9 := Lib.hid hr9
        clear hG hd9 hr9
        go_wp2_with fail
        refine bodyPost_ret (results_nb rfl _ _ _ _ _ _ _ rfl (cells_two HG.out)) rfl (fin_nb (knil hk1 (knil HK.out hk4)) HG.out (Nat.le_refl _) HD9.out HR9.out hn9)
  · have hneg : ¬ x < 0 := hx0
    have hmod : x % 18446744073709551616 = x := by
      unfold IsS at hx
      omega
    have HN : RowKit.Hid (x < pd 4 ∧ 0 ≤ x) := by
      unfold IsS at hx
      rw [pd_four]
      exact ⟨by omega, by omega⟩
    clear hx
    go_enter Tryz.func139, Tryz.ntmps139
    go_upto_region 7 with fail
    obtain ⟨w1, hw1⟩ : ∃ w1, w.alloc (.cells #[.int .i64 0, .slice none 0 0] 92) = w1 := ⟨_, rfl⟩
    have hk1 : Keeps (fun _ => False) w w1 := by rw [← hw1]; exact (Keeps.refl _ w).alloc _
    have hg1 : w1.heap[w.heap.size]? = some (.cells #[.int .i64 0, .slice none 0 0] 92 (0, 0)) := by rw [← hw1]; exact heap_alloc_new w _
    have hl1 : w.heap.size < w1.heap.size := (Array.getElem?_eq_some_iff.1 hg1).1
    have hrow : w1.ownsRow w1.heap.size 3 1 (.slice none 0 0) 0 (dfl []) := World.ownsRow_nil ..
    obtain ⟨B, hB⟩ : ∃ B, B = w1.heap.size := ⟨_, rfl⟩
    rw [← hB] at hrow
    have hBw : w1.heap.size ≤ B := Nat.le_of_eq hB.symm
    have hB0 : B ≤ w1.heap.size := Nat.le_of_eq hB
    rw [hw1]
    have HG1 := Lib.hid hg1
    clear hB hw1 hg1
    go_loopw [3, 5] (fun uv v' wr => ∃ (k : Nat) (u : Int) (out : List Int), k ≤ 4 ∧ uv = .int .u64 u ∧ RowKit.Hid (Digs out ∧ 0 ≤ u ∧ u < 18446744073709551616 ∧ dv out + u * pd k = x) ∧ RowKit.Hid (out.length = k) ∧ wr.ownsRow B 3 1 v' k (dfl out) ∧ Keeps (fun _ => False) w1 wr ∧ B ≤ wr.heap.size) (fun uv _ _ => (intOf uv).toNat)
    case atStart => exact ⟨0, x, [], by omega, rfl, ⟨fun _ h => (List.not_mem_nil h).elim, HN.out.2, by rw [← pd_four]; exact HN.out.1, by rw [pd_zero]; simp [dv]⟩, rfl, hrow, Keeps.refl _ _, by omega⟩
    case round =>
      clear hrow
      obtain ⟨k, u, out, hk, rfl, HO, Hlen, hr, hK, hBr⟩ := hrel
      obtain ⟨ao5, cap5, rfl⟩ := own_shape hr
      by_cases h1 : 0 < u
      · have h1' : u > 0 := h1
        have Hst := Lib.hid (int_step HO.out.1 Hlen.out HO.out.2.2.2 HN.out.1 h1)
        have hub := HO.out.2.2.1
        have hw3 : u.tmod 65536 = u % 65536 := Int.tmod_eq_emod_of_nonneg (by omega)
        have hw4 : u.tdiv 65536 = u / 65536 := Int.tdiv_eq_ediv_of_nonneg (by omega)
        have hw5 : IntKind.u64.wrap (u % 65536) = u % 65536 := by rw [IntKind.wrap_u64]; omega
        have hw6 : IntKind.u64.wrap (u / 65536) = u / 65536 := by rw [IntKind.wrap_u64]; omega
        have hw7 : IntKind.i64.wrap (u % 65536) = u % 65536 := by rw [IntKind.wrap_i64]; omega
        have hub2 : 0 ≤ u / 65536 ∧ u / 65536 < 18446744073709551616 ∧ u / 65536 < u := by omega
        have HUB := Lib.hid hub2
        clear hub hub2
        go_wp2_with (at_builtin; refine wpList_append_own _ rfl _ _ 90 rfl B 3 i0 (.int .i64 0) 1 8 Tryz.underlying90 hi hz0 hz1 hz2 rfl (by decide) _ _ _ rfl (hr.alloc _) ⟨wr.heap.size, 0, none⟩ 1 1 [.int .i64 (u % 65536)] rfl rfl ?c1 ?c2 ?c3 ?c4 ?c5 ?_)
        try
          case c1 =>
            intro j u hj
            have hadd : (⟨wr.heap.size, 0, none⟩ : Addr).add j = ⟨wr.heap.size, 0 + j, none⟩ := by unfold Addr.add; split <;> simp_all
            rw [hadd, cell_of_row _ _ _ _ _ _ (heap_alloc_new wr _), Nat.zero_add]
            simpa using hj
        case c2 => first | (intro u hu; simp at hu; rw [hu]; rfl) | rfl
        case c3 => unfold maxLen; omega
        case c4 => omega
        case c5 => first | omega | (simp; omega)
        intro v2 w2 hown2 hgrow2 _
        have hK2 : Keeps (fun _ => False) w1 w2 := (hK.alloc _).grown hgrow2 (fun g hg hlt => by have := hr.lt g hg; omega)
        have hsz : wr.heap.size ≤ w2.heap.size := Nat.le_trans (by simp) hgrow2.size
        have hown3 : w2.ownsRow B 3 1 v2 (k + 1) (dfl (out ++ [(u % 65536)])) := by rw [← dfl_snoc]; exact hown2
        clear hown2 hgrow2
        go_wp2
        go_roundw
        case rel => exact ⟨k + 1, u / 65536, out ++ [u % 65536], Hst.out.1, rfl, ⟨Hst.out.2.1, HUB.out.1, HUB.out.2.1, Hst.out.2.2⟩, len_snoc Hlen.out, hown3, hK2, by omega⟩
        case measure => have := HUB.out; simp [intOf]; omega
      · have h1' : ¬ u > 0 := h1
        have hu0 : u = 0 := by have := HO.out.2.1; omega
        have he : dv out = x := by have := HO.out.2.2.2; rw [hu0] at this; omega
        have hdA := dAt_fin hr Hlen.out
        have hlen := Hlen.out
        have HDA := Lib.hid hdA
        have HE := Lib.hid he
        have HK := Lib.hid hK
        clear hu0 hr hdA he hK
        obtain ⟨kk, hkk⟩ : ∃ kk, out.length = kk := ⟨_, rfl⟩
        go_wp2_with fail
        refine (make_calls 1 _ out x 4 (by omega) (by omega) HO.out.1 (fun _ => by omega) (by rw [HE.out]; omega) _ HDA.out).mono ?_; rintro e w4 ⟨v4, rfl, hv4, hk4⟩
        obtain ⟨s9, a9, q9, l9, rfl, hd9, hr9, hn9⟩ := hv4.open
        have hG := (knil HK.out hk4).block _ hl1 (fun h => h) |>.trans HG1.out
        have e0 := two_frozen hG 0
        have e1 := two_frozen hG 1
        have f0 := cells_at hG 0
        have f1 := cells_at hG 1
        have HG := Lib.hid hG
        have HD9 := Lib.hid hd9
        have HR9 := Lib.hid hr9
        clear hG hd9 hr9
        go_wp2_with fail
        refine bodyPost_ret (results_nb rfl _ _ _ _ _ _ _ rfl (cells_two HG.out)) rfl (fin_nb (knil hk1 (knil HK.out hk4)) HG.out (Nat.le_refl _) HD9.out HR9.out hn9)

theorem sgn_mul_wrapN (x y : Int) : IntKind.i64.wrap (sgnI x * sgnI y) = sgnI x * sgnI y := by
  rcases sgnI_cases x with ⟨_, e⟩ | ⟨_, e⟩ | ⟨_, e⟩ <;> rcases sgnI_cases y with ⟨_, f⟩ | ⟨_, f⟩ | ⟨_, f⟩ <;> rw [e, f] <;> decide
theorem own_block {w : World} {base : Nat} {v : Value} {n : Nat} {l : List Value} (h : w.ownsRow base 3 1 v n l) (hn : n ≠ 0) : ∃ g cap, v = .slice (some ⟨g, 0, none⟩) n cap ∧ base ≤ g ∧ g < w.heap.size := by
  rcases h.2 with ⟨_, h0⟩ | ⟨g, cap, cur, rfl, hb, hg, _⟩
  · exact absurd h0 hn
  · exact ⟨g, cap, rfl, hb, (Array.getElem?_eq_some_iff.1 hg).1⟩
theorem sgn_mul_wrap2 {s t x y : Int} {l m : List Int} (h : Rep s l x) (k : Rep t m y) : IntKind.i64.wrap (s * t) = s * t := by rw [h.1, k.1]; exact sgn_mul_wrapN x y
theorem repl_snoc (k : Nat) : List.replicate k (0 : Int) ++ [0] = List.replicate (k + 1) 0 := by rw [List.replicate_succ']
set_option maxRecDepth 100000 in
set_option maxHeartbeats 8000000 in
theorem nmul_calls (v u : Value) (x y : Int) (nl nm : Nat) (hnl : nl ≤ 400) (hnm : nm ≤ 400) (w : World) (hv : nAt w v x nl) (hu : nAt w u y nm) : Calls Tryz.prog 138 #[v, u] w (GivesN w (x * y) (nl + nm)) := by
  obtain ⟨i0, hi, hz0, hz1, hz2⟩ := info_parts infoD
  obtain ⟨s, ao, cap, l, rfl, hd, hr, hln⟩ := hv.open
  obtain ⟨t, bo, cbp, m, rfl, hd', hr', hmn⟩ := hu.open
  have hst := sgn_mul_wrap2 hr hr'
  have HD := Lib.hid hd
  have HR := Lib.hid hr
  have HD' := Lib.hid hd'
  have HR' := Lib.hid hr'
  clear hv hu hd hr hd' hr'
  obtain ⟨N, hN⟩ : ∃ N, l.length + m.length = N := ⟨_, rfl⟩
  have hNI : (l.length : Int) + (m.length : Int) = (N : Int) := by omega
  have hNw : IntKind.i64.wrap (N : Int) = (N : Int) := by rw [IntKind.wrap_i64]; omega
  have HN := Lib.hid hN
  have hNb : N ≤ 800 := by omega
  clear hN
  go_enter Tryz.func138, Tryz.ntmps138
  go_upto_region 1 with fail
  obtain ⟨w1, hw1⟩ : ∃ w1, ((w.alloc (.cells #[.int .i64 s, .slice ao l.length cap] 92)).alloc (.cells #[.int .i64 t, .slice bo m.length cbp] 92)).alloc (.cells #[.int .i64 0, .slice none 0 0] 92) = w1 := ⟨_, rfl⟩
  have hk1 : Keeps (fun _ => False) w w1 := by rw [← hw1]; exact (((Keeps.refl _ w).alloc _).alloc _).alloc _
  have hg0 : w1.heap[w.heap.size]? = some (.cells #[.int .i64 s, .slice ao l.length cap] 92 (0, 0)) := by rw [← hw1, Below.heap_alloc _ _ _ (by simp <;> omega), Below.heap_alloc _ _ _ (by simp)]; exact heap_alloc_new w _
  have hg1 : w1.heap[w.heap.size + 1]? = some (.cells #[.int .i64 t, .slice bo m.length cbp] 92 (0, 0)) := by
    rw [← hw1, Below.heap_alloc _ _ _ (by simp)]
    have := heap_alloc_new (w.alloc (.cells #[.int .i64 s, .slice ao l.length cap] 92)) (.cells #[.int .i64 t, .slice bo m.length cbp] 92)
    simpa using this
  have hg2 : w1.heap[w.heap.size + 1 + 1]? = some (.cells #[.int .i64 0, .slice none 0 0] 92 (0, 0)) := by
    rw [← hw1]
    have := heap_alloc_new ((w.alloc (.cells #[.int .i64 s, .slice ao l.length cap] 92)).alloc (.cells #[.int .i64 t, .slice bo m.length cbp] 92)) (.cells #[.int .i64 0, .slice none 0 0] 92)
    simpa using this
  rw [hw1]
  clear hw1
  have c0 := cells_at hg0 0
  have c1 := cells_at hg0 1
  have c2 := cells_at hg1 0
  have c3 := cells_at hg1 1
  have hl0 : w.heap.size < w1.heap.size := (Array.getElem?_eq_some_iff.1 hg0).1
  have hl1 : w.heap.size + 1 < w1.heap.size := (Array.getElem?_eq_some_iff.1 hg1).1
  have hl2 : w.heap.size + 1 + 1 < w1.heap.size := (Array.getElem?_eq_some_iff.1 hg2).1
  have HG2 := Lib.hid hg2
  clear hg0 hg1 hg2
  have hrow : w1.ownsRow w1.heap.size 3 1 (.slice none 0 0) 0 (dfl []) := World.ownsRow_nil ..
  obtain ⟨B, hB⟩ : ∃ B, B = w1.heap.size := ⟨_, rfl⟩
  rw [← hB] at hrow
  have hBw : w1.heap.size ≤ B := Nat.le_of_eq hB.symm
  have hB0 : B ≤ w1.heap.size := Nat.le_of_eq hB
  clear hB
  go_wp2_with fail
  go_loopw [5, 6] (fun v' i wr => ∃ k : Nat, k ≤ N ∧ i = .int .i64 k ∧ wr.ownsRow B 3 1 v' k (dfl (List.replicate k 0)) ∧ Keeps (fun _ => False) w1 wr ∧ B ≤ wr.heap.size) (fun _ i _ => N - (intOf i).toNat)
  case atStart => exact ⟨0, by omega, rfl, hrow, Keeps.refl _ _, hB0⟩
  case round =>
    clear hrow
    obtain ⟨k, hk, rfl, hr, hK, hBr⟩ := hrel
    have hk0 : (0 : Int) ≤ (k : Int) := by omega
    obtain ⟨ao5, cap5, rfl⟩ := own_shape hr
    have C1 := Lib.hid c1
    have C3 := Lib.hid c3
    have C0 := Lib.hid c0
    have C2 := Lib.hid c2
    have d0 := (hK.cell (p := ⟨w.heap.size, 0, none⟩) hl0 (fun h => h)).trans c0
    have d1 := (hK.cell (p := ⟨w.heap.size, 1, none⟩) hl0 (fun h => h)).trans c1
    have d2 := (hK.cell (p := ⟨w.heap.size + 1, 0, none⟩) hl1 (fun h => h)).trans c2
    have d3 := (hK.cell (p := ⟨w.heap.size + 1, 1, none⟩) hl1 (fun h => h)).trans c3
    clear c0 c1 c2 c3
    by_cases hkN : k < N
    · have hkN' : (k : Int) < (N : Int) := by omega
      go_wp2_with (at_builtin; refine wpList_append_own _ rfl _ _ 90 rfl B 3 i0 (.int .i64 0) 1 8 Tryz.underlying90 hi hz0 hz1 hz2 rfl (by decide) _ _ _ rfl (hr.alloc _) ⟨wr.heap.size, 0, none⟩ 1 1 [.int .i64 0] rfl rfl ?c1 ?c2 ?c3 ?c4 ?c5 ?_)
      try
        case c1 =>
          intro j u hj
          have hadd : (⟨wr.heap.size, 0, none⟩ : Addr).add j = ⟨wr.heap.size, 0 + j, none⟩ := by unfold Addr.add; split <;> simp_all
          rw [hadd, cell_of_row _ _ _ _ _ _ (heap_alloc_new wr _), Nat.zero_add]
          simpa using hj
      case c2 => first | (intro u hu; simp at hu; rw [hu]; rfl) | rfl
      case c3 => unfold maxLen; omega
      case c4 => omega
      case c5 => first | omega | (simp; omega)
      intro v2 w2 hown2 hgrow2 _
      have hK2 : Keeps (fun _ => False) w1 w2 := (hK.alloc _).grown hgrow2 (fun g hg hlt => by have := hr.lt g hg; omega)
      have hsz : wr.heap.size ≤ w2.heap.size := Nat.le_trans (by simp) hgrow2.size
      have hown3 : w2.ownsRow B 3 1 v2 (k + 1) (dfl (List.replicate k 0 ++ [0])) := by rw [← dfl_snoc]; exact hown2
      clear hown2 hgrow2
      rw [repl_snoc] at hown3
      go_wp2
      go_roundw
      case rel => exact ⟨k + 1, by omega, by go_num, hown3, hK2, by omega⟩
      case measure => simp [intOf]; omega
    · have hkN' : ¬ (k : Int) < (N : Int) := by omega
      obtain rfl : k = N := by omega
      by_cases hN0 : k = 0
      · have hl00 : l = [] := List.eq_nil_of_length_eq_zero (by have := HN.out; omega)
        have hm00 : m = [] := List.eq_nil_of_length_eq_zero (by have := HN.out; omega)
        subst hl00
        subst hm00
        subst hN0
        have hdA := dAt_fin hr rfl
        have HDA := Lib.hid hdA
        have HK := Lib.hid hK
        have HP : RowKit.Hid (Digs (List.replicate 0 (0 : Int)) ∧ dv (List.replicate 0 (0 : Int)) = dv ([] : List Int) * dv ([] : List Int)) := Lib.hid ⟨fun _ h => (List.not_mem_nil h).elim, rfl⟩
        have HOL : RowKit.Hid ((List.replicate 0 (0 : Int)).length ≤ nl + nm) := by show _ ≤ _; simp
        clear hdA hr
        go_wp2_with fail
        go_loopw [7, 8, 9, 10] (fun i _ _ _ w2 => i = .int .i64 0 ∧ w2 = wr) (fun _ _ _ _ _ => 0)
        case atStart => exact ⟨rfl, rfl⟩
        case round =>
          obtain ⟨rfl, rfl⟩ := hrel
          go_wp2_with fail
          refine (make_calls (s * t) _ (List.replicate 0 0) (x * y) (nl + nm) (by have := HOL.out; omega) (by omega) HP.out.1 (by rw [HP.out.2]; exact (rep_mul HR.out HR'.out).2) (by rw [HP.out.2]; exact (rep_mul HR.out HR'.out).1.symm) _ HDA.out).mono ?_; rintro e w9 ⟨v9, rfl, hv9, hk9⟩
          obtain ⟨s9, a9, q9, l9, rfl, hd9, hr9, hn9⟩ := hv9.open
          have hkk := knil HK.out hk9
          have hG := (hkk.block _ hl2 (fun h => h)).trans HG2.out
          have e0 := two_frozen hG 0
          have e1 := two_frozen hG 1
          have f0 := cells_at hG 0
          have f1 := cells_at hG 1
          have HG := Lib.hid hG
          have HD9 := Lib.hid hd9
          have HR9 := Lib.hid hr9
          have HKK := Lib.hid hkk
          clear hG hd9 hr9 hkk
          go_wp2_with fail
          refine bodyPost_ret (results_nb rfl _ _ _ _ _ _ _ rfl (cells_two HG.out)) rfl (fin_nb (knil hk1 HKK.out) HG.out (by omega) HD9.out HR9.out hn9)
      · obtain ⟨g, cap6, he, hBg, hgl⟩ := own_block hr hN0
        injection he with he1 _ he3
        subst he1
        subst he3
        have HM0 := Lib.hid (mulD_start l m)
        rw [HN.out] at HM0
        obtain ⟨wq, hwq⟩ : ∃ wq, wr = wq := ⟨_, rfl⟩
        rw [hwq] at hr hK hBr d0 d1 d2 d3 hgl ⊢
        have HKQ := Lib.hid hK
        have D0 := Lib.hid d0
        have D1 := Lib.hid d1
        have D2 := Lib.hid d2
        have D3 := Lib.hid d3
        have hq1 : w1.heap.size ≤ wq.heap.size := hK.size
        clear hwq hK hk hkN hkN' hk0
        go_wp2_with fail
        go_loopw [7, 8, 9, 10] (fun iv _ _ _ w2 => ∃ (i : Nat) (out : List Int), i ≤ l.length ∧ iv = .int .i64 i ∧ RowKit.Hid (MulD l m i 0 out 0) ∧ w2.ownsRow B 3 1 (.slice (some ⟨g, 0, none⟩) k cap5) k (dfl out) ∧ Keeps (fun j => j = g) wq w2) (fun iv _ _ _ _ => l.length - (intOf iv).toNat)
        case atStart => exact ⟨0, _, by omega, rfl, HM0, hr, Keeps.refl _ _⟩
        case round =>
          clear hr HM0 d0 d1 d2 d3
          obtain ⟨i, out, hil, rfl, HM, hr, hK⟩ := hrel
          have hi0' : (0 : Int) ≤ (i : Int) := by omega
          have b1 := (hK.cell (p := ⟨w.heap.size, 1, none⟩) (Nat.lt_of_lt_of_le hl0 hq1) (by show ¬ w.heap.size = g; omega)).trans D1.out
          have b3 := (hK.cell (p := ⟨w.heap.size + 1, 1, none⟩) (Nat.lt_of_lt_of_le hl1 hq1) (by show ¬ w.heap.size + 1 = g; omega)).trans D3.out
          by_cases hil' : i < l.length
          · have hilI : (i : Int) < (l.length : Int) := by omega
            have HB1 := Lib.hid b1
            have HB3 := Lib.hid b3

            go_wp2_with fail

            go_loopw [8, 9, 10] (fun cv jv _ w2 => ∃ (j : Nat) (o2 : List Int) (c : Int), j ≤ m.length ∧ jv = .int .i64 j ∧ cv = .int .i64 c ∧ RowKit.Hid (MulD l m i j o2 c) ∧ w2.ownsRow B 3 1 (.slice (some ⟨g, 0, none⟩) k cap5) k (dfl o2) ∧ Keeps (fun j => j = g) wq w2) (fun _ jv _ _ => m.length - (intOf jv).toNat)
            case atStart => exact ⟨0, out, 0, Nat.zero_le _, rfl, rfl, HM, hr, hK⟩
            case round =>
              clear hr hK HM HB1 HB3 b1 b3
              obtain ⟨j, o2, c, hjm, rfl, rfl, HM, hr, hK⟩ := hrel
              have hj0 : (0 : Int) ≤ (j : Int) := by omega
              have b1 := (hK.cell (p := ⟨w.heap.size, 1, none⟩) (Nat.lt_of_lt_of_le hl0 hq1) (by show ¬ w.heap.size = g; omega)).trans D1.out
              have b3 := (hK.cell (p := ⟨w.heap.size + 1, 1, none⟩) (Nat.lt_of_lt_of_le hl1 hq1) (by show ¬ w.heap.size + 1 = g; omega)).trans D3.out
              by_cases hjt : j < m.length
              · have hjtI : (j : Int) < (m.length : Int) := by omega
                obtain ⟨ba, oa, ca', he, _, hba, hca⟩ := HD.out.block hil'
                injection he with he1 _ he3
                subst he1
                subst he3
                obtain ⟨bb, ob, cb', he, _, hbb, hcb⟩ := HD'.out.block hjt
                injection he with he1 _ he3
                subst he1
                subst he3
                have hkq : Keeps (fun _ => False) w wq := knil hk1 HKQ.out
                have hws := hk1.size
                have b2 := ((hK.cell (p := ⟨ba, oa + i, none⟩) (Nat.lt_of_lt_of_le hba hkq.size) (by show ¬ ba = g; omega)).trans (hkq.cell (p := ⟨ba, oa + i, none⟩) hba (fun h => h))).trans (hca i hil')
                have b4 := ((hK.cell (p := ⟨bb, ob + j, none⟩) (Nat.lt_of_lt_of_le hbb hkq.size) (by show ¬ bb = g; omega)).trans (hkq.cell (p := ⟨bb, ob + j, none⟩) hbb (fun h => h))).trans (hcb j hjt)
                obtain ⟨q, hq⟩ : ∃ q, i + j = q := ⟨_, rfl⟩
                have hqI : (i : Int) + (j : Int) = (q : Int) := by omega
                have hqn : q < k := by have := HN.out; omega
                have hqn' : (q : Int) < (k : Int) := by omega
                have hq0 : (0 : Int) ≤ (q : Int) := by omega
                have hqw : IntKind.i64.wrap (q : Int) = (q : Int) := by rw [IntKind.wrap_i64]; omega
                have hol : o2.length = k := by have := HM.out.1; have := HN.out; omega
                have ho : o2[q]? = some (dg o2 q) := by unfold dg; rw [List.getElem?_eq_getElem (by omega)]; rfl
                have b5 := (hr.cellAt q (by omega)).trans (dfl_get ho)
                have b6 := hr.frozenAt q
                obtain ⟨z, hz⟩ : ∃ z, dg o2 q + dg l i * dg m j + c = z := ⟨_, rfl⟩
                have hn := mulD_num (dg_ok HR.out.2.1.1 i) (dg_ok HR'.out.2.1.1 j) (dg_ok HM.out.2.1 q) HM.out.2.2.1
                have hw1 : IntKind.i64.wrap (dg l i * dg m j) = dg l i * dg m j := by rw [IntKind.wrap_i64]; omega
                have hcc := HM.out.2.2.1
                have hw2 : IntKind.i64.wrap (dg o2 q + dg l i * dg m j) = dg o2 q + dg l i * dg m j := by rw [IntKind.wrap_i64]; omega
                have hw3 : IntKind.i64.wrap z = z := by rw [IntKind.wrap_i64]; omega
                have hw4 : z.tmod 65536 = z % 65536 := Int.tmod_eq_emod_of_nonneg (by omega)
                have hw5 : z.tdiv 65536 = z / 65536 := Int.tdiv_eq_ediv_of_nonneg (by omega)
                have hw6 : IntKind.i64.wrap (z % 65536) = z % 65536 := by rw [IntKind.wrap_i64]; omega
                have hw7 : IntKind.i64.wrap (z / 65536) = z / 65536 := by rw [IntKind.wrap_i64]; omega
                have HM2 := mulD_step HR.out.2.1.1 HR'.out.2.1.1 hil' hjt HM.out
                rw [hq, hz] at HM2
                have HM2 := Lib.hid HM2
                have hst2 := (hr.stored q (.int .i64 (z % 65536))).1
                rw [dfl_set] at hst2
                have Hst2 := Lib.hid hst2
                have HK := Lib.hid hK
                clear hn hcc hst2 hr hK ho hca hcb hkq hws hq hol
                go_wp2_with fail
                refine wp_region_late (fun W => W.cell? ⟨w.heap.size, 1, none⟩ = some (.slice (some ⟨ba, oa, none⟩) l.length cap) ∧ W.cell? ⟨w.heap.size + 1, 1, none⟩ = some (.slice (some ⟨bb, ob, none⟩) m.length cbp) ∧ W.cell? ⟨ba, oa + i, none⟩ = some (.int .i64 (dg l i)) ∧ W.cell? ⟨bb, ob + j, none⟩ = some (.int .i64 (dg m j)) ∧ W.cell? ⟨g, q, none⟩ = some (.int .i64 (dg o2 q))) [] (by kernel_rfl) ?_
                have hS : wr.drew.cell? ⟨w.heap.size, 1, none⟩ = some (.slice (some ⟨ba, oa, none⟩) l.length cap) ∧ wr.drew.cell? ⟨w.heap.size + 1, 1, none⟩ = some (.slice (some ⟨bb, ob, none⟩) m.length cbp) ∧ wr.drew.cell? ⟨ba, oa + i, none⟩ = some (.int .i64 (dg l i)) ∧ wr.drew.cell? ⟨bb, ob + j, none⟩ = some (.int .i64 (dg m j)) ∧ wr.drew.cell? ⟨g, q, none⟩ = some (.int .i64 (dg o2 q)) := ⟨b1, b3, b2, b4, b5⟩
                refine wpAnyL_any (i := 0) (oi := _) (v := .slice (some ⟨g, 0, none⟩) k cap5) rfl (by kernel_rfl) (by kernel_rfl) (by kernel_rfl) (by kernel_rfl) (fun _ _ _ h => (h : False).elim) (Or.inl ⟨by kernel_rfl, ?_⟩) (fun _ => by assumption) ?_
                · intro w _
                  go_simp
                try simp only [List.getElem_toArray, List.getElem_cons_zero, List.getElem_cons_succ, Act.put, List.setIfInBounds_toArray, List.set_cons_zero, List.set_cons_succ]
                refine wpAnyL_any (i := 1) (oi := _) (v := .int .i64 (i : Int)) rfl (by kernel_rfl) (by kernel_rfl) (by kernel_rfl) (by kernel_rfl) (fun _ _ _ h => (h : False).elim) (Or.inl ⟨by kernel_rfl, ?_⟩) (fun _ => by assumption) ?_
                · intro w _
                  go_simp
                try simp only [List.getElem_toArray, List.getElem_cons_zero, List.getElem_cons_succ, Act.put, List.setIfInBounds_toArray, List.set_cons_zero, List.set_cons_succ]
                refine wpAnyL_any (i := 2) (oi := _) (v := .int .i64 (j : Int)) rfl (by kernel_rfl) (by kernel_rfl) (by kernel_rfl) (by kernel_rfl) (fun _ _ _ h => (h : False).elim) (Or.inl ⟨by kernel_rfl, ?_⟩) (fun _ => by assumption) ?_
                · intro w _
                  go_simp
                try simp only [List.getElem_toArray, List.getElem_cons_zero, List.getElem_cons_succ, Act.put, List.setIfInBounds_toArray, List.set_cons_zero, List.set_cons_succ]
                refine wpAnyL_any (i := 3) (oi := _) (v := .int .i64 (q : Int)) rfl (by kernel_rfl) (by kernel_rfl) (by kernel_rfl) (by kernel_rfl) (fun _ _ _ h => (h : False).elim) (Or.inl ⟨by kernel_rfl, ?_⟩) (fun _ => by assumption) ?_
                · intro w _
                  go_simp
                try simp only [List.getElem_toArray, List.getElem_cons_zero, List.getElem_cons_succ, Act.put, List.setIfInBounds_toArray, List.set_cons_zero, List.set_cons_succ]
                refine wpAnyL_any (i := 4) (oi := _) (v := .pointer (some ⟨g, q, none⟩)) rfl (by kernel_rfl) (by kernel_rfl) (by kernel_rfl) (by kernel_rfl) (fun _ _ _ h => (h : False).elim) (Or.inl ⟨by kernel_rfl, ?_⟩) (fun _ => by assumption) ?_
                · intro w _
                  go_simp
                try simp only [List.getElem_toArray, List.getElem_cons_zero, List.getElem_cons_succ, Act.put, List.setIfInBounds_toArray, List.set_cons_zero, List.set_cons_succ]
                refine wpAnyL_take (i := 5) (oi := _) (v := .int .i64 (dg o2 q)) rfl (by kernel_rfl) (by kernel_rfl) (by kernel_rfl) (by kernel_rfl) (fun _ _ _ h => (h : False).elim) (Or.inl ⟨by kernel_rfl, ?_⟩) (by assumption) ?_
                · intro w hSw
                  obtain ⟨s0, s1, s2, s3, s4⟩ := hSw
                  go_simp
                try simp only [List.getElem_toArray, List.getElem_cons_zero, List.getElem_cons_succ, Act.put, List.setIfInBounds_toArray, List.set_cons_zero, List.set_cons_succ]
                refine wpAnyL_any (i := 6) (oi := _) (v := .pointer (some ⟨w.heap.size, 1, none⟩)) rfl (by kernel_rfl) (by kernel_rfl) (by kernel_rfl) (by kernel_rfl) (fun _ _ _ h => (h : False).elim) (Or.inl ⟨by kernel_rfl, ?_⟩) (fun _ => by assumption) ?_
                · intro w _
                  go_simp
                try simp only [List.getElem_toArray, List.getElem_cons_zero, List.getElem_cons_succ, Act.put, List.setIfInBounds_toArray, List.set_cons_zero, List.set_cons_succ]
                refine wpAnyL_take (i := 7) (oi := _) (v := .slice (some ⟨ba, oa, none⟩) l.length cap) rfl (by kernel_rfl) (by kernel_rfl) (by kernel_rfl) (by kernel_rfl) (fun _ _ _ h => (h : False).elim) (Or.inl ⟨by kernel_rfl, ?_⟩) (by assumption) ?_
                · intro w hSw
                  obtain ⟨s0, s1, s2, s3, s4⟩ := hSw
                  go_simp
                try simp only [List.getElem_toArray, List.getElem_cons_zero, List.getElem_cons_succ, Act.put, List.setIfInBounds_toArray, List.set_cons_zero, List.set_cons_succ]
                refine wpAnyL_any (i := 8) (oi := _) (v := .int .i64 (i : Int)) rfl (by kernel_rfl) (by kernel_rfl) (by kernel_rfl) (by kernel_rfl) (fun _ _ _ h => (h : False).elim) (Or.inl ⟨by kernel_rfl, ?_⟩) (fun _ => by assumption) ?_
                · intro w _
                  go_simp
                try simp only [List.getElem_toArray, List.getElem_cons_zero, List.getElem_cons_succ, Act.put, List.setIfInBounds_toArray, List.set_cons_zero, List.set_cons_succ]
                refine wpAnyL_any (i := 9) (oi := _) (v := .pointer (some ⟨ba, oa + i, none⟩)) rfl (by kernel_rfl) (by kernel_rfl) (by kernel_rfl) (by kernel_rfl) (fun _ _ _ h => (h : False).elim) (Or.inl ⟨by kernel_rfl, ?_⟩) (fun _ => by assumption) ?_
                · intro w _
                  go_simp
                try simp only [List.getElem_toArray, List.getElem_cons_zero, List.getElem_cons_succ, Act.put, List.setIfInBounds_toArray, List.set_cons_zero, List.set_cons_succ]
                refine wpAnyL_take (i := 10) (oi := _) (v := .int .i64 (dg l i)) rfl (by kernel_rfl) (by kernel_rfl) (by kernel_rfl) (by kernel_rfl) (fun _ _ _ h => (h : False).elim) (Or.inl ⟨by kernel_rfl, ?_⟩) (by assumption) ?_
                · intro w hSw
                  obtain ⟨s0, s1, s2, s3, s4⟩ := hSw
                  go_simp
                try simp only [List.getElem_toArray, List.getElem_cons_zero, List.getElem_cons_succ, Act.put, List.setIfInBounds_toArray, List.set_cons_zero, List.set_cons_succ]
                refine wpAnyL_any (i := 11) (oi := _) (v := .pointer (some ⟨w.heap.size + 1, 1, none⟩)) rfl (by kernel_rfl) (by kernel_rfl) (by kernel_rfl) (by kernel_rfl) (fun _ _ _ h => (h : False).elim) (Or.inl ⟨by kernel_rfl, ?_⟩) (fun _ => by assumption) ?_
                · intro w _
                  go_simp
                try simp only [List.getElem_toArray, List.getElem_cons_zero, List.getElem_cons_succ, Act.put, List.setIfInBounds_toArray, List.set_cons_zero, List.set_cons_succ]
                refine wpAnyL_take (i := 12) (oi := _) (v := .slice (some ⟨bb, ob, none⟩) m.length cbp) rfl (by kernel_rfl) (by kernel_rfl) (by kernel_rfl) (by kernel_rfl) (fun _ _ _ h => (h : False).elim) (Or.inl ⟨by kernel_rfl, ?_⟩) (by assumption) ?_
                · intro w hSw
                  obtain ⟨s0, s1, s2, s3, s4⟩ := hSw
                  go_simp
                try simp only [List.getElem_toArray, List.getElem_cons_zero, List.getElem_cons_succ, Act.put, List.setIfInBounds_toArray, List.set_cons_zero, List.set_cons_succ]
                refine wpAnyL_any (i := 13) (oi := _) (v := .int .i64 (j : Int)) rfl (by kernel_rfl) (by kernel_rfl) (by kernel_rfl) (by kernel_rfl) (fun _ _ _ h => (h : False).elim) (Or.inl ⟨by kernel_rfl, ?_⟩) (fun _ => by assumption) ?_
                · intro w _
                  go_simp
                try simp only [List.getElem_toArray, List.getElem_cons_zero, List.getElem_cons_succ, Act.put, List.setIfInBounds_toArray, List.set_cons_zero, List.set_cons_succ]
                refine wpAnyL_any (i := 14) (oi := _) (v := .pointer (some ⟨bb, ob + j, none⟩)) rfl (by kernel_rfl) (by kernel_rfl) (by kernel_rfl) (by kernel_rfl) (fun _ _ _ h => (h : False).elim) (Or.inl ⟨by kernel_rfl, ?_⟩) (fun _ => by assumption) ?_
                · intro w _
                  go_simp
                try simp only [List.getElem_toArray, List.getElem_cons_zero, List.getElem_cons_succ, Act.put, List.setIfInBounds_toArray, List.set_cons_zero, List.set_cons_succ]
                refine wpAnyL_take (i := 15) (oi := _) (v := .int .i64 (dg m j)) rfl (by kernel_rfl) (by kernel_rfl) (by kernel_rfl) (by kernel_rfl) (fun _ _ _ h => (h : False).elim) (Or.inl ⟨by kernel_rfl, ?_⟩) (by assumption) ?_
                · intro w hSw
                  obtain ⟨s0, s1, s2, s3, s4⟩ := hSw
                  go_simp
                try simp only [List.getElem_toArray, List.getElem_cons_zero, List.getElem_cons_succ, Act.put, List.setIfInBounds_toArray, List.set_cons_zero, List.set_cons_succ]
                refine wpAnyL_any (i := 16) (oi := _) (v := .int .i64 (dg l i * dg m j)) rfl (by kernel_rfl) (by kernel_rfl) (by kernel_rfl) (by kernel_rfl) (fun _ _ _ h => (h : False).elim) (Or.inl ⟨by kernel_rfl, ?_⟩) (fun _ => by assumption) ?_
                · intro w _
                  go_simp
                try simp only [List.getElem_toArray, List.getElem_cons_zero, List.getElem_cons_succ, Act.put, List.setIfInBounds_toArray, List.set_cons_zero, List.set_cons_succ]
                refine wpAnyL_any (i := 17) (oi := _) (v := .int .i64 (dg o2 q + dg l i * dg m j)) rfl (by kernel_rfl) (by kernel_rfl) (by kernel_rfl) (by kernel_rfl) (fun _ _ _ h => (h : False).elim) (Or.inl ⟨by kernel_rfl, ?_⟩) (fun _ => by assumption) ?_
                · intro w _
                  go_simp
                try simp only [List.getElem_toArray, List.getElem_cons_zero, List.getElem_cons_succ, Act.put, List.setIfInBounds_toArray, List.set_cons_zero, List.set_cons_succ]
                refine wpAnyL_any (i := 18) (oi := _) (v := .int .i64 c) rfl (by kernel_rfl) (by kernel_rfl) (by kernel_rfl) (by kernel_rfl) (fun _ _ _ h => (h : False).elim) (Or.inl ⟨by kernel_rfl, ?_⟩) (fun _ => by assumption) ?_
                · intro w _
                  go_simp
                try simp only [List.getElem_toArray, List.getElem_cons_zero, List.getElem_cons_succ, Act.put, List.setIfInBounds_toArray, List.set_cons_zero, List.set_cons_succ]
                refine wpAnyL_any (i := 19) (oi := _) (v := .int .i64 z) rfl (by kernel_rfl) (by kernel_rfl) (by kernel_rfl) (by kernel_rfl) (fun _ _ _ h => (h : False).elim) (Or.inl ⟨by kernel_rfl, ?_⟩) (fun _ => by assumption) ?_
                · intro w _
                  go_simp
                try simp only [List.getElem_toArray, List.getElem_cons_zero, List.getElem_cons_succ, Act.put, List.setIfInBounds_toArray, List.set_cons_zero, List.set_cons_succ]
                refine wpAnyL_any (i := 20) (oi := _) (v := .int .i64 z) rfl (by kernel_rfl) (by kernel_rfl) (by kernel_rfl) (by kernel_rfl) (fun _ _ _ h => (h : False).elim) (Or.inl ⟨by kernel_rfl, ?_⟩) (fun _ => by assumption) ?_
                · intro w _
                  go_simp
                try simp only [List.getElem_toArray, List.getElem_cons_zero, List.getElem_cons_succ, Act.put, List.setIfInBounds_toArray, List.set_cons_zero, List.set_cons_succ]
                refine wpAnyL_done (by kernel_rfl) ?_ _
                refine NoPanic.normal ?_
                have Hk6 := Lib.hid ((HK.out.drewN 1).setCell ⟨g, q, none⟩ (fun _ => rfl) (.int .i64 (z % 65536)))
                clear hS b1 b2 b3 b4
                go_wp2
                go_roundw
                case rel => exact ⟨j + 1, _, _, by omega, rfl, rfl, HM2, Hst2.out, Hk6.out⟩
                case measure => simp [intOf]; omega
              · have hjt' : ¬ (j : Int) < (m.length : Int) := by omega
                obtain rfl : j = m.length := by omega
                obtain ⟨q, hq⟩ : ∃ q, i + m.length = q := ⟨_, rfl⟩
                have hqI : (i : Int) + (m.length : Int) = (q : Int) := by omega
                have hqn : q < k := by have := HN.out; omega
                have hqn' : (q : Int) < (k : Int) := by omega
                have hq0 : (0 : Int) ≤ (q : Int) := by omega
                have hqw : IntKind.i64.wrap (q : Int) = (q : Int) := by rw [IntKind.wrap_i64]; omega
                have hol : o2.length = k := by have := HM.out.1; have := HN.out; omega
                have ho : o2[q]? = some (dg o2 q) := by unfold dg; rw [List.getElem?_eq_getElem (by omega)]; rfl
                have b5 := (hr.cellAt q (by omega)).trans (dfl_get ho)
                have b6 := hr.frozenAt q
                have hz0 : dg o2 q = 0 := HM.out.2.2.2.1 q (by omega)
                obtain ⟨z, hz⟩ : ∃ z, dg o2 q + c = z := ⟨_, rfl⟩
                have hcc := HM.out.2.2.1
                have hw3 : IntKind.i64.wrap z = z := by rw [IntKind.wrap_i64]; omega
                have HM2 := mulD_row HR.out.2.1.1 hil' HM.out
                rw [hq, hz] at HM2
                have HM2 := Lib.hid HM2
                have hst2 := (hr.stored q (.int .i64 z)).1
                rw [dfl_set] at hst2
                have Hst2 := Lib.hid hst2
                have HK := Lib.hid hK
                clear hcc hst2 hr hK ho hq hol hz0
                go_wp2
                have Hk6 := Lib.hid (HK.out.setCell ⟨g, q, none⟩ (fun _ => rfl) (.int .i64 z))
                go_roundw
                case rel => exact ⟨i + 1, _, by omega, by go_num, HM2, Hst2.out, Hk6.out⟩
                case measure => simp [intOf]; omega
          · have hilI : ¬ (i : Int) < (l.length : Int) := by omega
            obtain rfl : i = l.length := by omega
            have HP := Lib.hid (mulD_end HM.out)
            have hlo : out.length = k := by have := HM.out.1; have := HN.out; omega
            have HDA := Lib.hid (dAt_fin hr hlo)
            have HOL : RowKit.Hid (out.length ≤ nl + nm) := by show _ ≤ _; have := HN.out; omega
            have d0 := (hK.cell (p := ⟨w.heap.size, 0, none⟩) (Nat.lt_of_lt_of_le hl0 hq1) (by show ¬ w.heap.size = g; omega)).trans D0.out
            have d2 := (hK.cell (p := ⟨w.heap.size + 1, 0, none⟩) (Nat.lt_of_lt_of_le hl1 hq1) (by show ¬ w.heap.size + 1 = g; omega)).trans D2.out
            have HKR := Lib.hid (show Keeps (fun _ => False) w1 wr from HKQ.out.trans hK (fun i hi h => by omega))
            clear hr hK hlo
            go_wp2_with fail
            refine (make_calls (s * t) _ out (x * y) (nl + nm) (by have := HOL.out; omega) (by omega) HP.out.1 (by rw [HP.out.2]; exact (rep_mul HR.out HR'.out).2) (by rw [HP.out.2]; exact (rep_mul HR.out HR'.out).1.symm) _ HDA.out).mono ?_; rintro e w9 ⟨v9, rfl, hv9, hk9⟩
            obtain ⟨s9, a9, q9, l9, rfl, hd9, hr9, hn9⟩ := hv9.open
            have hkk := knil HKR.out hk9
            have hG := (hkk.block _ hl2 (fun h => h)).trans HG2.out
            have e0 := two_frozen hG 0
            have e1 := two_frozen hG 1
            have f0 := cells_at hG 0
            have f1 := cells_at hG 1
            have HG := Lib.hid hG
            have HD9 := Lib.hid hd9
            have HR9 := Lib.hid hr9
            have HKK := Lib.hid hkk
            clear hG hd9 hr9 hkk
            go_wp2_with fail
            refine bodyPost_ret (results_nb rfl _ _ _ _ _ _ _ rfl (cells_two HG.out)) rfl (fin_nb (knil hk1 HKK.out) HG.out (by omega) HD9.out HR9.out hn9)

end Go.Proofs.YtmoajobnhiopiaaGreatDoor.nb
