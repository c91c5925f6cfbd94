/- Turn and Orient of package plane. -/
import Derived.Test.YtgdnkpngojbjpaaPlaneC
namespace Go.Proofs.Ytgdnkpngojbjpaa.pl
open Go Go.RowKit Go.Proofs.Ytgdnkpngojbjpaa.tp Go.Proofs.Ytgdnkpngojbjpaa.fl Go.Proofs.Ytgdnkpngojbjpaa.mk

/-- Turned by a right angle, j times. -/
def rot : Nat → Int × Int → Int × Int
  | 0, p => p
  | j + 1, p => (-(rot j p).2, (rot j p).1)
theorem rot_small {x y : Int} (h : smallB x y = true) : ∀ j, smallB (rot j (x, y)).1 (rot j (x, y)).2 = true
  | 0 => h
  | j + 1 => by
    have := rot_small h j
    unfold smallB at this ⊢
    have := of_decide_eq_true this
    apply decide_eq_true
    show -16777216 ≤ -(rot j (x, y)).2 ∧ -(rot j (x, y)).2 ≤ 16777216 ∧ -16777216 ≤ (rot j (x, y)).1 ∧ (rot j (x, y)).1 ≤ 16777216
    omega
theorem F_zero : F 0 0 := by
  have e : Ieee.double.read 0 = .number false 0 (-1074) := by decide
  exact ⟨_, _, _, e, by rw [show sg false 0 = 0 from rfl, Int.zero_mul, Int.zero_mul]⟩
theorem F_one : F 4607182418800017408 1 := by
  have e : Ieee.double.read 4607182418800017408 = .number false 4503599627370496 (-52) := by decide
  exact ⟨_, _, _, e, by decide⟩
theorem nearest_wf (z : Int) : FloatKind.f64.nearest z < 18446744073709551616 := by
  have := Ieee.Format.nearest_lt Ieee.double (z < 0) z.natAbs 0
  exact this
/-- The bits a, b stand for a point with small coordinates. -/
structure Bits (a b : Nat) (x y : Int) : Prop where
  wa : a < 18446744073709551616
  wb : b < 18446744073709551616
  ha : F a x
  hb : F b y
theorem rot_step {a b : Nat} {x y : Int} {j : Nat} (h : smallB x y = true) (hB : Bits a b (rot j (x, y)).1 (rot j (x, y)).2) :
    ∃ re im, cMulBits a b 0 4607182418800017408 = some (re, im) ∧ Bits re im (rot (j + 1) (x, y)).1 (rot (j + 1) (x, y)).2 := by
  obtain ⟨hx, hy⟩ := small_bounds (rot_small h j)
  obtain ⟨re, im, hm, hre, him⟩ := F.cmul hB.ha hB.hb F_zero F_one (by unfold In53; omega) (by unfold In53; omega) (by unfold In53; omega) (by unfold In53; omega) (by unfold In53; omega) (by unfold In53; omega)
  obtain ⟨wr, wi⟩ := cMulBits_wf2 hm
  refine ⟨re, im, hm, wr, wi, ?_, ?_⟩
  · show F re (-(rot j (x, y)).2)
    rw [show -(rot j (x, y)).2 = (rot j (x, y)).1 * 0 - (rot j (x, y)).2 * 1 by omega]; exact hre
  · show F im (rot j (x, y)).1
    rw [show (rot j (x, y)).1 = (rot j (x, y)).1 * 1 + (rot j (x, y)).2 * 0 by omega]; exact him
theorem Bits.of {x y : Int} (h : smallB x y = true) : Bits (FloatKind.f64.nearest x) (FloatKind.f64.nearest y) x y := by
  obtain ⟨hx, hy⟩ := small_bounds h
  exact ⟨nearest_wf x, nearest_wf y, F.nearest (in53_small hx), F.nearest (in53_small hy)⟩
/-- How often Turn turns. -/
def quad (k : Int) : Nat := ((k.tmod 4 + 4) % 4).toNat
theorem quad_bounds (k : Int) : -3 ≤ k.tmod 4 ∧ k.tmod 4 ≤ 3 := by
  have h1 := Int.tmod_lt_of_pos k (show (0 : Int) < 4 by decide)
  have h2 := Int.lt_tmod_of_pos k (show (0 : Int) < 4 by decide)
  omega
theorem quad_eq (k : Int) : (k.tmod 4 + 4) % 4 = (quad k : Int) := by unfold quad; have := quad_bounds k; omega
theorem quad_lt (k : Int) : quad k < 4 := by unfold quad; omega

theorem one_pt3 (w : World) (o o2 : Obj) (x y : Int) : ptsAt (((w.alloc o).alloc o2).alloc (.cells #[.int .i64 x, .int .i64 y] 23)) (w.heap.size + 2) [(x, y)] := by
  have h := one_pt2 (w.alloc o) o2 x y
  have e : (w.alloc o).heap.size + 1 = w.heap.size + 2 := by simp
  rwa [e] at h
set_option maxHeartbeats 1000000 in
theorem turn_not (x y k : Int) (h : smallB x y = false) (w : World) : Calls Try.prog 18 #[Value.agg #[Value.int IntKind.i64 x, Value.int IntKind.i64 y], .int .i64 k] w fun e w' => e = .returned (.tuple #[Value.agg #[Value.int IntKind.i64 0, Value.int IntKind.i64 0], .int .i64 3]) ∧ Keeps (fun _ => False) w w' := by
  have Hs := Lib.hid (show smallE [(x, y)] = 3 by rw [small_one, h]; rfl)
  go_enter Try.func18, Try.ntmps18
  go_wp2_with fail
  have cc := small_calls (w.heap.size + 2) 1 [(x, y)] (by simp) _ (by simp) (one_pt3 w (.cells #[.int .i64 x, .int .i64 y] 23) (.cells #[.int .i64 0, .int .i64 0] 23) x y)
  rw [Hs.out] at cc
  refine cc.mono ?_; clear cc; rintro e w1 ⟨rfl, hk1⟩
  have hb : (((w.alloc (.cells #[.int .i64 x, .int .i64 y] 23)).alloc (.cells #[.int .i64 0, .int .i64 0] 23)).alloc (.cells #[.int .i64 x, .int .i64 y] 23)).heap[w.heap.size + 1]? = some (.cells #[.int .i64 0, .int .i64 0] 23 (0, 0)) := by
    rw [Below.heap_alloc _ _ _ (by simp)]
    have := heap_alloc_new (w.alloc (.cells #[.int .i64 x, .int .i64 y] 23)) (.cells #[.int .i64 0, .int .i64 0] 23)
    simpa using this
  have hb1 := (hk1.block (w.heap.size + 1) (by simp) (fun h => h)).trans hb
  have hK := ((((Keeps.refl (fun _ => False) w).alloc _).alloc _).alloc _).trans hk1 (fun _ _ h => h)
  have c0 : w1.cell? ⟨w.heap.size + 1, 0, none⟩ = some (.int .i64 0) := by rw [cell_of_row _ _ _ _ _ _ hb1]; rfl
  have c1 : w1.cell? ⟨w.heap.size + 1, 1, none⟩ = some (.int .i64 0) := by rw [cell_of_row _ _ _ _ _ _ hb1]; rfl
  have f0 := two_frozen hb1 0
  have f1 := two_frozen hb1 1
  have Hb1 := Lib.hid hb1
  clear hb hb1 hk1 h
  go_wp2
  exact bodyPost_ret (results_pt rfl _ _ (w.heap.size + 1) _ _ _ _ rfl (pt_store Hb1.out)) rfl ⟨rfl, (hK.setCell _ (fun hlt => by simp only at hlt; omega) _).setCell _ (fun hlt => by simp only at hlt; omega) _⟩

set_option maxHeartbeats 1000000 in
theorem turn_int (x y k : Int) (h : smallB x y = true) (w : World) : Calls Try.prog 18 #[Value.agg #[Value.int IntKind.i64 x, Value.int IntKind.i64 y], .int .i64 k] w fun e w' => e = .returned (.tuple #[Value.agg #[Value.int IntKind.i64 (rot (quad k) (x, y)).1, Value.int IntKind.i64 (rot (quad k) (x, y)).2], .int .i64 0]) ∧ Keeps (fun _ => False) w w' := by
  have Hs := Lib.hid (show smallE [(x, y)] = 0 by rw [small_one, h]; rfl)
  have Hh := Lib.hid h
  have HB := Lib.hid (Bits.of h)
  have hcx := fun w => complex_calls x y w
  generalize FloatKind.f64.nearest x = bx at hcx HB
  generalize FloatKind.f64.nearest y = by' at hcx HB
  obtain ⟨kb1, kb2⟩ := quad_bounds k
  have hq := quad_eq k
  have hq4 := quad_lt k
  generalize quad k = n at hq hq4 ⊢
  clear h
  go_enter Try.func18, Try.ntmps18
  go_wp2_with fail
  have cc := small_calls (w.heap.size + 2) 1 [(x, y)] (by simp) _ (by simp) (one_pt3 w (.cells #[.int .i64 x, .int .i64 y] 23) (.cells #[.int .i64 0, .int .i64 0] 23) x y)
  rw [Hs.out] at cc
  refine cc.mono ?_; clear cc; rintro e w1 ⟨rfl, hk1⟩
  have ha : (((w.alloc (.cells #[.int .i64 x, .int .i64 y] 23)).alloc (.cells #[.int .i64 0, .int .i64 0] 23)).alloc (.cells #[.int .i64 x, .int .i64 y] 23)).heap[w.heap.size]? = some (.cells #[.int .i64 x, .int .i64 y] 23 (0, 0)) := by
    rw [Below.heap_alloc _ _ _ (by simp; omega), Below.heap_alloc _ _ _ (by simp)]
    exact heap_alloc_new w _
  have hb : (((w.alloc (.cells #[.int .i64 x, .int .i64 y] 23)).alloc (.cells #[.int .i64 0, .int .i64 0] 23)).alloc (.cells #[.int .i64 x, .int .i64 y] 23)).heap[w.heap.size + 1]? = some (.cells #[.int .i64 0, .int .i64 0] 23 (0, 0)) := by
    rw [Below.heap_alloc _ _ _ (by simp)]
    have := heap_alloc_new (w.alloc (.cells #[.int .i64 x, .int .i64 y] 23)) (.cells #[.int .i64 0, .int .i64 0] 23)
    simpa using this
  have hb1 := (hk1.block (w.heap.size + 1) (by simp) (fun h => h)).trans hb
  have ha1 := (hk1.block w.heap.size (by simp; omega) (fun h => h)).trans ha
  have hK := ((((Keeps.refl (fun _ => False) w).alloc _).alloc _).alloc _).trans hk1 (fun _ _ h => h)
  have hz1 : w.heap.size + 1 < w1.heap.size := (Array.getElem?_eq_some_iff.1 hb1).1
  have p0 : w1.cell? ⟨w.heap.size, 0, none⟩ = some (.int .i64 x) := by rw [cell_of_row _ _ _ _ _ _ ha1]; rfl
  have p1 : w1.cell? ⟨w.heap.size, 1, none⟩ = some (.int .i64 y) := by rw [cell_of_row _ _ _ _ _ _ ha1]; rfl
  have Hb1 := Lib.hid hb1
  clear hb hb1 hk1 ha ha1
  go_wp2_with fail
  refine (hcx _).mono ?_; clear hcx; rintro e w2 ⟨rfl, hk2⟩
  have hb2 := (hk2.block (w.heap.size + 1) hz1 (fun h => h)).trans Hb1.out
  have hK2 := hK.trans hk2 (fun _ _ h => h)
  have Hb2 := Lib.hid hb2
  have Hq := Lib.hid hq
  clear hb2 hk2 hK p0 p1 Hb1 hz1
  go_wp2_with fail
  rw [hq]
  clear hq
  go_loop [7, 21] (fun z i => ∃ (j a b : Nat), j ≤ n ∧ i = .int .i64 j ∧ z = .complex .f64 a b ∧ Bits a b (rot j (x, y)).1 (rot j (x, y)).2) (fun _ i => n - (intOf i).toNat)
  case atStart => exact ⟨0, _, _, Nat.zero_le _, rfl, rfl, HB.out⟩
  case round =>
    obtain ⟨j, a, b, hj, rfl, rfl, hB⟩ := hrel
    by_cases hlt : j < n
    · obtain ⟨re, im, hm, hB2⟩ := rot_step Hh.out hB
      have hmul := fun w => run_complex_mul (P := Try.prog) w 42 _ _ _ _ re im hm
      have HB2 := Lib.hid hB2
      clear hm hB2 hB
      go_wp2
      go_round
      case rel => exact ⟨j + 1, re, im, by omega, by go_num, rfl, HB2.out⟩
      case measure => simp [intOf]; omega
    · obtain rfl : j = n := by omega
      obtain ⟨hx, hy⟩ := small_bounds (rot_small Hh.out j)
      have hpt := fun w => point_int a b _ _ hB.wa hB.wb hB.ha (in53_small hx) hB.hb (in53_small hy) w
      obtain ⟨X, eX⟩ : ∃ X, (rot j (x, y)).1 = X := ⟨_, rfl⟩
      obtain ⟨Y, eY⟩ : ∃ Y, (rot j (x, y)).2 = Y := ⟨_, rfl⟩
      rw [eX, eY] at hpt
      have EX := Lib.hid eX
      have EY := Lib.hid eY
      clear hx hy hB eX eY
      go_wp2_with fail
      refine (hpt _).mono ?_; clear hpt; rintro e w3 ⟨rfl, hk3⟩
      have hb3 := (hk3.block (w.heap.size + 1) (Array.getElem?_eq_some_iff.1 Hb2.out).1 (fun h => h)).trans Hb2.out
      have c0 : w3.cell? ⟨w.heap.size + 1, 0, none⟩ = some (.int .i64 0) := by rw [cell_of_row _ _ _ _ _ _ hb3]; rfl
      have c1 : w3.cell? ⟨w.heap.size + 1, 1, none⟩ = some (.int .i64 0) := by rw [cell_of_row _ _ _ _ _ _ hb3]; rfl
      have f0 := two_frozen hb3 0
      have f1 := two_frozen hb3 1
      have hK3 := hK2.trans hk3 (fun _ _ h => h)
      have Hb3 := Lib.hid hb3
      clear hb3 hk3 hK2
      go_wp2
      exact bodyPost_ret (results_pt rfl _ _ (w.heap.size + 1) _ _ _ _ rfl (pt_store Hb3.out)) rfl ⟨by rw [EX.out, EY.out]; rfl, (hK3.setCell _ (fun hlt => by simp only at hlt; omega) _).setCell _ (fun hlt => by simp only at hlt; omega) _⟩
end Go.Proofs.Ytgdnkpngojbjpaa.pl
