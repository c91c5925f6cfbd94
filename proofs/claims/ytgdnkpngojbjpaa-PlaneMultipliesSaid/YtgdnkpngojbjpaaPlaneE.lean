/- Orient of package plane. -/
import Derived.Test.YtgdnkpngojbjpaaPlaneD
namespace Go.Proofs.Ytgdnkpngojbjpaa.pl
open Go Go.RowKit Go.Proofs.Ytgdnkpngojbjpaa.tp Go.Proofs.Ytgdnkpngojbjpaa.fl Go.Proofs.Ytgdnkpngojbjpaa.mk

/-- The cross product whose sign is the orientation. -/
def cross (ax ay bx by' cx cy : Int) : Int := (bx - ax) * (cy - ay) - (by' - ay) * (cx - ax)
def sgnI (d : Int) : Int := if d > 0 then 1 else if d < 0 then -1 else 0

theorem three_pts (w : World) (o1 o2 o3 : Obj) (x y u v s t : Int) : ptsAt ((((w.alloc o1).alloc o2).alloc o3).alloc (.cells #[.int .i64 x, .int .i64 y, .int .i64 u, .int .i64 v, .int .i64 s, .int .i64 t] 23)) (w.heap.size + 3) [(x, y), (u, v), (s, t)] := by
  have e : (((w.alloc o1).alloc o2).alloc o3).heap.size = w.heap.size + 3 := by simp
  rw [← e]
  intro i p hp
  have hi : i < 3 := by have := (List.getElem?_eq_some_iff.1 hp).1; simpa using this
  rcases (show i = 0 ∨ i = 1 ∨ i = 2 by omega) with rfl | rfl | rfl
  all_goals
    simp at hp; subst hp
    exact ⟨by rw [cell_of_row _ _ _ _ _ _ (heap_alloc_new _ _)]; rfl, by rw [cell_of_row _ _ _ _ _ _ (heap_alloc_new _ _)]; rfl⟩
theorem small_three (x y u v s t : Int) : smallE [(x, y), (u, v), (s, t)] = if smallB x y && (smallB u v && smallB s t) then 0 else 3 := by
  unfold smallE allSmall
  simp
set_option maxHeartbeats 1000000 in
theorem orient_not (x y u v s t : Int) (h : (smallB x y && (smallB u v && smallB s t)) = false) (w : World) : Calls Try.prog 9 #[Value.agg #[Value.int IntKind.i64 x, Value.int IntKind.i64 y], Value.agg #[Value.int IntKind.i64 u, Value.int IntKind.i64 v], Value.agg #[Value.int IntKind.i64 s, Value.int IntKind.i64 t]] w fun e w' => e = .returned (.tuple #[.int .i64 0, .int .i64 3]) ∧ Keeps (fun _ => False) w w' := by
  have Hs := Lib.hid (show smallE [(x, y), (u, v), (s, t)] = 3 by rw [small_three, h]; rfl)
  go_enter Try.func9, Try.ntmps9
  go_wp2_with fail
  have cc := small_calls (w.heap.size + 3) 3 [(x, y), (u, v), (s, t)] (by simp) _ (by simp) (three_pts w (.cells #[.int .i64 x, .int .i64 y] 23) (.cells #[.int .i64 u, .int .i64 v] 23) (.cells #[.int .i64 s, .int .i64 t] 23) x y u v s t)
  rw [Hs.out] at cc
  refine cc.mono ?_; clear cc; rintro e w1 ⟨rfl, hk1⟩
  have hK := (((((Keeps.refl (fun _ => False) w).alloc _).alloc _).alloc _).alloc _).trans hk1 (fun _ _ h => h)
  clear hk1 h
  go_wp2
  go_ret2
  exact ⟨rfl, hK⟩

/-- The three points lie where Orient laid them. -/
def Tri (w0 : World) (x y u v s t : Int) (W : World) : Prop :=
  W.heap[w0.heap.size]? = some (.cells #[.int .i64 x, .int .i64 y] 23 (0, 0)) ∧ W.heap[w0.heap.size + 1]? = some (.cells #[.int .i64 u, .int .i64 v] 23 (0, 0)) ∧
  W.heap[w0.heap.size + 2]? = some (.cells #[.int .i64 s, .int .i64 t] 23 (0, 0)) ∧ Keeps (fun _ => False) w0 W
theorem Tri.kept {w0 : World} {x y u v s t : Int} {W W' : World} (h : Tri w0 x y u v s t W) (hk : Keeps (fun _ => False) W W') : Tri w0 x y u v s t W' := by
  obtain ⟨h1, h2, h3, h4⟩ := h
  exact ⟨(hk.block _ (Array.getElem?_eq_some_iff.1 h1).1 (fun h => h)).trans h1, (hk.block _ (Array.getElem?_eq_some_iff.1 h2).1 (fun h => h)).trans h2, (hk.block _ (Array.getElem?_eq_some_iff.1 h3).1 (fun h => h)).trans h3, h4.trans hk (fun _ _ h => h)⟩
/-- The cells that Orient's loads read. -/
def TriC (w0 : World) (x y u v s t : Int) (W : World) : Prop := W.cell? ⟨w0.heap.size, 0, none⟩ = some (.int .i64 x) ∧ W.cell? ⟨w0.heap.size, 1, none⟩ = some (.int .i64 y) ∧ W.cell? ⟨w0.heap.size + 1, 0, none⟩ = some (.int .i64 u) ∧ W.cell? ⟨w0.heap.size + 1, 1, none⟩ = some (.int .i64 v) ∧
  W.cell? ⟨w0.heap.size + 2, 0, none⟩ = some (.int .i64 s) ∧ W.cell? ⟨w0.heap.size + 2, 1, none⟩ = some (.int .i64 t) ∧ Tri w0 x y u v s t W
theorem Tri.full {w0 : World} {x y u v s t : Int} {W : World} (h : Tri w0 x y u v s t W) : TriC w0 x y u v s t W :=
  ⟨by rw [cell_of_row _ _ _ _ _ _ h.1]; rfl, by rw [cell_of_row _ _ _ _ _ _ h.1]; rfl, by rw [cell_of_row _ _ _ _ _ _ h.2.1]; rfl, by rw [cell_of_row _ _ _ _ _ _ h.2.1]; rfl, by rw [cell_of_row _ _ _ _ _ _ h.2.2.1]; rfl, by rw [cell_of_row _ _ _ _ _ _ h.2.2.1]; rfl, h⟩
theorem tri_drew {w0 : World} {x y u v s t : Int} {W : World} (h : TriC w0 x y u v s t W) : TriC w0 x y u v s t W.drew := (h.2.2.2.2.2.2.kept ((Keeps.refl _ W).drew)).full
theorem tri_kept {w0 : World} {x y u v s t : Int} {W W' : World} (h : TriC w0 x y u v s t W) (hk : Keeps (fun _ => False) W W') : TriC w0 x y u v s t W' := (h.2.2.2.2.2.2.kept hk).full

theorem sub_bound {a b A B : Int} (ha : -A ≤ a ∧ a ≤ A) (hb : -B ≤ b ∧ b ≤ B) : -(A + B) ≤ a - b ∧ a - b ≤ A + B := by omega
set_option maxHeartbeats 2000000 in
theorem orient_int (x y u v s t : Int) (h1 : smallB x y = true) (h2 : smallB u v = true) (h3 : smallB s t = true) (w : World) : Calls Try.prog 9 #[Value.agg #[Value.int IntKind.i64 x, Value.int IntKind.i64 y], Value.agg #[Value.int IntKind.i64 u, Value.int IntKind.i64 v], Value.agg #[Value.int IntKind.i64 s, Value.int IntKind.i64 t]] w fun e w' => e = .returned (.tuple #[.int .i64 (sgnI (cross x y u v s t)), .int .i64 0]) ∧ Keeps (fun _ => False) w w' := by
  have Hs := Lib.hid (show smallE [(x, y), (u, v), (s, t)] = 0 by rw [small_three, h1, h2, h3]; rfl)
  obtain ⟨hx, hy⟩ := small_bounds h1
  obtain ⟨hu, hv⟩ := small_bounds h2
  obtain ⟨hs, ht⟩ := small_bounds h3
  have Fx := F.nearest (in53_small hx)
  have Fy := F.nearest (in53_small hy)
  have Fu := F.nearest (in53_small hu)
  have Fv := F.nearest (in53_small hv)
  have Fs := F.nearest (in53_small hs)
  have Ft := F.nearest (in53_small ht)
  obtain ⟨vr, vi, hv1, hvr, hvi⟩ := F.csub Fu Fv Fx Fy (by unfold In53; omega) (by unfold In53; omega)
  obtain ⟨wr, wi, hw1, hwr, hwi⟩ := F.csub Fs Ft Fx Fy (by unfold In53; omega) (by unfold In53; omega)
  have e1 : -33554432 ≤ u - x ∧ u - x ≤ 33554432 := by omega
  have e2 : -33554432 ≤ -(v - y) ∧ -(v - y) ≤ 33554432 := by omega
  have e3 : -33554432 ≤ s - x ∧ s - x ≤ 33554432 := by omega
  have e4 : -33554432 ≤ t - y ∧ t - y ≤ 33554432 := by omega
  have b1 := mul_bound e1 e3
  have b2 := mul_bound e2 e4
  have b3 := mul_bound e1 e4
  have b4 := mul_bound e2 e3
  obtain ⟨re, im, hm, hre, him⟩ := F.cmul hvr (F_neg hvi) hwr hwi (by unfold In53; omega) (by unfold In53; omega) (by unfold In53; omega) (by unfold In53; omega) (by unfold In53; omega) (by unfold In53; omega)
  have ec : (u - x) * (t - y) + -(v - y) * (s - x) = cross x y u v s t := by unfold cross; rw [Int.neg_mul]; omega
  rw [ec] at him
  have hord := F.order him F_zero
  have hsv := fun w => run_complex_sum (P := Try.prog) (w := w) .sub (.inr rfl) 42 .f64 _ _ _ _ vr vi hv1
  have hsw := fun w => run_complex_sum (P := Try.prog) (w := w) .sub (.inr rfl) 42 .f64 _ _ _ _ wr wi hw1
  have hmul := fun w => run_complex_mul (P := Try.prog) w 42 _ _ _ _ re im hm
  have hg : (FloatKind.f64.format.order im 0 == some .gt) = decide (cross x y u v s t > 0) := by
    rw [hord, Bool.eq_iff_iff, beq_iff_eq, decide_eq_true_iff, Option.some.injEq, cmp_gt]
  have hl : (FloatKind.f64.format.order im 0 == some .lt) = decide (cross x y u v s t < 0) := by
    rw [hord, Bool.eq_iff_iff, beq_iff_eq, decide_eq_true_iff, Option.some.injEq, cmp_lt]
  have HD := Lib.hid (rfl : sgnI (cross x y u v s t) = sgnI (cross x y u v s t))
  clear hord hm him hre hwi hwr hw1 hvi hvr hv1 b1 b2 b3 b4 e1 e2 e3 e4 Fx Fy Fu Fv Fs Ft hx hy hu hv hs ht ec h1 h2 h3
  obtain ⟨D, eD⟩ : ∃ D, cross x y u v s t = D := ⟨_, rfl⟩
  rw [eD] at hg hl
  have ED := Lib.hid eD
  clear eD HD
  have hRest : (D > 0 ∨ D < 0 ∨ D = 0) := by omega
  go_enter Try.func9, Try.ntmps9
  go_wp2_with fail
  have cc := small_calls (w.heap.size + 3) 3 [(x, y), (u, v), (s, t)] (by simp) _ (by simp) (three_pts w (.cells #[.int .i64 x, .int .i64 y] 23) (.cells #[.int .i64 u, .int .i64 v] 23) (.cells #[.int .i64 s, .int .i64 t] 23) x y u v s t)
  rw [Hs.out] at cc
  have hR : Tri w x y u v s t ((((w.alloc (.cells #[.int .i64 x, .int .i64 y] 23)).alloc (.cells #[.int .i64 u, .int .i64 v] 23)).alloc (.cells #[.int .i64 s, .int .i64 t] 23)).alloc (.cells #[.int .i64 x, .int .i64 y, .int .i64 u, .int .i64 v, .int .i64 s, .int .i64 t] 23)) := by
    refine ⟨?_, ?_, ?_, ((((Keeps.refl _ w).alloc _).alloc _).alloc _).alloc _⟩
    · rw [Below.heap_alloc _ _ _ (by simp; omega), Below.heap_alloc _ _ _ (by simp; omega), Below.heap_alloc _ _ _ (by simp)]
      exact heap_alloc_new w _
    · rw [Below.heap_alloc _ _ _ (by simp), Below.heap_alloc _ _ _ (by simp)]
      have := heap_alloc_new (w.alloc (.cells #[.int .i64 x, .int .i64 y] 23)) (.cells #[.int .i64 u, .int .i64 v] 23)
      simpa using this
    · rw [Below.heap_alloc _ _ _ (by simp)]
      have := heap_alloc_new ((w.alloc (.cells #[.int .i64 x, .int .i64 y] 23)).alloc (.cells #[.int .i64 u, .int .i64 v] 23)) (.cells #[.int .i64 s, .int .i64 t] 23)
      simpa using this
  refine cc.mono ?_; clear cc; rintro e w1 ⟨rfl, hk1⟩
  have hS := (hR.kept hk1).full
  clear hR hk1
  go_wp2
  go_region_held3 (fun W => W.cell? ⟨w.heap.size, 0, none⟩ = some (.int .i64 x) ∧ W.cell? ⟨w.heap.size, 1, none⟩ = some (.int .i64 y) ∧ W.cell? ⟨w.heap.size + 1, 0, none⟩ = some (.int .i64 u) ∧ W.cell? ⟨w.heap.size + 1, 1, none⟩ = some (.int .i64 v) ∧ W.cell? ⟨w.heap.size + 2, 0, none⟩ = some (.int .i64 s) ∧ W.cell? ⟨w.heap.size + 2, 1, none⟩ = some (.int .i64 t) ∧ Tri w x y u v s t W)
    (first | exact tri_drew hS | exact tri_kept (by assumption) (by assumption) | exact tri_kept ⟨by assumption, by assumption, by assumption, by assumption, by assumption, by assumption, by assumption⟩ (by assumption))
    ((go_at_call 20; refine (complex_calls _ _ _).mono ?_; rintro e w2 ⟨rfl, hk2⟩))
  rename_i hHeld
  have hK : Keeps (fun _ => False) w w2 := hHeld.2.2.2.2.2.2.2.2.2
  clear hHeld hS hsv hsw
  rcases hRest with hD | hD | hD
  · have Hd := Lib.hid (show sgnI (cross x y u v s t) = 1 by rw [ED.out]; exact if_pos hD)
    have g1 : (FloatKind.f64.format.order im 0 == some .gt) = true := by rw [hg]; exact decide_eq_true hD
    clear hg hl hD
    go_wp2_with fail
    refine (conj_calls _ _ _).mono ?_; rintro e w3 ⟨rfl, rfl⟩
    go_wp2
    go_ret2
    exact ⟨by rw [Hd.out]; rfl, hK⟩
  · have Hd := Lib.hid (show sgnI (cross x y u v s t) = -1 by rw [ED.out]; unfold sgnI; rw [if_neg (by omega), if_pos hD])
    have g1 : (FloatKind.f64.format.order im 0 == some .gt) = false := by rw [hg]; exact decide_eq_false (by omega)
    have g2 : (FloatKind.f64.format.order im 0 == some .lt) = true := by rw [hl]; exact decide_eq_true hD
    clear hg hl hD
    go_wp2_with fail
    refine (conj_calls _ _ _).mono ?_; rintro e w3 ⟨rfl, rfl⟩
    go_wp2
    go_ret2
    exact ⟨by rw [Hd.out]; rfl, hK⟩
  · have Hd := Lib.hid (show sgnI (cross x y u v s t) = 0 by rw [ED.out]; unfold sgnI; rw [if_neg (by omega), if_neg (by omega)])
    have g1 : (FloatKind.f64.format.order im 0 == some .gt) = false := by rw [hg]; exact decide_eq_false (by omega)
    have g2 : (FloatKind.f64.format.order im 0 == some .lt) = false := by rw [hl]; exact decide_eq_false (by omega)
    clear hg hl hD
    go_wp2_with fail
    refine (conj_calls _ _ _).mono ?_; rintro e w3 ⟨rfl, rfl⟩
    go_wp2
    go_ret2
    exact ⟨by rw [Hd.out]; rfl, hK⟩
end Go.Proofs.Ytgdnkpngojbjpaa.pl
