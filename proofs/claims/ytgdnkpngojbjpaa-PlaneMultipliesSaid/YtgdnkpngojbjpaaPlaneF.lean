/- The reference of package plane, and the laws' own whole, by walking their text. -/
import Derived.Test.YtgdnkpngojbjpaaPlaneE
namespace Go.Proofs.Ytgdnkpngojbjpaa.pl
open Go Go.RowKit Go.Proofs.Ytgdnkpngojbjpaa.tp Go.Proofs.Ytgdnkpngojbjpaa.fl Go.Proofs.Ytgdnkpngojbjpaa.mk

set_option maxHeartbeats 1000000 in
theorem rorient_calls (x y u v s t : Int) (h1 : smallB x y = true) (h2 : smallB u v = true) (h3 : smallB s t = true) (w : World) : Calls Try.prog 12 #[Value.agg #[Value.int IntKind.i64 x, Value.int IntKind.i64 y], Value.agg #[Value.int IntKind.i64 u, Value.int IntKind.i64 v], Value.agg #[Value.int IntKind.i64 s, Value.int IntKind.i64 t]] w fun e w' => e = .returned (.int .i64 (sgnI (cross x y u v s t))) ∧ Keeps (fun _ => False) w w' := by
  obtain ⟨hx, hy⟩ := small_bounds h1
  obtain ⟨hu, hv⟩ := small_bounds h2
  obtain ⟨hs, ht⟩ := small_bounds h3
  have e1 : -33554432 ≤ u - x ∧ u - x ≤ 33554432 := by omega
  have e2 : -33554432 ≤ v - y ∧ v - y ≤ 33554432 := by omega
  have e3 : -33554432 ≤ s - x ∧ s - x ≤ 33554432 := by omega
  have e4 : -33554432 ≤ t - y ∧ t - y ≤ 33554432 := by omega
  obtain ⟨b1, b1'⟩ := mul_bound e1 e4
  obtain ⟨b2, b2'⟩ := mul_bound e2 e3
  clear h1 h2 h3
  have hp1 : ((-(33554432 * 33554432) : Int)) = -1125899906842624 := by decide
  have hp2 : ((33554432 * 33554432 : Int)) = 1125899906842624 := by decide
  rw [hp1] at b1 b2
  rw [hp2] at b1' b2'
  obtain ⟨⟨hx, hx'⟩, hy, hy'⟩ := And.intro hx hy
  obtain ⟨⟨hu, hu'⟩, hv, hv'⟩ := And.intro hu hv
  obtain ⟨⟨hs, hs'⟩, ht, ht'⟩ := And.intro hs ht
  obtain ⟨⟨e1, e1'⟩, e2, e2'⟩ := And.intro e1 e2
  obtain ⟨⟨e3, e3'⟩, e4, e4'⟩ := And.intro e3 e4
  clear hp1 hp2
  have hD : cross x y u v s t = (u - x) * (t - y) - (v - y) * (s - x) := rfl
  rcases (show cross x y u v s t > 0 ∨ cross x y u v s t < 0 ∨ cross x y u v s t = 0 by omega) with h | h | h
  · have Hd := Lib.hid (show sgnI (cross x y u v s t) = 1 from if_pos h)
    have g1 : (u - x) * (t - y) - (v - y) * (s - x) > 0 := h
    clear h hD
    go_enter Try.func12, Try.ntmps12
    go_wp2
    all_goals (go_ret; exact ⟨by rw [Hd.out]; rfl, (((Keeps.refl _ w).alloc _).alloc _).alloc _⟩)
  · have Hd := Lib.hid (show sgnI (cross x y u v s t) = -1 by unfold sgnI; rw [if_neg (by omega), if_pos h])
    have g1 : (u - x) * (t - y) - (v - y) * (s - x) < 0 := h
    clear h hD
    go_enter Try.func12, Try.ntmps12
    go_wp2
    all_goals (go_ret; exact ⟨by rw [Hd.out]; rfl, (((Keeps.refl _ w).alloc _).alloc _).alloc _⟩)
  · have Hd := Lib.hid (show sgnI (cross x y u v s t) = 0 by unfold sgnI; rw [if_neg (by omega), if_neg (by omega)])
    have g1 : (u - x) * (t - y) - (v - y) * (s - x) ≤ 0 := by omega
    have g2 : 0 ≤ (u - x) * (t - y) - (v - y) * (s - x) := by omega
    clear h hD
    go_enter Try.func12, Try.ntmps12
    go_wp2
    all_goals (go_ret; exact ⟨by rw [Hd.out]; rfl, (((Keeps.refl _ w).alloc _).alloc _).alloc _⟩)
set_option maxHeartbeats 1000000 in
theorem rnorm_calls (x y : Int) (h : smallB x y = true) (w : World) : Calls Try.prog 16 #[Value.agg #[Value.int IntKind.i64 x, Value.int IntKind.i64 y]] w fun e w' => e = .returned (.int .i64 (x * x + y * y)) ∧ Keeps (fun _ => False) w w' := by
  obtain ⟨hx, hy⟩ := small_bounds h
  obtain ⟨b1, b1'⟩ := mul_bound hx hx
  obtain ⟨b2, b2'⟩ := mul_bound hy hy
  rw [show ((-(16777216 * 16777216) : Int)) = -281474976710656 by decide] at b1 b2
  rw [show ((16777216 * 16777216 : Int)) = 281474976710656 by decide] at b1' b2'
  obtain ⟨⟨hx, hx'⟩, hy, hy'⟩ := And.intro hx hy
  clear h
  go_enter Try.func16, Try.ntmps16
  go_wp2
  go_ret
  exact ⟨rfl, (Keeps.refl _ w).alloc _⟩
theorem new_at {w : World} {cs : Array Value} {t : TypeId} {g : Nat} (h : w.heap.size = g) : (w.alloc (.cells cs t)).heap[g]? = some (.cells cs t (0, 0)) := h ▸ heap_alloc_new w _
theorem results_cell1 {fn : Func} {p : Tmp} {ty : TypeId} (h : fn.results = #[.cell p ty]) (tmps : Array Value) (P : Program) (w : World) :
    (results fn tmps).run P w = ((asAddr (tmps.getD p undef)).run P w).andThen fun a w1 => (loadVar ty a).run P w1 := by
  simp only [results, h]
  simp [Sem.run_bind, Result.andThen]
theorem results_pt1 {fn : Func} {p : Tmp} (h : fn.results = #[.cell p 23]) (tmps : Array Value) (w : World) (g : Nat) (t : TypeId) (x y : Value) (fr : Nat × Nat)
    (hp : tmps.getD p undef = .pointer (some ⟨g, 0, none⟩)) (hg : w.heap[g]? = some (.cells #[x, y] t fr)) : (results fn tmps).run Try.prog w = .ok (.agg #[x, y]) w := by
  rw [results_cell1 h, hp]
  have e := run_loadVar_row (P := Try.prog) w g t 23 #[x, y] fr _ hg Try.underlying23 rfl (by kernel_rfl)
  simp [asAddr, e, Result.andThen]
set_option maxHeartbeats 1000000 in
theorem rproduct_calls (x y u v : Int) (h1 : smallB x y = true) (h2 : smallB u v = true) (w : World) : Calls Try.prog 17 #[Value.agg #[Value.int IntKind.i64 x, Value.int IntKind.i64 y], Value.agg #[Value.int IntKind.i64 u, Value.int IntKind.i64 v]] w fun e w' => e = .returned (Value.agg #[Value.int IntKind.i64 (x * u - y * v), Value.int IntKind.i64 (x * v + y * u)]) ∧ Keeps (fun _ => False) w w' := by
  obtain ⟨hx, hy⟩ := small_bounds h1
  obtain ⟨hu, hv⟩ := small_bounds h2
  obtain ⟨b1, b1'⟩ := mul_bound hx hu
  obtain ⟨b2, b2'⟩ := mul_bound hy hv
  obtain ⟨b3, b3'⟩ := mul_bound hx hv
  obtain ⟨b4, b4'⟩ := mul_bound hy hu
  rw [show ((-(16777216 * 16777216) : Int)) = -281474976710656 by decide] at b1 b2 b3 b4
  rw [show ((16777216 * 16777216 : Int)) = 281474976710656 by decide] at b1' b2' b3' b4'
  obtain ⟨⟨hx, hx'⟩, hy, hy'⟩ := And.intro hx hy
  obtain ⟨⟨hu, hu'⟩, hv, hv'⟩ := And.intro hu hv
  clear h1 h2
  go_enter Try.func17, Try.ntmps17
  go_wp2
  exact bodyPost_ret (results_pt1 rfl _ _ (w.heap.size + 1 + 1) _ _ _ _ rfl (new_at (by simp))) rfl ⟨rfl, (((Keeps.refl _ w).alloc _).alloc _).alloc _⟩
set_option maxHeartbeats 1000000 in
theorem rturn_calls (x y k : Int) (h1 : smallB x y = true) (w : World) : Calls Try.prog 19 #[Value.agg #[Value.int IntKind.i64 x, Value.int IntKind.i64 y], .int .i64 k] w fun e w' => e = .returned (Value.agg #[Value.int IntKind.i64 (rot (quad k) (x, y)).1, Value.int IntKind.i64 (rot (quad k) (x, y)).2]) ∧ Keeps (fun _ => False) w w' := by
  obtain ⟨⟨hx, hx'⟩, hy, hy'⟩ := small_bounds h1
  have hq := quad_bounds k
  have hc : k.tmod 4 = -3 ∨ k.tmod 4 = -2 ∨ k.tmod 4 = -1 ∨ k.tmod 4 = 0 ∨ k.tmod 4 = 1 ∨ k.tmod 4 = 2 ∨ k.tmod 4 = 3 := by omega
  have h0 := quad_eq k
  clear h1 hq
  rcases hc with hc | hc | hc | hc | hc | hc | hc
  · have Hq := Lib.hid (show rot (quad k) (x, y) = (-y, x) by rw [show quad k = 1 by omega]; simp [rot])
    clear h0
    go_enter Try.func19, Try.ntmps19
    go_wp2
    exact bodyPost_ret (results_pt1 rfl _ _ (w.heap.size + 1) _ _ _ _ rfl (new_at (by simp))) rfl ⟨by rw [Hq.out], ((Keeps.refl _ w).alloc _).alloc _⟩
  · have Hq := Lib.hid (show rot (quad k) (x, y) = (-x, -y) by rw [show quad k = 2 by omega]; simp [rot])
    clear h0
    go_enter Try.func19, Try.ntmps19
    go_wp2
    exact bodyPost_ret (results_pt1 rfl _ _ (w.heap.size + 1) _ _ _ _ rfl (new_at (by simp))) rfl ⟨by rw [Hq.out], ((Keeps.refl _ w).alloc _).alloc _⟩
  · have Hq := Lib.hid (show rot (quad k) (x, y) = (y, -x) by rw [show quad k = 3 by omega]; simp [rot])
    clear h0
    go_enter Try.func19, Try.ntmps19
    go_wp2
    exact bodyPost_ret (results_pt1 rfl _ _ (w.heap.size + 1) _ _ _ _ rfl (new_at (by simp))) rfl ⟨by rw [Hq.out], ((Keeps.refl _ w).alloc _).alloc _⟩
  · have Hq := Lib.hid (show rot (quad k) (x, y) = (x, y) by rw [show quad k = 0 by omega]; simp [rot])
    clear h0
    go_enter Try.func19, Try.ntmps19
    go_wp2
    exact bodyPost_ret (results_pt1 rfl _ _ (w.heap.size + 1) _ _ _ _ rfl (new_at (by simp))) rfl ⟨by rw [Hq.out], ((Keeps.refl _ w).alloc _).alloc _⟩
  · have Hq := Lib.hid (show rot (quad k) (x, y) = (-y, x) by rw [show quad k = 1 by omega]; simp [rot])
    clear h0
    go_enter Try.func19, Try.ntmps19
    go_wp2
    exact bodyPost_ret (results_pt1 rfl _ _ (w.heap.size + 1) _ _ _ _ rfl (new_at (by simp))) rfl ⟨by rw [Hq.out], ((Keeps.refl _ w).alloc _).alloc _⟩
  · have Hq := Lib.hid (show rot (quad k) (x, y) = (-x, -y) by rw [show quad k = 2 by omega]; simp [rot])
    clear h0
    go_enter Try.func19, Try.ntmps19
    go_wp2
    exact bodyPost_ret (results_pt1 rfl _ _ (w.heap.size + 1) _ _ _ _ rfl (new_at (by simp))) rfl ⟨by rw [Hq.out], ((Keeps.refl _ w).alloc _).alloc _⟩
  · have Hq := Lib.hid (show rot (quad k) (x, y) = (y, -x) by rw [show quad k = 3 by omega]; simp [rot])
    clear h0
    go_enter Try.func19, Try.ntmps19
    go_wp2
    exact bodyPost_ret (results_pt1 rfl _ _ (w.heap.size + 1) _ _ _ _ rfl (new_at (by simp))) rfl ⟨by rw [Hq.out], ((Keeps.refl _ w).alloc _).alloc _⟩
end Go.Proofs.Ytgdnkpngojbjpaa.pl
