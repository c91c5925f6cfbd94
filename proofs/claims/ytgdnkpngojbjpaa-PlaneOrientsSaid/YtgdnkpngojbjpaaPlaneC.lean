/- Product of package plane. -/
import Derived.Test.YtgdnkpngojbjpaaPlaneB
import Derived.Deep.RegionHeld3
namespace Go.Proofs.Ytgdnkpngojbjpaa.pl
open Go Go.RowKit Go.Proofs.Ytgdnkpngojbjpaa.tp Go.Proofs.Ytgdnkpngojbjpaa.fl Go.Proofs.Ytgdnkpngojbjpaa.mk

theorem two_pts (w : World) (o1 o2 o3 : Obj) (x y u v : Int) : ptsAt ((((w.alloc o1).alloc o2).alloc o3).alloc (.cells #[.int .i64 x, .int .i64 y, .int .i64 u, .int .i64 v] 23)) (w.heap.size + 3) [(x, y), (u, v)] := by
  have e : (((w.alloc o1).alloc o2).alloc o3).heap.size = w.heap.size + 3 := by simp
  rw [← e]
  intro i p hp
  have hi : i < 2 := by have := (List.getElem?_eq_some_iff.1 hp).1; simpa using this
  rcases (show i = 0 ∨ i = 1 by omega) with rfl | rfl
  · simp at hp; subst hp
    exact ⟨by rw [cell_of_row _ _ _ _ _ _ (heap_alloc_new _ _)]; rfl, by rw [cell_of_row _ _ _ _ _ _ (heap_alloc_new _ _)]; rfl⟩
  · simp at hp; subst hp
    exact ⟨by rw [cell_of_row _ _ _ _ _ _ (heap_alloc_new _ _)]; rfl, by rw [cell_of_row _ _ _ _ _ _ (heap_alloc_new _ _)]; rfl⟩
theorem small_two (x y u v : Int) : smallE [(x, y), (u, v)] = if smallB x y && smallB u v then 0 else 3 := by
  unfold smallE allSmall
  simp
theorem cMulBits_wf2 {a b c d re im : Nat} (h : cMulBits a b c d = some (re, im)) : re < 18446744073709551616 ∧ im < 18446744073709551616 := by
  have hw : ∀ {op x y r}, floatBits op .f64 x y = some r → r < 18446744073709551616 := by
    intro op x y r hh
    have := floatBits_wf hh
    simp [Lit.wf] at this
    omega
  unfold cMulBits at h
  simp only [Option.bind_eq_some_iff] at h
  obtain ⟨_, _, _, _, r, hr, _, _, _, _, i, hi, e⟩ := h
  cases e
  exact ⟨hw hr, hw hi⟩
theorem pt_store {w : World} {g : Nat} {x y u v : Value} {t : TypeId} (h : w.heap[g]? = some (.cells #[x, y] t (0, 0))) : ((w.setCell ⟨g, 0, none⟩ u).setCell ⟨g, 1, none⟩ v).heap[g]? = some (.cells #[u, v] t (0, 0)) := by
  simp [World.setCell, Array.getElem?_modify, h]
theorem product_not (x y u v : Int) (h : (smallB x y && smallB u v) = false) (w : World) : Calls Try.prog 14 #[Value.agg #[Value.int IntKind.i64 x, Value.int IntKind.i64 y], Value.agg #[Value.int IntKind.i64 u, Value.int IntKind.i64 v]] w fun e w' => e = .returned (.tuple #[Value.agg #[Value.int IntKind.i64 0, Value.int IntKind.i64 0], .int .i64 3]) ∧ Keeps (fun _ => False) w w' := by
  have Hs := Lib.hid (show smallE [(x, y), (u, v)] = 3 by rw [small_two, h]; rfl)
  go_enter Try.func14, Try.ntmps14
  go_wp2_with fail
  have cc := small_calls (w.heap.size + 3) 2 [(x, y), (u, v)] (by simp) _ (by simp) (two_pts w (.cells #[.int .i64 x, .int .i64 y] 23) (.cells #[.int .i64 u, .int .i64 v] 23) (.cells #[.int .i64 0, .int .i64 0] 23) x y u v)
  rw [Hs.out] at cc
  refine cc.mono ?_; clear cc; rintro e w1 ⟨rfl, hk1⟩
  have hb : (((((w.alloc (.cells #[.int .i64 x, .int .i64 y] 23)).alloc (.cells #[.int .i64 u, .int .i64 v] 23)).alloc (.cells #[.int .i64 0, .int .i64 0] 23)).alloc (.cells #[.int .i64 x, .int .i64 y, .int .i64 u, .int .i64 v] 23))).heap[w.heap.size + 2]? = some (.cells #[.int .i64 0, .int .i64 0] 23 (0, 0)) := by
    rw [Below.heap_alloc _ _ _ (by simp)]
    have := heap_alloc_new ((w.alloc (.cells #[.int .i64 x, .int .i64 y] 23)).alloc (.cells #[.int .i64 u, .int .i64 v] 23)) (.cells #[.int .i64 0, .int .i64 0] 23)
    simpa using this
  have hb1 := (hk1.block (w.heap.size + 2) (by simp) (fun h => h)).trans hb
  have hK := (((((Keeps.refl (fun _ => False) w).alloc _).alloc _).alloc _).alloc _).trans hk1 (fun _ _ h => h)
  have c0 : w1.cell? ⟨w.heap.size + 2, 0, none⟩ = some (.int .i64 0) := by rw [cell_of_row _ _ _ _ _ _ hb1]; rfl
  have c1 : w1.cell? ⟨w.heap.size + 2, 1, none⟩ = some (.int .i64 0) := by rw [cell_of_row _ _ _ _ _ _ hb1]; rfl
  have f0 := two_frozen hb1 0
  have f1 := two_frozen hb1 1
  have Hb1 := Lib.hid hb1
  clear hb hb1 hk1 h
  go_wp2
  exact bodyPost_ret (results_pt rfl _ _ (w.heap.size + 2) _ _ _ _ rfl (pt_store Hb1.out)) rfl ⟨rfl, (hK.setCell _ (fun hlt => by simp only at hlt; omega) _).setCell _ (fun hlt => by simp only at hlt; omega) _⟩

/-- What holds while Product's last region runs. -/
def Run (w0 : World) (x y u v : Int) (W : World) : Prop :=
  W.heap[w0.heap.size]? = some (.cells #[.int .i64 x, .int .i64 y] 23 (0, 0)) ∧ W.heap[w0.heap.size + 1]? = some (.cells #[.int .i64 u, .int .i64 v] 23 (0, 0)) ∧
  (∃ p q, W.heap[w0.heap.size + 2]? = some (.cells #[p, q] 23 (0, 0))) ∧ Keeps (fun _ => False) w0 W
theorem Run.kept {w0 : World} {x y u v : Int} {W W' : World} (h : Run w0 x y u v W) (hk : Keeps (fun _ => False) W W') : Run w0 x y u v W' := by
  obtain ⟨h1, h2, ⟨p, q, h3⟩, h4⟩ := h
  exact ⟨(hk.block _ (Array.getElem?_eq_some_iff.1 h1).1 (fun h => h)).trans h1, (hk.block _ (Array.getElem?_eq_some_iff.1 h2).1 (fun h => h)).trans h2, ⟨p, q, (hk.block _ (Array.getElem?_eq_some_iff.1 h3).1 (fun h => h)).trans h3⟩, h4.trans hk (fun _ _ h => h)⟩
theorem Run.drew {w0 : World} {x y u v : Int} {W : World} (h : Run w0 x y u v W) : Run w0 x y u v W.drew := ⟨h.1, h.2.1, h.2.2.1, h.2.2.2.drew⟩
theorem Run.cells {w0 : World} {x y u v : Int} {W : World} (h : Run w0 x y u v W) : W.cell? ⟨w0.heap.size, 0, none⟩ = some (.int .i64 x) ∧ W.cell? ⟨w0.heap.size, 1, none⟩ = some (.int .i64 y) ∧ W.cell? ⟨w0.heap.size + 1, 0, none⟩ = some (.int .i64 u) ∧ W.cell? ⟨w0.heap.size + 1, 1, none⟩ = some (.int .i64 v) :=
  ⟨by rw [cell_of_row _ _ _ _ _ _ h.1]; rfl, by rw [cell_of_row _ _ _ _ _ _ h.1]; rfl, by rw [cell_of_row _ _ _ _ _ _ h.2.1]; rfl, by rw [cell_of_row _ _ _ _ _ _ h.2.1]; rfl⟩
theorem Run.slot {w0 : World} {x y u v : Int} {W : World} (h : Run w0 x y u v W) : ∃ p q, W.cell? ⟨w0.heap.size + 2, 0, none⟩ = some p ∧ W.cell? ⟨w0.heap.size + 2, 1, none⟩ = some q ∧ W.frozen? ⟨w0.heap.size + 2, 0, none⟩ = false ∧ W.frozen? ⟨w0.heap.size + 2, 1, none⟩ = false := by
  obtain ⟨_, _, ⟨p, q, h3⟩, _⟩ := h
  exact ⟨p, q, by rw [cell_of_row _ _ _ _ _ _ h3]; rfl, by rw [cell_of_row _ _ _ _ _ _ h3]; rfl, two_frozen h3 _, two_frozen h3 _⟩
def Full (w0 : World) (x y u v : Int) (W : World) : Prop := W.cell? ⟨w0.heap.size, 0, none⟩ = some (.int .i64 x) ∧ W.cell? ⟨w0.heap.size, 1, none⟩ = some (.int .i64 y) ∧ W.cell? ⟨w0.heap.size + 1, 0, none⟩ = some (.int .i64 u) ∧ W.cell? ⟨w0.heap.size + 1, 1, none⟩ = some (.int .i64 v) ∧ Run w0 x y u v W
theorem Run.full {w0 : World} {x y u v : Int} {W : World} (h : Run w0 x y u v W) : Full w0 x y u v W := ⟨h.cells.1, h.cells.2.1, h.cells.2.2.1, h.cells.2.2.2, h⟩
theorem full_drew {w0 : World} {x y u v : Int} {W : World} (h : Full w0 x y u v W) : Full w0 x y u v W.drew := h.2.2.2.2.drew.full
theorem full_kept {w0 : World} {x y u v : Int} {W W' : World} (h : Full w0 x y u v W) (hk : Keeps (fun _ => False) W W') : Full w0 x y u v W' := (h.2.2.2.2.kept hk).full
set_option maxHeartbeats 1000000 in
theorem product_int (x y u v : Int) (h : smallB x y = true) (h' : smallB u v = true) (w : World) : Calls Try.prog 14 #[Value.agg #[Value.int IntKind.i64 x, Value.int IntKind.i64 y], Value.agg #[Value.int IntKind.i64 u, Value.int IntKind.i64 v]] w fun e w' => e = .returned (.tuple #[Value.agg #[Value.int IntKind.i64 (x * u - y * v), Value.int IntKind.i64 (x * v + y * u)], .int .i64 0]) ∧ Keeps (fun _ => False) w w' := by
  have Hs := Lib.hid (show smallE [(x, y), (u, v)] = 0 by rw [small_two, h, h']; rfl)
  obtain ⟨hx, hy⟩ := small_bounds h
  obtain ⟨hu, hv⟩ := small_bounds h'
  have b1 := mul_bound hx hu
  have b2 := mul_bound hy hv
  have b3 := mul_bound hx hv
  have b4 := mul_bound hy hu
  have i1 : In53 (x * u - y * v) := by unfold In53; omega
  have i2 : In53 (x * v + y * u) := by unfold In53; omega
  obtain ⟨re, im, hm, hre, him⟩ := F.cmul (F.nearest (in53_small hx)) (F.nearest (in53_small hy)) (F.nearest (in53_small hu)) (F.nearest (in53_small hv)) (by unfold In53; omega) (by unfold In53; omega) i1 (by unfold In53; omega) (by unfold In53; omega) i2
  obtain ⟨wr, wi⟩ := cMulBits_wf2 hm
  have hmul := fun w => run_complex_mul (P := Try.prog) w 42 _ _ _ _ re im hm
  have hpt := fun w => point_int re im _ _ wr wi hre i1 him i2 w
  generalize x * u - y * v = X at hpt ⊢
  generalize x * v + y * u = Y at hpt ⊢
  clear hm hre him hx hy hu hv h h' b1 b2 b3 b4 i1 i2 wr wi
  go_enter Try.func14, Try.ntmps14
  go_wp2_with fail
  have cc := small_calls (w.heap.size + 3) 2 [(x, y), (u, v)] (by simp) _ (by simp) (two_pts w (.cells #[.int .i64 x, .int .i64 y] 23) (.cells #[.int .i64 u, .int .i64 v] 23) (.cells #[.int .i64 0, .int .i64 0] 23) x y u v)
  rw [Hs.out] at cc
  have hR : Run w x y u v ((((w.alloc (.cells #[.int .i64 x, .int .i64 y] 23)).alloc (.cells #[.int .i64 u, .int .i64 v] 23)).alloc (.cells #[.int .i64 0, .int .i64 0] 23)).alloc (.cells #[.int .i64 x, .int .i64 y, .int .i64 u, .int .i64 v] 23)) := by
    refine ⟨?_, ?_, ⟨.int .i64 0, .int .i64 0, ?_⟩, ((((Keeps.refl _ w).alloc _).alloc _).alloc _).alloc _⟩
    · rw [Below.heap_alloc _ _ _ (by simp; omega), Below.heap_alloc _ _ _ (by simp; omega), Below.heap_alloc _ _ _ (by simp)]
      exact heap_alloc_new w _
    · rw [Below.heap_alloc _ _ _ (by simp), Below.heap_alloc _ _ _ (by simp)]
      have := heap_alloc_new (w.alloc (.cells #[.int .i64 x, .int .i64 y] 23)) (.cells #[.int .i64 u, .int .i64 v] 23)
      simpa using this
    · rw [Below.heap_alloc _ _ _ (by simp)]
      have := heap_alloc_new ((w.alloc (.cells #[.int .i64 x, .int .i64 y] 23)).alloc (.cells #[.int .i64 u, .int .i64 v] 23)) (.cells #[.int .i64 0, .int .i64 0] 23)
      simpa using this
  refine cc.mono ?_; clear cc; rintro e w1 ⟨rfl, hk1⟩
  have hR1 := hR.kept hk1
  clear hR hk1
  have hR1d := hR1.drew
  obtain ⟨p0, p1, p2', p3⟩ := hR1d.cells
  obtain ⟨_, _, q0, q1, f0, f1⟩ := hR1d.slot
  clear hR1
  go_wp2
  go_region_with (first
    | (go_at_call 20; refine (complex_calls _ _ _).mono ?_; rintro e w2 ⟨rfl, hk2⟩; have hR2 := Run.kept (by assumption) hk2; obtain ⟨p0, p1, p2', p3⟩ := hR2.cells; clear hk2)
    | (go_at_call 21; refine (hpt _).mono ?_; rintro e w4 ⟨rfl, hk4⟩; have hR4 := Run.kept (by assumption) hk4; obtain ⟨_, _, q0, q1, f0, f1⟩ := hR4.slot; clear hk4))
  all_goals (
    go_wp2
    obtain ⟨_, _, ⟨_, _, h3⟩, hK⟩ := hR4
    exact bodyPost_ret (results_pt rfl _ _ (w.heap.size + 2) _ _ _ _ rfl (pt_store h3)) rfl ⟨rfl, (hK.setCell _ (fun hlt => by simp only at hlt; omega) _).setCell _ (fun hlt => by simp only at hlt; omega) _⟩)
end Go.Proofs.Ytgdnkpngojbjpaa.pl
