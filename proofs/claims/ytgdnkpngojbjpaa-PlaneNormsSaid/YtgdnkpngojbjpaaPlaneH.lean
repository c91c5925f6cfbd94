/- The laws of layer 9 that orient, convert and look for integers. -/
import Derived.Test.YtgdnkpngojbjpaaPlaneG
namespace Go.Proofs.Ytgdnkpngojbjpaa.pl
open Go Go.RowKit Go.Proofs.Ytgdnkpngojbjpaa.tp Go.Proofs.Ytgdnkpngojbjpaa.fl Go.Proofs.Ytgdnkpngojbjpaa.mk

theorem tri_new (w : World) (x y u v s t : Int) : TriC w x y u v s t (((w.alloc (.cells #[.int .i64 x, .int .i64 y] 23)).alloc (.cells #[.int .i64 u, .int .i64 v] 23)).alloc (.cells #[.int .i64 s, .int .i64 t] 23)) := by
  apply Tri.full
  refine ⟨?_, ?_, ?_, (((Keeps.refl _ w).alloc _).alloc _).alloc _⟩
  · rw [Below.heap_alloc _ _ _ (by simp; omega), Below.heap_alloc _ _ _ (by simp)]
    exact heap_alloc_new w _
  · rw [Below.heap_alloc _ _ _ (by simp)]
    exact new_at (by simp)
  · exact new_at (by simp)
theorem TriC.keeps {w0 : World} {x y u v s t : Int} {W : World} (h : TriC w0 x y u v s t W) : Keeps (fun _ => False) w0 W := h.2.2.2.2.2.2.2.2.2

set_option maxHeartbeats 2000000 in
theorem orients_law (x y u v s t : Int) (w : World) : Calls Try.prog 3 #[Value.agg #[Value.int IntKind.i64 x, Value.int IntKind.i64 y], Value.agg #[Value.int IntKind.i64 u, Value.int IntKind.i64 v], Value.agg #[Value.int IntKind.i64 s, Value.int IntKind.i64 t]] w (Yes w) := by
  have T0 := tri_new w x y u v s t
  by_cases h : (smallB x y && (smallB u v && smallB s t)) = true
  · obtain ⟨h1, h2, h3⟩ : smallB x y = true ∧ smallB u v = true ∧ smallB s t = true := by simpa using h
    have ho := fun w => orient_int x y u v s t h1 h2 h3 w
    have hr := fun w => rorient_calls x y u v s t h1 h2 h3 w
    have s1 := fun w => rIsSmall_calls x y w
    have s2 := fun w => rIsSmall_calls u v w
    have s3 := fun w => rIsSmall_calls s t w
    have s4 := fun w => isSmall_calls x y w
    rw [h1] at s1 s4
    rw [h2] at s2
    rw [h3] at s3
    clear h h1 h2 h3
    go_enter Try.func3, Try.ntmps3
    go_wp2_with fail
    refine (ho _).mono ?_; rintro e w1 ⟨rfl, hk1⟩
    have T1 := tri_kept T0 hk1
    have T' := T1; obtain ⟨p0, p1, p2, p3, p4, p5, _⟩ := T'
    clear T0 hk1
    go_wp2_with fail
    refine (s1 _).mono ?_; rintro e w2 ⟨rfl, hk2⟩
    have T2 := tri_kept T1 hk2
    have T' := T2; obtain ⟨p0, p1, p2, p3, p4, p5, _⟩ := T'
    go_wp2_with fail
    refine (s2 _).mono ?_; rintro e w3 ⟨rfl, hk3⟩
    have T3 := tri_kept T2 hk3
    have T' := T3; obtain ⟨p0, p1, p2, p3, p4, p5, _⟩ := T'
    go_wp2_with fail
    refine (s3 _).mono ?_; rintro e w4 ⟨rfl, hk4⟩
    have T4 := tri_kept T3 hk4
    have T' := T4; obtain ⟨p0, p1, p2, p3, p4, p5, _⟩ := T'
    go_wp2_with fail
    refine (alive_calls _).mono ?_; rintro e w5 ⟨rfl, hk5⟩
    have T5 := tri_kept T4 hk5
    have T' := T5; obtain ⟨p0, p1, p2, p3, p4, p5, _⟩ := T'
    go_wp2_with fail
    refine (hr _).mono ?_; rintro e w6 ⟨rfl, hk6⟩
    have T6 := tri_kept T5 hk6
    have T' := T6; obtain ⟨p0, p1, p2, p3, p4, p5, _⟩ := T'
    go_wp2_with fail
    refine (s4 _).mono ?_; rintro e w7 ⟨rfl, hk7⟩
    have T7 := tri_kept T6 hk7
    go_wp2
    go_ret
    exact ⟨rfl, T7.keeps⟩
  · have h : (smallB x y && (smallB u v && smallB s t)) = false := by simpa using h
    have ho := fun w => orient_not x y u v s t h w
    have s1 := fun w => rIsSmall_calls x y w
    have s2 := fun w => rIsSmall_calls u v w
    have s3 := fun w => rIsSmall_calls s t w
    rcases (show smallB x y = false ∨ (smallB x y = true ∧ smallB u v = false) ∨ (smallB x y = true ∧ smallB u v = true ∧ smallB s t = false) by
      revert h; cases smallB x y <;> cases smallB u v <;> cases smallB s t <;> decide) with h1 | ⟨h1, h2⟩ | ⟨h1, h2, h3⟩
    · rw [h1] at s1
      clear h h1
      go_enter Try.func3, Try.ntmps3
      go_wp2_with fail
      refine (ho _).mono ?_; rintro e w1 ⟨rfl, hk1⟩
      have T1 := tri_kept T0 hk1
      have T' := T1; obtain ⟨p0, p1, p2, p3, p4, p5, _⟩ := T'
      clear T0 hk1
      go_wp2_with fail
      refine (s1 _).mono ?_; rintro e w2 ⟨rfl, hk2⟩
      have T2 := tri_kept T1 hk2
      have T' := T2; obtain ⟨p0, p1, p2, p3, p4, p5, _⟩ := T'
      go_wp2_with fail
      refine (alive_calls _).mono ?_; rintro e w5 ⟨rfl, hk5⟩
      have T5 := tri_kept T2 hk5
      go_wp2
      go_ret
      exact ⟨rfl, T5.keeps⟩
    · rw [h1] at s1
      rw [h2] at s2
      clear h h1 h2
      go_enter Try.func3, Try.ntmps3
      go_wp2_with fail
      refine (ho _).mono ?_; rintro e w1 ⟨rfl, hk1⟩
      have T1 := tri_kept T0 hk1
      have T' := T1; obtain ⟨p0, p1, p2, p3, p4, p5, _⟩ := T'
      clear T0 hk1
      go_wp2_with fail
      refine (s1 _).mono ?_; rintro e w2 ⟨rfl, hk2⟩
      have T2 := tri_kept T1 hk2
      have T' := T2; obtain ⟨p0, p1, p2, p3, p4, p5, _⟩ := T'
      go_wp2_with fail
      refine (s2 _).mono ?_; rintro e w3 ⟨rfl, hk3⟩
      have T3 := tri_kept T2 hk3
      have T' := T3; obtain ⟨p0, p1, p2, p3, p4, p5, _⟩ := T'
      go_wp2_with fail
      refine (alive_calls _).mono ?_; rintro e w5 ⟨rfl, hk5⟩
      have T5 := tri_kept T3 hk5
      go_wp2
      go_ret
      exact ⟨rfl, T5.keeps⟩
    · rw [h1] at s1
      rw [h2] at s2
      rw [h3] at s3
      clear h h1 h2 h3
      go_enter Try.func3, Try.ntmps3
      go_wp2_with fail
      refine (ho _).mono ?_; rintro e w1 ⟨rfl, hk1⟩
      have T1 := tri_kept T0 hk1
      have T' := T1; obtain ⟨p0, p1, p2, p3, p4, p5, _⟩ := T'
      clear T0 hk1
      go_wp2_with fail
      refine (s1 _).mono ?_; rintro e w2 ⟨rfl, hk2⟩
      have T2 := tri_kept T1 hk2
      have T' := T2; obtain ⟨p0, p1, p2, p3, p4, p5, _⟩ := T'
      go_wp2_with fail
      refine (s2 _).mono ?_; rintro e w3 ⟨rfl, hk3⟩
      have T3 := tri_kept T2 hk3
      have T' := T3; obtain ⟨p0, p1, p2, p3, p4, p5, _⟩ := T'
      go_wp2_with fail
      refine (s3 _).mono ?_; rintro e w4 ⟨rfl, hk4⟩
      have T4 := tri_kept T3 hk4
      have T' := T4; obtain ⟨p0, p1, p2, p3, p4, p5, _⟩ := T'
      go_wp2_with fail
      refine (alive_calls _).mono ?_; rintro e w5 ⟨rfl, hk5⟩
      have T5 := tri_kept T4 hk5
      go_wp2
      go_ret
      exact ⟨rfl, T5.keeps⟩

/-! ### PlaneConverts -/
set_option maxHeartbeats 1000000 in
theorem converts_law (x y : Int) (w : World) : Calls Try.prog 6 #[Value.agg #[Value.int IntKind.i64 x, Value.int IntKind.i64 y]] w (Yes w) := by
  have P0 := PtAt.new w x y
  have n1 : (FloatKind.f64.format.order (FloatKind.f64.nearest x) (floatOfInt .f64 x) != some .eq) = false := by
    rw [show FloatKind.f64.format.order (FloatKind.f64.nearest x) (floatOfInt .f64 x) = some .eq from nearest_self x]; rfl
  have n2 : (FloatKind.f64.format.order (FloatKind.f64.nearest y) (floatOfInt .f64 y) != some .eq) = false := by
    rw [show FloatKind.f64.format.order (FloatKind.f64.nearest y) (floatOfInt .f64 y) = some .eq from nearest_self y]; rfl
  have hk0 := (Keeps.refl (fun _ => False) w).alloc (.cells #[.int .i64 x, .int .i64 y] 23)
  have hs := fun w => rIsSmall_calls x y w
  cases h : smallB x y
  · rw [h] at hs
    clear h
    go_enter Try.func6, Try.ntmps6
    go_wp2_with fail
    refine (complex_calls x y _).mono ?_; rintro e w1 ⟨rfl, hk1⟩
    have P1 := P0.kept hk1
    obtain ⟨p0, p1⟩ := And.intro P1.c0 P1.c1
    go_wp2_with fail
    refine (hs _).mono ?_; rintro e w2 ⟨rfl, hk2⟩
    go_wp2_with fail
    refine (alive_calls _).mono ?_; rintro e w5 ⟨rfl, hk5⟩
    go_wp2
    go_ret
    exact ⟨rfl, ((hk0.trans hk1 (fun _ _ h => h)).trans hk2 (fun _ _ h => h)).trans hk5 (fun _ _ h => h)⟩
  · rw [h] at hs
    have B := Bits.of h
    obtain ⟨hx, hy⟩ := small_bounds h
    have hp := fun w => point_int _ _ x y B.wa B.wb B.ha (in53_small hx) B.hb (in53_small hy) w
    clear h hx hy B
    go_enter Try.func6, Try.ntmps6
    go_wp2_with fail
    refine (complex_calls x y _).mono ?_; rintro e w1 ⟨rfl, hk1⟩
    have P1 := P0.kept hk1
    obtain ⟨p0, p1⟩ := And.intro P1.c0 P1.c1
    go_wp2_with fail
    refine (hs _).mono ?_; rintro e w2 ⟨rfl, hk2⟩
    have P2 := P1.kept hk2
    clear p0 p1
    go_wp2_with fail
    refine (hp _).mono ?_; rintro e w3 ⟨rfl, hk3⟩
    have P3 := (P2.kept hk3).alloc (.cells #[.int .i64 x, .int .i64 y] 23)
    have Q3 := PtAt.new w3 x y
    go_wp2_with fail
    refine (alive_calls _).mono ?_; rintro e w5 ⟨rfl, hk5⟩
    have P5 := P3.kept hk5
    have Q5 := Q3.kept hk5
    obtain ⟨p0, p1, q0, q1⟩ := And.intro P5.c0 (And.intro P5.c1 (And.intro Q5.c0 Q5.c1))
    go_wp2
    go_ret
    exact ⟨rfl, ((((hk0.trans hk1 (fun _ _ h => h)).trans hk2 (fun _ _ h => h)).trans hk3 (fun _ _ h => h)).alloc _).trans hk5 (fun _ _ h => h)⟩

/-! ### PlaneIntegers -/
set_option maxHeartbeats 1000000 in
theorem integers_law (a b : Nat) (ha : a < 18446744073709551616) (hb : b < 18446744073709551616) (w : World) : Calls Try.prog 7 #[.float .f64 a, .float .f64 b] w (Yes w) := by
  by_cases h : Whole a ∧ Whole b
  · obtain ⟨⟨x, Fx, hx⟩, y, Fy, hy⟩ := h
    have hp := fun w => point_int a b x y ha hb Fx hx Fy hy w
    have l1 := fun w => lwhole_yes a x Fx hx w
    have l2 := fun w => lwhole_yes b y Fy hy w
    have c1 := conv_int Fx hx
    have c2 := conv_int Fy hy
    clear ha hb Fx Fy hx hy
    go_enter Try.func7, Try.ntmps7
    go_wp2_with fail
    refine (hp _).mono ?_; rintro e w1 ⟨rfl, hk1⟩
    have P1 := PtAt.new w1 x y
    go_wp2_with fail
    refine (l1 _).mono ?_; rintro e w2 ⟨rfl, rfl⟩
    go_wp2_with fail
    refine (l2 _).mono ?_; rintro e w2 ⟨rfl, rfl⟩
    go_wp2_with fail
    refine (alive_calls _).mono ?_; rintro e w3 ⟨rfl, hk3⟩
    have P3 := P1.kept hk3
    obtain ⟨p0, p1⟩ := And.intro P3.c0 P3.c1
    go_wp2
    go_ret
    exact ⟨rfl, (hk1.alloc _).trans hk3 (fun _ _ h => h)⟩
  · have hp := fun w => point_not a b ha hb h w
    by_cases h1 : Whole a
    · have h2 : ¬ Whole b := fun h2 => h ⟨h1, h2⟩
      obtain ⟨x, Fx, hx⟩ := h1
      have l1 := fun w => lwhole_yes a x Fx hx w
      have l2 := fun w => lwhole_no b h2 w
      clear ha hb Fx hx h h2
      go_enter Try.func7, Try.ntmps7
      go_wp2_with fail
      refine (hp _).mono ?_; rintro e w1 ⟨rfl, hk1⟩
      have P1 := PtAt.new w1 0 0
      go_wp2_with fail
      refine (l1 _).mono ?_; rintro e w2 ⟨rfl, rfl⟩
      go_wp2_with fail
      refine (l2 _).mono ?_; rintro e w2 ⟨rfl, rfl⟩
      go_wp2_with fail
      refine (alive_calls _).mono ?_; rintro e w3 ⟨rfl, hk3⟩
      have P3 := P1.kept hk3
      obtain ⟨p0, p1⟩ := And.intro P3.c0 P3.c1
      go_wp2
      go_ret
      exact ⟨rfl, (hk1.alloc _).trans hk3 (fun _ _ h => h)⟩
    · have l1 := fun w => lwhole_no a h1 w
      clear ha hb h h1
      go_enter Try.func7, Try.ntmps7
      go_wp2_with fail
      refine (hp _).mono ?_; rintro e w1 ⟨rfl, hk1⟩
      have P1 := PtAt.new w1 0 0
      go_wp2_with fail
      refine (l1 _).mono ?_; rintro e w2 ⟨rfl, rfl⟩
      go_wp2_with fail
      refine (alive_calls _).mono ?_; rintro e w3 ⟨rfl, hk3⟩
      have P3 := P1.kept hk3
      obtain ⟨p0, p1⟩ := And.intro P3.c0 P3.c1
      go_wp2
      go_ret
      exact ⟨rfl, (hk1.alloc _).trans hk3 (fun _ _ h => h)⟩
end Go.Proofs.Ytgdnkpngojbjpaa.pl
