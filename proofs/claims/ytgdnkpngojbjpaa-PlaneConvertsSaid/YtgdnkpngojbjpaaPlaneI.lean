/- The laws of layer 9 that multiply and turn. -/
import Derived.Test.YtgdnkpngojbjpaaPlaneH
import Derived.BigRegion
namespace Go.Proofs.Ytgdnkpngojbjpaa.pl
open Go Go.RowKit Go.Proofs.Ytgdnkpngojbjpaa.tp Go.Proofs.Ytgdnkpngojbjpaa.fl Go.Proofs.Ytgdnkpngojbjpaa.mk

/-- Three points lie in three blocks, and what w0 had is as it was. -/
def Hold3 (w0 : World) (g1 g2 g3 : Nat) (x1 y1 x2 y2 x3 y3 : Int) (W : World) : Prop :=
  W.cell? ⟨g1, 0, none⟩ = some (.int .i64 x1) ∧ W.cell? ⟨g1, 1, none⟩ = some (.int .i64 y1) ∧ W.cell? ⟨g2, 0, none⟩ = some (.int .i64 x2) ∧ W.cell? ⟨g2, 1, none⟩ = some (.int .i64 y2) ∧
  W.cell? ⟨g3, 0, none⟩ = some (.int .i64 x3) ∧ W.cell? ⟨g3, 1, none⟩ = some (.int .i64 y3) ∧ PtAt W g1 x1 y1 ∧ PtAt W g2 x2 y2 ∧ PtAt W g3 x3 y3 ∧ Keeps (fun _ => False) w0 W
theorem Hold3.mk {w0 : World} {g1 g2 g3 : Nat} {x1 y1 x2 y2 x3 y3 : Int} {W : World} (h1 : PtAt W g1 x1 y1) (h2 : PtAt W g2 x2 y2) (h3 : PtAt W g3 x3 y3) (hk : Keeps (fun _ => False) w0 W) : Hold3 w0 g1 g2 g3 x1 y1 x2 y2 x3 y3 W :=
  ⟨h1.c0, h1.c1, h2.c0, h2.c1, h3.c0, h3.c1, h1, h2, h3, hk⟩
theorem hold3_kept {w0 : World} {g1 g2 g3 : Nat} {x1 y1 x2 y2 x3 y3 : Int} {W W' : World} (h : Hold3 w0 g1 g2 g3 x1 y1 x2 y2 x3 y3 W) (hk : Keeps (fun _ => False) W W') : Hold3 w0 g1 g2 g3 x1 y1 x2 y2 x3 y3 W' := by
  obtain ⟨_, _, _, _, _, _, h1, h2, h3, h4⟩ := h
  exact .mk (h1.kept hk) (h2.kept hk) (h3.kept hk) (h4.trans hk (fun _ _ h => h))
theorem hold3_drew {w0 : World} {g1 g2 g3 : Nat} {x1 y1 x2 y2 x3 y3 : Int} {W : World} (h : Hold3 w0 g1 g2 g3 x1 y1 x2 y2 x3 y3 W) : Hold3 w0 g1 g2 g3 x1 y1 x2 y2 x3 y3 W.drew := hold3_kept h ((Keeps.refl _ W).drew)

theorem two_new (w : World) (x y u v : Int) : PtAt ((w.alloc (.cells #[.int .i64 x, .int .i64 y] 23)).alloc (.cells #[.int .i64 u, .int .i64 v] 23)) w.heap.size x y ∧
    PtAt ((w.alloc (.cells #[.int .i64 x, .int .i64 y] 23)).alloc (.cells #[.int .i64 u, .int .i64 v] 23)) (w.heap.size + 1) u v ∧
    Keeps (fun _ => False) w ((w.alloc (.cells #[.int .i64 x, .int .i64 y] 23)).alloc (.cells #[.int .i64 u, .int .i64 v] 23)) :=
  ⟨(PtAt.new w x y).alloc _, new_at (by simp), ((Keeps.refl _ w).alloc _).alloc _⟩

set_option maxHeartbeats 2000000 in
theorem multiplies_law (x y u v : Int) (w : World) : Calls Try.prog 4 #[Value.agg #[Value.int IntKind.i64 x, Value.int IntKind.i64 y], Value.agg #[Value.int IntKind.i64 u, Value.int IntKind.i64 v]] w (Yes w) := by
  obtain ⟨P0, Q0, K0⟩ := two_new w x y u v
  have s1 := fun w => rIsSmall_calls x y w
  have s2 := fun w => isSmall_calls x y w
  have s3 := fun w => rIsSmall_calls u v w
  cases h1 : smallB x y
  · have hp := fun w => product_not x y u v (by rw [h1]; rfl) w
    have hn := fun w => norm_not x y h1 w
    have ho : (FloatKind.f64.format.order 0 0 != some .eq) = false := by decide
    rw [h1] at s1 s2
    clear h1
    go_enter Try.func4, Try.ntmps4
    go_wp2_with fail
    refine (hp _).mono ?_; rintro e w1 ⟨rfl, hk1⟩
    have P1 := (P0.kept hk1).alloc (.cells #[.int .i64 0, .int .i64 0] 23)
    have R1 := PtAt.new w1 0 0
    have K1 := (K0.trans hk1 (fun _ _ h => h)).alloc (.cells #[.int .i64 0, .int .i64 0] 23)
    clear P0 Q0 K0 hk1
    obtain ⟨p0, p1⟩ := And.intro P1.c0 P1.c1
    go_wp2_with fail
    refine (hn _).mono ?_; rintro e w2 ⟨rfl, hk2⟩
    have P2 := P1.kept hk2
    obtain ⟨p0, p1⟩ := And.intro P2.c0 P2.c1
    go_wp2_with fail
    refine (s1 _).mono ?_; rintro e w3 ⟨rfl, hk3⟩
    have P3 := P2.kept hk3
    obtain ⟨p0, p1⟩ := And.intro P3.c0 P3.c1
    go_wp2_with fail
    refine (s2 _).mono ?_; rintro e w4 ⟨rfl, hk4⟩
    go_wp2_with fail
    refine (alive_calls _).mono ?_; rintro e w5 ⟨rfl, hk5⟩
    have R5 := (((R1.kept hk2).kept hk3).kept hk4).kept hk5
    have K5 := (((K1.trans hk2 (fun _ _ h => h)).trans hk3 (fun _ _ h => h)).trans hk4 (fun _ _ h => h)).trans hk5 (fun _ _ h => h)
    obtain ⟨q0, q1⟩ := And.intro R5.c0 R5.c1
    go_wp2
    go_ret
    exact ⟨rfl, K5⟩
  · obtain ⟨bx, by'⟩ := small_bounds h1
    have hI : In53 (x * x + y * y) := by
      have b1 := mul_bound bx bx
      have b2 := mul_bound by' by'
      unfold In53; omega
    have hn := fun w => norm_int x y h1 w
    have hrn := fun w => rnorm_calls x y h1 w
    have FN := F.nearest hI
    rw [h1] at s1 s2
    cases h2 : smallB u v
    · have hp := fun w => product_not x y u v (by rw [h2, Bool.and_false]) w
      rw [h2] at s3
      clear h1 h2 bx by' hI
      go_enter Try.func4, Try.ntmps4
      go_wp2_with fail
      refine (hp _).mono ?_; rintro e w1 ⟨rfl, hk1⟩
      have P1 := (P0.kept hk1).alloc (.cells #[.int .i64 0, .int .i64 0] 23)
      have Q1 := (Q0.kept hk1).alloc (.cells #[.int .i64 0, .int .i64 0] 23)
      have R1 := PtAt.new w1 0 0
      have K1 := (K0.trans hk1 (fun _ _ h => h)).alloc (.cells #[.int .i64 0, .int .i64 0] 23)
      clear P0 Q0 K0 hk1
      obtain ⟨p0, p1⟩ := And.intro P1.c0 P1.c1
      go_wp2_with fail
      refine (hn _).mono ?_; rintro e w2 ⟨⟨r, rfl, hr⟩, hk2⟩
      have ho : (FloatKind.f64.format.order r (floatOfInt .f64 (x * x + y * y)) != some .eq) = false := order_ne hr FN
      clear hr
      have P2 := P1.kept hk2
      obtain ⟨p0, p1⟩ := And.intro P2.c0 P2.c1
      go_wp2_with fail
      refine (s1 _).mono ?_; rintro e w3 ⟨rfl, hk3⟩
      have P3 := P2.kept hk3
      obtain ⟨p0, p1⟩ := And.intro P3.c0 P3.c1
      go_wp2_with fail
      refine (s2 _).mono ?_; rintro e w4 ⟨rfl, hk4⟩
      have P4 := P3.kept hk4
      obtain ⟨p0, p1⟩ := And.intro P4.c0 P4.c1
      go_wp2_with fail
      refine (hrn _).mono ?_; rintro e w5 ⟨rfl, hk5⟩
      have Q5 := (((Q1.kept hk2).kept hk3).kept hk4).kept hk5
      obtain ⟨p0, p1⟩ := And.intro Q5.c0 Q5.c1
      have K5 := (((K1.trans hk2 (fun _ _ h => h)).trans hk3 (fun _ _ h => h)).trans hk4 (fun _ _ h => h)).trans hk5 (fun _ _ h => h)
      go_wp2_with fail
      refine (s3 _).mono ?_; rintro e w6 ⟨rfl, hk6⟩
      go_wp2_with fail
      refine (alive_calls _).mono ?_; rintro e w7 ⟨rfl, hk7⟩
      have R5 := (((((R1.kept hk2).kept hk3).kept hk4).kept hk5).kept hk6).kept hk7
      have K7 := (K5.trans hk6 (fun _ _ h => h)).trans hk7 (fun _ _ h => h)
      obtain ⟨q0, q1⟩ := And.intro R5.c0 R5.c1
      go_wp2
      go_ret
      exact ⟨rfl, K7⟩
    · have hp := fun w => product_int x y u v h1 h2 w
      have hrp := fun w => rproduct_calls x y u v h1 h2 w
      rw [h2] at s3
      generalize x * u - y * v = X at hp hrp
      generalize x * v + y * u = Y at hp hrp
      clear h1 h2 bx by' hI
      go_enter Try.func4, Try.ntmps4
      go_wp2_with fail
      refine (hp _).mono ?_; rintro e w1 ⟨rfl, hk1⟩
      have P1 := (P0.kept hk1).alloc (.cells #[.int .i64 X, .int .i64 Y] 23)
      have Q1 := (Q0.kept hk1).alloc (.cells #[.int .i64 X, .int .i64 Y] 23)
      have R1 := PtAt.new w1 X Y
      have K1 := (K0.trans hk1 (fun _ _ h => h)).alloc (.cells #[.int .i64 X, .int .i64 Y] 23)
      clear P0 Q0 K0 hk1
      obtain ⟨p0, p1⟩ := And.intro P1.c0 P1.c1
      go_wp2_with fail
      refine (hn _).mono ?_; rintro e w2 ⟨⟨r, rfl, hr⟩, hk2⟩
      have ho : (FloatKind.f64.format.order r (floatOfInt .f64 (x * x + y * y)) != some .eq) = false := order_ne hr FN
      clear hr
      have P2 := P1.kept hk2
      obtain ⟨p0, p1⟩ := And.intro P2.c0 P2.c1
      go_wp2_with fail
      refine (s1 _).mono ?_; rintro e w3 ⟨rfl, hk3⟩
      have P3 := P2.kept hk3
      obtain ⟨p0, p1⟩ := And.intro P3.c0 P3.c1
      go_wp2_with fail
      refine (s2 _).mono ?_; rintro e w4 ⟨rfl, hk4⟩
      have P4 := P3.kept hk4
      obtain ⟨p0, p1⟩ := And.intro P4.c0 P4.c1
      go_wp2_with fail
      refine (hrn _).mono ?_; rintro e w5 ⟨rfl, hk5⟩
      have Q5 := (((Q1.kept hk2).kept hk3).kept hk4).kept hk5
      obtain ⟨p0, p1⟩ := And.intro Q5.c0 Q5.c1
      go_wp2_with fail
      refine (s3 _).mono ?_; rintro e w6 ⟨rfl, hk6⟩
      have K6 := ((((K1.trans hk2 (fun _ _ h => h)).trans hk3 (fun _ _ h => h)).trans hk4 (fun _ _ h => h)).trans hk5 (fun _ _ h => h)).trans hk6 (fun _ _ h => h)
      have hS : Hold3 w w.heap.size (w.heap.size + 1) w1.heap.size x y u v X Y w6 := .mk ((P4.kept hk5).kept hk6) (Q5.kept hk6) (((((R1.kept hk2).kept hk3).kept hk4).kept hk5).kept hk6) K6
      clear P1 P2 P3 P4 Q1 Q5 R1 K1 K6 hk2 hk3 hk4 hk5 hk6 s1 s2 s3 hn hrn hp ho p0 p1
      go_wp2
      go_region_held3 (fun W => W.cell? ⟨w.heap.size, 0, none⟩ = some (.int .i64 x) ∧ W.cell? ⟨w.heap.size, 1, none⟩ = some (.int .i64 y) ∧ W.cell? ⟨w.heap.size + 1, 0, none⟩ = some (.int .i64 u) ∧ W.cell? ⟨w.heap.size + 1, 1, none⟩ = some (.int .i64 v) ∧
          W.cell? ⟨w1.heap.size, 0, none⟩ = some (.int .i64 X) ∧ W.cell? ⟨w1.heap.size, 1, none⟩ = some (.int .i64 Y) ∧ PtAt W w.heap.size x y ∧ PtAt W (w.heap.size + 1) u v ∧ PtAt W w1.heap.size X Y ∧ Keeps (fun _ => False) w W)
        (first | exact hold3_drew hS | exact hold3_kept (by assumption) (by assumption) | exact hold3_kept ⟨by assumption, by assumption, by assumption, by assumption, by assumption, by assumption, by assumption, by assumption, by assumption, by assumption⟩ (by assumption))
        (first | (go_at_call 11; refine (alive_calls _).mono ?_; rintro e w2 ⟨rfl, hk2⟩) | (go_at_call 17; refine (hrp _).mono ?_; rintro e w2 ⟨rfl, hk2⟩))
      rename_i hHeld
      have K := hHeld.2.2.2.2.2.2.2.2.2
      clear hHeld
      go_wp2
      go_ret
      exact ⟨rfl, K⟩

/-! ### PlaneTurns -/
theorem quad_back {k x y : Int} : rot (quad (-(k.tmod 4))) (rot (quad k) (x, y)) = (x, y) := by
  have hq := quad_bounds k
  have hc : k.tmod 4 = -3 ∨ k.tmod 4 = -2 ∨ k.tmod 4 = -1 ∨ k.tmod 4 = 0 ∨ k.tmod 4 = 1 ∨ k.tmod 4 = 2 ∨ k.tmod 4 = 3 := by omega
  have h0 : quad k = ((k.tmod 4 + 4) % 4).toNat := rfl
  rcases hc with h | h | h | h | h | h | h
  all_goals
    rw [h0, h]
    simp [quad, rot]
set_option maxHeartbeats 2000000 in
theorem turns_law (x y k : Int) (w : World) : Calls Try.prog 5 #[Value.agg #[Value.int IntKind.i64 x, Value.int IntKind.i64 y], .int .i64 k] w (Yes w) := by
  have P0 := PtAt.new w x y
  have K0 := (Keeps.refl (fun _ => False) w).alloc (.cells #[.int .i64 x, .int .i64 y] 23)
  have s1 := fun w => rIsSmall_calls x y w
  cases h1 : smallB x y
  · have ht := fun w => turn_not x y k h1 w
    rw [h1] at s1
    clear h1
    go_enter Try.func5, Try.ntmps5
    go_wp2_with fail
    refine (ht _).mono ?_; rintro e w1 ⟨rfl, hk1⟩
    have P1 := (P0.kept hk1).alloc (.cells #[.int .i64 0, .int .i64 0] 23)
    have R1 := PtAt.new w1 0 0
    have K1 := (K0.trans hk1 (fun _ _ h => h)).alloc (.cells #[.int .i64 0, .int .i64 0] 23)
    clear P0 K0 hk1
    obtain ⟨p0, p1⟩ := And.intro P1.c0 P1.c1
    go_wp2_with fail
    refine (s1 _).mono ?_; rintro e w3 ⟨rfl, hk3⟩
    go_wp2_with fail
    refine (alive_calls _).mono ?_; rintro e w5 ⟨rfl, hk5⟩
    have R5 := (R1.kept hk3).kept hk5
    have K5 := (K1.trans hk3 (fun _ _ h => h)).trans hk5 (fun _ _ h => h)
    obtain ⟨q0, q1⟩ := And.intro R5.c0 R5.c1
    go_wp2
    go_ret
    exact ⟨rfl, K5⟩
  · have ht := fun w => turn_int x y k h1 w
    have ht2 := fun w => turn_int (rot (quad k) (x, y)).1 (rot (quad k) (x, y)).2 (-(k.tmod 4)) (rot_small h1 (quad k)) w
    have hrt := fun w => rturn_calls x y k h1 w
    rw [show ((rot (quad k) (x, y)).1, (rot (quad k) (x, y)).2) = rot (quad k) (x, y) from rfl, quad_back] at ht2
    rw [h1] at s1
    obtain ⟨kb, kb'⟩ := quad_bounds k
    generalize (rot (quad k) (x, y)).1 = X at ht ht2 hrt
    generalize (rot (quad k) (x, y)).2 = Y at ht ht2 hrt
    clear h1
    go_enter Try.func5, Try.ntmps5
    go_wp2_with fail
    refine (ht _).mono ?_; rintro e w1 ⟨rfl, hk1⟩
    have P1 := (P0.kept hk1).alloc (.cells #[.int .i64 X, .int .i64 Y] 23)
    have R1 := PtAt.new w1 X Y
    have K1 := (K0.trans hk1 (fun _ _ h => h)).alloc (.cells #[.int .i64 X, .int .i64 Y] 23)
    clear P0 K0 hk1
    obtain ⟨p0, p1⟩ := And.intro P1.c0 P1.c1
    go_wp2_with fail
    refine (s1 _).mono ?_; rintro e w3 ⟨rfl, hk3⟩
    have R3 := R1.kept hk3
    have P3 := P1.kept hk3
    obtain ⟨p0, p1⟩ := And.intro R3.c0 R3.c1
    go_wp2_with fail
    refine (ht2 _).mono ?_; rintro e w4 ⟨rfl, hk4⟩
    have P4 := (P3.kept hk4).alloc (.cells #[.int .i64 x, .int .i64 y] 23)
    have R4 := (R3.kept hk4).alloc (.cells #[.int .i64 x, .int .i64 y] 23)
    have Q4 := PtAt.new w4 x y
    have K4 := ((K1.trans hk3 (fun _ _ h => h)).trans hk4 (fun _ _ h => h)).alloc (.cells #[.int .i64 x, .int .i64 y] 23)
    have hS : Hold3 w w.heap.size w1.heap.size w4.heap.size x y X Y x y _ := .mk P4 R4 Q4 K4
    clear P1 P3 P4 R1 R3 R4 Q4 K1 K4 hk3 hk4 s1 ht ht2 p0 p1 kb kb'
    go_wp2
    go_region_held3 (fun W => W.cell? ⟨w.heap.size, 0, none⟩ = some (.int .i64 x) ∧ W.cell? ⟨w.heap.size, 1, none⟩ = some (.int .i64 y) ∧ W.cell? ⟨w1.heap.size, 0, none⟩ = some (.int .i64 X) ∧ W.cell? ⟨w1.heap.size, 1, none⟩ = some (.int .i64 Y) ∧
        W.cell? ⟨w4.heap.size, 0, none⟩ = some (.int .i64 x) ∧ W.cell? ⟨w4.heap.size, 1, none⟩ = some (.int .i64 y) ∧ PtAt W w.heap.size x y ∧ PtAt W w1.heap.size X Y ∧ PtAt W w4.heap.size x y ∧ Keeps (fun _ => False) w W)
      (first | exact hold3_drew hS | exact hold3_kept (by assumption) (by assumption) | exact hold3_kept ⟨by assumption, by assumption, by assumption, by assumption, by assumption, by assumption, by assumption, by assumption, by assumption, by assumption⟩ (by assumption))
      (first | (go_at_call 11; refine (alive_calls _).mono ?_; rintro e w2 ⟨rfl, hk2⟩) | (go_at_call 19; refine (hrt _).mono ?_; rintro e w2 ⟨rfl, hk2⟩))
    rename_i hHeld
    have K := hHeld.2.2.2.2.2.2.2.2.2
    clear hHeld
    go_wp2
    go_ret
    exact ⟨rfl, K⟩

/-! ### PlaneNorms -/
theorem rot_norm (x y : Int) : ∀ j, (rot j (x, y)).1 * (rot j (x, y)).1 + (rot j (x, y)).2 * (rot j (x, y)).2 = x * x + y * y
  | 0 => rfl
  | j + 1 => by
    show -(rot j (x, y)).2 * -(rot j (x, y)).2 + (rot j (x, y)).1 * (rot j (x, y)).1 = _
    rw [Int.neg_mul_neg, Int.add_comm]
    exact rot_norm x y j
theorem norm_mul (x y u v : Int) : (x * u - y * v) * (x * u - y * v) + (x * v + y * u) * (x * v + y * u) = (x * x + y * y) * (u * u + v * v) := by grind
theorem in2049 (x : Int) : -2048 ≤ x.tmod 2049 ∧ x.tmod 2049 ≤ 2048 := by
  have h1 := Int.tmod_lt_of_pos x (show (0 : Int) < 2049 by decide)
  have h2 := Int.lt_tmod_of_pos x (show (0 : Int) < 2049 by decide)
  omega
theorem smallB_of {x y : Int} (hx : -16777216 ≤ x ∧ x ≤ 16777216) (hy : -16777216 ≤ y ∧ y ≤ 16777216) : smallB x y = true := decide_eq_true ⟨hx.1, hx.2, hy.1, hy.2⟩
/-- Products and Norms of points with coordinates up to 2048. -/
theorem norms_plain {a b c d : Int} (ha : -2048 ≤ a ∧ a ≤ 2048) (hb : -2048 ≤ b ∧ b ≤ 2048) (hc : -2048 ≤ c ∧ c ≤ 2048) (hd : -2048 ≤ d ∧ d ≤ 2048) :
    smallB a b = true ∧ smallB c d = true ∧ smallB (a * c - b * d) (a * d + b * c) = true ∧ In53 ((a * a + b * b) * (c * c + d * d)) := by
  have b1 := mul_bound ha hc
  have b2 := mul_bound hb hd
  have b3 := mul_bound ha hd
  have b4 := mul_bound hb hc
  have b5 := mul_bound ha ha
  have b6 := mul_bound hb hb
  have b7 := mul_bound hc hc
  have b8 := mul_bound hd hd
  have b9 := mul_bound (a := a * a + b * b) (b := c * c + d * d) (A := 8388608) (B := 8388608) (by omega) (by omega)
  exact ⟨smallB_of (by omega) (by omega), smallB_of (by omega) (by omega), smallB_of (by omega) (by omega), by unfold In53; omega⟩
set_option maxHeartbeats 2000000 in
theorem norms_law (x y u v k : Int) (w : World) : Calls Try.prog 8 #[Value.agg #[Value.int IntKind.i64 x, Value.int IntKind.i64 y], Value.agg #[Value.int IntKind.i64 u, Value.int IntKind.i64 v], .int .i64 k] w (Yes w) := by
  obtain ⟨P0, Q0, K0⟩ := two_new w x y u v
  obtain ⟨p0, p1, q0, q1⟩ := And.intro P0.c0 (And.intro P0.c1 (And.intro Q0.c0 Q0.c1))
  clear P0 Q0 K0
  have hp := norms_plain (in2049 x) (in2049 y) (in2049 u) (in2049 v)
  go_enter Try.func8, Try.ntmps8
  go_wp2
  go_region
  clear p0 p1 q0 q1
  generalize x.tmod 2049 = a at hp ⊢
  generalize y.tmod 2049 = b at hp ⊢
  generalize u.tmod 2049 = c at hp ⊢
  generalize v.tmod 2049 = d at hp ⊢
  obtain ⟨h1, h2, h3, hI⟩ := hp
  obtain ⟨P0, Q0, K0⟩ := two_new w a b c d
  replace P0 := P0.kept ((Keeps.refl _ _).drew)
  replace Q0 := Q0.kept ((Keeps.refl _ _).drew)
  replace K0 := K0.drew
  obtain ⟨p0, p1, q0, q1⟩ := And.intro P0.c0 (And.intro P0.c1 (And.intro Q0.c0 Q0.c1))
  have c1 := fun w => product_int a b c d h1 h2 w
  have c2 := fun w => norm_int a b h1 w
  have c3 := fun w => norm_int c d h2 w
  have c4 := fun w => norm_int _ _ h3 w
  have c5 := fun w => turn_int a b k h1 w
  have c6 := fun w => norm_int _ _ (rot_small h1 (quad k)) w
  rw [rot_norm] at c6
  rw [norm_mul] at c4
  generalize (rot (quad k) (a, b)).1 = S at c5 c6
  generalize (rot (quad k) (a, b)).2 = T at c5 c6
  generalize a * c - b * d = X at c1 c4
  generalize a * d + b * c = Y at c1 c4
  generalize a * a + b * b = n at c2 c6 c4 hI
  generalize c * c + d * d = m at c3 c4 hI
  clear h1 h2 h3
  go_wp2_with fail
  refine (c1 _).mono ?_; rintro e w1 ⟨rfl, hk1⟩
  have P1 := (P0.kept hk1).alloc (.cells #[.int .i64 X, .int .i64 Y] 23)
  have Q1 := (Q0.kept hk1).alloc (.cells #[.int .i64 X, .int .i64 Y] 23)
  have R1 := PtAt.new w1 X Y
  have K1 := (K0.trans hk1 (fun _ _ h => h)).alloc (.cells #[.int .i64 X, .int .i64 Y] 23)
  clear P0 Q0 K0 hk1 p0 p1 q0 q1
  obtain ⟨p0, p1⟩ := And.intro P1.c0 P1.c1
  go_wp2_with fail
  refine (c2 _).mono ?_; rintro e w2 ⟨⟨ra, rfl, hra⟩, hk2⟩
  have P2 := P1.kept hk2
  have Q2 := Q1.kept hk2
  have R2 := R1.kept hk2
  have K2 := K1.trans hk2 (fun _ _ h => h)
  clear P1 Q1 R1 K1 hk2 p0 p1
  obtain ⟨p0, p1⟩ := And.intro Q2.c0 Q2.c1
  go_wp2_with fail
  refine (c3 _).mono ?_; rintro e w3 ⟨⟨rb, rfl, hrb⟩, hk3⟩
  have P3 := P2.kept hk3
  have R3 := R2.kept hk3
  have K3 := K2.trans hk3 (fun _ _ h => h)
  clear P2 Q2 R2 K2 hk3 p0 p1
  obtain ⟨p0, p1⟩ := And.intro R3.c0 R3.c1
  go_wp2_with fail
  refine (c4 _).mono ?_; rintro e w4 ⟨⟨rp, rfl, hrp⟩, hk4⟩
  have P4 := P3.kept hk4
  have K4 := K3.trans hk4 (fun _ _ h => h)
  clear P3 R3 K3 hk4 p0 p1
  obtain ⟨p0, p1⟩ := And.intro P4.c0 P4.c1
  go_wp2_with fail
  refine (c5 _).mono ?_; rintro e w5 ⟨rfl, hk5⟩
  have R5 := PtAt.new w5 S T
  have K5 := (K4.trans hk5 (fun _ _ h => h)).alloc (.cells #[.int .i64 S, .int .i64 T] 23)
  clear P4 K4 hk5 p0 p1
  obtain ⟨p0, p1⟩ := And.intro R5.c0 R5.c1
  go_wp2_with fail
  refine (c6 _).mono ?_; rintro e w6 ⟨⟨rq, rfl, hrq⟩, hk6⟩
  have K6 := K5.trans hk6 (fun _ _ h => h)
  obtain ⟨rm, hm, hrm⟩ := F.mul hra hrb hI
  have o1 := order_eq hrp hrm
  have o2 := order_eq hrq hra
  have hmul : ∀ w, (binOp .mul 33 (.float .f64 ra) (.float .f64 rb)).run Try.prog w = .ok (.float .f64 rm) w := fun w => by
    rw [show binOp .mul 33 (.float .f64 ra) (.float .f64 rb) = Op.floatArith .mul .f64 ra rb from rfl]
    exact run_floatArith _ hm
  clear hra hrb hrp hrq hm hrm K5 hk6 p0 p1 R5 c1 c2 c3 c4 c5 c6 hI
  go_wp2_with fail
  refine (alive_calls _).mono ?_; rintro e w7 ⟨rfl, hk7⟩
  have K7 := K6.trans hk7 (fun _ _ h => h)
  go_wp2
  go_ret
  exact ⟨rfl, K7⟩
end Go.Proofs.Ytgdnkpngojbjpaa.pl
