/- The laws' own whole, and the chapter's example. -/
import Derived.Test.YtgdnkpngojbjpaaPlaneF
namespace Go.Proofs.Ytgdnkpngojbjpaa.pl
open Go Go.RowKit Go.Proofs.Ytgdnkpngojbjpaa.tp Go.Proofs.Ytgdnkpngojbjpaa.fl Go.Proofs.Ytgdnkpngojbjpaa.mk

/-- The answer true, and what was in memory is as it was. -/
def Yes (w : World) (e : Ending) (w' : World) : Prop := e = .returned (.bool true) ∧ Keeps (fun _ => False) w w'
/-- A point lies alone in a block. -/
def PtAt (W : World) (g : Nat) (x y : Int) : Prop := W.heap[g]? = some (.cells #[.int .i64 x, .int .i64 y] 23 (0, 0))
theorem PtAt.lt {W : World} {g : Nat} {x y : Int} (h : PtAt W g x y) : g < W.heap.size := (Array.getElem?_eq_some_iff.1 h).1
theorem PtAt.kept {W W' : World} {g : Nat} {x y : Int} (h : PtAt W g x y) (hk : Keeps (fun _ => False) W W') : PtAt W' g x y := (hk.block g h.lt (fun h => h)).trans h
theorem PtAt.alloc {W : World} {g : Nat} {x y : Int} (h : PtAt W g x y) (o : Obj) : PtAt (W.alloc o) g x y := h.kept ((Keeps.refl _ W).alloc o)
theorem PtAt.new (W : World) (x y : Int) : PtAt (W.alloc (.cells #[.int .i64 x, .int .i64 y] 23)) W.heap.size x y := heap_alloc_new W _
theorem PtAt.c0 {W : World} {g : Nat} {x y : Int} (h : PtAt W g x y) : W.cell? ⟨g, 0, none⟩ = some (.int .i64 x) := by rw [cell_of_row _ _ _ _ _ _ h]; rfl
theorem PtAt.c1 {W : World} {g : Nat} {x y : Int} (h : PtAt W g x y) : W.cell? ⟨g, 1, none⟩ = some (.int .i64 y) := by rw [cell_of_row _ _ _ _ _ _ h]; rfl
theorem order_eq {x y : Nat} {z : Int} (h : F x z) (h' : F y z) : (FloatKind.f64.format.order x y == some .eq) = true := by
  rw [F.order h h', cmp_eq.2 rfl]; rfl
theorem order_ne {x y : Nat} {z : Int} (h : F x z) (h' : F y z) : (FloatKind.f64.format.order x y != some .eq) = false := by
  rw [F.order h h', cmp_eq.2 rfl]; rfl
theorem F_25 : F 4627730092099895296 25 := by
  have e : Ieee.double.read 4627730092099895296 = .number false 7036874417766400 (-48) := by decide
  exact ⟨_, _, _, e, by decide⟩

set_option maxHeartbeats 2000000 in
theorem alive_calls (w : World) : Calls Try.prog 11 #[] w (Yes w) := by
  go_enter Try.func11, Try.ntmps11
  go_wp2_with fail
  have cc := product_int 1 2 3 (-1) (by decide) (by decide) w
  rw [show (1 * 3 - 2 * -1 : Int) = 5 by decide, show (1 * -1 + 2 * 3 : Int) = 5 by decide] at cc
  refine cc.mono ?_; clear cc; rintro e w1 ⟨rfl, hk1⟩
  go_wp2_with fail
  have cc := turn_int 1 2 1 (by decide) (w1.alloc (.cells #[.int .i64 5, .int .i64 5] 23))
  rw [show rot (quad 1) (1, 2) = (-2, 1) by decide] at cc
  refine cc.mono ?_; clear cc; rintro e w2 ⟨rfl, hk2⟩
  have hK2 := (hk1.alloc (.cells #[.int .i64 5, .int .i64 5] 23)).trans hk2 (fun _ _ h => h)
  have P2 := (PtAt.new w1 5 5).kept hk2
  clear hk1 hk2
  go_wp2_with fail
  refine (norm_int 3 4 (by decide) _).mono ?_; rintro e w3 ⟨⟨r, rfl, hr⟩, hk3⟩
  have gr := order_eq hr F_25
  have hK3 := (hK2.alloc (.cells #[.int .i64 (-2), .int .i64 1] 23)).trans hk3 (fun _ _ h => h)
  have P3 := (P2.alloc (.cells #[.int .i64 (-2), .int .i64 1] 23)).kept hk3
  have Q3 := (PtAt.new w2 (-2) 1).kept hk3
  clear hK2 hk3 hr P2
  obtain ⟨p0, p1, q0, q1⟩ := And.intro P3.c0 (And.intro P3.c1 (And.intro Q3.c0 Q3.c1))
  go_wp2_with fail
  refine (orient_not 16777217 0 5 5 (-2) 1 (by decide) _).mono ?_; rintro e w4 ⟨rfl, hk4⟩
  have hK4 := hK3.trans hk4 (fun _ _ h => h)
  have P4 := P3.kept hk4
  have Q4 := Q3.kept hk4
  clear hK3 hk4 p0 p1 q0 q1 P3 Q3
  go_wp2_with fail
  have cc := orient_int 0 0 1 0 0 1 (by decide) (by decide) (by decide) w4
  rw [show sgnI (cross 0 0 1 0 0 1) = 1 by decide] at cc
  refine cc.mono ?_; clear cc; rintro e w5 ⟨rfl, hk5⟩
  have hK5 := hK4.trans hk5 (fun _ _ h => h)
  have P5 := P4.kept hk5
  have Q5 := Q4.kept hk5
  clear hK4 hk5 P4 Q4
  obtain ⟨p0, p1, q0, q1⟩ := And.intro P5.c0 (And.intro P5.c1 (And.intro Q5.c0 Q5.c1))
  go_wp2
  go_ret
  exact ⟨rfl, hK5⟩

/-! ### whole -/
theorem lwhole_yes (x : Nat) (t : Int) (h : F x t) (ht : In53 t) (w : World) : Calls Try.prog 22 #[.float .f64 x] w fun e w' => e = .returned (.bool true) ∧ w' = w := by
  have hc := conv_int h ht
  have e1 : FloatKind.f64.format.order x 14069245235905429504 = some (compare t (-9007199254740992)) := F.order h F_bot
  have e2 : FloatKind.f64.format.order x 4845873199050653696 = some (compare t 9007199254740992) := F.order h F_top
  have hg : (FloatKind.f64.format.order x 14069245235905429504 == some .gt || FloatKind.f64.format.order x 14069245235905429504 == some .eq) = true := by
    rw [e1]
    rcases (show -9007199254740992 < t ∨ t = -9007199254740992 by unfold In53 at ht; omega) with h | h
    · rw [cmp_gt.2 h]; rfl
    · rw [cmp_eq.2 h]; rfl
  have hl : (FloatKind.f64.format.order x 4845873199050653696 == some .lt || FloatKind.f64.format.order x 4845873199050653696 == some .eq) = true := by
    rw [e2]
    rcases (show t < 9007199254740992 ∨ t = 9007199254740992 by unfold In53 at ht; omega) with h | h
    · rw [cmp_lt.2 h]; rfl
    · rw [cmp_eq.2 h]; rfl
  have he : (FloatKind.f64.format.order x (floatOfInt .f64 t) == some .eq) = true := order_eq h (F.nearest ht)
  clear e1 e2 h ht
  go_enter Try.func22, Try.ntmps22
  go_wp2
  go_ret
  exact ⟨rfl, rfl⟩
theorem lwhole_no (x : Nat) (h : ¬ Whole x) (w : World) : Calls Try.prog 22 #[.float .f64 x] w fun e w' => e = .returned (.bool false) ∧ w' = w := by
  rcases float_cases x with h0 | h0 | ⟨_, _, h0 | ⟨h0, h1⟩⟩ | ⟨t, ht⟩
  · exact absurd h0 h
  · have hg : (FloatKind.f64.format.order x 14069245235905429504 == some .gt || FloatKind.f64.format.order x 14069245235905429504 == some .eq) = false := by
      rw [show FloatKind.f64.format.order x 14069245235905429504 = none from h0 _]; rfl
    clear h h0
    go_enter Try.func22, Try.ntmps22
    go_wp2
    go_ret
    exact ⟨rfl, rfl⟩
  · have hg : (FloatKind.f64.format.order x 14069245235905429504 == some .gt || FloatKind.f64.format.order x 14069245235905429504 == some .eq) = false := by
      rw [show FloatKind.f64.format.order x 14069245235905429504 = some .lt from h0]; rfl
    clear h h0
    go_enter Try.func22, Try.ntmps22
    go_wp2
    go_ret
    exact ⟨rfl, rfl⟩
  · have hg : (FloatKind.f64.format.order x 14069245235905429504 == some .gt || FloatKind.f64.format.order x 14069245235905429504 == some .eq) = true := by
      rw [show FloatKind.f64.format.order x 14069245235905429504 = some .gt from h1]; rfl
    have hl : (FloatKind.f64.format.order x 4845873199050653696 == some .lt || FloatKind.f64.format.order x 4845873199050653696 == some .eq) = false := by
      rw [show FloatKind.f64.format.order x 4845873199050653696 = some .gt from h0]; rfl
    clear h h0 h1
    go_enter Try.func22, Try.ntmps22
    go_wp2
    go_ret
    exact ⟨rfl, rfl⟩
  · have hg : (FloatKind.f64.format.order x 14069245235905429504 == some .gt || FloatKind.f64.format.order x 14069245235905429504 == some .eq) = true := by
      rcases ht.lo with h | h
      · rw [show FloatKind.f64.format.order x 14069245235905429504 = some .gt from h]; rfl
      · rw [show FloatKind.f64.format.order x 14069245235905429504 = some .eq from h]; rfl
    have hl : (FloatKind.f64.format.order x 4845873199050653696 == some .lt || FloatKind.f64.format.order x 4845873199050653696 == some .eq) = true := by
      rcases ht.hi with h | h
      · rw [show FloatKind.f64.format.order x 4845873199050653696 = some .lt from h]; rfl
      · rw [show FloatKind.f64.format.order x 4845873199050653696 = some .eq from h]; rfl
    have hc : ∀ w, (convert 33 2 (.float .f64 x)).run Try.prog w = .ok (.int .i64 t) w := fun w => by
      refine run_convert_float_int w 33 2 .f64 .i64 x t ?_ Try.underlying2 ht.int
      rw [Try.underlying33]
      rfl
    have he : (FloatKind.f64.format.order x (floatOfInt .f64 t) == some .eq) = false := by
      rw [beq_eq_false_iff_ne]; exact (ht.ne _ (F.nearest ht.small)).2
    clear h ht
    go_enter Try.func22, Try.ntmps22
    go_wp2
    go_ret
    exact ⟨rfl, rfl⟩
/-- A float made of an integer equals itself. -/
theorem nearest_self (z : Int) : Ieee.double.order (FloatKind.f64.nearest z) (FloatKind.f64.nearest z) = some .eq := by
  have hn : (Ieee.double.order (FloatKind.f64.nearest z) (FloatKind.f64.nearest z)) ≠ none := by
    have e : ∃ s r, FloatKind.f64.nearest z = Ieee.double.word s r ∧ r ≤ 2047 * 4503599627370496 := by
      show ∃ s r, Ieee.double.nearest (z < 0) z.natAbs 0 = Ieee.double.word s r ∧ r ≤ 2047 * 4503599627370496
      unfold Ieee.Format.nearest
      dsimp only
      split
      · exact ⟨_, 0, rfl, by omega⟩
      · exact ⟨_, _, rfl, by rw [inf_eq]; exact Nat.min_le_right _ _⟩
    obtain ⟨s, r, e, hr⟩ := e
    rw [e]
    have e1 : (if s then 9223372036854775808 + r else r) % 9223372036854775808 = r := by
      cases s
      · show r % _ = r; omega
      · show (9223372036854775808 + r) % _ = r; omega
    have hrd : (∃ t m e, Ieee.double.read (Ieee.double.word s r) = .number t m e) ∨ ∃ t, Ieee.double.read (Ieee.double.word s r) = .infinity t := by
      unfold Ieee.Format.read Ieee.Format.word
      rw [sw_eq, binade_eq, inf_eq, e1]
      dsimp only
      split
      · exact .inl ⟨_, _, _, rfl⟩
      · split
        · exact .inl ⟨_, _, _, rfl⟩
        · rw [if_pos (by omega)]
          exact .inr ⟨_, rfl⟩
    show (Ieee.double.read (Ieee.double.word s r)).order (Ieee.double.read (Ieee.double.word s r)) ≠ none
    rcases hrd with ⟨t, m, e, h⟩ | ⟨t, h⟩
    · rw [h]; simp [Ieee.Datum.order]
    · rw [h]; cases t <;> decide
  rcases float_cases (FloatKind.f64.nearest z) with ⟨t, h, _⟩ | h | ⟨h, _⟩ | ⟨t, h⟩
  · exact F_eq h h
  · exact absurd (h _) hn
  · exact h
  · exact h.self
end Go.Proofs.Ytgdnkpngojbjpaa.pl
