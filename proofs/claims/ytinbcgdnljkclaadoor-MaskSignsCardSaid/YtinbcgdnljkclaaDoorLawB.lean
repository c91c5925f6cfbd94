/- The six laws of layer 1, by walking their text over the contracts. -/
import Derived.Test.YtinbcgdnljkclaaDoorLawA
namespace Go.Proofs.YtinbcgdnljkclaaDoor.mk
open Go Go.RowKit

/-- What the law's call does: it answers true; it may have drawn. -/
def Yes (w : World) (e : Ending) (w' : World) : Prop := e = .returned (.bool true) ∧ ∃ n, w' = w.drewN n
theorem maskI_mod (c : Bool) : maskI c % 2 = if c then 1 else 0 := by cases c <;> decide
theorem of_calls' (a : Int) (ha : IsU a) (w : World) : Calls Tryd.prog 10 #[.int .u64 a] w fun e w' => e = .returned (.int .u64 (maskI (a % 2 == 1))) ∧ w = w' := (of_calls a ha w).mono fun _ _ ⟨h, e⟩ => ⟨h, e.symm⟩
theorem bit_calls' (a : Int) (ha : IsU a) (w : World) : Calls Tryd.prog 12 #[.int .u64 a] w fun e w' => e = .returned (.int .u64 (a % 2)) ∧ w = w' := (bit_calls a ha w).mono fun _ _ ⟨h, e⟩ => ⟨h, e.symm⟩
theorem select_calls' (m a b : Int) (w : World) : Calls Tryd.prog 21 #[.int .u64 m, .int .u64 a, .int .u64 b] w fun e w' => e = .returned (.int .u64 (selI m a b)) ∧ w = w' := (select_calls m a b w).mono fun _ _ ⟨h, e⟩ => ⟨h, e.symm⟩
theorem swap_calls' (m a b : Int) (w : World) : Calls Tryd.prog 20 #[.int .u64 m, .int .u64 a, .int .u64 b] w fun e w' => e = .returned (.tuple #[.int .u64 (selI m b a), .int .u64 (selI m a b)]) ∧ w = w' := (swap_calls m a b w).mono fun _ _ ⟨h, e⟩ => ⟨h, e.symm⟩

theorem bits_law (a : Int) (ha : IsU a) (w : World) (hw0 : w.cell? ⟨0, 0, none⟩ = some (.int .u64 9223372036854775808)) (hw1 : w.cell? ⟨0, 1, none⟩ = some (.int .u64 18446744073709551615)) :
    Calls Tryd.prog 3 #[.int .u64 a] w (Yes w) := by
  have ha0 : 0 ≤ a := ha.1
  have hm := maskI_mod (a % 2 == 1)
  have hl : (maskI (a % 2 == 1) % 2 == a % 2) = true := by
    rw [hm, beq_iff_eq]
    by_cases c : a % 2 = 1
    · simp [c]
    · have : a % 2 = 0 := by omega
      simp [this]
  clear hm
  go_enter Tryd.func3, Tryd.ntmps3
  go_wp2_with fail
  refine (alive_calls _ hw0 hw1).mono ?_; rintro e w' ⟨rfl, n, rfl⟩
  go_wp2_with fail
  refine (of_calls a ha _).mono ?_; rintro e w' ⟨rfl, rfl⟩
  go_wp2_with fail
  refine (rmask_calls _ _).mono ?_; rintro e w' ⟨rfl, rfl⟩
  go_wp2_with fail
  refine (bit_calls a ha _).mono ?_; rintro e w' ⟨rfl, rfl⟩
  go_wp2_with fail
  refine (of_calls a ha _).mono ?_; rintro e w' ⟨rfl, rfl⟩
  go_wp2_with fail
  refine (bit_calls _ (maskI_isU _) _).mono ?_; rintro e w' ⟨rfl, rfl⟩
  go_wp2_with fail
  go_ret
  exact ⟨rfl, n, rfl⟩

theorem comparesSigned_law (a b : Int) (ha : IsS a) (hb : IsS b) (w : World) (hw0 : w.cell? ⟨0, 0, none⟩ = some (.int .u64 9223372036854775808)) (hw1 : w.cell? ⟨0, 1, none⟩ = some (.int .u64 18446744073709551615)) :
    Calls Tryd.prog 4 #[.int .i64 a, .int .i64 b] w (Yes w) := by
  go_enter Tryd.func4, Tryd.ntmps4
  go_wp2_with fail
  refine (alive_calls _ hw0 hw1).mono ?_; rintro e w' ⟨rfl, n, rfl⟩
  go_wp2_with fail
  refine (lessSigned_calls a b ha hb _ (by exact hw0)).mono ?_; rintro e w' ⟨rfl, rfl⟩
  go_wp2_with fail
  refine (rmask_calls _ _).mono ?_; rintro e w' ⟨rfl, rfl⟩
  go_wp2_with fail
  refine (negative_calls a ha _).mono ?_; rintro e w' ⟨rfl, rfl⟩
  go_wp2_with fail
  refine (rmask_calls _ _).mono ?_; rintro e w' ⟨rfl, rfl⟩
  go_wp2_with fail
  go_ret
  exact ⟨rfl, n, rfl⟩

theorem compares_law (a b : Int) (ha : IsU a) (hb : IsU b) (w : World) (hw0 : w.cell? ⟨0, 0, none⟩ = some (.int .u64 9223372036854775808)) (hw1 : w.cell? ⟨0, 1, none⟩ = some (.int .u64 18446744073709551615)) :
    Calls Tryd.prog 5 #[.int .u64 a, .int .u64 b] w (Yes w) := by
  go_enter Tryd.func5, Tryd.ntmps5
  go_wp2_with fail
  refine (alive_calls _ hw0 hw1).mono ?_; rintro e w' ⟨rfl, n, rfl⟩
  go_wp2_with fail
  refine (zero_calls a ha _).mono ?_; rintro e w' ⟨rfl, rfl⟩
  go_wp2_with fail
  refine (rmask_calls _ _).mono ?_; rintro e w' ⟨rfl, rfl⟩
  go_wp2_with fail
  refine (equal_calls a b ha hb _).mono ?_; rintro e w' ⟨rfl, rfl⟩
  go_wp2_with fail
  refine (rmask_calls _ _).mono ?_; rintro e w' ⟨rfl, rfl⟩
  go_wp2_with fail
  refine (less_calls a b ha hb _).mono ?_; rintro e w' ⟨rfl, rfl⟩
  go_wp2_with fail
  refine (rmask_calls _ _).mono ?_; rintro e w' ⟨rfl, rfl⟩
  go_wp2_with fail
  go_ret
  exact ⟨rfl, n, rfl⟩

theorem selects_law (m a b : Int) (hm : IsU m) (ha : IsU a) (hb : IsU b) (w : World) (hw0 : w.cell? ⟨0, 0, none⟩ = some (.int .u64 9223372036854775808)) (hw1 : w.cell? ⟨0, 1, none⟩ = some (.int .u64 18446744073709551615)) :
    Calls Tryd.prog 7 #[.int .u64 m, .int .u64 a, .int .u64 b] w (Yes w) := by
  go_enter Tryd.func7, Tryd.ntmps7
  go_wp2_with fail
  refine (swap_calls _ _ _ _).mono ?_; rintro e w' ⟨rfl, rfl⟩
  go_wp2_with fail
  refine (alive_calls _ hw0 hw1).mono ?_; rintro e w' ⟨rfl, n, rfl⟩
  go_wp2_with fail
  refine (select_calls _ _ _ _).mono ?_; rintro e w' ⟨rfl, rfl⟩
  go_wp2_with fail
  refine (rselect_calls _ _ _ hm ha hb _).mono ?_; rintro e w' ⟨rfl, rfl⟩
  go_wp2_with fail
  refine (rselect_calls _ _ _ hm hb ha _).mono ?_; rintro e w' ⟨rfl, rfl⟩
  go_wp2_with fail
  refine (rselect_calls _ _ _ hm ha hb _).mono ?_; rintro e w' ⟨rfl, rfl⟩
  go_wp2_with fail
  go_ret
  exact ⟨rfl, n, rfl⟩

theorem sel_twice {m a b : Int} (ha : IsU a) : selI m (selI m a b) (selI m b a) = a := by
  unfold selI
  rw [bv_nu, bv_nu]
  have e : bv b ^^^ bv m &&& (bv a ^^^ bv b) = bv b ^^^ bv m &&& (bv a ^^^ bv b) := rfl
  rw [← nu_bv ha, bv_nu]
  congr 1
  apply BitVec.eq_of_getLsbD_eq
  intro i _
  simp only [BitVec.getLsbD_xor, BitVec.getLsbD_and]
  cases (bv m).getLsbD i <;> cases (bv a).getLsbD i <;> cases (bv b).getLsbD i <;> rfl
theorem xor_swapped (m a b : Int) : bits .xor .u64 (selI m b a) (selI m a b) = bits .xor .u64 a b := by
  rw [bits_xor, bits_xor]
  unfold selI
  rw [bv_nu, bv_nu]
  congr 1
  apply BitVec.eq_of_getLsbD_eq
  intro i _
  simp only [BitVec.getLsbD_xor, BitVec.getLsbD_and]
  cases (bv m).getLsbD i <;> cases (bv a).getLsbD i <;> cases (bv b).getLsbD i <;> rfl

theorem involution_law (m a b : Int) (ha : IsU a) (hb : IsU b) (w : World) (hw0 : w.cell? ⟨0, 0, none⟩ = some (.int .u64 9223372036854775808)) (hw1 : w.cell? ⟨0, 1, none⟩ = some (.int .u64 18446744073709551615)) :
    Calls Tryd.prog 8 #[.int .u64 m, .int .u64 a, .int .u64 b] w (Yes w) := by
  have h1 := Lib.hid (sel_twice (m := m) (b := b) ha)
  have h2 := Lib.hid (sel_twice (m := m) (b := a) hb)
  have h3 := Lib.hid (xor_swapped m a b)
  have h4 := Lib.hid (selI_mask hb ha (decide (a < b)))
  have h5 := Lib.hid (selI_mask ha hb (decide (a < b)))
  go_enter Tryd.func8, Tryd.ntmps8
  go_wp2_with fail
  refine (swap_calls _ _ _ _).mono ?_; rintro e w' ⟨rfl, rfl⟩
  go_wp2_with fail
  refine (swap_calls _ _ _ _).mono ?_; rintro e w' ⟨rfl, rfl⟩
  rw [h1.out, h2.out]
  go_wp2_with fail
  refine (less_calls _ _ ha hb _).mono ?_; rintro e w' ⟨rfl, rfl⟩
  go_wp2_with fail
  refine (swap_calls _ _ _ _).mono ?_; rintro e w' ⟨rfl, rfl⟩
  rw [h4.out, h5.out]
  by_cases hlt : a < b
  · have hd : decide (a < b) = true := decide_eq_true hlt
    rw [hd]
    clear hd
    go_wp2_with fail
    refine (alive_calls _ hw0 hw1).mono ?_; rintro e w' ⟨rfl, n, rfl⟩
    have h3' : (bits BinOp.xor IntKind.u64 (selI m b a) (selI m a b) == bits BinOp.xor IntKind.u64 a b) = true := beq_iff_eq.2 h3.out
    go_wp2_with fail
    go_ret
    exact ⟨rfl, n, rfl⟩
  · have hd : decide (a < b) = false := decide_eq_false hlt
    rw [hd]
    clear hd
    rcases (show b < a ∨ a = b from by omega) with hlt' | heq
    · clear hlt
      go_wp2_with fail
      refine (alive_calls _ hw0 hw1).mono ?_; rintro e w' ⟨rfl, n, rfl⟩
      have h3' : (bits BinOp.xor IntKind.u64 (selI m b a) (selI m a b) == bits BinOp.xor IntKind.u64 a b) = true := beq_iff_eq.2 h3.out
      go_wp2_with fail
      go_ret
      exact ⟨rfl, n, rfl⟩
    · subst heq
      clear hlt
      go_wp2_with fail
      refine (alive_calls _ hw0 hw1).mono ?_; rintro e w' ⟨rfl, n, rfl⟩
      have h3' : (bits BinOp.xor IntKind.u64 (selI m a a) (selI m a a) == bits BinOp.xor IntKind.u64 a a) = true := beq_iff_eq.2 h3.out
      go_wp2_with fail
      go_ret
      exact ⟨rfl, n, rfl⟩

theorem signs_law (g z n : Int) (hg : IsU g) (hz : IsU z) (hn : IsS n) (w : World) (hw0 : w.cell? ⟨0, 0, none⟩ = some (.int .u64 9223372036854775808)) (hw1 : w.cell? ⟨0, 1, none⟩ = some (.int .u64 18446744073709551615)) :
    Calls Tryd.prog 6 #[.int .u64 g, .int .u64 z, .int .i64 n] w (Yes w) := by
  have hu : IsU (IntKind.u64.wrap n) := by rw [bv_wrap]; exact nu_isU _
  have hz0 := Lib.hid (show (IntKind.u64.wrap n == 0) = (n == 0) by
    unfold IsS at hn
    rw [wrap_u64, Bool.eq_iff_iff, beq_iff_eq, beq_iff_eq]
    omega)
  by_cases hneg : n < 0
  · have H := Lib.hid (show signI (maskI true) (maskI (n == 0)) = -1 by
      unfold signI; rw [if_pos (by decide)])
    have hne : (n != 0) = true := by rw [bne_iff_ne]; omega
    go_enter Tryd.func6, Tryd.ntmps6
    go_wp2_with fail
    refine (alive_calls _ hw0 hw1).mono ?_; rintro e w' ⟨rfl, q, rfl⟩
    go_wp2_with fail
    refine (sign_calls g z hg hz _ (by exact hw1)).mono ?_; rintro e w' ⟨rfl, q1, rfl⟩
    go_wp2_with fail
    refine (rsign_calls g z hg.1 hz.1 _).mono ?_; rintro e w' ⟨rfl, rfl⟩
    go_wp2_with fail
    refine (negative_calls _ hn _).mono ?_; rintro e w' ⟨rfl, rfl⟩
    go_wp2_with fail
    refine (zero_calls _ hu _).mono ?_; rintro e w' ⟨rfl, rfl⟩
    rw [hz0.out]
    go_wp2_with fail
    refine (sign_calls _ _ (maskI_isU _) (maskI_isU _) _ (by exact hw1)).mono ?_; rintro e w' ⟨rfl, q2, rfl⟩
    rw [H.out]
    go_wp2_with fail
    go_ret
    exact ⟨rfl, _, rfl⟩
  · by_cases hnz : n = 0
    · subst hnz
      have H := Lib.hid (show signI (maskI false) (maskI true) = 0 by decide)
      clear hneg
      go_enter Tryd.func6, Tryd.ntmps6
      go_wp2_with fail
      refine (alive_calls _ hw0 hw1).mono ?_; rintro e w' ⟨rfl, q, rfl⟩
      go_wp2_with fail
      refine (sign_calls g z hg hz _ (by exact hw1)).mono ?_; rintro e w' ⟨rfl, q1, rfl⟩
      go_wp2_with fail
      refine (rsign_calls g z hg.1 hz.1 _).mono ?_; rintro e w' ⟨rfl, rfl⟩
      go_wp2_with fail
      refine (negative_calls _ hn _).mono ?_; rintro e w' ⟨rfl, rfl⟩
      go_wp2_with fail
      refine (zero_calls _ hu _).mono ?_; rintro e w' ⟨rfl, rfl⟩
      rw [hz0.out]
      go_wp2_with fail
      refine (sign_calls _ _ (maskI_isU _) (maskI_isU _) _ (by exact hw1)).mono ?_; rintro e w' ⟨rfl, q2, rfl⟩
      rw [H.out]
      go_wp2_with fail
      go_ret
      exact ⟨rfl, _, rfl⟩
    · have H := Lib.hid (show signI (maskI (decide (n < 0))) (maskI (n == 0)) = 1 by
        rw [decide_eq_false hneg, beq_eq_false_iff_ne.2 hnz]; decide)
      have hne : (n != 0) = true := by rw [bne_iff_ne]; omega
      go_enter Tryd.func6, Tryd.ntmps6
      go_wp2_with fail
      refine (alive_calls _ hw0 hw1).mono ?_; rintro e w' ⟨rfl, q, rfl⟩
      go_wp2_with fail
      refine (sign_calls g z hg hz _ (by exact hw1)).mono ?_; rintro e w' ⟨rfl, q1, rfl⟩
      go_wp2_with fail
      refine (rsign_calls g z hg.1 hz.1 _).mono ?_; rintro e w' ⟨rfl, rfl⟩
      go_wp2_with fail
      refine (negative_calls _ hn _).mono ?_; rintro e w' ⟨rfl, rfl⟩
      go_wp2_with fail
      refine (zero_calls _ hu _).mono ?_; rintro e w' ⟨rfl, rfl⟩
      rw [hz0.out]
      go_wp2_with fail
      refine (sign_calls _ _ (maskI_isU _) (maskI_isU _) _ (by exact hw1)).mono ?_; rintro e w' ⟨rfl, q2, rfl⟩
      rw [H.out]
      go_wp2_with fail
      go_ret
      exact ⟨rfl, _, rfl⟩
end Go.Proofs.YtinbcgdnljkclaaDoor.mk
