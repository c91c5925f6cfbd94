/- The chapter's examples and the references of layer 1, by walking their text. -/
import Derived.Test.YtinbcgdnljkclaaDoorMaskW
import Derived.Lib.Hide
import Derived.LoopTactic
namespace Go.Proofs.YtinbcgdnljkclaaDoor.mk
open Go Go.RowKit

theorem l12 (w : World) : Calls Tryd.prog 17 #[.int .u64 1, .int .u64 2] w fun e w' => e = .returned (.int .u64 18446744073709551615) ∧ w' = w :=
  less_calls 1 2 (by unfold IsU; decide) (by unfold IsU; decide) w
theorem l21 (w : World) : Calls Tryd.prog 17 #[.int .u64 2, .int .u64 1] w fun e w' => e = .returned (.int .u64 0) ∧ w' = w :=
  less_calls 2 1 (by unfold IsU; decide) (by unfold IsU; decide) w
theorem ls (w : World) (hw : w.cell? ⟨0, 0, none⟩ = some (.int .u64 9223372036854775808)) : Calls Tryd.prog 13 #[.int .i64 (-1), .int .i64 0] w fun e w' => e = .returned (.int .u64 18446744073709551615) ∧ w' = w :=
  lessSigned_calls (-1) 0 (by unfold IsS; decide) (by unfold IsS; decide) w hw
theorem sl (w : World) : Calls Tryd.prog 21 #[.int .u64 255, .int .u64 4660, .int .u64 22136] w fun e w' => e = .returned (.int .u64 22068) ∧ w' = w :=
  (select_calls 255 4660 22136 w).mono fun _ _ ⟨he, hw⟩ => ⟨he.trans (ret_u64 (by decide)), hw⟩
theorem sg (w : World) (hw : w.cell? ⟨0, 1, none⟩ = some (.int .u64 18446744073709551615)) : Calls Tryd.prog 18 #[.int .u64 0, .int .u64 0] w fun e w' => e = .returned (.int .i64 1) ∧ ∃ n, w' = w.drewN n :=
  sign_calls 0 0 (by unfold IsU; decide) (by unfold IsU; decide) w hw
theorem alive_calls (w : World) (hw0 : w.cell? ⟨0, 0, none⟩ = some (.int .u64 9223372036854775808)) (hw1 : w.cell? ⟨0, 1, none⟩ = some (.int .u64 18446744073709551615)) :
    Calls Tryd.prog 9 #[] w fun e w' => e = .returned (.bool true) ∧ ∃ n, w' = w.drewN n := by
  go_enter Tryd.func9, Tryd.ntmps9
  go_wp2_with fail
  refine (l12 _).mono ?_; rintro e w' ⟨rfl, rfl⟩
  go_wp2_with fail
  refine (l21 _).mono ?_; rintro e w' ⟨rfl, rfl⟩
  go_wp2_with fail
  refine (ls _ hw0).mono ?_; rintro e w' ⟨rfl, rfl⟩
  go_wp2_with fail
  refine (sl _).mono ?_; rintro e w' ⟨rfl, rfl⟩
  go_wp2_with fail
  refine (sg _ hw1).mono ?_; rintro e w' ⟨rfl, n, rfl⟩
  go_wp2_with fail
  go_ret
  exact ⟨rfl, n, rfl⟩
theorem rmask_calls (c : Bool) (w : World) : Calls Tryd.prog 11 #[.bool c] w fun e w' => e = .returned (.int .u64 (maskI c)) ∧ w' = w := by
  cases c
  · go_enter Tryd.func11, Tryd.ntmps11
    go_wp2
    go_ret
    exact ⟨rfl, rfl⟩
  · go_enter Tryd.func11, Tryd.ntmps11
    go_wp2
    go_ret
    exact ⟨rfl, rfl⟩
theorem rsign_calls (n z : Int) (hn : 0 ≤ n) (hz : 0 ≤ z) (w : World) : Calls Tryd.prog 19 #[.int .u64 n, .int .u64 z] w fun e w' => e = .returned (.int .i64 (signI n z)) ∧ w' = w := by
  by_cases h1 : n % 2 = 1
  · have e : signI n z = -1 := by unfold signI; rw [if_pos h1]
    have H := Lib.hid e; clear e
    go_enter Tryd.func19, Tryd.ntmps19
    go_wp2
    go_ret
    exact ⟨by rw [H.out]; rfl, rfl⟩
  · by_cases h2 : z % 2 = 1
    · have e : signI n z = 0 := by unfold signI; rw [if_neg h1, if_pos h2]
      have H := Lib.hid e; clear e
      go_enter Tryd.func19, Tryd.ntmps19
      go_wp2
      go_ret
      exact ⟨by rw [H.out]; rfl, rfl⟩
    · have e : signI n z = 1 := by unfold signI; rw [if_neg h1, if_neg h2]
      have H := Lib.hid e; clear e
      go_enter Tryd.func19, Tryd.ntmps19
      go_wp2
      go_ret
      exact ⟨by rw [H.out]; rfl, rfl⟩

/-! The reference's selection, bit by bit. -/
def uN (k : Nat) : Int := ((2 ^ k % 18446744073709551616 : Nat) : Int)
def outN (s k : Nat) : Int := ((s % 2 ^ k : Nat) : Int)
def bitI (x : Int) (k : Nat) : Bool := (IntKind.u64.wrap (x.tdiv (uN k))).tmod 2 == 1
def selN (m a b : Int) : Nat := (bv b ^^^ (bv m &&& (bv a ^^^ bv b))).toNat
theorem uN_lt {k : Nat} (h : k < 64) : uN k = ((2 ^ k : Nat) : Int) := by
  unfold uN
  have : 2 ^ k < 2 ^ 64 := Nat.pow_lt_pow_right (by omega) h
  rw [Nat.mod_eq_of_lt (by simpa using this)]
theorem uN_pos {k : Nat} (h : k < 64) : 1 ≤ uN k := by
  rw [uN_lt h]
  have := Nat.two_pow_pos k
  omega
theorem uN_next (k : Nat) (h : k < 64) : IntKind.u64.wrap (uN k * 2) = uN (k + 1) := by
  rw [wrap_u64, uN_lt h]
  unfold uN
  rw [Nat.pow_succ]
  omega
theorem bitI_eq {x : Int} (hx : IsU x) {k : Nat} (h : k < 64) : bitI x k = (bv x).toNat.testBit k := by
  have e : ((bv x).toNat : Int) = x := nu_bv hx
  have hl := (bv x).isLt
  generalize (bv x).toNat = n at *
  subst e
  unfold bitI
  have hd : n / 2 ^ k ≤ n := Nat.div_le_self _ _
  have e1 : (n : Int).tdiv (uN k) = ((n / 2 ^ k : Nat) : Int) := by
    rw [uN_lt h, Int.tdiv_eq_ediv_of_nonneg (by omega), Int.natCast_ediv]
  rw [e1, Nat.testBit_eq_decide_div_mod_eq]
  clear e1
  generalize n / 2 ^ k = q at *
  have e2 : IntKind.u64.wrap (q : Int) = (q : Int) := by
    rw [wrap_u64]
    omega
  rw [e2, Int.tmod_eq_emod_of_nonneg (by omega), Bool.eq_iff_iff]
  simp only [beq_iff_eq, decide_eq_true_eq]
  omega
theorem selN_bit (m a b : Int) (k : Nat) : (selN m a b).testBit k = if (bv m).toNat.testBit k then (bv a).toNat.testBit k else (bv b).toNat.testBit k := by
  unfold selN
  rw [BitVec.toNat_xor, BitVec.toNat_and, BitVec.toNat_xor, Nat.testBit_xor, Nat.testBit_and, Nat.testBit_xor]
  cases (bv m).toNat.testBit k <;> cases (bv a).toNat.testBit k <;> cases (bv b).toNat.testBit k <;> rfl
theorem outN_next (s k : Nat) (h : k < 64) : outN s (k + 1) = if s.testBit k then outN s k + uN k else outN s k := by
  rw [uN_lt h]
  unfold outN
  rw [Nat.mod_pow_succ, Nat.testBit_eq_decide_div_mod_eq]
  have h2 := Nat.mod_two_eq_zero_or_one (s / 2 ^ k)
  rcases h2 with h2 | h2
  · simp [h2]
  · simp [h2]
theorem outN_bd (s k : Nat) (h : k < 64) : 0 ≤ outN s k ∧ outN s k + uN k ≤ 18446744073709551615 := by
  rw [uN_lt h]
  unfold outN
  have h1 := Nat.mod_lt s (Nat.two_pow_pos k)
  have h2 : 2 ^ (k + 1) ≤ 2 ^ 64 := Nat.pow_le_pow_right (by omega) (by omega)
  rw [Nat.pow_succ] at h2
  omega
theorem outN_last (m a b : Int) : outN (selN m a b) 64 = selI m a b := by
  unfold outN selN selI nu
  rw [Nat.mod_eq_of_lt (by have := (bv b ^^^ (bv m &&& (bv a ^^^ bv b))).isLt; exact this)]
theorem step_in {m a b x : Int} (hm : IsU m) (ha : IsU a) (hb : IsU b) {k : Nat} (h : k < 64) (hx : x = if bitI m k then a else b) : outN (selN m a b) (k + 1) = if bitI x k then outN (selN m a b) k + uN k else outN (selN m a b) k := by
  rw [outN_next _ _ h, selN_bit, ← bitI_eq hm h, ← bitI_eq ha h, ← bitI_eq hb h]
  subst hx
  cases bitI m k <;> rfl

theorem ret_i64 {a b : Int} (h : a = b) : Value.int .u64 a = Value.int .u64 b := by rw [h]
set_option maxHeartbeats 1000000 in
theorem rselect_calls (m a b : Int) (hm : IsU m) (ha : IsU a) (hb : IsU b) (w : World) : Calls Tryd.prog 22 #[.int .u64 m, .int .u64 a, .int .u64 b] w fun e w' => e = .returned (.int .u64 (selI m a b)) ∧ w' = w := by
  have hm0 : 0 ≤ m := hm.1
  have ha0 : 0 ≤ a := ha.1
  have hb0 : 0 ≤ b := hb.1
  go_enter Tryd.func22, Tryd.ntmps22
  go_wp2
  go_loop [7, 8, 9] (fun o u i => ∃ k : Nat, k ≤ 64 ∧ i = .int .i64 k ∧ u = .int .u64 (uN k) ∧ o = .int .u64 (outN (selN m a b) k)) (fun _ _ i => 64 - (intOf i).toNat)
  case atStart => exact ⟨0, by omega, rfl, rfl, by unfold outN; rw [Nat.pow_zero, Nat.mod_one]; rfl⟩
  case round =>
    obtain ⟨k, hk, rfl, rfl, rfl⟩ := hrel
    by_cases hlt : k < 64
    · have hu := uN_pos hlt
      obtain ⟨ho, hf⟩ := outN_bd (selN m a b) k hlt
      have HU := Lib.hid (uN_next k hlt)
      cases hb1 : bitI m k
      · have HN := Lib.hid (step_in hm ha hb hlt (x := b) (by rw [hb1]; rfl))
        cases hb2 : bitI b k
        · rw [hb2] at HN
          unfold bitI at hb1 hb2
          go_wp2
          go_round
          case rel => exact ⟨k + 1, by omega, by go_num, ret_i64 HU.out, ret_i64 HN.out.symm⟩
          case measure => simp [intOf]; omega
        · rw [hb2] at HN
          unfold bitI at hb1 hb2
          go_wp2
          go_round
          case rel => exact ⟨k + 1, by omega, by go_num, ret_i64 HU.out, ret_i64 HN.out.symm⟩
          case measure => simp [intOf]; omega
      · have HN := Lib.hid (step_in hm ha hb hlt (x := a) (by rw [hb1]; rfl))
        cases hb2 : bitI a k
        · rw [hb2] at HN
          unfold bitI at hb1 hb2
          go_wp2
          go_round
          case rel => exact ⟨k + 1, by omega, by go_num, ret_i64 HU.out, ret_i64 HN.out.symm⟩
          case measure => simp [intOf]; omega
        · rw [hb2] at HN
          unfold bitI at hb1 hb2
          go_wp2
          go_round
          case rel => exact ⟨k + 1, by omega, by go_num, ret_i64 HU.out, ret_i64 HN.out.symm⟩
          case measure => simp [intOf]; omega
    · go_wp2
      go_ret
      have : k = 64 := by omega
      subst this
      exact ⟨ret_u64 (outN_last m a b), rfl⟩
end Go.Proofs.YtinbcgdnljkclaaDoor.mk
