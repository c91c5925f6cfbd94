/- math/bits.Len of small numbers, network.Size and Rounds, and the reference's Is, Size and bit. -/
import Derived.Test.YtbgjfibninccdaaNetC
import Derived.Test.YtbgjfibninccdaaArrayG
import Derived.Lib.Tables
namespace Go.Proofs.Ytbgjfibninccdaa.nw
open Go Go.RowKit Go.Shelf Go.Proofs.Ytbgjfibninccdaa.tp Go.Proofs.Ytbgjfibninccdaa.rg

/-- The number of bits of a number. -/
def lenN (x : Nat) : Nat := if x = 0 then 0 else x.log2 + 1
theorem lenN_spec {x r : Nat} : lenN x ≤ r ↔ x < 2 ^ r := by
  unfold lenN
  by_cases h : x = 0
  · subst h
    simp [Nat.two_pow_pos]
  · rw [if_neg h]
    have := Nat.log2_lt h (k := r)
    omega
theorem lenN_256 {x : Nat} (h : 256 ≤ x) : lenN x = 8 + lenN (x / 256) := by
  have h1 : ∀ r, lenN x ≤ r + 8 ↔ lenN (x / 256) ≤ r := by
    intro r
    rw [lenN_spec, lenN_spec, Nat.pow_add, Nat.div_lt_iff_lt_mul (by decide)]
  have h2 := (h1 (lenN (x / 256))).2 (Nat.le_refl _)
  have h3 : 8 < lenN x := by
    have := (lenN_spec (x := x) (r := 8)).1
    have h256 : (2 : Nat) ^ 8 = 256 := by decide
    omega
  have h4 := (h1 (lenN x - 8)).1 (by omega)
  omega
theorem len8_table : (List.range 256).all (fun i => Lib.len8 (i : Int) == (lenN i : Int)) = true := by decide +kernel
theorem len8_eq {x : Nat} (h : x < 256) : Lib.len8 (x : Int) = (lenN x : Int) := by
  have := List.all_eq_true.1 len8_table x (by rw [List.mem_range]; exact h)
  exact beq_iff_eq.1 this
theorem lenN_le {x r : Nat} (h : x < 2 ^ r) : lenN x ≤ r := lenN_spec.2 h
theorem tab_get {y : Int} (h0 : 0 ≤ y) (h1 : y < 256) (h : y.toNat < Lib.len8tab.size) : ((Lib.len8tab[y.toNat]'h).toNat : Int) = (lenN y.toNat : Int) := by
  obtain ⟨n, rfl⟩ := Int.eq_ofNat_of_zero_le h0
  show _ = ((lenN n : Nat) : Int)
  rw [← len8_eq (x := n) (by omega)]
  unfold Lib.len8
  rw [getElem?_pos Lib.len8tab (n : Int).toNat h]
  rfl
theorem tab_wrap {y : Int} (h0 : 0 ≤ y) (h1 : y < 256) (h : y.toNat < Lib.len8tab.size) : wrap64 (wrap64 ((Lib.len8tab[y.toNat]'h).toNat : Int)) = (lenN y.toNat : Int) ∧ wrap64 (8 + wrap64 ((Lib.len8tab[y.toNat]'h).toNat : Int)) = ((8 + lenN y.toNat : Nat) : Int) := by
  rw [tab_get h0 h1 h]
  have hl := lenN_le (x := y.toNat) (r := 8) (by omega)
  unfold wrap64
  omega
theorem tab_size : Lib.len8tab.size = 256 := by decide +kernel
set_option maxRecDepth 100000 in
set_option maxHeartbeats 1000000 in
theorem len64_lo (x : Int) (h0 : 0 ≤ x) (hx : x < 256) (w : World) : Calls Try.prog 52 #[.int .u64 x] w fun e w' => e = .returned (.int .i64 (lenN x.toNat : Nat)) ∧ w' = w := by
  go_enter Try.func52, Try.ntmps52
  go_wp2
  all_goals (first | (go_ret; refine ⟨congrArg Ending.returned (congrArg (Value.int IntKind.i64) ?_), rfl⟩; exact (tab_wrap h0 hx _).1) | (exfalso; have := tab_size; omega))
set_option maxRecDepth 100000 in
set_option maxHeartbeats 1000000 in
theorem len64_hi (x : Int) (h0 : 256 ≤ x) (hx : x < 65536) (w : World) : Calls Try.prog 52 #[.int .u64 x] w fun e w' => e = .returned (.int .i64 (lenN x.toNat : Nat)) ∧ w' = w := by
  have e : lenN x.toNat = 8 + lenN (x / 256).toNat := by
    rw [lenN_256 (by omega)]
    congr 2
    omega
  have E := Lib.hid e
  clear e
  go_enter Try.func52, Try.ntmps52
  go_wp2
  all_goals (first | (go_ret; refine ⟨congrArg Ending.returned (congrArg (Value.int IntKind.i64) ?_), rfl⟩; rw [E.out]; exact (tab_wrap (by omega) (by omega) _).2) | (exfalso; have := tab_size; omega))
theorem len64_calls (x : Int) (h0 : 0 ≤ x) (hx : x < 65536) (w : World) : Calls Try.prog 52 #[.int .u64 x] w fun e w' => e = .returned (.int .i64 (lenN x.toNat : Nat)) ∧ w' = w := by
  by_cases h : x < 256
  · exact len64_lo x h0 h w
  · exact len64_hi x (by omega) hx w
theorem bitsLen_calls (x : Int) (h0 : 0 ≤ x) (hx : x < 65536) (w : World) : Calls Try.prog 47 #[.int .u64 x] w fun e w' => e = .returned (.int .i64 (lenN x.toNat : Nat)) ∧ w' = w := by
  have cc := fun w => len64_calls x h0 hx w
  go_enter Try.func47, Try.ntmps47
  go_wp2_with fail
  refine (cc _).mono ?_; rintro e w' ⟨rfl, rfl⟩
  go_wp2_with fail
  go_ret
  exact ⟨rfl, rfl⟩

/-! ### Size and Rounds -/
theorem pow_wrap {k : Nat} (h : k ≤ 12) : wrap64 ((2 : Int) ^ k) = ((2 ^ k : Nat) : Int) := by
  have e : ((2 : Int) ^ k) = ((2 ^ k : Nat) : Int) := by rw [Int.natCast_pow]; rfl
  have : 2 ^ k ≤ 2 ^ 12 := Nat.pow_le_pow_right (by omega) h
  rw [e]
  generalize 2 ^ k = m at this ⊢
  unfold wrap64
  omega
/-- The least power of two that is not less. -/
def sizeI (n : Int) : Int := if n < 1 ∨ 4096 < n then 0 else ((2 ^ lenN (n - 1).toNat : Nat) : Int)
theorem size_calls (n : Int) (w : World) : Calls Try.prog 36 #[.int .i64 n] w fun e w' => e = .returned (.int .i64 (sizeI n)) ∧ w' = w := by
  by_cases h1 : n < 1
  · have H := Lib.hid (show sizeI n = 0 from if_pos (.inl h1))
    go_enter Try.func36, Try.ntmps36
    go_wp2
    go_ret
    exact ⟨by rw [H.out]; rfl, rfl⟩
  · by_cases h2 : 4096 < n
    · have H := Lib.hid (show sizeI n = 0 from if_pos (.inr h2))
      go_enter Try.func36, Try.ntmps36
      go_wp2
      go_ret
      exact ⟨by rw [H.out]; rfl, rfl⟩
    · have H := Lib.hid (show sizeI n = ((2 ^ lenN (n - 1).toNat : Nat) : Int) from if_neg (by omega))
      have cc := fun w => bitsLen_calls (n - 1) (by omega) (by omega) w
      have hl := lenN_le (x := (n - 1).toNat) (r := 12) (by omega)
      generalize lenN (n - 1).toNat = k at H cc hl
      have h3 : 1 ≤ n := by omega
      have h4 : n ≤ 4096 := by omega
      have hw := pow_wrap hl
      clear h1 h2
      go_enter Try.func36, Try.ntmps36
      go_wp2_with fail
      refine (cc _).mono ?_; clear cc; rintro e w' ⟨rfl, rfl⟩
      go_wp2_with fail
      go_ret
      exact ⟨by rw [H.out, ← hw]; rfl, rfl⟩
theorem lenN_pow (r : Nat) : lenN (2 ^ r - 1) = r := by
  have h0 := Nat.two_pow_pos r
  apply Nat.le_antisymm
  · exact lenN_spec.2 (by omega)
  · rcases Nat.eq_zero_or_pos r with h | h
    · omega
    · obtain ⟨k, rfl⟩ : ∃ k, r = k + 1 := ⟨r - 1, by omega⟩
      have := (not_congr (lenN_spec (x := 2 ^ (k + 1) - 1) (r := k))).2 (by rw [Nat.pow_succ]; have := Nat.two_pow_pos k; omega)
      omega
/-! ### the reference -/
theorem rbit_calls (i q : Nat) (hi : i ≤ 1000000) (hq : q ≤ 1000000) (h0 : 0 < q) (w : World) : Calls Try.prog 40 #[.int .i64 i, .int .i64 q] w fun e w' => e = .returned (.bool (bt i q)) ∧ w' = w := by
  have hq1 : (1 : Int) ≤ (q : Int) := by omega
  have hi' : (i : Int) ≤ 1000000 := by omega
  have hq' : (q : Int) ≤ 1000000 := by omega
  have hd : 0 ≤ (i : Int) / (q : Int) := Int.ediv_nonneg (by omega) (by omega)
  have hd' : (i : Int) / (q : Int) ≤ 1000000 := Int.le_trans (Int.ediv_le_self _ (by omega)) hi'
  go_enter Try.func40, Try.ntmps40
  go_wp2
  go_ret
  refine ⟨congrArg Ending.returned (congrArg Value.bool ?_), rfl⟩
  show (((i / q : Nat) : Int) % 2 == 1) = _
  unfold bt
  rw [Bool.eq_iff_iff, beq_iff_eq, beq_iff_eq]
  omega
theorem rsize_calls (n : Int) (w : World) : Calls Try.prog 23 #[.int .i64 n] w fun e w' => e = .returned (.int .i64 (sizeI n)) ∧ w' = w := by
  by_cases h1 : n < 1
  · have H := Lib.hid (show sizeI n = 0 from if_pos (.inl h1))
    go_enter Try.func23, Try.ntmps23
    go_wp2
    go_ret
    exact ⟨by rw [H.out]; rfl, rfl⟩
  · by_cases h2 : 4096 < n
    · have H := Lib.hid (show sizeI n = 0 from if_pos (.inr h2))
      go_enter Try.func23, Try.ntmps23
      go_wp2
      go_ret
      exact ⟨by rw [H.out]; rfl, rfl⟩
    · have H := Lib.hid (show sizeI n = ((2 ^ lenN (n - 1).toNat : Nat) : Int) from if_neg (by omega))
      have Hs := Lib.hid (fun j => lenN_spec (x := (n - 1).toNat) (r := j))
      generalize lenN (n - 1).toNat = L at H Hs
      have h3 : 1 ≤ n := by omega
      have h4 : n ≤ 4096 := by omega
      clear h1 h2
      go_enter Try.func23, Try.ntmps23
      go_wp2
      go_loop [3] (fun k => ∃ j K : Nat, j ≤ L ∧ K = 2 ^ j ∧ k = .int .i64 K) (fun k => 8192 - (intOf k).toNat)
      case atStart => exact ⟨0, 1, Nat.zero_le _, rfl, rfl⟩
      case round =>
        obtain ⟨j, K, hj, hK, rfl⟩ := hrel
        have hs := Hs.out j
        rw [← hK] at hs
        have hK1 : 1 ≤ K := by rw [hK]; exact Nat.two_pow_pos j
        have HK := Lib.hid hK
        clear hK
        by_cases hlt : (K : Int) < n
        · have hjL : j + 1 ≤ L := by omega
          clear hs
          go_wp2
          go_round
          case rel => exact ⟨j + 1, K * 2, hjL, by rw [HK.out, ← Nat.pow_succ], by go_num⟩
          case measure => simp [intOf]; omega
        · have hjL : j = L := by omega
          subst hjL
          clear hs
          go_wp2
          go_ret
          exact ⟨by rw [H.out, ← HK.out]; rfl, rfl⟩
theorem ris_calls (n : Int) (w : World) : Calls Try.prog 39 #[.int .i64 n] w fun e w' => e = .returned (.bool (isB n)) ∧ w' = w := by
  go_enter Try.func39, Try.ntmps39
  go_wp2
  go_loop [3] (fun k => ∃ j K : Nat, j ≤ 13 ∧ K = 2 ^ j ∧ k = .int .i64 K ∧ ∀ i, i < j → n ≠ ((2 ^ i : Nat) : Int)) (fun k => 16384 - (intOf k).toNat)
  case atStart => exact ⟨0, 1, Nat.zero_le _, rfl, rfl, fun i hi => by omega⟩
  case round =>
    obtain ⟨j, K, hj, hK, rfl, hn⟩ := hrel
    have HK := Lib.hid hK
    have Hn := Lib.hid hn
    by_cases hlt : j < 13
    · have hK4 : K ≤ 4096 := by rw [hK]; exact Nat.pow_le_pow_right (show 0 < 2 by omega) (show j ≤ 12 by omega)
      have hK1 : 1 ≤ K := by rw [hK]; exact Nat.two_pow_pos j
      by_cases he : n = (K : Int)
      · have H := Lib.hid (show isB n = true from isB_iff.2 ⟨j, by omega, by rw [he, hK]⟩)
        have he' : (n == (K : Int)) = true := by simpa using he
        clear hK hn he
        go_wp2
        go_ret
        exact ⟨by rw [H.out]; rfl, rfl⟩
      · have he' : (n == (K : Int)) = false := by simpa using he
        have Hn2 := Lib.hid (show ∀ i, i < j + 1 → n ≠ ((2 ^ i : Nat) : Int) from fun i hi => by
          rcases Nat.lt_or_ge i j with h | h
          · exact hn i h
          · obtain rfl : i = j := by omega
            rw [← hK]; exact he)
        clear hK hn he
        go_wp2
        go_round
        case rel => exact ⟨j + 1, K * 2, by omega, by rw [HK.out, ← Nat.pow_succ], by go_num, Hn2.out⟩
        case measure => simp [intOf]; omega
    · obtain rfl : j = 13 := by omega
      have hK8 : K = 8192 := hK
      have H := Lib.hid (show isB n = false by
        cases hb : isB n
        · rfl
        · obtain ⟨r, hr, h⟩ := isB_iff.1 hb
          exact absurd h (hn r (by omega)))
      subst hK8
      clear hK hn
      go_wp2
      go_ret
      exact ⟨by rw [H.out]; rfl, rfl⟩
end Go.Proofs.Ytbgjfibninccdaa.nw
