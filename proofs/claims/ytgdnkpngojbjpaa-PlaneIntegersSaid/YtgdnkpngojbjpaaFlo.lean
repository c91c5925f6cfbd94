/- Floats of kind f64 that stand for integers of at most 2^53: sums, differences and products of such are exact. No program here. -/
import Derived.Laws.FloatArith
import Derived.Laws.ComplexArith
namespace Go.Proofs.Ytgdnkpngojbjpaa.fl
open Go Ieee

/-- A signed magnitude. -/
def sg (s : Bool) (m : Nat) : Int := if s then -(m : Int) else m
/-- A datum that is the integer z. -/
def Rep (d : Datum) (z : Int) : Prop := ∃ s m e, d = .number s m e ∧ sg s m * 2 ^ e.toNat = z * 2 ^ (-e).toNat

theorem least : double.leastPlace = -1074 := by decide
theorem binade_eq : double.binade = 4503599627370496 := by decide
theorem inf_eq : double.infRung = 2047 * 4503599627370496 := by decide
theorem sw_eq : double.signWeight = 9223372036854775808 := by decide

theorem cut_zero (s : Bool) (n : Nat) : Toward.even.cut s n 0 = n := by
  simp [Toward.cut, Nat.mod_one]
theorem cut_exact (s : Bool) (k d : Nat) (hk : 0 < k) : Toward.even.cut s (k * 2 ^ d) d = k := by
  have hp : 0 < 2 ^ d := Nat.two_pow_pos d
  have hd : d ≤ (k * 2 ^ d).log2 := by
    rw [Nat.le_log2 (Nat.ne_of_gt (Nat.mul_pos hk hp))]
    exact Nat.le_mul_of_pos_left _ hk
  have hm : min d ((k * 2 ^ d).log2 + 2) = d := by omega
  simp only [Toward.cut, hm, Nat.one_shiftLeft, Nat.mul_div_cancel _ hp, Nat.mul_mod_left]
  simp

theorem read_word (s : Bool) (L k r : Nat) (hL : L ≤ 53) (hk : k < 4503599627370496) (hr : r = (L + 1022) * 4503599627370496 + (4503599627370496 + k)) :
    double.read (double.word s r) = .number s (4503599627370496 + k) ((L : Int) - 52) := by
  have hr1 : r < 9223372036854775808 := by omega
  have h1 : ¬ r < 4503599627370496 := by omega
  have h2 : r < 2047 * 4503599627370496 := by omega
  have h3 : r % 4503599627370496 = k := by omega
  have h4 : r / 4503599627370496 - 1 = L + 1022 := by omega
  have e1 : (if s then 9223372036854775808 + r else r) / 9223372036854775808 % 2 = s.toNat ∧ (if s then 9223372036854775808 + r else r) % 9223372036854775808 = r := by
    clear hr h1 h2 h3 h4
    cases s with
    | false => rw [if_neg (by simp)]; constructor; · show _ = 0; omega
               omega
    | true => rw [if_pos rfl]; constructor; · show _ = 1; omega
              omega
  obtain ⟨e1, e2⟩ := e1
  have h5 : (s.toNat == 1) = s := by cases s <;> rfl
  have h6 : (-1074 : Int) + ((L + 1022 : Nat) : Int) = (L : Int) - 52 := by omega
  clear hr
  unfold Format.read Format.word
  rw [sw_eq, binade_eq, inf_eq, least, e1, e2]
  dsimp only
  rw [if_neg h1, if_pos h2, h3, h4, h5, h6]
theorem read_zero (s : Bool) : double.read (double.word s 0) = .number s 0 (-1074) := by cases s <;> decide

theorem nearest_read (s : Bool) (m a : Nat) (e : Int) (h : m * 2 ^ e.toNat = a * 2 ^ (-e).toNat) (ha : a ≤ 9007199254740992) (h0 : a ≠ 0) :
    ∃ k L : Nat, L ≤ 53 ∧ k < 4503599627370496 ∧ (4503599627370496 + k) * 2 ^ L = a * 4503599627370496 ∧ ∃ r, r = (L + 1022) * 4503599627370496 + (4503599627370496 + k) ∧ double.nearest s m e = double.word s r := by
  have p2 : ∀ n : Nat, 0 < 2 ^ n := Nat.two_pow_pos
  have hm0 : m ≠ 0 := by
    rintro rfl
    rw [Nat.zero_mul] at h
    have := Nat.mul_pos (Nat.pos_of_ne_zero h0) (p2 (-e).toNat)
    omega
  obtain ⟨L, hL⟩ : ∃ L, a.log2 = L := ⟨_, rfl⟩
  obtain ⟨hL1, hL2⟩ := (Nat.log2_eq_iff h0).1 hL
  have hL53 : L ≤ 53 := by
    rcases Nat.lt_or_ge 53 L with hc | hc
    · exfalso
      have : 2 ^ 54 ≤ 2 ^ L := Nat.pow_le_pow_right (by omega) hc
      omega
    · exact hc
  have hlog : e + (m.log2 : Int) = L := by
    rcases Int.le_total 0 e with he | he
    · obtain ⟨n, rfl⟩ := Int.eq_ofNat_of_zero_le he
      rw [show (-(n : Int)).toNat = 0 by omega, Int.toNat_natCast, Nat.pow_zero, Nat.mul_one] at h
      obtain ⟨q1, q2⟩ := (Nat.log2_eq_iff hm0).1 (rfl : m.log2 = m.log2)
      have : a.log2 = m.log2 + n := by
        rw [Nat.log2_eq_iff h0, ← h, Nat.pow_add, show m.log2 + n + 1 = (m.log2 + 1) + n by omega, Nat.pow_add]
        exact ⟨Nat.mul_le_mul_right _ q1, Nat.mul_lt_mul_of_pos_right q2 (p2 n)⟩
      omega
    · obtain ⟨n, hn⟩ := Int.eq_ofNat_of_zero_le (show 0 ≤ -e by omega)
      rw [show e.toNat = 0 by omega, hn, Int.toNat_natCast, Nat.pow_zero, Nat.mul_one] at h
      have : m.log2 = L + n := by
        rw [Nat.log2_eq_iff hm0, h, Nat.pow_add, show L + n + 1 = (L + 1) + n by omega, Nat.pow_add]
        exact ⟨Nat.mul_le_mul_right _ hL1, Nat.mul_lt_mul_of_pos_right hL2 (p2 n)⟩
      omega
  -- what is kept
  obtain ⟨K, hK1, hK⟩ : ∃ K, K * 2 ^ L = a * 2 ^ 52 ∧ (52 < L → K = 2 ^ 52 ∧ a = 2 ^ 53 ∧ L = 53) := by
    rcases Nat.lt_or_ge 52 L with hc | hc
    · have e53 : L = 53 := by omega
      subst e53
      have ea : a = 2 ^ 53 := by omega
      exact ⟨2 ^ 52, by rw [ea, Nat.mul_comm], fun _ => ⟨rfl, ea, rfl⟩⟩
    · refine ⟨a * 2 ^ (52 - L), ?_, fun h => by omega⟩
      rw [Nat.mul_assoc, ← Nat.pow_add]
      congr 2
      omega
  have hKlo : 2 ^ 52 ≤ K := by
    have : 2 ^ 52 * 2 ^ L ≤ K * 2 ^ L := by rw [hK1, Nat.mul_comm a]; exact Nat.mul_le_mul_left _ hL1
    exact Nat.le_of_mul_le_mul_right this (p2 L)
  have hKhi : K < 2 ^ 53 := by
    have : K * 2 ^ L < 2 ^ 53 * 2 ^ L := by
      rw [hK1, show 2 ^ 53 * 2 ^ L = 2 ^ (L + 1) * 2 ^ 52 by rw [← Nat.pow_add, ← Nat.pow_add]; congr 1; omega]
      exact Nat.mul_lt_mul_of_pos_right hL2 (p2 52)
    exact Nat.lt_of_mul_lt_mul_right this
  have hKlo' : 4503599627370496 ≤ K := hKlo
  have hKhi' : K < 9007199254740992 := hKhi
  refine ⟨K - 4503599627370496, L, hL53, by omega, ?_, (L + 1022) * 4503599627370496 + K, by omega, ?_⟩
  · rw [show 4503599627370496 + (K - 4503599627370496) = K by omega]; exact hK1
  · unfold Format.nearest
    rw [if_neg hm0]
    rw [least, binade_eq, inf_eq, show double.fractionBits = 52 from rfl]
    dsimp only
    have hlast : max (e + (m.log2 : Int) - ((52 : Nat) : Int)) (-1074) = (L : Int) - 52 := by omega
    rw [hlast]
    have hkept : Toward.even.cut s (m <<< (e - ((L : Int) - 52)).toNat) ((L : Int) - 52 - e).toNat = K := by
      rw [Nat.shiftLeft_eq]
      by_cases hc : (L : Int) - 52 ≤ e
      · rw [show ((L : Int) - 52 - e).toNat = 0 by omega, cut_zero]
        have : m * 2 ^ (e - ((L : Int) - 52)).toNat * 2 ^ L = K * 2 ^ L := by
          rw [hK1]
          rcases Int.le_total 0 e with he | he
          · obtain ⟨n, rfl⟩ := Int.eq_ofNat_of_zero_le he
            rw [show (-(n : Int)).toNat = 0 by omega, Int.toNat_natCast, Nat.pow_zero, Nat.mul_one] at h
            rw [← h, Nat.mul_assoc, Nat.mul_assoc, ← Nat.pow_add, ← Nat.pow_add]
            congr 2
            omega
          · obtain ⟨n, hn⟩ := Int.eq_ofNat_of_zero_le (show 0 ≤ -e by omega)
            rw [show e.toNat = 0 by omega, hn, Int.toNat_natCast, Nat.pow_zero, Nat.mul_one] at h
            rw [h, Nat.mul_assoc, Nat.mul_assoc, ← Nat.pow_add, ← Nat.pow_add]
            congr 2
            omega
        exact Nat.eq_of_mul_eq_mul_right (p2 L) this
      · rw [show (e - ((L : Int) - 52)).toNat = 0 by omega, Nat.pow_zero, Nat.mul_one]
        have hm : m = K * 2 ^ ((L : Int) - 52 - e).toNat := by
          have : m * 2 ^ L = K * 2 ^ ((L : Int) - 52 - e).toNat * 2 ^ L := by
            rw [Nat.mul_right_comm, hK1]
            rcases Int.le_total 0 e with he | he
            · obtain ⟨_, _, h53⟩ := hK (by omega)
              have e0 : e = 0 := by omega
              subst e0
              subst h53
              simp only [Int.toNat_zero, Int.neg_zero, Nat.pow_zero, Nat.mul_one] at h
              subst h
              rw [show (((53 : Nat) : Int) - 52 - 0).toNat = 1 by decide, Nat.mul_assoc, ← Nat.pow_add]
            · obtain ⟨n, hn⟩ := Int.eq_ofNat_of_zero_le (show 0 ≤ -e by omega)
              rw [show e.toNat = 0 by omega, hn, Int.toNat_natCast, Nat.pow_zero, Nat.mul_one] at h
              rw [h, Nat.mul_assoc, Nat.mul_assoc, ← Nat.pow_add, ← Nat.pow_add]
              congr 2
              omega
          exact Nat.eq_of_mul_eq_mul_right (p2 L) this
        rw [hm]
        exact cut_exact s K _ (by omega)
    rw [hkept]
    rw [show ((L : Int) - 52 - -1074).toNat = L + 1022 by omega, Nat.min_eq_left (by omega)]

theorem sg_abs (s : Bool) (m : Nat) : (sg s m).natAbs = m := by unfold sg; split <;> omega
theorem Rep.abs {s : Bool} {m : Nat} {e z : Int} (h : sg s m * 2 ^ e.toNat = z * 2 ^ (-e).toNat) : m * 2 ^ e.toNat = z.natAbs * 2 ^ (-e).toNat := by
  have := congrArg Int.natAbs h
  rw [Int.natAbs_mul, Int.natAbs_mul, sg_abs, Int.natAbs_pow, Int.natAbs_pow] at this
  exact this
/-- Rounding leaves an integer of at most 2^53 as it is. -/
theorem Rep.write {d : Datum} {z : Int} (h : Rep d z) (hz : z.natAbs ≤ 9007199254740992) : Rep (double.read (double.write d)) z := by
  obtain ⟨s, m, e, rfl, h⟩ := h
  have ha := Rep.abs h
  show Rep (double.read (double.nearest s m e)) z
  by_cases h0 : z = 0
  · subst h0
    have hm : m = 0 := by
      rw [Int.natAbs_zero, Nat.zero_mul] at ha
      rcases Nat.mul_eq_zero.1 ha with h | h
      · exact h
      · exact absurd h (Nat.ne_of_gt (Nat.two_pow_pos _))
    subst hm
    unfold Format.nearest
    rw [if_pos rfl, read_zero]
    exact ⟨s, 0, -1074, rfl, by rw [show sg s 0 = 0 by cases s <;> rfl, Int.zero_mul, Int.zero_mul]⟩
  · obtain ⟨k, L, hL, hk, hkL, r, hr, hn⟩ := nearest_read s m z.natAbs e ha hz (by omega)
    rw [hn, read_word s L k r hL hk hr]
    have hs : sg s z.natAbs = z := by
      have hp : (0 : Int) < 2 ^ e.toNat := Int.pow_pos (by omega)
      have hp' : (0 : Int) < 2 ^ (-e).toNat := Int.pow_pos (by omega)
      unfold sg at h ⊢
      cases s with
      | true =>
        simp only [if_true] at h ⊢
        have : z ≤ 0 := by
          by_cases hc : 0 < z
          · have h1 := Int.mul_pos hc hp'
            have h2 : -(m : Int) * 2 ^ e.toNat ≤ 0 := Int.mul_nonpos_of_nonpos_of_nonneg (by omega) (by omega)
            omega
          · omega
        omega
      | false =>
        simp only [Bool.false_eq_true, if_false] at h ⊢
        have : 0 ≤ z := by
          by_cases hc : z < 0
          · have h1 := Int.mul_neg_of_neg_of_pos hc hp'
            have h2 : 0 ≤ (m : Int) * 2 ^ e.toNat := Int.mul_nonneg (by omega) (by omega)
            omega
          · omega
        omega
    refine ⟨s, _, _, rfl, ?_⟩
    have hkI : ((4503599627370496 + k : Nat) : Int) * 2 ^ L = (z.natAbs : Int) * 4503599627370496 := by
      have h2 : ((2 ^ L : Nat) : Int) = 2 ^ L := by rw [Int.natCast_pow]; rfl
      rw [← h2, ← Int.natCast_mul, hkL, Int.natCast_mul]
      rfl
    have key : ∀ (t : Bool) (x y : Nat) (p q : Int), (x : Int) * p = (y : Int) * q → sg t x * p = sg t y * q := by
      intro t x y p q hh
      cases t with
      | false => exact hh
      | true => show -(x : Int) * p = -(y : Int) * q; rw [Int.neg_mul, Int.neg_mul, hh]
    rw [← hs]
    apply key
    rcases Nat.lt_or_ge L 52 with hc | hc
    · rw [show ((L : Int) - 52).toNat = 0 by omega, show (-((L : Int) - 52)).toNat = 52 - L by omega, Int.pow_zero, Int.mul_one]
      have hp : (0 : Int) < 2 ^ L := Int.pow_pos (by omega)
      apply Int.eq_of_mul_eq_mul_right (Int.ne_of_gt hp)
      rw [hkI, Int.mul_assoc, ← Int.pow_add, show 52 - L + L = 52 by omega]
      rfl
    · rw [show ((L : Int) - 52).toNat = L - 52 by omega, show (-((L : Int) - 52)).toNat = 0 by omega, Int.pow_zero, Int.mul_one]
      have h52 : (2 : Int) ^ L = 2 ^ (L - 52) * 4503599627370496 := by
        rw [show (4503599627370496 : Int) = 2 ^ 52 by rfl, ← Int.pow_add]
        congr 1
        omega
      rw [h52, ← Int.mul_assoc] at hkI
      exact Int.eq_of_mul_eq_mul_right (by omega) hkI
end Go.Proofs.Ytgdnkpngojbjpaa.fl
