/- Arithmetic on floats that stand for integers. No program here. -/
import Derived.Test.YtgdnkpngojbjpaaFlo
namespace Go.Proofs.Ytgdnkpngojbjpaa.fl
open Go Ieee

theorem p2 (n : Nat) : (0 : Int) < 2 ^ n := Int.pow_pos (by omega)
theorem sgn_eq (s : Bool) (m k : Nat) : signed s m k = sg s m * 2 ^ k := by
  have h2 : ((2 ^ k : Nat) : Int) = 2 ^ k := by rw [Int.natCast_pow]; rfl
  unfold signed sg
  rw [Nat.shiftLeft_eq]
  cases s
  · simp only [Bool.false_eq_true, if_false]; rw [Int.natCast_mul, h2]
  · simp only [if_true]; rw [Int.natCast_mul, h2, Int.neg_mul]
theorem scale {X z i b : Int} (h : X * 2 ^ i.toNat = z * 2 ^ (-i).toNat) (hb : b ≤ i) : X * 2 ^ (i - b).toNat * 2 ^ b.toNat = z * 2 ^ (-b).toNat := by
  rcases Int.le_total 0 i with hi | hi
  · rw [show (-i).toNat = 0 by omega, Int.pow_zero, Int.mul_one] at h
    rcases Int.le_total 0 b with h0 | h0
    · rw [Int.mul_assoc, ← Int.pow_add, show (i - b).toNat + b.toNat = i.toNat by omega, h, show (-b).toNat = 0 by omega, Int.pow_zero, Int.mul_one]
    · rw [show b.toNat = 0 by omega, Int.pow_zero, Int.mul_one, show (i - b).toNat = i.toNat + (-b).toNat by omega, Int.pow_add, ← Int.mul_assoc, h]
  · rw [show i.toNat = 0 by omega, Int.pow_zero, Int.mul_one] at h
    rw [show b.toNat = 0 by omega, Int.pow_zero, Int.mul_one, h, Int.mul_assoc, ← Int.pow_add]
    congr 2
    omega
theorem sg_flag (T : Int) (f : Bool) : sg (if T = 0 then f else decide (T < 0)) T.natAbs = T := by
  unfold sg
  by_cases h : T = 0
  · subst h; cases f <;> simp
  · rw [if_neg h]
    by_cases h2 : T < 0
    · rw [if_pos (by simpa using h2)]; omega
    · rw [if_neg (by simpa using h2)]; omega
theorem Rep.sum {d d' : Datum} {z w : Int} (h : Rep d z) (h' : Rep d' w) : ∃ r, d.sum d' = some r ∧ Rep r (z + w) := by
  obtain ⟨s, m, i, rfl, h⟩ := h
  obtain ⟨t, n, j, rfl, h'⟩ := h'
  refine ⟨_, rfl, _, _, _, rfl, ?_⟩
  rw [sg_flag, sgn_eq, sgn_eq, Int.add_mul, Int.add_mul, scale h (by omega), scale h' (by omega)]
theorem Rep.opposite {d : Datum} {z : Int} (h : Rep d z) : Rep d.opposite (-z) := by
  obtain ⟨s, m, i, rfl, h⟩ := h
  refine ⟨_, _, _, rfl, ?_⟩
  have e : sg (!s) m = - sg s m := by cases s <;> simp [sg]
  rw [e, Int.neg_mul, Int.neg_mul, h]
theorem Rep.product {d d' : Datum} {z w : Int} (h : Rep d z) (h' : Rep d' w) : ∃ r, d.product d' = some r ∧ Rep r (z * w) := by
  obtain ⟨s, m, i, rfl, h⟩ := h
  obtain ⟨t, n, j, rfl, h'⟩ := h'
  refine ⟨_, rfl, _, _, _, rfl, ?_⟩
  have e : sg (s ^^ t) (m * n) = sg s m * sg t n := by
    cases s <;> cases t <;> simp [sg, Int.natCast_mul, Int.neg_mul, Int.mul_neg]
  rw [e]
  have hh : sg s m * sg t n * 2 ^ (i.toNat + j.toNat) = z * w * 2 ^ ((-i).toNat + (-j).toNat) := by
    rw [Int.pow_add, Int.pow_add]
    calc sg s m * sg t n * (2 ^ i.toNat * 2 ^ j.toNat) = (sg s m * 2 ^ i.toNat) * (sg t n * 2 ^ j.toNat) := by ac_rfl
      _ = (z * 2 ^ (-i).toNat) * (w * 2 ^ (-j).toNat) := by rw [h, h']
      _ = z * w * (2 ^ (-i).toNat * 2 ^ (-j).toNat) := by ac_rfl
  obtain ⟨c, hc1, hc2⟩ : ∃ c, i.toNat + j.toNat = (i + j).toNat + c ∧ (-i).toNat + (-j).toNat = (-(i + j)).toNat + c := ⟨i.toNat + j.toNat - (i + j).toNat, by omega, by omega⟩
  rw [hc1, hc2, Int.pow_add, Int.pow_add, ← Int.mul_assoc, ← Int.mul_assoc] at hh
  exact Int.eq_of_mul_eq_mul_right (Int.ne_of_gt (p2 c)) hh
theorem Rep.order {d d' : Datum} {z w : Int} (h : Rep d z) (h' : Rep d' w) : d.order d' = some (compare z w) := by
  obtain ⟨s, m, i, rfl, h⟩ := h
  obtain ⟨t, n, j, rfl, h'⟩ := h'
  show some (compare (signed s m (i - min i j).toNat) (signed t n (j - min i j).toNat)) = _
  congr 1
  have h1 := scale h (show min i j ≤ i by omega)
  have h2 := scale h' (show min i j ≤ j by omega)
  rw [sgn_eq, sgn_eq]
  generalize sg s m * 2 ^ (i - min i j).toNat = A at h1
  generalize sg t n * 2 ^ (j - min i j).toNat = C at h2
  generalize (min i j).toNat = p at h1 h2
  generalize (-(min i j)).toNat = q at h1 h2
  have hlt : A < C ↔ z < w := by
    constructor
    · intro hh
      have := Int.mul_lt_mul_of_pos_right hh (p2 p)
      rw [h1, h2] at this
      exact Int.lt_of_mul_lt_mul_right this (Int.le_of_lt (p2 q))
    · intro hh
      have := Int.mul_lt_mul_of_pos_right hh (p2 q)
      rw [← h1, ← h2] at this
      exact Int.lt_of_mul_lt_mul_right this (Int.le_of_lt (p2 p))
  have heq : A = C ↔ z = w := by
    constructor
    · rintro rfl
      rw [h1] at h2
      exact Int.eq_of_mul_eq_mul_right (Int.ne_of_gt (p2 q)) h2
    · rintro rfl
      rw [← h1] at h2
      exact (Int.eq_of_mul_eq_mul_right (Int.ne_of_gt (p2 p)) h2).symm
  show compareOfLessAndEq A C = compareOfLessAndEq z w
  unfold compareOfLessAndEq
  simp only [hlt, heq]
theorem cut_zero' (way : Toward) (s : Bool) (n : Nat) : way.cut s n 0 = n := by
  cases way <;> simp [Toward.cut, Nat.mod_one]
theorem cut_trunc (s : Bool) (k d : Nat) : Toward.zero.cut s (k * 2 ^ d) d = k := by
  have hp : 0 < 2 ^ d := Nat.two_pow_pos d
  by_cases hk : k = 0
  · subst hk
    simp [Toward.cut]
  · have hd : d ≤ (k * 2 ^ d).log2 := by
      rw [Nat.le_log2 (Nat.ne_of_gt (Nat.mul_pos (by omega) hp))]
      exact Nat.le_mul_of_pos_left _ (by omega)
    have hm : min d ((k * 2 ^ d).log2 + 2) = d := by omega
    simp only [Toward.cut, hm, Nat.one_shiftLeft, Nat.mul_div_cancel _ hp]
    simp
theorem Rep.sign {s : Bool} {m : Nat} {e z : Int} (h : sg s m * 2 ^ e.toNat = z * 2 ^ (-e).toNat) : sg s z.natAbs = z := by
  have hp := p2 e.toNat
  have hp' := p2 (-e).toNat
  unfold sg at h ⊢
  cases s with
  | true =>
    simp only [if_true] at h ⊢
    by_cases hc : 0 < z
    · have h1 := Int.mul_pos hc hp'
      have h2 : -(m : Int) * 2 ^ e.toNat ≤ 0 := Int.mul_nonpos_of_nonpos_of_nonneg (by omega) (by omega)
      omega
    · omega
  | false =>
    simp only [Bool.false_eq_true, if_false] at h ⊢
    by_cases hc : z < 0
    · have h1 := Int.mul_neg_of_neg_of_pos hc hp'
      have h2 : 0 ≤ (m : Int) * 2 ^ e.toNat := Int.mul_nonneg (by omega) (by omega)
      omega
    · omega
theorem Rep.cut {s : Bool} {m : Nat} {i z : Int} (h : sg s m * 2 ^ i.toNat = z * 2 ^ (-i).toNat) : Toward.zero.cut s (m <<< i.toNat) (-i).toNat = z.natAbs := by
  have ha := Rep.abs h
  rw [Nat.shiftLeft_eq, ha]
  exact cut_trunc s _ _
/-- Cut towards zero, an integer is itself. -/
theorem Rep.toInt {d : Datum} {z : Int} (h : Rep d z) : d.toInt .zero = some z := by
  obtain ⟨s, m, i, rfl, h⟩ := h
  show some (signed s (Toward.zero.cut s (m <<< i.toNat) (-i).toNat) 0) = some z
  rw [Rep.cut h, sgn_eq, Int.pow_zero, Int.mul_one, Rep.sign h]
theorem Rep.integral {d : Datum} {z : Int} (h : Rep d z) : Rep (d.integral .zero) z := by
  obtain ⟨s, m, i, rfl, h⟩ := h
  refine ⟨s, _, 0, rfl, ?_⟩
  rw [Rep.cut h]
  simpa using Rep.sign h
theorem Rep.ofInt (z : Int) : Rep (.number (z < 0) z.natAbs 0) z := by
  refine ⟨_, _, _, rfl, ?_⟩
  have := sg_flag z (decide (z < 0))
  simpa using this

/-- The bits x stand for the integer z. -/
def F (x : Nat) (z : Int) : Prop := Rep (double.read x) z
/-- Absolute values of at most 2^53. -/
def In53 (z : Int) : Prop := -9007199254740992 ≤ z ∧ z ≤ 9007199254740992
theorem In53.abs {z : Int} (h : In53 z) : z.natAbs ≤ 9007199254740992 := by unfold In53 at h; omega
theorem F.nearest {z : Int} (hz : In53 z) : F (FloatKind.f64.nearest z) z := Rep.write (Rep.ofInt z) hz.abs
theorem F.add {x y : Nat} {z w : Int} (h : F x z) (h' : F y w) (hb : In53 (z + w)) : ∃ r, floatBits .add .f64 x y = some r ∧ F r (z + w) := by
  obtain ⟨r, hr, hR⟩ := Rep.sum h h'
  exact ⟨double.write r, by show ((double.read x).sum (double.read y)).map double.write = _; rw [hr]; rfl, Rep.write hR hb.abs⟩
theorem F.sub {x y : Nat} {z w : Int} (h : F x z) (h' : F y w) (hb : In53 (z - w)) : ∃ r, floatBits .sub .f64 x y = some r ∧ F r (z - w) := by
  obtain ⟨r, hr, hR⟩ := Rep.sum h (Rep.opposite h')
  exact ⟨double.write r, by show ((double.read x).sum (double.read y).opposite).map double.write = _; rw [hr]; rfl, Rep.write hR hb.abs⟩
theorem F.mul {x y : Nat} {z w : Int} (h : F x z) (h' : F y w) (hb : In53 (z * w)) : ∃ r, floatBits .mul .f64 x y = some r ∧ F r (z * w) := by
  obtain ⟨r, hr, hR⟩ := Rep.product h h'
  exact ⟨double.write r, by show ((double.read x).product (double.read y)).map double.write = _; rw [hr]; rfl, Rep.write hR hb.abs⟩
theorem F.order {x y : Nat} {z w : Int} (h : F x z) (h' : F y w) : FloatKind.f64.format.order x y = some (compare z w) := Rep.order h h'
theorem F.toInt {x : Nat} {z : Int} (h : F x z) (hz : In53 z) : floatToIntVal .f64 x .i64 = some z := by
  unfold floatToIntVal
  have e : (FloatKind.f64.decode x).toInt .zero = some z := Rep.toInt h
  rw [e]
  unfold In53 at hz
  have h1 : IntKind.i64.min = -9223372036854775808 := by decide
  have h2 : IntKind.i64.max = 9223372036854775807 := by decide
  simp only [h1, h2]
  rw [if_pos (by omega)]
theorem F.csub {a b c d : Nat} {x y u v : Int} (ha : F a x) (hb : F b y) (hc : F c u) (hd : F d v) (h1 : In53 (x - u)) (h2 : In53 (y - v)) : ∃ re im, cSumBits .sub .f64 a b c d = some (re, im) ∧ F re (x - u) ∧ F im (y - v) := by
  obtain ⟨r, hr, hR⟩ := ha.sub hc h1
  obtain ⟨i, hi, hI⟩ := hb.sub hd h2
  exact ⟨r, i, by unfold cSumBits; rw [hr, hi]; rfl, hR, hI⟩
theorem F.cmul {a b c d : Nat} {x y u v : Int} (ha : F a x) (hb : F b y) (hc : F c u) (hd : F d v) (h1 : In53 (x * u)) (h2 : In53 (y * v)) (h3 : In53 (x * u - y * v)) (h4 : In53 (x * v)) (h5 : In53 (y * u)) (h6 : In53 (x * v + y * u)) :
    ∃ re im, cMulBits a b c d = some (re, im) ∧ F re (x * u - y * v) ∧ F im (x * v + y * u) := by
  obtain ⟨r1, e1, H1⟩ := ha.mul hc h1
  obtain ⟨r2, e2, H2⟩ := hb.mul hd h2
  obtain ⟨r3, e3, H3⟩ := H1.sub H2 h3
  obtain ⟨r4, e4, H4⟩ := ha.mul hd h4
  obtain ⟨r5, e5, H5⟩ := hb.mul hc h5
  obtain ⟨r6, e6, H6⟩ := H4.add H5 h6
  exact ⟨r3, r6, by unfold cMulBits; simp only [e1, e2, e3, e4, e5, e6, Option.bind_some], H3, H6⟩
end Go.Proofs.Ytgdnkpngojbjpaa.fl
