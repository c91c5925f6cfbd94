/- Every float: not a number, beyond 2^53, an integer, or between two integers. No program here. -/
import Derived.Test.YtgdnkpngojbjpaaFlp
namespace Go.Proofs.Ytgdnkpngojbjpaa.fl
open Go Ieee

/-- The value of a number, in units of 2^-P. -/
def vl (P : Nat) : Datum → Int
  | .number s m e => sg s m * 2 ^ (e + P).toNat
  | _ => 0
/-- A number whose place is not below -P. -/
def Num (P : Nat) (d : Datum) : Prop := ∃ s m e, d = .number s m e ∧ -(P : Int) ≤ e
theorem cmp_scale {A C q : Int} (hq : 0 < q) : compare (A * q) (C * q) = compare A C := by
  have hlt : A * q < C * q ↔ A < C := ⟨fun h => Int.lt_of_mul_lt_mul_right h (Int.le_of_lt hq), fun h => Int.mul_lt_mul_of_pos_right h hq⟩
  have heq : A * q = C * q ↔ A = C := ⟨fun h => Int.eq_of_mul_eq_mul_right (Int.ne_of_gt hq) h, fun h => by rw [h]⟩
  show compareOfLessAndEq (A * q) (C * q) = compareOfLessAndEq A C
  unfold compareOfLessAndEq
  simp only [hlt, heq]
theorem Num.order {P : Nat} {d d' : Datum} (h : Num P d) (h' : Num P d') : d.order d' = some (compare (vl P d) (vl P d')) := by
  obtain ⟨s, m, i, rfl, h⟩ := h
  obtain ⟨t, n, j, rfl, h'⟩ := h'
  show some (compare (signed s m (i - min i j).toNat) (signed t n (j - min i j).toNat)) = some (compare (sg s m * 2 ^ (i + P).toNat) (sg t n * 2 ^ (j + P).toNat))
  rw [sgn_eq, sgn_eq]
  rw [show (i + P).toNat = (i - min i j).toNat + (min i j + P).toNat by omega, show (j + P).toNat = (j - min i j).toNat + (min i j + P).toNat by omega, Int.pow_add, Int.pow_add, ← Int.mul_assoc, ← Int.mul_assoc, cmp_scale (p2 _)]
theorem Rep.vl {P : Nat} {d : Datum} {z : Int} (h : Rep d z) (hn : Num P d) : vl P d = z * 2 ^ P := by
  obtain ⟨s, m, e, rfl, h⟩ := h
  obtain ⟨s', m', e', he, hp⟩ := hn
  cases he
  have := scale h hp
  rw [show (-(P : Int)).toNat = 0 by omega, Int.pow_zero, Int.mul_one, show (- -(P : Int)).toNat = P by omega] at this
  rw [← this]
  show sg s m * 2 ^ (e + P).toNat = sg s m * 2 ^ (e - -(P : Int)).toNat
  rw [show e - -(P : Int) = e + P by omega]
theorem Num.rep {P : Nat} {d : Datum} {z : Int} (hn : Num P d) (h : fl.vl P d = z * 2 ^ P) : Rep d z := by
  obtain ⟨s, m, e, rfl, hp⟩ := hn
  refine ⟨s, m, e, rfl, ?_⟩
  replace h : sg s m * 2 ^ (e + P).toNat = z * 2 ^ P := h
  rcases Int.le_total 0 e with he | he
  · rw [show (e + P).toNat = e.toNat + P by omega, Int.pow_add, ← Int.mul_assoc] at h
    rw [show (-e).toNat = 0 by omega, Int.pow_zero, Int.mul_one]
    exact Int.eq_of_mul_eq_mul_right (Int.ne_of_gt (p2 P)) h
  · obtain ⟨c, hc⟩ : ∃ c, P = (-e).toNat + c := ⟨P - (-e).toNat, by omega⟩
    rw [show (e + P).toNat = c by omega] at h
    rw [show (2 : Int) ^ P = 2 ^ ((-e).toNat + c) by rw [← hc], Int.pow_add, ← Int.mul_assoc] at h
    rw [show e.toNat = 0 by omega, Int.pow_zero, Int.mul_one]
    exact Int.eq_of_mul_eq_mul_right (Int.ne_of_gt (p2 c)) h
theorem cut_div (s : Bool) (n d : Nat) : Toward.zero.cut s n d = n / 2 ^ d := by
  simp only [Toward.cut, Nat.one_shiftLeft]
  have h : n / 2 ^ min d (n.log2 + 2) = n / 2 ^ d := by
    by_cases hd : d ≤ n.log2 + 2
    · rw [show min d (n.log2 + 2) = d by omega]
    · rw [show min d (n.log2 + 2) = n.log2 + 2 by omega]
      have h1 : n < 2 ^ (n.log2 + 1) := Nat.lt_log2_self
      have h2 : 2 ^ (n.log2 + 1) ≤ 2 ^ (n.log2 + 2) := Nat.pow_le_pow_right (by omega) (by omega)
      have h3 : 2 ^ (n.log2 + 2) ≤ 2 ^ d := Nat.pow_le_pow_right (by omega) (by omega)
      rw [Nat.div_eq_of_lt (by omega), Nat.div_eq_of_lt (by omega)]
  simp [h]
/-- Cut towards zero: an integer, not further from zero. -/
theorem Num.trunc {P : Nat} {d : Datum} (hn : Num P d) : ∃ t : Int, d.toInt .zero = some t ∧ Rep (d.integral .zero) t ∧ t.natAbs * 2 ^ P ≤ (fl.vl P d).natAbs := by
  obtain ⟨s, m, e, rfl, hp⟩ := hn
  obtain ⟨c, hc⟩ : ∃ c, (m <<< e.toNat) / 2 ^ (-e).toNat = c := ⟨_, rfl⟩
  refine ⟨sg s c, ?_, ⟨s, c, 0, ?_, by simp⟩, ?_⟩
  · show some (signed s (Toward.zero.cut s (m <<< e.toNat) (-e).toNat) 0) = _
    rw [cut_div, hc, sgn_eq, Int.pow_zero, Int.mul_one]
  · show Datum.number s (Toward.zero.cut s (m <<< e.toNat) (-e).toNat) 0 = _
    rw [cut_div, hc]
  · show _ ≤ (sg s m * 2 ^ (e + P).toNat).natAbs
    rw [sg_abs, Int.natAbs_mul, sg_abs, Int.natAbs_pow]
    show c * 2 ^ P ≤ m * 2 ^ (e + P).toNat
    rw [Nat.shiftLeft_eq] at hc
    rcases Int.le_total 0 e with he | he
    · rw [show (-e).toNat = 0 by omega, Nat.pow_zero, Nat.div_one] at hc
      rw [← hc, Nat.mul_assoc, ← Nat.pow_add, show e.toNat + P = (e + P).toNat by omega]
      exact Nat.le_refl _
    · rw [show e.toNat = 0 by omega, Nat.pow_zero, Nat.mul_one] at hc
      obtain ⟨q, hq⟩ : ∃ q, P = (-e).toNat + q := ⟨P - (-e).toNat, by omega⟩
      rw [show (e + P).toNat = q by omega, show 2 ^ P = 2 ^ ((-e).toNat + q) by rw [← hq], Nat.pow_add, ← Nat.mul_assoc]
      apply Nat.mul_le_mul_right
      rw [← hc]
      exact Nat.div_mul_le_self _ _

theorem read_cases (x : Nat) : Num 1074 (double.read x) ∨ (∃ s, double.read x = .infinity s) ∨ ∃ s t, double.read x = .nan s t := by
  unfold Format.read
  dsimp only
  split
  · exact .inl ⟨_, _, _, rfl, by rw [least]; omega⟩
  · split
    · exact .inl ⟨_, _, _, rfl, by rw [least]; omega⟩
    · split
      · exact .inr (.inl ⟨_, rfl⟩)
      · exact .inr (.inr ⟨_, _, rfl⟩)
theorem F.num {x : Nat} {z : Int} (h : F x z) : Num 1074 (double.read x) := by
  obtain ⟨s, m, e, he, _⟩ := h
  rcases read_cases x with h | ⟨s', h⟩ | ⟨s', t, h⟩
  · exact h
  · rw [h] at he; cases he
  · rw [h] at he; cases he
/-- Without its sign. -/
theorem read_abs (x : Nat) : double.read (x % 9223372036854775808) = (match double.read x with | .number _ m e => .number false m e | .infinity _ => .infinity false | .nan _ t => .nan false t) := by
  unfold Format.read
  simp only [sw_eq, Nat.mod_mod]
  rw [show x % 9223372036854775808 / 9223372036854775808 % 2 = 0 by omega]
  split
  · rfl
  · split
    · rfl
    · split <;> rfl
/-- 2^53 and its opposite. -/
def top : Nat := 4845873199050653696
def bot : Nat := 14069245235905429504
theorem F_top : F top 9007199254740992 := by
  have e : double.read top = .number false 4503599627370496 1 := by decide
  exact ⟨_, _, _, e, by decide⟩
theorem F_bot : F bot (-9007199254740992) := by
  have e : double.read bot = .number true 4503599627370496 1 := by decide
  exact ⟨_, _, _, e, by decide⟩

/-- A float between two integers of at most 2^53. -/
structure Frac (x : Nat) (t : Int) : Prop where
  small : In53 t
  int : floatToIntVal .f64 x .i64 = some t
  itg : Rep ((double.read x).integral .zero) t
  ne : ∀ r, F r t → double.order r x ≠ some .eq ∧ double.order x r ≠ some .eq
  lo : double.order x bot = some .gt ∨ double.order x bot = some .eq
  hi : double.order x top = some .lt ∨ double.order x top = some .eq
  ab : double.order (x % 9223372036854775808) top ≠ some .gt
  num : Num 1074 (double.read x)
theorem Frac.self {x : Nat} {t : Int} (h : Frac x t) : double.order x x = some .eq := by
  rw [show double.order x x = (double.read x).order (double.read x) from rfl, Num.order h.num h.num]
  congr 1
  show compareOfLessAndEq _ _ = _
  unfold compareOfLessAndEq
  simp
theorem cmp_lt {a b : Int} : compare a b = .lt ↔ a < b := by
  show compareOfLessAndEq a b = _ ↔ _
  unfold compareOfLessAndEq
  split
  · simp [*]
  · split <;> simp [*]
theorem cmp_eq {a b : Int} : compare a b = .eq ↔ a = b := by
  show compareOfLessAndEq a b = _ ↔ _
  unfold compareOfLessAndEq
  split
  · simp; omega
  · split <;> simp [*]
theorem cmp_gt {a b : Int} : compare a b = .gt ↔ b < a := by
  show compareOfLessAndEq a b = _ ↔ _
  unfold compareOfLessAndEq
  split
  · simp; omega
  · split
    · simp; omega
    · simp; omega
theorem abs_le_abs {P a b : Nat} (h : a * 2 ^ P ≤ b) : (a : Int) * 2 ^ P ≤ (b : Int) := by
  have : ((a * 2 ^ P : Nat) : Int) ≤ (b : Int) := Int.ofNat_le.2 h
  rw [Int.natCast_mul, Int.natCast_pow] at this
  exact this
/-- Every float. -/
theorem float_cases (x : Nat) : (∃ t, F x t ∧ In53 t) ∨ (∀ y, double.order x y = none) ∨
    (double.order x x = some .eq ∧ double.order (x % 9223372036854775808) top = some .gt ∧ ((double.order x bot = some .lt) ∨ (double.order x top = some .gt ∧ double.order x bot = some .gt))) ∨ ∃ t, Frac x t := by
  rcases read_cases x with hn | ⟨s, h⟩ | ⟨s, t, h⟩
  · have hx := hn
    obtain ⟨s, m, e, he, hp⟩ := hn
    have hab : double.read (x % 9223372036854775808) = .number false m e := by rw [read_abs, he]
    have hna : Num 1074 (double.read (x % 9223372036854775808)) := ⟨_, _, _, hab, hp⟩
    have ht := Rep.vl (P := 1074) F_top F_top.num
    have hb := Rep.vl (P := 1074) F_bot F_bot.num
    obtain ⟨q, hq⟩ : ∃ q : Int, q = 2 ^ 1074 := ⟨_, rfl⟩
    have hq0 : 0 < q := by rw [hq]; exact p2 _
    have hva : vl 1074 (double.read (x % 9223372036854775808)) = ((vl 1074 (double.read x)).natAbs : Int) := by
      rw [hab, he]
      show sg false m * 2 ^ (e + (1074 : Nat)).toNat = ((sg s m * 2 ^ (e + (1074 : Nat)).toNat).natAbs : Int)
      rw [Int.natAbs_mul, sg_abs, Int.natAbs_pow, Int.natCast_mul, Int.natCast_pow]
      rfl
    have o1 : double.order x top = some (compare (vl 1074 (double.read x)) (9007199254740992 * q)) := by
      rw [show double.order x top = (double.read x).order (double.read top) from rfl, Num.order hx F_top.num, ht, hq]
    have o2 : double.order x bot = some (compare (vl 1074 (double.read x)) (-9007199254740992 * q)) := by
      rw [show double.order x bot = (double.read x).order (double.read bot) from rfl, Num.order hx F_bot.num, hb, hq]
    have o3 : double.order (x % 9223372036854775808) top = some (compare ((vl 1074 (double.read x)).natAbs : Int) (9007199254740992 * q)) := by
      rw [show double.order (x % 9223372036854775808) top = (double.read (x % 9223372036854775808)).order (double.read top) from rfl, Num.order hna F_top.num, ht, hq, hva]
    have o4 : double.order x x = some .eq := by
      rw [show double.order x x = (double.read x).order (double.read x) from rfl, Num.order hx hx]
      rw [cmp_eq.2 rfl]
    obtain ⟨v, hv⟩ : ∃ v, v = vl 1074 (double.read x) := ⟨_, rfl⟩
    rw [← hv] at o1 o2 o3
    by_cases hbig : 9007199254740992 * q < (v.natAbs : Int)
    · refine .inr (.inr (.inl ⟨o4, by rw [o3, cmp_gt.2 hbig], ?_⟩))
      rcases Int.le_total 0 v with h0 | h0
      · right
        have h1 : 9007199254740992 * q < v := by omega
        have h2 : -9007199254740992 * q < v := by omega
        exact ⟨by rw [o1, cmp_gt.2 h1], by rw [o2, cmp_gt.2 h2]⟩
      · left
        have h1 : v < -9007199254740992 * q := by omega
        rw [o2, cmp_lt.2 h1]
    · obtain ⟨t, ht1, ht2, ht3⟩ := hx.trunc
      rw [← hv] at ht3
      have hts : In53 t := by
        have h1 : (t.natAbs : Int) * q ≤ (v.natAbs : Int) := by
          rw [hq]
          exact abs_le_abs ht3
        have h2 : (t.natAbs : Int) ≤ 9007199254740992 := Int.le_of_mul_le_mul_right (by omega) hq0
        unfold In53
        omega
      by_cases hint : v = t * q
      · exact .inl ⟨t, hx.rep (by rw [← hv, hint, hq]), hts⟩
      · refine .inr (.inr (.inr ⟨t, hts, ?_, ht2, ?_, ?_, ?_, ?_, hx⟩))
        · unfold floatToIntVal
          have e : (FloatKind.f64.decode x).toInt .zero = some t := ht1
          rw [e]
          unfold In53 at hts
          have h1 : IntKind.i64.min = -9223372036854775808 := by decide
          have h2 : IntKind.i64.max = 9223372036854775807 := by decide
          simp only [h1, h2]
          rw [if_pos (by omega)]
        · intro r hr
          have hrv := Rep.vl (P := 1074) hr hr.num
          constructor
          · rw [show double.order r x = (double.read r).order (double.read x) from rfl, Num.order hr.num hx, hrv, ← hv, ← hq]
            intro h
            injection h with h
            exact hint (cmp_eq.1 h).symm
          · rw [show double.order x r = (double.read x).order (double.read r) from rfl, Num.order hx hr.num, hrv, ← hv, ← hq]
            intro h
            injection h with h
            exact hint (cmp_eq.1 h)
        · have h1 : -9007199254740992 * q ≤ v := by omega
          rcases Int.lt_or_eq_of_le h1 with h | h
          · exact .inl (by rw [o2, cmp_gt.2 h])
          · exact .inr (by rw [o2, cmp_eq.2 h.symm])
        · have h1 : v ≤ 9007199254740992 * q := by omega
          rcases Int.lt_or_eq_of_le h1 with h | h
          · exact .inl (by rw [o1, cmp_lt.2 h])
          · exact .inr (by rw [o1, cmp_eq.2 h])
        · rw [o3]
          intro h
          injection h with h
          exact hbig (cmp_gt.1 h)
  · have hab : double.read (x % 9223372036854775808) = .infinity false := by rw [read_abs, h]
    obtain ⟨ts, tm, te, ht, _⟩ := F_top.num
    obtain ⟨bs, bm, be, hb, _⟩ := F_bot.num
    refine .inr (.inr (.inl ⟨?_, ?_, ?_⟩))
    · show (double.read x).order (double.read x) = _
      rw [h]
      cases s <;> decide
    · show (double.read _).order (double.read top) = _
      rw [hab, ht]; rfl
    · cases s with
      | false =>
        right
        constructor
        · show (double.read x).order (double.read top) = _
          rw [h, ht]; rfl
        · show (double.read x).order (double.read bot) = _
          rw [h, hb]; rfl
      | true =>
        left
        show (double.read x).order (double.read bot) = _
        rw [h, hb]; rfl
  · refine .inr (.inl fun y => ?_)
    show (double.read x).order (double.read y) = none
    rw [h]; rfl
end Go.Proofs.Ytgdnkpngojbjpaa.fl
