/- Integers of a fixed width in two's complement, as lists of words: plain laws of sums, products, widths and signs. No program is in sight. -/
import Derived.Test.YtmoajobnhiopiaaGreatDoorMask
set_option linter.unusedSimpArgs false
set_option linter.unusedVariables false
namespace Go.Proofs.YtmoajobnhiopiaaGreatDoor.lm
open Go Go.Proofs.YtmoajobnhiopiaaGreatDoor.mk

/-- The n words of an integer, the lowest one first. -/
def limbs : Nat → Int → List Int
  | 0, _ => []
  | n + 1, x => (x % 18446744073709551616) :: limbs n (x / 18446744073709551616)
/-- 2 to the power 64 i. -/
def pw (i : Nat) : Int := 18446744073709551616 ^ i
theorem pw_pos (i : Nat) : 0 < pw i := Int.pow_pos (by decide)
theorem pw_zero : pw 0 = 1 := rfl
theorem pw_succ (i : Nat) : pw (i + 1) = pw i * 18446744073709551616 := Int.pow_succ ..
theorem pw_add (i j : Nat) : pw (i + j) = pw i * pw j := Int.pow_add ..
/-- Word number i of an integer. -/
def lm (x : Int) (i : Nat) : Int := x / pw i % 18446744073709551616
theorem lm_isU (x : Int) (i : Nat) : IsU (lm x i) := by unfold lm IsU; omega
theorem ediv_two {a b c : Int} (hb : 0 ≤ b) : a / b / c = a / (b * c) := by
  rw [Int.ediv_ediv, if_neg (by omega), Int.sub_zero]
theorem div_pw (x : Int) (i : Nat) : x / 18446744073709551616 / pw i = x / pw (i + 1) := by
  rw [ediv_two (by decide), pw_succ, Int.mul_comm]
theorem limbs_length (n : Nat) : ∀ x, (limbs n x).length = n := by
  induction n with
  | zero => intro x; rfl
  | succ n ih => intro x; simp [limbs, ih]
theorem limbs_get (n : Nat) : ∀ x i, i < n → (limbs n x)[i]? = some (lm x i) := by
  induction n with
  | zero => intro x i h; omega
  | succ n ih =>
    intro x i h
    cases i with
    | zero => simp [limbs, lm, pw_zero]
    | succ i =>
      show (limbs n (x / 18446744073709551616))[i]? = _
      rw [ih _ i (by omega)]
      unfold lm
      rw [div_pw]
theorem limbs_ok (n : Nat) (x : Int) : ∀ u ∈ limbs n x, IsU u := by
  intro u hu
  obtain ⟨i, hi⟩ := List.getElem?_of_mem hu
  have hlt : i < n := by
    have := (List.getElem?_eq_some_iff.1 hi).1
    rwa [limbs_length] at this
  rw [limbs_get n x i hlt] at hi
  injection hi with hi
  rw [← hi]
  exact lm_isU x i
theorem limbs_ext {n : Nat} {x : Int} {l : List Int} (hl : l.length = n) (h : ∀ i, i < n → l[i]? = some (lm x i)) : l = limbs n x := by
  apply List.ext_getElem?
  intro i
  by_cases hi : i < n
  · rw [h i hi, limbs_get n x i hi]
  · rw [List.getElem?_eq_none (by omega), List.getElem?_eq_none (by rw [limbs_length]; omega)]
theorem limbs_snoc (n : Nat) (x : Int) : limbs n x ++ [lm x n] = limbs (n + 1) x := by
  refine limbs_ext (by simp [limbs_length]) (fun i hi => ?_)
  by_cases h : i < n
  · rw [List.getElem?_append_left (by rw [limbs_length]; exact h), limbs_get n x i h]
  · obtain rfl : i = n := by omega
    rw [List.getElem?_append_right (by rw [limbs_length]; omega), limbs_length]
    simp
theorem limbs_take (m n : Nat) (x : Int) (h : m ≤ n) : (limbs n x).take m = limbs m x := by
  refine limbs_ext (by rw [List.length_take, limbs_length]; omega) (fun i hi => ?_)
  rw [List.getElem?_take, if_pos hi, limbs_get n x i (by omega)]

/-- The integer fits into n words. -/
def Fit (n : Nat) (x : Int) : Prop := - pw n ≤ 2 * x ∧ 2 * x < pw n

theorem Fit.mono {m n : Nat} {x : Int} (h : Fit m x) (hmn : m ≤ n) : Fit n x := by
  have h1 : pw m ≤ pw n := by
    obtain ⟨k, rfl⟩ : ∃ k, n = m + k := ⟨n - m, by omega⟩
    rw [pw_add]
    have := pw_pos k
    have hm := pw_pos m
    have := Int.mul_le_mul_of_nonneg_left (show (1 : Int) ≤ pw k by omega) (Int.le_of_lt hm)
    rw [Int.mul_one] at this
    exact this
  obtain ⟨h2, h3⟩ := h
  constructor <;> omega
theorem fit_one {x : Int} (h : IsS x) : Fit 1 x := by
  unfold IsS at h
  unfold Fit
  rw [show pw 1 = 18446744073709551616 from rfl]
  constructor <;> omega
theorem pw_half (n : Nat) : pw (n + 1) = 2 * (pw n * 9223372036854775808) := by rw [pw_succ, ← Int.mul_assoc, Int.mul_comm 2, Int.mul_assoc]; rfl
/-- The top word's highest bit is the sign. -/
theorem top_sign {n : Nat} {x : Int} (h : Fit (n + 1) x) : (lm x n ≥ 9223372036854775808 ↔ x < 0) ∧ (x / pw (n + 1) = if x < 0 then -1 else 0) := by
  obtain ⟨h1, h2⟩ := h
  have hp := pw_pos n
  rw [pw_half] at h1 h2
  have hlo : -9223372036854775808 ≤ x / pw n := by
    rw [Int.le_ediv_iff_mul_le hp]
    have : -9223372036854775808 * pw n = -(pw n * 9223372036854775808) := by grind
    omega
  have hhi : x / pw n < 9223372036854775808 := by
    rw [Int.ediv_lt_iff_lt_mul hp]
    have : 9223372036854775808 * pw n = pw n * 9223372036854775808 := by grind
    omega
  have hneg : x / pw n < 0 ↔ x < 0 := by
    constructor
    · intro h
      exact Int.lt_of_not_ge (fun h0 => by have := Int.ediv_nonneg h0 (Int.le_of_lt hp); omega)
    · intro h; exact Int.ediv_neg_of_neg_of_pos h hp
  constructor
  · unfold lm
    rw [← hneg]
    omega
  · rw [pw_succ, ← ediv_two (Int.le_of_lt hp)]
    by_cases hx : x < 0
    · rw [if_pos hx]; have := hneg.2 hx; omega
    · rw [if_neg hx]; have : ¬ x / pw n < 0 := fun h => hx (hneg.1 h); omega
/-- The word that an integer of m words is filled with. -/
theorem fill_lm {m : Nat} {x : Int} (h : Fit (m + 1) x) {i : Nat} (hi : m + 1 ≤ i) : lm x i = maskI (decide (x < 0)) := by
  obtain ⟨k, rfl⟩ : ∃ k, i = (m + 1) + k := ⟨i - (m + 1), by omega⟩
  unfold lm
  rw [pw_add, ← ediv_two (Int.le_of_lt (pw_pos _)), (top_sign h).2]
  have hp := pw_pos k
  by_cases hx : x < 0
  · rw [if_pos hx, decide_eq_true hx, maskI_true, Int.ediv_eq_neg_one_of_neg_of_le (by omega) (by omega)]
    rfl
  · rw [if_neg hx, decide_eq_false hx, maskI_false, Int.zero_ediv]
    rfl
theorem fill_num {m : Nat} {x : Int} (h : Fit (m + 1) x) : maskI (lm x m / 9223372036854775808 % 2 == 1) = maskI (decide (x < 0)) := by
  congr 1
  have h1 := (top_sign h).1
  have h2 := lm_isU x m
  unfold IsU at h2
  rw [Bool.eq_iff_iff, beq_iff_eq, decide_eq_true_iff, ← h1]
  omega
/-! ### sums -/
/-- The carry into word i. -/
def cya (x y : Int) (i : Nat) : Int := (x % pw i + y % pw i) / pw i
theorem cya_zero (x y : Int) : cya x y 0 = 0 := by simp [cya, pw_zero]
theorem cya_ok (x y : Int) (i : Nat) : 0 ≤ cya x y i ∧ cya x y i ≤ 1 := by
  have hp := pw_pos i
  have h1 := Int.emod_nonneg x (Int.ne_of_gt hp)
  have h2 := Int.emod_nonneg y (Int.ne_of_gt hp)
  have h3 := Int.emod_lt_of_pos x hp
  have h4 := Int.emod_lt_of_pos y hp
  unfold cya
  constructor
  · exact Int.ediv_nonneg (by omega) (by omega)
  · have : (x % pw i + y % pw i) / pw i < 2 := (Int.ediv_lt_iff_lt_mul hp).2 (by omega)
    omega
theorem divmod_add {x y P : Int} (hP : 0 < P) : (x + y) / P = x / P + y / P + (x % P + y % P) / P := by
  have h1 : x + y = (x % P + y % P) + (x / P + y / P) * P := by
    have a := Int.mul_ediv_add_emod x P
    have b := Int.mul_ediv_add_emod y P
    grind
  rw [h1, Int.add_mul_ediv_right _ _ (Int.ne_of_gt hP)]
  omega
theorem mod_mul {x P W : Int} (hP : 0 < P) : x % (P * W) = x % P + P * (x / P % W) := by
  rw [Int.emod_def x (P * W), Int.emod_def (x / P) W, Int.emod_def x P, ediv_two (Int.le_of_lt hP)]
  grind
theorem cya_succ (x y : Int) (i : Nat) : cya x y (i + 1) = (lm x i + lm y i + cya x y i) / 18446744073709551616 := by
  have hP := pw_pos i
  unfold cya lm
  rw [pw_succ, mod_mul hP, mod_mul hP, ← ediv_two (Int.le_of_lt hP)]
  congr 1
  have : x % pw i + pw i * (x / pw i % 18446744073709551616) + (y % pw i + pw i * (y / pw i % 18446744073709551616)) = (x % pw i + y % pw i) + (x / pw i % 18446744073709551616 + y / pw i % 18446744073709551616) * pw i := by grind
  rw [this, Int.add_mul_ediv_right _ _ (Int.ne_of_gt hP)]
  omega
theorem add_lm (x y : Int) (i : Nat) : (lm x i + lm y i + cya x y i) % 18446744073709551616 = lm (x + y) i := by
  have h := divmod_add (x := x) (y := y) (pw_pos i)
  unfold cya lm
  omega
/-- The borrow from word i. -/
def cys (x y : Int) (i : Nat) : Int := - ((x % pw i - y % pw i) / pw i)
theorem cys_zero (x y : Int) : cys x y 0 = 0 := by simp [cys, pw_zero]
theorem cys_ok (x y : Int) (i : Nat) : 0 ≤ cys x y i ∧ cys x y i ≤ 1 := by
  have hp := pw_pos i
  have h1 := Int.emod_nonneg x (Int.ne_of_gt hp)
  have h2 := Int.emod_nonneg y (Int.ne_of_gt hp)
  have h3 := Int.emod_lt_of_pos x hp
  have h4 := Int.emod_lt_of_pos y hp
  unfold cys
  have a : (x % pw i - y % pw i) / pw i < 1 := (Int.ediv_lt_iff_lt_mul hp).2 (by omega)
  have b : -1 ≤ (x % pw i - y % pw i) / pw i := (Int.le_ediv_iff_mul_le hp).2 (by omega)
  omega
theorem divmod_sub {x y P : Int} (hP : 0 < P) : (x - y) / P = x / P - y / P + (x % P - y % P) / P := by
  have h1 : x - y = (x % P - y % P) + (x / P - y / P) * P := by
    have a := Int.mul_ediv_add_emod x P
    have b := Int.mul_ediv_add_emod y P
    grind
  rw [h1, Int.add_mul_ediv_right _ _ (Int.ne_of_gt hP)]
  omega
/-- The borrow of one word. -/
def borI (x y b : Int) : Int := if x < y + b then 1 else 0
theorem borI_ok (x y b : Int) : 0 ≤ borI x y b ∧ borI x y b ≤ 1 := by unfold borI; split <;> omega
theorem borI_div {x y b : Int} (hx : IsU x) (hy : IsU y) (hb : 0 ≤ b ∧ b ≤ 1) : borI x y b = - ((x - y - b) / 18446744073709551616) := by
  unfold IsU at hx hy
  unfold borI
  split <;> omega
theorem cys_succ (x y : Int) (i : Nat) : cys x y (i + 1) = borI (lm x i) (lm y i) (cys x y i) := by
  rw [borI_div (lm_isU x i) (lm_isU y i) (cys_ok x y i)]
  have hP := pw_pos i
  unfold cys lm
  rw [pw_succ, mod_mul hP, mod_mul hP, ← ediv_two (Int.le_of_lt hP)]
  congr 2
  have : x % pw i + pw i * (x / pw i % 18446744073709551616) - (y % pw i + pw i * (y / pw i % 18446744073709551616)) = (x % pw i - y % pw i) + (x / pw i % 18446744073709551616 - y / pw i % 18446744073709551616) * pw i := by grind
  rw [this, Int.add_mul_ediv_right _ _ (Int.ne_of_gt hP)]
  omega
theorem sub_lm (x y : Int) (i : Nat) : (lm x i - lm y i - cys x y i) % 18446744073709551616 = lm (x - y) i := by
  have h := divmod_sub (x := x) (y := y) (pw_pos i)
  unfold cys lm
  omega
/-! ### products -/
/-- The number of a list of words. -/
def natv : List Int → Int
  | [] => 0
  | u :: l => u + 18446744073709551616 * natv l
theorem natv_append (l m : List Int) : natv (l ++ m) = natv l + pw l.length * natv m := by
  induction l with
  | nil => simp [natv, pw_zero]
  | cons u l ih => simp only [List.cons_append, natv, ih, List.length_cons, pw_succ]; grind
theorem natv_set (l : List Int) : ∀ (i : Nat) (u v : Int), l[i]? = some u → natv (l.set i v) = natv l + (v - u) * pw i := by
  induction l with
  | nil => intro i u v h; simp at h
  | cons w l ih =>
    intro i u v h
    cases i with
    | zero => simp at h; subst h; simp [natv, pw_zero]; omega
    | succ i =>
      have h' : l[i]? = some u := by simpa using h
      simp only [List.set_cons_succ, natv, ih i u v h', pw_succ]
      grind
theorem natv_zeros (n : Nat) : natv (List.replicate n 0) = 0 := by
  induction n with
  | zero => rfl
  | succ n ih => simp [List.replicate_succ, natv, ih]
theorem natv_limbs (n : Nat) : ∀ (l : List Int) (z q : Int), l.length = n → (∀ u ∈ l, IsU u) → natv l = z + q * pw n → l = limbs n z := by
  induction n with
  | zero => intro l z q hl _ _; exact List.eq_nil_of_length_eq_zero hl
  | succ n ih =>
    intro l z q hl hu h
    cases l with
    | nil => simp at hl
    | cons u l =>
      have hu0 := hu u List.mem_cons_self
      unfold IsU at hu0
      simp only [natv, pw_succ] at h
      have hz : z = u + (natv l - q * pw n) * 18446744073709551616 := by grind
      have h1 : z % 18446744073709551616 = u := by rw [hz, Int.add_mul_emod_self_right]; omega
      have h2 : z / 18446744073709551616 = natv l - q * pw n := by rw [hz, Int.add_mul_ediv_right _ _ (by decide)]; omega
      show u :: l = (z % 18446744073709551616) :: limbs n (z / 18446744073709551616)
      rw [h1, h2, ← ih l (natv l - q * pw n) q (by simpa using hl) (fun v hv => hu v (List.mem_cons_of_mem _ hv)) (by omega)]
/-- In row i, before column j. -/
def MulInv (x y : Int) (n i j : Nat) (out : List Int) (carry : Int) : Prop :=
  out.length = n ∧ (∀ u ∈ out, IsU u) ∧ IsU carry ∧ ∃ q, natv out + carry * pw (i + j) = (x % pw i) * y + lm x i * pw i * (y % pw j) + q * pw n
theorem mulInv_start (x y : Int) (n : Nat) : MulInv x y n 0 0 (List.replicate n 0) 0 := by
  refine ⟨by simp, fun u hu => ?_, by unfold IsU; omega, 0, ?_⟩
  · rw [List.mem_replicate] at hu; rw [hu.2]; unfold IsU; omega
  · rw [natv_zeros, pw_zero, Int.emod_one, Int.emod_one]; simp
theorem mulInv_step {x y : Int} {n i j : Nat} {out : List Int} {carry o hi lo : Int} (h : MulInv x y n i j out carry) (ho : out[i + j]? = some o) (hlo : IsU lo) (hhi : IsU hi) (he : hi * 18446744073709551616 + lo = lm x i * lm y j + o + carry) :
    MulInv x y n i (j + 1) (out.set (i + j) lo) hi := by
  obtain ⟨h1, h2, h3, q, h4⟩ := h
  refine ⟨by rw [List.length_set, h1], fun u hu => ?_, hhi, q, ?_⟩
  · rcases List.mem_or_eq_of_mem_set hu with h | h
    · exact h2 u h
    · rw [h]; exact hlo
  · rw [natv_set out _ o lo ho, pw_succ j, mod_mul (pw_pos j), ← Nat.add_assoc, pw_succ (i + j)]
    show _ = _ + lm x i * pw i * (y % pw j + pw j * lm y j) + _
    rw [pw_add] at h4 ⊢
    grind
theorem mulInv_row {x y : Int} {n i j : Nat} {out : List Int} {carry : Int} (h : MulInv x y n i j out carry) (hij : i + j = n) : MulInv x y n (i + 1) 0 out 0 := by
  obtain ⟨h1, h2, h3, q, h4⟩ := h
  refine ⟨h1, h2, by unfold IsU; omega, q - carry - lm x i * (y / pw j), ?_⟩
  rw [pw_succ i, mod_mul (pw_pos i), pw_zero, Int.emod_one]
  show _ = (x % pw i + pw i * lm x i) * y + _ + _
  have hy := Int.mul_ediv_add_emod y (pw j)
  rw [hij] at h4
  have hn : pw n = pw i * pw j := by rw [← hij, pw_add]
  rw [hn] at h4 ⊢
  have e : y % pw j = y - pw j * (y / pw j) := by omega
  rw [e] at h4
  grind
theorem mulInv_end {x y : Int} {n j : Nat} {out : List Int} (h : MulInv x y n n 0 out 0) : out = limbs n (x * y) := by
  obtain ⟨h1, h2, h3, q, h4⟩ := h
  refine natv_limbs n out _ (q - (x / pw n) * y) h1 h2 ?_
  rw [pw_zero, Int.emod_one] at h4
  have hx := Int.mul_ediv_add_emod x (pw n)
  have e : x % pw n = x - pw n * (x / pw n) := by omega
  rw [e] at h4
  grind
/-! ### signs -/
theorem zero_all {n : Nat} {x : Int} (h : Fit (n + 1) x) (h0 : ∀ i, i < n + 1 → lm x i = 0) : x = 0 := by
  have : ∀ k, k ≤ n + 1 → x % pw k = 0 := by
    intro k
    induction k with
    | zero => intro _; rw [pw_zero, Int.emod_one]
    | succ k ih =>
      intro hk
      rw [pw_succ, mod_mul (pw_pos k), ih (by omega)]
      have := h0 k (by omega)
      unfold lm at this
      rw [this]
      simp
  have h1 := this (n + 1) (Nat.le_refl _)
  have h2 := (top_sign h).2
  have h3 := Int.mul_ediv_add_emod x (pw (n + 1))
  rw [h1, h2] at h3
  obtain ⟨h4, h5⟩ := h
  have hp := pw_pos (n + 1)
  split at h3 <;> omega
/-- The sign of an integer. -/
def sgnI (x : Int) : Int := if x < 0 then -1 else if x = 0 then 0 else 1
end Go.Proofs.YtmoajobnhiopiaaGreatDoor.lm
