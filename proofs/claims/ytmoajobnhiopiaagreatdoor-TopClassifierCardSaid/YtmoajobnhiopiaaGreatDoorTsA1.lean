import Derived.WalkKit
import Derived.Test.YtmoajobnhiopiaaGreatDoorChecked
import Derived.ProofKit
import Derived.Outline
import Derived.WalkSpells
import Derived.WalkLawsBesides
import Derived.Deep.QuietTactic
import Derived.BigQuiet
import Derived.Deep.RegionWith
import Derived.Maps.OwnOps
import Derived.Maps.Views
import Derived.Maps.AppendAt
import Derived.RangeFuncBox
import Derived.WalkSmall
import Derived.ArgAppend
import Derived.Laws.AppendOwnNone
import Derived.IntWalk
import Derived.RangeFuncNested
import Derived.RangeFuncBound
import Derived.RangeFuncCalls
import Derived.RangeFuncLeaves
import Derived.Shelf.Abstract
import Derived.Shelf.RegionOpen
import Derived.OwnWalkIn
import Derived.TacticsInMore
import Derived.LoopNIn
import Derived.LoopIn
import Derived.StillTailTactics
import Derived.OrdersIn
import Derived.Deep.RegionHeld3
import Derived.Shelf.Bits.Mul64
import Derived.Shelf.Spec.BitsCarry
import Derived.Laws.Bits64b
import Derived.Lib.Hide
import Derived.Deep.Cut
import Derived.ScopeJumps
import Derived.WalkMore
namespace Go.Proofs.YtmoajobnhiopiaaGreatDoor.mk
open Go
def IsU (a : Int) : Prop := 0 ≤ a ∧ a < 18446744073709551616
def IsS (a : Int) : Prop := -9223372036854775808 ≤ a ∧ a < 9223372036854775808
def bv (a : Int) : BitVec 64 := BitVec.ofInt 64 a
def nu (x : BitVec 64) : Int := (x.toNat : Int)
theorem wrap_u64 (n : Int) : IntKind.u64.wrap n = n % 18446744073709551616 := by simp [IntKind.wrap, IntKind.bits, IntKind.signed]
theorem nu_isU (x : BitVec 64) : IsU (nu x) := by
  unfold IsU nu
  have := x.isLt
  omega
theorem bv_nu (x : BitVec 64) : bv (nu x) = x := by
  unfold bv nu
  rw [BitVec.ofInt_natCast]
  exact (BitVec.ofNat_toNat (m := 64) x).trans (BitVec.setWidth_eq x)
theorem nu_bv {a : Int} (h : IsU a) : nu (bv a) = a := by
  unfold IsU at h
  unfold bv nu
  rw [BitVec.toNat_ofInt]
  omega
theorem bv_mod (a : Int) : nu (bv a) = a % 18446744073709551616 := by
  unfold bv nu
  rw [BitVec.toNat_ofInt]
  omega
theorem bv_wrap (a : Int) : IntKind.u64.wrap a = nu (bv a) := by rw [wrap_u64, bv_mod]
theorem bv_inj {a b : Int} (ha : IsU a) (hb : IsU b) (h : bv a = bv b) : a = b := by rw [← nu_bv ha, ← nu_bv hb, h]
theorem wrap_nu (x : BitVec 64) : IntKind.u64.wrap (nu x) = nu x := by rw [bv_wrap, bv_nu]
theorem bits_and (a b : Int) : bits .and .u64 a b = nu (bv a &&& bv b) := wrap_nu (bv a &&& bv b)
theorem bits_or (a b : Int) : bits .or .u64 a b = nu (bv a ||| bv b) := wrap_nu (bv a ||| bv b)
theorem bits_xor (a b : Int) : bits .xor .u64 a b = nu (bv a ^^^ bv b) := wrap_nu (bv a ^^^ bv b)
theorem bv_neg (a : Int) : bv (-a) = - bv a := by unfold bv; exact BitVec.ofInt_neg ..
theorem bv_sub (a b : Int) : bv (a - b) = bv a - bv b := by
  unfold bv
  rw [Int.sub_eq_add_neg, BitVec.ofInt_add, BitVec.ofInt_neg, BitVec.sub_eq_add_neg]
theorem wrap_neg (a : Int) : IntKind.u64.wrap (-a) = nu (- bv a) := by rw [bv_wrap, bv_neg]
theorem wrap_sub (a b : Int) : IntKind.u64.wrap (a - b) = nu (bv a - bv b) := by rw [bv_wrap, bv_sub]
theorem max_u64 : IntKind.u64.max = nu (BitVec.allOnes 64) := by decide
theorem bits_not (a : Int) : bits .xor .u64 IntKind.u64.max a = nu (~~~ bv a) := by
  rw [bits_xor, max_u64, bv_nu, BitVec.allOnes_xor]
theorem shr63 (x : BitVec 64) : nu x / (9223372036854775808 : Int) = nu (x >>> 63) := by
  unfold nu
  rw [BitVec.toNat_ushiftRight, Nat.shiftRight_eq_div_pow]
  omega
theorem bv_one : bv 1 = 1#64 := by decide
def maskI (c : Bool) : Int := if c then 18446744073709551615 else 0
def maskB (c : Bool) : BitVec 64 := if c then BitVec.allOnes 64 else 0#64
theorem maskI_isU (c : Bool) : IsU (maskI c) := by cases c <;> (unfold maskI IsU; decide)
theorem nu_maskB (c : Bool) : nu (maskB c) = maskI c := by cases c <;> decide
theorem bv_maskI (c : Bool) : bv (maskI c) = maskB c := by rw [← nu_maskB, bv_nu]
theorem maskI_true : maskI true = 18446744073709551615 := rfl
theorem maskI_false : maskI false = 0 := rfl
theorem of_word (x : BitVec 64) : - (x &&& 1#64) = maskB (x.getLsbD 0) := by
  rw [BitVec.and_one_eq_setWidth_ofBool_getLsbD]
  cases x.getLsbD 0 <;> decide
theorem lsb_shr63 (x : BitVec 64) : (x >>> 63).getLsbD 0 = x.msb := by
  rw [BitVec.getLsbD_ushiftRight, BitVec.msb_eq_getLsbD_last]
theorem lsb_bv {a : Int} (h : IsU a) : (bv a).getLsbD 0 = (a % 2 == 1) := by
  have e : ((bv a).toNat : Int) = a := nu_bv h
  rw [BitVec.getLsbD, Nat.testBit_zero, Bool.eq_iff_iff]
  simp only [decide_eq_true_eq, beq_iff_eq]
  omega
theorem of_any (a : Int) : IntKind.u64.wrap (- bits .and .u64 a 1) = maskI ((bv a).getLsbD 0) := by
  rw [wrap_neg, bits_and, bv_nu, bv_one, of_word, nu_maskB]
theorem of_num {a : Int} (h : IsU a) : IntKind.u64.wrap (- bits .and .u64 a 1) = maskI (a % 2 == 1) := by rw [of_any, lsb_bv h]
theorem bit_num {a : Int} (h : IsU a) : bits .and .u64 a 1 = a % 2 := by
  rw [bits_and, bv_one, BitVec.and_one_eq_setWidth_ofBool_getLsbD, lsb_bv h]
  unfold IsU at h
  by_cases c : a % 2 = 1
  · rw [c]; decide
  · have : a % 2 = 0 := by omega
    rw [this]; decide
theorem of_shr63 (x : BitVec 64) : IntKind.u64.wrap (- bits .and .u64 (nu x / 9223372036854775808) 1) = maskI x.msb := by
  rw [shr63, of_any, bv_nu, lsb_shr63]
theorem or_neg_msb (x : BitVec 64) : (x ||| -x).msb = (x != 0#64) := by
  rw [BitVec.msb_or, BitVec.msb_neg]
  by_cases h : x = 0#64
  · subst h; decide
  · by_cases h2 : x = BitVec.intMin 64
    · subst h2; decide
    · have e1 : (x != 0#64) = true := by simpa using h
      have e2 : (x != BitVec.intMin 64) = true := by simpa using h2
      rw [e1, e2]
      cases x.msb <;> rfl
theorem bv_eq_zero {a : Int} (h : IsU a) : (bv a == 0#64) = (a == 0) := by
  rw [Bool.eq_iff_iff, beq_iff_eq, beq_iff_eq]
  constructor
  · intro e; exact bv_inj h (by unfold IsU; omega) (e.trans (by decide))
  · intro e; subst e; decide
theorem zero_num {a : Int} (h : IsU a) : IntKind.u64.wrap (- bits .and .u64 (bits .xor .u64 IntKind.u64.max (bits .or .u64 a (IntKind.u64.wrap (-a))) / 9223372036854775808) 1) = maskI (a == 0) := by
  rw [bits_not, of_shr63, wrap_neg, bits_or, bv_nu, bv_nu, BitVec.msb_not, or_neg_msb, ← bv_eq_zero h]
  congr 1
  cases hx : (bv a == 0#64) <;> simp_all [bne]
theorem xor_num_zero {a b : Int} (ha : IsU a) (hb : IsU b) : (bits .xor .u64 a b == 0) = (a == b) := by
  rw [bits_xor, Bool.eq_iff_iff, beq_iff_eq, beq_iff_eq]
  constructor
  · intro e
    have h0 : bv a ^^^ bv b = 0#64 := by
      have := congrArg bv e
      rw [bv_nu] at this
      exact this
    have h1 : bv a = bv b := by
      have := congrArg (· ^^^ bv b) h0
      simpa [BitVec.xor_assoc] using this
    exact bv_inj ha hb h1
  · intro e; subst e; rw [BitVec.xor_self]; decide
theorem bits_isU (op : BinOp) (hop : op = .and ∨ op = .or ∨ op = .xor) (a b : Int) : IsU (bits op .u64 a b) := by
  rcases hop with rfl | rfl | rfl
  · rw [bits_and]; exact nu_isU _
  · rw [bits_or]; exact nu_isU _
  · rw [bits_xor]; exact nu_isU _
theorem less_msb (x y : BitVec 64) : ((~~~x &&& y) ||| (~~~(x ^^^ y) &&& (x - y))).msb = decide (x.toNat < y.toNat) := by
  rw [BitVec.msb_or, BitVec.msb_and, BitVec.msb_and, BitVec.msb_not, BitVec.msb_not, BitVec.msb_xor]
  simp only [BitVec.msb_eq_decide, BitVec.toNat_sub]
  have hx := x.isLt
  have hy := y.isLt
  rw [Bool.eq_iff_iff]
  simp
  omega
theorem less_num {a b : Int} (ha : IsU a) (hb : IsU b) : IntKind.u64.wrap (- bits .and .u64 (bits .or .u64 (bits .and .u64 (bits .xor .u64 IntKind.u64.max a) b) (bits .and .u64 (bits .xor .u64 IntKind.u64.max (bits .xor .u64 a b)) (IntKind.u64.wrap (a - b))) / 9223372036854775808) 1) = maskI (decide (a < b)) := by
  have ea : ((bv a).toNat : Int) = a := nu_bv ha
  have eb : ((bv b).toNat : Int) = b := nu_bv hb
  have e : bits .or .u64 (bits .and .u64 (bits .xor .u64 IntKind.u64.max a) b) (bits .and .u64 (bits .xor .u64 IntKind.u64.max (bits .xor .u64 a b)) (IntKind.u64.wrap (a - b))) = nu ((~~~bv a &&& bv b) ||| (~~~(bv a ^^^ bv b) &&& (bv a - bv b))) := by
    simp only [max_u64, BitVec.allOnes_xor, bits_xor, wrap_sub, bits_and, bits_or, bv_nu]
  rw [e, of_shr63, less_msb]
  congr 1
  rw [Bool.eq_iff_iff]
  simp only [decide_eq_true_eq]
  omega
def selI (m a b : Int) : Int := nu (bv b ^^^ (bv m &&& (bv a ^^^ bv b)))
theorem sel_num (m a b : Int) : bits .xor .u64 b (bits .and .u64 m (bits .xor .u64 a b)) = selI m a b := by
  rw [bits_xor, bits_and, bits_xor, bv_nu, bv_nu]; rfl
theorem selI_mask {a b : Int} (ha : IsU a) (hb : IsU b) (c : Bool) : selI (maskI c) a b = if c then a else b := by
  unfold selI
  rw [bv_maskI]
  cases c
  · show nu (bv b ^^^ (0#64 &&& _)) = b
    rw [BitVec.zero_and, BitVec.xor_zero, nu_bv hb]
  · show nu (bv b ^^^ (BitVec.allOnes 64 &&& _)) = a
    rw [BitVec.allOnes_and, ← BitVec.xor_assoc, BitVec.xor_comm (bv b), BitVec.xor_assoc, BitVec.xor_self, BitVec.xor_zero, nu_bv ha]
theorem swp_num (m a b : Int) : bits .xor .u64 a (bits .and .u64 m (bits .xor .u64 a b)) = selI m b a := by
  rw [bits_xor, bits_and, bits_xor, bv_nu, bv_nu]
  unfold selI
  rw [BitVec.xor_comm (bv a) (bv b)]
theorem neg_num {a : Int} (h : IsS a) : IntKind.u64.wrap (a / 9223372036854775808) = maskI (decide (a < 0)) := by
  unfold IsS at h
  rw [wrap_u64]
  by_cases c : a < 0
  · rw [decide_eq_true c, maskI_true]; omega
  · rw [decide_eq_false c, maskI_false]; omega
def signI (n z : Int) : Int := if n % 2 = 1 then -1 else if z % 2 = 1 then 0 else 1
theorem notmask_num (c : Bool) : bits .and .u64 (bits .xor .u64 IntKind.u64.max (maskI c)) 1 = if c then 0 else 1 := by
  cases c <;> decide
theorem sign_num (n z : Int) : RowKit.wrap64 (selI (maskI (n % 2 == 1)) 18446744073709551615 (bits .and .u64 (bits .xor .u64 IntKind.u64.max (maskI (z % 2 == 1))) 1)) = signI n z := by
  rw [notmask_num, selI_mask (by unfold IsU; omega) (by unfold IsU; split <;> omega)]
  unfold signI
  simp only [beq_iff_eq]
  unfold RowKit.wrap64
  split
  · decide
  · split <;> decide
end Go.Proofs.YtmoajobnhiopiaaGreatDoor.mk
set_option linter.unusedSimpArgs false
set_option linter.unusedVariables false
namespace Go.Proofs.YtmoajobnhiopiaaGreatDoor.lm
open Go Go.Proofs.YtmoajobnhiopiaaGreatDoor.mk
def limbs : Nat → Int → List Int
  | 0, _ => []
  | n + 1, x => (x % 18446744073709551616) :: limbs n (x / 18446744073709551616)
def pw (i : Nat) : Int := 18446744073709551616 ^ i
theorem pw_pos (i : Nat) : 0 < pw i := Int.pow_pos (by decide)
theorem pw_zero : pw 0 = 1 := rfl
theorem pw_succ (i : Nat) : pw (i + 1) = pw i * 18446744073709551616 := Int.pow_succ ..
theorem pw_add (i j : Nat) : pw (i + j) = pw i * pw j := Int.pow_add ..
def lm (x : Int) (i : Nat) : Int := x / pw i % 18446744073709551616
theorem lm_isU (x : Int) (i : Nat) : IsU (lm x i) := by unfold lm IsU; omega
theorem ediv_two {a b c : Int} (hb : 0 ≤ b) : a / b / c = a / (b * c) := by
  rw [Int.ediv_ediv, if_neg (by omega), Int.sub_zero]
theorem div_pw (x : Int) (i : Nat) : x / 18446744073709551616 / pw i = x / pw (i + 1) := by
  rw [ediv_two (by decide), pw_succ, Int.mul_comm]
theorem limbs_length (n : Nat) : ∀ x, (limbs n x).length = n := by
  induction n with
  | zero => intro x; rfl
  | succ n ih => intro x; simp [limbs, ih]
theorem limbs_get (n : Nat) : ∀ x i, i < n → (limbs n x)[i]? = some (lm x i) := by
  induction n with
  | zero => intro x i h; omega
  | succ n ih =>
    intro x i h
    cases i with
    | zero => simp [limbs, lm, pw_zero]
    | succ i =>
      show (limbs n (x / 18446744073709551616))[i]? = _
      rw [ih _ i (by omega)]
      unfold lm
      rw [div_pw]
theorem limbs_ext {n : Nat} {x : Int} {l : List Int} (hl : l.length = n) (h : ∀ i, i < n → l[i]? = some (lm x i)) : l = limbs n x := by
  apply List.ext_getElem?
  intro i
  by_cases hi : i < n
  · rw [h i hi, limbs_get n x i hi]
  · rw [List.getElem?_eq_none (by omega), List.getElem?_eq_none (by rw [limbs_length]; omega)]
theorem limbs_snoc (n : Nat) (x : Int) : limbs n x ++ [lm x n] = limbs (n + 1) x := by
  refine limbs_ext (by simp [limbs_length]) (fun i hi => ?_)
  by_cases h : i < n
  · rw [List.getElem?_append_left (by rw [limbs_length]; exact h), limbs_get n x i h]
  · obtain rfl : i = n := by omega
    rw [List.getElem?_append_right (by rw [limbs_length]; omega), limbs_length]
    simp
def Fit (n : Nat) (x : Int) : Prop := - pw n ≤ 2 * x ∧ 2 * x < pw n
theorem Fit.mono {m n : Nat} {x : Int} (h : Fit m x) (hmn : m ≤ n) : Fit n x := by
  have h1 : pw m ≤ pw n := by
    obtain ⟨k, rfl⟩ : ∃ k, n = m + k := ⟨n - m, by omega⟩
    rw [pw_add]
    have := pw_pos k
    have hm := pw_pos m
    have := Int.mul_le_mul_of_nonneg_left (show (1 : Int) ≤ pw k by omega) (Int.le_of_lt hm)
    rw [Int.mul_one] at this
    exact this
  obtain ⟨h2, h3⟩ := h
  constructor <;> omega
theorem fit_one {x : Int} (h : IsS x) : Fit 1 x := by
  unfold IsS at h
  unfold Fit
  rw [show pw 1 = 18446744073709551616 from rfl]
  constructor <;> omega
theorem pw_half (n : Nat) : pw (n + 1) = 2 * (pw n * 9223372036854775808) := by rw [pw_succ, ← Int.mul_assoc, Int.mul_comm 2, Int.mul_assoc]; rfl
theorem top_sign {n : Nat} {x : Int} (h : Fit (n + 1) x) : (lm x n ≥ 9223372036854775808 ↔ x < 0) ∧ (x / pw (n + 1) = if x < 0 then -1 else 0) := by
  obtain ⟨h1, h2⟩ := h
  have hp := pw_pos n
  rw [pw_half] at h1 h2
  have hlo : -9223372036854775808 ≤ x / pw n := by
    rw [Int.le_ediv_iff_mul_le hp]
    have : -9223372036854775808 * pw n = -(pw n * 9223372036854775808) := by grind
    omega
  have hhi : x / pw n < 9223372036854775808 := by
    rw [Int.ediv_lt_iff_lt_mul hp]
    have : 9223372036854775808 * pw n = pw n * 9223372036854775808 := by grind
    omega
  have hneg : x / pw n < 0 ↔ x < 0 := by
    constructor
    · intro h
      exact Int.lt_of_not_ge (fun h0 => by have := Int.ediv_nonneg h0 (Int.le_of_lt hp); omega)
    · intro h; exact Int.ediv_neg_of_neg_of_pos h hp
  constructor
  · unfold lm
    rw [← hneg]
    omega
  · rw [pw_succ, ← ediv_two (Int.le_of_lt hp)]
    by_cases hx : x < 0
    · rw [if_pos hx]; have := hneg.2 hx; omega
    · rw [if_neg hx]; have : ¬ x / pw n < 0 := fun h => hx (hneg.1 h); omega
theorem fill_lm {m : Nat} {x : Int} (h : Fit (m + 1) x) {i : Nat} (hi : m + 1 ≤ i) : lm x i = maskI (decide (x < 0)) := by
  obtain ⟨k, rfl⟩ : ∃ k, i = (m + 1) + k := ⟨i - (m + 1), by omega⟩
  unfold lm
  rw [pw_add, ← ediv_two (Int.le_of_lt (pw_pos _)), (top_sign h).2]
  have hp := pw_pos k
  by_cases hx : x < 0
  · rw [if_pos hx, decide_eq_true hx, maskI_true, Int.ediv_eq_neg_one_of_neg_of_le (by omega) (by omega)]
    rfl
  · rw [if_neg hx, decide_eq_false hx, maskI_false, Int.zero_ediv]
    rfl
theorem fill_num {m : Nat} {x : Int} (h : Fit (m + 1) x) : maskI (lm x m / 9223372036854775808 % 2 == 1) = maskI (decide (x < 0)) := by
  congr 1
  have h1 := (top_sign h).1
  have h2 := lm_isU x m
  unfold IsU at h2
  rw [Bool.eq_iff_iff, beq_iff_eq, decide_eq_true_iff, ← h1]
  omega
def cya (x y : Int) (i : Nat) : Int := (x % pw i + y % pw i) / pw i
theorem cya_zero (x y : Int) : cya x y 0 = 0 := by simp [cya, pw_zero]
theorem cya_ok (x y : Int) (i : Nat) : 0 ≤ cya x y i ∧ cya x y i ≤ 1 := by
  have hp := pw_pos i
  have h1 := Int.emod_nonneg x (Int.ne_of_gt hp)
  have h2 := Int.emod_nonneg y (Int.ne_of_gt hp)
  have h3 := Int.emod_lt_of_pos x hp
  have h4 := Int.emod_lt_of_pos y hp
  unfold cya
  constructor
  · exact Int.ediv_nonneg (by omega) (by omega)
  · have : (x % pw i + y % pw i) / pw i < 2 := (Int.ediv_lt_iff_lt_mul hp).2 (by omega)
    omega
theorem divmod_add {x y P : Int} (hP : 0 < P) : (x + y) / P = x / P + y / P + (x % P + y % P) / P := by
  have h1 : x + y = (x % P + y % P) + (x / P + y / P) * P := by
    have a := Int.mul_ediv_add_emod x P
    have b := Int.mul_ediv_add_emod y P
    grind
  rw [h1, Int.add_mul_ediv_right _ _ (Int.ne_of_gt hP)]
  omega
theorem mod_mul {x P W : Int} (hP : 0 < P) : x % (P * W) = x % P + P * (x / P % W) := by
  rw [Int.emod_def x (P * W), Int.emod_def (x / P) W, Int.emod_def x P, ediv_two (Int.le_of_lt hP)]
  grind
theorem cya_succ (x y : Int) (i : Nat) : cya x y (i + 1) = (lm x i + lm y i + cya x y i) / 18446744073709551616 := by
  have hP := pw_pos i
  unfold cya lm
  rw [pw_succ, mod_mul hP, mod_mul hP, ← ediv_two (Int.le_of_lt hP)]
  congr 1
  have : x % pw i + pw i * (x / pw i % 18446744073709551616) + (y % pw i + pw i * (y / pw i % 18446744073709551616)) = (x % pw i + y % pw i) + (x / pw i % 18446744073709551616 + y / pw i % 18446744073709551616) * pw i := by grind
  rw [this, Int.add_mul_ediv_right _ _ (Int.ne_of_gt hP)]
  omega
theorem add_lm (x y : Int) (i : Nat) : (lm x i + lm y i + cya x y i) % 18446744073709551616 = lm (x + y) i := by
  have h := divmod_add (x := x) (y := y) (pw_pos i)
  unfold cya lm
  omega
def cys (x y : Int) (i : Nat) : Int := - ((x % pw i - y % pw i) / pw i)
theorem cys_zero (x y : Int) : cys x y 0 = 0 := by simp [cys, pw_zero]
theorem cys_ok (x y : Int) (i : Nat) : 0 ≤ cys x y i ∧ cys x y i ≤ 1 := by
  have hp := pw_pos i
  have h1 := Int.emod_nonneg x (Int.ne_of_gt hp)
  have h2 := Int.emod_nonneg y (Int.ne_of_gt hp)
  have h3 := Int.emod_lt_of_pos x hp
  have h4 := Int.emod_lt_of_pos y hp
  unfold cys
  have a : (x % pw i - y % pw i) / pw i < 1 := (Int.ediv_lt_iff_lt_mul hp).2 (by omega)
  have b : -1 ≤ (x % pw i - y % pw i) / pw i := (Int.le_ediv_iff_mul_le hp).2 (by omega)
  omega
theorem divmod_sub {x y P : Int} (hP : 0 < P) : (x - y) / P = x / P - y / P + (x % P - y % P) / P := by
  have h1 : x - y = (x % P - y % P) + (x / P - y / P) * P := by
    have a := Int.mul_ediv_add_emod x P
    have b := Int.mul_ediv_add_emod y P
    grind
  rw [h1, Int.add_mul_ediv_right _ _ (Int.ne_of_gt hP)]
  omega
def borI (x y b : Int) : Int := if x < y + b then 1 else 0
theorem borI_div {x y b : Int} (hx : IsU x) (hy : IsU y) (hb : 0 ≤ b ∧ b ≤ 1) : borI x y b = - ((x - y - b) / 18446744073709551616) := by
  unfold IsU at hx hy
  unfold borI
  split <;> omega
theorem cys_succ (x y : Int) (i : Nat) : cys x y (i + 1) = borI (lm x i) (lm y i) (cys x y i) := by
  rw [borI_div (lm_isU x i) (lm_isU y i) (cys_ok x y i)]
  have hP := pw_pos i
  unfold cys lm
  rw [pw_succ, mod_mul hP, mod_mul hP, ← ediv_two (Int.le_of_lt hP)]
  congr 2
  have : x % pw i + pw i * (x / pw i % 18446744073709551616) - (y % pw i + pw i * (y / pw i % 18446744073709551616)) = (x % pw i - y % pw i) + (x / pw i % 18446744073709551616 - y / pw i % 18446744073709551616) * pw i := by grind
  rw [this, Int.add_mul_ediv_right _ _ (Int.ne_of_gt hP)]
  omega
theorem sub_lm (x y : Int) (i : Nat) : (lm x i - lm y i - cys x y i) % 18446744073709551616 = lm (x - y) i := by
  have h := divmod_sub (x := x) (y := y) (pw_pos i)
  unfold cys lm
  omega
def natv : List Int → Int
  | [] => 0
  | u :: l => u + 18446744073709551616 * natv l
theorem natv_set (l : List Int) : ∀ (i : Nat) (u v : Int), l[i]? = some u → natv (l.set i v) = natv l + (v - u) * pw i := by
  induction l with
  | nil => intro i u v h; simp at h
  | cons w l ih =>
    intro i u v h
    cases i with
    | zero => simp at h; subst h; simp [natv, pw_zero]; omega
    | succ i =>
      have h' : l[i]? = some u := by simpa using h
      simp only [List.set_cons_succ, natv, ih i u v h', pw_succ]
      grind
theorem natv_zeros (n : Nat) : natv (List.replicate n 0) = 0 := by
  induction n with
  | zero => rfl
  | succ n ih => simp [List.replicate_succ, natv, ih]
theorem natv_limbs (n : Nat) : ∀ (l : List Int) (z q : Int), l.length = n → (∀ u ∈ l, IsU u) → natv l = z + q * pw n → l = limbs n z := by
  induction n with
  | zero => intro l z q hl _ _; exact List.eq_nil_of_length_eq_zero hl
  | succ n ih =>
    intro l z q hl hu h
    cases l with
    | nil => simp at hl
    | cons u l =>
      have hu0 := hu u List.mem_cons_self
      unfold IsU at hu0
      simp only [natv, pw_succ] at h
      have hz : z = u + (natv l - q * pw n) * 18446744073709551616 := by grind
      have h1 : z % 18446744073709551616 = u := by rw [hz, Int.add_mul_emod_self_right]; omega
      have h2 : z / 18446744073709551616 = natv l - q * pw n := by rw [hz, Int.add_mul_ediv_right _ _ (by decide)]; omega
      show u :: l = (z % 18446744073709551616) :: limbs n (z / 18446744073709551616)
      rw [h1, h2, ← ih l (natv l - q * pw n) q (by simpa using hl) (fun v hv => hu v (List.mem_cons_of_mem _ hv)) (by omega)]
def MulInv (x y : Int) (n i j : Nat) (out : List Int) (carry : Int) : Prop :=
  out.length = n ∧ (∀ u ∈ out, IsU u) ∧ IsU carry ∧ ∃ q, natv out + carry * pw (i + j) = (x % pw i) * y + lm x i * pw i * (y % pw j) + q * pw n
theorem mulInv_start (x y : Int) (n : Nat) : MulInv x y n 0 0 (List.replicate n 0) 0 := by
  refine ⟨by simp, fun u hu => ?_, by unfold IsU; omega, 0, ?_⟩
  · rw [List.mem_replicate] at hu; rw [hu.2]; unfold IsU; omega
  · rw [natv_zeros, pw_zero, Int.emod_one, Int.emod_one]; simp
theorem mulInv_step {x y : Int} {n i j : Nat} {out : List Int} {carry o hi lo : Int} (h : MulInv x y n i j out carry) (ho : out[i + j]? = some o) (hlo : IsU lo) (hhi : IsU hi) (he : hi * 18446744073709551616 + lo = lm x i * lm y j + o + carry) :
    MulInv x y n i (j + 1) (out.set (i + j) lo) hi := by
  obtain ⟨h1, h2, h3, q, h4⟩ := h
  refine ⟨by rw [List.length_set, h1], fun u hu => ?_, hhi, q, ?_⟩
  · rcases List.mem_or_eq_of_mem_set hu with h | h
    · exact h2 u h
    · rw [h]; exact hlo
  · rw [natv_set out _ o lo ho, pw_succ j, mod_mul (pw_pos j), ← Nat.add_assoc, pw_succ (i + j)]
    show _ = _ + lm x i * pw i * (y % pw j + pw j * lm y j) + _
    rw [pw_add] at h4 ⊢
    grind
theorem mulInv_row {x y : Int} {n i j : Nat} {out : List Int} {carry : Int} (h : MulInv x y n i j out carry) (hij : i + j = n) : MulInv x y n (i + 1) 0 out 0 := by
  obtain ⟨h1, h2, h3, q, h4⟩ := h
  refine ⟨h1, h2, by unfold IsU; omega, q - carry - lm x i * (y / pw j), ?_⟩
  rw [pw_succ i, mod_mul (pw_pos i), pw_zero, Int.emod_one]
  show _ = (x % pw i + pw i * lm x i) * y + _ + _
  have hy := Int.mul_ediv_add_emod y (pw j)
  rw [hij] at h4
  have hn : pw n = pw i * pw j := by rw [← hij, pw_add]
  rw [hn] at h4 ⊢
  have e : y % pw j = y - pw j * (y / pw j) := by omega
  rw [e] at h4
  grind
theorem mulInv_end {x y : Int} {n j : Nat} {out : List Int} (h : MulInv x y n n 0 out 0) : out = limbs n (x * y) := by
  obtain ⟨h1, h2, h3, q, h4⟩ := h
  refine natv_limbs n out _ (q - (x / pw n) * y) h1 h2 ?_
  rw [pw_zero, Int.emod_one] at h4
  have hx := Int.mul_ediv_add_emod x (pw n)
  have e : x % pw n = x - pw n * (x / pw n) := by omega
  rw [e] at h4
  grind
theorem zero_all {n : Nat} {x : Int} (h : Fit (n + 1) x) (h0 : ∀ i, i < n + 1 → lm x i = 0) : x = 0 := by
  have : ∀ k, k ≤ n + 1 → x % pw k = 0 := by
    intro k
    induction k with
    | zero => intro _; rw [pw_zero, Int.emod_one]
    | succ k ih =>
      intro hk
      rw [pw_succ, mod_mul (pw_pos k), ih (by omega)]
      have := h0 k (by omega)
      unfold lm at this
      rw [this]
      simp
  have h1 := this (n + 1) (Nat.le_refl _)
  have h2 := (top_sign h).2
  have h3 := Int.mul_ediv_add_emod x (pw (n + 1))
  rw [h1, h2] at h3
  obtain ⟨h4, h5⟩ := h
  have hp := pw_pos (n + 1)
  split at h3 <;> omega
def sgnI (x : Int) : Int := if x < 0 then -1 else if x = 0 then 0 else 1
end Go.Proofs.YtmoajobnhiopiaaGreatDoor.lm
namespace Go.Proofs.YtmoajobnhiopiaaGreatDoor.mk
open Go Go.RowKit
theorem ret_u64 {a b : Int} (h : a = b) : Ending.returned (.int .u64 a) = .returned (.int .u64 b) := by rw [h]
theorem of_calls (a : Int) (ha : IsU a) (w : World) : Calls Tryz.prog 49 #[.int .u64 a] w fun e w' => e = .returned (.int .u64 (maskI (a % 2 == 1))) ∧ w' = w := by
  go_enter Tryz.func49, Tryz.ntmps49
  go_wp2
  go_ret
  exact ⟨ret_u64 (of_num ha), rfl⟩
theorem bit_calls (a : Int) (ha : IsU a) (w : World) : Calls Tryz.prog 124 #[.int .u64 a] w fun e w' => e = .returned (.int .u64 (a % 2)) ∧ w' = w := by
  go_enter Tryz.func124, Tryz.ntmps124
  go_wp2
  go_ret
  exact ⟨ret_u64 (bit_num ha), rfl⟩
theorem select_calls (m a b : Int) (w : World) : Calls Tryz.prog 78 #[.int .u64 m, .int .u64 a, .int .u64 b] w fun e w' => e = .returned (.int .u64 (selI m a b)) ∧ w' = w := by
  go_enter Tryz.func78, Tryz.ntmps78
  go_wp2
  go_ret
  exact ⟨ret_u64 (sel_num m a b), rfl⟩
theorem swap_calls (m a b : Int) (w : World) : Calls Tryz.prog 163 #[.int .u64 m, .int .u64 a, .int .u64 b] w fun e w' => e = .returned (.tuple #[.int .u64 (selI m b a), .int .u64 (selI m a b)]) ∧ w' = w := by
  go_enter Tryz.func163, Tryz.ntmps163
  go_wp2
  go_ret2
  refine ⟨?_, rfl⟩
  rw [← sel_num m a b, ← swp_num m a b]
  rfl
theorem zero_calls (a : Int) (ha : IsU a) (w : World) : Calls Tryz.prog 43 #[.int .u64 a] w fun e w' => e = .returned (.int .u64 (maskI (a == 0))) ∧ w' = w := by
  go_enter Tryz.func43, Tryz.ntmps43
  go_wp2
  go_ret
  exact ⟨ret_u64 (zero_num ha), rfl⟩
theorem equal_calls (a b : Int) (ha : IsU a) (hb : IsU b) (w : World) : Calls Tryz.prog 46 #[.int .u64 a, .int .u64 b] w fun e w' => e = .returned (.int .u64 (maskI (a == b))) ∧ w' = w := by
  have hx := bits_isU .xor (.inr (.inr rfl)) a b
  go_enter Tryz.func46, Tryz.ntmps46
  go_wp2_with (go_at_call 43; refine (zero_calls _ hx _).mono ?_; rintro e w' ⟨rfl, rfl⟩)
  go_ret
  exact ⟨ret_u64 (by rw [xor_num_zero ha hb]), rfl⟩
theorem less_calls (a b : Int) (ha : IsU a) (hb : IsU b) (w : World) : Calls Tryz.prog 167 #[.int .u64 a, .int .u64 b] w fun e w' => e = .returned (.int .u64 (maskI (decide (a < b)))) ∧ w' = w := by
  go_enter Tryz.func167, Tryz.ntmps167
  go_wp2
  go_ret
  exact ⟨ret_u64 (less_num ha hb), rfl⟩
theorem negative_calls (a : Int) (ha : IsS a) (w : World) : Calls Tryz.prog 50 #[.int .i64 a] w fun e w' => e = .returned (.int .u64 (maskI (decide (a < 0)))) ∧ w' = w := by
  go_enter Tryz.func50, Tryz.ntmps50
  go_wp2
  go_ret
  exact ⟨ret_u64 (neg_num ha), rfl⟩
theorem sign_calls (n z : Int) (hn : IsU n) (hz : IsU z) (w : World) (hw : w.cell? ⟨0, 1, none⟩ = some (.int .u64 18446744073709551615)) : Calls Tryz.prog 51 #[.int .u64 n, .int .u64 z] w fun e w' => e = .returned (.int .i64 (signI n z)) ∧ ∃ n, w' = w.drewN n := by
  go_enter Tryz.func51, Tryz.ntmps51
  go_wp2_with fail
  go_quiet ((first | (go_at_call 78; exact Calls.quiet_of_same (select_calls _ _ _ _)) | (go_at_call_of 49 (Value.int IntKind.u64 n); exact Calls.quiet_of_same (of_calls n hn _)) | (go_at_call 49; exact Calls.quiet_of_same (of_calls z hz _))))
  go_wp2
  go_ret
  exact ⟨congrArg (fun k => Ending.returned (.int .i64 k)) (sign_num n z), _, rfl⟩
end Go.Proofs.YtmoajobnhiopiaaGreatDoor.mk
namespace Go.Proofs.YtmoajobnhiopiaaGreatDoor.tp
open Go Go.RowKit Go.Maps
structure Keeps (S : Nat → Prop) (w w' : World) : Prop where
  os : w'.os = w.os
  tape : w'.tape = w.tape
  output : w'.output = w.output
  size : w.heap.size ≤ w'.heap.size
  block : ∀ k, k < w.heap.size → ¬ S k → w'.heap[k]? = w.heap[k]?
theorem Keeps.refl (S : Nat → Prop) (w : World) : Keeps S w w := ⟨rfl, rfl, rfl, Nat.le_refl _, fun _ _ _ => rfl⟩
theorem Keeps.mono {S T : Nat → Prop} {w w' : World} (h : Keeps S w w') (hST : ∀ k, k < w.heap.size → S k → T k) : Keeps T w w' :=
  ⟨h.os, h.tape, h.output, h.size, fun k hk hT => h.block k hk (fun hS => hT (hST k hk hS))⟩
theorem Keeps.trans {S T : Nat → Prop} {a b c : World} (h : Keeps S a b) (k : Keeps T b c) (hT : ∀ i, i < a.heap.size → T i → S i) : Keeps S a c :=
  ⟨k.os.trans h.os, k.tape.trans h.tape, k.output.trans h.output, Nat.le_trans h.size k.size,
    fun i hi hS => (k.block i (Nat.lt_of_lt_of_le hi h.size) (fun ht => hS (hT i hi ht))).trans (h.block i hi hS)⟩
theorem Keeps.drewN {S : Nat → Prop} {a w : World} (h : Keeps S a w) (n : Nat) : Keeps S a (w.drewN n) := ⟨h.os, h.tape, h.output, h.size, h.block⟩
theorem Keeps.drew {S : Nat → Prop} {a w : World} (h : Keeps S a w) : Keeps S a w.drew := ⟨h.os, h.tape, h.output, h.size, h.block⟩
theorem Keeps.alloc {S : Nat → Prop} {a w : World} (h : Keeps S a w) (o : Obj) : Keeps S a (w.alloc o) :=
  ⟨h.os, h.tape, h.output, by simp; exact Nat.le_succ_of_le h.size,
    fun k hk hS => (Below.heap_alloc w o k (Nat.lt_of_lt_of_le hk h.size)).trans (h.block k hk hS)⟩
theorem Keeps.setCell {S : Nat → Prop} {a w : World} (h : Keeps S a w) (p : Addr) (hp : p.block < a.heap.size → S p.block) (u : Value) : Keeps S a (w.setCell p u) :=
  ⟨h.os, h.tape, h.output, by simp [World.setCell]; exact h.size,
    fun k hk hS => (Below.heap_setCell w p u k (fun e => hS (e ▸ hp (e ▸ hk)))).trans (h.block k hk hS)⟩
theorem Keeps.grown {S : Nat → Prop} {a w w' : World} {row : Option Nat} (h : Keeps S a w) (hg : w.grownBy w' row) (hr : ∀ k, row = some k → k < a.heap.size → S k) : Keeps S a w' :=
  ⟨hg.os.trans h.os, hg.tape.trans h.tape, hg.output.trans h.output, Nat.le_trans h.size hg.size,
    fun k hk hS => (hg.block k (Nat.lt_of_lt_of_le hk h.size) (fun e => hS (hr k e.symm hk))).trans (h.block k hk hS)⟩
theorem Keeps.below {S : Nat → Prop} {w w' : World} (h : Keeps S w w') {B : Nat} (hB : B ≤ w.heap.size) (hS : ∀ k, k < w.heap.size → S k → B ≤ k) : Below B w w' :=
  ⟨h.os, h.tape, h.output, h.size, fun k hk => h.block k (by omega) (fun e => by have := hS k (by omega) e; omega)⟩
theorem Keeps.of_below {B : Nat} {w w' : World} (h : Below B w w') : Keeps (fun k => B ≤ k) w w' :=
  ⟨h.os, h.tape, h.output, h.size, fun k _ hk => h.block k (by omega)⟩
theorem Keeps.cell {S : Nat → Prop} {w w' : World} (h : Keeps S w w') {p : Addr} (hp : p.block < w.heap.size) (hS : ¬ S p.block) : w'.cell? p = w.cell? p := World.cell?_of_block (w := w) (h.block p.block hp hS)
theorem Keeps.frozen {S : Nat → Prop} {w w' : World} (h : Keeps S w w') {p : Addr} (hp : p.block < w.heap.size) (hS : ¬ S p.block) : w'.frozen? p = w.frozen? p := World.frozen?_of_block (w := w) (h.block p.block hp hS)
abbrev Ev := Int × Int × Int
def wf64 (n : Int) : Bool := (Lit.int .i64 n).wf
def EvOk (e : Ev) : Prop := wf64 e.1 = true ∧ wf64 e.2.1 = true ∧ wf64 e.2.2 = true
def evC (e : Ev) : List Value := [.int .i64 e.1, .int .i64 e.2.1, .int .i64 e.2.2]
def flat (l : List Ev) : List Value := l.flatMap evC
def cntE (l : List Ev) (k : Int) : Nat := (l.filter (fun e => e.1 == k)).length
theorem flat_append (l m : List Ev) : flat (l ++ m) = flat l ++ flat m := by simp [flat]
theorem flat_one (e : Ev) : flat [e] = evC e := by simp [flat]
theorem cntE_snoc (l : List Ev) (e : Ev) (k : Int) : cntE (l ++ [e]) k = if e.1 = k then cntE l k + 1 else cntE l k := by
  unfold cntE
  rw [List.filter_append, List.length_append]
  by_cases h : e.1 = k <;> simp [h]
theorem cntE_le (l : List Ev) (k : Int) : cntE l k ≤ l.length := List.length_filter_le _ _
def cellsAt (w : World) (b off : Nat) (l : List Ev) : Prop :=
  ∀ (i : Nat) (e : Ev), l[i]? = some e → w.cell? ⟨b, off + i * 3, none⟩ = some (.int .i64 e.1) ∧ w.cell? ⟨b, off + i * 3 + 1, none⟩ = some (.int .i64 e.2.1) ∧ w.cell? ⟨b, off + i * 3 + 2, none⟩ = some (.int .i64 e.2.2)
def evAt (w : World) (v : Value) (l : List Ev) : Prop :=
  (l = [] ∧ ∃ ao cap, v = .slice ao 0 cap) ∨ (l ≠ [] ∧ ∃ b off cap, v = .slice (some ⟨b, off, none⟩) l.length cap ∧ b < w.heap.size ∧ cellsAt w b off l)
theorem cellsAt.keep {S : Nat → Prop} {w w' : World} {b off : Nat} {l : List Ev} (h : cellsAt w b off l) (hk : Keeps S w w') (hb : b < w.heap.size) (hS : ¬ S b) : cellsAt w' b off l := by
  intro i e he
  obtain ⟨h1, h2, h3⟩ := h i e he
  exact ⟨(hk.cell (p := ⟨b, _, none⟩) hb hS).trans h1, (hk.cell (p := ⟨b, _, none⟩) hb hS).trans h2, (hk.cell (p := ⟨b, _, none⟩) hb hS).trans h3⟩
theorem evAt.keep {S : Nat → Prop} {w w' : World} {v : Value} {l : List Ev} (h : evAt w v l) (hk : Keeps S w w') (hS : ∀ k, k < w.heap.size → v.ownBlock = some k → ¬ S k) : evAt w' v l := by
  rcases h with h | ⟨hne, b, off, cap, rfl, hb, hc⟩
  · exact .inl h
  · exact .inr ⟨hne, b, off, cap, rfl, Nat.lt_of_lt_of_le hb hk.size, hc.keep hk hb (hS b hb rfl)⟩
theorem evAt.shape {w : World} {v : Value} {l : List Ev} (h : evAt w v l) : ∃ ao cap, v = .slice ao l.length cap := by
  rcases h with ⟨rfl, ao, cap, rfl⟩ | ⟨_, b, off, cap, rfl, _⟩
  · exact ⟨_, _, rfl⟩
  · exact ⟨_, _, rfl⟩
theorem evAt.cap {w : World} {ao : Option Addr} {n c : Nat} {l : List Ev} (h : evAt w (.slice ao n c) l) (c' : Nat) : evAt w (.slice ao n c') l := by
  rcases h with ⟨rfl, ao, cap, e⟩ | ⟨hne, b, off, cap, e, h⟩
  · cases e; exact .inl ⟨rfl, _, _, rfl⟩
  · cases e; exact .inr ⟨hne, b, off, c', rfl, h⟩
theorem evAt.drewN {w : World} {v : Value} {l : List Ev} (h : evAt w v l) (n : Nat) : evAt (w.drewN n) v l := h
theorem evAt.below {B : Nat} {w w' : World} {v : Value} {l : List Ev} (h : evAt w v l) (hk : Below B w w') (hS : ∀ k, v.ownBlock = some k → k < B) : evAt w' v l :=
  h.keep (Keeps.of_below hk) (fun k _ e => by have := hS k e; omega)
def CountsOk (D : DataW Unit) (l : List Ev) : Prop :=
  IsMap D ∧ ∀ k, wf64 k = true → D.atKey (.int .i64 k) (.lit (.int .i64 0)) = .lit (.int .i64 (cntE l k : Nat))
theorem CountsOk.start : CountsOk (.map []) [] := ⟨⟨[], rfl⟩, fun _ _ => rfl⟩
theorem CountsOk.snoc {D : DataW Unit} {l : List Ev} (h : CountsOk D l) (e : Ev) (he : wf64 e.1 = true) {c : Int} (hc : D.atKey (.int .i64 e.1) (.lit (.int .i64 0)) = .lit (.int .i64 c)) :
    CountsOk (D.put (.int .i64 e.1) (.lit (.int .i64 (c + 1)))) (l ++ [e]) ∧ c = (cntE l e.1 : Nat) := by
  have hce : c = (cntE l e.1 : Nat) := by
    have := h.2 e.1 he
    rw [hc] at this
    simpa using this
  refine ⟨⟨?_, fun k hk => ?_⟩, hce⟩
  · obtain ⟨es, rfl⟩ := h.1
    exact ⟨_, rfl⟩
  · rw [cntE_snoc]
    by_cases hek : e.1 = k
    · subst hek
      rw [atKey_put_same h.1 (by simp [WideAt.IsKeyLit]), if_pos rfl, hce]
      rfl
    · rw [atKey_put_other (by intro e'; exact hek (by simpa using e'.symm)), if_neg hek]
      exact h.2 k hk
def tapeAt (w : World) (S : Nat → Prop) (b : Nat) (l : List Ev) : Prop :=
  S b ∧ ∃ v mb D, w.heap[b]? = some (.cells #[v, .map (some mb)] 132 (0, 0)) ∧ w.ownsRow 0 134 3 v l.length (flat l) ∧ (∀ g, v.ownBlock = some g → S g) ∧ S mb ∧
    w.ownsMap Tryz.prog 3 (plainElem Tryz.prog 3) mb l.length D ∧ CountsOk D l
theorem tapeAt.lt {w : World} {S : Nat → Prop} {b : Nat} {l : List Ev} (h : tapeAt w S b l) : b < w.heap.size := by
  obtain ⟨_, v, mb, D, hb, _⟩ := h
  exact (Array.getElem?_eq_some_iff.1 hb).1
theorem tapeAt.mono {w : World} {S T : Nat → Prop} {b : Nat} {l : List Ev} (h : tapeAt w S b l) (hST : ∀ k, k < w.heap.size → S k → T k) : tapeAt w T b l := by
  have hlt := h.lt
  obtain ⟨hS, v, mb, D, hb, hr, hg, hm, ho, hc⟩ := h
  exact ⟨hST b hlt hS, v, mb, D, hb, hr, fun g e => hST g (hr.lt g e).2 (hg g e), hST mb ho.lt hm, ho, hc⟩
theorem tapeAt.keep {w w' : World} {S T : Nat → Prop} {b : Nat} {l : List Ev} (h : tapeAt w S b l) (hk : Keeps T w w') (hST : ∀ k, k < w.heap.size → S k → ¬ T k) : tapeAt w' S b l := by
  have hlt := h.lt
  obtain ⟨hS, v, mb, D, hb, hr, hg, hm, ho, hc⟩ := h
  refine ⟨hS, v, mb, D, (hk.block b hlt (hST b hlt hS)).trans hb, ?_, hg, hm, ?_, hc⟩
  · refine ⟨hr.1, ?_⟩
    rcases hr.2 with hn | ⟨g, cap, cur, rfl, h0, hgg, rest⟩
    · exact .inl hn
    · have hl := (Array.getElem?_eq_some_iff.1 hgg).1
      exact .inr ⟨g, cap, cur, rfl, h0, (hk.block g hl (hST g hl (hg g rfl))).trans hgg, rest⟩
  · have hl := ho.lt
    obtain ⟨es, clock, hmb, rest⟩ := ho
    exact ⟨es, clock, (hk.block mb hl (hST mb hl hm)).trans hmb, rest⟩
theorem tapeAt.drewN {w : World} {S : Nat → Prop} {b : Nat} {l : List Ev} (h : tapeAt w S b l) (n : Nat) : tapeAt (w.drewN n) S b l := h
theorem row_ne {w : World} {base : Nat} {e t : TypeId} {size : Nat} {v : Value} {n : Nat} {xs : List Value} {b : Nat} {cs : Array Value} {fr : Nat × Nat} (h : w.ownsRow base e size v n xs) (hte : t ≠ e) (hb : w.heap[b]? = some (.cells cs t fr)) : v.ownBlock ≠ some b := by
  intro e'
  rcases h.2 with ⟨rfl, _⟩ | ⟨g, cap, cur, rfl, _, hg, _⟩
  · simp [Value.ownBlock] at e'
  · simp [Value.ownBlock] at e'
    subst e'
    rw [hb] at hg
    injection hg with hg
    injection hg with _ ht _
    exact hte ht
theorem row_no_map {w : World} {base : Nat} {e : TypeId} {size : Nat} {v : Value} {n : Nat} {xs : List Value} {b : Nat} {es : Array MapEntry} {c : Nat} (h : w.ownsRow base e size v n xs) (hb : w.heap[b]? = some (.map es c)) : v.ownBlock ≠ some b := by
  intro e'
  rcases h.2 with ⟨rfl, _⟩ | ⟨g, cap, cur, rfl, _, hg, _⟩
  · simp [Value.ownBlock] at e'
  · simp [Value.ownBlock] at e'
    subst e'
    rw [hb] at hg
    injection hg with hg
    cases hg
theorem row_setCell {w : World} {base : Nat} {e : TypeId} {size : Nat} {v : Value} {n : Nat} {xs : List Value} (h : w.ownsRow base e size v n xs) {a : Addr} (ha : v.ownBlock ≠ some a.block) (u : Value) : (w.setCell a u).ownsRow base e size v n xs := by
  refine ⟨h.1, ?_⟩
  rcases h.2 with hn | ⟨g, cap, cur, rfl, h0, hgg, rest⟩
  · exact .inl hn
  · exact .inr ⟨g, cap, cur, rfl, h0, by rw [Below.heap_setCell _ _ _ _ (fun e => ha (by rw [← e]; rfl))]; exact hgg, rest⟩
theorem two_frozen {w : World} {b : Nat} {cs : Array Value} {t : TypeId} (h : w.heap[b]? = some (.cells cs t (0, 0))) (i : Nat) : w.frozen? ⟨b, i, none⟩ = false := by simp [World.frozen?, h]
theorem two_setCell {w : World} {b : Nat} {v m : Value} {t : TypeId} (h : w.heap[b]? = some (.cells #[v, m] t (0, 0))) (u : Value) : (w.setCell ⟨b, 0, none⟩ u).heap[b]? = some (.cells #[u, m] t (0, 0)) := by
  simp [World.setCell, Array.getElem?_modify, h]
theorem wpList_append_mine {P : Program} (w : World) {ops : Array Oper} {rest : List Oper} {o : Oper} {a : Act} {Q : Exit → Act → World → Prop} (hgd : o.guard = none) (s x : Operand) (t : TypeId)
    (ho : o.op = .call { callee := .builtin .append, args := #[s, x], argTypes := #[t, t] })
    (e : TypeId) (i : TypeInfo) (z : Value) (size bytes : Nat) (ht : P.underlying t = some (.slice e)) (hi : P.info? e = some i) (hz : i.zero = some z)
    (hsize : i.size = size) (hby : i.bytes = bytes) (hzs : z.cells.size = size) (hsz : 0 < size)
    (v : Value) (n : Nat) (xs : List Value) (hs : a.eval s = v) (hown : w.ownsRow 0 e size v n xs)
    (ad : Addr) (m c : Nat) (news : List Value) (hx : a.eval x = .slice (some ad) m c) (hl : news.length = m * size) (hnews : ∀ j u, news[j]? = some u → w.cell? (ad.add j) = some u) (h1 : ∀ u ∈ news, u.oneCell' = true)
    (hm : 0 < m) (h63 : n + m ≤ maxLen) (hbytes : (n + m) * bytes ≤ 140737488355328)
    (h : ∀ g' cap' w', w'.ownsRow 0 e size (.slice (some ⟨g', 0, none⟩) (n + m) cap') (n + m) (xs ++ news) → w.grownBy w' v.ownBlock → (v.ownBlock = some g' ∨ w.heap.size ≤ g') → wpList P ops Q rest (a.put o.dst (.slice (some ⟨g', 0, none⟩) (n + m) cap')) w') : wpList P ops Q (o :: rest) a w := by
  have out : ∀ v' w', w'.ownsRow w.heap.size e size v' (n + m) (xs ++ news) → w.grownBy w' none → wpList P ops Q rest (a.put o.dst v') w' := by
    intro v' w' hr hg
    obtain ⟨k, hk⟩ : ∃ k, n + m = k + 1 := ⟨n + m - 1, by omega⟩
    rcases hr.2 with ⟨_, h0⟩ | ⟨g, cap, cur, rfl, hb, hgg, rest⟩
    · omega
    · exact h g cap w' ⟨hr.1, .inr ⟨g, cap, cur, rfl, Nat.zero_le _, hgg, rest⟩⟩ ⟨hg.os, hg.tape, hg.output, hg.size, fun k hk _ => hg.block k hk (by simp)⟩ (.inr hb)
  rcases hown.2 with ⟨rfl, rfl⟩ | ⟨g, cap, cur, rfl, _, hgg, hle, hcm, hcs, htake⟩
  · refine wpList_append_grows w hgd s x t ho e i z size bytes ht hi hz hsize hby hzs hsz none 0 0 xs hs (fun _ => ⟨rfl, rfl⟩) hown.1 (fun b hb => by cases hb) ad m c news hx hl hnews h1 (by omega) h63 hbytes out
  · by_cases hroom : n + m ≤ cap
    · exact wpList_append_fits w hgd s x t ho 0 e i size ht hi hsize g n cap xs hs hown ad m c news hx hl hnews h1 hroom (fun w' hr hg => h g cap w' hr hg (.inl rfl))
    · refine wpList_append_grows w hgd s x t ho e i z size bytes ht hi hz hsize hby hzs hsz (some ⟨g, 0, none⟩) n cap xs hs (fun h0 => by cases h0) hown.1 (fun b hb j u hu => by cases hb; exact hown.cells (g := g) rfl j u hu) ad m c news hx hl hnews h1 (by omega) h63 hbytes out
end Go.Proofs.YtmoajobnhiopiaaGreatDoor.tp
namespace Go.Proofs.YtmoajobnhiopiaaGreatDoor.rg
open Go Go.RowKit Go.Shelf
def Two (w W W' : World) : Prop := W'.heap[w.heap.size]? = W.heap[w.heap.size]? ∧ W'.heap[w.heap.size + 1]? = W.heap[w.heap.size + 1]?
theorem Two.refl (w W : World) : Two w W W := ⟨rfl, rfl⟩
theorem Two.trans {w A B C : World} (h : Two w A B) (k : Two w B C) : Two w A C := ⟨k.1.trans h.1, k.2.trans h.2⟩
def GoesOn (w : World) (I : Nat → World → Prop) (k : Nat) (W : World) : Exit → Act → World → Prop
  | .normal, _, W' => Two w W W' ∧ I (k + 1) W'
  | _, _, _ => False
end Go.Proofs.YtmoajobnhiopiaaGreatDoor.rg
namespace Go.Proofs.YtmoajobnhiopiaaGreatDoor.rg
open Go Go.RowKit Go.Shelf
def noDefer (ops : Array Oper) : Bool := ops.toList.all fun o => match o.op with | .defer _ => false | _ => true
theorem noDefer_spec {ops : Array Oper} (h : noDefer ops = true) {i : Nat} {o : Oper} (ho : ops[i]? = some o) : ∀ c, o.op ≠ .defer c := by
  intro c hc
  have hm : o ∈ ops.toList := by simpa using Array.mem_of_getElem? ho
  have := List.all_eq_true.1 h o hm
  rw [hc] at this
  cases this
section
variable {P : Program} {n L : Nat} {ops : Array Oper} {Q : Exit → Act → World → Prop}
theorem rowsIn_of {row : String} {args : Array Value} {w : World} {R : Value → World → Prop} (h : Rows P row args w R) : RowsIn (Fence.wide.inRound L) n P row args w R :=
  fun c cs _ => let ⟨v, w', r, s⟩ := h c cs; ⟨v, w', r, stepsIn_wide.2 s⟩
theorem uponIn_of {o : Oper} {a : Act} {next : Act → World → Prop} {r : Result Next} (h : o.upon P a next Q r) : o.uponIn (Fence.wide.inRound L) n P a next Q r := by
  unfold Oper.upon at h
  unfold Oper.uponIn
  split at h
  · exact h
  · exact h
  · exact h
  · exact ⟨fun h => (by cases h), CallsIn.inRound L (callsIn_wide.2 h)⟩
  · exact ⟨fun h => (by cases h), rowsIn_of h⟩
  · exact h
  · exact h.elim
theorem opIn_of {i : Nat} {K K' : Act → World → Prop} {a : Act} {w : World} (hn : noDefer ops = true) (hQ : ¬ LetsOut Q) (hK : ∀ a w, K a w → K' a w) (h : wpOp P ops Q i K a w) : wpOpIn (Fence.wide.inRound L) n P ops Q i K' a w := by
  have h' := wpOp_mono hK h
  unfold wpOp at h'
  unfold wpOpIn
  cases ho : ops[i]? with
  | none => rw [ho] at h'; exact h'
  | some o =>
    rw [ho] at h'
    simp only at h' ⊢
    by_cases hw : Region.wanted o (yielded ops a.tmps) = true
    · rw [if_pos hw] at h' ⊢
      rcases h' with h' | ⟨_, h'⟩
      · unfold Oper.wp at h'
        unfold Oper.wpIn
        rw [Oper.semAt_eq _ _ _ (noDefer_spec hn ho)]
        exact ⟨fun _ _ => trivial, uponIn_of h'⟩
      · exact absurd h' hQ
    · rw [if_neg hw] at h' ⊢
      exact ⟨fun _ _ => trivial, h'⟩
theorem anyIn_of {md : Region.Mode} (hn : noDefer ops = true) (hQ : ¬ LetsOut Q) : ∀ (g : Nat) (listed : Array Bool) (a : Act) (w : World), wpAny P md ops Q g listed a w → wpAnyIn (Fence.wide.inRound L) n P md ops Q g listed a w
  | 0, _, _, _, h => h
  | g + 1, _, _, _, h => ⟨h.1, fun i hi => opIn_of hn hQ (fun a w h => anyIn_of hn hQ g _ a w h) (h.2 i hi)⟩
end
theorem round_still_tail {P : Program} {n L : Nat} {id : Nat} {Q : Exit → Act → World → Prop} {a : Act} {w : World} {l : List Oper} (m : Nat) (hm : P.follows .mixedOrders = true) (hB : Region.lexTailB .any l.toArray m = true) (hn : noDefer l.toArray = true) (hQ : ¬ LetsOut Q)
    (h : wpStill P l.toArray w.drew (fun a' => wpList P l.toArray Q (l.drop m) a' w.drew) (l.take m) a) : (Code.region id l.toArray true).wpIn (Fence.wide.inRound L) n P Q a w := by
  simp only [Region.lexTailB, Bool.and_eq_true, decide_eq_true_eq] at hB
  obtain ⟨⟨⟨⟨hsel, hlt⟩, hs⟩, hc⟩, hlex⟩ := hB
  have hm' : m < l.length := by simpa using hlt
  have htl : (l.take m).length = m := by rw [List.length_take]; omega
  have hdl : (l.drop m).length = l.toArray.size - m := by simp
  have H := wpAnyL_lex (P := P) (ops := l.toArray) (md := .any) (n := m) (g := l.toArray.size - m) hsel hs hc hlt (l.take m) 0 _ a
    (fun j hj => by rw [htl] at hj; rw [List.getElem?_take, if_pos hj, Nat.zero_add]; simp) (by rw [htl]; omega)
    ⟨by rw [Array.size_replicate], fun j oj _ hl => (by rw [getD_replicate_false] at hl; cases hl), fun t _ ht => getD_in (by simpa using ht) (getD_replicate_false _ _)⟩ (by rw [htl]; exact hlex) h
  have G := wpAny_of_head (Q' := Q) (g := l.toArray.size - m) (fun listed a' hL => by
    have := wpAny_of_seq (md := .any) (Q' := Q) (l.drop m) m listed a' { w with drawn := w.drawn + 1 } (fun j => by simp [List.getElem?_drop]) (by rw [hdl]; exact hL.1) hL.2
    rwa [hdl] at this) _ _ _ H
  rw [htl, show m + (l.toArray.size - m) = l.toArray.size by omega] at G
  exact wpIn_region_any hm (anyIn_of hn hQ _ _ _ _ G)
end Go.Proofs.YtmoajobnhiopiaaGreatDoor.rg
set_option linter.unusedSimpArgs false
set_option linter.unusedVariables false
namespace Go.Proofs.YtmoajobnhiopiaaGreatDoor.rg
open Go Go.RowKit Go.Shelf
def early (late : List Nat) (listed : Array Bool) : Bool := late.all fun j => !listed.getD j true
def reach (md : Region.Mode) (ops : Array Oper) (i : Nat) : Nat → Nat → Bool
  | 0, _ => false
  | f + 1, j => match ops[j]? with
    | none => false
    | some o => o.after.any fun e => Region.binds md e && (e.on == i || reach md ops i f e.on)
def waits (md : Region.Mode) (ops : Array Oper) (late : List Nat) (i : Nat) : Bool := late.all fun j => reach md ops i ops.size j
def closed (md : Region.Mode) (ops : Array Oper) (listed : Array Bool) : Bool := (List.range ops.size).all fun j => !listed.getD j true || match ops[j]? with
  | none => true
  | some o => o.after.all fun e => !Region.binds md e || listed.getD e.on false
theorem closed_spec {md : Region.Mode} {ops : Array Oper} {listed : Array Bool} (h : closed md ops listed = true) {j : Nat} {o : Oper} (ho : ops[j]? = some o) (hl : listed.getD j true = true) : ∀ e ∈ o.after, Region.binds md e = true → listed.getD e.on false = true := by
  have hlt : j < ops.size := (Array.getElem?_eq_some_iff.1 ho).1
  have := List.all_eq_true.1 h j (by rw [List.mem_range]; exact hlt)
  rw [hl, ho] at this
  simp only [Bool.not_true, Bool.false_or, Array.all_eq_true_iff_forall_mem] at this
  intro e he hb
  have h1 := this e he
  rw [hb] at h1
  simpa using h1
theorem closed_set {md : Region.Mode} {ops : Array Oper} {listed : Array Bool} (h : closed md ops listed = true) {j : Nat} (hj : j ∈ Region.ready md ops listed) : closed md ops (listed.setIfInBounds j true) = true := by
  obtain ⟨hjun, oj, hoj, hall⟩ := mem_ready.1 hj
  have mono : ∀ k, listed.getD k false = true → (listed.setIfInBounds j true).getD k false = true := by
    intro k hk
    by_cases hjk : j = k
    · subst hjk
      rcases Nat.lt_or_ge j listed.size with h' | h'
      · simp [h']
      · simp [Array.getElem?_eq_none h'] at hk
    · rw [getD_set_ne false hjk]; exact hk
  unfold closed
  rw [List.all_eq_true]
  intro k hk
  rw [List.mem_range] at hk
  rw [Bool.or_eq_true]
  by_cases hkl : (listed.setIfInBounds j true).getD k true = true
  · right
    cases ho : ops[k]? with
    | none => rfl
    | some o =>
      simp only [Array.all_eq_true_iff_forall_mem]
      intro e he
      rw [Bool.or_eq_true]
      by_cases hb : Region.binds md e = true
      · right
        by_cases hjk : j = k
        · subst hjk
          rw [hoj] at ho
          cases ho
          exact mono _ (hall e he hb)
        · rw [getD_set_ne true hjk] at hkl
          exact mono _ (closed_spec h ho hkl e he hb)
      · left; simpa using hb
  · left; simpa using hkl
theorem reach_not {md : Region.Mode} {ops : Array Oper} {listed : Array Bool} (h : closed md ops listed = true) {i : Nat} (hi : listed.getD i false = false) : ∀ (f j : Nat) (o : Oper), ops[j]? = some o → reach md ops i f j = true → ¬ ∀ e ∈ o.after, Region.binds md e = true → listed.getD e.on false = true
  | 0, _, _, _, hr, _ => by cases hr
  | f + 1, j, o, ho, hr, hall => by
    unfold reach at hr
    rw [ho] at hr
    simp only [Array.any_eq_true', Bool.and_eq_true, Bool.or_eq_true, beq_iff_eq] at hr
    obtain ⟨e, he, hb, hon⟩ := hr
    have hl := hall e he hb
    rcases hon with hon | hon
    · rw [hon, hi] at hl; cases hl
    · cases ho2 : ops[e.on]? with
      | none =>
        cases f with
        | zero => cases hon
        | succ f => unfold reach at hon; rw [ho2] at hon; cases hon
      | some o2 =>
        refine reach_not h hi f e.on o2 ho2 hon ?_
        have hl' : listed.getD e.on true = true := by
          rcases Nat.lt_or_ge e.on listed.size with h' | h'
          · simpa [h'] using hl
          · simp [Array.getElem?_eq_none h']
        exact closed_spec h ho2 hl'
section
variable {P : Program} {ops : Array Oper} {Q : Exit → Act → World → Prop} {md : Region.Mode} {S : World → Prop} {late : List Nat}
def wpAnyL (P : Program) (md : Region.Mode) (ops : Array Oper) (Q : Exit → Act → World → Prop) (S : World → Prop) (late : List Nat) : Nat → Array Bool → Act → World → Prop
  | 0, listed, a, w => Region.ready md ops listed = [] ∧ Q .normal a w
  | fuel + 1, listed, a, w =>
    (Region.ready md ops listed = [] → Q .normal a w) ∧
    ∀ i ∈ Region.ready md ops listed, wpOp P ops Q i (fun a' w' => (early late (listed.setIfInBounds i true) = true → S w') ∧ wpAnyL P md ops Q S late fuel (listed.setIfInBounds i true) a' w') a w
theorem wpAny_of_late : ∀ (fuel : Nat) (listed : Array Bool) (a : Act) (w : World), wpAnyL P md ops Q S late fuel listed a w → wpAny P md ops Q fuel listed a w
  | 0, _, _, _, h => h
  | fuel + 1, _, _, _, h => ⟨h.1, fun i hi => wpOp_mono (fun a' w' h' => wpAny_of_late fuel _ a' w' h'.2) (h.2 i hi)⟩
theorem early_set {listed : Array Bool} {i : Nat} (hi : i ∉ late) : early late (listed.setIfInBounds i true) = early late listed := by
  have : ∀ j ∈ late, (listed.setIfInBounds i true).getD j true = listed.getD j true := fun j hj => getD_set_ne true (fun h => hi (h ▸ hj))
  unfold early
  rw [Bool.eq_iff_iff, List.all_eq_true, List.all_eq_true]
  exact ⟨fun h j hj => by rw [← this j hj]; exact h j hj, fun h j hj => by rw [this j hj]; exact h j hj⟩
theorem wpAnyL_first {i : Nat} {oi : Oper} {v : Value} (hi : ops[i]? = some oi) (hsel : ∀ (j : Nat) (o : Oper) cs b, ops[j]? = some o → o.op ≠ .select cs b)
    (hQ : ∀ c a w, Q (.panic c) (a.put oi.dst v) w → Q (.panic c) a w) (T : World → Prop) (hil : i ∉ late) :
    ∀ (fuel : Nat) (listed : Array Bool) (a : Act) (w : World),
      (∀ j oj, ops[j]? = some oj → j ≠ i → listed.getD j true = false → (∀ e ∈ oj.after, Region.binds md e = true → e.on ≠ i) → oi.apart ops oj = true) →
      i ∈ Region.ready md ops listed → YieldsIf P ops T oi v a → T w → (early late listed = true → S w) →
      ((∀ w, T w) ∨ (T = S ∧ waits md ops late i = true ∧ early late listed = true ∧ closed md ops listed = true)) →
      wpAnyL P md ops Q S late fuel (listed.setIfInBounds i true) (a.put oi.dst v) w → wpAnyL P md ops Q S late (fuel + 1) listed a w := by
  intro fuel
  induction fuel with
  | zero =>
    intro listed a w _ hr hy hT hS _ H
    refine ⟨fun h => (by rw [h] at hr; cases hr), fun j hj => ?_⟩
    by_cases hji : j = i
    · subst hji; exact hy.wpOp hi hT ⟨fun h => hS (by rwa [early_set hil] at h), H⟩
    · have := ready_mono hj hji
      rw [H.1] at this
      cases this
  | succ fuel ih =>
    intro listed a w hfree hr hy hT hS hcase H
    refine ⟨fun h => (by rw [h] at hr; cases hr), fun j hj => ?_⟩
    by_cases hji : j = i
    · subst hji; exact hy.wpOp hi hT ⟨fun h => hS (by rwa [early_set hil] at h), H⟩
    · have h1 := H.2 j (ready_mono hj hji)
      obtain ⟨hjun, oj, hoj, hall⟩ := mem_ready.1 hj
      have hnot : ∀ e ∈ oj.after, Region.binds md e = true → e.on ≠ i := fun e he hb heq => by
        have h1 := hall e he hb
        have h0 := (mem_ready.1 hr).1
        rw [heq] at h1
        rcases Nat.lt_or_ge i listed.size with h' | h'
        · simp [h'] at h0 h1; rw [h0] at h1; cases h1
        · simp [Array.getElem?_eq_none h'] at h1
      have h2 := wpOp_putIf hoj (hfree j oj hoj hji hjun hnot) (fun cs b => hsel i oi cs b hi) (fun cs b => hsel j oj cs b hoj) hQ hy h1
      have hfree' : ∀ k ok, ops[k]? = some ok → k ≠ i → (listed.setIfInBounds j true).getD k true = false →
          (∀ e ∈ ok.after, Region.binds md e = true → e.on ≠ i) → oi.apart ops ok = true := fun k ok hk hki hun hno => by
        refine hfree k ok hk hki ?_ hno
        by_cases hjk : j = k
        · subst hjk; exact hjun
        · rw [getD_set_ne true hjk] at hun; exact hun
      have hcomm : early late ((listed.setIfInBounds i true).setIfInBounds j true) = early late (listed.setIfInBounds j true) := by
        rw [Array.setIfInBounds_comm _ _ (fun h => hji h.symm), early_set hil]
      have hcase' : (∀ w, T w) ∨ (T = S ∧ waits md ops late i = true ∧ early late (listed.setIfInBounds j true) = true ∧ closed md ops (listed.setIfInBounds j true) = true) := by
        rcases hcase with h | ⟨h1, h2, h3, h4⟩
        · exact .inl h
        · refine .inr ⟨h1, h2, ?_, closed_set h4 hj⟩
          rw [early_set (fun hjl => ?_)]
          · exact h3
          · have h0 := (mem_ready.1 hr).1
            have h0' : listed.getD i false = false := by
              rcases Nat.lt_or_ge i listed.size with h' | h'
              · simpa [h'] using h0
              · simp [Array.getElem?_eq_none h']
            exact reach_not h4 h0' _ j oj hoj (List.all_eq_true.1 h2 j hjl) hall
      refine wpOp_mono (fun a' w' h3 => ⟨fun he => h3.2.1 (by rw [hcomm]; exact he), ih (listed.setIfInBounds j true) a' w' hfree' (ready_mono hr (Ne.symm hji)) h3.1 ?_ (fun he => h3.2.1 (by rw [hcomm]; exact he)) hcase' ?_⟩) h2
      · rcases hcase' with h | ⟨h1, _, h4, _⟩
        · exact h _
        · rw [h1]; exact h3.2.1 (by rw [hcomm]; exact h4)
      · rw [Array.setIfInBounds_comm _ _ hji]
        exact h3.2.2
theorem wpAnyL_take {i : Nat} {oi : Oper} {v : Value} {fuel : Nat} {listed : Array Bool} {a : Act} {w : World} (hi : ops[i]? = some oi)
    (hs : Region.noSelect ops = true) (hf : Region.free md ops listed i = true) (hr : (Region.ready md ops listed).contains i = true)
    (hw : (!late.contains i && waits md ops late i && early late listed && closed md ops listed) = true)
    (hQ : ∀ c a w, Q (.panic c) (a.put oi.dst v) w → Q (.panic c) a w) (hy : YieldsIf P ops S oi v a) (hS : S w)
    (h : wpAnyL P md ops Q S late fuel (listed.setIfInBounds i true) (a.put oi.dst v) w) : wpAnyL P md ops Q S late (fuel + 1) listed a w := by
  simp only [Bool.and_eq_true, Bool.not_eq_true', List.contains_eq_mem, decide_eq_false_iff_not] at hw
  exact wpAnyL_first hi (Region.noSelect_spec hs) hQ S hw.1.1.1 fuel listed a w (Region.free_spec hi hf) (by simpa using hr) hy hS (fun _ => hS) (.inr ⟨rfl, hw.1.1.2, hw.1.2, hw.2⟩) h
theorem wpAnyL_any {i : Nat} {oi : Oper} {v : Value} {fuel : Nat} {listed : Array Bool} {a : Act} {w : World} (hi : ops[i]? = some oi)
    (hs : Region.noSelect ops = true) (hf : Region.free md ops listed i = true) (hr : (Region.ready md ops listed).contains i = true)
    (hw : late.contains i = false)
    (hQ : ∀ c a w, Q (.panic c) (a.put oi.dst v) w → Q (.panic c) a w) (hy : YieldsIf P ops (fun _ => True) oi v a) (hS : early late listed = true → S w)
    (h : wpAnyL P md ops Q S late fuel (listed.setIfInBounds i true) (a.put oi.dst v) w) : wpAnyL P md ops Q S late (fuel + 1) listed a w := by
  simp only [List.contains_eq_mem, decide_eq_false_iff_not] at hw
  exact wpAnyL_first hi (Region.noSelect_spec hs) hQ (fun _ => True) hw fuel listed a w (Region.free_spec hi hf) (by simpa using hr) hy trivial hS (.inl fun _ => trivial) h
theorem wpAnyL_after {i : Nat} {oi : Oper} {v : Value} {fuel : Nat} {listed : Array Bool} {a : Act} {w : World} (hi : ops[i]? = some oi)
    (hs : Region.noSelect ops = true) (hf : Region.free md ops listed i = true) (hr : (Region.ready md ops listed).contains i = true)
    (hw : late.contains i = false) (hl : early late listed = false)
    (hQ : ∀ c a w, Q (.panic c) (a.put oi.dst v) w → Q (.panic c) a w) (hy : YieldsIf P ops (fun _ => True) oi v a)
    (h : wpAnyL P md ops Q S late fuel (listed.setIfInBounds i true) (a.put oi.dst v) w) : wpAnyL P md ops Q S late (fuel + 1) listed a w :=
  wpAnyL_any hi hs hf hr hw hQ hy (fun h => by rw [hl] at h; cases h) h
theorem wpAnyL_done {listed : Array Bool} {a : Act} {w : World} (hr : Region.ready md ops listed = []) (h : Q .normal a w) :
    ∀ fuel, wpAnyL P md ops Q S late fuel listed a w
  | 0 => ⟨hr, h⟩
  | _ + 1 => ⟨fun _ => h, by rw [hr]; simp⟩
theorem wpAnyL_next {i : Nat} {o : Oper} {fuel : Nat} {listed : Array Bool} {a : Act} {w : World} (hr : Region.ready md ops listed = [i]) (ho : ops[i]? = some o)
    (h : ∀ K' : Act → World → Prop, Shut (∀ a w, S w → (S w → wpAnyL P md ops Q S late fuel (listed.setIfInBounds i true) a w) → K' a w) → if Region.wanted o (yielded ops a.tmps) = true then Oper.wp P o a w K' Q else K' (a.put o.dst undef) w) :
    wpAnyL P md ops Q S late (fuel + 1) listed a w :=
  ⟨fun h0 => (by rw [hr] at h0; cases h0), fun j hj => by
    rw [hr, List.mem_singleton] at hj
    subst hj
    exact wpOp_step ho (fun K' hK => h K' (fun a w hS hW => hK a w ⟨fun _ => hS, hW hS⟩))⟩
theorem wpAnyL_late {i : Nat} {o : Oper} {fuel : Nat} {listed : Array Bool} {a : Act} {w : World} (hr : Region.ready md ops listed = [i]) (ho : ops[i]? = some o) (hl : early late (listed.setIfInBounds i true) = false)
    (h : ∀ K' : Act → World → Prop, Shut (∀ a w, (True → wpAnyL P md ops Q S late fuel (listed.setIfInBounds i true) a w) → K' a w) → if Region.wanted o (yielded ops a.tmps) = true then Oper.wp P o a w K' Q else K' (a.put o.dst undef) w) :
    wpAnyL P md ops Q S late (fuel + 1) listed a w :=
  ⟨fun h0 => (by rw [hr] at h0; cases h0), fun j hj => by
    rw [hr, List.mem_singleton] at hj
    subst hj
    exact wpOp_step ho (fun K' hK => h K' (fun a w hW => hK a w ⟨fun he => (by rw [hl] at he; cases he), hW trivial⟩))⟩
theorem wp_region_late {id : Nat} {a : Act} {w : World} (S : World → Prop) (late : List Nat) (hm : P.follows .mixedOrders = true)
    (h : wpAnyL P .any ops (NoPanic Q) S late ops.size (Array.replicate ops.size false) a w.drew) : (Code.region id ops true).wp P Q a w :=
  wp_region_noPanic (wp_region_any hm (wpAny_of_late _ _ _ _ h))
theorem round_region_late {n L : Nat} {id : Nat} {a : Act} {w : World} (S : World → Prop) (late : List Nat) (hm : P.follows .mixedOrders = true) (hn : noDefer ops = true) (hQ : ¬ LetsOut Q)
    (h : wpAnyL P .any ops Q S late ops.size (Array.replicate ops.size false) a w.drew) : (Code.region id ops true).wpIn (Fence.wide.inRound L) n P Q a w :=
  wpIn_region_any hm (anyIn_of hn hQ _ _ _ _ (wpAny_of_late _ _ _ _ h))
end
end Go.Proofs.YtmoajobnhiopiaaGreatDoor.rg
namespace Go.Proofs.YtmoajobnhiopiaaGreatDoor.rg
open Go Go.RowKit Go.Shelf
section
variable {P : Program} {ops : Array Oper} {Q : Exit → Act → World → Prop} {md : Region.Mode} {S : World → Prop} {late : List Nat}
theorem tkA (i : Nat) (v : Value) {oi : Oper} {fuel : Nat} {listed : Array Bool} {a : Act} {w : World} (hi : ops[i]? = some oi)
    (hb : (Region.noSelect ops && Region.free md ops listed i && (Region.ready md ops listed).contains i && !late.contains i) = true)
    (hQ : ∀ c a w, Q (.panic c) (a.put oi.dst v) w → Q (.panic c) a w) (hw : Region.wanted oi (yielded ops a.tmps) = true) (hS : early late listed = true → S w)
    (hy : ∀ w, True → (execOp a.eval oi).run P w = .ok (.value v) w)
    (h : wpAnyL P md ops Q S late fuel (listed.setIfInBounds i true) (a.put oi.dst v) w) : wpAnyL P md ops Q S late (fuel + 1) listed a w := by
  simp only [Bool.and_eq_true, Bool.not_eq_true'] at hb
  exact wpAnyL_any hi hb.1.1.1 hb.1.1.2 hb.1.2 hb.2 hQ (Or.inl ⟨hw, hy⟩) hS h
theorem tkL (i : Nat) (v : Value) {oi : Oper} {fuel : Nat} {listed : Array Bool} {a : Act} {w : World} (hi : ops[i]? = some oi)
    (hb : (Region.noSelect ops && Region.free md ops listed i && (Region.ready md ops listed).contains i && (!late.contains i && waits md ops late i && early late listed && closed md ops listed)) = true)
    (hQ : ∀ c a w, Q (.panic c) (a.put oi.dst v) w → Q (.panic c) a w) (hw : Region.wanted oi (yielded ops a.tmps) = true) (hS : S w)
    (hy : ∀ w, S w → (execOp a.eval oi).run P w = .ok (.value v) w)
    (h : wpAnyL P md ops Q S late fuel (listed.setIfInBounds i true) (a.put oi.dst v) w) : wpAnyL P md ops Q S late (fuel + 1) listed a w := by
  rw [Bool.and_eq_true, Bool.and_eq_true, Bool.and_eq_true] at hb
  exact wpAnyL_take hi hb.1.1.1 hb.1.1.2 hb.1.2 hb.2 hQ (Or.inl ⟨hw, hy⟩) hS h
end
end Go.Proofs.YtmoajobnhiopiaaGreatDoor.rg
set_option linter.unusedSimpArgs false
set_option linter.unusedVariables false
namespace Go.Proofs.YtmoajobnhiopiaaGreatDoor.lm
open Go Go.RowKit Go.Maps Go.Proofs.YtmoajobnhiopiaaGreatDoor.mk Go.Proofs.YtmoajobnhiopiaaGreatDoor.tp
theorem add64_run (x y c : Int) (hx : 0 ≤ x) (hy : 0 ≤ y) (hc0 : 0 ≤ c) (hc : c ≤ 1) (w : World) :
    (callFunc 134 #[.int .u64 x, .int .u64 y, .int .u64 c]).run Tryz.prog w = .ok (.value (.tuple #[.int .u64 ((x + y + c) % 18446744073709551616), .int .u64 ((x + y + c) / 18446744073709551616)])) w := by
  rw [run_callFunc_extern Tryz.func134 (by kernel_rfl) (by kernel_rfl) (by kernel_rfl) (e := add64Entry) (by kernel_rfl), run_add64 x y c hx hy hc0 hc]
  rfl
theorem sub64_run (x y c : Int) (hx : IsU x) (hy : IsU y) (hc0 : 0 ≤ c) (hc : c ≤ 1) (w : World) :
    (callFunc 158 #[.int .u64 x, .int .u64 y, .int .u64 c]).run Tryz.prog w = .ok (.value (.tuple #[.int .u64 ((x - y - c) % 18446744073709551616), .int .u64 (borI x y c)])) w := by
  unfold IsU at hx hy
  obtain ⟨a, rfl⟩ := Int.eq_ofNat_of_zero_le hx.1
  obtain ⟨b, rfl⟩ := Int.eq_ofNat_of_zero_le hy.1
  obtain ⟨k, rfl⟩ := Int.eq_ofNat_of_zero_le hc0
  rw [run_callFunc_extern Tryz.func158 (by kernel_rfl) (by kernel_rfl) (by kernel_rfl) (e := sub64Entry) (by kernel_rfl)]
  rw [run_sub64 a b k (by omega)]
  have e1 : (((a + 18446744073709551616 - b - k) % 18446744073709551616 : Nat) : Int) = ((a : Int) - b - k) % 18446744073709551616 := by omega
  have e2 : (((if a < b + k then 1 else 0 : Nat)) : Int) = borI a b k := by unfold borI; split <;> split <;> omega
  rw [e1, e2]
  rfl
set_option maxHeartbeats 1000000 in
theorem mul64_nat (x y : Nat) (hx : x < 18446744073709551616) (hy : y < 18446744073709551616) (w : World) :
    Calls Tryz.prog 135 #[.int .u64 x, .int .u64 y] w fun e w' => e = .returned (.tuple #[.int .u64 ((x * y / 18446744073709551616 : Nat) : Int), .int .u64 ((x * y % 18446744073709551616 : Nat) : Int)]) ∧ w' = w := by
  obtain ⟨bd, bt, bw, hhi⟩ := Lib.mul64_hi x y hx hy
  have ba := Lib.half_mul_le (a := x / 4294967296) (b := y / 4294967296) (by omega) (by omega)
  have bb := Lib.half_mul_le (a := x / 4294967296) (b := y % 4294967296) (by omega) (by omega)
  have bc := Lib.half_mul_le (a := x % 4294967296) (b := y / 4294967296) (by omega) (by omega)
  have ba' : x / 4294967296 * (y / 4294967296) < 18446744073709551616 := by omega
  have bb' : x / 4294967296 * (y % 4294967296) < 18446744073709551616 := by omega
  have bc' : x % 4294967296 * (y / 4294967296) < 18446744073709551616 := by omega
  have bh1 : x / 4294967296 * (y / 4294967296) + (x / 4294967296 * (y % 4294967296) + x % 4294967296 * (y % 4294967296) / 4294967296) / 4294967296 < 18446744073709551616 := by omega
  have bh : x / 4294967296 * (y / 4294967296) + (x / 4294967296 * (y % 4294967296) + x % 4294967296 * (y % 4294967296) / 4294967296) / 4294967296 + ((x / 4294967296 * (y % 4294967296) + x % 4294967296 * (y % 4294967296) / 4294967296) % 4294967296 + x % 4294967296 * (y / 4294967296)) / 4294967296 < 18446744073709551616 := by omega
  go_enter Tryz.func135, Tryz.ntmps135
  go_wp2
  simp only [Mul64.maskN x hx, Mul64.maskN y hy, Mul64.divN, Mul64.mulN, Mul64.addN, Mul64.wrapN _ bd, Mul64.wrapN _ bb', Mul64.wrapN _ bt, Mul64.maskN _ bt, Mul64.wrapN _ bc', Mul64.wrapN _ bw, Mul64.wrapN _ ba', Mul64.wrapN _ bh1, Mul64.wrapN _ bh, Mul64.wrapM (x * y)]
  rw [hhi]
  go_ret2
  exact ⟨rfl, rfl⟩
theorem mul64_calls (x y : Int) (hx : IsU x) (hy : IsU y) (w : World) :
    Calls Tryz.prog 135 #[.int .u64 x, .int .u64 y] w fun e w' => e = .returned (.tuple #[.int .u64 (x * y / 18446744073709551616), .int .u64 (x * y % 18446744073709551616)]) ∧ w' = w := by
  unfold IsU at hx hy
  obtain ⟨a, rfl⟩ := Int.eq_ofNat_of_zero_le hx.1
  obtain ⟨b, rfl⟩ := Int.eq_ofNat_of_zero_le hy.1
  refine (mul64_nat a b (by omega) (by omega) w).mono ?_
  rintro e w' ⟨rfl, rfl⟩
  refine ⟨?_, rfl⟩
  rw [← Int.natCast_mul]
  congr 4 <;> omega
theorem and_one {c : Int} (h0 : 0 ≤ c) (h1 : c ≤ 1) : bits .and .u64 c 1 = c := by
  rw [bit_num (by unfold IsU; omega)]
  omega
theorem wadd_calls (x y c : Int) (hx : IsU x) (hy : IsU y) (hc0 : 0 ≤ c) (hc : c ≤ 1) (w : World) :
    Calls Tryz.prog 104 #[.int .u64 x, .int .u64 y, .int .u64 c] w fun e w' => e = .returned (.tuple #[.int .u64 ((x + y + c) % 18446744073709551616), .int .u64 ((x + y + c) / 18446744073709551616)]) ∧ w' = w := by
  go_enter Tryz.func104, Tryz.ntmps104
  go_wp2_with (simp only [and_one hc0 hc, add64_run x y c hx.1 hy.1 hc0 hc])
  go_ret2
  exact ⟨rfl, rfl⟩
theorem wsub_calls (x y c : Int) (hx : IsU x) (hy : IsU y) (hc0 : 0 ≤ c) (hc : c ≤ 1) (w : World) :
    Calls Tryz.prog 131 #[.int .u64 x, .int .u64 y, .int .u64 c] w fun e w' => e = .returned (.tuple #[.int .u64 ((x - y - c) % 18446744073709551616), .int .u64 (borI x y c)]) ∧ w' = w := by
  go_enter Tryz.func131, Tryz.ntmps131
  go_wp2_with (simp only [and_one hc0 hc, sub64_run x y c hx hy hc0 hc])
  go_ret2
  exact ⟨rfl, rfl⟩
theorem add64_0 (x y : Int) (hx : 0 ≤ x) (hy : 0 ≤ y) (w : World) :
    (callFunc 134 #[.int .u64 x, .int .u64 y, .int .u64 0]).run Tryz.prog w = .ok (.value (.tuple #[.int .u64 ((x + y) % 18446744073709551616), .int .u64 ((x + y) / 18446744073709551616)])) w := by
  simpa using add64_run x y 0 hx hy (Int.le_refl 0) (by decide) w
theorem add64_c (x c : Int) (hx : 0 ≤ x) (hc0 : 0 ≤ c) (hc : c ≤ 1) (w : World) :
    (callFunc 134 #[.int .u64 x, .int .u64 0, .int .u64 c]).run Tryz.prog w = .ok (.value (.tuple #[.int .u64 ((x + c) % 18446744073709551616), .int .u64 ((x + c) / 18446744073709551616)])) w := by
  simpa using add64_run x 0 c hx (Int.le_refl 0) hc0 hc w
theorem muladd_num {a b c d : Int} (ha : IsU a) (hb : IsU b) (hc : IsU c) (hd : IsU d) :
    (a * b / 18446744073709551616 + (a * b % 18446744073709551616 + c) / 18446744073709551616) % 18446744073709551616 = (a * b + c) / 18446744073709551616 ∧ (a * b % 18446744073709551616 + c) % 18446744073709551616 = (a * b + c) % 18446744073709551616 ∧
    ((a * b + c) / 18446744073709551616 + ((a * b + c) % 18446744073709551616 + d) / 18446744073709551616) % 18446744073709551616 = (a * b + c + d) / 18446744073709551616 ∧ ((a * b + c) % 18446744073709551616 + d) % 18446744073709551616 = (a * b + c + d) % 18446744073709551616 ∧
    0 ≤ a * b ∧ a * b + c + d < 18446744073709551616 * 18446744073709551616 := by
  unfold IsU at *
  have h0 : 0 ≤ a * b := Int.mul_nonneg ha.1 hb.1
  have h1 : a * b ≤ 18446744073709551615 * 18446744073709551615 := Int.mul_le_mul (by omega) (by omega) hb.1 (by omega)
  generalize a * b = p at *
  omega
set_option maxHeartbeats 1000000 in
theorem muladd_calls (a b c d : Int) (ha : IsU a) (hb : IsU b) (hc : IsU c) (hd : IsU d) (w : World) :
    Calls Tryz.prog 106 #[.int .u64 a, .int .u64 b, .int .u64 c, .int .u64 d] w fun e w' => e = .returned (.tuple #[.int .u64 ((a * b + c + d) / 18446744073709551616), .int .u64 ((a * b + c + d) % 18446744073709551616)]) ∧ w' = w := by
  obtain ⟨h1, h2, h3, h4, h5, h6⟩ := muladd_num ha hb hc hd
  have ha' := ha
  unfold IsU at ha' hc hd
  have k1 : 0 ≤ a * b % 18446744073709551616 := by omega
  have k2 : 0 ≤ a * b / 18446744073709551616 := by omega
  have k3 : 0 ≤ (a * b % 18446744073709551616 + c) / 18446744073709551616 := by omega
  have k4 : (a * b % 18446744073709551616 + c) / 18446744073709551616 ≤ 1 := by omega
  have k5 : 0 ≤ (a * b + c) % 18446744073709551616 := by omega
  have k6 : 0 ≤ (a * b + c) / 18446744073709551616 := by omega
  have k7 : 0 ≤ ((a * b + c) % 18446744073709551616 + d) / 18446744073709551616 := by omega
  have k8 : ((a * b + c) % 18446744073709551616 + d) / 18446744073709551616 ≤ 1 := by omega
  go_enter Tryz.func106, Tryz.ntmps106
  go_wp2_with fail
  refine (mul64_calls a b ha hb _).mono ?_; rintro e w' ⟨rfl, rfl⟩
  go_wp2_with (first | simp only [add64_0 _ _ k1 hc.1, h2] | simp only [add64_c _ _ k2 k3 k4, h1] | simp only [add64_0 _ _ k5 hd.1, h4] | simp only [add64_c _ _ k6 k7 k8, h3])
  go_ret2
  exact ⟨rfl, rfl⟩
theorem fill_calls (a : Int) (ha : IsU a) (w : World) : Calls Tryz.prog 66 #[.int .u64 a] w fun e w' => e = .returned (.int .u64 (maskI (a / 9223372036854775808 % 2 == 1))) ∧ w' = w := by
  have h2 : IsU (a / 9223372036854775808) := by unfold IsU at *; omega
  go_enter Tryz.func66, Tryz.ntmps66
  go_wp2_with fail
  refine (of_calls _ h2 _).mono ?_; rintro e w' ⟨rfl, rfl⟩
  go_wp2
  go_ret
  exact ⟨rfl, rfl⟩
def wAt (w : World) (v : Value) (l : List Int) : Prop :=
  ∃ b off cap, v = .slice (some ⟨b, off, none⟩) l.length cap ∧ b < w.heap.size ∧ ∀ (i : Nat) (x : Int), l[i]? = some x → w.cell? ⟨b, off + i, none⟩ = some (.int .u64 x)
theorem wAt.kept {w w' : World} {v : Value} {l : List Int} (h : wAt w v l) (hk : Keeps (fun _ => False) w w') : wAt w' v l := by
  obtain ⟨b, off, cap, hv, hb, hc⟩ := h
  exact ⟨b, off, cap, hv, Nat.lt_of_lt_of_le hb hk.size, fun i x hi => (hk.cell (p := ⟨b, off + i, none⟩) hb (fun h => h)).trans (hc i x hi)⟩
def numAt (w : World) (v : Value) (n : Nat) (x : Int) : Prop := wAt w v (limbs n x)
theorem numAt.kept {w w' : World} {v : Value} {n : Nat} {x : Int} (h : numAt w v n x) (hk : Keeps (fun _ => False) w w') : numAt w' v n x := wAt.kept h hk
theorem numAt.cases {w : World} {v : Value} {n : Nat} {x : Int} (h : numAt w v n x) : ∃ b off cap, v = .slice (some ⟨b, off, none⟩) n cap ∧ b < w.heap.size ∧ ∀ i, i < n → w.cell? ⟨b, off + i, none⟩ = some (.int .u64 (lm x i)) := by
  obtain ⟨b, off, cap, hv, hb, hc⟩ := h
  rw [limbs_length] at hv
  exact ⟨b, off, cap, hv, hb, fun i hi => hc i _ (limbs_get n x i hi)⟩
theorem numAt.mk {w : World} {n : Nat} {x : Int} {b off cap : Nat} (hb : b < w.heap.size) (h : ∀ i, i < n → w.cell? ⟨b, off + i, none⟩ = some (.int .u64 (lm x i))) : numAt w (.slice (some ⟨b, off, none⟩) n cap) n x := by
  refine ⟨b, off, cap, by rw [limbs_length], hb, fun i u hu => ?_⟩
  have hlt : i < n := by
    have := (List.getElem?_eq_some_iff.1 hu).1
    rwa [limbs_length] at this
  rw [limbs_get n x i hlt] at hu
  injection hu with hu
  rw [← hu]
  exact h i hlt
set_option maxHeartbeats 1000000 in
theorem is_any (vs : List Value) (b : Nat) (w : World) (hb : vs ≠ [] → b < w.heap.size) (hlen : vs.length ≤ 1000) (hc : ∀ (i : Nat) v, vs[i]? = some v → w.cell? ⟨b, i, none⟩ = some v) (hs : ∀ v ∈ vs, ∃ ao n c, v = .slice ao n c ∧ 1 ≤ n ∧ n ≤ 8) :
    Calls Tryz.prog 65 #[.slice (some ⟨b, 0, none⟩) vs.length vs.length] w fun e w' => e = .returned (.bool true) ∧ w' = w := by
  have HC := Lib.hid hc
  have HS := Lib.hid hs
  clear hc hs
  go_enter Tryz.func65, Tryz.ntmps65
  go_wp2
  go_loopw [4, 7] (fun _ i wr => ∃ k : Nat, k ≤ vs.length ∧ i = .int .i64 k ∧ wr = w) (fun _ i _ => vs.length - (intOf i).toNat)
  case atStart => exact ⟨0, Nat.zero_le _, rfl, rfl⟩
  case round =>
    obtain ⟨k, hk, rfl, rfl⟩ := hrel
    by_cases hlt : k < vs.length
    · obtain ⟨v, hv⟩ : ∃ v, vs[k]? = some v := ⟨vs[k], by simp [hlt]⟩
      obtain ⟨ao, n, c, rfl, h1, h2⟩ := HS.out v (List.mem_of_getElem? hv)
      have hcell := HC.out k _ hv
      have hlt' : (k : Int) < (vs.length : Int) := by omega
      have hk0 : (0 : Int) ≤ (k : Int) := by omega
      have h1' : ¬ (n : Int) < 1 := by omega
      have h2' : ¬ (n : Int) > 8 := by omega
      clear hv
      go_wp2
      go_roundw
      case rel => exact ⟨k + 1, by omega, by go_num, trivial⟩
      case measure => simp [intOf]; omega
    · obtain rfl : k = vs.length := by omega
      go_wp2
      go_ret
      exact ⟨rfl, rfl⟩
theorem is_one (v : Value) (w0 w : World) (h : ∃ ao n c, v = .slice ao n c ∧ 1 ≤ n ∧ n ≤ 8) (hw : w = w0.alloc (.cells #[v] 73)) :
    Calls Tryz.prog 65 #[.slice (some ⟨w0.heap.size, 0, none⟩) 1 1] w fun e w' => e = .returned (.bool true) ∧ w' = w := by
  subst hw
  refine is_any [v] w0.heap.size _ (fun _ => by simp) (by simp) (fun i u hu => ?_) (fun u hu => ?_)
  · have := cell_of_row _ _ i _ _ _ (heap_alloc_new w0 (.cells #[v] 73))
    rw [this]
    simpa using hu
  · rw [List.mem_singleton] at hu; subst hu; exact h
theorem is_two (v u : Value) (w0 w : World) (h : ∃ ao n c, v = .slice ao n c ∧ 1 ≤ n ∧ n ≤ 8) (h' : ∃ ao n c, u = .slice ao n c ∧ 1 ≤ n ∧ n ≤ 8) (hw : w = w0.alloc (.cells #[v, u] 73)) :
    Calls Tryz.prog 65 #[.slice (some ⟨w0.heap.size, 0, none⟩) 2 2] w fun e w' => e = .returned (.bool true) ∧ w' = w := by
  subst hw
  refine is_any [v, u] w0.heap.size _ (fun _ => by simp) (by simp) (fun i x hx => ?_) (fun x hx => ?_)
  · have := cell_of_row _ _ i _ _ _ (heap_alloc_new w0 (.cells #[v, u] 73))
    rw [this]
    simpa using hx
  · simp at hx
    rcases hx with rfl | rfl
    · exact h
    · exact h'
theorem infoW : (Tryz.prog.info? 43).map (fun i => (i.zero, i.size, i.bytes)) = some (some (.int .u64 0), 1, 8) := by kernel_rfl
def wfl (l : List Int) : List Value := l.map (Value.int .u64)
theorem wfl_length (l : List Int) : (wfl l).length = l.length := by unfold wfl; simp
theorem wfl_one (l : List Int) : ∀ u ∈ wfl l, u.oneCell' = true := by
  intro u hu
  unfold wfl at hu
  obtain ⟨x, _, rfl⟩ := List.mem_map.1 hu
  rfl
theorem wfl_get {l : List Int} {i : Nat} {x : Int} (h : l[i]? = some x) : (wfl l)[i]? = some (.int .u64 x) := by unfold wfl; rw [List.getElem?_map, h]; rfl
theorem wAt_row {w : World} {base : Nat} {v : Value} {l : List Int} (h : w.ownsRow base 43 1 v l.length (wfl l)) (hne : l ≠ []) : wAt w v l ∧ ∃ g cap, v = .slice (some ⟨g, 0, none⟩) l.length cap ∧ l.length ≤ cap ∧ cap ≤ maxLen := by
  rcases h.2 with ⟨_, h0⟩ | ⟨g, cap, cur, rfl, hb, hg, hle, hcap, hcur, htake⟩
  · exact absurd (List.eq_nil_of_length_eq_zero h0) hne
  · refine ⟨⟨g, 0, cap, rfl, (Array.getElem?_eq_some_iff.1 hg).1, fun i x he => ?_⟩, g, cap, rfl, hle, hcap⟩
    have hi : i < l.length := (List.getElem?_eq_some_iff.1 he).1
    have hu := wfl_get he
    rw [cell_of_row w g (0 + i) cur _ (0, 0) hg, Nat.zero_add]
    rw [← htake, List.getElem?_take, if_pos (by omega)] at hu
    simpa using hu
set_option maxRecDepth 100000 in
set_option maxHeartbeats 1000000 in
theorem wclone_calls (v : Value) (l : List Int) (hlen : l.length ≤ 1000) (w : World) (h : wAt w v l) :
    Calls Tryz.prog 97 #[v] w fun e w' => ∃ v', e = .returned v' ∧ w'.ownsRow w.heap.size 43 1 v' l.length (wfl l) ∧ Keeps (fun _ => False) w w' := by
  obtain ⟨b, off, cap, rfl, hb, hc⟩ := h
  have hnil : ∀ w, (binOp .eql 73 (.slice (some ⟨b, off, none⟩) l.length cap) (.slice none 0 0)).run Tryz.prog w = .ok (.bool false) w := fun w => Lib.run_eql_slice_nil w 73 43 (some ⟨b, off, none⟩) l.length cap 0 0 Tryz.underlying73
  obtain ⟨i0, hi, hz0, hz1, hz2⟩ := info_parts infoW
  have HC := Lib.hid hc
  clear hc
  have hrow := World.ownsRow_made w (base := w.heap.size) (e := 43) (size := 1) #[] 0 (Nat.le_refl _) (by simp) rfl
  go_enter Tryz.func97, Tryz.ntmps97
  go_wp2_with (at_builtin; refine wpList_append_own _ rfl _ _ 73 rfl w.heap.size 43 i0 (.int .u64 0) 1 8 Tryz.underlying73 hi hz0 hz1 hz2 rfl (by decide) _ _ _ rfl hrow ⟨b, off, none⟩ l.length cap (wfl l) rfl (by rw [wfl_length, Nat.mul_one]) ?c1 (wfl_one l) ?c3 ?c4 ?c5 ?_)
  case c1 =>
    intro j u hj
    unfold wfl at hj
    rw [List.getElem?_map] at hj
    cases hx : l[j]? with
    | none => rw [hx] at hj; cases hj
    | some x =>
      rw [hx] at hj
      injection hj with hj
      subst hj
      have hadd : (⟨b, off, none⟩ : Addr).add j = ⟨b, off + j, none⟩ := by unfold Addr.add; split <;> simp_all
      rw [hadd, World.cell?_of_block (w := w) (Below.heap_alloc w _ _ hb)]
      exact HC.out j x hx
  case c3 => unfold maxLen; omega
  case c4 => omega
  case c5 => simp
  intro v' w1 hown1 hgrow1 _
  go_wp2
  go_ret
  exact ⟨v', rfl, by simpa using hown1, ((Keeps.refl _ w).alloc _).grown hgrow1 (fun k e hk => by cases e; exact absurd hk (Nat.lt_irrefl _))⟩
set_option maxRecDepth 100000 in
set_option maxHeartbeats 4000000 in
theorem extend_calls (v : Value) (m n : Nat) (x : Int) (hm : m < 8) (hn : 1 ≤ n) (hn8 : n ≤ 8) (hfit : n ≤ m + 1 ∨ Fit (m + 1) x) (w : World) (h : numAt w v (m + 1) x) :
    Calls Tryz.prog 67 #[v, .int .i64 n] w fun e w' => ∃ v', e = .returned v' ∧ numAt w' v' n x ∧ Keeps (fun _ => False) w w' := by
  obtain ⟨i0, hi, hz0, hz1, hz2⟩ := info_parts infoW
  have HW := Lib.hid h
  obtain ⟨b, off, cap, rfl, hb, hc⟩ := h.cases
  have hka : Keeps (fun _ => False) w (w.alloc (.cells #[.slice (some ⟨b, off, none⟩) (m + 1) cap] 73)) := (Keeps.refl _ w).alloc _
  have hn1 : ¬ (n : Int) < 1 := by omega
  have hn2 : ¬ (n : Int) > 8 := by omega
  have HC := Lib.hid (hc m (by omega))
  have HF := Lib.hid hfit
  clear h hc hfit
  go_enter Tryz.func67, Tryz.ntmps67
  go_wp2_with fail
  refine (is_one _ w _ ⟨_, _, _, rfl, by omega, by omega⟩ rfl).mono ?_; rintro e w1 ⟨rfl, rfl⟩
  go_wp2_with fail
  refine (wclone_calls _ (limbs (m + 1) x) (by rw [limbs_length]; omega) _ (HW.out.kept hka)).mono ?_; rintro e w2 ⟨v2, rfl, hr2, hk2⟩
  rw [limbs_length] at hr2
  have hk02 := hka.trans hk2 (fun _ _ h => h)
  have hcell := (hk02.cell (p := ⟨b, off + m, none⟩) hb (fun h => h)).trans HC.out
  have hbase : w.heap.size ≤ (w.alloc (.cells #[.slice (some ⟨b, off, none⟩) (m + 1) cap] 73)).heap.size := hka.size
  have hm0 : (0 : Int) ≤ (m : Int) := by omega
  obtain ⟨B, hB⟩ : ∃ B, B = (w.alloc (.cells #[.slice (some ⟨b, off, none⟩) (m + 1) cap] 73)).heap.size := ⟨_, rfl⟩
  rw [← hB] at hr2 hbase
  have hB2 : B ≤ w2.heap.size := hB ▸ hk2.size
  clear hka hk2 hB
  go_wp2_with fail
  refine (fill_calls _ (lm_isU x m) _).mono ?_; rintro e w3 ⟨rfl, rfl⟩
  obtain ⟨f, hf⟩ : ∃ f, f = maskI (lm x m / 9223372036854775808 % 2 == 1) := ⟨_, rfl⟩
  rw [← hf]
  have hff : Fit (m + 1) x → ∀ i, m + 1 ≤ i → lm x i = f := fun hF i hi => by rw [hf, fill_num hF]; exact fill_lm hF hi
  have HFF := Lib.hid hff
  clear hcell hf hff HC
  go_wp2_with fail
  go_loopw [5] (fun v' wr => ∃ k : Nat, m + 1 ≤ k ∧ k ≤ max (m + 1) n ∧ wr.ownsRow B 43 1 v' k (wfl (limbs k x)) ∧ Keeps (fun _ => False) w wr ∧ B ≤ wr.heap.size) (fun v' _ => max (m + 1) n - (match v' with | .slice _ k _ => k | _ => 0))
  case atStart => exact ⟨m + 1, Nat.le_refl _, by omega, hr2, hk02, hB2⟩
  case round =>
    obtain ⟨k, hk1, hk2, hrow, hK, hBr⟩ := hrel
    obtain ⟨⟨b3, o3, c3, he3, hb3, hc3⟩, g, cap3, he4, hle4, hcm4⟩ := wAt_row (l := limbs k x) (by rw [limbs_length]; exact hrow) (fun h => by have := congrArg List.length h; rw [limbs_length] at this; simp at this; omega)
    rw [limbs_length] at he4 hle4
    subst he4
    clear he3 hb3 hc3
    by_cases hlt : k < n
    · have hlt' : (k : Int) < (n : Int) := by omega
      have hmn : ¬ n ≤ m + 1 := by omega
      have hfk : lm x k = f := HFF.out (HF.out.resolve_left hmn) k hk1
      have Hfk := Lib.hid hfk
      clear hfk
      go_wp2_with (at_builtin; refine wpList_append_own _ rfl _ _ 73 rfl B 43 i0 (.int .u64 0) 1 8 Tryz.underlying73 hi hz0 hz1 hz2 rfl (by decide) _ _ _ rfl (hrow.alloc _) ⟨wr.heap.size, 0, none⟩ 1 1 [.int .u64 f] rfl rfl ?c1 ?c2 ?c3 ?c4 ?c5 ?_)
      case c1 =>
        intro j u hj
        have hadd : (⟨wr.heap.size, 0, none⟩ : Addr).add j = ⟨wr.heap.size, 0 + j, none⟩ := by unfold Addr.add; split <;> simp_all
        rw [hadd, cell_of_row _ _ _ _ _ _ (heap_alloc_new wr _), Nat.zero_add]
        simpa using hj
      case c2 => intro u hu; simp at hu; rw [hu]; rfl
      case c3 => unfold maxLen; omega
      case c4 => omega
      case c5 => simp; omega
      intro v2 w2 hown2 hgrow2 _
      have hK2 : Keeps (fun _ => False) w w2 := (hK.alloc _).grown hgrow2 (fun g hg hlt => by have := hrow.lt g hg; omega)
      have hsz : wr.heap.size ≤ w2.heap.size := Nat.le_trans (by simp) hgrow2.size
      have hown3 : w2.ownsRow B 43 1 v2 (k + 1) (wfl (limbs (k + 1) x)) := by
        rw [← limbs_snoc, Hfk.out]
        unfold wfl
        rw [List.map_append]
        exact hown2
      have hsh : ∃ ao c, v2 = .slice ao (k + 1) c := by
        rcases hown3.2 with ⟨_, h0⟩ | ⟨g, c, cur, h, _⟩
        · omega
        · exact ⟨_, _, h⟩
      clear hown2 hgrow2
      go_wp2
      go_roundw
      case rel => exact ⟨k + 1, by omega, by omega, hown3, hK2, by omega⟩
      case measure =>
        obtain ⟨ao, c, rfl⟩ := hsh
        simp
        omega
    · have hkn : ¬ (k : Int) < (n : Int) := by omega
      have hn0 : (0 : Int) ≤ (n : Int) := by omega
      have hnc : (n : Int) ≤ (cap3 : Int) := by omega
      have hnn : ¬ cap3 = 0 := by omega
      have hHr := Lib.hid hrow
      have HK := Lib.hid hK
      clear hrow hK
      go_wp2
      go_ret
      refine ⟨_, rfl, ?_, HK.out⟩
      obtain ⟨⟨b3, o3, c3, he3, hb3, hc3⟩, _⟩ := wAt_row (l := limbs k x) (by rw [limbs_length]; exact hHr.out) (fun h => by have := congrArg List.length h; rw [limbs_length] at this; simp at this; omega)
      injection he3 with he3 _ _
      injection he3 with he3
      injection he3 with e1 e2 _
      subst e1
      subst e2
      exact numAt.mk hb3 (fun i hi => hc3 i _ (limbs_get k x i (by omega)))
end Go.Proofs.YtmoajobnhiopiaaGreatDoor.lm
set_option linter.unusedSimpArgs false
set_option linter.unusedVariables false
namespace Go.Proofs.YtmoajobnhiopiaaGreatDoor.lm
open Go Go.RowKit Go.Maps Go.Proofs.YtmoajobnhiopiaaGreatDoor.mk Go.Proofs.YtmoajobnhiopiaaGreatDoor.tp Go.Proofs.YtmoajobnhiopiaaGreatDoor.rg
structure Gl (w : World) : Prop where
  a : w.cell? ⟨0, 0, none⟩ = some (.int .u64 9223372036854775808)
  b : w.cell? ⟨0, 1, none⟩ = some (.int .u64 18446744073709551615)
  f0 : w.cell? ⟨1, 0, none⟩ = some (.int .i64 0)
  f1 : w.cell? ⟨1, 1, none⟩ = some (.int .i64 3)
  f2 : w.cell? ⟨1, 2, none⟩ = some (.int .i64 4)
  f3 : w.cell? ⟨1, 3, none⟩ = some (.int .i64 1)
  f4 : w.cell? ⟨1, 4, none⟩ = some (.int .i64 1)
  f5 : w.cell? ⟨1, 5, none⟩ = some (.int .i64 0)
theorem Gl.kept {w w' : World} (h : Gl w) (hk : Keeps (fun _ => False) w w') : Gl w' := by
  have hk0 : ∀ i v, w.cell? ⟨0, i, none⟩ = some v → w'.cell? ⟨0, i, none⟩ = some v := fun i v hv => (hk.cell (p := ⟨0, i, none⟩) (World.block_lt_of_cell? w _ hv) (fun h => h)).trans hv
  have hk1 : ∀ i v, w.cell? ⟨1, i, none⟩ = some v → w'.cell? ⟨1, i, none⟩ = some v := fun i v hv => (hk.cell (p := ⟨1, i, none⟩) (World.block_lt_of_cell? w _ hv) (fun h => h)).trans hv
  exact ⟨hk0 _ _ h.a, hk0 _ _ h.b, hk1 _ _ h.f0, hk1 _ _ h.f1, hk1 _ _ h.f2, hk1 _ _ h.f3, hk1 _ _ h.f4, hk1 _ _ h.f5⟩
theorem knil {a b c : World} (h : Keeps (fun _ => False) a b) (k : Keeps (fun _ => False) b c) : Keeps (fun _ => False) a c := h.trans k (fun _ _ h => h)
def GivesNum (w : World) (n : Nat) (x : Int) (e : Ending) (w' : World) : Prop := ∃ v', e = .returned v' ∧ numAt w' v' n x ∧ Keeps (fun _ => False) w w'
theorem GivesNum.from {w0 w w' : World} {n : Nat} {x : Int} {e : Ending} (h : GivesNum w n x e w') (hk : Keeps (fun _ => False) w0 w) : GivesNum w0 n x e w' := by
  obtain ⟨v, h1, h2, h3⟩ := h
  exact ⟨v, h1, h2, knil hk h3⟩
theorem from_calls (x : Int) (hx : IsS x) (n : Nat) (hn : 1 ≤ n) (hn8 : n ≤ 8) (w : World) :
    Calls Tryz.prog 70 #[.int .i64 x, .int .i64 n] w (GivesNum w n x) := by
  have hka : Keeps (fun _ => False) w (w.alloc (.cells #[.int .u64 (x % 18446744073709551616)] 43)) := (Keeps.refl _ w).alloc _
  have h1 : numAt (w.alloc (.cells #[.int .u64 (x % 18446744073709551616)] 43)) (.slice (some ⟨w.heap.size, 0, none⟩) 1 1) 1 x := by
    refine numAt.mk (by simp) (fun i hi => ?_)
    obtain rfl : i = 0 := by omega
    rw [cell_of_row _ _ _ _ _ _ (heap_alloc_new w _)]
    simp [lm, pw_zero]
  go_enter Tryz.func70, Tryz.ntmps70
  go_wp2_with fail
  refine (extend_calls _ 0 n x (by omega) hn hn8 (.inr (fit_one hx)) _ h1).mono ?_; rintro e w1 ⟨v', rfl, hv', hk'⟩
  go_wp2
  go_ret
  exact ⟨v', rfl, hv', knil hka hk'⟩
theorem or_zero {a b : Int} (ha : IsU a) (hb : IsU b) : bits .or .u64 a b = 0 ↔ a = 0 ∧ b = 0 := by
  rw [bits_or]
  constructor
  · intro h
    have h0 : bv a ||| bv b = 0#64 := by rw [← bv_nu (bv a ||| bv b), h]; decide
    rw [BitVec.or_eq_zero_iff] at h0
    have z : bv 0 = 0#64 := by decide
    exact ⟨bv_inj ha (by unfold IsU; omega) (h0.1.trans z.symm), bv_inj hb (by unfold IsU; omega) (h0.2.trans z.symm)⟩
  · rintro ⟨rfl, rfl⟩; decide
theorem or_isU (a b : Int) : IsU (bits .or .u64 a b) := by rw [bits_or]; exact nu_isU _
theorem signI_masks (a b : Bool) : signI (maskI a) (maskI b) = if a then -1 else if b then 0 else 1 := by cases a <;> cases b <;> decide
set_option maxRecDepth 100000 in
set_option maxHeartbeats 4000000 in
theorem lsign_calls (v : Value) (m : Nat) (x : Int) (hm : m < 8) (hfit : Fit (m + 1) x) (w : World) (hG : Gl w) (h : numAt w v (m + 1) x) :
    Calls Tryz.prog 39 #[v] w fun e w' => e = .returned (.int .i64 (sgnI x)) ∧ Keeps (fun _ => False) w w' := by
  obtain ⟨b, off, cap, rfl, hb, hc⟩ := h.cases
  have hka : Keeps (fun _ => False) w (w.alloc (.cells #[.slice (some ⟨b, off, none⟩) (m + 1) cap] 73)) := (Keeps.refl _ w).alloc _
  have hc1 : ∀ i, i < m + 1 → (w.alloc (.cells #[.slice (some ⟨b, off, none⟩) (m + 1) cap] 73)).cell? ⟨b, off + i, none⟩ = some (.int .u64 (lm x i)) := fun i hi => (hka.cell (p := ⟨b, off + i, none⟩) hb (fun h => h)).trans (hc i hi)
  have HC := Lib.hid hc1
  have HG := Lib.hid (hG.kept hka)
  clear h hc hc1 hG
  go_enter Tryz.func39, Tryz.ntmps39
  go_wp2_with fail
  refine (is_one _ w _ ⟨_, _, _, rfl, by omega, by omega⟩ rfl).mono ?_; rintro e w1 ⟨rfl, rfl⟩
  obtain ⟨w1, hw1⟩ : ∃ w1, w.alloc (.cells #[.slice (some ⟨b, off, none⟩) (m + 1) cap] 73) = w1 := ⟨_, rfl⟩
  rw [hw1] at HC HG hka ⊢
  clear hw1
  go_wp2_with fail
  go_loopw [3, 5, 12] (fun u _ i wr => ∃ (k : Nat) (U : Int), k ≤ m + 1 ∧ i = .int .i64 k ∧ u = .int .u64 U ∧ IsU U ∧ (U = 0 ↔ ∀ j, j < k → lm x j = 0) ∧ wr = w1) (fun _ _ i _ => m + 1 - (intOf i).toNat)
  case atStart => exact ⟨0, 0, Nat.zero_le _, rfl, rfl, by unfold IsU; omega, by simp, rfl⟩
  case round =>
    obtain ⟨k, U, hk, rfl, rfl, hU, hz, rfl⟩ := hrel
    by_cases hlt : k < m + 1
    · have hcell := HC.out k hlt
      have hlt' : (k : Int) < (m : Int) + 1 := by omega
      have hk0 : (0 : Int) ≤ (k : Int) := by omega
      have HZ := Lib.hid hz
      clear hz
      go_wp2
      go_roundw
      case rel =>
        refine ⟨k + 1, _, by omega, by go_num, rfl, or_isU _ _, ?_, trivial⟩
        rw [or_zero hU (lm_isU x k), HZ.out]
        constructor
        · rintro ⟨h1, h2⟩ j hj
          by_cases h : j < k
          · exact h1 j h
          · obtain rfl : j = k := by omega
            exact h2
        · intro h; exact ⟨fun j hj => h j (by omega), h k (by omega)⟩
      case measure => simp [intOf]; omega
    · obtain rfl : k = m + 1 := by omega
      have hcell := HC.out m (by omega)
      have hm0 : (0 : Int) ≤ (m : Int) := by omega
      have hzx : (U == 0) = (x == 0) := by
        rw [Bool.eq_iff_iff, beq_iff_eq, beq_iff_eq, hz]
        constructor
        · intro h; exact zero_all hfit h
        · intro h; subst h; intro j _; simp [lm]
      have HZ := Lib.hid hzx
      clear hz hzx
      go_wp2_with fail
      refine (fill_calls _ (lm_isU x m) _).mono ?_; rintro e w' ⟨rfl, rfl⟩
      go_wp2_with fail
      refine (zero_calls U hU _).mono ?_; rintro e w' ⟨rfl, rfl⟩
      go_wp2_with fail
      refine (sign_calls _ _ (maskI_isU _) (maskI_isU _) _ HG.out.b).mono ?_; rintro e w' ⟨rfl, n, rfl⟩
      go_wp2
      go_ret
      refine ⟨?_, hka.drewN n⟩
      rw [signI_masks, HZ.out]
      have h1 := (top_sign hfit).1
      have h2 := lm_isU x m
      unfold IsU at h2
      unfold sgnI
      by_cases hx : x < 0
      · have e1 : (lm x m / 9223372036854775808 % 2 == 1) = true := by rw [beq_iff_eq]; have := h1.2 hx; omega
        rw [if_pos hx, e1]
        rfl
      · have e1 : (lm x m / 9223372036854775808 % 2 == 1) = false := by rw [beq_eq_false_iff_ne]; intro h; exact hx (h1.1 (by omega))
        rw [if_neg hx, e1]
        by_cases h0 : x = 0
        · subst h0; rfl
        · rw [if_neg h0, beq_eq_false_iff_ne.2 h0]; rfl
end Go.Proofs.YtmoajobnhiopiaaGreatDoor.lm
set_option linter.unusedSimpArgs false
set_option linter.unusedVariables false
namespace Go.Proofs.YtmoajobnhiopiaaGreatDoor.lm
open Go Go.RowKit Go.Shelf Go.Maps Go.Proofs.YtmoajobnhiopiaaGreatDoor.mk Go.Proofs.YtmoajobnhiopiaaGreatDoor.tp Go.Proofs.YtmoajobnhiopiaaGreatDoor.rg
open List renaming getElem_toArray → ga, getElem_cons_zero → gb, getElem_cons_succ → gc, setIfInBounds_toArray → gd, set_cons_zero → ge, set_cons_succ → gf
def mixU (z : Int) (m k : Nat) : List Int := limbs k z ++ List.replicate (m - k) 0
theorem mixU_zero (z : Int) (m : Nat) : mixU z m 0 = List.replicate m 0 := by simp [mixU, limbs]
theorem mixU_all (z : Int) (m : Nat) : mixU z m m = limbs m z := by simp [mixU]
theorem mixU_set {z : Int} {m k : Nat} (h : k < m) : (mixU z m k).set k (lm z k) = mixU z m (k + 1) := by
  unfold mixU
  rw [List.set_append_right _ _ (by rw [limbs_length]; omega), limbs_length, Nat.sub_self, show m - k = (m - (k + 1)) + 1 by omega, List.replicate_succ, List.set_cons_zero, ← limbs_snoc, List.append_assoc]
  rfl
theorem wfl_set (l : List Int) (k : Nat) (x : Int) : (wfl l).set k (.int .u64 x) = wfl (l.set k x) := by unfold wfl; rw [List.map_set]
theorem made_zeros (m : Nat) : (madeCells (Value.int IntKind.u64 0).cells m).toList = wfl (List.replicate m 0) := by
  unfold wfl
  rw [List.map_replicate]
  exact toList_madeCells_one (.int .u64 0) m
theorem made_row (w : World) (base m : Nat) (Z : Array Value) (h : Z.toList = wfl (List.replicate m 0)) (hb : base ≤ w.heap.size) (hm : m ≤ 1000) :
    (w.alloc (.cells Z 43)).ownsRow base 43 1 (.slice (some ⟨w.heap.size, 0, none⟩) m m) m (wfl (List.replicate m 0)) := by
  have hs : Z.size = m := by
    have := congrArg List.length h
    rw [wfl_length, List.length_replicate] at this
    simpa using this
  have := World.ownsRow_lit (base := base) (size := 1) (e := 43) w Z m hb (by unfold maxLen; omega) (by rw [hs, Nat.mul_one])
  rw [h] at this
  exact this
theorem is_two' (v u : Value) (w0 w : World) (b : Nat) (hb : b = w0.heap.size) (h : ∃ ao n c, v = .slice ao n c ∧ 1 ≤ n ∧ n ≤ 8) (h' : ∃ ao n c, u = .slice ao n c ∧ 1 ≤ n ∧ n ≤ 8) (hw : w = w0.alloc (.cells #[v, u] 73)) :
    Calls Tryz.prog 65 #[.slice (some ⟨b, 0, none⟩) 2 2] w fun e w' => e = .returned (.bool true) ∧ w' = w := by subst hb; exact is_two v u w0 w h h' hw
set_option maxRecDepth 100000 in
set_option maxHeartbeats 4000000 in
theorem apply_add (v u : Value) (m : Nat) (x y : Int) (hm1 : 1 ≤ m) (hm : m ≤ 8) (w : World) (hv : numAt w v m x) (hu : numAt w u m y) :
    Calls Tryz.prog 105 #[.agg #[.func (.func 104) #[] #[]], v, u, .int .u64 0] w (GivesNum w m (x + y)) := by
  obtain ⟨i0, hi, hz0, hz1, hz2⟩ := info_parts infoW
  have hmk := fun w => run_make (P := Tryz.prog) w 73 43 i0 (.int .u64 0) Tryz.underlying73 hi hz0 .i64 .i64 (m : Int) (m : Int) (by omega) (Int.le_refl _) (by rw [hz2]; omega) (by omega)
  rw [hz1] at hmk
  simp only [Int.toNat_natCast, Nat.mul_one] at hmk
  have hZ := made_zeros m
  generalize madeCells (Value.int IntKind.u64 0).cells m = Z at hmk hZ
  have HZ := Lib.hid hZ
  clear hZ hi hz0 hz1 hz2
  obtain ⟨ba, oa, ca, rfl, hba, hca⟩ := hv.cases
  obtain ⟨bb, ob, cb, rfl, hbb, hcb⟩ := hu.cases
  have HA := Lib.hid hca
  have HB := Lib.hid hcb
  have hka : Keeps (fun _ => False) w (w.alloc (.cells #[.func (.func 104) #[] #[]] 171)) := (Keeps.refl _ w).alloc _
  have hE0 := heap_alloc_new w (.cells #[.func (.func 104) #[] #[]] 171)
  clear hca hcb hv hu
  go_enter Tryz.func105, Tryz.ntmps105
  go_wp2_with fail
  refine (is_two' _ _ (w.alloc (.cells #[.func (.func 104) #[] #[]] 171)) _ _ (by simp) ⟨_, _, _, rfl, by omega, by omega⟩ ⟨_, _, _, rfl, by omega, by omega⟩ rfl).mono ?_; rintro e w1 ⟨rfl, rfl⟩
  obtain ⟨w1, hw1⟩ : ∃ w1, (w.alloc (.cells #[.func (.func 104) #[] #[]] 171)).alloc (.cells #[.slice (some ⟨ba, oa, none⟩) m ca, .slice (some ⟨bb, ob, none⟩) m cb] 73) = w1 := ⟨_, rfl⟩
  have hk1 : Keeps (fun _ => False) w w1 := by rw [← hw1]; exact hka.alloc _
  have hE1 : w1.heap[w.heap.size]? = some (.cells #[.func (.func 104) #[] #[]] 171 (0, 0)) := by rw [← hw1, Below.heap_alloc _ _ _ (by simp)]; exact hE0
  rw [hw1]
  clear hw1 hka hE0
  go_wp2_with (simp only [hmk])
  obtain ⟨w2, hw2⟩ : ∃ w2, w1.alloc (.cells Z 43) = w2 := ⟨_, rfl⟩
  obtain ⟨g, hg⟩ : ∃ g, w1.heap.size = g := ⟨_, rfl⟩
  have hElt := (Array.getElem?_eq_some_iff.1 hE1).1
  have hr2 : w2.ownsRow g 43 1 (.slice (some ⟨g, 0, none⟩) m m) m (wfl (mixU (x + y) m 0)) := by
    rw [mixU_zero, ← hw2]
    have := made_row w1 w1.heap.size m Z HZ.out (Nat.le_refl _) (by omega)
    rw [hg] at this
    exact this
  have hk2 : Keeps (fun _ => False) w w2 := by rw [← hw2]; exact hk1.alloc _
  have hE2 : w2.heap[w.heap.size]? = some (.cells #[.func (.func 104) #[] #[]] 171 (0, 0)) := by rw [← hw2, Below.heap_alloc _ _ _ hElt]; exact hE1
  have hwg : w.heap.size < g := by rw [← hg]; exact hElt
  have hg2 : g < w2.heap.size := by rw [← hw2, ← hg]; simp
  rw [hw2]
  try rw [hg]
  clear hw2 hE1 hk1 HZ hmk hg hElt
  go_loopw [3, 10, 28] (fun c _ i wr => ∃ k : Nat, k ≤ m ∧ i = .int .i64 k ∧ c = .int .u64 (cya x y k) ∧ wr.ownsRow g 43 1 (.slice (some ⟨g, 0, none⟩) m m) m (wfl (mixU (x + y) m k)) ∧ Keeps (fun j => j = g) w2 wr) (fun _ _ i _ => m - (intOf i).toNat)
  case atStart => exact ⟨0, Nat.zero_le _, rfl, by rw [cya_zero], hr2, Keeps.refl _ _⟩
  case round =>
    clear hr2
    obtain ⟨k, hk, rfl, rfl, hr, hK⟩ := hrel
    have hkw : Keeps (fun _ => False) w wr := hk2.trans hK (fun i hi h => by omega)
    by_cases hlt : k < m
    · have hlt' : (k : Int) < (m : Int) := by omega
      have hk0 : (0 : Int) ≤ (k : Int) := by omega
      have c0 : wr.cell? ⟨w.heap.size, 0, none⟩ = some (.func (.func 104) #[] #[]) := by
        have := (hK.block w.heap.size (Array.getElem?_eq_some_iff.1 hE2).1 (by omega)).trans hE2
        rw [cell_of_row _ _ _ _ _ _ this]; rfl
      have c1 := (hkw.cell (p := ⟨ba, oa + k, none⟩) hba (fun h => h)).trans (HA.out k hlt)
      have c2 := (hkw.cell (p := ⟨bb, ob + k, none⟩) hbb (fun h => h)).trans (HB.out k hlt)
      have hf := hr.frozenAt k
      have hp := (hr.cellAt k (by omega)).trans (wfl_get (l := mixU (x + y) m k) (i := k) (x := 0) (by unfold mixU; rw [List.getElem?_append_right (by rw [limbs_length]; omega), limbs_length, Nat.sub_self, List.getElem?_replicate, if_pos (by omega)]))
      have hst := (hr.stored k (.int .u64 (lm (x + y) k))).1
      rw [wfl_set, mixU_set hlt] at hst
      have Hst := Lib.hid hst
      have HK := Lib.hid hK
      clear hst hr hkw hK hE2 hk2
      go_wp2_with fail
      refine wp_region_late (fun W => W.cell? ⟨w.heap.size, 0, none⟩ = some (.func (.func 104) #[] #[]) ∧ W.cell? ⟨ba, oa + k, none⟩ = some (.int .u64 (lm x k)) ∧ W.cell? ⟨bb, ob + k, none⟩ = some (.int .u64 (lm y k))) [18] (by kernel_rfl) ?_
      have hS : wr.drew.cell? ⟨w.heap.size, 0, none⟩ = some (.func (.func 104) #[] #[]) ∧ wr.drew.cell? ⟨ba, oa + k, none⟩ = some (.int .u64 (lm x k)) ∧ wr.drew.cell? ⟨bb, ob + k, none⟩ = some (.int .u64 (lm y k)) := ⟨c0, c1, c2⟩
      obtain ⟨s0, s1, s2⟩ := id hS
      refine tkA 0 (.slice (some ⟨g, 0, none⟩) m m) rfl (by kernel_rfl) (fun _ _ _ h => (h : False).elim) (by kernel_rfl) (fun _ => ‹_›) ?_ ?_
      · intro w _; go_simp
      try simp only [ga, gb, gc, Act.put, gd, ge, gf]
      refine tkA 1 (.int .i64 (k : Int)) rfl (by kernel_rfl) (fun _ _ _ h => (h : False).elim) (by kernel_rfl) (fun _ => ‹_›) ?_ ?_
      · intro w _; go_simp
      try simp only [ga, gb, gc, Act.put, gd, ge, gf]
      refine tkA 2 (.pointer (some ⟨w.heap.size, 0, none⟩)) rfl (by kernel_rfl) (fun _ _ _ h => (h : False).elim) (by kernel_rfl) (fun _ => ‹_›) ?_ ?_
      · intro w _; go_simp
      try simp only [ga, gb, gc, Act.put, gd, ge, gf]
      refine tkL 3 (.func (.func 104) #[] #[]) rfl (by kernel_rfl) (fun _ _ _ h => (h : False).elim) (by kernel_rfl) ‹_› ?_ ?_
      · intro w hSw
        obtain ⟨s0, s1, s2⟩ := hSw
        go_simp
      try simp only [ga, gb, gc, Act.put, gd, ge, gf]
      refine tkA 4 (.slice (some ⟨ba, oa, none⟩) m ca) rfl (by kernel_rfl) (fun _ _ _ h => (h : False).elim) (by kernel_rfl) (fun _ => ‹_›) ?_ ?_
      · intro w _; go_simp
      try simp only [ga, gb, gc, Act.put, gd, ge, gf]
      refine tkA 5 (.int .i64 (k : Int)) rfl (by kernel_rfl) (fun _ _ _ h => (h : False).elim) (by kernel_rfl) (fun _ => ‹_›) ?_ ?_
      · intro w _; go_simp
      try simp only [ga, gb, gc, Act.put, gd, ge, gf]
      refine tkA 6 (.pointer (some ⟨ba, oa + k, none⟩)) rfl (by kernel_rfl) (fun _ _ _ h => (h : False).elim) (by kernel_rfl) (fun _ => ‹_›) ?_ ?_
      · intro w _; go_simp
      try simp only [ga, gb, gc, Act.put, gd, ge, gf]
      refine tkL 7 (.int .u64 (lm x k)) rfl (by kernel_rfl) (fun _ _ _ h => (h : False).elim) (by kernel_rfl) ‹_› ?_ ?_
      · intro w hSw
        obtain ⟨s0, s1, s2⟩ := hSw
        go_simp
      try simp only [ga, gb, gc, Act.put, gd, ge, gf]
      refine tkA 8 (.slice (some ⟨bb, ob, none⟩) m cb) rfl (by kernel_rfl) (fun _ _ _ h => (h : False).elim) (by kernel_rfl) (fun _ => ‹_›) ?_ ?_
      · intro w _; go_simp
      try simp only [ga, gb, gc, Act.put, gd, ge, gf]
      refine tkA 9 (.int .i64 (k : Int)) rfl (by kernel_rfl) (fun _ _ _ h => (h : False).elim) (by kernel_rfl) (fun _ => ‹_›) ?_ ?_
      · intro w _; go_simp
      try simp only [ga, gb, gc, Act.put, gd, ge, gf]
      refine tkA 10 (.pointer (some ⟨bb, ob + k, none⟩)) rfl (by kernel_rfl) (fun _ _ _ h => (h : False).elim) (by kernel_rfl) (fun _ => ‹_›) ?_ ?_
      · intro w _; go_simp
      try simp only [ga, gb, gc, Act.put, gd, ge, gf]
      refine tkL 11 (.int .u64 (lm y k)) rfl (by kernel_rfl) (fun _ _ _ h => (h : False).elim) (by kernel_rfl) ‹_› ?_ ?_
      · intro w hSw
        obtain ⟨s0, s1, s2⟩ := hSw
        go_simp
      try simp only [ga, gb, gc, Act.put, gd, ge, gf]
      refine tkA 12 (.int .u64 (cya x y k)) rfl (by kernel_rfl) (fun _ _ _ h => (h : False).elim) (by kernel_rfl) (fun _ => ‹_›) ?_ ?_
      · intro w _; go_simp
      try simp only [ga, gb, gc, Act.put, gd, ge, gf]
      refine wpAnyL_next (i := 13) (by kernel_rfl) rfl (fun K hK => ?_)
      go_simp
      refine (wadd_calls _ _ _ (lm_isU x k) (lm_isU y k) (cya_ok x y k).1 (cya_ok x y k).2 _).mono ?_; rintro e w5 ⟨rfl, rfl⟩
      rw [add_lm, ← cya_succ]
      go_wp2_with fail
      refine hK.out _ _ ⟨s0, s1, s2⟩ (fun hHeld => ?_)
      clear hK K
      try simp only [ga, gb, gc, Act.put, gd, ge, gf]
      refine tkA 14 (.tuple #[.int .u64 (lm (x + y) k), .int .u64 (cya x y (k + 1))]) rfl (by kernel_rfl) (fun _ _ _ h => (h : False).elim) (by kernel_rfl) (fun _ => ‹_›) ?_ ?_
      · intro w _; go_simp
      try simp only [ga, gb, gc, Act.put, gd, ge, gf]
      refine tkA 15 (.int .u64 (lm (x + y) k)) rfl (by kernel_rfl) (fun _ _ _ h => (h : False).elim) (by kernel_rfl) (fun _ => ‹_›) ?_ ?_
      · intro w _; go_simp
      try simp only [ga, gb, gc, Act.put, gd, ge, gf]
      refine tkA 16 (.int .u64 (cya x y (k + 1))) rfl (by kernel_rfl) (fun _ _ _ h => (h : False).elim) (by kernel_rfl) (fun _ => ‹_›) ?_ ?_
      · intro w _; go_simp
      try simp only [ga, gb, gc, Act.put, gd, ge, gf]
      refine tkA 17 (.pointer (some ⟨g, k, none⟩)) rfl (by kernel_rfl) (fun _ _ _ h => (h : False).elim) (by kernel_rfl) (fun _ => ‹_›) ?_ ?_
      · intro w _; go_simp
      try simp only [ga, gb, gc, Act.put, gd, ge, gf]
      refine wpAnyL_late (i := 18) (by kernel_rfl) rfl (by kernel_rfl) (fun K hK => ?_)
      go_simp
      refine hK.out _ _ (fun _ => ?_)
      clear hK K
      try simp only [ga, gb, gc, Act.put, gd, ge, gf]
      refine wpAnyL_after (i := 19) (oi := _) (v := .int .u64 (cya x y (k + 1))) rfl (by kernel_rfl) (by kernel_rfl) (by kernel_rfl) (by kernel_rfl) (by kernel_rfl) (fun _ _ _ h => (h : False).elim) (Or.inl ⟨by kernel_rfl, ?_⟩) ?_
      · intro w _; go_simp
      try simp only [ga, gb, gc, Act.put, gd, ge, gf]
      refine wpAnyL_done (by kernel_rfl) ?_ _
      refine NoPanic.normal ?_
      have Hk6 := Lib.hid ((HK.out.setCell ⟨g, k, none⟩ (fun _ => rfl) (.int .u64 (lm (x + y) k))).drewN 1)
      clear hS c0 c1 c2
      go_wp2
      go_roundw
      case rel => exact ⟨k + 1, by omega, by go_num, rfl, Hst.out, Hk6.out⟩
      case measure => simp [intOf]; omega
    · obtain rfl : k = m := by omega
      have Hr := Lib.hid hr
      have HK := Lib.hid hK
      clear hr hK hkw
      go_wp2
      go_ret
      have hr3 := Hr.out
      rw [mixU_all] at hr3
      obtain ⟨h1, _⟩ := wAt_row (l := limbs k (x + y)) (by rw [limbs_length]; exact hr3) (fun h => by have := congrArg List.length h; rw [limbs_length] at this; simp at this; omega)
      exact ⟨_, rfl, h1, hk2.trans HK.out (fun i hi h => by omega)⟩
set_option maxRecDepth 100000 in
set_option maxHeartbeats 4000000 in
theorem apply_sub (v u : Value) (m : Nat) (x y : Int) (hm1 : 1 ≤ m) (hm : m ≤ 8) (w : World) (hv : numAt w v m x) (hu : numAt w u m y) :
    Calls Tryz.prog 105 #[.agg #[.func (.func 131) #[] #[]], v, u, .int .u64 0] w (GivesNum w m (x - y)) := by
  obtain ⟨i0, hi, hz0, hz1, hz2⟩ := info_parts infoW
  have hmk := fun w => run_make (P := Tryz.prog) w 73 43 i0 (.int .u64 0) Tryz.underlying73 hi hz0 .i64 .i64 (m : Int) (m : Int) (by omega) (Int.le_refl _) (by rw [hz2]; omega) (by omega)
  rw [hz1] at hmk
  simp only [Int.toNat_natCast, Nat.mul_one] at hmk
  have hZ := made_zeros m
  generalize madeCells (Value.int IntKind.u64 0).cells m = Z at hmk hZ
  have HZ := Lib.hid hZ
  clear hZ hi hz0 hz1 hz2
  obtain ⟨ba, oa, ca, rfl, hba, hca⟩ := hv.cases
  obtain ⟨bb, ob, cb, rfl, hbb, hcb⟩ := hu.cases
  have HA := Lib.hid hca
  have HB := Lib.hid hcb
  have hka : Keeps (fun _ => False) w (w.alloc (.cells #[.func (.func 131) #[] #[]] 171)) := (Keeps.refl _ w).alloc _
  have hE0 := heap_alloc_new w (.cells #[.func (.func 131) #[] #[]] 171)
  clear hca hcb hv hu
  go_enter Tryz.func105, Tryz.ntmps105
  go_wp2_with fail
  refine (is_two' _ _ (w.alloc (.cells #[.func (.func 131) #[] #[]] 171)) _ _ (by simp) ⟨_, _, _, rfl, by omega, by omega⟩ ⟨_, _, _, rfl, by omega, by omega⟩ rfl).mono ?_; rintro e w1 ⟨rfl, rfl⟩
  obtain ⟨w1, hw1⟩ : ∃ w1, (w.alloc (.cells #[.func (.func 131) #[] #[]] 171)).alloc (.cells #[.slice (some ⟨ba, oa, none⟩) m ca, .slice (some ⟨bb, ob, none⟩) m cb] 73) = w1 := ⟨_, rfl⟩
  have hk1 : Keeps (fun _ => False) w w1 := by rw [← hw1]; exact hka.alloc _
  have hE1 : w1.heap[w.heap.size]? = some (.cells #[.func (.func 131) #[] #[]] 171 (0, 0)) := by rw [← hw1, Below.heap_alloc _ _ _ (by simp)]; exact hE0
  rw [hw1]
  clear hw1 hka hE0
  go_wp2_with (simp only [hmk])
  obtain ⟨w2, hw2⟩ : ∃ w2, w1.alloc (.cells Z 43) = w2 := ⟨_, rfl⟩
  obtain ⟨g, hg⟩ : ∃ g, w1.heap.size = g := ⟨_, rfl⟩
  have hElt := (Array.getElem?_eq_some_iff.1 hE1).1
  have hr2 : w2.ownsRow g 43 1 (.slice (some ⟨g, 0, none⟩) m m) m (wfl (mixU (x - y) m 0)) := by
    rw [mixU_zero, ← hw2]
    have := made_row w1 w1.heap.size m Z HZ.out (Nat.le_refl _) (by omega)
    rw [hg] at this
    exact this
  have hk2 : Keeps (fun _ => False) w w2 := by rw [← hw2]; exact hk1.alloc _
  have hE2 : w2.heap[w.heap.size]? = some (.cells #[.func (.func 131) #[] #[]] 171 (0, 0)) := by rw [← hw2, Below.heap_alloc _ _ _ hElt]; exact hE1
  have hwg : w.heap.size < g := by rw [← hg]; exact hElt
  have hg2 : g < w2.heap.size := by rw [← hw2, ← hg]; simp
  rw [hw2]
  try rw [hg]
  clear hw2 hE1 hk1 HZ hmk hg hElt
  go_loopw [3, 10, 28] (fun c _ i wr => ∃ k : Nat, k ≤ m ∧ i = .int .i64 k ∧ c = .int .u64 (cys x y k) ∧ wr.ownsRow g 43 1 (.slice (some ⟨g, 0, none⟩) m m) m (wfl (mixU (x - y) m k)) ∧ Keeps (fun j => j = g) w2 wr) (fun _ _ i _ => m - (intOf i).toNat)
  case atStart => exact ⟨0, Nat.zero_le _, rfl, by rw [cys_zero], hr2, Keeps.refl _ _⟩
  case round =>
    clear hr2
    obtain ⟨k, hk, rfl, rfl, hr, hK⟩ := hrel
    have hkw : Keeps (fun _ => False) w wr := hk2.trans hK (fun i hi h => by omega)
    by_cases hlt : k < m
    · have hlt' : (k : Int) < (m : Int) := by omega
      have hk0 : (0 : Int) ≤ (k : Int) := by omega
      have c0 : wr.cell? ⟨w.heap.size, 0, none⟩ = some (.func (.func 131) #[] #[]) := by
        have := (hK.block w.heap.size (Array.getElem?_eq_some_iff.1 hE2).1 (by omega)).trans hE2
        rw [cell_of_row _ _ _ _ _ _ this]; rfl
      have c1 := (hkw.cell (p := ⟨ba, oa + k, none⟩) hba (fun h => h)).trans (HA.out k hlt)
      have c2 := (hkw.cell (p := ⟨bb, ob + k, none⟩) hbb (fun h => h)).trans (HB.out k hlt)
      have hf := hr.frozenAt k
      have hp := (hr.cellAt k (by omega)).trans (wfl_get (l := mixU (x - y) m k) (i := k) (x := 0) (by unfold mixU; rw [List.getElem?_append_right (by rw [limbs_length]; omega), limbs_length, Nat.sub_self, List.getElem?_replicate, if_pos (by omega)]))
      have hst := (hr.stored k (.int .u64 (lm (x - y) k))).1
      rw [wfl_set, mixU_set hlt] at hst
      have Hst := Lib.hid hst
      have HK := Lib.hid hK
      clear hst hr hkw hK hE2 hk2
      go_wp2_with fail
      refine wp_region_late (fun W => W.cell? ⟨w.heap.size, 0, none⟩ = some (.func (.func 131) #[] #[]) ∧ W.cell? ⟨ba, oa + k, none⟩ = some (.int .u64 (lm x k)) ∧ W.cell? ⟨bb, ob + k, none⟩ = some (.int .u64 (lm y k))) [18] (by kernel_rfl) ?_
      have hS : wr.drew.cell? ⟨w.heap.size, 0, none⟩ = some (.func (.func 131) #[] #[]) ∧ wr.drew.cell? ⟨ba, oa + k, none⟩ = some (.int .u64 (lm x k)) ∧ wr.drew.cell? ⟨bb, ob + k, none⟩ = some (.int .u64 (lm y k)) := ⟨c0, c1, c2⟩
      obtain ⟨s0, s1, s2⟩ := id hS
      refine tkA 0 (.slice (some ⟨g, 0, none⟩) m m) rfl (by kernel_rfl) (fun _ _ _ h => (h : False).elim) (by kernel_rfl) (fun _ => ‹_›) ?_ ?_
      · intro w _; go_simp
      try simp only [ga, gb, gc, Act.put, gd, ge, gf]
      refine tkA 1 (.int .i64 (k : Int)) rfl (by kernel_rfl) (fun _ _ _ h => (h : False).elim) (by kernel_rfl) (fun _ => ‹_›) ?_ ?_
      · intro w _; go_simp
      try simp only [ga, gb, gc, Act.put, gd, ge, gf]
      refine tkA 2 (.pointer (some ⟨w.heap.size, 0, none⟩)) rfl (by kernel_rfl) (fun _ _ _ h => (h : False).elim) (by kernel_rfl) (fun _ => ‹_›) ?_ ?_
      · intro w _; go_simp
      try simp only [ga, gb, gc, Act.put, gd, ge, gf]
      refine tkL 3 (.func (.func 131) #[] #[]) rfl (by kernel_rfl) (fun _ _ _ h => (h : False).elim) (by kernel_rfl) ‹_› ?_ ?_
      · intro w hSw
        obtain ⟨s0, s1, s2⟩ := hSw
        go_simp
      try simp only [ga, gb, gc, Act.put, gd, ge, gf]
      refine tkA 4 (.slice (some ⟨ba, oa, none⟩) m ca) rfl (by kernel_rfl) (fun _ _ _ h => (h : False).elim) (by kernel_rfl) (fun _ => ‹_›) ?_ ?_
      · intro w _; go_simp
      try simp only [ga, gb, gc, Act.put, gd, ge, gf]
      refine tkA 5 (.int .i64 (k : Int)) rfl (by kernel_rfl) (fun _ _ _ h => (h : False).elim) (by kernel_rfl) (fun _ => ‹_›) ?_ ?_
      · intro w _; go_simp
      try simp only [ga, gb, gc, Act.put, gd, ge, gf]
      refine tkA 6 (.pointer (some ⟨ba, oa + k, none⟩)) rfl (by kernel_rfl) (fun _ _ _ h => (h : False).elim) (by kernel_rfl) (fun _ => ‹_›) ?_ ?_
      · intro w _; go_simp
      try simp only [ga, gb, gc, Act.put, gd, ge, gf]
      refine tkL 7 (.int .u64 (lm x k)) rfl (by kernel_rfl) (fun _ _ _ h => (h : False).elim) (by kernel_rfl) ‹_› ?_ ?_
      · intro w hSw
        obtain ⟨s0, s1, s2⟩ := hSw
        go_simp
      try simp only [ga, gb, gc, Act.put, gd, ge, gf]
      refine tkA 8 (.slice (some ⟨bb, ob, none⟩) m cb) rfl (by kernel_rfl) (fun _ _ _ h => (h : False).elim) (by kernel_rfl) (fun _ => ‹_›) ?_ ?_
      · intro w _; go_simp
      try simp only [ga, gb, gc, Act.put, gd, ge, gf]
      refine tkA 9 (.int .i64 (k : Int)) rfl (by kernel_rfl) (fun _ _ _ h => (h : False).elim) (by kernel_rfl) (fun _ => ‹_›) ?_ ?_
      · intro w _; go_simp
      try simp only [ga, gb, gc, Act.put, gd, ge, gf]
      refine tkA 10 (.pointer (some ⟨bb, ob + k, none⟩)) rfl (by kernel_rfl) (fun _ _ _ h => (h : False).elim) (by kernel_rfl) (fun _ => ‹_›) ?_ ?_
      · intro w _; go_simp
      try simp only [ga, gb, gc, Act.put, gd, ge, gf]
      refine tkL 11 (.int .u64 (lm y k)) rfl (by kernel_rfl) (fun _ _ _ h => (h : False).elim) (by kernel_rfl) ‹_› ?_ ?_
      · intro w hSw
        obtain ⟨s0, s1, s2⟩ := hSw
        go_simp
      try simp only [ga, gb, gc, Act.put, gd, ge, gf]
      refine tkA 12 (.int .u64 (cys x y k)) rfl (by kernel_rfl) (fun _ _ _ h => (h : False).elim) (by kernel_rfl) (fun _ => ‹_›) ?_ ?_
      · intro w _; go_simp
      try simp only [ga, gb, gc, Act.put, gd, ge, gf]
      refine wpAnyL_next (i := 13) (by kernel_rfl) rfl (fun K hK => ?_)
      go_simp
      refine (wsub_calls _ _ _ (lm_isU x k) (lm_isU y k) (cys_ok x y k).1 (cys_ok x y k).2 _).mono ?_; rintro e w5 ⟨rfl, rfl⟩
      rw [sub_lm, ← cys_succ]
      go_wp2_with fail
      refine hK.out _ _ ⟨s0, s1, s2⟩ (fun hHeld => ?_)
      clear hK K
      try simp only [ga, gb, gc, Act.put, gd, ge, gf]
      refine tkA 14 (.tuple #[.int .u64 (lm (x - y) k), .int .u64 (cys x y (k + 1))]) rfl (by kernel_rfl) (fun _ _ _ h => (h : False).elim) (by kernel_rfl) (fun _ => ‹_›) ?_ ?_
      · intro w _; go_simp
      try simp only [ga, gb, gc, Act.put, gd, ge, gf]
      refine tkA 15 (.int .u64 (lm (x - y) k)) rfl (by kernel_rfl) (fun _ _ _ h => (h : False).elim) (by kernel_rfl) (fun _ => ‹_›) ?_ ?_
      · intro w _; go_simp
      try simp only [ga, gb, gc, Act.put, gd, ge, gf]
      refine tkA 16 (.int .u64 (cys x y (k + 1))) rfl (by kernel_rfl) (fun _ _ _ h => (h : False).elim) (by kernel_rfl) (fun _ => ‹_›) ?_ ?_
      · intro w _; go_simp
      try simp only [ga, gb, gc, Act.put, gd, ge, gf]
      refine tkA 17 (.pointer (some ⟨g, k, none⟩)) rfl (by kernel_rfl) (fun _ _ _ h => (h : False).elim) (by kernel_rfl) (fun _ => ‹_›) ?_ ?_
      · intro w _; go_simp
      try simp only [ga, gb, gc, Act.put, gd, ge, gf]
      refine wpAnyL_late (i := 18) (by kernel_rfl) rfl (by kernel_rfl) (fun K hK => ?_)
      go_simp
      refine hK.out _ _ (fun _ => ?_)
      clear hK K
      try simp only [ga, gb, gc, Act.put, gd, ge, gf]
      refine wpAnyL_after (i := 19) (oi := _) (v := .int .u64 (cys x y (k + 1))) rfl (by kernel_rfl) (by kernel_rfl) (by kernel_rfl) (by kernel_rfl) (by kernel_rfl) (fun _ _ _ h => (h : False).elim) (Or.inl ⟨by kernel_rfl, ?_⟩) ?_
      · intro w _; go_simp
      try simp only [ga, gb, gc, Act.put, gd, ge, gf]
      refine wpAnyL_done (by kernel_rfl) ?_ _
      refine NoPanic.normal ?_
      have Hk6 := Lib.hid ((HK.out.setCell ⟨g, k, none⟩ (fun _ => rfl) (.int .u64 (lm (x - y) k))).drewN 1)
      clear hS c0 c1 c2
      go_wp2
      go_roundw
      case rel => exact ⟨k + 1, by omega, by go_num, rfl, Hst.out, Hk6.out⟩
      case measure => simp [intOf]; omega
    · obtain rfl : k = m := by omega
      have Hr := Lib.hid hr
      have HK := Lib.hid hK
      clear hr hK hkw
      go_wp2
      go_ret
      have hr3 := Hr.out
      rw [mixU_all] at hr3
      obtain ⟨h1, _⟩ := wAt_row (l := limbs k (x - y)) (by rw [limbs_length]; exact hr3) (fun h => by have := congrArg List.length h; rw [limbs_length] at this; simp at this; omega)
      exact ⟨_, rfl, h1, hk2.trans HK.out (fun i hi h => by omega)⟩
theorem ladd_calls (v u : Value) (m : Nat) (x y : Int) (hm1 : 1 ≤ m) (hm : m ≤ 8) (w : World) (hv : numAt w v m x) (hu : numAt w u m y) :
    Calls Tryz.prog 72 #[v, u] w (GivesNum w m (x + y)) := by
  obtain ⟨ba, oa, ca, rfl, hba, hca⟩ := hv.cases
  obtain ⟨bb, ob, cb, rfl, hbb, hcb⟩ := hu.cases
  have HV := Lib.hid hv
  have HU := Lib.hid hu
  clear hv hu hca hcb
  go_enter Tryz.func72, Tryz.ntmps72
  go_wp2_with fail
  refine (apply_add _ _ m x y hm1 hm w HV.out HU.out).mono ?_; rintro e w1 ⟨v', rfl, hv', hk'⟩
  go_wp2
  go_ret
  exact ⟨v', rfl, hv', hk'⟩
theorem lsub_calls (v u : Value) (m : Nat) (x y : Int) (hm1 : 1 ≤ m) (hm : m ≤ 8) (w : World) (hv : numAt w v m x) (hu : numAt w u m y) :
    Calls Tryz.prog 101 #[v, u] w (GivesNum w m (x - y)) := by
  obtain ⟨ba, oa, ca, rfl, hba, hca⟩ := hv.cases
  obtain ⟨bb, ob, cb, rfl, hbb, hcb⟩ := hu.cases
  have HV := Lib.hid hv
  have HU := Lib.hid hu
  clear hv hu hca hcb
  go_enter Tryz.func101, Tryz.ntmps101
  go_wp2_with fail
  refine (apply_sub _ _ m x y hm1 hm w HV.out HU.out).mono ?_; rintro e w1 ⟨v', rfl, hv', hk'⟩
  go_wp2
  go_ret
  exact ⟨v', rfl, hv', hk'⟩
set_option maxRecDepth 100000 in
set_option maxHeartbeats 4000000 in
theorem lmul_calls (v u : Value) (m1 m2 : Nat) (x y : Int) (hm : m1 + 1 + (m2 + 1) ≤ 8) (w : World) (hv : numAt w v (m1 + 1) x) (hu : numAt w u (m2 + 1) y) (hx : Fit (m1 + 1) x) (hy : Fit (m2 + 1) y) :
    Calls Tryz.prog 73 #[v, u] w (GivesNum w (m1 + 1 + (m2 + 1)) (x * y)) := by
  obtain ⟨n, hn⟩ : ∃ n, m1 + 1 + (m2 + 1) = n := ⟨_, rfl⟩
  have hnI : (m1 : Int) + 1 + ((m2 : Int) + 1) = (n : Int) := by omega
  rw [hn] at hm ⊢
  have hn1 : 1 ≤ n := by omega
  have HN := Lib.hid hn
  obtain ⟨i0, hi, hz0, hz1, hz2⟩ := info_parts infoW
  have hmk := fun w => run_make (P := Tryz.prog) w 73 43 i0 (.int .u64 0) Tryz.underlying73 hi hz0 .i64 .i64 (n : Int) (n : Int) (by omega) (Int.le_refl _) (by rw [hz2]; omega) (by omega)
  rw [hz1] at hmk
  simp only [Int.toNat_natCast, Nat.mul_one] at hmk
  have hZ := made_zeros n
  generalize madeCells (Value.int IntKind.u64 0).cells n = Z at hmk hZ
  have HZ := Lib.hid hZ
  clear hZ hi hz0 hz1 hz2
  obtain ⟨ba, oa, ca, rfl, hba, _⟩ := hv.cases
  obtain ⟨bb, ob, cb, rfl, hbb, _⟩ := hu.cases
  have HV := Lib.hid hv
  have HU := Lib.hid hu
  have h8 : ¬ (n : Int) > 8 := by omega
  have FX := Lib.hid hx
  have FY := Lib.hid hy
  clear hv hu hn hx hy
  go_enter Tryz.func73, Tryz.ntmps73
  go_wp2_with fail
  refine (is_two _ _ w _ ⟨_, _, _, rfl, by have := HN.out; omega, by have := HN.out; omega⟩ ⟨_, _, _, rfl, by have := HN.out; omega, by have := HN.out; omega⟩ rfl).mono ?_; rintro e w1 ⟨rfl, rfl⟩
  obtain ⟨w1, hw1⟩ : ∃ w1, w.alloc (.cells #[.slice (some ⟨ba, oa, none⟩) (m1 + 1) ca, .slice (some ⟨bb, ob, none⟩) (m2 + 1) cb] 73) = w1 := ⟨_, rfl⟩
  have hk1 : Keeps (fun _ => False) w w1 := by rw [← hw1]; exact (Keeps.refl _ w).alloc _
  rw [hw1]
  clear hw1
  go_wp2_with fail
  refine (extend_calls _ m1 n x (by have := HN.out; omega) (by omega) (by omega) (.inr FX.out) w1 (HV.out.kept hk1)).mono ?_; rintro e w2 ⟨vx, rfl, hvx, hk2⟩
  have hk2 := knil hk1 hk2
  go_wp2_with fail
  refine (extend_calls _ m2 n y (by have := HN.out; omega) (by omega) (by omega) (.inr FY.out) w2 (HU.out.kept hk2)).mono ?_; rintro e w3 ⟨vy, rfl, hvy, hk3⟩
  have hvx3 := hvx.kept hk3
  have hk3 := knil hk2 hk3
  obtain ⟨bx, ox, cx, rfl, hbx, hcx⟩ := hvx3.cases
  obtain ⟨by_, oy, cy, rfl, hby, hcy⟩ := hvy.cases
  have HX := Lib.hid hcx
  have HY := Lib.hid hcy
  clear hvx hvx3 hvy hcx hcy hk1 hk2
  go_wp2_with (simp only [hmk])
  obtain ⟨w4, hw4⟩ : ∃ w4, w3.alloc (.cells Z 43) = w4 := ⟨_, rfl⟩
  obtain ⟨g, hg⟩ : ∃ g, w3.heap.size = g := ⟨_, rfl⟩
  have hr4 : w4.ownsRow g 43 1 (.slice (some ⟨g, 0, none⟩) n n) n (wfl (List.replicate n 0)) := by
    rw [← hw4]
    have := made_row w3 w3.heap.size n Z HZ.out (Nat.le_refl _) (by omega)
    rw [hg] at this
    exact this
  have hk4 : Keeps (fun _ => False) w w4 := by rw [← hw4]; exact hk3.alloc _
  have hk34 : Keeps (fun _ => False) w3 w4 := by rw [← hw4]; exact (Keeps.refl _ w3).alloc _
  have hwg : w.heap.size ≤ g := by rw [← hg]; exact hk3.size
  have hg4 : g < w4.heap.size := by rw [← hw4, ← hg]; simp
  have HX4 : RowKit.Hid (∀ i, i < n → w4.cell? ⟨bx, ox + i, none⟩ = some (.int .u64 (lm x i))) := Lib.hid (fun i hi => (hk34.cell (p := ⟨bx, ox + i, none⟩) hbx (fun h => h)).trans (HX.out i hi))
  have HY4 : RowKit.Hid (∀ i, i < n → w4.cell? ⟨by_, oy + i, none⟩ = some (.int .u64 (lm y i))) := Lib.hid (fun i hi => (hk34.cell (p := ⟨by_, oy + i, none⟩) hby (fun h => h)).trans (HY.out i hi))
  rw [hg] at hbx hby
  rw [hw4]
  try rw [hg]
  clear hw4 HZ hmk hg hk34 hk3 HX HY
  have HM0 := Lib.hid (mulInv_start x y n)
  go_loopw [9, 10, 11, 35] (fun _ _ _ i wr => ∃ (k : Nat) (out : List Int), k ≤ n ∧ i = .int .i64 k ∧ RowKit.Hid (MulInv x y n k 0 out 0) ∧ wr.ownsRow g 43 1 (.slice (some ⟨g, 0, none⟩) n n) n (wfl out) ∧ Keeps (fun j => j = g) w4 wr) (fun _ _ _ i _ => n - (intOf i).toNat)
  case atStart => exact ⟨0, _, Nat.zero_le _, rfl, HM0, hr4, Keeps.refl _ _⟩
  case round =>
    clear hr4 HM0
    obtain ⟨i, out, hin, rfl, HM, hr, hK⟩ := hrel
    by_cases hlt : i < n
    · have hlt' : (i : Int) < (n : Int) := by omega
      have hi0 : (0 : Int) ≤ (i : Int) := by omega
      have hcx := (hK.cell (p := ⟨bx, ox + i, none⟩) (Nat.lt_trans hbx hg4) (by show ¬ bx = g; omega)).trans (HX4.out i hlt)
      have HCX := Lib.hid hcx
      obtain ⟨d, hd⟩ : ∃ d, n - i = d := ⟨_, rfl⟩
      have hdI : (n : Int) - (i : Int) = (d : Int) := by omega
      have HD := Lib.hid hd
      clear hcx hd
      go_wp2_with fail
      go_loopw [10, 11, 41] (fun c _ jv wr2 => ∃ (j : Nat) (o2 : List Int) (cc : Int), j ≤ d ∧ jv = .int .i64 j ∧ c = .int .u64 cc ∧ RowKit.Hid (MulInv x y n i j o2 cc) ∧ wr2.ownsRow g 43 1 (.slice (some ⟨g, 0, none⟩) n n) n (wfl o2) ∧ Keeps (fun j => j = g) w4 wr2) (fun _ _ jv _ => d - (intOf jv).toNat)
      case atStart => exact ⟨0, out, 0, Nat.zero_le _, rfl, rfl, HM, hr, hK⟩
      case round =>
        clear hr hK HM
        obtain ⟨j, o2, c, hjd, rfl, rfl, HM, hr, hK⟩ := hrel
        by_cases hjt : j < d
        · have hjt' : (j : Int) < (d : Int) := by omega
          have hj0 : (0 : Int) ≤ (j : Int) := by omega
          obtain ⟨q, hq⟩ : ∃ q, i + j = q := ⟨_, rfl⟩
          have hqI : (i : Int) + (j : Int) = (q : Int) := by omega
          have hqn : q < n := by have := HD.out; omega
          have hqn' : (q : Int) < (n : Int) := by omega
          have hq0 : (0 : Int) ≤ (q : Int) := by omega
          have hqw : IntKind.i64.wrap (q : Int) = (q : Int) := by rw [IntKind.wrap_i64]; omega
          have hjn : j < n := by omega
          have hjn' : (j : Int) < (n : Int) := by omega
          obtain ⟨o, ho⟩ : ∃ o, o2[q]? = some o := ⟨o2[q]'(by rw [HM.out.1]; exact hqn), List.getElem?_eq_getElem _⟩
          have hoU := Lib.hid (HM.out.2.1 o (List.mem_of_getElem? ho))
          have hcU := Lib.hid HM.out.2.2.1
          obtain ⟨hi, hhi⟩ : ∃ hi, (lm x i * lm y j + o + c) / 18446744073709551616 = hi := ⟨_, rfl⟩
          obtain ⟨lo, hlo⟩ : ∃ lo, (lm x i * lm y j + o + c) % 18446744073709551616 = lo := ⟨_, rfl⟩
          have hloU : IsU lo := by rw [← hlo]; unfold IsU; omega
          have hhiU : IsU hi := by
            rw [← hhi]
            have := (muladd_num (lm_isU x i) (lm_isU y j) hoU.out hcU.out)
            have a1 := hoU.out
            have a2 := hcU.out
            unfold IsU at a1 a2 ⊢
            omega
          have HM2 := Lib.hid (mulInv_step HM.out (by rw [hq]; exact ho) hloU hhiU (by rw [← hhi, ← hlo]; omega))
          rw [hq] at HM2
          have c0 := (hK.cell (p := ⟨bx, ox + i, none⟩) (Nat.lt_trans hbx hg4) (by show ¬ bx = g; omega)).trans (HX4.out i hlt)
          have c1 := (hK.cell (p := ⟨by_, oy + j, none⟩) (Nat.lt_trans hby hg4) (by show ¬ by_ = g; omega)).trans (HY4.out j hjn)
          have hf := hr.frozenAt q
          have hp := (hr.cellAt q (by omega)).trans (wfl_get ho)
          have hst := (hr.stored q (.int .u64 lo)).1
          rw [wfl_set] at hst
          have Hst := Lib.hid hst
          have HK := Lib.hid hK
          have Ho := Lib.hid ho
          have Hhi := Lib.hid hhi
          have Hlo := Lib.hid hlo
          clear hst hr hK ho hloU hhiU hk4 HM HCX hq hhi hlo
          go_wp2_with fail
          refine wp_region_late (fun W => W.cell? ⟨bx, ox + i, none⟩ = some (.int .u64 (lm x i)) ∧ W.cell? ⟨by_, oy + j, none⟩ = some (.int .u64 (lm y j)) ∧ W.cell? ⟨g, q, none⟩ = some (.int .u64 o)) [25] (by kernel_rfl) ?_
          have hS : wr.drew.cell? ⟨bx, ox + i, none⟩ = some (.int .u64 (lm x i)) ∧ wr.drew.cell? ⟨by_, oy + j, none⟩ = some (.int .u64 (lm y j)) ∧ wr.drew.cell? ⟨g, q, none⟩ = some (.int .u64 o) := ⟨c0, c1, hp⟩
          obtain ⟨s0, s1, s2⟩ := id hS
          refine tkA 0 (.slice (some ⟨g, 0, none⟩) n n) rfl (by kernel_rfl) (fun _ _ _ h => (h : False).elim) (by kernel_rfl) (fun _ => ‹_›) ?_ ?_
          · intro w _; go_simp
          try simp only [ga, gb, gc, Act.put, gd, ge, gf]
          refine tkA 1 (.int .i64 (i : Int)) rfl (by kernel_rfl) (fun _ _ _ h => (h : False).elim) (by kernel_rfl) (fun _ => ‹_›) ?_ ?_
          · intro w _; go_simp
          try simp only [ga, gb, gc, Act.put, gd, ge, gf]
          refine tkA 2 (.int .i64 (j : Int)) rfl (by kernel_rfl) (fun _ _ _ h => (h : False).elim) (by kernel_rfl) (fun _ => ‹_›) ?_ ?_
          · intro w _; go_simp
          try simp only [ga, gb, gc, Act.put, gd, ge, gf]
          refine tkA 3 (.int .i64 (q : Int)) rfl (by kernel_rfl) (fun _ _ _ h => (h : False).elim) (by kernel_rfl) (fun _ => ‹_›) ?_ ?_
          · intro w _; go_simp
          try simp only [ga, gb, gc, Act.put, gd, ge, gf]
          refine tkA 4 (.slice (some ⟨bx, ox, none⟩) n cx) rfl (by kernel_rfl) (fun _ _ _ h => (h : False).elim) (by kernel_rfl) (fun _ => ‹_›) ?_ ?_
          · intro w _; go_simp
          try simp only [ga, gb, gc, Act.put, gd, ge, gf]
          refine tkA 5 (.int .i64 (i : Int)) rfl (by kernel_rfl) (fun _ _ _ h => (h : False).elim) (by kernel_rfl) (fun _ => ‹_›) ?_ ?_
          · intro w _; go_simp
          try simp only [ga, gb, gc, Act.put, gd, ge, gf]
          refine tkA 6 (.pointer (some ⟨bx, ox + i, none⟩)) rfl (by kernel_rfl) (fun _ _ _ h => (h : False).elim) (by kernel_rfl) (fun _ => ‹_›) ?_ ?_
          · intro w _; go_simp
          try simp only [ga, gb, gc, Act.put, gd, ge, gf]
          refine tkL 7 (.int .u64 (lm x i)) rfl (by kernel_rfl) (fun _ _ _ h => (h : False).elim) (by kernel_rfl) ‹_› ?_ ?_
          · intro w hSw
            obtain ⟨s0, s1, s2⟩ := hSw
            go_simp
          try simp only [ga, gb, gc, Act.put, gd, ge, gf]
          refine tkA 8 (.slice (some ⟨by_, oy, none⟩) n cy) rfl (by kernel_rfl) (fun _ _ _ h => (h : False).elim) (by kernel_rfl) (fun _ => ‹_›) ?_ ?_
          · intro w _; go_simp
          try simp only [ga, gb, gc, Act.put, gd, ge, gf]
          refine tkA 9 (.int .i64 (j : Int)) rfl (by kernel_rfl) (fun _ _ _ h => (h : False).elim) (by kernel_rfl) (fun _ => ‹_›) ?_ ?_
          · intro w _; go_simp
          try simp only [ga, gb, gc, Act.put, gd, ge, gf]
          refine tkA 10 (.pointer (some ⟨by_, oy + j, none⟩)) rfl (by kernel_rfl) (fun _ _ _ h => (h : False).elim) (by kernel_rfl) (fun _ => ‹_›) ?_ ?_
          · intro w _; go_simp
          try simp only [ga, gb, gc, Act.put, gd, ge, gf]
          refine tkL 11 (.int .u64 (lm y j)) rfl (by kernel_rfl) (fun _ _ _ h => (h : False).elim) (by kernel_rfl) ‹_› ?_ ?_
          · intro w hSw
            obtain ⟨s0, s1, s2⟩ := hSw
            go_simp
          try simp only [ga, gb, gc, Act.put, gd, ge, gf]
          refine tkA 12 (.slice (some ⟨g, 0, none⟩) n n) rfl (by kernel_rfl) (fun _ _ _ h => (h : False).elim) (by kernel_rfl) (fun _ => ‹_›) ?_ ?_
          · intro w _; go_simp
          try simp only [ga, gb, gc, Act.put, gd, ge, gf]
          refine tkA 13 (.int .i64 (i : Int)) rfl (by kernel_rfl) (fun _ _ _ h => (h : False).elim) (by kernel_rfl) (fun _ => ‹_›) ?_ ?_
          · intro w _; go_simp
          try simp only [ga, gb, gc, Act.put, gd, ge, gf]
          refine tkA 14 (.int .i64 (j : Int)) rfl (by kernel_rfl) (fun _ _ _ h => (h : False).elim) (by kernel_rfl) (fun _ => ‹_›) ?_ ?_
          · intro w _; go_simp
          try simp only [ga, gb, gc, Act.put, gd, ge, gf]
          refine tkA 15 (.int .i64 (q : Int)) rfl (by kernel_rfl) (fun _ _ _ h => (h : False).elim) (by kernel_rfl) (fun _ => ‹_›) ?_ ?_
          · intro w _; go_simp
          try simp only [ga, gb, gc, Act.put, gd, ge, gf]
          refine tkA 16 (.pointer (some ⟨g, q, none⟩)) rfl (by kernel_rfl) (fun _ _ _ h => (h : False).elim) (by kernel_rfl) (fun _ => ‹_›) ?_ ?_
          · intro w _; go_simp
          try simp only [ga, gb, gc, Act.put, gd, ge, gf]
          refine tkL 17 (.int .u64 o) rfl (by kernel_rfl) (fun _ _ _ h => (h : False).elim) (by kernel_rfl) ‹_› ?_ ?_
          · intro w hSw
            obtain ⟨s0, s1, s2⟩ := hSw
            go_simp
          try simp only [ga, gb, gc, Act.put, gd, ge, gf]
          refine tkA 18 (.int .u64 c) rfl (by kernel_rfl) (fun _ _ _ h => (h : False).elim) (by kernel_rfl) (fun _ => ‹_›) ?_ ?_
          · intro w _; go_simp
          try simp only [ga, gb, gc, Act.put, gd, ge, gf]
          refine wpAnyL_next (i := 19) (by kernel_rfl) rfl (fun K hK => ?_)
          go_simp
          refine (muladd_calls _ _ _ _ (lm_isU x i) (lm_isU y j) hoU.out hcU.out _).mono ?_; rintro e w5 ⟨rfl, rfl⟩
          rw [Hhi.out, Hlo.out]
          go_wp2_with fail
          refine hK.out _ _ ⟨s0, s1, s2⟩ (fun hHeld => ?_)
          clear hK K
          try simp only [ga, gb, gc, Act.put, gd, ge, gf]
          refine tkA 20 (.tuple #[.int .u64 hi, .int .u64 lo]) rfl (by kernel_rfl) (fun _ _ _ h => (h : False).elim) (by kernel_rfl) (fun _ => ‹_›) ?_ ?_
          · intro w _; go_simp
          try simp only [ga, gb, gc, Act.put, gd, ge, gf]
          refine tkA 21 (.int .u64 hi) rfl (by kernel_rfl) (fun _ _ _ h => (h : False).elim) (by kernel_rfl) (fun _ => ‹_›) ?_ ?_
          · intro w _; go_simp
          try simp only [ga, gb, gc, Act.put, gd, ge, gf]
          refine tkA 22 (.int .u64 lo) rfl (by kernel_rfl) (fun _ _ _ h => (h : False).elim) (by kernel_rfl) (fun _ => ‹_›) ?_ ?_
          · intro w _; go_simp
          try simp only [ga, gb, gc, Act.put, gd, ge, gf]
          refine tkA 23 (.int .u64 hi) rfl (by kernel_rfl) (fun _ _ _ h => (h : False).elim) (by kernel_rfl) (fun _ => ‹_›) ?_ ?_
          · intro w _; go_simp
          try simp only [ga, gb, gc, Act.put, gd, ge, gf]
          refine tkA 24 (.pointer (some ⟨g, q, none⟩)) rfl (by kernel_rfl) (fun _ _ _ h => (h : False).elim) (by kernel_rfl) (fun _ => ‹_›) ?_ ?_
          · intro w _; go_simp
          try simp only [ga, gb, gc, Act.put, gd, ge, gf]
          refine wpAnyL_late (i := 25) (by kernel_rfl) rfl (by kernel_rfl) (fun K hK => ?_)
          go_simp
          refine hK.out _ _ (fun _ => ?_)
          clear hK K
          try simp only [ga, gb, gc, Act.put, gd, ge, gf]
          refine wpAnyL_done (by kernel_rfl) ?_ _
          refine NoPanic.normal ?_
          have Hk6 := Lib.hid ((HK.out.setCell ⟨g, q, none⟩ (fun _ => rfl) (.int .u64 lo)).drewN 1)
          clear hS c0 c1 hp s0 s1 s2
          go_wp2
          go_roundw
          case rel => exact ⟨j + 1, _, hi, by omega, by go_num, rfl, HM2, Hst.out, Hk6.out⟩
          case measure => simp [intOf]; omega
        · obtain rfl : j = d := by omega
          have Hr := Lib.hid hr
          have HK := Lib.hid hK
          have HM2 := Lib.hid (mulInv_row HM.out (by have := HD.out; omega))
          clear hr hK hk4
          go_wp2
          go_roundw
          case rel => exact ⟨i + 1, o2, by omega, by go_num, HM2, Hr.out, HK.out⟩
          case measure => simp [intOf]; omega
    · obtain rfl : i = n := by omega
      have Hr := Lib.hid hr
      have HK := Lib.hid hK
      have he := mulInv_end (j := 0) HM.out
      clear hr hK
      go_wp2
      go_ret
      have hr3 := Hr.out
      rw [he] at hr3
      obtain ⟨h1, _⟩ := wAt_row (l := limbs i (x * y)) (by rw [limbs_length]; exact hr3) (fun h => by have := congrArg List.length h; rw [limbs_length] at this; simp at this; omega)
      exact ⟨_, rfl, h1, hk4.trans HK.out (fun i hi h => by omega)⟩
end Go.Proofs.YtmoajobnhiopiaaGreatDoor.lm
set_option linter.unusedSimpArgs false
set_option linter.unusedVariables false
namespace Go.Proofs.YtmoajobnhiopiaaGreatDoor.gm
open Go Go.Proofs.YtmoajobnhiopiaaGreatDoor.mk Go.Proofs.YtmoajobnhiopiaaGreatDoor.lm
def cr (u v : Int × Int) : Int := u.1 * v.2 - u.2 * v.1
def vec (a b : Int × Int) : Int × Int := (b.1 - a.1, b.2 - a.2)
def det (a b c : Int × Int) : Int := cr (vec a b) (vec a c)
def nrm (u : Int × Int) : Int := u.1 * u.1 + u.2 * u.2
def inc (a b c d : Int × Int) : Int := nrm (vec d a) * cr (vec d b) (vec d c) + nrm (vec d b) * cr (vec d c) (vec d a) + nrm (vec d c) * cr (vec d a) (vec d b)
def Pt (p : Int × Int) : Prop := IsS p.1 ∧ IsS p.2
theorem sgnI_cases (x : Int) : (x < 0 ∧ sgnI x = -1) ∨ (x = 0 ∧ sgnI x = 0) ∨ (0 < x ∧ sgnI x = 1) := by
  unfold sgnI
  by_cases h : x < 0
  · exact .inl ⟨h, if_pos h⟩
  · rw [if_neg h]
    by_cases h0 : x = 0
    · exact .inr (.inl ⟨h0, if_pos h0⟩)
    · exact .inr (.inr ⟨by omega, if_neg h0⟩)
theorem sgnI_mul (x y : Int) : sgnI (x * y) = sgnI x * sgnI y := by
  rcases sgnI_cases x with ⟨h, e⟩ | ⟨h, e⟩ | ⟨h, e⟩ <;> rcases sgnI_cases y with ⟨k, f⟩ | ⟨k, f⟩ | ⟨k, f⟩ <;> rw [e, f]
  · rw [show sgnI (x * y) = 1 from by have := Int.mul_pos_of_neg_of_neg h k; unfold sgnI; rw [if_neg (by omega), if_neg (by omega)]]; rfl
  · subst k; rw [Int.mul_zero]; rfl
  · rw [show sgnI (x * y) = -1 from by have := Int.mul_neg_of_neg_of_pos h k; unfold sgnI; rw [if_pos (by omega)]]; rfl
  · subst h; rw [Int.zero_mul]; rfl
  · subst h; rw [Int.zero_mul]; rfl
  · subst h; rw [Int.zero_mul]; rfl
  · rw [show sgnI (x * y) = -1 from by have := Int.mul_neg_of_pos_of_neg h k; unfold sgnI; rw [if_pos (by omega)]]; rfl
  · subst k; rw [Int.mul_zero]; rfl
  · rw [show sgnI (x * y) = 1 from by have := Int.mul_pos h k; unfold sgnI; rw [if_neg (by omega), if_neg (by omega)]]; rfl
theorem sgnI_bound (x : Int) : -1 ≤ sgnI x ∧ sgnI x ≤ 1 := by
  rcases sgnI_cases x with ⟨h, e⟩ | ⟨h, e⟩ | ⟨h, e⟩ <;> rw [e] <;> omega
def locI (l : List Int) : Int := if l.any (fun x => decide (x < 0)) then -1 else if l.any (fun x => x == 0) then 0 else 1
def pt (v : List (Int × Int)) (i : Nat) : Int × Int := v.getD i (0, 0)
def edgeD (v : List (Int × Int)) (i : Nat) (p : Int × Int) : Int := det (pt v i) (pt v ((i + 1) % v.length)) p
def polyS (v : List (Int × Int)) : Int := sgnI (det (pt v 0) (pt v 1) (pt v 2))
def sides (v : List (Int × Int)) (k : Nat) (p : Int × Int) : List Int := (List.range k).map (fun i => polyS v * sgnI (edgeD v i p))
def In (n : Int) (x : Int) : Prop := -n ≤ x ∧ x ≤ n
theorem In.sub {m n x y : Int} (h : In m x) (k : In n y) : In (m + n) (x - y) := by unfold In at *; omega
theorem In.add {m n x y : Int} (h : In m x) (k : In n y) : In (m + n) (x + y) := by unfold In at *; omega
theorem In.mul {m n x y : Int} (h : In m x) (k : In n y) : In (m * n) (x * y) := by
  unfold In at *
  have e : ∀ a b : Int, -m ≤ a → a ≤ m → -n ≤ b → b ≤ n → a * b ≤ m * n := by
    intro a b h1 h2 h3 h4
    rcases Int.le_total 0 a with ha | ha
    · calc a * b ≤ a * n := Int.mul_le_mul_of_nonneg_left h4 ha
        _ ≤ m * n := Int.mul_le_mul_of_nonneg_right h2 (by omega)
    · have : a * b = (-a) * (-b) := by grind
      rw [this]
      calc (-a) * (-b) ≤ (-a) * n := Int.mul_le_mul_of_nonneg_left (by omega) (by omega)
        _ ≤ m * n := Int.mul_le_mul_of_nonneg_right (by omega) (by omega)
  refine ⟨?_, e x y h.1 h.2 k.1 k.2⟩
  have := e (-x) y (by omega) (by omega) k.1 k.2
  rw [Int.neg_mul] at this
  omega
theorem In.fit {n : Nat} {m x : Int} (h : In m x) (hm : 2 * m < pw n) : Fit n x := by unfold In Fit at *; omega
theorem in_diff {a b : Int} (ha : IsS a) (hb : IsS b) : In 18446744073709551615 (a - b) := by unfold IsS In at *; omega
theorem in_vec {a b : Int × Int} (ha : Pt a) (hb : Pt b) : In 18446744073709551615 (vec a b).1 ∧ In 18446744073709551615 (vec a b).2 := ⟨in_diff hb.1 ha.1, in_diff hb.2 ha.2⟩
def B2 : Int := 18446744073709551615 * 18446744073709551615 + 18446744073709551615 * 18446744073709551615
theorem in_cr {u v : Int × Int} (hu : In 18446744073709551615 u.1 ∧ In 18446744073709551615 u.2) (hv : In 18446744073709551615 v.1 ∧ In 18446744073709551615 v.2) : In B2 (cr u v) := (hu.1.mul hv.2).sub (hu.2.mul hv.1)
theorem in_nrm {u : Int × Int} (hu : In 18446744073709551615 u.1 ∧ In 18446744073709551615 u.2) : In B2 (nrm u) := (hu.1.mul hu.1).add (hu.2.mul hu.2)
theorem in_det {a b c : Int × Int} (ha : Pt a) (hb : Pt b) (hc : Pt c) : In B2 (det a b c) := in_cr (in_vec ha hb) (in_vec ha hc)
theorem fit_det {a b c : Int × Int} (ha : Pt a) (hb : Pt b) (hc : Pt c) : Fit 3 (det a b c) := (in_det ha hb hc).fit (by decide)
theorem fit_inc {a b c d : Int × Int} (ha : Pt a) (hb : Pt b) (hc : Pt c) (hd : Pt d) : Fit 5 (inc a b c d) := by
  have va := in_vec hd ha
  have vb := in_vec hd hb
  have vc := in_vec hd hc
  exact ((((in_nrm va).mul (in_cr vb vc)).add ((in_nrm vb).mul (in_cr vc va))).add ((in_nrm vc).mul (in_cr va vb))).fit (by decide)
end Go.Proofs.YtmoajobnhiopiaaGreatDoor.gm
set_option linter.unusedSimpArgs false
set_option linter.unusedVariables false
namespace Go.Proofs.YtmoajobnhiopiaaGreatDoor.lm
open Go Go.RowKit Go.Shelf Go.Maps Go.Proofs.YtmoajobnhiopiaaGreatDoor.mk Go.Proofs.YtmoajobnhiopiaaGreatDoor.tp Go.Proofs.YtmoajobnhiopiaaGreatDoor.rg Go.Proofs.YtmoajobnhiopiaaGreatDoor.gm
open List renaming getElem_toArray → ga, getElem_cons_zero → gb, getElem_cons_succ → gc, setIfInBounds_toArray → gd, set_cons_zero → ge, set_cons_succ → gf
def vecAt (w : World) (v : Value) (x : Int × Int) : Prop := ∃ a b, v = .agg #[a, b] ∧ numAt w a 2 x.1 ∧ numAt w b 2 x.2
theorem vecAt.kept {w w' : World} {v : Value} {x : Int × Int} (h : vecAt w v x) (hk : Keeps (fun _ => False) w w') : vecAt w' v x := by
  obtain ⟨a, b, h1, h2, h3⟩ := h
  exact ⟨a, b, h1, h2.kept hk, h3.kept hk⟩
def GivesVec (w : World) (x : Int × Int) (e : Ending) (w' : World) : Prop := ∃ v', e = .returned v' ∧ vecAt w' v' x ∧ Keeps (fun _ => False) w w'
theorem numAt.shape {w : World} {v : Value} {n : Nat} {x : Int} (h : numAt w v n x) : ∃ b off cap, v = .slice (some ⟨b, off, none⟩) n cap := by
  obtain ⟨b, off, cap, h, _⟩ := h.cases
  exact ⟨b, off, cap, h⟩
theorem cells_at {w : World} {b : Nat} {cs : Array Value} {t : TypeId} {fr : Nat × Nat} (h : w.heap[b]? = some (.cells cs t fr)) (i : Nat) : w.cell? ⟨b, i, none⟩ = cs[i]? := by
  have := cell_of_row w b i cs t fr h
  rw [this]
theorem cells_put {w : World} {b : Nat} {cs : Array Value} {t : TypeId} {fr : Nat × Nat} (h : w.heap[b]? = some (.cells cs t fr)) (i : Nat) (u : Value) : (w.setCell ⟨b, i, none⟩ u).heap[b]? = some (.cells (cs.setIfInBounds i u) t fr) := by
  obtain ⟨hlt, hk⟩ := Array.getElem?_eq_some_iff.1 h
  show (w.heap.modify b _)[b]? = _
  rw [Array.getElem?_eq_getElem (by rw [Array.size_modify]; exact hlt), Array.getElem_modify_self, hk]
  simp
theorem cells_two {w : World} {b : Nat} {u v x y : Value} {t : TypeId} {fr : Nat × Nat} (h : w.heap[b]? = some (.cells #[u, v] t fr)) : ((w.setCell ⟨b, 0, none⟩ x).setCell ⟨b, 1, none⟩ y).heap[b]? = some (.cells #[x, y] t fr) :=
  cells_put (cells_put h 0 x) 1 y
theorem resultsV_cell1 {fn : Func} {p : Tmp} {ty : TypeId} (h : fn.results = #[.cell p ty]) (tmps : Array Value) (P : Program) (w : World) :
    (results fn tmps).run P w = ((asAddr (tmps.getD p undef)).run P w).andThen fun a w1 => (loadVar ty a).run P w1 := by
  simp only [results, h]
  simp [Sem.run_bind, Result.andThen]
theorem results_vec {fn : Func} {p : Tmp} (h : fn.results = #[.cell p 121]) (tmps : Array Value) (w : World) (g : Nat) (t : TypeId) (x y : Value) (fr : Nat × Nat)
    (hp : tmps.getD p undef = .pointer (some ⟨g, 0, none⟩)) (hg : w.heap[g]? = some (.cells #[x, y] t fr)) : (results fn tmps).run Tryz.prog w = .ok (.agg #[x, y]) w := by
  rw [resultsV_cell1 h, hp]
  have e := run_loadVar_row (P := Tryz.prog) w g t 121 #[x, y] fr _ hg Tryz.underlying121 rfl (by kernel_rfl)
  simp [asAddr, e, Result.andThen]
theorem keeps_two {a w : World} (h : Keeps (fun _ => False) a w) {b : Nat} (hb : a.heap.size ≤ b) (x y : Value) : Keeps (fun _ => False) a ((w.setCell ⟨b, 0, none⟩ x).setCell ⟨b, 1, none⟩ y) :=
  (h.setCell ⟨b, 0, none⟩ (fun hp => by have : b < a.heap.size := hp; omega) x).setCell ⟨b, 1, none⟩ (fun hp => by have : b < a.heap.size := hp; omega) y
theorem numAt.put {w : World} {v : Value} {n : Nat} {x : Int} {g : Nat} {t : TypeId} {fr : Nat × Nat} (h : numAt w v (n + 1) x) (hg : w.heap[g]? = some (.cells #[.slice none 0 0, .slice none 0 0] t fr)) (p q : Value) :
    numAt ((w.setCell ⟨g, 0, none⟩ p).setCell ⟨g, 1, none⟩ q) v (n + 1) x := by
  obtain ⟨b, off, cap, rfl, hb, hc⟩ := h.cases
  have hne : b ≠ g := by
    rintro rfl
    have h0 := hc 0 (by omega)
    rw [cells_at hg] at h0
    match off, h0 with
    | 0, h0 => cases h0
    | 1, h0 => cases h0
    | k + 2, h0 => simp at h0
  have hk : Keeps (fun i => i = g) w ((w.setCell ⟨g, 0, none⟩ p).setCell ⟨g, 1, none⟩ q) := ((Keeps.refl (fun i => i = g) w).setCell ⟨g, 0, none⟩ (fun _ => rfl) p).setCell ⟨g, 1, none⟩ (fun _ => rfl) q
  exact numAt.mk (Nat.lt_of_lt_of_le hb hk.size) (fun i hi => (hk.cell (p := ⟨b, off + i, none⟩) hb hne).trans (hc i hi))
theorem coord_calls (a b : Int) (ha : IsS a) (hb : IsS b) (w : World) : Calls Tryz.prog 102 #[.int .i64 a, .int .i64 b] w (GivesNum w 2 (a - b)) := by
  go_enter Tryz.func102, Tryz.ntmps102
  go_wp2_with fail
  refine (from_calls a ha 2 (by decide) (by decide) _).mono ?_; rintro e w1 ⟨va, rfl, hva, hk1⟩
  go_wp2_with fail
  refine (from_calls b hb 2 (by decide) (by decide) _).mono ?_; rintro e w2 ⟨vb, rfl, hvb, hk2⟩
  have hva2 := hva.kept hk2
  have hk2 := knil hk1 hk2
  go_wp2_with fail
  refine (lsub_calls va vb 2 a b (by decide) (by decide) w2 hva2 hvb).mono ?_; rintro e w3 ⟨vc, rfl, hvc, hk3⟩
  go_wp2
  go_ret
  exact ⟨vc, rfl, hvc, knil hk2 hk3⟩
set_option maxRecDepth 100000 in
set_option maxHeartbeats 2000000 in
theorem between_calls (a b : Int × Int) (ha : Pt a) (hb : Pt b) (w : World) : Calls Tryz.prog 69 #[.agg #[.int .i64 a.1, .int .i64 a.2], .agg #[.int .i64 b.1, .int .i64 b.2]] w (GivesVec w (vec a b)) := by
  go_enter Tryz.func69, Tryz.ntmps69
  go_wp2_with fail
  obtain ⟨w1, hw1⟩ : ∃ w1, ((w.alloc (.cells #[.int .i64 a.1, .int .i64 a.2] 35)).alloc (.cells #[.int .i64 b.1, .int .i64 b.2] 35)).alloc (.cells #[.slice none 0 0, .slice none 0 0] 121) = w1 := ⟨_, rfl⟩
  have hk1 : Keeps (fun _ => False) w w1 := by rw [← hw1]; exact (((Keeps.refl _ w).alloc _).alloc _).alloc _
  have hg0 : w1.heap[w.heap.size]? = some (.cells #[.int .i64 a.1, .int .i64 a.2] 35 (0, 0)) := by rw [← hw1, Below.heap_alloc _ _ _ (by simp; omega), Below.heap_alloc _ _ _ (by simp)]; exact heap_alloc_new w _
  have hg1 : w1.heap[w.heap.size + 1]? = some (.cells #[.int .i64 b.1, .int .i64 b.2] 35 (0, 0)) := by
    rw [← hw1, Below.heap_alloc _ _ _ (by simp)]
    have := heap_alloc_new (w.alloc (.cells #[.int .i64 a.1, .int .i64 a.2] 35)) (.cells #[.int .i64 b.1, .int .i64 b.2] 35)
    simpa using this
  have hg2 : w1.heap[w.heap.size + 1 + 1]? = some (.cells #[.slice none 0 0, .slice none 0 0] 121 (0, 0)) := by
    rw [← hw1]
    have := heap_alloc_new ((w.alloc (.cells #[.int .i64 a.1, .int .i64 a.2] 35)).alloc (.cells #[.int .i64 b.1, .int .i64 b.2] 35)) (.cells #[.slice none 0 0, .slice none 0 0] 121)
    simpa using this
  rw [hw1]
  clear hw1
  have c0 := cells_at hg0 0
  have c1 := cells_at hg0 1
  have c2 := cells_at hg1 0
  have c3 := cells_at hg1 1
  have hl0 : (⟨w.heap.size, 0, none⟩ : Addr).block < w1.heap.size := (Array.getElem?_eq_some_iff.1 hg0).1
  have hl1 : (⟨w.heap.size + 1, 0, none⟩ : Addr).block < w1.heap.size := (Array.getElem?_eq_some_iff.1 hg1).1
  have hl2 : w.heap.size + 1 + 1 < w1.heap.size := (Array.getElem?_eq_some_iff.1 hg2).1
  have Hg2 := Lib.hid hg2
  clear hg0 hg1
  refine wp_region_late (fun W => W.cell? ⟨w.heap.size, 0, none⟩ = some (.int .i64 a.1) ∧ W.cell? ⟨w.heap.size, 1, none⟩ = some (.int .i64 a.2) ∧ W.cell? ⟨w.heap.size + 1, 0, none⟩ = some (.int .i64 b.1) ∧ W.cell? ⟨w.heap.size + 1, 1, none⟩ = some (.int .i64 b.2)) [11] (by kernel_rfl) ?_
  have hS : w1.drew.cell? ⟨w.heap.size, 0, none⟩ = some (.int .i64 a.1) ∧ w1.drew.cell? ⟨w.heap.size, 1, none⟩ = some (.int .i64 a.2) ∧ w1.drew.cell? ⟨w.heap.size + 1, 0, none⟩ = some (.int .i64 b.1) ∧ w1.drew.cell? ⟨w.heap.size + 1, 1, none⟩ = some (.int .i64 b.2) := ⟨c0, c1, c2, c3⟩
  refine tkA 0 (.pointer (some ⟨w.heap.size + 1, 0, none⟩)) rfl (by kernel_rfl) (fun _ _ _ h => (h : False).elim) (by kernel_rfl) (fun _ => ‹_›) ?_ ?_
  · intro w _; go_simp
  try simp only [ga, gb, gc, Act.put, gd, ge, gf]
  refine tkL 1 (.int .i64 b.1) rfl (by kernel_rfl) (fun _ _ _ h => (h : False).elim) (by kernel_rfl) ‹_› ?_ ?_
  · intro w hSw
    obtain ⟨s0, s1, s2, s3⟩ := hSw
    go_simp
  try simp only [ga, gb, gc, Act.put, gd, ge, gf]
  refine tkA 2 (.pointer (some ⟨w.heap.size, 0, none⟩)) rfl (by kernel_rfl) (fun _ _ _ h => (h : False).elim) (by kernel_rfl) (fun _ => ‹_›) ?_ ?_
  · intro w _; go_simp
  try simp only [ga, gb, gc, Act.put, gd, ge, gf]
  refine tkL 3 (.int .i64 a.1) rfl (by kernel_rfl) (fun _ _ _ h => (h : False).elim) (by kernel_rfl) ‹_› ?_ ?_
  · intro w hSw
    obtain ⟨s0, s1, s2, s3⟩ := hSw
    go_simp
  try simp only [ga, gb, gc, Act.put, gd, ge, gf]
  refine tkA 5 (.pointer (some ⟨w.heap.size + 1, 1, none⟩)) rfl (by kernel_rfl) (fun _ _ _ h => (h : False).elim) (by kernel_rfl) (fun _ => ‹_›) ?_ ?_
  · intro w _; go_simp
  try simp only [ga, gb, gc, Act.put, gd, ge, gf]
  refine tkL 6 (.int .i64 b.2) rfl (by kernel_rfl) (fun _ _ _ h => (h : False).elim) (by kernel_rfl) ‹_› ?_ ?_
  · intro w hSw
    obtain ⟨s0, s1, s2, s3⟩ := hSw
    go_simp
  try simp only [ga, gb, gc, Act.put, gd, ge, gf]
  refine tkA 7 (.pointer (some ⟨w.heap.size, 1, none⟩)) rfl (by kernel_rfl) (fun _ _ _ h => (h : False).elim) (by kernel_rfl) (fun _ => ‹_›) ?_ ?_
  · intro w _; go_simp
  try simp only [ga, gb, gc, Act.put, gd, ge, gf]
  refine tkL 8 (.int .i64 a.2) rfl (by kernel_rfl) (fun _ _ _ h => (h : False).elim) (by kernel_rfl) ‹_› ?_ ?_
  · intro w hSw
    obtain ⟨s0, s1, s2, s3⟩ := hSw
    go_simp
  try simp only [ga, gb, gc, Act.put, gd, ge, gf]
  refine wpAnyL_next (i := 4) (by kernel_rfl) rfl (fun K hK => ?_)
  go_simp
  refine (coord_calls b.1 a.1 hb.1 ha.1 _).mono ?_; rintro e w3 ⟨v1, rfl, hv1, hk3⟩
  have hk13 : Keeps (fun _ => False) w1 w3 := knil ((Keeps.refl _ w1).drewN 1) hk3
  go_wp2_with fail
  refine hK.out _ _ ⟨((hk13).cell hl0 (fun h => h)).trans c0, ((hk13).cell hl0 (fun h => h)).trans c1, ((hk13).cell hl1 (fun h => h)).trans c2, ((hk13).cell hl1 (fun h => h)).trans c3⟩ (fun hHeld => ?_)
  clear hK K
  try simp only [ga, gb, gc, Act.put, gd, ge, gf]
  refine wpAnyL_next (i := 9) (by kernel_rfl) rfl (fun K hK => ?_)
  go_simp
  refine (coord_calls b.2 a.2 hb.2 ha.2 _).mono ?_; rintro e w4 ⟨v2, rfl, hv2, hk4⟩
  have hv1 := hv1.kept hk4
  obtain ⟨b1, o1, q1, rfl⟩ := hv1.shape
  obtain ⟨b2, o2, q2, rfl⟩ := hv2.shape
  have hk14 : Keeps (fun _ => False) w1 w4 := knil hk13 hk4
  go_wp2_with fail
  refine hK.out _ _ ⟨((hk14).cell hl0 (fun h => h)).trans c0, ((hk14).cell hl0 (fun h => h)).trans c1, ((hk14).cell hl1 (fun h => h)).trans c2, ((hk14).cell hl1 (fun h => h)).trans c3⟩ (fun hHeld => ?_)
  clear hK K
  try simp only [ga, gb, gc, Act.put, gd, ge, gf]
  refine tkA 10 (.agg #[.slice (some ⟨b1, o1, none⟩) 2 q1, .slice (some ⟨b2, o2, none⟩) 2 q2]) rfl (by kernel_rfl) (fun _ _ _ h => (h : False).elim) (by kernel_rfl) (fun _ => ‹_›) ?_ ?_
  · intro w _; go_simp
  try simp only [ga, gb, gc, Act.put, gd, ge, gf]
  have hg4 := (hk14.block _ hl2 (fun h => h)).trans hg2
  have e0 := two_frozen hg4 0
  have e1 := two_frozen hg4 1
  have f0 := cells_at hg4 0
  have f1 := cells_at hg4 1
  have Hv1 := Lib.hid hv1
  have Hv2 := Lib.hid hv2
  have Hg4 := Lib.hid hg4
  clear hv1 hv2 hg4
  refine wpAnyL_late (i := 11) (by kernel_rfl) rfl (by kernel_rfl) (fun K hK => ?_)
  go_simp
  go_wp2_with fail
  refine hK.out _ _ (fun _ => ?_)
  clear hK K
  try simp only [ga, gb, gc, Act.put, gd, ge, gf]
  refine wpAnyL_done (by kernel_rfl) ?_ _
  refine NoPanic.normal ?_
  go_wp2_with fail
  have hkE := keeps_two (knil hk1 hk14) (b := w.heap.size + 1 + 1) (by omega) (.slice (some ⟨b1, o1, none⟩) 2 q1) (.slice (some ⟨b2, o2, none⟩) 2 q2)
  refine bodyPost_ret (results_vec rfl _ _ _ _ _ _ _ rfl (cells_two Hg4.out)) rfl ⟨_, rfl, ⟨_, _, rfl, Hv1.out.put Hg4.out _ _, Hv2.out.put Hg4.out _ _⟩, hkE⟩
set_option maxRecDepth 100000 in
theorem turned_calls (v : Value) (x : Int × Int) (w : World) (hv : vecAt w v x) : Calls Tryz.prog 99 #[v] w (GivesVec w (x.2, x.1)) := by
  obtain ⟨a, b, rfl, ha, hb⟩ := hv
  obtain ⟨ba, oa, ca, rfl⟩ := ha.shape
  obtain ⟨bb, ob, cb, rfl⟩ := hb.shape
  have HA := Lib.hid ha
  have HB := Lib.hid hb
  clear ha hb
  go_enter Tryz.func99, Tryz.ntmps99
  go_wp2_with fail
  have hk2 : ∀ o1 o2, Keeps (fun _ => False) w ((w.alloc o1).alloc o2) := fun o1 o2 => ((Keeps.refl _ w).alloc o1).alloc o2
  have hg : ∀ o1 o2, ((w.alloc o1).alloc o2).heap[w.heap.size + 1]? = some o2 := fun o1 o2 => by
    have := heap_alloc_new (w.alloc o1) o2
    simpa using this
  refine bodyPost_ret (results_vec rfl _ _ _ _ _ _ _ rfl (hg _ _)) rfl ⟨_, rfl, ⟨_, _, rfl, HB.out.kept (hk2 _ _), HA.out.kept (hk2 _ _)⟩, hk2 _ _⟩
set_option maxRecDepth 100000 in
theorem same_calls (v : Value) (x : Int × Int) (w : World) (hv : vecAt w v x) : Calls Tryz.prog 132 #[v] w (GivesVec w x) := by
  obtain ⟨a, b, rfl, ha, hb⟩ := hv
  obtain ⟨ba, oa, ca, rfl⟩ := ha.shape
  obtain ⟨bb, ob, cb, rfl⟩ := hb.shape
  have HA := Lib.hid ha
  have HB := Lib.hid hb
  clear ha hb
  go_enter Tryz.func132, Tryz.ntmps132
  go_wp2_with fail
  have hk2 : ∀ o1 o2, Keeps (fun _ => False) w ((w.alloc o1).alloc o2) := fun o1 o2 => ((Keeps.refl _ w).alloc o1).alloc o2
  have hg : ∀ o1 o2, ((w.alloc o1).alloc o2).heap[w.heap.size + 1]? = some o2 := fun o1 o2 => by
    have := heap_alloc_new (w.alloc o1) o2
    simpa using this
  refine bodyPost_ret (results_vec rfl _ _ _ _ _ _ _ rfl (hg _ _)) rfl ⟨_, rfl, ⟨_, _, rfl, HA.out.kept (hk2 _ _), HB.out.kept (hk2 _ _)⟩, hk2 _ _⟩
set_option maxRecDepth 100000 in
set_option maxHeartbeats 2000000 in
theorem dis_calls (b1 o1 c1 b2 o2 c2 b3 o3 c3 b4 o4 c4 g : Nat) (w : World) (hg : w.heap[g]? = some (.cells #[.slice (some ⟨b1, o1, none⟩) 2 c1, .slice (some ⟨b2, o2, none⟩) 2 c2, .slice (some ⟨b3, o3, none⟩) 2 c3, .slice (some ⟨b4, o4, none⟩) 2 c4] 121 (0, 0))) :
    Calls Tryz.prog 130 #[.slice (some ⟨g, 0, none⟩) 2 2] w fun e w' => e = .returned (.bool true) ∧ Keeps (fun _ => False) w w' := by
  have HG := Lib.hid hg
  have hlt : g < w.heap.size := (Array.getElem?_eq_some_iff.1 hg).1
  clear hg
  go_enter Tryz.func130, Tryz.ntmps130
  go_wp2
  go_loopw [4, 7] (fun _ i wr => ∃ k : Nat, k ≤ 2 ∧ i = .int .i64 k ∧ Keeps (fun _ => False) w wr) (fun _ i _ => 2 - (intOf i).toNat)
  case atStart => exact ⟨0, by omega, rfl, Keeps.refl _ _⟩
  case round =>
    obtain ⟨k, hk, rfl, hK⟩ := hrel
    have hgr := (hK.block g hlt (fun h => h)).trans HG.out
    have a0 := cells_at hgr 0
    have a1 := cells_at hgr 1
    have a2 := cells_at hgr 2
    have a3 := cells_at hgr 3
    have HK := Lib.hid hK
    clear hgr hK
    rcases (show k = 0 ∨ k = 1 ∨ k = 2 by omega) with rfl | rfl | rfl
    · go_wp2
      go_roundw
      case rel => exact ⟨1, by omega, rfl, HK.out.alloc _⟩
      case measure => simp [intOf]
    · go_wp2
      go_roundw
      case rel => exact ⟨2, by omega, rfl, HK.out.alloc _⟩
      case measure => simp [intOf]
    · go_wp2
      go_ret
      exact ⟨rfl, HK.out⟩
theorem lsub_calls1 (v u : Value) (m : Nat) (x y : Int) (hm1 : 1 ≤ m) (hm : m ≤ 8) (w : World) (hv : numAt w v m x) (hu : numAt w u m y) :
    Calls Tryz.prog 100 #[v, u] w (GivesNum w m (x - y)) := by
  obtain ⟨b1, o1, c1, rfl⟩ := hv.shape
  obtain ⟨b2, o2, c2, rfl⟩ := hu.shape
  have HV := Lib.hid hv
  have HU := Lib.hid hu
  clear hv hu
  go_enter Tryz.func100, Tryz.ntmps100
  go_wp2_with fail
  refine (lsub_calls _ _ m x y hm1 hm w HV.out HU.out).mono ?_; rintro e w1 ⟨v', rfl, hv', hk'⟩
  go_wp2
  go_ret
  exact ⟨v', rfl, hv', hk'⟩
set_option maxRecDepth 100000 in
set_option maxHeartbeats 4000000 in
theorem prod_cross (u v : Value) (x y : Int × Int) (w : World) (hu : vecAt w u x) (hv : vecAt w v y) (fx : Fit 2 x.1 ∧ Fit 2 x.2) (fz : Fit 2 (y.2, y.1).1 ∧ Fit 2 (y.2, y.1).2) :
    Calls Tryz.prog 98 #[u, v, .func (.func 99) #[] #[], .func (.func 100) #[] #[]] w (GivesNum w 4 (x.1 * (y.2, y.1).1 - x.2 * (y.2, y.1).2)) := by
  obtain ⟨s1, s2, rfl, h1, h2⟩ := hu
  obtain ⟨s3, s4, rfl, h3, h4⟩ := hv
  obtain ⟨b1, o1, c1, rfl⟩ := h1.shape
  obtain ⟨b2, o2, c2, rfl⟩ := h2.shape
  obtain ⟨b3, o3, c3, rfl⟩ := h3.shape
  obtain ⟨b4, o4, c4, rfl⟩ := h4.shape
  have HV := Lib.hid (show vecAt w (.agg #[.slice (some ⟨b3, o3, none⟩) 2 c3, .slice (some ⟨b4, o4, none⟩) 2 c4]) y from ⟨_, _, rfl, h3, h4⟩)
  have H1 := Lib.hid h1
  have H2 := Lib.hid h2
  clear h1 h2 h3 h4
  go_enter Tryz.func98, Tryz.ntmps98
  go_wp2_with fail
  obtain ⟨w1, hw1⟩ : ∃ w1, ((w.alloc (.cells #[.slice (some ⟨b1, o1, none⟩) 2 c1, .slice (some ⟨b2, o2, none⟩) 2 c2] 121)).alloc (.cells #[.slice (some ⟨b3, o3, none⟩) 2 c3, .slice (some ⟨b4, o4, none⟩) 2 c4] 121)).alloc (.cells #[.slice (some ⟨b1, o1, none⟩) 2 c1, .slice (some ⟨b2, o2, none⟩) 2 c2, .slice (some ⟨b3, o3, none⟩) 2 c3, .slice (some ⟨b4, o4, none⟩) 2 c4] 121) = w1 := ⟨_, rfl⟩
  have hk1 : Keeps (fun _ => False) w w1 := by rw [← hw1]; exact (((Keeps.refl _ w).alloc _).alloc _).alloc _
  have hg0 : w1.heap[w.heap.size]? = some (.cells #[.slice (some ⟨b1, o1, none⟩) 2 c1, .slice (some ⟨b2, o2, none⟩) 2 c2] 121 (0, 0)) := by rw [← hw1, Below.heap_alloc _ _ _ (by simp; omega), Below.heap_alloc _ _ _ (by simp)]; exact heap_alloc_new w _
  have hg1 : w1.heap[w.heap.size + 1]? = some (.cells #[.slice (some ⟨b3, o3, none⟩) 2 c3, .slice (some ⟨b4, o4, none⟩) 2 c4] 121 (0, 0)) := by
    rw [← hw1, Below.heap_alloc _ _ _ (by simp)]
    have := heap_alloc_new (w.alloc (.cells #[.slice (some ⟨b1, o1, none⟩) 2 c1, .slice (some ⟨b2, o2, none⟩) 2 c2] 121)) (.cells #[.slice (some ⟨b3, o3, none⟩) 2 c3, .slice (some ⟨b4, o4, none⟩) 2 c4] 121)
    simpa using this
  have hg2 : w1.heap[w.heap.size + 1 + 1]? = some (.cells #[.slice (some ⟨b1, o1, none⟩) 2 c1, .slice (some ⟨b2, o2, none⟩) 2 c2, .slice (some ⟨b3, o3, none⟩) 2 c3, .slice (some ⟨b4, o4, none⟩) 2 c4] 121 (0, 0)) := by
    rw [← hw1]
    have := heap_alloc_new ((w.alloc (.cells #[.slice (some ⟨b1, o1, none⟩) 2 c1, .slice (some ⟨b2, o2, none⟩) 2 c2] 121)).alloc (.cells #[.slice (some ⟨b3, o3, none⟩) 2 c3, .slice (some ⟨b4, o4, none⟩) 2 c4] 121)) (.cells #[.slice (some ⟨b1, o1, none⟩) 2 c1, .slice (some ⟨b2, o2, none⟩) 2 c2, .slice (some ⟨b3, o3, none⟩) 2 c3, .slice (some ⟨b4, o4, none⟩) 2 c4] 121)
    simpa using this
  rw [hw1]
  clear hw1
  have hl0 : w.heap.size < w1.heap.size := (Array.getElem?_eq_some_iff.1 hg0).1
  have hl1 : w.heap.size + 1 < w1.heap.size := (Array.getElem?_eq_some_iff.1 hg1).1
  have Hg0 := Lib.hid hg0
  have Hg1 := Lib.hid hg1
  refine (dis_calls b1 o1 c1 b2 o2 c2 b3 o3 c3 b4 o4 c4 _ _ hg2).mono ?_; rintro e w2 ⟨rfl, hk2⟩
  clear hg0 hg1 hg2
  have hg1 := (hk2.block _ hl1 (fun h => h)).trans Hg1.out
  have d0 := cells_at hg1 0
  have d1 := cells_at hg1 1
  have hk12 := knil hk1 hk2
  go_wp2_with fail
  refine (turned_calls _ y w2 (HV.out.kept hk12)).mono ?_; rintro e w3 ⟨vz, rfl, hvz, hk3⟩
  clear d0 d1 hg1
  obtain ⟨s5, s6, rfl, h5, h6⟩ := hvz
  obtain ⟨b5, o5, c5, rfl⟩ := h5.shape
  obtain ⟨b6, o6, c6, rfl⟩ := h6.shape
  have H5 := Lib.hid h5
  have H6 := Lib.hid h6
  clear h5 h6
  go_wp2_with fail
  obtain ⟨w5, hw5⟩ : ∃ w5, w3.alloc (.cells #[.slice (some ⟨b5, o5, none⟩) 2 c5, .slice (some ⟨b6, o6, none⟩) 2 c6] 121) = w5 := ⟨_, rfl⟩
  obtain ⟨g, hg⟩ : ∃ g, w3.heap.size = g := ⟨_, rfl⟩
  have hgg : w5.heap[g]? = some (.cells #[.slice (some ⟨b5, o5, none⟩) 2 c5, .slice (some ⟨b6, o6, none⟩) 2 c6] 121 (0, 0)) := by rw [← hw5, ← hg]; exact heap_alloc_new w3 _
  have hk35 : Keeps (fun _ => False) w3 w5 := by rw [← hw5]; exact (Keeps.refl _ w3).alloc _
  rw [hw5]
  try rw [hg]
  have hk15 : Keeps (fun _ => False) w1 w5 := knil (knil hk2 hk3) hk35
  have hk05 : Keeps (fun _ => False) w w5 := knil hk1 hk15
  have hd5 : Keeps (fun _ => False) w5 (w5.drewN 1) := (Keeps.refl _ w5).drewN 1
  have hg0 := (hk15.block _ hl0 (fun h => h)).trans Hg0.out
  have q0 := cells_at hg0 0
  have q1 := cells_at hg0 1
  have q2 := cells_at hgg 0
  have q3 := cells_at hgg 1
  have hl0 : (⟨w.heap.size, 0, none⟩ : Addr).block < w5.heap.size := (Array.getElem?_eq_some_iff.1 hg0).1
  have hl1 : (⟨g, 0, none⟩ : Addr).block < w5.heap.size := (Array.getElem?_eq_some_iff.1 hgg).1
  have H1 := Lib.hid (H1.out.kept hk05)
  have H2 := Lib.hid (H2.out.kept hk05)
  have H5 := Lib.hid (H5.out.kept hk35)
  have H6 := Lib.hid (H6.out.kept hk35)
  clear hg0 hgg hk35 hk3 hk2 hk1 hk12 hw5 hg hk15
  refine wp_region_late (fun W => W.cell? ⟨w.heap.size, 0, none⟩ = some (.slice (some ⟨b1, o1, none⟩) 2 c1) ∧ W.cell? ⟨w.heap.size, 1, none⟩ = some (.slice (some ⟨b2, o2, none⟩) 2 c2) ∧ W.cell? ⟨g, 0, none⟩ = some (.slice (some ⟨b5, o5, none⟩) 2 c5) ∧ W.cell? ⟨g, 1, none⟩ = some (.slice (some ⟨b6, o6, none⟩) 2 c6)) [] (by kernel_rfl) ?_
  have hS : w5.drew.cell? ⟨w.heap.size, 0, none⟩ = some (.slice (some ⟨b1, o1, none⟩) 2 c1) ∧ w5.drew.cell? ⟨w.heap.size, 1, none⟩ = some (.slice (some ⟨b2, o2, none⟩) 2 c2) ∧ w5.drew.cell? ⟨g, 0, none⟩ = some (.slice (some ⟨b5, o5, none⟩) 2 c5) ∧ w5.drew.cell? ⟨g, 1, none⟩ = some (.slice (some ⟨b6, o6, none⟩) 2 c6) := ⟨q0, q1, q2, q3⟩
  refine tkA 0 (.func (.func 100) #[] #[]) rfl (by kernel_rfl) (fun _ _ _ h => (h : False).elim) (by kernel_rfl) (fun _ => ‹_›) ?_ ?_
  · intro w _; go_simp
  try simp only [ga, gb, gc, Act.put, gd, ge, gf]
  refine tkA 1 (.pointer (some ⟨w.heap.size, 0, none⟩)) rfl (by kernel_rfl) (fun _ _ _ h => (h : False).elim) (by kernel_rfl) (fun _ => ‹_›) ?_ ?_
  · intro w _; go_simp
  try simp only [ga, gb, gc, Act.put, gd, ge, gf]
  refine tkL 2 (.slice (some ⟨b1, o1, none⟩) 2 c1) rfl (by kernel_rfl) (fun _ _ _ h => (h : False).elim) (by kernel_rfl) ‹_› ?_ ?_
  · intro w hSw
    obtain ⟨s0, s1, s2, s3⟩ := hSw
    go_simp
  try simp only [ga, gb, gc, Act.put, gd, ge, gf]
  refine tkA 3 (.pointer (some ⟨g, 0, none⟩)) rfl (by kernel_rfl) (fun _ _ _ h => (h : False).elim) (by kernel_rfl) (fun _ => ‹_›) ?_ ?_
  · intro w _; go_simp
  try simp only [ga, gb, gc, Act.put, gd, ge, gf]
  refine tkL 4 (.slice (some ⟨b5, o5, none⟩) 2 c5) rfl (by kernel_rfl) (fun _ _ _ h => (h : False).elim) (by kernel_rfl) ‹_› ?_ ?_
  · intro w hSw
    obtain ⟨s0, s1, s2, s3⟩ := hSw
    go_simp
  try simp only [ga, gb, gc, Act.put, gd, ge, gf]
  refine tkA 6 (.pointer (some ⟨w.heap.size, 1, none⟩)) rfl (by kernel_rfl) (fun _ _ _ h => (h : False).elim) (by kernel_rfl) (fun _ => ‹_›) ?_ ?_
  · intro w _; go_simp
  try simp only [ga, gb, gc, Act.put, gd, ge, gf]
  refine tkL 7 (.slice (some ⟨b2, o2, none⟩) 2 c2) rfl (by kernel_rfl) (fun _ _ _ h => (h : False).elim) (by kernel_rfl) ‹_› ?_ ?_
  · intro w hSw
    obtain ⟨s0, s1, s2, s3⟩ := hSw
    go_simp
  try simp only [ga, gb, gc, Act.put, gd, ge, gf]
  refine tkA 8 (.pointer (some ⟨g, 1, none⟩)) rfl (by kernel_rfl) (fun _ _ _ h => (h : False).elim) (by kernel_rfl) (fun _ => ‹_›) ?_ ?_
  · intro w _; go_simp
  try simp only [ga, gb, gc, Act.put, gd, ge, gf]
  refine tkL 9 (.slice (some ⟨b6, o6, none⟩) 2 c6) rfl (by kernel_rfl) (fun _ _ _ h => (h : False).elim) (by kernel_rfl) ‹_› ?_ ?_
  · intro w hSw
    obtain ⟨s0, s1, s2, s3⟩ := hSw
    go_simp
  try simp only [ga, gb, gc, Act.put, gd, ge, gf]
  refine wpAnyL_next (i := 5) (by kernel_rfl) rfl (fun K hK => ?_)
  go_simp
  refine (lmul_calls _ _ 1 1 x.1 (y.2, y.1).1 (by decide) _ (H1.out.kept hd5) (H5.out.kept hd5) fx.1 fz.1).mono ?_; rintro e w6 ⟨p1, rfl, hp1, hk6⟩
  have hk56 : Keeps (fun _ => False) w5 w6 := knil ((Keeps.refl _ w5).drewN 1) hk6
  go_wp2_with fail
  refine hK.out _ _ ⟨((hk56).cell hl0 (fun h => h)).trans q0, ((hk56).cell hl0 (fun h => h)).trans q1, ((hk56).cell hl1 (fun h => h)).trans q2, ((hk56).cell hl1 (fun h => h)).trans q3⟩ (fun hHeld => ?_)
  clear hK K
  try simp only [ga, gb, gc, Act.put, gd, ge, gf]
  refine wpAnyL_next (i := 10) (by kernel_rfl) rfl (fun K hK => ?_)
  go_simp
  refine (lmul_calls _ _ 1 1 x.2 (y.2, y.1).2 (by decide) _ (H2.out.kept hk56) (H6.out.kept hk56) fx.2 fz.2).mono ?_; rintro e w7 ⟨p2, rfl, hp2, hk7⟩
  have hp1 := hp1.kept hk7
  have hk57 : Keeps (fun _ => False) w5 w7 := knil hk56 hk7
  go_wp2_with fail
  refine hK.out _ _ ⟨((hk57).cell hl0 (fun h => h)).trans q0, ((hk57).cell hl0 (fun h => h)).trans q1, ((hk57).cell hl1 (fun h => h)).trans q2, ((hk57).cell hl1 (fun h => h)).trans q3⟩ (fun hHeld => ?_)
  clear hK K
  try simp only [ga, gb, gc, Act.put, gd, ge, gf]
  refine wpAnyL_next (i := 11) (by kernel_rfl) rfl (fun K hK => ?_)
  go_simp
  refine (lsub_calls1 p1 p2 4 _ _ (by decide) (by decide) _ hp1 hp2).mono ?_; rintro e w8 ⟨p3, rfl, hp3, hk8⟩
  have hk58 : Keeps (fun _ => False) w5 w8 := knil hk57 hk8
  go_wp2_with fail
  refine hK.out _ _ ⟨((hk58).cell hl0 (fun h => h)).trans q0, ((hk58).cell hl0 (fun h => h)).trans q1, ((hk58).cell hl1 (fun h => h)).trans q2, ((hk58).cell hl1 (fun h => h)).trans q3⟩ (fun hHeld => ?_)
  clear hK K
  try simp only [ga, gb, gc, Act.put, gd, ge, gf]
  refine tkA 12 (p3) rfl (by kernel_rfl) (fun _ _ _ h => (h : False).elim) (by kernel_rfl) (fun _ => ‹_›) ?_ ?_
  · intro w _; go_simp
  try simp only [ga, gb, gc, Act.put, gd, ge, gf]
  refine wpAnyL_done (by kernel_rfl) ?_ _
  refine NoPanic.normal ?_
  obtain ⟨b7, o7, c7, rfl⟩ := hp3.shape
  clear hS q0 q1 q2 q3
  go_wp2
  go_ret
  exact ⟨_, rfl, hp3, knil hk05 hk58⟩
theorem ladd_calls1 (v u : Value) (m : Nat) (x y : Int) (hm1 : 1 ≤ m) (hm : m ≤ 8) (w : World) (hv : numAt w v m x) (hu : numAt w u m y) :
    Calls Tryz.prog 133 #[v, u] w (GivesNum w m (x + y)) := by
  obtain ⟨b1, o1, c1, rfl⟩ := hv.shape
  obtain ⟨b2, o2, c2, rfl⟩ := hu.shape
  have HV := Lib.hid hv
  have HU := Lib.hid hu
  clear hv hu
  go_enter Tryz.func133, Tryz.ntmps133
  go_wp2_with fail
  refine (ladd_calls _ _ m x y hm1 hm w HV.out HU.out).mono ?_; rintro e w1 ⟨v', rfl, hv', hk'⟩
  go_wp2
  go_ret
  exact ⟨v', rfl, hv', hk'⟩
set_option maxRecDepth 100000 in
set_option maxHeartbeats 4000000 in
theorem prod_dot (u v : Value) (x y : Int × Int) (w : World) (hu : vecAt w u x) (hv : vecAt w v y) (fx : Fit 2 x.1 ∧ Fit 2 x.2) (fz : Fit 2 y.1 ∧ Fit 2 y.2) :
    Calls Tryz.prog 98 #[u, v, .func (.func 132) #[] #[], .func (.func 133) #[] #[]] w (GivesNum w 4 (x.1 * y.1 + x.2 * y.2)) := by
  obtain ⟨s1, s2, rfl, h1, h2⟩ := hu
  obtain ⟨s3, s4, rfl, h3, h4⟩ := hv
  obtain ⟨b1, o1, c1, rfl⟩ := h1.shape
  obtain ⟨b2, o2, c2, rfl⟩ := h2.shape
  obtain ⟨b3, o3, c3, rfl⟩ := h3.shape
  obtain ⟨b4, o4, c4, rfl⟩ := h4.shape
  have HV := Lib.hid (show vecAt w (.agg #[.slice (some ⟨b3, o3, none⟩) 2 c3, .slice (some ⟨b4, o4, none⟩) 2 c4]) y from ⟨_, _, rfl, h3, h4⟩)
  have H1 := Lib.hid h1
  have H2 := Lib.hid h2
  clear h1 h2 h3 h4
  go_enter Tryz.func98, Tryz.ntmps98
  go_wp2_with fail
  obtain ⟨w1, hw1⟩ : ∃ w1, ((w.alloc (.cells #[.slice (some ⟨b1, o1, none⟩) 2 c1, .slice (some ⟨b2, o2, none⟩) 2 c2] 121)).alloc (.cells #[.slice (some ⟨b3, o3, none⟩) 2 c3, .slice (some ⟨b4, o4, none⟩) 2 c4] 121)).alloc (.cells #[.slice (some ⟨b1, o1, none⟩) 2 c1, .slice (some ⟨b2, o2, none⟩) 2 c2, .slice (some ⟨b3, o3, none⟩) 2 c3, .slice (some ⟨b4, o4, none⟩) 2 c4] 121) = w1 := ⟨_, rfl⟩
  have hk1 : Keeps (fun _ => False) w w1 := by rw [← hw1]; exact (((Keeps.refl _ w).alloc _).alloc _).alloc _
  have hg0 : w1.heap[w.heap.size]? = some (.cells #[.slice (some ⟨b1, o1, none⟩) 2 c1, .slice (some ⟨b2, o2, none⟩) 2 c2] 121 (0, 0)) := by rw [← hw1, Below.heap_alloc _ _ _ (by simp; omega), Below.heap_alloc _ _ _ (by simp)]; exact heap_alloc_new w _
  have hg1 : w1.heap[w.heap.size + 1]? = some (.cells #[.slice (some ⟨b3, o3, none⟩) 2 c3, .slice (some ⟨b4, o4, none⟩) 2 c4] 121 (0, 0)) := by
    rw [← hw1, Below.heap_alloc _ _ _ (by simp)]
    have := heap_alloc_new (w.alloc (.cells #[.slice (some ⟨b1, o1, none⟩) 2 c1, .slice (some ⟨b2, o2, none⟩) 2 c2] 121)) (.cells #[.slice (some ⟨b3, o3, none⟩) 2 c3, .slice (some ⟨b4, o4, none⟩) 2 c4] 121)
    simpa using this
  have hg2 : w1.heap[w.heap.size + 1 + 1]? = some (.cells #[.slice (some ⟨b1, o1, none⟩) 2 c1, .slice (some ⟨b2, o2, none⟩) 2 c2, .slice (some ⟨b3, o3, none⟩) 2 c3, .slice (some ⟨b4, o4, none⟩) 2 c4] 121 (0, 0)) := by
    rw [← hw1]
    have := heap_alloc_new ((w.alloc (.cells #[.slice (some ⟨b1, o1, none⟩) 2 c1, .slice (some ⟨b2, o2, none⟩) 2 c2] 121)).alloc (.cells #[.slice (some ⟨b3, o3, none⟩) 2 c3, .slice (some ⟨b4, o4, none⟩) 2 c4] 121)) (.cells #[.slice (some ⟨b1, o1, none⟩) 2 c1, .slice (some ⟨b2, o2, none⟩) 2 c2, .slice (some ⟨b3, o3, none⟩) 2 c3, .slice (some ⟨b4, o4, none⟩) 2 c4] 121)
    simpa using this
  rw [hw1]
  clear hw1
  have hl0 : w.heap.size < w1.heap.size := (Array.getElem?_eq_some_iff.1 hg0).1
  have hl1 : w.heap.size + 1 < w1.heap.size := (Array.getElem?_eq_some_iff.1 hg1).1
  have Hg0 := Lib.hid hg0
  have Hg1 := Lib.hid hg1
  refine (dis_calls b1 o1 c1 b2 o2 c2 b3 o3 c3 b4 o4 c4 _ _ hg2).mono ?_; rintro e w2 ⟨rfl, hk2⟩
  clear hg0 hg1 hg2
  have hg1 := (hk2.block _ hl1 (fun h => h)).trans Hg1.out
  have d0 := cells_at hg1 0
  have d1 := cells_at hg1 1
  have hk12 := knil hk1 hk2
  go_wp2_with fail
  refine (same_calls _ y w2 (HV.out.kept hk12)).mono ?_; rintro e w3 ⟨vz, rfl, hvz, hk3⟩
  clear d0 d1 hg1
  obtain ⟨s5, s6, rfl, h5, h6⟩ := hvz
  obtain ⟨b5, o5, c5, rfl⟩ := h5.shape
  obtain ⟨b6, o6, c6, rfl⟩ := h6.shape
  have H5 := Lib.hid h5
  have H6 := Lib.hid h6
  clear h5 h6
  go_wp2_with fail
  obtain ⟨w5, hw5⟩ : ∃ w5, w3.alloc (.cells #[.slice (some ⟨b5, o5, none⟩) 2 c5, .slice (some ⟨b6, o6, none⟩) 2 c6] 121) = w5 := ⟨_, rfl⟩
  obtain ⟨g, hg⟩ : ∃ g, w3.heap.size = g := ⟨_, rfl⟩
  have hgg : w5.heap[g]? = some (.cells #[.slice (some ⟨b5, o5, none⟩) 2 c5, .slice (some ⟨b6, o6, none⟩) 2 c6] 121 (0, 0)) := by rw [← hw5, ← hg]; exact heap_alloc_new w3 _
  have hk35 : Keeps (fun _ => False) w3 w5 := by rw [← hw5]; exact (Keeps.refl _ w3).alloc _
  rw [hw5]
  try rw [hg]
  have hk15 : Keeps (fun _ => False) w1 w5 := knil (knil hk2 hk3) hk35
  have hk05 : Keeps (fun _ => False) w w5 := knil hk1 hk15
  have hd5 : Keeps (fun _ => False) w5 (w5.drewN 1) := (Keeps.refl _ w5).drewN 1
  have hg0 := (hk15.block _ hl0 (fun h => h)).trans Hg0.out
  have q0 := cells_at hg0 0
  have q1 := cells_at hg0 1
  have q2 := cells_at hgg 0
  have q3 := cells_at hgg 1
  have hl0 : (⟨w.heap.size, 0, none⟩ : Addr).block < w5.heap.size := (Array.getElem?_eq_some_iff.1 hg0).1
  have hl1 : (⟨g, 0, none⟩ : Addr).block < w5.heap.size := (Array.getElem?_eq_some_iff.1 hgg).1
  have H1 := Lib.hid (H1.out.kept hk05)
  have H2 := Lib.hid (H2.out.kept hk05)
  have H5 := Lib.hid (H5.out.kept hk35)
  have H6 := Lib.hid (H6.out.kept hk35)
  clear hg0 hgg hk35 hk3 hk2 hk1 hk12 hw5 hg hk15
  refine wp_region_late (fun W => W.cell? ⟨w.heap.size, 0, none⟩ = some (.slice (some ⟨b1, o1, none⟩) 2 c1) ∧ W.cell? ⟨w.heap.size, 1, none⟩ = some (.slice (some ⟨b2, o2, none⟩) 2 c2) ∧ W.cell? ⟨g, 0, none⟩ = some (.slice (some ⟨b5, o5, none⟩) 2 c5) ∧ W.cell? ⟨g, 1, none⟩ = some (.slice (some ⟨b6, o6, none⟩) 2 c6)) [] (by kernel_rfl) ?_
  have hS : w5.drew.cell? ⟨w.heap.size, 0, none⟩ = some (.slice (some ⟨b1, o1, none⟩) 2 c1) ∧ w5.drew.cell? ⟨w.heap.size, 1, none⟩ = some (.slice (some ⟨b2, o2, none⟩) 2 c2) ∧ w5.drew.cell? ⟨g, 0, none⟩ = some (.slice (some ⟨b5, o5, none⟩) 2 c5) ∧ w5.drew.cell? ⟨g, 1, none⟩ = some (.slice (some ⟨b6, o6, none⟩) 2 c6) := ⟨q0, q1, q2, q3⟩
  refine tkA 0 (.func (.func 133) #[] #[]) rfl (by kernel_rfl) (fun _ _ _ h => (h : False).elim) (by kernel_rfl) (fun _ => ‹_›) ?_ ?_
  · intro w _; go_simp
  try simp only [ga, gb, gc, Act.put, gd, ge, gf]
  refine tkA 1 (.pointer (some ⟨w.heap.size, 0, none⟩)) rfl (by kernel_rfl) (fun _ _ _ h => (h : False).elim) (by kernel_rfl) (fun _ => ‹_›) ?_ ?_
  · intro w _; go_simp
  try simp only [ga, gb, gc, Act.put, gd, ge, gf]
  refine tkL 2 (.slice (some ⟨b1, o1, none⟩) 2 c1) rfl (by kernel_rfl) (fun _ _ _ h => (h : False).elim) (by kernel_rfl) ‹_› ?_ ?_
  · intro w hSw
    obtain ⟨s0, s1, s2, s3⟩ := hSw
    go_simp
  try simp only [ga, gb, gc, Act.put, gd, ge, gf]
  refine tkA 3 (.pointer (some ⟨g, 0, none⟩)) rfl (by kernel_rfl) (fun _ _ _ h => (h : False).elim) (by kernel_rfl) (fun _ => ‹_›) ?_ ?_
  · intro w _; go_simp
  try simp only [ga, gb, gc, Act.put, gd, ge, gf]
  refine tkL 4 (.slice (some ⟨b5, o5, none⟩) 2 c5) rfl (by kernel_rfl) (fun _ _ _ h => (h : False).elim) (by kernel_rfl) ‹_› ?_ ?_
  · intro w hSw
    obtain ⟨s0, s1, s2, s3⟩ := hSw
    go_simp
  try simp only [ga, gb, gc, Act.put, gd, ge, gf]
  refine tkA 6 (.pointer (some ⟨w.heap.size, 1, none⟩)) rfl (by kernel_rfl) (fun _ _ _ h => (h : False).elim) (by kernel_rfl) (fun _ => ‹_›) ?_ ?_
  · intro w _; go_simp
  try simp only [ga, gb, gc, Act.put, gd, ge, gf]
  refine tkL 7 (.slice (some ⟨b2, o2, none⟩) 2 c2) rfl (by kernel_rfl) (fun _ _ _ h => (h : False).elim) (by kernel_rfl) ‹_› ?_ ?_
  · intro w hSw
    obtain ⟨s0, s1, s2, s3⟩ := hSw
    go_simp
  try simp only [ga, gb, gc, Act.put, gd, ge, gf]
  refine tkA 8 (.pointer (some ⟨g, 1, none⟩)) rfl (by kernel_rfl) (fun _ _ _ h => (h : False).elim) (by kernel_rfl) (fun _ => ‹_›) ?_ ?_
  · intro w _; go_simp
  try simp only [ga, gb, gc, Act.put, gd, ge, gf]
  refine tkL 9 (.slice (some ⟨b6, o6, none⟩) 2 c6) rfl (by kernel_rfl) (fun _ _ _ h => (h : False).elim) (by kernel_rfl) ‹_› ?_ ?_
  · intro w hSw
    obtain ⟨s0, s1, s2, s3⟩ := hSw
    go_simp
  try simp only [ga, gb, gc, Act.put, gd, ge, gf]
  refine wpAnyL_next (i := 5) (by kernel_rfl) rfl (fun K hK => ?_)
  go_simp
  refine (lmul_calls _ _ 1 1 x.1 y.1 (by decide) _ (H1.out.kept hd5) (H5.out.kept hd5) fx.1 fz.1).mono ?_; rintro e w6 ⟨p1, rfl, hp1, hk6⟩
  have hk56 : Keeps (fun _ => False) w5 w6 := knil ((Keeps.refl _ w5).drewN 1) hk6
  go_wp2_with fail
  refine hK.out _ _ ⟨((hk56).cell hl0 (fun h => h)).trans q0, ((hk56).cell hl0 (fun h => h)).trans q1, ((hk56).cell hl1 (fun h => h)).trans q2, ((hk56).cell hl1 (fun h => h)).trans q3⟩ (fun hHeld => ?_)
  clear hK K
  try simp only [ga, gb, gc, Act.put, gd, ge, gf]
  refine wpAnyL_next (i := 10) (by kernel_rfl) rfl (fun K hK => ?_)
  go_simp
  refine (lmul_calls _ _ 1 1 x.2 y.2 (by decide) _ (H2.out.kept hk56) (H6.out.kept hk56) fx.2 fz.2).mono ?_; rintro e w7 ⟨p2, rfl, hp2, hk7⟩
  have hp1 := hp1.kept hk7
  have hk57 : Keeps (fun _ => False) w5 w7 := knil hk56 hk7
  go_wp2_with fail
  refine hK.out _ _ ⟨((hk57).cell hl0 (fun h => h)).trans q0, ((hk57).cell hl0 (fun h => h)).trans q1, ((hk57).cell hl1 (fun h => h)).trans q2, ((hk57).cell hl1 (fun h => h)).trans q3⟩ (fun hHeld => ?_)
  clear hK K
  try simp only [ga, gb, gc, Act.put, gd, ge, gf]
  refine wpAnyL_next (i := 11) (by kernel_rfl) rfl (fun K hK => ?_)
  go_simp
  refine (ladd_calls1 p1 p2 4 _ _ (by decide) (by decide) _ hp1 hp2).mono ?_; rintro e w8 ⟨p3, rfl, hp3, hk8⟩
  have hk58 : Keeps (fun _ => False) w5 w8 := knil hk57 hk8
  go_wp2_with fail
  refine hK.out _ _ ⟨((hk58).cell hl0 (fun h => h)).trans q0, ((hk58).cell hl0 (fun h => h)).trans q1, ((hk58).cell hl1 (fun h => h)).trans q2, ((hk58).cell hl1 (fun h => h)).trans q3⟩ (fun hHeld => ?_)
  clear hK K
  try simp only [ga, gb, gc, Act.put, gd, ge, gf]
  refine tkA 12 (p3) rfl (by kernel_rfl) (fun _ _ _ h => (h : False).elim) (by kernel_rfl) (fun _ => ‹_›) ?_ ?_
  · intro w _; go_simp
  try simp only [ga, gb, gc, Act.put, gd, ge, gf]
  refine wpAnyL_done (by kernel_rfl) ?_ _
  refine NoPanic.normal ?_
  obtain ⟨b7, o7, c7, rfl⟩ := hp3.shape
  clear hS q0 q1 q2 q3
  go_wp2
  go_ret
  exact ⟨_, rfl, hp3, knil hk05 hk58⟩
end Go.Proofs.YtmoajobnhiopiaaGreatDoor.lm
namespace Go.Proofs.YtmoajobnhiopiaaGreatDoor.rg
open Go Go.RowKit Go.Shelf
section
variable {P : Program} {ops : Array Oper} {Q : Exit → Act → World → Prop} {md : Region.Mode} {S : World → Prop} {late : List Nat}
def AllL (P : Program) (md : Region.Mode) (ops : Array Oper) (Q : Exit → Act → World → Prop) (S : World → Prop) (late : List Nat) (fuel : Nat) (listed : Array Bool) (a : Act) (w : World) (rs : List Nat) : Prop :=
  ∀ i ∈ rs, wpOp P ops Q i (fun a' w' => (early late (listed.setIfInBounds i true) = true → S w') ∧ wpAnyL P md ops Q S late fuel (listed.setIfInBounds i true) a' w') a w
theorem AllL.nil {fuel : Nat} {listed : Array Bool} {a : Act} {w : World} : AllL P md ops Q S late fuel listed a w [] := fun _ h => by cases h
theorem AllL.cons {fuel : Nat} {listed : Array Bool} {a : Act} {w : World} {i : Nat} {o : Oper} {rs : List Nat} (ho : ops[i]? = some o)
    (h : ∀ K' : Act → World → Prop, Shut (∀ a w, S w → (S w → wpAnyL P md ops Q S late fuel (listed.setIfInBounds i true) a w) → K' a w) → if Region.wanted o (yielded ops a.tmps) = true then Oper.wp P o a w K' Q else K' (a.put o.dst undef) w)
    (hs : AllL P md ops Q S late fuel listed a w rs) : AllL P md ops Q S late fuel listed a w (i :: rs) := fun j hj => by
  rcases List.mem_cons.1 hj with rfl | hj
  · exact wpOp_step ho (fun K' hK => h K' (fun a w hS hW => hK a w ⟨fun _ => hS, hW hS⟩))
  · exact hs j hj
theorem wpAnyL_fork {rs : List Nat} {fuel : Nat} {listed : Array Bool} {a : Act} {w : World} (hr : Region.ready md ops listed = rs) (hne : rs ≠ [])
    (h : AllL P md ops Q S late fuel listed a w rs) : wpAnyL P md ops Q S late (fuel + 1) listed a w :=
  ⟨fun h0 => absurd (hr.symm.trans h0) hne, fun i hi => h i (hr ▸ hi)⟩
end
end Go.Proofs.YtmoajobnhiopiaaGreatDoor.rg
set_option linter.unusedSimpArgs false
set_option linter.unusedVariables false
namespace Go.Proofs.YtmoajobnhiopiaaGreatDoor.lm
open Go Go.RowKit Go.Shelf Go.Maps Go.Proofs.YtmoajobnhiopiaaGreatDoor.mk Go.Proofs.YtmoajobnhiopiaaGreatDoor.tp Go.Proofs.YtmoajobnhiopiaaGreatDoor.rg Go.Proofs.YtmoajobnhiopiaaGreatDoor.gm
open List renaming getElem_toArray → ga, getElem_cons_zero → gb, getElem_cons_succ → gc, setIfInBounds_toArray → gd, set_cons_zero → ge, set_cons_succ → gf
set_option maxRecDepth 100000 in
theorem cross_calls (u v : Value) (x y : Int × Int) (w : World) (hu : vecAt w u x) (hv : vecAt w v y) (fx : Fit 2 x.1 ∧ Fit 2 x.2) (fy : Fit 2 y.1 ∧ Fit 2 y.2) :
    Calls Tryz.prog 68 #[u, v] w (GivesNum w 4 (cr x y)) := by
  have HU := Lib.hid hu
  have HV := Lib.hid hv
  obtain ⟨s1, s2, rfl, h1, h2⟩ := hu
  obtain ⟨s3, s4, rfl, h3, h4⟩ := hv
  obtain ⟨b1, o1, c1, rfl⟩ := h1.shape
  obtain ⟨b2, o2, c2, rfl⟩ := h2.shape
  obtain ⟨b3, o3, c3, rfl⟩ := h3.shape
  obtain ⟨b4, o4, c4, rfl⟩ := h4.shape
  clear h1 h2 h3 h4
  go_enter Tryz.func68, Tryz.ntmps68
  go_wp2_with fail
  have hk : ∀ o1 o2, Keeps (fun _ => False) w ((w.alloc o1).alloc o2) := fun o1 o2 => ((Keeps.refl _ w).alloc o1).alloc o2
  refine (prod_cross _ _ x y _ (HU.out.kept (hk _ _)) (HV.out.kept (hk _ _)) fx ⟨fy.2, fy.1⟩).mono ?_; rintro e w1 ⟨v', rfl, hv', hk'⟩
  go_wp2
  go_ret
  exact ⟨v', rfl, hv', knil (hk _ _) hk'⟩
set_option maxRecDepth 100000 in
theorem dot_calls (u v : Value) (x y : Int × Int) (w : World) (hu : vecAt w u x) (hv : vecAt w v y) (fx : Fit 2 x.1 ∧ Fit 2 x.2) (fy : Fit 2 y.1 ∧ Fit 2 y.2) :
    Calls Tryz.prog 103 #[u, v] w (GivesNum w 4 (x.1 * y.1 + x.2 * y.2)) := by
  have HU := Lib.hid hu
  have HV := Lib.hid hv
  obtain ⟨s1, s2, rfl, h1, h2⟩ := hu
  obtain ⟨s3, s4, rfl, h3, h4⟩ := hv
  obtain ⟨b1, o1, c1, rfl⟩ := h1.shape
  obtain ⟨b2, o2, c2, rfl⟩ := h2.shape
  obtain ⟨b3, o3, c3, rfl⟩ := h3.shape
  obtain ⟨b4, o4, c4, rfl⟩ := h4.shape
  clear h1 h2 h3 h4
  go_enter Tryz.func103, Tryz.ntmps103
  go_wp2_with fail
  have hk : ∀ o1 o2, Keeps (fun _ => False) w ((w.alloc o1).alloc o2) := fun o1 o2 => ((Keeps.refl _ w).alloc o1).alloc o2
  refine (prod_dot _ _ x y _ (HU.out.kept (hk _ _)) (HV.out.kept (hk _ _)) fx fy).mono ?_; rintro e w1 ⟨v', rfl, hv', hk'⟩
  go_wp2
  go_ret
  exact ⟨v', rfl, hv', knil (hk _ _) hk'⟩
theorem norm_calls (u : Value) (x : Int × Int) (w : World) (hu : vecAt w u x) (fx : Fit 2 x.1 ∧ Fit 2 x.2) :
    Calls Tryz.prog 71 #[u] w (GivesNum w 4 (nrm x)) := by
  have HU := Lib.hid hu
  obtain ⟨s1, s2, rfl, h1, h2⟩ := hu
  obtain ⟨b1, o1, c1, rfl⟩ := h1.shape
  obtain ⟨b2, o2, c2, rfl⟩ := h2.shape
  clear h1 h2
  go_enter Tryz.func71, Tryz.ntmps71
  go_wp2_with fail
  have hk : ∀ o1, Keeps (fun _ => False) w (w.alloc o1) := fun o1 => (Keeps.refl _ w).alloc o1
  refine (dot_calls _ _ x x _ (HU.out.kept (hk _)) (HU.out.kept (hk _)) fx fx).mono ?_; rintro e w1 ⟨v', rfl, hv', hk'⟩
  go_wp2
  go_ret
  exact ⟨v', rfl, hv', knil (hk _) hk'⟩
theorem fit_two {x : Int} (h : In 18446744073709551615 x) : Fit 2 x := h.fit (by decide)
theorem vec_fit {a b : Int × Int} (ha : Pt a) (hb : Pt b) : Fit 2 (vec a b).1 ∧ Fit 2 (vec a b).2 := ⟨fit_two (in_vec ha hb).1, fit_two (in_vec ha hb).2⟩
set_option maxRecDepth 100000 in
set_option maxHeartbeats 4000000 in
theorem ovalue_calls (a b c : Int × Int) (ha : Pt a) (hb : Pt b) (hc : Pt c) (w : World) : Calls Tryz.prog 40 #[.agg #[.int .i64 a.1, .int .i64 a.2], .agg #[.int .i64 b.1, .int .i64 b.2], .agg #[.int .i64 c.1, .int .i64 c.2]] w (GivesNum w 3 (det a b c)) := by
  go_enter Tryz.func40, Tryz.ntmps40
  go_wp2_with fail
  obtain ⟨w1, hw1⟩ : ∃ w1, (((w.alloc (.cells #[.int .i64 a.1, .int .i64 a.2] 35)).alloc (.cells #[.int .i64 b.1, .int .i64 b.2] 35)).alloc (.cells #[.int .i64 c.1, .int .i64 c.2] 35)) = w1 := ⟨_, rfl⟩
  have hk1 : Keeps (fun _ => False) w w1 := by rw [← hw1]; exact ((((Keeps.refl _ w).alloc _).alloc _).alloc _)
  have hg0 : w1.heap[w.heap.size]? = some (.cells #[.int .i64 a.1, .int .i64 a.2] 35 (0, 0)) := by
    rw [← hw1, Below.heap_alloc _ _ _ (by simp <;> omega), Below.heap_alloc _ _ _ (by simp <;> omega)]
    have := heap_alloc_new w (.cells #[.int .i64 a.1, .int .i64 a.2] 35)
    simpa using this
  have hg1 : w1.heap[w.heap.size + 1]? = some (.cells #[.int .i64 b.1, .int .i64 b.2] 35 (0, 0)) := by
    rw [← hw1, Below.heap_alloc _ _ _ (by simp <;> omega)]
    have := heap_alloc_new (w.alloc (.cells #[.int .i64 a.1, .int .i64 a.2] 35)) (.cells #[.int .i64 b.1, .int .i64 b.2] 35)
    simpa using this
  have hg2 : w1.heap[w.heap.size + 1 + 1]? = some (.cells #[.int .i64 c.1, .int .i64 c.2] 35 (0, 0)) := by
    rw [← hw1]
    have := heap_alloc_new ((w.alloc (.cells #[.int .i64 a.1, .int .i64 a.2] 35)).alloc (.cells #[.int .i64 b.1, .int .i64 b.2] 35)) (.cells #[.int .i64 c.1, .int .i64 c.2] 35)
    simpa using this
  have c0 := cells_at hg0 0
  have c1 := cells_at hg0 1
  have hl0 : w.heap.size < w1.heap.size := (Array.getElem?_eq_some_iff.1 hg0).1
  have c2 := cells_at hg1 0
  have c3 := cells_at hg1 1
  have hl1 : w.heap.size + 1 < w1.heap.size := (Array.getElem?_eq_some_iff.1 hg1).1
  have c4 := cells_at hg2 0
  have c5 := cells_at hg2 1
  have hl2 : w.heap.size + 1 + 1 < w1.heap.size := (Array.getElem?_eq_some_iff.1 hg2).1
  rw [hw1]
  clear hw1 hg0 hg1 hg2
  refine wp_region_late (fun W => W.cell? ⟨w.heap.size, 0, none⟩ = some (.int .i64 a.1) ∧ W.cell? ⟨w.heap.size, 1, none⟩ = some (.int .i64 a.2) ∧ W.cell? ⟨w.heap.size + 1, 0, none⟩ = some (.int .i64 b.1) ∧ W.cell? ⟨w.heap.size + 1, 1, none⟩ = some (.int .i64 b.2) ∧ W.cell? ⟨w.heap.size + 1 + 1, 0, none⟩ = some (.int .i64 c.1) ∧ W.cell? ⟨w.heap.size + 1 + 1, 1, none⟩ = some (.int .i64 c.2)) [] (by kernel_rfl) ?_
  have hS : w1.drew.cell? ⟨w.heap.size, 0, none⟩ = some (.int .i64 a.1) ∧ w1.drew.cell? ⟨w.heap.size, 1, none⟩ = some (.int .i64 a.2) ∧ w1.drew.cell? ⟨w.heap.size + 1, 0, none⟩ = some (.int .i64 b.1) ∧ w1.drew.cell? ⟨w.heap.size + 1, 1, none⟩ = some (.int .i64 b.2) ∧ w1.drew.cell? ⟨w.heap.size + 1 + 1, 0, none⟩ = some (.int .i64 c.1) ∧ w1.drew.cell? ⟨w.heap.size + 1 + 1, 1, none⟩ = some (.int .i64 c.2) := ⟨c0, c1, c2, c3, c4, c5⟩
  refine tkL 0 (.agg #[.int .i64 a.1, .int .i64 a.2]) rfl (by kernel_rfl) (fun _ _ _ h => (h : False).elim) (by kernel_rfl) ‹_› ?_ ?_
  · intro w hSw
    obtain ⟨s0, s1, s2, s3, s4, s5⟩ := hSw
    go_simp
  try simp only [ga, gb, gc, Act.put, gd, ge, gf]
  refine tkL 1 (.agg #[.int .i64 b.1, .int .i64 b.2]) rfl (by kernel_rfl) (fun _ _ _ h => (h : False).elim) (by kernel_rfl) ‹_› ?_ ?_
  · intro w hSw
    obtain ⟨s0, s1, s2, s3, s4, s5⟩ := hSw
    go_simp
  try simp only [ga, gb, gc, Act.put, gd, ge, gf]
  refine tkL 3 (.agg #[.int .i64 a.1, .int .i64 a.2]) rfl (by kernel_rfl) (fun _ _ _ h => (h : False).elim) (by kernel_rfl) ‹_› ?_ ?_
  · intro w hSw
    obtain ⟨s0, s1, s2, s3, s4, s5⟩ := hSw
    go_simp
  try simp only [ga, gb, gc, Act.put, gd, ge, gf]
  refine tkL 4 (.agg #[.int .i64 c.1, .int .i64 c.2]) rfl (by kernel_rfl) (fun _ _ _ h => (h : False).elim) (by kernel_rfl) ‹_› ?_ ?_
  · intro w hSw
    obtain ⟨s0, s1, s2, s3, s4, s5⟩ := hSw
    go_simp
  try simp only [ga, gb, gc, Act.put, gd, ge, gf]
  refine wpAnyL_next (i := 2) (by kernel_rfl) rfl (fun K hK => ?_)
  go_simp
  refine (between_calls a b ha hb _).mono ?_; rintro e w2 ⟨v1, rfl, hv1, hk2⟩
  have hk12 : Keeps (fun _ => False) w1 w2 := knil ((Keeps.refl _ w1).drewN 1) hk2
  go_wp2_with fail
  refine hK.out _ _ ⟨((hk12).cell (p := ⟨w.heap.size, 0, none⟩) hl0 (fun h => h)).trans c0, ((hk12).cell (p := ⟨w.heap.size, 1, none⟩) hl0 (fun h => h)).trans c1, ((hk12).cell (p := ⟨w.heap.size + 1, 0, none⟩) hl1 (fun h => h)).trans c2, ((hk12).cell (p := ⟨w.heap.size + 1, 1, none⟩) hl1 (fun h => h)).trans c3, ((hk12).cell (p := ⟨w.heap.size + 1 + 1, 0, none⟩) hl2 (fun h => h)).trans c4, ((hk12).cell (p := ⟨w.heap.size + 1 + 1, 1, none⟩) hl2 (fun h => h)).trans c5⟩ (fun hHeld => ?_)
  clear hK K
  try simp only [ga, gb, gc, Act.put, gd, ge, gf]
  refine wpAnyL_next (i := 5) (by kernel_rfl) rfl (fun K hK => ?_)
  go_simp
  refine (between_calls a c ha hc _).mono ?_; rintro e w3 ⟨v2, rfl, hv2, hk3⟩
  have hv1 := hv1.kept hk3
  have hk13 : Keeps (fun _ => False) w1 w3 := knil hk12 hk3
  go_wp2_with fail
  refine hK.out _ _ ⟨((hk13).cell (p := ⟨w.heap.size, 0, none⟩) hl0 (fun h => h)).trans c0, ((hk13).cell (p := ⟨w.heap.size, 1, none⟩) hl0 (fun h => h)).trans c1, ((hk13).cell (p := ⟨w.heap.size + 1, 0, none⟩) hl1 (fun h => h)).trans c2, ((hk13).cell (p := ⟨w.heap.size + 1, 1, none⟩) hl1 (fun h => h)).trans c3, ((hk13).cell (p := ⟨w.heap.size + 1 + 1, 0, none⟩) hl2 (fun h => h)).trans c4, ((hk13).cell (p := ⟨w.heap.size + 1 + 1, 1, none⟩) hl2 (fun h => h)).trans c5⟩ (fun hHeld => ?_)
  clear hK K
  try simp only [ga, gb, gc, Act.put, gd, ge, gf]
  refine wpAnyL_next (i := 6) (by kernel_rfl) rfl (fun K hK => ?_)
  go_simp
  refine (cross_calls v1 v2 _ _ _ hv1 hv2 (vec_fit ha hb) (vec_fit ha hc)).mono ?_; rintro e w4 ⟨v3, rfl, hv3, hk4⟩
  have hk14 : Keeps (fun _ => False) w1 w4 := knil hk13 hk4
  go_wp2_with fail
  refine hK.out _ _ ⟨((hk14).cell (p := ⟨w.heap.size, 0, none⟩) hl0 (fun h => h)).trans c0, ((hk14).cell (p := ⟨w.heap.size, 1, none⟩) hl0 (fun h => h)).trans c1, ((hk14).cell (p := ⟨w.heap.size + 1, 0, none⟩) hl1 (fun h => h)).trans c2, ((hk14).cell (p := ⟨w.heap.size + 1, 1, none⟩) hl1 (fun h => h)).trans c3, ((hk14).cell (p := ⟨w.heap.size + 1 + 1, 0, none⟩) hl2 (fun h => h)).trans c4, ((hk14).cell (p := ⟨w.heap.size + 1 + 1, 1, none⟩) hl2 (fun h => h)).trans c5⟩ (fun hHeld => ?_)
  clear hK K
  try simp only [ga, gb, gc, Act.put, gd, ge, gf]
  refine wpAnyL_next (i := 7) (by kernel_rfl) rfl (fun K hK => ?_)
  go_simp
  refine (extend_calls v3 3 3 _ (by decide) (by decide) (by decide) (.inl (by decide)) _ hv3).mono ?_; rintro e w5 ⟨v4, rfl, hv4, hk5⟩
  have hk15 : Keeps (fun _ => False) w1 w5 := knil hk14 hk5
  go_wp2_with fail
  refine hK.out _ _ ⟨((hk15).cell (p := ⟨w.heap.size, 0, none⟩) hl0 (fun h => h)).trans c0, ((hk15).cell (p := ⟨w.heap.size, 1, none⟩) hl0 (fun h => h)).trans c1, ((hk15).cell (p := ⟨w.heap.size + 1, 0, none⟩) hl1 (fun h => h)).trans c2, ((hk15).cell (p := ⟨w.heap.size + 1, 1, none⟩) hl1 (fun h => h)).trans c3, ((hk15).cell (p := ⟨w.heap.size + 1 + 1, 0, none⟩) hl2 (fun h => h)).trans c4, ((hk15).cell (p := ⟨w.heap.size + 1 + 1, 1, none⟩) hl2 (fun h => h)).trans c5⟩ (fun hHeld => ?_)
  clear hK K
  try simp only [ga, gb, gc, Act.put, gd, ge, gf]
  refine tkA 8 (v4) rfl (by kernel_rfl) (fun _ _ _ h => (h : False).elim) (by kernel_rfl) (fun _ => ‹_›) ?_ ?_
  · intro w _; go_simp
  try simp only [ga, gb, gc, Act.put, gd, ge, gf]
  refine wpAnyL_done (by kernel_rfl) ?_ _
  refine NoPanic.normal ?_
  obtain ⟨b7, o7, c7, rfl⟩ := hv4.shape
  clear hS c0 c1 c2 c3 c4 c5
  go_wp2
  go_ret
  exact ⟨_, rfl, hv4, knil hk1 hk15⟩
set_option maxRecDepth 100000 in
theorem osign_calls (a b c : Int × Int) (ha : Pt a) (hb : Pt b) (hc : Pt c) (w : World) (hG : Gl w) : Calls Tryz.prog 20 #[.agg #[.int .i64 a.1, .int .i64 a.2], .agg #[.int .i64 b.1, .int .i64 b.2], .agg #[.int .i64 c.1, .int .i64 c.2]] w fun e w' => e = .returned (.int .i64 (sgnI (det a b c))) ∧ Keeps (fun _ => False) w w' := by
  have HG := Lib.hid hG
  clear hG
  go_enter Tryz.func20, Tryz.ntmps20
  go_wp2_with fail
  obtain ⟨w1, hw1⟩ : ∃ w1, (((w.alloc (.cells #[.int .i64 a.1, .int .i64 a.2] 35)).alloc (.cells #[.int .i64 b.1, .int .i64 b.2] 35)).alloc (.cells #[.int .i64 c.1, .int .i64 c.2] 35)) = w1 := ⟨_, rfl⟩
  have hk1 : Keeps (fun _ => False) w w1 := by rw [← hw1]; exact ((((Keeps.refl _ w).alloc _).alloc _).alloc _)
  have hg0 : w1.heap[w.heap.size]? = some (.cells #[.int .i64 a.1, .int .i64 a.2] 35 (0, 0)) := by
    rw [← hw1, Below.heap_alloc _ _ _ (by simp <;> omega), Below.heap_alloc _ _ _ (by simp <;> omega)]
    have := heap_alloc_new w (.cells #[.int .i64 a.1, .int .i64 a.2] 35)
    simpa using this
  have hg1 : w1.heap[w.heap.size + 1]? = some (.cells #[.int .i64 b.1, .int .i64 b.2] 35 (0, 0)) := by
    rw [← hw1, Below.heap_alloc _ _ _ (by simp <;> omega)]
    have := heap_alloc_new (w.alloc (.cells #[.int .i64 a.1, .int .i64 a.2] 35)) (.cells #[.int .i64 b.1, .int .i64 b.2] 35)
    simpa using this
  have hg2 : w1.heap[w.heap.size + 1 + 1]? = some (.cells #[.int .i64 c.1, .int .i64 c.2] 35 (0, 0)) := by
    rw [← hw1]
    have := heap_alloc_new ((w.alloc (.cells #[.int .i64 a.1, .int .i64 a.2] 35)).alloc (.cells #[.int .i64 b.1, .int .i64 b.2] 35)) (.cells #[.int .i64 c.1, .int .i64 c.2] 35)
    simpa using this
  have c0 := cells_at hg0 0
  have c1 := cells_at hg0 1
  have hl0 : w.heap.size < w1.heap.size := (Array.getElem?_eq_some_iff.1 hg0).1
  have c2 := cells_at hg1 0
  have c3 := cells_at hg1 1
  have hl1 : w.heap.size + 1 < w1.heap.size := (Array.getElem?_eq_some_iff.1 hg1).1
  have c4 := cells_at hg2 0
  have c5 := cells_at hg2 1
  have hl2 : w.heap.size + 1 + 1 < w1.heap.size := (Array.getElem?_eq_some_iff.1 hg2).1
  rw [hw1]
  clear hw1 hg0 hg1 hg2
  refine (ovalue_calls a b c ha hb hc _).mono ?_; rintro e w2 ⟨v1, rfl, hv1, hk2⟩
  obtain ⟨b7, o7, c7, rfl⟩ := hv1.shape
  clear c0 c1 c2 c3 c4 c5
  go_wp2_with fail
  refine (lsign_calls _ 2 _ (by decide) (fit_det ha hb hc) w2 (HG.out.kept (knil hk1 hk2)) hv1).mono ?_; rintro e w3 ⟨rfl, hk3⟩
  go_wp2
  go_ret
  exact ⟨rfl, knil (knil hk1 hk2) hk3⟩
end Go.Proofs.YtmoajobnhiopiaaGreatDoor.lm
set_option linter.unusedSimpArgs false
set_option linter.unusedVariables false
namespace Go.Proofs.YtmoajobnhiopiaaGreatDoor.sv
open Go Go.RowKit Go.Shelf Go.Maps Go.Proofs.YtmoajobnhiopiaaGreatDoor.mk Go.Proofs.YtmoajobnhiopiaaGreatDoor.tp Go.Proofs.YtmoajobnhiopiaaGreatDoor.rg Go.Proofs.YtmoajobnhiopiaaGreatDoor.lm Go.Proofs.YtmoajobnhiopiaaGreatDoor.gm
section
variable {P : Program} {a : Act} {w : World} {Q : Exit → Act → World → Prop} {l : Nat} {J : Act → World → Prop}
@[go_sem] theorem jump_normal : Exit.jump l J Q .normal a w = Q .normal a w := rfl
@[go_sem] theorem jump_exit (id : Nat) : Exit.jump l J Q (.exit id) a w = Q (.exit id) a w := rfl
@[go_sem] theorem jump_ret : Exit.jump l J Q .ret a w = Q .ret a w := rfl
@[go_sem] theorem jump_panic (ch : List PanicEntry) : Exit.jump l J Q (.panic ch) a w = Q (.panic ch) a w := rfl
theorem wp_scope_once {c rest : Code} (l : Nat) (hf : findLabel c l = some rest) (first : c.wp P (Exit.jump l (fun a w => rest.wp P (Exit.jump l (fun _ _ => False) Q) a w) Q) a w) : (Code.scope c).wp P Q a w :=
  wp_scope_jumps l _ (fun _ _ => 0) hf first (fun a w h => wp_mono h (fun e a w h => by
    cases e with
    | goto l' => exact ⟨h.1, h.2.elim⟩
    | normal => exact h
    | exit id => exact h
    | ret => exact h
    | panic ch => exact h
    | outgrown => exact h))
end
theorem results_hdr {fn : Func} {p q r : Tmp} (h : fn.results = #[.cell p 27, .tmp q, .tmp r]) (tmps : Array Value) (w : World) (g : Nat) (t : TypeId) (a b c d : Value) (fr : Nat × Nat)
    (hp : tmps.getD p undef = .pointer (some ⟨g, 0, none⟩)) (hg : w.heap[g]? = some (.cells #[a, b, c, d] t fr)) : (results fn tmps).run Tryz.prog w = .ok (.tuple #[.agg #[a, b, c, d], tmps.getD q undef, tmps.getD r undef]) w := by
  have e' := run_loadVar_row (P := Tryz.prog) w g t 27 #[a, b, c, d] fr _ hg Tryz.underlying27 rfl (by kernel_rfl)
  rw [Array.getD_eq_getD_getElem?] at hp
  simp only [results, h]
  simp [Sem.run_bind, Result.andThen, hp, asAddr, e']
theorem results_two {fn : Func} {p q : Tmp} (h : fn.results = #[.tmp p, .tmp q]) (tmps : Array Value) (P : Program) (w : World) : (results fn tmps).run P w = .ok (.tuple #[tmps.getD p undef, tmps.getD q undef]) w := by
  simp only [results, h]
  simp [Sem.run_bind, Result.andThen]
theorem cells_four {w : World} {g : Nat} {t : TypeId} {fr : Nat × Nat} {z0 z1 z2 z3 a b c d : Value} (h : w.heap[g]? = some (.cells #[z0, z1, z2, z3] t fr)) :
    ((((w.setCell ⟨g, 0, none⟩ a).setCell ⟨g, 1, none⟩ b).setCell ⟨g, 2, none⟩ c).setCell ⟨g, 3, none⟩ d).heap[g]? = some (.cells #[a, b, c, d] t fr) :=
  cells_put (cells_put (cells_put (cells_put h 0 a) 1 b) 2 c) 3 d
theorem keeps_four {a w : World} (h : Keeps (fun _ => False) a w) {g : Nat} (hb : a.heap.size ≤ g) (x0 x1 x2 x3 : Value) : Keeps (fun _ => False) a ((((w.setCell ⟨g, 0, none⟩ x0).setCell ⟨g, 1, none⟩ x1).setCell ⟨g, 2, none⟩ x2).setCell ⟨g, 3, none⟩ x3) := by
  have n : ∀ i, (⟨g, i, none⟩ : Addr).block < a.heap.size → False := fun i hp => by have : g < a.heap.size := hp; omega
  exact (((h.setCell ⟨g, 0, none⟩ (n 0) x0).setCell ⟨g, 1, none⟩ (n 1) x1).setCell ⟨g, 2, none⟩ (n 2) x2).setCell ⟨g, 3, none⟩ (n 3) x3
theorem heap2 (w : World) (a b : Obj) : ((w.alloc a).alloc b).heap[w.heap.size]? = some a ∧ ((w.alloc a).alloc b).heap[w.heap.size + 1]? = some b := by
  refine ⟨by rw [Below.heap_alloc _ _ _ (by simp)]; exact heap_alloc_new w _, ?_⟩
  have := heap_alloc_new (w.alloc a) b
  simpa using this
set_option maxRecDepth 100000 in
theorem index_nil (f : Value) (w : World) : Calls Tryz.prog 140 #[.slice none 0 0, f] w fun e w' => e = .returned (.int .i64 (-1)) ∧ w' = w := by
  go_enter Tryz.func140, Tryz.ntmps140
  go_wp2
  go_loopw [5, 8] (fun _ i wr => i = .int .i64 0 ∧ wr = w) (fun _ _ _ => 0)
  case atStart => exact ⟨rfl, rfl⟩
  case round =>
    obtain ⟨rfl, rfl⟩ := hrel
    go_wp2
    go_ret
    exact ⟨rfl, rfl⟩
theorem contains_nil (f : Value) (w : World) : Calls Tryz.prog 114 #[.slice none 0 0, f] w fun e w' => e = .returned (.bool false) ∧ w' = w := by
  go_enter Tryz.func114, Tryz.ntmps114
  go_wp2_with fail
  refine (index_nil f w).mono ?_; rintro e w' ⟨rfl, hw⟩
  rw [hw]
  go_wp2
  go_ret
  exact ⟨rfl, rfl⟩
end Go.Proofs.YtmoajobnhiopiaaGreatDoor.sv
set_option linter.unusedSimpArgs false
set_option linter.unusedVariables false
namespace Go.Proofs.YtmoajobnhiopiaaGreatDoor.sv
open Go Go.RowKit Go.Shelf Go.Maps Go.Proofs.YtmoajobnhiopiaaGreatDoor.mk Go.Proofs.YtmoajobnhiopiaaGreatDoor.tp Go.Proofs.YtmoajobnhiopiaaGreatDoor.rg Go.Proofs.YtmoajobnhiopiaaGreatDoor.lm Go.Proofs.YtmoajobnhiopiaaGreatDoor.gm
def RdAt (W : World) (br b off n : Nat) : Prop := ∃ ao cap, W.heap[br]? = some (.cells #[.slice ao n cap] 144 (0, 0)) ∧ n ≤ cap ∧ (0 < n → ao = some ⟨b, off, none⟩)
set_option maxRecDepth 100000 in
set_option maxHeartbeats 1000000 in
theorem rbyte_calls (br b off n : Nat) (x : Int) (w : World) (h : RdAt w br b off (n + 1)) (hx : w.cell? ⟨b, off, none⟩ = some (.int .u8 x)) (hne : b ≠ br) :
    Calls Tryz.prog 141 #[.pointer (some ⟨br, 0, none⟩)] w fun e w' => e = .returned (.int .u8 x) ∧ RdAt w' br b (off + 1) n ∧ Keeps (fun i => i = br) w w' := by
  obtain ⟨ao, cap, hg, hle, hao⟩ := h
  have e := hao (by omega)
  subst e
  have c0 := cells_at hg 0
  have f0 := two_frozen hg 0
  have HG := Lib.hid hg
  have h1 : (1 : Int) ≤ (n : Int) + 1 := by omega
  have h2 : (0 : Int) < (n : Int) + 1 := by omega
  have h3 : (n : Int) + 1 ≤ (cap : Int) := by omega
  have h4 : (1 : Int) ≤ (cap : Int) := by omega
  have hlt : br < w.heap.size := (Array.getElem?_eq_some_iff.1 hg).1
  clear hg hao
  go_enter Tryz.func141, Tryz.ntmps141
  go_wp2
  · go_ret
    exact ⟨rfl, ⟨_, _, cells_put HG.out 0 _, by omega, fun h => by omega⟩, (Keeps.refl (fun i => i = br) w).setCell ⟨br, 0, none⟩ (fun _ => rfl) _⟩
  · go_ret
    exact ⟨rfl, ⟨_, _, cells_put HG.out 0 _, by omega, fun _ => rfl⟩, (Keeps.refl (fun i => i = br) w).setCell ⟨br, 0, none⟩ (fun _ => rfl) _⟩
def leW : List Int → Int
  | [] => 0
  | x :: l => x + 256 * leW l
def IsB (x : Int) : Prop := 0 ≤ x ∧ x < 256
theorem leW_snoc (l : List Int) (x : Int) : leW (l ++ [x]) = leW l + x * 256 ^ l.length := by
  induction l with
  | nil => simp [leW]
  | cons y l ih => simp only [List.cons_append, leW, ih, List.length_cons, Int.pow_succ]; grind
theorem leW_lt (l : List Int) (h : ∀ x ∈ l, IsB x) : 0 ≤ leW l ∧ leW l < 256 ^ l.length := by
  induction l with
  | nil => simp [leW]
  | cons y l ih =>
    have h1 := ih (fun x hx => h x (List.mem_cons_of_mem _ hx))
    have h2 := h y List.mem_cons_self
    unfold IsB at h2
    simp only [leW, List.length_cons, Int.pow_succ]
    omega
theorem or_disjoint (a y : Int) (k : Nat) (ha : 0 ≤ a) (hk : a < 2 ^ k) (hy : 0 ≤ y) (ha2 : a < 18446744073709551616) (hlt : y * 2 ^ k < 18446744073709551616) : bits .or .u64 a (y * 2 ^ k) = a + y * 2 ^ k := by
  obtain ⟨m, rfl⟩ := Int.eq_ofNat_of_zero_le ha
  obtain ⟨n, rfl⟩ := Int.eq_ofNat_of_zero_le hy
  have hmk : m < 2 ^ k := by exact_mod_cast hk
  have hnI : ((n : Int) * 2 ^ k) = ((n * 2 ^ k : Nat) : Int) := by push_cast; rfl
  have hnk : n * 2 ^ k < 18446744073709551616 := by rw [hnI] at hlt; omega
  have h1 := Nat.two_pow_add_eq_or_of_lt hmk n
  rw [bits_or]
  have e1 : bv (m : Int) = BitVec.ofNat 64 m := by unfold bv; simp
  have e2 : bv ((n : Int) * 2 ^ k) = BitVec.ofNat 64 (n * 2 ^ k) := by
    rw [hnI]; unfold bv; exact BitVec.ofInt_natCast 64 _
  have hm64 : m < 18446744073709551616 := by omega
  rw [e1, e2]
  unfold nu
  rw [BitVec.toNat_or, BitVec.toNat_ofNat, BitVec.toNat_ofNat, Nat.mod_eq_of_lt hm64, Nat.mod_eq_of_lt hnk, Nat.mul_comm n, Nat.or_comm, ← h1]
  push_cast
  grind
def bt (u : List Int) (k : Nat) : Int := (u[k]?).getD 0
theorem bt_take (u : List Int) (k : Nat) (h : k < u.length) : u.take (k + 1) = u.take k ++ [bt u k] := by
  unfold bt
  rw [List.take_add_one, List.getElem?_eq_getElem h]
  rfl
theorem pow_256 (k : Nat) : (256 : Int) ^ k = 2 ^ (8 * k) := by
  rw [Int.pow_mul]
  rfl
theorem word_step (u : List Int) (hu : ∀ x ∈ u, IsB x) (hl : u.length = 8) (k : Nat) (hk : k < 8) : bits .or .u64 (leW (u.take k)) (bt u k * 2 ^ (8 * k)) = leW (u.take (k + 1)) ∧ IsB (bt u k) ∧ bt u k * 2 ^ (8 * k) < 18446744073709551616 ∧ 0 ≤ bt u k * 2 ^ (8 * k) := by
  have hkl : k < u.length := by omega
  have hb : IsB (bt u k) := by unfold bt; rw [List.getElem?_eq_getElem hkl]; exact hu _ (List.getElem_mem _)
  have ht : (u.take k).length = k := by rw [List.length_take]; omega
  have h1 := leW_lt (u.take k) (fun x hx => hu x (List.mem_of_mem_take hx))
  rw [ht, pow_256] at h1
  have hb' := hb
  unfold IsB at hb'
  have hp : (2 : Int) ^ (8 * k) ≤ 2 ^ 56 := by
    have h := Nat.pow_le_pow_right (show 0 < 2 by decide) (show 8 * k ≤ 56 by omega)
    have e1 : (2 : Int) ^ (8 * k) = ((2 ^ (8 * k) : Nat) : Int) := by push_cast; rfl
    have e2 : (2 : Int) ^ 56 = ((2 ^ 56 : Nat) : Int) := by decide
    rw [e1, e2]
    exact Int.ofNat_le.2 h
  have hp0 : (0 : Int) < 2 ^ (8 * k) := Int.pow_pos (by decide)
  have hm : bt u k * 2 ^ (8 * k) ≤ 255 * 2 ^ 56 := Int.mul_le_mul (by omega) hp (by omega) (by omega)
  have hm0 : 0 ≤ bt u k * 2 ^ (8 * k) := Int.mul_nonneg hb'.1 (by omega)
  have hn : (2 : Int) ^ 56 = 72057594037927936 := by decide
  rw [hn] at hp hm
  refine ⟨?_, hb, by omega, hm0⟩
  rw [or_disjoint _ _ _ h1.1 h1.2 hb'.1 (by omega) (by omega), bt_take u k hkl, leW_snoc, ht, pow_256]
set_option maxRecDepth 100000 in
set_option maxHeartbeats 4000000 in
theorem rword_calls (br b off n : Nat) (u : List Int) (hu : ∀ x ∈ u, IsB x) (hl : u.length = 8) (w : World) (h : RdAt w br b off (n + 8)) (hb : b < w.heap.size) (hne : b ≠ br) (hx : ∀ j, j < 8 → w.cell? ⟨b, off + j, none⟩ = some (.int .u8 (bt u j))) :
    Calls Tryz.prog 117 #[.pointer (some ⟨br, 0, none⟩)] w fun e w' => e = .returned (.int .u64 (leW u)) ∧ RdAt w' br b (off + 8) n ∧ Keeps (fun i => i = br) w w' := by
  have H := Lib.hid h
  have HX := Lib.hid hx
  have HU := Lib.hid hu
  clear h hx hu
  go_enter Tryz.func117, Tryz.ntmps117
  go_wp2
  go_loopw [3, 4, 5] (fun xv _ i wr => ∃ k : Nat, k ≤ 8 ∧ i = .int .i64 k ∧ xv = .int .u64 (leW (u.take k)) ∧ RowKit.Hid (RdAt wr br b (off + k) (n + (8 - k))) ∧ RowKit.Hid (Keeps (fun i => i = br) w wr)) (fun _ _ i _ => 8 - (intOf i).toNat)
  case atStart => exact ⟨0, by omega, rfl, rfl, H.out, Keeps.refl _ _⟩
  case round =>
    obtain ⟨k, hk, rfl, rfl, HR, HK⟩ := hrel
    by_cases hk8 : k < 8
    · have hkI : (k : Int) < 8 := by omega
      have hk0 : (0 : Int) ≤ (k : Int) := by omega
      have hws := word_step u HU.out hl k hk8
      have hr : RdAt wr br b (off + k) ((n + (8 - (k + 1))) + 1) := by have := HR.out; rwa [show n + (8 - k) = (n + (8 - (k + 1))) + 1 by omega] at this
      have hc := (HK.out.cell (p := ⟨b, off + k, none⟩) hb hne).trans (HX.out k hk8)
      have HWS := Lib.hid hws
      have Hr := Lib.hid hr
      have Hc := Lib.hid hc
      clear hws hr hc
      go_wp2_with fail
      refine (rbyte_calls br b (off + k) _ (bt u k) _ Hr.out Hc.out hne).mono ?_; rintro e w1 ⟨rfl, hr1, hk1⟩
      have hw1 : IntKind.u64.wrap (bt u k) = bt u k := by have := HWS.out.2.1; unfold IsB at this; rw [IntKind.wrap_u64]; omega
      have hw2 : IntKind.u64.wrap (bt u k * 2 ^ (8 * k)) = bt u k * 2 ^ (8 * k) := by have := HWS.out.2.2; rw [IntKind.wrap_u64]; omega
      have Hr1 := Lib.hid hr1
      have Hk1 := Lib.hid (HK.out.trans hk1 (fun _ _ h => h))
      clear hr1 hk1
      go_wp2
      go_roundw
      case rel => exact ⟨k + 1, by omega, by go_num, by rw [HWS.out.1], Hr1.out, Hk1.out⟩
      case measure => simp [intOf]; omega
    · obtain rfl : k = 8 := by omega
      go_wp2
      go_ret
      have ht : u.take 8 = u := List.take_of_length_le (by omega)
      exact ⟨by rw [ht]; rfl, HR.out, HK.out⟩
end Go.Proofs.YtmoajobnhiopiaaGreatDoor.sv
set_option linter.unusedSimpArgs false
set_option linter.unusedVariables false
namespace Go.Proofs.YtmoajobnhiopiaaGreatDoor.sv
open Go Go.RowKit Go.Shelf Go.Maps Go.Proofs.YtmoajobnhiopiaaGreatDoor.mk Go.Proofs.YtmoajobnhiopiaaGreatDoor.tp Go.Proofs.YtmoajobnhiopiaaGreatDoor.rg Go.Proofs.YtmoajobnhiopiaaGreatDoor.lm Go.Proofs.YtmoajobnhiopiaaGreatDoor.gm
def wdB (bs : List Int) (i : Nat) : List Int := (bs.drop (8 * i)).take 8
def wd (bs : List Int) (i : Nat) : Int := wrap64 (leW (wdB bs i))
def ptB (bs : List Int) (i : Nat) : Int × Int := (wd bs (2 * i), wd bs (2 * i + 1))
theorem wdB_ok {bs : List Int} (h : ∀ x ∈ bs, IsB x) (i : Nat) : ∀ x ∈ wdB bs i, IsB x := fun x hx => h x (List.mem_of_mem_drop (List.mem_of_mem_take hx))
theorem wdB_length {bs : List Int} {i : Nat} (h : 8 * i + 8 ≤ bs.length) : (wdB bs i).length = 8 := by unfold wdB; rw [List.length_take, List.length_drop]; omega
theorem wdB_bt {bs : List Int} {i j : Nat} (h : j < 8) : bt (wdB bs i) j = bt bs (8 * i + j) := by
  unfold bt wdB
  rw [List.getElem?_take, if_pos h, List.getElem?_drop]
def BytesAt (w : World) (b off : Nat) (bs : List Int) : Prop := b < w.heap.size ∧ (∀ x ∈ bs, IsB x) ∧ ∀ j, j < bs.length → w.cell? ⟨b, off + j, none⟩ = some (.int .u8 (bt bs j))
theorem BytesAt.kept {w w' : World} {b off : Nat} {bs : List Int} {S : Nat → Prop} (h : BytesAt w b off bs) (hk : Keeps S w w') (hS : ¬ S b) : BytesAt w' b off bs :=
  ⟨Nat.lt_of_lt_of_le h.1 hk.size, h.2.1, fun j hj => (hk.cell (p := ⟨b, off + j, none⟩) h.1 hS).trans (h.2.2 j hj)⟩
theorem results_ptB {fn : Func} {p : Tmp} (h : fn.results = #[.cell p 35]) (tmps : Array Value) (w : World) (g : Nat) (t : TypeId) (x y : Value) (fr : Nat × Nat)
    (hp : tmps.getD p undef = .pointer (some ⟨g, 0, none⟩)) (hg : w.heap[g]? = some (.cells #[x, y] t fr)) : (results fn tmps).run Tryz.prog w = .ok (.agg #[x, y]) w := by
  rw [resultsV_cell1 h, hp]
  have e := run_loadVar_row (P := Tryz.prog) w g t 35 #[x, y] fr _ hg Tryz.underlying35 rfl (by kernel_rfl)
  simp [asAddr, e, Result.andThen]
set_option maxRecDepth 100000 in
set_option maxHeartbeats 2000000 in
theorem rpoint_calls (br b off n i : Nat) (bs : List Int) (hi : 16 * i + 16 ≤ bs.length) (w : World) (h : RdAt w br b (off + 16 * i) (n + 16)) (hne : b ≠ br) (hb : BytesAt w b off bs) :
    Calls Tryz.prog 83 #[.pointer (some ⟨br, 0, none⟩)] w fun e w' => e = .returned (.agg #[.int .i64 (ptB bs i).1, .int .i64 (ptB bs i).2]) ∧ RdAt w' br b (off + 16 * (i + 1)) n ∧ Keeps (fun j => j = br) w w' := by
  have hbr : br < w.heap.size := by obtain ⟨ao, cap, hg, _⟩ := h; exact (Array.getElem?_eq_some_iff.1 hg).1
  have H := Lib.hid h
  have HB := Lib.hid hb
  clear h hb
  go_enter Tryz.func83, Tryz.ntmps83
  go_upto_region 1 with fail
  obtain ⟨w0, hw0⟩ : ∃ w0, w.alloc (.cells #[.int .i64 0, .int .i64 0] 35) = w0 := ⟨_, rfl⟩
  have hg0 := heap_alloc_new w (.cells #[.int .i64 0, .int .i64 0] 35)
  have hk0 : Keeps (fun _ => False) w w0 := by rw [← hw0]; exact (Keeps.refl _ w).alloc _
  rw [hw0] at hg0 ⊢
  clear hw0
  have hr0 : RdAt w0 br b (off + 16 * i) (n + 8 + 8) := by
    obtain ⟨ao, cap, hg, h1, h2⟩ := H.out
    exact ⟨ao, cap, (hk0.block _ hbr (fun h => h)).trans hg, h1, h2⟩
  have hb0 := HB.out.kept hk0 (fun h => h)
  have HG0 := Lib.hid hg0
  have hl0 : w.heap.size < w0.heap.size := (Array.getElem?_eq_some_iff.1 hg0).1
  clear hg0
  go_wp2_with fail
  refine (rword_calls br b (off + 16 * i) (n + 8) (wdB bs (2 * i)) (wdB_ok hb0.2.1 _) (wdB_length (by omega)) w0 hr0 hb0.1 hne (fun j hj => by rw [wdB_bt hj, Nat.add_assoc, show 16 * i + j = 8 * (2 * i) + j by omega]; exact hb0.2.2 _ (by omega))).mono ?_; rintro e w1 ⟨rfl, hr1, hk1⟩
  have hb1 := hb0.kept hk1 hne
  have HR1 := Lib.hid hr1
  have HB1 := Lib.hid hb1
  clear hr0 hb0 hr1 hb1
  obtain ⟨x1, hx1⟩ : ∃ x1, leW (wdB bs (2 * i)) = x1 := ⟨_, rfl⟩
  rw [hx1]
  have HX1 := Lib.hid hx1
  clear hx1
  go_wp2_with fail
  refine (rword_calls br b (off + 16 * i + 8) n (wdB bs (2 * i + 1)) (wdB_ok HB1.out.2.1 _) (wdB_length (by omega)) w1 HR1.out HB1.out.1 hne (fun j hj => by rw [wdB_bt hj, show off + 16 * i + 8 + j = off + (8 * (2 * i + 1) + j) by omega]; exact HB1.out.2.2 _ (by omega))).mono ?_; rintro e w2 ⟨rfl, hr2, hk2⟩
  obtain ⟨x2, hx2⟩ : ∃ x2, leW (wdB bs (2 * i + 1)) = x2 := ⟨_, rfl⟩
  rw [hx2]
  have HX2 := Lib.hid hx2
  have HR2 := Lib.hid hr2
  have hk02 := hk1.trans hk2 (fun _ _ h => h)
  have hg2 := (hk02.block _ hl0 (by omega)).trans HG0.out
  have e0 := two_frozen hg2 0
  have e1 := two_frozen hg2 1
  have f0 := cells_at hg2 0
  have f1 := cells_at hg2 1
  have HG2 := Lib.hid hg2
  clear hx2 hr2 hg2
  go_wp2_with fail
  have hkF : Keeps (fun j => j = w.heap.size) w2 ((w2.setCell ⟨w.heap.size, 0, none⟩ (.int .i64 (wrap64 x1))).setCell ⟨w.heap.size, 1, none⟩ (.int .i64 (wrap64 x2))) := ((Keeps.refl (fun j => j = w.heap.size) w2).setCell ⟨w.heap.size, 0, none⟩ (fun _ => rfl) _).setCell ⟨w.heap.size, 1, none⟩ (fun _ => rfl) _
  refine bodyPost_ret (results_ptB rfl _ _ _ _ _ _ _ rfl (cells_two HG2.out)) rfl ⟨?_, ?_, ?_⟩
  · unfold ptB wd
    rw [HX1.out, HX2.out]
  · obtain ⟨ao, cap, hg, h1, h2⟩ := HR2.out
    refine ⟨ao, cap, (hkF.block br (Array.getElem?_eq_some_iff.1 hg).1 (by omega)).trans hg, h1, fun h => ?_⟩
    rw [h2 h, show off + 16 * i + 8 + 8 = off + 16 * (i + 1) by omega]
  · exact ((hk0.mono (fun _ _ h => h.elim)).trans hk02 (fun _ _ h => h)).trans hkF (fun i hi h => by omega)
end Go.Proofs.YtmoajobnhiopiaaGreatDoor.sv
set_option linter.unusedSimpArgs false
set_option linter.unusedVariables false
namespace Go.Proofs.YtmoajobnhiopiaaGreatDoor.nb
open Go Go.Proofs.YtmoajobnhiopiaaGreatDoor.mk Go.Proofs.YtmoajobnhiopiaaGreatDoor.lm Go.Proofs.YtmoajobnhiopiaaGreatDoor.gm
def dv : List Int → Int
  | [] => 0
  | d :: l => d + 65536 * dv l
def Digs (l : List Int) : Prop := ∀ d ∈ l, 0 ≤ d ∧ d < 65536
theorem Digs.snoc {l : List Int} {d : Int} (h : Digs l) (hd : 0 ≤ d ∧ d < 65536) : Digs (l ++ [d]) := by
  intro x hx
  rcases List.mem_append.1 hx with hx | hx
  · exact h x hx
  · rw [List.mem_singleton] at hx; rw [hx]; exact hd
theorem Digs.take {l : List Int} (h : Digs l) (k : Nat) : Digs (l.take k) := fun x hx => h x (List.mem_of_mem_take hx)
theorem Digs.set {l : List Int} (h : Digs l) {i : Nat} {d : Int} (hd : 0 ≤ d ∧ d < 65536) : Digs (l.set i d) := by
  intro x hx
  rcases List.mem_or_eq_of_mem_set hx with h' | h'
  · exact h x h'
  · rw [h']; exact hd
def dg (l : List Int) (i : Nat) : Int := (l[i]?).getD 0
def Norm (l : List Int) : Prop := Digs l ∧ ∀ k, l.length = k + 1 → dg l k ≠ 0
theorem Norm.nil : Norm [] := ⟨fun _ h => (List.not_mem_nil h).elim, fun k h => by simp at h⟩
def Rep (s : Int) (l : List Int) (x : Int) : Prop := s = sgnI x ∧ Norm l ∧ dv l = sgnI x * x
theorem Rep.zero : Rep 0 [] 0 := ⟨rfl, Norm.nil, rfl⟩
end Go.Proofs.YtmoajobnhiopiaaGreatDoor.nb
set_option linter.unusedSimpArgs false
set_option linter.unusedVariables false
namespace Go.Proofs.YtmoajobnhiopiaaGreatDoor.nb
open Go Go.RowKit Go.Shelf Go.Maps Go.Proofs.YtmoajobnhiopiaaGreatDoor.mk Go.Proofs.YtmoajobnhiopiaaGreatDoor.tp Go.Proofs.YtmoajobnhiopiaaGreatDoor.rg Go.Proofs.YtmoajobnhiopiaaGreatDoor.lm Go.Proofs.YtmoajobnhiopiaaGreatDoor.gm
def dAt (w : World) (v : Value) (l : List Int) : Prop :=
  (v = .slice none 0 0 ∧ l = []) ∨ ∃ b off cap, v = .slice (some ⟨b, off, none⟩) l.length cap ∧ l.length ≤ cap ∧ b < w.heap.size ∧ ∀ (i : Nat) (x : Int), l[i]? = some x → w.cell? ⟨b, off + i, none⟩ = some (.int .i64 x)
theorem dAt.kept {w w' : World} {v : Value} {l : List Int} (h : dAt w v l) (hk : Keeps (fun _ => False) w w') : dAt w' v l := by
  rcases h with h | ⟨b, off, cap, hv, hle, hb, hc⟩
  · exact .inl h
  · exact .inr ⟨b, off, cap, hv, hle, Nat.lt_of_lt_of_le hb hk.size, fun i x hi => (hk.cell (p := ⟨b, off + i, none⟩) hb (fun h => h)).trans (hc i x hi)⟩
theorem dAt.shape {w : World} {v : Value} {l : List Int} (h : dAt w v l) : ∃ ao cap, v = .slice ao l.length cap := by
  rcases h with ⟨rfl, rfl⟩ | ⟨b, off, cap, rfl, _⟩
  · exact ⟨_, _, rfl⟩
  · exact ⟨_, _, rfl⟩
theorem dAt.block {w : World} {v : Value} {l : List Int} (h : dAt w v l) {i : Nat} (hi : i < l.length) : ∃ b off cap, v = .slice (some ⟨b, off, none⟩) l.length cap ∧ l.length ≤ cap ∧ b < w.heap.size ∧ ∀ i, i < l.length → w.cell? ⟨b, off + i, none⟩ = some (.int .i64 (dg l i)) := by
  rcases h with ⟨rfl, rfl⟩ | ⟨b, off, cap, rfl, hle, hb, hc⟩
  · simp at hi
  · exact ⟨b, off, cap, rfl, hle, hb, fun j hj => hc j _ (by unfold dg; rw [List.getElem?_eq_getElem hj]; rfl)⟩
theorem dAt.take {w : World} {b off cap : Nat} {l : List Int} (h : dAt w (.slice (some ⟨b, off, none⟩) l.length cap) l) (k : Nat) (hk : k ≤ l.length) : dAt w (.slice (some ⟨b, off, none⟩) k cap) (l.take k) := by
  rcases h with ⟨h, _⟩ | ⟨b', off', cap', hv, hle, hb, hc⟩
  · cases h
  · injection hv with h1 _ h3
    injection h1 with h1
    injection h1 with e1 e2
    subst e1
    subst e2
    subst h3
    refine .inr ⟨b, off, cap, by rw [List.length_take, Nat.min_eq_left hk], by rw [List.length_take]; omega, hb, fun i x hi => hc i x ?_⟩
    rw [List.getElem?_take] at hi
    split at hi
    · exact hi
    · cases hi
def nAt (w : World) (v : Value) (x : Int) (n : Nat) : Prop := ∃ s sv l, v = .agg #[.int .i64 s, sv] ∧ dAt w sv l ∧ Rep s l x ∧ l.length ≤ n
theorem nAt.kept {w w' : World} {v : Value} {x : Int} {n : Nat} (h : nAt w v x n) (hk : Keeps (fun _ => False) w w') : nAt w' v x n := by
  obtain ⟨s, sv, l, h1, h2, h3, h4⟩ := h
  exact ⟨s, sv, l, h1, h2.kept hk, h3, h4⟩
theorem dAt.alloc {w : World} {v : Value} {l : List Int} (h : dAt w v l) (o : Obj) : dAt (w.alloc o) v l := h.kept ((Keeps.refl _ w).alloc o)
end Go.Proofs.YtmoajobnhiopiaaGreatDoor.nb
set_option linter.unusedSimpArgs false
set_option linter.unusedVariables false
namespace Go.Proofs.YtmoajobnhiopiaaGreatDoor.nb
open Go Go.RowKit Go.Shelf Go.Maps Go.Proofs.YtmoajobnhiopiaaGreatDoor.mk Go.Proofs.YtmoajobnhiopiaaGreatDoor.tp Go.Proofs.YtmoajobnhiopiaaGreatDoor.rg Go.Proofs.YtmoajobnhiopiaaGreatDoor.lm Go.Proofs.YtmoajobnhiopiaaGreatDoor.gm
theorem dAt.put {w : World} {v : Value} {l : List Int} {g : Nat} {t : TypeId} {fr : Nat × Nat} (h : dAt w v l) (hn : Norm l) (hg : w.heap[g]? = some (.cells #[.int .i64 0, .slice none 0 0] t fr)) (p q : Value) : dAt ((w.setCell ⟨g, 0, none⟩ p).setCell ⟨g, 1, none⟩ q) v l := by
  have hk : Keeps (fun i => i = g) w ((w.setCell ⟨g, 0, none⟩ p).setCell ⟨g, 1, none⟩ q) := ((Keeps.refl (fun i => i = g) w).setCell ⟨g, 0, none⟩ (fun _ => rfl) p).setCell ⟨g, 1, none⟩ (fun _ => rfl) q
  rcases h with h | ⟨b, off, cap, hv, hle, hb, hc⟩
  · exact .inl h
  · refine .inr ⟨b, off, cap, hv, hle, Nat.lt_of_lt_of_le hb hk.size, fun i x hi => ?_⟩
    have hne : b ≠ g := by
      rintro rfl
      obtain ⟨k, hlen⟩ : ∃ k, l.length = k + 1 := ⟨l.length - 1, by have := (List.getElem?_eq_some_iff.1 hi).1; omega⟩
      have h0 := hn.2 k hlen
      have hx : l[k]? = some (dg l k) := by unfold dg; rw [List.getElem?_eq_getElem (by omega)]; rfl
      have h1 := hc k _ hx
      rw [cells_at hg] at h1
      match off + k, h1 with
      | 0, h1 => simp at h1; exact h0 h1.symm
      | 1, h1 => simp at h1
      | m + 2, h1 => simp at h1
    exact (hk.cell (p := ⟨b, off + i, none⟩) hb hne).trans (hc i x hi)
end Go.Proofs.YtmoajobnhiopiaaGreatDoor.nb
set_option linter.unusedSimpArgs false
set_option linter.unusedVariables false
namespace Go.Proofs.YtmoajobnhiopiaaGreatDoor.po
open Go Go.RowKit Go.Shelf Go.Maps Go.Proofs.YtmoajobnhiopiaaGreatDoor.mk Go.Proofs.YtmoajobnhiopiaaGreatDoor.tp Go.Proofs.YtmoajobnhiopiaaGreatDoor.rg Go.Proofs.YtmoajobnhiopiaaGreatDoor.lm Go.Proofs.YtmoajobnhiopiaaGreatDoor.gm Go.Proofs.YtmoajobnhiopiaaGreatDoor.nb
open List renaming getElem_toArray → ga, getElem_cons_zero → gb, getElem_cons_succ → gc, setIfInBounds_toArray → gd, set_cons_zero → ge, set_cons_succ → gf
def ptsAt (w : World) (v : Value) (l : List (Int × Int)) : Prop :=
  (l = [] ∧ ∃ ao cap, v = .slice ao 0 cap) ∨ ∃ b off cap, v = .slice (some ⟨b, off, none⟩) l.length cap ∧ b < w.heap.size ∧ ∀ i, i < l.length → w.cell? ⟨b, off + i * 2, none⟩ = some (.int .i64 (pt l i).1) ∧ w.cell? ⟨b, off + i * 2 + 1, none⟩ = some (.int .i64 (pt l i).2)
theorem ptsAt.kept {w w' : World} {v : Value} {l : List (Int × Int)} (h : ptsAt w v l) (hk : Keeps (fun _ => False) w w') : ptsAt w' v l := by
  rcases h with h | ⟨b, off, cap, hv, hb, hc⟩
  · exact .inl h
  · exact .inr ⟨b, off, cap, hv, Nat.lt_of_lt_of_le hb hk.size, fun i hi => ⟨(hk.cell (p := ⟨b, off + i * 2, none⟩) hb (fun h => h)).trans (hc i hi).1, (hk.cell (p := ⟨b, off + i * 2 + 1, none⟩) hb (fun h => h)).trans (hc i hi).2⟩⟩
theorem ptsAt.shape {w : World} {v : Value} {l : List (Int × Int)} (h : ptsAt w v l) : ∃ ao cap, v = .slice ao l.length cap := by
  rcases h with ⟨rfl, ao, cap, rfl⟩ | ⟨b, off, cap, rfl, _⟩
  · exact ⟨_, _, rfl⟩
  · exact ⟨_, _, rfl⟩
theorem ptsAt.block {w : World} {v : Value} {l : List (Int × Int)} (h : ptsAt w v l) {i : Nat} (hi : i < l.length) : ∃ b off cap, v = .slice (some ⟨b, off, none⟩) l.length cap ∧ b < w.heap.size ∧ ∀ i, i < l.length → w.cell? ⟨b, off + i * 2, none⟩ = some (.int .i64 (pt l i).1) ∧ w.cell? ⟨b, off + i * 2 + 1, none⟩ = some (.int .i64 (pt l i).2) := by
  rcases h with ⟨rfl, _⟩ | ⟨b, off, cap, rfl, hb, hc⟩
  · simp at hi
  · exact ⟨b, off, cap, rfl, hb, hc⟩
def Pts (l : List (Int × Int)) : Prop := ∀ p ∈ l, Pt p
theorem Pts.at {l : List (Int × Int)} (h : Pts l) (i : Nat) : Pt (pt l i) := by
  unfold pt
  rw [List.getD_eq_getElem?_getD]
  cases hi : l[i]? with
  | none => exact ⟨by simp [IsS], by simp [IsS]⟩
  | some p => exact h p (List.mem_of_getElem? hi)
theorem edgeD_eq (l : List (Int × Int)) (i : Nat) (p : Int × Int) : edgeD l i p = det (pt l i) (pt l ((i + 1) % l.length)) p := rfl
theorem polyS_ok (l : List (Int × Int)) : -1 ≤ polyS l ∧ polyS l ≤ 1 := sgnI_bound _
set_option maxRecDepth 100000 in
set_option maxHeartbeats 2000000 in
theorem pori_calls (v : Value) (l : List (Int × Int)) (h3 : 3 ≤ l.length) (h64 : l.length ≤ 64) (hp : Pts l) (w : World) (hG : Gl w) (h : ptsAt w v l) : Calls Tryz.prog 42 #[v] w fun e w' => e = .returned (.int .i64 (polyS l)) ∧ Keeps (fun _ => False) w w' := by
  obtain ⟨b, off, cap, rfl, hb, hc⟩ := h.block (i := 0) (by omega)
  have c0 := (hc 0 (by omega)).1
  have c1 := (hc 0 (by omega)).2
  have c2 := (hc 1 (by omega)).1
  have c3 := (hc 1 (by omega)).2
  have c4 := (hc 2 (by omega)).1
  have c5 := (hc 2 (by omega)).2
  simp only [Nat.zero_mul, Nat.one_mul, Nat.add_zero, Nat.add_assoc, Nat.reduceMul, Nat.reduceAdd] at c0 c1 c2 c3 c4 c5
  have hn3 : (2 : Int) < (l.length : Int) := by omega
  have hn1 : (1 : Int) < (l.length : Int) := by omega
  have hn0 : (0 : Int) < (l.length : Int) := by omega
  have hlne : ¬ l = [] := fun h => by rw [h] at h3; simp at h3
  have HG := Lib.hid hG
  have hnl : ¬ (l.length : Int) < 3 := by omega
  have hng : ¬ (l.length : Int) > 64 := by omega
  clear hG
  clear hc h
  go_enter Tryz.func42, Tryz.ntmps42
  go_wp2_with fail
  refine wp_region_late (fun W => W.cell? ⟨b, off, none⟩ = some (.int .i64 (pt l 0).1) ∧ W.cell? ⟨b, off + 1, none⟩ = some (.int .i64 (pt l 0).2) ∧ W.cell? ⟨b, off + 2, none⟩ = some (.int .i64 (pt l 1).1) ∧ W.cell? ⟨b, off + 3, none⟩ = some (.int .i64 (pt l 1).2) ∧ W.cell? ⟨b, off + 4, none⟩ = some (.int .i64 (pt l 2).1) ∧ W.cell? ⟨b, off + 5, none⟩ = some (.int .i64 (pt l 2).2)) [] (by kernel_rfl) ?_
  have hS : w.drew.cell? ⟨b, off, none⟩ = some (.int .i64 (pt l 0).1) ∧ w.drew.cell? ⟨b, off + 1, none⟩ = some (.int .i64 (pt l 0).2) ∧ w.drew.cell? ⟨b, off + 2, none⟩ = some (.int .i64 (pt l 1).1) ∧ w.drew.cell? ⟨b, off + 3, none⟩ = some (.int .i64 (pt l 1).2) ∧ w.drew.cell? ⟨b, off + 4, none⟩ = some (.int .i64 (pt l 2).1) ∧ w.drew.cell? ⟨b, off + 5, none⟩ = some (.int .i64 (pt l 2).2) := ⟨c0, c1, c2, c3, c4, c5⟩
  refine tkA 0 (.slice (some ⟨b, off, none⟩) l.length cap) rfl (by kernel_rfl) (fun _ _ _ h => (h : False).elim) (by kernel_rfl) (fun _ => ‹_›) ?_ ?_
  · intro w _; go_simp
  try simp only [ga, gb, gc, Act.put, gd, ge, gf]
  refine tkA 1 (.pointer (some ⟨b, off, none⟩)) rfl (by kernel_rfl) (fun _ _ _ h => (h : False).elim) (by kernel_rfl) (fun _ => ‹_›) ?_ ?_
  · intro w _; go_simp
  try simp only [ga, gb, gc, Act.put, gd, ge, gf]
  refine tkL 2 (.agg #[.int .i64 (pt l 0).1, .int .i64 (pt l 0).2]) rfl (by kernel_rfl) (fun _ _ _ h => (h : False).elim) (by kernel_rfl) ‹_› ?_ ?_
  · intro w hSw
    obtain ⟨s0, s1, s2, s3, s4, s5⟩ := hSw
    go_simp
  try simp only [ga, gb, gc, Act.put, gd, ge, gf]
  refine tkA 3 (.slice (some ⟨b, off, none⟩) l.length cap) rfl (by kernel_rfl) (fun _ _ _ h => (h : False).elim) (by kernel_rfl) (fun _ => ‹_›) ?_ ?_
  · intro w _; go_simp
  try simp only [ga, gb, gc, Act.put, gd, ge, gf]
  refine tkA 4 (.pointer (some ⟨b, off + 2, none⟩)) rfl (by kernel_rfl) (fun _ _ _ h => (h : False).elim) (by kernel_rfl) (fun _ => ‹_›) ?_ ?_
  · intro w _; go_simp
  try simp only [ga, gb, gc, Act.put, gd, ge, gf]
  refine tkL 5 (.agg #[.int .i64 (pt l 1).1, .int .i64 (pt l 1).2]) rfl (by kernel_rfl) (fun _ _ _ h => (h : False).elim) (by kernel_rfl) ‹_› ?_ ?_
  · intro w hSw
    obtain ⟨s0, s1, s2, s3, s4, s5⟩ := hSw
    go_simp
  try simp only [ga, gb, gc, Act.put, gd, ge, gf]
  refine tkA 6 (.slice (some ⟨b, off, none⟩) l.length cap) rfl (by kernel_rfl) (fun _ _ _ h => (h : False).elim) (by kernel_rfl) (fun _ => ‹_›) ?_ ?_
  · intro w _; go_simp
  try simp only [ga, gb, gc, Act.put, gd, ge, gf]
  refine tkA 7 (.pointer (some ⟨b, off + 4, none⟩)) rfl (by kernel_rfl) (fun _ _ _ h => (h : False).elim) (by kernel_rfl) (fun _ => ‹_›) ?_ ?_
  · intro w _; go_simp
  try simp only [ga, gb, gc, Act.put, gd, ge, gf]
  refine tkL 8 (.agg #[.int .i64 (pt l 2).1, .int .i64 (pt l 2).2]) rfl (by kernel_rfl) (fun _ _ _ h => (h : False).elim) (by kernel_rfl) ‹_› ?_ ?_
  · intro w hSw
    obtain ⟨s0, s1, s2, s3, s4, s5⟩ := hSw
    go_simp
  try simp only [ga, gb, gc, Act.put, gd, ge, gf]
  refine wpAnyL_next (i := 9) (by kernel_rfl) rfl (fun K hK => ?_)
  go_simp
  refine (osign_calls (pt l 0) (pt l 1) (pt l 2) (hp.at 0) (hp.at 1) (hp.at 2) _ (HG.out.kept ((Keeps.refl _ w).drewN 1))).mono ?_; rintro e w2 ⟨rfl, hk2⟩
  have hk : Keeps (fun _ => False) w w2 := knil ((Keeps.refl _ w).drewN 1) hk2
  go_wp2_with fail
  refine hK.out _ _ ⟨((hk).cell (p := ⟨b, off, none⟩) hb (fun h => h)).trans c0, ((hk).cell (p := ⟨b, off + 1, none⟩) hb (fun h => h)).trans c1, ((hk).cell (p := ⟨b, off + 2, none⟩) hb (fun h => h)).trans c2, ((hk).cell (p := ⟨b, off + 3, none⟩) hb (fun h => h)).trans c3, ((hk).cell (p := ⟨b, off + 4, none⟩) hb (fun h => h)).trans c4, ((hk).cell (p := ⟨b, off + 5, none⟩) hb (fun h => h)).trans c5⟩ (fun hHeld => ?_)
  clear hK K
  try simp only [ga, gb, gc, Act.put, gd, ge, gf]
  refine tkA 10 (.int .i64 (sgnI (det (pt l 0) (pt l 1) (pt l 2)))) rfl (by kernel_rfl) (fun _ _ _ h => (h : False).elim) (by kernel_rfl) (fun _ => ‹_›) ?_ ?_
  · intro w _; go_simp
  try simp only [ga, gb, gc, Act.put, gd, ge, gf]
  refine wpAnyL_done (by kernel_rfl) ?_ _
  refine NoPanic.normal ?_
  clear hS c0 c1 c2 c3 c4 c5
  go_wp2
  go_ret
  exact ⟨rfl, hk⟩
theorem mod_next {i n : Nat} (hi : i < n) : (i + 1) % n < n := Nat.mod_lt _ (by omega)
theorem sides_succ (l : List (Int × Int)) (i : Nat) (p : Int × Int) : sides l (i + 1) p = sides l i p ++ [polyS l * sgnI (edgeD l i p)] := by unfold sides; rw [List.range_succ, List.map_append]; rfl
theorem side_prod (l : List (Int × Int)) (i : Nat) (p : Int × Int) : -1 ≤ polyS l * sgnI (edgeD l i p) ∧ polyS l * sgnI (edgeD l i p) ≤ 1 := by
  unfold polyS
  rw [← sgnI_mul]
  exact sgnI_bound _
end Go.Proofs.YtmoajobnhiopiaaGreatDoor.po
set_option linter.unusedSimpArgs false
set_option linter.unusedVariables false
namespace Go.Proofs.YtmoajobnhiopiaaGreatDoor.sv
open Go Go.RowKit Go.Shelf Go.Maps Go.Proofs.YtmoajobnhiopiaaGreatDoor.mk Go.Proofs.YtmoajobnhiopiaaGreatDoor.tp Go.Proofs.YtmoajobnhiopiaaGreatDoor.rg Go.Proofs.YtmoajobnhiopiaaGreatDoor.lm Go.Proofs.YtmoajobnhiopiaaGreatDoor.gm Go.Proofs.YtmoajobnhiopiaaGreatDoor.po
def pfl : List (Int × Int) → List Value
  | [] => []
  | p :: l => .int .i64 p.1 :: .int .i64 p.2 :: pfl l
theorem pfl_length (l : List (Int × Int)) : (pfl l).length = l.length * 2 := by
  induction l with
  | nil => rfl
  | cons p l ih => simp only [pfl, List.length_cons, ih]; omega
theorem pfl_get (l : List (Int × Int)) : ∀ (i : Nat), i < l.length → (pfl l)[i * 2]? = some (.int .i64 (pt l i).1) ∧ (pfl l)[i * 2 + 1]? = some (.int .i64 (pt l i).2) := by
  induction l with
  | nil => intro i h; simp at h
  | cons p l ih =>
    intro i h
    cases i with
    | zero => exact ⟨rfl, rfl⟩
    | succ i =>
      have h' := ih i (by simpa using h)
      have e1 : (i + 1) * 2 = i * 2 + 1 + 1 := by omega
      rw [e1]
      exact h'
theorem pfl_set (l : List (Int × Int)) : ∀ (i : Nat) (p : Int × Int), i < l.length → ((pfl l).set (i * 2) (.int .i64 p.1)).set (i * 2 + 1) (.int .i64 p.2) = pfl (l.set i p) := by
  induction l with
  | nil => intro i p h; simp at h
  | cons q l ih =>
    intro i p h
    cases i with
    | zero => rfl
    | succ i =>
      have h' := ih i p (by simpa using h)
      have e1 : (i + 1) * 2 = i * 2 + 1 + 1 := by omega
      rw [e1, List.set_cons_succ]
      show _ = (Value.int .i64 q.1 :: Value.int .i64 q.2 :: pfl (l.set i p))
      rw [← h']
      rfl
def mixP (bs : List Int) (n k : Nat) : List (Int × Int) := (List.range n).map (fun i => if i < k then ptB bs i else (0, 0))
def ptsB (bs : List Int) (n : Nat) : List (Int × Int) := (List.range n).map (ptB bs)
theorem mixP_length (bs : List Int) (n k : Nat) : (mixP bs n k).length = n := by unfold mixP; simp
theorem mixP_set {bs : List Int} {n k : Nat} (h : k < n) : (mixP bs n k).set k (ptB bs k) = mixP bs n (k + 1) := by
  apply List.ext_getElem?
  intro i
  unfold mixP
  rw [List.getElem?_set]
  by_cases hik : k = i
  · subst hik
    simp [h]
  · rw [if_neg hik]
    by_cases hi : i < n
    · simp only [List.getElem?_map, List.getElem?_range hi, Option.map_some]
      by_cases h1 : i < k
      · rw [if_pos h1, if_pos (by omega)]
      · rw [if_neg h1, if_neg (by omega)]
    · simp [List.getElem?_eq_none, hi]
theorem mixP_all (bs : List Int) (n : Nat) : mixP bs n n = ptsB bs n := by
  unfold mixP ptsB
  apply List.map_congr_left
  intro i hi
  rw [if_pos (List.mem_range.1 hi)]
theorem pfl_zeros (n : Nat) : pfl (List.replicate n (0, 0)) = List.replicate (n * 2) (.int .i64 0) := by
  induction n with
  | zero => rfl
  | succ n ih => rw [List.replicate_succ, pfl, ih, show (n + 1) * 2 = n * 2 + 1 + 1 by omega, List.replicate_succ, List.replicate_succ]
theorem mixP_zero (bs : List Int) (n : Nat) : mixP bs n 0 = List.replicate n (0, 0) := by
  unfold mixP
  apply List.ext_getElem?
  intro i
  by_cases hi : i < n
  · simp [hi]
  · simp [List.getElem?_eq_none, hi]
theorem made_pts (n : Nat) : (madeCells (Value.agg #[.int .i64 0, .int .i64 0]).cells (n * 2)).toList = pfl (List.replicate n (0, 0)) := by
  rw [pfl_zeros]
  apply List.ext_getElem?
  intro j
  by_cases hj : j < n * 2
  · have e : (madeCells (Value.agg #[.int .i64 0, .int .i64 0]).cells (n * 2)).toList[j]? = some (.int .i64 0) := by
      rcases Nat.mod_two_eq_zero_or_one j with h | h <;> simp [madeCells, Value.cells, hj, h]
    rw [e]
    simp [hj]
  · simp [madeCells, hj]
theorem infoP : (Tryz.prog.info? 35).map (fun i => (i.zero, i.size, i.bytes)) = some (some (.agg #[.int .i64 0, .int .i64 0]), 2, 16) := by kernel_rfl
theorem infoQ : (Tryz.prog.info? 45).map (fun i => (i.zero, i.size, i.bytes)) = some (some (.agg #[.int .i64 0, .int .i64 0, .int .u64 0]), 3, 24) := by kernel_rfl
theorem ptsAt_row {w : World} {base : Nat} {v : Value} {l : List (Int × Int)} {n : Nat} (h : w.ownsRow base 35 2 v n (pfl l)) (hn : n = l.length) : ptsAt w v l := by
  subst hn
  rcases h.2 with ⟨rfl, h0⟩ | ⟨g, cap, cur, rfl, hb, hg, hle, hcap, hcur, htake⟩
  · have e := List.eq_nil_of_length_eq_zero h0
    subst e
    exact .inl ⟨rfl, none, 0, rfl⟩
  · refine .inr ⟨g, 0, cap, rfl, (Array.getElem?_eq_some_iff.1 hg).1, fun i hi => ?_⟩
    have h1 := h.cellAt (i * 2) (by omega)
    have h2 := h.cellAt (i * 2 + 1) (by omega)
    rw [Nat.zero_add]
    exact ⟨h1.trans (pfl_get l i hi).1, h2.trans (pfl_get l i hi).2⟩
set_option maxRecDepth 100000 in
set_option maxHeartbeats 4000000 in
theorem take_calls (br b off m n : Nat) (bs : List Int) (hn : n ≤ 65) (hl : 16 * n ≤ bs.length) (w : World) (h : RdAt w br b off (16 * n + m)) (hne : b ≠ br) (hb : BytesAt w b off bs) :
    Calls Tryz.prog 81 #[.int .i64 n, .func (.func 83) #[.pointer (some ⟨br, 0, none⟩)] #[]] w fun e w' => ∃ v', e = .returned v' ∧ w'.ownsRow w.heap.size 35 2 v' n (pfl (ptsB bs n)) ∧ RdAt w' br b (off + 16 * n) m ∧ Keeps (fun j => j = br) w w' := by
  obtain ⟨i0, hi, hz0, hz1, hz2⟩ := info_parts infoP
  have hmk := fun w => run_make (P := Tryz.prog) w 38 35 i0 (.agg #[.int .i64 0, .int .i64 0]) Tryz.underlying38 hi hz0 .i64 .i64 (n : Int) (n : Int) (by omega) (Int.le_refl _) (by rw [hz2]; omega) (by omega)
  rw [hz1] at hmk
  simp only [Int.toNat_natCast] at hmk
  have hZ := made_pts n
  generalize madeCells (Value.agg #[.int .i64 0, .int .i64 0]).cells (n * 2) = Z at hmk hZ
  have HZ := Lib.hid hZ
  have hbr : br < w.heap.size := by obtain ⟨ao, cap, hg, _⟩ := h; exact (Array.getElem?_eq_some_iff.1 hg).1
  have H := Lib.hid h
  have HB := Lib.hid hb
  clear hZ hi hz0 hz1 hz2 h hb
  go_enter Tryz.func81, Tryz.ntmps81
  go_wp2_with (simp only [hmk])
  obtain ⟨w2, hw2⟩ : ∃ w2, w.alloc (.cells Z 35) = w2 := ⟨_, rfl⟩
  obtain ⟨g, hg⟩ : ∃ g, w.heap.size = g := ⟨_, rfl⟩
  have hr2 : w2.ownsRow g 35 2 (.slice (some ⟨g, 0, none⟩) n n) n (pfl (mixP bs n 0)) := by
    rw [mixP_zero, ← HZ.out, ← hw2, ← hg]
    refine World.ownsRow_lit w Z n (Nat.le_refl _) (by unfold maxLen; omega) ?_
    have := congrArg List.length HZ.out
    rw [pfl_length] at this
    simpa using this
  have hk2 : Keeps (fun _ => False) w w2 := by rw [← hw2]; exact (Keeps.refl _ w).alloc _
  have hrd2 : RdAt w2 br b (off + 16 * 0) (16 * (n - 0) + m) := by
    obtain ⟨ao, cap, hg, h1, h2⟩ := H.out
    exact ⟨ao, cap, (hk2.block _ hbr (fun h => h)).trans hg, h1, h2⟩
  have HB2 := Lib.hid (HB.out.kept hk2 (fun h => h))
  have HRD2 := Lib.hid hrd2
  have hsz2 : w2.heap.size = g + 1 := by rw [← hw2, ← hg]; simp
  have hbg : b < g := by rw [← hg]; exact HB.out.1
  rw [hw2]
  try rw [hg]
  have hbrg : br < g := by rw [← hg]; exact hbr
  have HW := Lib.hid hg
  clear hw2 hmk HZ hrd2 hbr hg
  go_loopw [6, 11] (fun _ i wr => ∃ k : Nat, k ≤ n ∧ i = .int .i64 k ∧ wr.ownsRow g 35 2 (.slice (some ⟨g, 0, none⟩) n n) n (pfl (mixP bs n k)) ∧ RowKit.Hid (RdAt wr br b (off + 16 * k) (16 * (n - k) + m)) ∧ RowKit.Hid (Keeps (fun j => j = br ∨ j = g) w2 wr)) (fun _ i _ => n - (intOf i).toNat)
  case atStart => exact ⟨0, Nat.zero_le _, rfl, hr2, HRD2, Keeps.refl _ _⟩
  case round =>
    clear hr2 HRD2
    obtain ⟨k, hk, rfl, hr, HR, HK⟩ := hrel
    by_cases hkn : k < n
    · have hkI : (k : Int) < (n : Int) := by omega
      have hk0 : (0 : Int) ≤ (k : Int) := by omega
      have hrd : RdAt wr br b (off + 16 * k) ((16 * (n - (k + 1)) + m) + 16) := by have := HR.out; rwa [show 16 * (n - k) + m = (16 * (n - (k + 1)) + m) + 16 by omega] at this
      have hbw := HB2.out.kept HK.out (show ¬ (b = br ∨ b = g) by omega)
      have Hr := Lib.hid hr
      have Hrd := Lib.hid hrd
      have Hbw := Lib.hid hbw
      clear hr hrd hbw
      go_wp2_with fail
      refine (rpoint_calls br b off _ k bs (by omega) wr Hrd.out hne Hbw.out).mono ?_; rintro e w3 ⟨rfl, hrd3, hk3⟩
      have hr3 : w3.ownsRow g 35 2 (.slice (some ⟨g, 0, none⟩) n n) n (pfl (mixP bs n k)) := by
        refine ⟨Hr.out.1, ?_⟩
        rcases Hr.out.2 with h | ⟨g', c, cur, he, h1, h2, h3⟩
        · exact .inl h
        · have e : g' = g := by injection he with he; injection he with he; injection he with he; exact he.symm
          exact .inr ⟨g', c, cur, he, h1, (hk3.block _ (Array.getElem?_eq_some_iff.1 h2).1 (by omega)).trans h2, h3⟩
      obtain ⟨p, hp⟩ : ∃ p, ptB bs k = p := ⟨_, rfl⟩
      rw [hp]
      have hml := mixP_length bs n k
      have c0 := (hr3.cellAt (k * 2) (by omega)).trans (pfl_get _ k (by omega)).1
      have c1 := (hr3.cellAt (k * 2 + 1) (by omega)).trans (pfl_get _ k (by omega)).2
      have f0 := hr3.frozenAt (k * 2)
      have f1 := hr3.frozenAt (k * 2 + 1)
      have hst := ((hr3.stored (k * 2) (.int .i64 p.1)).1.stored (k * 2 + 1) (.int .i64 p.2)).1
      rw [pfl_set _ k p (by omega), ← hp, mixP_set hkn, hp] at hst
      have Hst := Lib.hid hst
      have HKa := Lib.hid (((HK.out.trans hk3 (fun _ _ h => .inl h)).setCell ⟨g, k * 2, none⟩ (fun _ => .inr rfl) (.int .i64 p.1)).setCell ⟨g, k * 2 + 1, none⟩ (fun _ => .inr rfl) (.int .i64 p.2))
      have Hrd4 : RowKit.Hid (RdAt ((w3.setCell ⟨g, k * 2, none⟩ (.int .i64 p.1)).setCell ⟨g, k * 2 + 1, none⟩ (.int .i64 p.2)) br b (off + 16 * (k + 1)) (16 * (n - (k + 1)) + m)) := by
        obtain ⟨ao, cap, hg, h1, h2⟩ := hrd3
        have hkF : Keeps (fun j => j = g) w3 ((w3.setCell ⟨g, k * 2, none⟩ (.int .i64 p.1)).setCell ⟨g, k * 2 + 1, none⟩ (.int .i64 p.2)) := ((Keeps.refl (fun j => j = g) w3).setCell ⟨g, k * 2, none⟩ (fun _ => rfl) _).setCell ⟨g, k * 2 + 1, none⟩ (fun _ => rfl) _
        exact ⟨ao, cap, (hkF.block br (Array.getElem?_eq_some_iff.1 hg).1 (by omega)).trans hg, h1, h2⟩
      clear hst hr3 hrd3 hk3 hp hml
      go_wp2
      go_roundw
      case rel => exact ⟨k + 1, by omega, by go_num, Hst.out, Hrd4, HKa⟩
      case measure => simp [intOf]; omega
    · obtain rfl : k = n := by omega
      have Hr := Lib.hid hr
      clear hr
      go_wp2
      go_ret
      refine ⟨_, rfl, by rw [HW.out, ← mixP_all]; exact Hr.out, ?_, ?_⟩
      · have := HR.out
        rwa [show 16 * (k - k) + m = m by omega] at this
      · exact (hk2.mono (fun _ _ h => h.elim)).trans HK.out (fun i hi h => by have := HW.out; omega)
end Go.Proofs.YtmoajobnhiopiaaGreatDoor.sv
set_option linter.unusedSimpArgs false
set_option linter.unusedVariables false
namespace Go.Proofs.YtmoajobnhiopiaaGreatDoor.sv
open Go Go.RowKit Go.Shelf Go.Maps Go.Proofs.YtmoajobnhiopiaaGreatDoor.mk Go.Proofs.YtmoajobnhiopiaaGreatDoor.tp Go.Proofs.YtmoajobnhiopiaaGreatDoor.rg Go.Proofs.YtmoajobnhiopiaaGreatDoor.lm Go.Proofs.YtmoajobnhiopiaaGreatDoor.gm Go.Proofs.YtmoajobnhiopiaaGreatDoor.po
abbrev Reg := Bool × Int × List (Int × Int)
def sizeC (n : Int) : Int := if 3 ≤ n ∧ n ≤ 64 then n else 0
def sizeR (n : Int) : Int := if n = 0 then 3 else sizeC n
def noReg : Reg := (false, 0, [])
def rg (l : List Reg) (i : Nat) : Reg := l.getD i noReg
def regC (w : World) (b off : Nat) (r : Reg) : Prop :=
  w.cell? ⟨b, off, none⟩ = some (.bool r.1) ∧ w.cell? ⟨b, off + 1, none⟩ = some (.int .i64 r.2.1) ∧ ∃ ao n c, w.cell? ⟨b, off + 2, none⟩ = some (.slice ao n c) ∧ ptsAt w (.slice ao n c) r.2.2
def regsAt (w : World) (v : Value) (l : List Reg) : Prop :=
  (l = [] ∧ ∃ ao cap, v = .slice ao 0 cap) ∨ ∃ b off cap, v = .slice (some ⟨b, off, none⟩) l.length cap ∧ b < w.heap.size ∧ ∀ i, i < l.length → regC w b (off + i * 3) (rg l i)
theorem regC.kept {w w' : World} {b off : Nat} {r : Reg} (hb : b < w.heap.size) (h : regC w b off r) (hk : Keeps (fun _ => False) w w') : regC w' b off r := by
  obtain ⟨h1, h2, ao, n, c, h3, h4⟩ := h
  have k : ∀ i, w'.cell? ⟨b, i, none⟩ = w.cell? ⟨b, i, none⟩ := fun i => hk.cell (p := ⟨b, i, none⟩) hb (fun h => h)
  exact ⟨(k _).trans h1, (k _).trans h2, ao, n, c, (k _).trans h3, h4.kept hk⟩
theorem regsAt.kept {w w' : World} {v : Value} {l : List Reg} (h : regsAt w v l) (hk : Keeps (fun _ => False) w w') : regsAt w' v l := by
  rcases h with h | ⟨b, off, cap, hv, hb, hc⟩
  · exact .inl h
  · exact .inr ⟨b, off, cap, hv, Nat.lt_of_lt_of_le hb hk.size, fun i hi => (hc i hi).kept hb hk⟩
theorem regsAt.shape {w : World} {v : Value} {l : List Reg} (h : regsAt w v l) : ∃ ao cap, v = .slice ao l.length cap := by
  rcases h with ⟨rfl, ao, cap, rfl⟩ | ⟨b, off, cap, rfl, _⟩
  · exact ⟨ao, cap, rfl⟩
  · exact ⟨_, _, rfl⟩
set_option maxRecDepth 100000 in
set_option maxHeartbeats 4000000 in
theorem shapeOf_calls (d : Bool) (n : Int) (ao : Option Addr) (k c : Nat) (w : World) : Calls Tryz.prog 116 #[.agg #[.bool d, .int .i64 n, .slice ao k c]] w fun e w' => e = .returned (.iface (if n = 0 then 212 else 213) (.agg #[.bool d, .int .i64 n, .slice ao k c])) ∧ Keeps (fun _ => False) w w' := by
  have hk : Keeps (fun _ => False) w (w.alloc (.cells #[.bool d, .int .i64 n, .slice ao k c] 40)) := (Keeps.refl _ w).alloc _
  have hg := heap_alloc_new w (.cells #[.bool d, .int .i64 n, .slice ao k c] 40)
  by_cases h0 : n = 0
  · subst h0
    go_enter Tryz.func116, Tryz.ntmps116
    go_wp2_with fail
    go_ret
    exact ⟨rfl, hk⟩
  · go_enter Tryz.func116, Tryz.ntmps116
    go_wp2_with fail
    go_ret
    exact ⟨by simp [h0], hk⟩
theorem meth_size_r (v : Value) (w : World) : (method 355 212 v "geofence/fence.size").run Tryz.prog w = .ok (187, v) w := by kernel_rfl
theorem meth_size_c (v : Value) (w : World) : (method 355 213 v "geofence/fence.size").run Tryz.prog w = .ok (190, v) w := by kernel_rfl
set_option maxRecDepth 100000 in
theorem sizeRound_calls (d : Bool) (n : Int) (ao : Option Addr) (k c : Nat) (w : World) : Calls Tryz.prog 187 #[.agg #[.bool d, .int .i64 n, .slice ao k c]] w fun e w' => e = .returned (.int .i64 3) ∧ Keeps (fun _ => False) w w' := by
  have hk : Keeps (fun _ => False) w (w.alloc (.cells #[.bool d, .int .i64 n, .slice ao k c] 212)) := (Keeps.refl _ w).alloc _
  go_enter Tryz.func187, Tryz.ntmps187
  go_wp2_with fail
  go_ret
  exact ⟨rfl, hk⟩
set_option maxRecDepth 100000 in
theorem sizeConvex_calls (d : Bool) (n : Int) (ao : Option Addr) (k c : Nat) (w : World) : Calls Tryz.prog 190 #[.agg #[.bool d, .int .i64 n, .slice ao k c]] w fun e w' => e = .returned (.int .i64 (sizeC n)) ∧ Keeps (fun _ => False) w w' := by
  have hk : Keeps (fun _ => False) w (w.alloc (.cells #[.bool d, .int .i64 n, .slice ao k c] 213)) := (Keeps.refl _ w).alloc _
  go_enter Tryz.func190, Tryz.ntmps190
  by_cases h3 : n < 3
  · go_wp2_with fail
    go_ret
    exact ⟨by rw [show sizeC n = 0 from if_neg (by omega)]; rfl, hk⟩
  · by_cases h64 : 64 < n
    · go_wp2_with fail
      go_ret
      exact ⟨by rw [show sizeC n = 0 from if_neg (by omega)]; rfl, hk⟩
    · go_wp2_with fail
      go_ret
      exact ⟨by rw [show sizeC n = n from if_pos (by omega)]; rfl, hk⟩
set_option maxRecDepth 100000 in
set_option maxHeartbeats 4000000 in
theorem size_calls (d : Bool) (n : Int) (ao : Option Addr) (k c : Nat) (w : World) : Calls Tryz.prog 82 #[.agg #[.bool d, .int .i64 n, .slice ao k c]] w fun e w' => e = .returned (.int .i64 (sizeR n)) ∧ Keeps (fun _ => False) w w' := by
  have hk : Keeps (fun _ => False) w (w.alloc (.cells #[.bool d, .int .i64 n, .slice ao k c] 40)) := (Keeps.refl _ w).alloc _
  have m1 := meth_size_r
  have m2 := meth_size_c
  go_enter Tryz.func82, Tryz.ntmps82
  go_wp2_with fail
  refine (shapeOf_calls d n ao k c _).mono ?_; rintro e w2 ⟨rfl, hk2⟩
  by_cases h0 : n = 0
  · rw [if_pos h0]
    go_wp2_with fail
    refine (sizeRound_calls _ _ _ _ _ _).mono ?_; rintro e w3 ⟨rfl, hk3⟩
    go_wp2_with fail
    go_ret
    exact ⟨by rw [show sizeR n = 3 from if_pos h0]; rfl, knil (knil hk hk2) hk3⟩
  · rw [if_neg h0]
    go_wp2_with fail
    refine (sizeConvex_calls _ _ _ _ _ _).mono ?_; rintro e w3 ⟨rfl, hk3⟩
    go_wp2_with fail
    go_ret
    exact ⟨by rw [show sizeR n = sizeC n from if_neg h0]; rfl, knil (knil hk hk2) hk3⟩
end Go.Proofs.YtmoajobnhiopiaaGreatDoor.sv
set_option linter.unusedSimpArgs false
set_option linter.unusedVariables false
namespace Go.Proofs.YtmoajobnhiopiaaGreatDoor.sv
open Go Go.RowKit Go.Shelf Go.Maps Go.Proofs.YtmoajobnhiopiaaGreatDoor.mk Go.Proofs.YtmoajobnhiopiaaGreatDoor.tp Go.Proofs.YtmoajobnhiopiaaGreatDoor.rg Go.Proofs.YtmoajobnhiopiaaGreatDoor.lm Go.Proofs.YtmoajobnhiopiaaGreatDoor.gm Go.Proofs.YtmoajobnhiopiaaGreatDoor.po
def wrongR (r : Reg) : Bool := sizeR r.2.1 == 0
def holdsR (r : Reg) : Bool := decide (0 < r.2.2.length)
set_option maxRecDepth 100000 in
theorem wrong_calls (d : Bool) (n : Int) (ao : Option Addr) (k c : Nat) (w : World) : Calls Tryz.prog 115 #[.agg #[.bool d, .int .i64 n, .slice ao k c]] w fun e w' => e = .returned (.bool (sizeR n == 0)) ∧ Keeps (fun _ => False) w w' := by
  have hk : Keeps (fun _ => False) w (w.alloc (.cells #[.bool d, .int .i64 n, .slice ao k c] 40)) := (Keeps.refl _ w).alloc _
  go_enter Tryz.func115, Tryz.ntmps115
  go_wp2_with fail
  refine (size_calls _ _ _ _ _ _).mono ?_; rintro e w3 ⟨rfl, hk3⟩
  go_wp2_with fail
  go_ret
  exact ⟨rfl, knil hk hk3⟩
set_option maxRecDepth 100000 in
theorem wrong2_calls (d : Bool) (n : Int) (ao : Option Addr) (k c : Nat) (w : World) : Calls Tryz.prog 156 #[.agg #[.bool d, .int .i64 n, .slice ao k c]] w fun e w' => e = .returned (.bool (sizeR n == 0)) ∧ Keeps (fun _ => False) w w' := by
  have hk : Keeps (fun _ => False) w (w.alloc (.cells #[.bool d, .int .i64 n, .slice ao k c] 40)) := (Keeps.refl _ w).alloc _
  go_enter Tryz.func156, Tryz.ntmps156
  go_wp2_with fail
  refine (size_calls _ _ _ _ _ _).mono ?_; rintro e w3 ⟨rfl, hk3⟩
  go_wp2_with fail
  go_ret
  exact ⟨rfl, knil hk hk3⟩
set_option maxRecDepth 100000 in
theorem full_calls (d : Bool) (n : Int) (ao : Option Addr) (k c : Nat) (w : World) : Calls Tryz.prog 157 #[.agg #[.bool d, .int .i64 n, .slice ao k c]] w fun e w' => e = .returned (.bool (decide (0 < k))) ∧ Keeps (fun _ => False) w w' := by
  have hk : Keeps (fun _ => False) w (w.alloc (.cells #[.bool d, .int .i64 n, .slice ao k c] 40)) := (Keeps.refl _ w).alloc _
  go_enter Tryz.func157, Tryz.ntmps157
  go_wp2_with fail
  go_ret
  exact ⟨by simp, hk⟩
def TestsR (K : FuncId) (pr : Reg → Bool) : Prop := ∀ (r : Reg) (ao : Option Addr) (k c : Nat) (W : World), ptsAt W (.slice ao k c) r.2.2 →
  Calls Tryz.prog K #[.agg #[.bool r.1, .int .i64 r.2.1, .slice ao k c]] W fun e w' => e = .returned (.bool (pr r)) ∧ Keeps (fun _ => False) W w'
theorem tests_wrong : TestsR 115 wrongR := fun r ao k c W _ => wrong_calls _ _ _ _ _ _
theorem tests_wrong2 : TestsR 156 wrongR := fun r ao k c W _ => wrong2_calls _ _ _ _ _ _
theorem tests_full : TestsR 157 holdsR := fun r ao k c W h => by
  have hk : k = r.2.2.length := by
    obtain ⟨ao', cp, e⟩ := h.shape
    cases e
    rfl
  subst hk
  exact full_calls _ _ _ _ _ _
set_option maxRecDepth 100000 in
set_option maxHeartbeats 4000000 in
theorem index_wrong (v : Value) (l : List Reg) (hl : l.length ≤ 9223372036854775807) (w : World) (h : regsAt w v l) :
    Calls Tryz.prog 140 #[v, .func (.func 115) #[] #[]] w fun e w' => (∃ i : Int, e = .returned (.int .i64 i) ∧ decide (0 ≤ i) = l.any wrongR) ∧ Keeps (fun _ => False) w w' := by
  have HR := Lib.hid h
  have HK := Lib.hid tests_wrong
  obtain ⟨ao, cap, rfl⟩ := h.shape
  clear h
  go_enter Tryz.func140, Tryz.ntmps140
  go_wp2_with fail
  go_loopw [5, 8] (fun _ i wr => ∃ k : Nat, k ≤ l.length ∧ i = .int .i64 k ∧ RowKit.Hid ((l.take k).any wrongR = false) ∧ RowKit.Hid (Keeps (fun _ => False) w wr)) (fun _ i _ => l.length - (intOf i).toNat)
  case atStart => exact ⟨0, Nat.zero_le _, rfl, rfl, Keeps.refl _ _⟩
  case round =>
    obtain ⟨k, hk, rfl, HN, HW⟩ := hrel
    by_cases hkl : k < l.length
    · have hkI : (k : Int) < (l.length : Int) := by omega
      have hk0 : (0 : Int) ≤ (k : Int) := by omega
      have hr := HR.out.kept HW.out
      obtain ⟨he, _⟩ | ⟨b, off, cap', hv, hb, hc⟩ := hr
      · rw [he] at hkl; cases hkl
      cases hv
      obtain ⟨c0, c1, ao', n', c', c2, hp⟩ := hc k hkl
      have HC := Lib.hid hc
      have HP := Lib.hid hp
      clear hc hp
      go_wp2_with fail
      refine (HK.out (rg l k) ao' n' c' wr HP.out).mono ?_; rintro e w3 ⟨rfl, hk3⟩
      have ht : l.take (k + 1) = l.take k ++ [rg l k] := by
        rw [List.take_add_one, List.getElem?_eq_getElem hkl]
        unfold rg
        rw [List.getD_eq_getElem?_getD, List.getElem?_eq_getElem hkl]
        rfl
      clear c0 c1 c2
      cases hpr : wrongR (rg l k) with
      | true =>
        have HX := Lib.hid hpr
        clear hpr
        go_wp2_with fail
        go_ret
        refine ⟨⟨_, rfl, ?_⟩, knil HW.out hk3⟩
        have : l.any wrongR = true := by
          rw [List.any_eq_true]
          refine ⟨rg l k, ?_, HX.out⟩
          unfold rg
          rw [List.getD_eq_getElem?_getD, List.getElem?_eq_getElem hkl]
          exact List.getElem_mem hkl
        rw [this, decide_eq_true_iff]
        omega
      | false =>
        have HX := Lib.hid hpr
        clear hpr
        go_wp2_with fail
        go_roundw
        case rel => exact ⟨k + 1, by omega, by go_num, Lib.hid (by rw [ht, List.any_append, HN.out]; simp [HX.out]), Lib.hid (knil HW.out hk3)⟩
        case measure => simp [intOf]; omega
    · obtain rfl : k = l.length := by omega
      go_wp2_with fail
      go_ret
      refine ⟨⟨-1, rfl, ?_⟩, HW.out⟩
      have := HN.out
      rw [List.take_length] at this
      rw [this]
      rfl
set_option maxRecDepth 100000 in
theorem contains_wrong (v : Value) (l : List Reg) (hl : l.length ≤ 9223372036854775807) (w : World) (h : regsAt w v l) :
    Calls Tryz.prog 114 #[v, .func (.func 115) #[] #[]] w fun e w' => e = .returned (.bool (l.any wrongR)) ∧ Keeps (fun _ => False) w w' := by
  have H := Lib.hid (index_wrong v l hl w h)
  clear h
  go_enter Tryz.func114, Tryz.ntmps114
  go_wp2_with fail
  refine H.out.mono ?_; rintro e w2 ⟨⟨i, rfl, hi⟩, hk⟩
  have HI := Lib.hid hi
  clear hi
  go_wp2_with fail
  go_ret
  refine ⟨?_, hk⟩
  rw [← HI.out]
  simp
set_option maxRecDepth 100000 in
set_option maxHeartbeats 4000000 in
theorem index_wrong2 (v : Value) (l : List Reg) (hl : l.length ≤ 9223372036854775807) (w : World) (h : regsAt w v l) :
    Calls Tryz.prog 140 #[v, .func (.func 156) #[] #[]] w fun e w' => (∃ i : Int, e = .returned (.int .i64 i) ∧ decide (0 ≤ i) = l.any wrongR) ∧ Keeps (fun _ => False) w w' := by
  have HR := Lib.hid h
  have HK := Lib.hid tests_wrong2
  obtain ⟨ao, cap, rfl⟩ := h.shape
  clear h
  go_enter Tryz.func140, Tryz.ntmps140
  go_wp2_with fail
  go_loopw [5, 8] (fun _ i wr => ∃ k : Nat, k ≤ l.length ∧ i = .int .i64 k ∧ RowKit.Hid ((l.take k).any wrongR = false) ∧ RowKit.Hid (Keeps (fun _ => False) w wr)) (fun _ i _ => l.length - (intOf i).toNat)
  case atStart => exact ⟨0, Nat.zero_le _, rfl, rfl, Keeps.refl _ _⟩
  case round =>
    obtain ⟨k, hk, rfl, HN, HW⟩ := hrel
    by_cases hkl : k < l.length
    · have hkI : (k : Int) < (l.length : Int) := by omega
      have hk0 : (0 : Int) ≤ (k : Int) := by omega
      have hr := HR.out.kept HW.out
      obtain ⟨he, _⟩ | ⟨b, off, cap', hv, hb, hc⟩ := hr
      · rw [he] at hkl; cases hkl
      cases hv
      obtain ⟨c0, c1, ao', n', c', c2, hp⟩ := hc k hkl
      have HC := Lib.hid hc
      have HP := Lib.hid hp
      clear hc hp
      go_wp2_with fail
      refine (HK.out (rg l k) ao' n' c' wr HP.out).mono ?_; rintro e w3 ⟨rfl, hk3⟩
      have ht : l.take (k + 1) = l.take k ++ [rg l k] := by
        rw [List.take_add_one, List.getElem?_eq_getElem hkl]
        unfold rg
        rw [List.getD_eq_getElem?_getD, List.getElem?_eq_getElem hkl]
        rfl
      clear c0 c1 c2
      cases hpr : wrongR (rg l k) with
      | true =>
        have HX := Lib.hid hpr
        clear hpr
        go_wp2_with fail
        go_ret
        refine ⟨⟨_, rfl, ?_⟩, knil HW.out hk3⟩
        have : l.any wrongR = true := by
          rw [List.any_eq_true]
          refine ⟨rg l k, ?_, HX.out⟩
          unfold rg
          rw [List.getD_eq_getElem?_getD, List.getElem?_eq_getElem hkl]
          exact List.getElem_mem hkl
        rw [this, decide_eq_true_iff]
        omega
      | false =>
        have HX := Lib.hid hpr
        clear hpr
        go_wp2_with fail
        go_roundw
        case rel => exact ⟨k + 1, by omega, by go_num, Lib.hid (by rw [ht, List.any_append, HN.out]; simp [HX.out]), Lib.hid (knil HW.out hk3)⟩
        case measure => simp [intOf]; omega
    · obtain rfl : k = l.length := by omega
      go_wp2_with fail
      go_ret
      refine ⟨⟨-1, rfl, ?_⟩, HW.out⟩
      have := HN.out
      rw [List.take_length] at this
      rw [this]
      rfl
set_option maxRecDepth 100000 in
theorem contains_wrong2 (v : Value) (l : List Reg) (hl : l.length ≤ 9223372036854775807) (w : World) (h : regsAt w v l) :
    Calls Tryz.prog 114 #[v, .func (.func 156) #[] #[]] w fun e w' => e = .returned (.bool (l.any wrongR)) ∧ Keeps (fun _ => False) w w' := by
  have H := Lib.hid (index_wrong2 v l hl w h)
  clear h
  go_enter Tryz.func114, Tryz.ntmps114
  go_wp2_with fail
  refine H.out.mono ?_; rintro e w2 ⟨⟨i, rfl, hi⟩, hk⟩
  have HI := Lib.hid hi
  clear hi
  go_wp2_with fail
  go_ret
  refine ⟨?_, hk⟩
  rw [← HI.out]
  simp
set_option maxRecDepth 100000 in
set_option maxHeartbeats 4000000 in
theorem index_full (v : Value) (l : List Reg) (hl : l.length ≤ 9223372036854775807) (w : World) (h : regsAt w v l) :
    Calls Tryz.prog 140 #[v, .func (.func 157) #[] #[]] w fun e w' => (∃ i : Int, e = .returned (.int .i64 i) ∧ decide (0 ≤ i) = l.any holdsR) ∧ Keeps (fun _ => False) w w' := by
  have HR := Lib.hid h
  have HK := Lib.hid tests_full
  obtain ⟨ao, cap, rfl⟩ := h.shape
  clear h
  go_enter Tryz.func140, Tryz.ntmps140
  go_wp2_with fail
  go_loopw [5, 8] (fun _ i wr => ∃ k : Nat, k ≤ l.length ∧ i = .int .i64 k ∧ RowKit.Hid ((l.take k).any holdsR = false) ∧ RowKit.Hid (Keeps (fun _ => False) w wr)) (fun _ i _ => l.length - (intOf i).toNat)
  case atStart => exact ⟨0, Nat.zero_le _, rfl, rfl, Keeps.refl _ _⟩
  case round =>
    obtain ⟨k, hk, rfl, HN, HW⟩ := hrel
    by_cases hkl : k < l.length
    · have hkI : (k : Int) < (l.length : Int) := by omega
      have hk0 : (0 : Int) ≤ (k : Int) := by omega
      have hr := HR.out.kept HW.out
      obtain ⟨he, _⟩ | ⟨b, off, cap', hv, hb, hc⟩ := hr
      · rw [he] at hkl; cases hkl
      cases hv
      obtain ⟨c0, c1, ao', n', c', c2, hp⟩ := hc k hkl
      have HC := Lib.hid hc
      have HP := Lib.hid hp
      clear hc hp
      go_wp2_with fail
      refine (HK.out (rg l k) ao' n' c' wr HP.out).mono ?_; rintro e w3 ⟨rfl, hk3⟩
      have ht : l.take (k + 1) = l.take k ++ [rg l k] := by
        rw [List.take_add_one, List.getElem?_eq_getElem hkl]
        unfold rg
        rw [List.getD_eq_getElem?_getD, List.getElem?_eq_getElem hkl]
        rfl
      clear c0 c1 c2
      cases hpr : holdsR (rg l k) with
      | true =>
        have HX := Lib.hid hpr
        clear hpr
        go_wp2_with fail
        go_ret
        refine ⟨⟨_, rfl, ?_⟩, knil HW.out hk3⟩
        have : l.any holdsR = true := by
          rw [List.any_eq_true]
          refine ⟨rg l k, ?_, HX.out⟩
          unfold rg
          rw [List.getD_eq_getElem?_getD, List.getElem?_eq_getElem hkl]
          exact List.getElem_mem hkl
        rw [this, decide_eq_true_iff]
        omega
      | false =>
        have HX := Lib.hid hpr
        clear hpr
        go_wp2_with fail
        go_roundw
        case rel => exact ⟨k + 1, by omega, by go_num, Lib.hid (by rw [ht, List.any_append, HN.out]; simp [HX.out]), Lib.hid (knil HW.out hk3)⟩
        case measure => simp [intOf]; omega
    · obtain rfl : k = l.length := by omega
      go_wp2_with fail
      go_ret
      refine ⟨⟨-1, rfl, ?_⟩, HW.out⟩
      have := HN.out
      rw [List.take_length] at this
      rw [this]
      rfl
set_option maxRecDepth 100000 in
theorem contains_full (v : Value) (l : List Reg) (hl : l.length ≤ 9223372036854775807) (w : World) (h : regsAt w v l) :
    Calls Tryz.prog 114 #[v, .func (.func 157) #[] #[]] w fun e w' => e = .returned (.bool (l.any holdsR)) ∧ Keeps (fun _ => False) w w' := by
  have H := Lib.hid (index_full v l hl w h)
  clear h
  go_enter Tryz.func114, Tryz.ntmps114
  go_wp2_with fail
  refine H.out.mono ?_; rintro e w2 ⟨⟨i, rfl, hi⟩, hk⟩
  have HI := Lib.hid hi
  clear hi
  go_wp2_with fail
  go_ret
  refine ⟨?_, hk⟩
  rw [← HI.out]
  simp
end Go.Proofs.YtmoajobnhiopiaaGreatDoor.sv
