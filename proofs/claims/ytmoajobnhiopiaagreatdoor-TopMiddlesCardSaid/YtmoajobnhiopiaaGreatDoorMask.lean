/- Plain facts on 64-bit words as the walk spells them: masks, selection, comparison. No program is in sight. -/
import Derived.WalkKit
namespace Go.Proofs.YtmoajobnhiopiaaGreatDoor.mk
open Go

/-- A number of the kind uint64. -/
def IsU (a : Int) : Prop := 0 ≤ a ∧ a < 18446744073709551616
/-- A number of the kind int64. -/
def IsS (a : Int) : Prop := -9223372036854775808 ≤ a ∧ a < 9223372036854775808

/-- The word of a number. -/
def bv (a : Int) : BitVec 64 := BitVec.ofInt 64 a
/-- The number of a word. -/
def nu (x : BitVec 64) : Int := (x.toNat : Int)

theorem wrap_u64 (n : Int) : IntKind.u64.wrap n = n % 18446744073709551616 := by simp [IntKind.wrap, IntKind.bits, IntKind.signed]

theorem nu_isU (x : BitVec 64) : IsU (nu x) := by
  unfold IsU nu
  have := x.isLt
  omega
theorem bv_nu (x : BitVec 64) : bv (nu x) = x := by
  unfold bv nu
  rw [BitVec.ofInt_natCast]
  exact (BitVec.ofNat_toNat (m := 64) x).trans (BitVec.setWidth_eq x)
theorem nu_bv {a : Int} (h : IsU a) : nu (bv a) = a := by
  unfold IsU at h
  unfold bv nu
  rw [BitVec.toNat_ofInt]
  omega
theorem bv_mod (a : Int) : nu (bv a) = a % 18446744073709551616 := by
  unfold bv nu
  rw [BitVec.toNat_ofInt]
  omega
theorem bv_wrap (a : Int) : IntKind.u64.wrap a = nu (bv a) := by rw [wrap_u64, bv_mod]
theorem bv_inj {a b : Int} (ha : IsU a) (hb : IsU b) (h : bv a = bv b) : a = b := by rw [← nu_bv ha, ← nu_bv hb, h]

theorem wrap_nu (x : BitVec 64) : IntKind.u64.wrap (nu x) = nu x := by rw [bv_wrap, bv_nu]

theorem bits_and (a b : Int) : bits .and .u64 a b = nu (bv a &&& bv b) := wrap_nu (bv a &&& bv b)
theorem bits_or (a b : Int) : bits .or .u64 a b = nu (bv a ||| bv b) := wrap_nu (bv a ||| bv b)
theorem bits_xor (a b : Int) : bits .xor .u64 a b = nu (bv a ^^^ bv b) := wrap_nu (bv a ^^^ bv b)
theorem bits_andNot (a b : Int) : bits .andNot .u64 a b = nu (bv a &&& ~~~ bv b) := wrap_nu (bv a &&& ~~~ bv b)
theorem bv_neg (a : Int) : bv (-a) = - bv a := by unfold bv; exact BitVec.ofInt_neg ..
theorem bv_sub (a b : Int) : bv (a - b) = bv a - bv b := by
  unfold bv
  rw [Int.sub_eq_add_neg, BitVec.ofInt_add, BitVec.ofInt_neg, BitVec.sub_eq_add_neg]
theorem bv_add (a b : Int) : bv (a + b) = bv a + bv b := by unfold bv; rw [BitVec.ofInt_add]
theorem wrap_neg (a : Int) : IntKind.u64.wrap (-a) = nu (- bv a) := by rw [bv_wrap, bv_neg]
theorem wrap_sub (a b : Int) : IntKind.u64.wrap (a - b) = nu (bv a - bv b) := by rw [bv_wrap, bv_sub]
theorem wrap_add (a b : Int) : IntKind.u64.wrap (a + b) = nu (bv a + bv b) := by rw [bv_wrap, bv_add]
theorem max_u64 : IntKind.u64.max = nu (BitVec.allOnes 64) := by decide
theorem bits_not (a : Int) : bits .xor .u64 IntKind.u64.max a = nu (~~~ bv a) := by
  rw [bits_xor, max_u64, bv_nu, BitVec.allOnes_xor]
theorem shr63 (x : BitVec 64) : nu x / (9223372036854775808 : Int) = nu (x >>> 63) := by
  unfold nu
  rw [BitVec.toNat_ushiftRight, Nat.shiftRight_eq_div_pow]
  omega
theorem bv_one : bv 1 = 1#64 := by decide

/-- The mask of a condition, as a number. -/
def maskI (c : Bool) : Int := if c then 18446744073709551615 else 0
/-- The mask of a condition, as a word. -/
def maskB (c : Bool) : BitVec 64 := if c then BitVec.allOnes 64 else 0#64
theorem maskI_isU (c : Bool) : IsU (maskI c) := by cases c <;> (unfold maskI IsU; decide)
theorem nu_maskB (c : Bool) : nu (maskB c) = maskI c := by cases c <;> decide
theorem bv_maskI (c : Bool) : bv (maskI c) = maskB c := by rw [← nu_maskB, bv_nu]
theorem maskI_true : maskI true = 18446744073709551615 := rfl
theorem maskI_false : maskI false = 0 := rfl

theorem of_word (x : BitVec 64) : - (x &&& 1#64) = maskB (x.getLsbD 0) := by
  rw [BitVec.and_one_eq_setWidth_ofBool_getLsbD]
  cases x.getLsbD 0 <;> decide
theorem lsb_shr63 (x : BitVec 64) : (x >>> 63).getLsbD 0 = x.msb := by
  rw [BitVec.getLsbD_ushiftRight, BitVec.msb_eq_getLsbD_last]
theorem lsb_bv {a : Int} (h : IsU a) : (bv a).getLsbD 0 = (a % 2 == 1) := by
  have e : ((bv a).toNat : Int) = a := nu_bv h
  rw [BitVec.getLsbD, Nat.testBit_zero, Bool.eq_iff_iff]
  simp only [decide_eq_true_eq, beq_iff_eq]
  omega

/-- Of -/
theorem of_any (a : Int) : IntKind.u64.wrap (- bits .and .u64 a 1) = maskI ((bv a).getLsbD 0) := by
  rw [wrap_neg, bits_and, bv_nu, bv_one, of_word, nu_maskB]
theorem of_num {a : Int} (h : IsU a) : IntKind.u64.wrap (- bits .and .u64 a 1) = maskI (a % 2 == 1) := by rw [of_any, lsb_bv h]
/-- Bit -/
theorem bit_num {a : Int} (h : IsU a) : bits .and .u64 a 1 = a % 2 := by
  rw [bits_and, bv_one, BitVec.and_one_eq_setWidth_ofBool_getLsbD, lsb_bv h]
  unfold IsU at h
  by_cases c : a % 2 = 1
  · rw [c]; decide
  · have : a % 2 = 0 := by omega
    rw [this]; decide
theorem of_shr63 (x : BitVec 64) : IntKind.u64.wrap (- bits .and .u64 (nu x / 9223372036854775808) 1) = maskI x.msb := by
  rw [shr63, of_any, bv_nu, lsb_shr63]

theorem or_neg_msb (x : BitVec 64) : (x ||| -x).msb = (x != 0#64) := by
  rw [BitVec.msb_or, BitVec.msb_neg]
  by_cases h : x = 0#64
  · subst h; decide
  · by_cases h2 : x = BitVec.intMin 64
    · subst h2; decide
    · have e1 : (x != 0#64) = true := by simpa using h
      have e2 : (x != BitVec.intMin 64) = true := by simpa using h2
      rw [e1, e2]
      cases x.msb <;> rfl
theorem bv_eq_zero {a : Int} (h : IsU a) : (bv a == 0#64) = (a == 0) := by
  rw [Bool.eq_iff_iff, beq_iff_eq, beq_iff_eq]
  constructor
  · intro e; exact bv_inj h (by unfold IsU; omega) (e.trans (by decide))
  · intro e; subst e; decide
/-- Zero -/
theorem zero_num {a : Int} (h : IsU a) : IntKind.u64.wrap (- bits .and .u64 (bits .xor .u64 IntKind.u64.max (bits .or .u64 a (IntKind.u64.wrap (-a))) / 9223372036854775808) 1) = maskI (a == 0) := by
  rw [bits_not, of_shr63, wrap_neg, bits_or, bv_nu, bv_nu, BitVec.msb_not, or_neg_msb, ← bv_eq_zero h]
  congr 1
  cases hx : (bv a == 0#64) <;> simp_all [bne]
theorem xor_num_zero {a b : Int} (ha : IsU a) (hb : IsU b) : (bits .xor .u64 a b == 0) = (a == b) := by
  rw [bits_xor, Bool.eq_iff_iff, beq_iff_eq, beq_iff_eq]
  constructor
  · intro e
    have h0 : bv a ^^^ bv b = 0#64 := by
      have := congrArg bv e
      rw [bv_nu] at this
      exact this
    have h1 : bv a = bv b := by
      have := congrArg (· ^^^ bv b) h0
      simpa [BitVec.xor_assoc] using this
    exact bv_inj ha hb h1
  · intro e; subst e; rw [BitVec.xor_self]; decide
theorem bits_isU (op : BinOp) (hop : op = .and ∨ op = .or ∨ op = .xor) (a b : Int) : IsU (bits op .u64 a b) := by
  rcases hop with rfl | rfl | rfl
  · rw [bits_and]; exact nu_isU _
  · rw [bits_or]; exact nu_isU _
  · rw [bits_xor]; exact nu_isU _

theorem less_msb (x y : BitVec 64) : ((~~~x &&& y) ||| (~~~(x ^^^ y) &&& (x - y))).msb = decide (x.toNat < y.toNat) := by
  rw [BitVec.msb_or, BitVec.msb_and, BitVec.msb_and, BitVec.msb_not, BitVec.msb_not, BitVec.msb_xor]
  simp only [BitVec.msb_eq_decide, BitVec.toNat_sub]
  have hx := x.isLt
  have hy := y.isLt
  rw [Bool.eq_iff_iff]
  simp
  omega
/-- Less -/
theorem less_num {a b : Int} (ha : IsU a) (hb : IsU b) : IntKind.u64.wrap (- bits .and .u64 (bits .or .u64 (bits .and .u64 (bits .xor .u64 IntKind.u64.max a) b) (bits .and .u64 (bits .xor .u64 IntKind.u64.max (bits .xor .u64 a b)) (IntKind.u64.wrap (a - b))) / 9223372036854775808) 1) = maskI (decide (a < b)) := by
  have ea : ((bv a).toNat : Int) = a := nu_bv ha
  have eb : ((bv b).toNat : Int) = b := nu_bv hb
  have e : bits .or .u64 (bits .and .u64 (bits .xor .u64 IntKind.u64.max a) b) (bits .and .u64 (bits .xor .u64 IntKind.u64.max (bits .xor .u64 a b)) (IntKind.u64.wrap (a - b))) = nu ((~~~bv a &&& bv b) ||| (~~~(bv a ^^^ bv b) &&& (bv a - bv b))) := by
    simp only [max_u64, BitVec.allOnes_xor, bits_xor, wrap_sub, bits_and, bits_or, bv_nu]
  rw [e, of_shr63, less_msb]
  congr 1
  rw [Bool.eq_iff_iff]
  simp only [decide_eq_true_eq]
  omega

/-- Select, as a number. -/
def selI (m a b : Int) : Int := nu (bv b ^^^ (bv m &&& (bv a ^^^ bv b)))
theorem sel_num (m a b : Int) : bits .xor .u64 b (bits .and .u64 m (bits .xor .u64 a b)) = selI m a b := by
  rw [bits_xor, bits_and, bits_xor, bv_nu, bv_nu]; rfl
theorem selI_isU (m a b : Int) : IsU (selI m a b) := nu_isU _
theorem selI_mask {a b : Int} (ha : IsU a) (hb : IsU b) (c : Bool) : selI (maskI c) a b = if c then a else b := by
  unfold selI
  rw [bv_maskI]
  cases c
  · show nu (bv b ^^^ (0#64 &&& _)) = b
    rw [BitVec.zero_and, BitVec.xor_zero, nu_bv hb]
  · show nu (bv b ^^^ (BitVec.allOnes 64 &&& _)) = a
    rw [BitVec.allOnes_and, ← BitVec.xor_assoc, BitVec.xor_comm (bv b), BitVec.xor_assoc, BitVec.xor_self, BitVec.xor_zero, nu_bv ha]
/-- Swap's first word: a ^ (m & (a ^ b)) selects b where m has ones. -/
theorem swp_num (m a b : Int) : bits .xor .u64 a (bits .and .u64 m (bits .xor .u64 a b)) = selI m b a := by
  rw [bits_xor, bits_and, bits_xor, bv_nu, bv_nu]
  unfold selI
  rw [BitVec.xor_comm (bv a) (bv b)]

theorem and_top {y : BitVec 64} (h : y.msb = false) : y &&& 9223372036854775808#64 = 0#64 := by
  apply BitVec.eq_of_getLsbD_eq
  intro i hi
  rw [BitVec.getLsbD_and, BitVec.getLsbD_zero]
  by_cases e : i = 63
  · subst e
    rw [← BitVec.msb_eq_getLsbD_last, h, Bool.false_and]
  · have : (9223372036854775808#64).getLsbD i = false := by
      rw [show (9223372036854775808#64) = BitVec.twoPow 64 63 from by decide, BitVec.getLsbD_twoPow]
      simp
      omega
    rw [this, Bool.and_false]
theorem xor_top_low {y : BitVec 64} (h : y.msb = false) : y ^^^ 9223372036854775808#64 = y + 9223372036854775808#64 := by
  rw [BitVec.add_eq_or_of_and_eq_zero _ _ (and_top h)]
  apply BitVec.eq_of_getLsbD_eq
  intro i hi
  have := congrArg (fun z => z.getLsbD i) (and_top h)
  simp only [BitVec.getLsbD_and, BitVec.getLsbD_zero] at this
  rw [BitVec.getLsbD_xor, BitVec.getLsbD_or]
  revert this
  cases y.getLsbD i <;> cases (9223372036854775808#64).getLsbD i <;> decide
theorem xor_top (x : BitVec 64) : x ^^^ 9223372036854775808#64 = x + 9223372036854775808#64 := by
  cases h : x.msb
  · exact xor_top_low h
  · have h2 : (x ^^^ 9223372036854775808#64).msb = false := by
      rw [BitVec.msb_xor, h]; decide
    have e := xor_top_low h2
    rw [BitVec.xor_assoc, BitVec.xor_self, BitVec.xor_zero] at e
    have e2 : x + 9223372036854775808#64 = (x ^^^ 9223372036854775808#64) + 9223372036854775808#64 + 9223372036854775808#64 := by rw [← e]
    rw [e2, BitVec.add_assoc, show 9223372036854775808#64 + 9223372036854775808#64 = 0#64 from by decide, BitVec.add_zero]
/-- uint64(a) ^ 1<<63: the order of the signed numbers as that of the unsigned ones. -/
theorem flip_num {a : Int} (h : IsS a) : bits .xor .u64 (IntKind.u64.wrap a) 9223372036854775808 = a + 9223372036854775808 := by
  unfold IsS at h
  rw [bits_xor, bv_wrap, bv_nu, show bv 9223372036854775808 = 9223372036854775808#64 from by decide, xor_top]
  have e : bv a + 9223372036854775808#64 = bv (a + 9223372036854775808) := by
    rw [bv_add, show bv 9223372036854775808 = 9223372036854775808#64 from by decide]
  rw [e, nu_bv]
  unfold IsU
  omega
theorem flip_isU {a : Int} (h : IsS a) : IsU (a + 9223372036854775808) := by unfold IsS at h; unfold IsU; omega
/-- Negative -/
theorem neg_num {a : Int} (h : IsS a) : IntKind.u64.wrap (a / 9223372036854775808) = maskI (decide (a < 0)) := by
  unfold IsS at h
  rw [wrap_u64]
  by_cases c : a < 0
  · rw [decide_eq_true c, maskI_true]; omega
  · rw [decide_eq_false c, maskI_false]; omega
/-- Sign -/
def signI (n z : Int) : Int := if n % 2 = 1 then -1 else if z % 2 = 1 then 0 else 1
theorem notmask_num (c : Bool) : bits .and .u64 (bits .xor .u64 IntKind.u64.max (maskI c)) 1 = if c then 0 else 1 := by
  cases c <;> decide
theorem sign_num (n z : Int) : RowKit.wrap64 (selI (maskI (n % 2 == 1)) 18446744073709551615 (bits .and .u64 (bits .xor .u64 IntKind.u64.max (maskI (z % 2 == 1))) 1)) = signI n z := by
  rw [notmask_num, selI_mask (by unfold IsU; omega) (by unfold IsU; split <;> omega)]
  unfold signI
  simp only [beq_iff_eq]
  unfold RowKit.wrap64
  split
  · decide
  · split <;> decide

end Go.Proofs.YtmoajobnhiopiaaGreatDoor.mk
