/- The functions of package plane, by walking their text. -/
import Derived.Test.YtgdnkpngojbjpaaFlq
import Derived.Test.YtgdnkpngojbjpaaTape
import Derived.Test.YtgdnkpngojbjpaaChecked
import Derived.WalkLawsBesides
import Derived.LoopTactic
import Derived.WalkSpells
import Derived.Lib.Hide
import Derived.Laws.Externs
import Derived.Laws.ResultCell
import Derived.Laws.Rows
import Derived.Test.YtgdnkpngojbjpaaMask
namespace Go.Proofs.Ytgdnkpngojbjpaa.pl
open Go Go.RowKit Go.Proofs.Ytgdnkpngojbjpaa.tp Go.Proofs.Ytgdnkpngojbjpaa.fl Go.Proofs.Ytgdnkpngojbjpaa.mk

def smallB (x y : Int) : Bool := decide (-16777216 ≤ x ∧ x ≤ 16777216 ∧ -16777216 ≤ y ∧ y ≤ 16777216)

theorem run_bits (b : Nat) (w : World) : (callFunc 30 #[.float .f64 b]).run Try.prog w = .ok (.value (.int .u64 b)) w := by
  rw [run_callFunc_extern Try.func30 (by kernel_rfl) (by kernel_rfl) (by kernel_rfl) (e := Extern.MathFloatBits.float64bits) (by kernel_rfl)]
  rfl
theorem run_frombits (n : Int) (w : World) : (callFunc 29 #[.int .u64 n]).run Try.prog w = .ok (.value (.float .f64 n.toNat)) w := by
  rw [run_callFunc_extern Try.func29 (by kernel_rfl) (by kernel_rfl) (by kernel_rfl) (e := Extern.MathFloatBits.float64frombits) (by kernel_rfl)]
  rfl
theorem run_trunc (x : Nat) (hn : ∀ s t, Ieee.double.read x ≠ .nan s t) (w : World) : (callFunc 31 #[.float .f64 x]).run Try.prog w = .ok (.value (.float .f64 (Ieee.double.write ((Ieee.double.read x).integral .zero)))) w := by
  rw [run_callFunc_extern Try.func31 (by kernel_rfl) (by kernel_rfl) (by kernel_rfl) (e := Extern.MathFloor.toIntegral "math.archTrunc" .zero) (by kernel_rfl)]
  have e : (Extern.MathFloor.toIntegral "math.archTrunc" .zero #[.float .f64 x]).run Try.prog w = .ok (.float .f64 (Ieee.double.write ((Ieee.double.read x).integral .zero))) w := by
    unfold Extern.MathFloor.toIntegral
    show (match Ieee.double.read x with
        | .nan s t => if FloatKind.f64.format.quiet t = t then pure (.float .f64 x) else do
            let kept ← choose (.extern "math.Floor,Ceil,Trunc,RoundToEven.signallingNaN kept" 2)
            pure (.float .f64 (if kept == 1 then x else FloatKind.f64.encode (.nan s (FloatKind.f64.format.quiet t))))
        | d => pure (.float .f64 (FloatKind.f64.encode (d.integral .zero))) : Sem Value).run Try.prog w = _
    cases h : Ieee.double.read x with
    | nan s t => exact absurd h (hn s t)
    | number s m e => rfl
    | infinity s => rfl
  rw [e]
  rfl
theorem nan_calls (x : Nat) (w : World) : Calls Try.prog 26 #[.float .f64 x] w fun e w' => e = .returned (.bool (Ieee.double.order x x != some .eq)) ∧ w' = w := by
  go_enter Try.func26, Try.ntmps26
  go_wp2
  go_ret
  exact ⟨rfl, rfl⟩
theorem abs_bits (x : Nat) (h : x < 18446744073709551616) : (bits .andNot .u64 (x : Int) 9223372036854775808).toNat = x % 9223372036854775808 := by
  rw [bits_andNot]
  show ((bv (x : Int) &&& ~~~ bv 9223372036854775808).toNat : Int).toNat = _
  rw [show ~~~ bv 9223372036854775808 = BitVec.ofNat 64 (2 ^ 63 - 1) by decide, BitVec.toNat_and, Int.toNat_natCast]
  have e : (bv (x : Int)).toNat = x := by
    unfold bv
    rw [BitVec.toNat_ofInt]
    omega
  rw [e, BitVec.toNat_ofNat, show (2 ^ 63 - 1) % 2 ^ 64 = 2 ^ 63 - 1 by decide, Nat.and_two_pow_sub_one_eq_mod]
theorem abs_calls (x : Nat) (hx : x < 18446744073709551616) (w : World) : Calls Try.prog 27 #[.float .f64 x] w fun e w' => e = .returned (.float .f64 (x % 9223372036854775808)) ∧ w' = w := by
  have h1 := run_bits x
  have h2 := run_frombits (bits .andNot .u64 (x : Int) 9223372036854775808)
  rw [abs_bits x hx] at h2
  go_enter Try.func27, Try.ntmps27
  go_wp2
  go_ret
  exact ⟨rfl, rfl⟩
theorem isSmall_calls (x y : Int) (w : World) : Calls Try.prog 13 #[Value.agg #[Value.int IntKind.i64 x, Value.int IntKind.i64 y]] w fun e w' => e = .returned (.bool (smallB x y)) ∧ Keeps (fun _ => False) w w' := by
  go_enter Try.func13, Try.ntmps13
  go_wp2
  all_goals (go_ret; refine ⟨congrArg (fun b => Ending.returned (Value.bool b)) (?_ : _ = smallB x y), (Keeps.refl _ w).alloc _⟩; rw [Bool.eq_iff_iff]; simp [smallB]; try omega)
theorem rIsSmall_calls (x y : Int) (w : World) : Calls Try.prog 10 #[Value.agg #[Value.int IntKind.i64 x, Value.int IntKind.i64 y]] w fun e w' => e = .returned (.bool (smallB x y)) ∧ Keeps (fun _ => False) w w' := by
  go_enter Try.func10, Try.ntmps10
  go_wp2
  all_goals (go_ret; refine ⟨congrArg (fun b => Ending.returned (Value.bool b)) (?_ : _ = smallB x y), (Keeps.refl _ w).alloc _⟩; rw [Bool.eq_iff_iff]; simp [smallB]; try omega)
theorem complex_calls (x y : Int) (w : World) : Calls Try.prog 20 #[Value.agg #[Value.int IntKind.i64 x, Value.int IntKind.i64 y]] w fun e w' => e = .returned (.complex .f64 (FloatKind.f64.nearest x) (FloatKind.f64.nearest y)) ∧ Keeps (fun _ => False) w w' := by
  go_enter Try.func20, Try.ntmps20
  go_wp2
  go_ret
  exact ⟨rfl, (Keeps.refl _ w).alloc _⟩
theorem trunc_calls (x : Nat) (hn : ∀ s t, Ieee.double.read x ≠ .nan s t) (w : World) : Calls Try.prog 28 #[.float .f64 x] w fun e w' => e = .returned (.float .f64 (Ieee.double.write ((Ieee.double.read x).integral .zero))) ∧ w' = w := by
  have h1 := run_trunc x hn
  generalize Ieee.double.write ((Ieee.double.read x).integral .zero) = r at h1 ⊢
  go_enter Try.func28, Try.ntmps28
  go_wp2
  go_ret
  exact ⟨rfl, rfl⟩
theorem unary_neg_float (k : FloatKind) (b : Nat) : Op.unary .neg (.float k b) = pure (.float k (Op.negFloat k b)) := rfl
attribute [local go_sem] unary_neg_float
theorem read_neg (b : Nat) : Ieee.double.read (Op.negFloat .f64 b) = (Ieee.double.read b).opposite := by
  have h1 : Op.negFloat .f64 b = b ^^^ 2 ^ 63 := rfl
  have h2 : (b ^^^ 2 ^ 63) % 9223372036854775808 = b % 9223372036854775808 := by
    have := Nat.xor_mod_two_pow (a := b) (b := 2 ^ 63) (n := 63)
    rw [Nat.mod_self, Nat.xor_zero] at this
    exact this
  have h3 : ((b ^^^ 2 ^ 63) / 9223372036854775808 % 2 == 1) = !(b / 9223372036854775808 % 2 == 1) := by
    have h4 : (b ^^^ 2 ^ 63) / 9223372036854775808 = b / 9223372036854775808 ^^^ 1 := by
      have := Nat.xor_div_two_pow (a := b) (b := 2 ^ 63) (n := 63)
      rw [Nat.div_self (by decide)] at this
      exact this
    rw [h4]
    have h5 := Nat.xor_mod_two_pow (a := b / 9223372036854775808) (b := 1) (n := 1)
    rw [Nat.pow_one] at h5
    rw [h5]
    rcases Nat.mod_two_eq_zero_or_one (b / 9223372036854775808) with h | h <;> rw [h] <;> rfl
  rw [h1]
  unfold Ieee.Format.read
  simp only [sw_eq, h2, h3]
  split
  · rfl
  · split
    · rfl
    · split <;> rfl
theorem F_neg {b : Nat} {z : Int} (h : F b z) : F (Op.negFloat .f64 b) (-z) := by
  show Rep (Ieee.double.read _) _
  rw [read_neg]
  exact Rep.opposite h
theorem conj_calls (a b : Nat) (w : World) : Calls Try.prog 24 #[.complex .f64 a b] w fun e w' => e = .returned (.complex .f64 a (Op.negFloat .f64 b)) ∧ w' = w := by
  go_enter Try.func24, Try.ntmps24
  go_wp2
  go_ret
  exact ⟨rfl, rfl⟩

/-! ### whole and Point -/
theorem F_abs {x : Nat} {t : Int} (h : F x t) : F (x % 9223372036854775808) (t.natAbs : Int) := by
  obtain ⟨s, m, e, he, h⟩ := h
  refine ⟨false, m, e, by rw [read_abs, he], ?_⟩
  have := Rep.abs h
  show ((m : Nat) : Int) * 2 ^ e.toNat = _
  have h2 := congrArg (fun n : Nat => (n : Int)) this
  simpa [Int.natCast_mul, Int.natCast_pow] using h2
theorem F_trunc {x : Nat} {t : Int} (h : F x t) (ht : In53 t) : F (Ieee.double.write ((Ieee.double.read x).integral .zero)) t := Rep.write (Rep.integral h) ht.abs
theorem F_not_nan {x : Nat} {t : Int} (h : F x t) : ∀ s u, Ieee.double.read x ≠ .nan s u := by
  intro s u hh
  obtain ⟨s', m, e, he, _⟩ := h
  rw [he] at hh; cases hh
theorem F_eq {x y : Nat} {t : Int} (h : F x t) (h' : F y t) : Ieee.double.order x y = some .eq := by
  rw [show Ieee.double.order x y = some (compare t t) from Rep.order h h', cmp_eq.2 rfl]
theorem results_pt {fn : Func} {p u : Tmp} (h : fn.results = #[.cell p 23, .tmp u]) (tmps : Array Value) (w : World) (g : Nat) (t : TypeId) (x y : Value) (fr : Nat × Nat)
    (hp : tmps.getD p undef = .pointer (some ⟨g, 0, none⟩)) (hg : w.heap[g]? = some (.cells #[x, y] t fr)) : (results fn tmps).run Try.prog w = .ok (.tuple #[.agg #[x, y], tmps.getD u undef]) w := by
  rw [results_cell_tmp h, hp]
  have e := run_loadVar_row (P := Try.prog) w g t 23 #[x, y] fr _ hg Try.underlying23 rfl (by kernel_rfl)
  simp [asAddr, e, Result.andThen]
theorem fmt : FloatKind.f64.format = Ieee.double := rfl
theorem top_eq : top = 4845873199050653696 := rfl
theorem abs_top {x : Nat} {t : Int} (h : F x t) : FloatKind.f64.format.order (x % 9223372036854775808) 4845873199050653696 = some (compare (t.natAbs : Int) 9007199254740992) := by
  rw [fmt, ← top_eq]
  exact Rep.order (F_abs h) F_top
theorem abs_small {t : Int} (ht : In53 t) : (compare (t.natAbs : Int) 9007199254740992 == Ordering.gt) = false := by
  rw [beq_eq_false_iff_ne]
  intro hh
  have := cmp_gt.1 hh
  unfold In53 at ht
  omega
theorem conv_int {x : Nat} {t : Int} (h : F x t) (ht : In53 t) (w : World) : (convert 33 2 (.float .f64 x)).run Try.prog w = .ok (.int .i64 t) w := by
  refine run_convert_float_int w 33 2 .f64 .i64 x t ?_ Try.underlying2 (h.toInt ht)
  rw [Try.underlying33]
  rfl
theorem trunc_eq {x : Nat} {t : Int} (h : F x t) (ht : In53 t) : FloatKind.f64.format.order (Ieee.double.write ((Ieee.double.read x).integral .zero)) x = some .eq := by
  rw [fmt]
  exact F_eq (F_trunc h ht) h
theorem abs_not {x : Nat} {t : Int} (h : F x t) (ht : In53 t) : (FloatKind.f64.format.order (x % 9223372036854775808) 4845873199050653696 == some .gt) = false := by
  have h2 := abs_small ht
  rw [abs_top h]
  generalize compare (t.natAbs : Int) 9007199254740992 = o at h2 ⊢
  cases o
  · rfl
  · rfl
  · cases h2
theorem trunc_same {x : Nat} {t : Int} (h : F x t) (ht : In53 t) : (FloatKind.f64.format.order (Ieee.double.write ((Ieee.double.read x).integral .zero)) x != some .eq) = false := by
  rw [trunc_eq h ht]
  rfl
theorem whole_int (x : Nat) (t : Int) (hx : x < 18446744073709551616) (h : F x t) (ht : In53 t) (w : World) : Calls Try.prog 25 #[.float .f64 x] w fun e w' => e = .returned (.tuple #[.int .i64 t, .bool true]) ∧ w' = w := by
  have hc := conv_int h ht
  have h1 : Ieee.double.order x x = some .eq := F_eq h h
  have h2 := abs_not h ht
  have h3' := trunc_same h ht
  have hn := trunc_calls x (F_not_nan h)
  generalize Ieee.double.write ((Ieee.double.read x).integral .zero) = r at h3' hn
  have hnan := nan_calls x
  rw [h1] at hnan
  go_enter Try.func25, Try.ntmps25
  go_wp2_with fail
  refine (hnan _).mono ?_; rintro e w1 ⟨rfl, rfl⟩
  go_wp2_with fail
  refine (abs_calls x hx _).mono ?_; rintro e w1 ⟨rfl, rfl⟩
  go_wp2_with fail
  refine (hn _).mono ?_; rintro e w1 ⟨rfl, rfl⟩
  go_wp2
  go_ret2
  exact ⟨rfl, rfl⟩
/-- No integer of at most 2^53: whole says so. -/
theorem whole_not (x : Nat) (hx : x < 18446744073709551616) (h : ¬ ∃ t, F x t ∧ In53 t) (w : World) : Calls Try.prog 25 #[.float .f64 x] w fun e w' => e = .returned (.tuple #[.int .i64 0, .bool false]) ∧ w' = w := by
  rcases float_cases x with h0 | h0 | ⟨h0, h1, _⟩ | ⟨t, ht⟩
  · exact absurd h0 h
  · have hnan := nan_calls x
    rw [h0] at hnan
    go_enter Try.func25, Try.ntmps25
    go_wp2_with fail
    refine (hnan _).mono ?_; rintro e w1 ⟨rfl, rfl⟩
    go_wp2
    go_ret2
    exact ⟨rfl, rfl⟩
  · have hnan := nan_calls x
    rw [h0] at hnan
    have h2 : FloatKind.f64.format.order (x % 9223372036854775808) 4845873199050653696 = some .gt := h1
    go_enter Try.func25, Try.ntmps25
    go_wp2_with fail
    refine (hnan _).mono ?_; rintro e w1 ⟨rfl, rfl⟩
    go_wp2_with fail
    refine (abs_calls x hx _).mono ?_; rintro e w1 ⟨rfl, rfl⟩
    go_wp2
    go_ret2
    exact ⟨rfl, rfl⟩
  · have hnan := nan_calls x
    rw [ht.self] at hnan
    have h2 : (FloatKind.f64.format.order (x % 9223372036854775808) 4845873199050653696 == some .gt) = false := by
      rw [beq_eq_false_iff_ne]; exact ht.ab
    have hR : F (Ieee.double.write ((Ieee.double.read x).integral .zero)) t := Rep.write ht.itg ht.small.abs
    have h3 := (ht.ne _ hR).1
    have h3' : (FloatKind.f64.format.order (Ieee.double.write ((Ieee.double.read x).integral .zero)) x != some .eq) = true := by
      rw [bne_iff_ne]; exact h3
    have hn := trunc_calls x (by intro s u hh; obtain ⟨s', m, e, he, _⟩ := ht.num; rw [he] at hh; cases hh)
    generalize Ieee.double.write ((Ieee.double.read x).integral .zero) = r at h3' hn
    clear h3 hR ht
    go_enter Try.func25, Try.ntmps25
    go_wp2_with fail
    refine (hnan _).mono ?_; rintro e w1 ⟨rfl, rfl⟩
    go_wp2_with fail
    refine (abs_calls x hx _).mono ?_; rintro e w1 ⟨rfl, rfl⟩
    go_wp2_with fail
    refine (hn _).mono ?_; rintro e w1 ⟨rfl, rfl⟩
    go_wp2
    go_ret2
    exact ⟨rfl, rfl⟩

theorem point_int (a b : Nat) (x y : Int) (ha : a < 18446744073709551616) (hb : b < 18446744073709551616) (h : F a x) (hx : In53 x) (h' : F b y) (hy : In53 y) (w : World) :
    Calls Try.prog 21 #[.complex .f64 a b] w fun e w' => e = .returned (.tuple #[Value.agg #[Value.int IntKind.i64 x, Value.int IntKind.i64 y], .int .i64 0]) ∧ Keeps (fun _ => False) w w' := by
  go_enter Try.func21, Try.ntmps21
  go_wp2_with fail
  refine (whole_int a x ha h hx _).mono ?_; rintro e w1 ⟨rfl, rfl⟩
  go_wp2_with fail
  refine (whole_int b y hb h' hy _).mono ?_; rintro e w1 ⟨rfl, rfl⟩
  go_wp2_with fail
  exact bodyPost_ret (results_pt rfl _ _ w.heap.size _ _ _ _ rfl (heap_alloc_new w _)) rfl ⟨rfl, (Keeps.refl _ w).alloc _⟩
/-- The integer that a float is, if it is one of at most 2^53. -/
def Whole (x : Nat) : Prop := ∃ t, F x t ∧ In53 t
theorem point_not (a b : Nat) (ha : a < 18446744073709551616) (hb : b < 18446744073709551616) (h : ¬ (Whole a ∧ Whole b)) (w : World) :
    Calls Try.prog 21 #[.complex .f64 a b] w fun e w' => e = .returned (.tuple #[Value.agg #[Value.int IntKind.i64 0, Value.int IntKind.i64 0], .int .i64 3]) ∧ Keeps (fun _ => False) w w' := by
  by_cases hA : Whole a
  · have hB : ¬ Whole b := fun hb => h ⟨hA, hb⟩
    obtain ⟨x, hx, hx'⟩ := hA
    go_enter Try.func21, Try.ntmps21
    go_wp2_with fail
    refine (whole_int a x ha hx hx' _).mono ?_; rintro e w1 ⟨rfl, rfl⟩
    go_wp2_with fail
    refine (whole_not b hb hB _).mono ?_; rintro e w1 ⟨rfl, rfl⟩
    go_wp2_with fail
    exact bodyPost_ret (results_pt rfl _ _ w.heap.size _ _ _ _ rfl (heap_alloc_new w _)) rfl ⟨rfl, (Keeps.refl _ w).alloc _⟩
  · by_cases hB : Whole b
    · obtain ⟨y, hy, hy'⟩ := hB
      go_enter Try.func21, Try.ntmps21
      go_wp2_with fail
      refine (whole_not a ha hA _).mono ?_; rintro e w1 ⟨rfl, rfl⟩
      go_wp2_with fail
      refine (whole_int b y hb hy hy' _).mono ?_; rintro e w1 ⟨rfl, rfl⟩
      go_wp2_with fail
      exact bodyPost_ret (results_pt rfl _ _ w.heap.size _ _ _ _ rfl (heap_alloc_new w _)) rfl ⟨rfl, (Keeps.refl _ w).alloc _⟩
    · go_enter Try.func21, Try.ntmps21
      go_wp2_with fail
      refine (whole_not a ha hA _).mono ?_; rintro e w1 ⟨rfl, rfl⟩
      go_wp2_with fail
      refine (whole_not b hb hB _).mono ?_; rintro e w1 ⟨rfl, rfl⟩
      go_wp2_with fail
      exact bodyPost_ret (results_pt rfl _ _ w.heap.size _ _ _ _ rfl (heap_alloc_new w _)) rfl ⟨rfl, (Keeps.refl _ w).alloc _⟩
end Go.Proofs.Ytgdnkpngojbjpaa.pl
