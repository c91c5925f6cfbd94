/- network.is and network.All, and the iterator that All returns, by walking their text. -/
import Derived.Test.YtbgjfibninccdaaNetL
import Derived.Test.YtbgjfibninccdaaRange
import Derived.Test.YtbgjfibninccdaaTape
import Derived.Laws.BitsLemmas
import Derived.WalkLawsBesides
import Derived.WalkSpells
import Derived.Outline
import Derived.LoopTactic
import Derived.Lib.Hide
namespace Go.Proofs.Ytbgjfibninccdaa.nw
open Go Go.RowKit Go.Shelf Go.Proofs.Ytbgjfibninccdaa.tp Go.Proofs.Ytbgjfibninccdaa.rg

attribute [local go_sem] Oper.semAt_some

/-! ### powers of two -/
def isN (n : Nat) : Bool := (List.range 13).any fun r => n == 2 ^ r
/-- There is a network for the number. -/
def isB (n : Int) : Bool := (List.range 13).any fun r => n == ((2 ^ r : Nat) : Int)
theorem isB_nat (n : Nat) : isB (n : Int) = isN n := by
  unfold isB isN
  congr 1
  funext r
  rw [Bool.eq_iff_iff, beq_iff_eq, beq_iff_eq]
  omega
theorem isB_iff {n : Int} : isB n = true ↔ ∃ r : Nat, r ≤ 12 ∧ n = ((2 ^ r : Nat) : Int) := by
  unfold isB
  rw [List.any_eq_true]
  constructor
  · rintro ⟨r, hr, h⟩
    rw [List.mem_range] at hr
    exact ⟨r, by omega, by simpa using h⟩
  · rintro ⟨r, hr, h⟩
    exact ⟨r, by rw [List.mem_range]; omega, by simpa using h⟩
theorem isB_bounds {n : Int} (h : isB n = true) : 1 ≤ n ∧ n ≤ 4096 := by
  obtain ⟨r, hr, rfl⟩ := isB_iff.1 h
  have h0 := Nat.two_pow_pos r
  have : 2 ^ r ≤ 2 ^ 12 := Nat.pow_le_pow_right (by omega) hr
  omega
theorem and_table : (List.range 4097).all (fun m => m == 0 || (((m &&& (m - 1)) == 0) == isN m)) = true := by decide +kernel
theorem and_isN {m : Nat} (h1 : 1 ≤ m) (h2 : m ≤ 4096) : ((m &&& (m - 1)) == 0) = isN m := by
  have := List.all_eq_true.1 and_table m (by rw [List.mem_range]; omega)
  rw [Bool.or_eq_true] at this
  rcases this with h | h
  · rw [beq_iff_eq] at h; omega
  · exact beq_iff_eq.1 h
theorem wraps_i64_63 (n : Int) (h₀ : 0 ≤ n) (h₁ : n < 2 ^ 63) : IntKind.i64.wrap n = n := by rw [IntKind.wrap_i64]; omega
theorem and_i64 {a b : Nat} (ha : a < 9223372036854775808) (hb : b < 9223372036854775808) : bits .and .i64 a b = ((a &&& b : Nat) : Int) := (bits_nat .i64 63 (by decide) wraps_i64_63 a b ha hb).1
theorem xor_i64 {a b : Nat} (ha : a < 9223372036854775808) (hb : b < 9223372036854775808) : bits .xor .i64 a b = ((a ^^^ b : Nat) : Int) := by
  have e : bits .xor .i64 (a : Int) (b : Int) = IntKind.i64.wrap (((BitVec.ofInt 64 (a : Int)) ^^^ (BitVec.ofInt 64 (b : Int))).toNat : Int) := rfl
  rw [e, BitVec.toNat_xor, BitVec.toNat_ofInt, BitVec.toNat_ofInt]
  have h1 : ((a : Int) % ((2 ^ 64 : Nat) : Int)).toNat = a := by omega
  have h2 : ((b : Int) % ((2 ^ 64 : Nat) : Int)).toNat = b := by omega
  rw [h1, h2]
  have h3 : a ^^^ b < 2 ^ 63 := Nat.xor_lt_two_pow ha hb
  exact wraps_i64_63 _ (by omega) (by omega)
theorem is_calls (n : Int) (hn : wf64 n = true) (w : World) : Calls Try.prog 49 #[.int .i64 n] w fun e w' => e = .returned (.bool (isB n)) ∧ w' = w := by
  by_cases h : 1 ≤ n ∧ n ≤ 4096
  · obtain ⟨h1, h2⟩ := h
    obtain ⟨m, rfl⟩ := Int.eq_ofNat_of_zero_le (show 0 ≤ n by omega)
    have hx : (bits .and .i64 (m : Int) ((m : Int) - 1) == 0) = isB (m : Int) := by
      rw [isB_nat, ← and_isN (by omega) (by omega), show ((m : Int) - 1) = ((m - 1 : Nat) : Int) by omega, and_i64 (by omega) (by omega), Bool.eq_iff_iff, beq_iff_eq, beq_iff_eq]
      omega
    clear hn
    go_enter Try.func49, Try.ntmps49
    go_wp2
    go_ret
    exact ⟨rfl, rfl⟩
  · have hb : isB n = false := by
      cases hB : isB n
      · rfl
      · exact absurd (isB_bounds hB) h
    rw [hb]
    by_cases h1 : 1 ≤ n
    · have h2 : 4096 < n := by omega
      clear h hb hn
      go_enter Try.func49, Try.ntmps49
      go_wp2
      go_ret
      exact ⟨rfl, rfl⟩
    · have h2 : n < 1 := by omega
      clear h hb hn h1
      go_enter Try.func49, Try.ntmps49
      go_wp2
      go_ret
      exact ⟨rfl, rfl⟩
theorem netall_calls (n : Int) (w : World) : Calls Try.prog 37 #[.int .i64 n] w fun e w' =>
    e = .returned (.func (.func 48) #[] #[.pointer (some ⟨w.heap.size, 0, none⟩)]) ∧ w' = w.alloc (.cells #[.int .i64 n] 3) := by
  go_enter Try.func37, Try.ntmps37
  go_wp2
  go_ret
  exact ⟨rfl, rfl⟩
end Go.Proofs.Ytbgjfibninccdaa.nw
