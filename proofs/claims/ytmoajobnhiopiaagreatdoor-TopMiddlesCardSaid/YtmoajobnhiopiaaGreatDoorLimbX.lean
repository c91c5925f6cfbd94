/- Integers of a fixed width, by walking their text: From, Sign. -/
import Derived.Test.YtmoajobnhiopiaaGreatDoorLimbW
set_option linter.unusedSimpArgs false
set_option linter.unusedVariables false
namespace Go.Proofs.YtmoajobnhiopiaaGreatDoor.lm
open Go Go.RowKit Go.Maps Go.Proofs.YtmoajobnhiopiaaGreatDoor.mk Go.Proofs.YtmoajobnhiopiaaGreatDoor.tp Go.Proofs.YtmoajobnhiopiaaGreatDoor.rg

/-- What the package-level variables hold. -/
structure Gl (w : World) : Prop where
  a : w.cell? ⟨0, 0, none⟩ = some (.int .u64 9223372036854775808)
  b : w.cell? ⟨0, 1, none⟩ = some (.int .u64 18446744073709551615)
  f0 : w.cell? ⟨1, 0, none⟩ = some (.int .i64 0)
  f1 : w.cell? ⟨1, 1, none⟩ = some (.int .i64 3)
  f2 : w.cell? ⟨1, 2, none⟩ = some (.int .i64 4)
  f3 : w.cell? ⟨1, 3, none⟩ = some (.int .i64 1)
  f4 : w.cell? ⟨1, 4, none⟩ = some (.int .i64 1)
  f5 : w.cell? ⟨1, 5, none⟩ = some (.int .i64 0)
theorem Gl.kept {w w' : World} (h : Gl w) (hk : Keeps (fun _ => False) w w') : Gl w' := by
  have hk0 : ∀ i v, w.cell? ⟨0, i, none⟩ = some v → w'.cell? ⟨0, i, none⟩ = some v := fun i v hv => (hk.cell (p := ⟨0, i, none⟩) (World.block_lt_of_cell? w _ hv) (fun h => h)).trans hv
  have hk1 : ∀ i v, w.cell? ⟨1, i, none⟩ = some v → w'.cell? ⟨1, i, none⟩ = some v := fun i v hv => (hk.cell (p := ⟨1, i, none⟩) (World.block_lt_of_cell? w _ hv) (fun h => h)).trans hv
  exact ⟨hk0 _ _ h.a, hk0 _ _ h.b, hk1 _ _ h.f0, hk1 _ _ h.f1, hk1 _ _ h.f2, hk1 _ _ h.f3, hk1 _ _ h.f4, hk1 _ _ h.f5⟩
theorem knil {a b c : World} (h : Keeps (fun _ => False) a b) (k : Keeps (fun _ => False) b c) : Keeps (fun _ => False) a c := h.trans k (fun _ _ h => h)
/-- The call returns a slice that reads as the integer x of n words, and leaves what was there. -/
def GivesNum (w : World) (n : Nat) (x : Int) (e : Ending) (w' : World) : Prop := ∃ v', e = .returned v' ∧ numAt w' v' n x ∧ Keeps (fun _ => False) w w'
theorem GivesNum.from {w0 w w' : World} {n : Nat} {x : Int} {e : Ending} (h : GivesNum w n x e w') (hk : Keeps (fun _ => False) w0 w) : GivesNum w0 n x e w' := by
  obtain ⟨v, h1, h2, h3⟩ := h
  exact ⟨v, h1, h2, knil hk h3⟩
theorem from_calls (x : Int) (hx : IsS x) (n : Nat) (hn : 1 ≤ n) (hn8 : n ≤ 8) (w : World) :
    Calls Tryz.prog 70 #[.int .i64 x, .int .i64 n] w (GivesNum w n x) := by
  have hka : Keeps (fun _ => False) w (w.alloc (.cells #[.int .u64 (x % 18446744073709551616)] 43)) := (Keeps.refl _ w).alloc _
  have h1 : numAt (w.alloc (.cells #[.int .u64 (x % 18446744073709551616)] 43)) (.slice (some ⟨w.heap.size, 0, none⟩) 1 1) 1 x := by
    refine numAt.mk (by simp) (fun i hi => ?_)
    obtain rfl : i = 0 := by omega
    rw [cell_of_row _ _ _ _ _ _ (heap_alloc_new w _)]
    simp [lm, pw_zero]
  go_enter Tryz.func70, Tryz.ntmps70
  go_wp2_with fail
  refine (extend_calls _ 0 n x (by omega) hn hn8 (.inr (fit_one hx)) _ h1).mono ?_; rintro e w1 ⟨v', rfl, hv', hk'⟩
  go_wp2
  go_ret
  exact ⟨v', rfl, hv', knil hka hk'⟩
/-! ### Sign -/
theorem or_zero {a b : Int} (ha : IsU a) (hb : IsU b) : bits .or .u64 a b = 0 ↔ a = 0 ∧ b = 0 := by
  rw [bits_or]
  constructor
  · intro h
    have h0 : bv a ||| bv b = 0#64 := by rw [← bv_nu (bv a ||| bv b), h]; decide
    rw [BitVec.or_eq_zero_iff] at h0
    have z : bv 0 = 0#64 := by decide
    exact ⟨bv_inj ha (by unfold IsU; omega) (h0.1.trans z.symm), bv_inj hb (by unfold IsU; omega) (h0.2.trans z.symm)⟩
  · rintro ⟨rfl, rfl⟩; decide
theorem or_isU (a b : Int) : IsU (bits .or .u64 a b) := by rw [bits_or]; exact nu_isU _
theorem signI_masks (a b : Bool) : signI (maskI a) (maskI b) = if a then -1 else if b then 0 else 1 := by cases a <;> cases b <;> decide
set_option maxRecDepth 100000 in
set_option maxHeartbeats 4000000 in
theorem lsign_calls (v : Value) (m : Nat) (x : Int) (hm : m < 8) (hfit : Fit (m + 1) x) (w : World) (hG : Gl w) (h : numAt w v (m + 1) x) :
    Calls Tryz.prog 39 #[v] w fun e w' => e = .returned (.int .i64 (sgnI x)) ∧ Keeps (fun _ => False) w w' := by
  obtain ⟨b, off, cap, rfl, hb, hc⟩ := h.cases
  have hka : Keeps (fun _ => False) w (w.alloc (.cells #[.slice (some ⟨b, off, none⟩) (m + 1) cap] 73)) := (Keeps.refl _ w).alloc _
  have hc1 : ∀ i, i < m + 1 → (w.alloc (.cells #[.slice (some ⟨b, off, none⟩) (m + 1) cap] 73)).cell? ⟨b, off + i, none⟩ = some (.int .u64 (lm x i)) := fun i hi => (hka.cell (p := ⟨b, off + i, none⟩) hb (fun h => h)).trans (hc i hi)
  have HC := Lib.hid hc1
  have HG := Lib.hid (hG.kept hka)
  clear h hc hc1 hG
  go_enter Tryz.func39, Tryz.ntmps39
  go_wp2_with fail
  refine (is_one _ w _ ⟨_, _, _, rfl, by omega, by omega⟩ rfl).mono ?_; rintro e w1 ⟨rfl, rfl⟩
  obtain ⟨w1, hw1⟩ : ∃ w1, w.alloc (.cells #[.slice (some ⟨b, off, none⟩) (m + 1) cap] 73) = w1 := ⟨_, rfl⟩
  rw [hw1] at HC HG hka ⊢
  clear hw1
  go_wp2_with fail
  go_loopw [3, 5, 12] (fun u _ i wr => ∃ (k : Nat) (U : Int), k ≤ m + 1 ∧ i = .int .i64 k ∧ u = .int .u64 U ∧ IsU U ∧ (U = 0 ↔ ∀ j, j < k → lm x j = 0) ∧ wr = w1) (fun _ _ i _ => m + 1 - (intOf i).toNat)
  case atStart => exact ⟨0, 0, Nat.zero_le _, rfl, rfl, by unfold IsU; omega, by simp, rfl⟩
  case round =>
    obtain ⟨k, U, hk, rfl, rfl, hU, hz, rfl⟩ := hrel
    by_cases hlt : k < m + 1
    · have hcell := HC.out k hlt
      have hlt' : (k : Int) < (m : Int) + 1 := by omega
      have hk0 : (0 : Int) ≤ (k : Int) := by omega
      have HZ := Lib.hid hz
      clear hz
      go_wp2
      go_roundw
      case rel =>
        refine ⟨k + 1, _, by omega, by go_num, rfl, or_isU _ _, ?_, trivial⟩
        rw [or_zero hU (lm_isU x k), HZ.out]
        constructor
        · rintro ⟨h1, h2⟩ j hj
          by_cases h : j < k
          · exact h1 j h
          · obtain rfl : j = k := by omega
            exact h2
        · intro h; exact ⟨fun j hj => h j (by omega), h k (by omega)⟩
      case measure => simp [intOf]; omega
    · obtain rfl : k = m + 1 := by omega
      have hcell := HC.out m (by omega)
      have hm0 : (0 : Int) ≤ (m : Int) := by omega
      have hzx : (U == 0) = (x == 0) := by
        rw [Bool.eq_iff_iff, beq_iff_eq, beq_iff_eq, hz]
        constructor
        · intro h; exact zero_all hfit h
        · intro h; subst h; intro j _; simp [lm]
      have HZ := Lib.hid hzx
      clear hz hzx
      go_wp2_with fail
      refine (fill_calls _ (lm_isU x m) _).mono ?_; rintro e w' ⟨rfl, rfl⟩
      go_wp2_with fail
      refine (zero_calls U hU _).mono ?_; rintro e w' ⟨rfl, rfl⟩
      go_wp2_with fail
      refine (sign_calls _ _ (maskI_isU _) (maskI_isU _) _ HG.out.b).mono ?_; rintro e w' ⟨rfl, n, rfl⟩
      go_wp2
      go_ret
      refine ⟨?_, hka.drewN n⟩
      rw [signI_masks, HZ.out]
      have h1 := (top_sign hfit).1
      have h2 := lm_isU x m
      unfold IsU at h2
      unfold sgnI
      by_cases hx : x < 0
      · have e1 : (lm x m / 9223372036854775808 % 2 == 1) = true := by rw [beq_iff_eq]; have := h1.2 hx; omega
        rw [if_pos hx, e1]
        rfl
      · have e1 : (lm x m / 9223372036854775808 % 2 == 1) = false := by rw [beq_eq_false_iff_ne]; intro h; exact hx (h1.1 (by omega))
        rw [if_neg hx, e1]
        by_cases h0 : x = 0
        · subst h0; rfl
        · rw [if_neg h0, beq_eq_false_iff_ne.2 h0]; rfl
end Go.Proofs.YtmoajobnhiopiaaGreatDoor.lm
