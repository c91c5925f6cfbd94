/- The law NetworkZeroOne. -/
import Derived.Test.YtacbnlkbbaiedaaNetH
namespace Go.Proofs.Ytacbnlkbbaiedaa.nw
open Go Go.RowKit Go.Shelf Go.Proofs.Ytacbnlkbbaiedaa.tp Go.Proofs.Ytacbnlkbbaiedaa.rg Go.Proofs.Ytacbnlkbbaiedaa.ar Go.Proofs.Ytacbnlkbbaiedaa.mk

/-! ### words that are 0 or 1 -/
theorem zo_perm : ∀ l : List Int, (∀ x ∈ l, x = 0 ∨ x = 1) → l.Perm (List.replicate (l.length - (countI l).toNat) 0 ++ List.replicate (countI l).toNat 1)
  | [], _ => List.Perm.refl _
  | x :: l, h => by
    have ih := zo_perm l (fun y hy => h y (by simp [hy]))
    have hb := countI_bounds l
    rcases h x (by simp) with rfl | rfl
    · have e : countI (0 :: l) = countI l := by simp [countI]
      rw [e, List.length_cons, show l.length + 1 - (countI l).toNat = (l.length - (countI l).toNat) + 1 by omega, List.replicate_succ, List.cons_append]
      exact List.Perm.cons 0 ih
    · have e : (countI (1 :: l)).toNat = (countI l).toNat + 1 := by simp only [countI]; omega
      rw [e, List.length_cons, show l.length + 1 - ((countI l).toNat + 1) = l.length - (countI l).toNat by omega, List.replicate_succ]
      exact (List.Perm.cons 1 ih).trans List.perm_middle.symm
theorem zo_sorted (a b : Nat) : (List.replicate a (0 : Int) ++ List.replicate b 1).Pairwise (· ≤ ·) := by
  rw [List.pairwise_append]
  refine ⟨List.pairwise_replicate.2 (.inr (Int.le_refl _)), List.pairwise_replicate.2 (.inr (Int.le_refl _)), fun x hx y hy => ?_⟩
  rw [List.eq_of_mem_replicate hx, List.eq_of_mem_replicate hy]
  decide
/-- A sorted list of 0 and 1. -/
theorem zo_get {s l : List Int} (hs : s.Pairwise (· ≤ ·)) (hp : s.Perm l) (hl : ∀ x ∈ l, x = 0 ∨ x = 1) {i : Nat} (hi : i < l.length) : s[i]? = some (if i < l.length - (countI l).toNat then 0 else 1) := by
  have hb := countI_bounds l
  rw [sorted_unique hs (zo_sorted _ _) (hp.trans (zo_perm l hl))]
  by_cases h : i < l.length - (countI l).toNat
  · rw [if_pos h, List.getElem?_append_left (by rw [List.length_replicate]; exact h), List.getElem?_replicate, if_pos h]
  · rw [if_neg h, List.getElem?_append_right (by rw [List.length_replicate]; omega), List.length_replicate, List.getElem?_replicate, if_pos (by omega)]

/-- The bit of number i. -/
def bitI (x : Int) (i : Nat) : Int := (x / 2 ^ i) % 2
theorem bitI_cases (x : Int) (i : Nat) : bitI x i = 0 ∨ bitI x i = 1 := by unfold bitI; omega
theorem bitI_and {x : Int} (hx : IsU x) (i : Nat) : bits .and .u64 (x / 2 ^ i) 1 = bitI x i := by
  have h1 : (0 : Int) < 2 ^ i := Int.pow_pos (by decide)
  have h2 : 0 ≤ x / 2 ^ i := Int.ediv_nonneg hx.1 (by omega)
  have h3 : x / 2 ^ i ≤ x := Int.ediv_le_self _ hx.1
  exact bit_num ⟨h2, Int.lt_of_le_of_lt h3 hx.2⟩
/-- The list behind k rounds. -/
def bl (x : Int) (N k : Nat) : List Int := (List.range N).map fun i => if i < k then bitI x i else 0
theorem bl_length (x : Int) (N k : Nat) : (bl x N k).length = N := by simp [bl]
theorem bl_zero (x : Int) (N : Nat) : bl x N 0 = List.replicate N 0 := by
  apply List.ext_getElem?
  intro i
  unfold bl
  rw [List.getElem?_map, List.getElem?_replicate]
  by_cases h : i < N
  · rw [List.getElem?_range h, if_pos h]; simp
  · rw [if_neg h, List.getElem?_eq_none (by simp; omega)]; rfl
theorem bl_get {x : Int} {N k i : Nat} (h : i < N) : (bl x N k)[i]? = some (if i < k then bitI x i else 0) := by
  unfold bl
  rw [List.getElem?_map, List.getElem?_range h]; rfl
theorem bl_set {x : Int} {N k : Nat} (h : k < N) : (wflat (bl x N k)).set k (.int .u64 (bitI x k)) = wflat (bl x N (k + 1)) := by
  have e : (bl x N k).set k (bitI x k) = bl x N (k + 1) := by
    apply List.ext_getElem?
    intro i
    rw [List.getElem?_set, bl_length]
    by_cases hi : i < N
    · rw [bl_get hi, bl_get hi]
      by_cases hk : k = i
      · subst hk; rw [if_pos rfl, if_pos h, if_pos (by omega)]
      · rw [if_neg hk]
        by_cases h2 : i < k
        · rw [if_pos h2, if_pos (by omega)]
        · rw [if_neg h2, if_neg (by omega)]
    · rw [List.getElem?_eq_none (by rw [bl_length]; omega), List.getElem?_eq_none (by rw [bl_length]; omega), if_neg (by omega)]
  rw [← e]
  unfold wflat
  rw [List.map_set]
theorem bl_zo (x : Int) (N k : Nat) : ∀ y ∈ bl x N k, y = 0 ∨ y = 1 := by
  intro y hy
  unfold bl at hy
  obtain ⟨i, _, rfl⟩ := List.mem_map.1 hy
  show (if i < k then bitI x i else 0) = 0 ∨ (if i < k then bitI x i else 0) = 1
  split
  · exact bitI_cases x i
  · exact .inl rfl
/-- The number of ones among the first k. -/
def sumB (x : Int) : Nat → Int
  | 0 => 0
  | k + 1 => sumB x k + bitI x k
theorem sumB_bounds (x : Int) : ∀ k, 0 ≤ sumB x k ∧ sumB x k ≤ k
  | 0 => by simp [sumB]
  | k + 1 => by
    have := sumB_bounds x k
    have := bitI_cases x k
    simp only [sumB]
    omega
theorem sumB_count (x : Int) (N : Nat) : countI (bl x N N) = sumB x N := by
  have : ∀ k, k ≤ N → countI ((List.range k).map fun i => if i < N then bitI x i else 0) = sumB x k := by
    intro k
    induction k with
    | zero => intro _; rfl
    | succ k ih =>
      intro hk
      rw [List.range_succ, List.map_append, countI_append, ih (by omega)]
      simp only [List.map_cons, List.map_nil, countI, sumB, if_pos (show k < N by omega)]
      have := bitI_cases x k
      omega
  exact this N (Nat.le_refl _)

set_option maxHeartbeats 1000000 in
theorem zeroOne_law (x p : Int) (w : World) (hx : IsU x) (hp0 : 0 ≤ p) (hp1 : p < 256) : Calls Try.prog 6 #[.int .u64 x, .int .u8 p] w (Yes w) := by
  obtain ⟨r, hr⟩ : ∃ r : Nat, p % 7 = (r : Int) := ⟨(p % 7).toNat, by omega⟩
  have hr7 : r < 7 := by omega
  have hw := pow_wrap (k := r) (by omega)
  obtain ⟨N, hN⟩ : ∃ N, 2 ^ r = N := ⟨_, rfl⟩
  have hN1 : 1 ≤ N := by rw [← hN]; exact Nat.two_pow_pos r
  have hN2 : N ≤ 64 := by rw [← hN]; exact Nat.pow_le_pow_right (n := 2) (by omega) (show r ≤ 6 by omega)
  rw [hN] at hw
  have HN := Lib.hid hN
  obtain ⟨i0, hi, hz0, hz1, hz2⟩ := info_parts infoU
  have hmk := fun w => run_make (P := Try.prog) w 36 38 i0 (.int .u64 0) Try.underlying36 hi hz0 .i64 .i64 (N : Int) (N : Int) (by omega) (Int.le_refl _) (by rw [hz2]; omega) (by omega)
  rw [hz1] at hmk
  simp only [Int.toNat_natCast, Nat.mul_one] at hmk
  have hZ1 : (madeCells (Value.int IntKind.u64 0).cells N).toList = wflat (bl x N 0) := by
    rw [bl_zero]
    unfold wflat
    rw [List.map_replicate]
    exact toList_madeCells_one (.int .u64 0) N
  have hZ2 : (madeCells (Value.int IntKind.u64 0).cells N).size = N := size_madeCells _ _
  generalize madeCells (Value.int IntKind.u64 0).cells N = Z at hmk hZ1 hZ2
  have HZ := Lib.hid (And.intro hZ1 hZ2)
  clear hZ1 hZ2
  have hand := Lib.hid (bitI_and hx)
  clear hN hi hz0 hz1 hz2 hx
  go_enter Try.func6, Try.ntmps6
  go_wp2
  obtain ⟨w1, hw1⟩ : ∃ w1, w.alloc (.cells Z 38) = w1 := ⟨_, rfl⟩
  have hr1 : w1.ownsRow w.heap.size 38 1 (.slice (some ⟨w.heap.size, 0, none⟩) N N) N (wflat (bl x N 0)) := by
    have := World.ownsRow_lit (base := w.heap.size) (size := 1) (e := 38) w Z N (Nat.le_refl _) (by unfold maxLen; omega) (by rw [HZ.out.2, Nat.mul_one])
    rw [hw1, HZ.out.1] at this
    exact this
  have hk1 : Keeps (fun _ => False) w w1 := by rw [← hw1]; exact (Keeps.refl _ w).alloc _
  rw [hw1]
  clear hw1 hmk
  go_loopw [7, 19] (fun o i wr => ∃ k : Nat, k ≤ N ∧ i = .int .i64 k ∧ o = .int .i64 (sumB x k) ∧ wr.ownsRow w.heap.size 38 1 (.slice (some ⟨w.heap.size, 0, none⟩) N N) N (wflat (bl x N k)) ∧ Keeps (fun _ => False) w wr) (fun _ i _ => N - (intOf i).toNat)
  case atStart => exact ⟨0, Nat.zero_le _, rfl, rfl, hr1, hk1⟩
  case round =>
    clear hr1 hk1
    obtain ⟨k, hk, rfl, rfl, hr2, hk2⟩ := hrel
    by_cases hlt : k < N
    · have f1 := hr2.frozenAt k
      have p0 := (hr2.cellAt k (by omega)).trans (wflat_get (bl_get hlt))
      have hst := (hr2.stored k (.int .u64 (bitI x k))).1
      rw [bl_set hlt] at hst
      have p1 := (hst.cellAt k (by omega)).trans (wflat_get (bl_get hlt))
      rw [if_pos (Nat.lt_succ_self k)] at p1
      have ha := hand.out k
      have hb := bitI_cases x k
      have hb0 : 0 ≤ bitI x k := by omega
      have hb1 : bitI x k ≤ 1 := by omega
      have hsb := sumB_bounds x k
      have hs0 := hsb.1
      have hs1 : sumB x k ≤ 64 := by omega
      have Hs := Lib.hid (show sumB x (k + 1) = sumB x k + bitI x k from rfl)
      have Hst := Lib.hid hst
      have Hk2 := Lib.hid hk2
      have hlt' : (k : Int) < (N : Int) := by omega
      have hk64 : (k : Int) ≤ 64 := by omega
      clear hst hr2 hk2 hb hsb
      go_wp2
      go_roundw
      case rel => exact ⟨k + 1, by omega, by go_num, by rw [Hs.out], Hst.out, Hk2.out.setCell ⟨w.heap.size, k, none⟩ (fun h => by simp at h) _⟩
      case measure => simp [intOf]; omega
    · obtain rfl : N = k := by omega
      have hv := (words_of_row (l := bl x N N) (by rw [bl_length]; exact hr2)).1
      have hW : Words (bl x N N) := fun y hy => by have := bl_zo x N N y hy; unfold IsU; omega
      have cc := apply_calls _ (bl x N N) r N (by omega) HN.out.symm (bl_length x N N) hW wr hv
      have HS := Lib.hid (show ∀ i, i < N → ((nl N r).foldl cx (bl x N N))[i]? = some (if i < N - (sumB x N).toNat then 0 else 1) from fun i hi => by
        have h1 : (bl x N N).length = 2 ^ r := by rw [bl_length, HN.out]
        have := zo_get (by have := nl_sorts h1; rw [HN.out] at this; exact this) (by have := nl_perm h1; rw [HN.out] at this; exact this) (bl_zo x N N) (i := i) (by rw [bl_length]; exact hi)
        rw [bl_length, sumB_count] at this
        exact this)
      have hlen : ((nl N r).foldl cx (bl x N N)).length = N := by rw [fold_length, bl_length]
      generalize (nl N r).foldl cx (bl x N N) = S at cc HS hlen
      have hsb := sumB_bounds x N
      have hs0 := hsb.1
      have hs1 := hsb.2
      clear hlt hand hr2 hv hW hsb
      go_wp2_with fail
      refine cc.mono ?_; clear cc; rintro e w2 ⟨v2, rfl, hr2, hk3⟩
      have hk4 := hk2.trans hk3 (fun _ _ h => h)
      have hv2 := (words_of_row (l := S) (by rw [hlen]; exact hr2)).1
      rcases hv2 with ⟨h0, _⟩ | ⟨hne, b, off, cap, rfl, hb, hc⟩
      · rw [h0] at hlen; simp at hlen; omega
      have Hc := Lib.hid hc
      have Hk4 := Lib.hid hk4
      rw [hlen]
      clear hr2 hk2 hk3 hk4 hc hne
      go_wp2_with fail
      go_loopw [45] (fun i wr => ∃ k : Nat, k ≤ N ∧ i = .int .i64 k ∧ wr = w2) (fun i _ => N - (intOf i).toNat)
      case atStart => exact ⟨0, Nat.zero_le _, rfl, rfl⟩
      case round =>
        obtain ⟨k, hk, rfl, rfl⟩ := hrel
        by_cases hlt : k < N
        · have hg := HS.out k hlt
          have hlt' : (k : Int) < (N : Int) := by omega
          have hk0 : (0 : Int) ≤ (k : Int) := by omega
          by_cases hz : k < N - (sumB x N).toNat
          · rw [if_pos hz] at hg
            have p0 := Hc.out k _ hg
            have hz' : (k : Int) < (N : Int) - sumB x N := by omega
            have hz2 : ¬ (N : Int) - sumB x N ≤ (k : Int) := by omega
            clear hg hz
            go_wp2
            go_roundw
            case rel => exact ⟨k + 1, by omega, by go_num, by first | rfl | trivial⟩
            case measure => simp [intOf]; omega
          · rw [if_neg hz] at hg
            have p0 := Hc.out k _ hg
            have hz' : (N : Int) - sumB x N ≤ (k : Int) := by omega
            clear hg hz
            go_wp2
            go_roundw
            case rel => exact ⟨k + 1, by omega, by go_num, by first | rfl | trivial⟩
            case measure => simp [intOf]; omega
        · obtain rfl : N = k := by omega
          clear hlt
          go_wp2_with fail
          refine (alive_calls _).mono ?_; rintro e w5 ⟨rfl, hk5⟩
          go_wp2
          go_ret
          exact ⟨rfl, Hk4.out.trans hk5 (fun _ _ h => h)⟩
end Go.Proofs.Ytacbnlkbbaiedaa.nw
