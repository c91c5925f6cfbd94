/- Words and integers of a fixed width, by walking their text: package word, and of package limb is, Extend, From, Sign. -/
import Derived.Test.YtmoajobnhiopiaaGreatDoorLimb
import Derived.Test.YtmoajobnhiopiaaGreatDoorMaskW
import Derived.Test.YtmoajobnhiopiaaGreatDoorTape
import Derived.Test.YtmoajobnhiopiaaGreatDoorLate
import Derived.Shelf.Bits.Mul64
import Derived.Shelf.Spec.BitsCarry
import Derived.Laws.Bits64b
import Derived.Lib.Hide
set_option linter.unusedSimpArgs false
set_option linter.unusedVariables false
namespace Go.Proofs.YtmoajobnhiopiaaGreatDoor.lm
open Go Go.RowKit Go.Maps Go.Proofs.YtmoajobnhiopiaaGreatDoor.mk Go.Proofs.YtmoajobnhiopiaaGreatDoor.tp

/-! ### the words that the model adds and subtracts itself -/
theorem add64_run (x y c : Int) (hx : 0 ≤ x) (hy : 0 ≤ y) (hc0 : 0 ≤ c) (hc : c ≤ 1) (w : World) :
    (callFunc 134 #[.int .u64 x, .int .u64 y, .int .u64 c]).run Tryz.prog w = .ok (.value (.tuple #[.int .u64 ((x + y + c) % 18446744073709551616), .int .u64 ((x + y + c) / 18446744073709551616)])) w := by
  rw [run_callFunc_extern Tryz.func134 (by kernel_rfl) (by kernel_rfl) (by kernel_rfl) (e := add64Entry) (by kernel_rfl), run_add64 x y c hx hy hc0 hc]
  rfl
theorem sub64_run (x y c : Int) (hx : IsU x) (hy : IsU y) (hc0 : 0 ≤ c) (hc : c ≤ 1) (w : World) :
    (callFunc 158 #[.int .u64 x, .int .u64 y, .int .u64 c]).run Tryz.prog w = .ok (.value (.tuple #[.int .u64 ((x - y - c) % 18446744073709551616), .int .u64 (borI x y c)])) w := by
  unfold IsU at hx hy
  obtain ⟨a, rfl⟩ := Int.eq_ofNat_of_zero_le hx.1
  obtain ⟨b, rfl⟩ := Int.eq_ofNat_of_zero_le hy.1
  obtain ⟨k, rfl⟩ := Int.eq_ofNat_of_zero_le hc0
  rw [run_callFunc_extern Tryz.func158 (by kernel_rfl) (by kernel_rfl) (by kernel_rfl) (e := sub64Entry) (by kernel_rfl)]
  rw [run_sub64 a b k (by omega)]
  have e1 : (((a + 18446744073709551616 - b - k) % 18446744073709551616 : Nat) : Int) = ((a : Int) - b - k) % 18446744073709551616 := by omega
  have e2 : (((if a < b + k then 1 else 0 : Nat)) : Int) = borI a b k := by unfold borI; split <;> split <;> omega
  rw [e1, e2]
  rfl
set_option maxHeartbeats 1000000 in
theorem mul64_nat (x y : Nat) (hx : x < 18446744073709551616) (hy : y < 18446744073709551616) (w : World) :
    Calls Tryz.prog 135 #[.int .u64 x, .int .u64 y] w fun e w' => e = .returned (.tuple #[.int .u64 ((x * y / 18446744073709551616 : Nat) : Int), .int .u64 ((x * y % 18446744073709551616 : Nat) : Int)]) ∧ w' = w := by
  obtain ⟨bd, bt, bw, hhi⟩ := Lib.mul64_hi x y hx hy
  have ba := Lib.half_mul_le (a := x / 4294967296) (b := y / 4294967296) (by omega) (by omega)
  have bb := Lib.half_mul_le (a := x / 4294967296) (b := y % 4294967296) (by omega) (by omega)
  have bc := Lib.half_mul_le (a := x % 4294967296) (b := y / 4294967296) (by omega) (by omega)
  have ba' : x / 4294967296 * (y / 4294967296) < 18446744073709551616 := by omega
  have bb' : x / 4294967296 * (y % 4294967296) < 18446744073709551616 := by omega
  have bc' : x % 4294967296 * (y / 4294967296) < 18446744073709551616 := by omega
  have bh1 : x / 4294967296 * (y / 4294967296) + (x / 4294967296 * (y % 4294967296) + x % 4294967296 * (y % 4294967296) / 4294967296) / 4294967296 < 18446744073709551616 := by omega
  have bh : x / 4294967296 * (y / 4294967296) + (x / 4294967296 * (y % 4294967296) + x % 4294967296 * (y % 4294967296) / 4294967296) / 4294967296 + ((x / 4294967296 * (y % 4294967296) + x % 4294967296 * (y % 4294967296) / 4294967296) % 4294967296 + x % 4294967296 * (y / 4294967296)) / 4294967296 < 18446744073709551616 := by omega
  go_enter Tryz.func135, Tryz.ntmps135
  go_wp2
  simp only [Mul64.maskN x hx, Mul64.maskN y hy, Mul64.divN, Mul64.mulN, Mul64.addN, Mul64.wrapN _ bd, Mul64.wrapN _ bb', Mul64.wrapN _ bt, Mul64.maskN _ bt, Mul64.wrapN _ bc', Mul64.wrapN _ bw, Mul64.wrapN _ ba', Mul64.wrapN _ bh1, Mul64.wrapN _ bh, Mul64.wrapM (x * y)]
  rw [hhi]
  go_ret2
  exact ⟨rfl, rfl⟩
theorem mul64_calls (x y : Int) (hx : IsU x) (hy : IsU y) (w : World) :
    Calls Tryz.prog 135 #[.int .u64 x, .int .u64 y] w fun e w' => e = .returned (.tuple #[.int .u64 (x * y / 18446744073709551616), .int .u64 (x * y % 18446744073709551616)]) ∧ w' = w := by
  unfold IsU at hx hy
  obtain ⟨a, rfl⟩ := Int.eq_ofNat_of_zero_le hx.1
  obtain ⟨b, rfl⟩ := Int.eq_ofNat_of_zero_le hy.1
  refine (mul64_nat a b (by omega) (by omega) w).mono ?_
  rintro e w' ⟨rfl, rfl⟩
  refine ⟨?_, rfl⟩
  rw [← Int.natCast_mul]
  congr 4 <;> omega

/-! ### package word -/
theorem and_one {c : Int} (h0 : 0 ≤ c) (h1 : c ≤ 1) : bits .and .u64 c 1 = c := by
  rw [bit_num (by unfold IsU; omega)]
  omega
theorem wadd_calls (x y c : Int) (hx : IsU x) (hy : IsU y) (hc0 : 0 ≤ c) (hc : c ≤ 1) (w : World) :
    Calls Tryz.prog 104 #[.int .u64 x, .int .u64 y, .int .u64 c] w fun e w' => e = .returned (.tuple #[.int .u64 ((x + y + c) % 18446744073709551616), .int .u64 ((x + y + c) / 18446744073709551616)]) ∧ w' = w := by
  go_enter Tryz.func104, Tryz.ntmps104
  go_wp2_with (simp only [and_one hc0 hc, add64_run x y c hx.1 hy.1 hc0 hc])
  go_ret2
  exact ⟨rfl, rfl⟩
theorem wsub_calls (x y c : Int) (hx : IsU x) (hy : IsU y) (hc0 : 0 ≤ c) (hc : c ≤ 1) (w : World) :
    Calls Tryz.prog 131 #[.int .u64 x, .int .u64 y, .int .u64 c] w fun e w' => e = .returned (.tuple #[.int .u64 ((x - y - c) % 18446744073709551616), .int .u64 (borI x y c)]) ∧ w' = w := by
  go_enter Tryz.func131, Tryz.ntmps131
  go_wp2_with (simp only [and_one hc0 hc, sub64_run x y c hx hy hc0 hc])
  go_ret2
  exact ⟨rfl, rfl⟩
theorem add64_0 (x y : Int) (hx : 0 ≤ x) (hy : 0 ≤ y) (w : World) :
    (callFunc 134 #[.int .u64 x, .int .u64 y, .int .u64 0]).run Tryz.prog w = .ok (.value (.tuple #[.int .u64 ((x + y) % 18446744073709551616), .int .u64 ((x + y) / 18446744073709551616)])) w := by
  simpa using add64_run x y 0 hx hy (Int.le_refl 0) (by decide) w
theorem add64_c (x c : Int) (hx : 0 ≤ x) (hc0 : 0 ≤ c) (hc : c ≤ 1) (w : World) :
    (callFunc 134 #[.int .u64 x, .int .u64 0, .int .u64 c]).run Tryz.prog w = .ok (.value (.tuple #[.int .u64 ((x + c) % 18446744073709551616), .int .u64 ((x + c) / 18446744073709551616)])) w := by
  simpa using add64_run x 0 c hx (Int.le_refl 0) hc0 hc w
theorem muladd_num {a b c d : Int} (ha : IsU a) (hb : IsU b) (hc : IsU c) (hd : IsU d) :
    (a * b / 18446744073709551616 + (a * b % 18446744073709551616 + c) / 18446744073709551616) % 18446744073709551616 = (a * b + c) / 18446744073709551616 ∧ (a * b % 18446744073709551616 + c) % 18446744073709551616 = (a * b + c) % 18446744073709551616 ∧
    ((a * b + c) / 18446744073709551616 + ((a * b + c) % 18446744073709551616 + d) / 18446744073709551616) % 18446744073709551616 = (a * b + c + d) / 18446744073709551616 ∧ ((a * b + c) % 18446744073709551616 + d) % 18446744073709551616 = (a * b + c + d) % 18446744073709551616 ∧
    0 ≤ a * b ∧ a * b + c + d < 18446744073709551616 * 18446744073709551616 := by
  unfold IsU at *
  have h0 : 0 ≤ a * b := Int.mul_nonneg ha.1 hb.1
  have h1 : a * b ≤ 18446744073709551615 * 18446744073709551615 := Int.mul_le_mul (by omega) (by omega) hb.1 (by omega)
  generalize a * b = p at *
  omega
set_option maxHeartbeats 1000000 in
theorem muladd_calls (a b c d : Int) (ha : IsU a) (hb : IsU b) (hc : IsU c) (hd : IsU d) (w : World) :
    Calls Tryz.prog 106 #[.int .u64 a, .int .u64 b, .int .u64 c, .int .u64 d] w fun e w' => e = .returned (.tuple #[.int .u64 ((a * b + c + d) / 18446744073709551616), .int .u64 ((a * b + c + d) % 18446744073709551616)]) ∧ w' = w := by
  obtain ⟨h1, h2, h3, h4, h5, h6⟩ := muladd_num ha hb hc hd
  have ha' := ha
  unfold IsU at ha' hc hd
  have k1 : 0 ≤ a * b % 18446744073709551616 := by omega
  have k2 : 0 ≤ a * b / 18446744073709551616 := by omega
  have k3 : 0 ≤ (a * b % 18446744073709551616 + c) / 18446744073709551616 := by omega
  have k4 : (a * b % 18446744073709551616 + c) / 18446744073709551616 ≤ 1 := by omega
  have k5 : 0 ≤ (a * b + c) % 18446744073709551616 := by omega
  have k6 : 0 ≤ (a * b + c) / 18446744073709551616 := by omega
  have k7 : 0 ≤ ((a * b + c) % 18446744073709551616 + d) / 18446744073709551616 := by omega
  have k8 : ((a * b + c) % 18446744073709551616 + d) / 18446744073709551616 ≤ 1 := by omega
  go_enter Tryz.func106, Tryz.ntmps106
  go_wp2_with fail
  refine (mul64_calls a b ha hb _).mono ?_; rintro e w' ⟨rfl, rfl⟩
  go_wp2_with (first | simp only [add64_0 _ _ k1 hc.1, h2] | simp only [add64_c _ _ k2 k3 k4, h1] | simp only [add64_0 _ _ k5 hd.1, h4] | simp only [add64_c _ _ k6 k7 k8, h3])
  go_ret2
  exact ⟨rfl, rfl⟩
theorem fill_calls (a : Int) (ha : IsU a) (w : World) : Calls Tryz.prog 66 #[.int .u64 a] w fun e w' => e = .returned (.int .u64 (maskI (a / 9223372036854775808 % 2 == 1))) ∧ w' = w := by
  have h2 : IsU (a / 9223372036854775808) := by unfold IsU at *; omega
  go_enter Tryz.func66, Tryz.ntmps66
  go_wp2_with fail
  refine (of_calls _ h2 _).mono ?_; rintro e w' ⟨rfl, rfl⟩
  go_wp2
  go_ret
  exact ⟨rfl, rfl⟩

/-! ### integers in memory -/
/-- The slice v reads as the words l, at a block of its own or not. -/
def wAt (w : World) (v : Value) (l : List Int) : Prop :=
  ∃ b off cap, v = .slice (some ⟨b, off, none⟩) l.length cap ∧ b < w.heap.size ∧ ∀ (i : Nat) (x : Int), l[i]? = some x → w.cell? ⟨b, off + i, none⟩ = some (.int .u64 x)
theorem wAt.kept {w w' : World} {v : Value} {l : List Int} (h : wAt w v l) (hk : Keeps (fun _ => False) w w') : wAt w' v l := by
  obtain ⟨b, off, cap, hv, hb, hc⟩ := h
  exact ⟨b, off, cap, hv, Nat.lt_of_lt_of_le hb hk.size, fun i x hi => (hk.cell (p := ⟨b, off + i, none⟩) hb (fun h => h)).trans (hc i x hi)⟩
/-- The slice v reads as the integer x of n words. -/
def numAt (w : World) (v : Value) (n : Nat) (x : Int) : Prop := wAt w v (limbs n x)
theorem numAt.kept {w w' : World} {v : Value} {n : Nat} {x : Int} (h : numAt w v n x) (hk : Keeps (fun _ => False) w w') : numAt w' v n x := wAt.kept h hk
theorem numAt.cases {w : World} {v : Value} {n : Nat} {x : Int} (h : numAt w v n x) : ∃ b off cap, v = .slice (some ⟨b, off, none⟩) n cap ∧ b < w.heap.size ∧ ∀ i, i < n → w.cell? ⟨b, off + i, none⟩ = some (.int .u64 (lm x i)) := by
  obtain ⟨b, off, cap, hv, hb, hc⟩ := h
  rw [limbs_length] at hv
  exact ⟨b, off, cap, hv, hb, fun i hi => hc i _ (limbs_get n x i hi)⟩
theorem numAt.mk {w : World} {n : Nat} {x : Int} {b off cap : Nat} (hb : b < w.heap.size) (h : ∀ i, i < n → w.cell? ⟨b, off + i, none⟩ = some (.int .u64 (lm x i))) : numAt w (.slice (some ⟨b, off, none⟩) n cap) n x := by
  refine ⟨b, off, cap, by rw [limbs_length], hb, fun i u hu => ?_⟩
  have hlt : i < n := by
    have := (List.getElem?_eq_some_iff.1 hu).1
    rwa [limbs_length] at this
  rw [limbs_get n x i hlt] at hu
  injection hu with hu
  rw [← hu]
  exact h i hlt

/-! ### is -/
set_option maxHeartbeats 1000000 in
theorem is_any (vs : List Value) (b : Nat) (w : World) (hb : vs ≠ [] → b < w.heap.size) (hlen : vs.length ≤ 1000) (hc : ∀ (i : Nat) v, vs[i]? = some v → w.cell? ⟨b, i, none⟩ = some v) (hs : ∀ v ∈ vs, ∃ ao n c, v = .slice ao n c ∧ 1 ≤ n ∧ n ≤ 8) :
    Calls Tryz.prog 65 #[.slice (some ⟨b, 0, none⟩) vs.length vs.length] w fun e w' => e = .returned (.bool true) ∧ w' = w := by
  have HC := Lib.hid hc
  have HS := Lib.hid hs
  clear hc hs
  go_enter Tryz.func65, Tryz.ntmps65
  go_wp2
  go_loopw [4, 7] (fun _ i wr => ∃ k : Nat, k ≤ vs.length ∧ i = .int .i64 k ∧ wr = w) (fun _ i _ => vs.length - (intOf i).toNat)
  case atStart => exact ⟨0, Nat.zero_le _, rfl, rfl⟩
  case round =>
    obtain ⟨k, hk, rfl, rfl⟩ := hrel
    by_cases hlt : k < vs.length
    · obtain ⟨v, hv⟩ : ∃ v, vs[k]? = some v := ⟨vs[k], by simp [hlt]⟩
      obtain ⟨ao, n, c, rfl, h1, h2⟩ := HS.out v (List.mem_of_getElem? hv)
      have hcell := HC.out k _ hv
      have hlt' : (k : Int) < (vs.length : Int) := by omega
      have hk0 : (0 : Int) ≤ (k : Int) := by omega
      have h1' : ¬ (n : Int) < 1 := by omega
      have h2' : ¬ (n : Int) > 8 := by omega
      clear hv
      go_wp2
      go_roundw
      case rel => exact ⟨k + 1, by omega, by go_num, trivial⟩
      case measure => simp [intOf]; omega
    · obtain rfl : k = vs.length := by omega
      go_wp2
      go_ret
      exact ⟨rfl, rfl⟩
theorem is_one (v : Value) (w0 w : World) (h : ∃ ao n c, v = .slice ao n c ∧ 1 ≤ n ∧ n ≤ 8) (hw : w = w0.alloc (.cells #[v] 73)) :
    Calls Tryz.prog 65 #[.slice (some ⟨w0.heap.size, 0, none⟩) 1 1] w fun e w' => e = .returned (.bool true) ∧ w' = w := by
  subst hw
  refine is_any [v] w0.heap.size _ (fun _ => by simp) (by simp) (fun i u hu => ?_) (fun u hu => ?_)
  · have := cell_of_row _ _ i _ _ _ (heap_alloc_new w0 (.cells #[v] 73))
    rw [this]
    simpa using hu
  · rw [List.mem_singleton] at hu; subst hu; exact h
theorem is_two (v u : Value) (w0 w : World) (h : ∃ ao n c, v = .slice ao n c ∧ 1 ≤ n ∧ n ≤ 8) (h' : ∃ ao n c, u = .slice ao n c ∧ 1 ≤ n ∧ n ≤ 8) (hw : w = w0.alloc (.cells #[v, u] 73)) :
    Calls Tryz.prog 65 #[.slice (some ⟨w0.heap.size, 0, none⟩) 2 2] w fun e w' => e = .returned (.bool true) ∧ w' = w := by
  subst hw
  refine is_any [v, u] w0.heap.size _ (fun _ => by simp) (by simp) (fun i x hx => ?_) (fun x hx => ?_)
  · have := cell_of_row _ _ i _ _ _ (heap_alloc_new w0 (.cells #[v, u] 73))
    rw [this]
    simpa using hx
  · simp at hx
    rcases hx with rfl | rfl
    · exact h
    · exact h'
/-! ### Clone -/
theorem infoW : (Tryz.prog.info? 43).map (fun i => (i.zero, i.size, i.bytes)) = some (some (.int .u64 0), 1, 8) := by kernel_rfl
def wfl (l : List Int) : List Value := l.map (Value.int .u64)
theorem wfl_length (l : List Int) : (wfl l).length = l.length := by unfold wfl; simp
theorem wfl_one (l : List Int) : ∀ u ∈ wfl l, u.oneCell' = true := by
  intro u hu
  unfold wfl at hu
  obtain ⟨x, _, rfl⟩ := List.mem_map.1 hu
  rfl
theorem wfl_get {l : List Int} {i : Nat} {x : Int} (h : l[i]? = some x) : (wfl l)[i]? = some (.int .u64 x) := by unfold wfl; rw [List.getElem?_map, h]; rfl
/-- What an owned row of words reads as. -/
theorem wAt_row {w : World} {base : Nat} {v : Value} {l : List Int} (h : w.ownsRow base 43 1 v l.length (wfl l)) (hne : l ≠ []) : wAt w v l ∧ ∃ g cap, v = .slice (some ⟨g, 0, none⟩) l.length cap ∧ l.length ≤ cap ∧ cap ≤ maxLen := by
  rcases h.2 with ⟨_, h0⟩ | ⟨g, cap, cur, rfl, hb, hg, hle, hcap, hcur, htake⟩
  · exact absurd (List.eq_nil_of_length_eq_zero h0) hne
  · refine ⟨⟨g, 0, cap, rfl, (Array.getElem?_eq_some_iff.1 hg).1, fun i x he => ?_⟩, g, cap, rfl, hle, hcap⟩
    have hi : i < l.length := (List.getElem?_eq_some_iff.1 he).1
    have hu := wfl_get he
    rw [cell_of_row w g (0 + i) cur _ (0, 0) hg, Nat.zero_add]
    rw [← htake, List.getElem?_take, if_pos (by omega)] at hu
    simpa using hu
set_option maxRecDepth 100000 in
set_option maxHeartbeats 1000000 in
theorem wclone_calls (v : Value) (l : List Int) (hlen : l.length ≤ 1000) (w : World) (h : wAt w v l) :
    Calls Tryz.prog 97 #[v] w fun e w' => ∃ v', e = .returned v' ∧ w'.ownsRow w.heap.size 43 1 v' l.length (wfl l) ∧ Keeps (fun _ => False) w w' := by
  obtain ⟨b, off, cap, rfl, hb, hc⟩ := h
  have hnil : ∀ w, (binOp .eql 73 (.slice (some ⟨b, off, none⟩) l.length cap) (.slice none 0 0)).run Tryz.prog w = .ok (.bool false) w := fun w => Lib.run_eql_slice_nil w 73 43 (some ⟨b, off, none⟩) l.length cap 0 0 Tryz.underlying73
  obtain ⟨i0, hi, hz0, hz1, hz2⟩ := info_parts infoW
  have HC := Lib.hid hc
  clear hc
  have hrow := World.ownsRow_made w (base := w.heap.size) (e := 43) (size := 1) #[] 0 (Nat.le_refl _) (by simp) rfl
  go_enter Tryz.func97, Tryz.ntmps97
  go_wp2_with (at_builtin; refine wpList_append_own _ rfl _ _ 73 rfl w.heap.size 43 i0 (.int .u64 0) 1 8 Tryz.underlying73 hi hz0 hz1 hz2 rfl (by decide) _ _ _ rfl hrow ⟨b, off, none⟩ l.length cap (wfl l) rfl (by rw [wfl_length, Nat.mul_one]) ?c1 (wfl_one l) ?c3 ?c4 ?c5 ?_)
  case c1 =>
    intro j u hj
    unfold wfl at hj
    rw [List.getElem?_map] at hj
    cases hx : l[j]? with
    | none => rw [hx] at hj; cases hj
    | some x =>
      rw [hx] at hj
      injection hj with hj
      subst hj
      have hadd : (⟨b, off, none⟩ : Addr).add j = ⟨b, off + j, none⟩ := by unfold Addr.add; split <;> simp_all
      rw [hadd, World.cell?_of_block (w := w) (Below.heap_alloc w _ _ hb)]
      exact HC.out j x hx
  case c3 => unfold maxLen; omega
  case c4 => omega
  case c5 => simp
  intro v' w1 hown1 hgrow1 _
  go_wp2
  go_ret
  exact ⟨v', rfl, by simpa using hown1, ((Keeps.refl _ w).alloc _).grown hgrow1 (fun k e hk => by cases e; exact absurd hk (Nat.lt_irrefl _))⟩
/-! ### Extend -/
set_option maxRecDepth 100000 in
set_option maxHeartbeats 4000000 in
theorem extend_calls (v : Value) (m n : Nat) (x : Int) (hm : m < 8) (hn : 1 ≤ n) (hn8 : n ≤ 8) (hfit : n ≤ m + 1 ∨ Fit (m + 1) x) (w : World) (h : numAt w v (m + 1) x) :
    Calls Tryz.prog 67 #[v, .int .i64 n] w fun e w' => ∃ v', e = .returned v' ∧ numAt w' v' n x ∧ Keeps (fun _ => False) w w' := by
  obtain ⟨i0, hi, hz0, hz1, hz2⟩ := info_parts infoW
  have HW := Lib.hid h
  obtain ⟨b, off, cap, rfl, hb, hc⟩ := h.cases
  have hka : Keeps (fun _ => False) w (w.alloc (.cells #[.slice (some ⟨b, off, none⟩) (m + 1) cap] 73)) := (Keeps.refl _ w).alloc _
  have hn1 : ¬ (n : Int) < 1 := by omega
  have hn2 : ¬ (n : Int) > 8 := by omega
  have HC := Lib.hid (hc m (by omega))
  have HF := Lib.hid hfit
  clear h hc hfit
  go_enter Tryz.func67, Tryz.ntmps67
  go_wp2_with fail
  refine (is_one _ w _ ⟨_, _, _, rfl, by omega, by omega⟩ rfl).mono ?_; rintro e w1 ⟨rfl, rfl⟩
  go_wp2_with fail
  refine (wclone_calls _ (limbs (m + 1) x) (by rw [limbs_length]; omega) _ (HW.out.kept hka)).mono ?_; rintro e w2 ⟨v2, rfl, hr2, hk2⟩
  rw [limbs_length] at hr2
  have hk02 := hka.trans hk2 (fun _ _ h => h)
  have hcell := (hk02.cell (p := ⟨b, off + m, none⟩) hb (fun h => h)).trans HC.out
  have hbase : w.heap.size ≤ (w.alloc (.cells #[.slice (some ⟨b, off, none⟩) (m + 1) cap] 73)).heap.size := hka.size
  have hm0 : (0 : Int) ≤ (m : Int) := by omega
  obtain ⟨B, hB⟩ : ∃ B, B = (w.alloc (.cells #[.slice (some ⟨b, off, none⟩) (m + 1) cap] 73)).heap.size := ⟨_, rfl⟩
  rw [← hB] at hr2 hbase
  have hB2 : B ≤ w2.heap.size := hB ▸ hk2.size
  clear hka hk2 hB
  go_wp2_with fail
  refine (fill_calls _ (lm_isU x m) _).mono ?_; rintro e w3 ⟨rfl, rfl⟩
  obtain ⟨f, hf⟩ : ∃ f, f = maskI (lm x m / 9223372036854775808 % 2 == 1) := ⟨_, rfl⟩
  rw [← hf]
  have hff : Fit (m + 1) x → ∀ i, m + 1 ≤ i → lm x i = f := fun hF i hi => by rw [hf, fill_num hF]; exact fill_lm hF hi
  have HFF := Lib.hid hff
  clear hcell hf hff HC
  go_wp2_with fail
  go_loopw [5] (fun v' wr => ∃ k : Nat, m + 1 ≤ k ∧ k ≤ max (m + 1) n ∧ wr.ownsRow B 43 1 v' k (wfl (limbs k x)) ∧ Keeps (fun _ => False) w wr ∧ B ≤ wr.heap.size) (fun v' _ => max (m + 1) n - (match v' with | .slice _ k _ => k | _ => 0))
  case atStart => exact ⟨m + 1, Nat.le_refl _, by omega, hr2, hk02, hB2⟩
  case round =>
    obtain ⟨k, hk1, hk2, hrow, hK, hBr⟩ := hrel
    obtain ⟨⟨b3, o3, c3, he3, hb3, hc3⟩, g, cap3, he4, hle4, hcm4⟩ := wAt_row (l := limbs k x) (by rw [limbs_length]; exact hrow) (fun h => by have := congrArg List.length h; rw [limbs_length] at this; simp at this; omega)
    rw [limbs_length] at he4 hle4
    subst he4
    clear he3 hb3 hc3
    by_cases hlt : k < n
    · have hlt' : (k : Int) < (n : Int) := by omega
      have hmn : ¬ n ≤ m + 1 := by omega
      have hfk : lm x k = f := HFF.out (HF.out.resolve_left hmn) k hk1
      have Hfk := Lib.hid hfk
      clear hfk
      go_wp2_with (at_builtin; refine wpList_append_own _ rfl _ _ 73 rfl B 43 i0 (.int .u64 0) 1 8 Tryz.underlying73 hi hz0 hz1 hz2 rfl (by decide) _ _ _ rfl (hrow.alloc _) ⟨wr.heap.size, 0, none⟩ 1 1 [.int .u64 f] rfl rfl ?c1 ?c2 ?c3 ?c4 ?c5 ?_)
      case c1 =>
        intro j u hj
        have hadd : (⟨wr.heap.size, 0, none⟩ : Addr).add j = ⟨wr.heap.size, 0 + j, none⟩ := by unfold Addr.add; split <;> simp_all
        rw [hadd, cell_of_row _ _ _ _ _ _ (heap_alloc_new wr _), Nat.zero_add]
        simpa using hj
      case c2 => intro u hu; simp at hu; rw [hu]; rfl
      case c3 => unfold maxLen; omega
      case c4 => omega
      case c5 => simp; omega
      intro v2 w2 hown2 hgrow2 _
      have hK2 : Keeps (fun _ => False) w w2 := (hK.alloc _).grown hgrow2 (fun g hg hlt => by have := hrow.lt g hg; omega)
      have hsz : wr.heap.size ≤ w2.heap.size := Nat.le_trans (by simp) hgrow2.size
      have hown3 : w2.ownsRow B 43 1 v2 (k + 1) (wfl (limbs (k + 1) x)) := by
        rw [← limbs_snoc, Hfk.out]
        unfold wfl
        rw [List.map_append]
        exact hown2
      have hsh : ∃ ao c, v2 = .slice ao (k + 1) c := by
        rcases hown3.2 with ⟨_, h0⟩ | ⟨g, c, cur, h, _⟩
        · omega
        · exact ⟨_, _, h⟩
      clear hown2 hgrow2
      go_wp2
      go_roundw
      case rel => exact ⟨k + 1, by omega, by omega, hown3, hK2, by omega⟩
      case measure =>
        obtain ⟨ao, c, rfl⟩ := hsh
        simp
        omega
    · have hkn : ¬ (k : Int) < (n : Int) := by omega
      have hn0 : (0 : Int) ≤ (n : Int) := by omega
      have hnc : (n : Int) ≤ (cap3 : Int) := by omega
      have hnn : ¬ cap3 = 0 := by omega
      have hHr := Lib.hid hrow
      have HK := Lib.hid hK
      clear hrow hK
      go_wp2
      go_ret
      refine ⟨_, rfl, ?_, HK.out⟩
      obtain ⟨⟨b3, o3, c3, he3, hb3, hc3⟩, _⟩ := wAt_row (l := limbs k x) (by rw [limbs_length]; exact hHr.out) (fun h => by have := congrArg List.length h; rw [limbs_length] at this; simp at this; omega)
      injection he3 with he3 _ _
      injection he3 with he3
      injection he3 with e1 e2 _
      subst e1
      subst e2
      exact numAt.mk hb3 (fun i hi => hc3 i _ (limbs_get k x i (by omega)))
end Go.Proofs.YtmoajobnhiopiaaGreatDoor.lm
