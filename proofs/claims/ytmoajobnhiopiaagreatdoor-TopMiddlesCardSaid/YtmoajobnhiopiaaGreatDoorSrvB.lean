/- Classify and counts at two fixed requests, and the reader of requests, by walking their text. -/
import Derived.Test.YtmoajobnhiopiaaGreatDoorSrvA
set_option linter.unusedSimpArgs false
set_option linter.unusedVariables false
namespace Go.Proofs.YtmoajobnhiopiaaGreatDoor.sv
open Go Go.RowKit Go.Shelf Go.Maps Go.Proofs.YtmoajobnhiopiaaGreatDoor.mk Go.Proofs.YtmoajobnhiopiaaGreatDoor.tp Go.Proofs.YtmoajobnhiopiaaGreatDoor.rg Go.Proofs.YtmoajobnhiopiaaGreatDoor.lm Go.Proofs.YtmoajobnhiopiaaGreatDoor.gm

set_option maxRecDepth 100000 in
set_option maxHeartbeats 2000000 in
theorem classify_nil (w : World) : Calls Tryz.prog 79 #[.slice none 0 0] w fun e w' => e = .returned (.int .i64 4) ∧ Keeps (fun _ => False) w w' := by
  go_enter Tryz.func79, Tryz.ntmps79
  go_wp2_with fail
  refine (parse_nil w).mono ?_; rintro e w1 ⟨rfl, hk1⟩
  go_wp2_with fail
  go_ret
  exact ⟨rfl, hk1.alloc _⟩
set_option maxRecDepth 100000 in
set_option maxHeartbeats 2000000 in
theorem classify_one (b off cap : Nat) (w : World) (hG : Gl w) (h : w.cell? ⟨b, off, none⟩ = some (.int .u8 1)) (hb : b < w.heap.size) : Calls Tryz.prog 79 #[.slice (some ⟨b, off, none⟩) 49 cap] w fun e w' => e = .returned (.int .i64 0) ∧ Keeps (fun _ => False) w w' := by
  have HG := Lib.hid hG
  have H := Lib.hid h
  have hw : IntKind.i64.wrap 49 = 49 := by decide
  clear hG h
  go_enter Tryz.func79, Tryz.ntmps79
  go_wp2_with fail
  refine (parse_one b off 49 cap (by omega) w H.out hb).mono ?_; rintro e w1 ⟨rfl, hk1⟩
  go_upto_region 2 with fail
  obtain ⟨w2, hw2⟩ : ∃ w2, w1.alloc (.cells #[.int .i64 1, .int .i64 0, .slice none 0 0, .int .i64 0] 27) = w2 := ⟨_, rfl⟩
  have hg := heap_alloc_new w1 (.cells #[.int .i64 1, .int .i64 0, .slice none 0 0, .int .i64 0] 27)
  have hk2 : Keeps (fun _ => False) w1 w2 := by rw [← hw2]; exact (Keeps.refl _ w1).alloc _
  rw [hw2] at hg ⊢
  clear hw2
  have c0 := cells_at hg 0
  have c1 := cells_at hg 1
  have c2 := cells_at hg 2
  have c3 := cells_at hg 3
  clear hg
  go_wp2_with fail
  refine (payload_one w2 (HG.out.kept (knil hk1 hk2))).mono ?_; rintro e w3 ⟨rfl, hk3⟩
  go_wp2_with fail
  go_ret
  exact ⟨rfl, knil (knil hk1 hk2) hk3⟩
set_option maxRecDepth 100000 in
theorem counts_one (w : World) : Calls Tryz.prog 84 #[.agg #[.int .i64 1, .int .i64 0, .slice none 0 0, .int .i64 0]] w fun e w' => e = .returned (.tuple #[.int .i64 3, .int .i64 0]) ∧ Keeps (fun _ => False) w w' := by
  go_enter Tryz.func84, Tryz.ntmps84
  go_wp2
  go_ret2
  exact ⟨rfl, (Keeps.refl _ w).alloc _⟩
/-! ### the reader -/
/-- The reader at block br has n bytes left, the first of them at ⟨b, off⟩. -/
def RdAt (W : World) (br b off n : Nat) : Prop := ∃ ao cap, W.heap[br]? = some (.cells #[.slice ao n cap] 144 (0, 0)) ∧ n ≤ cap ∧ (0 < n → ao = some ⟨b, off, none⟩)
set_option maxRecDepth 100000 in
set_option maxHeartbeats 1000000 in
theorem rbyte_calls (br b off n : Nat) (x : Int) (w : World) (h : RdAt w br b off (n + 1)) (hx : w.cell? ⟨b, off, none⟩ = some (.int .u8 x)) (hne : b ≠ br) :
    Calls Tryz.prog 141 #[.pointer (some ⟨br, 0, none⟩)] w fun e w' => e = .returned (.int .u8 x) ∧ RdAt w' br b (off + 1) n ∧ Keeps (fun i => i = br) w w' := by
  obtain ⟨ao, cap, hg, hle, hao⟩ := h
  have e := hao (by omega)
  subst e
  have c0 := cells_at hg 0
  have f0 := two_frozen hg 0
  have HG := Lib.hid hg
  have h1 : (1 : Int) ≤ (n : Int) + 1 := by omega
  have h2 : (0 : Int) < (n : Int) + 1 := by omega
  have h3 : (n : Int) + 1 ≤ (cap : Int) := by omega
  have h4 : (1 : Int) ≤ (cap : Int) := by omega
  have hlt : br < w.heap.size := (Array.getElem?_eq_some_iff.1 hg).1
  clear hg hao
  go_enter Tryz.func141, Tryz.ntmps141
  go_wp2
  · go_ret
    exact ⟨rfl, ⟨_, _, cells_put HG.out 0 _, by omega, fun h => by omega⟩, (Keeps.refl (fun i => i = br) w).setCell ⟨br, 0, none⟩ (fun _ => rfl) _⟩
  · go_ret
    exact ⟨rfl, ⟨_, _, cells_put HG.out 0 _, by omega, fun _ => rfl⟩, (Keeps.refl (fun i => i = br) w).setCell ⟨br, 0, none⟩ (fun _ => rfl) _⟩
/-- The word of the bytes u, the lowest one first. -/
def leW : List Int → Int
  | [] => 0
  | x :: l => x + 256 * leW l
def IsB (x : Int) : Prop := 0 ≤ x ∧ x < 256
theorem leW_snoc (l : List Int) (x : Int) : leW (l ++ [x]) = leW l + x * 256 ^ l.length := by
  induction l with
  | nil => simp [leW]
  | cons y l ih => simp only [List.cons_append, leW, ih, List.length_cons, Int.pow_succ]; grind
theorem leW_lt (l : List Int) (h : ∀ x ∈ l, IsB x) : 0 ≤ leW l ∧ leW l < 256 ^ l.length := by
  induction l with
  | nil => simp [leW]
  | cons y l ih =>
    have h1 := ih (fun x hx => h x (List.mem_cons_of_mem _ hx))
    have h2 := h y List.mem_cons_self
    unfold IsB at h2
    simp only [leW, List.length_cons, Int.pow_succ]
    omega
theorem or_disjoint (a y : Int) (k : Nat) (ha : 0 ≤ a) (hk : a < 2 ^ k) (hy : 0 ≤ y) (ha2 : a < 18446744073709551616) (hlt : y * 2 ^ k < 18446744073709551616) : bits .or .u64 a (y * 2 ^ k) = a + y * 2 ^ k := by
  obtain ⟨m, rfl⟩ := Int.eq_ofNat_of_zero_le ha
  obtain ⟨n, rfl⟩ := Int.eq_ofNat_of_zero_le hy
  have hmk : m < 2 ^ k := by exact_mod_cast hk
  have hnI : ((n : Int) * 2 ^ k) = ((n * 2 ^ k : Nat) : Int) := by push_cast; rfl
  have hnk : n * 2 ^ k < 18446744073709551616 := by rw [hnI] at hlt; omega
  have h1 := Nat.two_pow_add_eq_or_of_lt hmk n
  rw [bits_or]
  have e1 : bv (m : Int) = BitVec.ofNat 64 m := by unfold bv; simp
  have e2 : bv ((n : Int) * 2 ^ k) = BitVec.ofNat 64 (n * 2 ^ k) := by
    rw [hnI]; unfold bv; exact BitVec.ofInt_natCast 64 _
  have hm64 : m < 18446744073709551616 := by omega
  rw [e1, e2]
  unfold nu
  rw [BitVec.toNat_or, BitVec.toNat_ofNat, BitVec.toNat_ofNat, Nat.mod_eq_of_lt hm64, Nat.mod_eq_of_lt hnk, Nat.mul_comm n, Nat.or_comm, ← h1]
  push_cast
  grind
/-- Byte number k of a list. -/
def bt (u : List Int) (k : Nat) : Int := (u[k]?).getD 0
theorem bt_take (u : List Int) (k : Nat) (h : k < u.length) : u.take (k + 1) = u.take k ++ [bt u k] := by
  unfold bt
  rw [List.take_add_one, List.getElem?_eq_getElem h]
  rfl
theorem pow_256 (k : Nat) : (256 : Int) ^ k = 2 ^ (8 * k) := by
  rw [Int.pow_mul]
  rfl
theorem word_step (u : List Int) (hu : ∀ x ∈ u, IsB x) (hl : u.length = 8) (k : Nat) (hk : k < 8) : bits .or .u64 (leW (u.take k)) (bt u k * 2 ^ (8 * k)) = leW (u.take (k + 1)) ∧ IsB (bt u k) ∧ bt u k * 2 ^ (8 * k) < 18446744073709551616 ∧ 0 ≤ bt u k * 2 ^ (8 * k) := by
  have hkl : k < u.length := by omega
  have hb : IsB (bt u k) := by unfold bt; rw [List.getElem?_eq_getElem hkl]; exact hu _ (List.getElem_mem _)
  have ht : (u.take k).length = k := by rw [List.length_take]; omega
  have h1 := leW_lt (u.take k) (fun x hx => hu x (List.mem_of_mem_take hx))
  rw [ht, pow_256] at h1
  have hb' := hb
  unfold IsB at hb'
  have hp : (2 : Int) ^ (8 * k) ≤ 2 ^ 56 := by
    have h := Nat.pow_le_pow_right (show 0 < 2 by decide) (show 8 * k ≤ 56 by omega)
    have e1 : (2 : Int) ^ (8 * k) = ((2 ^ (8 * k) : Nat) : Int) := by push_cast; rfl
    have e2 : (2 : Int) ^ 56 = ((2 ^ 56 : Nat) : Int) := by decide
    rw [e1, e2]
    exact Int.ofNat_le.2 h
  have hp0 : (0 : Int) < 2 ^ (8 * k) := Int.pow_pos (by decide)
  have hm : bt u k * 2 ^ (8 * k) ≤ 255 * 2 ^ 56 := Int.mul_le_mul (by omega) hp (by omega) (by omega)
  have hm0 : 0 ≤ bt u k * 2 ^ (8 * k) := Int.mul_nonneg hb'.1 (by omega)
  have hn : (2 : Int) ^ 56 = 72057594037927936 := by decide
  rw [hn] at hp hm
  refine ⟨?_, hb, by omega, hm0⟩
  rw [or_disjoint _ _ _ h1.1 h1.2 hb'.1 (by omega) (by omega), bt_take u k hkl, leW_snoc, ht, pow_256]
set_option maxRecDepth 100000 in
set_option maxHeartbeats 4000000 in
theorem rword_calls (br b off n : Nat) (u : List Int) (hu : ∀ x ∈ u, IsB x) (hl : u.length = 8) (w : World) (h : RdAt w br b off (n + 8)) (hb : b < w.heap.size) (hne : b ≠ br) (hx : ∀ j, j < 8 → w.cell? ⟨b, off + j, none⟩ = some (.int .u8 (bt u j))) :
    Calls Tryz.prog 117 #[.pointer (some ⟨br, 0, none⟩)] w fun e w' => e = .returned (.int .u64 (leW u)) ∧ RdAt w' br b (off + 8) n ∧ Keeps (fun i => i = br) w w' := by
  have H := Lib.hid h
  have HX := Lib.hid hx
  have HU := Lib.hid hu
  clear h hx hu
  go_enter Tryz.func117, Tryz.ntmps117
  go_wp2
  go_loopw [3, 4, 5] (fun xv _ i wr => ∃ k : Nat, k ≤ 8 ∧ i = .int .i64 k ∧ xv = .int .u64 (leW (u.take k)) ∧ RowKit.Hid (RdAt wr br b (off + k) (n + (8 - k))) ∧ RowKit.Hid (Keeps (fun i => i = br) w wr)) (fun _ _ i _ => 8 - (intOf i).toNat)
  case atStart => exact ⟨0, by omega, rfl, rfl, H.out, Keeps.refl _ _⟩
  case round =>
    obtain ⟨k, hk, rfl, rfl, HR, HK⟩ := hrel
    by_cases hk8 : k < 8
    · have hkI : (k : Int) < 8 := by omega
      have hk0 : (0 : Int) ≤ (k : Int) := by omega
      have hws := word_step u HU.out hl k hk8
      have hr : RdAt wr br b (off + k) ((n + (8 - (k + 1))) + 1) := by have := HR.out; rwa [show n + (8 - k) = (n + (8 - (k + 1))) + 1 by omega] at this
      have hc := (HK.out.cell (p := ⟨b, off + k, none⟩) hb hne).trans (HX.out k hk8)
      have HWS := Lib.hid hws
      have Hr := Lib.hid hr
      have Hc := Lib.hid hc
      clear hws hr hc
      go_wp2_with fail
      refine (rbyte_calls br b (off + k) _ (bt u k) _ Hr.out Hc.out hne).mono ?_; rintro e w1 ⟨rfl, hr1, hk1⟩
      have hw1 : IntKind.u64.wrap (bt u k) = bt u k := by have := HWS.out.2.1; unfold IsB at this; rw [IntKind.wrap_u64]; omega
      have hw2 : IntKind.u64.wrap (bt u k * 2 ^ (8 * k)) = bt u k * 2 ^ (8 * k) := by have := HWS.out.2.2; rw [IntKind.wrap_u64]; omega
      have Hr1 := Lib.hid hr1
      have Hk1 := Lib.hid (HK.out.trans hk1 (fun _ _ h => h))
      clear hr1 hk1
      go_wp2
      go_roundw
      case rel => exact ⟨k + 1, by omega, by go_num, by rw [HWS.out.1], Hr1.out, Hk1.out⟩
      case measure => simp [intOf]; omega
    · obtain rfl : k = 8 := by omega
      go_wp2
      go_ret
      have ht : u.take 8 = u := List.take_of_length_le (by omega)
      exact ⟨by rw [ht]; rfl, HR.out, HK.out⟩
end Go.Proofs.YtmoajobnhiopiaaGreatDoor.sv
