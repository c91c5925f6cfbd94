/- The law NetworkRounds. -/
import Derived.Test.YtacbnlkbbaiedaaNetK
namespace Go.Proofs.Ytacbnlkbbaiedaa.nw
open Go Go.RowKit Go.Shelf Go.Proofs.Ytacbnlkbbaiedaa.tp Go.Proofs.Ytacbnlkbbaiedaa.rg Go.Proofs.Ytacbnlkbbaiedaa.ar Go.Proofs.Ytacbnlkbbaiedaa.mk

/-! ### a round names each index once -/
def Apart (d c : Nat × Nat) : Prop := d.1 ≠ c.1 ∧ d.1 ≠ c.2 ∧ d.2 ≠ c.1 ∧ d.2 ≠ c.2
/-- A block of h comparators of indices below N, no index twice. -/
def Good (N h : Nat) (C : List (Nat × Nat)) : Prop := C.length = h ∧ (∀ c ∈ C, c.1 < N ∧ c.2 < N ∧ c.1 ≠ c.2) ∧ C.Pairwise Apart
def Blocks (N h : Nat) : Nat → List (Nat × Nat) → Prop
  | 0, L => L = []
  | m + 1, L => Good N h (L.take h) ∧ Blocks N h m (L.drop h)
theorem blocks_cons {N h m : Nat} {C L : List (Nat × Nat)} (hC : Good N h C) (hL : Blocks N h m L) : Blocks N h (m + 1) (C ++ L) := by
  refine ⟨?_, ?_⟩
  · rw [List.take_left' hC.1]; exact hC
  · rw [List.drop_left' hC.1]; exact hL
theorem blocks_append {N h : Nat} {L' : List (Nat × Nat)} {m' : Nat} (hL' : Blocks N h m' L') : ∀ (m : Nat) (L : List (Nat × Nat)), Blocks N h m L → Blocks N h (m + m') (L ++ L')
  | 0, L, hL => by rw [show L = [] from hL, List.nil_append, Nat.zero_add]; exact hL'
  | m + 1, L, ⟨h1, h2⟩ => by
    have ih := blocks_append hL' m _ h2
    rw [show m + 1 + m' = m + m' + 1 by omega]
    have e : L ++ L' = L.take h ++ (L.drop h ++ L') := by rw [← List.append_assoc, List.take_append_drop]
    rw [e]
    exact blocks_cons h1 ih
theorem blocks_length {N h : Nat} : ∀ (m : Nat) (L : List (Nat × Nat)), Blocks N h m L → L.length = m * h
  | 0, L, hL => by rw [show L = [] from hL]; simp
  | m + 1, L, ⟨h1, h2⟩ => by
    have := blocks_length m _ h2
    have h3 := h1.1
    rw [List.length_drop] at this
    rw [List.length_take] at h3
    rw [Nat.add_mul, Nat.one_mul]
    omega
theorem half_table : (List.range 9).all (fun r => (List.range r).all fun q => ((List.range (2 ^ r)).filter fun i => !bt i (2 ^ q)).length * 2 == 2 ^ r) = true := by decide +kernel
theorem comps_half {k q r : Nat} (hr : r ≤ 8) (hq : q < r) : (comps k (2 ^ q) (2 ^ r)).length = 2 ^ r / 2 := by
  have h1 := List.all_eq_true.1 half_table r (by rw [List.mem_range]; omega)
  have h2 := List.all_eq_true.1 h1 q (by rw [List.mem_range]; exact hq)
  have h3 := beq_iff_eq.1 h2
  have : ∀ M : List Nat, (M.flatMap fun i => (if bt i (2 ^ q) then [] else [cmpr k (2 ^ q) i] : List (Nat × Nat))).length = (M.filter fun i => !bt i (2 ^ q)).length := by
    intro M
    induction M with
    | nil => rfl
    | cons i M ih =>
      rw [List.flatMap_cons, List.length_append, ih, List.filter_cons]
      by_cases hb : bt i (2 ^ q) = true
      · simp [hb]
      · simp [hb]; omega
  unfold comps
  rw [this]
  omega
theorem comps_good {k q r : Nat} (hr : r ≤ 8) (hq : q < r) : Good (2 ^ r) (2 ^ r / 2) (comps k (2 ^ q) (2 ^ r)) := by
  have hd : 2 ^ (q + 1) ∣ 2 ^ r := Nat.pow_dvd_pow 2 hq
  refine ⟨comps_half hr hq, fun c hc => comps_mem hd hc, ?_⟩
  unfold comps
  rw [List.pairwise_flatMap]
  refine ⟨fun i _ => ?_, ?_⟩
  · by_cases hb : bt i (2 ^ q) = true
    · rw [if_pos hb]; exact List.Pairwise.nil
    · rw [if_neg hb]; exact List.pairwise_singleton _ _
  · refine List.pairwise_lt_range.imp ?_
    intro a b hab x hx y hy
    by_cases ha : bt a (2 ^ q) = true
    · rw [if_pos ha] at hx; simp at hx
    · by_cases hb : bt b (2 ^ q) = true
      · rw [if_pos hb] at hy; simp at hy
      · rw [if_neg ha, List.mem_singleton] at hx
        rw [if_neg hb, List.mem_singleton] at hy
        have a1 := bt_add (show bt a (2 ^ q) = false by simpa using ha)
        have b1 := bt_add (show bt b (2 ^ q) = false by simpa using hb)
        have n1 : a ≠ b + 2 ^ q := fun h => by rw [h] at ha; exact ha b1
        have n2 : a + 2 ^ q ≠ b := fun h => by rw [← h] at hb; exact hb a1
        rw [hx, hy]
        unfold cmpr Apart
        split <;> split <;> exact ⟨by simp only; omega, by simp only; omega, by simp only; omega, by simp only; omega⟩
theorem rl_blocks {k r : Nat} (hr : r ≤ 8) : ∀ q, q ≤ r → Blocks (2 ^ r) (2 ^ r / 2) q (rl k (2 ^ r) q)
  | 0, _ => rfl
  | q + 1, h => blocks_cons (comps_good hr h) (rl_blocks hr q (by omega))
theorem tri_step (p : Nat) : p * (p + 1) / 2 + (p + 1) = (p + 1) * (p + 1 + 1) / 2 := by
  have : (p + 1) * (p + 1 + 1) = p * (p + 1) + 2 * (p + 1) := by rw [Nat.mul_comm, ← Nat.add_mul]
  omega
theorem nl_blocks {r : Nat} (hr : r ≤ 8) : ∀ p, p ≤ r → Blocks (2 ^ r) (2 ^ r / 2) (p * (p + 1) / 2) (nl (2 ^ r) p)
  | 0, _ => rfl
  | p + 1, h => by
    have := blocks_append (rl_blocks (k := 2 ^ (p + 1)) hr (p + 1) h) _ _ (nl_blocks hr p (by omega))
    rw [tri_step] at this
    exact this

/-! ### marking -/
def markK (N : Nat) (C : List (Nat × Nat)) (t : Nat) : List Bool := (C.take t).foldl (fun s d => (s.set d.1 true).set d.2 true) (List.replicate N false)
theorem markK_succ {N : Nat} {C : List (Nat × Nat)} {t : Nat} {c : Nat × Nat} (h : C[t]? = some c) : markK N C (t + 1) = ((markK N C t).set c.1 true).set c.2 true := by
  unfold markK
  rw [List.take_add_one, h, List.foldl_append]
  rfl
theorem markK_length (N : Nat) (C : List (Nat × Nat)) (t : Nat) : (markK N C t).length = N := by
  unfold markK
  have : ∀ (M : List (Nat × Nat)) (s : List Bool), (M.foldl (fun s d => (s.set d.1 true).set d.2 true) s).length = s.length := by
    intro M
    induction M with
    | nil => intro s; rfl
    | cons c M ih => intro s; rw [List.foldl_cons, ih]; simp
  rw [this, List.length_replicate]
theorem mark_free : ∀ (M : List (Nat × Nat)) (s : List Bool) (x : Nat), (∀ d ∈ M, d.1 ≠ x ∧ d.2 ≠ x) → (M.foldl (fun s d => (s.set d.1 true).set d.2 true) s)[x]? = s[x]?
  | [], s, x, _ => rfl
  | c :: M, s, x, h => by
    rw [List.foldl_cons, mark_free M _ x (fun d hd => h d (by simp [hd]))]
    have := h c (by simp)
    rw [List.getElem?_set, if_neg this.2, List.getElem?_set, if_neg this.1]
theorem markK_false {N h t : Nat} {C : List (Nat × Nat)} {c : Nat × Nat} (hC : Good N h C) (hc : C[t]? = some c) : (markK N C t)[c.1]? = some false ∧ (markK N C t)[c.2]? = some false := by
  obtain ⟨_, h2, h3⟩ := hC
  have hm := h2 c (List.mem_of_getElem? hc)
  have hap : ∀ d ∈ C.take t, Apart d c := by
    intro d hd
    obtain ⟨j, hj⟩ := List.mem_iff_getElem?.1 hd
    rw [List.getElem?_take] at hj
    by_cases hjt : j < t
    · rw [if_pos hjt] at hj
      obtain ⟨hl1, e1⟩ := List.getElem?_eq_some_iff.1 hj
      obtain ⟨hl2, e2⟩ := List.getElem?_eq_some_iff.1 hc
      have := (List.pairwise_iff_getElem.1 h3) j t hl1 hl2 hjt
      rw [e1, e2] at this
      exact this
    · rw [if_neg hjt] at hj; cases hj
  unfold markK
  refine ⟨?_, ?_⟩
  · rw [mark_free _ _ _ (fun d hd => ⟨(hap d hd).1, (hap d hd).2.2.1⟩), List.getElem?_replicate, if_pos hm.1]
  · rw [mark_free _ _ _ (fun d hd => ⟨(hap d hd).2.1, (hap d hd).2.2.2⟩), List.getElem?_replicate, if_pos hm.2.1]
def bflat (s : List Bool) : List Value := s.map Value.bool
theorem bflat_get {s : List Bool} {i : Nat} {b : Bool} (h : s[i]? = some b) : (bflat s)[i]? = some (.bool b) := by unfold bflat; rw [List.getElem?_map, h]; rfl
theorem bflat_set (s : List Bool) (i : Nat) (b : Bool) : (bflat s).set i (.bool b) = bflat (s.set i b) := by unfold bflat; rw [List.map_set]
theorem net_rounds {r : Nat} (hr : r ≤ 8) : Blocks (2 ^ r) (2 ^ r / 2) (r * (r + 1) / 2) (nl (2 ^ r) r) := nl_blocks hr r (Nat.le_refl _)
def lenOf : Value → Nat
  | .slice _ n _ => n
  | _ => 0
theorem infoB : (Try.prog.info? 4).map (fun i => (i.zero, i.size, i.bytes)) = some (some (.bool false), 1, 1) := by kernel_rfl
set_option maxHeartbeats 2000000 in
set_option maxRecDepth 100000 in
theorem rounds_law (p : Int) (w : World) (hp0 : 0 ≤ p) (hp1 : p < 256) : Calls Try.prog 7 #[.int .u8 p] w (Yes w) := by
  obtain ⟨r, hr⟩ : ∃ r : Nat, p % 9 = (r : Int) := ⟨(p % 9).toNat, by omega⟩
  have hr9 : r < 9 := by omega
  have hw := pow_wrap (k := r) (by omega)
  have hBl := net_rounds (r := r) (by omega)
  have hlen := blocks_length _ _ hBl
  have hcc := fun w => rounds_calls r (by omega) w
  obtain ⟨N, hN⟩ : ∃ N, 2 ^ r = N := ⟨_, rfl⟩
  have hN1 : 1 ≤ N := by rw [← hN]; exact Nat.two_pow_pos r
  have hN2 : N ≤ 256 := by rw [← hN]; exact Nat.pow_le_pow_right (n := 2) (by omega) (show r ≤ 8 by omega)
  have hN3 : N = 1 ∨ 1 ≤ N / 2 := by
    rcases Nat.eq_zero_or_pos r with h | h
    · subst h; exact .inl hN.symm
    · have : 2 ^ 1 ≤ 2 ^ r := Nat.pow_le_pow_right (by omega) h
      rw [hN] at this
      right; omega
  have hrr : r * (r + 1) ≤ 8 * 9 := Nat.mul_le_mul (by omega) (by omega)
  have e1 : ((r : Int) * ((r : Int) + 1)) = ((r * (r + 1) : Nat) : Int) := by rw [Int.natCast_mul]; rfl
  have hrr' : (r : Int) * ((r : Int) + 1) ≤ 72 := by rw [e1]; omega
  have hrr0 : 0 ≤ (r : Int) * ((r : Int) + 1) := by rw [e1]; omega
  have e2 : ((r : Int) * ((r : Int) + 1)) / 2 = ((r * (r + 1) / 2 : Nat) : Int) := by rw [e1]; omega
  rw [hN] at hw hBl hlen hcc
  obtain ⟨X, hX⟩ : ∃ X, r * (r + 1) / 2 = X := ⟨_, rfl⟩
  have hXb : X ≤ 36 := by omega
  rw [hX] at hBl hlen hcc e2
  have hL : IsNet (N : Int) (nl N r) := .inl ⟨r, N, by omega, hN.symm, rfl, rfl⟩
  have HB := Lib.hid (net_bound hL)
  have hcomp := fun w => comparators_calls (N : Int) _ hL w
  generalize nl N r = L at hBl hlen hcomp HB
  obtain ⟨h, hh⟩ : ∃ h, N / 2 = h := ⟨_, rfl⟩
  rw [hh] at hBl hlen hN3
  have hh' : (N : Int) / 2 = (h : Int) := by omega
  have hhb : h ≤ 128 := by omega
  have e3 : (X : Int) * (h : Int) = (L.length : Int) := by rw [hlen, Int.natCast_mul]
  have HL := Lib.hid hBl
  have hlb : L.length ≤ 589824 := HB.out
  have hlb' : (L.length : Int) ≤ 589824 := by omega
  have HN := Lib.hid hN
  have Hh := Lib.hid hh
  have Hlen := Lib.hid hlen
  have hNI : (N : Int) ≤ 256 := by omega
  clear hN hBl hL e1 hX hrr hlen hh
  obtain ⟨i0, hi, hz0, hz1, hz2⟩ := info_parts infoB
  have hmk := fun w => run_make (P := Try.prog) w 42 4 i0 (.bool false) Try.underlying42 hi hz0 .i64 .i64 (N : Int) (N : Int) (by omega) (Int.le_refl _) (by rw [hz2]; omega) (by omega)
  rw [hz1] at hmk
  simp only [Int.toNat_natCast, Nat.mul_one] at hmk
  have hZ1 : (madeCells (Value.bool false).cells N).toList = bflat (List.replicate N false) := by
    unfold bflat
    rw [List.map_replicate]
    exact toList_madeCells_one (.bool false) N
  have hZ2 : (madeCells (Value.bool false).cells N).size = N := size_madeCells _ _
  generalize madeCells (Value.bool false).cells N = Z at hmk hZ1 hZ2
  have HZ := Lib.hid (And.intro hZ1 hZ2)
  clear hZ1 hZ2 hi hz0 hz1 hz2
  go_enter Try.func7, Try.ntmps7
  go_wp2_with fail
  refine (hcomp w).mono ?_; clear hcomp; rintro e w1 ⟨v1, rfl, hr1, hk1⟩
  obtain ⟨ao, cap, rfl⟩ : ∃ ao cap, v1 = .slice ao L.length cap := by
    rcases hr1.2 with ⟨rfl, h0⟩ | ⟨g, c, cur, rfl, _⟩
    · exact ⟨none, 0, by rw [h0]⟩
    · exact ⟨_, _, rfl⟩
  have Hr1 := Lib.hid hr1
  clear hr1
  go_wp2_with fail
  refine (hcc _).mono ?_; rintro e w2 ⟨rfl, rfl⟩
  go_wp2_with fail
  refine (hcc _).mono ?_; rintro e w2 ⟨rfl, rfl⟩
  clear hcc
  go_wp2_with fail
  have Hk1 := Lib.hid hk1
  clear hk1
  by_cases hL0 : L.length = 0
  · rw [hL0]
    refine wp_loop_rounds 1 ?_
    rw [rounds_succ]
    go_wp2_with fail
    refine (alive_calls _).mono ?_; rintro e w3 ⟨rfl, hk3⟩
    go_wp2
    go_ret
    exact ⟨rfl, Hk1.out.trans hk3 (fun _ _ h => h)⟩
  have hh1 : 1 ≤ h := by
    rcases hN3 with h1 | h1
    · have h0 : h = 0 := by have := Hh.out; omega
      have := Hlen.out
      rw [h0, Nat.mul_zero] at this
      exact absurd this hL0
    · exact h1
  obtain ⟨g, rfl, hg, hcap, hcapm⟩ : ∃ g, ao = some ⟨g, 0, none⟩ ∧ g < w2.heap.size ∧ L.length ≤ cap ∧ cap ≤ maxLen := by
    rcases Hr1.out.2 with ⟨_, h0⟩ | ⟨g, c, cur, he, _, h2, h3, h4, _⟩
    · exact absurd h0 hL0
    · injection he with he1 _ he3
      subst he3
      exact ⟨g, he1, (Array.getElem?_eq_some_iff.1 h2).1, h3, h4⟩
  have hcapm' : (cap : Int) ≤ 9223372036854775807 := by unfold maxLen at hcapm; omega
  clear hN3 hcapm
  have Hg := Lib.hid hg
  clear hg
  go_loopw [5] (fun u wr => ∃ s m o : Nat, s + m * h = L.length ∧ u = .slice (some ⟨g, o, none⟩) (L.length - s) (cap - s) ∧ (L.length - s ≠ 0 → o = s * 2) ∧ Blocks N h m (L.drop s) ∧ Keeps (fun _ => False) w2 wr) (fun u _ => (lenOf u))
  case atStart => exact ⟨0, X, 0, by rw [Nat.zero_add]; exact Hlen.out.symm, rfl, fun _ => rfl, HL.out, Keeps.refl _ _⟩
  case round =>
    obtain ⟨s, m, o, hsm, rfl, ho, hbl, hk2⟩ := hrel
    have Hbl := Lib.hid hbl
    have Hk2 := Lib.hid hk2
    have Hsm := Lib.hid hsm
    clear hbl hk2
    cases m with
    | zero =>
      have hs : L.length - s = 0 := by omega
      rw [hs]
      clear hsm ho
      go_wp2_with fail
      refine (alive_calls _).mono ?_; rintro e w3 ⟨rfl, hk3⟩
      go_wp2
      go_ret
      exact ⟨rfl, (Hk1.out.trans Hk2.out (fun _ _ h => h)).trans hk3 (fun _ _ h => h)⟩
    | succ m =>
      rw [Nat.add_mul, Nat.one_mul] at hsm
      have hs1 : s + h ≤ L.length := by omega
      obtain rfl := ho (by omega)
      obtain ⟨l1, hl1⟩ : ∃ l1, L.length - s = l1 := ⟨_, rfl⟩
      obtain ⟨c1, hc1⟩ : ∃ c1, cap - s = c1 := ⟨_, rfl⟩
      have hl1h : h ≤ l1 := by omega
      have hc1h : h ≤ c1 := by omega
      have hl1c : l1 ≤ c1 := by omega
      have hc1m : (c1 : Int) ≤ 9223372036854775807 := by omega
      have hl1' : (l1 : Int) ≤ 589824 := by omega
      have hl1p : (0 : Int) < (l1 : Int) := by omega
      rw [hl1, hc1]
      clear hsm
      obtain ⟨wo, rfl⟩ : ∃ wo : World, wo = wr := ⟨_, rfl⟩
      go_wp2_with fail
      have Hh1 := Lib.hid hh1
      have hd : (L.drop s).length = l1 := by rw [List.length_drop]; exact hl1
      obtain ⟨C, hC⟩ : ∃ C, (L.drop s).take h = C := ⟨_, rfl⟩
      have HG := Lib.hid (show Good N h C from hC ▸ Hbl.out.1)
      have HC := Lib.hid (show ∀ t c, C[t]? = some c → t < h ∧ L[s + t]? = some c from fun t c hc => by
        rw [← hC, List.getElem?_take] at hc
        by_cases ht : t < h
        · rw [if_pos ht, List.getElem?_drop] at hc; exact ⟨ht, hc⟩
        · rw [if_neg ht] at hc; cases hc)
      have Hcl := Lib.hid (show ∀ t, t < h → ∃ c, C[t]? = some c from fun t ht => ⟨C[t]'(by rw [HG.out.1]; exact ht), by simp⟩)
      obtain ⟨w3, hw3⟩ : ∃ w3, wo.alloc (.cells Z 4) = w3 := ⟨_, rfl⟩
      have hr3 : w3.ownsRow wo.heap.size 4 1 (.slice (some ⟨wo.heap.size, 0, none⟩) N N) N (bflat (markK N C 0)) := by
        have := World.ownsRow_lit (base := wo.heap.size) (size := 1) (e := 4) wo Z N (Nat.le_refl _) (by unfold maxLen; omega) (by rw [HZ.out.2, Nat.mul_one])
        rw [hw3, HZ.out.1] at this
        exact this
      have hk3 : Keeps (fun _ => False) wo w3 := by rw [← hw3]; exact (Keeps.refl _ wo).alloc _
      rw [hw3]
      clear hw3 hC hd
      go_loopw [44] (fun i w4 => ∃ t : Nat, t ≤ h ∧ i = .int .i64 t ∧ w4.ownsRow wo.heap.size 4 1 (.slice (some ⟨wo.heap.size, 0, none⟩) N N) N (bflat (markK N C t)) ∧ Keeps (fun _ => False) wo w4) (fun i _ => h - (intOf i).toNat)
      case atStart => exact ⟨0, Nat.zero_le _, rfl, hr3, hk3⟩
      case round =>
        clear hr3 hk3
        obtain ⟨t, ht, rfl, hr4, hk4⟩ := hrel
        by_cases hlt : t < h
        · obtain ⟨⟨x, y⟩, hc⟩ := Hcl.out t hlt
          have hLc := (HC.out t _ hc).2
          have hK4 := Hk2.out.trans hk4 (fun _ _ h => h)
          have hfl := flatC_get L (s + t) _ hLc
          have hLl := (List.getElem?_eq_some_iff.1 hLc).1
          rw [Nat.add_mul] at hfl
          have p0 : wr.cell? ⟨g, s * 2 + t * 2, none⟩ = some (.int .i64 (x : Int)) := (hK4.cell (p := ⟨g, s * 2 + t * 2, none⟩) Hg.out (fun h => h)).trans ((Hr1.out.cellAt (s * 2 + t * 2) (by omega)).trans hfl.1)
          have p1 : wr.cell? ⟨g, s * 2 + t * 2 + 1, none⟩ = some (.int .i64 (y : Int)) := (hK4.cell (p := ⟨g, s * 2 + t * 2 + 1, none⟩) Hg.out (fun h => h)).trans ((Hr1.out.cellAt (s * 2 + t * 2 + 1) (by omega)).trans hfl.2)
          have hm := HG.out.2.1 _ (List.mem_of_getElem? hc)
          obtain ⟨m0, m1⟩ := markK_false HG.out hc
          simp only at hm m0 m1
          obtain ⟨hx, hy, hxy⟩ := hm
          have q0 := fun o => ((hr4.alloc o).cellAt x (by omega)).trans (bflat_get m0)
          have q1 := fun o => ((hr4.alloc o).cellAt y (by omega)).trans (bflat_get m1)
          have f0 := fun o => (hr4.alloc o).frozenAt x
          have f1 := fun o => (hr4.alloc o).frozenAt y
          have hst := fun o => (((hr4.alloc o).stored x (.bool true)).1.stored y (.bool true)).1
          rw [bflat_set, bflat_set, show ((markK N C t).set x true).set y true = markK N C (t + 1) from (markK_succ hc).symm] at hst
          have Hst := Lib.hid hst
          have Hk4 := Lib.hid hk4
          have Hr4 := Lib.hid hr4
          have hx' : (x : Int) < (N : Int) := by omega
          have hy' : (y : Int) < (N : Int) := by omega
          have hx0 : (0 : Int) ≤ (x : Int) := by omega
          have hy0 : (0 : Int) ≤ (y : Int) := by omega
          have hxy' : ((x : Int) == (y : Int)) = false := by rw [beq_eq_false_iff_ne]; omega
          have hlt' : (t : Int) < (h : Int) := by omega
          have ht0 : (0 : Int) ≤ (t : Int) := by omega
          clear hst hk4 hr4 hc hLc hfl hLl m0 m1 hK4
          go_wp2_with fail
          obtain ⟨w5, hw5⟩ : ∃ w5, wr.alloc (.cells #[.int .i64 (x : Int), .int .i64 (y : Int)] 31) = w5 := ⟨_, rfl⟩
          have hnew : w5.heap[wr.heap.size]? = some (.cells #[.int .i64 (x : Int), .int .i64 (y : Int)] 31 (0, 0)) := by rw [← hw5]; exact heap_alloc_new wr _
          have hsz5 : w5.heap.size = wr.heap.size + 1 := by rw [← hw5]; simp
          have b0 : w5.cell? ⟨wr.heap.size, 0, none⟩ = some (.int .i64 (x : Int)) := by rw [cell_of_row _ _ _ _ _ _ hnew]; rfl
          have b1 : w5.cell? ⟨wr.heap.size, 1, none⟩ = some (.int .i64 (y : Int)) := by rw [cell_of_row _ _ _ _ _ _ hnew]; rfl
          have f0' := f0 (.cells #[.int .i64 (x : Int), .int .i64 (y : Int)] 31)
          have f1' := f1 (.cells #[.int .i64 (x : Int), .int .i64 (y : Int)] 31)
          have hst5 := Hst.out (.cells #[.int .i64 (x : Int), .int .i64 (y : Int)] 31)
          have hk5 : Keeps (fun _ => False) wo w5 := by rw [← hw5]; exact Hk4.out.alloc _
          have q0' := q0 (.cells #[.int .i64 (x : Int), .int .i64 (y : Int)] 31)
          have q1' := q1 (.cells #[.int .i64 (x : Int), .int .i64 (y : Int)] 31)
          rw [hw5] at f0' f1' hst5 q0' q1'
          rw [hw5]
          have hbn : ¬ wr.heap.size = wo.heap.size := by have := (Hr4.out.lt wo.heap.size rfl).2; omega
          have hz5 : wr.heap.size < w5.heap.size := by omega
          have kx := fun u => keeps_at w5 wo.heap.size x u
          have kxy := fun u u2 => (keeps_at w5 wo.heap.size x u).trans (keeps_at _ wo.heap.size y u2) (fun _ _ h => h)
          have Hst5 := Lib.hid hst5
          clear q0 q1 f0 f1 hw5 hnew hst5
          refine wp_region_noPanic (wp_region_held_drew (S := fun W' => W'.cell? ⟨wr.heap.size, 0, none⟩ = some (.int .i64 (x : Int)) ∧ W'.cell? ⟨wr.heap.size, 1, none⟩ = some (.int .i64 (y : Int))) (by kernel_rfl) ⟨b0, b1⟩ (fun hHeld => ?_))
          refine wpAnyH_take (i := 0) (oi := _) (v := .slice (some ⟨wo.heap.size, 0, none⟩) N N) rfl (by kernel_rfl) (by kernel_rfl) (by kernel_rfl) (fun _ _ _ h => (h : False).elim) (Or.inl ⟨by kernel_rfl, ?_⟩) (by assumption) ?_
          · intro w hSw
            obtain ⟨s0, s1⟩ := hSw
            go_simp
          try simp only [Act.put, List.setIfInBounds_toArray, List.set_cons_zero, List.set_cons_succ]
          refine wpAnyH_take (i := 1) (oi := _) (v := .pointer (some ⟨wr.heap.size, 0, none⟩)) rfl (by kernel_rfl) (by kernel_rfl) (by kernel_rfl) (fun _ _ _ h => (h : False).elim) (Or.inl ⟨by kernel_rfl, ?_⟩) (by assumption) ?_
          · intro w hSw
            obtain ⟨s0, s1⟩ := hSw
            go_simp
          try simp only [Act.put, List.setIfInBounds_toArray, List.set_cons_zero, List.set_cons_succ]
          refine wpAnyH_take (i := 2) (oi := _) (v := .int .i64 (x : Int)) rfl (by kernel_rfl) (by kernel_rfl) (by kernel_rfl) (fun _ _ _ h => (h : False).elim) (Or.inl ⟨by kernel_rfl, ?_⟩) (by assumption) ?_
          · intro w hSw
            obtain ⟨s0, s1⟩ := hSw
            go_simp
          try simp only [Act.put, List.setIfInBounds_toArray, List.set_cons_zero, List.set_cons_succ]
          refine wpAnyH_take (i := 3) (oi := _) (v := .slice (some ⟨wo.heap.size, 0, none⟩) N N) rfl (by kernel_rfl) (by kernel_rfl) (by kernel_rfl) (fun _ _ _ h => (h : False).elim) (Or.inl ⟨by kernel_rfl, ?_⟩) (by assumption) ?_
          · intro w hSw
            obtain ⟨s0, s1⟩ := hSw
            go_simp
          try simp only [Act.put, List.setIfInBounds_toArray, List.set_cons_zero, List.set_cons_succ]
          refine wpAnyH_take (i := 4) (oi := _) (v := .pointer (some ⟨wr.heap.size, 1, none⟩)) rfl (by kernel_rfl) (by kernel_rfl) (by kernel_rfl) (fun _ _ _ h => (h : False).elim) (Or.inl ⟨by kernel_rfl, ?_⟩) (by assumption) ?_
          · intro w hSw
            obtain ⟨s0, s1⟩ := hSw
            go_simp
          try simp only [Act.put, List.setIfInBounds_toArray, List.set_cons_zero, List.set_cons_succ]
          refine wpAnyH_take (i := 5) (oi := _) (v := .int .i64 (y : Int)) rfl (by kernel_rfl) (by kernel_rfl) (by kernel_rfl) (fun _ _ _ h => (h : False).elim) (Or.inl ⟨by kernel_rfl, ?_⟩) (by assumption) ?_
          · intro w hSw
            obtain ⟨s0, s1⟩ := hSw
            go_simp
          try simp only [Act.put, List.setIfInBounds_toArray, List.set_cons_zero, List.set_cons_succ]
          refine wpAnyH_take (i := 6) (oi := _) (v := .pointer (some ⟨wo.heap.size, x, none⟩)) rfl (by kernel_rfl) (by kernel_rfl) (by kernel_rfl) (fun _ _ _ h => (h : False).elim) (Or.inl ⟨by kernel_rfl, ?_⟩) (by assumption) ?_
          · intro w hSw
            obtain ⟨s0, s1⟩ := hSw
            go_simp
          try simp only [Act.put, List.setIfInBounds_toArray, List.set_cons_zero, List.set_cons_succ]
          refine wpAnyH_ready (rs := [7]) (by kernel_rfl) (by simp) ?_
          refine AllReadyH.cons (o := _) rfl (fun K hK => ?_) AllReadyH.nil
          go_simp
          refine hK.out _ _ ⟨((kx _).cell (p := ⟨wr.heap.size, 0, none⟩) hz5 hbn).trans b0, ((kx _).cell (p := ⟨wr.heap.size, 1, none⟩) hz5 hbn).trans b1⟩ (fun hHeld => ?_)
          clear hK K
          try simp only [Act.put, List.setIfInBounds_toArray, List.set_cons_zero, List.set_cons_succ]
          refine wpAnyH_take (i := 8) (oi := _) (v := .pointer (some ⟨wo.heap.size, y, none⟩)) rfl (by kernel_rfl) (by kernel_rfl) (by kernel_rfl) (fun _ _ _ h => (h : False).elim) (Or.inl ⟨by kernel_rfl, ?_⟩) (by assumption) ?_
          · intro w hSw
            obtain ⟨s0, s1⟩ := hSw
            go_simp
          try simp only [Act.put, List.setIfInBounds_toArray, List.set_cons_zero, List.set_cons_succ]
          refine wpAnyH_ready (rs := [9]) (by kernel_rfl) (by simp) ?_
          refine AllReadyH.cons (o := _) rfl (fun K hK => ?_) AllReadyH.nil
          go_simp
          refine hK.out _ _ ⟨((kxy _ _).cell (p := ⟨wr.heap.size, 0, none⟩) hz5 hbn).trans b0, ((kxy _ _).cell (p := ⟨wr.heap.size, 1, none⟩) hz5 hbn).trans b1⟩ (fun hHeld => ?_)
          clear hK K
          try simp only [Act.put, List.setIfInBounds_toArray, List.set_cons_zero, List.set_cons_succ]
          refine wpAnyH_done (by kernel_rfl) ?_ _
          refine NoPanic.normal ?_
          go_wp2
          go_roundw
          case rel => exact ⟨t + 1, by omega, by go_num, Hst5.out, ((hk5.setCell ⟨wo.heap.size, x, none⟩ (fun h => by simp at h) (.bool true)).setCell ⟨wo.heap.size, y, none⟩ (fun h => by simp at h) (.bool true)).drewN 1⟩
          case measure => simp [intOf]; omega
        · obtain rfl : h = t := by omega
          have Hk4 := Lib.hid (Hk2.out.trans hk4 (fun _ _ h => h))
          clear hr4 hk4 hlt
          go_wp2
          go_roundw
          case rel => exact ⟨s + h, m, (if c1 = h then s * 2 else (s + h) * 2), by have := Hsm.out; rw [Nat.add_mul, Nat.one_mul] at this; omega, by rw [show L.length - (s + h) = l1 - h by omega, show cap - (s + h) = c1 - h by omega]; by_cases hch : c1 = h; rw [if_pos hch, if_pos hch]; rw [if_neg hch, if_neg hch, Nat.add_mul], fun hne => by rw [if_neg (by omega)], by rw [← List.drop_drop]; exact Hbl.out.2, Hk4.out⟩
          case measure => simp [lenOf]; have := Hh1.out; omega
end Go.Proofs.Ytacbnlkbbaiedaa.nw
