/- The iterator that network.All returns, by walking its text: it yields the network's comparators one by one. -/
import Derived.Test.YtbgjfibninccdaaNetW
import Derived.Scope
import Derived.WalkMore
namespace Go.Proofs.Ytbgjfibninccdaa.nw
open Go Go.RowKit Go.Shelf Go.Proofs.Ytbgjfibninccdaa.tp Go.Proofs.Ytbgjfibninccdaa.rg

attribute [local go_sem] Oper.semAt_some

/-- The comparators of a round from index t on. -/
def from_ (k j n t : Nat) : List (Nat × Nat) := (List.range' t (n - t)).flatMap fun i => if bt i j then [] else [cmpr k j i]
theorem from_zero (k j n : Nat) : from_ k j n 0 = comps k j n := by
  unfold from_ comps
  rw [Nat.sub_zero, List.range_eq_range']
theorem from_end (k j n : Nat) : from_ k j n n = [] := by
  unfold from_
  rw [Nat.sub_self]; rfl
theorem from_step {k j n t : Nat} (h : t < n) : from_ k j n t = (if bt t j then [] else [cmpr k j t]) ++ from_ k j n (t + 1) := by
  unfold from_
  rw [show n - t = (n - (t + 1)) + 1 by omega, List.range'_succ, List.flatMap_cons]
theorem testBit_bt (x q : Nat) : x.testBit q = bt x (2 ^ q) := by
  rw [Nat.testBit_eq_decide_div_mod_eq]
  unfold bt
  rw [Bool.eq_iff_iff, decide_eq_true_eq, beq_iff_eq]
theorem and_pow (x q : Nat) : x &&& 2 ^ q = if bt x (2 ^ q) then 2 ^ q else 0 := by
  rw [← testBit_bt]
  apply Nat.eq_of_testBit_eq
  intro i
  rw [Nat.testBit_and, Nat.testBit_two_pow]
  by_cases h : q = i
  · subst h
    cases x.testBit q <;> simp
  · cases x.testBit q
    · simp [h]
    · simp only [if_true]
      rw [Nat.testBit_two_pow]
      simp [h]
theorem xor_one (y : Nat) : y ^^^ 1 = if y % 2 = 1 then y - 1 else y + 1 := by
  have h1 : (y ^^^ 1) / 2 = y / 2 := by
    have := Nat.xor_div_two_pow (a := y) (b := 1) (n := 1)
    rw [Nat.pow_one] at this
    rw [this, show 1 / 2 = 0 by decide, Nat.xor_zero]
  have h2 : (y ^^^ 1) % 2 = (y % 2) ^^^ 1 := by
    have := Nat.xor_mod_two_pow (a := y) (b := 1) (n := 1)
    rw [Nat.pow_one] at this
    exact this
  rcases Nat.mod_two_eq_zero_or_one y with h | h
  · rw [h] at h2
    rw [if_neg (by omega)]
    have : (0 ^^^ 1 : Nat) = 1 := by decide
    omega
  · rw [h] at h2
    rw [if_pos h]
    have : (1 ^^^ 1 : Nat) = 0 := by decide
    omega
theorem xor_pow (x q : Nat) : x ^^^ 2 ^ q = if bt x (2 ^ q) then x - 2 ^ q else x + 2 ^ q := by
  have h0 := Nat.two_pow_pos q
  have h1 : (x ^^^ 2 ^ q) / 2 ^ q = x / 2 ^ q ^^^ 1 := by
    have := Nat.xor_div_two_pow (a := x) (b := 2 ^ q) (n := q)
    rw [Nat.div_self h0] at this
    exact this
  have h2 : (x ^^^ 2 ^ q) % 2 ^ q = x % 2 ^ q := by
    have := Nat.xor_mod_two_pow (a := x) (b := 2 ^ q) (n := q)
    rw [Nat.mod_self, Nat.xor_zero] at this
    exact this
  have e1 := Nat.div_add_mod (x ^^^ 2 ^ q) (2 ^ q)
  have e2 := Nat.div_add_mod x (2 ^ q)
  have e3 := Nat.mod_lt x h0
  rw [h1, h2, xor_one] at e1
  unfold bt
  generalize x ^^^ 2 ^ q = z at e1 ⊢
  by_cases hb : x / 2 ^ q % 2 = 1
  · rw [if_pos hb] at e1
    rw [if_pos (by simpa using hb)]
    have : 2 ^ q * (x / 2 ^ q) = 2 ^ q * (x / 2 ^ q - 1) + 2 ^ q := by
      rw [← Nat.mul_succ, Nat.succ_eq_add_one, Nat.sub_add_cancel (Nat.pos_of_ne_zero (fun h => by rw [h] at hb; cases hb))]
    omega
  · rw [if_neg hb] at e1
    rw [if_neg (by simpa using hb)]
    rw [Nat.mul_add, Nat.mul_one] at e1
    omega
theorem wpIn_scope {n : Nat} {P : Program} {c : Code} {Q : Exit → Act → World → Prop} {a : Act} {w : World} (h : c.wpIn Fence.wide n P (Exit.noGoto Q) a w) : (Code.scope c).wpIn Fence.wide n P Q a w := wpIn_wide.2 (wp_scope_straight (wpIn_wide.1 h))

theorem nl_prefix {n r : Nat} : ∀ {p : Nat}, p ≤ r → ∃ X, nl n p ++ X = nl n r := by
  induction r with
  | zero => intro p hp; obtain rfl : p = 0 := by omega
            exact ⟨[], List.append_nil _⟩
  | succ r ih =>
    intro p hp
    rcases Nat.lt_or_eq_of_le hp with h | rfl
    · obtain ⟨X, hX⟩ := ih (show p ≤ r by omega)
      exact ⟨X ++ rl (2 ^ (r + 1)) n (r + 1), by rw [← List.append_assoc, hX]; rfl⟩
    · exact ⟨[], List.append_nil _⟩
theorem half_pow (q : Nat) : 2 ^ (q + 1) / 2 = 2 ^ q := by rw [Nat.pow_succ]; omega
set_option maxRecDepth 100000 in
set_option maxHeartbeats 4000000 in
/-- The iterator of a network for N = 2^r: J D holds when the comparators D have been yielded; a yield that answers false leaves Z. -/
theorem all1 (n r N l Bn : Nat) (hr : r ≤ 12) (hN : N = 2 ^ r) (J : List (Nat × Nat) → World → Prop) (Z : World → Prop)
    (hbox : ∀ D W, J D W → W.cell? ⟨Bn, 0, none⟩ = some (.int .i64 (N : Int)))
    (halloc : ∀ D W (a b : Int), J D W → J D (W.alloc (.cells #[.int .i64 a, .int .i64 b] 62)))
    (hY : ∀ (D : List (Nat × Nat)) (a b : Nat) (E : List (Nat × Nat)) W, J D W → D ++ (a, b) :: E = nl N r →
      YieldAt Fence.wide (n - 1) Try.prog l #[.agg #[.int .i64 a, .int .i64 b]] W fun e W' => (e = .returned (.bool true) ∧ J (D ++ [(a, b)]) W') ∨ (e = .returned (.bool false) ∧ Z W'))
    (W : World) (h0 : J [] W) :
    CallsIn Fence.wide n Try.prog 48 #[.func (.yield l) #[] #[], .pointer (some ⟨Bn, 0, none⟩)] W fun e W' => (∃ v, e = .returned v) ∧ (J (nl N r) W' ∨ Z W') := by
  have q0 := hbox _ W h0
  have hN1 : 1 ≤ N := by rw [hN]; exact Nat.two_pow_pos r
  have hN2 : N ≤ 4096 := by rw [hN]; exact Nat.pow_le_pow_right (show 0 < 2 by omega) hr
  have hB : isB (N : Int) = true := isB_iff.2 ⟨r, hr, by rw [hN]⟩
  have hwf : wf64 (N : Int) = true := WalkArith.wf_i64 (by omega)
  have Hpow := Lib.hid (show ∀ p, p ≤ r → 2 ^ p ≤ N from fun p hp => by rw [hN]; exact Nat.pow_le_pow_right (by omega) hp)
  have Hdvd := Lib.hid (show ∀ p, p ≤ r → 2 ^ p ∣ N from fun p hp => by rw [hN]; exact Nat.pow_dvd_pow 2 hp)
  have his := fun W => is_calls (N : Int) hwf W
  rw [hB] at his
  have HN := Lib.hid hN
  clear hB hwf hN
  refine callsIn_of_wp Try.func48 rfl trivial ?_ rfl
  simp only [Try.ntmps48, List.size_toArray, List.length_cons, List.length_nil, Nat.reduceAdd, Nat.reduceSub, Array.replicate_succ, Array.replicate_zero, List.push_toArray, List.append_toArray, List.nil_append, List.cons_append]
  refine wpIn_scope ?_
  gi_wp2_with fail
  refine ⟨trivial, (fun h => by cases h), ?_⟩
  refine (callsIn_wide.2 (his W)).mono ?_
  rintro e W2 ⟨rfl, rfl⟩
  gi_wp2_with fail
  refine wpIn_label ?_
  gi_wp2_with fail
  clear his
  gi_loopw [3] (fun k wr => ∃ p K : Nat, p ≤ r ∧ K = 2 ^ (p + 1) ∧ k = .int .i64 K ∧ J (nl N p) wr) (fun k _ => 2 * N - (intOf k).toNat)
  case atStart => exact ⟨0, 2, Nat.zero_le _, rfl, rfl, h0⟩
  case round =>
    clear q0 h0
    obtain ⟨p, K, hp, hK, rfl, hJ⟩ := hrel
    have q1 := hbox _ wr hJ
    by_cases hlt : p < r
    · have hKN : K ≤ N := by rw [hK]; exact Hpow.out _ hlt
      have hK2 : 2 ≤ K := by rw [hK, Nat.pow_succ]; have := Nat.two_pow_pos p; omega
      have HK := Lib.hid hK
      have HS := Lib.hid (show nl N p ++ rl K N (p + 1) = nl N (p + 1) by rw [hK]; rfl)
      clear hK
      obtain ⟨wo, rfl⟩ : ∃ wo : World, wo = wr := ⟨_, rfl⟩
      gi_wp2_with fail
      gi_loopw [4] (fun j wr => ∃ (q j0 : Nat) (D : List (Nat × Nat)), q ≤ p + 1 ∧ j0 = 2 ^ q / 2 ∧ j = .int .i64 j0 ∧ D ++ rl K N q = nl N (p + 1) ∧ J D wr) (fun j _ => (intOf j).toNat)
      case atStart => exact ⟨p + 1, K / 2, nl N p, Nat.le_refl _, by rw [HK.out], rfl, HS.out, hJ⟩
      case round =>
        clear q1 hJ
        obtain ⟨q, j, D, hq, hj, rfl, hD, hJ⟩ := hrel
        have q1 := hbox _ wr hJ
        cases q with
        | zero =>
          have hj0 : j = 0 := by rw [hj]
          subst hj0
          have HD := Lib.hid (show D = nl N (p + 1) by rw [← hD]; show D = D ++ []; rw [List.append_nil])
          clear hj hD
          gi_wp2
          go_roundw
          case rel => exact ⟨p + 1, K * 2, by omega, by rw [HK.out, ← Nat.pow_succ], by go_num, by rw [← HD.out]; exact hJ⟩
          case measure => simp [intOf]; omega
        | succ q =>
          rw [half_pow] at hj
          have hj1 : 1 ≤ j := by rw [hj]; exact Nat.two_pow_pos q
          have hjN : j ≤ N := by rw [hj]; exact Hpow.out q (by omega)
          have HJ := Lib.hid hj
          have HD := Lib.hid (show D ++ from_ K j N 0 ++ rl K N q = nl N (p + 1) by rw [from_zero, hj, ← hD, List.append_assoc]; rfl)
          clear hj hD
          have hjd : decide (0 < j) = true := decide_eq_true hj1
          obtain ⟨wi, rfl⟩ : ∃ wi : World, wi = wr := ⟨_, rfl⟩
          gi_wp2_with fail
          gi_loopw [22] (fun i wr => ∃ (t : Nat) (D : List (Nat × Nat)), t ≤ N ∧ i = .int .i64 t ∧ D ++ from_ K j N t ++ rl K N q = nl N (p + 1) ∧ J D wr) (fun i _ => N - (intOf i).toNat)
          case atStart => exact ⟨0, D, Nat.zero_le _, rfl, HD.out, hJ⟩
          case round =>
            clear q1 hJ
            obtain ⟨t, D, ht, rfl, hD, hJ⟩ := hrel
            have q1 := hbox _ wr hJ
            by_cases hlt2 : t < N
            · have hxv := xor_i64 (show t < 9223372036854775808 by omega) (show j < 9223372036854775808 by omega)
              have hav := and_i64 (show t < 9223372036854775808 by omega) (show K < 9223372036854775808 by omega)
              rw [HJ.out, xor_pow, ← HJ.out] at hxv
              rw [HK.out, and_pow, ← HK.out] at hav
              rw [from_step hlt2] at hD
              by_cases hb : bt t j = true
              · have hjt : j ≤ t := by rw [HJ.out] at hb ⊢; exact bt_le hb
                rw [if_pos hb] at hxv
                rw [if_pos hb, List.nil_append] at hD
                have HDt := Lib.hid hD
                have hlo : ((t - j : Nat) : Int) < (t : Int) := by omega
                clear hb hD hav
                gi_wp2
                go_roundw
                case rel => exact ⟨t + 1, D, by omega, by go_num, HDt.out, halloc _ _ _ _ hJ⟩
                case measure => simp [intOf]; omega
              · have hb' : bt t j = false := by simpa using hb
                rw [if_neg hb] at hxv
                rw [if_neg hb] at hD
                obtain ⟨X, hX⟩ := nl_prefix (n := N) (show p + 1 ≤ r by omega)
                have HX := Lib.hid hX
                have hlo : ¬ ((t + j : Nat) : Int) < (t : Int) := by omega
                clear hb hb' hX
                by_cases hk : bt t K = true
                · rw [if_pos hk] at hav
                  have hne : ((K : Int) != 0) = true := by rw [bne_iff_ne]; omega
                  have hE : D ++ (t + j, t) :: (from_ K j N (t + 1) ++ rl K N q ++ X) = nl N r := by rw [← HX.out, ← hD]; simp [cmpr, hk]
                  have HDt := Lib.hid (show (D ++ [(t + j, t)]) ++ from_ K j N (t + 1) ++ rl K N q = nl N (p + 1) by rw [← hD]; simp [cmpr, hk])
                  clear hD hk
                  have hYc := hY D (t + j) (t) _ (wr.alloc (.cells #[.int .i64 ((t + j : Nat) : Int), .int .i64 ((t : Nat) : Int)] 62)) (halloc _ _ _ _ hJ) hE
                  clear hE
                  simp only [Int.natCast_add] at hYc
                  obtain ⟨fn, tmps, assign, body, hy, hR⟩ := hYc
                  clear q1
                  gi_wp2_with fail
                  refine ⟨(fun h => by cases h), hR.mono ?_⟩
                  rintro e W3 (⟨rfl, hJ3⟩ | ⟨rfl, hZ⟩)
                  · clear hy hR
                    gi_wp2
                    go_roundw
                    case rel => exact ⟨t + 1, D ++ [(t + j, t)], by omega, by go_num, HDt.out, hJ3⟩
                    case measure => simp [intOf]; omega
                  · clear hy hR
                    gi_wp2
                    rw [Exit.noGoto_normal]
                    go_end0
                    exact ⟨⟨_, rfl⟩, .inr hZ⟩
                · rw [if_neg hk] at hav
                  have hE : D ++ (t, t + j) :: (from_ K j N (t + 1) ++ rl K N q ++ X) = nl N r := by rw [← HX.out, ← hD]; simp [cmpr, hk]
                  have HDt := Lib.hid (show (D ++ [(t, t + j)]) ++ from_ K j N (t + 1) ++ rl K N q = nl N (p + 1) by rw [← hD]; simp [cmpr, hk])
                  clear hD hk
                  have hYc := hY D (t) (t + j) _ (wr.alloc (.cells #[.int .i64 ((t : Nat) : Int), .int .i64 ((t + j : Nat) : Int)] 62)) (halloc _ _ _ _ hJ) hE
                  clear hE
                  simp only [Int.natCast_add] at hYc
                  obtain ⟨fn, tmps, assign, body, hy, hR⟩ := hYc
                  clear q1
                  gi_wp2_with fail
                  refine ⟨(fun h => by cases h), hR.mono ?_⟩
                  rintro e W3 (⟨rfl, hJ3⟩ | ⟨rfl, hZ⟩)
                  · clear hy hR
                    gi_wp2
                    go_roundw
                    case rel => exact ⟨t + 1, D ++ [(t, t + j)], by omega, by go_num, HDt.out, hJ3⟩
                    case measure => simp [intOf]; omega
                  · clear hy hR
                    gi_wp2
                    rw [Exit.noGoto_normal]
                    go_end0
                    exact ⟨⟨_, rfl⟩, .inr hZ⟩
            · obtain rfl : t = N := by omega
              rw [from_end, List.append_nil] at hD
              have HDt := Lib.hid hD
              clear hD
              gi_wp2
              go_roundw
              case rel => exact ⟨q, j / 2, D, by omega, by rw [HJ.out], rfl, HDt.out, hJ⟩
              case measure => simp [intOf]; omega
    · obtain rfl : p = r := by omega
      have hKN : N < K := by rw [hK, Nat.pow_succ, ← HN.out]; omega
      clear hK
      gi_wp2
      rw [Exit.noGoto_normal]
      go_end0
      exact ⟨⟨_, rfl⟩, .inl hJ⟩
/-- .. where there is no network: nothing is yielded. -/
theorem all1_none (n l Bn : Nat) (nv : Int) (hwf : wf64 nv = true) (hB : isB nv = false) (W : World) (q0 : W.cell? ⟨Bn, 0, none⟩ = some (.int .i64 nv)) :
    CallsIn Fence.wide n Try.prog 48 #[.func (.yield l) #[] #[], .pointer (some ⟨Bn, 0, none⟩)] W fun e W' => (∃ v, e = .returned v) ∧ W' = W := by
  have his := fun W => is_calls nv hwf W
  rw [hB] at his
  clear hB hwf
  refine callsIn_of_wp Try.func48 rfl trivial ?_ rfl
  simp only [Try.ntmps48, List.size_toArray, List.length_cons, List.length_nil, Nat.reduceAdd, Nat.reduceSub, Array.replicate_succ, Array.replicate_zero, List.push_toArray, List.append_toArray, List.nil_append, List.cons_append]
  refine wpIn_scope ?_
  gi_wp2_with fail
  refine ⟨trivial, (fun h => by cases h), ?_⟩
  refine (callsIn_wide.2 (his W)).mono ?_
  rintro e W2 ⟨rfl, rfl⟩
  gi_wp2_with fail
  rw [Exit.noGoto_ret]
  refine bodyPost_ret (results_none rfl _ _ _) rfl ?_
  exact ⟨⟨_, rfl⟩, rfl⟩
end Go.Proofs.Ytbgjfibninccdaa.nw
