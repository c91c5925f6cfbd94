/- The reference of package network: Comparators, Sorted; the laws' same. -/
import Derived.Test.YtbgjfibninccdaaNetD
namespace Go.Proofs.Ytbgjfibninccdaa.nw
open Go Go.RowKit Go.Shelf Go.Proofs.Ytbgjfibninccdaa.tp Go.Proofs.Ytbgjfibninccdaa.rg Go.Proofs.Ytbgjfibninccdaa.ar

theorem flatC_app (D : List (Nat × Nat)) (c : Nat × Nat) : flatC (D ++ [c]) = flatC D ++ [.int .i64 (c.1 : Int), .int .i64 (c.2 : Int)] := by
  unfold flatC
  rw [List.flatMap_append]
  simp
theorem infoA : (Try.prog.info? 43).map (fun i => (i.zero, i.size, i.bytes)) = some (some (.agg #[.int .i64 0, .int .i64 0]), 2, 16) := by kernel_rfl
/-- An owned row of pairs. -/
def pairs (w : World) (base : Nat) (v : Value) (D : List (Nat × Nat)) : Prop := w.ownsRow base 43 2 v D.length (flatC D)

theorem rcomps_none (nv : Int) (hB : isB nv = false) (w : World) : Calls Try.prog 22 #[.int .i64 nv] w fun e w' => ∃ v, e = .returned v ∧ pairs w' w.heap.size v [] ∧ Keeps (fun _ => False) w w' := by
  have hi := ris_calls nv
  rw [hB] at hi
  go_enter Try.func22, Try.ntmps22
  go_wp2_with fail
  refine (hi _).mono ?_; rintro e w' ⟨rfl, rfl⟩
  go_wp2_with fail
  go_ret
  exact ⟨_, rfl, World.ownsRow_nil _ _ _ _, Keeps.refl _ _⟩
set_option maxRecDepth 100000 in
set_option maxHeartbeats 4000000 in
theorem rcomps_some (r N : Nat) (hr : r ≤ 12) (hN : N = 2 ^ r) (w : World) : Calls Try.prog 22 #[.int .i64 (N : Int)] w fun e w' => ∃ v, e = .returned v ∧ pairs w' w.heap.size v (nl N r) ∧ Keeps (fun _ => False) w w' := by
  have hN1 : 1 ≤ N := by rw [hN]; exact Nat.two_pow_pos r
  have hN2 : N ≤ 4096 := by rw [hN]; exact Nat.pow_le_pow_right (show 0 < 2 by omega) hr
  have hB : isB (N : Int) = true := isB_iff.2 ⟨r, hr, by rw [hN]⟩
  have Hpow := Lib.hid (show ∀ p, p ≤ r → 2 ^ p ≤ N from fun p hp => by rw [hN]; exact Nat.pow_le_pow_right (by omega) hp)
  have his := fun W => ris_calls (N : Int) W
  rw [hB] at his
  have Hb := Lib.hid (nl_bound hr hN)
  have HN := Lib.hid hN
  obtain ⟨i0, hi, hz0, hz1, hz2⟩ := info_parts infoA
  clear hB hN
  go_enter Try.func22, Try.ntmps22
  go_wp2_with fail
  refine (his _).mono ?_; clear his; rintro e w' ⟨rfl, rfl⟩
  go_wp2_with fail
  go_loopw [3, 4] (fun v k wr => ∃ p K : Nat, p ≤ r ∧ K = 2 ^ (p + 1) ∧ k = .int .i64 K ∧ pairs wr w'.heap.size v (nl N p) ∧ Keeps (fun _ => False) w' wr) (fun _ k _ => 2 * N - (intOf k).toNat)
  case atStart => exact ⟨0, 2, Nat.zero_le _, rfl, rfl, World.ownsRow_nil _ _ _ _, Keeps.refl _ _⟩
  case round =>
    obtain ⟨p, K, hp, hK, rfl, hrow, hkeep⟩ := hrel
    by_cases hlt : p < r
    · have hKN : K ≤ N := by rw [hK]; exact Hpow.out _ hlt
      have hK2 : 2 ≤ K := by rw [hK, Nat.pow_succ]; have := Nat.two_pow_pos p; omega
      have HK := Lib.hid hK
      have HS := Lib.hid (show nl N p ++ rl K N (p + 1) = nl N (p + 1) by rw [hK]; rfl)
      clear hK
      obtain ⟨wo, rfl⟩ : ∃ wo : World, wo = wr := ⟨_, rfl⟩
      go_wp2_with fail
      go_loopw [3, 5] (fun v j wr => ∃ (q j0 : Nat) (D : List (Nat × Nat)), q ≤ p + 1 ∧ j0 = 2 ^ q / 2 ∧ j = .int .i64 j0 ∧ D ++ rl K N q = nl N (p + 1) ∧ pairs wr w'.heap.size v D ∧ Keeps (fun _ => False) w' wr) (fun _ j _ => (intOf j).toNat)
      case atStart => exact ⟨p + 1, K / 2, nl N p, Nat.le_refl _, by rw [HK.out], rfl, HS.out, hrow, hkeep⟩
      case round =>
        clear hrow hkeep
        obtain ⟨q, j, D, hq, hj, rfl, hD, hrow, hkeep⟩ := hrel
        cases q with
        | zero =>
          have hj0 : j = 0 := by rw [hj]
          subst hj0
          have HD := Lib.hid (show D = nl N (p + 1) by rw [← hD]; show D = D ++ []; rw [List.append_nil])
          clear hj hD
          go_wp2
          go_roundw
          case rel => exact ⟨p + 1, K * 2, by omega, by rw [HK.out, ← Nat.pow_succ], by go_num, by rw [← HD.out]; exact hrow, hkeep⟩
          case measure => simp [intOf]; omega
        | succ q =>
          rw [half_pow] at hj
          have hj1 : 1 ≤ j := by rw [hj]; exact Nat.two_pow_pos q
          have hjN : j ≤ N := by rw [hj]; exact Hpow.out q (by omega)
          have HJ := Lib.hid hj
          have HD := Lib.hid (show D ++ from_ K j N 0 ++ rl K N q = nl N (p + 1) by rw [from_zero, hj, ← hD, List.append_assoc]; rfl)
          clear hj hD
          have hjd : decide ((1 : Int) ≤ (j : Int)) = true := decide_eq_true (by omega)
          have cb1 := fun (t : Nat) (ht : t ≤ 1000000) W => rbit_calls t j ht (by omega) (by omega) W
          have cb2 := fun (t : Nat) (ht : t ≤ 1000000) W => rbit_calls t K ht (by omega) (by omega) W
          obtain ⟨wi, rfl⟩ : ∃ wi : World, wi = wr := ⟨_, rfl⟩
          go_wp2_with fail
          go_loopw [3, 6] (fun v i wr => ∃ (t : Nat) (D : List (Nat × Nat)), t ≤ N ∧ i = .int .i64 t ∧ D ++ from_ K j N t ++ rl K N q = nl N (p + 1) ∧ pairs wr w'.heap.size v D ∧ Keeps (fun _ => False) w' wr) (fun _ i _ => N - (intOf i).toNat)
          case atStart => exact ⟨0, D, Nat.zero_le _, rfl, HD.out, hrow, hkeep⟩
          case round =>
            clear hrow hkeep
            obtain ⟨t, D, ht, rfl, hD, hrow, hkeep⟩ := hrel
            by_cases hlt2 : t < N
            · rw [from_step hlt2] at hD
              by_cases hb : bt t j = true
              · rw [if_pos hb, List.nil_append] at hD
                have HDt := Lib.hid hD
                have cb := cb1 t (by omega)
                rw [hb] at cb
                clear hb hD
                go_wp2_with fail
                refine (cb _).mono ?_; clear cb; rintro e w2 ⟨rfl, rfl⟩
                go_wp2_with fail
                go_roundw
                case rel => exact ⟨t + 1, D, by omega, by go_num, HDt.out, hrow, hkeep⟩
                case measure => simp [intOf]; omega
              · rw [if_neg hb] at hD
                have cb := cb1 t (by omega)
                rw [show bt t j = false by simpa using hb] at cb
                obtain ⟨X, hX⟩ := nl_prefix (n := N) (show p + 1 ≤ r by omega)
                have HX := Lib.hid hX
                clear hb hX
                go_wp2_with fail
                refine (cb _).mono ?_; clear cb; rintro e w2 ⟨rfl, rfl⟩
                have Hcut := Lib.hid (show ∀ a b : Nat, D ++ ([(a, b)] ++ from_ K j N (t + 1)) ++ rl K N q = nl N (p + 1) → D.length < 589824 ∧ (D ++ [(a, b)]) ++ from_ K j N (t + 1) ++ rl K N q = nl N (p + 1) from fun a b h => by
                  refine ⟨Nat.lt_of_lt_of_le ?_ Hb.out, by rw [← h]; simp⟩
                  rw [← HX.out, ← h]
                  simp)
                have cb := cb2 t (by omega)
                have hjt : (t : Int) + (j : Int) ≤ 100000 := by omega
                by_cases hk : bt t K = true
                · rw [hk] at cb
                  obtain ⟨hDb, hD2⟩ := Hcut.out (t + j) (t) (by rw [← hD]; simp [cmpr, hk])
                  have HD2 := Lib.hid hD2
                  have Hfl := Lib.hid (show flatC (D ++ [(t + j, t)]) = flatC D ++ [.int .i64 ((t : Int) + (j : Int)), .int .i64 (t : Int)] from flatC_app D _)
                  clear hD hD2 hk
                  go_wp2_with fail
                  refine (cb _).mono ?_; clear cb; rintro e w3 ⟨rfl, rfl⟩
                  go_wp2_with (at_builtin; refine wpList_append_own _ rfl _ _ 40 rfl w'.heap.size 43 i0 (.agg #[.int .i64 0, .int .i64 0]) 2 16 Try.underlying40 hi hz0 hz1 hz2 rfl (by decide) _ _ _ rfl (hrow.alloc _) ⟨w3.heap.size, 0, none⟩ 1 1 [.int .i64 ((t : Int) + (j : Int)), .int .i64 (t : Int)] rfl rfl ?_ ?_ (by unfold maxLen; omega) (by omega) ?_ ?_)
                  · intro x u hx
                    have hadd : (⟨w3.heap.size, 0, none⟩ : Addr).add x = ⟨w3.heap.size, 0 + x, none⟩ := by unfold Addr.add; split <;> simp_all
                    rw [hadd, cell_of_row _ _ _ _ _ _ (heap_alloc_new w3 _), Nat.zero_add]
                    simpa using hx
                  · intro u hu; simp at hu; rcases hu with rfl | rfl <;> rfl
                  · have := hkeep.size; simp; omega
                  · intro v2 w4 hown2 hgrow2 _
                    have hK4 : Keeps (fun _ => False) w' w4 := (hkeep.alloc _).grown hgrow2 (fun g hg hlt => by have := hrow.lt g hg; omega)
                    have hown3 : pairs w4 w'.heap.size v2 (D ++ [(t + j, t)]) := by unfold pairs; rw [Hfl.out, List.length_append]; exact hown2
                    clear hown2 hgrow2
                    go_wp2
                    go_roundw
                    case rel => exact ⟨t + 1, D ++ [(t + j, t)], by omega, by go_num, HD2.out, hown3, hK4⟩
                    case measure => simp [intOf]; omega
                · rw [show bt t K = false by simpa using hk] at cb
                  obtain ⟨hDb, hD2⟩ := Hcut.out (t) (t + j) (by rw [← hD]; simp [cmpr, hk])
                  have HD2 := Lib.hid hD2
                  have Hfl := Lib.hid (show flatC (D ++ [(t, t + j)]) = flatC D ++ [.int .i64 (t : Int), .int .i64 ((t : Int) + (j : Int))] from flatC_app D _)
                  clear hD hD2 hk
                  go_wp2_with fail
                  refine (cb _).mono ?_; clear cb; rintro e w3 ⟨rfl, rfl⟩
                  go_wp2_with (at_builtin; refine wpList_append_own _ rfl _ _ 40 rfl w'.heap.size 43 i0 (.agg #[.int .i64 0, .int .i64 0]) 2 16 Try.underlying40 hi hz0 hz1 hz2 rfl (by decide) _ _ _ rfl (hrow.alloc _) ⟨w3.heap.size, 0, none⟩ 1 1 [.int .i64 (t : Int), .int .i64 ((t : Int) + (j : Int))] rfl rfl ?_ ?_ (by unfold maxLen; omega) (by omega) ?_ ?_)
                  · intro x u hx
                    have hadd : (⟨w3.heap.size, 0, none⟩ : Addr).add x = ⟨w3.heap.size, 0 + x, none⟩ := by unfold Addr.add; split <;> simp_all
                    rw [hadd, cell_of_row _ _ _ _ _ _ (heap_alloc_new w3 _), Nat.zero_add]
                    simpa using hx
                  · intro u hu; simp at hu; rcases hu with rfl | rfl <;> rfl
                  · have := hkeep.size; simp; omega
                  · intro v2 w4 hown2 hgrow2 _
                    have hK4 : Keeps (fun _ => False) w' w4 := (hkeep.alloc _).grown hgrow2 (fun g hg hlt => by have := hrow.lt g hg; omega)
                    have hown3 : pairs w4 w'.heap.size v2 (D ++ [(t, t + j)]) := by unfold pairs; rw [Hfl.out, List.length_append]; exact hown2
                    clear hown2 hgrow2
                    go_wp2
                    go_roundw
                    case rel => exact ⟨t + 1, D ++ [(t, t + j)], by omega, by go_num, HD2.out, hown3, hK4⟩
                    case measure => simp [intOf]; omega
            · obtain rfl : t = N := by omega
              rw [from_end, List.append_nil] at hD
              have HDt := Lib.hid hD
              clear hD cb1 cb2
              go_wp2
              go_roundw
              case rel => exact ⟨q, j / 2, D, by omega, by rw [HJ.out], rfl, HDt.out, hrow, hkeep⟩
              case measure => simp [intOf]; omega
    · obtain rfl : p = r := by omega
      have hKN : N < K := by rw [hK, Nat.pow_succ, ← HN.out]; omega
      clear hK
      go_wp2
      go_ret
      exact ⟨_, rfl, hrow, hkeep⟩
end Go.Proofs.Ytbgjfibninccdaa.nw
