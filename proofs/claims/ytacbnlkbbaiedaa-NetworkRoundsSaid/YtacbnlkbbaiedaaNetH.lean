/- The laws of package network: the example, Sizes, Sorts. -/
import Derived.Test.YtacbnlkbbaiedaaNetG
namespace Go.Proofs.Ytacbnlkbbaiedaa.nw
open Go Go.RowKit Go.Shelf Go.Proofs.Ytacbnlkbbaiedaa.tp Go.Proofs.Ytacbnlkbbaiedaa.rg Go.Proofs.Ytacbnlkbbaiedaa.ar Go.Proofs.Ytacbnlkbbaiedaa.mk

/-- The answer true, and what was in memory is as it was. -/
def Yes (w : World) (e : Ending) (w' : World) : Prop := e = .returned (.bool true) ∧ Keeps (fun _ => False) w w'
theorem keeps_drewN (w : World) (n : Nat) : Keeps (fun _ => False) w (w.drewN n) := ⟨rfl, rfl, rfl, Nat.le_refl _, fun _ _ _ => rfl⟩
theorem wkept {w w' : World} {v : Value} {l : List Int} (h : wordsAt w v l) (hk : Keeps (fun _ => False) w w') : wordsAt w' v l := by
  rcases h with h | ⟨hne, b, off, cap, rfl, hb, hc⟩
  · exact .inl h
  · exact .inr ⟨hne, b, off, cap, rfl, Nat.lt_of_lt_of_le hb hk.size, fun i x hx => (hk.cell (p := ⟨b, off + i, none⟩) hb (fun h => h)).trans (hc i x hx)⟩
theorem nl_4 : nl 4 2 = [(0, 1), (3, 2), (0, 2), (1, 3), (0, 1), (2, 3)] := by decide
theorem fold_4 : (nl 4 2).foldl cx [3, 1, 2, 0] = [0, 1, 2, 3] := by decide
theorem alive_calls (w : World) : Calls Try.prog 9 #[] w (Yes w) := by
  have hN : IsNet 4 (nl 4 2) := .inl ⟨2, 4, by decide, rfl, rfl, rfl⟩
  go_enter Try.func9, Try.ntmps9
  go_wp2_with fail
  refine (comparators_calls 4 (nl 4 2) hN w).mono ?_; rintro e w1 ⟨v1, rfl, hr1, hk1⟩
  have hp1 := pairAt_of_row hr1
  clear hr1
  go_wp2_with fail
  have hp2 : pairAt (w1.alloc (.cells #[.int .i64 0, .int .i64 1, .int .i64 3, .int .i64 2, .int .i64 0, .int .i64 2, .int .i64 1, .int .i64 3, .int .i64 0, .int .i64 1, .int .i64 2, .int .i64 3] 32)) (.slice (some ⟨w1.heap.size, 0, none⟩) 6 6) (nl 4 2) :=
    pairAt_of_row (L := nl 4 2) (World.ownsRow_lit (base := 0) w1 _ 6 (Nat.zero_le _) (by decide) rfl)
  have hka := (Keeps.refl (fun _ => False) w1).alloc (.cells #[.int .i64 0, .int .i64 1, .int .i64 3, .int .i64 2, .int .i64 0, .int .i64 2, .int .i64 1, .int .i64 3, .int .i64 0, .int .i64 1, .int .i64 2, .int .i64 3] 32)
  refine (same_calls _ _ (nl 4 2) (by decide) _ (hp1.kept hka) hp2).mono ?_; rintro e w2 ⟨rfl, n2, rfl⟩
  have hk2 := (hk1.trans hka (fun _ _ h => h)).drewN n2
  clear hp1 hp2 hka hk1
  go_wp2_with fail
  refine (size_calls 5 _).mono ?_; rintro e w3 ⟨rfl, rfl⟩
  rw [show sizeI 5 = 8 from by decide]
  go_wp2_with fail
  have cc := fun w => rounds_calls 3 (by decide) w
  rw [show ((2 ^ 3 : Nat) : Int) = 8 from by decide, show ((3 * (3 + 1) / 2 : Nat) : Int) = 6 from by decide] at cc
  refine (cc _).mono ?_; clear cc; rintro e w4 ⟨rfl, rfl⟩
  generalize ((w1.alloc _).drewN n2) = w2 at hk2 ⊢
  go_wp2_with fail
  have hv : wordsAt (w2.alloc (.cells #[.int .u64 3, .int .u64 1, .int .u64 2, .int .u64 0] 38)) (.slice (some ⟨w2.heap.size, 0, none⟩) 4 4) [3, 1, 2, 0] :=
    (words_of_row (l := [3, 1, 2, 0]) (World.ownsRow_lit (base := 0) w2 _ 4 (Nat.zero_le _) (by decide) rfl)).1
  have hW : Words [3, 1, 2, 0] := by intro x hx; simp at hx; unfold IsU; omega
  have hka := (Keeps.refl (fun _ => False) w2).alloc (.cells #[.int .u64 3, .int .u64 1, .int .u64 2, .int .u64 0] 38)
  refine (apply_calls _ [3, 1, 2, 0] 2 4 (by decide) rfl rfl hW _ hv).mono ?_; rintro e w5 ⟨v5, rfl, hr5, hk5⟩
  rw [fold_4] at hr5
  have hv5 := (words_of_row hr5).1
  have hk6 := (hk2.trans hka (fun _ _ h => h)).trans hk5 (fun _ _ h => h)
  clear hr5 hk5 hka hk2 hv
  go_wp2_with fail
  have hv : wordsAt (w5.alloc (.cells #[.int .u64 0, .int .u64 1, .int .u64 2, .int .u64 3] 38)) (.slice (some ⟨w5.heap.size, 0, none⟩) 4 4) [0, 1, 2, 3] :=
    (words_of_row (l := [0, 1, 2, 3]) (World.ownsRow_lit (base := 0) w5 _ 4 (Nat.zero_le _) (by decide) rfl)).1
  have hka := (Keeps.refl (fun _ => False) w5).alloc (.cells #[.int .u64 0, .int .u64 1, .int .u64 2, .int .u64 3] 38)
  have cc := uequal_any v5 (.slice (some ⟨w5.heap.size, 0, none⟩) 4 4) [0, 1, 2, 3] [0, 1, 2, 3] _ (by decide) (wkept hv5 hka) hv
  refine cc.mono ?_; clear cc; rintro e w7 ⟨rfl, n7, rfl⟩
  rw [decide_eq_true rfl]
  go_wp2_with fail
  go_ret
  exact ⟨rfl, (hk6.trans hka (fun _ _ h => h)).drewN n7⟩
theorem sizes_law (n : Int) (w : World) : Calls Try.prog 3 #[.int .i64 n] w (Yes w) := by
  go_enter Try.func3, Try.ntmps3
  go_wp2_with fail
  refine (alive_calls _).mono ?_; rintro e w1 ⟨rfl, hk1⟩
  go_wp2_with fail
  refine (size_calls n _).mono ?_; rintro e w2 ⟨rfl, rfl⟩
  go_wp2_with fail
  refine (rsize_calls n _).mono ?_; rintro e w3 ⟨rfl, rfl⟩
  go_wp2_with fail
  go_ret
  exact ⟨rfl, hk1⟩
theorem sorts_law (v : Value) (l : List Int) (w : World) (hv : wordsAt w v l) (hw : Words l) : Calls Try.prog 5 #[v] w (Yes w) := by
  obtain ⟨ao, cap, hva⟩ := words_shape hv
  subst hva
  by_cases hl : l.length ≤ 64
  · have hl' : ¬ (l.length : Int) > 64 := by omega
    have hle : (l.length : Int) ≤ 64 := by omega
    cases hB : isB (l.length : Int) with
    | false =>
      have cc := fun w h => apply_not (.slice ao l.length cap) l (by omega) w h hB
      have ci := fun w => ris_calls (l.length : Int) w
      rw [hB] at ci
      clear hB
      go_enter Try.func5, Try.ntmps5
      go_wp2_with fail
      refine (uclone_any _ l _ (by omega) hv).mono ?_; rintro e w1 ⟨v1, rfl, hr1, hk1⟩
      have hv1 := (words_of_row hr1).1
      clear hr1
      go_wp2_with fail
      refine (cc _ (wkept hv hk1)).mono ?_; clear cc; rintro e w2 ⟨rfl, rfl⟩
      go_wp2_with fail
      refine (uequal_any _ v1 l l _ (by omega) (wkept hv hk1) hv1).mono ?_; rintro e w3 ⟨rfl, n3, rfl⟩
      rw [decide_eq_true rfl]
      have hk3 := hk1.drewN n3
      go_wp2_with fail
      refine (ci _).mono ?_; clear ci; rintro e w4 ⟨rfl, rfl⟩
      go_wp2_with fail
      refine (alive_calls _).mono ?_; rintro e w5 ⟨rfl, hk5⟩
      go_wp2_with fail
      go_ret
      exact ⟨rfl, hk3.trans hk5 (fun _ _ h => h)⟩
    | true =>
      obtain ⟨r, hr, hN⟩ := isB_iff.1 hB
      have hN' : l.length = 2 ^ r := by omega
      have cc := fun w h => apply_calls (.slice ao l.length cap) l r l.length hr hN' rfl hw w h
      have ci := fun w => ris_calls (l.length : Int) w
      rw [hB] at ci
      have Hsort := Lib.hid (show ∀ s, srt s → s.Perm l → (nl l.length r).foldl cx l = s from fun s h1 h2 => by
        rw [hN']
        exact sorted_unique (nl_sorts hN') h1 ((nl_perm hN').trans h2.symm))
      clear hB hN hN'
      go_enter Try.func5, Try.ntmps5
      go_wp2_with fail
      refine (uclone_any _ l _ (by omega) hv).mono ?_; rintro e w1 ⟨v1, rfl, hr1, hk1⟩
      have hv1 := (words_of_row hr1).1
      clear hr1
      go_wp2_with fail
      refine (cc _ (wkept hv hk1)).mono ?_; clear cc; rintro e w2 ⟨v2, rfl, hr2, hk2⟩
      have hv2 : wordsAt w2 v2 ((nl l.length r).foldl cx l) := (words_of_row (l := (nl l.length r).foldl cx l) (by rw [fold_length]; exact hr2)).1
      have hk12 := hk1.trans hk2 (fun _ _ h => h)
      clear hr2
      go_wp2_with fail
      refine (uequal_any _ v1 l l _ (by omega) (wkept hv hk12) (wkept hv1 hk2)).mono ?_; rintro e w3 ⟨rfl, n3, rfl⟩
      rw [decide_eq_true rfl]
      have hk3 := hk12.drewN n3
      have hv3 := wkept hv2 (keeps_drewN w2 n3)
      generalize w2.drewN n3 = w3 at hk3 hv3 ⊢
      go_wp2_with fail
      refine (ci _).mono ?_; clear ci; rintro e w4 ⟨rfl, rfl⟩
      go_wp2_with fail
      refine (alive_calls _).mono ?_; rintro e w5 ⟨rfl, hk5⟩
      have hk5' := hk3.trans hk5 (fun _ _ h => h)
      go_wp2_with fail
      refine (sorted_calls _ l (by omega) _ (wkept hv hk5')).mono ?_; rintro e w6 ⟨v6, s, rfl, hr6, hs1, hs2, hk6⟩
      have hv6 := (words_of_row hr6).1
      have hv7 := wkept hv3 (hk5.trans hk6 (fun _ _ h => h))
      have hlen := fold_length (nl l.length r) l
      rw [Hsort.out s hs1 hs2] at hv7
      have hsl : s.length ≤ 1099511627776 := by have := hs2.length_eq; omega
      clear hr6 hs1 hs2
      go_wp2_with fail
      refine (uequal_any _ _ s s _ hsl hv7 hv6).mono ?_; rintro e w7 ⟨rfl, n7, rfl⟩
      rw [decide_eq_true rfl]
      go_wp2_with fail
      go_ret
      exact ⟨rfl, (hk5'.trans hk6 (fun _ _ h => h)).drewN n7⟩
  · have hl' : (l.length : Int) > 64 := by omega
    go_enter Try.func5, Try.ntmps5
    go_wp2_with fail
    refine (alive_calls _).mono ?_; rintro e w3 ⟨rfl, hk3⟩
    go_wp2
    go_ret
    exact ⟨rfl, hk3⟩
end Go.Proofs.Ytacbnlkbbaiedaa.nw
