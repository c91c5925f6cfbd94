/- The laws of package array that read: ArrayCounts, ArrayCombines, ArrayReads. -/
import Derived.Test.YtkagpdbphdhbaaaArrayG
namespace Go.Proofs.Ytkagpdbphdhbaaa.ar
open Go Go.RowKit Go.Maps Go.Proofs.Ytkagpdbphdhbaaa.tp Go.Proofs.Ytkagpdbphdhbaaa.mk

theorem wordsAt.keep {w w' : World} {v : Value} {l : List Int} {T : Nat → Prop} (h : wordsAt w v l) (hk : Keeps T w w') (hT : l ≠ [] → ∀ k, v.ownBlock = some k → ¬ T k) : wordsAt w' v l := by
  rcases h with h | ⟨hne, b, off, cap, rfl, hb, hc⟩
  · exact .inl h
  · exact .inr ⟨hne, b, off, cap, rfl, Nat.lt_of_lt_of_le hb hk.size, fun i x hx => (hk.cell (p := ⟨b, off + i, none⟩) hb (hT hne b rfl)).trans (hc i x hx)⟩
theorem wordsAt.kept {w w' : World} {v : Value} {l : List Int} (h : wordsAt w v l) (hk : Keeps (fun _ => False) w w') : wordsAt w' v l := h.keep hk (fun _ _ _ h => h)
theorem wordsAt.drewN {w : World} {v : Value} {l : List Int} (h : wordsAt w v l) (n : Nat) : wordsAt (w.drewN n) v l := h.kept ⟨rfl, rfl, rfl, Nat.le_refl _, fun _ _ _ => rfl⟩
theorem keeps_drewN (w : World) (n : Nat) : Keeps (fun _ => False) w (w.drewN n) := ⟨rfl, rfl, rfl, Nat.le_refl _, fun _ _ _ => rfl⟩

/-- The answer true, and what was in memory is as it was. -/
def Yes (w : World) (e : Ending) (w' : World) : Prop := e = .returned (.bool true) ∧ Keeps (fun _ => False) w w'

theorem read_nil (v : Value) (l : List Int) (i : Int) (w : World) (hv : wordsAt w v l) (hl : l.length ≤ 549755813888) (hw : Words l) (hi : IsU i) :
    Calls Try.prog 17 #[.pointer none, v, .int .u64 i] w fun e w' => e = .returned (.int .u64 (readI l i)) ∧ Keeps (fun _ => False) w w' :=
  (read_calls none [] (fun _ => False) v l i w (.inl ⟨rfl, rfl⟩) (by simp) hv hl (fun _ _ _ h => h) hw hi).mono fun _ _ h => ⟨h.1, h.2.2⟩
theorem acount_nil (v : Value) (l : List Int) (w : World) (hv : wordsAt w v l) (hl : l.length ≤ 549755813888) (hw : Words l) :
    Calls Try.prog 10 #[.pointer none, v] w fun e w' => e = .returned (.int .u64 (countI l)) ∧ Keeps (fun _ => False) w w' :=
  (acount_calls none [] (fun _ => False) v l w (.inl ⟨rfl, rfl⟩) (by simp) hv hl (fun _ _ _ h => h) hw).mono fun _ _ h => ⟨h.1, h.2.2⟩
theorem afirst_nil (v : Value) (l : List Int) (w : World) (hv : wordsAt w v l) (hl : l.length ≤ 549755813888) (hw : Words l) :
    Calls Try.prog 11 #[.pointer none, v] w fun e w' => e = .returned (.int .u64 (firstI l)) ∧ Keeps (fun _ => False) w w' :=
  (afirst_calls none [] (fun _ => False) v l w (.inl ⟨rfl, rfl⟩) (by simp) hv hl (fun _ _ _ h => h) hw).mono fun _ _ h => ⟨h.1, h.2.2⟩
theorem all_nil (v : Value) (l : List Int) (w : World) (hv : wordsAt w v l) (hl : l.length ≤ 549755813888) :
    Calls Try.prog 14 #[.pointer none, v] w fun e w' => e = .returned (.int .u64 (andI l)) ∧ Keeps (fun _ => False) w w' :=
  (all_calls none [] (fun _ => False) v l w (.inl ⟨rfl, rfl⟩) (by simp) hv hl (fun _ _ _ h => h)).mono fun _ _ h => ⟨h.1, h.2.2⟩
theorem some_nil (v : Value) (l : List Int) (w : World) (hv : wordsAt w v l) (hl : l.length ≤ 549755813888) :
    Calls Try.prog 15 #[.pointer none, v] w fun e w' => e = .returned (.int .u64 (orI l)) ∧ Keeps (fun _ => False) w w' :=
  (some_calls none [] (fun _ => False) v l w (.inl ⟨rfl, rfl⟩) (by simp) hv hl (fun _ _ _ h => h)).mono fun _ _ h => ⟨h.1, h.2.2⟩

theorem lit_words (w : World) : wordsAt (w.alloc (.cells #[.int .u64 5, .int .u64 8, .int .u64 7] 24)) (.slice (some ⟨w.heap.size, 0, none⟩) 3 3) [5, 8, 7] :=
  (words_of_row (l := [5, 8, 7]) (World.ownsRow_lit (base := 0) w _ 3 (Nat.zero_le _) (by decide) rfl)).1

theorem alive_calls (w : World) : Calls Try.prog 9 #[] w (Yes w) := by
  have hW : Words [5, 8, 7] := by intro x hx; simp at hx; unfold IsU; omega
  go_enter Try.func9, Try.ntmps9
  go_wp2_with fail
  have hv := lit_words w
  have hk0 := (Keeps.refl (fun _ => False) w).alloc (.cells #[.int .u64 5, .int .u64 8, .int .u64 7] 24)
  have hz0 : (w.alloc (.cells #[.int .u64 5, .int .u64 8, .int .u64 7] 24)).heap.size = w.heap.size + 1 := by simp
  generalize w.alloc (.cells #[.int .u64 5, .int .u64 8, .int .u64 7] 24) = w0 at hv hk0 hz0 ⊢
  refine (new_any w0).mono ?_; rintro e w1 ⟨b, rfl, hT1, hk1⟩
  go_wp2_with fail
  have cc := read_calls (some ⟨b, 0, none⟩) [] _ _ _ 1 w1 (.inr ⟨b, rfl, hT1⟩) (by simp) (hv.kept hk1) (by simp) (fun _ k hk => by cases hk; show ¬ w0.heap.size ≤ w.heap.size; omega) hW (by unfold IsU; omega)
  rw [show readI [5, 8, 7] 1 = 8 from by decide] at cc
  refine cc.mono ?_; clear cc; rintro e w2 ⟨rfl, ⟨S2, hT2, _⟩, hk2⟩
  have hv2 := (hv.kept hk1).keep hk2 (fun _ k hk => by cases hk; show ¬ w0.heap.size ≤ w.heap.size; omega)
  have hK2 : Keeps (fun _ => False) w w2 := (hk0.trans hk1 (fun _ _ h => h)).trans hk2 (fun i hi h => by omega)
  clear hv hT1 hk0 hk1 hk2
  go_wp2_with fail
  have cc := read_nil _ _ 3 w2 hv2 (by simp) hW (by unfold IsU; omega)
  rw [show readI [5, 8, 7] 3 = 0 from by decide] at cc
  refine cc.mono ?_; clear cc; rintro e w3 ⟨rfl, hk3⟩
  go_wp2_with fail
  have cc := acount_nil _ _ w3 (hv2.kept hk3) (by simp) hW
  rw [show countI [5, 8, 7] = 2 from by decide] at cc
  refine cc.mono ?_; clear cc; rintro e w4 ⟨rfl, hk4⟩
  have hK4 := hk3.trans hk4 (fun _ _ h => h)
  go_wp2_with fail
  have cc := afirst_nil _ _ w4 (hv2.kept hK4) (by simp) hW
  rw [show firstI [5, 8, 7] = 0 from by decide] at cc
  refine cc.mono ?_; clear cc; rintro e w5 ⟨rfl, hk5⟩
  have hK5 := hK4.trans hk5 (fun _ _ h => h)
  go_wp2_with fail
  have cc := all_nil _ _ w5 (hv2.kept hK5) (by simp)
  rw [show andI [5, 8, 7] = 0 from by decide] at cc
  refine cc.mono ?_; clear cc; rintro e w6 ⟨rfl, hk6⟩
  have hK6 := hK5.trans hk6 (fun _ _ h => h)
  go_wp2_with fail
  have cc := some_nil _ _ w6 (hv2.kept hK6) (by simp)
  rw [show orI [5, 8, 7] = 15 from by decide] at cc
  refine cc.mono ?_; clear cc; rintro e w7 ⟨rfl, hk7⟩
  have hK7 := hK6.trans hk7 (fun _ _ h => h)
  have hT7 := hT2.keep hK7 (fun _ _ _ h => h)
  go_wp2_with fail
  have cc := len_calls (.pointer (some ⟨b, 0, none⟩)) S2 (recs (some ⟨b, 0, none⟩) [] 1 3) w7 (by rcases hT7 with ⟨h, _⟩ | ⟨b', h, h'⟩; cases h; cases h; exact .inr ⟨_, rfl, h'⟩)
  rw [show (recs (some ⟨b, 0, none⟩) [] 1 3).length = 3 from rfl] at cc
  refine cc.mono ?_; clear cc; rintro e w8 ⟨rfl, n, rfl⟩
  go_wp2_with fail
  go_ret
  exact ⟨rfl, (hK2.trans hK7 (fun _ _ h => h)).trans (keeps_drewN _ _) (fun _ _ h => h)⟩

/-! ### ArrayCounts -/
theorem count_first {l : List Int} : (decide (countI l > 0)) = (decide (firstI l < l.length)) := by
  rw [decide_eq_decide]
  have hf : firstI l = ((l.takeWhile fun x => x % 2 == 0).length : Nat) := rfl
  have hsub := (List.takeWhile_sublist (l := l) (fun x => x % 2 == 0)).length_le
  have h0 : countI l = 0 ↔ l.all (fun x => x % 2 == 0) = true := by
    clear hf hsub
    induction l with
    | nil => simp [countI]
    | cons x l ih =>
      have hb := countI_bounds l
      simp only [countI, List.all_cons, Bool.and_eq_true, beq_iff_eq]
      constructor
      · intro h
        exact ⟨by omega, ih.1 (by omega)⟩
      · rintro ⟨h1, h2⟩
        rw [ih.2 h2]; omega
  have hb := countI_bounds l
  have ha : (l.takeWhile fun x => x % 2 == 0).length = l.length ↔ l.all (fun x => x % 2 == 0) = true := takeWhile_all
  constructor
  · intro h
    have : ¬ (l.takeWhile fun x => x % 2 == 0).length = l.length := fun e => by have := h0.2 (ha.1 e); omega
    omega
  · intro h
    have : ¬ countI l = 0 := fun e => by have := ha.2 (h0.1 e); omega
    omega
theorem counts_law (v : Value) (l : List Int) (w : World) (hv : wordsAt w v l) (hw : Words l) : Calls Try.prog 3 #[v] w (Yes w) := by
  obtain ⟨ao, cap, hva⟩ := words_shape hv
  subst hva
  by_cases hl : l.length ≤ 500
  · have hl' : ¬ (l.length : Int) > 500 := by omega
    go_enter Try.func3, Try.ntmps3
    go_wp2_with fail
    refine (acount_nil _ l _ hv (by omega) hw).mono ?_; rintro e w1 ⟨rfl, hk1⟩
    go_wp2_with fail
    refine (afirst_nil _ l _ (hv.kept hk1) (by omega) hw).mono ?_; rintro e w2 ⟨rfl, hk2⟩
    have hK2 := hk1.trans hk2 (fun _ _ h => h)
    go_wp2_with fail
    refine (alive_calls _).mono ?_; rintro e w3 ⟨rfl, hk3⟩
    have hK3 := hK2.trans hk3 (fun _ _ h => h)
    go_wp2_with fail
    refine (rcnt_calls _ l _ (by omega) hw (hv.kept hK3)).mono ?_; rintro e w4 ⟨rfl, rfl⟩
    go_wp2_with fail
    refine (rfst_calls _ l _ (by omega) hw (hv.kept hK3)).mono ?_; rintro e w5 ⟨rfl, rfl⟩
    have hcf := count_first (l := l)
    go_wp2
    go_ret
    exact ⟨rfl, hK3⟩
  · have hl' : (l.length : Int) > 500 := by omega
    go_enter Try.func3, Try.ntmps3
    go_wp2_with fail
    refine (alive_calls _).mono ?_; rintro e w3 ⟨rfl, hk3⟩
    go_wp2
    go_ret
    exact ⟨rfl, hk3⟩

/-! ### ArrayReads -/
theorem reads_law (v : Value) (l : List Int) (i : Int) (w : World) (hv : wordsAt w v l) (hw : Words l) (hi : IsU i) : Calls Try.prog 5 #[v, .int .u64 i] w (Yes w) := by
  obtain ⟨ao, cap, hva⟩ := words_shape hv
  subst hva
  by_cases hl : l.length ≤ 500
  · have hl' : ¬ (l.length : Int) > 500 := by omega
    go_enter Try.func5, Try.ntmps5
    go_wp2_with fail
    refine (uclone_any _ l _ (by omega) hv).mono ?_; rintro e w1 ⟨v1, rfl, hr1, hk1⟩
    have hv1 := (words_of_row hr1).1
    clear hr1
    go_wp2_with fail
    refine (alive_calls _).mono ?_; rintro e w2 ⟨rfl, hk2⟩
    have hK2 := hk1.trans hk2 (fun _ _ h => h)
    go_wp2_with fail
    refine (read_nil _ l i _ (hv.kept hK2) (by omega) hw hi).mono ?_; rintro e w3 ⟨rfl, hk3⟩
    have hK3 := hK2.trans hk3 (fun _ _ h => h)
    go_wp2_with fail
    refine (rread_calls _ l i _ (by omega) hi (hv.kept hK3)).mono ?_; rintro e w4 ⟨rfl, rfl⟩
    go_wp2_with fail
    have cc := uequal_any _ v1 l l w4 (by omega) (hv.kept hK3) ((hv1.kept hk2).kept hk3)
    rw [decide_eq_true rfl] at cc
    refine cc.mono ?_; clear cc; rintro e w5 ⟨rfl, n, rfl⟩
    go_wp2_with fail
    go_ret
    exact ⟨rfl, hK3.trans (keeps_drewN _ n) (fun _ _ h => h)⟩
  · have hl' : (l.length : Int) > 500 := by omega
    go_enter Try.func5, Try.ntmps5
    go_wp2_with fail
    refine (alive_calls _).mono ?_; rintro e w3 ⟨rfl, hk3⟩
    go_wp2
    go_ret
    exact ⟨rfl, hk3⟩

/-! ### ArrayCombines -/
theorem combines_law (v : Value) (l : List Int) (w : World) (hv : wordsAt w v l) : Calls Try.prog 4 #[v] w (Yes w) := by
  obtain ⟨ao, cap, hva⟩ := words_shape hv
  subst hva
  by_cases hl : l.length ≤ 500
  · have hl' : ¬ (l.length : Int) > 500 := by omega
    obtain ⟨b, off, hvs, hcells, hbb⟩ := words_cell hv
    have Hv := Lib.hid hv
    have Hc := Lib.hid hcells
    clear hv hcells
    go_enter Try.func4, Try.ntmps4
    go_wp2
    go_loop [3, 4, 13] (fun c d i => ∃ k : Nat, k ≤ l.length ∧ i = .int .i64 k ∧ c = .int .u64 (andI (l.take k)) ∧ d = .int .u64 (orI (l.take k))) (fun _ _ i => l.length - (intOf i).toNat)
    case atStart => exact ⟨0, Nat.zero_le _, rfl, rfl, rfl⟩
    case round =>
      obtain ⟨k, hk, rfl, rfl, rfl⟩ := hrel
      by_cases hlt : k < l.length
      · obtain ⟨x, hx⟩ : ∃ e, l[k]? = some e := ⟨l[k], by simp [hlt]⟩
        have p0 := Hc.out k _ hx
        have Ha := Lib.hid (and_step hx)
        have Ho := Lib.hid (or_step hx)
        clear hx
        have hlt' : (k : Int) < (l.length : Int) := by omega
        obtain ⟨cap', hvs'⟩ : ∃ cap', Value.slice ao l.length cap = .slice (some ⟨b, off, none⟩) l.length cap' := by
          rcases hvs with ⟨h0, _⟩ | h
          · omega
          · exact h
        injection hvs' with e1 _ e2
        subst e1 e2
        go_wp2
        go_round
        case rel => exact ⟨k + 1, by omega, by go_num, by rw [← Ha.out], by rw [← Ho.out]⟩
        case measure => simp [intOf]; omega
      · have e : k = l.length := by omega
        subst e
        clear hvs hbb
        rw [List.take_length] at *
        go_wp2_with fail
        refine (alive_calls _).mono ?_; rintro e w2 ⟨rfl, hk2⟩
        go_wp2_with fail
        refine (all_nil _ l _ (Hv.out.kept hk2) (by omega)).mono ?_; rintro e w3 ⟨rfl, hk3⟩
        have hK3 := hk2.trans hk3 (fun _ _ h => h)
        go_wp2_with fail
        refine (some_nil _ l _ (Hv.out.kept hK3) (by omega)).mono ?_; rintro e w4 ⟨rfl, hk4⟩
        have hK4 := hK3.trans hk4 (fun _ _ h => h)
        go_wp2_with fail
        go_ret
        exact ⟨rfl, hK4⟩
  · have hl' : (l.length : Int) > 500 := by omega
    go_enter Try.func4, Try.ntmps4
    go_wp2_with fail
    refine (alive_calls _).mono ?_; rintro e w3 ⟨rfl, hk3⟩
    go_wp2
    go_ret
    exact ⟨rfl, hk3⟩
end Go.Proofs.Ytkagpdbphdhbaaa.ar
