/- The law SortingLive. -/
import Derived.Test.YtbgjfibninccdaaSortC
set_option linter.unusedSimpArgs false
set_option linter.unusedVariables false
namespace Go.Proofs.Ytbgjfibninccdaa.so
open Go Go.RowKit Go.Shelf Go.Proofs.Ytbgjfibninccdaa.mk Go.Proofs.Ytbgjfibninccdaa.nw Go.Proofs.Ytbgjfibninccdaa.tp Go.Proofs.Ytbgjfibninccdaa.rg Go.Proofs.Ytbgjfibninccdaa.ar

/-! ### the live ones come first -/
theorem count_keys : ∀ l : List Rec, Recs l → (((l.map keyR).filter (fun k => decide (k < 18446744073709551616))).length : Int) = countR l
  | [], _ => rfl
  | r :: l, h => by
    have ih := count_keys l (fun x hx => h x (by simp [hx]))
    have hr := h r (by simp)
    obtain ⟨a, b⟩ := r
    have hb : IsU b := hr.2
    unfold IsU at hb
    unfold countR at ih ⊢
    rw [List.map_cons, List.map_cons, List.filter_cons]
    simp only [countI]
    rcases Int.emod_two_eq a with h0 | h0
    · have e : keyR (a, b) = 18446744073709551616 := by unfold keyR; simp only; rw [if_neg (by omega)]
      rw [e, h0, if_neg (by decide), ih]
      omega
    · have e : keyR (a, b) = b := by unfold keyR; simp only; rw [if_pos h0]
      rw [e, h0, if_pos (by simpa using hb.2), List.length_cons, ← ih]
      omega
theorem sortK_split {l : List Rec} (hok : Recs l) : sortK l = (sortK l).filter (fun k => decide (k < 18446744073709551616)) ++ (sortK l).filter (fun k => !decide (k < 18446744073709551616)) := by
  refine sorted_unique (sortK_sorted l) ?_ (List.filter_append_perm _ _).symm
  rw [List.pairwise_append]
  refine ⟨(sortK_sorted l).sublist List.filter_sublist, (sortK_sorted l).sublist List.filter_sublist, fun a ha b hb => ?_⟩
  have h1 := (List.mem_filter.1 ha).2
  have h2 := (List.mem_filter.1 hb).2
  simp at h1 h2
  omega
theorem live_len {l : List Rec} (hok : Recs l) : (((sortK l).filter (fun k => decide (k < 18446744073709551616))).length : Int) = countR l := by
  rw [← count_keys l hok, ((sortK_perm l).filter _).length_eq]
/-- The keys of the live records, then those of the dead. -/
theorem key_at {l : List Rec} (hok : Recs l) {i : Nat} {k : Int} (hk : (sortK l)[i]? = some k) : if (i : Int) < countR l then k < 18446744073709551616 else k = 18446744073709551616 := by
  have hl := live_len hok
  have hm := sortK_isK hok k (List.mem_of_getElem? hk)
  rw [sortK_split hok] at hk
  by_cases h : (i : Int) < countR l
  · rw [if_pos h]
    rw [List.getElem?_append_left (by omega)] at hk
    have := (List.mem_filter.1 (List.mem_of_getElem? hk)).2
    simpa using this
  · rw [if_neg h]
    rw [List.getElem?_append_right (by omega)] at hk
    have := (List.mem_filter.1 (List.mem_of_getElem? hk)).2
    simp at this
    have := hm.2
    omega
theorem countR_bounds (l : List Rec) : 0 ≤ countR l ∧ countR l ≤ l.length := by
  have := countI_bounds (l.map Prod.fst)
  rw [List.length_map] at this
  exact this
theorem rec_at {l : List Rec} (hok : Recs l) {i : Nat} {r : Rec} (hr : (sortR l)[i]? = some r) : if (i : Int) < countR l then r.1 = 1 else r = (0, 0) := by
  unfold sortR at hr
  rw [List.getElem?_map] at hr
  cases hk : (sortK l)[i]? with
  | none => rw [hk] at hr; cases hr
  | some k =>
    rw [hk] at hr
    cases hr
    have := key_at hok hk
    by_cases h : (i : Int) < countR l
    · rw [if_pos h] at this ⊢
      unfold unkey; rw [if_pos this]
    · rw [if_neg h] at this ⊢
      unfold unkey; rw [if_neg (by omega)]
theorem ids_at {l : List Rec} (hok : Recs l) {i : Nat} {r s : Rec} (hr : (sortR l)[i]? = some r) (hs : (sortR l)[i + 1]? = some s) (hi : ((i + 1 : Nat) : Int) < countR l) : r.2 ≤ s.2 := by
  unfold sortR at hr hs
  rw [List.getElem?_map] at hr hs
  cases hk : (sortK l)[i]? with
  | none => rw [hk] at hr; cases hr
  | some k =>
    cases hk' : (sortK l)[i + 1]? with
    | none => rw [hk'] at hs; cases hs
    | some k' =>
      rw [hk] at hr
      rw [hk'] at hs
      cases hr
      cases hs
      have h1 := key_at hok hk
      have h2 := key_at hok hk'
      rw [if_pos (by omega)] at h1
      rw [if_pos hi] at h2
      obtain ⟨a1, b1⟩ := List.getElem?_eq_some_iff.1 hk
      obtain ⟨a2, b2⟩ := List.getElem?_eq_some_iff.1 hk'
      have := (List.pairwise_iff_getElem.1 (sortK_sorted l)) i (i + 1) a1 a2 (by omega)
      rw [b1, b2] at this
      unfold unkey
      rw [if_pos h1, if_pos h2]
      exact this
theorem u64_of {k : Nat} (h : k ≤ 4096) : IntKind.u64.wrap (k : Int) = (k : Int) := by rw [wrap_u64]; omega
theorem count_any' (q : Option Addr) (l0 : List Ev) (S0 : Nat → Prop) (v : Value) (l : List Rec) (w : World) (hT : qAt w S0 q l0) (hl0 : l0.length ≤ 549755813888) (hv : recAt w v l) (hl : l.length ≤ 4096) (hok : Recs l) (hS : l ≠ [] → ∀ g, v.ownBlock = some g → ¬ S0 g) :
    Calls Try.prog 15 #[.pointer q, v] w fun e w' => e = .returned (.int .u64 (countR l)) ∧ Keeps S0 w w' := (scount_any q l0 S0 v l w hT hl0 hv hl hok hS).mono fun _ _ h => ⟨h.1, h.2.2⟩
theorem nil_q (w : World) : qAt w (fun _ => False) none [] := .inl ⟨rfl, rfl⟩
set_option maxRecDepth 100000 in
set_option maxHeartbeats 2000000 in
theorem live_law (v : Value) (l : List Rec) (w : World) (hv : recAt w v l) (hok : Recs l) : Calls Try.prog 4 #[v] w (Yes w) := by
  obtain ⟨ao, cap, hva⟩ : ∃ ao cap, v = .slice ao l.length cap := by
    rcases hv with ⟨rfl, ao, cap, rfl⟩ | ⟨_, b, off, cap, rfl, _⟩
    · exact ⟨_, _, rfl⟩
    · exact ⟨_, _, rfl⟩
  subst hva
  by_cases hl : l.length ≤ 100
  · have hl' : ¬ (l.length : Int) > 100 := by omega
    have hle : (l.length : Int) ≤ 100 := by omega
    have Hv := Lib.hid hv
    have Hrec := Lib.hid (fun i r h => rec_at hok (i := i) (r := r) h)
    have Hids := Lib.hid (fun i r s h1 h2 h3 => ids_at hok (i := i) (r := r) (s := s) h1 h2 h3)
    have hcb := countR_bounds l
    have cc := fun w h => count_any' none [] (fun _ => False) (.slice ao l.length cap) l w (nil_q w) (by simp) h (by omega) hok (fun _ _ _ h => h)
    have cs := fun w h => sort_any none [] (fun _ => False) (.slice ao l.length cap) l w (nil_q w) (by simp) h (by omega) hok (fun _ _ _ h => h)
    generalize countR l = C at Hrec Hids hcb cc
    obtain ⟨c, rfl⟩ : ∃ c : Nat, C = (c : Int) := ⟨C.toNat, by omega⟩
    have hRl : (sortR l).length = l.length := sortR_length l
    obtain ⟨R, hR⟩ : ∃ R, sortR l = R := ⟨_, rfl⟩
    have Hcs := Lib.hid cs
    have HR := Lib.hid hR
    rw [hR] at hRl Hrec Hids
    have hc100 : (c : Int) ≤ 100 := by omega
    have hc0 : (0 : Int) ≤ (c : Int) := by omega
    clear hv hok hcb cs hR
    go_enter Try.func4, Try.ntmps4
    go_wp2_with fail
    refine (cc _ Hv.out).mono ?_; clear cc; rintro e w1 ⟨rfl, hk1⟩
    go_wp2_with fail
    refine (Hcs.out _ (Hv.out.kept hk1)).mono ?_; rintro e w2 ⟨v2, rfl, hv2, _, _, hk2⟩
    rw [HR.out] at hv2
    have hK2 := hk1.trans hk2 (fun _ _ h => h)
    have Hv2 := Lib.hid hv2
    obtain ⟨ao2, cap2, rfl⟩ : ∃ ao cap, v2 = .slice ao l.length cap := by
      rcases hv2 with ⟨h0, ao, cap, rfl⟩ | ⟨_, b, off, cap, rfl, _⟩
      · exact ⟨_, _, by rw [← hRl, h0]; rfl⟩
      · exact ⟨_, _, by rw [← hRl]⟩
    have Hrow := Lib.hid (show ∀ k, k < l.length → ∃ b off, ao2 = some ⟨b, off, none⟩ ∧ b < w2.heap.size ∧ ∃ x y, R[k]? = some (x, y) ∧ w2.cell? ⟨b, off + k * 2, none⟩ = some (.int .u64 x) ∧ w2.cell? ⟨b, off + (k * 2 + 1), none⟩ = some (.int .u64 y) from fun k hk => by
      rcases hv2 with ⟨h0, _⟩ | ⟨_, b, off, cap', he, hb, hc⟩
      · have h1 := hRl; rw [h0, List.length_nil] at h1; omega
      · injection he with he1 _ _
        have hkR : k < R.length := by omega
        obtain ⟨c0, c1⟩ := hc k (R[k]) (by simp [hkR])
        exact ⟨b, off, he1, hb, (R[k]).1, (R[k]).2, by simp [hkR], c0, c1⟩)
    have HK2 := Lib.hid hK2
    clear hv2 hk1 hk2 hK2
    go_wp2_with fail
    go_loopw [17] (fun i wr => ∃ k : Nat, k ≤ l.length ∧ i = .int .i64 k ∧ Keeps (fun _ => False) w2 wr) (fun i _ => l.length - (intOf i).toNat)
    case atStart => exact ⟨0, Nat.zero_le _, rfl, Keeps.refl _ _⟩
    case round =>
      obtain ⟨k, hk, rfl, hkp⟩ := hrel
      have Hkp := Lib.hid hkp
      by_cases hlt : k < l.length
      · obtain ⟨b, off, rfl, hb, x, y, hxy, p0, p1⟩ := Hrow.out k hlt
        have p0 := (hkp.cell (p := ⟨b, off + k * 2, none⟩) hb (fun h => h)).trans p0
        have p1 : wr.cell? ⟨b, off + k * 2 + 1, none⟩ = some (.int .u64 y) := (hkp.cell (p := ⟨b, off + (k * 2 + 1), none⟩) hb (fun h => h)).trans p1
        have hrc := Hrec.out k _ hxy
        have hu := u64_of (k := k) (by omega)
        have hlt' : (k : Int) < (l.length : Int) := by omega
        have hk0 : (0 : Int) ≤ (k : Int) := by omega
        have hne := rec_ne 0 0 0 0
        clear hkp hxy
        by_cases hkc : k < c
        · rw [if_pos (by omega)] at hrc
          simp only at hrc
          subst hrc
          have hkc' : (k : Int) < (c : Int) := by omega
          have hkc2 : ¬ (c : Int) ≤ (k : Int) := by omega
          clear hne
          go_wp2
          go_roundw
          case rel => exact ⟨k + 1, by omega, by go_num, Hkp.out.alloc _⟩
          case measure => simp [intOf]; omega
        · rw [if_neg (by omega)] at hrc
          injection hrc with h1 h2
          subst h1
          subst h2
          have hkc' : ¬ (k : Int) < (c : Int) := by omega
          have hkc2 : (c : Int) ≤ (k : Int) := by omega
          go_wp2
          go_roundw
          case rel => exact ⟨k + 1, by omega, by go_num, Hkp.out.alloc _⟩
          case measure => simp [intOf]; omega
      · obtain rfl : l.length = k := by omega
        have Hk3 := Lib.hid (HK2.out.trans hkp (fun _ _ h => h))
        clear hkp hlt
        go_wp2_with fail
        refine (Hcs.out _ (Hv.out.kept Hk3.out)).mono ?_; rintro e w4 ⟨v4, rfl, hv4, _, _, hk4⟩
        rw [HR.out] at hv4
        have hK4 := Hk3.out.trans hk4 (fun _ _ h => h)
        obtain ⟨ao4, cap4, rfl⟩ : ∃ ao cap, v4 = .slice ao l.length cap := by
          rcases hv4 with ⟨h0, ao, cap, rfl⟩ | ⟨_, b, off, cap, rfl, _⟩
          · exact ⟨_, _, by rw [← hRl, h0]; rfl⟩
          · exact ⟨_, _, by rw [← hRl]⟩
        have Hrow4 := Lib.hid (show ∀ k, k < l.length → ∃ b off, ao4 = some ⟨b, off, none⟩ ∧ ∀ j x y, R[j]? = some (x, y) → w4.cell? ⟨b, off + j * 2 + 1, none⟩ = some (.int .u64 y) from fun k hk => by
          rcases hv4 with ⟨h0, _⟩ | ⟨_, b, off, cap', he, hb, hc⟩
          · have h1 := hRl; rw [h0, List.length_nil] at h1; omega
          · injection he with he1 _ _
            exact ⟨b, off, he1, fun j x y hj => (hc j _ hj).2⟩)
        have Hget := Lib.hid (show ∀ k, k < l.length → ∃ x y, R[k]? = some (x, y) from fun k hk => ⟨(R[k]'(by omega)).1, (R[k]'(by omega)).2, by rw [List.getElem?_eq_getElem (by omega)]⟩)
        have HK4 := Lib.hid hK4
        clear hv4 hk4 hK4
        go_wp2_with fail
        go_loopw [47] (fun i wr => ∃ k n : Nat, k ≤ l.length ∧ i = .int .i64 k ∧ wr = w4.drewN n) (fun i _ => l.length - (intOf i).toNat)
        case atStart => exact ⟨0, 0, Nat.zero_le _, rfl, rfl⟩
        case round =>
          obtain ⟨k, n, hk, rfl, rfl⟩ := hrel
          by_cases hlt : k < l.length
          · obtain ⟨b, off, rfl, hcell⟩ := Hrow4.out k hlt
            have hu := u64_of (k := k) (by omega)
            have hlt' : (k : Int) < (l.length : Int) := by omega
            have hk0 : (0 : Int) ≤ (k : Int) := by omega
            have hkle : (k : Int) ≤ 100 := by omega
            by_cases hk1 : 0 < k
            · obtain ⟨j, hjk⟩ : ∃ j, j + 1 = k := ⟨k - 1, by omega⟩
              obtain ⟨x, y, hxy⟩ := Hget.out k hlt
              obtain ⟨x', y', hxy'⟩ := Hget.out j (by omega)
              have p0 := hcell _ _ _ hxy
              have p1 := hcell _ _ _ hxy'
              have hp : (0 : Int) < (k : Int) := by omega
              by_cases hkc : k < c
              · have hid := Hids.out j (x', y') (x, y) hxy' (by rw [hjk]; exact hxy) (by rw [hjk]; omega)
                simp only at hid
                have hid' : ¬ y < y' := by omega
                have hkc' : (k : Int) < (c : Int) := by omega
                have hs : (k : Int) - 1 = (j : Int) := by omega
                have hj0 : (0 : Int) ≤ (j : Int) := by omega
                have hjl : (j : Int) < (l.length : Int) := by omega
                have hjl2 : j < l.length := by omega
                have hwj : IntKind.i64.wrap (j : Int) = (j : Int) := wraps_i64_63 _ (by omega) (by omega)
                clear hxy hxy' hcell hjk
                go_wp2_with fail
                refine wp_region_late (fun W => W.cell? ⟨b, off + j * 2 + 1, none⟩ = some (.int .u64 y') ∧ W.cell? ⟨b, off + k * 2 + 1, none⟩ = some (.int .u64 y)) [] (by kernel_rfl) ?_
                have hS : (w4.drewN n).drew.cell? ⟨b, off + j * 2 + 1, none⟩ = some (.int .u64 y') ∧ (w4.drewN n).drew.cell? ⟨b, off + k * 2 + 1, none⟩ = some (.int .u64 y) := ⟨p1, p0⟩
                refine wpAnyL_any (i := 0) (oi := _) (v := .int .i64 (k : Int)) rfl (by kernel_rfl) (by kernel_rfl) (by kernel_rfl) (by kernel_rfl) (fun _ _ _ h => (h : False).elim) (Or.inl ⟨by kernel_rfl, ?_⟩) (fun _ => by assumption) ?_
                · intro w _
                  go_simp
                try simp only [List.getElem_toArray, List.getElem_cons_zero, List.getElem_cons_succ, Act.put, List.setIfInBounds_toArray, List.set_cons_zero, List.set_cons_succ]
                refine wpAnyL_any (i := 1) (oi := _) (v := .bool true) rfl (by kernel_rfl) (by kernel_rfl) (by kernel_rfl) (by kernel_rfl) (fun _ _ _ h => (h : False).elim) (Or.inl ⟨by kernel_rfl, ?_⟩) (fun _ => by assumption) ?_
                · intro w _
                  go_simp
                try simp only [List.getElem_toArray, List.getElem_cons_zero, List.getElem_cons_succ, Act.put, List.setIfInBounds_toArray, List.set_cons_zero, List.set_cons_succ]
                refine wpAnyL_any (i := 2) (oi := _) (v := .bool true) rfl (by kernel_rfl) (by kernel_rfl) (by kernel_rfl) (by kernel_rfl) (fun _ _ _ h => (h : False).elim) (Or.inl ⟨by kernel_rfl, ?_⟩) (fun _ => by assumption) ?_
                · intro w _
                  go_simp
                try simp only [List.getElem_toArray, List.getElem_cons_zero, List.getElem_cons_succ, Act.put, List.setIfInBounds_toArray, List.set_cons_zero, List.set_cons_succ]
                refine wpAnyL_any (i := 3) (oi := _) (v := .int .i64 (k : Int)) rfl (by kernel_rfl) (by kernel_rfl) (by kernel_rfl) (by kernel_rfl) (fun _ _ _ h => (h : False).elim) (Or.inl ⟨by kernel_rfl, ?_⟩) (fun _ => by assumption) ?_
                · intro w _
                  go_simp
                try simp only [List.getElem_toArray, List.getElem_cons_zero, List.getElem_cons_succ, Act.put, List.setIfInBounds_toArray, List.set_cons_zero, List.set_cons_succ]
                refine wpAnyL_any (i := 4) (oi := _) (v := .int .u64 (k : Int)) rfl (by kernel_rfl) (by kernel_rfl) (by kernel_rfl) (by kernel_rfl) (fun _ _ _ h => (h : False).elim) (Or.inl ⟨by kernel_rfl, ?_⟩) (fun _ => by assumption) ?_
                · intro w _
                  go_simp
                try simp only [List.getElem_toArray, List.getElem_cons_zero, List.getElem_cons_succ, Act.put, List.setIfInBounds_toArray, List.set_cons_zero, List.set_cons_succ]
                refine wpAnyL_any (i := 5) (oi := _) (v := .int .u64 (c : Int)) rfl (by kernel_rfl) (by kernel_rfl) (by kernel_rfl) (by kernel_rfl) (fun _ _ _ h => (h : False).elim) (Or.inl ⟨by kernel_rfl, ?_⟩) (fun _ => by assumption) ?_
                · intro w _
                  go_simp
                try simp only [List.getElem_toArray, List.getElem_cons_zero, List.getElem_cons_succ, Act.put, List.setIfInBounds_toArray, List.set_cons_zero, List.set_cons_succ]
                refine wpAnyL_any (i := 6) (oi := _) (v := .bool true) rfl (by kernel_rfl) (by kernel_rfl) (by kernel_rfl) (by kernel_rfl) (fun _ _ _ h => (h : False).elim) (Or.inl ⟨by kernel_rfl, ?_⟩) (fun _ => by assumption) ?_
                · intro w _
                  go_simp
                try simp only [List.getElem_toArray, List.getElem_cons_zero, List.getElem_cons_succ, Act.put, List.setIfInBounds_toArray, List.set_cons_zero, List.set_cons_succ]
                refine wpAnyL_any (i := 7) (oi := _) (v := .bool true) rfl (by kernel_rfl) (by kernel_rfl) (by kernel_rfl) (by kernel_rfl) (fun _ _ _ h => (h : False).elim) (Or.inl ⟨by kernel_rfl, ?_⟩) (fun _ => by assumption) ?_
                · intro w _
                  go_simp
                try simp only [List.getElem_toArray, List.getElem_cons_zero, List.getElem_cons_succ, Act.put, List.setIfInBounds_toArray, List.set_cons_zero, List.set_cons_succ]
                refine wpAnyL_any (i := 8) (oi := _) (v := .bool true) rfl (by kernel_rfl) (by kernel_rfl) (by kernel_rfl) (by kernel_rfl) (fun _ _ _ h => (h : False).elim) (Or.inl ⟨by kernel_rfl, ?_⟩) (fun _ => by assumption) ?_
                · intro w _
                  go_simp
                try simp only [List.getElem_toArray, List.getElem_cons_zero, List.getElem_cons_succ, Act.put, List.setIfInBounds_toArray, List.set_cons_zero, List.set_cons_succ]
                refine wpAnyL_any (i := 9) (oi := _) (v := .slice (some ⟨b, off, none⟩) l.length cap4) rfl (by kernel_rfl) (by kernel_rfl) (by kernel_rfl) (by kernel_rfl) (fun _ _ _ h => (h : False).elim) (Or.inl ⟨by kernel_rfl, ?_⟩) (fun _ => by assumption) ?_
                · intro w _
                  go_simp
                try simp only [List.getElem_toArray, List.getElem_cons_zero, List.getElem_cons_succ, Act.put, List.setIfInBounds_toArray, List.set_cons_zero, List.set_cons_succ]
                refine wpAnyL_any (i := 10) (oi := _) (v := .int .i64 (k : Int)) rfl (by kernel_rfl) (by kernel_rfl) (by kernel_rfl) (by kernel_rfl) (fun _ _ _ h => (h : False).elim) (Or.inl ⟨by kernel_rfl, ?_⟩) (fun _ => by assumption) ?_
                · intro w _
                  go_simp
                try simp only [List.getElem_toArray, List.getElem_cons_zero, List.getElem_cons_succ, Act.put, List.setIfInBounds_toArray, List.set_cons_zero, List.set_cons_succ]
                refine wpAnyL_any (i := 11) (oi := _) (v := .int .i64 (j : Int)) rfl (by kernel_rfl) (by kernel_rfl) (by kernel_rfl) (by kernel_rfl) (fun _ _ _ h => (h : False).elim) (Or.inl ⟨by kernel_rfl, ?_⟩) (fun _ => by assumption) ?_
                · intro w _
                  go_simp
                try simp only [List.getElem_toArray, List.getElem_cons_zero, List.getElem_cons_succ, Act.put, List.setIfInBounds_toArray, List.set_cons_zero, List.set_cons_succ]
                refine wpAnyL_any (i := 12) (oi := _) (v := .pointer (some ⟨b, off + j * 2, none⟩)) rfl (by kernel_rfl) (by kernel_rfl) (by kernel_rfl) (by kernel_rfl) (fun _ _ _ h => (h : False).elim) (Or.inl ⟨by kernel_rfl, ?_⟩) (fun _ => by assumption) ?_
                · intro w _
                  go_simp
                try simp only [List.getElem_toArray, List.getElem_cons_zero, List.getElem_cons_succ, Act.put, List.setIfInBounds_toArray, List.set_cons_zero, List.set_cons_succ]
                refine wpAnyL_any (i := 13) (oi := _) (v := .pointer (some ⟨b, off + j * 2 + 1, none⟩)) rfl (by kernel_rfl) (by kernel_rfl) (by kernel_rfl) (by kernel_rfl) (fun _ _ _ h => (h : False).elim) (Or.inl ⟨by kernel_rfl, ?_⟩) (fun _ => by assumption) ?_
                · intro w _
                  go_simp
                try simp only [List.getElem_toArray, List.getElem_cons_zero, List.getElem_cons_succ, Act.put, List.setIfInBounds_toArray, List.set_cons_zero, List.set_cons_succ]
                refine wpAnyL_take (i := 14) (oi := _) (v := .int .u64 y') rfl (by kernel_rfl) (by kernel_rfl) (by kernel_rfl) (by kernel_rfl) (fun _ _ _ h => (h : False).elim) (Or.inl ⟨by kernel_rfl, ?_⟩) (by assumption) ?_
                · intro w hSw
                  obtain ⟨s0, s1⟩ := hSw
                  go_simp
                try simp only [List.getElem_toArray, List.getElem_cons_zero, List.getElem_cons_succ, Act.put, List.setIfInBounds_toArray, List.set_cons_zero, List.set_cons_succ]
                refine wpAnyL_any (i := 15) (oi := _) (v := .slice (some ⟨b, off, none⟩) l.length cap4) rfl (by kernel_rfl) (by kernel_rfl) (by kernel_rfl) (by kernel_rfl) (fun _ _ _ h => (h : False).elim) (Or.inl ⟨by kernel_rfl, ?_⟩) (fun _ => by assumption) ?_
                · intro w _
                  go_simp
                try simp only [List.getElem_toArray, List.getElem_cons_zero, List.getElem_cons_succ, Act.put, List.setIfInBounds_toArray, List.set_cons_zero, List.set_cons_succ]
                refine wpAnyL_any (i := 16) (oi := _) (v := .int .i64 (k : Int)) rfl (by kernel_rfl) (by kernel_rfl) (by kernel_rfl) (by kernel_rfl) (fun _ _ _ h => (h : False).elim) (Or.inl ⟨by kernel_rfl, ?_⟩) (fun _ => by assumption) ?_
                · intro w _
                  go_simp
                try simp only [List.getElem_toArray, List.getElem_cons_zero, List.getElem_cons_succ, Act.put, List.setIfInBounds_toArray, List.set_cons_zero, List.set_cons_succ]
                refine wpAnyL_any (i := 17) (oi := _) (v := .pointer (some ⟨b, off + k * 2, none⟩)) rfl (by kernel_rfl) (by kernel_rfl) (by kernel_rfl) (by kernel_rfl) (fun _ _ _ h => (h : False).elim) (Or.inl ⟨by kernel_rfl, ?_⟩) (fun _ => by assumption) ?_
                · intro w _
                  go_simp
                try simp only [List.getElem_toArray, List.getElem_cons_zero, List.getElem_cons_succ, Act.put, List.setIfInBounds_toArray, List.set_cons_zero, List.set_cons_succ]
                refine wpAnyL_any (i := 18) (oi := _) (v := .pointer (some ⟨b, off + k * 2 + 1, none⟩)) rfl (by kernel_rfl) (by kernel_rfl) (by kernel_rfl) (by kernel_rfl) (fun _ _ _ h => (h : False).elim) (Or.inl ⟨by kernel_rfl, ?_⟩) (fun _ => by assumption) ?_
                · intro w _
                  go_simp
                try simp only [List.getElem_toArray, List.getElem_cons_zero, List.getElem_cons_succ, Act.put, List.setIfInBounds_toArray, List.set_cons_zero, List.set_cons_succ]
                refine wpAnyL_take (i := 19) (oi := _) (v := .int .u64 y) rfl (by kernel_rfl) (by kernel_rfl) (by kernel_rfl) (by kernel_rfl) (fun _ _ _ h => (h : False).elim) (Or.inl ⟨by kernel_rfl, ?_⟩) (by assumption) ?_
                · intro w hSw
                  obtain ⟨s0, s1⟩ := hSw
                  go_simp
                try simp only [List.getElem_toArray, List.getElem_cons_zero, List.getElem_cons_succ, Act.put, List.setIfInBounds_toArray, List.set_cons_zero, List.set_cons_succ]
                refine wpAnyL_any (i := 20) (oi := _) (v := .bool false) rfl (by kernel_rfl) (by kernel_rfl) (by kernel_rfl) (by kernel_rfl) (fun _ _ _ h => (h : False).elim) (Or.inl ⟨by kernel_rfl, ?_⟩) (fun _ => by assumption) ?_
                · intro w _
                  go_simp
                try simp only [List.getElem_toArray, List.getElem_cons_zero, List.getElem_cons_succ, Act.put, List.setIfInBounds_toArray, List.set_cons_zero, List.set_cons_succ]
                refine wpAnyL_any (i := 21) (oi := _) (v := .bool false) rfl (by kernel_rfl) (by kernel_rfl) (by kernel_rfl) (by kernel_rfl) (fun _ _ _ h => (h : False).elim) (Or.inl ⟨by kernel_rfl, ?_⟩) (fun _ => by assumption) ?_
                · intro w _
                  go_simp
                try simp only [List.getElem_toArray, List.getElem_cons_zero, List.getElem_cons_succ, Act.put, List.setIfInBounds_toArray, List.set_cons_zero, List.set_cons_succ]
                refine wpAnyL_done (by kernel_rfl) ?_ _
                refine NoPanic.normal ?_
                go_wp2
                go_roundw
                case rel => exact ⟨k + 1, n + 1, by omega, by go_num, by rw [← World.drewN_drewN]⟩
                case measure => simp [intOf]; omega
              · have hkc' : ¬ (k : Int) < (c : Int) := by omega
                clear hxy hxy' hcell hjk
                go_wp2_with fail
                refine wp_region_late (fun _ => True) [] (by kernel_rfl) ?_
                have hS : True := trivial
                refine wpAnyL_any (i := 0) (oi := _) (v := .int .i64 (k : Int)) rfl (by kernel_rfl) (by kernel_rfl) (by kernel_rfl) (by kernel_rfl) (fun _ _ _ h => (h : False).elim) (Or.inl ⟨by kernel_rfl, ?_⟩) (fun _ => by assumption) ?_
                · intro w _
                  go_simp
                try simp only [List.getElem_toArray, List.getElem_cons_zero, List.getElem_cons_succ, Act.put, List.setIfInBounds_toArray, List.set_cons_zero, List.set_cons_succ]
                refine wpAnyL_any (i := 1) (oi := _) (v := .bool true) rfl (by kernel_rfl) (by kernel_rfl) (by kernel_rfl) (by kernel_rfl) (fun _ _ _ h => (h : False).elim) (Or.inl ⟨by kernel_rfl, ?_⟩) (fun _ => by assumption) ?_
                · intro w _
                  go_simp
                try simp only [List.getElem_toArray, List.getElem_cons_zero, List.getElem_cons_succ, Act.put, List.setIfInBounds_toArray, List.set_cons_zero, List.set_cons_succ]
                refine wpAnyL_any (i := 2) (oi := _) (v := .bool true) rfl (by kernel_rfl) (by kernel_rfl) (by kernel_rfl) (by kernel_rfl) (fun _ _ _ h => (h : False).elim) (Or.inl ⟨by kernel_rfl, ?_⟩) (fun _ => by assumption) ?_
                · intro w _
                  go_simp
                try simp only [List.getElem_toArray, List.getElem_cons_zero, List.getElem_cons_succ, Act.put, List.setIfInBounds_toArray, List.set_cons_zero, List.set_cons_succ]
                refine wpAnyL_any (i := 3) (oi := _) (v := .int .i64 (k : Int)) rfl (by kernel_rfl) (by kernel_rfl) (by kernel_rfl) (by kernel_rfl) (fun _ _ _ h => (h : False).elim) (Or.inl ⟨by kernel_rfl, ?_⟩) (fun _ => by assumption) ?_
                · intro w _
                  go_simp
                try simp only [List.getElem_toArray, List.getElem_cons_zero, List.getElem_cons_succ, Act.put, List.setIfInBounds_toArray, List.set_cons_zero, List.set_cons_succ]
                refine wpAnyL_any (i := 4) (oi := _) (v := .int .u64 (k : Int)) rfl (by kernel_rfl) (by kernel_rfl) (by kernel_rfl) (by kernel_rfl) (fun _ _ _ h => (h : False).elim) (Or.inl ⟨by kernel_rfl, ?_⟩) (fun _ => by assumption) ?_
                · intro w _
                  go_simp
                try simp only [List.getElem_toArray, List.getElem_cons_zero, List.getElem_cons_succ, Act.put, List.setIfInBounds_toArray, List.set_cons_zero, List.set_cons_succ]
                refine wpAnyL_any (i := 5) (oi := _) (v := .int .u64 (c : Int)) rfl (by kernel_rfl) (by kernel_rfl) (by kernel_rfl) (by kernel_rfl) (fun _ _ _ h => (h : False).elim) (Or.inl ⟨by kernel_rfl, ?_⟩) (fun _ => by assumption) ?_
                · intro w _
                  go_simp
                try simp only [List.getElem_toArray, List.getElem_cons_zero, List.getElem_cons_succ, Act.put, List.setIfInBounds_toArray, List.set_cons_zero, List.set_cons_succ]
                refine wpAnyL_any (i := 6) (oi := _) (v := .bool false) rfl (by kernel_rfl) (by kernel_rfl) (by kernel_rfl) (by kernel_rfl) (fun _ _ _ h => (h : False).elim) (Or.inl ⟨by kernel_rfl, ?_⟩) (fun _ => by assumption) ?_
                · intro w _
                  go_simp
                try simp only [List.getElem_toArray, List.getElem_cons_zero, List.getElem_cons_succ, Act.put, List.setIfInBounds_toArray, List.set_cons_zero, List.set_cons_succ]
                refine wpAnyL_any (i := 7) (oi := _) (v := .bool false) rfl (by kernel_rfl) (by kernel_rfl) (by kernel_rfl) (by kernel_rfl) (fun _ _ _ h => (h : False).elim) (Or.inl ⟨by kernel_rfl, ?_⟩) (fun _ => by assumption) ?_
                · intro w _
                  go_simp
                try simp only [List.getElem_toArray, List.getElem_cons_zero, List.getElem_cons_succ, Act.put, List.setIfInBounds_toArray, List.set_cons_zero, List.set_cons_succ]
                refine wpAnyL_any (i := 8) (oi := _) (v := .bool false) rfl (by kernel_rfl) (by kernel_rfl) (by kernel_rfl) (by kernel_rfl) (fun _ _ _ h => (h : False).elim) (Or.inl ⟨by kernel_rfl, ?_⟩) (fun _ => by assumption) ?_
                · intro w _
                  go_simp
                try simp only [List.getElem_toArray, List.getElem_cons_zero, List.getElem_cons_succ, Act.put, List.setIfInBounds_toArray, List.set_cons_zero, List.set_cons_succ]
                refine wpAnyL_any (i := 9) (oi := _) (v := undef) rfl (by kernel_rfl) (by kernel_rfl) (by kernel_rfl) (by kernel_rfl) (fun _ _ _ h => (h : False).elim) (Or.inr ⟨by kernel_rfl, rfl⟩) (fun _ => by assumption) ?_
                try simp only [List.getElem_toArray, List.getElem_cons_zero, List.getElem_cons_succ, Act.put, List.setIfInBounds_toArray, List.set_cons_zero, List.set_cons_succ]
                refine wpAnyL_any (i := 10) (oi := _) (v := undef) rfl (by kernel_rfl) (by kernel_rfl) (by kernel_rfl) (by kernel_rfl) (fun _ _ _ h => (h : False).elim) (Or.inr ⟨by kernel_rfl, rfl⟩) (fun _ => by assumption) ?_
                try simp only [List.getElem_toArray, List.getElem_cons_zero, List.getElem_cons_succ, Act.put, List.setIfInBounds_toArray, List.set_cons_zero, List.set_cons_succ]
                refine wpAnyL_any (i := 11) (oi := _) (v := undef) rfl (by kernel_rfl) (by kernel_rfl) (by kernel_rfl) (by kernel_rfl) (fun _ _ _ h => (h : False).elim) (Or.inr ⟨by kernel_rfl, rfl⟩) (fun _ => by assumption) ?_
                try simp only [List.getElem_toArray, List.getElem_cons_zero, List.getElem_cons_succ, Act.put, List.setIfInBounds_toArray, List.set_cons_zero, List.set_cons_succ]
                refine wpAnyL_any (i := 12) (oi := _) (v := undef) rfl (by kernel_rfl) (by kernel_rfl) (by kernel_rfl) (by kernel_rfl) (fun _ _ _ h => (h : False).elim) (Or.inr ⟨by kernel_rfl, rfl⟩) (fun _ => by assumption) ?_
                try simp only [List.getElem_toArray, List.getElem_cons_zero, List.getElem_cons_succ, Act.put, List.setIfInBounds_toArray, List.set_cons_zero, List.set_cons_succ]
                refine wpAnyL_any (i := 13) (oi := _) (v := undef) rfl (by kernel_rfl) (by kernel_rfl) (by kernel_rfl) (by kernel_rfl) (fun _ _ _ h => (h : False).elim) (Or.inr ⟨by kernel_rfl, rfl⟩) (fun _ => by assumption) ?_
                try simp only [List.getElem_toArray, List.getElem_cons_zero, List.getElem_cons_succ, Act.put, List.setIfInBounds_toArray, List.set_cons_zero, List.set_cons_succ]
                refine wpAnyL_any (i := 14) (oi := _) (v := undef) rfl (by kernel_rfl) (by kernel_rfl) (by kernel_rfl) (by kernel_rfl) (fun _ _ _ h => (h : False).elim) (Or.inr ⟨by kernel_rfl, rfl⟩) (fun _ => by assumption) ?_
                try simp only [List.getElem_toArray, List.getElem_cons_zero, List.getElem_cons_succ, Act.put, List.setIfInBounds_toArray, List.set_cons_zero, List.set_cons_succ]
                refine wpAnyL_any (i := 15) (oi := _) (v := undef) rfl (by kernel_rfl) (by kernel_rfl) (by kernel_rfl) (by kernel_rfl) (fun _ _ _ h => (h : False).elim) (Or.inr ⟨by kernel_rfl, rfl⟩) (fun _ => by assumption) ?_
                try simp only [List.getElem_toArray, List.getElem_cons_zero, List.getElem_cons_succ, Act.put, List.setIfInBounds_toArray, List.set_cons_zero, List.set_cons_succ]
                refine wpAnyL_any (i := 16) (oi := _) (v := undef) rfl (by kernel_rfl) (by kernel_rfl) (by kernel_rfl) (by kernel_rfl) (fun _ _ _ h => (h : False).elim) (Or.inr ⟨by kernel_rfl, rfl⟩) (fun _ => by assumption) ?_
                try simp only [List.getElem_toArray, List.getElem_cons_zero, List.getElem_cons_succ, Act.put, List.setIfInBounds_toArray, List.set_cons_zero, List.set_cons_succ]
                refine wpAnyL_any (i := 17) (oi := _) (v := undef) rfl (by kernel_rfl) (by kernel_rfl) (by kernel_rfl) (by kernel_rfl) (fun _ _ _ h => (h : False).elim) (Or.inr ⟨by kernel_rfl, rfl⟩) (fun _ => by assumption) ?_
                try simp only [List.getElem_toArray, List.getElem_cons_zero, List.getElem_cons_succ, Act.put, List.setIfInBounds_toArray, List.set_cons_zero, List.set_cons_succ]
                refine wpAnyL_any (i := 18) (oi := _) (v := undef) rfl (by kernel_rfl) (by kernel_rfl) (by kernel_rfl) (by kernel_rfl) (fun _ _ _ h => (h : False).elim) (Or.inr ⟨by kernel_rfl, rfl⟩) (fun _ => by assumption) ?_
                try simp only [List.getElem_toArray, List.getElem_cons_zero, List.getElem_cons_succ, Act.put, List.setIfInBounds_toArray, List.set_cons_zero, List.set_cons_succ]
                refine wpAnyL_any (i := 19) (oi := _) (v := undef) rfl (by kernel_rfl) (by kernel_rfl) (by kernel_rfl) (by kernel_rfl) (fun _ _ _ h => (h : False).elim) (Or.inr ⟨by kernel_rfl, rfl⟩) (fun _ => by assumption) ?_
                try simp only [List.getElem_toArray, List.getElem_cons_zero, List.getElem_cons_succ, Act.put, List.setIfInBounds_toArray, List.set_cons_zero, List.set_cons_succ]
                refine wpAnyL_any (i := 20) (oi := _) (v := undef) rfl (by kernel_rfl) (by kernel_rfl) (by kernel_rfl) (by kernel_rfl) (fun _ _ _ h => (h : False).elim) (Or.inr ⟨by kernel_rfl, rfl⟩) (fun _ => by assumption) ?_
                try simp only [List.getElem_toArray, List.getElem_cons_zero, List.getElem_cons_succ, Act.put, List.setIfInBounds_toArray, List.set_cons_zero, List.set_cons_succ]
                refine wpAnyL_any (i := 21) (oi := _) (v := .bool false) rfl (by kernel_rfl) (by kernel_rfl) (by kernel_rfl) (by kernel_rfl) (fun _ _ _ h => (h : False).elim) (Or.inl ⟨by kernel_rfl, ?_⟩) (fun _ => by assumption) ?_
                · intro w _
                  go_simp
                try simp only [List.getElem_toArray, List.getElem_cons_zero, List.getElem_cons_succ, Act.put, List.setIfInBounds_toArray, List.set_cons_zero, List.set_cons_succ]
                refine wpAnyL_done (by kernel_rfl) ?_ _
                refine NoPanic.normal ?_
                go_wp2
                go_roundw
                case rel => exact ⟨k + 1, n + 1, by omega, by go_num, by rw [← World.drewN_drewN]⟩
                case measure => simp [intOf]; omega
            · obtain rfl : k = 0 := by omega
              go_wp2_with fail
              refine wp_region_late (fun _ => True) [] (by kernel_rfl) ?_
              have hS : True := trivial
              refine wpAnyL_any (i := 0) (oi := _) (v := .int .i64 ((0 : Nat) : Int)) rfl (by kernel_rfl) (by kernel_rfl) (by kernel_rfl) (by kernel_rfl) (fun _ _ _ h => (h : False).elim) (Or.inl ⟨by kernel_rfl, ?_⟩) (fun _ => by assumption) ?_
              · intro w _
                go_simp
              try simp only [List.getElem_toArray, List.getElem_cons_zero, List.getElem_cons_succ, Act.put, List.setIfInBounds_toArray, List.set_cons_zero, List.set_cons_succ]
              refine wpAnyL_any (i := 1) (oi := _) (v := .bool false) rfl (by kernel_rfl) (by kernel_rfl) (by kernel_rfl) (by kernel_rfl) (fun _ _ _ h => (h : False).elim) (Or.inl ⟨by kernel_rfl, ?_⟩) (fun _ => by assumption) ?_
              · intro w _
                go_simp
              try simp only [List.getElem_toArray, List.getElem_cons_zero, List.getElem_cons_succ, Act.put, List.setIfInBounds_toArray, List.set_cons_zero, List.set_cons_succ]
              refine wpAnyL_any (i := 2) (oi := _) (v := .bool false) rfl (by kernel_rfl) (by kernel_rfl) (by kernel_rfl) (by kernel_rfl) (fun _ _ _ h => (h : False).elim) (Or.inl ⟨by kernel_rfl, ?_⟩) (fun _ => by assumption) ?_
              · intro w _
                go_simp
              try simp only [List.getElem_toArray, List.getElem_cons_zero, List.getElem_cons_succ, Act.put, List.setIfInBounds_toArray, List.set_cons_zero, List.set_cons_succ]
              refine wpAnyL_any (i := 3) (oi := _) (v := undef) rfl (by kernel_rfl) (by kernel_rfl) (by kernel_rfl) (by kernel_rfl) (fun _ _ _ h => (h : False).elim) (Or.inr ⟨by kernel_rfl, rfl⟩) (fun _ => by assumption) ?_
              try simp only [List.getElem_toArray, List.getElem_cons_zero, List.getElem_cons_succ, Act.put, List.setIfInBounds_toArray, List.set_cons_zero, List.set_cons_succ]
              refine wpAnyL_any (i := 4) (oi := _) (v := undef) rfl (by kernel_rfl) (by kernel_rfl) (by kernel_rfl) (by kernel_rfl) (fun _ _ _ h => (h : False).elim) (Or.inr ⟨by kernel_rfl, rfl⟩) (fun _ => by assumption) ?_
              try simp only [List.getElem_toArray, List.getElem_cons_zero, List.getElem_cons_succ, Act.put, List.setIfInBounds_toArray, List.set_cons_zero, List.set_cons_succ]
              refine wpAnyL_any (i := 5) (oi := _) (v := undef) rfl (by kernel_rfl) (by kernel_rfl) (by kernel_rfl) (by kernel_rfl) (fun _ _ _ h => (h : False).elim) (Or.inr ⟨by kernel_rfl, rfl⟩) (fun _ => by assumption) ?_
              try simp only [List.getElem_toArray, List.getElem_cons_zero, List.getElem_cons_succ, Act.put, List.setIfInBounds_toArray, List.set_cons_zero, List.set_cons_succ]
              refine wpAnyL_any (i := 6) (oi := _) (v := undef) rfl (by kernel_rfl) (by kernel_rfl) (by kernel_rfl) (by kernel_rfl) (fun _ _ _ h => (h : False).elim) (Or.inr ⟨by kernel_rfl, rfl⟩) (fun _ => by assumption) ?_
              try simp only [List.getElem_toArray, List.getElem_cons_zero, List.getElem_cons_succ, Act.put, List.setIfInBounds_toArray, List.set_cons_zero, List.set_cons_succ]
              refine wpAnyL_any (i := 7) (oi := _) (v := .bool false) rfl (by kernel_rfl) (by kernel_rfl) (by kernel_rfl) (by kernel_rfl) (fun _ _ _ h => (h : False).elim) (Or.inl ⟨by kernel_rfl, ?_⟩) (fun _ => by assumption) ?_
              · intro w _
                go_simp
              try simp only [List.getElem_toArray, List.getElem_cons_zero, List.getElem_cons_succ, Act.put, List.setIfInBounds_toArray, List.set_cons_zero, List.set_cons_succ]
              refine wpAnyL_any (i := 8) (oi := _) (v := .bool false) rfl (by kernel_rfl) (by kernel_rfl) (by kernel_rfl) (by kernel_rfl) (fun _ _ _ h => (h : False).elim) (Or.inl ⟨by kernel_rfl, ?_⟩) (fun _ => by assumption) ?_
              · intro w _
                go_simp
              try simp only [List.getElem_toArray, List.getElem_cons_zero, List.getElem_cons_succ, Act.put, List.setIfInBounds_toArray, List.set_cons_zero, List.set_cons_succ]
              refine wpAnyL_any (i := 9) (oi := _) (v := undef) rfl (by kernel_rfl) (by kernel_rfl) (by kernel_rfl) (by kernel_rfl) (fun _ _ _ h => (h : False).elim) (Or.inr ⟨by kernel_rfl, rfl⟩) (fun _ => by assumption) ?_
              try simp only [List.getElem_toArray, List.getElem_cons_zero, List.getElem_cons_succ, Act.put, List.setIfInBounds_toArray, List.set_cons_zero, List.set_cons_succ]
              refine wpAnyL_any (i := 10) (oi := _) (v := undef) rfl (by kernel_rfl) (by kernel_rfl) (by kernel_rfl) (by kernel_rfl) (fun _ _ _ h => (h : False).elim) (Or.inr ⟨by kernel_rfl, rfl⟩) (fun _ => by assumption) ?_
              try simp only [List.getElem_toArray, List.getElem_cons_zero, List.getElem_cons_succ, Act.put, List.setIfInBounds_toArray, List.set_cons_zero, List.set_cons_succ]
              refine wpAnyL_any (i := 11) (oi := _) (v := undef) rfl (by kernel_rfl) (by kernel_rfl) (by kernel_rfl) (by kernel_rfl) (fun _ _ _ h => (h : False).elim) (Or.inr ⟨by kernel_rfl, rfl⟩) (fun _ => by assumption) ?_
              try simp only [List.getElem_toArray, List.getElem_cons_zero, List.getElem_cons_succ, Act.put, List.setIfInBounds_toArray, List.set_cons_zero, List.set_cons_succ]
              refine wpAnyL_any (i := 12) (oi := _) (v := undef) rfl (by kernel_rfl) (by kernel_rfl) (by kernel_rfl) (by kernel_rfl) (fun _ _ _ h => (h : False).elim) (Or.inr ⟨by kernel_rfl, rfl⟩) (fun _ => by assumption) ?_
              try simp only [List.getElem_toArray, List.getElem_cons_zero, List.getElem_cons_succ, Act.put, List.setIfInBounds_toArray, List.set_cons_zero, List.set_cons_succ]
              refine wpAnyL_any (i := 13) (oi := _) (v := undef) rfl (by kernel_rfl) (by kernel_rfl) (by kernel_rfl) (by kernel_rfl) (fun _ _ _ h => (h : False).elim) (Or.inr ⟨by kernel_rfl, rfl⟩) (fun _ => by assumption) ?_
              try simp only [List.getElem_toArray, List.getElem_cons_zero, List.getElem_cons_succ, Act.put, List.setIfInBounds_toArray, List.set_cons_zero, List.set_cons_succ]
              refine wpAnyL_any (i := 14) (oi := _) (v := undef) rfl (by kernel_rfl) (by kernel_rfl) (by kernel_rfl) (by kernel_rfl) (fun _ _ _ h => (h : False).elim) (Or.inr ⟨by kernel_rfl, rfl⟩) (fun _ => by assumption) ?_
              try simp only [List.getElem_toArray, List.getElem_cons_zero, List.getElem_cons_succ, Act.put, List.setIfInBounds_toArray, List.set_cons_zero, List.set_cons_succ]
              refine wpAnyL_any (i := 15) (oi := _) (v := undef) rfl (by kernel_rfl) (by kernel_rfl) (by kernel_rfl) (by kernel_rfl) (fun _ _ _ h => (h : False).elim) (Or.inr ⟨by kernel_rfl, rfl⟩) (fun _ => by assumption) ?_
              try simp only [List.getElem_toArray, List.getElem_cons_zero, List.getElem_cons_succ, Act.put, List.setIfInBounds_toArray, List.set_cons_zero, List.set_cons_succ]
              refine wpAnyL_any (i := 16) (oi := _) (v := undef) rfl (by kernel_rfl) (by kernel_rfl) (by kernel_rfl) (by kernel_rfl) (fun _ _ _ h => (h : False).elim) (Or.inr ⟨by kernel_rfl, rfl⟩) (fun _ => by assumption) ?_
              try simp only [List.getElem_toArray, List.getElem_cons_zero, List.getElem_cons_succ, Act.put, List.setIfInBounds_toArray, List.set_cons_zero, List.set_cons_succ]
              refine wpAnyL_any (i := 17) (oi := _) (v := undef) rfl (by kernel_rfl) (by kernel_rfl) (by kernel_rfl) (by kernel_rfl) (fun _ _ _ h => (h : False).elim) (Or.inr ⟨by kernel_rfl, rfl⟩) (fun _ => by assumption) ?_
              try simp only [List.getElem_toArray, List.getElem_cons_zero, List.getElem_cons_succ, Act.put, List.setIfInBounds_toArray, List.set_cons_zero, List.set_cons_succ]
              refine wpAnyL_any (i := 18) (oi := _) (v := undef) rfl (by kernel_rfl) (by kernel_rfl) (by kernel_rfl) (by kernel_rfl) (fun _ _ _ h => (h : False).elim) (Or.inr ⟨by kernel_rfl, rfl⟩) (fun _ => by assumption) ?_
              try simp only [List.getElem_toArray, List.getElem_cons_zero, List.getElem_cons_succ, Act.put, List.setIfInBounds_toArray, List.set_cons_zero, List.set_cons_succ]
              refine wpAnyL_any (i := 19) (oi := _) (v := undef) rfl (by kernel_rfl) (by kernel_rfl) (by kernel_rfl) (by kernel_rfl) (fun _ _ _ h => (h : False).elim) (Or.inr ⟨by kernel_rfl, rfl⟩) (fun _ => by assumption) ?_
              try simp only [List.getElem_toArray, List.getElem_cons_zero, List.getElem_cons_succ, Act.put, List.setIfInBounds_toArray, List.set_cons_zero, List.set_cons_succ]
              refine wpAnyL_any (i := 20) (oi := _) (v := undef) rfl (by kernel_rfl) (by kernel_rfl) (by kernel_rfl) (by kernel_rfl) (fun _ _ _ h => (h : False).elim) (Or.inr ⟨by kernel_rfl, rfl⟩) (fun _ => by assumption) ?_
              try simp only [List.getElem_toArray, List.getElem_cons_zero, List.getElem_cons_succ, Act.put, List.setIfInBounds_toArray, List.set_cons_zero, List.set_cons_succ]
              refine wpAnyL_any (i := 21) (oi := _) (v := .bool false) rfl (by kernel_rfl) (by kernel_rfl) (by kernel_rfl) (by kernel_rfl) (fun _ _ _ h => (h : False).elim) (Or.inl ⟨by kernel_rfl, ?_⟩) (fun _ => by assumption) ?_
              · intro w _
                go_simp
              try simp only [List.getElem_toArray, List.getElem_cons_zero, List.getElem_cons_succ, Act.put, List.setIfInBounds_toArray, List.set_cons_zero, List.set_cons_succ]
              refine wpAnyL_done (by kernel_rfl) ?_ _
              refine NoPanic.normal ?_
              go_wp2
              go_roundw
              case rel => exact ⟨0 + 1, n + 1, by omega, by go_num, by rw [← World.drewN_drewN]⟩
              case measure => simp [intOf]; omega
          · obtain rfl : l.length = k := by omega
            clear hlt
            go_wp2_with fail
            refine (alive_calls _).mono ?_; rintro e w5 ⟨rfl, hk5⟩
            go_wp2
            go_ret
            exact ⟨rfl, (HK4.out.drewN n).trans hk5 (fun _ _ h => h)⟩
  · have hl' : (l.length : Int) > 100 := by omega
    go_enter Try.func4, Try.ntmps4
    go_wp2_with fail
    refine (alive_calls _).mono ?_; rintro e w3 ⟨rfl, hk3⟩
    go_wp2
    go_ret
    exact ⟨rfl, hk3⟩
end Go.Proofs.Ytbgjfibninccdaa.so
