/- slices.Grow, Concat and Reverse of records; the law SortingForgetsOrder. -/
import Derived.Test.YtbgjfibninccdaaSortI
import Derived.Lib.AppendZeros
set_option linter.unusedSimpArgs false
set_option linter.unusedVariables false
namespace Go.Proofs.Ytbgjfibninccdaa.so
open Go Go.RowKit Go.Shelf Go.Maps Go.Proofs.Ytbgjfibninccdaa.mk Go.Proofs.Ytbgjfibninccdaa.nw Go.Proofs.Ytbgjfibninccdaa.tp Go.Proofs.Ytbgjfibninccdaa.rg Go.Proofs.Ytbgjfibninccdaa.ar

def argR (w : World) (v : Value) (l : List Rec) : Prop := recAt w v l ∧ (∀ n c, v = .slice none n c → n = 0 ∧ c = 0)
theorem recAt.shape {w : World} {v : Value} {l : List Rec} (h : recAt w v l) : ∃ ao cap, v = .slice ao l.length cap := by
  rcases h with ⟨rfl, ao, cap, rfl⟩ | ⟨_, b, off, cap, rfl, _⟩
  · exact ⟨_, _, rfl⟩
  · exact ⟨_, _, rfl⟩
theorem argR_kept {w w' : World} {v : Value} {l : List Rec} (h : argR w v l) (hk : Keeps (fun _ => False) w w') : argR w' v l := ⟨h.1.kept hk, h.2⟩
theorem argR.src {w : World} {ao : Option Addr} {n c : Nat} {l : List Rec} (h : argR w (.slice ao n c) l) : n = l.length ∧ (ao = none → n = 0 ∧ c = 0) ∧ ∀ ad, ao = some ad → ∀ j u, (rflat l)[j]? = some u → w.cell? (ad.add j) = some u := by
  obtain ⟨h1, h2⟩ := h
  refine ⟨?_, fun he => by subst he; exact h2 n c rfl, ?_⟩
  · obtain ⟨_, _, e⟩ := h1.shape
    injection e
  · rintro ad rfl j u hj
    rcases h1 with ⟨rfl, _⟩ | ⟨_, b, off, cap, e, _, hc⟩
    · simp [rflat] at hj
    · injection e with e1 _ _
      injection e1 with e1
      rw [e1]
      exact rec_cells (cap := cap) hc j u hj

theorem rgrow_calls (n : Nat) (hn : n ≤ 1000000) (w : World) :
    Calls Try.prog 45 #[.slice none 0 0, .int .i64 n] w fun e w' => ∃ v, e = .returned v ∧ w'.ownsRow w.heap.size 24 2 v 0 [] ∧ Keeps (fun _ => False) w w' := by
  by_cases h0 : n = 0
  · subst h0
    go_enter Try.func45, Try.ntmps45
    go_wp2
    go_ret
    exact ⟨_, rfl, World.ownsRow_nil _ _ _ _, Keeps.refl _ _⟩
  · have h1 : (0 : Int) < (n : Int) := by omega
    obtain ⟨i0, hi, hz0, hz1, hz2⟩ := info_parts infoRec
    have hr := fun ty => Lib.run_append_nil_zeros (P := Try.prog) w 30 3 ty 24 i0 (.agg #[.int .u64 0, .int .u64 0]) .i64 .i64 Try.underlying30 Try.underlying3 hi hz0 n (by omega) (by omega) (by omega) (by rw [hz2]; omega)
    have hG := grownCap_ge w n 0 24
    have hG2 := grownCap_le_maxLen w n 0 24 (by unfold maxLen; omega)
    generalize grownCap w n 0 24 = G at hr hG hG2
    have hk : Keeps (fun _ => False) w (w.drew.alloc (.cells (Builtin.zeroCells (Value.agg #[.int .u64 0, .int .u64 0]).cells n ++ Builtin.zeroCells (Value.agg #[.int .u64 0, .int .u64 0]).cells (G - n)) 24)) := ((Keeps.refl _ w).drew).alloc _
    have hrow : (w.drew.alloc (.cells (Builtin.zeroCells (Value.agg #[.int .u64 0, .int .u64 0]).cells n ++ Builtin.zeroCells (Value.agg #[.int .u64 0, .int .u64 0]).cells (G - n)) 24)).ownsRow w.heap.size 24 2 (.slice (some ⟨w.heap.size, 0, none⟩) 0 G) 0 [] := by
      refine ⟨rfl, .inr ⟨w.heap.size, G, _, rfl, Nat.le_refl _, heap_alloc_new w.drew _, Nat.zero_le _, hG2, ?_, by simp⟩⟩
      rw [Array.size_append, size_zeroCells, size_zeroCells, show (Value.agg #[.int .u64 0, .int .u64 0]).cells.size = 2 from rfl]
      omega
    generalize w.drew.alloc (.cells (Builtin.zeroCells (Value.agg #[.int .u64 0, .int .u64 0]).cells n ++ Builtin.zeroCells (Value.agg #[.int .u64 0, .int .u64 0]).cells (G - n)) 24) = W at hr hk hrow
    go_enter Try.func45, Try.ntmps45
    go_wp2_with (at_builtin; refine Lib.wpList_append_run _ rfl _ _ _ _ rfl _ _ rfl rfl _ _ (hr _) ?_)
    go_wp2
    go_ret
    exact ⟨_, rfl, hrow, hk⟩

/-- The events of some slices, one behind the other. -/
def catR (vs : List (Value × List Rec)) : List Rec := vs.flatMap fun p => p.2
theorem catR_step {vs : List (Value × List Rec)} {k : Nat} {p : Value × List Rec} (h : vs[k]? = some p) : catR (vs.take (k + 1)) = catR (vs.take k) ++ p.2 := by
  unfold catR
  rw [List.take_add_one, h, List.flatMap_append]
  simp
theorem catR_le (vs : List (Value × List Rec)) (k : Nat) : (catR (vs.take k)).length ≤ (catR vs).length := by
  have h : catR vs = catR (vs.take k) ++ catR (vs.drop k) := by
    unfold catR
    rw [← List.flatMap_append, List.take_append_drop]
  rw [h, List.length_append]
  omega
set_option maxHeartbeats 1000000 in
theorem rconcat_calls (B : Nat) (vs : List (Value × List Rec)) (cp : Nat) (w : World) (hn : vs.length ≤ 1000) (hB : vs ≠ [] → B < w.heap.size) (hcell : ∀ (i : Nat) p, vs[i]? = some p → w.cell? ⟨B, i, none⟩ = some p.1) (hev : ∀ p ∈ vs, argR w p.1 p.2) (htot : (catR vs).length ≤ 100000) :
    Calls Try.prog 28 #[.slice (some ⟨B, 0, none⟩) vs.length cp] w fun e w' => ∃ v, e = .returned v ∧ w'.ownsRow w.heap.size 24 2 v (catR vs).length (rflat (catR vs)) ∧ Keeps (fun _ => False) w w' := by
  obtain ⟨i0, hi, hz0, hz1, hz2⟩ := info_parts infoRec
  have Hc := Lib.hid hcell
  have He := Lib.hid hev
  clear hcell hev
  go_enter Try.func28, Try.ntmps28
  go_wp2
  go_loop [3, 11] (fun s i => ∃ k : Nat, k ≤ vs.length ∧ i = .int .i64 k ∧ s = .int .i64 ((catR (vs.take k)).length : Nat)) (fun _ i => vs.length - (intOf i).toNat)
  case atStart => exact ⟨0, Nat.zero_le _, rfl, rfl⟩
  case round =>
    obtain ⟨k, hk, rfl, rfl⟩ := hrel
    by_cases hlt : k < vs.length
    · have hlt' : (k : Int) < (vs.length : Int) := by omega
      obtain ⟨p, hp⟩ : ∃ p, vs[k]? = some p := ⟨vs[k], by simp [hlt]⟩
      have p0 := Hc.out k p hp
      obtain ⟨ao, cap, hv⟩ := (He.out p (List.mem_of_getElem? hp)).1.shape
      rw [hv] at p0
      have hs := congrArg List.length (catR_step hp)
      rw [List.length_append] at hs
      have hle := catR_le vs (k + 1)
      have hle0 := catR_le vs k
      have Hs := Lib.hid hs
      have hsum : (((catR (vs.take k)).length : Nat) : Int) + (p.2.length : Nat) = ((catR (vs.take (k + 1))).length : Nat) := by omega
      have hpos : ¬ ((((catR (vs.take k)).length : Nat) : Int) + (p.2.length : Nat) < 0) := by omega
      clear hs
      go_wp2
      go_round
      case rel => exact ⟨k + 1, by omega, by go_num, by rw [Hs.out]⟩
      case measure => simp [intOf]; omega
    · obtain rfl : k = vs.length := by omega
      rw [List.take_length]
      go_wp2_with fail
      refine (rgrow_calls (catR vs).length (by omega) _).mono ?_; rintro e w1 ⟨v1, rfl, hr1, hk1⟩
      go_wp2_with fail
      go_loopw [6, 27] (fun v i wr => ∃ k : Nat, k ≤ vs.length ∧ i = .int .i64 k ∧ wr.ownsRow w.heap.size 24 2 v (catR (vs.take k)).length (rflat (catR (vs.take k))) ∧ Keeps (fun _ => False) w wr) (fun _ i _ => vs.length - (intOf i).toNat)
      case atStart => exact ⟨0, Nat.zero_le _, rfl, hr1, hk1⟩
      case round =>
        obtain ⟨k, hk, rfl, hrow, hK⟩ := hrel
        by_cases hlt : k < vs.length
        · have hlt' : (k : Int) < (vs.length : Int) := by omega
          obtain ⟨p, hp⟩ : ∃ p, vs[k]? = some p := ⟨vs[k], by simp [hlt]⟩
          have hne : vs ≠ [] := by intro e; rw [e] at hp; simp at hp
          have p0 : wr.cell? ⟨B, k, none⟩ = some p.1 := (hK.cell (p := ⟨B, k, none⟩) (hB hne) (fun h => h)).trans (Hc.out k p hp)
          have ha := argR_kept (He.out p (List.mem_of_getElem? hp)) hK
          obtain ⟨pv, pl⟩ := p
          obtain ⟨ao, cap, hv⟩ := ha.1.shape
          simp only at hv ha p0
          subst hv
          obtain ⟨_, hs1, hs2⟩ := ha.src
          have hsz := hK.size
          have hle := catR_le vs (k + 1)
          have hst := catR_step hp
          have hlen := congrArg List.length hst
          rw [List.length_append] at hlen
          have Hst := Lib.hid hst
          have Hlen := Lib.hid hlen
          clear hst hlen hp
          go_wp2_with (at_builtin; refine wpList_append_src _ rfl _ _ 30 rfl w.heap.size 24 i0 (.agg #[.int .u64 0, .int .u64 0]) 2 16 Try.underlying30 hi hz0 hz1 hz2 rfl (by decide) _ _ _ rfl hrow ao pl.length cap (rflat pl) rfl hs1 (rflat_length pl) hs2 (rflat_one pl) (by have := Hlen.out; unfold maxLen; simp only at this; omega) (by have := Hlen.out; simp only at this; omega) hsz ?_)
          intro v2 w2 hown2 hgrow2
          have hK2 : Keeps (fun _ => False) w w2 := hK.grown hgrow2 (fun g hg hlt => by have := hrow.lt g hg; omega)
          go_wp2
          go_roundw
          case rel => exact ⟨k + 1, by omega, by go_num, by rw [Hlen.out, Hst.out, rflat_append]; exact hown2, hK2⟩
          case measure => simp [intOf]; omega
        · obtain rfl : k = vs.length := by omega
          rw [List.take_length] at hrow
          go_wp2
          go_ret
          exact ⟨_, rfl, hrow, hK⟩

/-! ### Reverse: some list with the same elements -/
set_option maxRecDepth 100000 in
set_option maxHeartbeats 2000000 in
theorem reverse_calls (g n cap base : Nat) (l : List Rec) (hn : l.length = n) (hn1 : n ≤ 1000) (w : World) (h : w.ownsRow base 24 2 (.slice (some ⟨g, 0, none⟩) n cap) n (rflat l)) :
    Calls Try.prog 29 #[.slice (some ⟨g, 0, none⟩) n cap] w fun e w' => e = .returned (.tuple #[]) ∧ (∃ l', l'.Perm l ∧ w'.ownsRow base 24 2 (.slice (some ⟨g, 0, none⟩) n cap) n (rflat l')) ∧ Keeps (fun i => i = g) w w' := by
  have H := Lib.hid h
  clear h
  go_enter Try.func29, Try.ntmps29
  go_wp2
  go_loopw [2, 3] (fun i j wr => ∃ (k : Nat) (jj : Int) (l' : List Rec), i = .int .i64 k ∧ j = .int .i64 jj ∧ k ≤ n ∧ jj ≤ (n : Int) - 1 ∧ -1 ≤ jj ∧ l'.Perm l ∧ wr.ownsRow base 24 2 (.slice (some ⟨g, 0, none⟩) n cap) n (rflat l') ∧ Keeps (fun i => i = g) w wr) (fun i j _ => (intOf j - intOf i).toNat)
  case atStart => exact ⟨0, (n : Int) - 1, l, rfl, by go_num, Nat.zero_le _, by omega, by omega, List.Perm.refl _, H.out, Keeps.refl _ _⟩
  case round =>
    obtain ⟨k, jj, l', rfl, rfl, hk, hj1, hj2, hp, hrow, hkp⟩ := hrel
    by_cases hlt : (k : Int) < jj
    · obtain ⟨q, rfl⟩ : ∃ q : Nat, jj = (q : Int) := ⟨jj.toNat, by omega⟩
      have hl' : l'.length = n := by rw [hp.length_eq, hn]
      have hkq : k < q := by omega
      have hqn : q < n := by omega
      obtain ⟨rk, hrk⟩ : ∃ r, l'[k]? = some r := ⟨l'[k]'(by omega), by simp⟩
      obtain ⟨rq, hrq⟩ : ∃ r, l'[q]? = some r := ⟨l'[q]'(by omega), by simp⟩
      have gk := rflat_get l' k rk hrk
      have gq := rflat_get l' q rq hrq
      have c0 := (hrow.cellAt (k * 2) (by omega)).trans gk.1
      have c1 := (hrow.cellAt (k * 2 + 1) (by omega)).trans gk.2
      have c2 := (hrow.cellAt (q * 2) (by omega)).trans gq.1
      have c3 := (hrow.cellAt (q * 2 + 1) (by omega)).trans gq.2
      have e0 := hrow.frozenAt (k * 2)
      have e1 := hrow.frozenAt (k * 2 + 1)
      have e2 := hrow.frozenAt (q * 2)
      have e3 := hrow.frozenAt (q * 2 + 1)
      have n0 : ¬ k * 2 = q * 2 := by omega
      have n1 : ¬ k * 2 + 1 = q * 2 := by omega
      have n2 : ¬ k * 2 = q * 2 + 1 := by omega
      have n3 : ¬ k * 2 + 1 = q * 2 + 1 := by omega
      have hst := ((((hrow.stored (k * 2) (.int .u64 rq.1)).1.stored (k * 2 + 1) (.int .u64 rq.2)).1.stored (q * 2) (.int .u64 rk.1)).1.stored (q * 2 + 1) (.int .u64 rk.2)).1
      rw [← rflat_set l' k rq (by omega), ← rflat_set _ q rk (by rw [List.length_set]; omega)] at hst
      have hp2 : ((l'.set k rq).set q rk).Perm l' := by
        have a1 := (List.getElem?_eq_some_iff.1 hrk)
        have a2 := (List.getElem?_eq_some_iff.1 hrq)
        obtain ⟨b1, b2⟩ := a1
        obtain ⟨d1, d2⟩ := a2
        rw [← b2, ← d2]
        exact List.set_set_perm b1 d1
      have Hst := Lib.hid hst
      have Hp := Lib.hid (hp2.trans hp)
      have Hkp := Lib.hid hkp
      have hk0 : (0 : Int) ≤ (k : Int) := by omega
      have hq0 : (0 : Int) ≤ (q : Int) := by omega
      have hkn : (k : Int) < (n : Int) := by omega
      have hqn' : (q : Int) < (n : Int) := by omega
      clear hst hp hp2 hrow hkp hrk hrq gk gq
      go_wp2_with fail
      refine wp_region_late (fun W => W.cell? ⟨g, k * 2, none⟩ = some (.int .u64 rk.1) ∧ W.cell? ⟨g, k * 2 + 1, none⟩ = some (.int .u64 rk.2) ∧ W.cell? ⟨g, q * 2, none⟩ = some (.int .u64 rq.1) ∧ W.cell? ⟨g, q * 2 + 1, none⟩ = some (.int .u64 rq.2)) [13] (by kernel_rfl) ?_
      have hS : wr.drew.cell? ⟨g, k * 2, none⟩ = some (.int .u64 rk.1) ∧ wr.drew.cell? ⟨g, k * 2 + 1, none⟩ = some (.int .u64 rk.2) ∧ wr.drew.cell? ⟨g, q * 2, none⟩ = some (.int .u64 rq.1) ∧ wr.drew.cell? ⟨g, q * 2 + 1, none⟩ = some (.int .u64 rq.2) := ⟨c0, c1, c2, c3⟩
      refine wpAnyL_any (i := 0) (oi := _) (v := .slice (some ⟨g, 0, none⟩) n cap) rfl (by kernel_rfl) (by kernel_rfl) (by kernel_rfl) (by kernel_rfl) (fun _ _ _ h => (h : False).elim) (Or.inl ⟨by kernel_rfl, ?_⟩) (fun _ => by assumption) ?_
      · intro w _
        go_simp
      try simp only [List.getElem_toArray, List.getElem_cons_zero, List.getElem_cons_succ, Act.put, List.setIfInBounds_toArray, List.set_cons_zero, List.set_cons_succ]
      refine wpAnyL_any (i := 1) (oi := _) (v := .int .i64 (k : Int)) rfl (by kernel_rfl) (by kernel_rfl) (by kernel_rfl) (by kernel_rfl) (fun _ _ _ h => (h : False).elim) (Or.inl ⟨by kernel_rfl, ?_⟩) (fun _ => by assumption) ?_
      · intro w _
        go_simp
      try simp only [List.getElem_toArray, List.getElem_cons_zero, List.getElem_cons_succ, Act.put, List.setIfInBounds_toArray, List.set_cons_zero, List.set_cons_succ]
      refine wpAnyL_any (i := 2) (oi := _) (v := .slice (some ⟨g, 0, none⟩) n cap) rfl (by kernel_rfl) (by kernel_rfl) (by kernel_rfl) (by kernel_rfl) (fun _ _ _ h => (h : False).elim) (Or.inl ⟨by kernel_rfl, ?_⟩) (fun _ => by assumption) ?_
      · intro w _
        go_simp
      try simp only [List.getElem_toArray, List.getElem_cons_zero, List.getElem_cons_succ, Act.put, List.setIfInBounds_toArray, List.set_cons_zero, List.set_cons_succ]
      refine wpAnyL_any (i := 3) (oi := _) (v := .int .i64 (q : Int)) rfl (by kernel_rfl) (by kernel_rfl) (by kernel_rfl) (by kernel_rfl) (fun _ _ _ h => (h : False).elim) (Or.inl ⟨by kernel_rfl, ?_⟩) (fun _ => by assumption) ?_
      · intro w _
        go_simp
      try simp only [List.getElem_toArray, List.getElem_cons_zero, List.getElem_cons_succ, Act.put, List.setIfInBounds_toArray, List.set_cons_zero, List.set_cons_succ]
      refine wpAnyL_any (i := 4) (oi := _) (v := .slice (some ⟨g, 0, none⟩) n cap) rfl (by kernel_rfl) (by kernel_rfl) (by kernel_rfl) (by kernel_rfl) (fun _ _ _ h => (h : False).elim) (Or.inl ⟨by kernel_rfl, ?_⟩) (fun _ => by assumption) ?_
      · intro w _
        go_simp
      try simp only [List.getElem_toArray, List.getElem_cons_zero, List.getElem_cons_succ, Act.put, List.setIfInBounds_toArray, List.set_cons_zero, List.set_cons_succ]
      refine wpAnyL_any (i := 5) (oi := _) (v := .int .i64 (q : Int)) rfl (by kernel_rfl) (by kernel_rfl) (by kernel_rfl) (by kernel_rfl) (fun _ _ _ h => (h : False).elim) (Or.inl ⟨by kernel_rfl, ?_⟩) (fun _ => by assumption) ?_
      · intro w _
        go_simp
      try simp only [List.getElem_toArray, List.getElem_cons_zero, List.getElem_cons_succ, Act.put, List.setIfInBounds_toArray, List.set_cons_zero, List.set_cons_succ]
      refine wpAnyL_any (i := 6) (oi := _) (v := .pointer (some ⟨g, q * 2, none⟩)) rfl (by kernel_rfl) (by kernel_rfl) (by kernel_rfl) (by kernel_rfl) (fun _ _ _ h => (h : False).elim) (Or.inl ⟨by kernel_rfl, ?_⟩) (fun _ => by assumption) ?_
      · intro w _
        go_simp
      try simp only [List.getElem_toArray, List.getElem_cons_zero, List.getElem_cons_succ, Act.put, List.setIfInBounds_toArray, List.set_cons_zero, List.set_cons_succ]
      refine wpAnyL_take (i := 7) (oi := _) (v := .agg #[.int .u64 rq.1, .int .u64 rq.2]) rfl (by kernel_rfl) (by kernel_rfl) (by kernel_rfl) (by kernel_rfl) (fun _ _ _ h => (h : False).elim) (Or.inl ⟨by kernel_rfl, ?_⟩) (by assumption) ?_
      · intro w hSw
        obtain ⟨s0, s1, s2, s3⟩ := hSw
        go_simp
      try simp only [List.getElem_toArray, List.getElem_cons_zero, List.getElem_cons_succ, Act.put, List.setIfInBounds_toArray, List.set_cons_zero, List.set_cons_succ]
      refine wpAnyL_any (i := 8) (oi := _) (v := .slice (some ⟨g, 0, none⟩) n cap) rfl (by kernel_rfl) (by kernel_rfl) (by kernel_rfl) (by kernel_rfl) (fun _ _ _ h => (h : False).elim) (Or.inl ⟨by kernel_rfl, ?_⟩) (fun _ => by assumption) ?_
      · intro w _
        go_simp
      try simp only [List.getElem_toArray, List.getElem_cons_zero, List.getElem_cons_succ, Act.put, List.setIfInBounds_toArray, List.set_cons_zero, List.set_cons_succ]
      refine wpAnyL_any (i := 9) (oi := _) (v := .int .i64 (k : Int)) rfl (by kernel_rfl) (by kernel_rfl) (by kernel_rfl) (by kernel_rfl) (fun _ _ _ h => (h : False).elim) (Or.inl ⟨by kernel_rfl, ?_⟩) (fun _ => by assumption) ?_
      · intro w _
        go_simp
      try simp only [List.getElem_toArray, List.getElem_cons_zero, List.getElem_cons_succ, Act.put, List.setIfInBounds_toArray, List.set_cons_zero, List.set_cons_succ]
      refine wpAnyL_any (i := 10) (oi := _) (v := .pointer (some ⟨g, k * 2, none⟩)) rfl (by kernel_rfl) (by kernel_rfl) (by kernel_rfl) (by kernel_rfl) (fun _ _ _ h => (h : False).elim) (Or.inl ⟨by kernel_rfl, ?_⟩) (fun _ => by assumption) ?_
      · intro w _
        go_simp
      try simp only [List.getElem_toArray, List.getElem_cons_zero, List.getElem_cons_succ, Act.put, List.setIfInBounds_toArray, List.set_cons_zero, List.set_cons_succ]
      refine wpAnyL_take (i := 11) (oi := _) (v := .agg #[.int .u64 rk.1, .int .u64 rk.2]) rfl (by kernel_rfl) (by kernel_rfl) (by kernel_rfl) (by kernel_rfl) (fun _ _ _ h => (h : False).elim) (Or.inl ⟨by kernel_rfl, ?_⟩) (by assumption) ?_
      · intro w hSw
        obtain ⟨s0, s1, s2, s3⟩ := hSw
        go_simp
      try simp only [List.getElem_toArray, List.getElem_cons_zero, List.getElem_cons_succ, Act.put, List.setIfInBounds_toArray, List.set_cons_zero, List.set_cons_succ]
      refine wpAnyL_any (i := 12) (oi := _) (v := .pointer (some ⟨g, k * 2, none⟩)) rfl (by kernel_rfl) (by kernel_rfl) (by kernel_rfl) (by kernel_rfl) (fun _ _ _ h => (h : False).elim) (Or.inl ⟨by kernel_rfl, ?_⟩) (fun _ => by assumption) ?_
      · intro w _
        go_simp
      try simp only [List.getElem_toArray, List.getElem_cons_zero, List.getElem_cons_succ, Act.put, List.setIfInBounds_toArray, List.set_cons_zero, List.set_cons_succ]
      refine wpAnyL_late (i := 13) (by kernel_rfl) rfl (by kernel_rfl) (fun K hK => ?_)
      go_simp
      refine hK.out _ _ (fun _ => ?_)
      clear hK K
      try simp only [List.getElem_toArray, List.getElem_cons_zero, List.getElem_cons_succ, Act.put, List.setIfInBounds_toArray, List.set_cons_zero, List.set_cons_succ]
      refine wpAnyL_after (i := 14) (oi := _) (v := .pointer (some ⟨g, q * 2, none⟩)) rfl (by kernel_rfl) (by kernel_rfl) (by kernel_rfl) (by kernel_rfl) (by kernel_rfl) (fun _ _ _ h => (h : False).elim) (Or.inl ⟨by kernel_rfl, ?_⟩) ?_
      · intro w _
        go_simp
      try simp only [List.getElem_toArray, List.getElem_cons_zero, List.getElem_cons_succ, Act.put, List.setIfInBounds_toArray, List.set_cons_zero, List.set_cons_succ]
      refine wpAnyL_late (i := 15) (by kernel_rfl) rfl (by kernel_rfl) (fun K hK => ?_)
      go_simp
      refine hK.out _ _ (fun _ => ?_)
      clear hK K
      try simp only [List.getElem_toArray, List.getElem_cons_zero, List.getElem_cons_succ, Act.put, List.setIfInBounds_toArray, List.set_cons_zero, List.set_cons_succ]
      refine wpAnyL_done (by kernel_rfl) ?_ _
      refine NoPanic.normal ?_
      have Hk6 := Lib.hid (((((Hkp.out.setCell ⟨g, k * 2, none⟩ (fun _ => rfl) (.int .u64 rq.1)).setCell ⟨g, k * 2 + 1, none⟩ (fun _ => rfl) (.int .u64 rq.2)).setCell ⟨g, q * 2, none⟩ (fun _ => rfl) (.int .u64 rk.1)).setCell ⟨g, q * 2 + 1, none⟩ (fun _ => rfl) (.int .u64 rk.2)).drewN 1)
      clear hS c0 c1 c2 c3 e0 e1 e2 e3
      go_wp2
      go_roundw
      case rel => exact ⟨k + 1, (q : Int) - 1, _, by go_num, by go_num, by omega, by omega, by omega, Hp.out, Hst.out, Hk6.out⟩
      case measure => simp [intOf]; omega
    · have Hp := Lib.hid hp
      have Hrow := Lib.hid hrow
      have Hkp := Lib.hid hkp
      clear hp hrow hkp
      go_wp2
      go_end0
      exact ⟨rfl, ⟨_, Hp.out, Hrow.out⟩, Hkp.out⟩
/-! ### ForgetsOrder -/
theorem sortR_perm {l l' : List Rec} (h : l'.Perm l) : sortR l' = sortR l := by
  unfold sortR
  rw [sorted_unique (sortK_sorted l') (sortK_sorted l) ((sortK_perm l').trans ((h.map keyR).trans (sortK_perm l).symm))]
theorem sortR_idem {l : List Rec} (hok : Recs l) : sortR (sortR l) = sortR l := by
  have hm : (sortR l).map keyR = sortK l := by
    unfold sortR
    rw [List.map_map]
    have : ∀ k ∈ sortK l, (keyR ∘ unkey) k = k := fun k hk => key_unkey (sortK_isK hok k hk).1 (sortK_isK hok k hk).2
    rw [List.map_congr_left this, List.map_id']
  unfold sortR
  rw [show sortK (List.map unkey (sortK l)) = sortK l from sorted_unique (sortK_sorted _) (sortK_sorted l) ((sortK_perm _).trans (by rw [show List.map keyR (List.map unkey (sortK l)) = sortK l from hm]))]
theorem nilq (w : World) : qAt w (fun _ => False) none [] := .inl ⟨rfl, rfl⟩
theorem rec_row' {w : World} {base : Nat} {v : Value} {l : List Rec} (h : w.ownsRow base 24 2 v l.length (rflat l)) : recAt w v l := by
  rcases h.2 with ⟨he, h0⟩ | ⟨g, c, cur, he, _⟩
  · exact .inl ⟨List.eq_nil_of_length_eq_zero h0, none, 0, he⟩
  · rw [he] at h ⊢
    exact rec_of_row (c := c) h rfl l (fun i r h => h)
set_option maxRecDepth 100000 in
set_option maxHeartbeats 2000000 in
theorem forgets_law (v : Value) (l : List Rec) (x : Int) (w : World) (hv : recAt w v l) (hcap : ∀ ao n c, v = .slice ao n c → n ≤ c ∧ c ≤ 9223372036854775807) (hok : Recs l) (hx0 : 0 ≤ x) (hx1 : x < 256) : Calls Try.prog 8 #[v, .int .u8 x] w (Yes w) := by
  obtain ⟨ao, cap, hva⟩ := hv.shape
  subst hva
  by_cases hl : l.length ≤ 100
  · have hl' : ¬ (l.length : Int) > 100 := by omega
    have hle : (l.length : Int) ≤ 100 := by omega
    by_cases h0 : l.length = 0
    · have h0' : ((l.length : Int) == 0) = true := by rw [beq_iff_eq]; omega
      clear hv
      go_enter Try.func8, Try.ntmps8
      go_wp2_with fail
      refine (alive_calls _).mono ?_; rintro e w3 ⟨rfl, hk3⟩
      go_wp2
      go_ret
      exact ⟨rfl, hk3⟩
    · have h0' : ((l.length : Int) == 0) = false := by rw [beq_eq_false_iff_ne]; omega
      have hlp : 0 < l.length := by omega
      have hlp' : (0 : Int) < (l.length : Int) := by omega
      obtain ⟨hc1, hc2⟩ := hcap ao l.length cap rfl
      rcases hv with ⟨he, _⟩ | ⟨hne, b, off, cap', he, hb, hc⟩
      · rw [he] at h0; exact absurd rfl h0
      injection he with he1 _ he3
      subst he1
      subst he3
      have hm := Int.emod_lt_of_pos x hlp'
      have hm0 := Int.emod_nonneg x (show (l.length : Int) ≠ 0 by omega)
      obtain ⟨i, hi⟩ : ∃ i : Nat, x % (l.length : Int) = (i : Int) := ⟨(x % (l.length : Int)).toNat, by omega⟩
      have hil : i < l.length := by omega
      have ht : x.tmod (l.length : Int) = (i : Int) := by rw [Int.tmod_eq_emod_of_nonneg hx0, hi]
      have hil' : (i : Int) < (l.length : Int) := by omega
      have hil2 : (i : Int) ≤ (l.length : Int) := by omega
      have hi0 : (0 : Int) ≤ (i : Int) := by omega
      have hicap : (i : Int) ≤ (cap : Int) := by omega
      have hlcap : (l.length : Int) ≤ (cap : Int) := by omega
      have hcapm : (cap : Int) ≤ 9223372036854775807 := by omega
      have hne2 : ¬ cap = i := by omega
      have HC := Lib.hid hc
      clear hc hm hm0 hi hcap
      go_enter Try.func8, Try.ntmps8
      go_wp2_with fail
      go_still_tail 6, (by kernel_rfl)
      go_wp2_with fail
      obtain ⟨w1, hw1⟩ : ∃ w1, (w.alloc (.cells #[.slice (some ⟨b, off + i * 2, none⟩) (l.length - i) (cap - i), .slice (some ⟨b, off, none⟩) i cap] 30)).drew = w1 := ⟨_, rfl⟩
      have hnew : w1.heap[w.heap.size]? = some (.cells #[.slice (some ⟨b, off + i * 2, none⟩) (l.length - i) (cap - i), .slice (some ⟨b, off, none⟩) i cap] 30 (0, 0)) := by rw [← hw1]; exact heap_alloc_new w _
      have hk1 : Keeps (fun _ => False) w w1 := by rw [← hw1]; exact ((Keeps.refl _ w).alloc _).drewN 1
      rw [hw1]
      have hdl : (l.drop i).length = l.length - i := List.length_drop
      have htl : (l.take i).length = i := by rw [List.length_take]; omega
      have ha1 : argR w1 (.slice (some ⟨b, off + i * 2, none⟩) (l.length - i) (cap - i)) (l.drop i) := by
        refine ⟨.inr ⟨fun h => by rw [h] at hdl; simp at hdl; omega, b, off + i * 2, cap - i, by rw [hdl], Nat.lt_of_lt_of_le hb hk1.size, fun j r hj => ?_⟩, fun n c h => by cases h⟩
        rw [List.getElem?_drop] at hj
        obtain ⟨q0, q1⟩ := HC.out _ _ hj
        have q0 := (hk1.cell (p := ⟨b, off + (i + j) * 2, none⟩) hb (fun h => h)).trans q0
        have q1 := (hk1.cell (p := ⟨b, off + ((i + j) * 2 + 1), none⟩) hb (fun h => h)).trans q1
        rw [Nat.add_mul] at q0 q1
        exact ⟨by rw [Nat.add_assoc]; exact q0, by rw [Nat.add_assoc, ← Nat.add_assoc (i * 2)]; exact q1⟩
      have ha2 : argR w1 (.slice (some ⟨b, off, none⟩) i cap) (l.take i) := by
        refine ⟨?_, fun n c h => by cases h⟩
        by_cases hi00 : i = 0
        · subst hi00; exact .inl ⟨List.take_zero, _, _, rfl⟩
        · refine .inr ⟨fun h => by rw [h] at htl; simp at htl; omega, b, off, cap, by rw [htl], Nat.lt_of_lt_of_le hb hk1.size, fun j r hj => ?_⟩
          rw [List.getElem?_take] at hj
          by_cases hji : j < i
          · rw [if_pos hji] at hj
            obtain ⟨q0, q1⟩ := HC.out _ _ hj
            exact ⟨(hk1.cell (p := ⟨b, off + j * 2, none⟩) hb (fun h => h)).trans q0, (hk1.cell (p := ⟨b, off + (j * 2 + 1), none⟩) hb (fun h => h)).trans q1⟩
          · rw [if_neg hji] at hj; cases hj
      have hcat : catR [(Value.slice (some ⟨b, off + i * 2, none⟩) (l.length - i) (cap - i), l.drop i), (Value.slice (some ⟨b, off, none⟩) i cap, l.take i)] = l.drop i ++ l.take i := by simp [catR]
      have hMl : (l.drop i ++ l.take i).length = l.length := by rw [List.length_append, hdl, htl]; omega
      have hMp : (l.drop i ++ l.take i).Perm l := List.perm_append_comm.trans (by rw [List.take_append_drop])
      have cc := rconcat_calls w.heap.size [(Value.slice (some ⟨b, off + i * 2, none⟩) (l.length - i) (cap - i), l.drop i), (Value.slice (some ⟨b, off, none⟩) i cap, l.take i)] 2 w1 (by simp) (fun _ => (Array.getElem?_eq_some_iff.1 hnew).1) (fun j p hj => by
          have := cell_of_row _ _ j _ _ _ hnew
          rw [this]
          match j, hj with
          | 0, hj => simp at hj; subst hj; rfl
          | 1, hj => simp at hj; subst hj; rfl
          | j + 2, hj => simp at hj) (fun p hp => by
          simp at hp
          rcases hp with rfl | rfl
          · exact ha1
          · exact ha2) (by rw [hcat, hMl]; omega)
      rw [hcat] at cc
      have Hk1 := Lib.hid hk1
      clear hnew hk1 ha1 ha2 hw1 hcat
      generalize l.drop i ++ l.take i = M at cc hMl hMp
      refine cc.mono ?_; clear cc; rintro e w2 ⟨v2, rfl, hr2, hk2⟩
      rw [hMl] at hr2
      obtain ⟨g, cap2, rfl⟩ : ∃ g c, v2 = .slice (some ⟨g, 0, none⟩) l.length c := by
        rcases hr2.2 with ⟨_, h00⟩ | ⟨g, c, cur, rfl, _⟩
        · omega
        · exact ⟨_, _, rfl⟩
      have hgw := hr2.lt g rfl
      have Hk2 := Lib.hid (Hk1.out.trans hk2 (fun _ _ h => h))
      have cv := reverse_calls g l.length cap2 _ M hMl (by omega) w2 hr2
      have Hgw := Lib.hid (show w.heap.size ≤ g by have := Hk1.out.size; omega)
      clear hr2 hk2 hgw
      go_wp2_with fail
      refine cv.mono ?_; clear cv; rintro e w3 ⟨rfl, ⟨M', hM', hr3⟩, hk3⟩
      have hM'l : M'.length = l.length := by rw [hM'.length_eq, hMl]
      have hM'p := hM'.trans hMp
      have hM'ok : Recs M' := fun r hr => hok r (hM'p.mem_iff.1 hr)
      have Hvm := Lib.hid (show recAt w3 (.slice (some ⟨g, 0, none⟩) l.length cap2) M' by
        have := rec_of_row (c := cap2) hr3 hM'l M' (fun i r h => h)
        rw [hM'l] at this
        exact this)
      have Hk3 := Lib.hid (Hk2.out.trans hk3 (fun i hi h => by have := Hgw.out; omega))
      have Hv0 := Lib.hid (show recAt w (.slice (some ⟨b, off, none⟩) l.length cap) l from .inr ⟨hne, b, off, cap, rfl, hb, HC.out⟩)
      clear hr3 hk3 hM' hMp
      have cs := sort_any none [] (fun _ => False) _ l w3 (nilq w3) (by simp) (Hv0.out.kept Hk3.out) (by omega) hok (fun _ _ _ h => h)
      go_wp2_with fail
      refine cs.mono ?_; clear cs; rintro e w4 ⟨v4, rfl, hv4, _, _, hk4⟩
      have Hv4 := Lib.hid hv4
      have Hvm4 := Lib.hid (Hvm.out.kept hk4)
      have Hk4 := Lib.hid (Hk3.out.trans hk4 (fun _ _ h => h))
      clear hv4 hk4
      go_wp2_with fail
      refine (alive_calls _).mono ?_; rintro e w5 ⟨rfl, hk5⟩
      have Hv5 := Lib.hid (Hv4.out.kept hk5)
      have Hvm5 := Lib.hid (Hvm4.out.kept hk5)
      have Hk5 := Lib.hid (Hk4.out.trans hk5 (fun _ _ h => h))
      clear hk5
      have cs := sort_any none [] (fun _ => False) _ M' w5 (nilq w5) (by simp) Hvm5.out (by omega) hM'ok (fun _ _ _ h => h)
      go_wp2_with fail
      refine cs.mono ?_; clear cs; rintro e w6 ⟨v6, rfl, hv6, _, _, hk6⟩
      rw [sortR_perm hM'p] at hv6
      have hRl : (sortR l).length ≤ 4096 := by rw [sortR_length]; omega
      have Hv6 := Lib.hid (Hv5.out.kept hk6)
      have Hw6 := Lib.hid hv6
      have Hk6 := Lib.hid (Hk5.out.trans hk6 (fun _ _ h => h))
      clear hv6 hk6
      go_wp2_with fail
      refine (rsame_any _ _ (sortR l) _ hRl Hw6.out Hv6.out).mono ?_; rintro e w7 ⟨rfl, n7, rfl⟩
      have Hk7 := Lib.hid (Hk6.out.drewN n7)
      have Hv7 := Lib.hid (Hv6.out.kept (keeps_drw w6 n7))
      generalize w6.drewN n7 = w7 at Hk7 Hv7 ⊢
      have cs := sort_any none [] (fun _ => False) _ (sortR l) w7 (nilq w7) (by simp) Hv7.out hRl (sortR_ok hok) (fun _ _ _ h => h)
      go_wp2_with fail
      refine cs.mono ?_; clear cs; rintro e w8 ⟨v8, rfl, hv8, _, _, hk8⟩
      rw [sortR_idem hok] at hv8
      have Hv8 := Lib.hid (Hv7.out.kept hk8)
      have Hw8 := Lib.hid hv8
      have Hk8 := Lib.hid (Hk7.out.trans hk8 (fun _ _ h => h))
      clear hv8 hk8
      go_wp2_with fail
      refine (rsame_any _ _ (sortR l) _ hRl Hw8.out Hv8.out).mono ?_; rintro e w9 ⟨rfl, n9, rfl⟩
      go_wp2_with fail
      go_ret
      exact ⟨rfl, Hk8.out.drewN n9⟩
  · have hl' : (l.length : Int) > 100 := by omega
    clear hv
    go_enter Try.func8, Try.ntmps8
    go_wp2_with fail
    refine (alive_calls _).mono ?_; rintro e w3 ⟨rfl, hk3⟩
    go_wp2
    go_ret
    exact ⟨rfl, hk3⟩
end Go.Proofs.Ytbgjfibninccdaa.so
