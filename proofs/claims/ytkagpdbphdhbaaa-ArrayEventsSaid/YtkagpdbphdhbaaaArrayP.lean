/- The reference's Events, slices.Grow and slices.Concat at events. -/
import Derived.Test.YtkagpdbphdhbaaaArrayN
import Derived.Lib.AppendZeros
namespace Go.Proofs.Ytkagpdbphdhbaaa.ar
open Go Go.RowKit Go.Maps Go.Proofs.Ytkagpdbphdhbaaa.tp Go.Proofs.Ytkagpdbphdhbaaa.mk

/-- One event for each index. -/
def evs (kind : Int) (n : Nat) : List Ev := (List.range n).map fun j : Nat => (kind, (j : Int), (0 : Int))
theorem evs_length (kind : Int) (n : Nat) : (evs kind n).length = n := by unfold evs; simp
theorem evs_succ (kind : Int) (n : Nat) : evs kind (n + 1) = evs kind n ++ [(kind, (n : Int), 0)] := by unfold evs; simp [List.range_succ]

theorem revents_calls (kind : Int) (n : Nat) (hn : n ≤ 1000) (w : World) :
    Calls Try.prog 24 #[.int .i64 kind, .int .i64 n] w fun e w' => ∃ v, e = .returned v ∧ w'.ownsRow w.heap.size 45 3 v (evs kind n).length (flat (evs kind n)) ∧ Keeps (fun _ => False) w w' := by
  obtain ⟨i0, hi, hz0, hz1, hz2⟩ := info_parts infoEv
  go_enter Try.func24, Try.ntmps24
  go_wp2
  go_loopw [5, 6] (fun v i wr => ∃ k : Nat, k ≤ n ∧ i = .int .i64 k ∧ wr.ownsRow w.heap.size 45 3 v k (flat (evs kind k)) ∧ Keeps (fun _ => False) w wr) (fun _ i _ => n - (intOf i).toNat)
  case atStart => exact ⟨0, Nat.zero_le _, rfl, World.ownsRow_nil _ _ _ _, Keeps.refl _ _⟩
  case round =>
    obtain ⟨k, hk, rfl, hrow, hK⟩ := hrel
    by_cases hlt : k < n
    · have hlt' : (k : Int) < (n : Int) := by omega
      have hsz := hK.size
      go_wp2_with (at_builtin; refine wpList_append_own _ rfl _ _ 39 rfl w.heap.size 45 i0 (.agg #[.int .i64 0, .int .i64 0, .int .i64 0]) 3 24 Try.underlying39 hi hz0 hz1 hz2 rfl (by decide) _ _ _ rfl (hrow.alloc _) ⟨wr.heap.size, 0, none⟩ 1 1 (evC (kind, (k : Int), 0)) rfl rfl ?c1 ?c2 ?c3 ?c4 ?c5 ?_)
      case c1 =>
        intro j u hj
        have hadd : (⟨wr.heap.size, 0, none⟩ : Addr).add j = ⟨wr.heap.size, 0 + j, none⟩ := by unfold Addr.add; split <;> simp_all
        rw [hadd, cell_of_row _ _ _ _ _ _ (heap_alloc_new wr _), Nat.zero_add]
        simpa [evC] using hj
      case c2 => intro u hu; simp [evC] at hu; rcases hu with rfl | rfl | rfl <;> rfl
      case c3 => unfold maxLen; omega
      case c4 => omega
      case c5 => simp; omega
      intro v2 w2 hown2 hgrow2 _
      have hK2 : Keeps (fun _ => False) w w2 := (hK.alloc _).grown hgrow2 (fun g hg hlt => by have := hrow.lt g hg; omega)
      go_wp2
      go_roundw
      case rel => exact ⟨k + 1, by omega, by go_num, by rw [evs_succ, flat_append, flat_one]; exact hown2, hK2⟩
      case measure => simp [intOf]; omega
    · obtain rfl : k = n := by omega
      go_wp2
      go_ret
      exact ⟨_, rfl, by rw [evs_length]; exact hrow, hK⟩

theorem grow_calls (n : Nat) (hn : n ≤ 1000000) (w : World) :
    Calls Try.prog 38 #[.slice none 0 0, .int .i64 n] w fun e w' => ∃ v, e = .returned v ∧ w'.ownsRow w.heap.size 45 3 v 0 [] ∧ Keeps (fun _ => False) w w' := by
  by_cases h0 : n = 0
  · subst h0
    go_enter Try.func38, Try.ntmps38
    go_wp2
    go_ret
    exact ⟨_, rfl, World.ownsRow_nil _ _ _ _, Keeps.refl _ _⟩
  · have h1 : (0 : Int) < (n : Int) := by omega
    obtain ⟨i0, hi, hz0, hz1, hz2⟩ := info_parts infoEv
    have hr := fun ty => Lib.run_append_nil_zeros (P := Try.prog) w 39 3 ty 45 i0 (.agg #[.int .i64 0, .int .i64 0, .int .i64 0]) .i64 .i64 Try.underlying39 Try.underlying3 hi hz0 n (by omega) (by omega) (by omega) (by rw [hz2]; omega)
    have hG := grownCap_ge w n 0 45
    have hG2 := grownCap_le_maxLen w n 0 45 (by unfold maxLen; omega)
    generalize grownCap w n 0 45 = G at hr hG hG2
    have hk : Keeps (fun _ => False) w (w.drew.alloc (.cells (Builtin.zeroCells (Value.agg #[.int .i64 0, .int .i64 0, .int .i64 0]).cells n ++ Builtin.zeroCells (Value.agg #[.int .i64 0, .int .i64 0, .int .i64 0]).cells (G - n)) 45)) := ((Keeps.refl _ w).drew).alloc _
    have hrow : (w.drew.alloc (.cells (Builtin.zeroCells (Value.agg #[.int .i64 0, .int .i64 0, .int .i64 0]).cells n ++ Builtin.zeroCells (Value.agg #[.int .i64 0, .int .i64 0, .int .i64 0]).cells (G - n)) 45)).ownsRow w.heap.size 45 3 (.slice (some ⟨w.heap.size, 0, none⟩) 0 G) 0 [] := by
      refine ⟨rfl, .inr ⟨w.heap.size, G, _, rfl, Nat.le_refl _, heap_alloc_new w.drew _, Nat.zero_le _, hG2, ?_, by simp⟩⟩
      rw [Array.size_append, size_zeroCells, size_zeroCells, show (Value.agg #[.int .i64 0, .int .i64 0, .int .i64 0]).cells.size = 3 from rfl]
      omega
    generalize w.drew.alloc (.cells (Builtin.zeroCells (Value.agg #[.int .i64 0, .int .i64 0, .int .i64 0]).cells n ++ Builtin.zeroCells (Value.agg #[.int .i64 0, .int .i64 0, .int .i64 0]).cells (G - n)) 45) = W at hr hk hrow
    go_enter Try.func38, Try.ntmps38
    go_wp2_with (at_builtin; refine Lib.wpList_append_run _ rfl _ _ _ _ rfl _ _ rfl rfl _ _ (hr _) ?_)
    go_wp2
    go_ret
    exact ⟨_, rfl, hrow, hk⟩

/-- The events of some slices, one behind the other. -/
def catE (vs : List (Value × List Ev)) : List Ev := vs.flatMap fun p => p.2
theorem catE_step {vs : List (Value × List Ev)} {k : Nat} {p : Value × List Ev} (h : vs[k]? = some p) : catE (vs.take (k + 1)) = catE (vs.take k) ++ p.2 := by
  unfold catE
  rw [List.take_add_one, h, List.flatMap_append]
  simp
theorem catE_le (vs : List (Value × List Ev)) (k : Nat) : (catE (vs.take k)).length ≤ (catE vs).length := by
  have h : catE vs = catE (vs.take k) ++ catE (vs.drop k) := by
    unfold catE
    rw [← List.flatMap_append, List.take_append_drop]
  rw [h, List.length_append]
  omega
theorem argAt_kept {w w' : World} {v : Value} {l : List Ev} (h : argAt w v l) (hk : Keeps (fun _ => False) w w') : argAt w' v l := by
  refine ⟨?_, h.2⟩
  rcases h.1 with h | ⟨hne, b, off, cap, hv, hb, hc⟩
  · exact .inl h
  · refine .inr ⟨hne, b, off, cap, hv, Nat.lt_of_lt_of_le hb hk.size, fun i e he => ?_⟩
    obtain ⟨h1, h2, h3⟩ := hc i e he
    exact ⟨(hk.cell (p := ⟨b, _, none⟩) hb (fun h => h)).trans h1, (hk.cell (p := ⟨b, _, none⟩) hb (fun h => h)).trans h2, (hk.cell (p := ⟨b, _, none⟩) hb (fun h => h)).trans h3⟩
set_option maxHeartbeats 1000000 in
theorem concat_calls (B : Nat) (vs : List (Value × List Ev)) (cp : Nat) (w : World) (hn : vs.length ≤ 1000) (hB : vs ≠ [] → B < w.heap.size) (hcell : ∀ (i : Nat) p, vs[i]? = some p → w.cell? ⟨B, i, none⟩ = some p.1) (hev : ∀ p ∈ vs, argAt w p.1 p.2) (htot : (catE vs).length ≤ 100000) :
    Calls Try.prog 27 #[.slice (some ⟨B, 0, none⟩) vs.length cp] w fun e w' => ∃ v, e = .returned v ∧ w'.ownsRow w.heap.size 45 3 v (catE vs).length (flat (catE vs)) ∧ Keeps (fun _ => False) w w' := by
  obtain ⟨i0, hi, hz0, hz1, hz2⟩ := info_parts infoEv
  have Hc := Lib.hid hcell
  have He := Lib.hid hev
  clear hcell hev
  go_enter Try.func27, Try.ntmps27
  go_wp2
  go_loop [3, 11] (fun s i => ∃ k : Nat, k ≤ vs.length ∧ i = .int .i64 k ∧ s = .int .i64 ((catE (vs.take k)).length : Nat)) (fun _ i => vs.length - (intOf i).toNat)
  case atStart => exact ⟨0, Nat.zero_le _, rfl, rfl⟩
  case round =>
    obtain ⟨k, hk, rfl, rfl⟩ := hrel
    by_cases hlt : k < vs.length
    · have hlt' : (k : Int) < (vs.length : Int) := by omega
      obtain ⟨p, hp⟩ : ∃ p, vs[k]? = some p := ⟨vs[k], by simp [hlt]⟩
      have p0 := Hc.out k p hp
      obtain ⟨ao, cap, hv⟩ := (He.out p (List.mem_of_getElem? hp)).1.shape
      rw [hv] at p0
      have hs := congrArg List.length (catE_step hp)
      rw [List.length_append] at hs
      have hle := catE_le vs (k + 1)
      have hle0 := catE_le vs k
      have Hs := Lib.hid hs
      have hsum : (((catE (vs.take k)).length : Nat) : Int) + (p.2.length : Nat) = ((catE (vs.take (k + 1))).length : Nat) := by omega
      have hpos : ¬ ((((catE (vs.take k)).length : Nat) : Int) + (p.2.length : Nat) < 0) := by omega
      clear hs
      go_wp2
      go_round
      case rel => exact ⟨k + 1, by omega, by go_num, by rw [Hs.out]⟩
      case measure => simp [intOf]; omega
    · obtain rfl : k = vs.length := by omega
      rw [List.take_length]
      go_wp2_with fail
      refine (grow_calls (catE vs).length (by omega) _).mono ?_; rintro e w1 ⟨v1, rfl, hr1, hk1⟩
      go_wp2_with fail
      go_loopw [6, 27] (fun v i wr => ∃ k : Nat, k ≤ vs.length ∧ i = .int .i64 k ∧ wr.ownsRow w.heap.size 45 3 v (catE (vs.take k)).length (flat (catE (vs.take k))) ∧ Keeps (fun _ => False) w wr) (fun _ i _ => vs.length - (intOf i).toNat)
      case atStart => exact ⟨0, Nat.zero_le _, rfl, hr1, hk1⟩
      case round =>
        obtain ⟨k, hk, rfl, hrow, hK⟩ := hrel
        by_cases hlt : k < vs.length
        · have hlt' : (k : Int) < (vs.length : Int) := by omega
          obtain ⟨p, hp⟩ : ∃ p, vs[k]? = some p := ⟨vs[k], by simp [hlt]⟩
          have hne : vs ≠ [] := by intro e; rw [e] at hp; simp at hp
          have p0 : wr.cell? ⟨B, k, none⟩ = some p.1 := (hK.cell (p := ⟨B, k, none⟩) (hB hne) (fun h => h)).trans (Hc.out k p hp)
          have ha := argAt_kept (He.out p (List.mem_of_getElem? hp)) hK
          obtain ⟨pv, pl⟩ := p
          obtain ⟨ao, cap, hv⟩ := ha.1.shape
          simp only at hv ha p0
          subst hv
          obtain ⟨_, hs1, hs2⟩ := ha.src
          have hsz := hK.size
          have hle := catE_le vs (k + 1)
          have hst := catE_step hp
          have hlen := congrArg List.length hst
          rw [List.length_append] at hlen
          have Hst := Lib.hid hst
          have Hlen := Lib.hid hlen
          clear hst hlen hp
          go_wp2_with (at_builtin; refine wpList_append_src _ rfl _ _ 39 rfl w.heap.size 45 i0 (.agg #[.int .i64 0, .int .i64 0, .int .i64 0]) 3 24 Try.underlying39 hi hz0 hz1 hz2 rfl (by decide) _ _ _ rfl hrow ao pl.length cap (flat pl) rfl hs1 (flat_length pl) hs2 (flat_one_cell pl) (by have := Hlen.out; unfold maxLen; simp only at this; omega) (by have := Hlen.out; simp only at this; omega) hsz ?_)
          intro v2 w2 hown2 hgrow2
          have hK2 : Keeps (fun _ => False) w w2 := hK.grown hgrow2 (fun g hg hlt => by have := hrow.lt g hg; omega)
          go_wp2
          go_roundw
          case rel => exact ⟨k + 1, by omega, by go_num, by rw [Hlen.out, Hst.out, flat_append]; exact hown2, hK2⟩
          case measure => simp [intOf]; omega
        · obtain rfl : k = vs.length := by omega
          rw [List.take_length] at hrow
          go_wp2
          go_ret
          exact ⟨_, rfl, hrow, hK⟩
end Go.Proofs.Ytkagpdbphdhbaaa.ar
