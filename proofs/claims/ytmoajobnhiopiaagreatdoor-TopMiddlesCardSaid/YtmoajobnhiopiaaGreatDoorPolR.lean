/- Lists of points in memory, and the polygons of the reference, by walking their text. -/
import Derived.Test.YtmoajobnhiopiaaGreatDoorNumS
set_option linter.unusedSimpArgs false
set_option linter.unusedVariables false
namespace Go.Proofs.YtmoajobnhiopiaaGreatDoor.po
open Go Go.RowKit Go.Shelf Go.Maps Go.Proofs.YtmoajobnhiopiaaGreatDoor.mk Go.Proofs.YtmoajobnhiopiaaGreatDoor.tp Go.Proofs.YtmoajobnhiopiaaGreatDoor.rg Go.Proofs.YtmoajobnhiopiaaGreatDoor.lm Go.Proofs.YtmoajobnhiopiaaGreatDoor.gm Go.Proofs.YtmoajobnhiopiaaGreatDoor.nb

/-- The slice v reads as the points l. -/
def ptsAt (w : World) (v : Value) (l : List (Int × Int)) : Prop :=
  (l = [] ∧ ∃ ao cap, v = .slice ao 0 cap) ∨ ∃ b off cap, v = .slice (some ⟨b, off, none⟩) l.length cap ∧ b < w.heap.size ∧ ∀ i, i < l.length → w.cell? ⟨b, off + i * 2, none⟩ = some (.int .i64 (pt l i).1) ∧ w.cell? ⟨b, off + i * 2 + 1, none⟩ = some (.int .i64 (pt l i).2)
theorem ptsAt.kept {w w' : World} {v : Value} {l : List (Int × Int)} (h : ptsAt w v l) (hk : Keeps (fun _ => False) w w') : ptsAt w' v l := by
  rcases h with h | ⟨b, off, cap, hv, hb, hc⟩
  · exact .inl h
  · exact .inr ⟨b, off, cap, hv, Nat.lt_of_lt_of_le hb hk.size, fun i hi => ⟨(hk.cell (p := ⟨b, off + i * 2, none⟩) hb (fun h => h)).trans (hc i hi).1, (hk.cell (p := ⟨b, off + i * 2 + 1, none⟩) hb (fun h => h)).trans (hc i hi).2⟩⟩
theorem ptsAt.shape {w : World} {v : Value} {l : List (Int × Int)} (h : ptsAt w v l) : ∃ ao cap, v = .slice ao l.length cap := by
  rcases h with ⟨rfl, ao, cap, rfl⟩ | ⟨b, off, cap, rfl, _⟩
  · exact ⟨_, _, rfl⟩
  · exact ⟨_, _, rfl⟩
theorem ptsAt.block {w : World} {v : Value} {l : List (Int × Int)} (h : ptsAt w v l) {i : Nat} (hi : i < l.length) : ∃ b off cap, v = .slice (some ⟨b, off, none⟩) l.length cap ∧ b < w.heap.size ∧ ∀ i, i < l.length → w.cell? ⟨b, off + i * 2, none⟩ = some (.int .i64 (pt l i).1) ∧ w.cell? ⟨b, off + i * 2 + 1, none⟩ = some (.int .i64 (pt l i).2) := by
  rcases h with ⟨rfl, _⟩ | ⟨b, off, cap, rfl, hb, hc⟩
  · simp at hi
  · exact ⟨b, off, cap, rfl, hb, hc⟩
/-- All are points. -/
def Pts (l : List (Int × Int)) : Prop := ∀ p ∈ l, Pt p
theorem Pts.at {l : List (Int × Int)} (h : Pts l) (i : Nat) : Pt (pt l i) := by
  unfold pt
  rw [List.getD_eq_getElem?_getD]
  cases hi : l[i]? with
  | none => exact ⟨by simp [IsS], by simp [IsS]⟩
  | some p => exact h p (List.mem_of_getElem? hi)
theorem edgeD_eq (l : List (Int × Int)) (i : Nat) (p : Int × Int) : edgeD l i p = det (pt l i) (pt l ((i + 1) % l.length)) p := rfl
theorem is_calls14 (ao : Option Addr) (n cap : Nat) (w : World) : Calls Tryz.prog 52 #[.slice ao n cap] w fun e w' => e = .returned (.bool (decide (3 ≤ n) && decide (n ≤ 64))) ∧ w' = w := by
  by_cases h3 : 3 ≤ n
  · have h3' : (n : Int) ≥ 3 := by omega
    by_cases h4 : n ≤ 64
    · have h4' : (n : Int) ≤ 64 := by omega
      rw [decide_eq_true h3, decide_eq_true h4]
      go_enter Tryz.func52, Tryz.ntmps52
      go_wp2
      go_ret
      exact ⟨rfl, rfl⟩
    · have h4' : ¬ (n : Int) ≤ 64 := by omega
      rw [decide_eq_true h3, decide_eq_false h4]
      go_enter Tryz.func52, Tryz.ntmps52
      go_wp2
      go_ret
      exact ⟨rfl, rfl⟩
  · have h3' : ¬ (n : Int) ≥ 3 := by omega
    rw [decide_eq_false h3]
    go_enter Tryz.func52, Tryz.ntmps52
    go_wp2
    go_ret
    exact ⟨rfl, rfl⟩
theorem polyS_ok (l : List (Int × Int)) : -1 ≤ polyS l ∧ polyS l ≤ 1 := sgnI_bound _

set_option maxRecDepth 100000 in
set_option maxHeartbeats 2000000 in
theorem ori14_calls (v : Value) (l : List (Int × Int)) (h3 : 3 ≤ l.length) (h64 : l.length ≤ 64) (hp : Pts l) (w : World) (h : ptsAt w v l) : Calls Tryz.prog 53 #[v] w fun e w' => e = .returned (.int .i64 (polyS l)) ∧ Keeps (fun _ => False) w w' := by
  obtain ⟨b, off, cap, rfl, hb, hc⟩ := h.block (i := 0) (by omega)
  have c0 := (hc 0 (by omega)).1
  have c1 := (hc 0 (by omega)).2
  have c2 := (hc 1 (by omega)).1
  have c3 := (hc 1 (by omega)).2
  have c4 := (hc 2 (by omega)).1
  have c5 := (hc 2 (by omega)).2
  simp only [Nat.zero_mul, Nat.one_mul, Nat.add_zero, Nat.add_assoc, Nat.reduceMul, Nat.reduceAdd] at c0 c1 c2 c3 c4 c5
  have hn3 : (2 : Int) < (l.length : Int) := by omega
  have hn1 : (1 : Int) < (l.length : Int) := by omega
  have hn0 : (0 : Int) < (l.length : Int) := by omega
  have hlne : ¬ l = [] := fun h => by rw [h] at h3; simp at h3
  clear hc h
  go_enter Tryz.func53, Tryz.ntmps53
  go_wp2_with fail
  refine (is_calls14 _ l.length _ _).mono ?_; rintro e w1 ⟨rfl, hw⟩
  rw [hw]
  clear hw w1
  rw [decide_eq_true h3, decide_eq_true h64]
  go_wp2_with fail
  refine wp_region_late (fun W => W.cell? ⟨b, off, none⟩ = some (.int .i64 (pt l 0).1) ∧ W.cell? ⟨b, off + 1, none⟩ = some (.int .i64 (pt l 0).2) ∧ W.cell? ⟨b, off + 2, none⟩ = some (.int .i64 (pt l 1).1) ∧ W.cell? ⟨b, off + 3, none⟩ = some (.int .i64 (pt l 1).2) ∧ W.cell? ⟨b, off + 4, none⟩ = some (.int .i64 (pt l 2).1) ∧ W.cell? ⟨b, off + 5, none⟩ = some (.int .i64 (pt l 2).2)) [] (by kernel_rfl) ?_
  have hS : w.drew.cell? ⟨b, off, none⟩ = some (.int .i64 (pt l 0).1) ∧ w.drew.cell? ⟨b, off + 1, none⟩ = some (.int .i64 (pt l 0).2) ∧ w.drew.cell? ⟨b, off + 2, none⟩ = some (.int .i64 (pt l 1).1) ∧ w.drew.cell? ⟨b, off + 3, none⟩ = some (.int .i64 (pt l 1).2) ∧ w.drew.cell? ⟨b, off + 4, none⟩ = some (.int .i64 (pt l 2).1) ∧ w.drew.cell? ⟨b, off + 5, none⟩ = some (.int .i64 (pt l 2).2) := ⟨c0, c1, c2, c3, c4, c5⟩
  refine wpAnyL_any (i := 0) (oi := _) (v := .slice (some ⟨b, off, none⟩) l.length cap) rfl (by kernel_rfl) (by kernel_rfl) (by kernel_rfl) (by kernel_rfl) (fun _ _ _ h => (h : False).elim) (Or.inl ⟨by kernel_rfl, ?_⟩) (fun _ => by assumption) ?_
  · intro w _
    go_simp
  try simp only [List.getElem_toArray, List.getElem_cons_zero, List.getElem_cons_succ, Act.put, List.setIfInBounds_toArray, List.set_cons_zero, List.set_cons_succ]
  refine wpAnyL_any (i := 1) (oi := _) (v := .pointer (some ⟨b, off, none⟩)) rfl (by kernel_rfl) (by kernel_rfl) (by kernel_rfl) (by kernel_rfl) (fun _ _ _ h => (h : False).elim) (Or.inl ⟨by kernel_rfl, ?_⟩) (fun _ => by assumption) ?_
  · intro w _
    go_simp
  try simp only [List.getElem_toArray, List.getElem_cons_zero, List.getElem_cons_succ, Act.put, List.setIfInBounds_toArray, List.set_cons_zero, List.set_cons_succ]
  refine wpAnyL_take (i := 2) (oi := _) (v := .agg #[.int .i64 (pt l 0).1, .int .i64 (pt l 0).2]) rfl (by kernel_rfl) (by kernel_rfl) (by kernel_rfl) (by kernel_rfl) (fun _ _ _ h => (h : False).elim) (Or.inl ⟨by kernel_rfl, ?_⟩) (by assumption) ?_
  · intro w hSw
    obtain ⟨s0, s1, s2, s3, s4, s5⟩ := hSw
    go_simp
  try simp only [List.getElem_toArray, List.getElem_cons_zero, List.getElem_cons_succ, Act.put, List.setIfInBounds_toArray, List.set_cons_zero, List.set_cons_succ]
  refine wpAnyL_any (i := 3) (oi := _) (v := .slice (some ⟨b, off, none⟩) l.length cap) rfl (by kernel_rfl) (by kernel_rfl) (by kernel_rfl) (by kernel_rfl) (fun _ _ _ h => (h : False).elim) (Or.inl ⟨by kernel_rfl, ?_⟩) (fun _ => by assumption) ?_
  · intro w _
    go_simp
  try simp only [List.getElem_toArray, List.getElem_cons_zero, List.getElem_cons_succ, Act.put, List.setIfInBounds_toArray, List.set_cons_zero, List.set_cons_succ]
  refine wpAnyL_any (i := 4) (oi := _) (v := .pointer (some ⟨b, off + 2, none⟩)) rfl (by kernel_rfl) (by kernel_rfl) (by kernel_rfl) (by kernel_rfl) (fun _ _ _ h => (h : False).elim) (Or.inl ⟨by kernel_rfl, ?_⟩) (fun _ => by assumption) ?_
  · intro w _
    go_simp
  try simp only [List.getElem_toArray, List.getElem_cons_zero, List.getElem_cons_succ, Act.put, List.setIfInBounds_toArray, List.set_cons_zero, List.set_cons_succ]
  refine wpAnyL_take (i := 5) (oi := _) (v := .agg #[.int .i64 (pt l 1).1, .int .i64 (pt l 1).2]) rfl (by kernel_rfl) (by kernel_rfl) (by kernel_rfl) (by kernel_rfl) (fun _ _ _ h => (h : False).elim) (Or.inl ⟨by kernel_rfl, ?_⟩) (by assumption) ?_
  · intro w hSw
    obtain ⟨s0, s1, s2, s3, s4, s5⟩ := hSw
    go_simp
  try simp only [List.getElem_toArray, List.getElem_cons_zero, List.getElem_cons_succ, Act.put, List.setIfInBounds_toArray, List.set_cons_zero, List.set_cons_succ]
  refine wpAnyL_any (i := 6) (oi := _) (v := .slice (some ⟨b, off, none⟩) l.length cap) rfl (by kernel_rfl) (by kernel_rfl) (by kernel_rfl) (by kernel_rfl) (fun _ _ _ h => (h : False).elim) (Or.inl ⟨by kernel_rfl, ?_⟩) (fun _ => by assumption) ?_
  · intro w _
    go_simp
  try simp only [List.getElem_toArray, List.getElem_cons_zero, List.getElem_cons_succ, Act.put, List.setIfInBounds_toArray, List.set_cons_zero, List.set_cons_succ]
  refine wpAnyL_any (i := 7) (oi := _) (v := .pointer (some ⟨b, off + 4, none⟩)) rfl (by kernel_rfl) (by kernel_rfl) (by kernel_rfl) (by kernel_rfl) (fun _ _ _ h => (h : False).elim) (Or.inl ⟨by kernel_rfl, ?_⟩) (fun _ => by assumption) ?_
  · intro w _
    go_simp
  try simp only [List.getElem_toArray, List.getElem_cons_zero, List.getElem_cons_succ, Act.put, List.setIfInBounds_toArray, List.set_cons_zero, List.set_cons_succ]
  refine wpAnyL_take (i := 8) (oi := _) (v := .agg #[.int .i64 (pt l 2).1, .int .i64 (pt l 2).2]) rfl (by kernel_rfl) (by kernel_rfl) (by kernel_rfl) (by kernel_rfl) (fun _ _ _ h => (h : False).elim) (Or.inl ⟨by kernel_rfl, ?_⟩) (by assumption) ?_
  · intro w hSw
    obtain ⟨s0, s1, s2, s3, s4, s5⟩ := hSw
    go_simp
  try simp only [List.getElem_toArray, List.getElem_cons_zero, List.getElem_cons_succ, Act.put, List.setIfInBounds_toArray, List.set_cons_zero, List.set_cons_succ]
  refine wpAnyL_next (i := 9) (by kernel_rfl) rfl (fun K hK => ?_)
  go_simp
  refine (rsign_calls (pt l 0) (pt l 1) (pt l 2) (hp.at 0) (hp.at 1) (hp.at 2) _).mono ?_; rintro e w2 ⟨rfl, hk2⟩
  have hk : Keeps (fun _ => False) w w2 := knil ((Keeps.refl _ w).drewN 1) hk2
  go_wp2_with fail
  refine hK.out _ _ ⟨((hk).cell (p := ⟨b, off, none⟩) hb (fun h => h)).trans c0, ((hk).cell (p := ⟨b, off + 1, none⟩) hb (fun h => h)).trans c1, ((hk).cell (p := ⟨b, off + 2, none⟩) hb (fun h => h)).trans c2, ((hk).cell (p := ⟨b, off + 3, none⟩) hb (fun h => h)).trans c3, ((hk).cell (p := ⟨b, off + 4, none⟩) hb (fun h => h)).trans c4, ((hk).cell (p := ⟨b, off + 5, none⟩) hb (fun h => h)).trans c5⟩ (fun hHeld => ?_)
  clear hK K
  try simp only [List.getElem_toArray, List.getElem_cons_zero, List.getElem_cons_succ, Act.put, List.setIfInBounds_toArray, List.set_cons_zero, List.set_cons_succ]
  refine wpAnyL_any (i := 10) (oi := _) (v := .int .i64 (sgnI (det (pt l 0) (pt l 1) (pt l 2)))) rfl (by kernel_rfl) (by kernel_rfl) (by kernel_rfl) (by kernel_rfl) (fun _ _ _ h => (h : False).elim) (Or.inl ⟨by kernel_rfl, ?_⟩) (fun _ => by assumption) ?_
  · intro w _
    go_simp
  try simp only [List.getElem_toArray, List.getElem_cons_zero, List.getElem_cons_succ, Act.put, List.setIfInBounds_toArray, List.set_cons_zero, List.set_cons_succ]
  refine wpAnyL_done (by kernel_rfl) ?_ _
  refine NoPanic.normal ?_
  clear hS c0 c1 c2 c3 c4 c5
  go_wp2
  go_ret
  exact ⟨rfl, hk⟩
set_option maxRecDepth 100000 in
set_option maxHeartbeats 2000000 in
theorem pori_calls (v : Value) (l : List (Int × Int)) (h3 : 3 ≤ l.length) (h64 : l.length ≤ 64) (hp : Pts l) (w : World) (hG : Gl w) (h : ptsAt w v l) : Calls Tryz.prog 42 #[v] w fun e w' => e = .returned (.int .i64 (polyS l)) ∧ Keeps (fun _ => False) w w' := by
  obtain ⟨b, off, cap, rfl, hb, hc⟩ := h.block (i := 0) (by omega)
  have c0 := (hc 0 (by omega)).1
  have c1 := (hc 0 (by omega)).2
  have c2 := (hc 1 (by omega)).1
  have c3 := (hc 1 (by omega)).2
  have c4 := (hc 2 (by omega)).1
  have c5 := (hc 2 (by omega)).2
  simp only [Nat.zero_mul, Nat.one_mul, Nat.add_zero, Nat.add_assoc, Nat.reduceMul, Nat.reduceAdd] at c0 c1 c2 c3 c4 c5
  have hn3 : (2 : Int) < (l.length : Int) := by omega
  have hn1 : (1 : Int) < (l.length : Int) := by omega
  have hn0 : (0 : Int) < (l.length : Int) := by omega
  have hlne : ¬ l = [] := fun h => by rw [h] at h3; simp at h3
  have HG := Lib.hid hG
  have hnl : ¬ (l.length : Int) < 3 := by omega
  have hng : ¬ (l.length : Int) > 64 := by omega
  clear hG
  clear hc h
  go_enter Tryz.func42, Tryz.ntmps42
  go_wp2_with fail
  refine wp_region_late (fun W => W.cell? ⟨b, off, none⟩ = some (.int .i64 (pt l 0).1) ∧ W.cell? ⟨b, off + 1, none⟩ = some (.int .i64 (pt l 0).2) ∧ W.cell? ⟨b, off + 2, none⟩ = some (.int .i64 (pt l 1).1) ∧ W.cell? ⟨b, off + 3, none⟩ = some (.int .i64 (pt l 1).2) ∧ W.cell? ⟨b, off + 4, none⟩ = some (.int .i64 (pt l 2).1) ∧ W.cell? ⟨b, off + 5, none⟩ = some (.int .i64 (pt l 2).2)) [] (by kernel_rfl) ?_
  have hS : w.drew.cell? ⟨b, off, none⟩ = some (.int .i64 (pt l 0).1) ∧ w.drew.cell? ⟨b, off + 1, none⟩ = some (.int .i64 (pt l 0).2) ∧ w.drew.cell? ⟨b, off + 2, none⟩ = some (.int .i64 (pt l 1).1) ∧ w.drew.cell? ⟨b, off + 3, none⟩ = some (.int .i64 (pt l 1).2) ∧ w.drew.cell? ⟨b, off + 4, none⟩ = some (.int .i64 (pt l 2).1) ∧ w.drew.cell? ⟨b, off + 5, none⟩ = some (.int .i64 (pt l 2).2) := ⟨c0, c1, c2, c3, c4, c5⟩
  refine wpAnyL_any (i := 0) (oi := _) (v := .slice (some ⟨b, off, none⟩) l.length cap) rfl (by kernel_rfl) (by kernel_rfl) (by kernel_rfl) (by kernel_rfl) (fun _ _ _ h => (h : False).elim) (Or.inl ⟨by kernel_rfl, ?_⟩) (fun _ => by assumption) ?_
  · intro w _
    go_simp
  try simp only [List.getElem_toArray, List.getElem_cons_zero, List.getElem_cons_succ, Act.put, List.setIfInBounds_toArray, List.set_cons_zero, List.set_cons_succ]
  refine wpAnyL_any (i := 1) (oi := _) (v := .pointer (some ⟨b, off, none⟩)) rfl (by kernel_rfl) (by kernel_rfl) (by kernel_rfl) (by kernel_rfl) (fun _ _ _ h => (h : False).elim) (Or.inl ⟨by kernel_rfl, ?_⟩) (fun _ => by assumption) ?_
  · intro w _
    go_simp
  try simp only [List.getElem_toArray, List.getElem_cons_zero, List.getElem_cons_succ, Act.put, List.setIfInBounds_toArray, List.set_cons_zero, List.set_cons_succ]
  refine wpAnyL_take (i := 2) (oi := _) (v := .agg #[.int .i64 (pt l 0).1, .int .i64 (pt l 0).2]) rfl (by kernel_rfl) (by kernel_rfl) (by kernel_rfl) (by kernel_rfl) (fun _ _ _ h => (h : False).elim) (Or.inl ⟨by kernel_rfl, ?_⟩) (by assumption) ?_
  · intro w hSw
    obtain ⟨s0, s1, s2, s3, s4, s5⟩ := hSw
    go_simp
  try simp only [List.getElem_toArray, List.getElem_cons_zero, List.getElem_cons_succ, Act.put, List.setIfInBounds_toArray, List.set_cons_zero, List.set_cons_succ]
  refine wpAnyL_any (i := 3) (oi := _) (v := .slice (some ⟨b, off, none⟩) l.length cap) rfl (by kernel_rfl) (by kernel_rfl) (by kernel_rfl) (by kernel_rfl) (fun _ _ _ h => (h : False).elim) (Or.inl ⟨by kernel_rfl, ?_⟩) (fun _ => by assumption) ?_
  · intro w _
    go_simp
  try simp only [List.getElem_toArray, List.getElem_cons_zero, List.getElem_cons_succ, Act.put, List.setIfInBounds_toArray, List.set_cons_zero, List.set_cons_succ]
  refine wpAnyL_any (i := 4) (oi := _) (v := .pointer (some ⟨b, off + 2, none⟩)) rfl (by kernel_rfl) (by kernel_rfl) (by kernel_rfl) (by kernel_rfl) (fun _ _ _ h => (h : False).elim) (Or.inl ⟨by kernel_rfl, ?_⟩) (fun _ => by assumption) ?_
  · intro w _
    go_simp
  try simp only [List.getElem_toArray, List.getElem_cons_zero, List.getElem_cons_succ, Act.put, List.setIfInBounds_toArray, List.set_cons_zero, List.set_cons_succ]
  refine wpAnyL_take (i := 5) (oi := _) (v := .agg #[.int .i64 (pt l 1).1, .int .i64 (pt l 1).2]) rfl (by kernel_rfl) (by kernel_rfl) (by kernel_rfl) (by kernel_rfl) (fun _ _ _ h => (h : False).elim) (Or.inl ⟨by kernel_rfl, ?_⟩) (by assumption) ?_
  · intro w hSw
    obtain ⟨s0, s1, s2, s3, s4, s5⟩ := hSw
    go_simp
  try simp only [List.getElem_toArray, List.getElem_cons_zero, List.getElem_cons_succ, Act.put, List.setIfInBounds_toArray, List.set_cons_zero, List.set_cons_succ]
  refine wpAnyL_any (i := 6) (oi := _) (v := .slice (some ⟨b, off, none⟩) l.length cap) rfl (by kernel_rfl) (by kernel_rfl) (by kernel_rfl) (by kernel_rfl) (fun _ _ _ h => (h : False).elim) (Or.inl ⟨by kernel_rfl, ?_⟩) (fun _ => by assumption) ?_
  · intro w _
    go_simp
  try simp only [List.getElem_toArray, List.getElem_cons_zero, List.getElem_cons_succ, Act.put, List.setIfInBounds_toArray, List.set_cons_zero, List.set_cons_succ]
  refine wpAnyL_any (i := 7) (oi := _) (v := .pointer (some ⟨b, off + 4, none⟩)) rfl (by kernel_rfl) (by kernel_rfl) (by kernel_rfl) (by kernel_rfl) (fun _ _ _ h => (h : False).elim) (Or.inl ⟨by kernel_rfl, ?_⟩) (fun _ => by assumption) ?_
  · intro w _
    go_simp
  try simp only [List.getElem_toArray, List.getElem_cons_zero, List.getElem_cons_succ, Act.put, List.setIfInBounds_toArray, List.set_cons_zero, List.set_cons_succ]
  refine wpAnyL_take (i := 8) (oi := _) (v := .agg #[.int .i64 (pt l 2).1, .int .i64 (pt l 2).2]) rfl (by kernel_rfl) (by kernel_rfl) (by kernel_rfl) (by kernel_rfl) (fun _ _ _ h => (h : False).elim) (Or.inl ⟨by kernel_rfl, ?_⟩) (by assumption) ?_
  · intro w hSw
    obtain ⟨s0, s1, s2, s3, s4, s5⟩ := hSw
    go_simp
  try simp only [List.getElem_toArray, List.getElem_cons_zero, List.getElem_cons_succ, Act.put, List.setIfInBounds_toArray, List.set_cons_zero, List.set_cons_succ]
  refine wpAnyL_next (i := 9) (by kernel_rfl) rfl (fun K hK => ?_)
  go_simp
  refine (osign_calls (pt l 0) (pt l 1) (pt l 2) (hp.at 0) (hp.at 1) (hp.at 2) _ (HG.out.kept ((Keeps.refl _ w).drewN 1))).mono ?_; rintro e w2 ⟨rfl, hk2⟩
  have hk : Keeps (fun _ => False) w w2 := knil ((Keeps.refl _ w).drewN 1) hk2
  go_wp2_with fail
  refine hK.out _ _ ⟨((hk).cell (p := ⟨b, off, none⟩) hb (fun h => h)).trans c0, ((hk).cell (p := ⟨b, off + 1, none⟩) hb (fun h => h)).trans c1, ((hk).cell (p := ⟨b, off + 2, none⟩) hb (fun h => h)).trans c2, ((hk).cell (p := ⟨b, off + 3, none⟩) hb (fun h => h)).trans c3, ((hk).cell (p := ⟨b, off + 4, none⟩) hb (fun h => h)).trans c4, ((hk).cell (p := ⟨b, off + 5, none⟩) hb (fun h => h)).trans c5⟩ (fun hHeld => ?_)
  clear hK K
  try simp only [List.getElem_toArray, List.getElem_cons_zero, List.getElem_cons_succ, Act.put, List.setIfInBounds_toArray, List.set_cons_zero, List.set_cons_succ]
  refine wpAnyL_any (i := 10) (oi := _) (v := .int .i64 (sgnI (det (pt l 0) (pt l 1) (pt l 2)))) rfl (by kernel_rfl) (by kernel_rfl) (by kernel_rfl) (by kernel_rfl) (fun _ _ _ h => (h : False).elim) (Or.inl ⟨by kernel_rfl, ?_⟩) (fun _ => by assumption) ?_
  · intro w _
    go_simp
  try simp only [List.getElem_toArray, List.getElem_cons_zero, List.getElem_cons_succ, Act.put, List.setIfInBounds_toArray, List.set_cons_zero, List.set_cons_succ]
  refine wpAnyL_done (by kernel_rfl) ?_ _
  refine NoPanic.normal ?_
  clear hS c0 c1 c2 c3 c4 c5
  go_wp2
  go_ret
  exact ⟨rfl, hk⟩
set_option maxRecDepth 100000 in
set_option maxHeartbeats 2000000 in
theorem side14_calls (v : Value) (l : List (Int × Int)) (i : Nat) (p : Int × Int) (hi : i < l.length) (h64 : l.length ≤ 64) (hp : Pts l) (hpp : Pt p) (w : World) (h : ptsAt w v l) : Calls Tryz.prog 54 #[v, .int .i64 i, .agg #[.int .i64 p.1, .int .i64 p.2]] w fun e w' => e = .returned (.int .i64 (sgnI (edgeD l i p))) ∧ Keeps (fun _ => False) w w' := by
  obtain ⟨q, hq⟩ : ∃ q, (i + 1) % l.length = q := ⟨_, rfl⟩
  have hql : q < l.length := by rw [← hq]; exact Nat.mod_lt _ (by omega)
  rw [edgeD_eq, hq]
  have hqt : ((i : Int) + 1).tmod (l.length : Int) = (q : Int) := by
    rw [Int.tmod_eq_emod_of_nonneg (by omega)]
    exact_mod_cast hq
  obtain ⟨i1, hi1⟩ : ∃ i1, i + 1 = i1 := ⟨_, rfl⟩
  have hi1I : (i : Int) + 1 = (i1 : Int) := by omega
  rw [hi1I] at hqt
  have hiw : IntKind.i64.wrap (i1 : Int) = (i1 : Int) := by rw [IntKind.wrap_i64]; omega
  have hqw : IntKind.i64.wrap (q : Int) = (q : Int) := by rw [IntKind.wrap_i64]; omega
  have hlz : ¬ (l.length : Int) = 0 := by omega
  have hlz' : ((l.length : Int) == 0) = false := beq_eq_false_iff_ne.2 hlz
  have hln : ¬ l.length = 0 := by omega
  have hlne : ¬ l = [] := fun h => hln (by rw [h]; rfl)
  obtain ⟨b, off, cap, rfl, hb, hc⟩ := h.block (i := 0) (by omega)
  have hk1 : Keeps (fun _ => False) w (w.alloc (.cells #[.int .i64 p.1, .int .i64 p.2] 35)) := (Keeps.refl _ w).alloc _
  have hg := heap_alloc_new w (.cells #[.int .i64 p.1, .int .i64 p.2] 35)
  have c0 := (hk1.cell (p := ⟨b, off + i * 2, none⟩) hb (fun h => h)).trans (hc i hi).1
  have c1 := (hk1.cell (p := ⟨b, off + i * 2 + 1, none⟩) hb (fun h => h)).trans (hc i hi).2
  have c2 := (hk1.cell (p := ⟨b, off + q * 2, none⟩) hb (fun h => h)).trans (hc q hql).1
  have c3 := (hk1.cell (p := ⟨b, off + q * 2 + 1, none⟩) hb (fun h => h)).trans (hc q hql).2
  have c4 := cells_at hg 0
  have c5 := cells_at hg 1
  have hl0 : w.heap.size < (w.alloc (.cells #[.int .i64 p.1, .int .i64 p.2] 35)).heap.size := (Array.getElem?_eq_some_iff.1 hg).1
  have hb1 := Nat.lt_of_lt_of_le hb hk1.size
  clear hc h hg hq hi1
  go_enter Tryz.func54, Tryz.ntmps54
  go_upto_region 1 with fail
  generalize w.alloc (.cells #[.int .i64 p.1, .int .i64 p.2] 35) = w1 at c0 c1 c2 c3 c4 c5 hl0 hb1 hk1 ⊢
  have hii : (i : Int) < (l.length : Int) := by omega
  have hqi : (q : Int) < (l.length : Int) := by omega
  have hi0 : (0 : Int) ≤ (i : Int) := by omega
  have hq0 : (0 : Int) ≤ (q : Int) := by omega
  refine wp_region_late (fun W => W.cell? ⟨b, off + i * 2, none⟩ = some (.int .i64 (pt l i).1) ∧ W.cell? ⟨b, off + i * 2 + 1, none⟩ = some (.int .i64 (pt l i).2) ∧ W.cell? ⟨b, off + q * 2, none⟩ = some (.int .i64 (pt l q).1) ∧ W.cell? ⟨b, off + q * 2 + 1, none⟩ = some (.int .i64 (pt l q).2) ∧ W.cell? ⟨w.heap.size, 0, none⟩ = some (.int .i64 p.1) ∧ W.cell? ⟨w.heap.size, 1, none⟩ = some (.int .i64 p.2)) [] (by kernel_rfl) ?_
  have hS : w1.drew.cell? ⟨b, off + i * 2, none⟩ = some (.int .i64 (pt l i).1) ∧ w1.drew.cell? ⟨b, off + i * 2 + 1, none⟩ = some (.int .i64 (pt l i).2) ∧ w1.drew.cell? ⟨b, off + q * 2, none⟩ = some (.int .i64 (pt l q).1) ∧ w1.drew.cell? ⟨b, off + q * 2 + 1, none⟩ = some (.int .i64 (pt l q).2) ∧ w1.drew.cell? ⟨w.heap.size, 0, none⟩ = some (.int .i64 p.1) ∧ w1.drew.cell? ⟨w.heap.size, 1, none⟩ = some (.int .i64 p.2) := ⟨c0, c1, c2, c3, c4, c5⟩
  refine wpAnyL_any (i := 0) (oi := _) (v := .slice (some ⟨b, off, none⟩) l.length cap) rfl (by kernel_rfl) (by kernel_rfl) (by kernel_rfl) (by kernel_rfl) (fun _ _ _ h => (h : False).elim) (Or.inl ⟨by kernel_rfl, ?_⟩) (fun _ => by assumption) ?_
  · intro w _
    go_simp
  try simp only [List.getElem_toArray, List.getElem_cons_zero, List.getElem_cons_succ, Act.put, List.setIfInBounds_toArray, List.set_cons_zero, List.set_cons_succ]
  refine wpAnyL_any (i := 1) (oi := _) (v := .int .i64 (i : Int)) rfl (by kernel_rfl) (by kernel_rfl) (by kernel_rfl) (by kernel_rfl) (fun _ _ _ h => (h : False).elim) (Or.inl ⟨by kernel_rfl, ?_⟩) (fun _ => by assumption) ?_
  · intro w _
    go_simp
  try simp only [List.getElem_toArray, List.getElem_cons_zero, List.getElem_cons_succ, Act.put, List.setIfInBounds_toArray, List.set_cons_zero, List.set_cons_succ]
  refine wpAnyL_any (i := 2) (oi := _) (v := .pointer (some ⟨b, off + i * 2, none⟩)) rfl (by kernel_rfl) (by kernel_rfl) (by kernel_rfl) (by kernel_rfl) (fun _ _ _ h => (h : False).elim) (Or.inl ⟨by kernel_rfl, ?_⟩) (fun _ => by assumption) ?_
  · intro w _
    go_simp
  try simp only [List.getElem_toArray, List.getElem_cons_zero, List.getElem_cons_succ, Act.put, List.setIfInBounds_toArray, List.set_cons_zero, List.set_cons_succ]
  refine wpAnyL_take (i := 3) (oi := _) (v := .agg #[.int .i64 (pt l i).1, .int .i64 (pt l i).2]) rfl (by kernel_rfl) (by kernel_rfl) (by kernel_rfl) (by kernel_rfl) (fun _ _ _ h => (h : False).elim) (Or.inl ⟨by kernel_rfl, ?_⟩) (by assumption) ?_
  · intro w hSw
    obtain ⟨s0, s1, s2, s3, s4, s5⟩ := hSw
    go_simp
  try simp only [List.getElem_toArray, List.getElem_cons_zero, List.getElem_cons_succ, Act.put, List.setIfInBounds_toArray, List.set_cons_zero, List.set_cons_succ]
  refine wpAnyL_any (i := 4) (oi := _) (v := .slice (some ⟨b, off, none⟩) l.length cap) rfl (by kernel_rfl) (by kernel_rfl) (by kernel_rfl) (by kernel_rfl) (fun _ _ _ h => (h : False).elim) (Or.inl ⟨by kernel_rfl, ?_⟩) (fun _ => by assumption) ?_
  · intro w _
    go_simp
  try simp only [List.getElem_toArray, List.getElem_cons_zero, List.getElem_cons_succ, Act.put, List.setIfInBounds_toArray, List.set_cons_zero, List.set_cons_succ]
  refine wpAnyL_any (i := 5) (oi := _) (v := .int .i64 (i : Int)) rfl (by kernel_rfl) (by kernel_rfl) (by kernel_rfl) (by kernel_rfl) (fun _ _ _ h => (h : False).elim) (Or.inl ⟨by kernel_rfl, ?_⟩) (fun _ => by assumption) ?_
  · intro w _
    go_simp
  try simp only [List.getElem_toArray, List.getElem_cons_zero, List.getElem_cons_succ, Act.put, List.setIfInBounds_toArray, List.set_cons_zero, List.set_cons_succ]
  refine wpAnyL_any (i := 6) (oi := _) (v := .int .i64 (i1 : Int)) rfl (by kernel_rfl) (by kernel_rfl) (by kernel_rfl) (by kernel_rfl) (fun _ _ _ h => (h : False).elim) (Or.inl ⟨by kernel_rfl, ?_⟩) (fun _ => by assumption) ?_
  · intro w _
    go_simp
  try simp only [List.getElem_toArray, List.getElem_cons_zero, List.getElem_cons_succ, Act.put, List.setIfInBounds_toArray, List.set_cons_zero, List.set_cons_succ]
  refine wpAnyL_any (i := 7) (oi := _) (v := .slice (some ⟨b, off, none⟩) l.length cap) rfl (by kernel_rfl) (by kernel_rfl) (by kernel_rfl) (by kernel_rfl) (fun _ _ _ h => (h : False).elim) (Or.inl ⟨by kernel_rfl, ?_⟩) (fun _ => by assumption) ?_
  · intro w _
    go_simp
  try simp only [List.getElem_toArray, List.getElem_cons_zero, List.getElem_cons_succ, Act.put, List.setIfInBounds_toArray, List.set_cons_zero, List.set_cons_succ]
  refine wpAnyL_any (i := 8) (oi := _) (v := .int .i64 (l.length : Int)) rfl (by kernel_rfl) (by kernel_rfl) (by kernel_rfl) (by kernel_rfl) (fun _ _ _ h => (h : False).elim) (Or.inl ⟨by kernel_rfl, ?_⟩) (fun _ => by assumption) ?_
  · intro w _
    go_simp
  try simp only [List.getElem_toArray, List.getElem_cons_zero, List.getElem_cons_succ, Act.put, List.setIfInBounds_toArray, List.set_cons_zero, List.set_cons_succ]
  refine wpAnyL_any (i := 9) (oi := _) (v := .int .i64 (q : Int)) rfl (by kernel_rfl) (by kernel_rfl) (by kernel_rfl) (by kernel_rfl) (fun _ _ _ h => (h : False).elim) (Or.inl ⟨by kernel_rfl, ?_⟩) (fun _ => by assumption) ?_
  · intro w _
    go_simp
  try simp only [List.getElem_toArray, List.getElem_cons_zero, List.getElem_cons_succ, Act.put, List.setIfInBounds_toArray, List.set_cons_zero, List.set_cons_succ]
  refine wpAnyL_any (i := 10) (oi := _) (v := .pointer (some ⟨b, off + q * 2, none⟩)) rfl (by kernel_rfl) (by kernel_rfl) (by kernel_rfl) (by kernel_rfl) (fun _ _ _ h => (h : False).elim) (Or.inl ⟨by kernel_rfl, ?_⟩) (fun _ => by assumption) ?_
  · intro w _
    go_simp
  try simp only [List.getElem_toArray, List.getElem_cons_zero, List.getElem_cons_succ, Act.put, List.setIfInBounds_toArray, List.set_cons_zero, List.set_cons_succ]
  refine wpAnyL_take (i := 11) (oi := _) (v := .agg #[.int .i64 (pt l q).1, .int .i64 (pt l q).2]) rfl (by kernel_rfl) (by kernel_rfl) (by kernel_rfl) (by kernel_rfl) (fun _ _ _ h => (h : False).elim) (Or.inl ⟨by kernel_rfl, ?_⟩) (by assumption) ?_
  · intro w hSw
    obtain ⟨s0, s1, s2, s3, s4, s5⟩ := hSw
    go_simp
  try simp only [List.getElem_toArray, List.getElem_cons_zero, List.getElem_cons_succ, Act.put, List.setIfInBounds_toArray, List.set_cons_zero, List.set_cons_succ]
  refine wpAnyL_take (i := 12) (oi := _) (v := .agg #[.int .i64 p.1, .int .i64 p.2]) rfl (by kernel_rfl) (by kernel_rfl) (by kernel_rfl) (by kernel_rfl) (fun _ _ _ h => (h : False).elim) (Or.inl ⟨by kernel_rfl, ?_⟩) (by assumption) ?_
  · intro w hSw
    obtain ⟨s0, s1, s2, s3, s4, s5⟩ := hSw
    go_simp
  try simp only [List.getElem_toArray, List.getElem_cons_zero, List.getElem_cons_succ, Act.put, List.setIfInBounds_toArray, List.set_cons_zero, List.set_cons_succ]
  refine wpAnyL_next (i := 13) (by kernel_rfl) rfl (fun K hK => ?_)
  go_simp
  refine (rsign_calls (pt l i) (pt l q) p (hp.at i) (hp.at q) hpp _).mono ?_; rintro e w2 ⟨rfl, hk2⟩
  have hk12 : Keeps (fun _ => False) w1 w2 := knil ((Keeps.refl _ w1).drewN 1) hk2
  go_wp2_with fail
  refine hK.out _ _ ⟨((hk12).cell (p := ⟨b, off + i * 2, none⟩) hb1 (fun h => h)).trans c0, ((hk12).cell (p := ⟨b, off + i * 2 + 1, none⟩) hb1 (fun h => h)).trans c1, ((hk12).cell (p := ⟨b, off + q * 2, none⟩) hb1 (fun h => h)).trans c2, ((hk12).cell (p := ⟨b, off + q * 2 + 1, none⟩) hb1 (fun h => h)).trans c3, ((hk12).cell (p := ⟨w.heap.size, 0, none⟩) hl0 (fun h => h)).trans c4, ((hk12).cell (p := ⟨w.heap.size, 1, none⟩) hl0 (fun h => h)).trans c5⟩ (fun hHeld => ?_)
  clear hK K
  try simp only [List.getElem_toArray, List.getElem_cons_zero, List.getElem_cons_succ, Act.put, List.setIfInBounds_toArray, List.set_cons_zero, List.set_cons_succ]
  refine wpAnyL_any (i := 14) (oi := _) (v := .int .i64 (sgnI (det (pt l i) (pt l q) p))) rfl (by kernel_rfl) (by kernel_rfl) (by kernel_rfl) (by kernel_rfl) (fun _ _ _ h => (h : False).elim) (Or.inl ⟨by kernel_rfl, ?_⟩) (fun _ => by assumption) ?_
  · intro w _
    go_simp
  try simp only [List.getElem_toArray, List.getElem_cons_zero, List.getElem_cons_succ, Act.put, List.setIfInBounds_toArray, List.set_cons_zero, List.set_cons_succ]
  refine wpAnyL_done (by kernel_rfl) ?_ _
  refine NoPanic.normal ?_
  clear hS c0 c1 c2 c3 c4 c5
  go_wp2
  go_ret
  exact ⟨rfl, knil hk1 hk12⟩

theorem is14_false {n : Nat} (h : ¬ (3 ≤ n ∧ n ≤ 64)) : (decide (3 ≤ n) && decide (n ≤ 64)) = false := by
  by_cases h3 : 3 ≤ n
  · rw [decide_eq_true h3, decide_eq_false (fun h4 => h ⟨h3, h4⟩)]; rfl
  · rw [decide_eq_false h3]; rfl
theorem mod_next {i n : Nat} (hi : i < n) : (i + 1) % n < n := Nat.mod_lt _ (by omega)
set_option maxRecDepth 100000 in
set_option maxHeartbeats 4000000 in
theorem valid14_calls (v : Value) (l : List (Int × Int)) (hp : Pts l) (w : World) (h : ptsAt w v l) : Calls Tryz.prog 29 #[v] w fun e w' => (∃ r, e = .returned (.bool r) ∧ (r = true → 3 ≤ l.length ∧ l.length ≤ 64)) ∧ Keeps (fun _ => False) w w' := by
  by_cases hin : 3 ≤ l.length ∧ l.length ≤ 64
  · have h3 := hin.1
    have h64 := hin.2
    obtain ⟨b, off, cap, rfl, hb, hc⟩ := h.block (i := 0) (by omega)
    have H := Lib.hid h
    have HC := Lib.hid hc
    have HIN := Lib.hid hin
    clear h hc hin
    go_enter Tryz.func29, Tryz.ntmps29
    go_wp2_with fail
    refine (is_calls14 _ l.length _ _).mono ?_; rintro e w1 ⟨rfl, hw⟩
    rw [hw]
    clear hw w1
    rw [decide_eq_true h3, decide_eq_true h64]
    go_wp2_with fail
    refine (ori14_calls _ l h3 h64 hp w H.out).mono ?_; rintro e w1 ⟨rfl, hk1⟩
    obtain ⟨s, hs⟩ : ∃ s, polyS l = s := ⟨_, rfl⟩
    rw [hs]
    clear hs
    have HK1 := Lib.hid hk1
    clear hk1
    go_wp2_with fail
    go_loopw [4, 5] (fun iv _ wr => ∃ i : Nat, i ≤ l.length ∧ iv = .int .i64 i ∧ RowKit.Hid (Keeps (fun _ => False) w wr)) (fun iv _ _ => l.length - (intOf iv).toNat)
    case atStart => exact ⟨0, Nat.zero_le _, rfl, HK1⟩
    case round =>
      obtain ⟨i, hi, rfl, HK⟩ := hrel
      have hi0 : (0 : Int) ≤ (i : Int) := by omega
      by_cases hil : i < l.length
      · have hilI : (i : Int) < (l.length : Int) := by omega
        obtain ⟨q, hq⟩ : ∃ q, (i + 1) % l.length = q := ⟨_, rfl⟩
        have hql : q < l.length := by rw [← hq]; exact mod_next hil
        obtain ⟨i1, hi1⟩ : ∃ i1, i + 1 = i1 := ⟨_, rfl⟩
        have hi1I : (i : Int) + 1 = (i1 : Int) := by omega
        have hqt : (i1 : Int).tmod (l.length : Int) = (q : Int) := by
          rw [Int.tmod_eq_emod_of_nonneg (by omega), ← hi1I]
          exact_mod_cast hq
        have hiw : IntKind.i64.wrap (i1 : Int) = (i1 : Int) := by rw [IntKind.wrap_i64]; omega
        have hqw : IntKind.i64.wrap (q : Int) = (q : Int) := by rw [IntKind.wrap_i64]; omega
        have hlz : ¬ (l.length : Int) = 0 := by omega
        have hlz' : ((l.length : Int) == 0) = false := beq_eq_false_iff_ne.2 hlz
        have hln : ¬ l.length = 0 := by omega
        have hlne : ¬ l = [] := fun h => hln (by rw [h]; rfl)
        clear hq hi1
        go_wp2_with fail
        go_loopw [5] (fun jv wr => ∃ j : Nat, j ≤ l.length ∧ jv = .int .i64 j ∧ RowKit.Hid (Keeps (fun _ => False) w wr)) (fun jv _ => l.length - (intOf jv).toNat)
        case atStart => exact ⟨0, Nat.zero_le _, rfl, HK⟩
        case round =>
          clear HK
          obtain ⟨j, hj, rfl, HK⟩ := hrel
          have hj0 : (0 : Int) ≤ (j : Int) := by omega
          have hjw : IntKind.i64.wrap ((j : Int) + 1) = (j : Int) + 1 := by rw [IntKind.wrap_i64]; omega
          by_cases hjl : j < l.length
          · have hjlI : (j : Int) < (l.length : Int) := by omega
            by_cases hji : j = i
            · subst hji
              go_wp2_with fail
              go_roundw
              case rel => exact ⟨j + 1, by omega, by go_num, HK⟩
              case measure => simp [intOf]; omega
            · have hjiI : ¬ (j : Int) = (i : Int) := by omega
              have hjib : ((j : Int) == (i : Int)) = false := beq_eq_false_iff_ne.2 hjiI
              have hjin : ((j : Int) != (i : Int)) = true := bne_iff_ne.2 hjiI
              by_cases hjq : j = q
              · subst hjq
                clear hji
                go_wp2_with fail
                go_roundw
                case rel => exact ⟨j + 1, by omega, by go_num, HK⟩
                case measure => simp [intOf]; omega
              · have hjqI : ¬ (j : Int) = (q : Int) := by omega
                have hjqb : ((j : Int) == (q : Int)) = false := beq_eq_false_iff_ne.2 hjqI
                have hjqn : ((j : Int) != (q : Int)) = true := bne_iff_ne.2 hjqI
                have c0 := (HK.out.cell (p := ⟨b, off + j * 2, none⟩) hb (fun h => h)).trans (HC.out j hjl).1
                have c1 := (HK.out.cell (p := ⟨b, off + j * 2 + 1, none⟩) hb (fun h => h)).trans (HC.out j hjl).2
                clear hji hjq
                go_wp2_with fail
                refine (side14_calls _ l i (pt l j) hil h64 hp (hp.at j) _ (H.out.kept HK.out)).mono ?_; rintro e w5 ⟨rfl, hk5⟩
                obtain ⟨z, hz⟩ : ∃ z, sgnI (edgeD l i (pt l j)) = z := ⟨_, rfl⟩
                rw [hz]
                have HK5 := Lib.hid (knil HK.out hk5)
                clear hz c0 c1 hk5
                by_cases hzs : z = s
                · subst hzs
                  go_wp2
                  go_roundw
                  case rel => exact ⟨j + 1, by omega, by go_num, HK5⟩
                  case measure => simp [intOf]; omega
                · have hzb : (z == s) = false := beq_eq_false_iff_ne.2 hzs
                  have hzn : (z != s) = true := bne_iff_ne.2 hzs
                  clear hzs
                  go_wp2
                  go_ret
                  exact ⟨⟨false, rfl, fun h => by cases h⟩, HK5.out⟩
          · obtain rfl : j = l.length := by omega
            have hjlI : ¬ (l.length : Int) < (l.length : Int) := by omega
            go_wp2
            go_roundw
            case rel => exact ⟨i + 1, by omega, by go_num, HK⟩
            case measure => simp [intOf]; omega
      · obtain rfl : i = l.length := by omega
        go_wp2
        go_ret
        exact ⟨⟨_, rfl, fun _ => HIN.out⟩, HK.out⟩
  · obtain ⟨ao, cap, rfl⟩ := h.shape
    have hf := is14_false hin
    clear h hin
    go_enter Tryz.func29, Tryz.ntmps29
    go_wp2_with fail
    refine (is_calls14 _ l.length _ _).mono ?_; rintro e w1 ⟨rfl, hw⟩
    rw [hw, hf]
    clear hw w1
    go_wp2_with fail
    go_ret
    exact ⟨⟨false, rfl, fun h => by cases h⟩, Keeps.refl _ _⟩
theorem sides_succ (l : List (Int × Int)) (i : Nat) (p : Int × Int) : sides l (i + 1) p = sides l i p ++ [polyS l * sgnI (edgeD l i p)] := by unfold sides; rw [List.range_succ, List.map_append]; rfl
theorem side_prod (l : List (Int × Int)) (i : Nat) (p : Int × Int) : -1 ≤ polyS l * sgnI (edgeD l i p) ∧ polyS l * sgnI (edgeD l i p) ≤ 1 := by
  unfold polyS
  rw [← sgnI_mul]
  exact sgnI_bound _
set_option maxRecDepth 100000 in
set_option maxHeartbeats 4000000 in
theorem locate14_calls (v : Value) (l : List (Int × Int)) (p : Int × Int) (h3 : 3 ≤ l.length) (h64 : l.length ≤ 64) (hp : Pts l) (hpp : Pt p) (w : World) (h : ptsAt w v l) : Calls Tryz.prog 30 #[v, .agg #[.int .i64 p.1, .int .i64 p.2]] w fun e w' => (∃ r, e = .returned (.int .i64 r) ∧ (0 ≤ r ↔ ∀ x ∈ sides l l.length p, 0 ≤ x)) ∧ Keeps (fun _ => False) w w' := by
  obtain ⟨b, off, cap, rfl, hb, hc⟩ := h.block (i := 0) (by omega)
  have hk1 : Keeps (fun _ => False) w (w.alloc (.cells #[.int .i64 p.1, .int .i64 p.2] 35)) := (Keeps.refl _ w).alloc _
  have hg := heap_alloc_new w (.cells #[.int .i64 p.1, .int .i64 p.2] 35)
  have hl0 : w.heap.size < (w.alloc (.cells #[.int .i64 p.1, .int .i64 p.2] 35)).heap.size := (Array.getElem?_eq_some_iff.1 hg).1
  have H := Lib.hid h
  have HG := Lib.hid hg
  clear h hc hg
  go_enter Tryz.func30, Tryz.ntmps30
  go_upto_region 1 with fail
  generalize w.alloc (.cells #[.int .i64 p.1, .int .i64 p.2] 35) = w0 at HG hl0 hk1 ⊢
  go_wp2_with fail
  refine (is_calls14 _ l.length _ _).mono ?_; rintro e w1 ⟨rfl, hw⟩
  rw [hw]
  clear hw w1
  rw [decide_eq_true h3, decide_eq_true h64]
  go_wp2_with fail
  refine (ori14_calls _ l h3 h64 hp w0 (H.out.kept hk1)).mono ?_; rintro e w1 ⟨rfl, hk2⟩
  have hS := polyS_ok l
  obtain ⟨s, hs⟩ : ∃ s, polyS l = s := ⟨_, rfl⟩
  rw [hs] at hS ⊢
  have HS := Lib.hid hs
  have HS1 := Lib.hid hS
  have HK1 := Lib.hid (hk2)
  clear hk2 hs hS
  go_wp2_with fail
  go_loopw [6, 7] (fun rv iv wr => ∃ (i : Nat) (r : Int), i ≤ l.length ∧ iv = .int .i64 i ∧ rv = .int .i64 r ∧ RowKit.Hid ((-1 ≤ r ∧ r ≤ 1) ∧ (0 ≤ r ↔ ∀ x ∈ sides l i p, 0 ≤ x)) ∧ RowKit.Hid (Keeps (fun _ => False) w0 wr)) (fun _ iv _ => l.length - (intOf iv).toNat)
  case atStart => exact ⟨0, 1, Nat.zero_le _, rfl, rfl, ⟨by omega, by simp [sides]⟩, HK1⟩
  case round =>
    obtain ⟨i, r, hi, rfl, rfl, HR, HK⟩ := hrel
    have hi0 : (0 : Int) ≤ (i : Int) := by omega
    by_cases hil : i < l.length
    · have hilI : (i : Int) < (l.length : Int) := by omega
      have hiw : IntKind.i64.wrap ((i : Int) + 1) = (i : Int) + 1 := by rw [IntKind.wrap_i64]; omega
      have hg := (HK.out.block _ hl0 (fun h => h)).trans HG.out
      have c0 := cells_at hg 0
      have c1 := cells_at hg 1
      clear hg
      go_wp2_with fail
      refine (side14_calls _ l i p hil h64 hp hpp _ (H.out.kept (knil hk1 HK.out))).mono ?_; rintro e w5 ⟨rfl, hk5⟩
      have hb2 := side_prod l i p
      rw [HS.out] at hb2
      have hss := sides_succ l i p
      rw [HS.out] at hss
      obtain ⟨z, hz⟩ : ∃ z, s * sgnI (edgeD l i p) = z := ⟨_, rfl⟩
      rw [hz] at hb2 hss
      have hzw : IntKind.i64.wrap z = z := by rw [IntKind.wrap_i64]; omega
      have HSS := Lib.hid hss
      have HB2 := Lib.hid hb2
      have HK5 := Lib.hid (knil HK.out hk5)
      clear hss hb2 hk5 c0 c1
      go_wp2
      go_roundw
      case rel =>
        refine ⟨i + 1, _, by omega, by go_num, rfl, ?_, HK5⟩
        have h1 := HR.out
        have h2 := HB2.out
        refine ⟨?_, ?_⟩
        · first | omega | (split <;> omega)
        · rw [HSS.out]
          constructor
          · intro h x hx
            rcases List.mem_append.1 hx with hx | hx
            · exact h1.2.1 (by first | omega | (split at h <;> omega)) x hx
            · rw [List.mem_singleton] at hx; rw [hx]; first | omega | (split at h <;> omega)
          · intro h
            have h3 := h1.2.2 (fun x hx => h x (List.mem_append_left _ hx))
            have h4 := h z (List.mem_append_right _ (List.mem_singleton.2 rfl))
            first | omega | (split <;> omega)
      case measure => simp [intOf]; omega
    · obtain rfl : i = l.length := by omega
      go_wp2
      go_ret
      exact ⟨⟨_, rfl, HR.out.2⟩, knil hk1 HK.out⟩
end Go.Proofs.YtmoajobnhiopiaaGreatDoor.po
