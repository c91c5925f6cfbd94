import Derived.Test.YtmoajobnhiopiaaGreatDoorTsA1
import Derived.Maps.AppendAt
import Derived.WideMake
import Derived.Deep.Cut
import Derived.Defers
import Derived.Laws.BytesArg
import Derived.Lib.Bytes
set_option linter.unusedSimpArgs false
set_option linter.unusedVariables false
namespace Go.Proofs.YtmoajobnhiopiaaGreatDoor.sv
open Go Go.RowKit Go.Shelf Go.Maps Go.Proofs.YtmoajobnhiopiaaGreatDoor.mk Go.Proofs.YtmoajobnhiopiaaGreatDoor.tp Go.Proofs.YtmoajobnhiopiaaGreatDoor.rg Go.Proofs.YtmoajobnhiopiaaGreatDoor.lm Go.Proofs.YtmoajobnhiopiaaGreatDoor.gm Go.Proofs.YtmoajobnhiopiaaGreatDoor.po
open List renaming getElem_toArray → ga, getElem_cons_zero → gb, getElem_cons_succ → gc, setIfInBounds_toArray → gd, set_cons_zero → ge, set_cons_succ → gf
set_option maxRecDepth 100000 in
set_option maxHeartbeats 4000000 in
theorem check_1 (w : World) : Calls Tryz.prog 128 #[.agg #[.int .i64 1, .int .i64 0, .slice none 0 0, .int .i64 0]] w fun e w' => e = .returned (.int .i64 0) ∧ Keeps (fun _ => False) w w' := by
  go_enter Tryz.func128, Tryz.ntmps128
  go_upto_region 1 with fail
  obtain ⟨w1, hw1⟩ : ∃ w1, w.alloc (.cells #[.int .i64 1, .int .i64 0, .slice none 0 0, .int .i64 0] 27) = w1 := ⟨_, rfl⟩
  have hg := heap_alloc_new w (.cells #[.int .i64 1, .int .i64 0, .slice none 0 0, .int .i64 0] 27)
  have hk1 : Keeps (fun _ => False) w w1 := by rw [← hw1]; exact (Keeps.refl _ w).alloc _
  rw [hw1] at hg ⊢
  clear hw1
  have c0 : w1.cell? ⟨w.heap.size, 0, none⟩ = some (.int .i64 1) := cells_at hg 0
  have c1 : w1.cell? ⟨w.heap.size, 1, none⟩ = some (.int .i64 0) := cells_at hg 1
  have c2 : w1.cell? ⟨w.heap.size, 2, none⟩ = some (.slice none 0 0) := cells_at hg 2
  have c3 : w1.cell? ⟨w.heap.size, 3, none⟩ = some (.int .i64 0) := cells_at hg 3
  have hl : w.heap.size < w1.heap.size := (Array.getElem?_eq_some_iff.1 hg).1
  have HG1 := Lib.hid hg
  clear hg
  refine wp_region_late (fun W => W.cell? ⟨w.heap.size, 0, none⟩ = some (.int .i64 1) ∧ W.cell? ⟨w.heap.size, 1, none⟩ = some (.int .i64 0) ∧ W.cell? ⟨w.heap.size, 2, none⟩ = some (.slice none 0 0) ∧ W.cell? ⟨w.heap.size, 3, none⟩ = some (.int .i64 0)) [] (by kernel_rfl) ?_
  have hS : w1.drew.cell? ⟨w.heap.size, 0, none⟩ = some (.int .i64 1) ∧ w1.drew.cell? ⟨w.heap.size, 1, none⟩ = some (.int .i64 0) ∧ w1.drew.cell? ⟨w.heap.size, 2, none⟩ = some (.slice none 0 0) ∧ w1.drew.cell? ⟨w.heap.size, 3, none⟩ = some (.int .i64 0) := ⟨c0, c1, c2, c3⟩
  refine tkA 0 (.pointer (some ⟨w.heap.size, 0, none⟩)) rfl (by kernel_rfl) (fun _ _ _ h => (h : False).elim) (by kernel_rfl) (fun _ => ‹_›) ?_ ?_
  · intro w _; go_simp
  try simp only [ga, gb, gc, Act.put, gd, ge, gf]
  refine tkL 1 (.int .i64 1) rfl (by kernel_rfl) (fun _ _ _ h => (h : False).elim) (by kernel_rfl) ‹_› ?_ ?_
  · intro w hSw
    obtain ⟨s0, s1, s2, s3⟩ := hSw
    go_simp
  try simp only [ga, gb, gc, Act.put, gd, ge, gf]
  refine tkA 2 (.bool false) rfl (by kernel_rfl) (fun _ _ _ h => (h : False).elim) (by kernel_rfl) (fun _ => ‹_›) ?_ ?_
  · intro w _; go_simp
  try simp only [ga, gb, gc, Act.put, gd, ge, gf]
  refine tkA 3 (.pointer (some ⟨w.heap.size, 0, none⟩)) rfl (by kernel_rfl) (fun _ _ _ h => (h : False).elim) (by kernel_rfl) (fun _ => ‹_›) ?_ ?_
  · intro w _; go_simp
  try simp only [ga, gb, gc, Act.put, gd, ge, gf]
  refine tkL 4 (.int .i64 1) rfl (by kernel_rfl) (fun _ _ _ h => (h : False).elim) (by kernel_rfl) ‹_› ?_ ?_
  · intro w hSw
    obtain ⟨s0, s1, s2, s3⟩ := hSw
    go_simp
  try simp only [ga, gb, gc, Act.put, gd, ge, gf]
  refine tkA 5 (.bool false) rfl (by kernel_rfl) (fun _ _ _ h => (h : False).elim) (by kernel_rfl) (fun _ => ‹_›) ?_ ?_
  · intro w _; go_simp
  try simp only [ga, gb, gc, Act.put, gd, ge, gf]
  refine tkA 6 (.bool false) rfl (by kernel_rfl) (fun _ _ _ h => (h : False).elim) (by kernel_rfl) (fun _ => ‹_›) ?_ ?_
  · intro w _; go_simp
  try simp only [ga, gb, gc, Act.put, gd, ge, gf]
  refine tkA 7 (.pointer (some ⟨w.heap.size, 0, none⟩)) rfl (by kernel_rfl) (fun _ _ _ h => (h : False).elim) (by kernel_rfl) (fun _ => ‹_›) ?_ ?_
  · intro w _; go_simp
  try simp only [ga, gb, gc, Act.put, gd, ge, gf]
  refine tkL 8 (.int .i64 1) rfl (by kernel_rfl) (fun _ _ _ h => (h : False).elim) (by kernel_rfl) ‹_› ?_ ?_
  · intro w hSw
    obtain ⟨s0, s1, s2, s3⟩ := hSw
    go_simp
  try simp only [ga, gb, gc, Act.put, gd, ge, gf]
  refine tkA 9 (.bool false) rfl (by kernel_rfl) (fun _ _ _ h => (h : False).elim) (by kernel_rfl) (fun _ => ‹_›) ?_ ?_
  · intro w _; go_simp
  try simp only [ga, gb, gc, Act.put, gd, ge, gf]
  refine tkA 10 (.bool false) rfl (by kernel_rfl) (fun _ _ _ h => (h : False).elim) (by kernel_rfl) (fun _ => ‹_›) ?_ ?_
  · intro w _; go_simp
  try simp only [ga, gb, gc, Act.put, gd, ge, gf]
  refine tkA 11 (.pointer (some ⟨w.heap.size, 0, none⟩)) rfl (by kernel_rfl) (fun _ _ _ h => (h : False).elim) (by kernel_rfl) (fun _ => ‹_›) ?_ ?_
  · intro w _; go_simp
  try simp only [ga, gb, gc, Act.put, gd, ge, gf]
  refine tkL 12 (.int .i64 1) rfl (by kernel_rfl) (fun _ _ _ h => (h : False).elim) (by kernel_rfl) ‹_› ?_ ?_
  · intro w hSw
    obtain ⟨s0, s1, s2, s3⟩ := hSw
    go_simp
  try simp only [ga, gb, gc, Act.put, gd, ge, gf]
  refine tkA 13 (.bool false) rfl (by kernel_rfl) (fun _ _ _ h => (h : False).elim) (by kernel_rfl) (fun _ => ‹_›) ?_ ?_
  · intro w _; go_simp
  try simp only [ga, gb, gc, Act.put, gd, ge, gf]
  refine tkA 14 (.bool false) rfl (by kernel_rfl) (fun _ _ _ h => (h : False).elim) (by kernel_rfl) (fun _ => ‹_›) ?_ ?_
  · intro w _; go_simp
  try simp only [ga, gb, gc, Act.put, gd, ge, gf]
  refine tkA 15 (.bool false) rfl (by kernel_rfl) (fun _ _ _ h => (h : False).elim) (by kernel_rfl) (fun _ => ‹_›) ?_ ?_
  · intro w _; go_simp
  try simp only [ga, gb, gc, Act.put, gd, ge, gf]
  refine tkA 16 (.bool false) rfl (by kernel_rfl) (fun _ _ _ h => (h : False).elim) (by kernel_rfl) (fun _ => ‹_›) ?_ ?_
  · intro w _; go_simp
  try simp only [ga, gb, gc, Act.put, gd, ge, gf]
  refine wpAnyL_done (by kernel_rfl) ?_ _
  refine NoPanic.normal ?_
  clear hS
  go_wp2_with fail
  refine (contains_nil _ _).mono ?_; rintro e w' ⟨rfl, hw⟩
  rw [hw]
  clear hw w'
  go_wp2_with fail
  go_ret
  exact ⟨rfl, hk1.drewN 1⟩
set_option maxRecDepth 100000 in
set_option maxHeartbeats 4000000 in
theorem check_2 (w : World) : Calls Tryz.prog 128 #[.agg #[.int .i64 2, .int .i64 0, .slice none 0 0, .int .i64 0]] w fun e w' => e = .returned (.int .i64 0) ∧ Keeps (fun _ => False) w w' := by
  go_enter Tryz.func128, Tryz.ntmps128
  go_upto_region 1 with fail
  obtain ⟨w1, hw1⟩ : ∃ w1, w.alloc (.cells #[.int .i64 2, .int .i64 0, .slice none 0 0, .int .i64 0] 27) = w1 := ⟨_, rfl⟩
  have hg := heap_alloc_new w (.cells #[.int .i64 2, .int .i64 0, .slice none 0 0, .int .i64 0] 27)
  have hk1 : Keeps (fun _ => False) w w1 := by rw [← hw1]; exact (Keeps.refl _ w).alloc _
  rw [hw1] at hg ⊢
  clear hw1
  have c0 : w1.cell? ⟨w.heap.size, 0, none⟩ = some (.int .i64 2) := cells_at hg 0
  have c1 : w1.cell? ⟨w.heap.size, 1, none⟩ = some (.int .i64 0) := cells_at hg 1
  have c2 : w1.cell? ⟨w.heap.size, 2, none⟩ = some (.slice none 0 0) := cells_at hg 2
  have c3 : w1.cell? ⟨w.heap.size, 3, none⟩ = some (.int .i64 0) := cells_at hg 3
  have hl : w.heap.size < w1.heap.size := (Array.getElem?_eq_some_iff.1 hg).1
  have HG1 := Lib.hid hg
  clear hg
  refine wp_region_late (fun W => W.cell? ⟨w.heap.size, 0, none⟩ = some (.int .i64 2) ∧ W.cell? ⟨w.heap.size, 1, none⟩ = some (.int .i64 0) ∧ W.cell? ⟨w.heap.size, 2, none⟩ = some (.slice none 0 0) ∧ W.cell? ⟨w.heap.size, 3, none⟩ = some (.int .i64 0)) [] (by kernel_rfl) ?_
  have hS : w1.drew.cell? ⟨w.heap.size, 0, none⟩ = some (.int .i64 2) ∧ w1.drew.cell? ⟨w.heap.size, 1, none⟩ = some (.int .i64 0) ∧ w1.drew.cell? ⟨w.heap.size, 2, none⟩ = some (.slice none 0 0) ∧ w1.drew.cell? ⟨w.heap.size, 3, none⟩ = some (.int .i64 0) := ⟨c0, c1, c2, c3⟩
  refine tkA 0 (.pointer (some ⟨w.heap.size, 0, none⟩)) rfl (by kernel_rfl) (fun _ _ _ h => (h : False).elim) (by kernel_rfl) (fun _ => ‹_›) ?_ ?_
  · intro w _; go_simp
  try simp only [ga, gb, gc, Act.put, gd, ge, gf]
  refine tkL 1 (.int .i64 2) rfl (by kernel_rfl) (fun _ _ _ h => (h : False).elim) (by kernel_rfl) ‹_› ?_ ?_
  · intro w hSw
    obtain ⟨s0, s1, s2, s3⟩ := hSw
    go_simp
  try simp only [ga, gb, gc, Act.put, gd, ge, gf]
  refine tkA 2 (.bool false) rfl (by kernel_rfl) (fun _ _ _ h => (h : False).elim) (by kernel_rfl) (fun _ => ‹_›) ?_ ?_
  · intro w _; go_simp
  try simp only [ga, gb, gc, Act.put, gd, ge, gf]
  refine tkA 3 (.pointer (some ⟨w.heap.size, 0, none⟩)) rfl (by kernel_rfl) (fun _ _ _ h => (h : False).elim) (by kernel_rfl) (fun _ => ‹_›) ?_ ?_
  · intro w _; go_simp
  try simp only [ga, gb, gc, Act.put, gd, ge, gf]
  refine tkL 4 (.int .i64 2) rfl (by kernel_rfl) (fun _ _ _ h => (h : False).elim) (by kernel_rfl) ‹_› ?_ ?_
  · intro w hSw
    obtain ⟨s0, s1, s2, s3⟩ := hSw
    go_simp
  try simp only [ga, gb, gc, Act.put, gd, ge, gf]
  refine tkA 5 (.bool false) rfl (by kernel_rfl) (fun _ _ _ h => (h : False).elim) (by kernel_rfl) (fun _ => ‹_›) ?_ ?_
  · intro w _; go_simp
  try simp only [ga, gb, gc, Act.put, gd, ge, gf]
  refine tkA 6 (.bool false) rfl (by kernel_rfl) (fun _ _ _ h => (h : False).elim) (by kernel_rfl) (fun _ => ‹_›) ?_ ?_
  · intro w _; go_simp
  try simp only [ga, gb, gc, Act.put, gd, ge, gf]
  refine tkA 7 (.pointer (some ⟨w.heap.size, 0, none⟩)) rfl (by kernel_rfl) (fun _ _ _ h => (h : False).elim) (by kernel_rfl) (fun _ => ‹_›) ?_ ?_
  · intro w _; go_simp
  try simp only [ga, gb, gc, Act.put, gd, ge, gf]
  refine tkL 8 (.int .i64 2) rfl (by kernel_rfl) (fun _ _ _ h => (h : False).elim) (by kernel_rfl) ‹_› ?_ ?_
  · intro w hSw
    obtain ⟨s0, s1, s2, s3⟩ := hSw
    go_simp
  try simp only [ga, gb, gc, Act.put, gd, ge, gf]
  refine tkA 9 (.bool false) rfl (by kernel_rfl) (fun _ _ _ h => (h : False).elim) (by kernel_rfl) (fun _ => ‹_›) ?_ ?_
  · intro w _; go_simp
  try simp only [ga, gb, gc, Act.put, gd, ge, gf]
  refine tkA 10 (.bool false) rfl (by kernel_rfl) (fun _ _ _ h => (h : False).elim) (by kernel_rfl) (fun _ => ‹_›) ?_ ?_
  · intro w _; go_simp
  try simp only [ga, gb, gc, Act.put, gd, ge, gf]
  refine tkA 11 (.pointer (some ⟨w.heap.size, 0, none⟩)) rfl (by kernel_rfl) (fun _ _ _ h => (h : False).elim) (by kernel_rfl) (fun _ => ‹_›) ?_ ?_
  · intro w _; go_simp
  try simp only [ga, gb, gc, Act.put, gd, ge, gf]
  refine tkL 12 (.int .i64 2) rfl (by kernel_rfl) (fun _ _ _ h => (h : False).elim) (by kernel_rfl) ‹_› ?_ ?_
  · intro w hSw
    obtain ⟨s0, s1, s2, s3⟩ := hSw
    go_simp
  try simp only [ga, gb, gc, Act.put, gd, ge, gf]
  refine tkA 13 (.bool false) rfl (by kernel_rfl) (fun _ _ _ h => (h : False).elim) (by kernel_rfl) (fun _ => ‹_›) ?_ ?_
  · intro w _; go_simp
  try simp only [ga, gb, gc, Act.put, gd, ge, gf]
  refine tkA 14 (.bool false) rfl (by kernel_rfl) (fun _ _ _ h => (h : False).elim) (by kernel_rfl) (fun _ => ‹_›) ?_ ?_
  · intro w _; go_simp
  try simp only [ga, gb, gc, Act.put, gd, ge, gf]
  refine tkA 15 (.bool false) rfl (by kernel_rfl) (fun _ _ _ h => (h : False).elim) (by kernel_rfl) (fun _ => ‹_›) ?_ ?_
  · intro w _; go_simp
  try simp only [ga, gb, gc, Act.put, gd, ge, gf]
  refine tkA 16 (.bool false) rfl (by kernel_rfl) (fun _ _ _ h => (h : False).elim) (by kernel_rfl) (fun _ => ‹_›) ?_ ?_
  · intro w _; go_simp
  try simp only [ga, gb, gc, Act.put, gd, ge, gf]
  refine wpAnyL_done (by kernel_rfl) ?_ _
  refine NoPanic.normal ?_
  clear hS
  go_wp2_with fail
  refine (contains_nil _ _).mono ?_; rintro e w' ⟨rfl, hw⟩
  rw [hw]
  clear hw w'
  go_wp2_with fail
  go_ret
  exact ⟨rfl, hk1.drewN 1⟩
set_option maxRecDepth 100000 in
set_option maxHeartbeats 4000000 in
theorem check_3 (vt : Int) (hv3 : 3 ≤ vt) (hv64 : vt ≤ 64) (w : World) : Calls Tryz.prog 128 #[.agg #[.int .i64 3, .int .i64 vt, .slice none 0 0, .int .i64 0]] w fun e w' => e = .returned (.int .i64 0) ∧ Keeps (fun _ => False) w w' := by
  go_enter Tryz.func128, Tryz.ntmps128
  go_upto_region 1 with fail
  obtain ⟨w1, hw1⟩ : ∃ w1, w.alloc (.cells #[.int .i64 3, .int .i64 vt, .slice none 0 0, .int .i64 0] 27) = w1 := ⟨_, rfl⟩
  have hg := heap_alloc_new w (.cells #[.int .i64 3, .int .i64 vt, .slice none 0 0, .int .i64 0] 27)
  have hk1 : Keeps (fun _ => False) w w1 := by rw [← hw1]; exact (Keeps.refl _ w).alloc _
  rw [hw1] at hg ⊢
  clear hw1
  have c0 : w1.cell? ⟨w.heap.size, 0, none⟩ = some (.int .i64 3) := cells_at hg 0
  have c1 : w1.cell? ⟨w.heap.size, 1, none⟩ = some (.int .i64 vt) := cells_at hg 1
  have c2 : w1.cell? ⟨w.heap.size, 2, none⟩ = some (.slice none 0 0) := cells_at hg 2
  have c3 : w1.cell? ⟨w.heap.size, 3, none⟩ = some (.int .i64 0) := cells_at hg 3
  have hl : w.heap.size < w1.heap.size := (Array.getElem?_eq_some_iff.1 hg).1
  have HG1 := Lib.hid hg
  clear hg
  refine wp_region_late (fun W => W.cell? ⟨w.heap.size, 0, none⟩ = some (.int .i64 3) ∧ W.cell? ⟨w.heap.size, 1, none⟩ = some (.int .i64 vt) ∧ W.cell? ⟨w.heap.size, 2, none⟩ = some (.slice none 0 0) ∧ W.cell? ⟨w.heap.size, 3, none⟩ = some (.int .i64 0)) [] (by kernel_rfl) ?_
  have hS : w1.drew.cell? ⟨w.heap.size, 0, none⟩ = some (.int .i64 3) ∧ w1.drew.cell? ⟨w.heap.size, 1, none⟩ = some (.int .i64 vt) ∧ w1.drew.cell? ⟨w.heap.size, 2, none⟩ = some (.slice none 0 0) ∧ w1.drew.cell? ⟨w.heap.size, 3, none⟩ = some (.int .i64 0) := ⟨c0, c1, c2, c3⟩
  refine tkA 0 (.pointer (some ⟨w.heap.size, 0, none⟩)) rfl (by kernel_rfl) (fun _ _ _ h => (h : False).elim) (by kernel_rfl) (fun _ => ‹_›) ?_ ?_
  · intro w _; go_simp
  try simp only [ga, gb, gc, Act.put, gd, ge, gf]
  refine tkL 1 (.int .i64 3) rfl (by kernel_rfl) (fun _ _ _ h => (h : False).elim) (by kernel_rfl) ‹_› ?_ ?_
  · intro w hSw
    obtain ⟨s0, s1, s2, s3⟩ := hSw
    go_simp
  try simp only [ga, gb, gc, Act.put, gd, ge, gf]
  refine tkA 2 (.bool true) rfl (by kernel_rfl) (fun _ _ _ h => (h : False).elim) (by kernel_rfl) (fun _ => ‹_›) ?_ ?_
  · intro w _; go_simp
  try simp only [ga, gb, gc, Act.put, gd, ge, gf]
  refine tkA 3 (.pointer (some ⟨w.heap.size, 0, none⟩)) rfl (by kernel_rfl) (fun _ _ _ h => (h : False).elim) (by kernel_rfl) (fun _ => ‹_›) ?_ ?_
  · intro w _; go_simp
  try simp only [ga, gb, gc, Act.put, gd, ge, gf]
  refine tkL 4 (.int .i64 3) rfl (by kernel_rfl) (fun _ _ _ h => (h : False).elim) (by kernel_rfl) ‹_› ?_ ?_
  · intro w hSw
    obtain ⟨s0, s1, s2, s3⟩ := hSw
    go_simp
  try simp only [ga, gb, gc, Act.put, gd, ge, gf]
  refine tkA 5 (.bool false) rfl (by kernel_rfl) (fun _ _ _ h => (h : False).elim) (by kernel_rfl) (fun _ => ‹_›) ?_ ?_
  · intro w _; go_simp
  try simp only [ga, gb, gc, Act.put, gd, ge, gf]
  refine tkA 6 (.bool false) rfl (by kernel_rfl) (fun _ _ _ h => (h : False).elim) (by kernel_rfl) (fun _ => ‹_›) ?_ ?_
  · intro w _; go_simp
  try simp only [ga, gb, gc, Act.put, gd, ge, gf]
  refine tkA 7 (.pointer (some ⟨w.heap.size, 0, none⟩)) rfl (by kernel_rfl) (fun _ _ _ h => (h : False).elim) (by kernel_rfl) (fun _ => ‹_›) ?_ ?_
  · intro w _; go_simp
  try simp only [ga, gb, gc, Act.put, gd, ge, gf]
  refine tkL 8 (.int .i64 3) rfl (by kernel_rfl) (fun _ _ _ h => (h : False).elim) (by kernel_rfl) ‹_› ?_ ?_
  · intro w hSw
    obtain ⟨s0, s1, s2, s3⟩ := hSw
    go_simp
  try simp only [ga, gb, gc, Act.put, gd, ge, gf]
  refine tkA 9 (.bool false) rfl (by kernel_rfl) (fun _ _ _ h => (h : False).elim) (by kernel_rfl) (fun _ => ‹_›) ?_ ?_
  · intro w _; go_simp
  try simp only [ga, gb, gc, Act.put, gd, ge, gf]
  refine tkA 10 (.bool false) rfl (by kernel_rfl) (fun _ _ _ h => (h : False).elim) (by kernel_rfl) (fun _ => ‹_›) ?_ ?_
  · intro w _; go_simp
  try simp only [ga, gb, gc, Act.put, gd, ge, gf]
  refine tkA 11 (.pointer (some ⟨w.heap.size, 0, none⟩)) rfl (by kernel_rfl) (fun _ _ _ h => (h : False).elim) (by kernel_rfl) (fun _ => ‹_›) ?_ ?_
  · intro w _; go_simp
  try simp only [ga, gb, gc, Act.put, gd, ge, gf]
  refine tkL 12 (.int .i64 3) rfl (by kernel_rfl) (fun _ _ _ h => (h : False).elim) (by kernel_rfl) ‹_› ?_ ?_
  · intro w hSw
    obtain ⟨s0, s1, s2, s3⟩ := hSw
    go_simp
  try simp only [ga, gb, gc, Act.put, gd, ge, gf]
  refine tkA 13 (.bool false) rfl (by kernel_rfl) (fun _ _ _ h => (h : False).elim) (by kernel_rfl) (fun _ => ‹_›) ?_ ?_
  · intro w _; go_simp
  try simp only [ga, gb, gc, Act.put, gd, ge, gf]
  refine tkA 14 (.bool true) rfl (by kernel_rfl) (fun _ _ _ h => (h : False).elim) (by kernel_rfl) (fun _ => ‹_›) ?_ ?_
  · intro w _; go_simp
  try simp only [ga, gb, gc, Act.put, gd, ge, gf]
  refine tkA 15 (.bool false) rfl (by kernel_rfl) (fun _ _ _ h => (h : False).elim) (by kernel_rfl) (fun _ => ‹_›) ?_ ?_
  · intro w _; go_simp
  try simp only [ga, gb, gc, Act.put, gd, ge, gf]
  refine tkA 16 (.bool false) rfl (by kernel_rfl) (fun _ _ _ h => (h : False).elim) (by kernel_rfl) (fun _ => ‹_›) ?_ ?_
  · intro w _; go_simp
  try simp only [ga, gb, gc, Act.put, gd, ge, gf]
  refine wpAnyL_done (by kernel_rfl) ?_ _
  refine NoPanic.normal ?_
  clear hS
  go_wp2_with fail
  refine (contains_nil _ _).mono ?_; rintro e w' ⟨rfl, hw⟩
  rw [hw]
  clear hw w'
  go_wp2_with fail
  go_ret
  exact ⟨rfl, hk1.drewN 1⟩
set_option maxRecDepth 100000 in
set_option maxHeartbeats 4000000 in
theorem check_4 (ao : Option Addr) (n cap : Nat) (l : List Reg) (hn : n = l.length) (h1 : 1 ≤ n) (h64 : n ≤ 64) (hok : l.any wrongR = false) (hem : l.any holdsR = false) (w : World) (hr : regsAt w (.slice ao n cap) l) : Calls Tryz.prog 128 #[.agg #[.int .i64 4, .int .i64 0, .slice ao n cap, .int .i64 0]] w fun e w' => e = .returned (.int .i64 0) ∧ Keeps (fun _ => False) w w' := by
  have HR := Lib.hid hr
  have HN := Lib.hid hn
  have HOK := Lib.hid hok
  have HEM := Lib.hid hem
  clear hr hn hok hem
  go_enter Tryz.func128, Tryz.ntmps128
  go_upto_region 1 with fail
  obtain ⟨w1, hw1⟩ : ∃ w1, w.alloc (.cells #[.int .i64 4, .int .i64 0, .slice ao n cap, .int .i64 0] 27) = w1 := ⟨_, rfl⟩
  have hg := heap_alloc_new w (.cells #[.int .i64 4, .int .i64 0, .slice ao n cap, .int .i64 0] 27)
  have hk1 : Keeps (fun _ => False) w w1 := by rw [← hw1]; exact (Keeps.refl _ w).alloc _
  rw [hw1] at hg ⊢
  clear hw1
  have c0 : w1.cell? ⟨w.heap.size, 0, none⟩ = some (.int .i64 4) := cells_at hg 0
  have c1 : w1.cell? ⟨w.heap.size, 1, none⟩ = some (.int .i64 0) := cells_at hg 1
  have c2 : w1.cell? ⟨w.heap.size, 2, none⟩ = some (.slice ao n cap) := cells_at hg 2
  have c3 : w1.cell? ⟨w.heap.size, 3, none⟩ = some (.int .i64 0) := cells_at hg 3
  have hl : w.heap.size < w1.heap.size := (Array.getElem?_eq_some_iff.1 hg).1
  have HG1 := Lib.hid hg
  clear hg
  refine wp_region_late (fun W => W.cell? ⟨w.heap.size, 0, none⟩ = some (.int .i64 4) ∧ W.cell? ⟨w.heap.size, 1, none⟩ = some (.int .i64 0) ∧ W.cell? ⟨w.heap.size, 2, none⟩ = some (.slice ao n cap) ∧ W.cell? ⟨w.heap.size, 3, none⟩ = some (.int .i64 0)) [] (by kernel_rfl) ?_
  have hS : w1.drew.cell? ⟨w.heap.size, 0, none⟩ = some (.int .i64 4) ∧ w1.drew.cell? ⟨w.heap.size, 1, none⟩ = some (.int .i64 0) ∧ w1.drew.cell? ⟨w.heap.size, 2, none⟩ = some (.slice ao n cap) ∧ w1.drew.cell? ⟨w.heap.size, 3, none⟩ = some (.int .i64 0) := ⟨c0, c1, c2, c3⟩
  refine tkA 0 (.pointer (some ⟨w.heap.size, 0, none⟩)) rfl (by kernel_rfl) (fun _ _ _ h => (h : False).elim) (by kernel_rfl) (fun _ => ‹_›) ?_ ?_
  · intro w _; go_simp
  try simp only [ga, gb, gc, Act.put, gd, ge, gf]
  refine tkL 1 (.int .i64 4) rfl (by kernel_rfl) (fun _ _ _ h => (h : False).elim) (by kernel_rfl) ‹_› ?_ ?_
  · intro w hSw
    obtain ⟨s0, s1, s2, s3⟩ := hSw
    go_simp
  try simp only [ga, gb, gc, Act.put, gd, ge, gf]
  refine tkA 2 (.bool false) rfl (by kernel_rfl) (fun _ _ _ h => (h : False).elim) (by kernel_rfl) (fun _ => ‹_›) ?_ ?_
  · intro w _; go_simp
  try simp only [ga, gb, gc, Act.put, gd, ge, gf]
  refine tkA 3 (.pointer (some ⟨w.heap.size, 0, none⟩)) rfl (by kernel_rfl) (fun _ _ _ h => (h : False).elim) (by kernel_rfl) (fun _ => ‹_›) ?_ ?_
  · intro w _; go_simp
  try simp only [ga, gb, gc, Act.put, gd, ge, gf]
  refine tkL 4 (.int .i64 4) rfl (by kernel_rfl) (fun _ _ _ h => (h : False).elim) (by kernel_rfl) ‹_› ?_ ?_
  · intro w hSw
    obtain ⟨s0, s1, s2, s3⟩ := hSw
    go_simp
  try simp only [ga, gb, gc, Act.put, gd, ge, gf]
  refine tkA 5 (.bool true) rfl (by kernel_rfl) (fun _ _ _ h => (h : False).elim) (by kernel_rfl) (fun _ => ‹_›) ?_ ?_
  · intro w _; go_simp
  try simp only [ga, gb, gc, Act.put, gd, ge, gf]
  refine tkA 6 (.bool true) rfl (by kernel_rfl) (fun _ _ _ h => (h : False).elim) (by kernel_rfl) (fun _ => ‹_›) ?_ ?_
  · intro w _; go_simp
  try simp only [ga, gb, gc, Act.put, gd, ge, gf]
  refine wpAnyL_any (i := 7) (oi := _) (v := undef) rfl (by kernel_rfl) (by kernel_rfl) (by kernel_rfl) (by kernel_rfl) (fun _ _ _ h => (h : False).elim) (Or.inr ⟨by kernel_rfl, rfl⟩) (fun _ => by assumption) ?_
  try simp only [ga, gb, gc, Act.put, gd, ge, gf]
  refine wpAnyL_any (i := 8) (oi := _) (v := undef) rfl (by kernel_rfl) (by kernel_rfl) (by kernel_rfl) (by kernel_rfl) (fun _ _ _ h => (h : False).elim) (Or.inr ⟨by kernel_rfl, rfl⟩) (fun _ => by assumption) ?_
  try simp only [ga, gb, gc, Act.put, gd, ge, gf]
  refine wpAnyL_any (i := 9) (oi := _) (v := undef) rfl (by kernel_rfl) (by kernel_rfl) (by kernel_rfl) (by kernel_rfl) (fun _ _ _ h => (h : False).elim) (Or.inr ⟨by kernel_rfl, rfl⟩) (fun _ => by assumption) ?_
  try simp only [ga, gb, gc, Act.put, gd, ge, gf]
  refine tkA 10 (.bool true) rfl (by kernel_rfl) (fun _ _ _ h => (h : False).elim) (by kernel_rfl) (fun _ => ‹_›) ?_ ?_
  · intro w _; go_simp
  try simp only [ga, gb, gc, Act.put, gd, ge, gf]
  refine tkA 11 (.pointer (some ⟨w.heap.size, 0, none⟩)) rfl (by kernel_rfl) (fun _ _ _ h => (h : False).elim) (by kernel_rfl) (fun _ => ‹_›) ?_ ?_
  · intro w _; go_simp
  try simp only [ga, gb, gc, Act.put, gd, ge, gf]
  refine tkL 12 (.int .i64 4) rfl (by kernel_rfl) (fun _ _ _ h => (h : False).elim) (by kernel_rfl) ‹_› ?_ ?_
  · intro w hSw
    obtain ⟨s0, s1, s2, s3⟩ := hSw
    go_simp
  try simp only [ga, gb, gc, Act.put, gd, ge, gf]
  refine tkA 13 (.bool false) rfl (by kernel_rfl) (fun _ _ _ h => (h : False).elim) (by kernel_rfl) (fun _ => ‹_›) ?_ ?_
  · intro w _; go_simp
  try simp only [ga, gb, gc, Act.put, gd, ge, gf]
  refine tkA 14 (.bool false) rfl (by kernel_rfl) (fun _ _ _ h => (h : False).elim) (by kernel_rfl) (fun _ => ‹_›) ?_ ?_
  · intro w _; go_simp
  try simp only [ga, gb, gc, Act.put, gd, ge, gf]
  refine tkA 15 (.bool true) rfl (by kernel_rfl) (fun _ _ _ h => (h : False).elim) (by kernel_rfl) (fun _ => ‹_›) ?_ ?_
  · intro w _; go_simp
  try simp only [ga, gb, gc, Act.put, gd, ge, gf]
  refine tkA 16 (.bool false) rfl (by kernel_rfl) (fun _ _ _ h => (h : False).elim) (by kernel_rfl) (fun _ => ‹_›) ?_ ?_
  · intro w _; go_simp
  try simp only [ga, gb, gc, Act.put, gd, ge, gf]
  refine wpAnyL_done (by kernel_rfl) ?_ _
  refine NoPanic.normal ?_
  clear hS
  go_wp2_with fail
  refine (contains_wrong2 _ l (by rw [← HN.out]; omega) _ ((HR.out.kept hk1).kept ((Keeps.refl _ w1).drewN 1))).mono ?_; rintro e w2 ⟨rfl, hk2⟩
  rw [HOK.out]
  have hk12 : Keeps (fun _ => False) w w2 := knil (hk1.drewN 1) hk2
  have hk02 : Keeps (fun _ => False) w1 w2 := knil ((Keeps.refl _ w1).drewN 1) hk2
  have hg2 := (hk02.block _ hl (fun h => h)).trans HG1.out
  clear c0 c1 c2 c3
  have c0 : w2.cell? ⟨w.heap.size, 0, none⟩ = some (.int .i64 4) := cells_at hg2 0
  have c1 : w2.cell? ⟨w.heap.size, 1, none⟩ = some (.int .i64 0) := cells_at hg2 1
  have c2 : w2.cell? ⟨w.heap.size, 2, none⟩ = some (.slice ao n cap) := cells_at hg2 2
  have c3 : w2.cell? ⟨w.heap.size, 3, none⟩ = some (.int .i64 0) := cells_at hg2 3
  clear hg2
  go_wp2_with fail
  refine (contains_full _ l (by rw [← HN.out]; omega) _ (HR.out.kept hk12)).mono ?_; rintro e w3 ⟨rfl, hk3⟩
  rw [HEM.out]
  clear c0 c1 c2 c3
  go_wp2_with fail
  go_ret
  exact ⟨rfl, knil hk12 hk3⟩
set_option maxRecDepth 100000 in
set_option maxHeartbeats 4000000 in
theorem check_5 (ao : Option Addr) (n cap : Nat) (l : List Reg) (pts : Int) (hn : n = l.length) (h1 : 1 ≤ n) (h64 : n ≤ 64) (hok : l.any wrongR = false) (hem : l.any holdsR = false) (hp1 : 1 ≤ pts) (hp2 : pts ≤ 4096) (w : World) (hr : regsAt w (.slice ao n cap) l) : Calls Tryz.prog 128 #[.agg #[.int .i64 5, .int .i64 0, .slice ao n cap, .int .i64 pts]] w fun e w' => e = .returned (.int .i64 0) ∧ Keeps (fun _ => False) w w' := by
  have HR := Lib.hid hr
  have HN := Lib.hid hn
  have HOK := Lib.hid hok
  have HEM := Lib.hid hem
  clear hr hn hok hem
  go_enter Tryz.func128, Tryz.ntmps128
  go_upto_region 1 with fail
  obtain ⟨w1, hw1⟩ : ∃ w1, w.alloc (.cells #[.int .i64 5, .int .i64 0, .slice ao n cap, .int .i64 pts] 27) = w1 := ⟨_, rfl⟩
  have hg := heap_alloc_new w (.cells #[.int .i64 5, .int .i64 0, .slice ao n cap, .int .i64 pts] 27)
  have hk1 : Keeps (fun _ => False) w w1 := by rw [← hw1]; exact (Keeps.refl _ w).alloc _
  rw [hw1] at hg ⊢
  clear hw1
  have c0 : w1.cell? ⟨w.heap.size, 0, none⟩ = some (.int .i64 5) := cells_at hg 0
  have c1 : w1.cell? ⟨w.heap.size, 1, none⟩ = some (.int .i64 0) := cells_at hg 1
  have c2 : w1.cell? ⟨w.heap.size, 2, none⟩ = some (.slice ao n cap) := cells_at hg 2
  have c3 : w1.cell? ⟨w.heap.size, 3, none⟩ = some (.int .i64 pts) := cells_at hg 3
  have hl : w.heap.size < w1.heap.size := (Array.getElem?_eq_some_iff.1 hg).1
  have HG1 := Lib.hid hg
  clear hg
  refine wp_region_late (fun W => W.cell? ⟨w.heap.size, 0, none⟩ = some (.int .i64 5) ∧ W.cell? ⟨w.heap.size, 1, none⟩ = some (.int .i64 0) ∧ W.cell? ⟨w.heap.size, 2, none⟩ = some (.slice ao n cap) ∧ W.cell? ⟨w.heap.size, 3, none⟩ = some (.int .i64 pts)) [] (by kernel_rfl) ?_
  have hS : w1.drew.cell? ⟨w.heap.size, 0, none⟩ = some (.int .i64 5) ∧ w1.drew.cell? ⟨w.heap.size, 1, none⟩ = some (.int .i64 0) ∧ w1.drew.cell? ⟨w.heap.size, 2, none⟩ = some (.slice ao n cap) ∧ w1.drew.cell? ⟨w.heap.size, 3, none⟩ = some (.int .i64 pts) := ⟨c0, c1, c2, c3⟩
  refine tkA 0 (.pointer (some ⟨w.heap.size, 0, none⟩)) rfl (by kernel_rfl) (fun _ _ _ h => (h : False).elim) (by kernel_rfl) (fun _ => ‹_›) ?_ ?_
  · intro w _; go_simp
  try simp only [ga, gb, gc, Act.put, gd, ge, gf]
  refine tkL 1 (.int .i64 5) rfl (by kernel_rfl) (fun _ _ _ h => (h : False).elim) (by kernel_rfl) ‹_› ?_ ?_
  · intro w hSw
    obtain ⟨s0, s1, s2, s3⟩ := hSw
    go_simp
  try simp only [ga, gb, gc, Act.put, gd, ge, gf]
  refine tkA 2 (.bool false) rfl (by kernel_rfl) (fun _ _ _ h => (h : False).elim) (by kernel_rfl) (fun _ => ‹_›) ?_ ?_
  · intro w _; go_simp
  try simp only [ga, gb, gc, Act.put, gd, ge, gf]
  refine tkA 3 (.pointer (some ⟨w.heap.size, 0, none⟩)) rfl (by kernel_rfl) (fun _ _ _ h => (h : False).elim) (by kernel_rfl) (fun _ => ‹_›) ?_ ?_
  · intro w _; go_simp
  try simp only [ga, gb, gc, Act.put, gd, ge, gf]
  refine tkL 4 (.int .i64 5) rfl (by kernel_rfl) (fun _ _ _ h => (h : False).elim) (by kernel_rfl) ‹_› ?_ ?_
  · intro w hSw
    obtain ⟨s0, s1, s2, s3⟩ := hSw
    go_simp
  try simp only [ga, gb, gc, Act.put, gd, ge, gf]
  refine tkA 5 (.bool false) rfl (by kernel_rfl) (fun _ _ _ h => (h : False).elim) (by kernel_rfl) (fun _ => ‹_›) ?_ ?_
  · intro w _; go_simp
  try simp only [ga, gb, gc, Act.put, gd, ge, gf]
  refine tkA 6 (.bool false) rfl (by kernel_rfl) (fun _ _ _ h => (h : False).elim) (by kernel_rfl) (fun _ => ‹_›) ?_ ?_
  · intro w _; go_simp
  try simp only [ga, gb, gc, Act.put, gd, ge, gf]
  refine tkA 7 (.pointer (some ⟨w.heap.size, 0, none⟩)) rfl (by kernel_rfl) (fun _ _ _ h => (h : False).elim) (by kernel_rfl) (fun _ => ‹_›) ?_ ?_
  · intro w _; go_simp
  try simp only [ga, gb, gc, Act.put, gd, ge, gf]
  refine tkL 8 (.int .i64 5) rfl (by kernel_rfl) (fun _ _ _ h => (h : False).elim) (by kernel_rfl) ‹_› ?_ ?_
  · intro w hSw
    obtain ⟨s0, s1, s2, s3⟩ := hSw
    go_simp
  try simp only [ga, gb, gc, Act.put, gd, ge, gf]
  refine tkA 9 (.bool true) rfl (by kernel_rfl) (fun _ _ _ h => (h : False).elim) (by kernel_rfl) (fun _ => ‹_›) ?_ ?_
  · intro w _; go_simp
  try simp only [ga, gb, gc, Act.put, gd, ge, gf]
  refine tkA 10 (.bool true) rfl (by kernel_rfl) (fun _ _ _ h => (h : False).elim) (by kernel_rfl) (fun _ => ‹_›) ?_ ?_
  · intro w _; go_simp
  try simp only [ga, gb, gc, Act.put, gd, ge, gf]
  refine tkA 11 (.pointer (some ⟨w.heap.size, 0, none⟩)) rfl (by kernel_rfl) (fun _ _ _ h => (h : False).elim) (by kernel_rfl) (fun _ => ‹_›) ?_ ?_
  · intro w _; go_simp
  try simp only [ga, gb, gc, Act.put, gd, ge, gf]
  refine tkL 12 (.int .i64 5) rfl (by kernel_rfl) (fun _ _ _ h => (h : False).elim) (by kernel_rfl) ‹_› ?_ ?_
  · intro w hSw
    obtain ⟨s0, s1, s2, s3⟩ := hSw
    go_simp
  try simp only [ga, gb, gc, Act.put, gd, ge, gf]
  refine tkA 13 (.bool true) rfl (by kernel_rfl) (fun _ _ _ h => (h : False).elim) (by kernel_rfl) (fun _ => ‹_›) ?_ ?_
  · intro w _; go_simp
  try simp only [ga, gb, gc, Act.put, gd, ge, gf]
  refine tkA 14 (.bool false) rfl (by kernel_rfl) (fun _ _ _ h => (h : False).elim) (by kernel_rfl) (fun _ => ‹_›) ?_ ?_
  · intro w _; go_simp
  try simp only [ga, gb, gc, Act.put, gd, ge, gf]
  refine tkA 15 (.bool true) rfl (by kernel_rfl) (fun _ _ _ h => (h : False).elim) (by kernel_rfl) (fun _ => ‹_›) ?_ ?_
  · intro w _; go_simp
  try simp only [ga, gb, gc, Act.put, gd, ge, gf]
  refine tkA 16 (.bool true) rfl (by kernel_rfl) (fun _ _ _ h => (h : False).elim) (by kernel_rfl) (fun _ => ‹_›) ?_ ?_
  · intro w _; go_simp
  try simp only [ga, gb, gc, Act.put, gd, ge, gf]
  refine wpAnyL_done (by kernel_rfl) ?_ _
  refine NoPanic.normal ?_
  clear hS
  go_wp2_with fail
  refine (contains_wrong2 _ l (by rw [← HN.out]; omega) _ ((HR.out.kept hk1).kept ((Keeps.refl _ w1).drewN 1))).mono ?_; rintro e w2 ⟨rfl, hk2⟩
  rw [HOK.out]
  have hk12 : Keeps (fun _ => False) w w2 := knil (hk1.drewN 1) hk2
  have hk02 : Keeps (fun _ => False) w1 w2 := knil ((Keeps.refl _ w1).drewN 1) hk2
  have hg2 := (hk02.block _ hl (fun h => h)).trans HG1.out
  clear c0 c1 c2 c3
  have c0 : w2.cell? ⟨w.heap.size, 0, none⟩ = some (.int .i64 5) := cells_at hg2 0
  have c1 : w2.cell? ⟨w.heap.size, 1, none⟩ = some (.int .i64 0) := cells_at hg2 1
  have c2 : w2.cell? ⟨w.heap.size, 2, none⟩ = some (.slice ao n cap) := cells_at hg2 2
  have c3 : w2.cell? ⟨w.heap.size, 3, none⟩ = some (.int .i64 pts) := cells_at hg2 3
  clear hg2
  go_wp2_with fail
  refine (contains_full _ l (by rw [← HN.out]; omega) _ (HR.out.kept hk12)).mono ?_; rintro e w3 ⟨rfl, hk3⟩
  rw [HEM.out]
  clear c0 c1 c2 c3
  go_wp2_with fail
  go_ret
  exact ⟨rfl, knil hk12 hk3⟩
structure Hd where
  op : Int
  vt : Int
  rs : List Reg
  pts : Int
def HdOk (h : Hd) : Prop :=
  ((h.op = 1 ∨ h.op = 2) ∧ h.vt = 0 ∧ h.rs = [] ∧ h.pts = 0) ∨ (h.op = 3 ∧ (3 ≤ h.vt ∧ h.vt ≤ 64) ∧ h.rs = [] ∧ h.pts = 0) ∨
  ((h.op = 4 ∧ h.pts = 0 ∨ h.op = 5 ∧ 1 ≤ h.pts ∧ h.pts ≤ 4096) ∧ h.vt = 0 ∧ (1 ≤ h.rs.length ∧ h.rs.length ≤ 64) ∧ h.rs.any wrongR = false ∧ h.rs.any holdsR = false)
def HdAt (w : World) (v : Value) (h : Hd) : Prop := ∃ ao cap, v = .agg #[.int .i64 h.op, .int .i64 h.vt, .slice ao h.rs.length cap, .int .i64 h.pts] ∧ regsAt w (.slice ao h.rs.length cap) h.rs ∧ (h.rs = [] → ao = none ∧ cap = 0)
theorem HdAt.kept {w w' : World} {v : Value} {h : Hd} (hv : HdAt w v h) (hk : Keeps (fun _ => False) w w') : HdAt w' v h := by
  obtain ⟨ao, cap, h1, h2, h3⟩ := hv
  exact ⟨ao, cap, h1, h2.kept hk, h3⟩
theorem check_calls (v : Value) (h : Hd) (ho : HdOk h) (w : World) (hv : HdAt w v h) : Calls Tryz.prog 128 #[v] w fun e w' => e = .returned (.int .i64 0) ∧ Keeps (fun _ => False) w w' := by
  obtain ⟨ao, cap, rfl, hr, hnil⟩ := hv
  obtain ⟨op, vt, rs, pts⟩ := h
  rcases ho with ⟨h1 | h1, h2, h3, h4⟩ | ⟨h1, ⟨h2, h2'⟩, h3, h4⟩ | ⟨⟨h1, h4⟩ | ⟨h1, h4, h4'⟩, h2, ⟨h3, h3'⟩, h5, h6⟩
  · simp only at h1 h2 h3 h4 hnil ⊢
    subst h1; subst h2; subst h3; subst h4
    obtain ⟨rfl, rfl⟩ := hnil rfl
    exact check_1 w
  · simp only at h1 h2 h3 h4 hnil ⊢
    subst h1; subst h2; subst h3; subst h4
    obtain ⟨rfl, rfl⟩ := hnil rfl
    exact check_2 w
  · simp only at h1 h2 h2' h3 h4 hnil ⊢
    subst h1; subst h3; subst h4
    obtain ⟨rfl, rfl⟩ := hnil rfl
    exact check_3 vt h2 h2' w
  · simp only at h1 h2 h3 h3' h4 h5 h6 hr ⊢
    subst h1; subst h2; subst h4
    exact check_4 ao _ cap rs rfl h3 h3' h5 h6 w hr
  · simp only at h1 h2 h3 h3' h4 h4' h5 h6 hr ⊢
    subst h1; subst h2
    exact check_5 ao _ cap rs pts rfl h3 h3' h5 h6 h4 h4' w hr
end Go.Proofs.YtmoajobnhiopiaaGreatDoor.sv
set_option linter.unusedSimpArgs false
set_option linter.unusedVariables false
namespace Go.Proofs.YtmoajobnhiopiaaGreatDoor.sv
open Go Go.RowKit Go.Shelf Go.Maps Go.Proofs.YtmoajobnhiopiaaGreatDoor.mk Go.Proofs.YtmoajobnhiopiaaGreatDoor.tp Go.Proofs.YtmoajobnhiopiaaGreatDoor.rg Go.Proofs.YtmoajobnhiopiaaGreatDoor.lm Go.Proofs.YtmoajobnhiopiaaGreatDoor.gm Go.Proofs.YtmoajobnhiopiaaGreatDoor.po
open List renaming getElem_toArray → ga, getElem_cons_zero → gb, getElem_cons_succ → gc, setIfInBounds_toArray → gd, set_cons_zero → ge, set_cons_succ → gf
def totR : List Reg → Int
  | [] => 0
  | r :: l => sizeR r.2.1 + totR l
theorem sizeR_bound (n : Int) : 0 ≤ sizeR n ∧ sizeR n ≤ 64 := by
  unfold sizeR sizeC
  split
  · omega
  · split <;> omega
theorem totR_bound (l : List Reg) : 0 ≤ totR l ∧ totR l ≤ 64 * l.length := by
  induction l with
  | nil => simp [totR]
  | cons r l ih =>
    have := sizeR_bound r.2.1
    simp only [totR, List.length_cons]
    omega
theorem totR_append (l m : List Reg) : totR (l ++ m) = totR l + totR m := by
  induction l with
  | nil => simp [totR]
  | cons r l ih => simp only [List.cons_append, totR, ih]; omega
theorem rg_take {l : List Reg} {k : Nat} (h : k < l.length) : l.take (k + 1) = l.take k ++ [rg l k] := by
  rw [List.take_add_one, List.getElem?_eq_getElem h]
  unfold rg
  rw [List.getD_eq_getElem?_getD, List.getElem?_eq_getElem h]
  rfl
theorem totR_step {l : List Reg} {k : Nat} (h : k < l.length) : totR (l.take (k + 1)) = totR (l.take k) + sizeR (rg l k).2.1 := by
  rw [rg_take h, totR_append]
  simp [totR]
set_option maxRecDepth 100000 in
theorem counts_1 (ao : Option Addr) (n cap : Nat) (w : World) : Calls Tryz.prog 84 #[.agg #[.int .i64 1, .int .i64 0, .slice ao n cap, .int .i64 0]] w fun e w' => e = .returned (.tuple #[.int .i64 (3), .int .i64 (0)]) ∧ Keeps (fun _ => False) w w' := by
  obtain ⟨w1, hw1⟩ : ∃ w1, w.alloc (.cells #[.int .i64 1, .int .i64 0, .slice ao n cap, .int .i64 0] 27) = w1 := ⟨_, rfl⟩
  have hg := heap_alloc_new w (.cells #[.int .i64 1, .int .i64 0, .slice ao n cap, .int .i64 0] 27)
  have hk1 : Keeps (fun _ => False) w w1 := by rw [← hw1]; exact (Keeps.refl _ w).alloc _
  rw [hw1] at hg
  have c0 : w1.cell? ⟨w.heap.size, 0, none⟩ = some (.int .i64 1) := cells_at hg 0
  have c1 : w1.cell? ⟨w.heap.size, 1, none⟩ = some (.int .i64 0) := cells_at hg 1
  have c2 : w1.cell? ⟨w.heap.size, 2, none⟩ = some (.slice ao n cap) := cells_at hg 2
  have c3 : w1.cell? ⟨w.heap.size, 3, none⟩ = some (.int .i64 0) := cells_at hg 3
  go_enter Tryz.func84, Tryz.ntmps84
  go_upto_region 1 with fail
  try rw [hw1]
  clear hw1 hg
  go_wp2_with fail
  refine bodyPost_ret (results_two rfl _ _ _) rfl ⟨rfl, hk1⟩
set_option maxRecDepth 100000 in
theorem counts_2 (ao : Option Addr) (n cap : Nat) (w : World) : Calls Tryz.prog 84 #[.agg #[.int .i64 2, .int .i64 0, .slice ao n cap, .int .i64 0]] w fun e w' => e = .returned (.tuple #[.int .i64 (4), .int .i64 (0)]) ∧ Keeps (fun _ => False) w w' := by
  obtain ⟨w1, hw1⟩ : ∃ w1, w.alloc (.cells #[.int .i64 2, .int .i64 0, .slice ao n cap, .int .i64 0] 27) = w1 := ⟨_, rfl⟩
  have hg := heap_alloc_new w (.cells #[.int .i64 2, .int .i64 0, .slice ao n cap, .int .i64 0] 27)
  have hk1 : Keeps (fun _ => False) w w1 := by rw [← hw1]; exact (Keeps.refl _ w).alloc _
  rw [hw1] at hg
  have c0 : w1.cell? ⟨w.heap.size, 0, none⟩ = some (.int .i64 2) := cells_at hg 0
  have c1 : w1.cell? ⟨w.heap.size, 1, none⟩ = some (.int .i64 0) := cells_at hg 1
  have c2 : w1.cell? ⟨w.heap.size, 2, none⟩ = some (.slice ao n cap) := cells_at hg 2
  have c3 : w1.cell? ⟨w.heap.size, 3, none⟩ = some (.int .i64 0) := cells_at hg 3
  go_enter Tryz.func84, Tryz.ntmps84
  go_upto_region 1 with fail
  try rw [hw1]
  clear hw1 hg
  go_wp2_with fail
  refine bodyPost_ret (results_two rfl _ _ _) rfl ⟨rfl, hk1⟩
set_option maxRecDepth 100000 in
theorem counts_3 (vt : Int) (hv3 : 3 ≤ vt) (hv64 : vt ≤ 64) (ao : Option Addr) (n cap : Nat) (w : World) : Calls Tryz.prog 84 #[.agg #[.int .i64 3, .int .i64 vt, .slice ao n cap, .int .i64 0]] w fun e w' => e = .returned (.tuple #[.int .i64 (vt + 1), .int .i64 (0)]) ∧ Keeps (fun _ => False) w w' := by
  obtain ⟨w1, hw1⟩ : ∃ w1, w.alloc (.cells #[.int .i64 3, .int .i64 vt, .slice ao n cap, .int .i64 0] 27) = w1 := ⟨_, rfl⟩
  have hg := heap_alloc_new w (.cells #[.int .i64 3, .int .i64 vt, .slice ao n cap, .int .i64 0] 27)
  have hk1 : Keeps (fun _ => False) w w1 := by rw [← hw1]; exact (Keeps.refl _ w).alloc _
  rw [hw1] at hg
  have hws : IntKind.i64.wrap (vt + 1) = vt + 1 := by rw [IntKind.wrap_i64]; omega
  have c0 : w1.cell? ⟨w.heap.size, 0, none⟩ = some (.int .i64 3) := cells_at hg 0
  have c1 : w1.cell? ⟨w.heap.size, 1, none⟩ = some (.int .i64 vt) := cells_at hg 1
  have c2 : w1.cell? ⟨w.heap.size, 2, none⟩ = some (.slice ao n cap) := cells_at hg 2
  have c3 : w1.cell? ⟨w.heap.size, 3, none⟩ = some (.int .i64 0) := cells_at hg 3
  go_enter Tryz.func84, Tryz.ntmps84
  go_upto_region 1 with fail
  try rw [hw1]
  clear hw1 hg
  go_wp2_with fail
  refine bodyPost_ret (results_two rfl _ _ _) rfl ⟨rfl, hk1⟩
set_option maxRecDepth 100000 in
theorem counts_4 (ao : Option Addr) (n cap : Nat) (w : World) : Calls Tryz.prog 84 #[.agg #[.int .i64 4, .int .i64 0, .slice ao n cap, .int .i64 0]] w fun e w' => e = .returned (.tuple #[.int .i64 (1), .int .i64 (0)]) ∧ Keeps (fun _ => False) w w' := by
  obtain ⟨w1, hw1⟩ : ∃ w1, w.alloc (.cells #[.int .i64 4, .int .i64 0, .slice ao n cap, .int .i64 0] 27) = w1 := ⟨_, rfl⟩
  have hg := heap_alloc_new w (.cells #[.int .i64 4, .int .i64 0, .slice ao n cap, .int .i64 0] 27)
  have hk1 : Keeps (fun _ => False) w w1 := by rw [← hw1]; exact (Keeps.refl _ w).alloc _
  rw [hw1] at hg
  have c0 : w1.cell? ⟨w.heap.size, 0, none⟩ = some (.int .i64 4) := cells_at hg 0
  have c1 : w1.cell? ⟨w.heap.size, 1, none⟩ = some (.int .i64 0) := cells_at hg 1
  have c2 : w1.cell? ⟨w.heap.size, 2, none⟩ = some (.slice ao n cap) := cells_at hg 2
  have c3 : w1.cell? ⟨w.heap.size, 3, none⟩ = some (.int .i64 0) := cells_at hg 3
  go_enter Tryz.func84, Tryz.ntmps84
  go_upto_region 1 with fail
  try rw [hw1]
  clear hw1 hg
  go_wp2_with fail
  refine bodyPost_ret (results_two rfl _ _ _) rfl ⟨rfl, hk1⟩
set_option maxRecDepth 100000 in
theorem counts_5 (pts : Int) (ao : Option Addr) (n cap : Nat) (w : World) : Calls Tryz.prog 84 #[.agg #[.int .i64 5, .int .i64 0, .slice ao n cap, .int .i64 pts]] w fun e w' => e = .returned (.tuple #[.int .i64 (0), .int .i64 (pts)]) ∧ Keeps (fun _ => False) w w' := by
  obtain ⟨w1, hw1⟩ : ∃ w1, w.alloc (.cells #[.int .i64 5, .int .i64 0, .slice ao n cap, .int .i64 pts] 27) = w1 := ⟨_, rfl⟩
  have hg := heap_alloc_new w (.cells #[.int .i64 5, .int .i64 0, .slice ao n cap, .int .i64 pts] 27)
  have hk1 : Keeps (fun _ => False) w w1 := by rw [← hw1]; exact (Keeps.refl _ w).alloc _
  rw [hw1] at hg
  have c0 : w1.cell? ⟨w.heap.size, 0, none⟩ = some (.int .i64 5) := cells_at hg 0
  have c1 : w1.cell? ⟨w.heap.size, 1, none⟩ = some (.int .i64 0) := cells_at hg 1
  have c2 : w1.cell? ⟨w.heap.size, 2, none⟩ = some (.slice ao n cap) := cells_at hg 2
  have c3 : w1.cell? ⟨w.heap.size, 3, none⟩ = some (.int .i64 pts) := cells_at hg 3
  go_enter Tryz.func84, Tryz.ntmps84
  go_upto_region 1 with fail
  try rw [hw1]
  clear hw1 hg
  go_wp2_with fail
  refine wp_region_late (fun W => W.cell? ⟨w.heap.size, 3, none⟩ = some (.int .i64 pts)) [] (by kernel_rfl) ?_
  have hS : w1.drew.cell? ⟨w.heap.size, 3, none⟩ = some (.int .i64 pts) := c3
  refine tkA 0 (.pointer (some ⟨w.heap.size, 3, none⟩)) rfl (by kernel_rfl) (fun _ _ _ h => (h : False).elim) (by kernel_rfl) (fun _ => ‹_›) ?_ ?_
  · intro w _; go_simp
  try simp only [ga, gb, gc, Act.put, gd, ge, gf]
  refine tkL 1 (.int .i64 pts) rfl (by kernel_rfl) (fun _ _ _ h => (h : False).elim) (by kernel_rfl) ‹_› ?_ ?_
  · intro w hSw
    skip
    go_simp
  try simp only [ga, gb, gc, Act.put, gd, ge, gf]
  refine tkA 2 (.int .i64 0) rfl (by kernel_rfl) (fun _ _ _ h => (h : False).elim) (by kernel_rfl) (fun _ => ‹_›) ?_ ?_
  · intro w _; go_simp
  try simp only [ga, gb, gc, Act.put, gd, ge, gf]
  refine tkA 3 (.int .i64 pts) rfl (by kernel_rfl) (fun _ _ _ h => (h : False).elim) (by kernel_rfl) (fun _ => ‹_›) ?_ ?_
  · intro w _; go_simp
  try simp only [ga, gb, gc, Act.put, gd, ge, gf]
  refine wpAnyL_done (by kernel_rfl) ?_ _
  refine NoPanic.normal ?_
  go_wp2_with fail
  refine bodyPost_ret (results_two rfl _ _ _) rfl ⟨rfl, hk1.drewN 1⟩
set_option maxRecDepth 100000 in
set_option maxHeartbeats 4000000 in
theorem payload_1 (w : World) (hG : Gl w) (hck : ∀ W, Keeps (fun _ => False) w W → Calls Tryz.prog 128 #[.agg #[.int .i64 1, .int .i64 0, .slice none 0 0, .int .i64 0]] W fun e w' => e = .returned (.int .i64 0) ∧ Keeps (fun _ => False) W w') : Calls Tryz.prog 113 #[.agg #[.int .i64 1, .int .i64 0, .slice none 0 0, .int .i64 0]] w fun e w' => e = .returned (.int .i64 (48)) ∧ Keeps (fun _ => False) w w' := by
  have HG := Lib.hid hG
  have HCK := Lib.hid hck
  clear hG hck
  have hws : IntKind.i64.wrap 3 = 3 := by decide
  go_enter Tryz.func113, Tryz.ntmps113
  go_upto_region 1 with fail
  obtain ⟨w1, hw1⟩ : ∃ w1, w.alloc (.cells #[.int .i64 1, .int .i64 0, .slice none 0 0, .int .i64 0] 27) = w1 := ⟨_, rfl⟩
  have hg := heap_alloc_new w (.cells #[.int .i64 1, .int .i64 0, .slice none 0 0, .int .i64 0] 27)
  have hk1 : Keeps (fun _ => False) w w1 := by rw [← hw1]; exact (Keeps.refl _ w).alloc _
  rw [hw1] at hg ⊢
  clear hw1
  have c0 : w1.cell? ⟨w.heap.size, 0, none⟩ = some (.int .i64 1) := cells_at hg 0
  have c1 : w1.cell? ⟨w.heap.size, 1, none⟩ = some (.int .i64 0) := cells_at hg 1
  have c2 : w1.cell? ⟨w.heap.size, 2, none⟩ = some (.slice none 0 0) := cells_at hg 2
  have c3 : w1.cell? ⟨w.heap.size, 3, none⟩ = some (.int .i64 0) := cells_at hg 3
  have hl : w.heap.size < w1.heap.size := (Array.getElem?_eq_some_iff.1 hg).1
  go_wp2_with fail
  refine (HCK.out w1 hk1).mono ?_; rintro e w2 ⟨rfl, hk2⟩
  have hk12 := knil hk1 hk2
  have d0 : w2.cell? ⟨w.heap.size, 0, none⟩ = some (.int .i64 1) := (hk2.cell (p := ⟨w.heap.size, 0, none⟩) hl (fun h => h)).trans c0
  have d1 : w2.cell? ⟨w.heap.size, 1, none⟩ = some (.int .i64 0) := (hk2.cell (p := ⟨w.heap.size, 1, none⟩) hl (fun h => h)).trans c1
  have d2 : w2.cell? ⟨w.heap.size, 2, none⟩ = some (.slice none 0 0) := (hk2.cell (p := ⟨w.heap.size, 2, none⟩) hl (fun h => h)).trans c2
  have d3 : w2.cell? ⟨w.heap.size, 3, none⟩ = some (.int .i64 0) := (hk2.cell (p := ⟨w.heap.size, 3, none⟩) hl (fun h => h)).trans c3
  have g1 := (HG.out.kept hk12).f1
  clear c0 c1 c2 c3 hg
  go_wp2_with fail
  refine wp_region_late (fun W => W.cell? ⟨w.heap.size, 0, none⟩ = some (.int .i64 1) ∧ W.cell? ⟨w.heap.size, 1, none⟩ = some (.int .i64 0) ∧ W.cell? ⟨1, 1, none⟩ = some (.int .i64 3)) [] (by kernel_rfl) ?_
  have hS : w2.drew.cell? ⟨w.heap.size, 0, none⟩ = some (.int .i64 1) ∧ w2.drew.cell? ⟨w.heap.size, 1, none⟩ = some (.int .i64 0) ∧ w2.drew.cell? ⟨1, 1, none⟩ = some (.int .i64 3) := ⟨d0, d1, g1⟩
  refine tkA 0 (.pointer (some ⟨w.heap.size, 0, none⟩)) rfl (by kernel_rfl) (fun _ _ _ h => (h : False).elim) (by kernel_rfl) (fun _ => ‹_›) ?_ ?_
  · intro w _; go_simp
  try simp only [ga, gb, gc, Act.put, gd, ge, gf]
  refine tkL 1 (.int .i64 1) rfl (by kernel_rfl) (fun _ _ _ h => (h : False).elim) (by kernel_rfl) ‹_› ?_ ?_
  · intro w hSw
    obtain ⟨s0, s1, s2⟩ := hSw
    go_simp
  try simp only [ga, gb, gc, Act.put, gd, ge, gf]
  refine tkA 2 (.pointer (some ⟨1, 1, none⟩)) rfl (by kernel_rfl) (fun _ _ _ h => (h : False).elim) (by kernel_rfl) (fun _ => ‹_›) ?_ ?_
  · intro w _; go_simp
  try simp only [ga, gb, gc, Act.put, gd, ge, gf]
  refine tkL 3 (.int .i64 3) rfl (by kernel_rfl) (fun _ _ _ h => (h : False).elim) (by kernel_rfl) ‹_› ?_ ?_
  · intro w hSw
    obtain ⟨s0, s1, s2⟩ := hSw
    go_simp
  try simp only [ga, gb, gc, Act.put, gd, ge, gf]
  refine tkA 4 (.pointer (some ⟨w.heap.size, 1, none⟩)) rfl (by kernel_rfl) (fun _ _ _ h => (h : False).elim) (by kernel_rfl) (fun _ => ‹_›) ?_ ?_
  · intro w _; go_simp
  try simp only [ga, gb, gc, Act.put, gd, ge, gf]
  refine tkL 5 (.int .i64 0) rfl (by kernel_rfl) (fun _ _ _ h => (h : False).elim) (by kernel_rfl) ‹_› ?_ ?_
  · intro w hSw
    obtain ⟨s0, s1, s2⟩ := hSw
    go_simp
  try simp only [ga, gb, gc, Act.put, gd, ge, gf]
  refine tkA 6 (.int .i64 3) rfl (by kernel_rfl) (fun _ _ _ h => (h : False).elim) (by kernel_rfl) (fun _ => ‹_›) ?_ ?_
  · intro w _; go_simp
  try simp only [ga, gb, gc, Act.put, gd, ge, gf]
  refine tkA 7 (.int .i64 3) rfl (by kernel_rfl) (fun _ _ _ h => (h : False).elim) (by kernel_rfl) (fun _ => ‹_›) ?_ ?_
  · intro w _; go_simp
  try simp only [ga, gb, gc, Act.put, gd, ge, gf]
  refine wpAnyL_done (by kernel_rfl) ?_ _
  refine NoPanic.normal ?_
  clear hS hws
  have hk2d : Keeps (fun _ => False) w w2.drew := hk12.drewN 1
  go_wp2_with fail
  go_loopw [3, 19] (fun n i wr => n = .int .i64 3 ∧ i = .int .i64 0 ∧ wr = w2.drewN 1) (fun _ _ _ => 0)
  case atStart => exact ⟨rfl, rfl, rfl⟩
  case round =>
    obtain ⟨rfl, rfl, rfl⟩ := hrel
    go_wp2_with fail
    go_ret
    exact ⟨by rfl, hk2d⟩
set_option maxRecDepth 100000 in
set_option maxHeartbeats 4000000 in
theorem payload_2 (w : World) (hG : Gl w) (hck : ∀ W, Keeps (fun _ => False) w W → Calls Tryz.prog 128 #[.agg #[.int .i64 2, .int .i64 0, .slice none 0 0, .int .i64 0]] W fun e w' => e = .returned (.int .i64 0) ∧ Keeps (fun _ => False) W w') : Calls Tryz.prog 113 #[.agg #[.int .i64 2, .int .i64 0, .slice none 0 0, .int .i64 0]] w fun e w' => e = .returned (.int .i64 (64)) ∧ Keeps (fun _ => False) w w' := by
  have HG := Lib.hid hG
  have HCK := Lib.hid hck
  clear hG hck
  have hws : IntKind.i64.wrap 4 = 4 := by decide
  go_enter Tryz.func113, Tryz.ntmps113
  go_upto_region 1 with fail
  obtain ⟨w1, hw1⟩ : ∃ w1, w.alloc (.cells #[.int .i64 2, .int .i64 0, .slice none 0 0, .int .i64 0] 27) = w1 := ⟨_, rfl⟩
  have hg := heap_alloc_new w (.cells #[.int .i64 2, .int .i64 0, .slice none 0 0, .int .i64 0] 27)
  have hk1 : Keeps (fun _ => False) w w1 := by rw [← hw1]; exact (Keeps.refl _ w).alloc _
  rw [hw1] at hg ⊢
  clear hw1
  have c0 : w1.cell? ⟨w.heap.size, 0, none⟩ = some (.int .i64 2) := cells_at hg 0
  have c1 : w1.cell? ⟨w.heap.size, 1, none⟩ = some (.int .i64 0) := cells_at hg 1
  have c2 : w1.cell? ⟨w.heap.size, 2, none⟩ = some (.slice none 0 0) := cells_at hg 2
  have c3 : w1.cell? ⟨w.heap.size, 3, none⟩ = some (.int .i64 0) := cells_at hg 3
  have hl : w.heap.size < w1.heap.size := (Array.getElem?_eq_some_iff.1 hg).1
  go_wp2_with fail
  refine (HCK.out w1 hk1).mono ?_; rintro e w2 ⟨rfl, hk2⟩
  have hk12 := knil hk1 hk2
  have d0 : w2.cell? ⟨w.heap.size, 0, none⟩ = some (.int .i64 2) := (hk2.cell (p := ⟨w.heap.size, 0, none⟩) hl (fun h => h)).trans c0
  have d1 : w2.cell? ⟨w.heap.size, 1, none⟩ = some (.int .i64 0) := (hk2.cell (p := ⟨w.heap.size, 1, none⟩) hl (fun h => h)).trans c1
  have d2 : w2.cell? ⟨w.heap.size, 2, none⟩ = some (.slice none 0 0) := (hk2.cell (p := ⟨w.heap.size, 2, none⟩) hl (fun h => h)).trans c2
  have d3 : w2.cell? ⟨w.heap.size, 3, none⟩ = some (.int .i64 0) := (hk2.cell (p := ⟨w.heap.size, 3, none⟩) hl (fun h => h)).trans c3
  have g1 := (HG.out.kept hk12).f2
  clear c0 c1 c2 c3 hg
  go_wp2_with fail
  refine wp_region_late (fun W => W.cell? ⟨w.heap.size, 0, none⟩ = some (.int .i64 2) ∧ W.cell? ⟨w.heap.size, 1, none⟩ = some (.int .i64 0) ∧ W.cell? ⟨1, 2, none⟩ = some (.int .i64 4)) [] (by kernel_rfl) ?_
  have hS : w2.drew.cell? ⟨w.heap.size, 0, none⟩ = some (.int .i64 2) ∧ w2.drew.cell? ⟨w.heap.size, 1, none⟩ = some (.int .i64 0) ∧ w2.drew.cell? ⟨1, 2, none⟩ = some (.int .i64 4) := ⟨d0, d1, g1⟩
  refine tkA 0 (.pointer (some ⟨w.heap.size, 0, none⟩)) rfl (by kernel_rfl) (fun _ _ _ h => (h : False).elim) (by kernel_rfl) (fun _ => ‹_›) ?_ ?_
  · intro w _; go_simp
  try simp only [ga, gb, gc, Act.put, gd, ge, gf]
  refine tkL 1 (.int .i64 2) rfl (by kernel_rfl) (fun _ _ _ h => (h : False).elim) (by kernel_rfl) ‹_› ?_ ?_
  · intro w hSw
    obtain ⟨s0, s1, s2⟩ := hSw
    go_simp
  try simp only [ga, gb, gc, Act.put, gd, ge, gf]
  refine tkA 2 (.pointer (some ⟨1, 2, none⟩)) rfl (by kernel_rfl) (fun _ _ _ h => (h : False).elim) (by kernel_rfl) (fun _ => ‹_›) ?_ ?_
  · intro w _; go_simp
  try simp only [ga, gb, gc, Act.put, gd, ge, gf]
  refine tkL 3 (.int .i64 4) rfl (by kernel_rfl) (fun _ _ _ h => (h : False).elim) (by kernel_rfl) ‹_› ?_ ?_
  · intro w hSw
    obtain ⟨s0, s1, s2⟩ := hSw
    go_simp
  try simp only [ga, gb, gc, Act.put, gd, ge, gf]
  refine tkA 4 (.pointer (some ⟨w.heap.size, 1, none⟩)) rfl (by kernel_rfl) (fun _ _ _ h => (h : False).elim) (by kernel_rfl) (fun _ => ‹_›) ?_ ?_
  · intro w _; go_simp
  try simp only [ga, gb, gc, Act.put, gd, ge, gf]
  refine tkL 5 (.int .i64 0) rfl (by kernel_rfl) (fun _ _ _ h => (h : False).elim) (by kernel_rfl) ‹_› ?_ ?_
  · intro w hSw
    obtain ⟨s0, s1, s2⟩ := hSw
    go_simp
  try simp only [ga, gb, gc, Act.put, gd, ge, gf]
  refine tkA 6 (.int .i64 4) rfl (by kernel_rfl) (fun _ _ _ h => (h : False).elim) (by kernel_rfl) (fun _ => ‹_›) ?_ ?_
  · intro w _; go_simp
  try simp only [ga, gb, gc, Act.put, gd, ge, gf]
  refine tkA 7 (.int .i64 4) rfl (by kernel_rfl) (fun _ _ _ h => (h : False).elim) (by kernel_rfl) (fun _ => ‹_›) ?_ ?_
  · intro w _; go_simp
  try simp only [ga, gb, gc, Act.put, gd, ge, gf]
  refine wpAnyL_done (by kernel_rfl) ?_ _
  refine NoPanic.normal ?_
  clear hS hws
  have hk2d : Keeps (fun _ => False) w w2.drew := hk12.drewN 1
  go_wp2_with fail
  go_loopw [3, 19] (fun n i wr => n = .int .i64 4 ∧ i = .int .i64 0 ∧ wr = w2.drewN 1) (fun _ _ _ => 0)
  case atStart => exact ⟨rfl, rfl, rfl⟩
  case round =>
    obtain ⟨rfl, rfl, rfl⟩ := hrel
    go_wp2_with fail
    go_ret
    exact ⟨by rfl, hk2d⟩
set_option maxRecDepth 100000 in
set_option maxHeartbeats 4000000 in
theorem payload_3 (vt : Int) (hv3 : 3 ≤ vt) (hv64 : vt ≤ 64) (w : World) (hG : Gl w) (hck : ∀ W, Keeps (fun _ => False) w W → Calls Tryz.prog 128 #[.agg #[.int .i64 3, .int .i64 vt, .slice none 0 0, .int .i64 0]] W fun e w' => e = .returned (.int .i64 0) ∧ Keeps (fun _ => False) W w') : Calls Tryz.prog 113 #[.agg #[.int .i64 3, .int .i64 vt, .slice none 0 0, .int .i64 0]] w fun e w' => e = .returned (.int .i64 (16 * (vt + 1))) ∧ Keeps (fun _ => False) w w' := by
  have HG := Lib.hid hG
  have HCK := Lib.hid hck
  clear hG hck
  have hws : IntKind.i64.wrap (1 + vt) = 1 + vt := by rw [IntKind.wrap_i64]; omega
  go_enter Tryz.func113, Tryz.ntmps113
  go_upto_region 1 with fail
  obtain ⟨w1, hw1⟩ : ∃ w1, w.alloc (.cells #[.int .i64 3, .int .i64 vt, .slice none 0 0, .int .i64 0] 27) = w1 := ⟨_, rfl⟩
  have hg := heap_alloc_new w (.cells #[.int .i64 3, .int .i64 vt, .slice none 0 0, .int .i64 0] 27)
  have hk1 : Keeps (fun _ => False) w w1 := by rw [← hw1]; exact (Keeps.refl _ w).alloc _
  rw [hw1] at hg ⊢
  clear hw1
  have c0 : w1.cell? ⟨w.heap.size, 0, none⟩ = some (.int .i64 3) := cells_at hg 0
  have c1 : w1.cell? ⟨w.heap.size, 1, none⟩ = some (.int .i64 vt) := cells_at hg 1
  have c2 : w1.cell? ⟨w.heap.size, 2, none⟩ = some (.slice none 0 0) := cells_at hg 2
  have c3 : w1.cell? ⟨w.heap.size, 3, none⟩ = some (.int .i64 0) := cells_at hg 3
  have hl : w.heap.size < w1.heap.size := (Array.getElem?_eq_some_iff.1 hg).1
  go_wp2_with fail
  refine (HCK.out w1 hk1).mono ?_; rintro e w2 ⟨rfl, hk2⟩
  have hk12 := knil hk1 hk2
  have d0 : w2.cell? ⟨w.heap.size, 0, none⟩ = some (.int .i64 3) := (hk2.cell (p := ⟨w.heap.size, 0, none⟩) hl (fun h => h)).trans c0
  have d1 : w2.cell? ⟨w.heap.size, 1, none⟩ = some (.int .i64 vt) := (hk2.cell (p := ⟨w.heap.size, 1, none⟩) hl (fun h => h)).trans c1
  have d2 : w2.cell? ⟨w.heap.size, 2, none⟩ = some (.slice none 0 0) := (hk2.cell (p := ⟨w.heap.size, 2, none⟩) hl (fun h => h)).trans c2
  have d3 : w2.cell? ⟨w.heap.size, 3, none⟩ = some (.int .i64 0) := (hk2.cell (p := ⟨w.heap.size, 3, none⟩) hl (fun h => h)).trans c3
  have g1 := (HG.out.kept hk12).f3
  clear c0 c1 c2 c3 hg
  go_wp2_with fail
  refine wp_region_late (fun W => W.cell? ⟨w.heap.size, 0, none⟩ = some (.int .i64 3) ∧ W.cell? ⟨w.heap.size, 1, none⟩ = some (.int .i64 vt) ∧ W.cell? ⟨1, 3, none⟩ = some (.int .i64 1)) [] (by kernel_rfl) ?_
  have hS : w2.drew.cell? ⟨w.heap.size, 0, none⟩ = some (.int .i64 3) ∧ w2.drew.cell? ⟨w.heap.size, 1, none⟩ = some (.int .i64 vt) ∧ w2.drew.cell? ⟨1, 3, none⟩ = some (.int .i64 1) := ⟨d0, d1, g1⟩
  refine tkA 0 (.pointer (some ⟨w.heap.size, 0, none⟩)) rfl (by kernel_rfl) (fun _ _ _ h => (h : False).elim) (by kernel_rfl) (fun _ => ‹_›) ?_ ?_
  · intro w _; go_simp
  try simp only [ga, gb, gc, Act.put, gd, ge, gf]
  refine tkL 1 (.int .i64 3) rfl (by kernel_rfl) (fun _ _ _ h => (h : False).elim) (by kernel_rfl) ‹_› ?_ ?_
  · intro w hSw
    obtain ⟨s0, s1, s2⟩ := hSw
    go_simp
  try simp only [ga, gb, gc, Act.put, gd, ge, gf]
  refine tkA 2 (.pointer (some ⟨1, 3, none⟩)) rfl (by kernel_rfl) (fun _ _ _ h => (h : False).elim) (by kernel_rfl) (fun _ => ‹_›) ?_ ?_
  · intro w _; go_simp
  try simp only [ga, gb, gc, Act.put, gd, ge, gf]
  refine tkL 3 (.int .i64 1) rfl (by kernel_rfl) (fun _ _ _ h => (h : False).elim) (by kernel_rfl) ‹_› ?_ ?_
  · intro w hSw
    obtain ⟨s0, s1, s2⟩ := hSw
    go_simp
  try simp only [ga, gb, gc, Act.put, gd, ge, gf]
  refine tkA 4 (.pointer (some ⟨w.heap.size, 1, none⟩)) rfl (by kernel_rfl) (fun _ _ _ h => (h : False).elim) (by kernel_rfl) (fun _ => ‹_›) ?_ ?_
  · intro w _; go_simp
  try simp only [ga, gb, gc, Act.put, gd, ge, gf]
  refine tkL 5 (.int .i64 vt) rfl (by kernel_rfl) (fun _ _ _ h => (h : False).elim) (by kernel_rfl) ‹_› ?_ ?_
  · intro w hSw
    obtain ⟨s0, s1, s2⟩ := hSw
    go_simp
  try simp only [ga, gb, gc, Act.put, gd, ge, gf]
  refine tkA 6 (.int .i64 (1 + vt)) rfl (by kernel_rfl) (fun _ _ _ h => (h : False).elim) (by kernel_rfl) (fun _ => ‹_›) ?_ ?_
  · intro w _; go_simp
  try simp only [ga, gb, gc, Act.put, gd, ge, gf]
  refine tkA 7 (.int .i64 (1 + vt)) rfl (by kernel_rfl) (fun _ _ _ h => (h : False).elim) (by kernel_rfl) (fun _ => ‹_›) ?_ ?_
  · intro w _; go_simp
  try simp only [ga, gb, gc, Act.put, gd, ge, gf]
  refine wpAnyL_done (by kernel_rfl) ?_ _
  refine NoPanic.normal ?_
  clear hS hws
  have hk2d : Keeps (fun _ => False) w w2.drew := hk12.drewN 1
  go_wp2_with fail
  go_loopw [3, 19] (fun n i wr => n = .int .i64 (1 + vt) ∧ i = .int .i64 0 ∧ wr = w2.drewN 1) (fun _ _ _ => 0)
  case atStart => exact ⟨rfl, rfl, rfl⟩
  case round =>
    obtain ⟨rfl, rfl, rfl⟩ := hrel
    go_wp2_with fail
    go_ret
    exact ⟨by simp [IntKind.wrap_i64, wrap64]; omega, hk2d⟩
set_option maxRecDepth 100000 in
set_option maxHeartbeats 4000000 in
theorem payload_4 (ao : Option Addr) (n cap : Nat) (l : List Reg) (hn : n = l.length) (h64 : n ≤ 64) (w : World) (hG : Gl w) (hck : ∀ W, Keeps (fun _ => False) w W → Calls Tryz.prog 128 #[.agg #[.int .i64 4, .int .i64 0, .slice ao n cap, .int .i64 0]] W fun e w' => e = .returned (.int .i64 0) ∧ Keeps (fun _ => False) W w') (hr : regsAt w (.slice ao n cap) l) : Calls Tryz.prog 113 #[.agg #[.int .i64 4, .int .i64 0, .slice ao n cap, .int .i64 0]] w fun e w' => e = .returned (.int .i64 (16 * (totR l + 1))) ∧ Keeps (fun _ => False) w w' := by
  have HG := Lib.hid hG
  have HCK := Lib.hid hck
  clear hG hck
  have HR := Lib.hid hr
  have HN := Lib.hid hn
  have hB := totR_bound l
  clear hr hn
  have hws : IntKind.i64.wrap 1 = 1 := by decide
  go_enter Tryz.func113, Tryz.ntmps113
  go_upto_region 1 with fail
  obtain ⟨w1, hw1⟩ : ∃ w1, w.alloc (.cells #[.int .i64 4, .int .i64 0, .slice ao n cap, .int .i64 0] 27) = w1 := ⟨_, rfl⟩
  have hg := heap_alloc_new w (.cells #[.int .i64 4, .int .i64 0, .slice ao n cap, .int .i64 0] 27)
  have hk1 : Keeps (fun _ => False) w w1 := by rw [← hw1]; exact (Keeps.refl _ w).alloc _
  rw [hw1] at hg ⊢
  clear hw1
  have c0 : w1.cell? ⟨w.heap.size, 0, none⟩ = some (.int .i64 4) := cells_at hg 0
  have c1 : w1.cell? ⟨w.heap.size, 1, none⟩ = some (.int .i64 0) := cells_at hg 1
  have c2 : w1.cell? ⟨w.heap.size, 2, none⟩ = some (.slice ao n cap) := cells_at hg 2
  have c3 : w1.cell? ⟨w.heap.size, 3, none⟩ = some (.int .i64 0) := cells_at hg 3
  have hl : w.heap.size < w1.heap.size := (Array.getElem?_eq_some_iff.1 hg).1
  go_wp2_with fail
  refine (HCK.out w1 hk1).mono ?_; rintro e w2 ⟨rfl, hk2⟩
  have hk12 := knil hk1 hk2
  have d0 : w2.cell? ⟨w.heap.size, 0, none⟩ = some (.int .i64 4) := (hk2.cell (p := ⟨w.heap.size, 0, none⟩) hl (fun h => h)).trans c0
  have d1 : w2.cell? ⟨w.heap.size, 1, none⟩ = some (.int .i64 0) := (hk2.cell (p := ⟨w.heap.size, 1, none⟩) hl (fun h => h)).trans c1
  have d2 : w2.cell? ⟨w.heap.size, 2, none⟩ = some (.slice ao n cap) := (hk2.cell (p := ⟨w.heap.size, 2, none⟩) hl (fun h => h)).trans c2
  have d3 : w2.cell? ⟨w.heap.size, 3, none⟩ = some (.int .i64 0) := (hk2.cell (p := ⟨w.heap.size, 3, none⟩) hl (fun h => h)).trans c3
  have g1 := (HG.out.kept hk12).f4
  clear c0 c1 c2 c3 hg
  go_wp2_with fail
  refine wp_region_late (fun W => W.cell? ⟨w.heap.size, 0, none⟩ = some (.int .i64 4) ∧ W.cell? ⟨w.heap.size, 1, none⟩ = some (.int .i64 0) ∧ W.cell? ⟨1, 4, none⟩ = some (.int .i64 1)) [] (by kernel_rfl) ?_
  have hS : w2.drew.cell? ⟨w.heap.size, 0, none⟩ = some (.int .i64 4) ∧ w2.drew.cell? ⟨w.heap.size, 1, none⟩ = some (.int .i64 0) ∧ w2.drew.cell? ⟨1, 4, none⟩ = some (.int .i64 1) := ⟨d0, d1, g1⟩
  refine tkA 0 (.pointer (some ⟨w.heap.size, 0, none⟩)) rfl (by kernel_rfl) (fun _ _ _ h => (h : False).elim) (by kernel_rfl) (fun _ => ‹_›) ?_ ?_
  · intro w _; go_simp
  try simp only [ga, gb, gc, Act.put, gd, ge, gf]
  refine tkL 1 (.int .i64 4) rfl (by kernel_rfl) (fun _ _ _ h => (h : False).elim) (by kernel_rfl) ‹_› ?_ ?_
  · intro w hSw
    obtain ⟨s0, s1, s2⟩ := hSw
    go_simp
  try simp only [ga, gb, gc, Act.put, gd, ge, gf]
  refine tkA 2 (.pointer (some ⟨1, 4, none⟩)) rfl (by kernel_rfl) (fun _ _ _ h => (h : False).elim) (by kernel_rfl) (fun _ => ‹_›) ?_ ?_
  · intro w _; go_simp
  try simp only [ga, gb, gc, Act.put, gd, ge, gf]
  refine tkL 3 (.int .i64 1) rfl (by kernel_rfl) (fun _ _ _ h => (h : False).elim) (by kernel_rfl) ‹_› ?_ ?_
  · intro w hSw
    obtain ⟨s0, s1, s2⟩ := hSw
    go_simp
  try simp only [ga, gb, gc, Act.put, gd, ge, gf]
  refine tkA 4 (.pointer (some ⟨w.heap.size, 1, none⟩)) rfl (by kernel_rfl) (fun _ _ _ h => (h : False).elim) (by kernel_rfl) (fun _ => ‹_›) ?_ ?_
  · intro w _; go_simp
  try simp only [ga, gb, gc, Act.put, gd, ge, gf]
  refine tkL 5 (.int .i64 0) rfl (by kernel_rfl) (fun _ _ _ h => (h : False).elim) (by kernel_rfl) ‹_› ?_ ?_
  · intro w hSw
    obtain ⟨s0, s1, s2⟩ := hSw
    go_simp
  try simp only [ga, gb, gc, Act.put, gd, ge, gf]
  refine tkA 6 (.int .i64 1) rfl (by kernel_rfl) (fun _ _ _ h => (h : False).elim) (by kernel_rfl) (fun _ => ‹_›) ?_ ?_
  · intro w _; go_simp
  try simp only [ga, gb, gc, Act.put, gd, ge, gf]
  refine tkA 7 (.int .i64 1) rfl (by kernel_rfl) (fun _ _ _ h => (h : False).elim) (by kernel_rfl) (fun _ => ‹_›) ?_ ?_
  · intro w _; go_simp
  try simp only [ga, gb, gc, Act.put, gd, ge, gf]
  refine wpAnyL_done (by kernel_rfl) ?_ _
  refine NoPanic.normal ?_
  clear hS hws
  have hkd : Keeps (fun _ => False) w2 w2.drew := (Keeps.refl _ w2).drewN 1
  go_wp2_with fail
  go_loopw [3, 19] (fun s i wr => ∃ k : Nat, k ≤ n ∧ i = .int .i64 k ∧ s = .int .i64 (1 + totR (l.take k)) ∧ RowKit.Hid (Keeps (fun _ => False) w2 wr)) (fun _ i _ => n - (intOf i).toNat)
  case atStart => exact ⟨0, Nat.zero_le _, rfl, by simp [totR], hkd⟩
  case round =>
    obtain ⟨k, hk, rfl, rfl, HW⟩ := hrel
    have hkw := knil hk12 HW.out
    by_cases hkl : k < n
    · have hkI : (k : Int) < (n : Int) := by omega
      have hk0 : (0 : Int) ≤ (k : Int) := by omega
      have hkL : k < l.length := by rw [← HN.out]; exact hkl
      have hr := HR.out.kept hkw
      obtain ⟨he, _⟩ | ⟨b, off, cap', hv, hb, hc⟩ := hr
      · rw [he] at hkL; cases hkL
      cases hv
      obtain ⟨e0, e1, ao', n', c', e2, hp⟩ := hc k hkL
      have hB1 := totR_bound (l.take k)
      have hB2 := sizeR_bound (rg l k).2.1
      have hlt : (l.take k).length ≤ 64 := by rw [List.length_take]; omega
      have hT : totR (l.take (k + 1)) = totR (l.take k) + sizeR (rg l k).2.1 := totR_step hkL
      have hka : Keeps (fun _ => False) wr (wr.alloc (.cells #[.bool (rg l k).1, .int .i64 (rg l k).2.1, .slice ao' n' c'] 40)) := (Keeps.refl _ wr).alloc _
      clear hc hp
      go_wp2_with fail
      refine (size_calls _ _ _ _ _ _).mono ?_; rintro e w5 ⟨rfl, hk5⟩
      clear e0 e1 e2
      go_wp2_with fail
      go_roundw
      case rel => exact ⟨k + 1, by omega, by go_num, by rw [hT]; congr 1; omega, Lib.hid (knil (knil HW.out hka) hk5)⟩
      case measure => simp [intOf]; omega
    · obtain rfl : k = n := by omega
      have hd3 : wr.cell? ⟨w.heap.size, 3, none⟩ = some (.int .i64 0) := (HW.out.cell (p := ⟨w.heap.size, 3, none⟩) (Nat.lt_of_lt_of_le hl hk2.size) (fun h => h)).trans d3
      have hta : l.take k = l := by rw [HN.out, List.take_length]
      rw [hta]
      have hlen : l.length ≤ 64 := by rw [← HN.out]; exact h64
      clear d0 d1 d2 d3 hta
      go_wp2_with fail
      go_ret
      exact ⟨congrArg (fun z => Ending.returned (Value.int .i64 z)) (show ((1 + totR l) * 16 : Int) = _ by omega), hkw⟩
set_option maxRecDepth 100000 in
set_option maxHeartbeats 4000000 in
theorem payload_5 (ao : Option Addr) (n cap : Nat) (l : List Reg) (pts : Int) (hn : n = l.length) (h64 : n ≤ 64) (hp1 : 1 ≤ pts) (hp2 : pts ≤ 4096) (w : World) (hG : Gl w) (hck : ∀ W, Keeps (fun _ => False) w W → Calls Tryz.prog 128 #[.agg #[.int .i64 5, .int .i64 0, .slice ao n cap, .int .i64 pts]] W fun e w' => e = .returned (.int .i64 0) ∧ Keeps (fun _ => False) W w') (hr : regsAt w (.slice ao n cap) l) : Calls Tryz.prog 113 #[.agg #[.int .i64 5, .int .i64 0, .slice ao n cap, .int .i64 pts]] w fun e w' => e = .returned (.int .i64 (16 * totR l + 24 * pts)) ∧ Keeps (fun _ => False) w w' := by
  have HG := Lib.hid hG
  have HCK := Lib.hid hck
  clear hG hck
  have HR := Lib.hid hr
  have HN := Lib.hid hn
  have hB := totR_bound l
  clear hr hn
  have hws : IntKind.i64.wrap 0 = 0 := by decide
  go_enter Tryz.func113, Tryz.ntmps113
  go_upto_region 1 with fail
  obtain ⟨w1, hw1⟩ : ∃ w1, w.alloc (.cells #[.int .i64 5, .int .i64 0, .slice ao n cap, .int .i64 pts] 27) = w1 := ⟨_, rfl⟩
  have hg := heap_alloc_new w (.cells #[.int .i64 5, .int .i64 0, .slice ao n cap, .int .i64 pts] 27)
  have hk1 : Keeps (fun _ => False) w w1 := by rw [← hw1]; exact (Keeps.refl _ w).alloc _
  rw [hw1] at hg ⊢
  clear hw1
  have c0 : w1.cell? ⟨w.heap.size, 0, none⟩ = some (.int .i64 5) := cells_at hg 0
  have c1 : w1.cell? ⟨w.heap.size, 1, none⟩ = some (.int .i64 0) := cells_at hg 1
  have c2 : w1.cell? ⟨w.heap.size, 2, none⟩ = some (.slice ao n cap) := cells_at hg 2
  have c3 : w1.cell? ⟨w.heap.size, 3, none⟩ = some (.int .i64 pts) := cells_at hg 3
  have hl : w.heap.size < w1.heap.size := (Array.getElem?_eq_some_iff.1 hg).1
  go_wp2_with fail
  refine (HCK.out w1 hk1).mono ?_; rintro e w2 ⟨rfl, hk2⟩
  have hk12 := knil hk1 hk2
  have d0 : w2.cell? ⟨w.heap.size, 0, none⟩ = some (.int .i64 5) := (hk2.cell (p := ⟨w.heap.size, 0, none⟩) hl (fun h => h)).trans c0
  have d1 : w2.cell? ⟨w.heap.size, 1, none⟩ = some (.int .i64 0) := (hk2.cell (p := ⟨w.heap.size, 1, none⟩) hl (fun h => h)).trans c1
  have d2 : w2.cell? ⟨w.heap.size, 2, none⟩ = some (.slice ao n cap) := (hk2.cell (p := ⟨w.heap.size, 2, none⟩) hl (fun h => h)).trans c2
  have d3 : w2.cell? ⟨w.heap.size, 3, none⟩ = some (.int .i64 pts) := (hk2.cell (p := ⟨w.heap.size, 3, none⟩) hl (fun h => h)).trans c3
  have g1 := (HG.out.kept hk12).f5
  clear c0 c1 c2 c3 hg
  go_wp2_with fail
  refine wp_region_late (fun W => W.cell? ⟨w.heap.size, 0, none⟩ = some (.int .i64 5) ∧ W.cell? ⟨w.heap.size, 1, none⟩ = some (.int .i64 0) ∧ W.cell? ⟨1, 5, none⟩ = some (.int .i64 0)) [] (by kernel_rfl) ?_
  have hS : w2.drew.cell? ⟨w.heap.size, 0, none⟩ = some (.int .i64 5) ∧ w2.drew.cell? ⟨w.heap.size, 1, none⟩ = some (.int .i64 0) ∧ w2.drew.cell? ⟨1, 5, none⟩ = some (.int .i64 0) := ⟨d0, d1, g1⟩
  refine tkA 0 (.pointer (some ⟨w.heap.size, 0, none⟩)) rfl (by kernel_rfl) (fun _ _ _ h => (h : False).elim) (by kernel_rfl) (fun _ => ‹_›) ?_ ?_
  · intro w _; go_simp
  try simp only [ga, gb, gc, Act.put, gd, ge, gf]
  refine tkL 1 (.int .i64 5) rfl (by kernel_rfl) (fun _ _ _ h => (h : False).elim) (by kernel_rfl) ‹_› ?_ ?_
  · intro w hSw
    obtain ⟨s0, s1, s2⟩ := hSw
    go_simp
  try simp only [ga, gb, gc, Act.put, gd, ge, gf]
  refine tkA 2 (.pointer (some ⟨1, 5, none⟩)) rfl (by kernel_rfl) (fun _ _ _ h => (h : False).elim) (by kernel_rfl) (fun _ => ‹_›) ?_ ?_
  · intro w _; go_simp
  try simp only [ga, gb, gc, Act.put, gd, ge, gf]
  refine tkL 3 (.int .i64 0) rfl (by kernel_rfl) (fun _ _ _ h => (h : False).elim) (by kernel_rfl) ‹_› ?_ ?_
  · intro w hSw
    obtain ⟨s0, s1, s2⟩ := hSw
    go_simp
  try simp only [ga, gb, gc, Act.put, gd, ge, gf]
  refine tkA 4 (.pointer (some ⟨w.heap.size, 1, none⟩)) rfl (by kernel_rfl) (fun _ _ _ h => (h : False).elim) (by kernel_rfl) (fun _ => ‹_›) ?_ ?_
  · intro w _; go_simp
  try simp only [ga, gb, gc, Act.put, gd, ge, gf]
  refine tkL 5 (.int .i64 0) rfl (by kernel_rfl) (fun _ _ _ h => (h : False).elim) (by kernel_rfl) ‹_› ?_ ?_
  · intro w hSw
    obtain ⟨s0, s1, s2⟩ := hSw
    go_simp
  try simp only [ga, gb, gc, Act.put, gd, ge, gf]
  refine tkA 6 (.int .i64 0) rfl (by kernel_rfl) (fun _ _ _ h => (h : False).elim) (by kernel_rfl) (fun _ => ‹_›) ?_ ?_
  · intro w _; go_simp
  try simp only [ga, gb, gc, Act.put, gd, ge, gf]
  refine tkA 7 (.int .i64 0) rfl (by kernel_rfl) (fun _ _ _ h => (h : False).elim) (by kernel_rfl) (fun _ => ‹_›) ?_ ?_
  · intro w _; go_simp
  try simp only [ga, gb, gc, Act.put, gd, ge, gf]
  refine wpAnyL_done (by kernel_rfl) ?_ _
  refine NoPanic.normal ?_
  clear hS hws
  have hkd : Keeps (fun _ => False) w2 w2.drew := (Keeps.refl _ w2).drewN 1
  go_wp2_with fail
  go_loopw [3, 19] (fun s i wr => ∃ k : Nat, k ≤ n ∧ i = .int .i64 k ∧ s = .int .i64 (0 + totR (l.take k)) ∧ RowKit.Hid (Keeps (fun _ => False) w2 wr)) (fun _ i _ => n - (intOf i).toNat)
  case atStart => exact ⟨0, Nat.zero_le _, rfl, by simp [totR], hkd⟩
  case round =>
    obtain ⟨k, hk, rfl, rfl, HW⟩ := hrel
    have hkw := knil hk12 HW.out
    by_cases hkl : k < n
    · have hkI : (k : Int) < (n : Int) := by omega
      have hk0 : (0 : Int) ≤ (k : Int) := by omega
      have hkL : k < l.length := by rw [← HN.out]; exact hkl
      have hr := HR.out.kept hkw
      obtain ⟨he, _⟩ | ⟨b, off, cap', hv, hb, hc⟩ := hr
      · rw [he] at hkL; cases hkL
      cases hv
      obtain ⟨e0, e1, ao', n', c', e2, hp⟩ := hc k hkL
      have hB1 := totR_bound (l.take k)
      have hB2 := sizeR_bound (rg l k).2.1
      have hlt : (l.take k).length ≤ 64 := by rw [List.length_take]; omega
      have hT : totR (l.take (k + 1)) = totR (l.take k) + sizeR (rg l k).2.1 := totR_step hkL
      have hka : Keeps (fun _ => False) wr (wr.alloc (.cells #[.bool (rg l k).1, .int .i64 (rg l k).2.1, .slice ao' n' c'] 40)) := (Keeps.refl _ wr).alloc _
      clear hc hp
      go_wp2_with fail
      refine (size_calls _ _ _ _ _ _).mono ?_; rintro e w5 ⟨rfl, hk5⟩
      clear e0 e1 e2
      go_wp2_with fail
      go_roundw
      case rel => exact ⟨k + 1, by omega, by go_num, by rw [hT]; congr 1; omega, Lib.hid (knil (knil HW.out hka) hk5)⟩
      case measure => simp [intOf]; omega
    · obtain rfl : k = n := by omega
      have hd3 : wr.cell? ⟨w.heap.size, 3, none⟩ = some (.int .i64 pts) := (HW.out.cell (p := ⟨w.heap.size, 3, none⟩) (Nat.lt_of_lt_of_le hl hk2.size) (fun h => h)).trans d3
      have hta : l.take k = l := by rw [HN.out, List.take_length]
      rw [hta]
      have hlen : l.length ≤ 64 := by rw [← HN.out]; exact h64
      clear d0 d1 d2 d3 hta
      go_wp2_with fail
      go_ret
      exact ⟨congrArg (fun z => Ending.returned (Value.int .i64 z)) (show (totR l * 16 + pts * 24 : Int) = _ by omega), hkw⟩
def payH (h : Hd) : Int := if h.op = 1 then 48 else if h.op = 2 then 64 else if h.op = 3 then 16 * (h.vt + 1) else if h.op = 4 then 16 * (totR h.rs + 1) else 16 * totR h.rs + 24 * h.pts
def cntP (h : Hd) : Int := if h.op = 1 then 3 else if h.op = 2 then 4 else if h.op = 3 then h.vt + 1 else if h.op = 4 then 1 else 0
def cntQ (h : Hd) : Int := if h.op = 5 then h.pts else 0
theorem counts_calls (v : Value) (h : Hd) (ho : HdOk h) (w : World) (hv : HdAt w v h) : Calls Tryz.prog 84 #[v] w fun e w' => e = .returned (.tuple #[.int .i64 (cntP h), .int .i64 (cntQ h)]) ∧ Keeps (fun _ => False) w w' := by
  obtain ⟨ao, cap, rfl, hr, hnil⟩ := hv
  obtain ⟨op, vt, rs, pts⟩ := h
  rcases ho with ⟨h1 | h1, h2, h3, h4⟩ | ⟨h1, ⟨h2, h2'⟩, h3, h4⟩ | ⟨⟨h1, h4⟩ | ⟨h1, h4, h4'⟩, h2, ⟨h3, h3'⟩, h5, h6⟩
  · simp only at h1 h2 h3 h4; subst h1; subst h2; subst h4; exact counts_1 ao _ cap w
  · simp only at h1 h2 h3 h4; subst h1; subst h2; subst h4; exact counts_2 ao _ cap w
  · simp only at h1 h2 h2' h3 h4; subst h1; subst h4; exact counts_3 vt h2 h2' ao _ cap w
  · simp only at h1 h2 h4; subst h1; subst h2; subst h4; exact counts_4 ao _ cap w
  · simp only at h1 h2 h4; subst h1; subst h2; exact counts_5 pts ao _ cap w
theorem payload_calls (v : Value) (h : Hd) (ho : HdOk h) (w : World) (hG : Gl w) (hv : HdAt w v h) : Calls Tryz.prog 113 #[v] w fun e w' => e = .returned (.int .i64 (payH h)) ∧ Keeps (fun _ => False) w w' := by
  have hck : ∀ W, Keeps (fun _ => False) w W → Calls Tryz.prog 128 #[v] W fun e w' => e = .returned (.int .i64 0) ∧ Keeps (fun _ => False) W w' := fun W hk => check_calls v h ho W (hv.kept hk)
  obtain ⟨ao, cap, rfl, hr, hnil⟩ := hv
  obtain ⟨op, vt, rs, pts⟩ := h
  rcases ho with ⟨h1 | h1, h2, h3, h4⟩ | ⟨h1, ⟨h2, h2'⟩, h3, h4⟩ | ⟨⟨h1, h4⟩ | ⟨h1, h4, h4'⟩, h2, ⟨h3, h3'⟩, h5, h6⟩
  · simp only at h1 h2 h3 h4 hnil hck ⊢
    subst h1; subst h2; subst h3; subst h4
    obtain ⟨rfl, rfl⟩ := hnil rfl
    exact payload_1 w hG hck
  · simp only at h1 h2 h3 h4 hnil hck ⊢
    subst h1; subst h2; subst h3; subst h4
    obtain ⟨rfl, rfl⟩ := hnil rfl
    exact payload_2 w hG hck
  · simp only at h1 h2 h2' h3 h4 hnil hck ⊢
    subst h1; subst h3; subst h4
    obtain ⟨rfl, rfl⟩ := hnil rfl
    exact payload_3 vt h2 h2' w hG hck
  · simp only at h1 h2 h3 h3' h4 hr hck ⊢
    subst h1; subst h2; subst h4
    exact payload_4 ao _ cap rs rfl h3' w hG hck hr
  · simp only at h1 h2 h3 h3' h4 h4' hr hck ⊢
    subst h1; subst h2
    exact payload_5 ao _ cap rs pts rfl h3' h4 h4' w hG hck hr
end Go.Proofs.YtmoajobnhiopiaaGreatDoor.sv
set_option linter.unusedSimpArgs false
set_option linter.unusedVariables false
namespace Go.Proofs.YtmoajobnhiopiaaGreatDoor.sv
open Go Go.RowKit Go.Shelf Go.Maps Go.Proofs.YtmoajobnhiopiaaGreatDoor.mk Go.Proofs.YtmoajobnhiopiaaGreatDoor.tp Go.Proofs.YtmoajobnhiopiaaGreatDoor.rg Go.Proofs.YtmoajobnhiopiaaGreatDoor.lm Go.Proofs.YtmoajobnhiopiaaGreatDoor.gm Go.Proofs.YtmoajobnhiopiaaGreatDoor.po
theorem results_req {fn : Func} {p q : Tmp} (h : fn.results = #[.cell p 105, .tmp q]) (tmps : Array Value) (w : World) (g : Nat) (t : TypeId) (a b c d e f k : Value) (fr : Nat × Nat)
    (hp : tmps.getD p undef = .pointer (some ⟨g, 0, none⟩)) (hg : w.heap[g]? = some (.cells #[a, b, c, d, e, f, k] t fr)) : (results fn tmps).run Tryz.prog w = .ok (.tuple #[.agg #[a, b, c, d, e, f, k], tmps.getD q undef]) w := by
  have e' := run_loadVar_row (P := Tryz.prog) w g t 105 #[a, b, c, d, e, f, k] fr _ hg Tryz.underlying105 rfl (by kernel_rfl)
  rw [Array.getD_eq_getD_getElem?] at hp
  simp only [results, h]
  simp [Sem.run_bind, Result.andThen, hp, asAddr, e']
theorem cells_seven {w : World} {g : Nat} {t : TypeId} {fr : Nat × Nat} {z0 z1 z2 z3 z4 z5 z6 x0 x1 x2 x3 x4 x5 x6 : Value} (h : w.heap[g]? = some (.cells #[z0, z1, z2, z3, z4, z5, z6] t fr)) :
    (((((((w.setCell ⟨g, 0, none⟩ x0).setCell ⟨g, 1, none⟩ x1).setCell ⟨g, 2, none⟩ x2).setCell ⟨g, 3, none⟩ x3).setCell ⟨g, 4, none⟩ x4).setCell ⟨g, 5, none⟩ x5).setCell ⟨g, 6, none⟩ x6).heap[g]? = some (.cells #[x0, x1, x2, x3, x4, x5, x6] t fr) := by
  have h0 : (w.setCell ⟨g, 0, none⟩ x0).heap[g]? = some (.cells #[x0, z1, z2, z3, z4, z5, z6] t fr) := cells_put h 0 x0
  have h1 : ((w.setCell ⟨g, 0, none⟩ x0).setCell ⟨g, 1, none⟩ x1).heap[g]? = some (.cells #[x0, x1, z2, z3, z4, z5, z6] t fr) := cells_put h0 1 x1
  have h2 : (((w.setCell ⟨g, 0, none⟩ x0).setCell ⟨g, 1, none⟩ x1).setCell ⟨g, 2, none⟩ x2).heap[g]? = some (.cells #[x0, x1, x2, z3, z4, z5, z6] t fr) := cells_put h1 2 x2
  have h3 : ((((w.setCell ⟨g, 0, none⟩ x0).setCell ⟨g, 1, none⟩ x1).setCell ⟨g, 2, none⟩ x2).setCell ⟨g, 3, none⟩ x3).heap[g]? = some (.cells #[x0, x1, x2, x3, z4, z5, z6] t fr) := cells_put h2 3 x3
  have h4 : (((((w.setCell ⟨g, 0, none⟩ x0).setCell ⟨g, 1, none⟩ x1).setCell ⟨g, 2, none⟩ x2).setCell ⟨g, 3, none⟩ x3).setCell ⟨g, 4, none⟩ x4).heap[g]? = some (.cells #[x0, x1, x2, x3, x4, z5, z6] t fr) := cells_put h3 4 x4
  have h5 : ((((((w.setCell ⟨g, 0, none⟩ x0).setCell ⟨g, 1, none⟩ x1).setCell ⟨g, 2, none⟩ x2).setCell ⟨g, 3, none⟩ x3).setCell ⟨g, 4, none⟩ x4).setCell ⟨g, 5, none⟩ x5).heap[g]? = some (.cells #[x0, x1, x2, x3, x4, x5, z6] t fr) := cells_put h4 5 x5
  have h6 : (((((((w.setCell ⟨g, 0, none⟩ x0).setCell ⟨g, 1, none⟩ x1).setCell ⟨g, 2, none⟩ x2).setCell ⟨g, 3, none⟩ x3).setCell ⟨g, 4, none⟩ x4).setCell ⟨g, 5, none⟩ x5).setCell ⟨g, 6, none⟩ x6).heap[g]? = some (.cells #[x0, x1, x2, x3, x4, x5, x6] t fr) := cells_put h5 6 x6
  exact h6
theorem keeps_seven {a w : World} (h : Keeps (fun _ => False) a w) {g : Nat} (hb : a.heap.size ≤ g) (x0 x1 x2 x3 x4 x5 x6 : Value) : Keeps (fun _ => False) a (((((((w.setCell ⟨g, 0, none⟩ x0).setCell ⟨g, 1, none⟩ x1).setCell ⟨g, 2, none⟩ x2).setCell ⟨g, 3, none⟩ x3).setCell ⟨g, 4, none⟩ x4).setCell ⟨g, 5, none⟩ x5).setCell ⟨g, 6, none⟩ x6) := by
  have n : ∀ i, (⟨g, i, none⟩ : Addr).block < a.heap.size → False := fun i hp => by have : g < a.heap.size := hp; omega
  exact (((((((h.setCell ⟨g, 0, none⟩ (n 0) x0).setCell ⟨g, 1, none⟩ (n 1) x1).setCell ⟨g, 2, none⟩ (n 2) x2).setCell ⟨g, 3, none⟩ (n 3) x3).setCell ⟨g, 4, none⟩ (n 4) x4).setCell ⟨g, 5, none⟩ (n 5) x5).setCell ⟨g, 6, none⟩ (n 6) x6)
theorem keepsG_seven (w : World) (g : Nat) (x0 x1 x2 x3 x4 x5 x6 : Value) : Keeps (fun j => j = g) w (((((((w.setCell ⟨g, 0, none⟩ x0).setCell ⟨g, 1, none⟩ x1).setCell ⟨g, 2, none⟩ x2).setCell ⟨g, 3, none⟩ x3).setCell ⟨g, 4, none⟩ x4).setCell ⟨g, 5, none⟩ x5).setCell ⟨g, 6, none⟩ x6) := ((((((((Keeps.refl (fun j => j = g) w).setCell ⟨g, 0, none⟩ (fun _ => rfl) x0).setCell ⟨g, 1, none⟩ (fun _ => rfl) x1).setCell ⟨g, 2, none⟩ (fun _ => rfl) x2).setCell ⟨g, 3, none⟩ (fun _ => rfl) x3).setCell ⟨g, 4, none⟩ (fun _ => rfl) x4).setCell ⟨g, 5, none⟩ (fun _ => rfl) x5).setCell ⟨g, 6, none⟩ (fun _ => rfl) x6)
theorem heap3 (w : World) (a b c : Obj) : (((w.alloc a).alloc b).alloc c).heap[w.heap.size]? = some a ∧ (((w.alloc a).alloc b).alloc c).heap[w.heap.size + 1]? = some b ∧ (((w.alloc a).alloc b).alloc c).heap[w.heap.size + 1 + 1]? = some c := by
  have h1 := heap2 w a b
  refine ⟨by rw [Below.heap_alloc _ _ _ (by simp <;> omega)]; exact h1.1, by rw [Below.heap_alloc _ _ _ (by simp <;> omega)]; exact h1.2, ?_⟩
  have := heap_alloc_new ((w.alloc a).alloc b) c
  simpa using this
end Go.Proofs.YtmoajobnhiopiaaGreatDoor.sv
set_option linter.unusedSimpArgs false
set_option linter.unusedVariables false
namespace Go.Proofs.YtmoajobnhiopiaaGreatDoor.sv
open Go Go.RowKit Go.Shelf Go.Maps Go.Proofs.YtmoajobnhiopiaaGreatDoor.mk Go.Proofs.YtmoajobnhiopiaaGreatDoor.tp Go.Proofs.YtmoajobnhiopiaaGreatDoor.rg Go.Proofs.YtmoajobnhiopiaaGreatDoor.lm Go.Proofs.YtmoajobnhiopiaaGreatDoor.gm Go.Proofs.YtmoajobnhiopiaaGreatDoor.po
open List renaming getElem_toArray → ga, getElem_cons_zero → gb, getElem_cons_succ → gc, setIfInBounds_toArray → gd, set_cons_zero → ge, set_cons_succ → gf
theorem wp_append_atW {P : Program} {w : World} {o : Oper} {a : Act} {K : Act → World → Prop} {Q : Exit → Act → World → Prop} (s x : Operand) (t : TypeId)
    (ho : o.op = .call { callee := .builtin .append, args := #[s, x], argTypes := #[t, t] })
    (base : Nat) (e : TypeId) (i : TypeInfo) (z : Value) (size bytes : Nat) (ht : P.underlying t = some (.slice e)) (hi : P.info? e = some i) (hz : i.zero = some z)
    (hsize : i.size = size) (hby : i.bytes = bytes) (hzs : z.cells.size = size) (hsz : 0 < size)
    (v : Value) (n : Nat) (xs : List Value) (hs : a.eval s = v) (hown : w.ownsRow base e size v n xs)
    (ao : Option Addr) (m c : Nat) (news : List Value) (hx : a.eval x = .slice ao m c) (hnone : ao = none → m = 0 ∧ c = 0) (hl : news.length = m * size) (hnews : ∀ ad, ao = some ad → ∀ j u, news[j]? = some u → w.cell? (ad.add j) = some u) (h1 : ∀ u ∈ news, u.oneCell' = true)
    (h63 : n + m ≤ maxLen) (hbytes : (n + m) * bytes ≤ 140737488355328) (hbase : base ≤ w.heap.size)
    (h : ∀ v' w', w'.ownsRow base e size v' (n + m) (xs ++ news) → w.grownBy w' v.ownBlock → (v'.ownBlock = v.ownBlock ∨ v'.ownBlock = some w.heap.size) → K (a.put o.dst v') w') : o.wp P a w K Q := by
  cases ao with
  | none =>
    obtain ⟨rfl, rfl⟩ := hnone rfl
    obtain rfl : news = [] := List.eq_nil_of_length_eq_zero (by simpa using hl)
    have hrun := run_append_owned_none (P := P) (w := w) base t o.type e i size ht hi v n xs hown
    unfold Oper.wp
    simp [execOp, ho, resolve, invoke, builtin, hs, hx, hrun, Result.andThen]
    exact h v w (by simpa using hown) (World.grownBy.refl w _) (.inl rfl)
  | some ad =>
    obtain ⟨v', w', hr, h2, h3, h4, h5⟩ := run_append_own_at (P := P) w base t o.type e i z size bytes ht hi hz hsize hby hzs hsz v n xs hown ad m c news hl (hnews ad rfl) h1 h63 hbytes hbase
    unfold Oper.wp execOp
    simp only [ho, resolve, invoke, builtin, Sem.run_bind, Sem.run_pure, Result.andThen_ok, List.map_toArray, List.map_cons, List.map_nil, hs, hx, hr]
    exact h v' w' h2 h3 h5
theorem rowW_off {w w' : World} {base b n size : Nat} {e : TypeId} {v : Value} {xs : List Value} (h : w.ownsRow base e size v n xs) (hk : Keeps (fun j => j = b) w w') (hb : v.ownBlock ≠ some b) : w'.ownsRow base e size v n xs := by
  refine ⟨h.1, ?_⟩
  rcases h.2 with h0 | ⟨g, cap, cur, he, h1, h2, h3⟩
  · exact .inl h0
  · refine .inr ⟨g, cap, cur, he, h1, (hk.block g (Array.getElem?_eq_some_iff.1 h2).1 (fun hg => hb ?_)).trans h2, h3⟩
    rw [he, ← hg]
    rfl
theorem infoB : (Tryz.prog.info? 5).map (fun i => (i.zero, i.size, i.bytes)) = some (some (.int .u8 0), 1, 1) := by kernel_rfl
def Wr (w0 : World) (v0 : Value) (bw B n : Nat) (W : World) : Prop := ∃ v l, W.heap[bw]? = some (.cells #[v] 155 (0, 0)) ∧ W.ownsRow B 5 1 v n l ∧ (v.ownBlock = v0.ownBlock ∨ ∃ j, v.ownBlock = some j ∧ w0.heap.size ≤ j) ∧ Keeps (fun j => j = bw ∨ some j = v0.ownBlock) w0 W
def WrV (w0 : World) (v0 : Value) (bw B n : Nat) (l : List Value) (W : World) : Prop := ∃ v, W.heap[bw]? = some (.cells #[v] 155 (0, 0)) ∧ W.ownsRow B 5 1 v n l ∧ (v.ownBlock = v0.ownBlock ∨ ∃ j, v.ownBlock = some j ∧ w0.heap.size ≤ j) ∧ Keeps (fun j => j = bw ∨ some j = v0.ownBlock) w0 W
theorem WrV.wr {w0 : World} {v0 : Value} {bw B n : Nat} {l : List Value} {W : World} (h : WrV w0 v0 bw B n l W) : Wr w0 v0 bw B n W := by
  obtain ⟨v, h⟩ := h
  exact ⟨v, l, h⟩
def le8V (x : Int) : List Value := (List.range 8).map fun k => .int .u8 (IntKind.u8.wrap (x / 2 ^ (8 * k)))
theorem le8V_take (x : Int) {k : Nat} (h : k < 8) : (le8V x).take (k + 1) = (le8V x).take k ++ [.int .u8 (IntKind.u8.wrap (x / 2 ^ (8 * k)))] := by
  unfold le8V
  rw [List.take_add_one, List.getElem?_map, List.getElem?_range h]
  rfl
set_option maxRecDepth 100000 in
set_option maxHeartbeats 4000000 in
theorem wwordV_calls (w0 : World) (v0 : Value) (bw B n : Nat) (l0 : List Value) (x : Int) (hx : IsU x) (hn : n ≤ 1000000) (hB : B ≤ w0.heap.size) (hbw : bw < w0.heap.size) (hne : v0.ownBlock ≠ some bw) (w : World) (h : WrV w0 v0 bw B n l0 w) :
    Calls Tryz.prog 129 #[.pointer (some ⟨bw, 0, none⟩), .int .u64 x] w fun e w' => e = .returned (.tuple #[]) ∧ WrV w0 v0 bw B (n + 8) (l0 ++ le8V x) w' := by
  obtain ⟨i0, hi, hz0, hz1, hz2⟩ := info_parts infoB
  have H := Lib.hid h
  have HNE := Lib.hid hne
  have HX := Lib.hid hx
  clear h hne hx
  go_enter Tryz.func129, Tryz.ntmps129
  go_wp2
  go_loopw [4, 5] (fun _ i wr => ∃ k : Nat, k ≤ 8 ∧ i = .int .i64 k ∧ RowKit.Hid (WrV w0 v0 bw B (n + k) (l0 ++ (le8V x).take k) wr)) (fun _ i _ => 8 - (intOf i).toNat)
  case atStart => exact ⟨0, by omega, rfl, by rw [List.take_zero, List.append_nil]; exact H.out⟩
  case round =>
    obtain ⟨k, hk, rfl, HW⟩ := hrel
    by_cases hk8 : k < 8
    · have hkI : (k : Int) < 8 := by omega
      have hk0 : (0 : Int) ≤ (k : Int) := by omega
      have hw8 : IntKind.i64.wrap (8 * (k : Int)) = 8 * (k : Int) := by rw [IntKind.wrap_i64]; omega
      obtain ⟨v, hg, hr, ho, hK⟩ := HW.out
      obtain ⟨l, hll⟩ : ∃ l, l0 ++ (le8V x).take k = l := ⟨_, rfl⟩
      rw [hll] at hr
      have HLL := Lib.hid hll
      clear hll
      have c0 := cells_at hg 0
      have HGR := Lib.hid hg
      have HR := Lib.hid hr
      have HO := Lib.hid ho
      have HK := Lib.hid hK
      clear hg hr ho hK HW
      go_wp2_with fail
      refine wp_region_late (fun W => W.cell? ⟨bw, 0, none⟩ = some v) [14] (by kernel_rfl) ?_
      have hS : wr.drew.cell? ⟨bw, 0, none⟩ = some v := c0
      have HRD := Lib.hid (show wr.drew.ownsRow B 5 1 v (n + k) l from HR.out)
      have HGD := Lib.hid (show wr.drew.heap[bw]? = some (.cells #[v] 155 (0, 0)) from HGR.out)
      have HKD := Lib.hid (HK.out.drewN 1)
      have hbd : bw < wr.drew.heap.size := (Array.getElem?_eq_some_iff.1 HGD.out).1
      have hsz0 := Lib.hid (show B ≤ wr.drew.heap.size from Nat.le_trans hB HK.out.size)
      have hvne : ¬ some bw = v.ownBlock := fun h => by
        rcases HO.out with ho | ⟨j, ho, hj⟩
        · exact HNE.out (by rw [← ho, ← h])
        · rw [ho] at h; injection h with h; omega
      have hte : (8 * (k : Int)).toNat = 8 * k := by omega
      have HKD : RowKit.Hid (Keeps (fun j => j = bw ∨ some j = v0.ownBlock) w0 wr.drew) := HKD
      clear c0 HGR HR HK
      generalize wr.drew = wd at hS HRD HGD HKD hbd hsz0 ⊢
      refine tkA 0 (.pointer (some ⟨bw, 0, none⟩)) rfl (by kernel_rfl) (fun _ _ _ h => (h : False).elim) (by kernel_rfl) (fun _ => ‹_›) ?_ ?_
      · intro w _; go_simp
      try simp only [ga, gb, gc, Act.put, gd, ge, gf]
      refine tkA 1 (.pointer (some ⟨bw, 0, none⟩)) rfl (by kernel_rfl) (fun _ _ _ h => (h : False).elim) (by kernel_rfl) (fun _ => ‹_›) ?_ ?_
      · intro w _; go_simp
      try simp only [ga, gb, gc, Act.put, gd, ge, gf]
      refine tkA 2 (.pointer (some ⟨bw, 0, none⟩)) rfl (by kernel_rfl) (fun _ _ _ h => (h : False).elim) (by kernel_rfl) (fun _ => ‹_›) ?_ ?_
      · intro w _; go_simp
      try simp only [ga, gb, gc, Act.put, gd, ge, gf]
      refine tkA 3 (.pointer (some ⟨bw, 0, none⟩)) rfl (by kernel_rfl) (fun _ _ _ h => (h : False).elim) (by kernel_rfl) (fun _ => ‹_›) ?_ ?_
      · intro w _; go_simp
      try simp only [ga, gb, gc, Act.put, gd, ge, gf]
      refine tkL 4 (v) rfl (by kernel_rfl) (fun _ _ _ h => (h : False).elim) (by kernel_rfl) ‹_› ?_ ?_
      · intro w hSw
        skip
        go_simp
      try simp only [ga, gb, gc, Act.put, gd, ge, gf]
      refine tkA 5 (.int .u64 x) rfl (by kernel_rfl) (fun _ _ _ h => (h : False).elim) (by kernel_rfl) (fun _ => ‹_›) ?_ ?_
      · intro w _; go_simp
      try simp only [ga, gb, gc, Act.put, gd, ge, gf]
      refine tkA 6 (.int .i64 (k : Int)) rfl (by kernel_rfl) (fun _ _ _ h => (h : False).elim) (by kernel_rfl) (fun _ => ‹_›) ?_ ?_
      · intro w _; go_simp
      try simp only [ga, gb, gc, Act.put, gd, ge, gf]
      refine tkA 7 (.int .i64 (8 * (k : Int))) rfl (by kernel_rfl) (fun _ _ _ h => (h : False).elim) (by kernel_rfl) (fun _ => ‹_›) ?_ ?_
      · intro w _; go_simp
      try simp only [ga, gb, gc, Act.put, gd, ge, gf]
      refine tkA 8 (.int .u64 (x / 2 ^ (8 * k))) rfl (by kernel_rfl) (fun _ _ _ h => (h : False).elim) (by kernel_rfl) (fun _ => ‹_›) ?_ ?_
      · intro w _; go_simp
      try simp only [ga, gb, gc, Act.put, gd, ge, gf]
      refine tkA 9 (.int .u8 (IntKind.u8.wrap (x / 2 ^ (8 * k)))) rfl (by kernel_rfl) (fun _ _ _ h => (h : False).elim) (by kernel_rfl) (fun _ => ‹_›) ?_ ?_
      · intro w _; go_simp
      try simp only [ga, gb, gc, Act.put, gd, ge, gf]
      refine wpAnyL_next (i := 10) (by kernel_rfl) rfl (fun K hK => ?_)
      go_simp
      obtain ⟨y1, hy1⟩ : ∃ y1, wd.alloc (.cells #[.int .u8 (IntKind.u8.wrap (x / 2 ^ (8 * k)))] 5) = y1 := ⟨_, rfl⟩
      obtain ⟨gy, hgy⟩ : ∃ gy, wd.heap.size = gy := ⟨_, rfl⟩
      have hky : Keeps (fun _ => False) wd y1 := by rw [← hy1]; exact (Keeps.refl _ _).alloc _
      have hgc : y1.heap[gy]? = some (.cells #[.int .u8 (IntKind.u8.wrap (x / 2 ^ (8 * k)))] 5 (0, 0)) := by rw [← hy1, ← hgy]; exact heap_alloc_new _ _
      have hry : y1.ownsRow B 5 1 v (n + k) l := by rw [← hy1]; exact HRD.out.alloc _
      have hsy : y1.heap.size = gy + 1 := by rw [← hy1, ← hgy]; simp
      rw [hy1]
      try rw [hgy]
      have cy := (hky.cell (p := ⟨bw, 0, none⟩) hbd (fun h => h)).trans hS
      refine hK.out _ _ cy (fun hHeld => ?_)
      clear hK K
      try simp only [ga, gb, gc, Act.put, gd, ge, gf]
      refine wpAnyL_next (i := 11) (by kernel_rfl) rfl (fun K hK => ?_)
      rw [if_pos (by rfl)]
      refine wp_append_atW (.tmp 12) (.tmp 18) 22 rfl B 5 i0 (.int .u8 0) 1 1 Tryz.underlying22 hi hz0 hz1 hz2 rfl (by decide) v (n + k) l rfl hry (some ⟨gy, 0, none⟩) 1 1 [.int .u8 (IntKind.u8.wrap (x / 2 ^ (8 * k)))] rfl (fun h => by cases h) rfl ?_ ?_ (by unfold maxLen; omega) (by omega) (by have := hsz0.out; omega) ?_
      · intro ad had j u hj
        injection had with had
        subst had
        have hadd : (⟨gy, 0, none⟩ : Addr).add j = ⟨gy, 0 + j, none⟩ := by unfold Addr.add; split <;> simp_all
        rw [hadd, cell_of_row _ _ _ _ _ _ hgc, Nat.zero_add]
        simpa using hj
      · intro u hu; simp at hu; rw [hu]; rfl
      intro v6 w9 r6 hg6 hat6
      obtain ⟨ao6, c6, rfl⟩ : ∃ ao c, v6 = .slice ao (n + k + 1) c := by
        rcases r6.2 with ⟨_, h0⟩ | ⟨g, cap, cur, rfl, _⟩
        · omega
        · exact ⟨_, _, rfl⟩
      have hk9 : Keeps (fun j => some j = v.ownBlock) y1 w9 := (Keeps.refl (fun j => some j = v.ownBlock) y1).grown hg6 (fun j h1 _ => h1.symm)
      have hvb : ¬ some bw = v.ownBlock := hvne
      have c9 := (hk9.cell (p := ⟨bw, 0, none⟩) (show bw < y1.heap.size by omega) hvb).trans cy
      have f9 := (hk9.block bw (by omega) hvb).trans ((hky.block bw hbd (fun h => h)).trans HGD.out)
      have fz := two_frozen f9 0
      have cz := cells_at f9 0
      refine hK.out _ _ c9 (fun hHeld => ?_)
      clear hK K
      try simp only [ga, gb, gc, Act.put, gd, ge, gf]
      refine tkA 12 (.pointer (some ⟨bw, 0, none⟩)) rfl (by kernel_rfl) (fun _ _ _ h => (h : False).elim) (by kernel_rfl) (fun _ => ‹_›) ?_ ?_
      · intro w _; go_simp
      try simp only [ga, gb, gc, Act.put, gd, ge, gf]
      refine tkA 13 (.pointer (some ⟨bw, 0, none⟩)) rfl (by kernel_rfl) (fun _ _ _ h => (h : False).elim) (by kernel_rfl) (fun _ => ‹_›) ?_ ?_
      · intro w _; go_simp
      try simp only [ga, gb, gc, Act.put, gd, ge, gf]
      refine wpAnyL_late (i := 14) (by kernel_rfl) rfl (by kernel_rfl) (fun K hK => ?_)
      go_simp
      refine hK.out _ _ (fun _ => ?_)
      clear hK K
      try simp only [ga, gb, gc, Act.put, gd, ge, gf]
      refine wpAnyL_done (by kernel_rfl) ?_ _
      refine NoPanic.normal ?_
      clear hS cy c9
      have hv6 : (Value.slice ao6 (n + k + 1) c6).ownBlock ≠ some bw := fun h => by
        rcases hat6 with h1 | h1
        · exact hvb (by rw [← h1, h])
        · rw [h1] at h; injection h with h; omega
      have hkF : Keeps (fun j => j = bw) w9 (w9.setCell ⟨bw, 0, none⟩ (.slice ao6 (n + k + 1) c6)) := (Keeps.refl (fun j => j = bw) w9).setCell ⟨bw, 0, none⟩ (fun _ => rfl) _
      have hWr : WrV w0 v0 bw B (n + (k + 1)) (l0 ++ (le8V x).take (k + 1)) (w9.setCell ⟨bw, 0, none⟩ (.slice ao6 (n + k + 1) c6)) := by
        rw [le8V_take x hk8, ← List.append_assoc, HLL.out]
        refine ⟨_, cells_put f9 0 _, rowW_off r6 hkF hv6, ?_, ?_⟩
        · rcases hat6 with h1 | h1
          · rw [h1]; exact HO.out
          · exact .inr ⟨_, h1, by have := HKD.out.size; have := hky.size; omega⟩
        · refine ((HKD.out.trans hky (fun i hi h => h.elim)).trans hk9 (fun i hi h => ?_)).trans hkF (fun i hi h => .inl h)
          rcases HO.out with ho | ⟨j, ho, hj⟩
          · exact .inr (by rw [h, ho])
          · rw [ho] at h; injection h with h; omega
      have HWr := Lib.hid hWr
      clear hWr hkF r6 hg6 hat6 hv6 f9 fz cz hk9 hvb hgc hry hky
      go_wp2
      go_roundw
      case rel => exact ⟨k + 1, by omega, by go_num, HWr⟩
      case measure => simp [intOf]; omega
    · obtain rfl : k = 8 := by omega
      go_wp2
      go_end0
      have ht : (le8V x).take 8 = le8V x := List.take_of_length_le (by unfold le8V; simp)
      exact ⟨rfl, by have := HW.out; rwa [ht] at this⟩
theorem wword_calls (w0 : World) (v0 : Value) (bw B n : Nat) (x : Int) (hx : IsU x) (hn : n ≤ 1000000) (hB : B ≤ w0.heap.size) (hbw : bw < w0.heap.size) (hne : v0.ownBlock ≠ some bw) (w : World) (h : Wr w0 v0 bw B n w) :
    Calls Tryz.prog 129 #[.pointer (some ⟨bw, 0, none⟩), .int .u64 x] w fun e w' => e = .returned (.tuple #[]) ∧ Wr w0 v0 bw B (n + 8) w' := by
  obtain ⟨v, l, h⟩ := h
  exact (wwordV_calls w0 v0 bw B n l x hx hn hB hbw hne w ⟨v, h⟩).mono fun e w' ⟨he, hw⟩ => ⟨he, hw.wr⟩
end Go.Proofs.YtmoajobnhiopiaaGreatDoor.sv
set_option linter.unusedSimpArgs false
set_option linter.unusedVariables false
namespace Go.Proofs.YtmoajobnhiopiaaGreatDoor.sv
open Go Go.RowKit Go.Shelf Go.Maps Go.Proofs.YtmoajobnhiopiaaGreatDoor.mk Go.Proofs.YtmoajobnhiopiaaGreatDoor.tp Go.Proofs.YtmoajobnhiopiaaGreatDoor.rg Go.Proofs.YtmoajobnhiopiaaGreatDoor.lm Go.Proofs.YtmoajobnhiopiaaGreatDoor.gm Go.Proofs.YtmoajobnhiopiaaGreatDoor.po
theorem rowW_nil {w w' : World} {base n size : Nat} {e : TypeId} {v : Value} {xs : List Value} (h : w.ownsRow base e size v n xs) (hk : Keeps (fun _ => False) w w') : w'.ownsRow base e size v n xs := by
  refine ⟨h.1, ?_⟩
  rcases h.2 with h0 | ⟨g, cap, cur, he, h1, h2, h3⟩
  · exact .inl h0
  · exact .inr ⟨g, cap, cur, he, h1, (hk.block g (Array.getElem?_eq_some_iff.1 h2).1 (fun h => h)).trans h2, h3⟩
theorem Wr.kept {w0 : World} {v0 : Value} {bw B n : Nat} {W W' : World} (h : Wr w0 v0 bw B n W) (hk : Keeps (fun _ => False) W W') : Wr w0 v0 bw B n W' := by
  obtain ⟨v, l, h1, h2, h3, h4⟩ := h
  exact ⟨v, l, (hk.block bw (Array.getElem?_eq_some_iff.1 h1).1 (fun h => h)).trans h1, rowW_nil h2 hk, h3, h4.trans hk (fun i hi h => h.elim)⟩
theorem Wr.keeps {w0 : World} {v0 : Value} {bw B n : Nat} {W : World} (h : Wr w0 v0 bw B n W) : Keeps (fun j => j = bw ∨ some j = v0.ownBlock) w0 W := by
  obtain ⟨v, l, h1, h2, h3, h4⟩ := h
  exact h4
theorem Wr.step {w0 : World} {v0 : Value} {bw B n : Nat} {W : World} (h : Wr w0 v0 bw B n W) (hbw : bw < w0.heap.size) (hne : v0.ownBlock ≠ some bw) :
    ∃ v1, (∀ W1, Keeps (fun _ => False) W W1 → Wr W1 v1 bw B n W1) ∧ v1.ownBlock ≠ some bw ∧ (∀ j, v1.ownBlock = some j → j < W.heap.size) ∧ ∀ n' W1 W', Keeps (fun _ => False) W W1 → Wr W1 v1 bw B n' W' → Wr w0 v0 bw B n' W' := by
  obtain ⟨v, l, h1, h2, h3, h4⟩ := h
  refine ⟨v, fun W1 hk => ⟨v, l, (hk.block bw (Array.getElem?_eq_some_iff.1 h1).1 (fun h => h)).trans h1, rowW_nil h2 hk, .inl rfl, Keeps.refl _ _⟩, fun hb => ?_, fun j hj => (h2.lt j hj).2, ?_⟩
  · rcases h3 with h3 | ⟨j, h3, hj⟩
    · exact hne (by rw [← h3, hb])
    · rw [h3] at hb; injection hb with hb; omega
  · rintro n' W1 W' hk ⟨v2, l2, k1, k2, k3, k4⟩
    have hs := hk.size
    refine ⟨v2, l2, k1, k2, ?_, (h4.trans hk (fun i hi h => h.elim)).trans k4 (fun i hi hh => ?_)⟩
    · rcases k3 with k3 | ⟨j, k3, hj⟩
      · rw [k3]; exact h3
      · exact .inr ⟨j, k3, Nat.le_trans (Nat.le_trans h4.size hs) hj⟩
    · rcases hh with hh | hh
      · exact .inl hh
      · rcases h3 with h3 | ⟨j, h3, hj⟩
        · exact .inr (by rw [hh, h3])
        · rw [h3] at hh; injection hh with hh; omega
set_option maxRecDepth 100000 in
set_option maxHeartbeats 2000000 in
theorem wpoint_calls (w0 : World) (v0 : Value) (bw B n : Nat) (p : Int × Int) (hn : n ≤ 900000) (hB : B ≤ w0.heap.size) (hbw : bw < w0.heap.size) (hne : v0.ownBlock ≠ some bw) (w : World) (h : Wr w0 v0 bw B n w) :
    Calls Tryz.prog 119 #[.pointer (some ⟨bw, 0, none⟩), .agg #[.int .i64 p.1, .int .i64 p.2]] w fun e w' => e = .returned (.tuple #[]) ∧ Wr w0 v0 bw B (n + 16) w' := by
  obtain ⟨v1, hW, hne1, hvlt, hback⟩ := h.step hbw hne
  have H := Lib.hid hW
  have HNE := Lib.hid hne1
  have HVL := Lib.hid hvlt
  have HBK := Lib.hid hback
  have hbw1 : bw < w.heap.size := Nat.lt_of_lt_of_le hbw h.keeps.size
  have hBw : B ≤ w.heap.size := Nat.le_trans hB h.keeps.size
  have hwu1 : IsU (IntKind.u64.wrap p.1) := by unfold IsU; rw [IntKind.wrap_u64]; omega
  have hwu2 : IsU (IntKind.u64.wrap p.2) := by unfold IsU; rw [IntKind.wrap_u64]; omega
  have HU1 := Lib.hid hwu1
  have HU2 := Lib.hid hwu2
  clear h hW hne1 hvlt hback hne hwu1 hwu2
  go_enter Tryz.func119, Tryz.ntmps119
  go_upto_region 1 with fail
  obtain ⟨w1, hw1⟩ : ∃ w1, w.alloc (.cells #[.int .i64 p.1, .int .i64 p.2] 35) = w1 := ⟨_, rfl⟩
  have hg := heap_alloc_new w (.cells #[.int .i64 p.1, .int .i64 p.2] 35)
  have hk1 : Keeps (fun _ => False) w w1 := by rw [← hw1]; exact (Keeps.refl _ w).alloc _
  rw [hw1] at hg ⊢
  clear hw1
  have c0 := cells_at hg 0
  have c1 := cells_at hg 1
  have HGR := Lib.hid hg
  have H1 := Lib.hid (H.out w1 hk1)
  have hl1 : w.heap.size < w1.heap.size := (Array.getElem?_eq_some_iff.1 hg).1
  clear hg
  go_wp2_with fail
  refine (wword_calls w1 v1 bw B n _ HU1.out (by omega) (by omega) (by omega) HNE.out w1 H1.out).mono ?_; rintro e w2 ⟨rfl, h2⟩
  have d1 := (h2.keeps.cell (p := ⟨w.heap.size, 1, none⟩) hl1 (by
    rintro (h | h)
    · have h' : w.heap.size = bw := h
      omega
    · have h' := HVL.out w.heap.size h.symm
      omega)).trans c1
  have H2 := Lib.hid h2
  clear c0 c1 h2
  go_wp2_with fail
  refine (wword_calls w1 v1 bw B (n + 8) _ HU2.out (by omega) (by omega) (by omega) HNE.out w2 H2.out).mono ?_; rintro e w3 ⟨rfl, h3⟩
  have H3 := Lib.hid h3
  clear h3 d1
  go_wp2
  go_end0
  exact ⟨rfl, HBK.out _ _ _ hk1 H3.out⟩
set_option maxRecDepth 100000 in
set_option maxHeartbeats 4000000 in
theorem each_calls (w0 : World) (v0 : Value) (bw B n bb oo cc : Nat) (l : List (Int × Int)) (hl : l.length ≤ 66) (hn : n ≤ 800000) (hB : B ≤ w0.heap.size) (hbw : bw < w0.heap.size) (hne : v0.ownBlock ≠ some bw)
    (hbb : bb < w0.heap.size) (hb1 : bb ≠ bw) (hb2 : v0.ownBlock ≠ some bb) (hc : ∀ i, i < l.length → w0.cell? ⟨bb, oo + i * 2, none⟩ = some (.int .i64 (pt l i).1) ∧ w0.cell? ⟨bb, oo + i * 2 + 1, none⟩ = some (.int .i64 (pt l i).2)) (w : World) (h : Wr w0 v0 bw B n w) :
    Calls Tryz.prog 118 #[.slice (some ⟨bb, oo, none⟩) l.length cc, .func (.func 119) #[.pointer (some ⟨bw, 0, none⟩)] #[]] w fun e w' => e = .returned (.tuple #[]) ∧ Wr w0 v0 bw B (n + 16 * l.length) w' := by
  have H := Lib.hid h
  have HNE := Lib.hid hne
  have HB2 := Lib.hid hb2
  have HC := Lib.hid hc
  clear h hne hb2 hc
  go_enter Tryz.func118, Tryz.ntmps118
  go_wp2
  go_loopw [5, 8] (fun _ i wr => ∃ k : Nat, k ≤ l.length ∧ i = .int .i64 k ∧ RowKit.Hid (Wr w0 v0 bw B (n + 16 * k) wr)) (fun _ i _ => l.length - (intOf i).toNat)
  case atStart => exact ⟨0, Nat.zero_le _, rfl, H.out⟩
  case round =>
    obtain ⟨k, hk, rfl, HW⟩ := hrel
    by_cases hkl : k < l.length
    · have hkI : (k : Int) < (l.length : Int) := by omega
      have hk0 : (0 : Int) ≤ (k : Int) := by omega
      have hnS : ¬ (bb = bw ∨ some bb = v0.ownBlock) := by
        rintro (h | h)
        · exact hb1 h
        · exact HB2.out h.symm
      have c0 := (HW.out.keeps.cell (p := ⟨bb, oo + k * 2, none⟩) hbb hnS).trans (HC.out k hkl).1
      have c1 := (HW.out.keeps.cell (p := ⟨bb, oo + k * 2 + 1, none⟩) hbb hnS).trans (HC.out k hkl).2
      have HW2 := Lib.hid (HW.out.kept ((Keeps.refl _ wr).alloc (.cells #[.int .i64 (pt l k).1, .int .i64 (pt l k).2] 35)))
      clear hnS
      go_wp2_with fail
      refine (wpoint_calls w0 v0 bw B (n + 16 * k) (pt l k) (by omega) hB hbw HNE.out _ HW2.out).mono ?_; rintro e w3 ⟨rfl, h3⟩
      have H3 := Lib.hid h3
      clear h3 c0 c1
      go_wp2
      go_roundw
      case rel => exact ⟨k + 1, by omega, by go_num, H3⟩
      case measure => simp [intOf]; omega
    · obtain rfl : k = l.length := by omega
      go_wp2
      go_end0
      exact ⟨rfl, HW.out⟩
set_option maxRecDepth 100000 in
theorem eachQ_none (ao : Option Addr) (cap : Nat) (f : Value) (w : World) : Calls Tryz.prog 120 #[.slice ao 0 cap, f] w fun e w' => e = .returned (.tuple #[]) ∧ w' = w := by
  go_enter Tryz.func120, Tryz.ntmps120
  go_wp2
  go_loopw [5, 8] (fun _ i wr => i = .int .i64 0 ∧ wr = w) (fun _ _ _ => 0)
  case atStart => exact ⟨rfl, rfl⟩
  case round =>
    obtain ⟨rfl, rfl⟩ := hrel
    go_wp2
    go_end0
    exact ⟨rfl, rfl⟩
set_option maxRecDepth 100000 in
theorem eachR_none (ao : Option Addr) (cap : Nat) (f : Value) (w : World) : Calls Tryz.prog 92 #[.slice ao 0 cap, f] w fun e w' => e = .returned (.tuple #[]) ∧ w' = w := by
  go_enter Tryz.func92, Tryz.ntmps92
  go_wp2
  go_loopw [5, 8] (fun _ i wr => i = .int .i64 0 ∧ wr = w) (fun _ _ _ => 0)
  case atStart => exact ⟨rfl, rfl⟩
  case round =>
    obtain ⟨rfl, rfl⟩ := hrel
    go_wp2
    go_end0
    exact ⟨rfl, rfl⟩
end Go.Proofs.YtmoajobnhiopiaaGreatDoor.sv
set_option linter.unusedSimpArgs false
set_option linter.unusedVariables false
namespace Go.Proofs.YtmoajobnhiopiaaGreatDoor.sv
open Go Go.RowKit Go.Shelf Go.Maps Go.Proofs.YtmoajobnhiopiaaGreatDoor.mk Go.Proofs.YtmoajobnhiopiaaGreatDoor.tp Go.Proofs.YtmoajobnhiopiaaGreatDoor.rg Go.Proofs.YtmoajobnhiopiaaGreatDoor.lm Go.Proofs.YtmoajobnhiopiaaGreatDoor.gm Go.Proofs.YtmoajobnhiopiaaGreatDoor.po
theorem upd_ex {P : Program} (w : World) (mty kt et : TypeId) (r clock : Nat) (es : Array MapEntry) (n : Int) (val : Value) (hm : P.underlying mty = some (.map kt et)) (hk : P.underlying kt = some (.int .i64)) (hb : w.heap[r]? = some (.map es clock)) (hf : Instr.findNow (.int .i64) (.int .i64 n) es.toList 0 = some none) :
    ∃ w', (Instr.mapUpdate mty (.map (some r)) (.int .i64 n) val).run P w = .ok () w' ∧ w'.heap[r]? = some (.map (es.push { key := .int .i64 n, val := val, born := clock }) (clock + 1)) ∧ Keeps (fun j => j = r) w w' := by
  have hc : (Instr.checkKey false 10000 kt (.int .i64 n)).run P w = .ok () w := MapKept.run_checkKey (k := .int .i64 n) hk (by simp [MapKept.IsKey]) false 9999
  have hlt : r < w.heap.size := (Array.getElem?_eq_some_iff.1 hb).1
  refine ⟨{ w with heap := w.heap.setIfInBounds r (.map (es.push { key := .int .i64 n, val := val, born := clock }) (clock + 1)) }, ?_, ?_, ?_⟩
  · simp [Instr.mapUpdate, run_underlying hm, MapKept.run_getObj_map hb, hc, MapKept.run_findKey hk hf, MapKept.run_setObj_map _ hb, Result.andThen]
  · simp [Array.getElem?_setIfInBounds, hlt]
  · exact ⟨rfl, rfl, rfl, by simp, fun k _ h => by simp [Array.getElem?_setIfInBounds, Ne.symm h]⟩
theorem run_look {P : Program} (w : World) (mty kt et : TypeId) (r clock : Nat) (es : Array MapEntry) (n : Int) (val : Value) (i : Nat) (hm : P.underlying mty = some (.map kt et)) (hk : P.underlying kt = some (.int .i64)) (hb : w.heap[r]? = some (.map es clock)) (hf : Instr.findNow (.int .i64) (.int .i64 n) es.toList 0 = some (some (i, val))) :
    (Instr.lookup mty (.map (some r)) (.int .i64 n) true).run P w = .ok (.tuple #[val, .bool true]) w := by
  have hc : ∀ b, (Instr.checkKey b 10000 kt (.int .i64 n)).run P w = .ok () w := fun b => MapKept.run_checkKey (k := .int .i64 n) hk (by simp [MapKept.IsKey]) b 9999
  simp [Instr.lookup, run_underlying hm, MapKept.run_getObj_map hb, hc, MapKept.run_findKey hk hf, Result.andThen]
end Go.Proofs.YtmoajobnhiopiaaGreatDoor.sv
set_option linter.unusedSimpArgs false
set_option linter.unusedVariables false
namespace Go.Proofs.YtmoajobnhiopiaaGreatDoor.sv
open Go Go.RowKit Go.Shelf Go.Maps Go.Proofs.YtmoajobnhiopiaaGreatDoor.mk Go.Proofs.YtmoajobnhiopiaaGreatDoor.tp Go.Proofs.YtmoajobnhiopiaaGreatDoor.rg Go.Proofs.YtmoajobnhiopiaaGreatDoor.lm Go.Proofs.YtmoajobnhiopiaaGreatDoor.gm Go.Proofs.YtmoajobnhiopiaaGreatDoor.po
theorem results_ans {fn : Func} {p q : Tmp} (h : fn.results = #[.cell p 110, .tmp q]) (tmps : Array Value) (w : World) (g : Nat) (t : TypeId) (a b c : Value) (fr : Nat × Nat)
    (hp : tmps.getD p undef = .pointer (some ⟨g, 0, none⟩)) (hg : w.heap[g]? = some (.cells #[a, b, c] t fr)) : (results fn tmps).run Tryz.prog w = .ok (.tuple #[.agg #[a, b, c], tmps.getD q undef]) w := by
  have e' := run_loadVar_row (P := Tryz.prog) w g t 110 #[a, b, c] fr _ hg Tryz.underlying110 rfl (by kernel_rfl)
  rw [Array.getD_eq_getD_getElem?] at hp
  simp only [results, h]
  simp [Sem.run_bind, Result.andThen, hp, asAddr, e']
@[go_sem] theorem run_storeF {P : Program} (W : World) (a : Addr) (f : Fn) (x y : Array Value) : (store a (.func f x y)).run P W = stored P W a (.func f x y) .plain := run_store P W a _ _ rfl
theorem cells_three {w : World} {g : Nat} {t : TypeId} {fr : Nat × Nat} {z0 z1 z2 a b c : Value} (h : w.heap[g]? = some (.cells #[z0, z1, z2] t fr)) :
    (((w.setCell ⟨g, 0, none⟩ a).setCell ⟨g, 1, none⟩ b).setCell ⟨g, 2, none⟩ c).heap[g]? = some (.cells #[a, b, c] t fr) :=
  cells_put (cells_put (cells_put h 0 a) 1 b) 2 c
theorem keeps_three {a w : World} (h : Keeps (fun _ => False) a w) {g : Nat} (hb : a.heap.size ≤ g) (x0 x1 x2 : Value) : Keeps (fun _ => False) a (((w.setCell ⟨g, 0, none⟩ x0).setCell ⟨g, 1, none⟩ x1).setCell ⟨g, 2, none⟩ x2) := by
  have n : ∀ i, (⟨g, i, none⟩ : Addr).block < a.heap.size → False := fun i hp => by have : g < a.heap.size := hp; omega
  exact ((h.setCell ⟨g, 0, none⟩ (n 0) x0).setCell ⟨g, 1, none⟩ (n 1) x1).setCell ⟨g, 2, none⟩ (n 2) x2
end Go.Proofs.YtmoajobnhiopiaaGreatDoor.sv
set_option linter.unusedSimpArgs false
set_option linter.unusedVariables false
namespace Go.Proofs.YtmoajobnhiopiaaGreatDoor.sv
open Go Go.RowKit Go.Shelf Go.Maps Go.Proofs.YtmoajobnhiopiaaGreatDoor.mk Go.Proofs.YtmoajobnhiopiaaGreatDoor.tp Go.Proofs.YtmoajobnhiopiaaGreatDoor.rg Go.Proofs.YtmoajobnhiopiaaGreatDoor.lm Go.Proofs.YtmoajobnhiopiaaGreatDoor.gm Go.Proofs.YtmoajobnhiopiaaGreatDoor.po
set_option maxRecDepth 100000 in
set_option maxHeartbeats 4000000 in
theorem traced_off (ge go : Nat) (u : FrameMode) (w : World) (he : w.cell? ⟨ge, 0, none⟩ = some (.int .i64 0)) :
    CallsD Tryz.prog 59 #[.pointer (some ⟨ge, 0, none⟩), .pointer (some ⟨go, 0, none⟩)] u w fun e u' w' => u' = u ∧ (e = .returned (.tuple #[]) ∧ w' = w) := by
  go_enter_d Tryz.func59, Tryz.ntmps59
  go_wp2_with fail
  go_end0
  exact ⟨rfl, rfl⟩
set_option maxRecDepth 100000 in
set_option maxHeartbeats 4000000 in
theorem traced_on (n : Int) (hn : n ≠ 0) (hu : IntKind.u8.wrap n = n) (ge go : Nat) (u : FrameMode) (w : World) (he : w.cell? ⟨ge, 0, none⟩ = some (.int .i64 n)) (v : Value) (t : TypeId) (ho : w.heap[go]? = some (.cells #[v] t (0, 0))) :
    CallsD Tryz.prog 59 #[.pointer (some ⟨ge, 0, none⟩), .pointer (some ⟨go, 0, none⟩)] u w fun e u' w' => u' = u ∧ (e = .returned (.tuple #[]) ∧
      (∃ g, w'.heap[go]? = some (.cells #[.slice (some ⟨g, 0, none⟩) 1 1] t (0, 0)) ∧ w'.heap[g]? = some (.cells #[.int .u8 n] 5 (0, 0))) ∧ Keeps (fun b => b = go) w w') := by
  have hlt : go < w.heap.size := (Array.getElem?_eq_some_iff.1 ho).1
  have hn' : (n != 0) = true := by simp [hn]
  have ho' : (w.alloc (.cells #[.int .u8 n] 5)).heap[go]? = some (.cells #[v] t (0, 0)) := (((Keeps.refl (fun _ => False) w).alloc (.cells #[.int .u8 n] 5)).block go hlt (fun h => h)).trans ho
  have c0 : (w.alloc (.cells #[.int .u8 n] 5)).cell? ⟨go, 0, none⟩ = some v := cells_at ho' 0
  have f0 := two_frozen ho' 0
  have HO := Lib.hid ho
  clear ho ho'
  go_enter_d Tryz.func59, Tryz.ntmps59
  go_wp2_with fail
  go_end0
  have hs : ∀ v : Value, (w.setCell ⟨go, 0, none⟩ v).heap.size = w.heap.size := fun v => by simp
  have hk : ∀ v : Value, Keeps (fun b => b = go) w (w.setCell ⟨go, 0, none⟩ v) := fun v => Keeps.setCell (S := fun b => b = go) (Keeps.refl _ w) ⟨go, 0, none⟩ (fun _ => rfl) v
  refine ⟨rfl, ⟨w.heap.size, ?_, ?_⟩, (hk _).alloc _⟩
  · exact (((Keeps.refl (fun _ => False) _).alloc _).block go (by rw [hs]; exact hlt) (fun h => h)).trans (cells_put HO.out 0 _)
  · have := heap_alloc_new (w.setCell ⟨go, 0, none⟩ (.slice (some ⟨w.heap.size, 0, none⟩) 1 1)) (.cells #[.int .u8 n] 5)
    rw [hs] at this
    exact this
end Go.Proofs.YtmoajobnhiopiaaGreatDoor.sv
set_option linter.unusedSimpArgs false
set_option linter.unusedVariables false
namespace Go.Proofs.YtmoajobnhiopiaaGreatDoor.sv
open Go Go.RowKit Go.Shelf Go.Maps Go.Proofs.YtmoajobnhiopiaaGreatDoor.mk Go.Proofs.YtmoajobnhiopiaaGreatDoor.tp Go.Proofs.YtmoajobnhiopiaaGreatDoor.rg Go.Proofs.YtmoajobnhiopiaaGreatDoor.lm Go.Proofs.YtmoajobnhiopiaaGreatDoor.gm Go.Proofs.YtmoajobnhiopiaaGreatDoor.po
theorem results_slc {fn : Func} {p : Tmp} (h : fn.results = #[.cell p 22]) (tmps : Array Value) (w : World) (g : Nat) (t : TypeId) (v : Value) (fr : Nat × Nat)
    (hp : tmps.getD p undef = .pointer (some ⟨g, 0, none⟩)) (hg : w.heap[g]? = some (.cells #[v] t fr)) : (results fn tmps).run Tryz.prog w = .ok v w := by
  have hc : w.cell? ⟨g, 0, none⟩ = some v := cells_at hg 0
  have hagg : (isAgg 22).run Tryz.prog w = .ok false w := by
    unfold isAgg
    rw [Sem.run_bind, run_underlying Tryz.underlying22 w]
    rfl
  rw [resultsV_cell1 h, hp]
  simp [loadVar, Sem.run_bind, Result.andThen, asAddr, hagg, go_sem, hc]
theorem traced_mk (fn : Fn) (first cap : Array Value) (w : World) : (Instr.makeFunc fn first cap).run Tryz.prog w = .ok (.func fn first cap) w := rfl
end Go.Proofs.YtmoajobnhiopiaaGreatDoor.sv
set_option linter.unusedSimpArgs false
set_option linter.unusedVariables false
namespace Go.Proofs.YtmoajobnhiopiaaGreatDoor.sv
open Go Go.RowKit Go.Shelf Go.Maps Go.Proofs.YtmoajobnhiopiaaGreatDoor.mk Go.Proofs.YtmoajobnhiopiaaGreatDoor.tp Go.Proofs.YtmoajobnhiopiaaGreatDoor.rg Go.Proofs.YtmoajobnhiopiaaGreatDoor.lm Go.Proofs.YtmoajobnhiopiaaGreatDoor.gm Go.Proofs.YtmoajobnhiopiaaGreatDoor.po
def bytesAt (w : World) (v : Value) (bs : List Int) : Prop :=
  (∀ x ∈ bs, IsB x) ∧ ((bs = [] ∧ ∃ ao cap, v = .slice ao 0 cap) ∨ ∃ b off cap, v = .slice (some ⟨b, off, none⟩) bs.length cap ∧ b < w.heap.size ∧ ∀ i, i < bs.length → w.cell? ⟨b, off + i, none⟩ = some (.int .u8 (bt bs i)))
theorem bytesAt.kept {w w' : World} {v : Value} {bs : List Int} (h : bytesAt w v bs) (hk : Keeps (fun _ => False) w w') : bytesAt w' v bs := by
  refine ⟨h.1, ?_⟩
  rcases h.2 with h2 | ⟨b, off, cap, hv, hb, hc⟩
  · exact .inl h2
  · exact .inr ⟨b, off, cap, hv, Nat.lt_of_lt_of_le hb hk.size, fun i hi => (hk.cell (p := ⟨b, off + i, none⟩) hb (fun h => h)).trans (hc i hi)⟩
theorem bytesAt.string {w : World} {v : Value} {bs : List Int} (h : bytesAt w v bs) : (convert 22 9 v).run Tryz.prog w = .ok (.string (strOfNums bs)) w := by
  rcases h.2 with ⟨rfl, ao, cap, rfl⟩ | ⟨b, off, cap, rfl, hb, hc⟩
  · cases ao with
    | none => exact run_convert_bytes_nil w 22 5 Tryz.underlying22 Tryz.underlying5 0 cap _ Tryz.underlying9
    | some a =>
      rw [run_convert_bytes_string w _ _ _ _ _ _ Tryz.underlying22 Tryz.underlying5 Tryz.underlying9, run_bytesToString w a 0 cap [] (by simpa using run_loadCells_list (P := Tryz.prog) w a [] (by simp))]
      rfl
  · exact run_convert_bytes_arg w 22 5 Tryz.underlying22 Tryz.underlying5 b off _ cap bs rfl hc _ Tryz.underlying9
theorem strOfNums_eq {l m : List Int} (hl : ∀ x ∈ l, IsB x) (hm : ∀ x ∈ m, IsB x) : ((strOfNums l).toList == (strOfNums m).toList) = decide (l = m) := by
  rw [Bool.eq_iff_iff, beq_iff_eq, decide_eq_true_iff]
  constructor
  · intro h
    have h1 : l.map (fun n => UInt8.ofNat n.toNat) = m.map (fun n => UInt8.ofNat n.toNat) := by rw [Lib.strOfNums_toList, Lib.strOfNums_toList] at h; exact h
    have h2 := congrArg (List.map fun b : UInt8 => (b.toNat : Int)) h1
    have back : ∀ k : List Int, (∀ x ∈ k, IsB x) → (k.map (fun n => UInt8.ofNat n.toNat)).map (fun b : UInt8 => (b.toNat : Int)) = k := by
      intro k hk
      rw [List.map_map]
      conv => rhs; rw [← List.map_id k]
      apply List.map_congr_left
      intro x hx
      have := hk x hx
      unfold IsB at this
      simp
      omega
    rw [back l hl, back m hm] at h2
    exact h2
  · intro h; rw [h]
theorem bytesAt_cells {w : World} {g : Nat} {bs : List Int} {t : TypeId} {fr : Nat × Nat} (h : w.heap[g]? = some (.cells (bs.map (Value.int .u8)).toArray t fr)) (hB : ∀ x ∈ bs, IsB x) {n : Nat} (hn : bs.length = n) (cap : Nat) : bytesAt w (.slice (some ⟨g, 0, none⟩) n cap) bs := by
  subst hn
  refine ⟨hB, .inr ⟨g, 0, cap, rfl, (Array.getElem?_eq_some_iff.1 h).1, fun i hi => ?_⟩⟩
  rw [cells_at h (0 + i), List.getElem?_toArray, List.getElem?_map, Nat.zero_add, bt, List.getElem?_eq_getElem hi]
  rfl
set_option maxRecDepth 100000 in
set_option maxHeartbeats 4000000 in
theorem equal_calls (v u : Value) (l m : List Int) (w : World) (hv : bytesAt w v l) (hu : bytesAt w u m) : Calls Tryz.prog 14 #[v, u] w fun e w' => e = .returned (.bool (decide (l = m))) ∧ w' = w := by
  have s1 := hv.string
  have s2 := hu.string
  have he := strOfNums_eq hv.1 hu.1
  clear hv hu
  go_enter Tryz.func14, Tryz.ntmps14
  go_wp2_with fail
  go_ret
  exact ⟨rfl, rfl⟩
def bsA : List Int := [0, 0, 0, 0, 0, 0, 0, 0, 0, 0, 0, 0, 0, 0, 0, 0, 1, 0, 0, 0, 0, 0, 0, 0, 0, 0, 0, 0, 0, 0, 0, 0, 0, 0, 0, 0, 0, 0, 0, 0, 1, 0, 0, 0, 0, 0, 0, 0]
theorem bsA_cells : (((Array.replicate 49 (Value.int .u8 0)).setIfInBounds 0 (.int .u8 1)).setIfInBounds 17 (.int .u8 1)).setIfInBounds 41 (.int .u8 1) = (((1 : Int) :: bsA).map (Value.int .u8)).toArray := by rfl
theorem bsA_made (w : World) : (Instr.makeSlice 22 (.int .i64 49) (.int .i64 49)).run Tryz.prog w = .ok (.slice (some ⟨w.heap.size, 0, none⟩) 49 49) (w.alloc (.cells (Array.replicate 49 (Value.int .u8 0)) 5)) := by kernel_rfl
theorem bsA_at {w : World} {b : Nat} (h : w.heap[b]? = some (.cells (((((Array.replicate 49 (Value.int .u8 0)).setIfInBounds 0 (.int .u8 1)).setIfInBounds 17 (.int .u8 1)).setIfInBounds 41 (.int .u8 1))) 5 (0, 0))) :
    w.cell? ⟨b, 0, none⟩ = some (.int .u8 1) ∧ BytesAt w b 1 bsA := by
  rw [bsA_cells] at h
  refine ⟨cells_at h 0, (Array.getElem?_eq_some_iff.1 h).1, by unfold IsB; decide, fun j hj => ?_⟩
  rw [cells_at h (1 + j), List.getElem?_toArray, List.getElem?_map, Nat.add_comm, List.getElem?_cons_succ, bt, List.getElem?_eq_getElem hj]
  rfl
end Go.Proofs.YtmoajobnhiopiaaGreatDoor.sv
set_option linter.unusedSimpArgs false
set_option linter.unusedVariables false
namespace Go.Proofs.YtmoajobnhiopiaaGreatDoor.sv
open Go Go.RowKit Go.Shelf Go.Maps Go.Proofs.YtmoajobnhiopiaaGreatDoor.mk Go.Proofs.YtmoajobnhiopiaaGreatDoor.tp Go.Proofs.YtmoajobnhiopiaaGreatDoor.rg Go.Proofs.YtmoajobnhiopiaaGreatDoor.lm Go.Proofs.YtmoajobnhiopiaaGreatDoor.gm Go.Proofs.YtmoajobnhiopiaaGreatDoor.po
open List renaming getElem_toArray → ga, getElem_cons_zero → gb, getElem_cons_succ → gc, setIfInBounds_toArray → gd, set_cons_zero → ge, set_cons_succ → gf
def regB (c : Int) : Reg := (decide (128 ≤ c), c % 128, [])
def regsB (bs : List Int) (k : Nat) : List Reg := (List.range k).map (fun i => regB (bt bs (2 + i)))
def parK (bs : List Int) : Nat := (bt bs 1).toNat
def ptsN (bs : List Int) : Int := bt bs (2 + parK bs) + 256 * bt bs (3 + parK bs)
def parE (bs : List Int) : Int :=
  if bs.length < 1 then 4 else if bt bs 0 < 1 ∨ 5 < bt bs 0 then 5 else if bt bs 0 < 3 then 0 else if bs.length < 2 then 4
  else if bt bs 0 = 3 then (if bt bs 1 < 3 ∨ 64 < bt bs 1 then 6 else 0)
  else if bt bs 1 < 1 ∨ 64 < bt bs 1 then 6 else if bs.length < 2 + parK bs then 4 else if (regsB bs (parK bs)).any wrongR = true then 7
  else if bt bs 0 = 4 then 0 else if bs.length < 4 + parK bs then 4 else if 1 ≤ ptsN bs ∧ ptsN bs ≤ 4096 then 0 else 6
def noHd : Hd := ⟨0, 0, [], 0⟩
def parH (bs : List Int) : Hd := if parE bs ≠ 0 then noHd else ⟨bt bs 0, if bt bs 0 = 3 then bt bs 1 else 0, if 4 ≤ bt bs 0 then regsB bs (parK bs) else [], if bt bs 0 = 5 then ptsN bs else 0⟩
def parN (bs : List Int) : Nat := if parE bs ≠ 0 then 0 else if bt bs 0 < 3 then 1 else if bt bs 0 = 3 then 2 else if bt bs 0 = 4 then 2 + parK bs else 4 + parK bs
def byAt (w : World) (v : Value) (bs : List Int) : Prop :=
  (∀ x ∈ bs, IsB x) ∧ ((bs = [] ∧ ∃ ao cap, v = .slice ao 0 cap) ∨ ∃ b off cap, v = .slice (some ⟨b, off, none⟩) bs.length cap ∧ bs.length ≤ cap ∧ b < w.heap.size ∧ ∀ i, i < bs.length → w.cell? ⟨b, off + i, none⟩ = some (.int .u8 (bt bs i)))
theorem byAt.bytes {w : World} {v : Value} {bs : List Int} (h : byAt w v bs) : bytesAt w v bs := by
  refine ⟨h.1, ?_⟩
  rcases h.2 with h | ⟨b, off, cap, h1, h2, h3, h4⟩
  · exact .inl h
  · exact .inr ⟨b, off, cap, h1, h3, h4⟩
theorem byAt.kept {w w' : World} {v : Value} {bs : List Int} (h : byAt w v bs) (hk : Keeps (fun _ => False) w w') : byAt w' v bs := by
  refine ⟨h.1, ?_⟩
  rcases h.2 with h2 | ⟨b, off, cap, hv, hl, hb, hc⟩
  · exact .inl h2
  · exact .inr ⟨b, off, cap, hv, hl, Nat.lt_of_lt_of_le hb hk.size, fun i hi => (hk.cell (p := ⟨b, off + i, none⟩) hb (fun h => h)).trans (hc i hi)⟩
theorem bt_ok {bs : List Int} (h : ∀ x ∈ bs, IsB x) (i : Nat) : IsB (bt bs i) := by
  unfold bt
  cases hi : bs[i]? with
  | none => exact ⟨by decide, by decide⟩
  | some x => exact h x (List.mem_of_getElem? hi)
theorem noHd_at (w : World) : HdAt w (.agg #[.int .i64 0, .int .i64 0, .slice none 0 0, .int .i64 0]) noHd := ⟨none, 0, rfl, .inl ⟨rfl, none, 0, rfl⟩, fun _ => ⟨rfl, rfl⟩⟩
def hdFresh (w : World) (hv : Value) : Prop := ∀ x0 x1 a k c x3, hv = .agg #[x0, x1, .slice (some a) k c, x3] → w.heap.size ≤ a.block
theorem hdFresh_nil (w : World) (x0 x1 x3 : Value) (k c : Nat) : hdFresh w (.agg #[x0, x1, .slice none k c, x3]) := by
  intro _ _ _ _ _ _ h
  simp at h
theorem hdFresh_row {w W : World} {e : TypeId} {size n k cap : Nat} {xs : List Value} {ao : Option Addr} (h : W.ownsRow (w.heap.size + 2) e size (.slice ao k cap) n xs) (x0 x1 x3 : Value) : hdFresh w (.agg #[x0, x1, .slice ao k cap, x3]) := by
  intro _ _ a _ _ _ he
  simp at he
  have := h.lt a.block (by rw [he.2.2.1.1]; rfl)
  omega
def Parsed (w : World) (h : Hd) (n : Nat) (e : Int) (en : Ending) (w' : World) : Prop := (∃ hv, en = .returned (.tuple #[hv, .int .i64 n, .int .i64 e]) ∧ HdAt w' hv h ∧ hdFresh w hv) ∧ Keeps (fun _ => False) w w'
def rcl (l : List Reg) : List Value := l.flatMap fun r => [.bool r.1, .int .i64 r.2.1, .slice none 0 0]
theorem rcl_snoc (l : List Reg) (r : Reg) : rcl (l ++ [r]) = rcl l ++ [.bool r.1, .int .i64 r.2.1, .slice none 0 0] := by unfold rcl; rw [List.flatMap_append]; rfl
theorem rcl_get (l : List Reg) : ∀ i, i < l.length → (rcl l)[i * 3]? = some (.bool (rg l i).1) ∧ (rcl l)[i * 3 + 1]? = some (.int .i64 (rg l i).2.1) ∧ (rcl l)[i * 3 + 2]? = some (.slice none 0 0) := by
  induction l with
  | nil => intro i h; simp at h
  | cons d L ih =>
    intro i h
    have e : rcl (d :: L) = Value.bool d.1 :: .int .i64 d.2.1 :: .slice none 0 0 :: rcl L := rfl
    rw [e]
    cases i with
    | zero => exact ⟨rfl, rfl, rfl⟩
    | succ i =>
      have h' := ih i (by simpa using h)
      rw [show (i + 1) * 3 = i * 3 + 1 + 1 + 1 by omega]
      exact h'
theorem regsAt_row {w : World} {base n : Nat} {v : Value} {l : List Reg} (h : w.ownsRow base 40 3 v n (rcl l)) (hn : n = l.length) (he : ∀ r ∈ l, r.2.2 = []) : regsAt w v l := by
  subst hn
  rcases h.2 with ⟨rfl, h0⟩ | ⟨g, cap, cur, rfl, hb, hg, hle, hcap, hcur, htake⟩
  · have e := List.eq_nil_of_length_eq_zero h0
    subst e
    exact .inl ⟨rfl, none, 0, rfl⟩
  · refine .inr ⟨g, 0, cap, rfl, (Array.getElem?_eq_some_iff.1 hg).1, fun i hi => ?_⟩
    have h1 := h.cellAt (i * 3) (by omega)
    have h2 := h.cellAt (i * 3 + 1) (by omega)
    have h3 := h.cellAt (i * 3 + 2) (by omega)
    rw [Nat.zero_add]
    have hg := rcl_get l i hi
    have hm : (rg l i).2.2 = [] := by
      apply he
      unfold rg
      rw [List.getD_eq_getElem?_getD, List.getElem?_eq_getElem hi]
      exact List.getElem_mem hi
    exact ⟨h1.trans hg.1, h2.trans hg.2.1, none, 0, 0, h3.trans hg.2.2, by rw [hm]; exact .inl ⟨rfl, none, 0, rfl⟩⟩
theorem shape_own {w : World} {base n size : Nat} {e : TypeId} {v : Value} {l : List Value} (h : w.ownsRow base e size v n l) : ∃ ao cap, v = .slice ao n cap := by
  rcases h.2 with ⟨rfl, h0⟩ | ⟨g, cap, cur, rfl, _⟩
  · exact ⟨none, 0, by rw [h0]⟩
  · exact ⟨_, _, rfl⟩
theorem row_set {w : World} {base n size g i : Nat} {e : TypeId} {v : Value} {l : List Value} (h : w.ownsRow base e size v n l) (hg : g < base) (u : Value) : (w.setCell ⟨g, i, none⟩ u).ownsRow base e size v n l :=
  rowW_off h ((Keeps.refl (fun j => j = g) w).setCell ⟨g, i, none⟩ (fun _ => rfl) u) (fun hb => by have := h.lt g hb; omega)
theorem regsB_length (bs : List Int) (k : Nat) : (regsB bs k).length = k := by unfold regsB; simp
theorem regsB_take (bs : List Int) (k j : Nat) (h : j < k) : (regsB bs k).take (j + 1) = (regsB bs k).take j ++ [regB (bt bs (2 + j))] := by
  rw [rg_take (by rw [regsB_length]; exact h)]
  unfold rg regsB
  rw [List.getD_eq_getElem?_getD, List.getElem?_map, List.getElem?_range h]
  rfl
theorem regsB_empty (bs : List Int) (k : Nat) : ∀ r ∈ regsB bs k, r.2.2 = [] := by
  intro r hr
  obtain ⟨i, _, rfl⟩ := List.mem_map.1 hr
  rfl
set_option maxRecDepth 100000 in
theorem and_not128 (c : Int) (h : IsB c) : bits .andNot .u8 c 128 = c % 128 := by
  obtain ⟨h0, h1⟩ := h
  obtain ⟨n, rfl⟩ := Int.eq_ofNat_of_zero_le h0
  have hn : n < 256 := by omega
  have : ∀ m : Fin 256, bits .andNot .u8 ((m.1 : Nat) : Int) 128 = ((m.1 : Nat) : Int) % 128 := by decide
  exact this ⟨n, hn⟩
theorem or_two (x y : Int) (hx : IsB x) (hy : IsB y) : bits .or .i64 x (y * 256) = x + 256 * y := by
  obtain ⟨hx0, hx1⟩ := hx
  obtain ⟨hy0, hy1⟩ := hy
  obtain ⟨m, rfl⟩ := Int.eq_ofNat_of_zero_le hx0
  obtain ⟨n, rfl⟩ := Int.eq_ofNat_of_zero_le hy0
  have hm : m < 256 := by omega
  have hn : n < 256 := by omega
  have h := or_disjoint (m : Int) (n : Int) 8 (by omega) (by omega) (by omega) (by omega) (by omega)
  have e : bits .or .i64 (m : Int) ((n : Int) * 256) = bits .or .u64 (m : Int) ((n : Int) * 2 ^ 8) := by
    unfold bits
    show IntKind.i64.wrap _ = IntKind.u64.wrap _
    have hb := (BitVec.ofInt 64 (m : Int) ||| BitVec.ofInt 64 ((n : Int) * 256)).isLt
    have h' := h
    unfold bits at h'
    have h2 : IntKind.u64.wrap ((BitVec.ofInt 64 (m : Int) ||| BitVec.ofInt 64 ((n : Int) * 256)).toNat : Int) = (m : Int) + (n : Int) * 2 ^ 8 := h'
    rw [wrap_u64] at h2
    show IntKind.i64.wrap ((BitVec.ofInt 64 (m : Int) ||| BitVec.ofInt 64 ((n : Int) * 256)).toNat : Int) = IntKind.u64.wrap ((BitVec.ofInt 64 (m : Int) ||| BitVec.ofInt 64 ((n : Int) * 256)).toNat : Int)
    rw [wrap_u64, IntKind.wrap_i64]
    omega
  rw [e, h]
  omega
theorem parE_rs {bs : List Int} (h4 : bt bs 0 = 4 ∨ bt bs 0 = 5) (hk : 1 ≤ bt bs 1 ∧ bt bs 1 ≤ 64) (hl : 2 + parK bs ≤ bs.length) : parE bs = if (regsB bs (parK bs)).any wrongR = true then 7 else if bt bs 0 = 4 then 0 else if bs.length < 4 + parK bs then 4 else if 1 ≤ ptsN bs ∧ ptsN bs ≤ 4096 then 0 else 6 := by
  unfold parE
  rw [if_neg (by omega), if_neg (by omega), if_neg (by omega), if_neg (by omega), if_neg (by omega), if_neg (by omega), if_neg (by omega)]
theorem parsed_bad {w : World} {bs : List Int} {n : Int} {en : Ending} {w' : World} (he : parE bs = n) (hn : n ≠ 0) (h : en = .returned (.tuple #[.agg #[.int .i64 0, .int .i64 0, .slice none 0 0, .int .i64 0], .int .i64 0, .int .i64 n])) (hk : Keeps (fun _ => False) w w') : Parsed w (parH bs) (parN bs) (parE bs) en w' := by
  have h1 : parE bs ≠ 0 := by rw [he]; exact hn
  refine ⟨⟨.agg #[.int .i64 0, .int .i64 0, .slice none 0 0, .int .i64 0], ?_, ?_, hdFresh_nil _ _ _ _ _ _⟩, hk⟩
  · rw [h, he, show parN bs = 0 by unfold parN; rw [if_pos h1]]; rfl
  · rw [show parH bs = noHd by unfold parH; rw [if_pos h1]]; exact noHd_at _
theorem infoR : (Tryz.prog.info? 40).map (fun i => (i.zero, i.size, i.bytes)) = some (some (.agg #[.bool false, .int .i64 0, .slice none 0 0]), 3, 40) := by kernel_rfl
set_option maxRecDepth 100000 in
set_option maxHeartbeats 4000000 in
theorem parse_empty (ao : Option Addr) (cap : Nat) (w : World) : Calls Tryz.prog 80 #[.slice ao 0 cap] w (Parsed w noHd 0 4) := by
  go_enter Tryz.func80, Tryz.ntmps80
  go_wp2_with fail
  refine wp_scope_once 0 (by rfl) ?_
  go_wp2_with fail
  apply wp_goto
  refine ⟨rfl, ?_⟩
  go_wp2_with fail
  rw [jump_ret]
  exact bodyPost_ret (results_hdr rfl _ _ _ _ _ _ _ _ _ rfl (heap2 w _ _).1) rfl ⟨⟨_, rfl, noHd_at _, hdFresh_nil _ _ _ _ _ _⟩, ((Keeps.refl _ w).alloc _).alloc _⟩
set_option maxRecDepth 100000 in
set_option maxHeartbeats 4000000 in
theorem parse_s4 (b off n cap : Nat) (bs : List Int) (hB : ∀ x ∈ bs, IsB x) (hn : n = bs.length) (hcap : n ≤ cap) (hk : 1 ≤ bt bs 1 ∧ bt bs 1 ≤ 64) (hl : 2 + parK bs ≤ n) (h0 : bt bs 0 = 4) (w : World) (hb : b < w.heap.size) (hc : ∀ i, i < n → w.cell? ⟨b, off + i, none⟩ = some (.int .u8 (bt bs i))) :
    Calls Tryz.prog 80 #[.slice (some ⟨b, off, none⟩) n cap] w (Parsed w (parH bs) (parN bs) (parE bs)) := by
  obtain ⟨K, hK⟩ : ∃ K, parK bs = K := ⟨_, rfl⟩
  have hbk : bt bs 1 = (K : Int) := by rw [← hK]; unfold parK; omega
  rw [hK] at hl
  rw [hbk] at hk
  have cc0 := hc 0 (by omega)
  have cc1 := hc 1 (by omega)
  rw [h0, Nat.add_zero] at cc0
  rw [hbk] at cc1
  obtain ⟨i0, hi, hz0, hz1, hz2⟩ := info_parts infoR
  have HB := Lib.hid hB
  have HN := Lib.hid hn
  have HC := Lib.hid hc
  have HK := Lib.hid hK
  have H0 := Lib.hid h0
  have HBK := Lib.hid hbk
  clear hB hn hc hK hbk h0
  obtain ⟨hk1', hk2'⟩ := hk
  have hKI : (0 : Int) ≤ (K : Int) := by omega
  have hn1 : ¬ (n : Int) < 1 := by omega
  have hn2 : ¬ (n : Int) < 2 := by omega
  have hn0 : (0 : Int) < (n : Int) := by omega
  have hnz : (1 : Int) < (n : Int) := by omega
  have hn3 : ¬ (n : Int) < 2 + (K : Int) := by omega
  have hd1 : decide ((n : Int) < 1) = false := decide_eq_false hn1
  have hd2 : decide ((n : Int) < 2) = false := decide_eq_false hn2
  have hd3 : decide ((n : Int) < 2 + (K : Int)) = false := decide_eq_false hn3
  have cA : ∀ o1 o2, ((w.alloc o1).alloc o2).cell? ⟨b, off, none⟩ = some (.int .u8 4) := fun o1 o2 => ((((Keeps.refl (fun _ => False) w).alloc o1).alloc o2).cell (p := ⟨b, off, none⟩) hb (fun h => h)).trans cc0
  go_enter Tryz.func80, Tryz.ntmps80
  go_wp2_with fail
  refine wp_scope_once 0 (by rfl) ?_
  go_upto_region 7 with fail
  obtain ⟨w1, hw1⟩ : ∃ w1, (w.alloc (.cells #[.int .i64 0, .int .i64 0, .slice none 0 0, .int .i64 0] 27)).alloc (.cells #[.int .i64 4, .int .i64 0, .slice none 0 0, .int .i64 0] 27) = w1 := ⟨_, rfl⟩
  have hk1 : Keeps (fun _ => False) w w1 := by rw [← hw1]; exact ((Keeps.refl _ w).alloc _).alloc _
  have hg0 : w1.heap[w.heap.size]? = some (.cells #[.int .i64 0, .int .i64 0, .slice none 0 0, .int .i64 0] 27 (0, 0)) := by rw [← hw1]; exact (heap2 w _ _).1
  have hg1 : w1.heap[w.heap.size + 1]? = some (.cells #[.int .i64 4, .int .i64 0, .slice none 0 0, .int .i64 0] 27 (0, 0)) := by rw [← hw1]; exact (heap2 w _ _).2
  rw [hw1]
  clear hw1
  have c1 := (hk1.cell (p := ⟨b, off + 1, none⟩) hb (fun h => h)).trans cc1
  have d0 := cells_at hg1 0
  have d2 := cells_at hg1 2
  have G0 := Lib.hid hg0
  have G1 := Lib.hid hg1
  clear hg0 hg1 cA cc0 cc1
  go_wp2_with fail
  rw [show 2 + K - 2 = K from by omega]
  go_loopw [9, 63] (fun _ i wr => ∃ k : Nat, k ≤ K ∧ i = .int .i64 k ∧ ∃ v : Value, wr.heap[w.heap.size + 1]? = some (.cells #[.int .i64 4, .int .i64 0, v, .int .i64 0] 27 (0, 0)) ∧ RowKit.Hid (wr.heap[w.heap.size]? = some (.cells #[.int .i64 0, .int .i64 0, .slice none 0 0, .int .i64 0] 27 (0, 0))) ∧ wr.ownsRow (w.heap.size + 2) 40 3 v k (rcl ((regsB bs K).take k)) ∧ RowKit.Hid (Keeps (fun _ => False) w wr)) (fun _ i _ => K - (intOf i).toNat)
  case atStart => exact ⟨0, Nat.zero_le _, rfl, _, G1.out, G0, ⟨rfl, .inl ⟨rfl, rfl⟩⟩, Lib.hid hk1⟩
  case round =>
    clear c1 d0 d2 G0 G1 hk1
    obtain ⟨k, hk, rfl, v, hg1, G0, hr, HW⟩ := hrel
    obtain ⟨ao5, cap5, rfl⟩ := shape_own hr
    by_cases hkl : k < K
    · have hkI : (k : Int) < (K : Int) := by omega
      have hk0 : (0 : Int) ≤ (k : Int) := by omega
      have cb := (HW.out.cell (p := ⟨b, off + (2 + k), none⟩) hb (fun h => h)).trans (HC.out (2 + k) (by omega))
      rw [← Nat.add_assoc] at cb
      have d0 := cells_at hg1 0
      have d2 := cells_at hg1 2
      have f2 := two_frozen hg1 2
      have G1 := Lib.hid hg1
      have hbb := bt_ok HB.out (2 + k)
      have han := and_not128 _ hbb
      have hwlt : w.heap.size + 1 < wr.heap.size := (Array.getElem?_eq_some_iff.1 hg1).1
      clear hg1
      go_wp2_with (at_builtin; refine wpList_append_own _ rfl _ _ 25 rfl (w.heap.size + 2) 40 i0 (.agg #[.bool false, .int .i64 0, .slice none 0 0]) 3 40 Tryz.underlying25 hi hz0 hz1 hz2 rfl (by decide) _ _ _ rfl (hr.alloc _) ⟨wr.heap.size, 0, none⟩ 1 1 [.bool (decide (128 ≤ bt bs (2 + k))), .int .i64 (bt bs (2 + k) % 128), .slice none 0 0] rfl rfl ?c1 ?c2 ?c3 ?c4 ?c5 ?_)
      case c1 =>
        intro j u hj
        have hadd : (⟨wr.heap.size, 0, none⟩ : Addr).add j = ⟨wr.heap.size, 0 + j, none⟩ := by unfold Addr.add; split <;> simp_all
        rw [hadd, cell_of_row _ _ _ _ _ _ (heap_alloc_new wr _), Nat.zero_add]
        simpa using hj
      case c2 => first | (intro u hu; simp at hu; rcases hu with rfl | rfl | rfl <;> rfl) | rfl
      case c3 => unfold maxLen; omega
      case c4 => omega
      case c5 => first | omega | (simp; omega)
      intro v2 w2 hown2 hgrow2 _
      have hK2 : Keeps (fun _ => False) w w2 := (HW.out.alloc _).grown hgrow2 (fun g hg hlt => by have := hr.lt g hg; omega)
      have hKr : Keeps (fun j => some j = (Value.slice ao5 k cap5).ownBlock) wr w2 := ((Keeps.refl _ wr).alloc _).grown hgrow2 (fun g hg _ => hg.symm)
      have hnb : ∀ j, j < w.heap.size + 2 → ¬ some j = (Value.slice ao5 k cap5).ownBlock := fun j hj h => by have := hr.lt j h.symm; omega
      have G1 := Lib.hid ((hKr.block _ hwlt (hnb _ (by omega))).trans G1.out)
      have G0 := Lib.hid ((hKr.block _ (by omega) (hnb _ (by omega))).trans G0.out)
      obtain ⟨ao6, cap6, rfl⟩ := shape_own hown2
      have hown3 : w2.ownsRow (w.heap.size + 2) 40 3 (.slice ao6 (k + 1) cap6) (k + 1) (rcl ((regsB bs K).take (k + 1))) := by rw [regsB_take _ _ _ hkl, rcl_snoc]; exact hown2
      have HO := Lib.hid hown3
      have HK2 := Lib.hid hK2
      clear d0 d2 f2 cb han hbb hr hown2 hown3 hgrow2 hK2 hKr hnb HW
      have d2 := cells_at G1.out 2
      have f2 := two_frozen G1.out 2
      go_wp2_with fail
      go_roundw
      case rel => exact ⟨k + 1, by omega, by go_num, _, cells_put G1.out 2 _, Lib.hid ((Below.heap_setCell _ _ _ _ (by show w.heap.size ≠ w.heap.size + 1; omega)).trans G0.out), row_set HO.out (by omega) _, Lib.hid (HK2.out.setCell ⟨w.heap.size + 1, 2, none⟩ (fun h => by have : w.heap.size + 1 < w.heap.size := h; omega) _)⟩
      case measure => simp [intOf]; omega
    · obtain rfl : k = K := by omega
      have hta : (regsB bs k).take k = regsB bs k := List.take_of_length_le (by rw [regsB_length]; omega)
      rw [hta] at hr
      have HR := Lib.hid hr
      have HRA := Lib.hid (regsAt_row hr (regsB_length _ _).symm (regsB_empty _ _))
      have G1 := Lib.hid hg1
      have d2 := cells_at hg1 2
      have hwlt : w.heap.size + 1 < wr.heap.size := (Array.getElem?_eq_some_iff.1 hg1).1
      clear hr hta hg1
      go_wp2_with fail
      refine (contains_wrong _ (regsB bs k) (by rw [regsB_length]; omega) _ HRA.out).mono ?_; rintro e w2 ⟨rfl, hk2⟩
      have HR := Lib.hid (rowW_nil HR.out hk2)
      have hg1 := (hk2.block _ hwlt (fun h => h)).trans G1.out
      have hg0 := (hk2.block _ (by omega) (fun h => h)).trans G0.out
      have HW := Lib.hid (knil HW.out hk2)
      have HE := Lib.hid (parE_rs (bs := bs) (by rw [H0.out]; omega) (by rw [HBK.out]; omega) (by rw [HK.out, ← HN.out]; exact hl))
      clear d2 hk2
      have d0 := cells_at hg1 0
      have d1 := cells_at hg1 1
      have d2 := cells_at hg1 2
      have d3 := cells_at hg1 3
      have e0 := cells_at hg0 0
      have e1 := cells_at hg0 1
      have e2 := cells_at hg0 2
      have e3 := cells_at hg0 3
      have f0 := two_frozen hg0 0
      have f1 := two_frozen hg0 1
      have f2 := two_frozen hg0 2
      have f3 := two_frozen hg0 3
      have G0 := Lib.hid hg0
      have G1 := Lib.hid hg1
      clear hg0 hg1
      cases hany : (regsB bs k).any wrongR with
      | true =>
        have HANY := Lib.hid hany
        clear hany
        go_wp2_with fail
        apply wp_goto
        refine ⟨rfl, ?_⟩
        go_wp2_with fail
        rw [jump_ret]
        refine bodyPost_ret (results_hdr rfl _ _ _ _ _ _ _ _ _ rfl (cells_four G0.out)) rfl (parsed_bad (n := 7) ?_ (by decide) rfl ?_)
        · rw [HE.out, HK.out, if_pos HANY.out]
        · exact keeps_four HW.out (Nat.le_refl _) _ _ _ _
      | false =>
        have HANY := Lib.hid hany
        clear hany
        go_wp2_with fail
        rw [jump_ret]
        refine bodyPost_ret (results_hdr rfl _ _ _ _ _ _ _ _ _ rfl (cells_four G0.out)) rfl ?_
        have hE : parE bs = 0 := by rw [HE.out, HK.out, if_neg (by rw [HANY.out]; decide), if_pos H0.out]
        refine ⟨⟨.agg #[.int .i64 4, .int .i64 0, .slice ao5 k cap5, .int .i64 0], ?_, ?_, hdFresh_row HR.out _ _ _⟩, keeps_four HW.out (Nat.le_refl _) _ _ _ _⟩
        · rw [hE, show (parN bs : Int) = 2 + k by unfold parN; rw [if_neg (by rw [hE]; decide), H0.out, if_neg (by decide), if_neg (by decide), if_pos rfl, HK.out]; omega]; rfl
        · rw [show parH bs = ⟨4, 0, regsB bs k, 0⟩ by unfold parH; rw [if_neg (by rw [hE]; decide), H0.out, if_neg (by decide), if_pos (by decide), if_neg (by decide), HK.out]]
          refine ⟨ao5, cap5, by simp only [regsB_length], ?_, fun h => ?_⟩
          · rw [regsB_length]; exact regsAt_row (row_set (row_set (row_set (row_set HR.out (by omega) _) (by omega) _) (by omega) _) (by omega) _) (regsB_length _ _).symm (regsB_empty _ _)
          · have := congrArg List.length h
            rw [regsB_length] at this
            simp at this
            omega
set_option maxRecDepth 100000 in
set_option maxHeartbeats 4000000 in
theorem parse_s5 (b off n cap : Nat) (bs : List Int) (hB : ∀ x ∈ bs, IsB x) (hn : n = bs.length) (hcap : n ≤ cap) (hk : 1 ≤ bt bs 1 ∧ bt bs 1 ≤ 64) (hl : 2 + parK bs ≤ n) (h0 : bt bs 0 = 5) (w : World) (hb : b < w.heap.size) (hc : ∀ i, i < n → w.cell? ⟨b, off + i, none⟩ = some (.int .u8 (bt bs i))) :
    Calls Tryz.prog 80 #[.slice (some ⟨b, off, none⟩) n cap] w (Parsed w (parH bs) (parN bs) (parE bs)) := by
  obtain ⟨K, hK⟩ : ∃ K, parK bs = K := ⟨_, rfl⟩
  have hbk : bt bs 1 = (K : Int) := by rw [← hK]; unfold parK; omega
  rw [hK] at hl
  rw [hbk] at hk
  have cc0 := hc 0 (by omega)
  have cc1 := hc 1 (by omega)
  rw [h0, Nat.add_zero] at cc0
  rw [hbk] at cc1
  obtain ⟨i0, hi, hz0, hz1, hz2⟩ := info_parts infoR
  have HB := Lib.hid hB
  have HN := Lib.hid hn
  have HC := Lib.hid hc
  have HK := Lib.hid hK
  have H0 := Lib.hid h0
  have HBK := Lib.hid hbk
  clear hB hn hc hK hbk h0
  obtain ⟨hk1', hk2'⟩ := hk
  have hKI : (0 : Int) ≤ (K : Int) := by omega
  have hn1 : ¬ (n : Int) < 1 := by omega
  have hn2 : ¬ (n : Int) < 2 := by omega
  have hn0 : (0 : Int) < (n : Int) := by omega
  have hnz : (1 : Int) < (n : Int) := by omega
  have hn3 : ¬ (n : Int) < 2 + (K : Int) := by omega
  have hd1 : decide ((n : Int) < 1) = false := decide_eq_false hn1
  have hd2 : decide ((n : Int) < 2) = false := decide_eq_false hn2
  have hd3 : decide ((n : Int) < 2 + (K : Int)) = false := decide_eq_false hn3
  have cA : ∀ o1 o2, ((w.alloc o1).alloc o2).cell? ⟨b, off, none⟩ = some (.int .u8 5) := fun o1 o2 => ((((Keeps.refl (fun _ => False) w).alloc o1).alloc o2).cell (p := ⟨b, off, none⟩) hb (fun h => h)).trans cc0
  go_enter Tryz.func80, Tryz.ntmps80
  go_wp2_with fail
  refine wp_scope_once 0 (by rfl) ?_
  go_upto_region 7 with fail
  obtain ⟨w1, hw1⟩ : ∃ w1, (w.alloc (.cells #[.int .i64 0, .int .i64 0, .slice none 0 0, .int .i64 0] 27)).alloc (.cells #[.int .i64 5, .int .i64 0, .slice none 0 0, .int .i64 0] 27) = w1 := ⟨_, rfl⟩
  have hk1 : Keeps (fun _ => False) w w1 := by rw [← hw1]; exact ((Keeps.refl _ w).alloc _).alloc _
  have hg0 : w1.heap[w.heap.size]? = some (.cells #[.int .i64 0, .int .i64 0, .slice none 0 0, .int .i64 0] 27 (0, 0)) := by rw [← hw1]; exact (heap2 w _ _).1
  have hg1 : w1.heap[w.heap.size + 1]? = some (.cells #[.int .i64 5, .int .i64 0, .slice none 0 0, .int .i64 0] 27 (0, 0)) := by rw [← hw1]; exact (heap2 w _ _).2
  rw [hw1]
  clear hw1
  have c1 := (hk1.cell (p := ⟨b, off + 1, none⟩) hb (fun h => h)).trans cc1
  have d0 := cells_at hg1 0
  have d2 := cells_at hg1 2
  have G0 := Lib.hid hg0
  have G1 := Lib.hid hg1
  clear hg0 hg1 cA cc0 cc1
  go_wp2_with fail
  rw [show 2 + K - 2 = K from by omega]
  go_loopw [9, 63] (fun _ i wr => ∃ k : Nat, k ≤ K ∧ i = .int .i64 k ∧ ∃ v : Value, wr.heap[w.heap.size + 1]? = some (.cells #[.int .i64 5, .int .i64 0, v, .int .i64 0] 27 (0, 0)) ∧ RowKit.Hid (wr.heap[w.heap.size]? = some (.cells #[.int .i64 0, .int .i64 0, .slice none 0 0, .int .i64 0] 27 (0, 0))) ∧ wr.ownsRow (w.heap.size + 2) 40 3 v k (rcl ((regsB bs K).take k)) ∧ RowKit.Hid (Keeps (fun _ => False) w wr)) (fun _ i _ => K - (intOf i).toNat)
  case atStart => exact ⟨0, Nat.zero_le _, rfl, _, G1.out, G0, ⟨rfl, .inl ⟨rfl, rfl⟩⟩, Lib.hid hk1⟩
  case round =>
    clear c1 d0 d2 G0 G1 hk1
    obtain ⟨k, hk, rfl, v, hg1, G0, hr, HW⟩ := hrel
    obtain ⟨ao5, cap5, rfl⟩ := shape_own hr
    by_cases hkl : k < K
    · have hkI : (k : Int) < (K : Int) := by omega
      have hk0 : (0 : Int) ≤ (k : Int) := by omega
      have cb := (HW.out.cell (p := ⟨b, off + (2 + k), none⟩) hb (fun h => h)).trans (HC.out (2 + k) (by omega))
      rw [← Nat.add_assoc] at cb
      have d0 := cells_at hg1 0
      have d2 := cells_at hg1 2
      have f2 := two_frozen hg1 2
      have G1 := Lib.hid hg1
      have hbb := bt_ok HB.out (2 + k)
      have han := and_not128 _ hbb
      have hwlt : w.heap.size + 1 < wr.heap.size := (Array.getElem?_eq_some_iff.1 hg1).1
      clear hg1
      go_wp2_with (at_builtin; refine wpList_append_own _ rfl _ _ 25 rfl (w.heap.size + 2) 40 i0 (.agg #[.bool false, .int .i64 0, .slice none 0 0]) 3 40 Tryz.underlying25 hi hz0 hz1 hz2 rfl (by decide) _ _ _ rfl (hr.alloc _) ⟨wr.heap.size, 0, none⟩ 1 1 [.bool (decide (128 ≤ bt bs (2 + k))), .int .i64 (bt bs (2 + k) % 128), .slice none 0 0] rfl rfl ?c1 ?c2 ?c3 ?c4 ?c5 ?_)
      case c1 =>
        intro j u hj
        have hadd : (⟨wr.heap.size, 0, none⟩ : Addr).add j = ⟨wr.heap.size, 0 + j, none⟩ := by unfold Addr.add; split <;> simp_all
        rw [hadd, cell_of_row _ _ _ _ _ _ (heap_alloc_new wr _), Nat.zero_add]
        simpa using hj
      case c2 => first | (intro u hu; simp at hu; rcases hu with rfl | rfl | rfl <;> rfl) | rfl
      case c3 => unfold maxLen; omega
      case c4 => omega
      case c5 => first | omega | (simp; omega)
      intro v2 w2 hown2 hgrow2 _
      have hK2 : Keeps (fun _ => False) w w2 := (HW.out.alloc _).grown hgrow2 (fun g hg hlt => by have := hr.lt g hg; omega)
      have hKr : Keeps (fun j => some j = (Value.slice ao5 k cap5).ownBlock) wr w2 := ((Keeps.refl _ wr).alloc _).grown hgrow2 (fun g hg _ => hg.symm)
      have hnb : ∀ j, j < w.heap.size + 2 → ¬ some j = (Value.slice ao5 k cap5).ownBlock := fun j hj h => by have := hr.lt j h.symm; omega
      have G1 := Lib.hid ((hKr.block _ hwlt (hnb _ (by omega))).trans G1.out)
      have G0 := Lib.hid ((hKr.block _ (by omega) (hnb _ (by omega))).trans G0.out)
      obtain ⟨ao6, cap6, rfl⟩ := shape_own hown2
      have hown3 : w2.ownsRow (w.heap.size + 2) 40 3 (.slice ao6 (k + 1) cap6) (k + 1) (rcl ((regsB bs K).take (k + 1))) := by rw [regsB_take _ _ _ hkl, rcl_snoc]; exact hown2
      have HO := Lib.hid hown3
      have HK2 := Lib.hid hK2
      clear d0 d2 f2 cb han hbb hr hown2 hown3 hgrow2 hK2 hKr hnb HW
      have d2 := cells_at G1.out 2
      have f2 := two_frozen G1.out 2
      go_wp2_with fail
      go_roundw
      case rel => exact ⟨k + 1, by omega, by go_num, _, cells_put G1.out 2 _, Lib.hid ((Below.heap_setCell _ _ _ _ (by show w.heap.size ≠ w.heap.size + 1; omega)).trans G0.out), row_set HO.out (by omega) _, Lib.hid (HK2.out.setCell ⟨w.heap.size + 1, 2, none⟩ (fun h => by have : w.heap.size + 1 < w.heap.size := h; omega) _)⟩
      case measure => simp [intOf]; omega
    · obtain rfl : k = K := by omega
      have hta : (regsB bs k).take k = regsB bs k := List.take_of_length_le (by rw [regsB_length]; omega)
      rw [hta] at hr
      have HR := Lib.hid hr
      have HRA := Lib.hid (regsAt_row hr (regsB_length _ _).symm (regsB_empty _ _))
      have G1 := Lib.hid hg1
      have d2 := cells_at hg1 2
      have hwlt : w.heap.size + 1 < wr.heap.size := (Array.getElem?_eq_some_iff.1 hg1).1
      clear hr hta hg1
      go_wp2_with fail
      refine (contains_wrong _ (regsB bs k) (by rw [regsB_length]; omega) _ HRA.out).mono ?_; rintro e w2 ⟨rfl, hk2⟩
      have HR := Lib.hid (rowW_nil HR.out hk2)
      have hg1 := (hk2.block _ hwlt (fun h => h)).trans G1.out
      have hg0 := (hk2.block _ (by omega) (fun h => h)).trans G0.out
      have HW := Lib.hid (knil HW.out hk2)
      have HE := Lib.hid (parE_rs (bs := bs) (by rw [H0.out]; omega) (by rw [HBK.out]; omega) (by rw [HK.out, ← HN.out]; exact hl))
      clear d2 hk2
      have d0 := cells_at hg1 0
      have d1 := cells_at hg1 1
      have d2 := cells_at hg1 2
      have d3 := cells_at hg1 3
      have e0 := cells_at hg0 0
      have e1 := cells_at hg0 1
      have e2 := cells_at hg0 2
      have e3 := cells_at hg0 3
      have f0 := two_frozen hg0 0
      have f1 := two_frozen hg0 1
      have f2 := two_frozen hg0 2
      have f3 := two_frozen hg0 3
      have G0 := Lib.hid hg0
      have G1 := Lib.hid hg1
      clear hg0 hg1
      cases hany : (regsB bs k).any wrongR with
      | true =>
        have HANY := Lib.hid hany
        clear hany
        go_wp2_with fail
        apply wp_goto
        refine ⟨rfl, ?_⟩
        go_wp2_with fail
        rw [jump_ret]
        refine bodyPost_ret (results_hdr rfl _ _ _ _ _ _ _ _ _ rfl (cells_four G0.out)) rfl (parsed_bad (n := 7) ?_ (by decide) rfl ?_)
        · rw [HE.out, HK.out, if_pos HANY.out]
        · exact keeps_four HW.out (Nat.le_refl _) _ _ _ _
      | false =>
        have HANY := Lib.hid hany
        clear hany
        by_cases hl4 : n < 4 + k
        · have hlI : (n : Int) < 4 + (k : Int) := by omega
          go_wp2_with fail
          apply wp_goto
          refine ⟨rfl, ?_⟩
          go_wp2_with fail
          rw [jump_ret]
          refine bodyPost_ret (results_hdr rfl _ _ _ _ _ _ _ _ _ rfl (cells_four G0.out)) rfl (parsed_bad (n := 4) ?_ (by decide) rfl ?_)
          · rw [HE.out, HK.out, if_neg (by rw [HANY.out]; decide), H0.out, if_neg (by decide), if_pos (by rw [← HN.out]; omega)]
          · exact keeps_four HW.out (Nat.le_refl _) _ _ _ _
        · have hlI : ¬ (n : Int) < 4 + (k : Int) := by omega
          have hlJ : decide ((n : Int) < 4 + (k : Int)) = false := decide_eq_false hlI
          obtain ⟨p0, hp0⟩ : ∃ p0, bt bs (2 + k) = p0 := ⟨_, rfl⟩
          obtain ⟨p1, hp1⟩ : ∃ p1, bt bs (3 + k) = p1 := ⟨_, rfl⟩
          have hb0 : IsB p0 := by rw [← hp0]; exact bt_ok HB.out _
          have hb1 : IsB p1 := by rw [← hp1]; exact bt_ok HB.out _
          have cp0 := (HW.out.cell (p := ⟨b, off + (2 + k), none⟩) hb (fun h => h)).trans (HC.out (2 + k) (by omega))
          have cp1 := (HW.out.cell (p := ⟨b, off + (3 + k), none⟩) hb (fun h => h)).trans (HC.out (3 + k) (by omega))
          rw [hp0] at cp0
          rw [hp1] at cp1
          have hor := or_two p0 p1 hb0 hb1
          have hpn : ptsN bs = p0 + 256 * p1 := by unfold ptsN; rw [HK.out, hp0, hp1]
          have HPN := Lib.hid hpn
          unfold IsB at hb0 hb1
          obtain ⟨ha0, ha1⟩ := hb0
          obtain ⟨hb0, hb1⟩ := hb1
          have hw2 : IntKind.i64.wrap (2 + (k : Int)) = 2 + (k : Int) := by rw [IntKind.wrap_i64]; omega
          have hw3 : IntKind.i64.wrap (3 + (k : Int)) = 3 + (k : Int) := by rw [IntKind.wrap_i64]; omega
          have hw4 : IntKind.i64.wrap p0 = p0 := by rw [IntKind.wrap_i64]; omega
          have hw5 : IntKind.i64.wrap p1 = p1 := by rw [IntKind.wrap_i64]; omega
          have hw6 : IntKind.i64.wrap (p1 * 256) = p1 * 256 := by rw [IntKind.wrap_i64]; omega
          have ht2 : (2 + (k : Int)).toNat = 2 + k := by omega
          have ht3 : (3 + (k : Int)).toNat = 3 + k := by omega
          have hi2 : 2 + (k : Int) < (n : Int) := by omega
          have hi3 : 3 + (k : Int) < (n : Int) := by omega
          have hj2 : (0 : Int) ≤ 2 + (k : Int) := by omega
          have hj3 : (0 : Int) ≤ 3 + (k : Int) := by omega
          clear hp0 hp1 hpn
          go_wp2_with fail
          refine wp_region_late (fun W => W.cell? ⟨b, off + (2 + k), none⟩ = some (.int .u8 p0) ∧ W.cell? ⟨b, off + (3 + k), none⟩ = some (.int .u8 p1)) [15] (by kernel_rfl) ?_
          have hS : w2.drew.cell? ⟨b, off + (2 + k), none⟩ = some (.int .u8 p0) ∧ w2.drew.cell? ⟨b, off + (3 + k), none⟩ = some (.int .u8 p1) := ⟨cp0, cp1⟩
          have HG0d := Lib.hid (show w2.drew.heap[w.heap.size]? = some (.cells #[.int .i64 0, .int .i64 0, .slice none 0 0, .int .i64 0] 27 (0, 0)) from G0.out)
          have HG1d := Lib.hid (show w2.drew.heap[w.heap.size + 1]? = some (.cells #[.int .i64 5, .int .i64 0, .slice ao5 k cap5, .int .i64 0] 27 (0, 0)) from G1.out)
          have HWd := Lib.hid (show Keeps (fun _ => False) w w2.drew from HW.out.drewN 1)
          have HRd := Lib.hid (show w2.drew.ownsRow (w.heap.size + 2) 40 3 (.slice ao5 k cap5) k (rcl (regsB bs k)) from HR.out)
          clear d0 d1 d2 d3 e0 e1 e2 e3 f0 f1 f2 f3 G0 G1 HW HR cp0 cp1
          generalize w2.drew = wd at hS HG0d HG1d HWd HRd ⊢
          have d3 := cells_at HG1d.out 3
          have f3 := two_frozen HG1d.out 3
          refine tkA 0 (.slice (some ⟨b, off, none⟩) n cap) rfl (by kernel_rfl) (fun _ _ _ h => (h : False).elim) (by kernel_rfl) (fun _ => ‹_›) ?_ ?_
          · intro w _; go_simp
          try simp only [ga, gb, gc, Act.put, gd, ge, gf]
          refine tkA 1 (.int .i64 k) rfl (by kernel_rfl) (fun _ _ _ h => (h : False).elim) (by kernel_rfl) (fun _ => ‹_›) ?_ ?_
          · intro w _; go_simp
          try simp only [ga, gb, gc, Act.put, gd, ge, gf]
          refine tkA 2 (.int .i64 (2 + k)) rfl (by kernel_rfl) (fun _ _ _ h => (h : False).elim) (by kernel_rfl) (fun _ => ‹_›) ?_ ?_
          · intro w _; go_simp
          try simp only [ga, gb, gc, Act.put, gd, ge, gf]
          refine tkA 3 (.pointer (some ⟨b, off + (2 + k), none⟩)) rfl (by kernel_rfl) (fun _ _ _ h => (h : False).elim) (by kernel_rfl) (fun _ => ‹_›) ?_ ?_
          · intro w _; go_simp
          try simp only [ga, gb, gc, Act.put, gd, ge, gf]
          refine tkL 4 (.int .u8 p0) rfl (by kernel_rfl) (fun _ _ _ h => (h : False).elim) (by kernel_rfl) ‹_› ?_ ?_
          · intro w hSw
            obtain ⟨s0, s1⟩ := hSw
            go_simp
          try simp only [ga, gb, gc, Act.put, gd, ge, gf]
          refine tkA 5 (.int .i64 p0) rfl (by kernel_rfl) (fun _ _ _ h => (h : False).elim) (by kernel_rfl) (fun _ => ‹_›) ?_ ?_
          · intro w _; go_simp
          try simp only [ga, gb, gc, Act.put, gd, ge, gf]
          refine tkA 6 (.slice (some ⟨b, off, none⟩) n cap) rfl (by kernel_rfl) (fun _ _ _ h => (h : False).elim) (by kernel_rfl) (fun _ => ‹_›) ?_ ?_
          · intro w _; go_simp
          try simp only [ga, gb, gc, Act.put, gd, ge, gf]
          refine tkA 7 (.int .i64 k) rfl (by kernel_rfl) (fun _ _ _ h => (h : False).elim) (by kernel_rfl) (fun _ => ‹_›) ?_ ?_
          · intro w _; go_simp
          try simp only [ga, gb, gc, Act.put, gd, ge, gf]
          refine tkA 8 (.int .i64 (3 + k)) rfl (by kernel_rfl) (fun _ _ _ h => (h : False).elim) (by kernel_rfl) (fun _ => ‹_›) ?_ ?_
          · intro w _; go_simp
          try simp only [ga, gb, gc, Act.put, gd, ge, gf]
          refine tkA 9 (.pointer (some ⟨b, off + (3 + k), none⟩)) rfl (by kernel_rfl) (fun _ _ _ h => (h : False).elim) (by kernel_rfl) (fun _ => ‹_›) ?_ ?_
          · intro w _; go_simp
          try simp only [ga, gb, gc, Act.put, gd, ge, gf]
          refine tkL 10 (.int .u8 p1) rfl (by kernel_rfl) (fun _ _ _ h => (h : False).elim) (by kernel_rfl) ‹_› ?_ ?_
          · intro w hSw
            obtain ⟨s0, s1⟩ := hSw
            go_simp
          try simp only [ga, gb, gc, Act.put, gd, ge, gf]
          refine tkA 11 (.int .i64 p1) rfl (by kernel_rfl) (fun _ _ _ h => (h : False).elim) (by kernel_rfl) (fun _ => ‹_›) ?_ ?_
          · intro w _; go_simp
          try simp only [ga, gb, gc, Act.put, gd, ge, gf]
          refine tkA 12 (.int .i64 (p1 * 256)) rfl (by kernel_rfl) (fun _ _ _ h => (h : False).elim) (by kernel_rfl) (fun _ => ‹_›) ?_ ?_
          · intro w _; go_simp
          try simp only [ga, gb, gc, Act.put, gd, ge, gf]
          refine tkA 13 (.int .i64 (p0 + 256 * p1)) rfl (by kernel_rfl) (fun _ _ _ h => (h : False).elim) (by kernel_rfl) (fun _ => ‹_›) ?_ ?_
          · intro w _; go_simp
          try simp only [ga, gb, gc, Act.put, gd, ge, gf]
          refine tkA 14 (.pointer (some ⟨w.heap.size + 1, 3, none⟩)) rfl (by kernel_rfl) (fun _ _ _ h => (h : False).elim) (by kernel_rfl) (fun _ => ‹_›) ?_ ?_
          · intro w _; go_simp
          try simp only [ga, gb, gc, Act.put, gd, ge, gf]
          refine wpAnyL_late (i := 15) (by kernel_rfl) rfl (by kernel_rfl) (fun K hK => ?_)
          go_simp
          refine hK.out _ _ (fun _ => ?_)
          clear hK K
          try simp only [ga, gb, gc, Act.put, gd, ge, gf]
          refine wpAnyL_done (by kernel_rfl) ?_ _
          refine NoPanic.normal ?_
          clear hS
          obtain ⟨w3, hw3'⟩ : ∃ w3, wd.setCell ⟨w.heap.size + 1, 3, none⟩ (.int .i64 (p0 + 256 * p1)) = w3 := ⟨_, rfl⟩
          have g1 : w3.heap[w.heap.size + 1]? = some (.cells #[.int .i64 5, .int .i64 0, .slice ao5 k cap5, .int .i64 (p0 + 256 * p1)] 27 (0, 0)) := by rw [← hw3']; exact cells_put HG1d.out 3 _
          have g0 : w3.heap[w.heap.size]? = some (.cells #[.int .i64 0, .int .i64 0, .slice none 0 0, .int .i64 0] 27 (0, 0)) := by rw [← hw3']; exact (Below.heap_setCell _ _ _ _ (by show w.heap.size ≠ w.heap.size + 1; omega)).trans HG0d.out
          have HW3 := Lib.hid (show Keeps (fun _ => False) w w3 by rw [← hw3']; exact HWd.out.setCell ⟨w.heap.size + 1, 3, none⟩ (fun h => by have : w.heap.size + 1 < w.heap.size := h; omega) _)
          have HR3 := Lib.hid (show w3.ownsRow (w.heap.size + 2) 40 3 (.slice ao5 k cap5) k (rcl (regsB bs k)) by rw [← hw3']; exact row_set HRd.out (by omega) _)
          rw [hw3']
          clear hw3' d3 f3 HG1d HG0d HWd HRd
          have hq0 : 0 ≤ p0 + 256 * p1 := by omega
          have hql : p0 + 256 * p1 ≤ 65535 := by omega
          clear ha0 ha1 hb0 hb1 hor hw4 hw5 hw6
          obtain ⟨q, hq⟩ : ∃ q, p0 + 256 * p1 = q := ⟨_, rfl⟩
          rw [hq] at g1 HPN hq0 hql ⊢
          clear hq
          have d0 := cells_at g1 0
          have d1 := cells_at g1 1
          have d2 := cells_at g1 2
          have d3 := cells_at g1 3
          have e0 := cells_at g0 0
          have e1 := cells_at g0 1
          have e2 := cells_at g0 2
          have e3 := cells_at g0 3
          have f0 := two_frozen g0 0
          have f1 := two_frozen g0 1
          have f2 := two_frozen g0 2
          have f3 := two_frozen g0 3
          have G0 := Lib.hid g0
          have G1 := Lib.hid g1
          have hE5 := Lib.hid (show parE bs = if 1 ≤ q ∧ q ≤ 4096 then 0 else 6 by rw [HE.out, HK.out, if_neg (by rw [HANY.out]; decide), H0.out, if_neg (by decide), if_neg (by rw [← HN.out]; omega), HPN.out])
          clear g0 g1
          by_cases hq : 1 ≤ q ∧ q ≤ 4096
          · obtain ⟨hq1, hq2⟩ := hq
            have hw7 : IntKind.i64.wrap (4 + (k : Int)) = 4 + (k : Int) := by rw [IntKind.wrap_i64]; omega
            have hqd1 : decide (1 ≤ q) = true := decide_eq_true hq1
            have hqd2 : decide (q ≤ 4096) = true := decide_eq_true hq2
            go_wp2_with fail
            rw [jump_ret]
            refine bodyPost_ret (results_hdr rfl _ _ _ _ _ _ _ _ _ rfl (cells_four G0.out)) rfl ?_
            have hE : parE bs = 0 := by rw [hE5.out, if_pos ⟨hq1, hq2⟩]
            refine ⟨⟨.agg #[.int .i64 5, .int .i64 0, .slice ao5 k cap5, .int .i64 q], ?_, ?_, hdFresh_row HR3.out _ _ _⟩, keeps_four HW3.out (Nat.le_refl _) _ _ _ _⟩
            · rw [hE, show (parN bs : Int) = 4 + k by unfold parN; rw [if_neg (by rw [hE]; decide), H0.out, if_neg (by decide), if_neg (by decide), if_neg (by decide), HK.out]; omega]; rfl
            · rw [show parH bs = ⟨5, 0, regsB bs k, q⟩ by unfold parH; rw [if_neg (by rw [hE]; decide), H0.out, if_neg (by decide), if_pos (by decide), if_pos rfl, HK.out, HPN.out]]
              refine ⟨ao5, cap5, by simp only [regsB_length], ?_, fun h => ?_⟩
              · rw [regsB_length]; exact regsAt_row (row_set (row_set (row_set (row_set HR3.out (by omega) _) (by omega) _) (by omega) _) (by omega) _) (regsB_length _ _).symm (regsB_empty _ _)
              · have := congrArg List.length h
                rw [regsB_length] at this
                simp at this
                omega
          · have hE : parE bs = 6 := by rw [hE5.out, if_neg hq]
            have HEE := Lib.hid hE
            clear hE
            by_cases hq1 : 1 ≤ q
            · have hq2 : ¬ q ≤ 4096 := by omega
              have hqd1 : decide (1 ≤ q) = true := decide_eq_true hq1
              have hqd2 : decide (q ≤ 4096) = false := decide_eq_false hq2
              clear hq
              go_wp2_with fail
              refine wp_label ?_
              go_wp2_with fail
              rw [jump_ret]
              exact bodyPost_ret (results_hdr rfl _ _ _ _ _ _ _ _ _ rfl (cells_four G0.out)) rfl (parsed_bad (n := 6) HEE.out (by decide) rfl (keeps_four HW3.out (Nat.le_refl _) _ _ _ _))
            · have hqd1 : decide (1 ≤ q) = false := decide_eq_false hq1
              clear hq
              go_wp2_with fail
              refine wp_label ?_
              go_wp2_with fail
              rw [jump_ret]
              exact bodyPost_ret (results_hdr rfl _ _ _ _ _ _ _ _ _ rfl (cells_four G0.out)) rfl (parsed_bad (n := 6) HEE.out (by decide) rfl (keeps_four HW3.out (Nat.le_refl _) _ _ _ _))
set_option maxRecDepth 100000 in
set_option maxHeartbeats 4000000 in
theorem parse_op (b off n cap : Nat) (bs : List Int) (x : Int) (hxb : IsB x) (h15 : x < 1 ∨ 5 < x) (hE : parE bs = 5) (hx : bt bs 0 = x) (hn : 1 ≤ n) (w : World) (hb : b < w.heap.size) (hc : w.cell? ⟨b, off, none⟩ = some (.int .u8 x)) :
    Calls Tryz.prog 80 #[.slice (some ⟨b, off, none⟩) n cap] w (Parsed w (parH bs) (parN bs) (parE bs)) := by
  have HE := Lib.hid hE
  have HX := Lib.hid hx
  clear hE hx
  obtain ⟨hx0, hx1⟩ := hxb
  have h1 : ¬ x = 1 := by omega
  have h2 : ¬ x = 2 := by omega
  have h3 : ¬ x = 3 := by omega
  have h4 : ¬ x = 4 := by omega
  have h5 : ¬ x = 5 := by omega
  have hwx : IntKind.i64.wrap x = x := by rw [IntKind.wrap_i64]; omega
  have hn1 : ¬ (n : Int) < 1 := by omega
  have hn0 : (0 : Int) < (n : Int) := by omega
  have hd1 : decide ((n : Int) < 1) = false := decide_eq_false hn1
  have cA : ∀ o1 o2, ((w.alloc o1).alloc o2).cell? ⟨b, off, none⟩ = some (.int .u8 x) := fun o1 o2 => ((((Keeps.refl (fun _ => False) w).alloc o1).alloc o2).cell (p := ⟨b, off, none⟩) hb (fun h => h)).trans hc
  go_enter Tryz.func80, Tryz.ntmps80
  go_wp2_with fail
  refine wp_scope_once 0 (by rfl) ?_
  go_upto_region 7 with fail
  obtain ⟨w1, hw1⟩ : ∃ w1, (w.alloc (.cells #[.int .i64 0, .int .i64 0, .slice none 0 0, .int .i64 0] 27)).alloc (.cells #[.int .i64 x, .int .i64 0, .slice none 0 0, .int .i64 0] 27) = w1 := ⟨_, rfl⟩
  have hk1 : Keeps (fun _ => False) w w1 := by rw [← hw1]; exact ((Keeps.refl _ w).alloc _).alloc _
  have hg0 : w1.heap[w.heap.size]? = some (.cells #[.int .i64 0, .int .i64 0, .slice none 0 0, .int .i64 0] 27 (0, 0)) := by rw [← hw1]; exact (heap2 w _ _).1
  have hg1 : w1.heap[w.heap.size + 1]? = some (.cells #[.int .i64 x, .int .i64 0, .slice none 0 0, .int .i64 0] 27 (0, 0)) := by rw [← hw1]; exact (heap2 w _ _).2
  rw [hw1]
  clear hw1
  have d0 := cells_at hg1 0
  have d1 := cells_at hg1 1
  have d2 := cells_at hg1 2
  have d3 := cells_at hg1 3
  have e0 := cells_at hg0 0
  have e1 := cells_at hg0 1
  have e2 := cells_at hg0 2
  have e3 := cells_at hg0 3
  have f0 := two_frozen hg0 0
  have f1 := two_frozen hg0 1
  have f2 := two_frozen hg0 2
  have f3 := two_frozen hg0 3
  have G0 := Lib.hid hg0
  have G1 := Lib.hid hg1
  clear hg0 hg1
  clear h15
  go_wp2_with fail
  apply wp_goto
  refine ⟨rfl, ?_⟩
  go_wp2_with fail
  rw [jump_ret]
  exact bodyPost_ret (results_hdr rfl _ _ _ _ _ _ _ _ _ rfl (cells_four G0.out)) rfl (parsed_bad (n := 5) HE.out (by decide) rfl (keeps_four hk1 (Nat.le_refl _) _ _ _ _))
set_option maxRecDepth 100000 in
set_option maxHeartbeats 4000000 in
theorem parse_p1 (b off n cap : Nat) (bs : List Int) (hE : parE bs = 0) (hx : bt bs 0 = 1) (hn : 1 ≤ n) (w : World) (hb : b < w.heap.size) (hc : w.cell? ⟨b, off, none⟩ = some (.int .u8 1)) :
    Calls Tryz.prog 80 #[.slice (some ⟨b, off, none⟩) n cap] w (Parsed w (parH bs) (parN bs) (parE bs)) := by
  have HE := Lib.hid hE
  have HX := Lib.hid hx
  clear hE hx
  have hn1 : ¬ (n : Int) < 1 := by omega
  have hn0 : (0 : Int) < (n : Int) := by omega
  have hd1 : decide ((n : Int) < 1) = false := decide_eq_false hn1
  have cA : ∀ o1 o2, ((w.alloc o1).alloc o2).cell? ⟨b, off, none⟩ = some (.int .u8 1) := fun o1 o2 => ((((Keeps.refl (fun _ => False) w).alloc o1).alloc o2).cell (p := ⟨b, off, none⟩) hb (fun h => h)).trans hc
  go_enter Tryz.func80, Tryz.ntmps80
  go_wp2_with fail
  refine wp_scope_once 0 (by rfl) ?_
  go_upto_region 7 with fail
  obtain ⟨w1, hw1⟩ : ∃ w1, (w.alloc (.cells #[.int .i64 0, .int .i64 0, .slice none 0 0, .int .i64 0] 27)).alloc (.cells #[.int .i64 1, .int .i64 0, .slice none 0 0, .int .i64 0] 27) = w1 := ⟨_, rfl⟩
  have hk1 : Keeps (fun _ => False) w w1 := by rw [← hw1]; exact ((Keeps.refl _ w).alloc _).alloc _
  have hg0 : w1.heap[w.heap.size]? = some (.cells #[.int .i64 0, .int .i64 0, .slice none 0 0, .int .i64 0] 27 (0, 0)) := by rw [← hw1]; exact (heap2 w _ _).1
  have hg1 : w1.heap[w.heap.size + 1]? = some (.cells #[.int .i64 1, .int .i64 0, .slice none 0 0, .int .i64 0] 27 (0, 0)) := by rw [← hw1]; exact (heap2 w _ _).2
  rw [hw1]
  clear hw1
  have d0 := cells_at hg1 0
  have d1 := cells_at hg1 1
  have d2 := cells_at hg1 2
  have d3 := cells_at hg1 3
  have e0 := cells_at hg0 0
  have e1 := cells_at hg0 1
  have e2 := cells_at hg0 2
  have e3 := cells_at hg0 3
  have f0 := two_frozen hg0 0
  have f1 := two_frozen hg0 1
  have f2 := two_frozen hg0 2
  have f3 := two_frozen hg0 3
  have G0 := Lib.hid hg0
  have G1 := Lib.hid hg1
  clear hg0 hg1
  go_wp2_with fail
  rw [jump_ret]
  refine bodyPost_ret (results_hdr rfl _ _ _ _ _ _ _ _ _ rfl (cells_four G0.out)) rfl ?_
  refine ⟨⟨.agg #[.int .i64 1, .int .i64 0, .slice none 0 0, .int .i64 0], ?_, ?_, hdFresh_nil _ _ _ _ _ _⟩, keeps_four hk1 (Nat.le_refl _) _ _ _ _⟩
  · rw [HE.out, show (parN bs : Int) = 1 by unfold parN; rw [if_neg (by rw [HE.out]; decide), HX.out, if_pos (by decide)]; rfl]; rfl
  · rw [show parH bs = ⟨1, 0, [], 0⟩ by unfold parH; rw [if_neg (by rw [HE.out]; decide), HX.out, if_neg (by decide), if_neg (by decide), if_neg (by decide)]]
    exact ⟨none, 0, rfl, .inl ⟨rfl, none, 0, rfl⟩, fun _ => ⟨rfl, rfl⟩⟩
set_option maxRecDepth 100000 in
set_option maxHeartbeats 4000000 in
theorem parse_p2 (b off n cap : Nat) (bs : List Int) (hE : parE bs = 0) (hx : bt bs 0 = 2) (hn : 1 ≤ n) (w : World) (hb : b < w.heap.size) (hc : w.cell? ⟨b, off, none⟩ = some (.int .u8 2)) :
    Calls Tryz.prog 80 #[.slice (some ⟨b, off, none⟩) n cap] w (Parsed w (parH bs) (parN bs) (parE bs)) := by
  have HE := Lib.hid hE
  have HX := Lib.hid hx
  clear hE hx
  have hn1 : ¬ (n : Int) < 1 := by omega
  have hn0 : (0 : Int) < (n : Int) := by omega
  have hd1 : decide ((n : Int) < 1) = false := decide_eq_false hn1
  have cA : ∀ o1 o2, ((w.alloc o1).alloc o2).cell? ⟨b, off, none⟩ = some (.int .u8 2) := fun o1 o2 => ((((Keeps.refl (fun _ => False) w).alloc o1).alloc o2).cell (p := ⟨b, off, none⟩) hb (fun h => h)).trans hc
  go_enter Tryz.func80, Tryz.ntmps80
  go_wp2_with fail
  refine wp_scope_once 0 (by rfl) ?_
  go_upto_region 7 with fail
  obtain ⟨w1, hw1⟩ : ∃ w1, (w.alloc (.cells #[.int .i64 0, .int .i64 0, .slice none 0 0, .int .i64 0] 27)).alloc (.cells #[.int .i64 2, .int .i64 0, .slice none 0 0, .int .i64 0] 27) = w1 := ⟨_, rfl⟩
  have hk1 : Keeps (fun _ => False) w w1 := by rw [← hw1]; exact ((Keeps.refl _ w).alloc _).alloc _
  have hg0 : w1.heap[w.heap.size]? = some (.cells #[.int .i64 0, .int .i64 0, .slice none 0 0, .int .i64 0] 27 (0, 0)) := by rw [← hw1]; exact (heap2 w _ _).1
  have hg1 : w1.heap[w.heap.size + 1]? = some (.cells #[.int .i64 2, .int .i64 0, .slice none 0 0, .int .i64 0] 27 (0, 0)) := by rw [← hw1]; exact (heap2 w _ _).2
  rw [hw1]
  clear hw1
  have d0 := cells_at hg1 0
  have d1 := cells_at hg1 1
  have d2 := cells_at hg1 2
  have d3 := cells_at hg1 3
  have e0 := cells_at hg0 0
  have e1 := cells_at hg0 1
  have e2 := cells_at hg0 2
  have e3 := cells_at hg0 3
  have f0 := two_frozen hg0 0
  have f1 := two_frozen hg0 1
  have f2 := two_frozen hg0 2
  have f3 := two_frozen hg0 3
  have G0 := Lib.hid hg0
  have G1 := Lib.hid hg1
  clear hg0 hg1
  go_wp2_with fail
  rw [jump_ret]
  refine bodyPost_ret (results_hdr rfl _ _ _ _ _ _ _ _ _ rfl (cells_four G0.out)) rfl ?_
  refine ⟨⟨.agg #[.int .i64 2, .int .i64 0, .slice none 0 0, .int .i64 0], ?_, ?_, hdFresh_nil _ _ _ _ _ _⟩, keeps_four hk1 (Nat.le_refl _) _ _ _ _⟩
  · rw [HE.out, show (parN bs : Int) = 1 by unfold parN; rw [if_neg (by rw [HE.out]; decide), HX.out, if_pos (by decide)]; rfl]; rfl
  · rw [show parH bs = ⟨2, 0, [], 0⟩ by unfold parH; rw [if_neg (by rw [HE.out]; decide), HX.out, if_neg (by decide), if_neg (by decide), if_neg (by decide)]]
    exact ⟨none, 0, rfl, .inl ⟨rfl, none, 0, rfl⟩, fun _ => ⟨rfl, rfl⟩⟩
set_option maxRecDepth 100000 in
set_option maxHeartbeats 4000000 in
theorem parse_c3 (b off n cap : Nat) (bs : List Int) (hE : parE bs = 4) (hx : bt bs 0 = 3) (hn : 1 ≤ n ∧ n < 2) (w : World) (hb : b < w.heap.size) (hc : w.cell? ⟨b, off, none⟩ = some (.int .u8 3)) :
    Calls Tryz.prog 80 #[.slice (some ⟨b, off, none⟩) n cap] w (Parsed w (parH bs) (parN bs) (parE bs)) := by
  have HE := Lib.hid hE
  have HX := Lib.hid hx
  clear hE hx
  obtain ⟨hn, hn9⟩ := hn
  have hn2 : (n : Int) < 2 := by omega
  have hn1 : ¬ (n : Int) < 1 := by omega
  have hn0 : (0 : Int) < (n : Int) := by omega
  have hd1 : decide ((n : Int) < 1) = false := decide_eq_false hn1
  have cA : ∀ o1 o2, ((w.alloc o1).alloc o2).cell? ⟨b, off, none⟩ = some (.int .u8 3) := fun o1 o2 => ((((Keeps.refl (fun _ => False) w).alloc o1).alloc o2).cell (p := ⟨b, off, none⟩) hb (fun h => h)).trans hc
  go_enter Tryz.func80, Tryz.ntmps80
  go_wp2_with fail
  refine wp_scope_once 0 (by rfl) ?_
  go_upto_region 7 with fail
  obtain ⟨w1, hw1⟩ : ∃ w1, (w.alloc (.cells #[.int .i64 0, .int .i64 0, .slice none 0 0, .int .i64 0] 27)).alloc (.cells #[.int .i64 3, .int .i64 0, .slice none 0 0, .int .i64 0] 27) = w1 := ⟨_, rfl⟩
  have hk1 : Keeps (fun _ => False) w w1 := by rw [← hw1]; exact ((Keeps.refl _ w).alloc _).alloc _
  have hg0 : w1.heap[w.heap.size]? = some (.cells #[.int .i64 0, .int .i64 0, .slice none 0 0, .int .i64 0] 27 (0, 0)) := by rw [← hw1]; exact (heap2 w _ _).1
  have hg1 : w1.heap[w.heap.size + 1]? = some (.cells #[.int .i64 3, .int .i64 0, .slice none 0 0, .int .i64 0] 27 (0, 0)) := by rw [← hw1]; exact (heap2 w _ _).2
  rw [hw1]
  clear hw1
  have d0 := cells_at hg1 0
  have d1 := cells_at hg1 1
  have d2 := cells_at hg1 2
  have d3 := cells_at hg1 3
  have e0 := cells_at hg0 0
  have e1 := cells_at hg0 1
  have e2 := cells_at hg0 2
  have e3 := cells_at hg0 3
  have f0 := two_frozen hg0 0
  have f1 := two_frozen hg0 1
  have f2 := two_frozen hg0 2
  have f3 := two_frozen hg0 3
  have G0 := Lib.hid hg0
  have G1 := Lib.hid hg1
  clear hg0 hg1
  go_wp2_with fail
  apply wp_goto
  refine ⟨rfl, ?_⟩
  go_wp2_with fail
  rw [jump_ret]
  exact bodyPost_ret (results_hdr rfl _ _ _ _ _ _ _ _ _ rfl (cells_four G0.out)) rfl (parsed_bad (n := 4) HE.out (by decide) rfl (keeps_four hk1 (Nat.le_refl _) _ _ _ _))
set_option maxRecDepth 100000 in
set_option maxHeartbeats 4000000 in
theorem parse_c4 (b off n cap : Nat) (bs : List Int) (hE : parE bs = 4) (hx : bt bs 0 = 4) (hn : 1 ≤ n ∧ n < 2) (w : World) (hb : b < w.heap.size) (hc : w.cell? ⟨b, off, none⟩ = some (.int .u8 4)) :
    Calls Tryz.prog 80 #[.slice (some ⟨b, off, none⟩) n cap] w (Parsed w (parH bs) (parN bs) (parE bs)) := by
  have HE := Lib.hid hE
  have HX := Lib.hid hx
  clear hE hx
  obtain ⟨hn, hn9⟩ := hn
  have hn2 : (n : Int) < 2 := by omega
  have hn1 : ¬ (n : Int) < 1 := by omega
  have hn0 : (0 : Int) < (n : Int) := by omega
  have hd1 : decide ((n : Int) < 1) = false := decide_eq_false hn1
  have cA : ∀ o1 o2, ((w.alloc o1).alloc o2).cell? ⟨b, off, none⟩ = some (.int .u8 4) := fun o1 o2 => ((((Keeps.refl (fun _ => False) w).alloc o1).alloc o2).cell (p := ⟨b, off, none⟩) hb (fun h => h)).trans hc
  go_enter Tryz.func80, Tryz.ntmps80
  go_wp2_with fail
  refine wp_scope_once 0 (by rfl) ?_
  go_upto_region 7 with fail
  obtain ⟨w1, hw1⟩ : ∃ w1, (w.alloc (.cells #[.int .i64 0, .int .i64 0, .slice none 0 0, .int .i64 0] 27)).alloc (.cells #[.int .i64 4, .int .i64 0, .slice none 0 0, .int .i64 0] 27) = w1 := ⟨_, rfl⟩
  have hk1 : Keeps (fun _ => False) w w1 := by rw [← hw1]; exact ((Keeps.refl _ w).alloc _).alloc _
  have hg0 : w1.heap[w.heap.size]? = some (.cells #[.int .i64 0, .int .i64 0, .slice none 0 0, .int .i64 0] 27 (0, 0)) := by rw [← hw1]; exact (heap2 w _ _).1
  have hg1 : w1.heap[w.heap.size + 1]? = some (.cells #[.int .i64 4, .int .i64 0, .slice none 0 0, .int .i64 0] 27 (0, 0)) := by rw [← hw1]; exact (heap2 w _ _).2
  rw [hw1]
  clear hw1
  have d0 := cells_at hg1 0
  have d1 := cells_at hg1 1
  have d2 := cells_at hg1 2
  have d3 := cells_at hg1 3
  have e0 := cells_at hg0 0
  have e1 := cells_at hg0 1
  have e2 := cells_at hg0 2
  have e3 := cells_at hg0 3
  have f0 := two_frozen hg0 0
  have f1 := two_frozen hg0 1
  have f2 := two_frozen hg0 2
  have f3 := two_frozen hg0 3
  have G0 := Lib.hid hg0
  have G1 := Lib.hid hg1
  clear hg0 hg1
  go_wp2_with fail
  apply wp_goto
  refine ⟨rfl, ?_⟩
  go_wp2_with fail
  rw [jump_ret]
  exact bodyPost_ret (results_hdr rfl _ _ _ _ _ _ _ _ _ rfl (cells_four G0.out)) rfl (parsed_bad (n := 4) HE.out (by decide) rfl (keeps_four hk1 (Nat.le_refl _) _ _ _ _))
set_option maxRecDepth 100000 in
set_option maxHeartbeats 4000000 in
theorem parse_c5 (b off n cap : Nat) (bs : List Int) (hE : parE bs = 4) (hx : bt bs 0 = 5) (hn : 1 ≤ n ∧ n < 2) (w : World) (hb : b < w.heap.size) (hc : w.cell? ⟨b, off, none⟩ = some (.int .u8 5)) :
    Calls Tryz.prog 80 #[.slice (some ⟨b, off, none⟩) n cap] w (Parsed w (parH bs) (parN bs) (parE bs)) := by
  have HE := Lib.hid hE
  have HX := Lib.hid hx
  clear hE hx
  obtain ⟨hn, hn9⟩ := hn
  have hn2 : (n : Int) < 2 := by omega
  have hn1 : ¬ (n : Int) < 1 := by omega
  have hn0 : (0 : Int) < (n : Int) := by omega
  have hd1 : decide ((n : Int) < 1) = false := decide_eq_false hn1
  have cA : ∀ o1 o2, ((w.alloc o1).alloc o2).cell? ⟨b, off, none⟩ = some (.int .u8 5) := fun o1 o2 => ((((Keeps.refl (fun _ => False) w).alloc o1).alloc o2).cell (p := ⟨b, off, none⟩) hb (fun h => h)).trans hc
  go_enter Tryz.func80, Tryz.ntmps80
  go_wp2_with fail
  refine wp_scope_once 0 (by rfl) ?_
  go_upto_region 7 with fail
  obtain ⟨w1, hw1⟩ : ∃ w1, (w.alloc (.cells #[.int .i64 0, .int .i64 0, .slice none 0 0, .int .i64 0] 27)).alloc (.cells #[.int .i64 5, .int .i64 0, .slice none 0 0, .int .i64 0] 27) = w1 := ⟨_, rfl⟩
  have hk1 : Keeps (fun _ => False) w w1 := by rw [← hw1]; exact ((Keeps.refl _ w).alloc _).alloc _
  have hg0 : w1.heap[w.heap.size]? = some (.cells #[.int .i64 0, .int .i64 0, .slice none 0 0, .int .i64 0] 27 (0, 0)) := by rw [← hw1]; exact (heap2 w _ _).1
  have hg1 : w1.heap[w.heap.size + 1]? = some (.cells #[.int .i64 5, .int .i64 0, .slice none 0 0, .int .i64 0] 27 (0, 0)) := by rw [← hw1]; exact (heap2 w _ _).2
  rw [hw1]
  clear hw1
  have d0 := cells_at hg1 0
  have d1 := cells_at hg1 1
  have d2 := cells_at hg1 2
  have d3 := cells_at hg1 3
  have e0 := cells_at hg0 0
  have e1 := cells_at hg0 1
  have e2 := cells_at hg0 2
  have e3 := cells_at hg0 3
  have f0 := two_frozen hg0 0
  have f1 := two_frozen hg0 1
  have f2 := two_frozen hg0 2
  have f3 := two_frozen hg0 3
  have G0 := Lib.hid hg0
  have G1 := Lib.hid hg1
  clear hg0 hg1
  go_wp2_with fail
  apply wp_goto
  refine ⟨rfl, ?_⟩
  go_wp2_with fail
  rw [jump_ret]
  exact bodyPost_ret (results_hdr rfl _ _ _ _ _ _ _ _ _ rfl (cells_four G0.out)) rfl (parsed_bad (n := 4) HE.out (by decide) rfl (keeps_four hk1 (Nat.le_refl _) _ _ _ _))
set_option maxRecDepth 100000 in
set_option maxHeartbeats 4000000 in
theorem parse_l3 (b off n cap : Nat) (bs : List Int) (y : Int) (hyb : IsB y) (hy : bt bs 1 = y) (hlo : y < 3) (hE : parE bs = 6) (hx : bt bs 0 = 3) (hn : 2 ≤ n) (w : World) (hb : b < w.heap.size) (hc : w.cell? ⟨b, off, none⟩ = some (.int .u8 3)) (hc1 : w.cell? ⟨b, off + 1, none⟩ = some (.int .u8 y)) :
    Calls Tryz.prog 80 #[.slice (some ⟨b, off, none⟩) n cap] w (Parsed w (parH bs) (parN bs) (parE bs)) := by
  have HE := Lib.hid hE
  have HX := Lib.hid hx
  clear hE hx
  have HY := Lib.hid hy
  obtain ⟨hy0, hy1⟩ := hyb
  have hwy : IntKind.i64.wrap y = y := by rw [IntKind.wrap_i64]; omega
  clear hy
  have hdl : decide (y < 3) = true := decide_eq_true hlo
  have hn1 : ¬ (n : Int) < 1 := by omega
  have hn0 : (0 : Int) < (n : Int) := by omega
  have hd1 : decide ((n : Int) < 1) = false := decide_eq_false hn1
  have hn2 : ¬ (n : Int) < 2 := by omega
  have hnz : (1 : Int) < (n : Int) := by omega
  have hd2 : decide ((n : Int) < 2) = false := decide_eq_false hn2
  have cA : ∀ o1 o2, ((w.alloc o1).alloc o2).cell? ⟨b, off, none⟩ = some (.int .u8 3) := fun o1 o2 => ((((Keeps.refl (fun _ => False) w).alloc o1).alloc o2).cell (p := ⟨b, off, none⟩) hb (fun h => h)).trans hc
  go_enter Tryz.func80, Tryz.ntmps80
  go_wp2_with fail
  refine wp_scope_once 0 (by rfl) ?_
  go_upto_region 7 with fail
  obtain ⟨w1, hw1⟩ : ∃ w1, (w.alloc (.cells #[.int .i64 0, .int .i64 0, .slice none 0 0, .int .i64 0] 27)).alloc (.cells #[.int .i64 3, .int .i64 0, .slice none 0 0, .int .i64 0] 27) = w1 := ⟨_, rfl⟩
  have hk1 : Keeps (fun _ => False) w w1 := by rw [← hw1]; exact ((Keeps.refl _ w).alloc _).alloc _
  have hg0 : w1.heap[w.heap.size]? = some (.cells #[.int .i64 0, .int .i64 0, .slice none 0 0, .int .i64 0] 27 (0, 0)) := by rw [← hw1]; exact (heap2 w _ _).1
  have hg1 : w1.heap[w.heap.size + 1]? = some (.cells #[.int .i64 3, .int .i64 0, .slice none 0 0, .int .i64 0] 27 (0, 0)) := by rw [← hw1]; exact (heap2 w _ _).2
  rw [hw1]
  clear hw1
  have c1 := (hk1.cell (p := ⟨b, off + 1, none⟩) hb (fun h => h)).trans hc1
  have d0 := cells_at hg1 0
  have d1 := cells_at hg1 1
  have d2 := cells_at hg1 2
  have d3 := cells_at hg1 3
  have e0 := cells_at hg0 0
  have e1 := cells_at hg0 1
  have e2 := cells_at hg0 2
  have e3 := cells_at hg0 3
  have f0 := two_frozen hg0 0
  have f1 := two_frozen hg0 1
  have f2 := two_frozen hg0 2
  have f3 := two_frozen hg0 3
  have G0 := Lib.hid hg0
  have G1 := Lib.hid hg1
  clear hg0 hg1
  go_wp2_with fail
  apply wp_goto
  refine ⟨rfl, ?_⟩
  go_wp2_with fail
  rw [jump_ret]
  exact bodyPost_ret (results_hdr rfl _ _ _ _ _ _ _ _ _ rfl (cells_four G0.out)) rfl (parsed_bad (n := 6) HE.out (by decide) rfl (keeps_four hk1 (Nat.le_refl _) _ _ _ _))
set_option maxRecDepth 100000 in
set_option maxHeartbeats 4000000 in
theorem parse_g3 (b off n cap : Nat) (bs : List Int) (y : Int) (hyb : IsB y) (hy : bt bs 1 = y) (hlo : 64 < y) (hE : parE bs = 6) (hx : bt bs 0 = 3) (hn : 2 ≤ n) (w : World) (hb : b < w.heap.size) (hc : w.cell? ⟨b, off, none⟩ = some (.int .u8 3)) (hc1 : w.cell? ⟨b, off + 1, none⟩ = some (.int .u8 y)) :
    Calls Tryz.prog 80 #[.slice (some ⟨b, off, none⟩) n cap] w (Parsed w (parH bs) (parN bs) (parE bs)) := by
  have HE := Lib.hid hE
  have HX := Lib.hid hx
  clear hE hx
  have HY := Lib.hid hy
  obtain ⟨hy0, hy1⟩ := hyb
  have hwy : IntKind.i64.wrap y = y := by rw [IntKind.wrap_i64]; omega
  clear hy
  have hll : ¬ y < 3 := by omega
  have hdl : decide (y < 3) = false := decide_eq_false hll
  have hdg : decide (64 < y) = true := decide_eq_true hlo
  have hn1 : ¬ (n : Int) < 1 := by omega
  have hn0 : (0 : Int) < (n : Int) := by omega
  have hd1 : decide ((n : Int) < 1) = false := decide_eq_false hn1
  have hn2 : ¬ (n : Int) < 2 := by omega
  have hnz : (1 : Int) < (n : Int) := by omega
  have hd2 : decide ((n : Int) < 2) = false := decide_eq_false hn2
  have cA : ∀ o1 o2, ((w.alloc o1).alloc o2).cell? ⟨b, off, none⟩ = some (.int .u8 3) := fun o1 o2 => ((((Keeps.refl (fun _ => False) w).alloc o1).alloc o2).cell (p := ⟨b, off, none⟩) hb (fun h => h)).trans hc
  go_enter Tryz.func80, Tryz.ntmps80
  go_wp2_with fail
  refine wp_scope_once 0 (by rfl) ?_
  go_upto_region 7 with fail
  obtain ⟨w1, hw1⟩ : ∃ w1, (w.alloc (.cells #[.int .i64 0, .int .i64 0, .slice none 0 0, .int .i64 0] 27)).alloc (.cells #[.int .i64 3, .int .i64 0, .slice none 0 0, .int .i64 0] 27) = w1 := ⟨_, rfl⟩
  have hk1 : Keeps (fun _ => False) w w1 := by rw [← hw1]; exact ((Keeps.refl _ w).alloc _).alloc _
  have hg0 : w1.heap[w.heap.size]? = some (.cells #[.int .i64 0, .int .i64 0, .slice none 0 0, .int .i64 0] 27 (0, 0)) := by rw [← hw1]; exact (heap2 w _ _).1
  have hg1 : w1.heap[w.heap.size + 1]? = some (.cells #[.int .i64 3, .int .i64 0, .slice none 0 0, .int .i64 0] 27 (0, 0)) := by rw [← hw1]; exact (heap2 w _ _).2
  rw [hw1]
  clear hw1
  have c1 := (hk1.cell (p := ⟨b, off + 1, none⟩) hb (fun h => h)).trans hc1
  have d0 := cells_at hg1 0
  have d1 := cells_at hg1 1
  have d2 := cells_at hg1 2
  have d3 := cells_at hg1 3
  have e0 := cells_at hg0 0
  have e1 := cells_at hg0 1
  have e2 := cells_at hg0 2
  have e3 := cells_at hg0 3
  have f0 := two_frozen hg0 0
  have f1 := two_frozen hg0 1
  have f2 := two_frozen hg0 2
  have f3 := two_frozen hg0 3
  have G0 := Lib.hid hg0
  have G1 := Lib.hid hg1
  clear hg0 hg1
  go_wp2_with fail
  apply wp_goto
  refine ⟨rfl, ?_⟩
  go_wp2_with fail
  rw [jump_ret]
  exact bodyPost_ret (results_hdr rfl _ _ _ _ _ _ _ _ _ rfl (cells_four G0.out)) rfl (parsed_bad (n := 6) HE.out (by decide) rfl (keeps_four hk1 (Nat.le_refl _) _ _ _ _))
set_option maxRecDepth 100000 in
set_option maxHeartbeats 4000000 in
theorem parse_l4 (b off n cap : Nat) (bs : List Int) (y : Int) (hyb : IsB y) (hy : bt bs 1 = y) (hlo : y < 1) (hE : parE bs = 6) (hx : bt bs 0 = 4) (hn : 2 ≤ n) (w : World) (hb : b < w.heap.size) (hc : w.cell? ⟨b, off, none⟩ = some (.int .u8 4)) (hc1 : w.cell? ⟨b, off + 1, none⟩ = some (.int .u8 y)) :
    Calls Tryz.prog 80 #[.slice (some ⟨b, off, none⟩) n cap] w (Parsed w (parH bs) (parN bs) (parE bs)) := by
  have HE := Lib.hid hE
  have HX := Lib.hid hx
  clear hE hx
  have HY := Lib.hid hy
  obtain ⟨hy0, hy1⟩ := hyb
  have hwy : IntKind.i64.wrap y = y := by rw [IntKind.wrap_i64]; omega
  clear hy
  have hdl : decide (y < 1) = true := decide_eq_true hlo
  have hn1 : ¬ (n : Int) < 1 := by omega
  have hn0 : (0 : Int) < (n : Int) := by omega
  have hd1 : decide ((n : Int) < 1) = false := decide_eq_false hn1
  have hn2 : ¬ (n : Int) < 2 := by omega
  have hnz : (1 : Int) < (n : Int) := by omega
  have hd2 : decide ((n : Int) < 2) = false := decide_eq_false hn2
  have cA : ∀ o1 o2, ((w.alloc o1).alloc o2).cell? ⟨b, off, none⟩ = some (.int .u8 4) := fun o1 o2 => ((((Keeps.refl (fun _ => False) w).alloc o1).alloc o2).cell (p := ⟨b, off, none⟩) hb (fun h => h)).trans hc
  go_enter Tryz.func80, Tryz.ntmps80
  go_wp2_with fail
  refine wp_scope_once 0 (by rfl) ?_
  go_upto_region 7 with fail
  obtain ⟨w1, hw1⟩ : ∃ w1, (w.alloc (.cells #[.int .i64 0, .int .i64 0, .slice none 0 0, .int .i64 0] 27)).alloc (.cells #[.int .i64 4, .int .i64 0, .slice none 0 0, .int .i64 0] 27) = w1 := ⟨_, rfl⟩
  have hk1 : Keeps (fun _ => False) w w1 := by rw [← hw1]; exact ((Keeps.refl _ w).alloc _).alloc _
  have hg0 : w1.heap[w.heap.size]? = some (.cells #[.int .i64 0, .int .i64 0, .slice none 0 0, .int .i64 0] 27 (0, 0)) := by rw [← hw1]; exact (heap2 w _ _).1
  have hg1 : w1.heap[w.heap.size + 1]? = some (.cells #[.int .i64 4, .int .i64 0, .slice none 0 0, .int .i64 0] 27 (0, 0)) := by rw [← hw1]; exact (heap2 w _ _).2
  rw [hw1]
  clear hw1
  have c1 := (hk1.cell (p := ⟨b, off + 1, none⟩) hb (fun h => h)).trans hc1
  have d0 := cells_at hg1 0
  have d1 := cells_at hg1 1
  have d2 := cells_at hg1 2
  have d3 := cells_at hg1 3
  have e0 := cells_at hg0 0
  have e1 := cells_at hg0 1
  have e2 := cells_at hg0 2
  have e3 := cells_at hg0 3
  have f0 := two_frozen hg0 0
  have f1 := two_frozen hg0 1
  have f2 := two_frozen hg0 2
  have f3 := two_frozen hg0 3
  have G0 := Lib.hid hg0
  have G1 := Lib.hid hg1
  clear hg0 hg1
  go_wp2_with fail
  apply wp_goto
  refine ⟨rfl, ?_⟩
  go_wp2_with fail
  rw [jump_ret]
  exact bodyPost_ret (results_hdr rfl _ _ _ _ _ _ _ _ _ rfl (cells_four G0.out)) rfl (parsed_bad (n := 6) HE.out (by decide) rfl (keeps_four hk1 (Nat.le_refl _) _ _ _ _))
set_option maxRecDepth 100000 in
set_option maxHeartbeats 4000000 in
theorem parse_g4 (b off n cap : Nat) (bs : List Int) (y : Int) (hyb : IsB y) (hy : bt bs 1 = y) (hlo : 64 < y) (hE : parE bs = 6) (hx : bt bs 0 = 4) (hn : 2 ≤ n) (w : World) (hb : b < w.heap.size) (hc : w.cell? ⟨b, off, none⟩ = some (.int .u8 4)) (hc1 : w.cell? ⟨b, off + 1, none⟩ = some (.int .u8 y)) :
    Calls Tryz.prog 80 #[.slice (some ⟨b, off, none⟩) n cap] w (Parsed w (parH bs) (parN bs) (parE bs)) := by
  have HE := Lib.hid hE
  have HX := Lib.hid hx
  clear hE hx
  have HY := Lib.hid hy
  obtain ⟨hy0, hy1⟩ := hyb
  have hwy : IntKind.i64.wrap y = y := by rw [IntKind.wrap_i64]; omega
  clear hy
  have hll : ¬ y < 1 := by omega
  have hdl : decide (y < 1) = false := decide_eq_false hll
  have hdg : decide (64 < y) = true := decide_eq_true hlo
  have hn1 : ¬ (n : Int) < 1 := by omega
  have hn0 : (0 : Int) < (n : Int) := by omega
  have hd1 : decide ((n : Int) < 1) = false := decide_eq_false hn1
  have hn2 : ¬ (n : Int) < 2 := by omega
  have hnz : (1 : Int) < (n : Int) := by omega
  have hd2 : decide ((n : Int) < 2) = false := decide_eq_false hn2
  have cA : ∀ o1 o2, ((w.alloc o1).alloc o2).cell? ⟨b, off, none⟩ = some (.int .u8 4) := fun o1 o2 => ((((Keeps.refl (fun _ => False) w).alloc o1).alloc o2).cell (p := ⟨b, off, none⟩) hb (fun h => h)).trans hc
  go_enter Tryz.func80, Tryz.ntmps80
  go_wp2_with fail
  refine wp_scope_once 0 (by rfl) ?_
  go_upto_region 7 with fail
  obtain ⟨w1, hw1⟩ : ∃ w1, (w.alloc (.cells #[.int .i64 0, .int .i64 0, .slice none 0 0, .int .i64 0] 27)).alloc (.cells #[.int .i64 4, .int .i64 0, .slice none 0 0, .int .i64 0] 27) = w1 := ⟨_, rfl⟩
  have hk1 : Keeps (fun _ => False) w w1 := by rw [← hw1]; exact ((Keeps.refl _ w).alloc _).alloc _
  have hg0 : w1.heap[w.heap.size]? = some (.cells #[.int .i64 0, .int .i64 0, .slice none 0 0, .int .i64 0] 27 (0, 0)) := by rw [← hw1]; exact (heap2 w _ _).1
  have hg1 : w1.heap[w.heap.size + 1]? = some (.cells #[.int .i64 4, .int .i64 0, .slice none 0 0, .int .i64 0] 27 (0, 0)) := by rw [← hw1]; exact (heap2 w _ _).2
  rw [hw1]
  clear hw1
  have c1 := (hk1.cell (p := ⟨b, off + 1, none⟩) hb (fun h => h)).trans hc1
  have d0 := cells_at hg1 0
  have d1 := cells_at hg1 1
  have d2 := cells_at hg1 2
  have d3 := cells_at hg1 3
  have e0 := cells_at hg0 0
  have e1 := cells_at hg0 1
  have e2 := cells_at hg0 2
  have e3 := cells_at hg0 3
  have f0 := two_frozen hg0 0
  have f1 := two_frozen hg0 1
  have f2 := two_frozen hg0 2
  have f3 := two_frozen hg0 3
  have G0 := Lib.hid hg0
  have G1 := Lib.hid hg1
  clear hg0 hg1
  go_wp2_with fail
  apply wp_goto
  refine ⟨rfl, ?_⟩
  go_wp2_with fail
  rw [jump_ret]
  exact bodyPost_ret (results_hdr rfl _ _ _ _ _ _ _ _ _ rfl (cells_four G0.out)) rfl (parsed_bad (n := 6) HE.out (by decide) rfl (keeps_four hk1 (Nat.le_refl _) _ _ _ _))
set_option maxRecDepth 100000 in
set_option maxHeartbeats 4000000 in
theorem parse_l5 (b off n cap : Nat) (bs : List Int) (y : Int) (hyb : IsB y) (hy : bt bs 1 = y) (hlo : y < 1) (hE : parE bs = 6) (hx : bt bs 0 = 5) (hn : 2 ≤ n) (w : World) (hb : b < w.heap.size) (hc : w.cell? ⟨b, off, none⟩ = some (.int .u8 5)) (hc1 : w.cell? ⟨b, off + 1, none⟩ = some (.int .u8 y)) :
    Calls Tryz.prog 80 #[.slice (some ⟨b, off, none⟩) n cap] w (Parsed w (parH bs) (parN bs) (parE bs)) := by
  have HE := Lib.hid hE
  have HX := Lib.hid hx
  clear hE hx
  have HY := Lib.hid hy
  obtain ⟨hy0, hy1⟩ := hyb
  have hwy : IntKind.i64.wrap y = y := by rw [IntKind.wrap_i64]; omega
  clear hy
  have hdl : decide (y < 1) = true := decide_eq_true hlo
  have hn1 : ¬ (n : Int) < 1 := by omega
  have hn0 : (0 : Int) < (n : Int) := by omega
  have hd1 : decide ((n : Int) < 1) = false := decide_eq_false hn1
  have hn2 : ¬ (n : Int) < 2 := by omega
  have hnz : (1 : Int) < (n : Int) := by omega
  have hd2 : decide ((n : Int) < 2) = false := decide_eq_false hn2
  have cA : ∀ o1 o2, ((w.alloc o1).alloc o2).cell? ⟨b, off, none⟩ = some (.int .u8 5) := fun o1 o2 => ((((Keeps.refl (fun _ => False) w).alloc o1).alloc o2).cell (p := ⟨b, off, none⟩) hb (fun h => h)).trans hc
  go_enter Tryz.func80, Tryz.ntmps80
  go_wp2_with fail
  refine wp_scope_once 0 (by rfl) ?_
  go_upto_region 7 with fail
  obtain ⟨w1, hw1⟩ : ∃ w1, (w.alloc (.cells #[.int .i64 0, .int .i64 0, .slice none 0 0, .int .i64 0] 27)).alloc (.cells #[.int .i64 5, .int .i64 0, .slice none 0 0, .int .i64 0] 27) = w1 := ⟨_, rfl⟩
  have hk1 : Keeps (fun _ => False) w w1 := by rw [← hw1]; exact ((Keeps.refl _ w).alloc _).alloc _
  have hg0 : w1.heap[w.heap.size]? = some (.cells #[.int .i64 0, .int .i64 0, .slice none 0 0, .int .i64 0] 27 (0, 0)) := by rw [← hw1]; exact (heap2 w _ _).1
  have hg1 : w1.heap[w.heap.size + 1]? = some (.cells #[.int .i64 5, .int .i64 0, .slice none 0 0, .int .i64 0] 27 (0, 0)) := by rw [← hw1]; exact (heap2 w _ _).2
  rw [hw1]
  clear hw1
  have c1 := (hk1.cell (p := ⟨b, off + 1, none⟩) hb (fun h => h)).trans hc1
  have d0 := cells_at hg1 0
  have d1 := cells_at hg1 1
  have d2 := cells_at hg1 2
  have d3 := cells_at hg1 3
  have e0 := cells_at hg0 0
  have e1 := cells_at hg0 1
  have e2 := cells_at hg0 2
  have e3 := cells_at hg0 3
  have f0 := two_frozen hg0 0
  have f1 := two_frozen hg0 1
  have f2 := two_frozen hg0 2
  have f3 := two_frozen hg0 3
  have G0 := Lib.hid hg0
  have G1 := Lib.hid hg1
  clear hg0 hg1
  go_wp2_with fail
  apply wp_goto
  refine ⟨rfl, ?_⟩
  go_wp2_with fail
  rw [jump_ret]
  exact bodyPost_ret (results_hdr rfl _ _ _ _ _ _ _ _ _ rfl (cells_four G0.out)) rfl (parsed_bad (n := 6) HE.out (by decide) rfl (keeps_four hk1 (Nat.le_refl _) _ _ _ _))
set_option maxRecDepth 100000 in
set_option maxHeartbeats 4000000 in
theorem parse_g5 (b off n cap : Nat) (bs : List Int) (y : Int) (hyb : IsB y) (hy : bt bs 1 = y) (hlo : 64 < y) (hE : parE bs = 6) (hx : bt bs 0 = 5) (hn : 2 ≤ n) (w : World) (hb : b < w.heap.size) (hc : w.cell? ⟨b, off, none⟩ = some (.int .u8 5)) (hc1 : w.cell? ⟨b, off + 1, none⟩ = some (.int .u8 y)) :
    Calls Tryz.prog 80 #[.slice (some ⟨b, off, none⟩) n cap] w (Parsed w (parH bs) (parN bs) (parE bs)) := by
  have HE := Lib.hid hE
  have HX := Lib.hid hx
  clear hE hx
  have HY := Lib.hid hy
  obtain ⟨hy0, hy1⟩ := hyb
  have hwy : IntKind.i64.wrap y = y := by rw [IntKind.wrap_i64]; omega
  clear hy
  have hll : ¬ y < 1 := by omega
  have hdl : decide (y < 1) = false := decide_eq_false hll
  have hdg : decide (64 < y) = true := decide_eq_true hlo
  have hn1 : ¬ (n : Int) < 1 := by omega
  have hn0 : (0 : Int) < (n : Int) := by omega
  have hd1 : decide ((n : Int) < 1) = false := decide_eq_false hn1
  have hn2 : ¬ (n : Int) < 2 := by omega
  have hnz : (1 : Int) < (n : Int) := by omega
  have hd2 : decide ((n : Int) < 2) = false := decide_eq_false hn2
  have cA : ∀ o1 o2, ((w.alloc o1).alloc o2).cell? ⟨b, off, none⟩ = some (.int .u8 5) := fun o1 o2 => ((((Keeps.refl (fun _ => False) w).alloc o1).alloc o2).cell (p := ⟨b, off, none⟩) hb (fun h => h)).trans hc
  go_enter Tryz.func80, Tryz.ntmps80
  go_wp2_with fail
  refine wp_scope_once 0 (by rfl) ?_
  go_upto_region 7 with fail
  obtain ⟨w1, hw1⟩ : ∃ w1, (w.alloc (.cells #[.int .i64 0, .int .i64 0, .slice none 0 0, .int .i64 0] 27)).alloc (.cells #[.int .i64 5, .int .i64 0, .slice none 0 0, .int .i64 0] 27) = w1 := ⟨_, rfl⟩
  have hk1 : Keeps (fun _ => False) w w1 := by rw [← hw1]; exact ((Keeps.refl _ w).alloc _).alloc _
  have hg0 : w1.heap[w.heap.size]? = some (.cells #[.int .i64 0, .int .i64 0, .slice none 0 0, .int .i64 0] 27 (0, 0)) := by rw [← hw1]; exact (heap2 w _ _).1
  have hg1 : w1.heap[w.heap.size + 1]? = some (.cells #[.int .i64 5, .int .i64 0, .slice none 0 0, .int .i64 0] 27 (0, 0)) := by rw [← hw1]; exact (heap2 w _ _).2
  rw [hw1]
  clear hw1
  have c1 := (hk1.cell (p := ⟨b, off + 1, none⟩) hb (fun h => h)).trans hc1
  have d0 := cells_at hg1 0
  have d1 := cells_at hg1 1
  have d2 := cells_at hg1 2
  have d3 := cells_at hg1 3
  have e0 := cells_at hg0 0
  have e1 := cells_at hg0 1
  have e2 := cells_at hg0 2
  have e3 := cells_at hg0 3
  have f0 := two_frozen hg0 0
  have f1 := two_frozen hg0 1
  have f2 := two_frozen hg0 2
  have f3 := two_frozen hg0 3
  have G0 := Lib.hid hg0
  have G1 := Lib.hid hg1
  clear hg0 hg1
  go_wp2_with fail
  apply wp_goto
  refine ⟨rfl, ?_⟩
  go_wp2_with fail
  rw [jump_ret]
  exact bodyPost_ret (results_hdr rfl _ _ _ _ _ _ _ _ _ rfl (cells_four G0.out)) rfl (parsed_bad (n := 6) HE.out (by decide) rfl (keeps_four hk1 (Nat.le_refl _) _ _ _ _))
set_option maxRecDepth 100000 in
set_option maxHeartbeats 4000000 in
theorem parse_p3 (b off n cap : Nat) (bs : List Int) (y : Int) (hyb : IsB y) (hy : bt bs 1 = y) (hlo : 3 ≤ y) (hhi : y ≤ 64) (hE : parE bs = 0) (hx : bt bs 0 = 3) (hn : 2 ≤ n) (w : World) (hb : b < w.heap.size) (hc : w.cell? ⟨b, off, none⟩ = some (.int .u8 3)) (hc1 : w.cell? ⟨b, off + 1, none⟩ = some (.int .u8 y)) :
    Calls Tryz.prog 80 #[.slice (some ⟨b, off, none⟩) n cap] w (Parsed w (parH bs) (parN bs) (parE bs)) := by
  have HE := Lib.hid hE
  have HX := Lib.hid hx
  clear hE hx
  have HY := Lib.hid hy
  obtain ⟨hy0, hy1⟩ := hyb
  have hwy : IntKind.i64.wrap y = y := by rw [IntKind.wrap_i64]; omega
  clear hy
  have hll : ¬ y < 3 := by omega
  have hgg : ¬ 64 < y := by omega
  have hdl : decide (y < 3) = false := decide_eq_false hll
  have hdg : decide (64 < y) = false := decide_eq_false hgg
  have hn1 : ¬ (n : Int) < 1 := by omega
  have hn0 : (0 : Int) < (n : Int) := by omega
  have hd1 : decide ((n : Int) < 1) = false := decide_eq_false hn1
  have hn2 : ¬ (n : Int) < 2 := by omega
  have hnz : (1 : Int) < (n : Int) := by omega
  have hd2 : decide ((n : Int) < 2) = false := decide_eq_false hn2
  have cA : ∀ o1 o2, ((w.alloc o1).alloc o2).cell? ⟨b, off, none⟩ = some (.int .u8 3) := fun o1 o2 => ((((Keeps.refl (fun _ => False) w).alloc o1).alloc o2).cell (p := ⟨b, off, none⟩) hb (fun h => h)).trans hc
  go_enter Tryz.func80, Tryz.ntmps80
  go_wp2_with fail
  refine wp_scope_once 0 (by rfl) ?_
  go_upto_region 7 with fail
  obtain ⟨w1, hw1⟩ : ∃ w1, (w.alloc (.cells #[.int .i64 0, .int .i64 0, .slice none 0 0, .int .i64 0] 27)).alloc (.cells #[.int .i64 3, .int .i64 0, .slice none 0 0, .int .i64 0] 27) = w1 := ⟨_, rfl⟩
  have hk1 : Keeps (fun _ => False) w w1 := by rw [← hw1]; exact ((Keeps.refl _ w).alloc _).alloc _
  have hg0 : w1.heap[w.heap.size]? = some (.cells #[.int .i64 0, .int .i64 0, .slice none 0 0, .int .i64 0] 27 (0, 0)) := by rw [← hw1]; exact (heap2 w _ _).1
  have hg1 : w1.heap[w.heap.size + 1]? = some (.cells #[.int .i64 3, .int .i64 0, .slice none 0 0, .int .i64 0] 27 (0, 0)) := by rw [← hw1]; exact (heap2 w _ _).2
  rw [hw1]
  clear hw1
  have c1 := (hk1.cell (p := ⟨b, off + 1, none⟩) hb (fun h => h)).trans hc1
  have d0 := cells_at hg1 0
  have d1 := cells_at hg1 1
  have d2 := cells_at hg1 2
  have d3 := cells_at hg1 3
  have e0 := cells_at hg0 0
  have e1 := cells_at hg0 1
  have e2 := cells_at hg0 2
  have e3 := cells_at hg0 3
  have f0 := two_frozen hg0 0
  have f1 := two_frozen hg0 1
  have f2 := two_frozen hg0 2
  have f3 := two_frozen hg0 3
  have G0 := Lib.hid hg0
  have G1 := Lib.hid hg1
  have k1 := two_frozen hg1 1
  clear hg0 hg1
  go_wp2_with fail
  rw [jump_ret]
  have G0' := Lib.hid ((Below.heap_setCell w1 ⟨w.heap.size + 1, 1, none⟩ (.int .i64 y) w.heap.size (by show w.heap.size ≠ w.heap.size + 1; omega)).trans G0.out)
  refine bodyPost_ret (results_hdr rfl _ _ _ _ _ _ _ _ _ rfl (cells_four G0'.out)) rfl ?_
  refine ⟨⟨.agg #[.int .i64 3, .int .i64 y, .slice none 0 0, .int .i64 0], ?_, ?_, hdFresh_nil _ _ _ _ _ _⟩, keeps_four (hk1.setCell ⟨w.heap.size + 1, 1, none⟩ (fun h => by have : w.heap.size + 1 < w.heap.size := h; omega) _) (Nat.le_refl _) _ _ _ _⟩
  · rw [HE.out, show (parN bs : Int) = 2 by unfold parN; rw [if_neg (by rw [HE.out]; decide), HX.out, if_neg (by decide), if_pos rfl]; rfl]; rfl
  · rw [show parH bs = ⟨3, y, [], 0⟩ by unfold parH; rw [if_neg (by rw [HE.out]; decide), HX.out, if_pos rfl, HY.out, if_neg (by decide), if_neg (by decide)]]
    exact ⟨none, 0, rfl, .inl ⟨rfl, none, 0, rfl⟩, fun _ => ⟨rfl, rfl⟩⟩
set_option maxRecDepth 100000 in
set_option maxHeartbeats 4000000 in
theorem parse_t4 (b off n cap : Nat) (bs : List Int) (y : Int) (hyb : IsB y) (hy : bt bs 1 = y) (hlo : 1 ≤ y) (hhi : y ≤ 64) (hsh : (n : Int) < 2 + y) (hE : parE bs = 4) (hx : bt bs 0 = 4) (hn : 2 ≤ n) (w : World) (hb : b < w.heap.size) (hc : w.cell? ⟨b, off, none⟩ = some (.int .u8 4)) (hc1 : w.cell? ⟨b, off + 1, none⟩ = some (.int .u8 y)) :
    Calls Tryz.prog 80 #[.slice (some ⟨b, off, none⟩) n cap] w (Parsed w (parH bs) (parN bs) (parE bs)) := by
  have HE := Lib.hid hE
  have HX := Lib.hid hx
  clear hE hx
  have HY := Lib.hid hy
  obtain ⟨hy0, hy1⟩ := hyb
  have hwy : IntKind.i64.wrap y = y := by rw [IntKind.wrap_i64]; omega
  clear hy
  have hll : ¬ y < 1 := by omega
  have hgg : ¬ 64 < y := by omega
  have hdl : decide (y < 1) = false := decide_eq_false hll
  have hdg : decide (64 < y) = false := decide_eq_false hgg
  have hds : decide ((n : Int) < 2 + y) = true := decide_eq_true hsh
  have hn1 : ¬ (n : Int) < 1 := by omega
  have hn0 : (0 : Int) < (n : Int) := by omega
  have hd1 : decide ((n : Int) < 1) = false := decide_eq_false hn1
  have hn2 : ¬ (n : Int) < 2 := by omega
  have hnz : (1 : Int) < (n : Int) := by omega
  have hd2 : decide ((n : Int) < 2) = false := decide_eq_false hn2
  have cA : ∀ o1 o2, ((w.alloc o1).alloc o2).cell? ⟨b, off, none⟩ = some (.int .u8 4) := fun o1 o2 => ((((Keeps.refl (fun _ => False) w).alloc o1).alloc o2).cell (p := ⟨b, off, none⟩) hb (fun h => h)).trans hc
  go_enter Tryz.func80, Tryz.ntmps80
  go_wp2_with fail
  refine wp_scope_once 0 (by rfl) ?_
  go_upto_region 7 with fail
  obtain ⟨w1, hw1⟩ : ∃ w1, (w.alloc (.cells #[.int .i64 0, .int .i64 0, .slice none 0 0, .int .i64 0] 27)).alloc (.cells #[.int .i64 4, .int .i64 0, .slice none 0 0, .int .i64 0] 27) = w1 := ⟨_, rfl⟩
  have hk1 : Keeps (fun _ => False) w w1 := by rw [← hw1]; exact ((Keeps.refl _ w).alloc _).alloc _
  have hg0 : w1.heap[w.heap.size]? = some (.cells #[.int .i64 0, .int .i64 0, .slice none 0 0, .int .i64 0] 27 (0, 0)) := by rw [← hw1]; exact (heap2 w _ _).1
  have hg1 : w1.heap[w.heap.size + 1]? = some (.cells #[.int .i64 4, .int .i64 0, .slice none 0 0, .int .i64 0] 27 (0, 0)) := by rw [← hw1]; exact (heap2 w _ _).2
  rw [hw1]
  clear hw1
  have c1 := (hk1.cell (p := ⟨b, off + 1, none⟩) hb (fun h => h)).trans hc1
  have d0 := cells_at hg1 0
  have d1 := cells_at hg1 1
  have d2 := cells_at hg1 2
  have d3 := cells_at hg1 3
  have e0 := cells_at hg0 0
  have e1 := cells_at hg0 1
  have e2 := cells_at hg0 2
  have e3 := cells_at hg0 3
  have f0 := two_frozen hg0 0
  have f1 := two_frozen hg0 1
  have f2 := two_frozen hg0 2
  have f3 := two_frozen hg0 3
  have G0 := Lib.hid hg0
  have G1 := Lib.hid hg1
  clear hg0 hg1
  go_wp2_with fail
  apply wp_goto
  refine ⟨rfl, ?_⟩
  go_wp2_with fail
  rw [jump_ret]
  exact bodyPost_ret (results_hdr rfl _ _ _ _ _ _ _ _ _ rfl (cells_four G0.out)) rfl (parsed_bad (n := 4) HE.out (by decide) rfl (keeps_four hk1 (Nat.le_refl _) _ _ _ _))
set_option maxRecDepth 100000 in
set_option maxHeartbeats 4000000 in
theorem parse_t5 (b off n cap : Nat) (bs : List Int) (y : Int) (hyb : IsB y) (hy : bt bs 1 = y) (hlo : 1 ≤ y) (hhi : y ≤ 64) (hsh : (n : Int) < 2 + y) (hE : parE bs = 4) (hx : bt bs 0 = 5) (hn : 2 ≤ n) (w : World) (hb : b < w.heap.size) (hc : w.cell? ⟨b, off, none⟩ = some (.int .u8 5)) (hc1 : w.cell? ⟨b, off + 1, none⟩ = some (.int .u8 y)) :
    Calls Tryz.prog 80 #[.slice (some ⟨b, off, none⟩) n cap] w (Parsed w (parH bs) (parN bs) (parE bs)) := by
  have HE := Lib.hid hE
  have HX := Lib.hid hx
  clear hE hx
  have HY := Lib.hid hy
  obtain ⟨hy0, hy1⟩ := hyb
  have hwy : IntKind.i64.wrap y = y := by rw [IntKind.wrap_i64]; omega
  clear hy
  have hll : ¬ y < 1 := by omega
  have hgg : ¬ 64 < y := by omega
  have hdl : decide (y < 1) = false := decide_eq_false hll
  have hdg : decide (64 < y) = false := decide_eq_false hgg
  have hds : decide ((n : Int) < 2 + y) = true := decide_eq_true hsh
  have hn1 : ¬ (n : Int) < 1 := by omega
  have hn0 : (0 : Int) < (n : Int) := by omega
  have hd1 : decide ((n : Int) < 1) = false := decide_eq_false hn1
  have hn2 : ¬ (n : Int) < 2 := by omega
  have hnz : (1 : Int) < (n : Int) := by omega
  have hd2 : decide ((n : Int) < 2) = false := decide_eq_false hn2
  have cA : ∀ o1 o2, ((w.alloc o1).alloc o2).cell? ⟨b, off, none⟩ = some (.int .u8 5) := fun o1 o2 => ((((Keeps.refl (fun _ => False) w).alloc o1).alloc o2).cell (p := ⟨b, off, none⟩) hb (fun h => h)).trans hc
  go_enter Tryz.func80, Tryz.ntmps80
  go_wp2_with fail
  refine wp_scope_once 0 (by rfl) ?_
  go_upto_region 7 with fail
  obtain ⟨w1, hw1⟩ : ∃ w1, (w.alloc (.cells #[.int .i64 0, .int .i64 0, .slice none 0 0, .int .i64 0] 27)).alloc (.cells #[.int .i64 5, .int .i64 0, .slice none 0 0, .int .i64 0] 27) = w1 := ⟨_, rfl⟩
  have hk1 : Keeps (fun _ => False) w w1 := by rw [← hw1]; exact ((Keeps.refl _ w).alloc _).alloc _
  have hg0 : w1.heap[w.heap.size]? = some (.cells #[.int .i64 0, .int .i64 0, .slice none 0 0, .int .i64 0] 27 (0, 0)) := by rw [← hw1]; exact (heap2 w _ _).1
  have hg1 : w1.heap[w.heap.size + 1]? = some (.cells #[.int .i64 5, .int .i64 0, .slice none 0 0, .int .i64 0] 27 (0, 0)) := by rw [← hw1]; exact (heap2 w _ _).2
  rw [hw1]
  clear hw1
  have c1 := (hk1.cell (p := ⟨b, off + 1, none⟩) hb (fun h => h)).trans hc1
  have d0 := cells_at hg1 0
  have d1 := cells_at hg1 1
  have d2 := cells_at hg1 2
  have d3 := cells_at hg1 3
  have e0 := cells_at hg0 0
  have e1 := cells_at hg0 1
  have e2 := cells_at hg0 2
  have e3 := cells_at hg0 3
  have f0 := two_frozen hg0 0
  have f1 := two_frozen hg0 1
  have f2 := two_frozen hg0 2
  have f3 := two_frozen hg0 3
  have G0 := Lib.hid hg0
  have G1 := Lib.hid hg1
  clear hg0 hg1
  go_wp2_with fail
  apply wp_goto
  refine ⟨rfl, ?_⟩
  go_wp2_with fail
  rw [jump_ret]
  exact bodyPost_ret (results_hdr rfl _ _ _ _ _ _ _ _ _ rfl (cells_four G0.out)) rfl (parsed_bad (n := 4) HE.out (by decide) rfl (keeps_four hk1 (Nat.le_refl _) _ _ _ _))
theorem parse_calls (v : Value) (bs : List Int) (w : World) (hv : byAt w v bs) : Calls Tryz.prog 80 #[v] w (Parsed w (parH bs) (parN bs) (parE bs)) := by
  obtain ⟨hB, hv⟩ := hv
  rcases hv with ⟨rfl, ao, cap, rfl⟩ | ⟨b, off, cap, rfl, hcap, hb, hc⟩
  · exact parse_empty ao cap w
  by_cases hl1 : bs.length < 1
  · rw [List.eq_nil_of_length_eq_zero (show bs.length = 0 by omega)]
    exact parse_empty _ cap w
  have c0 := hc 0 (by omega)
  rw [Nat.add_zero] at c0
  have hx := bt_ok hB 0
  by_cases h15 : bt bs 0 < 1 ∨ 5 < bt bs 0
  · exact parse_op b off _ cap bs (bt bs 0) hx h15 (by unfold parE; rw [if_neg hl1, if_pos h15]) rfl (by omega) w hb c0
  by_cases h2 : bt bs 0 < 3
  · have hE : parE bs = 0 := by unfold parE; rw [if_neg hl1, if_neg h15, if_pos h2]
    rcases (show bt bs 0 = 1 ∨ bt bs 0 = 2 by omega) with h | h
    · rw [h] at c0; exact parse_p1 b off _ cap bs hE h (by omega) w hb c0
    · rw [h] at c0; exact parse_p2 b off _ cap bs hE h (by omega) w hb c0
  by_cases hl2 : bs.length < 2
  · have hE : parE bs = 4 := by unfold parE; rw [if_neg hl1, if_neg h15, if_neg h2, if_pos hl2]
    rcases (show bt bs 0 = 3 ∨ bt bs 0 = 4 ∨ bt bs 0 = 5 by omega) with h | h | h
    · rw [h] at c0; exact parse_c3 b off _ cap bs hE h (by omega) w hb c0
    · rw [h] at c0; exact parse_c4 b off _ cap bs hE h (by omega) w hb c0
    · rw [h] at c0; exact parse_c5 b off _ cap bs hE h (by omega) w hb c0
  have c1 := hc 1 (by omega)
  have hy := bt_ok hB 1
  by_cases h3 : bt bs 0 = 3
  · rw [h3] at c0
    by_cases hk1 : bt bs 1 < 3
    · exact parse_l3 b off _ cap bs _ hy rfl hk1 (by unfold parE; rw [if_neg hl1, if_neg h15, if_neg h2, if_neg hl2, if_pos h3, if_pos (.inl hk1)]) h3 (by omega) w hb c0 c1
    by_cases hk2 : 64 < bt bs 1
    · exact parse_g3 b off _ cap bs _ hy rfl hk2 (by unfold parE; rw [if_neg hl1, if_neg h15, if_neg h2, if_neg hl2, if_pos h3, if_pos (.inr hk2)]) h3 (by omega) w hb c0 c1
    exact parse_p3 b off _ cap bs _ hy rfl (by omega) (by omega) (by unfold parE; rw [if_neg hl1, if_neg h15, if_neg h2, if_neg hl2, if_pos h3, if_neg (by omega)]) h3 (by omega) w hb c0 c1
  have h45 : bt bs 0 = 4 ∨ bt bs 0 = 5 := by omega
  by_cases hk1 : bt bs 1 < 1
  · have hE : parE bs = 6 := by unfold parE; rw [if_neg hl1, if_neg h15, if_neg h2, if_neg hl2, if_neg h3, if_pos (.inl hk1)]
    rcases h45 with h | h
    · rw [h] at c0; exact parse_l4 b off _ cap bs _ hy rfl hk1 hE h (by omega) w hb c0 c1
    · rw [h] at c0; exact parse_l5 b off _ cap bs _ hy rfl hk1 hE h (by omega) w hb c0 c1
  by_cases hk2 : 64 < bt bs 1
  · have hE : parE bs = 6 := by unfold parE; rw [if_neg hl1, if_neg h15, if_neg h2, if_neg hl2, if_neg h3, if_pos (.inr hk2)]
    rcases h45 with h | h
    · rw [h] at c0; exact parse_g4 b off _ cap bs _ hy rfl hk2 hE h (by omega) w hb c0 c1
    · rw [h] at c0; exact parse_g5 b off _ cap bs _ hy rfl hk2 hE h (by omega) w hb c0 c1
  by_cases hsh : bs.length < 2 + parK bs
  · have hE : parE bs = 4 := by unfold parE; rw [if_neg hl1, if_neg h15, if_neg h2, if_neg hl2, if_neg h3, if_neg (by omega), if_pos hsh]
    have hs' : (bs.length : Int) < 2 + bt bs 1 := by unfold parK at hsh; omega
    rcases h45 with h | h
    · rw [h] at c0; exact parse_t4 b off _ cap bs _ hy rfl (by omega) (by omega) hs' hE h (by omega) w hb c0 c1
    · rw [h] at c0; exact parse_t5 b off _ cap bs _ hy rfl (by omega) (by omega) hs' hE h (by omega) w hb c0 c1
  rcases h45 with h | h
  · exact parse_s4 b off _ cap bs hB rfl hcap ⟨by omega, by omega⟩ (by omega) h w hb hc
  · exact parse_s5 b off _ cap bs hB rfl hcap ⟨by omega, by omega⟩ (by omega) h w hb hc
end Go.Proofs.YtmoajobnhiopiaaGreatDoor.sv
set_option linter.unusedSimpArgs false
set_option linter.unusedVariables false
namespace Go.Proofs.YtmoajobnhiopiaaGreatDoor.sv
open Go Go.RowKit Go.Shelf Go.Maps Go.Proofs.YtmoajobnhiopiaaGreatDoor.mk Go.Proofs.YtmoajobnhiopiaaGreatDoor.tp Go.Proofs.YtmoajobnhiopiaaGreatDoor.rg Go.Proofs.YtmoajobnhiopiaaGreatDoor.lm Go.Proofs.YtmoajobnhiopiaaGreatDoor.gm Go.Proofs.YtmoajobnhiopiaaGreatDoor.po
theorem parE_zero {bs : List Int} (hE : parE bs = 0) : 1 ≤ bs.length ∧ ((bt bs 0 = 1 ∨ bt bs 0 = 2) ∨ (bt bs 0 = 3 ∧ 2 ≤ bs.length ∧ 3 ≤ bt bs 1 ∧ bt bs 1 ≤ 64) ∨
    ((bt bs 0 = 4 ∧ 2 + parK bs ≤ bs.length ∨ bt bs 0 = 5 ∧ 4 + parK bs ≤ bs.length ∧ 1 ≤ ptsN bs ∧ ptsN bs ≤ 4096) ∧ (1 ≤ bt bs 1 ∧ bt bs 1 ≤ 64) ∧ (regsB bs (parK bs)).any wrongR = false)) := by
  unfold parE at hE
  by_cases h1 : bs.length < 1
  · rw [if_pos h1] at hE; omega
  rw [if_neg h1] at hE
  by_cases h2 : bt bs 0 < 1 ∨ 5 < bt bs 0
  · rw [if_pos h2] at hE; omega
  rw [if_neg h2] at hE
  refine ⟨by omega, ?_⟩
  by_cases h3 : bt bs 0 < 3
  · exact .inl (by omega)
  rw [if_neg h3] at hE
  by_cases h4 : bs.length < 2
  · rw [if_pos h4] at hE; omega
  rw [if_neg h4] at hE
  by_cases h5 : bt bs 0 = 3
  · rw [if_pos h5] at hE
    by_cases h6 : bt bs 1 < 3 ∨ 64 < bt bs 1
    · rw [if_pos h6] at hE; omega
    · exact .inr (.inl ⟨h5, by omega, by omega, by omega⟩)
  rw [if_neg h5] at hE
  by_cases h6 : bt bs 1 < 1 ∨ 64 < bt bs 1
  · rw [if_pos h6] at hE; omega
  rw [if_neg h6] at hE
  by_cases h7 : bs.length < 2 + parK bs
  · rw [if_pos h7] at hE; omega
  rw [if_neg h7] at hE
  cases h8 : (regsB bs (parK bs)).any wrongR with
  | true => rw [h8, if_pos rfl] at hE; omega
  | false =>
    rw [h8, if_neg (by decide)] at hE
    refine .inr (.inr ⟨?_, by omega, rfl⟩)
    by_cases h9 : bt bs 0 = 4
    · exact .inl ⟨h9, by omega⟩
    rw [if_neg h9] at hE
    by_cases h10 : bs.length < 4 + parK bs
    · rw [if_pos h10] at hE; omega
    rw [if_neg h10] at hE
    by_cases h11 : 1 ≤ ptsN bs ∧ ptsN bs ≤ 4096
    · exact .inr ⟨by omega, by omega, h11.1, h11.2⟩
    · rw [if_neg h11] at hE; omega
theorem regsB_holds (bs : List Int) (k : Nat) : (regsB bs k).any holdsR = false := by
  rw [List.any_eq_false]
  intro r hr
  unfold holdsR
  rw [regsB_empty bs k r hr]
  simp
theorem hdOk_parse {bs : List Int} (hE : parE bs = 0) : HdOk (parH bs) := by
  have h0 : ¬ (parE bs ≠ 0) := fun h => h hE
  unfold parH
  rw [if_neg h0]
  obtain ⟨h1, h | ⟨h3, hl, hv⟩ | ⟨hop, hk, hw⟩⟩ := parE_zero hE
  · refine .inl ⟨h, ?_, ?_, ?_⟩
    · show (if bt bs 0 = 3 then bt bs 1 else 0) = 0; rw [if_neg (by omega)]
    · show (if 4 ≤ bt bs 0 then regsB bs (parK bs) else []) = []; rw [if_neg (by omega)]
    · show (if bt bs 0 = 5 then ptsN bs else 0) = 0; rw [if_neg (by omega)]
  · refine .inr (.inl ⟨h3, ?_, ?_, ?_⟩)
    · show 3 ≤ (if bt bs 0 = 3 then bt bs 1 else 0) ∧ (if bt bs 0 = 3 then bt bs 1 else 0) ≤ 64; rw [if_pos h3]; exact hv
    · show (if 4 ≤ bt bs 0 then regsB bs (parK bs) else []) = []; rw [if_neg (by omega)]
    · show (if bt bs 0 = 5 then ptsN bs else 0) = 0; rw [if_neg (by omega)]
  · refine .inr (.inr ⟨?_, ?_, ?_, ?_, ?_⟩)
    · rcases hop with ⟨h4, _⟩ | ⟨h5, _, hp⟩
      · refine .inl ⟨h4, ?_⟩
        show (if bt bs 0 = 5 then ptsN bs else 0) = 0; rw [if_neg (by omega)]
      · refine .inr ⟨h5, ?_⟩
        show 1 ≤ (if bt bs 0 = 5 then ptsN bs else 0) ∧ (if bt bs 0 = 5 then ptsN bs else 0) ≤ 4096; rw [if_pos h5]; exact hp
    · show (if bt bs 0 = 3 then bt bs 1 else 0) = 0; rw [if_neg (by omega)]
    · show 1 ≤ (if 4 ≤ bt bs 0 then regsB bs (parK bs) else []).length ∧ (if 4 ≤ bt bs 0 then regsB bs (parK bs) else []).length ≤ 64
      rw [if_pos (by omega), regsB_length]; unfold parK; omega
    · show (if 4 ≤ bt bs 0 then regsB bs (parK bs) else []).any wrongR = false; rw [if_pos (by omega)]; exact hw
    · show (if 4 ≤ bt bs 0 then regsB bs (parK bs) else []).any holdsR = false; rw [if_pos (by omega)]; exact regsB_holds _ _
theorem parN_le {bs : List Int} (hE : parE bs = 0) : parN bs ≤ bs.length ∧ parN bs ≤ 68 ∧ 1 ≤ parN bs := by
  have h0 : ¬ (parE bs ≠ 0) := fun h => h hE
  unfold parN
  rw [if_neg h0]
  obtain ⟨h1, h | ⟨h3, hl, hv⟩ | ⟨hop, hk, hw⟩⟩ := parE_zero hE
  · rw [if_pos (by omega)]; omega
  · rw [if_neg (by omega), if_pos h3]; omega
  · have : parK bs ≤ 64 := by unfold parK; omega
    rw [if_neg (by omega), if_neg (by omega)]
    rcases hop with ⟨h4, hl⟩ | ⟨h5, hl, hp⟩
    · rw [if_pos h4]; omega
    · rw [if_neg (by omega)]; omega
theorem payH_bound {h : Hd} (ho : HdOk h) : 0 ≤ payH h ∧ payH h ≤ 200000 := by
  have hB := totR_bound h.rs
  unfold payH
  rcases ho with ⟨h1 | h1, h2, h3, h4⟩ | ⟨h1, ⟨h2, h2'⟩, h3, h4⟩ | ⟨⟨h1, h4⟩ | ⟨h1, h4, h4'⟩, h2, ⟨h3, h3'⟩, h5, h6⟩ <;> rw [h1] <;> simp <;> omega
def clsE (bs : List Int) : Int := if parE bs = 0 ∧ (bs.length : Int) ≠ parN bs + payH (parH bs) then 8 else parE bs
set_option maxRecDepth 100000 in
set_option maxHeartbeats 4000000 in
theorem classify_calls (v : Value) (bs : List Int) (w : World) (hG : Gl w) (hv : byAt w v bs) : Calls Tryz.prog 79 #[v] w fun e w' => e = .returned (.int .i64 (clsE bs)) ∧ Keeps (fun _ => False) w w' := by
  have HV := Lib.hid hv
  have HG := Lib.hid hG
  obtain ⟨ao, cp, rfl⟩ : ∃ ao cp, v = .slice ao bs.length cp := by
    rcases hv.2 with ⟨rfl, ao, cap, rfl⟩ | ⟨b, off, cap, rfl, _⟩
    · exact ⟨ao, cap, rfl⟩
    · exact ⟨_, _, rfl⟩
  clear hv hG
  by_cases hE : parE bs = 0
  · have ho := hdOk_parse hE
    have hpb := payH_bound ho
    have hnb := parN_le hE
    have HO := Lib.hid ho
    obtain ⟨n, hn⟩ : ∃ n, bs.length = n := ⟨_, rfl⟩
    obtain ⟨m, hm⟩ : ∃ m, parN bs = m := ⟨_, rfl⟩
    obtain ⟨p, hp⟩ : ∃ p, payH (parH bs) = p := ⟨_, rfl⟩
    have hcl : clsE bs = if (n : Int) = m + p then 0 else 8 := by
      unfold clsE
      rw [hn, hm, hp, hE]
      by_cases h : (n : Int) = m + p
      · rw [if_neg (fun hh => hh.2 h), if_pos h]
      · rw [if_pos ⟨rfl, h⟩, if_neg h]
    have HCL := Lib.hid hcl
    have HPC := Lib.hid (parse_calls _ bs w HV.out)
    rw [hp] at hpb
    rw [hn, hm] at hnb
    have HN := Lib.hid hn
    have HM := Lib.hid hm
    have HP := Lib.hid hp
    have HE := Lib.hid hE
    rw [hn] at HPC ⊢
    rw [hcl]
    clear hcl hn hm hp ho HCL hE
    obtain ⟨hp0, hp1⟩ := hpb
    obtain ⟨hn0, hn1, hn2⟩ := hnb
    go_enter Tryz.func79, Tryz.ntmps79
    go_wp2_with fail
    refine HPC.out.mono ?_; rintro e w1 ⟨⟨hv, rfl, hh, _⟩, hk1⟩
    rw [HE.out, HM.out]
    have ho := HO.out
    have hp := HP.out
    generalize parH bs = h at hh ho hp
    have HO := Lib.hid ho
    have HP := Lib.hid hp
    have HH := Lib.hid hh
    obtain ⟨ah, ch, hv', hr, hz⟩ := hh
    rw [hv'] at HH ⊢
    have hw : IntKind.i64.wrap ((m : Int) + p) = m + p := by rw [IntKind.wrap_i64]; omega
    clear hv' hr hz ho hp
    obtain ⟨kk, hkk⟩ : ∃ kk, h.rs.length = kk := ⟨_, rfl⟩
    rw [hkk] at HH ⊢
    obtain ⟨xo, hxo⟩ : ∃ xo, h.op = xo := ⟨_, rfl⟩
    obtain ⟨xv, hxv⟩ : ∃ xv, h.vt = xv := ⟨_, rfl⟩
    obtain ⟨xp, hxp⟩ : ∃ xp, h.pts = xp := ⟨_, rfl⟩
    rw [hxo, hxv, hxp] at HH ⊢
    clear hkk hxo hxv hxp
    go_upto_region 2 with fail
    obtain ⟨w2, hw2⟩ : ∃ w2, w1.alloc (.cells #[.int .i64 xo, .int .i64 xv, .slice ah kk ch, .int .i64 xp] 27) = w2 := ⟨_, rfl⟩
    have hg := heap_alloc_new w1 (.cells #[.int .i64 xo, .int .i64 xv, .slice ah kk ch, .int .i64 xp] 27)
    have hk2 : Keeps (fun _ => False) w1 w2 := by rw [← hw2]; exact (Keeps.refl _ w1).alloc _
    rw [hw2] at hg ⊢
    clear hw2
    have c0 := cells_at hg 0
    have c1 := cells_at hg 1
    have c2 := cells_at hg 2
    have c3 := cells_at hg 3
    have hk12 := knil hk1 hk2
    clear hg
    have hnm : decide (¬ ((n : Int) = m + p)) = !decide ((n : Int) = m + p) := by by_cases h : (n : Int) = m + p <;> simp [h]
    go_wp2_with fail
    refine (payload_calls _ h HO.out w2 (HG.out.kept hk12) (HH.out.kept hk2)).mono ?_; rintro e w3 ⟨rfl, hk3⟩
    rw [HP.out]
    have hk13 := knil hk12 hk3
    clear c0 c1 c2 c3
    by_cases hq : (n : Int) = m + p
    · have hq1 : ((n : Int) != m + p) = false := by simp [hq]
      have hq2 : ((n : Int) == m + p) = true := by simp [hq]
      have HQ := Lib.hid hq
      clear hq
      go_wp2_with fail
      go_ret
      exact ⟨rfl, hk13⟩
    · have hq1 : ((n : Int) != m + p) = true := by simp [hq]
      have hq2 : ((n : Int) == m + p) = false := by simp [hq]
      have HQ := Lib.hid hq
      clear hq
      go_wp2_with fail
      go_ret
      exact ⟨rfl, hk13⟩
  · have hcl : clsE bs = parE bs := by unfold clsE; rw [if_neg (fun h => hE h.1)]
    have HPC := Lib.hid (parse_calls _ bs w HV.out)
    rw [hcl]
    generalize bs.length = n at HPC HV ⊢
    generalize parE bs = q at HPC hE ⊢
    generalize parN bs = m at HPC ⊢
    generalize parH bs = h at HPC ⊢
    clear hcl
    have hq1 : (q == 0) = false := by simp [hE]
    have hq2 : (q != 0) = true := by simp [hE]
    go_enter Tryz.func79, Tryz.ntmps79
    go_wp2_with fail
    refine HPC.out.mono ?_; rintro e w1 ⟨⟨hv, rfl, hh, _⟩, hk1⟩
    obtain ⟨ah, ch, rfl, hr, hz⟩ := hh
    clear hr hz
    go_wp2_with fail
    go_ret
    exact ⟨rfl, hk1.alloc _⟩
end Go.Proofs.YtmoajobnhiopiaaGreatDoor.sv
set_option linter.unusedSimpArgs false
set_option linter.unusedVariables false
namespace Go.Proofs.YtmoajobnhiopiaaGreatDoor.sv
open Go Go.RowKit Go.Shelf Go.Maps Go.Proofs.YtmoajobnhiopiaaGreatDoor.mk Go.Proofs.YtmoajobnhiopiaaGreatDoor.tp Go.Proofs.YtmoajobnhiopiaaGreatDoor.rg Go.Proofs.YtmoajobnhiopiaaGreatDoor.lm Go.Proofs.YtmoajobnhiopiaaGreatDoor.gm Go.Proofs.YtmoajobnhiopiaaGreatDoor.po
open List renaming getElem_toArray → ga, getElem_cons_zero → gb, getElem_cons_succ → gc, setIfInBounds_toArray → gd, set_cons_zero → ge, set_cons_succ → gf
abbrev Qry := (Int × Int) × Int
def qy (l : List Qry) (i : Nat) : Qry := l.getD i ((0, 0), 0)
def qB (bs : List Int) (i : Nat) : Qry := (ptB (bs.drop (24 * i)) 0, leW (wdB (bs.drop (24 * i)) 2))
theorem BytesAt.drop {w : World} {b off : Nat} {bs : List Int} (h : BytesAt w b off bs) (k : Nat) : BytesAt w b (off + k) (bs.drop k) := by
  refine ⟨h.1, fun x hx => h.2.1 x (List.mem_of_mem_drop hx), fun j hj => ?_⟩
  rw [List.length_drop] at hj
  have e : bt (bs.drop k) j = bt bs (k + j) := by unfold bt; rw [List.getElem?_drop]
  rw [e, Nat.add_assoc]
  exact h.2.2 (k + j) (by omega)
theorem results_qy {fn : Func} {p : Tmp} (h : fn.results = #[.cell p 45]) (tmps : Array Value) (w : World) (g : Nat) (t : TypeId) (x y z : Value) (fr : Nat × Nat)
    (hp : tmps.getD p undef = .pointer (some ⟨g, 0, none⟩)) (hg : w.heap[g]? = some (.cells #[x, y, z] t fr)) : (results fn tmps).run Tryz.prog w = .ok (.agg #[x, y, z]) w := by
  rw [resultsV_cell1 h, hp]
  have e := run_loadVar_row (P := Tryz.prog) w g t 45 #[x, y, z] fr _ hg Tryz.underlying45 rfl (by kernel_rfl)
  simp [asAddr, e, Result.andThen]
theorem RdAt.kept {w w' : World} {br b off n : Nat} {S : Nat → Prop} (h : RdAt w br b off n) (hk : Keeps S w w') (hS : ¬ S br) : RdAt w' br b off n := by
  obtain ⟨ao, cap, hg, h1, h2⟩ := h
  exact ⟨ao, cap, (hk.block br (Array.getElem?_eq_some_iff.1 hg).1 hS).trans hg, h1, h2⟩
set_option maxRecDepth 100000 in
set_option maxHeartbeats 4000000 in
theorem rquery_calls (br b off n i : Nat) (bs : List Int) (hi : 24 * i + 24 ≤ bs.length) (w : World) (h : RdAt w br b (off + 24 * i) (n + 24)) (hne : b ≠ br) (hb : BytesAt w b off bs) :
    Calls Tryz.prog 86 #[.pointer (some ⟨br, 0, none⟩)] w fun e w' => e = .returned (.agg #[.int .i64 (qB bs i).1.1, .int .i64 (qB bs i).1.2, .int .u64 (qB bs i).2]) ∧ RdAt w' br b (off + 24 * (i + 1)) n ∧ Keeps (fun j => j = br) w w' := by
  have hbr : br < w.heap.size := by obtain ⟨ao, cap, hg, _⟩ := h; exact (Array.getElem?_eq_some_iff.1 hg).1
  have H := Lib.hid h
  have hd := hb.drop (24 * i)
  obtain ⟨cs, hcs⟩ : ∃ cs, bs.drop (24 * i) = cs := ⟨_, rfl⟩
  have hcl : 24 ≤ cs.length := by rw [← hcs, List.length_drop]; omega
  rw [hcs] at hd
  have hq : qB bs i = (ptB cs 0, leW (wdB cs 2)) := by unfold qB; rw [hcs]
  rw [hq]
  have HB := Lib.hid hd
  clear h hb hd hcs hq hi
  go_enter Tryz.func86, Tryz.ntmps86
  go_upto_region 1 with fail
  obtain ⟨w0, hw0⟩ : ∃ w0, w.alloc (.cells #[.int .i64 0, .int .i64 0, .int .u64 0] 45) = w0 := ⟨_, rfl⟩
  have hg0 := heap_alloc_new w (.cells #[.int .i64 0, .int .i64 0, .int .u64 0] 45)
  have hk0 : Keeps (fun _ => False) w w0 := by rw [← hw0]; exact (Keeps.refl _ w).alloc _
  rw [hw0] at hg0 ⊢
  clear hw0
  have hr0 : RdAt w0 br b (off + 24 * i + 16 * 0) (n + 8 + 16) := H.out.kept hk0 (fun h => h)
  have hb0 := HB.out.kept hk0 (fun h => h)
  have HG0 := Lib.hid hg0
  have hl0 : w.heap.size < w0.heap.size := (Array.getElem?_eq_some_iff.1 hg0).1
  clear hg0
  go_wp2_with fail
  refine (rpoint_calls br b (off + 24 * i) (n + 8) 0 cs (by omega) w0 hr0 hne hb0).mono ?_; rintro e w1 ⟨rfl, hr1, hk1⟩
  have HB1 := Lib.hid (hb0.kept hk1 hne)
  have HR1 := Lib.hid hr1
  clear hr0 hb0 hr1
  obtain ⟨x1, hx1⟩ : ∃ x1, ptB cs 0 = x1 := ⟨_, rfl⟩
  rw [hx1]
  have HX1 := Lib.hid hx1
  clear hx1
  have hg1 := Lib.hid ((hk1.block _ hl0 (by omega)).trans HG0.out)
  go_upto_region 2 with fail
  obtain ⟨w2, hw2⟩ : ∃ w2, w1.alloc (.cells #[.int .i64 x1.1, .int .i64 x1.2] 35) = w2 := ⟨_, rfl⟩
  have hgq := heap_alloc_new w1 (.cells #[.int .i64 x1.1, .int .i64 x1.2] 35)
  have hk2 : Keeps (fun _ => False) w1 w2 := by rw [← hw2]; exact (Keeps.refl _ w1).alloc _
  obtain ⟨q, hq⟩ : ∃ q, w1.heap.size = q := ⟨_, rfl⟩
  rw [hw2, hq] at hgq
  rw [hw2]
  try rw [hq]
  have hqs : w0.heap.size ≤ q := by rw [← hq]; exact hk1.size
  have hql : q < w2.heap.size := (Array.getElem?_eq_some_iff.1 hgq).1
  have hbq : b < q := by rw [← hq]; exact HB1.out.1
  clear hw2 hq
  have hg2 := Lib.hid ((hk2.block _ (Nat.lt_of_lt_of_le hl0 hk1.size) (fun h => h)).trans hg1.out)
  have HR2 := Lib.hid (HR1.out.kept hk2 (fun h => h))
  have HB2 := Lib.hid (HB1.out.kept hk2 (fun h => h))
  have hk02 := Lib.hid ((hk0.mono (fun _ _ h => h.elim)).trans (hk1.trans hk2 (fun _ _ h => h.elim)) (fun _ _ h => h) : Keeps (fun j => j = br) w w2)
  have c0 := cells_at hgq 0
  have c1 := cells_at hgq 1
  clear hgq
  refine wp_region_late (fun W => W.cell? ⟨q, 0, none⟩ = some (.int .i64 x1.1) ∧ W.cell? ⟨q, 1, none⟩ = some (.int .i64 x1.2)) [4] (by kernel_rfl) ?_
  have hS : w2.drew.cell? ⟨q, 0, none⟩ = some (.int .i64 x1.1) ∧ w2.drew.cell? ⟨q, 1, none⟩ = some (.int .i64 x1.2) := ⟨c0, c1⟩
  have HG3 := Lib.hid (show w2.drew.heap[w.heap.size]? = some (.cells #[.int .i64 0, .int .i64 0, .int .u64 0] 45 (0, 0)) from hg2.out)
  have HR3 := Lib.hid (show RdAt w2.drew br b (off + 24 * i + 16 * (0 + 1)) (n + 8) from HR2.out)
  have HB3 := Lib.hid (show BytesAt w2.drew b (off + 24 * i) cs from HB2.out)
  have HK3 := Lib.hid (show Keeps (fun j => j = br) w w2.drew from hk02.out.drewN 1)
  have hql : q < w2.drew.heap.size := hql
  clear c0 c1 hg2 HR2 HB2 hk02
  generalize w2.drew = wd at hS HG3 HR3 HB3 HK3 hql ⊢
  refine tkL 0 (.agg #[.int .i64 x1.1, .int .i64 x1.2]) rfl (by kernel_rfl) (fun _ _ _ h => (h : False).elim) (by kernel_rfl) ‹_› ?_ ?_
  · intro w hSw
    obtain ⟨s0, s1⟩ := hSw
    go_simp
  try simp only [ga, gb, gc, Act.put, gd, ge, gf]
  refine tkA 1 (.pointer (some ⟨br, 0, none⟩)) rfl (by kernel_rfl) (fun _ _ _ h => (h : False).elim) (by kernel_rfl) (fun _ => ‹_›) ?_ ?_
  · intro w _; go_simp
  try simp only [ga, gb, gc, Act.put, gd, ge, gf]
  refine wpAnyL_next (i := 2) (by kernel_rfl) rfl (fun K hK => ?_)
  go_simp
  refine (rword_calls br b (off + 24 * i + 16 * (0 + 1)) n (wdB cs 2) (wdB_ok HB3.out.2.1 _) (wdB_length (by omega)) wd HR3.out HB3.out.1 hne (fun j hj => by rw [wdB_bt hj, show off + 24 * i + 16 * (0 + 1) + j = off + 24 * i + (8 * 2 + j) by omega]; exact HB3.out.2.2 _ (by omega))).mono ?_; rintro e w4 ⟨rfl, hr4, hk4⟩
  obtain ⟨x2, hx2⟩ : ∃ x2, leW (wdB cs 2) = x2 := ⟨_, rfl⟩
  rw [hx2]
  have HX2 := Lib.hid hx2
  have HR4 := Lib.hid hr4
  have HG4 := Lib.hid ((hk4.block _ (by omega) (by omega)).trans HG3.out)
  have HK4 := Lib.hid (HK3.out.trans hk4 (fun _ _ h => h))
  have hS4 : w4.cell? ⟨q, 0, none⟩ = some (.int .i64 x1.1) ∧ w4.cell? ⟨q, 1, none⟩ = some (.int .i64 x1.2) := ⟨(hk4.cell (p := ⟨q, 0, none⟩) hql (by show ¬ q = br; omega)).trans hS.1, (hk4.cell (p := ⟨q, 1, none⟩) hql (by show ¬ q = br; omega)).trans hS.2⟩
  clear hx2 hr4
  go_wp2_with fail
  refine hK.out _ _ hS4 (fun hHeld => ?_)
  clear hK K
  try simp only [ga, gb, gc, Act.put, gd, ge, gf]
  refine tkA 3 (.agg #[.int .i64 x1.1, .int .i64 x1.2, .int .u64 x2]) rfl (by kernel_rfl) (fun _ _ _ h => (h : False).elim) (by kernel_rfl) (fun _ => ‹_›) ?_ ?_
  · intro w _; go_simp
  try simp only [ga, gb, gc, Act.put, gd, ge, gf]
  have e0 := two_frozen HG4.out 0
  have e1 := two_frozen HG4.out 1
  have e2 := two_frozen HG4.out 2
  have f0 := cells_at HG4.out 0
  have f1 := cells_at HG4.out 1
  have f2 := cells_at HG4.out 2
  refine wpAnyL_late (i := 4) (by kernel_rfl) rfl (by kernel_rfl) (fun K hK => ?_)
  go_simp
  refine hK.out _ _ (fun _ => ?_)
  clear hK K
  try simp only [ga, gb, gc, Act.put, gd, ge, gf]
  refine wpAnyL_done (by kernel_rfl) ?_ _
  refine NoPanic.normal ?_
  clear hS4 e0 e1 e2 f0 f1 f2
  have hkF : Keeps (fun j => j = w.heap.size) w4 (((w4.setCell ⟨w.heap.size, 0, none⟩ (.int .i64 x1.1)).setCell ⟨w.heap.size, 1, none⟩ (.int .i64 x1.2)).setCell ⟨w.heap.size, 2, none⟩ (.int .u64 x2)) := (((Keeps.refl (fun j => j = w.heap.size) w4).setCell ⟨w.heap.size, 0, none⟩ (fun _ => rfl) _).setCell ⟨w.heap.size, 1, none⟩ (fun _ => rfl) _).setCell ⟨w.heap.size, 2, none⟩ (fun _ => rfl) _
  have hcf := cells_put (cells_put (cells_put HG4.out 0 (.int .i64 x1.1)) 1 (.int .i64 x1.2)) 2 (.int .u64 x2)
  have HCF := Lib.hid hcf
  clear hcf
  go_wp2_with fail
  refine bodyPost_ret (results_qy rfl _ _ _ _ _ _ _ _ rfl HCF.out) rfl ⟨?_, ?_, ?_⟩
  · rw [HX1.out, HX2.out]
  · have := HR4.out.kept hkF (by omega)
    rwa [show off + 24 * i + 16 * (0 + 1) + 8 = off + 24 * (i + 1) by omega] at this
  · exact HK4.out.trans hkF (fun i hi h => by omega)
def qfl : List Qry → List Value
  | [] => []
  | q :: l => .int .i64 q.1.1 :: .int .i64 q.1.2 :: .int .u64 q.2 :: qfl l
theorem qfl_length (l : List Qry) : (qfl l).length = l.length * 3 := by
  induction l with
  | nil => rfl
  | cons p l ih => simp only [qfl, List.length_cons, ih]; omega
theorem qfl_get (l : List Qry) : ∀ (i : Nat), i < l.length → (qfl l)[i * 3]? = some (.int .i64 (qy l i).1.1) ∧ (qfl l)[i * 3 + 1]? = some (.int .i64 (qy l i).1.2) ∧ (qfl l)[i * 3 + 2]? = some (.int .u64 (qy l i).2) := by
  induction l with
  | nil => intro i h; simp at h
  | cons p l ih =>
    intro i h
    cases i with
    | zero => exact ⟨rfl, rfl, rfl⟩
    | succ i =>
      have h' := ih i (by simpa using h)
      have e1 : (i + 1) * 3 = i * 3 + 1 + 1 + 1 := by omega
      rw [e1]
      exact h'
theorem qfl_set (l : List Qry) : ∀ (i : Nat) (q : Qry), i < l.length → (((qfl l).set (i * 3) (.int .i64 q.1.1)).set (i * 3 + 1) (.int .i64 q.1.2)).set (i * 3 + 2) (.int .u64 q.2) = qfl (l.set i q) := by
  induction l with
  | nil => intro i p h; simp at h
  | cons p l ih =>
    intro i q h
    cases i with
    | zero => rfl
    | succ i =>
      have h' := ih i q (by simpa using h)
      have e1 : (i + 1) * 3 = i * 3 + 1 + 1 + 1 := by omega
      rw [e1, List.set_cons_succ]
      show _ = (Value.int .i64 p.1.1 :: Value.int .i64 p.1.2 :: Value.int .u64 p.2 :: qfl (l.set i q))
      rw [← h']
      rfl
def mixQ (bs : List Int) (n k : Nat) : List Qry := (List.range n).map (fun i => if i < k then qB bs i else ((0, 0), 0))
def qsB (bs : List Int) (n : Nat) : List Qry := (List.range n).map (qB bs)
theorem qsB_length (bs : List Int) (n : Nat) : (qsB bs n).length = n := by unfold qsB; simp
theorem mixQ_length (bs : List Int) (n k : Nat) : (mixQ bs n k).length = n := by unfold mixQ; simp
theorem mixQ_set {bs : List Int} {n k : Nat} (h : k < n) : (mixQ bs n k).set k (qB bs k) = mixQ bs n (k + 1) := by
  apply List.ext_getElem?
  intro i
  unfold mixQ
  rw [List.getElem?_set]
  by_cases hik : k = i
  · subst hik
    simp [h]
  · rw [if_neg hik]
    by_cases hi : i < n
    · simp only [List.getElem?_map, List.getElem?_range hi, Option.map_some]
      by_cases h1 : i < k
      · rw [if_pos h1, if_pos (by omega)]
      · rw [if_neg h1, if_neg (by omega)]
    · simp [List.getElem?_eq_none, hi]
theorem mixQ_all (bs : List Int) (n : Nat) : mixQ bs n n = qsB bs n := by
  unfold mixQ qsB
  apply List.map_congr_left
  intro i hi
  rw [if_pos (List.mem_range.1 hi)]
theorem mixQ_zero (bs : List Int) (n : Nat) : mixQ bs n 0 = List.replicate n ((0, 0), 0) := by
  unfold mixQ
  apply List.ext_getElem?
  intro i
  by_cases hi : i < n
  · simp [hi]
  · simp [List.getElem?_eq_none, hi]
theorem made_qs (n : Nat) : (madeCells (Value.agg #[.int .i64 0, .int .i64 0, .int .u64 0]).cells (n * 3)).toList = qfl (List.replicate n ((0, 0), 0)) := by
  apply List.ext_getElem?
  intro j
  by_cases hj : j < n * 3
  · have h3 : j / 3 < n := by omega
    have hg := qfl_get (List.replicate n ((0, 0), 0)) (j / 3) (by simpa using h3)
    have hq : qy (List.replicate n ((0, 0), 0)) (j / 3) = ((0, 0), 0) := by unfold qy; rw [List.getD_eq_getElem?_getD, List.getElem?_replicate]; simp [h3]
    rw [hq] at hg
    rcases (show j % 3 = 0 ∨ j % 3 = 1 ∨ j % 3 = 2 by omega) with h | h | h
    · rw [show (qfl (List.replicate n ((0, 0), 0)))[j]? = (qfl (List.replicate n ((0, 0), 0)))[j / 3 * 3]? by rw [show j / 3 * 3 = j by omega], hg.1]
      simp [madeCells, Value.cells, hj, h]
    · rw [show (qfl (List.replicate n ((0, 0), 0)))[j]? = (qfl (List.replicate n ((0, 0), 0)))[j / 3 * 3 + 1]? by rw [show j / 3 * 3 + 1 = j by omega], hg.2.1]
      simp [madeCells, Value.cells, hj, h]
    · rw [show (qfl (List.replicate n ((0, 0), 0)))[j]? = (qfl (List.replicate n ((0, 0), 0)))[j / 3 * 3 + 2]? by rw [show j / 3 * 3 + 2 = j by omega], hg.2.2]
      simp [madeCells, Value.cells, hj, h]
  · rw [List.getElem?_eq_none (by simp [madeCells]; omega), List.getElem?_eq_none (by rw [qfl_length]; simp; omega)]
def qsAt (w : World) (v : Value) (l : List Qry) : Prop :=
  (l = [] ∧ ∃ ao cap, v = .slice ao 0 cap) ∨ ∃ b off cap, v = .slice (some ⟨b, off, none⟩) l.length cap ∧ b < w.heap.size ∧ ∀ i, i < l.length → w.cell? ⟨b, off + i * 3, none⟩ = some (.int .i64 (qy l i).1.1) ∧ w.cell? ⟨b, off + i * 3 + 1, none⟩ = some (.int .i64 (qy l i).1.2) ∧ w.cell? ⟨b, off + i * 3 + 2, none⟩ = some (.int .u64 (qy l i).2)
theorem qsAt.kept {w w' : World} {v : Value} {l : List Qry} (h : qsAt w v l) (hk : Keeps (fun _ => False) w w') : qsAt w' v l := by
  rcases h with h | ⟨b, off, cap, hv, hb, hc⟩
  · exact .inl h
  · have k : ∀ i, w'.cell? ⟨b, i, none⟩ = w.cell? ⟨b, i, none⟩ := fun i => hk.cell (p := ⟨b, i, none⟩) hb (fun h => h)
    exact .inr ⟨b, off, cap, hv, Nat.lt_of_lt_of_le hb hk.size, fun i hi => ⟨(k _).trans (hc i hi).1, (k _).trans (hc i hi).2.1, (k _).trans (hc i hi).2.2⟩⟩
theorem qsAt.shape {w : World} {v : Value} {l : List Qry} (h : qsAt w v l) : ∃ ao cap, v = .slice ao l.length cap := by
  rcases h with ⟨rfl, ao, cap, rfl⟩ | ⟨b, off, cap, rfl, _⟩
  · exact ⟨ao, cap, rfl⟩
  · exact ⟨_, _, rfl⟩
theorem qsAt_row {w : World} {base : Nat} {v : Value} {l : List Qry} {n : Nat} (h : w.ownsRow base 45 3 v n (qfl l)) (hn : n = l.length) : qsAt w v l := by
  subst hn
  rcases h.2 with ⟨rfl, h0⟩ | ⟨g, cap, cur, rfl, hb, hg, hle, hcap, hcur, htake⟩
  · have e := List.eq_nil_of_length_eq_zero h0
    subst e
    exact .inl ⟨rfl, none, 0, rfl⟩
  · refine .inr ⟨g, 0, cap, rfl, (Array.getElem?_eq_some_iff.1 hg).1, fun i hi => ?_⟩
    have h1 := h.cellAt (i * 3) (by omega)
    have h2 := h.cellAt (i * 3 + 1) (by omega)
    have h3 := h.cellAt (i * 3 + 2) (by omega)
    rw [Nat.zero_add]
    have hg := qfl_get l i hi
    exact ⟨h1.trans hg.1, h2.trans hg.2.1, h3.trans hg.2.2⟩
set_option maxRecDepth 100000 in
set_option maxHeartbeats 4000000 in
theorem takeq_calls (br b off m n : Nat) (bs : List Int) (hn : n ≤ 4096) (hl : 24 * n ≤ bs.length) (w : World) (h : RdAt w br b off (24 * n + m)) (hne : b ≠ br) (hb : BytesAt w b off bs) :
    Calls Tryz.prog 85 #[.int .i64 n, .func (.func 86) #[.pointer (some ⟨br, 0, none⟩)] #[]] w fun e w' => ∃ v', e = .returned v' ∧ w'.ownsRow w.heap.size 45 3 v' n (qfl (qsB bs n)) ∧ RdAt w' br b (off + 24 * n) m ∧ Keeps (fun j => j = br) w w' := by
  obtain ⟨i0, hi, hz0, hz1, hz2⟩ := info_parts infoQ
  have hmk := fun w => run_make (P := Tryz.prog) w 33 45 i0 (.agg #[.int .i64 0, .int .i64 0, .int .u64 0]) Tryz.underlying33 hi hz0 .i64 .i64 (n : Int) (n : Int) (by omega) (Int.le_refl _) (by rw [hz2]; omega) (by omega)
  rw [hz1] at hmk
  simp only [Int.toNat_natCast] at hmk
  have hZ := made_qs n
  generalize madeCells (Value.agg #[.int .i64 0, .int .i64 0, .int .u64 0]).cells (n * 3) = Z at hmk hZ
  have HZ := Lib.hid hZ
  have hbr : br < w.heap.size := by obtain ⟨ao, cap, hg, _⟩ := h; exact (Array.getElem?_eq_some_iff.1 hg).1
  have H := Lib.hid h
  have HB := Lib.hid hb
  clear hZ hi hz0 hz1 hz2 h hb
  go_enter Tryz.func85, Tryz.ntmps85
  go_wp2_with (simp only [hmk])
  obtain ⟨w2, hw2⟩ : ∃ w2, w.alloc (.cells Z 45) = w2 := ⟨_, rfl⟩
  obtain ⟨g, hg⟩ : ∃ g, w.heap.size = g := ⟨_, rfl⟩
  have hr2 : w2.ownsRow g 45 3 (.slice (some ⟨g, 0, none⟩) n n) n (qfl (mixQ bs n 0)) := by
    rw [mixQ_zero, ← HZ.out, ← hw2, ← hg]
    refine World.ownsRow_lit w Z n (Nat.le_refl _) (by unfold maxLen; omega) ?_
    have := congrArg List.length HZ.out
    rw [qfl_length] at this
    simpa using this
  have hk2 : Keeps (fun _ => False) w w2 := by rw [← hw2]; exact (Keeps.refl _ w).alloc _
  have HB2 := Lib.hid (HB.out.kept hk2 (fun h => h))
  have HRD2 := Lib.hid (H.out.kept hk2 (fun h => h) : RdAt w2 br b (off + 24 * 0) (24 * (n - 0) + m))
  have hsz2 : w2.heap.size = g + 1 := by rw [← hw2, ← hg]; simp
  have hbg : b < g := by rw [← hg]; exact HB.out.1
  rw [hw2]
  try rw [hg]
  have hbrg : br < g := by rw [← hg]; exact hbr
  have HW := Lib.hid hg
  clear hw2 hmk HZ hbr hg
  go_loopw [6, 11] (fun _ i wr => ∃ k : Nat, k ≤ n ∧ i = .int .i64 k ∧ wr.ownsRow g 45 3 (.slice (some ⟨g, 0, none⟩) n n) n (qfl (mixQ bs n k)) ∧ RowKit.Hid (RdAt wr br b (off + 24 * k) (24 * (n - k) + m)) ∧ RowKit.Hid (Keeps (fun j => j = br ∨ j = g) w2 wr)) (fun _ i _ => n - (intOf i).toNat)
  case atStart => exact ⟨0, Nat.zero_le _, rfl, hr2, HRD2, Keeps.refl _ _⟩
  case round =>
    clear hr2 HRD2
    obtain ⟨k, hk, rfl, hr, HR, HK⟩ := hrel
    by_cases hkn : k < n
    · have hkI : (k : Int) < (n : Int) := by omega
      have hk0 : (0 : Int) ≤ (k : Int) := by omega
      have hrd : RdAt wr br b (off + 24 * k) ((24 * (n - (k + 1)) + m) + 24) := by have := HR.out; rwa [show 24 * (n - k) + m = (24 * (n - (k + 1)) + m) + 24 by omega] at this
      have Hr := Lib.hid hr
      have Hrd := Lib.hid hrd
      have Hbw := Lib.hid (HB2.out.kept HK.out (show ¬ (b = br ∨ b = g) by omega))
      clear hr hrd
      go_wp2_with fail
      refine (rquery_calls br b off _ k bs (by omega) wr Hrd.out hne Hbw.out).mono ?_; rintro e w3 ⟨rfl, hrd3, hk3⟩
      have hr3 : w3.ownsRow g 45 3 (.slice (some ⟨g, 0, none⟩) n n) n (qfl (mixQ bs n k)) := by
        refine ⟨Hr.out.1, ?_⟩
        rcases Hr.out.2 with h | ⟨g', c, cur, he, h1, h2, h3⟩
        · exact .inl h
        · have e : g' = g := by injection he with he; injection he with he; injection he with he; exact he.symm
          exact .inr ⟨g', c, cur, he, h1, (hk3.block _ (Array.getElem?_eq_some_iff.1 h2).1 (by omega)).trans h2, h3⟩
      obtain ⟨p, hp⟩ : ∃ p, qB bs k = p := ⟨_, rfl⟩
      rw [hp]
      have hml := mixQ_length bs n k
      have c0 := (hr3.cellAt (k * 3) (by omega)).trans (qfl_get _ k (by omega)).1
      have c1 := (hr3.cellAt (k * 3 + 1) (by omega)).trans (qfl_get _ k (by omega)).2.1
      have c2 := (hr3.cellAt (k * 3 + 2) (by omega)).trans (qfl_get _ k (by omega)).2.2
      have f0 := hr3.frozenAt (k * 3)
      have f1 := hr3.frozenAt (k * 3 + 1)
      have f2 := hr3.frozenAt (k * 3 + 2)
      have hst := (((hr3.stored (k * 3) (.int .i64 p.1.1)).1.stored (k * 3 + 1) (.int .i64 p.1.2)).1.stored (k * 3 + 2) (.int .u64 p.2)).1
      rw [qfl_set _ k p (by omega), ← hp, mixQ_set hkn, hp] at hst
      have Hst := Lib.hid hst
      have HKa := Lib.hid ((((HK.out.trans hk3 (fun _ _ h => .inl h)).setCell ⟨g, k * 3, none⟩ (fun _ => .inr rfl) (.int .i64 p.1.1)).setCell ⟨g, k * 3 + 1, none⟩ (fun _ => .inr rfl) (.int .i64 p.1.2)).setCell ⟨g, k * 3 + 2, none⟩ (fun _ => .inr rfl) (.int .u64 p.2))
      have hkF : Keeps (fun j => j = g) w3 (((w3.setCell ⟨g, k * 3, none⟩ (.int .i64 p.1.1)).setCell ⟨g, k * 3 + 1, none⟩ (.int .i64 p.1.2)).setCell ⟨g, k * 3 + 2, none⟩ (.int .u64 p.2)) := (((Keeps.refl (fun j => j = g) w3).setCell ⟨g, k * 3, none⟩ (fun _ => rfl) _).setCell ⟨g, k * 3 + 1, none⟩ (fun _ => rfl) _).setCell ⟨g, k * 3 + 2, none⟩ (fun _ => rfl) _
      have Hrd4 := Lib.hid (hrd3.kept hkF (by omega))
      clear hst hr3 hrd3 hk3 hp hml hkF
      go_wp2
      go_roundw
      case rel => exact ⟨k + 1, by omega, by go_num, Hst.out, Hrd4, HKa⟩
      case measure => simp [intOf]; omega
    · obtain rfl : k = n := by omega
      have Hr := Lib.hid hr
      clear hr
      go_wp2
      go_ret
      refine ⟨_, rfl, by rw [HW.out, ← mixQ_all]; exact Hr.out, ?_, ?_⟩
      · have := HR.out
        rwa [show 24 * (k - k) + m = m by omega] at this
      · exact (hk2.mono (fun _ _ h => h.elim)).trans HK.out (fun i hi h => by have := HW.out; omega)
end Go.Proofs.YtmoajobnhiopiaaGreatDoor.sv
