/- isAnswer and Respond at an orientation's answer, by walking their text. -/
import Derived.Test.YtmoajobnhiopiaaGreatDoorSrvH
set_option linter.unusedSimpArgs false
set_option linter.unusedVariables false
namespace Go.Proofs.YtmoajobnhiopiaaGreatDoor.sv
open Go Go.RowKit Go.Shelf Go.Maps Go.Proofs.YtmoajobnhiopiaaGreatDoor.mk Go.Proofs.YtmoajobnhiopiaaGreatDoor.tp Go.Proofs.YtmoajobnhiopiaaGreatDoor.rg Go.Proofs.YtmoajobnhiopiaaGreatDoor.lm Go.Proofs.YtmoajobnhiopiaaGreatDoor.gm Go.Proofs.YtmoajobnhiopiaaGreatDoor.po

set_option maxRecDepth 100000 in
set_option maxHeartbeats 4000000 in
theorem isAnswer_one (w : World) : Calls Tryz.prog 91 #[.agg #[.int .i64 1, .int .i64 0, .slice none 0 0, .int .i64 0], .agg #[.int .i64 2, .int .i64 0, .slice none 0 0]] w fun e w' => e = .returned (.bool true) ∧ Keeps (fun _ => False) w w' := by
  have hw0 : IntKind.i64.wrap 0 = 0 := by decide
  go_enter Tryz.func91, Tryz.ntmps91
  go_upto_region 1 with fail
  obtain ⟨w1, hw1⟩ : ∃ w1, (w.alloc (.cells #[.int .i64 1, .int .i64 0, .slice none 0 0, .int .i64 0] 27)).alloc (.cells #[.int .i64 2, .int .i64 0, .slice none 0 0] 110) = w1 := ⟨_, rfl⟩
  have hg := heap2 w (.cells #[.int .i64 1, .int .i64 0, .slice none 0 0, .int .i64 0] 27) (.cells #[.int .i64 2, .int .i64 0, .slice none 0 0] 110)
  have hk1 : Keeps (fun _ => False) w w1 := by rw [← hw1]; exact ((Keeps.refl _ w).alloc _).alloc _
  rw [hw1] at hg ⊢
  clear hw1
  have hg0 := hg.1
  have hg1 := hg.2
  have hl0 : w.heap.size < w1.heap.size := (Array.getElem?_eq_some_iff.1 hg0).1
  have hl1 : w.heap.size + 1 < w1.heap.size := (Array.getElem?_eq_some_iff.1 hg1).1
  have G0 := Lib.hid hg0
  have G1 := Lib.hid hg1
  have c0 := cells_at hg0 0
  have c1 := cells_at hg0 1
  have c2 := cells_at hg0 2
  have c3 := cells_at hg0 3
  have a0 := cells_at hg1 0
  have a1 := cells_at hg1 1
  have a2 := cells_at hg1 2
  clear hg hg0 hg1
  go_wp2_with fail
  go_loopw [6, 7, 8, 51] (fun _ _ _ i wr => i = .int .i64 0 ∧ wr = w1) (fun _ _ _ _ _ => 0)
  case atStart => exact ⟨rfl, rfl⟩
  case round =>
    obtain ⟨rfl, hwr⟩ := hrel
    rw [hwr]
    clear hwr wr
    go_wp2
    go_ret
    exact ⟨rfl, hk1⟩
set_option maxRecDepth 100000 in
set_option maxHeartbeats 4000000 in
theorem respond_one (w : World) : Calls Tryz.prog 62 #[.agg #[.int .i64 1, .int .i64 0, .slice none 0 0, .int .i64 0], .agg #[.int .i64 2, .int .i64 0, .slice none 0 0]] w fun e w' => (∃ g, e = .returned (.tuple #[.slice (some ⟨g, 0, none⟩) 2 2, .int .i64 0]) ∧ w'.heap[g]? = some (.cells #[.int .u8 0, .int .u8 2] 5 (0, 0))) ∧ Keeps (fun _ => False) w w' := by
  have hw2 : IntKind.u8.wrap 2 = 2 := by decide
  go_enter Tryz.func62, Tryz.ntmps62
  go_upto_region 1 with fail
  obtain ⟨w1, hw1⟩ : ∃ w1, (w.alloc (.cells #[.int .i64 1, .int .i64 0, .slice none 0 0, .int .i64 0] 27)).alloc (.cells #[.int .i64 2, .int .i64 0, .slice none 0 0] 110) = w1 := ⟨_, rfl⟩
  have hg := heap2 w (.cells #[.int .i64 1, .int .i64 0, .slice none 0 0, .int .i64 0] 27) (.cells #[.int .i64 2, .int .i64 0, .slice none 0 0] 110)
  have hk1 : Keeps (fun _ => False) w w1 := by rw [← hw1]; exact ((Keeps.refl _ w).alloc _).alloc _
  rw [hw1] at hg ⊢
  clear hw1
  have hg0 := hg.1
  have hg1 := hg.2
  have hl0 : w.heap.size < w1.heap.size := (Array.getElem?_eq_some_iff.1 hg0).1
  have hl1 : w.heap.size + 1 < w1.heap.size := (Array.getElem?_eq_some_iff.1 hg1).1
  have G0 := Lib.hid hg0
  have G1 := Lib.hid hg1
  have c0 := cells_at hg0 0
  have c1 := cells_at hg0 1
  have c2 := cells_at hg0 2
  have c3 := cells_at hg0 3
  have a0 := cells_at hg1 0
  have a1 := cells_at hg1 1
  have a2 := cells_at hg1 2
  clear hg hg0 hg1
  go_wp2_with fail
  refine (format_one w1).mono ?_; rintro e w2 ⟨⟨g, rfl, _, _⟩, hk2⟩
  have hg0 := ((hk2).block _ hl0 (fun h => h)).trans G0.out
  have hg1 := ((hk2).block _ hl1 (fun h => h)).trans G1.out
  clear c0 c1 c2 c3 a0 a1 a2
  have c0 := cells_at hg0 0
  have c1 := cells_at hg0 1
  have c2 := cells_at hg0 2
  have c3 := cells_at hg0 3
  have a0 := cells_at hg1 0
  have a1 := cells_at hg1 1
  have a2 := cells_at hg1 2
  clear hg0 hg1
  go_wp2_with fail
  refine (isAnswer_one w2).mono ?_; rintro e w3 ⟨rfl, hk3⟩
  have hk13 := knil hk2 hk3
  have hg0 := ((hk13).block _ hl0 (fun h => h)).trans G0.out
  have hg1 := ((hk13).block _ hl1 (fun h => h)).trans G1.out
  clear c0 c1 c2 c3 a0 a1 a2
  have c0 := cells_at hg0 0
  have c1 := cells_at hg0 1
  have c2 := cells_at hg0 2
  have c3 := cells_at hg0 3
  have a0 := cells_at hg1 0
  have a1 := cells_at hg1 1
  have a2 := cells_at hg1 2
  clear hg0 hg1
  go_upto_region 7 with fail
  obtain ⟨w4, hw4⟩ : ∃ w4, (w3.alloc (.cells #[.int .u8 0, .int .u8 2] 5)).alloc (.cells #[.slice (some ⟨w3.heap.size, 0, none⟩) 2 2] 155) = w4 := ⟨_, rfl⟩
  have hg := heap2 w3 (.cells #[.int .u8 0, .int .u8 2] 5) (.cells #[.slice (some ⟨w3.heap.size, 0, none⟩) 2 2] 155)
  have hk4 : Keeps (fun _ => False) w3 w4 := by rw [← hw4]; exact ((Keeps.refl _ w3).alloc _).alloc _
  rw [hw4] at hg ⊢
  clear hw4
  have hk14 := knil hk13 hk4
  have hg0 := ((hk14).block _ hl0 (fun h => h)).trans G0.out
  have hg1 := ((hk14).block _ hl1 (fun h => h)).trans G1.out
  clear c0 c1 c2 c3 a0 a1 a2
  have c0 := cells_at hg0 0
  have c1 := cells_at hg0 1
  have c2 := cells_at hg0 2
  have c3 := cells_at hg0 3
  have a0 := cells_at hg1 0
  have a1 := cells_at hg1 1
  have a2 := cells_at hg1 2
  clear hg0 hg1
  have d0 := cells_at hg.2 0
  have HB := Lib.hid hg.1
  clear hg
  go_wp2_with fail
  refine (eachR_none _ _ _ w4).mono ?_; rintro e w5 ⟨rfl, hw5⟩
  rw [hw5]
  clear hw5 w5
  go_wp2_with fail
  go_ret2
  exact ⟨⟨_, rfl, HB.out⟩, knil hk1 hk14⟩
set_option maxRecDepth 100000 in
set_option maxHeartbeats 4000000 in
theorem op1_calls (t : Value) (bb oo cc gq cq : Nat) (l : List (Int × Int)) (hl : l.length = 3) (hp : Pts l) (w : World) (hG : Gl w) (hbb : bb < w.heap.size) (hc : ∀ i, i < l.length → w.cell? ⟨bb, oo + i * 2, none⟩ = some (.int .i64 (pt l i).1) ∧ w.cell? ⟨bb, oo + i * 2 + 1, none⟩ = some (.int .i64 (pt l i).2)) :
    Calls Tryz.prog 150 #[t, .agg #[.int .i64 1, .int .i64 0, .slice none 0 0, .int .i64 0, .slice none 0 0, .slice (some ⟨bb, oo, none⟩) 3 cc, .slice (some ⟨gq, 0, none⟩) 0 cq]] w fun e w' => e = .returned (.int .i64 (polyS l + 1)) ∧ Keeps (fun _ => False) w w' := by
  have hk1 : Keeps (fun _ => False) w (w.alloc (.cells #[.int .i64 1, .int .i64 0, .slice none 0 0, .int .i64 0, .slice none 0 0, .slice (some ⟨bb, oo, none⟩) 3 cc, .slice (some ⟨gq, 0, none⟩) 0 cq] 105)) := (Keeps.refl _ w).alloc _
  have hg := heap_alloc_new w (.cells #[.int .i64 1, .int .i64 0, .slice none 0 0, .int .i64 0, .slice none 0 0, .slice (some ⟨bb, oo, none⟩) 3 cc, .slice (some ⟨gq, 0, none⟩) 0 cq] 105)
  have HG := Lib.hid hG
  have hs := polyS_ok l
  have hws : IntKind.i64.wrap (polyS l + 1) = polyS l + 1 := by rw [IntKind.wrap_i64]; omega
  have q0 := (hk1.cell (p := ⟨bb, oo + 0 * 2, none⟩) hbb (fun h => h)).trans (hc 0 (by omega)).1
  have q1 := (hk1.cell (p := ⟨bb, oo + 0 * 2 + 1, none⟩) hbb (fun h => h)).trans (hc 0 (by omega)).2
  have q2 := (hk1.cell (p := ⟨bb, oo + 1 * 2, none⟩) hbb (fun h => h)).trans (hc 1 (by omega)).1
  have q3 := (hk1.cell (p := ⟨bb, oo + 1 * 2 + 1, none⟩) hbb (fun h => h)).trans (hc 1 (by omega)).2
  have q4 := (hk1.cell (p := ⟨bb, oo + 2 * 2, none⟩) hbb (fun h => h)).trans (hc 2 (by omega)).1
  have q5 := (hk1.cell (p := ⟨bb, oo + 2 * 2 + 1, none⟩) hbb (fun h => h)).trans (hc 2 (by omega)).2
  simp only [Nat.zero_mul, Nat.one_mul, Nat.add_zero, Nat.add_assoc, Nat.reduceMul, Nat.reduceAdd] at q0 q1 q2 q3 q4 q5
  have c5 := cells_at hg 5
  have hlH : w.heap.size < (w.alloc (.cells #[.int .i64 1, .int .i64 0, .slice none 0 0, .int .i64 0, .slice none 0 0, .slice (some ⟨bb, oo, none⟩) 3 cc, .slice (some ⟨gq, 0, none⟩) 0 cq] 105)).heap.size := (Array.getElem?_eq_some_iff.1 hg).1
  have hlB : bb < (w.alloc (.cells #[.int .i64 1, .int .i64 0, .slice none 0 0, .int .i64 0, .slice none 0 0, .slice (some ⟨bb, oo, none⟩) 3 cc, .slice (some ⟨gq, 0, none⟩) 0 cq] 105)).heap.size := Nat.lt_of_lt_of_le hbb hk1.size
  clear hc hg hG hs hl
  go_enter Tryz.func150, Tryz.ntmps150
  go_upto_region 1 with fail
  generalize w.alloc (.cells #[.int .i64 1, .int .i64 0, .slice none 0 0, .int .i64 0, .slice none 0 0, .slice (some ⟨bb, oo, none⟩) 3 cc, .slice (some ⟨gq, 0, none⟩) 0 cq] 105) = w1 at hk1 q0 q1 q2 q3 q4 q5 c5 hlH hlB ⊢
  refine wp_region_late (fun W => W.cell? ⟨w.heap.size, 5, none⟩ = some (.slice (some ⟨bb, oo, none⟩) 3 cc) ∧ W.cell? ⟨bb, oo, none⟩ = some (.int .i64 (pt l 0).1) ∧ W.cell? ⟨bb, oo + 1, none⟩ = some (.int .i64 (pt l 0).2) ∧ W.cell? ⟨bb, oo + 2, none⟩ = some (.int .i64 (pt l 1).1) ∧ W.cell? ⟨bb, oo + 3, none⟩ = some (.int .i64 (pt l 1).2) ∧ W.cell? ⟨bb, oo + 4, none⟩ = some (.int .i64 (pt l 2).1) ∧ W.cell? ⟨bb, oo + 5, none⟩ = some (.int .i64 (pt l 2).2)) [] (by kernel_rfl) ?_
  have hS : w1.drew.cell? ⟨w.heap.size, 5, none⟩ = some (.slice (some ⟨bb, oo, none⟩) 3 cc) ∧ w1.drew.cell? ⟨bb, oo, none⟩ = some (.int .i64 (pt l 0).1) ∧ w1.drew.cell? ⟨bb, oo + 1, none⟩ = some (.int .i64 (pt l 0).2) ∧ w1.drew.cell? ⟨bb, oo + 2, none⟩ = some (.int .i64 (pt l 1).1) ∧ w1.drew.cell? ⟨bb, oo + 3, none⟩ = some (.int .i64 (pt l 1).2) ∧ w1.drew.cell? ⟨bb, oo + 4, none⟩ = some (.int .i64 (pt l 2).1) ∧ w1.drew.cell? ⟨bb, oo + 5, none⟩ = some (.int .i64 (pt l 2).2) := ⟨c5, q0, q1, q2, q3, q4, q5⟩
  refine wpAnyL_any (i := 0) (oi := _) (v := .pointer (some ⟨w.heap.size, 5, none⟩)) rfl (by kernel_rfl) (by kernel_rfl) (by kernel_rfl) (by kernel_rfl) (fun _ _ _ h => (h : False).elim) (Or.inl ⟨by kernel_rfl, ?_⟩) (fun _ => by assumption) ?_
  · intro w _
    go_simp
  try simp only [List.getElem_toArray, List.getElem_cons_zero, List.getElem_cons_succ, Act.put, List.setIfInBounds_toArray, List.set_cons_zero, List.set_cons_succ]
  refine wpAnyL_take (i := 1) (oi := _) (v := .slice (some ⟨bb, oo, none⟩) 3 cc) rfl (by kernel_rfl) (by kernel_rfl) (by kernel_rfl) (by kernel_rfl) (fun _ _ _ h => (h : False).elim) (Or.inl ⟨by kernel_rfl, ?_⟩) (by assumption) ?_
  · intro w hSw
    obtain ⟨s0, s1, s2, s3, s4, s5, s6⟩ := hSw
    go_simp
  try simp only [List.getElem_toArray, List.getElem_cons_zero, List.getElem_cons_succ, Act.put, List.setIfInBounds_toArray, List.set_cons_zero, List.set_cons_succ]
  refine wpAnyL_any (i := 2) (oi := _) (v := .pointer (some ⟨bb, oo, none⟩)) rfl (by kernel_rfl) (by kernel_rfl) (by kernel_rfl) (by kernel_rfl) (fun _ _ _ h => (h : False).elim) (Or.inl ⟨by kernel_rfl, ?_⟩) (fun _ => by assumption) ?_
  · intro w _
    go_simp
  try simp only [List.getElem_toArray, List.getElem_cons_zero, List.getElem_cons_succ, Act.put, List.setIfInBounds_toArray, List.set_cons_zero, List.set_cons_succ]
  refine wpAnyL_take (i := 3) (oi := _) (v := .agg #[.int .i64 (pt l 0).1, .int .i64 (pt l 0).2]) rfl (by kernel_rfl) (by kernel_rfl) (by kernel_rfl) (by kernel_rfl) (fun _ _ _ h => (h : False).elim) (Or.inl ⟨by kernel_rfl, ?_⟩) (by assumption) ?_
  · intro w hSw
    obtain ⟨s0, s1, s2, s3, s4, s5, s6⟩ := hSw
    go_simp
  try simp only [List.getElem_toArray, List.getElem_cons_zero, List.getElem_cons_succ, Act.put, List.setIfInBounds_toArray, List.set_cons_zero, List.set_cons_succ]
  refine wpAnyL_any (i := 4) (oi := _) (v := .pointer (some ⟨w.heap.size, 5, none⟩)) rfl (by kernel_rfl) (by kernel_rfl) (by kernel_rfl) (by kernel_rfl) (fun _ _ _ h => (h : False).elim) (Or.inl ⟨by kernel_rfl, ?_⟩) (fun _ => by assumption) ?_
  · intro w _
    go_simp
  try simp only [List.getElem_toArray, List.getElem_cons_zero, List.getElem_cons_succ, Act.put, List.setIfInBounds_toArray, List.set_cons_zero, List.set_cons_succ]
  refine wpAnyL_take (i := 5) (oi := _) (v := .slice (some ⟨bb, oo, none⟩) 3 cc) rfl (by kernel_rfl) (by kernel_rfl) (by kernel_rfl) (by kernel_rfl) (fun _ _ _ h => (h : False).elim) (Or.inl ⟨by kernel_rfl, ?_⟩) (by assumption) ?_
  · intro w hSw
    obtain ⟨s0, s1, s2, s3, s4, s5, s6⟩ := hSw
    go_simp
  try simp only [List.getElem_toArray, List.getElem_cons_zero, List.getElem_cons_succ, Act.put, List.setIfInBounds_toArray, List.set_cons_zero, List.set_cons_succ]
  refine wpAnyL_any (i := 6) (oi := _) (v := .pointer (some ⟨bb, oo + 2, none⟩)) rfl (by kernel_rfl) (by kernel_rfl) (by kernel_rfl) (by kernel_rfl) (fun _ _ _ h => (h : False).elim) (Or.inl ⟨by kernel_rfl, ?_⟩) (fun _ => by assumption) ?_
  · intro w _
    go_simp
  try simp only [List.getElem_toArray, List.getElem_cons_zero, List.getElem_cons_succ, Act.put, List.setIfInBounds_toArray, List.set_cons_zero, List.set_cons_succ]
  refine wpAnyL_take (i := 7) (oi := _) (v := .agg #[.int .i64 (pt l 1).1, .int .i64 (pt l 1).2]) rfl (by kernel_rfl) (by kernel_rfl) (by kernel_rfl) (by kernel_rfl) (fun _ _ _ h => (h : False).elim) (Or.inl ⟨by kernel_rfl, ?_⟩) (by assumption) ?_
  · intro w hSw
    obtain ⟨s0, s1, s2, s3, s4, s5, s6⟩ := hSw
    go_simp
  try simp only [List.getElem_toArray, List.getElem_cons_zero, List.getElem_cons_succ, Act.put, List.setIfInBounds_toArray, List.set_cons_zero, List.set_cons_succ]
  refine wpAnyL_any (i := 8) (oi := _) (v := .pointer (some ⟨w.heap.size, 5, none⟩)) rfl (by kernel_rfl) (by kernel_rfl) (by kernel_rfl) (by kernel_rfl) (fun _ _ _ h => (h : False).elim) (Or.inl ⟨by kernel_rfl, ?_⟩) (fun _ => by assumption) ?_
  · intro w _
    go_simp
  try simp only [List.getElem_toArray, List.getElem_cons_zero, List.getElem_cons_succ, Act.put, List.setIfInBounds_toArray, List.set_cons_zero, List.set_cons_succ]
  refine wpAnyL_take (i := 9) (oi := _) (v := .slice (some ⟨bb, oo, none⟩) 3 cc) rfl (by kernel_rfl) (by kernel_rfl) (by kernel_rfl) (by kernel_rfl) (fun _ _ _ h => (h : False).elim) (Or.inl ⟨by kernel_rfl, ?_⟩) (by assumption) ?_
  · intro w hSw
    obtain ⟨s0, s1, s2, s3, s4, s5, s6⟩ := hSw
    go_simp
  try simp only [List.getElem_toArray, List.getElem_cons_zero, List.getElem_cons_succ, Act.put, List.setIfInBounds_toArray, List.set_cons_zero, List.set_cons_succ]
  refine wpAnyL_any (i := 10) (oi := _) (v := .pointer (some ⟨bb, oo + 4, none⟩)) rfl (by kernel_rfl) (by kernel_rfl) (by kernel_rfl) (by kernel_rfl) (fun _ _ _ h => (h : False).elim) (Or.inl ⟨by kernel_rfl, ?_⟩) (fun _ => by assumption) ?_
  · intro w _
    go_simp
  try simp only [List.getElem_toArray, List.getElem_cons_zero, List.getElem_cons_succ, Act.put, List.setIfInBounds_toArray, List.set_cons_zero, List.set_cons_succ]
  refine wpAnyL_take (i := 11) (oi := _) (v := .agg #[.int .i64 (pt l 2).1, .int .i64 (pt l 2).2]) rfl (by kernel_rfl) (by kernel_rfl) (by kernel_rfl) (by kernel_rfl) (fun _ _ _ h => (h : False).elim) (Or.inl ⟨by kernel_rfl, ?_⟩) (by assumption) ?_
  · intro w hSw
    obtain ⟨s0, s1, s2, s3, s4, s5, s6⟩ := hSw
    go_simp
  try simp only [List.getElem_toArray, List.getElem_cons_zero, List.getElem_cons_succ, Act.put, List.setIfInBounds_toArray, List.set_cons_zero, List.set_cons_succ]
  refine wpAnyL_next (i := 12) (by kernel_rfl) rfl (fun K hK => ?_)
  go_simp
  refine (osign_calls (pt l 0) (pt l 1) (pt l 2) (hp.at 0) (hp.at 1) (hp.at 2) _ (HG.out.kept (hk1.drewN 1))).mono ?_; rintro e w2 ⟨rfl, hk2'⟩
  have hk2 : Keeps (fun _ => False) w1 w2 := knil ((Keeps.refl _ w1).drewN 1) hk2'
  rw [show sgnI (det (pt l 0) (pt l 1) (pt l 2)) = polyS l from rfl]
  go_wp2_with fail
  refine hK.out _ _ ⟨(hk2.cell (p := ⟨w.heap.size, 5, none⟩) hlH (fun h => h)).trans c5, (hk2.cell (p := ⟨bb, oo, none⟩) hlB (fun h => h)).trans q0, (hk2.cell (p := ⟨bb, oo + 1, none⟩) hlB (fun h => h)).trans q1, (hk2.cell (p := ⟨bb, oo + 2, none⟩) hlB (fun h => h)).trans q2, (hk2.cell (p := ⟨bb, oo + 3, none⟩) hlB (fun h => h)).trans q3, (hk2.cell (p := ⟨bb, oo + 4, none⟩) hlB (fun h => h)).trans q4, (hk2.cell (p := ⟨bb, oo + 5, none⟩) hlB (fun h => h)).trans q5⟩ (fun hHeld => ?_)
  clear hK K
  try simp only [List.getElem_toArray, List.getElem_cons_zero, List.getElem_cons_succ, Act.put, List.setIfInBounds_toArray, List.set_cons_zero, List.set_cons_succ]
  refine wpAnyL_any (i := 13) (oi := _) (v := .int .i64 (polyS l + 1)) rfl (by kernel_rfl) (by kernel_rfl) (by kernel_rfl) (by kernel_rfl) (fun _ _ _ h => (h : False).elim) (Or.inl ⟨by kernel_rfl, ?_⟩) (fun _ => by assumption) ?_
  · intro w _
    go_simp
  try simp only [List.getElem_toArray, List.getElem_cons_zero, List.getElem_cons_succ, Act.put, List.setIfInBounds_toArray, List.set_cons_zero, List.set_cons_succ]
  refine wpAnyL_any (i := 14) (oi := _) (v := .int .i64 (polyS l + 1)) rfl (by kernel_rfl) (by kernel_rfl) (by kernel_rfl) (by kernel_rfl) (fun _ _ _ h => (h : False).elim) (Or.inl ⟨by kernel_rfl, ?_⟩) (fun _ => by assumption) ?_
  · intro w _
    go_simp
  try simp only [List.getElem_toArray, List.getElem_cons_zero, List.getElem_cons_succ, Act.put, List.setIfInBounds_toArray, List.set_cons_zero, List.set_cons_succ]
  refine wpAnyL_done (by kernel_rfl) ?_ _
  refine NoPanic.normal ?_
  clear hS q0 q1 q2 q3 q4 q5 c5
  go_wp2
  go_ret
  exact ⟨rfl, knil hk1 hk2⟩
end Go.Proofs.YtmoajobnhiopiaaGreatDoor.sv
