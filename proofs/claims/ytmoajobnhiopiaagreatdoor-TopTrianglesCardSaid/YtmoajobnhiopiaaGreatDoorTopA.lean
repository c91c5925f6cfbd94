/- geofencetop.TopTriangles, by walking its text. -/
import Derived.Test.YtmoajobnhiopiaaGreatDoorSrvO
import Derived.Test.YtmoajobnhiopiaaGreatDoorPolV
import Derived.Test.YtmoajobnhiopiaaGreatDoorDisc
import Derived.Test.YtmoajobnhiopiaaGreatDoorNumS
set_option linter.unusedSimpArgs false
set_option linter.unusedVariables false
namespace Go.Proofs.YtmoajobnhiopiaaGreatDoor.to
open Go Go.RowKit Go.Shelf Go.Maps Go.Proofs.YtmoajobnhiopiaaGreatDoor.mk Go.Proofs.YtmoajobnhiopiaaGreatDoor.tp Go.Proofs.YtmoajobnhiopiaaGreatDoor.rg Go.Proofs.YtmoajobnhiopiaaGreatDoor.lm Go.Proofs.YtmoajobnhiopiaaGreatDoor.gm Go.Proofs.YtmoajobnhiopiaaGreatDoor.nb Go.Proofs.YtmoajobnhiopiaaGreatDoor.po Go.Proofs.YtmoajobnhiopiaaGreatDoor.sv

theorem valB_three (a b c : Int × Int) : valB [a, b, c] 3 = !(polyS [a, b, c] == 0) := by
  have e1 : det b c a = det a b c := det_turn a b c
  have e2 : det c a b = det a b c := (det_turn c a b).symm
  unfold valB rowB okI edgeD polyS pt
  simp [List.range_succ, e1, e2]
theorem sides_three (a b c p : Int × Int) : sides [a, b, c] 3 p = [polyS [a, b, c] * sgnI (det a b p), polyS [a, b, c] * sgnI (det b c p), polyS [a, b, c] * sgnI (det c a p)] := by
  unfold sides edgeD pt
  simp [List.range_succ]
theorem tri_answer (a b c d : Int × Int) : (decide (locI (sides [a, b, c] 3 d) < 0) || decide (0 ≤ sgnI (inc a b c d) * polyS [a, b, c])) = true ∧ (decide (locI (sides [a, b, c] 3 d) < 1) || (sgnI (inc a b c d) * polyS [a, b, c] == 1)) = true := by
  have h := triangle_law a b c d (det a b c)
  have hs : polyS [a, b, c] = sgnI (det a b c) := rfl
  rw [sides_three, hs]
  simp only at h
  obtain ⟨h1, h2⟩ := h
  constructor
  · rcases h1 with h | h <;> simp [h]
  · rcases h2 with h | h <;> simp [h]
set_option maxRecDepth 100000 in
set_option maxHeartbeats 8000000 in
theorem triangles_calls (a b c d : Int × Int) (ha : Pt a) (hb : Pt b) (hc : Pt c) (hd : Pt d) (w : World) (hG : Gl w) :
    Calls Tryz.prog 6 #[.agg #[.int .i64 a.1, .int .i64 a.2, .int .i64 b.1, .int .i64 b.2, .int .i64 c.1, .int .i64 c.2, .int .i64 d.1, .int .i64 d.2]] w fun e w' => e = .returned (.bool true) ∧ Keeps (fun _ => False) w w' := by
  have HG := Lib.hid hG
  clear hG
  have HP : Hid (Pts [a, b, c]) := Lib.hid (by intro p hp; simp only [List.mem_cons, List.not_mem_nil, or_false] at hp; rcases hp with rfl | rfl | rfl <;> assumption)
  go_enter Tryz.func6, Tryz.ntmps6
  go_upto_region 1 with fail
  obtain ⟨w1, hw1⟩ : ∃ w1, w.alloc (.cells #[.int .i64 a.1, .int .i64 a.2, .int .i64 b.1, .int .i64 b.2, .int .i64 c.1, .int .i64 c.2, .int .i64 d.1, .int .i64 d.2] 48) = w1 := ⟨_, rfl⟩
  have hg := heap_alloc_new w (.cells #[.int .i64 a.1, .int .i64 a.2, .int .i64 b.1, .int .i64 b.2, .int .i64 c.1, .int .i64 c.2, .int .i64 d.1, .int .i64 d.2] 48)
  have hk1 : Keeps (fun _ => False) w w1 := by rw [← hw1]; exact (Keeps.refl _ w).alloc _
  rw [hw1] at hg ⊢
  clear hw1
  have hlt : w.heap.size < w1.heap.size := (Array.getElem?_eq_some_iff.1 hg).1
  have hpa : ptsAt w1 (.slice (some ⟨w.heap.size, 0, none⟩) 3 4) [a, b, c] := by
    refine .inr ⟨w.heap.size, 0, 4, rfl, hlt, fun i hi => ?_⟩
    have h3 : i < 3 := hi
    have : i = 0 ∨ i = 1 ∨ i = 2 := by omega
    rcases this with rfl | rfl | rfl <;> exact ⟨cells_at hg _, cells_at hg _⟩
  have HPA0 : Hid (∀ W, Keeps (fun _ => False) w1 W → ptsAt W (.slice (some ⟨w.heap.size, 0, none⟩) 3 4) [a, b, c]) := Lib.hid (fun W hk => hpa.kept hk)
  have HGW0 : Hid (∀ W, Keeps (fun _ => False) w1 W → Gl W) := Lib.hid (fun W hk => HG.out.kept (knil hk1 hk))
  have HG1 := Lib.hid hg
  clear hg hpa
  go_wp2_with fail
  refine (pvalid_calls _ [a, b, c] (by simp) (by simp) HP.out w1 (HGW0.out _ (Keeps.refl _ _)) (HPA0.out _ (Keeps.refl _ _))).mono ?_; rintro e w2 ⟨rfl, hk2⟩
  rw [show ([a, b, c] : List (Int × Int)).length = 3 from rfl, valB_three]
  go_wp2_with fail
  refine (dvalid_calls _ [a, b, c] rfl HP.out w2 (HGW0.out _ hk2) (HPA0.out _ hk2)).mono ?_; rintro e w3 ⟨rfl, hk3⟩
  have hk13 := knil hk2 hk3
  have hg3 := (hk13.block _ hlt (fun h => h)).trans HG1.out
  have c0 : w3.cell? ⟨w.heap.size, 0, none⟩ = some (.int .i64 a.1) := cells_at hg3 0
  have c1 : w3.cell? ⟨w.heap.size, 1, none⟩ = some (.int .i64 a.2) := cells_at hg3 1
  have c2 : w3.cell? ⟨w.heap.size, 2, none⟩ = some (.int .i64 b.1) := cells_at hg3 2
  have c3 : w3.cell? ⟨w.heap.size, 3, none⟩ = some (.int .i64 b.2) := cells_at hg3 3
  have c4 : w3.cell? ⟨w.heap.size, 4, none⟩ = some (.int .i64 c.1) := cells_at hg3 4
  have c5 : w3.cell? ⟨w.heap.size, 5, none⟩ = some (.int .i64 c.2) := cells_at hg3 5
  have c6 : w3.cell? ⟨w.heap.size, 6, none⟩ = some (.int .i64 d.1) := cells_at hg3 6
  have c7 : w3.cell? ⟨w.heap.size, 7, none⟩ = some (.int .i64 d.2) := cells_at hg3 7
  clear hg3
  go_wp2_with fail
  refine (rsign_calls a b c ha hb hc w3).mono ?_; rintro e w4 ⟨rfl, hk4⟩
  have hk14 := knil hk13 hk4
  clear c0 c1 c2 c3 c4 c5 c6 c7
  by_cases hz : sgnI (det a b c) = 0
  · rw [hz]
    go_wp2_with fail
    refine (serves_calls w4 (HGW0.out _ hk14)).mono ?_; rintro e w5 ⟨rfl, hk5⟩
    go_wp2_with fail
    go_ret
    exact ⟨rfl, knil (knil hk1 hk14) hk5⟩
  have hg4 := (hk14.block _ hlt (fun h => h)).trans HG1.out
  have c6 : w4.cell? ⟨w.heap.size, 6, none⟩ = some (.int .i64 d.1) := cells_at hg4 6
  have c7 : w4.cell? ⟨w.heap.size, 7, none⟩ = some (.int .i64 d.2) := cells_at hg4 7
  have hl4 := (Array.getElem?_eq_some_iff.1 hg4).1
  have HT := Lib.hid (tri_answer a b c d)
  clear hg4
  have HPA : Hid (∀ W, Keeps (fun _ => False) w4.drew W → ptsAt W (.slice (some ⟨w.heap.size, 0, none⟩) 3 4) [a, b, c]) := Lib.hid (fun W hk => HPA0.out _ (knil hk14 (knil ((Keeps.refl _ w4).drewN 1) hk)))
  have HGW : Hid (∀ W, Keeps (fun _ => False) w4.drew W → Gl W) := Lib.hid (fun W hk => HGW0.out _ (knil hk14 (knil ((Keeps.refl _ w4).drewN 1) hk)))
  go_upto_region 6 with fail
  rw [show (sgnI (det a b c) == 0) = false from by simp [hz]]
  go_cut [4, 5] from 21 (fun s t wx => s = .int .i64 (locI (sides [a, b, c] 3 d)) ∧ t = .int .i64 (sgnI (inc a b c d) * polyS [a, b, c]) ∧ Keeps (fun _ => False) w4 wx)
  case first =>
    refine wp_region_late (fun W => W.cell? ⟨w.heap.size, 6, none⟩ = some (.int .i64 d.1) ∧ W.cell? ⟨w.heap.size, 7, none⟩ = some (.int .i64 d.2)) [] (by kernel_rfl) ?_
    have hS : w4.drew.cell? ⟨w.heap.size, 6, none⟩ = some (.int .i64 d.1) ∧ w4.drew.cell? ⟨w.heap.size, 7, none⟩ = some (.int .i64 d.2) := ⟨c6, c7⟩
    have hkd0 : Keeps (fun _ => False) w4 w4.drew := (Keeps.refl _ w4).drewN 1
    have hkr : Keeps (fun _ => False) w4.drew w4.drew := Keeps.refl _ _
    have hlt0 : w.heap.size < w4.drew.heap.size := hl4
    generalize w4.drew = wd at hS hkd0 hkr hlt0 HPA HGW ⊢
    refine wpAnyL_any (i := 0) (oi := _) (v := .slice (some ⟨w.heap.size, 0, none⟩) 3 4) rfl (by kernel_rfl) (by kernel_rfl) (by kernel_rfl) (by kernel_rfl) (fun _ _ _ h => (h : False).elim) (Or.inl ⟨by kernel_rfl, ?_⟩) (fun _ => by assumption) ?_
    · intro w _
      go_simp
    try simp only [List.getElem_toArray, List.getElem_cons_zero, List.getElem_cons_succ, Act.put, List.setIfInBounds_toArray, List.set_cons_zero, List.set_cons_succ]
    refine wpAnyL_any (i := 1) (oi := _) (v := .pointer (some ⟨w.heap.size, 6, none⟩)) rfl (by kernel_rfl) (by kernel_rfl) (by kernel_rfl) (by kernel_rfl) (fun _ _ _ h => (h : False).elim) (Or.inl ⟨by kernel_rfl, ?_⟩) (fun _ => by assumption) ?_
    · intro w _
      go_simp
    try simp only [List.getElem_toArray, List.getElem_cons_zero, List.getElem_cons_succ, Act.put, List.setIfInBounds_toArray, List.set_cons_zero, List.set_cons_succ]
    refine wpAnyL_take (i := 2) (oi := _) (v := .agg #[.int .i64 d.1, .int .i64 d.2]) rfl (by kernel_rfl) (by kernel_rfl) (by kernel_rfl) (by kernel_rfl) (fun _ _ _ h => (h : False).elim) (Or.inl ⟨by kernel_rfl, ?_⟩) (by assumption) ?_
    · intro w hSw
      obtain ⟨s0, s1⟩ := hSw
      go_simp
    try simp only [List.getElem_toArray, List.getElem_cons_zero, List.getElem_cons_succ, Act.put, List.setIfInBounds_toArray, List.set_cons_zero, List.set_cons_succ]
    refine wpAnyL_any (i := 4) (oi := _) (v := .slice (some ⟨w.heap.size, 0, none⟩) 3 4) rfl (by kernel_rfl) (by kernel_rfl) (by kernel_rfl) (by kernel_rfl) (fun _ _ _ h => (h : False).elim) (Or.inl ⟨by kernel_rfl, ?_⟩) (fun _ => by assumption) ?_
    · intro w _
      go_simp
    try simp only [List.getElem_toArray, List.getElem_cons_zero, List.getElem_cons_succ, Act.put, List.setIfInBounds_toArray, List.set_cons_zero, List.set_cons_succ]
    refine wpAnyL_any (i := 5) (oi := _) (v := .pointer (some ⟨w.heap.size, 6, none⟩)) rfl (by kernel_rfl) (by kernel_rfl) (by kernel_rfl) (by kernel_rfl) (fun _ _ _ h => (h : False).elim) (Or.inl ⟨by kernel_rfl, ?_⟩) (fun _ => by assumption) ?_
    · intro w _
      go_simp
    try simp only [List.getElem_toArray, List.getElem_cons_zero, List.getElem_cons_succ, Act.put, List.setIfInBounds_toArray, List.set_cons_zero, List.set_cons_succ]
    refine wpAnyL_take (i := 6) (oi := _) (v := .agg #[.int .i64 d.1, .int .i64 d.2]) rfl (by kernel_rfl) (by kernel_rfl) (by kernel_rfl) (by kernel_rfl) (fun _ _ _ h => (h : False).elim) (Or.inl ⟨by kernel_rfl, ?_⟩) (by assumption) ?_
    · intro w hSw
      obtain ⟨s0, s1⟩ := hSw
      go_simp
    try simp only [List.getElem_toArray, List.getElem_cons_zero, List.getElem_cons_succ, Act.put, List.setIfInBounds_toArray, List.set_cons_zero, List.set_cons_succ]
    refine wpAnyL_next (i := 3) (by kernel_rfl) rfl (fun K hK => ?_)
    go_simp
    refine (plocate_calls _ [a, b, c] d (by simp) (by simp) HP.out hd wd (HGW.out _ hkr) (HPA.out _ hkr)).mono ?_; rintro e x1 ⟨rfl, hkp⟩
    have hx1 : Keeps (fun _ => False) wd x1 := knil hkr hkp
    go_wp2_with fail
    refine hK.out _ _ ⟨((hx1).cell (p := ⟨w.heap.size, 6, none⟩) hlt0 (fun h => h)).trans hS.1, ((hx1).cell (p := ⟨w.heap.size, 7, none⟩) hlt0 (fun h => h)).trans hS.2⟩ (fun hHeld => ?_)
    clear hK K
    try simp only [List.getElem_toArray, List.getElem_cons_zero, List.getElem_cons_succ, Act.put, List.setIfInBounds_toArray, List.set_cons_zero, List.set_cons_succ]
    refine wpAnyL_next (i := 7) (by kernel_rfl) rfl (fun K hK => ?_)
    go_simp
    refine (dlocate_calls _ [a, b, c] d rfl HP.out hd x1 (HGW.out _ hx1) (HPA.out _ hx1)).mono ?_; rintro e x2 ⟨rfl, hkd⟩
    rw [show inc (pt [a, b, c] 0) (pt [a, b, c] 1) (pt [a, b, c] 2) d = inc a b c d from rfl]
    have hx2 : Keeps (fun _ => False) wd x2 := knil hx1 hkd
    go_wp2_with fail
    refine hK.out _ _ ⟨((hx2).cell (p := ⟨w.heap.size, 6, none⟩) hlt0 (fun h => h)).trans hS.1, ((hx2).cell (p := ⟨w.heap.size, 7, none⟩) hlt0 (fun h => h)).trans hS.2⟩ (fun hHeld => ?_)
    clear hK K
    try simp only [List.getElem_toArray, List.getElem_cons_zero, List.getElem_cons_succ, Act.put, List.setIfInBounds_toArray, List.set_cons_zero, List.set_cons_succ]
    refine wpAnyL_any (i := 8) (oi := _) (v := .int .i64 (locI (sides [a, b, c] 3 d))) rfl (by kernel_rfl) (by kernel_rfl) (by kernel_rfl) (by kernel_rfl) (fun _ _ _ h => (h : False).elim) (Or.inl ⟨by kernel_rfl, ?_⟩) (fun _ => by assumption) ?_
    · intro w _
      go_simp
    try simp only [List.getElem_toArray, List.getElem_cons_zero, List.getElem_cons_succ, Act.put, List.setIfInBounds_toArray, List.set_cons_zero, List.set_cons_succ]
    refine wpAnyL_any (i := 9) (oi := _) (v := .int .i64 (sgnI (inc a b c d) * polyS [a, b, c])) rfl (by kernel_rfl) (by kernel_rfl) (by kernel_rfl) (by kernel_rfl) (fun _ _ _ h => (h : False).elim) (Or.inl ⟨by kernel_rfl, ?_⟩) (fun _ => by assumption) ?_
    · intro w _
      go_simp
    try simp only [List.getElem_toArray, List.getElem_cons_zero, List.getElem_cons_succ, Act.put, List.setIfInBounds_toArray, List.set_cons_zero, List.set_cons_succ]
    refine wpAnyL_done (by kernel_rfl) ?_ _
    refine NoPanic.normal ?_
    go_wp2_with fail
    go_meet
    exact ⟨rfl, rfl, knil hkd0 hx2⟩
  case rest =>
    obtain ⟨rfl, rfl, hk5⟩ := hcut
    clear c6 c7
    go_wp2_with fail
    refine (serves_calls wc (HGW0.out _ (knil hk14 hk5))).mono ?_; rintro e w6 ⟨rfl, hk6⟩
    have ht := HT.out
    generalize locI (sides [a, b, c] 3 d) = L at ht ⊢
    generalize sgnI (inc a b c d) * polyS [a, b, c] = D at ht ⊢
    obtain ⟨h1, h2⟩ := ht
    have hkk := knil (knil hk1 hk14) (knil hk5 hk6)
    go_wp2_with fail
    all_goals (go_ret; exact ⟨rfl, hkk⟩)
end Go.Proofs.YtmoajobnhiopiaaGreatDoor.to
