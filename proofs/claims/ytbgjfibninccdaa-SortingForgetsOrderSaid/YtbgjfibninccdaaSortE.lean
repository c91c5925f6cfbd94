/- exchange of package sorting; Less of the reference. -/
import Derived.Test.YtbgjfibninccdaaSortX
set_option linter.unusedSimpArgs false
set_option linter.unusedVariables false
namespace Go.Proofs.Ytbgjfibninccdaa.so
open Go Go.RowKit Go.Shelf Go.Proofs.Ytbgjfibninccdaa.mk Go.Proofs.Ytbgjfibninccdaa.nw Go.Proofs.Ytbgjfibninccdaa.tp Go.Proofs.Ytbgjfibninccdaa.rg Go.Proofs.Ytbgjfibninccdaa.ar

theorem four_sets (rs : List Rec) {x y : Nat} (hx : x < rs.length) (hy : y < rs.length) (hne : x ≠ y) (p q : Rec) :
    ((((rflat rs).set (x * 2) (.int .u64 p.1)).set (y * 2) (.int .u64 q.1)).set (x * 2 + 1) (.int .u64 p.2)).set (y * 2 + 1) (.int .u64 q.2) = rflat ((rs.set x p).set y q) := by
  rw [rflat_set _ y q (by rw [List.length_set]; exact hy), rflat_set _ x p hx]
  congr 1
  rw [List.set_comm _ _ (show y * 2 ≠ x * 2 + 1 by omega)]
set_option maxRecDepth 100000 in
set_option maxHeartbeats 2000000 in
theorem exch_calls (g x y n cap base : Nat) (rs : List Rec) (r s : Rec) (w : World) (h : w.ownsRow base 24 2 (.slice (some ⟨g, 0, none⟩) n cap) n (rflat rs)) (hn : rs.length = n)
    (hx : rs[x]? = some r) (hy : rs[y]? = some s) (hne : x ≠ y) (hr : RecOk r) (hs : RecOk s) :
    Calls Try.prog 38 #[.pointer (some ⟨g, x * 2, none⟩), .pointer (some ⟨g, y * 2, none⟩)] w fun e w' => e = .returned (.tuple #[]) ∧
      w'.ownsRow base 24 2 (.slice (some ⟨g, 0, none⟩) n cap) n (rflat ((rs.set x (loR r s)).set y (hiR r s))) ∧ Keeps (fun i => i = g) w w' := by
  have hxl := (List.getElem?_eq_some_iff.1 hx).1
  have hyl := (List.getElem?_eq_some_iff.1 hy).1
  have gx := rflat_get rs x r hx
  have gy := rflat_get rs y s hy
  have c0 := (h.cellAt (x * 2) (by omega)).trans gx.1
  have c1 := (h.cellAt (x * 2 + 1) (by omega)).trans gx.2
  have c2 := (h.cellAt (y * 2) (by omega)).trans gy.1
  have c3 := (h.cellAt (y * 2 + 1) (by omega)).trans gy.2
  have hg := (h.lt g rfl).2
  have H := Lib.hid h
  have Hgx := Lib.hid gx
  have Hgy := Lib.hid gy
  clear h hx hy gx gy
  go_enter Try.func38, Try.ntmps38
  go_wp2_with fail
  refine wp_region_late (fun W => W.cell? ⟨g, x * 2, none⟩ = some (.int .u64 r.1) ∧ W.cell? ⟨g, x * 2 + 1, none⟩ = some (.int .u64 r.2) ∧ W.cell? ⟨g, y * 2, none⟩ = some (.int .u64 s.1) ∧ W.cell? ⟨g, y * 2 + 1, none⟩ = some (.int .u64 s.2)) [] (by kernel_rfl) ?_
  have hS : w.drew.cell? ⟨g, x * 2, none⟩ = some (.int .u64 r.1) ∧ w.drew.cell? ⟨g, x * 2 + 1, none⟩ = some (.int .u64 r.2) ∧ w.drew.cell? ⟨g, y * 2, none⟩ = some (.int .u64 s.1) ∧ w.drew.cell? ⟨g, y * 2 + 1, none⟩ = some (.int .u64 s.2) := ⟨c0, c1, c2, c3⟩
  refine wpAnyL_any (i := 0) (oi := _) (v := .pointer (some ⟨g, y * 2, none⟩)) rfl (by kernel_rfl) (by kernel_rfl) (by kernel_rfl) (by kernel_rfl) (fun _ _ _ h => (h : False).elim) (Or.inl ⟨by kernel_rfl, ?_⟩) (fun _ => by assumption) ?_
  · intro w _
    go_simp
  try simp only [Act.put, List.setIfInBounds_toArray, List.set_cons_zero, List.set_cons_succ]
  refine wpAnyL_any (i := 1) (oi := _) (v := .pointer (some ⟨g, y * 2, none⟩)) rfl (by kernel_rfl) (by kernel_rfl) (by kernel_rfl) (by kernel_rfl) (fun _ _ _ h => (h : False).elim) (Or.inl ⟨by kernel_rfl, ?_⟩) (fun _ => by assumption) ?_
  · intro w _
    go_simp
  try simp only [Act.put, List.setIfInBounds_toArray, List.set_cons_zero, List.set_cons_succ]
  refine wpAnyL_take (i := 2) (oi := _) (v := .agg #[.int .u64 s.1, .int .u64 s.2]) rfl (by kernel_rfl) (by kernel_rfl) (by kernel_rfl) (by kernel_rfl) (fun _ _ _ h => (h : False).elim) (Or.inl ⟨by kernel_rfl, ?_⟩) (by assumption) ?_
  · intro w hSw
    obtain ⟨s0, s1, s2, s3⟩ := hSw
    go_simp
  try simp only [Act.put, List.setIfInBounds_toArray, List.set_cons_zero, List.set_cons_succ]
  refine wpAnyL_any (i := 3) (oi := _) (v := .pointer (some ⟨g, x * 2, none⟩)) rfl (by kernel_rfl) (by kernel_rfl) (by kernel_rfl) (by kernel_rfl) (fun _ _ _ h => (h : False).elim) (Or.inl ⟨by kernel_rfl, ?_⟩) (fun _ => by assumption) ?_
  · intro w _
    go_simp
  try simp only [Act.put, List.setIfInBounds_toArray, List.set_cons_zero, List.set_cons_succ]
  refine wpAnyL_any (i := 4) (oi := _) (v := .pointer (some ⟨g, x * 2, none⟩)) rfl (by kernel_rfl) (by kernel_rfl) (by kernel_rfl) (by kernel_rfl) (fun _ _ _ h => (h : False).elim) (Or.inl ⟨by kernel_rfl, ?_⟩) (fun _ => by assumption) ?_
  · intro w _
    go_simp
  try simp only [Act.put, List.setIfInBounds_toArray, List.set_cons_zero, List.set_cons_succ]
  refine wpAnyL_take (i := 5) (oi := _) (v := .agg #[.int .u64 r.1, .int .u64 r.2]) rfl (by kernel_rfl) (by kernel_rfl) (by kernel_rfl) (by kernel_rfl) (fun _ _ _ h => (h : False).elim) (Or.inl ⟨by kernel_rfl, ?_⟩) (by assumption) ?_
  · intro w hSw
    obtain ⟨s0, s1, s2, s3⟩ := hSw
    go_simp
  try simp only [Act.put, List.setIfInBounds_toArray, List.set_cons_zero, List.set_cons_succ]
  refine wpAnyL_next (i := 6) (by kernel_rfl) rfl (fun K hK => ?_)
  go_simp
  refine (sless_calls s.1 s.2 r.1 r.2 hs.1 hs.2 hr.1 hr.2 _).mono ?_; rintro e w1 ⟨rfl, hk1'⟩
  have hk1 : Keeps (fun _ => False) w w1 := ((Keeps.refl _ w).drewN 1).trans hk1' (fun _ _ h => h)
  clear hk1'
  go_wp2_with fail
  refine hK.out _ _ ⟨(hk1.cell (p := ⟨g, x * 2, none⟩) hg (fun h => h)).trans c0, (hk1.cell (p := ⟨g, x * 2 + 1, none⟩) hg (fun h => h)).trans c1, (hk1.cell (p := ⟨g, y * 2, none⟩) hg (fun h => h)).trans c2, (hk1.cell (p := ⟨g, y * 2 + 1, none⟩) hg (fun h => h)).trans c3⟩ (fun hHeld => ?_)
  clear hK K
  try simp only [Act.put, List.setIfInBounds_toArray, List.set_cons_zero, List.set_cons_succ]
  refine wpAnyL_next (i := 7) (by kernel_rfl) rfl (fun K hK => ?_)
  go_simp
  refine hK.out _ _ ⟨(hk1.cell (p := ⟨g, x * 2, none⟩) hg (fun h => h)).trans c0, (hk1.cell (p := ⟨g, x * 2 + 1, none⟩) hg (fun h => h)).trans c1, (hk1.cell (p := ⟨g, y * 2, none⟩) hg (fun h => h)).trans c2, (hk1.cell (p := ⟨g, y * 2 + 1, none⟩) hg (fun h => h)).trans c3⟩ (fun hHeld => ?_)
  clear hK K
  try simp only [Act.put, List.setIfInBounds_toArray, List.set_cons_zero, List.set_cons_succ]
  refine wpAnyL_done (by kernel_rfl) ?_ _
  refine NoPanic.normal ?_
  go_wp2_with fail
  have hr1 : w1.ownsRow base 24 2 (.slice (some ⟨g, 0, none⟩) n cap) n (rflat rs) := by
    refine ⟨H.out.1, ?_⟩
    rcases H.out.2 with hh | ⟨g', c, cur, he, h1, h2, h3⟩
    · exact .inl hh
    · exact .inr ⟨g', c, cur, he, h1, (hk1.block _ (Array.getElem?_eq_some_iff.1 h2).1 (fun h => h)).trans h2, h3⟩
  clear hS c0 c1 c2 c3
  have c0 := (hr1.cellAt (x * 2) (by omega)).trans Hgx.out.1
  have c1 := (hr1.cellAt (y * 2) (by omega)).trans Hgy.out.1
  have e0 := hr1.frozenAt (x * 2)
  have e2 := hr1.frozenAt (y * 2)
  have Hr1 := Lib.hid hr1
  have hg1 := Nat.lt_of_lt_of_le hg hk1.size
  have Hk1 := Lib.hid hk1
  clear hr1 hk1
  have hne2 : ¬ x * 2 = y * 2 := by omega
  refine wp_region_late (fun W => W.cell? ⟨g, x * 2, none⟩ = some (.int .u64 r.1) ∧ W.cell? ⟨g, y * 2, none⟩ = some (.int .u64 s.1)) [17] (by kernel_rfl) ?_
  have hS : w1.drew.cell? ⟨g, x * 2, none⟩ = some (.int .u64 r.1) ∧ w1.drew.cell? ⟨g, y * 2, none⟩ = some (.int .u64 s.1) := ⟨c0, c1⟩
  refine wpAnyL_any (i := 0) (oi := _) (v := .pointer (some ⟨g, x * 2, none⟩)) rfl (by kernel_rfl) (by kernel_rfl) (by kernel_rfl) (by kernel_rfl) (fun _ _ _ h => (h : False).elim) (Or.inl ⟨by kernel_rfl, ?_⟩) (fun _ => by assumption) ?_
  · intro w _
    go_simp
  try simp only [Act.put, List.setIfInBounds_toArray, List.set_cons_zero, List.set_cons_succ]
  refine wpAnyL_any (i := 1) (oi := _) (v := .pointer (some ⟨g, y * 2, none⟩)) rfl (by kernel_rfl) (by kernel_rfl) (by kernel_rfl) (by kernel_rfl) (fun _ _ _ h => (h : False).elim) (Or.inl ⟨by kernel_rfl, ?_⟩) (fun _ => by assumption) ?_
  · intro w _
    go_simp
  try simp only [Act.put, List.setIfInBounds_toArray, List.set_cons_zero, List.set_cons_succ]
  refine wpAnyL_any (i := 2) (oi := _) (v := .int .u64 (maskI (lessR s r))) rfl (by kernel_rfl) (by kernel_rfl) (by kernel_rfl) (by kernel_rfl) (fun _ _ _ h => (h : False).elim) (Or.inl ⟨by kernel_rfl, ?_⟩) (fun _ => by assumption) ?_
  · intro w _
    go_simp
  try simp only [Act.put, List.setIfInBounds_toArray, List.set_cons_zero, List.set_cons_succ]
  refine wpAnyL_any (i := 3) (oi := _) (v := .pointer (some ⟨g, x * 2, none⟩)) rfl (by kernel_rfl) (by kernel_rfl) (by kernel_rfl) (by kernel_rfl) (fun _ _ _ h => (h : False).elim) (Or.inl ⟨by kernel_rfl, ?_⟩) (fun _ => by assumption) ?_
  · intro w _
    go_simp
  try simp only [Act.put, List.setIfInBounds_toArray, List.set_cons_zero, List.set_cons_succ]
  refine wpAnyL_any (i := 4) (oi := _) (v := .pointer (some ⟨g, x * 2, none⟩)) rfl (by kernel_rfl) (by kernel_rfl) (by kernel_rfl) (by kernel_rfl) (fun _ _ _ h => (h : False).elim) (Or.inl ⟨by kernel_rfl, ?_⟩) (fun _ => by assumption) ?_
  · intro w _
    go_simp
  try simp only [Act.put, List.setIfInBounds_toArray, List.set_cons_zero, List.set_cons_succ]
  refine wpAnyL_any (i := 5) (oi := _) (v := .pointer (some ⟨g, x * 2, none⟩)) rfl (by kernel_rfl) (by kernel_rfl) (by kernel_rfl) (by kernel_rfl) (fun _ _ _ h => (h : False).elim) (Or.inl ⟨by kernel_rfl, ?_⟩) (fun _ => by assumption) ?_
  · intro w _
    go_simp
  try simp only [Act.put, List.setIfInBounds_toArray, List.set_cons_zero, List.set_cons_succ]
  refine wpAnyL_take (i := 6) (oi := _) (v := .int .u64 r.1) rfl (by kernel_rfl) (by kernel_rfl) (by kernel_rfl) (by kernel_rfl) (fun _ _ _ h => (h : False).elim) (Or.inl ⟨by kernel_rfl, ?_⟩) (by assumption) ?_
  · intro w hSw
    obtain ⟨s0, s1⟩ := hSw
    go_simp
  try simp only [Act.put, List.setIfInBounds_toArray, List.set_cons_zero, List.set_cons_succ]
  refine wpAnyL_any (i := 7) (oi := _) (v := .pointer (some ⟨g, y * 2, none⟩)) rfl (by kernel_rfl) (by kernel_rfl) (by kernel_rfl) (by kernel_rfl) (fun _ _ _ h => (h : False).elim) (Or.inl ⟨by kernel_rfl, ?_⟩) (fun _ => by assumption) ?_
  · intro w _
    go_simp
  try simp only [Act.put, List.setIfInBounds_toArray, List.set_cons_zero, List.set_cons_succ]
  refine wpAnyL_any (i := 8) (oi := _) (v := .pointer (some ⟨g, y * 2, none⟩)) rfl (by kernel_rfl) (by kernel_rfl) (by kernel_rfl) (by kernel_rfl) (fun _ _ _ h => (h : False).elim) (Or.inl ⟨by kernel_rfl, ?_⟩) (fun _ => by assumption) ?_
  · intro w _
    go_simp
  try simp only [Act.put, List.setIfInBounds_toArray, List.set_cons_zero, List.set_cons_succ]
  refine wpAnyL_any (i := 9) (oi := _) (v := .pointer (some ⟨g, y * 2, none⟩)) rfl (by kernel_rfl) (by kernel_rfl) (by kernel_rfl) (by kernel_rfl) (fun _ _ _ h => (h : False).elim) (Or.inl ⟨by kernel_rfl, ?_⟩) (fun _ => by assumption) ?_
  · intro w _
    go_simp
  try simp only [Act.put, List.setIfInBounds_toArray, List.set_cons_zero, List.set_cons_succ]
  refine wpAnyL_take (i := 10) (oi := _) (v := .int .u64 s.1) rfl (by kernel_rfl) (by kernel_rfl) (by kernel_rfl) (by kernel_rfl) (fun _ _ _ h => (h : False).elim) (Or.inl ⟨by kernel_rfl, ?_⟩) (by assumption) ?_
  · intro w hSw
    obtain ⟨s0, s1⟩ := hSw
    go_simp
  try simp only [Act.put, List.setIfInBounds_toArray, List.set_cons_zero, List.set_cons_succ]
  refine wpAnyL_next (i := 11) (by kernel_rfl) rfl (fun K hK => ?_)
  go_simp
  refine (swap_calls (maskI (lessR s r)) r.1 s.1 _).mono ?_; rintro e w5 ⟨rfl, rfl⟩
  go_wp2_with fail
  refine hK.out _ _ ⟨c0, c1⟩ (fun hHeld => ?_)
  clear hK K
  try simp only [Act.put, List.setIfInBounds_toArray, List.set_cons_zero, List.set_cons_succ]
  refine wpAnyL_any (i := 12) (oi := _) (v := .tuple #[.int .u64 (selI (maskI (lessR s r)) s.1 r.1), .int .u64 (selI (maskI (lessR s r)) r.1 s.1)]) rfl (by kernel_rfl) (by kernel_rfl) (by kernel_rfl) (by kernel_rfl) (fun _ _ _ h => (h : False).elim) (Or.inl ⟨by kernel_rfl, ?_⟩) (fun _ => by assumption) ?_
  · intro w _
    go_simp
  try simp only [Act.put, List.setIfInBounds_toArray, List.set_cons_zero, List.set_cons_succ]
  refine wpAnyL_any (i := 13) (oi := _) (v := .int .u64 (selI (maskI (lessR s r)) s.1 r.1)) rfl (by kernel_rfl) (by kernel_rfl) (by kernel_rfl) (by kernel_rfl) (fun _ _ _ h => (h : False).elim) (Or.inl ⟨by kernel_rfl, ?_⟩) (fun _ => by assumption) ?_
  · intro w _
    go_simp
  try simp only [Act.put, List.setIfInBounds_toArray, List.set_cons_zero, List.set_cons_succ]
  refine wpAnyL_any (i := 14) (oi := _) (v := .int .u64 (selI (maskI (lessR s r)) r.1 s.1)) rfl (by kernel_rfl) (by kernel_rfl) (by kernel_rfl) (by kernel_rfl) (fun _ _ _ h => (h : False).elim) (Or.inl ⟨by kernel_rfl, ?_⟩) (fun _ => by assumption) ?_
  · intro w _
    go_simp
  try simp only [Act.put, List.setIfInBounds_toArray, List.set_cons_zero, List.set_cons_succ]
  refine wpAnyL_any (i := 15) (oi := _) (v := .pointer (some ⟨g, x * 2, none⟩)) rfl (by kernel_rfl) (by kernel_rfl) (by kernel_rfl) (by kernel_rfl) (fun _ _ _ h => (h : False).elim) (Or.inl ⟨by kernel_rfl, ?_⟩) (fun _ => by assumption) ?_
  · intro w _
    go_simp
  try simp only [Act.put, List.setIfInBounds_toArray, List.set_cons_zero, List.set_cons_succ]
  refine wpAnyL_any (i := 16) (oi := _) (v := .pointer (some ⟨g, x * 2, none⟩)) rfl (by kernel_rfl) (by kernel_rfl) (by kernel_rfl) (by kernel_rfl) (fun _ _ _ h => (h : False).elim) (Or.inl ⟨by kernel_rfl, ?_⟩) (fun _ => by assumption) ?_
  · intro w _
    go_simp
  try simp only [Act.put, List.setIfInBounds_toArray, List.set_cons_zero, List.set_cons_succ]
  refine wpAnyL_late (i := 17) (by kernel_rfl) rfl (by kernel_rfl) (fun K hK => ?_)
  go_simp
  refine hK.out _ _ (fun _ => ?_)
  clear hK K
  try simp only [Act.put, List.setIfInBounds_toArray, List.set_cons_zero, List.set_cons_succ]
  refine wpAnyL_after (i := 18) (oi := _) (v := .pointer (some ⟨g, y * 2, none⟩)) rfl (by kernel_rfl) (by kernel_rfl) (by kernel_rfl) (by kernel_rfl) (by kernel_rfl) (fun _ _ _ h => (h : False).elim) (Or.inl ⟨by kernel_rfl, ?_⟩) ?_
  · intro w _
    go_simp
  try simp only [Act.put, List.setIfInBounds_toArray, List.set_cons_zero, List.set_cons_succ]
  refine wpAnyL_after (i := 19) (oi := _) (v := .pointer (some ⟨g, y * 2, none⟩)) rfl (by kernel_rfl) (by kernel_rfl) (by kernel_rfl) (by kernel_rfl) (by kernel_rfl) (fun _ _ _ h => (h : False).elim) (Or.inl ⟨by kernel_rfl, ?_⟩) ?_
  · intro w _
    go_simp
  try simp only [Act.put, List.setIfInBounds_toArray, List.set_cons_zero, List.set_cons_succ]
  refine wpAnyL_late (i := 20) (by kernel_rfl) rfl (by kernel_rfl) (fun K hK => ?_)
  go_simp
  refine hK.out _ _ (fun _ => ?_)
  clear hK K
  try simp only [Act.put, List.setIfInBounds_toArray, List.set_cons_zero, List.set_cons_succ]
  refine wpAnyL_done (by kernel_rfl) ?_ _
  refine NoPanic.normal ?_
  go_wp2_with fail
  clear hS c0 c1 e0 e2
  obtain ⟨w2, hw2⟩ : ∃ w2, (w1.setCell ⟨g, x * 2, none⟩ (.int .u64 (selI (maskI (lessR s r)) s.1 r.1))).setCell ⟨g, y * 2, none⟩ (.int .u64 (selI (maskI (lessR s r)) r.1 s.1)) = w2 := ⟨_, rfl⟩
  rw [hw2]
  have hr2 := ((Hr1.out.stored (x * 2) (.int .u64 (selI (maskI (lessR s r)) s.1 r.1))).1.stored (y * 2) (.int .u64 (selI (maskI (lessR s r)) r.1 s.1))).1
  rw [hw2] at hr2
  have hk2 : Keeps (fun i => i = g) w w2 := by
    rw [← hw2]
    exact ((show Keeps (fun i => i = g) w w1 from Hk1.out.mono (fun _ _ h => h.elim)).setCell ⟨g, x * 2, none⟩ (fun _ => rfl) _).setCell ⟨g, y * 2, none⟩ (fun _ => rfl) _
  clear hw2
  have c0 : w2.cell? ⟨g, x * 2 + 1, none⟩ = some (.int .u64 r.2) := (hr2.cellAt (x * 2 + 1) (by omega)).trans (by rw [List.getElem?_set_ne (by omega), List.getElem?_set_ne (by omega)]; exact Hgx.out.2)
  have c1 : w2.cell? ⟨g, y * 2 + 1, none⟩ = some (.int .u64 s.2) := (hr2.cellAt (y * 2 + 1) (by omega)).trans (by rw [List.getElem?_set_ne (by omega), List.getElem?_set_ne (by omega)]; exact Hgy.out.2)
  have e0 := hr2.frozenAt (x * 2 + 1)
  have e2 := hr2.frozenAt (y * 2 + 1)
  have hr3 := ((hr2.stored (x * 2 + 1) (.int .u64 (selI (maskI (lessR s r)) s.2 r.2))).1.stored (y * 2 + 1) (.int .u64 (selI (maskI (lessR s r)) r.2 s.2))).1
  have hsel : ∀ (a b : Int) (ha : IsU a) (hb : IsU b), selI (maskI (lessR s r)) a b = if lessR s r then a else b := fun a b ha hb => selI_mask ha hb _
  have e4 : (.int .u64 (selI (maskI (lessR s r)) s.1 r.1) : Value) = .int .u64 (loR r s).1 := by rw [hsel _ _ hs.1 hr.1]; unfold loR; split <;> rfl
  have e5 : (.int .u64 (selI (maskI (lessR s r)) r.1 s.1) : Value) = .int .u64 (hiR r s).1 := by rw [hsel _ _ hr.1 hs.1]; unfold hiR; split <;> rfl
  have e6 : (.int .u64 (selI (maskI (lessR s r)) s.2 r.2) : Value) = .int .u64 (loR r s).2 := by rw [hsel _ _ hs.2 hr.2]; unfold loR; split <;> rfl
  have e7 : (.int .u64 (selI (maskI (lessR s r)) r.2 s.2) : Value) = .int .u64 (hiR r s).2 := by rw [hsel _ _ hr.2 hs.2]; unfold hiR; split <;> rfl
  have Hr3 := Lib.hid (show ((w2.setCell ⟨g, x * 2 + 1, none⟩ (.int .u64 (selI (maskI (lessR s r)) s.2 r.2))).setCell ⟨g, y * 2 + 1, none⟩ (.int .u64 (selI (maskI (lessR s r)) r.2 s.2))).ownsRow base 24 2 (.slice (some ⟨g, 0, none⟩) n cap) n (rflat ((rs.set x (loR r s)).set y (hiR r s))) by
    rw [← four_sets rs hxl hyl hne, ← e4, ← e5, ← e6, ← e7]
    exact hr3)
  have Hk3 := Lib.hid ((hk2.setCell ⟨g, x * 2 + 1, none⟩ (fun _ => rfl) (.int .u64 (selI (maskI (lessR s r)) s.2 r.2))).setCell ⟨g, y * 2 + 1, none⟩ (fun _ => rfl) (.int .u64 (selI (maskI (lessR s r)) r.2 s.2)))
  clear hr2 hr3 hk2 hsel e4 e5 e6 e7
  have hne3 : ¬ x * 2 + 1 = y * 2 + 1 := by omega
  refine wp_region_late (fun W => W.cell? ⟨g, x * 2 + 1, none⟩ = some (.int .u64 r.2) ∧ W.cell? ⟨g, y * 2 + 1, none⟩ = some (.int .u64 s.2)) [17] (by kernel_rfl) ?_
  have hS : w2.drew.cell? ⟨g, x * 2 + 1, none⟩ = some (.int .u64 r.2) ∧ w2.drew.cell? ⟨g, y * 2 + 1, none⟩ = some (.int .u64 s.2) := ⟨c0, c1⟩
  refine wpAnyL_any (i := 0) (oi := _) (v := .pointer (some ⟨g, x * 2, none⟩)) rfl (by kernel_rfl) (by kernel_rfl) (by kernel_rfl) (by kernel_rfl) (fun _ _ _ h => (h : False).elim) (Or.inl ⟨by kernel_rfl, ?_⟩) (fun _ => by assumption) ?_
  · intro w _
    go_simp
  try simp only [Act.put, List.setIfInBounds_toArray, List.set_cons_zero, List.set_cons_succ]
  refine wpAnyL_any (i := 1) (oi := _) (v := .pointer (some ⟨g, y * 2, none⟩)) rfl (by kernel_rfl) (by kernel_rfl) (by kernel_rfl) (by kernel_rfl) (fun _ _ _ h => (h : False).elim) (Or.inl ⟨by kernel_rfl, ?_⟩) (fun _ => by assumption) ?_
  · intro w _
    go_simp
  try simp only [Act.put, List.setIfInBounds_toArray, List.set_cons_zero, List.set_cons_succ]
  refine wpAnyL_any (i := 2) (oi := _) (v := .int .u64 (maskI (lessR s r))) rfl (by kernel_rfl) (by kernel_rfl) (by kernel_rfl) (by kernel_rfl) (fun _ _ _ h => (h : False).elim) (Or.inl ⟨by kernel_rfl, ?_⟩) (fun _ => by assumption) ?_
  · intro w _
    go_simp
  try simp only [Act.put, List.setIfInBounds_toArray, List.set_cons_zero, List.set_cons_succ]
  refine wpAnyL_any (i := 3) (oi := _) (v := .pointer (some ⟨g, x * 2, none⟩)) rfl (by kernel_rfl) (by kernel_rfl) (by kernel_rfl) (by kernel_rfl) (fun _ _ _ h => (h : False).elim) (Or.inl ⟨by kernel_rfl, ?_⟩) (fun _ => by assumption) ?_
  · intro w _
    go_simp
  try simp only [Act.put, List.setIfInBounds_toArray, List.set_cons_zero, List.set_cons_succ]
  refine wpAnyL_any (i := 4) (oi := _) (v := .pointer (some ⟨g, x * 2, none⟩)) rfl (by kernel_rfl) (by kernel_rfl) (by kernel_rfl) (by kernel_rfl) (fun _ _ _ h => (h : False).elim) (Or.inl ⟨by kernel_rfl, ?_⟩) (fun _ => by assumption) ?_
  · intro w _
    go_simp
  try simp only [Act.put, List.setIfInBounds_toArray, List.set_cons_zero, List.set_cons_succ]
  refine wpAnyL_any (i := 5) (oi := _) (v := .pointer (some ⟨g, x * 2 + 1, none⟩)) rfl (by kernel_rfl) (by kernel_rfl) (by kernel_rfl) (by kernel_rfl) (fun _ _ _ h => (h : False).elim) (Or.inl ⟨by kernel_rfl, ?_⟩) (fun _ => by assumption) ?_
  · intro w _
    go_simp
  try simp only [Act.put, List.setIfInBounds_toArray, List.set_cons_zero, List.set_cons_succ]
  refine wpAnyL_take (i := 6) (oi := _) (v := .int .u64 r.2) rfl (by kernel_rfl) (by kernel_rfl) (by kernel_rfl) (by kernel_rfl) (fun _ _ _ h => (h : False).elim) (Or.inl ⟨by kernel_rfl, ?_⟩) (by assumption) ?_
  · intro w hSw
    obtain ⟨s0, s1⟩ := hSw
    go_simp
  try simp only [Act.put, List.setIfInBounds_toArray, List.set_cons_zero, List.set_cons_succ]
  refine wpAnyL_any (i := 7) (oi := _) (v := .pointer (some ⟨g, y * 2, none⟩)) rfl (by kernel_rfl) (by kernel_rfl) (by kernel_rfl) (by kernel_rfl) (fun _ _ _ h => (h : False).elim) (Or.inl ⟨by kernel_rfl, ?_⟩) (fun _ => by assumption) ?_
  · intro w _
    go_simp
  try simp only [Act.put, List.setIfInBounds_toArray, List.set_cons_zero, List.set_cons_succ]
  refine wpAnyL_any (i := 8) (oi := _) (v := .pointer (some ⟨g, y * 2, none⟩)) rfl (by kernel_rfl) (by kernel_rfl) (by kernel_rfl) (by kernel_rfl) (fun _ _ _ h => (h : False).elim) (Or.inl ⟨by kernel_rfl, ?_⟩) (fun _ => by assumption) ?_
  · intro w _
    go_simp
  try simp only [Act.put, List.setIfInBounds_toArray, List.set_cons_zero, List.set_cons_succ]
  refine wpAnyL_any (i := 9) (oi := _) (v := .pointer (some ⟨g, y * 2 + 1, none⟩)) rfl (by kernel_rfl) (by kernel_rfl) (by kernel_rfl) (by kernel_rfl) (fun _ _ _ h => (h : False).elim) (Or.inl ⟨by kernel_rfl, ?_⟩) (fun _ => by assumption) ?_
  · intro w _
    go_simp
  try simp only [Act.put, List.setIfInBounds_toArray, List.set_cons_zero, List.set_cons_succ]
  refine wpAnyL_take (i := 10) (oi := _) (v := .int .u64 s.2) rfl (by kernel_rfl) (by kernel_rfl) (by kernel_rfl) (by kernel_rfl) (fun _ _ _ h => (h : False).elim) (Or.inl ⟨by kernel_rfl, ?_⟩) (by assumption) ?_
  · intro w hSw
    obtain ⟨s0, s1⟩ := hSw
    go_simp
  try simp only [Act.put, List.setIfInBounds_toArray, List.set_cons_zero, List.set_cons_succ]
  refine wpAnyL_next (i := 11) (by kernel_rfl) rfl (fun K hK => ?_)
  go_simp
  refine (swap_calls (maskI (lessR s r)) r.2 s.2 _).mono ?_; rintro e w5 ⟨rfl, rfl⟩
  go_wp2_with fail
  refine hK.out _ _ ⟨c0, c1⟩ (fun hHeld => ?_)
  clear hK K
  try simp only [Act.put, List.setIfInBounds_toArray, List.set_cons_zero, List.set_cons_succ]
  refine wpAnyL_any (i := 12) (oi := _) (v := .tuple #[.int .u64 (selI (maskI (lessR s r)) s.2 r.2), .int .u64 (selI (maskI (lessR s r)) r.2 s.2)]) rfl (by kernel_rfl) (by kernel_rfl) (by kernel_rfl) (by kernel_rfl) (fun _ _ _ h => (h : False).elim) (Or.inl ⟨by kernel_rfl, ?_⟩) (fun _ => by assumption) ?_
  · intro w _
    go_simp
  try simp only [Act.put, List.setIfInBounds_toArray, List.set_cons_zero, List.set_cons_succ]
  refine wpAnyL_any (i := 13) (oi := _) (v := .int .u64 (selI (maskI (lessR s r)) s.2 r.2)) rfl (by kernel_rfl) (by kernel_rfl) (by kernel_rfl) (by kernel_rfl) (fun _ _ _ h => (h : False).elim) (Or.inl ⟨by kernel_rfl, ?_⟩) (fun _ => by assumption) ?_
  · intro w _
    go_simp
  try simp only [Act.put, List.setIfInBounds_toArray, List.set_cons_zero, List.set_cons_succ]
  refine wpAnyL_any (i := 14) (oi := _) (v := .int .u64 (selI (maskI (lessR s r)) r.2 s.2)) rfl (by kernel_rfl) (by kernel_rfl) (by kernel_rfl) (by kernel_rfl) (fun _ _ _ h => (h : False).elim) (Or.inl ⟨by kernel_rfl, ?_⟩) (fun _ => by assumption) ?_
  · intro w _
    go_simp
  try simp only [Act.put, List.setIfInBounds_toArray, List.set_cons_zero, List.set_cons_succ]
  refine wpAnyL_any (i := 15) (oi := _) (v := .pointer (some ⟨g, x * 2, none⟩)) rfl (by kernel_rfl) (by kernel_rfl) (by kernel_rfl) (by kernel_rfl) (fun _ _ _ h => (h : False).elim) (Or.inl ⟨by kernel_rfl, ?_⟩) (fun _ => by assumption) ?_
  · intro w _
    go_simp
  try simp only [Act.put, List.setIfInBounds_toArray, List.set_cons_zero, List.set_cons_succ]
  refine wpAnyL_any (i := 16) (oi := _) (v := .pointer (some ⟨g, x * 2 + 1, none⟩)) rfl (by kernel_rfl) (by kernel_rfl) (by kernel_rfl) (by kernel_rfl) (fun _ _ _ h => (h : False).elim) (Or.inl ⟨by kernel_rfl, ?_⟩) (fun _ => by assumption) ?_
  · intro w _
    go_simp
  try simp only [Act.put, List.setIfInBounds_toArray, List.set_cons_zero, List.set_cons_succ]
  refine wpAnyL_late (i := 17) (by kernel_rfl) rfl (by kernel_rfl) (fun K hK => ?_)
  go_simp
  refine hK.out _ _ (fun _ => ?_)
  clear hK K
  try simp only [Act.put, List.setIfInBounds_toArray, List.set_cons_zero, List.set_cons_succ]
  refine wpAnyL_after (i := 18) (oi := _) (v := .pointer (some ⟨g, y * 2, none⟩)) rfl (by kernel_rfl) (by kernel_rfl) (by kernel_rfl) (by kernel_rfl) (by kernel_rfl) (fun _ _ _ h => (h : False).elim) (Or.inl ⟨by kernel_rfl, ?_⟩) ?_
  · intro w _
    go_simp
  try simp only [Act.put, List.setIfInBounds_toArray, List.set_cons_zero, List.set_cons_succ]
  refine wpAnyL_after (i := 19) (oi := _) (v := .pointer (some ⟨g, y * 2 + 1, none⟩)) rfl (by kernel_rfl) (by kernel_rfl) (by kernel_rfl) (by kernel_rfl) (by kernel_rfl) (fun _ _ _ h => (h : False).elim) (Or.inl ⟨by kernel_rfl, ?_⟩) ?_
  · intro w _
    go_simp
  try simp only [Act.put, List.setIfInBounds_toArray, List.set_cons_zero, List.set_cons_succ]
  refine wpAnyL_late (i := 20) (by kernel_rfl) rfl (by kernel_rfl) (fun K hK => ?_)
  go_simp
  refine hK.out _ _ (fun _ => ?_)
  clear hK K
  try simp only [Act.put, List.setIfInBounds_toArray, List.set_cons_zero, List.set_cons_succ]
  refine wpAnyL_done (by kernel_rfl) ?_ _
  refine NoPanic.normal ?_
  go_wp2_with fail
  go_end0
  exact ⟨rfl, Hr3.out, Hk3.out.drewN 2⟩
theorem rless_calls (a b c d : Int) (ha : IsU a) (hb : IsU b) (hc : IsU c) (hd : IsU d) (w : World) : Calls Try.prog 14 #[.agg #[.int .u64 a, .int .u64 b], .agg #[.int .u64 c, .int .u64 d]] w fun e w' => e = .returned (.bool (lessR (a, b) (c, d))) ∧ Keeps (fun _ => False) w w' := by
  have ck1 := fun w => rclean_calls a b ha w
  have ck2 := fun w => rclean_calls c d hc w
  have hpt := less_parts (recok ha hb) (recok hc hd)
  have E1 : cleanR (a, b) = (1, b) ∨ cleanR (a, b) = (0, 0) := by
    unfold cleanR; simp only
    rcases Int.emod_two_eq a with h | h <;> rw [h]
    · right; rfl
    · left; rfl
  have E2 : cleanR (c, d) = (1, d) ∨ cleanR (c, d) = (0, 0) := by
    unfold cleanR; simp only
    rcases Int.emod_two_eq c with h | h <;> rw [h]
    · right; rfl
    · left; rfl
  obtain ⟨R, hR⟩ : ∃ R, lessR (a, b) (c, d) = R := ⟨_, rfl⟩
  rw [hR] at hpt ⊢
  clear hR
  rcases E1 with E1 | E1 <;> rcases E2 with E2 | E2 <;> rw [E1, E2] at hpt <;> rw [E1] at ck1 <;> rw [E2] at ck2 <;> clear E1 E2 <;> simp at hpt <;> subst hpt
  all_goals
    go_enter Try.func14, Try.ntmps14
    go_wp2_with fail
    refine (ck1 _).mono ?_; clear ck1; rintro e w1 ⟨rfl, hk1⟩
    have hk1' := (((Keeps.refl (fun _ => False) w).alloc (.cells #[.int .u64 a, .int .u64 b] 24)).alloc (.cells #[.int .u64 c, .int .u64 d] 24)).trans hk1 (fun _ _ h => h)
    have q0 : w1.heap[w.heap.size + 1]? = some (.cells #[.int .u64 c, .int .u64 d] 24 (0, 0)) := (hk1.block _ (by simp) (fun h => h)).trans (by
      have := heap_alloc_new (w.alloc (.cells #[.int .u64 a, .int .u64 b] 24)) (.cells #[.int .u64 c, .int .u64 d] 24)
      simpa using this)
    have r0 : w1.cell? ⟨w.heap.size + 1, 0, none⟩ = some (.int .u64 c) := by rw [cell_of_row _ _ _ _ _ _ q0]; rfl
    have r1 : w1.cell? ⟨w.heap.size + 1, 1, none⟩ = some (.int .u64 d) := by rw [cell_of_row _ _ _ _ _ _ q0]; rfl
    have hl1 : w.heap.size + 1 < w1.heap.size := (Array.getElem?_eq_some_iff.1 q0).1
    have r0 := fun o => (((Keeps.refl (fun _ => False) w1).alloc o).cell (p := ⟨w.heap.size + 1, 0, none⟩) hl1 (fun h => h)).trans r0
    have r1 := fun o => (((Keeps.refl (fun _ => False) w1).alloc o).cell (p := ⟨w.heap.size + 1, 1, none⟩) hl1 (fun h => h)).trans r1
    clear q0 hk1
    go_wp2_with fail
    refine (ck2 _).mono ?_; clear ck2; rintro e w2 ⟨rfl, hk2⟩
    have q1 := (hk2.block w1.heap.size (by simp) (fun h => h)).trans (heap_alloc_new w1 _)
    have s0 := cell_of_row _ _ 0 _ _ _ q1
    have s1 := cell_of_row _ _ 1 _ _ _ q1
    simp only [List.getElem?_toArray, List.getElem?_cons_zero, List.getElem?_cons_succ] at s0 s1
    have hl2 : w1.heap.size < w2.heap.size := (Array.getElem?_eq_some_iff.1 q1).1
    have s0 := fun o => (((Keeps.refl (fun _ => False) w2).alloc o).cell (p := ⟨w1.heap.size, 0, none⟩) hl2 (fun h => h)).trans s0
    have s1 := fun o => (((Keeps.refl (fun _ => False) w2).alloc o).cell (p := ⟨w1.heap.size, 1, none⟩) hl2 (fun h => h)).trans s1
    have Hk := Lib.hid ((hk1'.alloc _).trans hk2 (fun _ _ h => h))
    clear q1 hk2 hk1' r0 r1
    go_wp2
    all_goals
      go_ret
      exact ⟨by first | rfl | simp_all | (simp; omega), Hk.out.alloc _⟩
end Go.Proofs.Ytbgjfibninccdaa.so
