/- engine.Answer at a request about three points, by walking its text. -/
import Derived.Test.YtmoajobnhiopiaaGreatDoorSrvJ
import Derived.Deep.Cut
set_option linter.unusedSimpArgs false
set_option linter.unusedVariables false
namespace Go.Proofs.YtmoajobnhiopiaaGreatDoor.sv
open Go Go.RowKit Go.Shelf Go.Maps Go.Proofs.YtmoajobnhiopiaaGreatDoor.mk Go.Proofs.YtmoajobnhiopiaaGreatDoor.tp Go.Proofs.YtmoajobnhiopiaaGreatDoor.rg Go.Proofs.YtmoajobnhiopiaaGreatDoor.lm Go.Proofs.YtmoajobnhiopiaaGreatDoor.gm Go.Proofs.YtmoajobnhiopiaaGreatDoor.po

theorem results_ans {fn : Func} {p q : Tmp} (h : fn.results = #[.cell p 110, .tmp q]) (tmps : Array Value) (w : World) (g : Nat) (t : TypeId) (a b c : Value) (fr : Nat × Nat)
    (hp : tmps.getD p undef = .pointer (some ⟨g, 0, none⟩)) (hg : w.heap[g]? = some (.cells #[a, b, c] t fr)) : (results fn tmps).run Tryz.prog w = .ok (.tuple #[.agg #[a, b, c], tmps.getD q undef]) w := by
  have e' := run_loadVar_row (P := Tryz.prog) w g t 110 #[a, b, c] fr _ hg Tryz.underlying110 rfl (by kernel_rfl)
  rw [Array.getD_eq_getD_getElem?] at hp
  simp only [results, h]
  simp [Sem.run_bind, Result.andThen, hp, asAddr, e']
@[go_sem] theorem run_storeF {P : Program} (W : World) (a : Addr) (f : Fn) (x y : Array Value) : (store a (.func f x y)).run P W = stored P W a (.func f x y) .plain := run_store P W a _ _ rfl
theorem cells_three {w : World} {g : Nat} {t : TypeId} {fr : Nat × Nat} {z0 z1 z2 a b c : Value} (h : w.heap[g]? = some (.cells #[z0, z1, z2] t fr)) :
    (((w.setCell ⟨g, 0, none⟩ a).setCell ⟨g, 1, none⟩ b).setCell ⟨g, 2, none⟩ c).heap[g]? = some (.cells #[a, b, c] t fr) :=
  cells_put (cells_put (cells_put h 0 a) 1 b) 2 c
theorem keeps_three {a w : World} (h : Keeps (fun _ => False) a w) {g : Nat} (hb : a.heap.size ≤ g) (x0 x1 x2 : Value) : Keeps (fun _ => False) a (((w.setCell ⟨g, 0, none⟩ x0).setCell ⟨g, 1, none⟩ x1).setCell ⟨g, 2, none⟩ x2) := by
  have n : ∀ i, (⟨g, i, none⟩ : Addr).block < a.heap.size → False := fun i hp => by have : g < a.heap.size := hp; omega
  exact ((h.setCell ⟨g, 0, none⟩ (n 0) x0).setCell ⟨g, 1, none⟩ (n 1) x1).setCell ⟨g, 2, none⟩ (n 2) x2
theorem op_put {a W : World} {g : Nat} (hk : Keeps (fun _ => False) a W) (hg : W.heap[g]? = some (.cells #[.nilFunc] 198 (0, 0))) (hle : a.heap.size ≤ g) :
    ∃ g', (Value.pointer (some ⟨g, 0, none⟩)) = .pointer (some ⟨g', 0, none⟩) ∧ (Value.bool true) = .bool true ∧ (W.setCell ⟨g, 0, none⟩ (.func (.func 150) #[] #[])).heap[g']? = some (.cells #[.func (.func 150) #[] #[]] 198 (0, 0)) ∧ Keeps (fun _ => False) a (W.setCell ⟨g, 0, none⟩ (.func (.func 150) #[] #[])) :=
  ⟨g, rfl, rfl, cells_put hg 0 _, hk.setCell ⟨g, 0, none⟩ (fun hp => by have : g < a.heap.size := hp; omega) _⟩

set_option maxRecDepth 100000 in
set_option maxHeartbeats 8000000 in
theorem answer_one (bb oo cc gq cq : Nat) (l : List (Int × Int)) (hl : l.length = 3) (hp : Pts l) (w : World) (hG : Gl w) (hbb : bb < w.heap.size) (hc : ∀ i, i < l.length → w.cell? ⟨bb, oo + i * 2, none⟩ = some (.int .i64 (pt l i).1) ∧ w.cell? ⟨bb, oo + i * 2 + 1, none⟩ = some (.int .i64 (pt l i).2)) :
    Calls Tryz.prog 89 #[.pointer none, .agg #[.int .i64 1, .int .i64 0, .slice none 0 0, .int .i64 0, .slice none 0 0, .slice (some ⟨bb, oo, none⟩) 3 cc, .slice (some ⟨gq, 0, none⟩) 0 cq]] w fun e w' => e = .returned (.tuple #[.agg #[.int .i64 (polyS l + 1), .int .i64 0, .slice none 0 0], .int .i64 0]) ∧ Keeps (fun _ => False) w w' := by
  have HG := Lib.hid hG
  have HC := Lib.hid hc
  have HL := Lib.hid hl
  clear hG hc hl
  go_enter Tryz.func89, Tryz.ntmps89
  go_upto_region 1 with fail
  obtain ⟨w1, hw1⟩ : ∃ w1, (w.alloc (.cells #[.int .i64 1, .int .i64 0, .slice none 0 0, .int .i64 0, .slice none 0 0, .slice (some ⟨bb, oo, none⟩) 3 cc, .slice (some ⟨gq, 0, none⟩) 0 cq] 105)).alloc (.cells #[.int .i64 0, .int .i64 0, .slice none 0 0] 110) = w1 := ⟨_, rfl⟩
  have hg := heap2 w (.cells #[.int .i64 1, .int .i64 0, .slice none 0 0, .int .i64 0, .slice none 0 0, .slice (some ⟨bb, oo, none⟩) 3 cc, .slice (some ⟨gq, 0, none⟩) 0 cq] 105) (.cells #[.int .i64 0, .int .i64 0, .slice none 0 0] 110)
  have hk1 : Keeps (fun _ => False) w w1 := by rw [← hw1]; exact ((Keeps.refl _ w).alloc _).alloc _
  rw [hw1] at hg ⊢
  clear hw1
  have hg0 := hg.1
  have G0 := Lib.hid hg.1
  have G1 := Lib.hid hg.2
  have hl0 : w.heap.size < w1.heap.size := (Array.getElem?_eq_some_iff.1 hg.1).1
  have hl1 : w.heap.size + 1 < w1.heap.size := (Array.getElem?_eq_some_iff.1 hg.2).1
  have c0 := cells_at hg0 0
  have c1 := cells_at hg0 1
  have c2 := cells_at hg0 2
  have c3 := cells_at hg0 3
  have c4 := cells_at hg0 4
  have c5 := cells_at hg0 5
  have c6 := cells_at hg0 6
  clear hg hg0
  have hcK : ∀ W, Keeps (fun _ => False) w W → ∀ i, i < l.length → W.cell? ⟨bb, oo + i * 2, none⟩ = some (.int .i64 (pt l i).1) ∧ W.cell? ⟨bb, oo + i * 2 + 1, none⟩ = some (.int .i64 (pt l i).2) := fun W hk i hi => ⟨(hk.cell (p := ⟨bb, oo + i * 2, none⟩) hbb (fun h => h)).trans (HC.out i hi).1, (hk.cell (p := ⟨bb, oo + i * 2 + 1, none⟩) hbb (fun h => h)).trans (HC.out i hi).2⟩
  have HCK := Lib.hid hcK
  clear hcK
  go_wp2_with fail
  refine (encode_one bb oo cc gq cq l HL.out w1 (Nat.lt_of_lt_of_le hbb hk1.size) (HCK.out w1 hk1)).mono ?_; rintro e w2 ⟨⟨ve, rfl⟩, hk2⟩
  clear c0 c1 c2 c3 c4 c5 c6
  have c0 := cells_at ((hk2.block _ hl0 (fun h => h)).trans G0.out) 0
  have hlH := Nat.lt_of_lt_of_le hl0 hk2.size
  go_upto_region 4 with fail
  go_cut [8, 9] from 19 (fun p b wx => ∃ g, p = .pointer (some ⟨g, 0, none⟩) ∧ b = .bool true ∧ wx.heap[g]? = some (.cells #[.func (.func 150) #[] #[]] 198 (0, 0)) ∧ Keeps (fun _ => False) w2 wx)
  case first =>
    refine wp_region_late (fun W => W.cell? ⟨w.heap.size, 0, none⟩ = some (.int .i64 1)) [9] (by kernel_rfl) ?_
    have hS : w2.drew.cell? ⟨w.heap.size, 0, none⟩ = some (.int .i64 1) := c0
    have hwd : Keeps (fun _ => False) w2 w2.drew := (Keeps.refl _ w2).drewN 1
    generalize w2.drew = wd at hS hwd ⊢
    refine wpAnyL_any (i := 1) (oi := _) (v := .pointer (some ⟨w.heap.size, 0, none⟩)) rfl (by kernel_rfl) (by kernel_rfl) (by kernel_rfl) (by kernel_rfl) (fun _ _ _ h => (h : False).elim) (Or.inl ⟨by kernel_rfl, ?_⟩) (fun _ => by assumption) ?_
    · intro w _
      go_simp
    try simp only [List.getElem_toArray, List.getElem_cons_zero, List.getElem_cons_succ, Act.put, List.setIfInBounds_toArray, List.set_cons_zero, List.set_cons_succ]
    refine wpAnyL_any (i := 2) (oi := _) (v := .pointer (some ⟨w.heap.size, 0, none⟩)) rfl (by kernel_rfl) (by kernel_rfl) (by kernel_rfl) (by kernel_rfl) (fun _ _ _ h => (h : False).elim) (Or.inl ⟨by kernel_rfl, ?_⟩) (fun _ => by assumption) ?_
    · intro w _
      go_simp
    try simp only [List.getElem_toArray, List.getElem_cons_zero, List.getElem_cons_succ, Act.put, List.setIfInBounds_toArray, List.set_cons_zero, List.set_cons_succ]
    refine wpAnyL_take (i := 3) (oi := _) (v := .int .i64 1) rfl (by kernel_rfl) (by kernel_rfl) (by kernel_rfl) (by kernel_rfl) (fun _ _ _ h => (h : False).elim) (Or.inl ⟨by kernel_rfl, ?_⟩) (by assumption) ?_
    · intro w hSw
      skip
      go_simp
    try simp only [List.getElem_toArray, List.getElem_cons_zero, List.getElem_cons_succ, Act.put, List.setIfInBounds_toArray, List.set_cons_zero, List.set_cons_succ]
    refine wpAnyL_fork (rs := [0, 8]) (by kernel_rfl) (by simp) ?_
    refine AllL.cons (i := 0) rfl (fun K hK => ?_) ?_
    · go_simp
      refine (operations_calls _).mono ?_; rintro e x1 ⟨⟨m, rfl, hm⟩, hkk⟩
      have hx1 : Keeps (fun _ => False) w2 x1 := knil hwd hkk
      go_wp2_with fail
      refine hK.out _ _ ((hx1.cell (p := ⟨w.heap.size, 0, none⟩) hlH (fun h => h)).trans c0) (fun hHeld => ?_)
      clear hK K
      try simp only [List.getElem_toArray, List.getElem_cons_zero, List.getElem_cons_succ, Act.put, List.setIfInBounds_toArray, List.set_cons_zero, List.set_cons_succ]
      refine wpAnyL_fork (rs := [4, 8]) (by kernel_rfl) (by simp) ?_
      refine AllL.cons (i := 4) rfl (fun K hK => ?_) ?_
      · obtain ⟨es, clock, hmb, hmf⟩ := id hm
        have hlk := run_look (P := Tryz.prog) _ 200 3 198 m clock es 1 _ 0 Tryz.underlying200 Tryz.underlying3 hmb hmf
        go_wp2_with (simp only [hlk])
        refine hK.out _ _ ((hx1.cell (p := ⟨w.heap.size, 0, none⟩) hlH (fun h => h)).trans c0) (fun hHeld => ?_)
        clear hK K
        try simp only [List.getElem_toArray, List.getElem_cons_zero, List.getElem_cons_succ, Act.put, List.setIfInBounds_toArray, List.set_cons_zero, List.set_cons_succ]
        refine wpAnyL_any (i := 5) (oi := _) (v := .tuple #[.agg #[.func (.func 150) #[] #[]], .bool true]) rfl (by kernel_rfl) (by kernel_rfl) (by kernel_rfl) (by kernel_rfl) (fun _ _ _ h => (h : False).elim) (Or.inl ⟨by kernel_rfl, ?_⟩) (fun _ => by assumption) ?_
        · intro w _
          go_simp
        try simp only [List.getElem_toArray, List.getElem_cons_zero, List.getElem_cons_succ, Act.put, List.setIfInBounds_toArray, List.set_cons_zero, List.set_cons_succ]
        refine wpAnyL_any (i := 6) (oi := _) (v := .agg #[.func (.func 150) #[] #[]]) rfl (by kernel_rfl) (by kernel_rfl) (by kernel_rfl) (by kernel_rfl) (fun _ _ _ h => (h : False).elim) (Or.inl ⟨by kernel_rfl, ?_⟩) (fun _ => by assumption) ?_
        · intro w _
          go_simp
        try simp only [List.getElem_toArray, List.getElem_cons_zero, List.getElem_cons_succ, Act.put, List.setIfInBounds_toArray, List.set_cons_zero, List.set_cons_succ]
        refine wpAnyL_any (i := 7) (oi := _) (v := .bool true) rfl (by kernel_rfl) (by kernel_rfl) (by kernel_rfl) (by kernel_rfl) (fun _ _ _ h => (h : False).elim) (Or.inl ⟨by kernel_rfl, ?_⟩) (fun _ => by assumption) ?_
        · intro w _
          go_simp
        try simp only [List.getElem_toArray, List.getElem_cons_zero, List.getElem_cons_succ, Act.put, List.setIfInBounds_toArray, List.set_cons_zero, List.set_cons_succ]
        refine wpAnyL_next (i := 8) (by kernel_rfl) rfl (fun K hK => ?_)
        go_simp
        obtain ⟨y1, hwy1⟩ : ∃ y1, (x1).alloc (.cells #[.nilFunc] 198) = y1 := ⟨_, rfl⟩
        obtain ⟨g, hgg⟩ : ∃ g, (x1).heap.size = g := ⟨_, rfl⟩
        have hky : Keeps (fun _ => False) (x1) y1 := by rw [← hwy1]; exact (Keeps.refl _ _).alloc _
        have hy1 : Keeps (fun _ => False) w2 y1 := knil hx1 hky
        have hG := Lib.hid (show y1.heap[g]? = some (.cells #[.nilFunc] 198 (0, 0)) by rw [← hwy1, ← hgg]; exact heap_alloc_new _ _)
        have hgs : w2.heap.size ≤ g := by rw [← hgg]; exact (hx1).size
        try rw [hwy1]
        try rw [hgg]
        refine hK.out _ _ ((hy1.cell (p := ⟨w.heap.size, 0, none⟩) hlH (fun h => h)).trans c0) (fun hHeld => ?_)
        clear hK K
        try simp only [List.getElem_toArray, List.getElem_cons_zero, List.getElem_cons_succ, Act.put, List.setIfInBounds_toArray, List.set_cons_zero, List.set_cons_succ]
        have hgr := hG.out
        have e0 := two_frozen hgr 0
        have f0 := cells_at hgr 0
        clear hgr
        refine wpAnyL_late (i := 9) (by kernel_rfl) rfl (by kernel_rfl) (fun K hK => ?_)
        rw [if_pos (by kernel_rfl)]
        go_wp2_with fail
        refine hK.out _ _ (fun _ => ?_)
        clear hK K
        try simp only [List.getElem_toArray, List.getElem_cons_zero, List.getElem_cons_succ, Act.put, List.setIfInBounds_toArray, List.set_cons_zero, List.set_cons_succ]
        refine wpAnyL_after (i := 10) (oi := _) (v := .bool true) rfl (by kernel_rfl) (by kernel_rfl) (by kernel_rfl) (by kernel_rfl) (by kernel_rfl) (fun _ _ _ h => (h : False).elim) (Or.inl ⟨by kernel_rfl, ?_⟩) ?_
        · intro w _
          go_simp
        try simp only [List.getElem_toArray, List.getElem_cons_zero, List.getElem_cons_succ, Act.put, List.setIfInBounds_toArray, List.set_cons_zero, List.set_cons_succ]
        refine wpAnyL_done (by kernel_rfl) ?_ _
        refine NoPanic.normal ?_
        go_wp2_with fail
        go_meet
        exact op_put hy1 hG.out hgs
      refine AllL.cons (i := 8) rfl (fun K hK => ?_) AllL.nil
      go_simp
      obtain ⟨y1, hwy1⟩ : ∃ y1, (x1).alloc (.cells #[.nilFunc] 198) = y1 := ⟨_, rfl⟩
      obtain ⟨g, hgg⟩ : ∃ g, (x1).heap.size = g := ⟨_, rfl⟩
      have hky : Keeps (fun _ => False) (x1) y1 := by rw [← hwy1]; exact (Keeps.refl _ _).alloc _
      have hy1 : Keeps (fun _ => False) w2 y1 := knil hx1 hky
      have hG := Lib.hid (show y1.heap[g]? = some (.cells #[.nilFunc] 198 (0, 0)) by rw [← hwy1, ← hgg]; exact heap_alloc_new _ _)
      have hgs : w2.heap.size ≤ g := by rw [← hgg]; exact (hx1).size
      try rw [hwy1]
      try rw [hgg]
      refine hK.out _ _ ((hy1.cell (p := ⟨w.heap.size, 0, none⟩) hlH (fun h => h)).trans c0) (fun hHeld => ?_)
      clear hK K
      try simp only [List.getElem_toArray, List.getElem_cons_zero, List.getElem_cons_succ, Act.put, List.setIfInBounds_toArray, List.set_cons_zero, List.set_cons_succ]
      have hm : OpsAt y1 m := by obtain ⟨es, clock, h1, h2⟩ := hm; exact ⟨es, clock, (hky.block m (Array.getElem?_eq_some_iff.1 h1).1 (fun h => h)).trans h1, h2⟩
      refine wpAnyL_next (i := 4) (by kernel_rfl) rfl (fun K hK => ?_)
      obtain ⟨es, clock, hmb, hmf⟩ := id hm
      have hlk := run_look (P := Tryz.prog) _ 200 3 198 m clock es 1 _ 0 Tryz.underlying200 Tryz.underlying3 hmb hmf
      go_wp2_with (simp only [hlk])
      refine hK.out _ _ ((hy1.cell (p := ⟨w.heap.size, 0, none⟩) hlH (fun h => h)).trans c0) (fun hHeld => ?_)
      clear hK K
      try simp only [List.getElem_toArray, List.getElem_cons_zero, List.getElem_cons_succ, Act.put, List.setIfInBounds_toArray, List.set_cons_zero, List.set_cons_succ]
      refine wpAnyL_any (i := 5) (oi := _) (v := .tuple #[.agg #[.func (.func 150) #[] #[]], .bool true]) rfl (by kernel_rfl) (by kernel_rfl) (by kernel_rfl) (by kernel_rfl) (fun _ _ _ h => (h : False).elim) (Or.inl ⟨by kernel_rfl, ?_⟩) (fun _ => by assumption) ?_
      · intro w _
        go_simp
      try simp only [List.getElem_toArray, List.getElem_cons_zero, List.getElem_cons_succ, Act.put, List.setIfInBounds_toArray, List.set_cons_zero, List.set_cons_succ]
      refine wpAnyL_any (i := 6) (oi := _) (v := .agg #[.func (.func 150) #[] #[]]) rfl (by kernel_rfl) (by kernel_rfl) (by kernel_rfl) (by kernel_rfl) (fun _ _ _ h => (h : False).elim) (Or.inl ⟨by kernel_rfl, ?_⟩) (fun _ => by assumption) ?_
      · intro w _
        go_simp
      try simp only [List.getElem_toArray, List.getElem_cons_zero, List.getElem_cons_succ, Act.put, List.setIfInBounds_toArray, List.set_cons_zero, List.set_cons_succ]
      refine wpAnyL_any (i := 7) (oi := _) (v := .bool true) rfl (by kernel_rfl) (by kernel_rfl) (by kernel_rfl) (by kernel_rfl) (fun _ _ _ h => (h : False).elim) (Or.inl ⟨by kernel_rfl, ?_⟩) (fun _ => by assumption) ?_
      · intro w _
        go_simp
      try simp only [List.getElem_toArray, List.getElem_cons_zero, List.getElem_cons_succ, Act.put, List.setIfInBounds_toArray, List.set_cons_zero, List.set_cons_succ]
      have hgr := hG.out
      have e0 := two_frozen hgr 0
      have f0 := cells_at hgr 0
      clear hgr
      refine wpAnyL_late (i := 9) (by kernel_rfl) rfl (by kernel_rfl) (fun K hK => ?_)
      rw [if_pos (by kernel_rfl)]
      go_wp2_with fail
      refine hK.out _ _ (fun _ => ?_)
      clear hK K
      try simp only [List.getElem_toArray, List.getElem_cons_zero, List.getElem_cons_succ, Act.put, List.setIfInBounds_toArray, List.set_cons_zero, List.set_cons_succ]
      refine wpAnyL_after (i := 10) (oi := _) (v := .bool true) rfl (by kernel_rfl) (by kernel_rfl) (by kernel_rfl) (by kernel_rfl) (by kernel_rfl) (fun _ _ _ h => (h : False).elim) (Or.inl ⟨by kernel_rfl, ?_⟩) ?_
      · intro w _
        go_simp
      try simp only [List.getElem_toArray, List.getElem_cons_zero, List.getElem_cons_succ, Act.put, List.setIfInBounds_toArray, List.set_cons_zero, List.set_cons_succ]
      refine wpAnyL_done (by kernel_rfl) ?_ _
      refine NoPanic.normal ?_
      go_wp2_with fail
      go_meet
      exact op_put hy1 hG.out hgs
    refine AllL.cons (i := 8) rfl (fun K hK => ?_) AllL.nil
    go_simp
    obtain ⟨y0, hwy0⟩ : ∃ y0, (wd).alloc (.cells #[.nilFunc] 198) = y0 := ⟨_, rfl⟩
    obtain ⟨g, hgg⟩ : ∃ g, (wd).heap.size = g := ⟨_, rfl⟩
    have hky : Keeps (fun _ => False) (wd) y0 := by rw [← hwy0]; exact (Keeps.refl _ _).alloc _
    have hy0 : Keeps (fun _ => False) w2 y0 := knil hwd hky
    have hG := Lib.hid (show y0.heap[g]? = some (.cells #[.nilFunc] 198 (0, 0)) by rw [← hwy0, ← hgg]; exact heap_alloc_new _ _)
    have hgs : w2.heap.size ≤ g := by rw [← hgg]; exact (hwd).size
    try rw [hwy0]
    try rw [hgg]
    refine hK.out _ _ ((hy0.cell (p := ⟨w.heap.size, 0, none⟩) hlH (fun h => h)).trans c0) (fun hHeld => ?_)
    clear hK K
    try simp only [List.getElem_toArray, List.getElem_cons_zero, List.getElem_cons_succ, Act.put, List.setIfInBounds_toArray, List.set_cons_zero, List.set_cons_succ]
    refine wpAnyL_next (i := 0) (by kernel_rfl) rfl (fun K hK => ?_)
    go_simp
    refine (operations_calls _).mono ?_; rintro e x2 ⟨⟨m, rfl, hm⟩, hkk⟩
    have hx2 : Keeps (fun _ => False) w2 x2 := knil hy0 hkk
    have hG := Lib.hid ((hkk.block _ (Array.getElem?_eq_some_iff.1 hG.out).1 (fun h => h)).trans hG.out)
    go_wp2_with fail
    refine hK.out _ _ ((hx2.cell (p := ⟨w.heap.size, 0, none⟩) hlH (fun h => h)).trans c0) (fun hHeld => ?_)
    clear hK K
    try simp only [List.getElem_toArray, List.getElem_cons_zero, List.getElem_cons_succ, Act.put, List.setIfInBounds_toArray, List.set_cons_zero, List.set_cons_succ]
    refine wpAnyL_next (i := 4) (by kernel_rfl) rfl (fun K hK => ?_)
    obtain ⟨es, clock, hmb, hmf⟩ := id hm
    have hlk := run_look (P := Tryz.prog) _ 200 3 198 m clock es 1 _ 0 Tryz.underlying200 Tryz.underlying3 hmb hmf
    go_wp2_with (simp only [hlk])
    refine hK.out _ _ ((hx2.cell (p := ⟨w.heap.size, 0, none⟩) hlH (fun h => h)).trans c0) (fun hHeld => ?_)
    clear hK K
    try simp only [List.getElem_toArray, List.getElem_cons_zero, List.getElem_cons_succ, Act.put, List.setIfInBounds_toArray, List.set_cons_zero, List.set_cons_succ]
    refine wpAnyL_any (i := 5) (oi := _) (v := .tuple #[.agg #[.func (.func 150) #[] #[]], .bool true]) rfl (by kernel_rfl) (by kernel_rfl) (by kernel_rfl) (by kernel_rfl) (fun _ _ _ h => (h : False).elim) (Or.inl ⟨by kernel_rfl, ?_⟩) (fun _ => by assumption) ?_
    · intro w _
      go_simp
    try simp only [List.getElem_toArray, List.getElem_cons_zero, List.getElem_cons_succ, Act.put, List.setIfInBounds_toArray, List.set_cons_zero, List.set_cons_succ]
    refine wpAnyL_any (i := 6) (oi := _) (v := .agg #[.func (.func 150) #[] #[]]) rfl (by kernel_rfl) (by kernel_rfl) (by kernel_rfl) (by kernel_rfl) (fun _ _ _ h => (h : False).elim) (Or.inl ⟨by kernel_rfl, ?_⟩) (fun _ => by assumption) ?_
    · intro w _
      go_simp
    try simp only [List.getElem_toArray, List.getElem_cons_zero, List.getElem_cons_succ, Act.put, List.setIfInBounds_toArray, List.set_cons_zero, List.set_cons_succ]
    refine wpAnyL_any (i := 7) (oi := _) (v := .bool true) rfl (by kernel_rfl) (by kernel_rfl) (by kernel_rfl) (by kernel_rfl) (fun _ _ _ h => (h : False).elim) (Or.inl ⟨by kernel_rfl, ?_⟩) (fun _ => by assumption) ?_
    · intro w _
      go_simp
    try simp only [List.getElem_toArray, List.getElem_cons_zero, List.getElem_cons_succ, Act.put, List.setIfInBounds_toArray, List.set_cons_zero, List.set_cons_succ]
    have hgr := hG.out
    have e0 := two_frozen hgr 0
    have f0 := cells_at hgr 0
    clear hgr
    refine wpAnyL_late (i := 9) (by kernel_rfl) rfl (by kernel_rfl) (fun K hK => ?_)
    rw [if_pos (by kernel_rfl)]
    go_wp2_with fail
    refine hK.out _ _ (fun _ => ?_)
    clear hK K
    try simp only [List.getElem_toArray, List.getElem_cons_zero, List.getElem_cons_succ, Act.put, List.setIfInBounds_toArray, List.set_cons_zero, List.set_cons_succ]
    refine wpAnyL_after (i := 10) (oi := _) (v := .bool true) rfl (by kernel_rfl) (by kernel_rfl) (by kernel_rfl) (by kernel_rfl) (by kernel_rfl) (fun _ _ _ h => (h : False).elim) (Or.inl ⟨by kernel_rfl, ?_⟩) ?_
    · intro w _
      go_simp
    try simp only [List.getElem_toArray, List.getElem_cons_zero, List.getElem_cons_succ, Act.put, List.setIfInBounds_toArray, List.set_cons_zero, List.set_cons_succ]
    refine wpAnyL_done (by kernel_rfl) ?_ _
    refine NoPanic.normal ?_
    go_wp2_with fail
    go_meet
    exact op_put hx2 hG.out hgs
  case rest =>
    obtain ⟨g, rfl, rfl, hgo, hk3⟩ := hcut
    have hk13 := knil hk2 hk3
    have d0 : wc.cell? ⟨g, 0, none⟩ = some (.func (.func 150) #[] #[]) := cells_at hgo 0
    have hg0 := (hk13.block _ hl0 (fun h => h)).trans G0.out
    clear c0
    have c0 : wc.cell? ⟨w.heap.size, 0, none⟩ = some (.int .i64 1) := cells_at hg0 0
    have c1 : wc.cell? ⟨w.heap.size, 1, none⟩ = some (.int .i64 0) := cells_at hg0 1
    have c2 : wc.cell? ⟨w.heap.size, 2, none⟩ = some (.slice none 0 0) := cells_at hg0 2
    have c3 : wc.cell? ⟨w.heap.size, 3, none⟩ = some (.int .i64 0) := cells_at hg0 3
    have c4 : wc.cell? ⟨w.heap.size, 4, none⟩ = some (.slice none 0 0) := cells_at hg0 4
    have c5 : wc.cell? ⟨w.heap.size, 5, none⟩ = some (.slice (some ⟨bb, oo, none⟩) 3 cc) := cells_at hg0 5
    have c6 : wc.cell? ⟨w.heap.size, 6, none⟩ = some (.slice (some ⟨gq, 0, none⟩) 0 cq) := cells_at hg0 6
    clear hg0 hgo
    go_upto_region 7 with fail
    go_wp2_with fail
    refine (op1_calls _ bb oo cc gq cq l HL.out hp wc (HG.out.kept (knil hk1 hk13)) (Nat.lt_of_lt_of_le hbb (knil hk1 hk13).size) (HCK.out wc (knil hk1 hk13))).mono ?_; rintro e w5 ⟨rfl, hk5⟩
    have hk15 := knil hk13 hk5
    have hg1 := (hk15.block _ hl1 (fun h => h)).trans G1.out
    have a0 := cells_at hg1 0
    have a1 := cells_at hg1 1
    have a2 := cells_at hg1 2
    have f0 := two_frozen hg1 0
    have f1 := two_frozen hg1 1
    have f2 := two_frozen hg1 2
    have HG1 := Lib.hid hg1
    clear c0 c1 c2 c3 c4 c5 c6 d0 hg1
    go_wp2_with fail
    refine bodyPost_ret (results_ans rfl _ _ _ _ _ _ _ _ rfl (cells_three HG1.out)) rfl ⟨rfl, keeps_three (knil hk1 hk15) (by omega) _ _ _⟩
end Go.Proofs.YtmoajobnhiopiaaGreatDoor.sv
