/- Encode at a request about three points, by walking its text. -/
import Derived.Test.YtmoajobnhiopiaaGreatDoorSrvF
set_option linter.unusedSimpArgs false
set_option linter.unusedVariables false
namespace Go.Proofs.YtmoajobnhiopiaaGreatDoor.sv
open Go Go.RowKit Go.Shelf Go.Maps Go.Proofs.YtmoajobnhiopiaaGreatDoor.mk Go.Proofs.YtmoajobnhiopiaaGreatDoor.tp Go.Proofs.YtmoajobnhiopiaaGreatDoor.rg Go.Proofs.YtmoajobnhiopiaaGreatDoor.lm Go.Proofs.YtmoajobnhiopiaaGreatDoor.gm Go.Proofs.YtmoajobnhiopiaaGreatDoor.po

theorem rowW_nil {w w' : World} {base n size : Nat} {e : TypeId} {v : Value} {xs : List Value} (h : w.ownsRow base e size v n xs) (hk : Keeps (fun _ => False) w w') : w'.ownsRow base e size v n xs := by
  refine ⟨h.1, ?_⟩
  rcases h.2 with h0 | ⟨g, cap, cur, he, h1, h2, h3⟩
  · exact .inl h0
  · exact .inr ⟨g, cap, cur, he, h1, (hk.block g (Array.getElem?_eq_some_iff.1 h2).1 (fun h => h)).trans h2, h3⟩
theorem Wr.kept {w0 : World} {v0 : Value} {bw B n : Nat} {W W' : World} (h : Wr w0 v0 bw B n W) (hk : Keeps (fun _ => False) W W') : Wr w0 v0 bw B n W' := by
  obtain ⟨v, l, h1, h2, h3, h4⟩ := h
  exact ⟨v, l, (hk.block bw (Array.getElem?_eq_some_iff.1 h1).1 (fun h => h)).trans h1, rowW_nil h2 hk, h3, h4.trans hk (fun i hi h => h.elim)⟩
theorem Wr.keeps {w0 : World} {v0 : Value} {bw B n : Nat} {W : World} (h : Wr w0 v0 bw B n W) : Keeps (fun j => j = bw ∨ some j = v0.ownBlock) w0 W := by
  obtain ⟨v, l, h1, h2, h3, h4⟩ := h
  exact h4
/-- The writer, told anew from where it stands. -/
theorem Wr.step {w0 : World} {v0 : Value} {bw B n : Nat} {W : World} (h : Wr w0 v0 bw B n W) (hbw : bw < w0.heap.size) (hne : v0.ownBlock ≠ some bw) :
    ∃ v1, (∀ W1, Keeps (fun _ => False) W W1 → Wr W1 v1 bw B n W1) ∧ v1.ownBlock ≠ some bw ∧ (∀ j, v1.ownBlock = some j → j < W.heap.size) ∧ ∀ n' W1 W', Keeps (fun _ => False) W W1 → Wr W1 v1 bw B n' W' → Wr w0 v0 bw B n' W' := by
  obtain ⟨v, l, h1, h2, h3, h4⟩ := h
  refine ⟨v, fun W1 hk => ⟨v, l, (hk.block bw (Array.getElem?_eq_some_iff.1 h1).1 (fun h => h)).trans h1, rowW_nil h2 hk, .inl rfl, Keeps.refl _ _⟩, fun hb => ?_, fun j hj => (h2.lt j hj).2, ?_⟩
  · rcases h3 with h3 | ⟨j, h3, hj⟩
    · exact hne (by rw [← h3, hb])
    · rw [h3] at hb; injection hb with hb; omega
  · rintro n' W1 W' hk ⟨v2, l2, k1, k2, k3, k4⟩
    have hs := hk.size
    refine ⟨v2, l2, k1, k2, ?_, (h4.trans hk (fun i hi h => h.elim)).trans k4 (fun i hi hh => ?_)⟩
    · rcases k3 with k3 | ⟨j, k3, hj⟩
      · rw [k3]; exact h3
      · exact .inr ⟨j, k3, Nat.le_trans (Nat.le_trans h4.size hs) hj⟩
    · rcases hh with hh | hh
      · exact .inl hh
      · rcases h3 with h3 | ⟨j, h3, hj⟩
        · exact .inr (by rw [hh, h3])
        · rw [h3] at hh; injection hh with hh; omega
set_option maxRecDepth 100000 in
set_option maxHeartbeats 2000000 in
theorem wpoint_calls (w0 : World) (v0 : Value) (bw B n : Nat) (p : Int × Int) (hn : n ≤ 1900) (hB : B ≤ w0.heap.size) (hbw : bw < w0.heap.size) (hne : v0.ownBlock ≠ some bw) (w : World) (h : Wr w0 v0 bw B n w) :
    Calls Tryz.prog 119 #[.pointer (some ⟨bw, 0, none⟩), .agg #[.int .i64 p.1, .int .i64 p.2]] w fun e w' => e = .returned (.tuple #[]) ∧ Wr w0 v0 bw B (n + 16) w' := by
  obtain ⟨v1, hW, hne1, hvlt, hback⟩ := h.step hbw hne
  have H := Lib.hid hW
  have HNE := Lib.hid hne1
  have HVL := Lib.hid hvlt
  have HBK := Lib.hid hback
  have hbw1 : bw < w.heap.size := Nat.lt_of_lt_of_le hbw h.keeps.size
  have hBw : B ≤ w.heap.size := Nat.le_trans hB h.keeps.size
  have hwu1 : IsU (IntKind.u64.wrap p.1) := by unfold IsU; rw [IntKind.wrap_u64]; omega
  have hwu2 : IsU (IntKind.u64.wrap p.2) := by unfold IsU; rw [IntKind.wrap_u64]; omega
  have HU1 := Lib.hid hwu1
  have HU2 := Lib.hid hwu2
  clear h hW hne1 hvlt hback hne hwu1 hwu2
  go_enter Tryz.func119, Tryz.ntmps119
  go_upto_region 1 with fail
  obtain ⟨w1, hw1⟩ : ∃ w1, w.alloc (.cells #[.int .i64 p.1, .int .i64 p.2] 35) = w1 := ⟨_, rfl⟩
  have hg := heap_alloc_new w (.cells #[.int .i64 p.1, .int .i64 p.2] 35)
  have hk1 : Keeps (fun _ => False) w w1 := by rw [← hw1]; exact (Keeps.refl _ w).alloc _
  rw [hw1] at hg ⊢
  clear hw1
  have c0 := cells_at hg 0
  have c1 := cells_at hg 1
  have HGR := Lib.hid hg
  have H1 := Lib.hid (H.out w1 hk1)
  have hl1 : w.heap.size < w1.heap.size := (Array.getElem?_eq_some_iff.1 hg).1
  clear hg
  go_wp2_with fail
  refine (wword_calls w1 v1 bw B n _ HU1.out (by omega) (by omega) (by omega) HNE.out w1 H1.out).mono ?_; rintro e w2 ⟨rfl, h2⟩
  have d1 := (h2.keeps.cell (p := ⟨w.heap.size, 1, none⟩) hl1 (by
    rintro (h | h)
    · have h' : w.heap.size = bw := h
      omega
    · have h' := HVL.out w.heap.size h.symm
      omega)).trans c1
  have H2 := Lib.hid h2
  clear c0 c1 h2
  go_wp2_with fail
  refine (wword_calls w1 v1 bw B (n + 8) _ HU2.out (by omega) (by omega) (by omega) HNE.out w2 H2.out).mono ?_; rintro e w3 ⟨rfl, h3⟩
  have H3 := Lib.hid h3
  clear h3 d1
  go_wp2
  go_end0
  exact ⟨rfl, HBK.out _ _ _ hk1 H3.out⟩
set_option maxRecDepth 100000 in
set_option maxHeartbeats 4000000 in
theorem each_calls (w0 : World) (v0 : Value) (bw B n bb oo cc : Nat) (l : List (Int × Int)) (hl : l.length ≤ 66) (hn : n ≤ 100) (hB : B ≤ w0.heap.size) (hbw : bw < w0.heap.size) (hne : v0.ownBlock ≠ some bw)
    (hbb : bb < w0.heap.size) (hb1 : bb ≠ bw) (hb2 : v0.ownBlock ≠ some bb) (hc : ∀ i, i < l.length → w0.cell? ⟨bb, oo + i * 2, none⟩ = some (.int .i64 (pt l i).1) ∧ w0.cell? ⟨bb, oo + i * 2 + 1, none⟩ = some (.int .i64 (pt l i).2)) (w : World) (h : Wr w0 v0 bw B n w) :
    Calls Tryz.prog 118 #[.slice (some ⟨bb, oo, none⟩) l.length cc, .func (.func 119) #[.pointer (some ⟨bw, 0, none⟩)] #[]] w fun e w' => e = .returned (.tuple #[]) ∧ Wr w0 v0 bw B (n + 16 * l.length) w' := by
  have H := Lib.hid h
  have HNE := Lib.hid hne
  have HB2 := Lib.hid hb2
  have HC := Lib.hid hc
  clear h hne hb2 hc
  go_enter Tryz.func118, Tryz.ntmps118
  go_wp2
  go_loopw [5, 8] (fun _ i wr => ∃ k : Nat, k ≤ l.length ∧ i = .int .i64 k ∧ RowKit.Hid (Wr w0 v0 bw B (n + 16 * k) wr)) (fun _ i _ => l.length - (intOf i).toNat)
  case atStart => exact ⟨0, Nat.zero_le _, rfl, H.out⟩
  case round =>
    obtain ⟨k, hk, rfl, HW⟩ := hrel
    by_cases hkl : k < l.length
    · have hkI : (k : Int) < (l.length : Int) := by omega
      have hk0 : (0 : Int) ≤ (k : Int) := by omega
      have hnS : ¬ (bb = bw ∨ some bb = v0.ownBlock) := by
        rintro (h | h)
        · exact hb1 h
        · exact HB2.out h.symm
      have c0 := (HW.out.keeps.cell (p := ⟨bb, oo + k * 2, none⟩) hbb hnS).trans (HC.out k hkl).1
      have c1 := (HW.out.keeps.cell (p := ⟨bb, oo + k * 2 + 1, none⟩) hbb hnS).trans (HC.out k hkl).2
      have HW2 := Lib.hid (HW.out.kept ((Keeps.refl _ wr).alloc (.cells #[.int .i64 (pt l k).1, .int .i64 (pt l k).2] 35)))
      clear hnS
      go_wp2_with fail
      refine (wpoint_calls w0 v0 bw B (n + 16 * k) (pt l k) (by omega) hB hbw HNE.out _ HW2.out).mono ?_; rintro e w3 ⟨rfl, h3⟩
      have H3 := Lib.hid h3
      clear h3 c0 c1
      go_wp2
      go_roundw
      case rel => exact ⟨k + 1, by omega, by go_num, H3⟩
      case measure => simp [intOf]; omega
    · obtain rfl : k = l.length := by omega
      go_wp2
      go_end0
      exact ⟨rfl, HW.out⟩
set_option maxRecDepth 100000 in
theorem eachQ_none (ao : Option Addr) (cap : Nat) (f : Value) (w : World) : Calls Tryz.prog 120 #[.slice ao 0 cap, f] w fun e w' => e = .returned (.tuple #[]) ∧ w' = w := by
  go_enter Tryz.func120, Tryz.ntmps120
  go_wp2
  go_loopw [5, 8] (fun _ i wr => i = .int .i64 0 ∧ wr = w) (fun _ _ _ => 0)
  case atStart => exact ⟨rfl, rfl⟩
  case round =>
    obtain ⟨rfl, rfl⟩ := hrel
    go_wp2
    go_end0
    exact ⟨rfl, rfl⟩
set_option maxRecDepth 100000 in
theorem eachR_none (ao : Option Addr) (cap : Nat) (f : Value) (w : World) : Calls Tryz.prog 92 #[.slice ao 0 cap, f] w fun e w' => e = .returned (.tuple #[]) ∧ w' = w := by
  go_enter Tryz.func92, Tryz.ntmps92
  go_wp2
  go_loopw [5, 8] (fun _ i wr => i = .int .i64 0 ∧ wr = w) (fun _ _ _ => 0)
  case atStart => exact ⟨rfl, rfl⟩
  case round =>
    obtain ⟨rfl, rfl⟩ := hrel
    go_wp2
    go_end0
    exact ⟨rfl, rfl⟩
set_option maxRecDepth 100000 in
set_option maxHeartbeats 2000000 in
theorem format_one (w : World) : Calls Tryz.prog 90 #[.agg #[.int .i64 1, .int .i64 0, .slice none 0 0, .int .i64 0]] w fun e w' => (∃ g, e = .returned (.tuple #[.slice (some ⟨g, 0, none⟩) 1 1, .int .i64 0]) ∧ w.heap.size ≤ g ∧ w'.heap[g]? = some (.cells #[.int .u8 1] 5 (0, 0))) ∧ Keeps (fun _ => False) w w' := by
  go_enter Tryz.func90, Tryz.ntmps90
  go_upto_region 1 with fail
  obtain ⟨w1, hw1⟩ : ∃ w1, w.alloc (.cells #[.int .i64 1, .int .i64 0, .slice none 0 0, .int .i64 0] 27) = w1 := ⟨_, rfl⟩
  have hg := heap_alloc_new w (.cells #[.int .i64 1, .int .i64 0, .slice none 0 0, .int .i64 0] 27)
  have hk1 : Keeps (fun _ => False) w w1 := by rw [← hw1]; exact (Keeps.refl _ w).alloc _
  rw [hw1] at hg ⊢
  clear hw1
  have hl : w.heap.size < w1.heap.size := (Array.getElem?_eq_some_iff.1 hg).1
  have c0 := cells_at hg 0
  have c1 := cells_at hg 1
  have c2 := cells_at hg 2
  have c3 := cells_at hg 3
  have HG := Lib.hid hg
  clear hg
  go_wp2_with fail
  refine (check_one w1).mono ?_; rintro e w2 ⟨rfl, hk2⟩
  have hg2 := (hk2.block _ hl (fun h => h)).trans HG.out
  have hk3 : ∀ o, Keeps (fun _ => False) w2 (w2.alloc o) := fun o => (Keeps.refl _ w2).alloc o
  have hl2 : w.heap.size < w2.heap.size := (Array.getElem?_eq_some_iff.1 hg2).1
  clear c0 c1 c2 c3
  have c0 := cells_at hg2 0
  have d0 : ∀ o, (w2.alloc o).cell? ⟨w.heap.size, 0, none⟩ = some (.int .i64 1) := fun o => ((hk3 o).cell (p := ⟨w.heap.size, 0, none⟩) hl2 (fun h => h)).trans (cells_at hg2 0)
  have d2 : ∀ o, (w2.alloc o).cell? ⟨w.heap.size, 2, none⟩ = some (.slice none 0 0) := fun o => ((hk3 o).cell (p := ⟨w.heap.size, 2, none⟩) hl2 (fun h => h)).trans (cells_at hg2 2)
  have hw8 : IntKind.u8.wrap 1 = 1 := by decide
  have HK3 := Lib.hid hk3
  clear hg2 hk3
  go_wp2_with fail
  obtain ⟨w3, hw3⟩ : ∃ w3, w2.alloc (.cells #[.int .u8 1] 5) = w3 := ⟨_, rfl⟩
  have hg3 := Lib.hid (heap_alloc_new w2 (.cells #[.int .u8 1] 5))
  have hk3 := HK3.out (.cells #[.int .u8 1] 5)
  rw [hw3] at hg3 hk3 ⊢
  have d00 := d0 (.cells #[.int .u8 1] 5)
  rw [hw3] at d00
  clear hw3 d0 d2
  go_loopw [7, 8, 5, 41] (fun _ _ s i wr => s = .slice (some ⟨w2.heap.size, 0, none⟩) 1 1 ∧ i = .int .i64 0 ∧ wr = w3) (fun _ _ _ _ _ => 0)
  case atStart => exact ⟨rfl, rfl, rfl⟩
  case round =>
    obtain ⟨rfl, rfl, rfl⟩ := hrel
    go_wp2
    go_ret2
    exact ⟨⟨_, rfl, (knil hk1 hk2).size, hg3.out⟩, knil (knil hk1 hk2) hk3⟩
end Go.Proofs.YtmoajobnhiopiaaGreatDoor.sv
