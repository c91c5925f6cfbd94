/- serve.Traced at two fixed requests, by walking its text. -/
import Derived.Test.YtmoajobnhiopiaaGreatDoorSrvL
import Derived.Test.YtmoajobnhiopiaaGreatDoorSrvM
set_option linter.unusedSimpArgs false
set_option linter.unusedVariables false
namespace Go.Proofs.YtmoajobnhiopiaaGreatDoor.sv
open Go Go.RowKit Go.Shelf Go.Maps Go.Proofs.YtmoajobnhiopiaaGreatDoor.mk Go.Proofs.YtmoajobnhiopiaaGreatDoor.tp Go.Proofs.YtmoajobnhiopiaaGreatDoor.rg Go.Proofs.YtmoajobnhiopiaaGreatDoor.lm Go.Proofs.YtmoajobnhiopiaaGreatDoor.gm Go.Proofs.YtmoajobnhiopiaaGreatDoor.po

theorem results_slc {fn : Func} {p : Tmp} (h : fn.results = #[.cell p 22]) (tmps : Array Value) (w : World) (g : Nat) (t : TypeId) (v : Value) (fr : Nat × Nat)
    (hp : tmps.getD p undef = .pointer (some ⟨g, 0, none⟩)) (hg : w.heap[g]? = some (.cells #[v] t fr)) : (results fn tmps).run Tryz.prog w = .ok v w := by
  have hc : w.cell? ⟨g, 0, none⟩ = some v := cells_at hg 0
  have hagg : (isAgg 22).run Tryz.prog w = .ok false w := by
    unfold isAgg
    rw [Sem.run_bind, run_underlying Tryz.underlying22 w]
    rfl
  rw [resultsV_cell1 h, hp]
  simp [loadVar, Sem.run_bind, Result.andThen, asAddr, hagg, go_sem, hc]
theorem traced_mk (fn : Fn) (first cap : Array Value) (w : World) : (Instr.makeFunc fn first cap).run Tryz.prog w = .ok (.func fn first cap) w := rfl
set_option maxRecDepth 100000 in
set_option maxHeartbeats 8000000 in
theorem traced_nil (w : World) : Calls Tryz.prog 34 #[.pointer none, .slice none 0 0] w fun e w' =>
    (∃ g, e = .returned (.slice (some ⟨g, 0, none⟩) 1 1) ∧ w'.heap[g]? = some (.cells #[.int .u8 4] 5 (0, 0))) ∧ Keeps (fun _ => False) w w' := by
  have hmf := traced_mk
  go_enter_defers Tryz.func34, Tryz.ntmps34
  go_upto_region 2 with fail
  obtain ⟨w1, hw1⟩ : ∃ w1, (w.alloc (.cells #[.slice none 0 0] 22)).alloc (.cells #[.int .i64 0] 104) = w1 := ⟨_, rfl⟩
  have hg := heap2 w (.cells #[.slice none 0 0] 22) (.cells #[.int .i64 0] 104)
  have hk1 : Keeps (fun _ => False) w w1 := by rw [← hw1]; exact ((Keeps.refl _ w).alloc _).alloc _
  rw [hw1] at hg ⊢
  clear hw1
  have hl0 : w.heap.size < w1.heap.size := (Array.getElem?_eq_some_iff.1 hg.1).1
  have hl1 : w.heap.size + 1 < w1.heap.size := (Array.getElem?_eq_some_iff.1 hg.2).1
  have G0 := Lib.hid hg.1
  have G1 := Lib.hid hg.2
  clear hg
  go_wp2_with fail
  refine (decode_nil w1).mono ?_; rintro e w2 ⟨rfl, hk2⟩
  have hk12 := knil hk1 hk2
  have hl2 := hk2.size
  obtain ⟨w3, hw3⟩ : ∃ w3, w2.alloc (.cells #[.int .i64 0, .int .i64 0, .slice none 0 0, .int .i64 0, .slice none 0 0, .slice none 0 0, .slice none 0 0] 105) = w3 := ⟨_, rfl⟩
  have hk3 : Keeps (fun _ => False) w2 w3 := by rw [← hw3]; exact (Keeps.refl _ w2).alloc _
  have hk23 := knil hk2 hk3
  have hk13 := knil hk1 hk23
  have hl3 := hk23.size
  have G0' := Lib.hid ((hk23.block _ hl0 (fun h => h)).trans G0.out)
  have G1' := Lib.hid ((hk23.block _ hl1 (fun h => h)).trans G1.out)
  have e0 : w3.cell? ⟨w.heap.size + 1, 0, none⟩ = some (.int .i64 0) := cells_at G1'.out 0
  have ef := two_frozen G1'.out 0
  rw [← hw3] at e0 ef
  have HW3 := Lib.hid hw3
  clear hw3
  go_upto_region 4 with fail
  rw [HW3.out]
  clear e0 ef
  obtain ⟨w4, hw4⟩ : ∃ w4, w3.setCell ⟨w.heap.size + 1, 0, none⟩ (.int .i64 4) = w4 := ⟨_, rfl⟩
  have hk4 : Keeps (fun _ => False) w w4 := by rw [← hw4]; exact hk13.setCell ⟨w.heap.size + 1, 0, none⟩ (fun h => by have : w.heap.size + 1 < w.heap.size := h; omega) _
  have H1 : w4.heap[w.heap.size + 1]? = some (.cells #[.int .i64 4] 104 (0, 0)) := by rw [← hw4]; exact cells_put G1'.out 0 _
  have H0 : w4.heap[w.heap.size]? = some (.cells #[.slice none 0 0] 22 (0, 0)) := by rw [← hw4]; exact (Below.heap_setCell _ _ _ _ (by show w.heap.size ≠ w.heap.size + 1; omega)).trans G0'.out
  rw [hw4]
  have o0 : w4.cell? ⟨w.heap.size, 0, none⟩ = some (.slice none 0 0) := cells_at H0 0
  have of := two_frozen H0 0
  have e0 : w4.cell? ⟨w.heap.size + 1, 0, none⟩ = some (.int .i64 4) := cells_at H1 0
  go_wp2_with fail
  have H1' : (w4.setCell ⟨w.heap.size, 0, none⟩ (.slice none 0 0)).heap[w.heap.size + 1]? = some (.cells #[.int .i64 4] 104 (0, 0)) := (Below.heap_setCell _ _ _ _ (by show w.heap.size + 1 ≠ w.heap.size; omega)).trans H1
  have H0' : (w4.setCell ⟨w.heap.size, 0, none⟩ (.slice none 0 0)).heap[w.heap.size]? = some (.cells #[.slice none 0 0] 22 (0, 0)) := cells_put H0 0 _
  have hk5 : Keeps (fun _ => False) w (w4.setCell ⟨w.heap.size, 0, none⟩ (.slice none 0 0)) := hk4.setCell ⟨w.heap.size, 0, none⟩ (fun h => absurd h (Nat.lt_irrefl _)) _
  refine leaves_cons (f := 59) (args := #[.pointer (some ⟨w.heap.size + 1, 0, none⟩), .pointer (some ⟨w.heap.size, 0, none⟩)]) (by simp) (by simp [go_sem]) ?_
  refine (traced_on 4 (by decide) (by decide) _ _ .returning _ (cells_at H1' 0) _ _ H0').mono ?_
  rintro e u' w6 ⟨rfl, rfl, ⟨g, hg0, hg1⟩, hk6⟩
  exact ⟨_, results_slc rfl _ _ _ _ _ _ rfl hg0, ⟨_, rfl, hg1⟩, hk5.trans hk6 (fun k hk he => absurd (he ▸ hk) (Nat.lt_irrefl _))⟩
set_option maxRecDepth 100000 in
set_option maxHeartbeats 8000000 in
theorem traced_one (b : Nat) (bs : List Int) (hl : bs.length = 48) (hP : Pts (ptsB bs 3)) (hs : polyS (ptsB bs 3) = 1) (w : World) (hG : Gl w) (h1 : w.cell? ⟨b, 0, none⟩ = some (.int .u8 1)) (hb : BytesAt w b 1 bs) : Calls Tryz.prog 34 #[.pointer none, .slice (some ⟨b, 0, none⟩) 49 49] w fun e w' =>
    (∃ g, e = .returned (.slice (some ⟨g, 0, none⟩) 2 2) ∧ w'.heap[g]? = some (.cells #[.int .u8 0, .int .u8 2] 5 (0, 0))) ∧ Keeps (fun _ => False) w w' := by
  have hmf := traced_mk
  have HL := Lib.hid hl
  have HS := Lib.hid hs
  have HGL := Lib.hid hG
  have HH := Lib.hid h1
  have HB := Lib.hid hb
  have hlB := hb.1
  clear hl hs hG h1 hb
  go_enter_defers Tryz.func34, Tryz.ntmps34
  go_upto_region 2 with fail
  obtain ⟨w1, hw1⟩ : ∃ w1, (w.alloc (.cells #[.slice none 0 0] 22)).alloc (.cells #[.int .i64 0] 104) = w1 := ⟨_, rfl⟩
  have hg := heap2 w (.cells #[.slice none 0 0] 22) (.cells #[.int .i64 0] 104)
  have hk1 : Keeps (fun _ => False) w w1 := by rw [← hw1]; exact ((Keeps.refl _ w).alloc _).alloc _
  rw [hw1] at hg ⊢
  clear hw1
  have hl0 : w.heap.size < w1.heap.size := (Array.getElem?_eq_some_iff.1 hg.1).1
  have hl1 : w.heap.size + 1 < w1.heap.size := (Array.getElem?_eq_some_iff.1 hg.2).1
  have G0 := Lib.hid hg.1
  have G1 := Lib.hid hg.2
  clear hg
  go_wp2_with fail
  refine (decode_one b bs HL.out w1 (HGL.out.kept hk1) ((hk1.cell (p := ⟨b, 0, none⟩) hlB (fun h => h)).trans HH.out) (HB.out.kept hk1 (fun h => h))).mono ?_; rintro e w2 ⟨⟨v, rfl, hrq⟩, hk2⟩
  obtain ⟨vp, gq, cq, rfl, hpt⟩ := hrq
  obtain ⟨hnil, _⟩ | ⟨bb, oo, cc, rfl, hbb, hcc⟩ := hpt
  · exact absurd hnil (by simp [ptsB])
  have hlen : (ptsB bs 3).length = 3 := by simp [ptsB]
  obtain ⟨l, hll⟩ : ∃ l, ptsB bs 3 = l := ⟨_, rfl⟩
  rw [hll] at hlen hcc hP HS ⊢
  clear hll
  rw [show (Value.slice (some ⟨bb, oo, none⟩) l.length cc) = .slice (some ⟨bb, oo, none⟩) 3 cc by rw [hlen]]
  have HLN := Lib.hid hlen
  have HCC := Lib.hid hcc
  clear hlen hcc
  have hk12 := knil hk1 hk2
  have hl2 := hk2.size
  obtain ⟨w3, hw3⟩ : ∃ w3, w2.alloc (.cells #[.int .i64 1, .int .i64 0, .slice none 0 0, .int .i64 0, .slice none 0 0, .slice (some ⟨bb, oo, none⟩) 3 cc, .slice (some ⟨gq, 0, none⟩) 0 cq] 105) = w3 := ⟨_, rfl⟩
  have hk3 : Keeps (fun _ => False) w2 w3 := by rw [← hw3]; exact (Keeps.refl _ w2).alloc _
  have GR : w3.heap[w2.heap.size]? = some (.cells #[.int .i64 1, .int .i64 0, .slice none 0 0, .int .i64 0, .slice none 0 0, .slice (some ⟨bb, oo, none⟩) 3 cc, .slice (some ⟨gq, 0, none⟩) 0 cq] 105 (0, 0)) := by rw [← hw3]; exact heap_alloc_new _ _
  have hk23 := knil hk2 hk3
  have hk13 := knil hk1 hk23
  have hl3 := hk23.size
  have G0' := Lib.hid ((hk23.block _ hl0 (fun h => h)).trans G0.out)
  have G1' := Lib.hid ((hk23.block _ hl1 (fun h => h)).trans G1.out)
  have e0 : w3.cell? ⟨w.heap.size + 1, 0, none⟩ = some (.int .i64 0) := cells_at G1'.out 0
  have ef := two_frozen G1'.out 0
  rw [← hw3] at e0 ef
  have HW3 := Lib.hid hw3
  have HGR := Lib.hid GR
  clear hw3 GR
  go_upto_region 4 with fail
  rw [HW3.out]
  clear e0 ef
  obtain ⟨w4, hw4⟩ : ∃ w4, w3.setCell ⟨w.heap.size + 1, 0, none⟩ (.int .i64 0) = w4 := ⟨_, rfl⟩
  have hk24 : Keeps (fun _ => False) w w4 := by rw [← hw4]; exact hk13.setCell ⟨w.heap.size + 1, 0, none⟩ (fun h => by have : w.heap.size + 1 < w.heap.size := h; omega) _
  have H1 := Lib.hid (show w4.heap[w.heap.size + 1]? = some (.cells #[.int .i64 0] 104 (0, 0)) by rw [← hw4]; exact cells_put G1'.out 0 _)
  have H0 := Lib.hid (show w4.heap[w.heap.size]? = some (.cells #[.slice none 0 0] 22 (0, 0)) by rw [← hw4]; exact (Below.heap_setCell _ _ _ _ (by show w.heap.size ≠ w.heap.size + 1; omega)).trans G0'.out)
  have HR := Lib.hid (show w4.heap[w2.heap.size]? = some (.cells #[.int .i64 1, .int .i64 0, .slice none 0 0, .int .i64 0, .slice none 0 0, .slice (some ⟨bb, oo, none⟩) 3 cc, .slice (some ⟨gq, 0, none⟩) 0 cq] 105 (0, 0)) by rw [← hw4]; exact (Below.heap_setCell _ _ _ _ (by show w2.heap.size ≠ w.heap.size + 1; omega)).trans HGR.out)
  have hlb : bb < w4.heap.size := by rw [← hw4]; simpa using Nat.lt_of_lt_of_le hbb hk3.size
  have hl4 : w4.heap.size = w3.heap.size := by rw [← hw4]; simp
  have hcc4 : ∀ i, i < l.length → w4.cell? ⟨bb, oo + i * 2, none⟩ = some (.int .i64 (pt l i).1) ∧ w4.cell? ⟨bb, oo + i * 2 + 1, none⟩ = some (.int .i64 (pt l i).2) := by
    have hne : bb ≠ w.heap.size + 1 := by
      intro he
      have h := (HCC.out 0 (by rw [HLN.out]; omega)).2
      rw [he, cells_at ((hk2.block _ hl1 (fun h => h)).trans G1.out)] at h
      simp at h
    intro i hi
    rw [← hw4]
    have h := HCC.out i hi
    rw [← hk3.cell (p := ⟨bb, oo + i * 2, none⟩) hbb (fun h => h), ← hk3.cell (p := ⟨bb, oo + i * 2 + 1, none⟩) hbb (fun h => h)] at h
    exact ⟨(World.cell?_of_block (Below.heap_setCell _ _ _ _ hne)).trans h.1, (World.cell?_of_block (Below.heap_setCell _ _ _ _ hne)).trans h.2⟩
  have HC4 := Lib.hid hcc4
  clear hcc4
  rw [hw4]
  clear hw4
  have e0 : w4.cell? ⟨w.heap.size + 1, 0, none⟩ = some (.int .i64 0) := cells_at H1.out 0
  have c0 : w4.cell? ⟨w2.heap.size, 0, none⟩ = some (.int .i64 1) := cells_at HR.out 0
  have c1 : w4.cell? ⟨w2.heap.size, 1, none⟩ = some (.int .i64 0) := cells_at HR.out 1
  have c2 : w4.cell? ⟨w2.heap.size, 2, none⟩ = some (.slice none 0 0) := cells_at HR.out 2
  have c3 : w4.cell? ⟨w2.heap.size, 3, none⟩ = some (.int .i64 0) := cells_at HR.out 3
  have c4 : w4.cell? ⟨w2.heap.size, 4, none⟩ = some (.slice none 0 0) := cells_at HR.out 4
  have c5 : w4.cell? ⟨w2.heap.size, 5, none⟩ = some (.slice (some ⟨bb, oo, none⟩) 3 cc) := cells_at HR.out 5
  have c6 : w4.cell? ⟨w2.heap.size, 6, none⟩ = some (.slice (some ⟨gq, 0, none⟩) 0 cq) := cells_at HR.out 6
  go_wp2_with fail
  refine (handle_one bb oo cc gq cq l HLN.out hP w4 (HGL.out.kept hk24) hlb HC4.out).mono ?_; rintro e w5 ⟨rfl, hk5⟩
  rw [show polyS l + 1 = 2 by rw [HS.out]; rfl]
  have hk25 := knil hk24 hk5
  have H1' := Lib.hid ((hk5.block _ (by rw [hl4]; omega) (fun h => h)).trans H1.out)
  have H0' := Lib.hid ((hk5.block _ (by rw [hl4]; omega) (fun h => h)).trans H0.out)
  have HR' := Lib.hid ((hk5.block _ (Array.getElem?_eq_some_iff.1 HR.out).1 (fun h => h)).trans HR.out)
  obtain ⟨w6, hw6⟩ : ∃ w6, w5.alloc (.cells #[.int .i64 2, .int .i64 0, .slice none 0 0] 110) = w6 := ⟨_, rfl⟩
  have hk6 : Keeps (fun _ => False) w5 w6 := by rw [← hw6]; exact (Keeps.refl _ w5).alloc _
  have HA := Lib.hid (show w6.heap[w5.heap.size]? = some (.cells #[.int .i64 2, .int .i64 0, .slice none 0 0] 110 (0, 0)) by rw [← hw6]; exact heap_alloc_new _ _)
  have hk26 := knil hk25 hk6
  clear e0 c0 c1 c2 c3 c4 c5 c6 H1 H0 HR
  have H1 := Lib.hid ((hk6.block _ (Array.getElem?_eq_some_iff.1 H1'.out).1 (fun h => h)).trans H1'.out)
  have H0 := Lib.hid ((hk6.block _ (Array.getElem?_eq_some_iff.1 H0'.out).1 (fun h => h)).trans H0'.out)
  have HR := Lib.hid ((hk6.block _ (Array.getElem?_eq_some_iff.1 HR'.out).1 (fun h => h)).trans HR'.out)
  clear H1' H0' HR'
  have e0 : w6.cell? ⟨w.heap.size + 1, 0, none⟩ = some (.int .i64 0) := cells_at H1.out 0
  have ef := two_frozen H1.out 0
  rw [← hw6] at e0 ef
  have HW6 := Lib.hid hw6
  clear hw6
  go_upto_region 7 with fail
  rw [HW6.out]
  clear e0 ef
  obtain ⟨w7, hw7⟩ : ∃ w7, w6.setCell ⟨w.heap.size + 1, 0, none⟩ (.int .i64 0) = w7 := ⟨_, rfl⟩
  have hn5 : w2.heap.size < w5.heap.size := by have := hk5.size; have := (Array.getElem?_eq_some_iff.1 HGR.out).1; omega
  have hk27 : Keeps (fun _ => False) w w7 := by rw [← hw7]; exact hk26.setCell ⟨w.heap.size + 1, 0, none⟩ (fun h => by have : w.heap.size + 1 < w.heap.size := h; omega) _
  have J1 := Lib.hid (show w7.heap[w.heap.size + 1]? = some (.cells #[.int .i64 0] 104 (0, 0)) by rw [← hw7]; exact cells_put H1.out 0 _)
  have J0 := Lib.hid (show w7.heap[w.heap.size]? = some (.cells #[.slice none 0 0] 22 (0, 0)) by rw [← hw7]; exact (Below.heap_setCell _ _ _ _ (by show w.heap.size ≠ w.heap.size + 1; omega)).trans H0.out)
  have JR := Lib.hid (show w7.heap[w2.heap.size]? = some (.cells #[.int .i64 1, .int .i64 0, .slice none 0 0, .int .i64 0, .slice none 0 0, .slice (some ⟨bb, oo, none⟩) 3 cc, .slice (some ⟨gq, 0, none⟩) 0 cq] 105 (0, 0)) by rw [← hw7]; exact (Below.heap_setCell _ _ _ _ (by show w2.heap.size ≠ w.heap.size + 1; omega)).trans HR.out)
  have JA := Lib.hid (show w7.heap[w5.heap.size]? = some (.cells #[.int .i64 2, .int .i64 0, .slice none 0 0] 110 (0, 0)) by rw [← hw7]; exact (Below.heap_setCell _ _ _ _ (by show w5.heap.size ≠ w.heap.size + 1; omega)).trans HA.out)
  rw [hw7]
  clear hw7
  have e0 : w7.cell? ⟨w.heap.size + 1, 0, none⟩ = some (.int .i64 0) := cells_at J1.out 0
  have c0 : w7.cell? ⟨w2.heap.size, 0, none⟩ = some (.int .i64 1) := cells_at JR.out 0
  have c1 : w7.cell? ⟨w2.heap.size, 1, none⟩ = some (.int .i64 0) := cells_at JR.out 1
  have c2 : w7.cell? ⟨w2.heap.size, 2, none⟩ = some (.slice none 0 0) := cells_at JR.out 2
  have c3 : w7.cell? ⟨w2.heap.size, 3, none⟩ = some (.int .i64 0) := cells_at JR.out 3
  have a0 : w7.cell? ⟨w5.heap.size, 0, none⟩ = some (.int .i64 2) := cells_at JA.out 0
  have a1 : w7.cell? ⟨w5.heap.size, 1, none⟩ = some (.int .i64 0) := cells_at JA.out 1
  have a2 : w7.cell? ⟨w5.heap.size, 2, none⟩ = some (.slice none 0 0) := cells_at JA.out 2
  go_wp2_with fail
  refine (respond_one w7).mono ?_; rintro e w8 ⟨⟨g, rfl, hgc⟩, hk8⟩
  have hk28 := knil hk27 hk8
  have K1 := Lib.hid ((hk8.block _ (Array.getElem?_eq_some_iff.1 J1.out).1 (fun h => h)).trans J1.out)
  have K0 := Lib.hid ((hk8.block _ (Array.getElem?_eq_some_iff.1 J0.out).1 (fun h => h)).trans J0.out)
  have HGC := Lib.hid hgc
  clear e0 c0 c1 c2 c3 a0 a1 a2 hgc
  have e0 : w8.cell? ⟨w.heap.size + 1, 0, none⟩ = some (.int .i64 0) := cells_at K1.out 0
  have ef := two_frozen K1.out 0
  have o0 : w8.cell? ⟨w.heap.size, 0, none⟩ = some (.slice none 0 0) := cells_at K0.out 0
  have of := two_frozen K0.out 0
  go_upto_region 10 with fail
  obtain ⟨w9, hw9⟩ : ∃ w9, (w8.setCell ⟨w.heap.size, 0, none⟩ (.slice (some ⟨g, 0, none⟩) 2 2)).setCell ⟨w.heap.size + 1, 0, none⟩ (.int .i64 0) = w9 := ⟨_, rfl⟩
  have hg0 : g ≠ w.heap.size := by
    intro he
    have h := HGC.out
    rw [he, K0.out] at h
    simp at h
  have hg1 : g ≠ w.heap.size + 1 := by
    intro he
    have h := HGC.out
    rw [he, K1.out] at h
    simp at h
  have hn0 : (⟨w.heap.size, 0, none⟩ : Addr).block < w.heap.size → False := fun h => absurd h (Nat.lt_irrefl _)
  have hn1 : (⟨w.heap.size + 1, 0, none⟩ : Addr).block < w.heap.size → False := fun h => by have : w.heap.size + 1 < w.heap.size := h; omega
  have hk29 : Keeps (fun _ => False) w w9 := by rw [← hw9]; exact (hk28.setCell ⟨w.heap.size, 0, none⟩ hn0 _).setCell ⟨w.heap.size + 1, 0, none⟩ hn1 _
  have L0 := Lib.hid (show w9.heap[w.heap.size]? = some (.cells #[.slice (some ⟨g, 0, none⟩) 2 2] 22 (0, 0)) by rw [← hw9]; exact (Below.heap_setCell _ _ _ _ (by show w.heap.size ≠ w.heap.size + 1; omega)).trans (cells_put K0.out 0 _))
  have L1 := Lib.hid (show w9.heap[w.heap.size + 1]? = some (.cells #[.int .i64 0] 104 (0, 0)) by rw [← hw9]; exact cells_put ((Below.heap_setCell _ _ _ _ (by show w.heap.size + 1 ≠ w.heap.size; omega)).trans K1.out) 0 _)
  have LG := Lib.hid (show w9.heap[g]? = some (.cells #[.int .u8 0, .int .u8 2] 5 (0, 0)) by rw [← hw9]; exact (Below.heap_setCell _ _ _ _ hg1).trans ((Below.heap_setCell _ _ _ _ hg0).trans HGC.out))
  rw [hw9]
  clear e0 ef o0 of hw9
  have o0 : w9.cell? ⟨w.heap.size, 0, none⟩ = some (.slice (some ⟨g, 0, none⟩) 2 2) := cells_at L0.out 0
  have of := two_frozen L0.out 0
  go_wp2_with fail
  refine leaves_cons (f := 59) (args := #[.pointer (some ⟨w.heap.size + 1, 0, none⟩), .pointer (some ⟨w.heap.size, 0, none⟩)]) (by simp) (by simp [go_sem]) ?_
  have L1' : (w9.setCell ⟨w.heap.size, 0, none⟩ (.slice (some ⟨g, 0, none⟩) 2 2)).heap[w.heap.size + 1]? = some (.cells #[.int .i64 0] 104 (0, 0)) := (Below.heap_setCell _ _ _ _ (by show w.heap.size + 1 ≠ w.heap.size; omega)).trans L1.out
  refine (traced_off _ _ .returning _ (cells_at L1' 0)).mono ?_
  rintro e u' w10 ⟨rfl, rfl, rfl⟩
  exact ⟨_, results_slc rfl _ _ _ _ _ _ rfl (cells_put L0.out 0 _), ⟨_, rfl, (Below.heap_setCell _ _ _ _ hg0).trans LG.out⟩, hk29.setCell ⟨w.heap.size, 0, none⟩ hn0 _⟩
end Go.Proofs.YtmoajobnhiopiaaGreatDoor.sv
