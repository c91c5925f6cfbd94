/- Encode at a request about three points, by walking its text. -/
import Derived.Test.YtmoajobnhiopiaaGreatDoorSrvG
set_option linter.unusedSimpArgs false
set_option linter.unusedVariables false
namespace Go.Proofs.YtmoajobnhiopiaaGreatDoor.sv
open Go Go.RowKit Go.Shelf Go.Maps Go.Proofs.YtmoajobnhiopiaaGreatDoor.mk Go.Proofs.YtmoajobnhiopiaaGreatDoor.tp Go.Proofs.YtmoajobnhiopiaaGreatDoor.rg Go.Proofs.YtmoajobnhiopiaaGreatDoor.lm Go.Proofs.YtmoajobnhiopiaaGreatDoor.gm Go.Proofs.YtmoajobnhiopiaaGreatDoor.po

set_option maxRecDepth 100000 in
set_option maxHeartbeats 8000000 in
theorem encode_one (bb oo cc gq cq : Nat) (l : List (Int × Int)) (hl : l.length = 3) (w : World) (hbb : bb < w.heap.size) (hc : ∀ i, i < l.length → w.cell? ⟨bb, oo + i * 2, none⟩ = some (.int .i64 (pt l i).1) ∧ w.cell? ⟨bb, oo + i * 2 + 1, none⟩ = some (.int .i64 (pt l i).2)) :
    Calls Tryz.prog 87 #[.agg #[.int .i64 1, .int .i64 0, .slice none 0 0, .int .i64 0, .slice none 0 0, .slice (some ⟨bb, oo, none⟩) 3 cc, .slice (some ⟨gq, 0, none⟩) 0 cq]] w fun e w' => (∃ v, e = .returned (.tuple #[v, .int .i64 0])) ∧ Keeps (fun _ => False) w w' := by
  have HC := Lib.hid hc
  have HL := Lib.hid hl
  clear hc hl
  go_enter Tryz.func87, Tryz.ntmps87
  go_upto_region 1 with fail
  obtain ⟨w1, hw1⟩ : ∃ w1, w.alloc (.cells #[.int .i64 1, .int .i64 0, .slice none 0 0, .int .i64 0, .slice none 0 0, .slice (some ⟨bb, oo, none⟩) 3 cc, .slice (some ⟨gq, 0, none⟩) 0 cq] 105) = w1 := ⟨_, rfl⟩
  have hg := heap_alloc_new w (.cells #[.int .i64 1, .int .i64 0, .slice none 0 0, .int .i64 0, .slice none 0 0, .slice (some ⟨bb, oo, none⟩) 3 cc, .slice (some ⟨gq, 0, none⟩) 0 cq] 105)
  have hk1 : Keeps (fun _ => False) w w1 := by rw [← hw1]; exact (Keeps.refl _ w).alloc _
  rw [hw1] at hg ⊢
  clear hw1
  have hl1 : w.heap.size < w1.heap.size := (Array.getElem?_eq_some_iff.1 hg).1

  have c0 := cells_at hg 0
  have c1 := cells_at hg 1
  have c2 := cells_at hg 2
  have c3 := cells_at hg 3
  have c4 := cells_at hg 4
  have c5 := cells_at hg 5
  have c6 := cells_at hg 6
  have HG0 := Lib.hid hg
  have HG := Lib.hid hg
  clear hg
  go_wp2_with fail
  refine (format_one w1).mono ?_; rintro e w2 ⟨⟨g, rfl, hg1, hgr⟩, hk2⟩
  have hg := (hk2.block _ hl1 (fun h => h)).trans HG.out
  have HGR := Lib.hid hgr
  clear c0 c1 c2 c3 c4 c5 c6 hgr
  have c0 := cells_at hg 0
  have c1 := cells_at hg 1
  have c2 := cells_at hg 2
  have c3 := cells_at hg 3
  have c4 := cells_at hg 4
  have c5 := cells_at hg 5
  have c6 := cells_at hg 6
  have HG := Lib.hid hg
  clear hg
  go_wp2_with fail
  refine (counts_one w2).mono ?_; rintro e w3 ⟨rfl, hk3⟩
  have hk13 := knil hk2 hk3
  have hg := (hk13.block _ hl1 (fun h => h)).trans (show w1.heap[w.heap.size]? = some (.cells #[.int .i64 1, .int .i64 0, .slice none 0 0, .int .i64 0, .slice none 0 0, .slice (some ⟨bb, oo, none⟩) 3 cc, .slice (some ⟨gq, 0, none⟩) 0 cq] 105 (0, 0)) from HG0.out)
  have hgr := (hk3.block _ (Array.getElem?_eq_some_iff.1 HGR.out).1 (fun h => h)).trans HGR.out
  clear c0 c1 c2 c3 c4 c5 c6
  have c0 := cells_at hg 0
  have c1 := cells_at hg 1
  have c2 := cells_at hg 2
  have c3 := cells_at hg 3
  have c4 := cells_at hg 4
  have c5 := cells_at hg 5
  have c6 := cells_at hg 6
  have HG3 := Lib.hid hg
  have HGR3 := Lib.hid hgr
  clear hg hgr
  go_wp2_with fail
  go_loopw [5, 8, 9, 10, 54] (fun e5 _ _ _ i wr => e5 = .int .i64 0 ∧ i = .int .i64 0 ∧ wr = w3) (fun _ _ _ _ _ _ => 0)
  case atStart => exact ⟨rfl, rfl, rfl⟩
  case round =>
    obtain ⟨rfl, rfl, hwr⟩ := hrel
    rw [hwr]
    clear hwr wr
    go_upto_region 19 with fail
    obtain ⟨wA, hwA⟩ : ∃ wA, w3.alloc (.cells #[.slice (some ⟨g, 0, none⟩) 1 1] 155) = wA := ⟨_, rfl⟩
    obtain ⟨bw, hbw⟩ : ∃ bw, w3.heap.size = bw := ⟨_, rfl⟩
    have hgw := heap_alloc_new w3 (.cells #[.slice (some ⟨g, 0, none⟩) 1 1] 155)
    have hkA : Keeps (fun _ => False) w3 wA := by rw [← hwA]; exact (Keeps.refl _ w3).alloc _
    rw [hwA, hbw] at hgw
    rw [hwA]
    try rw [hbw]
    have hglt : g < w3.heap.size := (Array.getElem?_eq_some_iff.1 HGR3.out).1
    have hs13 := hk13.size
    have hs1 := hk1.size
    have hgA := (hkA.block _ (by omega) (fun h => h)).trans HG3.out
    have hgrA := (hkA.block _ hglt (fun h => h)).trans HGR3.out
    have hk1A : Keeps (fun _ => False) w wA := knil (knil hk1 hk13) hkA
    have hWr : Wr wA (.slice (some ⟨g, 0, none⟩) 1 1) bw w.heap.size 1 wA := ⟨_, [.int .u8 1], hgw, ⟨rfl, .inr ⟨g, 1, #[.int .u8 1], rfl, by omega, hgrA, Nat.le_refl _, by unfold maxLen; omega, rfl, rfl⟩⟩, .inl rfl, Keeps.refl _ _⟩
    have HWr := Lib.hid hWr
    have hbwA : bw < wA.heap.size := (Array.getElem?_eq_some_iff.1 hgw).1
    have HGA := Lib.hid hgA
    clear hwA hWr hgrA hgw c0 c1 c2 c3 c4 c5 c6
    have c0 := cells_at hgA 0
    have c1 := cells_at hgA 1
    have c2 := cells_at hgA 2
    have c3 := cells_at hgA 3
    have c4 := cells_at hgA 4
    have c5 := cells_at hgA 5
    have c6 := cells_at hgA 6
    clear hgA
    go_wp2_with fail
    go_loopw [13, 95] (fun _ i wr => i = .int .i64 0 ∧ wr = wA) (fun _ _ _ => 0)
    case atStart => exact ⟨rfl, rfl⟩
    case round =>
      obtain ⟨rfl, hwr⟩ := hrel
      rw [hwr]
      clear hwr wr
      go_wp2_with fail
      have hne1 : (Value.slice (some ⟨g, 0, none⟩) 1 1).ownBlock ≠ some bw := fun h => by
        have h' : g = bw := Option.some.inj h
        omega
      have hne2 : (Value.slice (some ⟨g, 0, none⟩) 1 1).ownBlock ≠ some bb := fun h => by
        have h' : g = bb := Option.some.inj h
        omega
      have he := each_calls wA (.slice (some ⟨g, 0, none⟩) 1 1) bw w.heap.size 1 bb oo cc l (by have := HL.out; omega) (by omega) hk1A.size hbwA hne1 (Nat.lt_of_lt_of_le hbb hk1A.size) (by omega) hne2 (fun i hi => ⟨(hk1A.cell (p := ⟨bb, oo + i * 2, none⟩) hbb (fun h => h)).trans (HC.out i hi).1, (hk1A.cell (p := ⟨bb, oo + i * 2 + 1, none⟩) hbb (fun h => h)).trans (HC.out i hi).2⟩) wA HWr.out
      rw [HL.out] at he
      refine he.mono ?_; rintro e wB ⟨rfl, hB⟩
      have hgB := (hB.keeps.block w.heap.size (by omega) (by
        rintro (h | h)
        · omega
        · have h' : w.heap.size = g := Option.some.inj h
          omega)).trans HGA.out
      have HBW := Lib.hid hB
      clear he hB c0 c1 c2 c3 c4 c5 c6
      have c0 := cells_at hgB 0
      have c1 := cells_at hgB 1
      have c2 := cells_at hgB 2
      have c3 := cells_at hgB 3
      have c4 := cells_at hgB 4
      have c5 := cells_at hgB 5
      have c6 := cells_at hgB 6
      clear hgB
      go_wp2_with fail
      refine (eachQ_none _ _ _ wB).mono ?_; rintro e wC ⟨rfl, hwC⟩
      rw [hwC]
      clear hwC wC
      obtain ⟨v, lv, b1, b2, b3, b4⟩ := HBW.out
      have d0 := cells_at b1 0
      have B4 := Lib.hid b4
      clear b1 b2 b3 b4
      go_wp2_with fail
      go_ret2
      exact ⟨⟨_, rfl⟩, hk1A.trans B4.out (fun i hi h => by
        rcases h with h | h
        · omega
        · have h' : i = g := Option.some.inj h
          omega)⟩
end Go.Proofs.YtmoajobnhiopiaaGreatDoor.sv
