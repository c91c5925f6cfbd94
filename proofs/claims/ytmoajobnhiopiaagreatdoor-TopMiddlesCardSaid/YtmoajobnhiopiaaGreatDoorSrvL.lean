/- serve.Handle at a request about three points, by walking its text. -/
import Derived.Test.YtmoajobnhiopiaaGreatDoorSrvK
set_option linter.unusedSimpArgs false
set_option linter.unusedVariables false
namespace Go.Proofs.YtmoajobnhiopiaaGreatDoor.sv
open Go Go.RowKit Go.Shelf Go.Maps Go.Proofs.YtmoajobnhiopiaaGreatDoor.mk Go.Proofs.YtmoajobnhiopiaaGreatDoor.tp Go.Proofs.YtmoajobnhiopiaaGreatDoor.rg Go.Proofs.YtmoajobnhiopiaaGreatDoor.lm Go.Proofs.YtmoajobnhiopiaaGreatDoor.gm Go.Proofs.YtmoajobnhiopiaaGreatDoor.po

set_option maxRecDepth 100000 in
set_option maxHeartbeats 8000000 in
theorem handle_one (bb oo cc gq cq : Nat) (l : List (Int × Int)) (hl : l.length = 3) (hp : Pts l) (w : World) (hG : Gl w) (hbb : bb < w.heap.size) (hc : ∀ i, i < l.length → w.cell? ⟨bb, oo + i * 2, none⟩ = some (.int .i64 (pt l i).1) ∧ w.cell? ⟨bb, oo + i * 2 + 1, none⟩ = some (.int .i64 (pt l i).2)) :
    Calls Tryz.prog 61 #[.pointer none, .agg #[.int .i64 1, .int .i64 0, .slice none 0 0, .int .i64 0, .slice none 0 0, .slice (some ⟨bb, oo, none⟩) 3 cc, .slice (some ⟨gq, 0, none⟩) 0 cq]] w fun e w' => e = .returned (.tuple #[.agg #[.int .i64 (polyS l + 1), .int .i64 0, .slice none 0 0], .int .i64 0]) ∧ Keeps (fun _ => False) w w' := by
  have HG := Lib.hid hG
  have HC := Lib.hid hc
  have HL := Lib.hid hl
  clear hG hc hl
  go_enter Tryz.func61, Tryz.ntmps61
  go_upto_region 1 with fail
  obtain ⟨w1, hw1⟩ : ∃ w1, (w.alloc (.cells #[.int .i64 1, .int .i64 0, .slice none 0 0, .int .i64 0, .slice none 0 0, .slice (some ⟨bb, oo, none⟩) 3 cc, .slice (some ⟨gq, 0, none⟩) 0 cq] 105)).alloc (.cells #[.int .i64 0, .int .i64 0, .slice none 0 0] 110) = w1 := ⟨_, rfl⟩
  have hg := heap2 w (.cells #[.int .i64 1, .int .i64 0, .slice none 0 0, .int .i64 0, .slice none 0 0, .slice (some ⟨bb, oo, none⟩) 3 cc, .slice (some ⟨gq, 0, none⟩) 0 cq] 105) (.cells #[.int .i64 0, .int .i64 0, .slice none 0 0] 110)
  have hk1 : Keeps (fun _ => False) w w1 := by rw [← hw1]; exact ((Keeps.refl _ w).alloc _).alloc _
  rw [hw1] at hg ⊢
  clear hw1
  have hg0 := hg.1
  have G0 := Lib.hid hg.1
  have G1 := Lib.hid hg.2
  have hl0 : w.heap.size < w1.heap.size := (Array.getElem?_eq_some_iff.1 hg.1).1
  have hl1 : w.heap.size + 1 < w1.heap.size := (Array.getElem?_eq_some_iff.1 hg.2).1
  have c0 := cells_at hg0 0
  have c1 := cells_at hg0 1
  have c2 := cells_at hg0 2
  have c3 := cells_at hg0 3
  have c4 := cells_at hg0 4
  have c5 := cells_at hg0 5
  have c6 := cells_at hg0 6
  clear hg hg0
  have hcK : ∀ W, Keeps (fun _ => False) w W → ∀ i, i < l.length → W.cell? ⟨bb, oo + i * 2, none⟩ = some (.int .i64 (pt l i).1) ∧ W.cell? ⟨bb, oo + i * 2 + 1, none⟩ = some (.int .i64 (pt l i).2) := fun W hk i hi => ⟨(hk.cell (p := ⟨bb, oo + i * 2, none⟩) hbb (fun h => h)).trans (HC.out i hi).1, (hk.cell (p := ⟨bb, oo + i * 2 + 1, none⟩) hbb (fun h => h)).trans (HC.out i hi).2⟩
  have HCK := Lib.hid hcK
  clear hcK
  go_wp2_with fail
  refine (encode_one bb oo cc gq cq l HL.out w1 (Nat.lt_of_lt_of_le hbb hk1.size) (HCK.out w1 hk1)).mono ?_; rintro e w2 ⟨⟨ve, rfl⟩, hk2⟩
  have hk12 := knil hk1 hk2
  clear c0 c1 c2 c3 c4 c5 c6
  have hg0 := (hk2.block _ hl0 (fun h => h)).trans G0.out
  have c0 : w2.cell? ⟨w.heap.size, 0, none⟩ = some (.int .i64 1) := cells_at hg0 0
  have c1 : w2.cell? ⟨w.heap.size, 1, none⟩ = some (.int .i64 0) := cells_at hg0 1
  have c2 : w2.cell? ⟨w.heap.size, 2, none⟩ = some (.slice none 0 0) := cells_at hg0 2
  have c3 : w2.cell? ⟨w.heap.size, 3, none⟩ = some (.int .i64 0) := cells_at hg0 3
  have c4 : w2.cell? ⟨w.heap.size, 4, none⟩ = some (.slice none 0 0) := cells_at hg0 4
  have c5 : w2.cell? ⟨w.heap.size, 5, none⟩ = some (.slice (some ⟨bb, oo, none⟩) 3 cc) := cells_at hg0 5
  have c6 : w2.cell? ⟨w.heap.size, 6, none⟩ = some (.slice (some ⟨gq, 0, none⟩) 0 cq) := cells_at hg0 6
  clear hg0
  go_wp2_with fail
  refine (answer_one bb oo cc gq cq l HL.out hp w2 (HG.out.kept hk12) (Nat.lt_of_lt_of_le hbb hk12.size) (HCK.out w2 hk12)).mono ?_; rintro e w5 ⟨rfl, hk5⟩
  have hk25 := knil hk2 hk5
  have hg1 := (hk25.block _ hl1 (fun h => h)).trans G1.out
  have a0 := cells_at hg1 0
  have a1 := cells_at hg1 1
  have a2 := cells_at hg1 2
  have f0 := two_frozen hg1 0
  have f1 := two_frozen hg1 1
  have f2 := two_frozen hg1 2
  have HG1 := Lib.hid hg1
  clear c0 c1 c2 c3 c4 c5 c6 hg1
  go_wp2_with fail
  refine bodyPost_ret (results_ans rfl _ _ _ _ _ _ _ _ rfl (cells_three HG1.out)) rfl ⟨rfl, keeps_three (knil hk1 hk25) (by omega) _ _ _⟩
end Go.Proofs.YtmoajobnhiopiaaGreatDoor.sv
