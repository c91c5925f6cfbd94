/- The points of a request, by walking the reader's text. -/
import Derived.Test.YtmoajobnhiopiaaGreatDoorSrvB
set_option linter.unusedSimpArgs false
set_option linter.unusedVariables false
namespace Go.Proofs.YtmoajobnhiopiaaGreatDoor.sv
open Go Go.RowKit Go.Shelf Go.Maps Go.Proofs.YtmoajobnhiopiaaGreatDoor.mk Go.Proofs.YtmoajobnhiopiaaGreatDoor.tp Go.Proofs.YtmoajobnhiopiaaGreatDoor.rg Go.Proofs.YtmoajobnhiopiaaGreatDoor.lm Go.Proofs.YtmoajobnhiopiaaGreatDoor.gm

/-- Word number i of a list of bytes. -/
def wdB (bs : List Int) (i : Nat) : List Int := (bs.drop (8 * i)).take 8
def wd (bs : List Int) (i : Nat) : Int := wrap64 (leW (wdB bs i))
/-- Point number i of a list of bytes. -/
def ptB (bs : List Int) (i : Nat) : Int × Int := (wd bs (2 * i), wd bs (2 * i + 1))
theorem wdB_ok {bs : List Int} (h : ∀ x ∈ bs, IsB x) (i : Nat) : ∀ x ∈ wdB bs i, IsB x := fun x hx => h x (List.mem_of_mem_drop (List.mem_of_mem_take hx))
theorem wdB_length {bs : List Int} {i : Nat} (h : 8 * i + 8 ≤ bs.length) : (wdB bs i).length = 8 := by unfold wdB; rw [List.length_take, List.length_drop]; omega
theorem wdB_bt {bs : List Int} {i j : Nat} (h : j < 8) : bt (wdB bs i) j = bt bs (8 * i + j) := by
  unfold bt wdB
  rw [List.getElem?_take, if_pos h, List.getElem?_drop]
/-- The bytes bs lie at ⟨b, off⟩. -/
def BytesAt (w : World) (b off : Nat) (bs : List Int) : Prop := b < w.heap.size ∧ (∀ x ∈ bs, IsB x) ∧ ∀ j, j < bs.length → w.cell? ⟨b, off + j, none⟩ = some (.int .u8 (bt bs j))
theorem BytesAt.kept {w w' : World} {b off : Nat} {bs : List Int} {S : Nat → Prop} (h : BytesAt w b off bs) (hk : Keeps S w w') (hS : ¬ S b) : BytesAt w' b off bs :=
  ⟨Nat.lt_of_lt_of_le h.1 hk.size, h.2.1, fun j hj => (hk.cell (p := ⟨b, off + j, none⟩) h.1 hS).trans (h.2.2 j hj)⟩
theorem results_ptB {fn : Func} {p : Tmp} (h : fn.results = #[.cell p 35]) (tmps : Array Value) (w : World) (g : Nat) (t : TypeId) (x y : Value) (fr : Nat × Nat)
    (hp : tmps.getD p undef = .pointer (some ⟨g, 0, none⟩)) (hg : w.heap[g]? = some (.cells #[x, y] t fr)) : (results fn tmps).run Tryz.prog w = .ok (.agg #[x, y]) w := by
  rw [resultsV_cell1 h, hp]
  have e := run_loadVar_row (P := Tryz.prog) w g t 35 #[x, y] fr _ hg Tryz.underlying35 rfl (by kernel_rfl)
  simp [asAddr, e, Result.andThen]
set_option maxRecDepth 100000 in
set_option maxHeartbeats 2000000 in
theorem rpoint_calls (br b off n i : Nat) (bs : List Int) (hi : 16 * i + 16 ≤ bs.length) (w : World) (h : RdAt w br b (off + 16 * i) (n + 16)) (hne : b ≠ br) (hb : BytesAt w b off bs) :
    Calls Tryz.prog 83 #[.pointer (some ⟨br, 0, none⟩)] w fun e w' => e = .returned (.agg #[.int .i64 (ptB bs i).1, .int .i64 (ptB bs i).2]) ∧ RdAt w' br b (off + 16 * (i + 1)) n ∧ Keeps (fun j => j = br) w w' := by
  have hbr : br < w.heap.size := by obtain ⟨ao, cap, hg, _⟩ := h; exact (Array.getElem?_eq_some_iff.1 hg).1
  have H := Lib.hid h
  have HB := Lib.hid hb
  clear h hb
  go_enter Tryz.func83, Tryz.ntmps83
  go_upto_region 1 with fail
  obtain ⟨w0, hw0⟩ : ∃ w0, w.alloc (.cells #[.int .i64 0, .int .i64 0] 35) = w0 := ⟨_, rfl⟩
  have hg0 := heap_alloc_new w (.cells #[.int .i64 0, .int .i64 0] 35)
  have hk0 : Keeps (fun _ => False) w w0 := by rw [← hw0]; exact (Keeps.refl _ w).alloc _
  rw [hw0] at hg0 ⊢
  clear hw0
  have hr0 : RdAt w0 br b (off + 16 * i) (n + 8 + 8) := by
    obtain ⟨ao, cap, hg, h1, h2⟩ := H.out
    exact ⟨ao, cap, (hk0.block _ hbr (fun h => h)).trans hg, h1, h2⟩
  have hb0 := HB.out.kept hk0 (fun h => h)
  have HG0 := Lib.hid hg0
  have hl0 : w.heap.size < w0.heap.size := (Array.getElem?_eq_some_iff.1 hg0).1
  clear hg0
  go_wp2_with fail
  refine (rword_calls br b (off + 16 * i) (n + 8) (wdB bs (2 * i)) (wdB_ok hb0.2.1 _) (wdB_length (by omega)) w0 hr0 hb0.1 hne (fun j hj => by rw [wdB_bt hj, Nat.add_assoc, show 16 * i + j = 8 * (2 * i) + j by omega]; exact hb0.2.2 _ (by omega))).mono ?_; rintro e w1 ⟨rfl, hr1, hk1⟩
  have hb1 := hb0.kept hk1 hne
  have HR1 := Lib.hid hr1
  have HB1 := Lib.hid hb1
  clear hr0 hb0 hr1 hb1
  obtain ⟨x1, hx1⟩ : ∃ x1, leW (wdB bs (2 * i)) = x1 := ⟨_, rfl⟩
  rw [hx1]
  have HX1 := Lib.hid hx1
  clear hx1
  go_wp2_with fail
  refine (rword_calls br b (off + 16 * i + 8) n (wdB bs (2 * i + 1)) (wdB_ok HB1.out.2.1 _) (wdB_length (by omega)) w1 HR1.out HB1.out.1 hne (fun j hj => by rw [wdB_bt hj, show off + 16 * i + 8 + j = off + (8 * (2 * i + 1) + j) by omega]; exact HB1.out.2.2 _ (by omega))).mono ?_; rintro e w2 ⟨rfl, hr2, hk2⟩
  obtain ⟨x2, hx2⟩ : ∃ x2, leW (wdB bs (2 * i + 1)) = x2 := ⟨_, rfl⟩
  rw [hx2]
  have HX2 := Lib.hid hx2
  have HR2 := Lib.hid hr2
  have hk02 := hk1.trans hk2 (fun _ _ h => h)
  have hg2 := (hk02.block _ hl0 (by omega)).trans HG0.out
  have e0 := two_frozen hg2 0
  have e1 := two_frozen hg2 1
  have f0 := cells_at hg2 0
  have f1 := cells_at hg2 1
  have HG2 := Lib.hid hg2
  clear hx2 hr2 hg2
  go_wp2_with fail
  have hkF : Keeps (fun j => j = w.heap.size) w2 ((w2.setCell ⟨w.heap.size, 0, none⟩ (.int .i64 (wrap64 x1))).setCell ⟨w.heap.size, 1, none⟩ (.int .i64 (wrap64 x2))) := ((Keeps.refl (fun j => j = w.heap.size) w2).setCell ⟨w.heap.size, 0, none⟩ (fun _ => rfl) _).setCell ⟨w.heap.size, 1, none⟩ (fun _ => rfl) _
  refine bodyPost_ret (results_ptB rfl _ _ _ _ _ _ _ rfl (cells_two HG2.out)) rfl ⟨?_, ?_, ?_⟩
  · unfold ptB wd
    rw [HX1.out, HX2.out]
  · obtain ⟨ao, cap, hg, h1, h2⟩ := HR2.out
    refine ⟨ao, cap, (hkF.block br (Array.getElem?_eq_some_iff.1 hg).1 (by omega)).trans hg, h1, fun h => ?_⟩
    rw [h2 h, show off + 16 * i + 8 + 8 = off + 16 * (i + 1) by omega]
  · exact ((hk0.mono (fun _ _ h => h.elim)).trans hk02 (fun _ _ h => h)).trans hkF (fun i hi h => by omega)
end Go.Proofs.YtmoajobnhiopiaaGreatDoor.sv
