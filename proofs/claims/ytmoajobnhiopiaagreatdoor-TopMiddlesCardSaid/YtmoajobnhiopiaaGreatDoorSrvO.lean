/- bytes.Equal, by walking its text; serve.Serve at two fixed requests; serves. -/
import Derived.Test.YtmoajobnhiopiaaGreatDoorSrvN
import Derived.Laws.BytesArg
import Derived.Lib.Bytes
set_option linter.unusedSimpArgs false
set_option linter.unusedVariables false
namespace Go.Proofs.YtmoajobnhiopiaaGreatDoor.sv
open Go Go.RowKit Go.Shelf Go.Maps Go.Proofs.YtmoajobnhiopiaaGreatDoor.mk Go.Proofs.YtmoajobnhiopiaaGreatDoor.tp Go.Proofs.YtmoajobnhiopiaaGreatDoor.rg Go.Proofs.YtmoajobnhiopiaaGreatDoor.lm Go.Proofs.YtmoajobnhiopiaaGreatDoor.gm Go.Proofs.YtmoajobnhiopiaaGreatDoor.po

/-- A slice value that holds bytes. -/
def bytesAt (w : World) (v : Value) (bs : List Int) : Prop :=
  (∀ x ∈ bs, IsB x) ∧ ((bs = [] ∧ ∃ ao cap, v = .slice ao 0 cap) ∨ ∃ b off cap, v = .slice (some ⟨b, off, none⟩) bs.length cap ∧ b < w.heap.size ∧ ∀ i, i < bs.length → w.cell? ⟨b, off + i, none⟩ = some (.int .u8 (bt bs i)))
theorem bytesAt.kept {w w' : World} {v : Value} {bs : List Int} (h : bytesAt w v bs) (hk : Keeps (fun _ => False) w w') : bytesAt w' v bs := by
  refine ⟨h.1, ?_⟩
  rcases h.2 with h2 | ⟨b, off, cap, hv, hb, hc⟩
  · exact .inl h2
  · exact .inr ⟨b, off, cap, hv, Nat.lt_of_lt_of_le hb hk.size, fun i hi => (hk.cell (p := ⟨b, off + i, none⟩) hb (fun h => h)).trans (hc i hi)⟩
theorem bytesAt.string {w : World} {v : Value} {bs : List Int} (h : bytesAt w v bs) : (convert 22 9 v).run Tryz.prog w = .ok (.string (strOfNums bs)) w := by
  rcases h.2 with ⟨rfl, ao, cap, rfl⟩ | ⟨b, off, cap, rfl, hb, hc⟩
  · cases ao with
    | none => exact run_convert_bytes_nil w 22 5 Tryz.underlying22 Tryz.underlying5 0 cap _ Tryz.underlying9
    | some a =>
      rw [run_convert_bytes_string w _ _ _ _ _ _ Tryz.underlying22 Tryz.underlying5 Tryz.underlying9, run_bytesToString w a 0 cap [] (by simpa using run_loadCells_list (P := Tryz.prog) w a [] (by simp))]
      rfl
  · exact run_convert_bytes_arg w 22 5 Tryz.underlying22 Tryz.underlying5 b off _ cap bs rfl hc _ Tryz.underlying9
theorem strOfNums_eq {l m : List Int} (hl : ∀ x ∈ l, IsB x) (hm : ∀ x ∈ m, IsB x) : ((strOfNums l).toList == (strOfNums m).toList) = decide (l = m) := by
  rw [Bool.eq_iff_iff, beq_iff_eq, decide_eq_true_iff]
  constructor
  · intro h
    have h1 : l.map (fun n => UInt8.ofNat n.toNat) = m.map (fun n => UInt8.ofNat n.toNat) := by rw [Lib.strOfNums_toList, Lib.strOfNums_toList] at h; exact h
    have h2 := congrArg (List.map fun b : UInt8 => (b.toNat : Int)) h1
    have back : ∀ k : List Int, (∀ x ∈ k, IsB x) → (k.map (fun n => UInt8.ofNat n.toNat)).map (fun b : UInt8 => (b.toNat : Int)) = k := by
      intro k hk
      rw [List.map_map]
      conv => rhs; rw [← List.map_id k]
      apply List.map_congr_left
      intro x hx
      have := hk x hx
      unfold IsB at this
      simp
      omega
    rw [back l hl, back m hm] at h2
    exact h2
  · intro h; rw [h]
theorem bytesAt_cells {w : World} {g : Nat} {bs : List Int} {t : TypeId} {fr : Nat × Nat} (h : w.heap[g]? = some (.cells (bs.map (Value.int .u8)).toArray t fr)) (hB : ∀ x ∈ bs, IsB x) {n : Nat} (hn : bs.length = n) (cap : Nat) : bytesAt w (.slice (some ⟨g, 0, none⟩) n cap) bs := by
  subst hn
  refine ⟨hB, .inr ⟨g, 0, cap, rfl, (Array.getElem?_eq_some_iff.1 h).1, fun i hi => ?_⟩⟩
  rw [cells_at h (0 + i), List.getElem?_toArray, List.getElem?_map, Nat.zero_add, bt, List.getElem?_eq_getElem hi]
  rfl
set_option maxRecDepth 100000 in
set_option maxHeartbeats 4000000 in
theorem equal_calls (v u : Value) (l m : List Int) (w : World) (hv : bytesAt w v l) (hu : bytesAt w u m) : Calls Tryz.prog 14 #[v, u] w fun e w' => e = .returned (.bool (decide (l = m))) ∧ w' = w := by
  have s1 := hv.string
  have s2 := hu.string
  have he := strOfNums_eq hv.1 hu.1
  clear hv hu
  go_enter Tryz.func14, Tryz.ntmps14
  go_wp2_with fail
  go_ret
  exact ⟨rfl, rfl⟩
set_option maxRecDepth 100000 in
set_option maxHeartbeats 4000000 in
theorem serve_nil (w : World) : Calls Tryz.prog 12 #[.slice none 0 0] w fun e w' =>
    (∃ g, e = .returned (.slice (some ⟨g, 0, none⟩) 1 1) ∧ w'.heap[g]? = some (.cells #[.int .u8 4] 5 (0, 0))) ∧ Keeps (fun _ => False) w w' := by
  go_enter Tryz.func12, Tryz.ntmps12
  go_wp2_with fail
  refine (traced_nil w).mono ?_; rintro e w2 ⟨⟨g, rfl, hg⟩, hk2⟩
  go_wp2_with fail
  go_ret
  exact ⟨⟨g, rfl, hg⟩, hk2⟩
set_option maxRecDepth 100000 in
set_option maxHeartbeats 4000000 in
theorem serve_one (b : Nat) (bs : List Int) (hl : bs.length = 48) (hP : Pts (ptsB bs 3)) (hs : polyS (ptsB bs 3) = 1) (w : World) (hG : Gl w) (h1 : w.cell? ⟨b, 0, none⟩ = some (.int .u8 1)) (hb : BytesAt w b 1 bs) : Calls Tryz.prog 12 #[.slice (some ⟨b, 0, none⟩) 49 49] w fun e w' =>
    (∃ g, e = .returned (.slice (some ⟨g, 0, none⟩) 2 2) ∧ w'.heap[g]? = some (.cells #[.int .u8 0, .int .u8 2] 5 (0, 0))) ∧ Keeps (fun _ => False) w w' := by
  have H := Lib.hid (traced_one b bs hl hP hs w hG h1 hb)
  clear hl hP hs hG h1 hb
  go_enter Tryz.func12, Tryz.ntmps12
  go_wp2_with fail
  refine H.out.mono ?_; rintro e w2 ⟨⟨g, rfl, hg⟩, hk2⟩
  go_wp2_with fail
  go_ret
  exact ⟨⟨g, rfl, hg⟩, hk2⟩
/-- The bytes of the request that serves makes. -/
def bsA : List Int := [0, 0, 0, 0, 0, 0, 0, 0, 0, 0, 0, 0, 0, 0, 0, 0, 1, 0, 0, 0, 0, 0, 0, 0, 0, 0, 0, 0, 0, 0, 0, 0, 0, 0, 0, 0, 0, 0, 0, 0, 1, 0, 0, 0, 0, 0, 0, 0]
theorem ptsB_A : ptsB bsA 3 = [(0, 0), (1, 0), (0, 1)] := by kernel_rfl
theorem bsA_pts : Pts (ptsB bsA 3) := by
  rw [ptsB_A]
  intro p hp
  simp only [List.mem_cons, List.not_mem_nil, or_false] at hp
  rcases hp with rfl | rfl | rfl <;> (unfold Pt IsS; omega)
theorem bsA_polyS : polyS (ptsB bsA 3) = 1 := by rw [ptsB_A]; decide
theorem bsA_cells : (((Array.replicate 49 (Value.int .u8 0)).setIfInBounds 0 (.int .u8 1)).setIfInBounds 17 (.int .u8 1)).setIfInBounds 41 (.int .u8 1) = (((1 : Int) :: bsA).map (Value.int .u8)).toArray := by rfl
theorem bsA_made (w : World) : (Instr.makeSlice 22 (.int .i64 49) (.int .i64 49)).run Tryz.prog w = .ok (.slice (some ⟨w.heap.size, 0, none⟩) 49 49) (w.alloc (.cells (Array.replicate 49 (Value.int .u8 0)) 5)) := by kernel_rfl
theorem bsA_at {w : World} {b : Nat} (h : w.heap[b]? = some (.cells (((((Array.replicate 49 (Value.int .u8 0)).setIfInBounds 0 (.int .u8 1)).setIfInBounds 17 (.int .u8 1)).setIfInBounds 41 (.int .u8 1))) 5 (0, 0))) :
    w.cell? ⟨b, 0, none⟩ = some (.int .u8 1) ∧ BytesAt w b 1 bsA := by
  rw [bsA_cells] at h
  refine ⟨cells_at h 0, (Array.getElem?_eq_some_iff.1 h).1, by unfold IsB; decide, fun j hj => ?_⟩
  rw [cells_at h (1 + j), List.getElem?_toArray, List.getElem?_map, Nat.add_comm, List.getElem?_cons_succ, bt, List.getElem?_eq_getElem hj]
  rfl
set_option maxRecDepth 100000 in
set_option maxHeartbeats 4000000 in
theorem serves_calls (w : World) (hG : Gl w) : Calls Tryz.prog 9 #[] w fun e w' => e = .returned (.bool true) ∧ Keeps (fun _ => False) w w' := by
  have HG := Lib.hid hG
  clear hG
  go_enter Tryz.func9, Tryz.ntmps9
  have hmk := bsA_made
  go_upto_region 2 with fail
  have hg := heap_alloc_new w (.cells (Array.replicate 49 (Value.int .u8 0)) 5)
  obtain ⟨w1, hw1⟩ : ∃ w1, w.alloc (.cells (Array.replicate 49 (Value.int .u8 0)) 5) = w1 := ⟨_, rfl⟩
  have hk1 : Keeps (fun _ => False) w w1 := by rw [← hw1]; exact (Keeps.refl _ w).alloc _
  rw [hw1] at hg ⊢
  clear hw1 hmk
  have HG1 := Lib.hid hg
  have c0 : w1.cell? ⟨w.heap.size, 0, none⟩ = some (.int .u8 0) := cells_at hg 0
  have c17 : w1.cell? ⟨w.heap.size, 17, none⟩ = some (.int .u8 0) := cells_at hg 17
  have c41 : w1.cell? ⟨w.heap.size, 41, none⟩ = some (.int .u8 0) := cells_at hg 41
  have f0 := two_frozen hg 0
  have f17 := two_frozen hg 17
  have f41 := two_frozen hg 41
  clear hg
  go_upto_region 3 with fail
  obtain ⟨w2, hw2⟩ : ∃ w2, ((w1.setCell ⟨w.heap.size, 0, none⟩ (.int .u8 1)).setCell ⟨w.heap.size, 17, none⟩ (.int .u8 1)).setCell ⟨w.heap.size, 41, none⟩ (.int .u8 1) = w2 := ⟨_, rfl⟩
  have hn : ∀ i, (⟨w.heap.size, i, none⟩ : Addr).block < w.heap.size → False := fun i h => absurd h (Nat.lt_irrefl _)
  have hk2 : Keeps (fun _ => False) w w2 := by rw [← hw2]; exact ((hk1.setCell ⟨w.heap.size, 0, none⟩ (hn 0) _).setCell ⟨w.heap.size, 17, none⟩ (hn 17) _).setCell ⟨w.heap.size, 41, none⟩ (hn 41) _
  have hA := bsA_at (w := w2) (b := w.heap.size) (by rw [← hw2]; exact cells_put (cells_put (cells_put HG1.out 0 _) 17 _) 41 _)
  have HA := Lib.hid hA
  rw [hw2]
  clear hA hw2 c0 c17 c41 f0 f17 f41
  go_wp2_with fail
  refine (serve_nil w2).mono ?_; rintro e w3 ⟨⟨g3, rfl, _⟩, hk3⟩
  have hk23 := knil hk2 hk3
  go_wp2_with fail
  refine (serve_one w.heap.size bsA rfl bsA_pts bsA_polyS w3 (HG.out.kept hk23) ((hk3.cell (p := ⟨w.heap.size, 0, none⟩) HA.out.2.1 (fun h => h)).trans HA.out.1) (HA.out.2.kept hk3 (fun h => h))).mono ?_; rintro e w4 ⟨⟨g4, rfl, hg4⟩, hk4⟩
  have hk24 := knil hk23 hk4
  have HG4 := Lib.hid hg4
  clear hg4
  go_wp2_with fail
  have hk5 : Keeps (fun _ => False) w4 (w4.alloc (.cells #[.int .u8 0, .int .u8 2] 5)) := (Keeps.refl _ w4).alloc _
  have hx := bytesAt_cells (bs := [0, 2]) ((hk5.block _ (Array.getElem?_eq_some_iff.1 HG4.out).1 (fun h => h)).trans HG4.out) (by unfold IsB; decide) rfl 2
  have hy := bytesAt_cells (bs := [0, 2]) (heap_alloc_new w4 (.cells #[.int .u8 0, .int .u8 2] 5)) (by unfold IsB; decide) rfl 2
  refine (equal_calls _ _ [0, 2] [0, 2] _ hx hy).mono ?_; rintro e w5 ⟨rfl, hw5⟩
  have hk25 : Keeps (fun _ => False) w w5 := by rw [hw5]; exact knil hk24 hk5
  clear hw5 hx hy
  rw [show decide (([0, 2] : List Int) = [0, 2]) = true from rfl]
  go_wp2_with fail
  refine (serve_nil w5).mono ?_; rintro e w6 ⟨⟨g6, rfl, hg6⟩, hk6⟩
  have hk26 := knil hk25 hk6
  have HG6 := Lib.hid hg6
  clear hg6
  go_wp2_with fail
  have hk7 : Keeps (fun _ => False) w6 (w6.alloc (.cells #[.int .u8 4] 5)) := (Keeps.refl _ w6).alloc _
  have hx := bytesAt_cells (bs := [4]) ((hk7.block _ (Array.getElem?_eq_some_iff.1 HG6.out).1 (fun h => h)).trans HG6.out) (by unfold IsB; decide) rfl 1
  have hy := bytesAt_cells (bs := [4]) (heap_alloc_new w6 (.cells #[.int .u8 4] 5)) (by unfold IsB; decide) rfl 1
  refine (equal_calls _ _ [4] [4] _ hx hy).mono ?_; rintro e w8 ⟨rfl, hw8⟩
  have hk28 : Keeps (fun _ => False) w w8 := by rw [hw8]; exact knil hk26 hk7
  clear hw8 hx hy
  rw [show decide (([4] : List Int) = [4]) = true from rfl]
  go_wp2_with fail
  go_ret
  exact ⟨rfl, hk28⟩
end Go.Proofs.YtmoajobnhiopiaaGreatDoor.sv
