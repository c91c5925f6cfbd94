/- geofencetop.TopMiddles, by walking its text. -/
import Derived.Test.YtmoajobnhiopiaaGreatDoorSrvO
import Derived.Test.YtmoajobnhiopiaaGreatDoorPolV
import Derived.Test.YtmoajobnhiopiaaGreatDoorPolR
import Derived.Test.YtmoajobnhiopiaaGreatDoorFork
import Derived.Deep.Cut
set_option linter.unusedSimpArgs false
set_option linter.unusedVariables false
namespace Go.Proofs.YtmoajobnhiopiaaGreatDoor.rg
open Go Go.RowKit Go.Shelf
section
variable {P : Program} {ops : Array Oper} {Q : Exit → Act → World → Prop} {md : Region.Mode} {S : World → Prop} {late : List Nat}
theorem AllL.consL {fuel : Nat} {listed : Array Bool} {a : Act} {w : World} {i : Nat} {o : Oper} {rs : List Nat} (ho : ops[i]? = some o) (hl : early late (listed.setIfInBounds i true) = false)
    (h : ∀ K' : Act → World → Prop, Shut (∀ a w, (True → wpAnyL P md ops Q S late fuel (listed.setIfInBounds i true) a w) → K' a w) → if Region.wanted o (yielded ops a.tmps) = true then Oper.wp P o a w K' Q else K' (a.put o.dst undef) w)
    (hs : AllL P md ops Q S late fuel listed a w rs) : AllL P md ops Q S late fuel listed a w (i :: rs) := fun j hj => by
  rcases List.mem_cons.1 hj with rfl | hj
  · exact wpOp_step ho (fun K' hK => h K' (fun a w hW => hK a w ⟨fun he => (by rw [hl] at he; cases he), hW trivial⟩))
  · exact hs j hj
end
end Go.Proofs.YtmoajobnhiopiaaGreatDoor.rg
namespace Go.Proofs.YtmoajobnhiopiaaGreatDoor.to
open Go Go.RowKit Go.Shelf Go.Maps Go.Proofs.YtmoajobnhiopiaaGreatDoor.mk Go.Proofs.YtmoajobnhiopiaaGreatDoor.tp Go.Proofs.YtmoajobnhiopiaaGreatDoor.rg Go.Proofs.YtmoajobnhiopiaaGreatDoor.lm Go.Proofs.YtmoajobnhiopiaaGreatDoor.gm Go.Proofs.YtmoajobnhiopiaaGreatDoor.nb Go.Proofs.YtmoajobnhiopiaaGreatDoor.po Go.Proofs.YtmoajobnhiopiaaGreatDoor.sv

/-- The even number below. -/
def ev (x : Int) : Int := 2 * (x / 2)
theorem ev_isS {x : Int} (h : IsS x) : IsS (ev x) := by unfold IsS ev at *; omega
theorem and_even (x : BitVec 64) : (x &&& ~~~ 1#64).toNat = x.toNat / 2 * 2 := by
  have h : x &&& ~~~ 1#64 = (x >>> 1) <<< 1 := by
    apply BitVec.eq_of_getLsbD_eq
    intro i hi
    simp only [BitVec.getLsbD_and, BitVec.getLsbD_not, BitVec.getLsbD_one, BitVec.getLsbD_shiftLeft, BitVec.getLsbD_ushiftRight]
    by_cases h0 : i = 0
    · subst h0; simp
    · have h1 : 1 + (i - 1) = i := by omega
      simp [h0, hi, h1]
  rw [h, BitVec.toNat_shiftLeft, BitVec.toNat_ushiftRight]
  have := x.isLt
  simp only [Nat.shiftRight_eq_div_pow, Nat.shiftLeft_eq, Nat.pow_one]
  omega
theorem andNot_one {x : Int} (h : IsS x) : bits .andNot .i64 x 1 = ev x := by
  have e : bits .andNot .i64 x 1 = IntKind.i64.wrap (nu (bv x &&& ~~~ bv 1)) := rfl
  rw [e, IntKind.wrap_i64, show bv 1 = 1#64 from rfl]
  unfold nu
  rw [and_even]
  have hm : ((bv x).toNat : Int) = x % 18446744073709551616 := bv_mod x
  unfold IsS at h
  unfold ev
  omega
set_option maxRecDepth 100000 in
set_option maxHeartbeats 8000000 in
theorem middles_calls (v : Value) (l : List (Int × Int)) (p q : Int × Int) (hl : Pts l) (hp : Pt p) (hq : Pt q) (w : World) (hG : Gl w) (hv : ptsAt w v l) :
    Calls Tryz.prog 7 #[v, .agg #[.int .i64 p.1, .int .i64 p.2], .agg #[.int .i64 q.1, .int .i64 q.2]] w fun e w' => e = .returned (.bool true) ∧ Keeps (fun _ => False) w w' := by
  have HG := Lib.hid hG
  have HV := Lib.hid hv
  have HL := Lib.hid hl
  have E0 := andNot_one hp.1
  have E1 := andNot_one hp.2
  have E2 := andNot_one hq.1
  have E3 := andNot_one hq.2
  clear hG hv hl
  go_enter Tryz.func7, Tryz.ntmps7
  go_upto_region 1 with fail
  obtain ⟨w1, hw1⟩ : ∃ w1, (w.alloc (.cells #[.int .i64 p.1, .int .i64 p.2] 35)).alloc (.cells #[.int .i64 q.1, .int .i64 q.2] 35) = w1 := ⟨_, rfl⟩
  have hg := heap2 w (.cells #[.int .i64 p.1, .int .i64 p.2] 35) (.cells #[.int .i64 q.1, .int .i64 q.2] 35)
  have hk1 : Keeps (fun _ => False) w w1 := by rw [← hw1]; exact ((Keeps.refl _ w).alloc _).alloc _
  rw [hw1] at hg ⊢
  clear hw1
  have HG0 := Lib.hid hg.1
  have HG1 := Lib.hid hg.2
  go_cut [] from 7 (fun wx => wx.heap[w.heap.size]? = some (.cells #[.int .i64 (ev p.1), .int .i64 (ev p.2)] 35 (0, 0)) ∧ wx.heap[w.heap.size + 1]? = some (.cells #[.int .i64 (ev q.1), .int .i64 (ev q.2)] 35 (0, 0)) ∧ Keeps (fun _ => False) w wx)
  case first =>
    refine wp_region_late (fun W => W.cell? ⟨w.heap.size, 0, none⟩ = some (.int .i64 p.1) ∧ W.cell? ⟨w.heap.size, 1, none⟩ = some (.int .i64 p.2) ∧ W.cell? ⟨w.heap.size + 1, 0, none⟩ = some (.int .i64 q.1) ∧ W.cell? ⟨w.heap.size + 1, 1, none⟩ = some (.int .i64 q.2)) [13, 15, 17, 19] (by kernel_rfl) ?_
    have hS : w1.drew.cell? ⟨w.heap.size, 0, none⟩ = some (.int .i64 p.1) ∧ w1.drew.cell? ⟨w.heap.size, 1, none⟩ = some (.int .i64 p.2) ∧ w1.drew.cell? ⟨w.heap.size + 1, 0, none⟩ = some (.int .i64 q.1) ∧ w1.drew.cell? ⟨w.heap.size + 1, 1, none⟩ = some (.int .i64 q.2) := ⟨cells_at hg.1 0, cells_at hg.1 1, cells_at hg.2 0, cells_at hg.2 1⟩
    have G0 := Lib.hid (show w1.drew.heap[w.heap.size]? = some (.cells #[.int .i64 p.1, .int .i64 p.2] 35 (0, 0)) from hg.1)
    have G1 := Lib.hid (show w1.drew.heap[w.heap.size + 1]? = some (.cells #[.int .i64 q.1, .int .i64 q.2] 35 (0, 0)) from hg.2)
    have Gk : Keeps (fun _ => False) w w1.drew := knil hk1 ((Keeps.refl _ w1).drewN 1)
    clear hg
    generalize w1.drew = wd at hS Gk G0 G1 ⊢
    refine wpAnyL_any (i := 0) (oi := _) (v := .pointer (some ⟨w.heap.size, 0, none⟩)) rfl (by kernel_rfl) (by kernel_rfl) (by kernel_rfl) (by kernel_rfl) (fun _ _ _ h => (h : False).elim) (Or.inl ⟨by kernel_rfl, ?_⟩) (fun _ => by assumption) ?_
    · intro w _
      go_simp
    try simp only [List.getElem_toArray, List.getElem_cons_zero, List.getElem_cons_succ, Act.put, List.setIfInBounds_toArray, List.set_cons_zero, List.set_cons_succ]
    refine wpAnyL_take (i := 1) (oi := _) (v := .int .i64 p.1) rfl (by kernel_rfl) (by kernel_rfl) (by kernel_rfl) (by kernel_rfl) (fun _ _ _ h => (h : False).elim) (Or.inl ⟨by kernel_rfl, ?_⟩) (by assumption) ?_
    · intro w hSw
      obtain ⟨s0, s1, s2, s3⟩ := hSw
      go_simp
    try simp only [List.getElem_toArray, List.getElem_cons_zero, List.getElem_cons_succ, Act.put, List.setIfInBounds_toArray, List.set_cons_zero, List.set_cons_succ]
    refine wpAnyL_any (i := 2) (oi := _) (v := .int .i64 (ev p.1)) rfl (by kernel_rfl) (by kernel_rfl) (by kernel_rfl) (by kernel_rfl) (fun _ _ _ h => (h : False).elim) (Or.inl ⟨by kernel_rfl, ?_⟩) (fun _ => by assumption) ?_
    · intro w _
      go_simp
    try simp only [List.getElem_toArray, List.getElem_cons_zero, List.getElem_cons_succ, Act.put, List.setIfInBounds_toArray, List.set_cons_zero, List.set_cons_succ]
    refine wpAnyL_any (i := 3) (oi := _) (v := .pointer (some ⟨w.heap.size, 1, none⟩)) rfl (by kernel_rfl) (by kernel_rfl) (by kernel_rfl) (by kernel_rfl) (fun _ _ _ h => (h : False).elim) (Or.inl ⟨by kernel_rfl, ?_⟩) (fun _ => by assumption) ?_
    · intro w _
      go_simp
    try simp only [List.getElem_toArray, List.getElem_cons_zero, List.getElem_cons_succ, Act.put, List.setIfInBounds_toArray, List.set_cons_zero, List.set_cons_succ]
    refine wpAnyL_take (i := 4) (oi := _) (v := .int .i64 p.2) rfl (by kernel_rfl) (by kernel_rfl) (by kernel_rfl) (by kernel_rfl) (fun _ _ _ h => (h : False).elim) (Or.inl ⟨by kernel_rfl, ?_⟩) (by assumption) ?_
    · intro w hSw
      obtain ⟨s0, s1, s2, s3⟩ := hSw
      go_simp
    try simp only [List.getElem_toArray, List.getElem_cons_zero, List.getElem_cons_succ, Act.put, List.setIfInBounds_toArray, List.set_cons_zero, List.set_cons_succ]
    refine wpAnyL_any (i := 5) (oi := _) (v := .int .i64 (ev p.2)) rfl (by kernel_rfl) (by kernel_rfl) (by kernel_rfl) (by kernel_rfl) (fun _ _ _ h => (h : False).elim) (Or.inl ⟨by kernel_rfl, ?_⟩) (fun _ => by assumption) ?_
    · intro w _
      go_simp
    try simp only [List.getElem_toArray, List.getElem_cons_zero, List.getElem_cons_succ, Act.put, List.setIfInBounds_toArray, List.set_cons_zero, List.set_cons_succ]
    refine wpAnyL_any (i := 6) (oi := _) (v := .pointer (some ⟨w.heap.size + 1, 0, none⟩)) rfl (by kernel_rfl) (by kernel_rfl) (by kernel_rfl) (by kernel_rfl) (fun _ _ _ h => (h : False).elim) (Or.inl ⟨by kernel_rfl, ?_⟩) (fun _ => by assumption) ?_
    · intro w _
      go_simp
    try simp only [List.getElem_toArray, List.getElem_cons_zero, List.getElem_cons_succ, Act.put, List.setIfInBounds_toArray, List.set_cons_zero, List.set_cons_succ]
    refine wpAnyL_any (i := 9) (oi := _) (v := .pointer (some ⟨w.heap.size + 1, 1, none⟩)) rfl (by kernel_rfl) (by kernel_rfl) (by kernel_rfl) (by kernel_rfl) (fun _ _ _ h => (h : False).elim) (Or.inl ⟨by kernel_rfl, ?_⟩) (fun _ => by assumption) ?_
    · intro w _
      go_simp
    try simp only [List.getElem_toArray, List.getElem_cons_zero, List.getElem_cons_succ, Act.put, List.setIfInBounds_toArray, List.set_cons_zero, List.set_cons_succ]
    refine wpAnyL_take (i := 10) (oi := _) (v := .int .i64 q.2) rfl (by kernel_rfl) (by kernel_rfl) (by kernel_rfl) (by kernel_rfl) (fun _ _ _ h => (h : False).elim) (Or.inl ⟨by kernel_rfl, ?_⟩) (by assumption) ?_
    · intro w hSw
      obtain ⟨s0, s1, s2, s3⟩ := hSw
      go_simp
    try simp only [List.getElem_toArray, List.getElem_cons_zero, List.getElem_cons_succ, Act.put, List.setIfInBounds_toArray, List.set_cons_zero, List.set_cons_succ]
    refine wpAnyL_any (i := 11) (oi := _) (v := .int .i64 (ev q.2)) rfl (by kernel_rfl) (by kernel_rfl) (by kernel_rfl) (by kernel_rfl) (fun _ _ _ h => (h : False).elim) (Or.inl ⟨by kernel_rfl, ?_⟩) (fun _ => by assumption) ?_
    · intro w _
      go_simp
    try simp only [List.getElem_toArray, List.getElem_cons_zero, List.getElem_cons_succ, Act.put, List.setIfInBounds_toArray, List.set_cons_zero, List.set_cons_succ]
    refine wpAnyL_any (i := 12) (oi := _) (v := .pointer (some ⟨w.heap.size, 0, none⟩)) rfl (by kernel_rfl) (by kernel_rfl) (by kernel_rfl) (by kernel_rfl) (fun _ _ _ h => (h : False).elim) (Or.inl ⟨by kernel_rfl, ?_⟩) (fun _ => by assumption) ?_
    · intro w _
      go_simp
    try simp only [List.getElem_toArray, List.getElem_cons_zero, List.getElem_cons_succ, Act.put, List.setIfInBounds_toArray, List.set_cons_zero, List.set_cons_succ]
    refine wpAnyL_fork (rs := [7, 13]) (by kernel_rfl) (by simp) ?_
    refine AllL.cons (i := 7) rfl (fun K hK => ?_) ?_
    · have c7 : wd.cell? ⟨w.heap.size + 1, 0, none⟩ = some (.int .i64 q.1) := cells_at G1.out 0
      rw [if_pos (by kernel_rfl)]
      go_wp2_with fail
      refine hK.out _ _ hS (fun hHeld => ?_)
      clear hK K c7
      try simp only [List.getElem_toArray, List.getElem_cons_zero, List.getElem_cons_succ, Act.put, List.setIfInBounds_toArray, List.set_cons_zero, List.set_cons_succ]
      refine wpAnyL_any (i := 8) (oi := _) (v := .int .i64 (ev q.1)) rfl (by kernel_rfl) (by kernel_rfl) (by kernel_rfl) (by kernel_rfl) (fun _ _ _ h => (h : False).elim) (Or.inl ⟨by kernel_rfl, ?_⟩) (fun _ => by assumption) ?_
      · intro w _
        go_simp
      try simp only [List.getElem_toArray, List.getElem_cons_zero, List.getElem_cons_succ, Act.put, List.setIfInBounds_toArray, List.set_cons_zero, List.set_cons_succ]
      refine wpAnyL_late (i := 13) (by kernel_rfl) rfl (by kernel_rfl) (fun K hK => ?_)
      have cc : wd.cell? ⟨w.heap.size, 0, none⟩ = some (.int .i64 (p.1)) := cells_at G0.out 0
      have ff := two_frozen G0.out 0
      rw [if_pos (by kernel_rfl)]
      go_wp2_with fail
      refine hK.out _ _ (fun _ => ?_)
      clear hK K cc ff
      try simp only [List.getElem_toArray, List.getElem_cons_zero, List.getElem_cons_succ, Act.put, List.setIfInBounds_toArray, List.set_cons_zero, List.set_cons_succ]
      obtain ⟨y1, hw2⟩ : ∃ y1, wd.setCell ⟨w.heap.size, 0, none⟩ (.int .i64 (ev p.1)) = y1 := ⟨_, rfl⟩
      have A0 := Lib.hid (show y1.heap[w.heap.size]? = some (.cells #[.int .i64 (ev p.1), .int .i64 (p.2)] 35 (0, 0)) by rw [← hw2]; exact cells_put G0.out 0 _)
      have A1 := Lib.hid (show y1.heap[w.heap.size + 1]? = some (.cells #[.int .i64 (q.1), .int .i64 (q.2)] 35 (0, 0)) by rw [← hw2]; exact (Below.heap_setCell _ _ _ _ (by show w.heap.size + 1 ≠ w.heap.size; omega)).trans G1.out)
      have Ak : Keeps (fun _ => False) w y1 := by rw [← hw2]; exact Gk.setCell ⟨w.heap.size, 0, none⟩ (fun h => by have : w.heap.size < w.heap.size := h; omega) _
      rw [hw2]
      clear hw2
      refine wpAnyL_after (i := 14) (oi := _) (v := .pointer (some ⟨w.heap.size, 1, none⟩)) rfl (by kernel_rfl) (by kernel_rfl) (by kernel_rfl) (by kernel_rfl) (by kernel_rfl) (fun _ _ _ h => (h : False).elim) (Or.inl ⟨by kernel_rfl, ?_⟩) ?_
      · intro w _
        go_simp
      try simp only [List.getElem_toArray, List.getElem_cons_zero, List.getElem_cons_succ, Act.put, List.setIfInBounds_toArray, List.set_cons_zero, List.set_cons_succ]
      refine wpAnyL_late (i := 15) (by kernel_rfl) rfl (by kernel_rfl) (fun K hK => ?_)
      have cc : y1.cell? ⟨w.heap.size, 1, none⟩ = some (.int .i64 (p.2)) := cells_at A0.out 1
      have ff := two_frozen A0.out 1
      rw [if_pos (by kernel_rfl)]
      go_wp2_with fail
      refine hK.out _ _ (fun _ => ?_)
      clear hK K cc ff
      try simp only [List.getElem_toArray, List.getElem_cons_zero, List.getElem_cons_succ, Act.put, List.setIfInBounds_toArray, List.set_cons_zero, List.set_cons_succ]
      obtain ⟨y2, hw2⟩ : ∃ y2, y1.setCell ⟨w.heap.size, 1, none⟩ (.int .i64 (ev p.2)) = y2 := ⟨_, rfl⟩
      have B0 := Lib.hid (show y2.heap[w.heap.size]? = some (.cells #[.int .i64 (ev p.1), .int .i64 (ev p.2)] 35 (0, 0)) by rw [← hw2]; exact cells_put A0.out 1 _)
      have B1 := Lib.hid (show y2.heap[w.heap.size + 1]? = some (.cells #[.int .i64 (q.1), .int .i64 (q.2)] 35 (0, 0)) by rw [← hw2]; exact (Below.heap_setCell _ _ _ _ (by show w.heap.size + 1 ≠ w.heap.size; omega)).trans A1.out)
      have Bk : Keeps (fun _ => False) w y2 := by rw [← hw2]; exact Ak.setCell ⟨w.heap.size, 1, none⟩ (fun h => by have : w.heap.size < w.heap.size := h; omega) _
      rw [hw2]
      clear hw2
      refine wpAnyL_after (i := 16) (oi := _) (v := .pointer (some ⟨w.heap.size + 1, 0, none⟩)) rfl (by kernel_rfl) (by kernel_rfl) (by kernel_rfl) (by kernel_rfl) (by kernel_rfl) (fun _ _ _ h => (h : False).elim) (Or.inl ⟨by kernel_rfl, ?_⟩) ?_
      · intro w _
        go_simp
      try simp only [List.getElem_toArray, List.getElem_cons_zero, List.getElem_cons_succ, Act.put, List.setIfInBounds_toArray, List.set_cons_zero, List.set_cons_succ]
      refine wpAnyL_late (i := 17) (by kernel_rfl) rfl (by kernel_rfl) (fun K hK => ?_)
      have cc : y2.cell? ⟨w.heap.size + 1, 0, none⟩ = some (.int .i64 (q.1)) := cells_at B1.out 0
      have ff := two_frozen B1.out 0
      rw [if_pos (by kernel_rfl)]
      go_wp2_with fail
      refine hK.out _ _ (fun _ => ?_)
      clear hK K cc ff
      try simp only [List.getElem_toArray, List.getElem_cons_zero, List.getElem_cons_succ, Act.put, List.setIfInBounds_toArray, List.set_cons_zero, List.set_cons_succ]
      obtain ⟨y3, hw2⟩ : ∃ y3, y2.setCell ⟨w.heap.size + 1, 0, none⟩ (.int .i64 (ev q.1)) = y3 := ⟨_, rfl⟩
      have C1 := Lib.hid (show y3.heap[w.heap.size + 1]? = some (.cells #[.int .i64 (ev q.1), .int .i64 (q.2)] 35 (0, 0)) by rw [← hw2]; exact cells_put B1.out 0 _)
      have C0 := Lib.hid (show y3.heap[w.heap.size]? = some (.cells #[.int .i64 (ev p.1), .int .i64 (ev p.2)] 35 (0, 0)) by rw [← hw2]; exact (Below.heap_setCell _ _ _ _ (by show w.heap.size ≠ w.heap.size + 1; omega)).trans B0.out)
      have Ck : Keeps (fun _ => False) w y3 := by rw [← hw2]; exact Bk.setCell ⟨w.heap.size + 1, 0, none⟩ (fun h => by have : w.heap.size + 1 < w.heap.size := h; omega) _
      rw [hw2]
      clear hw2
      refine wpAnyL_after (i := 18) (oi := _) (v := .pointer (some ⟨w.heap.size + 1, 1, none⟩)) rfl (by kernel_rfl) (by kernel_rfl) (by kernel_rfl) (by kernel_rfl) (by kernel_rfl) (fun _ _ _ h => (h : False).elim) (Or.inl ⟨by kernel_rfl, ?_⟩) ?_
      · intro w _
        go_simp
      try simp only [List.getElem_toArray, List.getElem_cons_zero, List.getElem_cons_succ, Act.put, List.setIfInBounds_toArray, List.set_cons_zero, List.set_cons_succ]
      refine wpAnyL_late (i := 19) (by kernel_rfl) rfl (by kernel_rfl) (fun K hK => ?_)
      have cc : y3.cell? ⟨w.heap.size + 1, 1, none⟩ = some (.int .i64 (q.2)) := cells_at C1.out 1
      have ff := two_frozen C1.out 1
      rw [if_pos (by kernel_rfl)]
      go_wp2_with fail
      refine hK.out _ _ (fun _ => ?_)
      clear hK K cc ff
      try simp only [List.getElem_toArray, List.getElem_cons_zero, List.getElem_cons_succ, Act.put, List.setIfInBounds_toArray, List.set_cons_zero, List.set_cons_succ]
      obtain ⟨y4, hw2⟩ : ∃ y4, y3.setCell ⟨w.heap.size + 1, 1, none⟩ (.int .i64 (ev q.2)) = y4 := ⟨_, rfl⟩
      have D1 := Lib.hid (show y4.heap[w.heap.size + 1]? = some (.cells #[.int .i64 (ev q.1), .int .i64 (ev q.2)] 35 (0, 0)) by rw [← hw2]; exact cells_put C1.out 1 _)
      have D0 := Lib.hid (show y4.heap[w.heap.size]? = some (.cells #[.int .i64 (ev p.1), .int .i64 (ev p.2)] 35 (0, 0)) by rw [← hw2]; exact (Below.heap_setCell _ _ _ _ (by show w.heap.size ≠ w.heap.size + 1; omega)).trans C0.out)
      have Dk : Keeps (fun _ => False) w y4 := by rw [← hw2]; exact Ck.setCell ⟨w.heap.size + 1, 1, none⟩ (fun h => by have : w.heap.size + 1 < w.heap.size := h; omega) _
      rw [hw2]
      clear hw2
      refine wpAnyL_done (by kernel_rfl) ?_ _
      refine NoPanic.normal ?_
      go_wp2_with fail
      go_meet
      exact ⟨D0.out, D1.out, Dk⟩
    refine AllL.consL (i := 13) rfl (by kernel_rfl) (fun K hK => ?_) AllL.nil
    have cc : wd.cell? ⟨w.heap.size, 0, none⟩ = some (.int .i64 (p.1)) := cells_at G0.out 0
    have ff := two_frozen G0.out 0
    rw [if_pos (by kernel_rfl)]
    go_wp2_with fail
    refine hK.out _ _ (fun _ => ?_)
    clear hK K cc ff
    try simp only [List.getElem_toArray, List.getElem_cons_zero, List.getElem_cons_succ, Act.put, List.setIfInBounds_toArray, List.set_cons_zero, List.set_cons_succ]
    obtain ⟨z1, hw2⟩ : ∃ z1, wd.setCell ⟨w.heap.size, 0, none⟩ (.int .i64 (ev p.1)) = z1 := ⟨_, rfl⟩
    have A0 := Lib.hid (show z1.heap[w.heap.size]? = some (.cells #[.int .i64 (ev p.1), .int .i64 (p.2)] 35 (0, 0)) by rw [← hw2]; exact cells_put G0.out 0 _)
    have A1 := Lib.hid (show z1.heap[w.heap.size + 1]? = some (.cells #[.int .i64 (q.1), .int .i64 (q.2)] 35 (0, 0)) by rw [← hw2]; exact (Below.heap_setCell _ _ _ _ (by show w.heap.size + 1 ≠ w.heap.size; omega)).trans G1.out)
    have Ak : Keeps (fun _ => False) w z1 := by rw [← hw2]; exact Gk.setCell ⟨w.heap.size, 0, none⟩ (fun h => by have : w.heap.size < w.heap.size := h; omega) _
    rw [hw2]
    clear hw2
    refine wpAnyL_after (i := 14) (oi := _) (v := .pointer (some ⟨w.heap.size, 1, none⟩)) rfl (by kernel_rfl) (by kernel_rfl) (by kernel_rfl) (by kernel_rfl) (by kernel_rfl) (fun _ _ _ h => (h : False).elim) (Or.inl ⟨by kernel_rfl, ?_⟩) ?_
    · intro w _
      go_simp
    try simp only [List.getElem_toArray, List.getElem_cons_zero, List.getElem_cons_succ, Act.put, List.setIfInBounds_toArray, List.set_cons_zero, List.set_cons_succ]
    refine wpAnyL_fork (rs := [7, 15]) (by kernel_rfl) (by simp) ?_
    refine AllL.consL (i := 7) rfl (by kernel_rfl) (fun K hK => ?_) ?_
    · have c7 : z1.cell? ⟨w.heap.size + 1, 0, none⟩ = some (.int .i64 q.1) := cells_at A1.out 0
      rw [if_pos (by kernel_rfl)]
      go_wp2_with fail
      refine hK.out _ _ (fun _ => ?_)
      clear hK K c7
      try simp only [List.getElem_toArray, List.getElem_cons_zero, List.getElem_cons_succ, Act.put, List.setIfInBounds_toArray, List.set_cons_zero, List.set_cons_succ]
      refine wpAnyL_after (i := 8) (oi := _) (v := .int .i64 (ev q.1)) rfl (by kernel_rfl) (by kernel_rfl) (by kernel_rfl) (by kernel_rfl) (by kernel_rfl) (fun _ _ _ h => (h : False).elim) (Or.inl ⟨by kernel_rfl, ?_⟩) ?_
      · intro w _
        go_simp
      try simp only [List.getElem_toArray, List.getElem_cons_zero, List.getElem_cons_succ, Act.put, List.setIfInBounds_toArray, List.set_cons_zero, List.set_cons_succ]
      refine wpAnyL_late (i := 15) (by kernel_rfl) rfl (by kernel_rfl) (fun K hK => ?_)
      have cc : z1.cell? ⟨w.heap.size, 1, none⟩ = some (.int .i64 (p.2)) := cells_at A0.out 1
      have ff := two_frozen A0.out 1
      rw [if_pos (by kernel_rfl)]
      go_wp2_with fail
      refine hK.out _ _ (fun _ => ?_)
      clear hK K cc ff
      try simp only [List.getElem_toArray, List.getElem_cons_zero, List.getElem_cons_succ, Act.put, List.setIfInBounds_toArray, List.set_cons_zero, List.set_cons_succ]
      obtain ⟨y2, hw2⟩ : ∃ y2, z1.setCell ⟨w.heap.size, 1, none⟩ (.int .i64 (ev p.2)) = y2 := ⟨_, rfl⟩
      have B0 := Lib.hid (show y2.heap[w.heap.size]? = some (.cells #[.int .i64 (ev p.1), .int .i64 (ev p.2)] 35 (0, 0)) by rw [← hw2]; exact cells_put A0.out 1 _)
      have B1 := Lib.hid (show y2.heap[w.heap.size + 1]? = some (.cells #[.int .i64 (q.1), .int .i64 (q.2)] 35 (0, 0)) by rw [← hw2]; exact (Below.heap_setCell _ _ _ _ (by show w.heap.size + 1 ≠ w.heap.size; omega)).trans A1.out)
      have Bk : Keeps (fun _ => False) w y2 := by rw [← hw2]; exact Ak.setCell ⟨w.heap.size, 1, none⟩ (fun h => by have : w.heap.size < w.heap.size := h; omega) _
      rw [hw2]
      clear hw2
      refine wpAnyL_after (i := 16) (oi := _) (v := .pointer (some ⟨w.heap.size + 1, 0, none⟩)) rfl (by kernel_rfl) (by kernel_rfl) (by kernel_rfl) (by kernel_rfl) (by kernel_rfl) (fun _ _ _ h => (h : False).elim) (Or.inl ⟨by kernel_rfl, ?_⟩) ?_
      · intro w _
        go_simp
      try simp only [List.getElem_toArray, List.getElem_cons_zero, List.getElem_cons_succ, Act.put, List.setIfInBounds_toArray, List.set_cons_zero, List.set_cons_succ]
      refine wpAnyL_late (i := 17) (by kernel_rfl) rfl (by kernel_rfl) (fun K hK => ?_)
      have cc : y2.cell? ⟨w.heap.size + 1, 0, none⟩ = some (.int .i64 (q.1)) := cells_at B1.out 0
      have ff := two_frozen B1.out 0
      rw [if_pos (by kernel_rfl)]
      go_wp2_with fail
      refine hK.out _ _ (fun _ => ?_)
      clear hK K cc ff
      try simp only [List.getElem_toArray, List.getElem_cons_zero, List.getElem_cons_succ, Act.put, List.setIfInBounds_toArray, List.set_cons_zero, List.set_cons_succ]
      obtain ⟨y3, hw2⟩ : ∃ y3, y2.setCell ⟨w.heap.size + 1, 0, none⟩ (.int .i64 (ev q.1)) = y3 := ⟨_, rfl⟩
      have C1 := Lib.hid (show y3.heap[w.heap.size + 1]? = some (.cells #[.int .i64 (ev q.1), .int .i64 (q.2)] 35 (0, 0)) by rw [← hw2]; exact cells_put B1.out 0 _)
      have C0 := Lib.hid (show y3.heap[w.heap.size]? = some (.cells #[.int .i64 (ev p.1), .int .i64 (ev p.2)] 35 (0, 0)) by rw [← hw2]; exact (Below.heap_setCell _ _ _ _ (by show w.heap.size ≠ w.heap.size + 1; omega)).trans B0.out)
      have Ck : Keeps (fun _ => False) w y3 := by rw [← hw2]; exact Bk.setCell ⟨w.heap.size + 1, 0, none⟩ (fun h => by have : w.heap.size + 1 < w.heap.size := h; omega) _
      rw [hw2]
      clear hw2
      refine wpAnyL_after (i := 18) (oi := _) (v := .pointer (some ⟨w.heap.size + 1, 1, none⟩)) rfl (by kernel_rfl) (by kernel_rfl) (by kernel_rfl) (by kernel_rfl) (by kernel_rfl) (fun _ _ _ h => (h : False).elim) (Or.inl ⟨by kernel_rfl, ?_⟩) ?_
      · intro w _
        go_simp
      try simp only [List.getElem_toArray, List.getElem_cons_zero, List.getElem_cons_succ, Act.put, List.setIfInBounds_toArray, List.set_cons_zero, List.set_cons_succ]
      refine wpAnyL_late (i := 19) (by kernel_rfl) rfl (by kernel_rfl) (fun K hK => ?_)
      have cc : y3.cell? ⟨w.heap.size + 1, 1, none⟩ = some (.int .i64 (q.2)) := cells_at C1.out 1
      have ff := two_frozen C1.out 1
      rw [if_pos (by kernel_rfl)]
      go_wp2_with fail
      refine hK.out _ _ (fun _ => ?_)
      clear hK K cc ff
      try simp only [List.getElem_toArray, List.getElem_cons_zero, List.getElem_cons_succ, Act.put, List.setIfInBounds_toArray, List.set_cons_zero, List.set_cons_succ]
      obtain ⟨y4, hw2⟩ : ∃ y4, y3.setCell ⟨w.heap.size + 1, 1, none⟩ (.int .i64 (ev q.2)) = y4 := ⟨_, rfl⟩
      have D1 := Lib.hid (show y4.heap[w.heap.size + 1]? = some (.cells #[.int .i64 (ev q.1), .int .i64 (ev q.2)] 35 (0, 0)) by rw [← hw2]; exact cells_put C1.out 1 _)
      have D0 := Lib.hid (show y4.heap[w.heap.size]? = some (.cells #[.int .i64 (ev p.1), .int .i64 (ev p.2)] 35 (0, 0)) by rw [← hw2]; exact (Below.heap_setCell _ _ _ _ (by show w.heap.size ≠ w.heap.size + 1; omega)).trans C0.out)
      have Dk : Keeps (fun _ => False) w y4 := by rw [← hw2]; exact Ck.setCell ⟨w.heap.size + 1, 1, none⟩ (fun h => by have : w.heap.size + 1 < w.heap.size := h; omega) _
      rw [hw2]
      clear hw2
      refine wpAnyL_done (by kernel_rfl) ?_ _
      refine NoPanic.normal ?_
      go_wp2_with fail
      go_meet
      exact ⟨D0.out, D1.out, Dk⟩
    refine AllL.consL (i := 15) rfl (by kernel_rfl) (fun K hK => ?_) AllL.nil
    have cc : z1.cell? ⟨w.heap.size, 1, none⟩ = some (.int .i64 (p.2)) := cells_at A0.out 1
    have ff := two_frozen A0.out 1
    rw [if_pos (by kernel_rfl)]
    go_wp2_with fail
    refine hK.out _ _ (fun _ => ?_)
    clear hK K cc ff
    try simp only [List.getElem_toArray, List.getElem_cons_zero, List.getElem_cons_succ, Act.put, List.setIfInBounds_toArray, List.set_cons_zero, List.set_cons_succ]
    obtain ⟨z2, hw2⟩ : ∃ z2, z1.setCell ⟨w.heap.size, 1, none⟩ (.int .i64 (ev p.2)) = z2 := ⟨_, rfl⟩
    have B0 := Lib.hid (show z2.heap[w.heap.size]? = some (.cells #[.int .i64 (ev p.1), .int .i64 (ev p.2)] 35 (0, 0)) by rw [← hw2]; exact cells_put A0.out 1 _)
    have B1 := Lib.hid (show z2.heap[w.heap.size + 1]? = some (.cells #[.int .i64 (q.1), .int .i64 (q.2)] 35 (0, 0)) by rw [← hw2]; exact (Below.heap_setCell _ _ _ _ (by show w.heap.size + 1 ≠ w.heap.size; omega)).trans A1.out)
    have Bk : Keeps (fun _ => False) w z2 := by rw [← hw2]; exact Ak.setCell ⟨w.heap.size, 1, none⟩ (fun h => by have : w.heap.size < w.heap.size := h; omega) _
    rw [hw2]
    clear hw2
    refine wpAnyL_late (i := 7) (by kernel_rfl) rfl (by kernel_rfl) (fun K hK => ?_)
    have c7 : z2.cell? ⟨w.heap.size + 1, 0, none⟩ = some (.int .i64 q.1) := cells_at B1.out 0
    rw [if_pos (by kernel_rfl)]
    go_wp2_with fail
    refine hK.out _ _ (fun _ => ?_)
    clear hK K c7
    try simp only [List.getElem_toArray, List.getElem_cons_zero, List.getElem_cons_succ, Act.put, List.setIfInBounds_toArray, List.set_cons_zero, List.set_cons_succ]
    refine wpAnyL_after (i := 8) (oi := _) (v := .int .i64 (ev q.1)) rfl (by kernel_rfl) (by kernel_rfl) (by kernel_rfl) (by kernel_rfl) (by kernel_rfl) (fun _ _ _ h => (h : False).elim) (Or.inl ⟨by kernel_rfl, ?_⟩) ?_
    · intro w _
      go_simp
    try simp only [List.getElem_toArray, List.getElem_cons_zero, List.getElem_cons_succ, Act.put, List.setIfInBounds_toArray, List.set_cons_zero, List.set_cons_succ]
    refine wpAnyL_after (i := 16) (oi := _) (v := .pointer (some ⟨w.heap.size + 1, 0, none⟩)) rfl (by kernel_rfl) (by kernel_rfl) (by kernel_rfl) (by kernel_rfl) (by kernel_rfl) (fun _ _ _ h => (h : False).elim) (Or.inl ⟨by kernel_rfl, ?_⟩) ?_
    · intro w _
      go_simp
    try simp only [List.getElem_toArray, List.getElem_cons_zero, List.getElem_cons_succ, Act.put, List.setIfInBounds_toArray, List.set_cons_zero, List.set_cons_succ]
    refine wpAnyL_late (i := 17) (by kernel_rfl) rfl (by kernel_rfl) (fun K hK => ?_)
    have cc : z2.cell? ⟨w.heap.size + 1, 0, none⟩ = some (.int .i64 (q.1)) := cells_at B1.out 0
    have ff := two_frozen B1.out 0
    rw [if_pos (by kernel_rfl)]
    go_wp2_with fail
    refine hK.out _ _ (fun _ => ?_)
    clear hK K cc ff
    try simp only [List.getElem_toArray, List.getElem_cons_zero, List.getElem_cons_succ, Act.put, List.setIfInBounds_toArray, List.set_cons_zero, List.set_cons_succ]
    obtain ⟨y3, hw2⟩ : ∃ y3, z2.setCell ⟨w.heap.size + 1, 0, none⟩ (.int .i64 (ev q.1)) = y3 := ⟨_, rfl⟩
    have C1 := Lib.hid (show y3.heap[w.heap.size + 1]? = some (.cells #[.int .i64 (ev q.1), .int .i64 (q.2)] 35 (0, 0)) by rw [← hw2]; exact cells_put B1.out 0 _)
    have C0 := Lib.hid (show y3.heap[w.heap.size]? = some (.cells #[.int .i64 (ev p.1), .int .i64 (ev p.2)] 35 (0, 0)) by rw [← hw2]; exact (Below.heap_setCell _ _ _ _ (by show w.heap.size ≠ w.heap.size + 1; omega)).trans B0.out)
    have Ck : Keeps (fun _ => False) w y3 := by rw [← hw2]; exact Bk.setCell ⟨w.heap.size + 1, 0, none⟩ (fun h => by have : w.heap.size + 1 < w.heap.size := h; omega) _
    rw [hw2]
    clear hw2
    refine wpAnyL_after (i := 18) (oi := _) (v := .pointer (some ⟨w.heap.size + 1, 1, none⟩)) rfl (by kernel_rfl) (by kernel_rfl) (by kernel_rfl) (by kernel_rfl) (by kernel_rfl) (fun _ _ _ h => (h : False).elim) (Or.inl ⟨by kernel_rfl, ?_⟩) ?_
    · intro w _
      go_simp
    try simp only [List.getElem_toArray, List.getElem_cons_zero, List.getElem_cons_succ, Act.put, List.setIfInBounds_toArray, List.set_cons_zero, List.set_cons_succ]
    refine wpAnyL_late (i := 19) (by kernel_rfl) rfl (by kernel_rfl) (fun K hK => ?_)
    have cc : y3.cell? ⟨w.heap.size + 1, 1, none⟩ = some (.int .i64 (q.2)) := cells_at C1.out 1
    have ff := two_frozen C1.out 1
    rw [if_pos (by kernel_rfl)]
    go_wp2_with fail
    refine hK.out _ _ (fun _ => ?_)
    clear hK K cc ff
    try simp only [List.getElem_toArray, List.getElem_cons_zero, List.getElem_cons_succ, Act.put, List.setIfInBounds_toArray, List.set_cons_zero, List.set_cons_succ]
    obtain ⟨y4, hw2⟩ : ∃ y4, y3.setCell ⟨w.heap.size + 1, 1, none⟩ (.int .i64 (ev q.2)) = y4 := ⟨_, rfl⟩
    have D1 := Lib.hid (show y4.heap[w.heap.size + 1]? = some (.cells #[.int .i64 (ev q.1), .int .i64 (ev q.2)] 35 (0, 0)) by rw [← hw2]; exact cells_put C1.out 1 _)
    have D0 := Lib.hid (show y4.heap[w.heap.size]? = some (.cells #[.int .i64 (ev p.1), .int .i64 (ev p.2)] 35 (0, 0)) by rw [← hw2]; exact (Below.heap_setCell _ _ _ _ (by show w.heap.size ≠ w.heap.size + 1; omega)).trans C0.out)
    have Dk : Keeps (fun _ => False) w y4 := by rw [← hw2]; exact Ck.setCell ⟨w.heap.size + 1, 1, none⟩ (fun h => by have : w.heap.size + 1 < w.heap.size := h; omega) _
    rw [hw2]
    clear hw2
    refine wpAnyL_done (by kernel_rfl) ?_ _
    refine NoPanic.normal ?_
    go_wp2_with fail
    go_meet
    exact ⟨D0.out, D1.out, Dk⟩
  case rest =>
    obtain ⟨hA, hB, hkc⟩ := hcut
    obtain ⟨p', hpe⟩ : ∃ p' : Int × Int, (ev p.1, ev p.2) = p' := ⟨_, rfl⟩
    obtain ⟨q', hqe⟩ : ∃ q' : Int × Int, (ev q.1, ev q.2) = q' := ⟨_, rfl⟩
    have hp' : Pt p' := by rw [← hpe]; exact ⟨ev_isS hp.1, ev_isS hp.2⟩
    have hq' : Pt q' := by rw [← hqe]; exact ⟨ev_isS hq.1, ev_isS hq.2⟩
    have hev : (2 * (p'.1 / 2) = p'.1 ∧ 2 * (p'.2 / 2) = p'.2) ∧ 2 * (q'.1 / 2) = q'.1 ∧ 2 * (q'.2 / 2) = q'.2 := by rw [← hpe, ← hqe]; simp only [ev]; omega
    rw [show ev p.1 = p'.1 from by rw [← hpe], show ev p.2 = p'.2 from by rw [← hpe]] at hA
    rw [show ev q.1 = q'.1 from by rw [← hqe], show ev q.2 = q'.2 from by rw [← hqe]] at hB
    have HEV := Lib.hid hev
    have HA := Lib.hid hA
    have HB := Lib.hid hB
    clear hpe hqe E0 E1 E2 E3 hev hA hB HG0 HG1
    have a0 : wc.cell? ⟨w.heap.size, 0, none⟩ = some (.int .i64 p'.1) := cells_at HA.out 0
    have a1 : wc.cell? ⟨w.heap.size, 1, none⟩ = some (.int .i64 p'.2) := cells_at HA.out 1
    go_wp2_with fail
    refine (valid14_calls _ l HL.out wc (HV.out.kept hkc)).mono ?_; rintro e w2 ⟨⟨r, rfl, hr⟩, hk2⟩
    have hk02 := knil hkc hk2
    cases r with
    | false =>
      clear a0 a1
      go_wp2_with fail
      refine (serves_calls w2 (HG.out.kept hk02)).mono ?_; rintro e w3 ⟨rfl, hk3⟩
      go_wp2_with fail
      go_ret
      exact ⟨rfl, knil hk02 hk3⟩
    | true =>
      obtain ⟨h3, h64⟩ := hr rfl
      have H3 := Lib.hid h3
      have H64 := Lib.hid h64
      have hA2 := (hk2.block _ (Array.getElem?_eq_some_iff.1 HA.out).1 (fun h => h)).trans HA.out
      clear a0 a1 h3 h64 hr
      have a0 : w2.cell? ⟨w.heap.size, 0, none⟩ = some (.int .i64 p'.1) := cells_at hA2 0
      have a1 : w2.cell? ⟨w.heap.size, 1, none⟩ = some (.int .i64 p'.2) := cells_at hA2 1
      clear hA2
      go_wp2_with fail
      refine (plocate_calls _ l p' H3.out H64.out HL.out hp' w2 (HG.out.kept hk02) (HV.out.kept hk02)).mono ?_; rintro e w3 ⟨rfl, hk3⟩
      have hk03 := knil hk02 hk3
      have hk23 := knil hk2 hk3
      clear a0 a1
      obtain ⟨L1, hL1⟩ : ∃ L1, locI (sides l l.length p') = L1 := ⟨_, rfl⟩
      rw [hL1]
      have HL1 := Lib.hid hL1
      clear hL1
      by_cases h1 : L1 < 0
      · go_wp2_with fail
        refine (serves_calls w3 (HG.out.kept hk03)).mono ?_; rintro e w4 ⟨rfl, hk4⟩
        go_wp2_with fail
        go_ret
        exact ⟨rfl, knil hk03 hk4⟩
      have hB3 := (hk23.block _ (Array.getElem?_eq_some_iff.1 HB.out).1 (fun h => h)).trans HB.out
      have b0 : w3.cell? ⟨w.heap.size + 1, 0, none⟩ = some (.int .i64 q'.1) := cells_at hB3 0
      have b1 : w3.cell? ⟨w.heap.size + 1, 1, none⟩ = some (.int .i64 q'.2) := cells_at hB3 1
      clear hB3
      go_wp2_with fail
      refine (plocate_calls _ l q' H3.out H64.out HL.out hq' w3 (HG.out.kept hk03) (HV.out.kept hk03)).mono ?_; rintro e w4 ⟨rfl, hk4⟩
      have hk04 := knil hk03 hk4
      have hk24 := knil hk23 hk4
      clear b0 b1
      obtain ⟨L2, hL2⟩ : ∃ L2, locI (sides l l.length q') = L2 := ⟨_, rfl⟩
      rw [hL2]
      have HL2 := Lib.hid hL2
      clear hL2
      by_cases h2 : L2 < 0
      · go_wp2_with fail
        refine (serves_calls w4 (HG.out.kept hk04)).mono ?_; rintro e w5 ⟨rfl, hk5⟩
        go_wp2_with fail
        go_ret
        exact ⟨rfl, knil hk04 hk5⟩
      go_wp2_with fail
      refine (serves_calls w4 (HG.out.kept hk04)).mono ?_; rintro e w5 ⟨rfl, hk5⟩
      have hk05 := knil hk04 hk5
      have hk25 := knil hk24 hk5
      have hA5 := (hk25.block _ (Array.getElem?_eq_some_iff.1 HA.out).1 (fun h => h)).trans HA.out
      have a0 : w5.cell? ⟨w.heap.size, 0, none⟩ = some (.int .i64 p'.1) := cells_at hA5 0
      have a1 : w5.cell? ⟨w.heap.size, 1, none⟩ = some (.int .i64 p'.2) := cells_at hA5 1
      clear hA5
      go_wp2_with fail
      refine (locate14_calls _ l p' H3.out H64.out HL.out hp' w5 (HV.out.kept hk05)).mono ?_; rintro e w6 ⟨⟨r1, rfl, hr1⟩, hk6⟩
      have hk06 := knil hk05 hk6
      have hk26 := knil hk25 hk6
      have hr1' : 0 ≤ r1 := hr1.2 (locI_neg.1 (by rw [HL1.out]; omega))
      have hB6 := (hk26.block _ (Array.getElem?_eq_some_iff.1 HB.out).1 (fun h => h)).trans HB.out
      have b0 : w6.cell? ⟨w.heap.size + 1, 0, none⟩ = some (.int .i64 q'.1) := cells_at hB6 0
      have b1 : w6.cell? ⟨w.heap.size + 1, 1, none⟩ = some (.int .i64 q'.2) := cells_at hB6 1
      clear hB6 a0 a1 hr1
      go_wp2_with fail
      refine (locate14_calls _ l q' H3.out H64.out HL.out hq' w6 (HV.out.kept hk06)).mono ?_; rintro e w7 ⟨⟨r2, rfl, hr2⟩, hk7⟩
      have hk07 := knil hk06 hk7
      have hk27 := knil hk26 hk7
      have hr2' : 0 ≤ r2 := hr2.2 (locI_neg.1 (by rw [HL2.out]; omega))
      have hB7 := (hk27.block _ (Array.getElem?_eq_some_iff.1 HB.out).1 (fun h => h)).trans HB.out
      have hA7 := (hk27.block _ (Array.getElem?_eq_some_iff.1 HA.out).1 (fun h => h)).trans HA.out
      clear b0 b1 hr2
      have b0 : w7.cell? ⟨w.heap.size + 1, 0, none⟩ = some (.int .i64 q'.1) := cells_at hB7 0
      have b1 : w7.cell? ⟨w.heap.size + 1, 1, none⟩ = some (.int .i64 q'.2) := cells_at hB7 1
      have a0 : w7.cell? ⟨w.heap.size, 0, none⟩ = some (.int .i64 p'.1) := cells_at hA7 0
      have a1 : w7.cell? ⟨w.heap.size, 1, none⟩ = some (.int .i64 p'.2) := cells_at hA7 1
      clear hB7 hA7
      go_wp2_with fail
      have half : ∀ x y : Int, IsS x → IsS y → 2 * (x / 2) = x → 2 * (y / 2) = y → wrap64 (wrap64 (x.tdiv 2) + wrap64 (y.tdiv 2)) = x / 2 + y / 2 := by
        intro x y hx hy ex ey
        have t1 : x.tdiv 2 = x / 2 := by
          have : x = 2 * (x / 2) := ex.symm
          rw [this, Int.mul_tdiv_cancel_left _ (by decide)]
          omega
        have t2 : y.tdiv 2 = y / 2 := by
          have : y = 2 * (y / 2) := ey.symm
          rw [this, Int.mul_tdiv_cancel_left _ (by decide)]
          omega
        rw [t1, t2]
        unfold IsS at hx hy
        unfold wrap64
        omega
      obtain ⟨⟨e1, e2⟩, e3, e4⟩ := HEV.out
      rw [half _ _ hp'.1 hq'.1 e1 e3, half _ _ hp'.2 hq'.2 e2 e4]
      obtain ⟨m, hm⟩ : ∃ m : Int × Int, (p'.1 / 2 + q'.1 / 2, p'.2 / 2 + q'.2 / 2) = m := ⟨_, rfl⟩
      rw [show p'.1 / 2 + q'.1 / 2 = m.1 by rw [← hm], show p'.2 / 2 + q'.2 / 2 = m.2 by rw [← hm]]
      have hm1 : 2 * m.1 = p'.1 + q'.1 := by rw [← hm]; show 2 * (p'.1 / 2 + q'.1 / 2) = _; omega
      have hm2 : 2 * m.2 = p'.2 + q'.2 := by rw [← hm]; show 2 * (p'.2 / 2 + q'.2 / 2) = _; omega
      have hmP : Pt m := by
        have x1 := hp'.1; have x2 := hp'.2; have x3 := hq'.1; have x4 := hq'.2
        unfold IsS at x1 x2 x3 x4
        unfold Pt IsS
        omega
      have hmid := middle_law l p' q' m hm1 hm2 (by rw [HL1.out]; omega) (by rw [HL2.out]; omega)
      clear hm hm1 hm2 a0 a1 b0 b1 e1 e2 e3 e4 half
      refine (plocate_calls _ l m H3.out H64.out HL.out hmP w7 (HG.out.kept hk07) (HV.out.kept hk07)).mono ?_; rintro e w8 ⟨rfl, hk8⟩
      obtain ⟨L3, hL3⟩ : ∃ L3, locI (sides l l.length m) = L3 := ⟨_, rfl⟩
      rw [hL3] at hmid ⊢
      clear hL3
      go_wp2_with fail
      go_ret
      exact ⟨by simp [hmid], knil hk07 hk8⟩
end Go.Proofs.YtmoajobnhiopiaaGreatDoor.to
