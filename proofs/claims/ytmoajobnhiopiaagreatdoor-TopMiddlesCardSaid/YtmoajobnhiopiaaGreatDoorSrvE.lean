/- Decode at two fixed requests, by walking its text. -/
import Derived.Test.YtmoajobnhiopiaaGreatDoorSrvD
set_option linter.unusedSimpArgs false
set_option linter.unusedVariables false
namespace Go.Proofs.YtmoajobnhiopiaaGreatDoor.sv
open Go Go.RowKit Go.Shelf Go.Maps Go.Proofs.YtmoajobnhiopiaaGreatDoor.mk Go.Proofs.YtmoajobnhiopiaaGreatDoor.tp Go.Proofs.YtmoajobnhiopiaaGreatDoor.rg Go.Proofs.YtmoajobnhiopiaaGreatDoor.lm Go.Proofs.YtmoajobnhiopiaaGreatDoor.gm Go.Proofs.YtmoajobnhiopiaaGreatDoor.po

theorem results_req {fn : Func} {p q : Tmp} (h : fn.results = #[.cell p 105, .tmp q]) (tmps : Array Value) (w : World) (g : Nat) (t : TypeId) (a b c d e f k : Value) (fr : Nat × Nat)
    (hp : tmps.getD p undef = .pointer (some ⟨g, 0, none⟩)) (hg : w.heap[g]? = some (.cells #[a, b, c, d, e, f, k] t fr)) : (results fn tmps).run Tryz.prog w = .ok (.tuple #[.agg #[a, b, c, d, e, f, k], tmps.getD q undef]) w := by
  have e' := run_loadVar_row (P := Tryz.prog) w g t 105 #[a, b, c, d, e, f, k] fr _ hg Tryz.underlying105 rfl (by kernel_rfl)
  rw [Array.getD_eq_getD_getElem?] at hp
  simp only [results, h]
  simp [Sem.run_bind, Result.andThen, hp, asAddr, e']
theorem cells_seven {w : World} {g : Nat} {t : TypeId} {fr : Nat × Nat} {z0 z1 z2 z3 z4 z5 z6 x0 x1 x2 x3 x4 x5 x6 : Value} (h : w.heap[g]? = some (.cells #[z0, z1, z2, z3, z4, z5, z6] t fr)) :
    (((((((w.setCell ⟨g, 0, none⟩ x0).setCell ⟨g, 1, none⟩ x1).setCell ⟨g, 2, none⟩ x2).setCell ⟨g, 3, none⟩ x3).setCell ⟨g, 4, none⟩ x4).setCell ⟨g, 5, none⟩ x5).setCell ⟨g, 6, none⟩ x6).heap[g]? = some (.cells #[x0, x1, x2, x3, x4, x5, x6] t fr) := by
  have h0 : (w.setCell ⟨g, 0, none⟩ x0).heap[g]? = some (.cells #[x0, z1, z2, z3, z4, z5, z6] t fr) := cells_put h 0 x0
  have h1 : ((w.setCell ⟨g, 0, none⟩ x0).setCell ⟨g, 1, none⟩ x1).heap[g]? = some (.cells #[x0, x1, z2, z3, z4, z5, z6] t fr) := cells_put h0 1 x1
  have h2 : (((w.setCell ⟨g, 0, none⟩ x0).setCell ⟨g, 1, none⟩ x1).setCell ⟨g, 2, none⟩ x2).heap[g]? = some (.cells #[x0, x1, x2, z3, z4, z5, z6] t fr) := cells_put h1 2 x2
  have h3 : ((((w.setCell ⟨g, 0, none⟩ x0).setCell ⟨g, 1, none⟩ x1).setCell ⟨g, 2, none⟩ x2).setCell ⟨g, 3, none⟩ x3).heap[g]? = some (.cells #[x0, x1, x2, x3, z4, z5, z6] t fr) := cells_put h2 3 x3
  have h4 : (((((w.setCell ⟨g, 0, none⟩ x0).setCell ⟨g, 1, none⟩ x1).setCell ⟨g, 2, none⟩ x2).setCell ⟨g, 3, none⟩ x3).setCell ⟨g, 4, none⟩ x4).heap[g]? = some (.cells #[x0, x1, x2, x3, x4, z5, z6] t fr) := cells_put h3 4 x4
  have h5 : ((((((w.setCell ⟨g, 0, none⟩ x0).setCell ⟨g, 1, none⟩ x1).setCell ⟨g, 2, none⟩ x2).setCell ⟨g, 3, none⟩ x3).setCell ⟨g, 4, none⟩ x4).setCell ⟨g, 5, none⟩ x5).heap[g]? = some (.cells #[x0, x1, x2, x3, x4, x5, z6] t fr) := cells_put h4 5 x5
  have h6 : (((((((w.setCell ⟨g, 0, none⟩ x0).setCell ⟨g, 1, none⟩ x1).setCell ⟨g, 2, none⟩ x2).setCell ⟨g, 3, none⟩ x3).setCell ⟨g, 4, none⟩ x4).setCell ⟨g, 5, none⟩ x5).setCell ⟨g, 6, none⟩ x6).heap[g]? = some (.cells #[x0, x1, x2, x3, x4, x5, x6] t fr) := cells_put h5 6 x6
  exact h6
theorem keeps_seven {a w : World} (h : Keeps (fun _ => False) a w) {g : Nat} (hb : a.heap.size ≤ g) (x0 x1 x2 x3 x4 x5 x6 : Value) : Keeps (fun _ => False) a (((((((w.setCell ⟨g, 0, none⟩ x0).setCell ⟨g, 1, none⟩ x1).setCell ⟨g, 2, none⟩ x2).setCell ⟨g, 3, none⟩ x3).setCell ⟨g, 4, none⟩ x4).setCell ⟨g, 5, none⟩ x5).setCell ⟨g, 6, none⟩ x6) := by
  have n : ∀ i, (⟨g, i, none⟩ : Addr).block < a.heap.size → False := fun i hp => by have : g < a.heap.size := hp; omega
  exact (((((((h.setCell ⟨g, 0, none⟩ (n 0) x0).setCell ⟨g, 1, none⟩ (n 1) x1).setCell ⟨g, 2, none⟩ (n 2) x2).setCell ⟨g, 3, none⟩ (n 3) x3).setCell ⟨g, 4, none⟩ (n 4) x4).setCell ⟨g, 5, none⟩ (n 5) x5).setCell ⟨g, 6, none⟩ (n 6) x6)
theorem keepsG_seven (w : World) (g : Nat) (x0 x1 x2 x3 x4 x5 x6 : Value) : Keeps (fun j => j = g) w (((((((w.setCell ⟨g, 0, none⟩ x0).setCell ⟨g, 1, none⟩ x1).setCell ⟨g, 2, none⟩ x2).setCell ⟨g, 3, none⟩ x3).setCell ⟨g, 4, none⟩ x4).setCell ⟨g, 5, none⟩ x5).setCell ⟨g, 6, none⟩ x6) := ((((((((Keeps.refl (fun j => j = g) w).setCell ⟨g, 0, none⟩ (fun _ => rfl) x0).setCell ⟨g, 1, none⟩ (fun _ => rfl) x1).setCell ⟨g, 2, none⟩ (fun _ => rfl) x2).setCell ⟨g, 3, none⟩ (fun _ => rfl) x3).setCell ⟨g, 4, none⟩ (fun _ => rfl) x4).setCell ⟨g, 5, none⟩ (fun _ => rfl) x5).setCell ⟨g, 6, none⟩ (fun _ => rfl) x6)
set_option maxRecDepth 100000 in
set_option maxHeartbeats 2000000 in
theorem decode_nil (w : World) : Calls Tryz.prog 60 #[.slice none 0 0] w fun e w' => e = .returned (.tuple #[.agg #[.int .i64 0, .int .i64 0, .slice none 0 0, .int .i64 0, .slice none 0 0, .slice none 0 0, .slice none 0 0], .int .i64 4]) ∧ Keeps (fun _ => False) w w' := by
  go_enter Tryz.func60, Tryz.ntmps60
  go_upto_region 1 with fail
  obtain ⟨w0, hw0⟩ : ∃ w0, w.alloc (.cells #[.int .i64 0, .int .i64 0, .slice none 0 0, .int .i64 0, .slice none 0 0, .slice none 0 0, .slice none 0 0] 105) = w0 := ⟨_, rfl⟩
  have hg0 := heap_alloc_new w (.cells #[.int .i64 0, .int .i64 0, .slice none 0 0, .int .i64 0, .slice none 0 0, .slice none 0 0, .slice none 0 0] 105)
  have hk0 : Keeps (fun _ => False) w w0 := by rw [← hw0]; exact (Keeps.refl _ w).alloc _
  rw [hw0] at hg0 ⊢
  clear hw0
  have hl0 : w.heap.size < w0.heap.size := (Array.getElem?_eq_some_iff.1 hg0).1
  have HG0 := Lib.hid hg0
  clear hg0
  go_wp2_with fail
  refine (classify_nil w0).mono ?_; rintro e w1 ⟨rfl, hk1⟩
  have hg1 := (hk1.block _ hl0 (fun h => h)).trans HG0.out

  have e0 := two_frozen hg1 0
  have f0 := cells_at hg1 0
  have e1 := two_frozen hg1 1
  have f1 := cells_at hg1 1
  have e2 := two_frozen hg1 2
  have f2 := cells_at hg1 2
  have e3 := two_frozen hg1 3
  have f3 := cells_at hg1 3
  have e4 := two_frozen hg1 4
  have f4 := cells_at hg1 4
  have e5 := two_frozen hg1 5
  have f5 := cells_at hg1 5
  have e6 := two_frozen hg1 6
  have f6 := cells_at hg1 6
  have HG1 := Lib.hid hg1
  clear hg1
  go_wp2_with fail
  refine bodyPost_ret (results_req rfl _ _ _ _ _ _ _ _ _ _ _ _ rfl (cells_seven HG1.out)) rfl ⟨rfl, keeps_seven (knil hk0 hk1) (Nat.le_refl _) _ _ _ _ _ _ _⟩
theorem heap3 (w : World) (a b c : Obj) : (((w.alloc a).alloc b).alloc c).heap[w.heap.size]? = some a ∧ (((w.alloc a).alloc b).alloc c).heap[w.heap.size + 1]? = some b ∧ (((w.alloc a).alloc b).alloc c).heap[w.heap.size + 1 + 1]? = some c := by
  have h1 := heap2 w a b
  refine ⟨by rw [Below.heap_alloc _ _ _ (by simp <;> omega)]; exact h1.1, by rw [Below.heap_alloc _ _ _ (by simp <;> omega)]; exact h1.2, ?_⟩
  have := heap_alloc_new ((w.alloc a).alloc b) c
  simpa using this
/-- A request about three points. -/
def ReqAt (w : World) (v : Value) (l : List (Int × Int)) : Prop := ∃ vp g cap, v = .agg #[.int .i64 1, .int .i64 0, .slice none 0 0, .int .i64 0, .slice none 0 0, vp, .slice (some ⟨g, 0, none⟩) 0 cap] ∧ ptsAt w vp l
set_option maxRecDepth 100000 in
set_option maxHeartbeats 4000000 in
theorem decode_one (b : Nat) (bs : List Int) (hl : bs.length = 48) (w : World) (hG : Gl w) (h1 : w.cell? ⟨b, 0, none⟩ = some (.int .u8 1)) (hb : BytesAt w b 1 bs) :
    Calls Tryz.prog 60 #[.slice (some ⟨b, 0, none⟩) 49 49] w fun e w' => (∃ v, e = .returned (.tuple #[v, .int .i64 0]) ∧ ReqAt w' v (ptsB bs 3)) ∧ Keeps (fun _ => False) w w' := by
  have HG := Lib.hid hG
  have HL := Lib.hid hl
  have H1 := Lib.hid h1
  have HB := Lib.hid hb
  have hbl : b < w.heap.size := hb.1
  clear hG hl h1 hb
  go_enter Tryz.func60, Tryz.ntmps60
  go_upto_region 1 with fail
  obtain ⟨w0, hw0⟩ : ∃ w0, w.alloc (.cells #[.int .i64 0, .int .i64 0, .slice none 0 0, .int .i64 0, .slice none 0 0, .slice none 0 0, .slice none 0 0] 105) = w0 := ⟨_, rfl⟩
  have hg0 := heap_alloc_new w (.cells #[.int .i64 0, .int .i64 0, .slice none 0 0, .int .i64 0, .slice none 0 0, .slice none 0 0, .slice none 0 0] 105)
  have hk0 : Keeps (fun _ => False) w w0 := by rw [← hw0]; exact (Keeps.refl _ w).alloc _
  rw [hw0] at hg0 ⊢
  clear hw0
  have hl0 : w.heap.size < w0.heap.size := (Array.getElem?_eq_some_iff.1 hg0).1
  have HG0 := Lib.hid hg0
  clear hg0
  go_wp2_with fail
  refine (classify_one b 0 49 w0 (HG.out.kept hk0) ((hk0.cell (p := ⟨b, 0, none⟩) hbl (fun h => h)).trans H1.out) (Nat.lt_of_lt_of_le hbl hk0.size)).mono ?_; rintro e w1 ⟨rfl, hk1⟩
  have hk01 := knil hk0 hk1
  go_wp2_with fail
  refine (parse_one b 0 49 49 (by omega) w1 ((hk01.cell (p := ⟨b, 0, none⟩) hbl (fun h => h)).trans H1.out) (Nat.lt_of_lt_of_le hbl hk01.size)).mono ?_; rintro e w2 ⟨rfl, hk2⟩
  have hk02 := knil hk01 hk2
  go_upto_region 7 with fail
  obtain ⟨w3, hw3⟩ : ∃ w3, ((w2.alloc (.cells #[.int .i64 1, .int .i64 0, .slice none 0 0, .int .i64 0] 27)).alloc (.cells #[.int .i64 1, .int .i64 0, .slice none 0 0, .int .i64 0, .slice none 0 0, .slice none 0 0, .slice none 0 0] 105)).alloc (.cells #[.slice (some ⟨b, 1, none⟩) 48 48] 144) = w3 := ⟨_, rfl⟩
  obtain ⟨q, hq⟩ : ∃ q, w2.heap.size = q := ⟨_, rfl⟩
  have hg := heap3 w2 (.cells #[.int .i64 1, .int .i64 0, .slice none 0 0, .int .i64 0] 27) (.cells #[.int .i64 1, .int .i64 0, .slice none 0 0, .int .i64 0, .slice none 0 0, .slice none 0 0, .slice none 0 0] 105) (.cells #[.slice (some ⟨b, 1, none⟩) 48 48] 144)
  have hk3 : Keeps (fun _ => False) w2 w3 := by rw [← hw3]; exact (((Keeps.refl _ w2).alloc _).alloc _).alloc _
  rw [hw3, hq] at hg
  have hsz3 : w3.heap.size = q + 3 := by rw [← hw3, ← hq]; simp
  have hq0 : w0.heap.size ≤ q := by rw [← hq]; exact (knil hk1 hk2).size
  rw [hw3]
  try rw [hq]
  clear hw3 hq
  obtain ⟨g0, g1, g2⟩ := hg
  have c0 := cells_at g0 0
  have c1 := cells_at g0 1
  have c2 := cells_at g0 2
  have c3 := cells_at g0 3
  have G0 := Lib.hid g0
  have G1 := Lib.hid g1
  have G2 := Lib.hid g2
  have hk03 := knil hk02 hk3
  have hb3 := Lib.hid (HB.out.kept hk03 (fun h => h))
  clear g0 g1 g2
  go_wp2_with fail
  go_loopw [11, 36] (fun _ i wr => i = .int .i64 0 ∧ wr = w3) (fun _ _ _ => 0)
  case atStart => exact ⟨rfl, rfl⟩
  case round =>
    obtain ⟨rfl, rfl⟩ := hrel
    go_wp2_with fail
    refine (counts_one _).mono ?_; rintro e w4 ⟨rfl, hk4⟩
    go_wp2_with fail
    have hr4 : RdAt w4 (q + 1 + 1) b 1 (16 * 3 + 0) := ⟨_, _, (hk4.block _ (by omega) (fun h => h)).trans G2.out, Nat.le_refl _, fun _ => rfl⟩
    refine (take_calls (q + 1 + 1) b 1 0 3 bs (by omega) (by have := HL.out; omega) w4 hr4 (by omega) (hb3.out.kept hk4 (fun h => h))).mono ?_; rintro e w5 ⟨vp, rfl, hvp, hr5, hk5⟩
    have hk35 : Keeps (fun j => j = q + 1 + 1) wr w5 := (hk4.mono (fun _ _ h => h.elim)).trans hk5 (fun _ _ h => h)
    have r5 := (hk35.block (q + 1) (by omega) (by omega)).trans G1.out
    have hvs : ptsAt w5 vp (ptsB bs 3) := ptsAt_row hvp (by unfold ptsB; simp)
    obtain ⟨ao, cp, hvp3⟩ := hvs.shape
    rw [show (ptsB bs 3).length = 3 by unfold ptsB; simp] at hvp3
    subst hvp3
    have e0 := two_frozen r5 5
    have e1 := cells_at r5 5
    have R5 := Lib.hid r5
    have hown := Lib.hid (fun g hg => hvp.lt g hg)
    have HVS := Lib.hid hvs
    clear r5 hvp hvs
    go_wp2_with fail
    obtain ⟨w6, hw6⟩ : ∃ w6, w5.setCell ⟨q + 1, 5, none⟩ (.slice ao 3 cp) = w6 := ⟨_, rfl⟩
    have r6 : w6.heap[q + 1]? = some (.cells #[.int .i64 1, .int .i64 0, .slice none 0 0, .int .i64 0, .slice none 0 0, .slice ao 3 cp, .slice none 0 0] 105 (0, 0)) := by rw [← hw6]; exact cells_put R5.out 5 _
    have hk6 : Keeps (fun j => j = q + 1) w5 w6 := by rw [← hw6]; exact (Keeps.refl (fun j => j = q + 1) w5).setCell ⟨q + 1, 5, none⟩ (fun _ => rfl) _
    rw [hw6]
    clear hw6 e0 e1
    refine (take_none _ w6).mono ?_; rintro e w7 ⟨⟨gq, cq, rfl⟩, hk7⟩
    have r7 := (hk7.block (q + 1) (Array.getElem?_eq_some_iff.1 r6).1 (fun h => h)).trans r6
    have e0 := two_frozen r7 6
    have e1 := cells_at r7 6
    have R7 := Lib.hid r7
    clear r7 r6
    go_upto_region 16 with fail
    obtain ⟨w8, hw8⟩ : ∃ w8, w7.setCell ⟨q + 1, 6, none⟩ (.slice (some ⟨gq, 0, none⟩) 0 cq) = w8 := ⟨_, rfl⟩
    have r8 : w8.heap[q + 1]? = some (.cells #[.int .i64 1, .int .i64 0, .slice none 0 0, .int .i64 0, .slice none 0 0, .slice ao 3 cp, .slice (some ⟨gq, 0, none⟩) 0 cq] 105 (0, 0)) := by rw [← hw8]; exact cells_put R7.out 6 _
    have hk8 : Keeps (fun j => j = q + 1) w7 w8 := by rw [← hw8]; exact (Keeps.refl (fun j => j = q + 1) w7).setCell ⟨q + 1, 6, none⟩ (fun _ => rfl) _
    rw [hw8]
    clear hw8 e0 e1
    have hk08 : Keeps (fun _ => False) w w8 := (((hk03.trans hk35 (fun i hi h => by have := hk0.size; omega)).trans hk6 (fun i hi h => by have := hk0.size; omega)).trans hk7 (fun i hi h => h)).trans hk8 (fun i hi h => by have := hk0.size; omega)
    have hk38 : Keeps (fun j => j = q + 1 ∨ j = q + 1 + 1) wr w8 := ((((hk35.mono (fun _ _ h => .inr h)).trans hk6 (fun i hi h => .inl h)).trans hk7 (fun i hi h => h.elim)).trans hk8 (fun i hi h => .inl h) : Keeps (fun j => j = q + 1 ∨ j = q + 1 + 1) wr w8)
    have hk58 : Keeps (fun j => j = q + 1) w5 w8 := (hk6.trans hk7 (fun i hi h => h.elim)).trans hk8 (fun i hi h => h)
    have rh := ((hk38.block _ (by omega) (by omega)).trans (((knil hk1 (knil hk2 hk3)).block _ hl0 (fun h => h)).trans HG0.out) : w8.heap[w.heap.size]? = _)
    have c08 := cells_at r8 0
    have d08 := cells_at rh 0
    have f08 := two_frozen rh 0
    have c18 := cells_at r8 1
    have d18 := cells_at rh 1
    have f18 := two_frozen rh 1
    have c28 := cells_at r8 2
    have d28 := cells_at rh 2
    have f28 := two_frozen rh 2
    have c38 := cells_at r8 3
    have d38 := cells_at rh 3
    have f38 := two_frozen rh 3
    have c48 := cells_at r8 4
    have d48 := cells_at rh 4
    have f48 := two_frozen rh 4
    have c58 := cells_at r8 5
    have d58 := cells_at rh 5
    have f58 := two_frozen rh 5
    have c68 := cells_at r8 6
    have d68 := cells_at rh 6
    have f68 := two_frozen rh 6
    have RH := Lib.hid rh
    have hvf : ∃ bb oo cc, (Value.slice ao 3 cp) = .slice (some ⟨bb, oo, none⟩) (ptsB bs 3).length cc ∧ bb < w8.heap.size ∧ bb ≠ w.heap.size ∧ ∀ i, i < (ptsB bs 3).length → w8.cell? ⟨bb, oo + i * 2, none⟩ = some (.int .i64 (pt (ptsB bs 3) i).1) ∧ w8.cell? ⟨bb, oo + i * 2 + 1, none⟩ = some (.int .i64 (pt (ptsB bs 3) i).2) := by
      rcases HVS.out with ⟨h0, _⟩ | ⟨bb, oo, cc, he, hbb, hcc⟩
      · have := congrArg List.length h0
        unfold ptsB at this
        simp at this
      · have e1 : (Value.slice ao 3 cp).ownBlock = some bb := by rw [he]; rfl
        have h1 := hown.out bb e1
        have h2 := hk4.size
        have h3 := hk0.size
        have hne : bb ≠ q + 1 := by omega
        exact ⟨bb, oo, cc, he, Nat.lt_of_lt_of_le hbb hk58.size, by omega, fun i hi => ⟨(hk58.cell (p := ⟨bb, oo + i * 2, none⟩) hbb hne).trans (hcc i hi).1, (hk58.cell (p := ⟨bb, oo + i * 2 + 1, none⟩) hbb hne).trans (hcc i hi).2⟩⟩
    have HVF := Lib.hid hvf
    clear r8 rh hvf
    go_wp2_with fail
    refine bodyPost_ret (results_req rfl _ _ _ _ _ _ _ _ _ _ _ _ rfl (cells_seven RH.out)) rfl ⟨⟨_, rfl, _, _, _, rfl, ?_⟩, keeps_seven hk08 (Nat.le_refl _) _ _ _ _ _ _ _⟩
    obtain ⟨bb, oo, cc, he, hbb, hne, hcc⟩ := HVF.out
    have hkg := keepsG_seven w8 w.heap.size (.int .i64 1) (.int .i64 0) (.slice none 0 0) (.int .i64 0) (.slice none 0 0) (.slice ao 3 cp) (.slice (some ⟨gq, 0, none⟩) 0 cq)
    exact .inr ⟨bb, oo, cc, he, Nat.lt_of_lt_of_le hbb hkg.size, fun i hi => ⟨(hkg.cell (p := ⟨bb, oo + i * 2, none⟩) hbb hne).trans (hcc i hi).1, (hkg.cell (p := ⟨bb, oo + i * 2 + 1, none⟩) hbb hne).trans (hcc i hi).2⟩⟩
end Go.Proofs.YtmoajobnhiopiaaGreatDoor.sv
