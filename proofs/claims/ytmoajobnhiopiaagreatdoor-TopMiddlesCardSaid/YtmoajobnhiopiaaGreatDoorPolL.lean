/- polygon.Locate and polygon.Valid without a tape, by walking their text. -/
import Derived.Test.YtmoajobnhiopiaaGreatDoorPolO
set_option linter.unusedSimpArgs false
set_option linter.unusedVariables false
namespace Go.Proofs.YtmoajobnhiopiaaGreatDoor.po
open Go Go.RowKit Go.Shelf Go.Maps Go.Proofs.YtmoajobnhiopiaaGreatDoor.mk Go.Proofs.YtmoajobnhiopiaaGreatDoor.tp Go.Proofs.YtmoajobnhiopiaaGreatDoor.rg Go.Proofs.YtmoajobnhiopiaaGreatDoor.lm Go.Proofs.YtmoajobnhiopiaaGreatDoor.gm Go.Proofs.YtmoajobnhiopiaaGreatDoor.nb

attribute [local go_sem] Oper.semAt_some

theorem noteN (k a b : Int) (w : World) : Calls Tryz.prog 45 #[.pointer none, .int .i64 k, .int .i64 a, .int .i64 b] w fun e w' => e = .returned (.tuple #[]) ∧ w' = w := by
  go_enter Tryz.func45, Tryz.ntmps45
  go_wp2
  refine bodyPost_ret (results_none rfl _ _ _) rfl ?_
  exact ⟨rfl, rfl⟩
theorem or_masks (a b : Bool) : bits .or .u64 (maskI a) (maskI b) = maskI (a || b) := by cases a <;> cases b <;> decide
theorem and_masks (a b : Bool) : bits .and .u64 (maskI a) (maskI b) = maskI (a && b) := by cases a <;> cases b <;> decide
/-- The masks behind k edges. -/
def outB (l : List (Int × Int)) (k : Nat) (p : Int × Int) : Bool := if k = 0 then true else (sides l k p).any (fun x => decide (x < 0))
def bndB (l : List (Int × Int)) (k : Nat) (p : Int × Int) : Bool := (sides l k p).any (fun x => x == 0)
theorem outB_succ (l : List (Int × Int)) (k : Nat) (p : Int × Int) : outB l (k + 1) p = ((if k = 0 then false else outB l k p) || decide (polyS l * sgnI (edgeD l k p) < 0)) := by
  unfold outB
  rw [if_neg (by omega), sides_succ, List.any_append]
  simp only [List.any_cons, List.any_nil, Bool.or_false]
  by_cases h : k = 0
  · subst h; simp [sides]
  · rw [if_neg h, if_neg h]
theorem bndB_succ (l : List (Int × Int)) (k : Nat) (p : Int × Int) : bndB l (k + 1) p = (bndB l k p || (polyS l * sgnI (edgeD l k p) == 0)) := by
  unfold bndB
  rw [sides_succ, List.any_append]
  simp only [List.any_cons, List.any_nil, Bool.or_false]
theorem loc_masks (l : List (Int × Int)) (p : Int × Int) (h : l.length ≠ 0) : signI (maskI (outB l l.length p)) (maskI (bndB l l.length p)) = locI (sides l l.length p) := by
  rw [signI_masks]
  unfold outB bndB locI
  rw [if_neg h]
theorem heap_two (w : World) (a b : Obj) : ((w.alloc a).alloc b).heap[w.heap.size]? = some a ∧ ((w.alloc a).alloc b).heap[w.heap.size + 1]? = some b := by
  refine ⟨by rw [Below.heap_alloc _ _ _ (by simp)]; exact heap_alloc_new w _, ?_⟩
  have := heap_alloc_new (w.alloc a) b
  simpa using this
theorem heap_four (w : World) (a b c d : Obj) : ((((w.alloc a).alloc b).alloc c).alloc d).heap[w.heap.size]? = some a ∧ ((((w.alloc a).alloc b).alloc c).alloc d).heap[w.heap.size + 1]? = some b ∧ ((((w.alloc a).alloc b).alloc c).alloc d).heap[w.heap.size + 2]? = some c ∧ ((((w.alloc a).alloc b).alloc c).alloc d).heap[w.heap.size + 3]? = some d := by
  have h1 := heap_two w a b
  have h2 := heap_two ((w.alloc a).alloc b) c d
  have e : ((w.alloc a).alloc b).heap.size = w.heap.size + 2 := by simp
  rw [e] at h2
  exact ⟨by rw [Below.heap_alloc _ _ _ (by simp <;> omega), Below.heap_alloc _ _ _ (by simp <;> omega)]; exact h1.1, by rw [Below.heap_alloc _ _ _ (by simp <;> omega), Below.heap_alloc _ _ _ (by simp <;> omega)]; exact h1.2, h2.1, h2.2⟩

set_option maxRecDepth 100000 in
set_option maxHeartbeats 8000000 in
theorem plocate_calls (v : Value) (l : List (Int × Int)) (p : Int × Int) (h3 : 3 ≤ l.length) (h64 : l.length ≤ 64) (hp : Pts l) (hpp : Pt p) (w : World) (hG : Gl w) (h : ptsAt w v l) :
    Calls Tryz.prog 27 #[.pointer none, v, .agg #[.int .i64 p.1, .int .i64 p.2]] w fun e w' => e = .returned (.int .i64 (locI (sides l l.length p))) ∧ Keeps (fun _ => False) w w' := by
  obtain ⟨b, off, cap, rfl, hb, hc⟩ := h.block (i := 0) (by omega)
  have H := Lib.hid h
  have HC := Lib.hid hc
  have HG := Lib.hid hG
  clear h hc hG
  refine (callsIn_wide (n := 5)).1 ?_
  refine callsIn_of_wp_marks Tryz.func27 rfl trivial ?_ rfl
  simp only [Tryz.ntmps27, List.size_toArray, List.length_cons, List.length_nil, Nat.reduceAdd, Nat.reduceSub, Array.replicate_succ, Array.replicate_zero, List.push_toArray, List.append_toArray, List.nil_append, List.cons_append]
  gi_wp2_with fail
  obtain ⟨w0, hw0⟩ : ∃ w0, (w.alloc (.cells #[.pointer none] 76)).alloc (.cells #[.int .i64 p.1, .int .i64 p.2] 35) = w0 := ⟨_, rfl⟩
  have hk0 : Keeps (fun _ => False) w w0 := by rw [← hw0]; exact ((Keeps.refl _ w).alloc _).alloc _
  have hg0 := (heap_two w (.cells #[.pointer none] 76) (.cells #[.int .i64 p.1, .int .i64 p.2] 35)).1
  have hg1 := (heap_two w (.cells #[.pointer none] 76) (.cells #[.int .i64 p.1, .int .i64 p.2] 35)).2
  rw [hw0] at hg0 hg1 ⊢
  clear hw0
  have hl0 : w.heap.size < w0.heap.size := (Array.getElem?_eq_some_iff.1 hg0).1
  have hl1 : w.heap.size + 1 < w0.heap.size := (Array.getElem?_eq_some_iff.1 hg1).1
  have HG0 := Lib.hid hg0
  have HG1 := Lib.hid hg1
  clear hg0 hg1
  refine ⟨trivial, ?_⟩
  refine (callsIn_wide.2 (pori_calls _ l h3 h64 hp w0 (HG.out.kept hk0) (H.out.kept hk0))).mono ?_; rintro e w1 ⟨rfl, hk1⟩
  obtain ⟨s, hs⟩ : ∃ s, polyS l = s := ⟨_, rfl⟩
  rw [hs]
  have HS := Lib.hid hs
  clear hs
  gi_wp2_with fail
  refine ⟨trivial, ?_⟩
  refine (callsIn_wide.2 (of_calls 1 (by unfold IsU; omega) _)).mono ?_; rintro e w2 ⟨rfl, rfl⟩
  rw [show maskI ((1 : Int) % 2 == 1) = maskI true from rfl]
  gi_wp2_with fail
  refine ⟨trivial, ?_⟩
  refine (callsIn_wide.2 (edges_calls (.slice (some ⟨b, off, none⟩) l.length cap) _ _ _ _)).mono ?_; rintro e w3 ⟨rfl, hw3⟩
  gi_wp2_with fail
  clear hw3 w3

  obtain ⟨wl, hwl⟩ : ∃ wl, (((w1.alloc (.cells #[.int .i64 s] 2)).alloc (.cells #[.int .u64 (maskI true)] 43)).alloc (.cells #[.int .u64 0] 43)).alloc (.cells #[.slice (some ⟨b, off, none⟩) l.length cap] 38) = wl := ⟨_, rfl⟩
  obtain ⟨bs, hbs⟩ : ∃ bs, w1.heap.size = bs := ⟨_, rfl⟩
  have h4 := heap_four w1 (.cells #[.int .i64 s] 2) (.cells #[.int .u64 (maskI true)] 43) (.cells #[.int .u64 0] 43) (.cells #[.slice (some ⟨b, off, none⟩) l.length cap] 38)
  have hkl : Keeps (fun _ => False) w1 wl := by rw [← hwl]; exact ((((Keeps.refl _ w1).alloc _).alloc _).alloc _).alloc _
  rw [hwl, hbs] at h4
  obtain ⟨r2, r3, r4, r5⟩ := h4
  rw [hwl]
  have hsz : wl.heap.size = bs + 4 := by rw [← hwl, ← hbs]; simp
  rw [hbs]
  have hbs0 : w0.heap.size ≤ bs := by rw [← hbs]; exact hk1.size
  have hkA : Keeps (fun _ => False) w0 wl := knil hk1 hkl
  have hkW : Keeps (fun _ => False) w wl := knil hk0 hkA
  have r0 := (hkA.block _ hl0 (fun h => h)).trans HG0.out
  have r1 := (hkA.block _ hl1 (fun h => h)).trans HG1.out
  have hbl : b < w0.heap.size := Nat.lt_of_lt_of_le hb hk0.size
  have HCl := Lib.hid (fun i hi => show wl.cell? ⟨b, off + i * 2, none⟩ = some (.int .i64 (pt l i).1) ∧ wl.cell? ⟨b, off + i * 2 + 1, none⟩ = some (.int .i64 (pt l i).2) from ⟨(hkW.cell (p := ⟨b, off + i * 2, none⟩) hb (fun h => h)).trans (HC.out i hi).1, (hkW.cell (p := ⟨b, off + i * 2 + 1, none⟩) hb (fun h => h)).trans (HC.out i hi).2⟩)
  clear hwl hbs hkl hk1 w1
  have cellK : ∀ (W : World) (x o : Nat), Keeps (fun i => i = bs + 1 ∨ i = bs + 1 + 1) wl W → x < bs + 4 → x ≠ bs + 1 → x ≠ bs + 1 + 1 → W.cell? ⟨x, o, none⟩ = wl.cell? ⟨x, o, none⟩ := fun W x o hK hx h1 h2 => hK.cell (p := ⟨x, o, none⟩) (show x < wl.heap.size by omega) (show ¬ (x = bs + 1 ∨ x = bs + 1 + 1) by omega)
  have CK := Lib.hid cellK
  refine over_edges (bs + 1 + 1 + 1) b off cap l h3 h64
    (fun k W => W.heap[bs + 1]? = some (.cells #[.int .u64 (maskI (outB l k p))] 43 (0, 0)) ∧ W.heap[bs + 1 + 1]? = some (.cells #[.int .u64 (maskI (bndB l k p))] 43 (0, 0)) ∧ Keeps (fun i => i = bs + 1 ∨ i = bs + 1 + 1) wl W)
    rfl ?box ?loops ?start
    (fun gg k => { tmps := #[.pointer none, .slice (some ⟨b, off, none⟩) l.length cap, .agg #[.int .i64 p.1, .int .i64 p.2], .pointer (some ⟨w.heap.size, 0, none⟩), undef, .pointer (some ⟨w.heap.size + 1, 0, none⟩), .int .i64 0, .pointer (some ⟨bs, 0, none⟩), .pointer (some ⟨bs + 1, 0, none⟩), .pointer (some ⟨bs + 1 + 1, 0, none⟩), .pointer (some ⟨gg, 0, none⟩), undef, .slice (some ⟨b, off, none⟩) l.length cap, .int .i64 s, .int .u64 (maskI true), .slice (some ⟨b, off, none⟩) l.length cap, .func (.func 74) #[] #[.pointer (some ⟨bs + 1 + 1 + 1, 0, none⟩)], edgeV l k, undef, undef, undef, undef, undef, undef, undef, undef, undef, undef, undef, undef, undef, undef, undef, undef, undef, undef, undef, undef, undef, undef, undef, undef, undef, undef, undef], defers := [] }) ?assign ?body ?done
  case box =>
    rintro k W ⟨_, _, hK⟩
    exact ⟨(cellK _ _ _ hK (by omega) (by omega) (by omega)).trans (cells_at r5 0), fun i hi => ⟨(cellK _ _ _ hK (by omega) (by omega) (by omega)).trans (HCl.out i hi).1, (cellK _ _ _ hK (by omega) (by omega) (by omega)).trans (HCl.out i hi).2⟩⟩
  case loops =>
    rintro k W W' ⟨ho, hb2, hK⟩ hz hl
    exact ⟨(hl.block _ (by omega) (by omega)).trans ho, (hl.block _ (by omega) (by omega)).trans hb2, hK.trans hl (fun i hi h => by omega)⟩
  case start =>
    intro r
    have hk : Keeps (fun _ => False) wl ((wl.alloc (.deferred (some []))).alloc (.loop r)) := ((Keeps.refl _ wl).alloc _).alloc _
    exact ⟨(hk.block _ (by omega) (fun h => h)).trans r3, (hk.block _ (by omega) (fun h => h)).trans r4, hk.mono (fun _ _ h => h.elim)⟩
  case assign =>
    intro W k K hK
    unfold edgeV
    gi_wp2
    exact hK
  case body =>
    rintro k gg W ⟨ho, hbd, hK⟩ hk hlo hed
    obtain ⟨q, hq⟩ : ∃ q, (k + 1) % l.length = q := ⟨_, rfl⟩
    obtain ⟨z, hz⟩ : ∃ z, s * sgnI (det (pt l k) (pt l q) p) = z := ⟨_, rfl⟩
    have hzb := side_prod l k p
    have hos := outB_succ l k p
    have hbs' := bndB_succ l k p
    rw [edgeD_eq, hq, HS.out, hz] at hzb hos hbs'
    have hzw : IntKind.i64.wrap z = z := by rw [IntKind.wrap_i64]; omega
    have hzS : IsS z := by unfold IsS; omega
    unfold EdgeAt at hed
    rw [hq] at hed
    have hgl : gg < W.heap.size := (Array.getElem?_eq_some_iff.1 hed).1
    have HOS := Lib.hid hos
    have HBS := Lib.hid hbs'
    have HO := Lib.hid ho
    have HB := Lib.hid hbd
    have HK := Lib.hid hK
    have HED := Lib.hid hed
    have HQ := Lib.hid hq
    have R0 := Lib.hid r0
    have R1 := Lib.hid r1
    have R2 := Lib.hid r2
    have g0 := cells_at hed 0
    have o0 := cells_at ho 0
    have o1 := two_frozen ho 0
    clear hos hbs' ho hbd hK hed hq r0 r1 r2 r3 r4 r5 cellK

    have t0 := (CK.out _ w.heap.size 0 HK.out (by omega) (by omega) (by omega)).trans (cells_at R0.out 0)
    by_cases hk0 : k = 0
    · subst hk0
      have hKa : Keeps (fun i => i = bs + 1 ∨ i = bs + 1 + 1) wl (W.setCell ⟨bs + 1, 0, none⟩ (.int .u64 0)) := HK.out.setCell ⟨bs + 1, 0, none⟩ (fun _ => .inl rfl) _
      have hedk : Keeps (fun i => i = bs + 1 ∨ i = bs + 1 + 1) W (W.setCell ⟨bs + 1, 0, none⟩ (.int .u64 0)) := (Keeps.refl _ W).setCell ⟨bs + 1, 0, none⟩ (fun _ => .inl rfl) _
      have HO2 := Lib.hid (show (W.setCell ⟨bs + 1, 0, none⟩ (.int .u64 0)).heap[bs + 1]? = some (.cells #[.int .u64 (maskI false)] 43 (0, 0)) from cells_put HO.out 0 _)
      have HB2 := Lib.hid ((((Keeps.refl (fun i => i = bs + 1) W).setCell ⟨bs + 1, 0, none⟩ (fun _ => rfl) (.int .u64 0)).block (bs + 1 + 1) (Array.getElem?_eq_some_iff.1 HB.out).1 (by omega)).trans HB.out)
      have t1 := (CK.out _ w.heap.size 0 hKa (by omega) (by omega) (by omega)).trans (cells_at R0.out 0)
      have g1 := cells_at ((hedk.block _ hgl (show ¬ (gg = bs + 1 ∨ gg = bs + 1 + 1) by omega)).trans HED.out) 0
      gi_wp2_with fail
      refine ⟨trivial, ?_⟩
      refine (CallsIn.inRound _ (callsIn_wide.2 (noteN _ _ _ _))).mono ?_; rintro e W3 ⟨rfl, rfl⟩
      clear t0 t1 g0 g1 o0 o1
      gi_wp2_with fail
      have e0 := (CK.out _ bs 0 hKa (by omega) (by omega) (by omega)).trans (cells_at R2.out 0)
      have hed2 := (hedk.block _ hgl (show ¬ (gg = bs + 1 ∨ gg = bs + 1 + 1) by omega)).trans HED.out
      have e1 := cells_at hed2 2
      have e2 := cells_at hed2 3
      have e3 := cells_at hed2 4
      have e4 := cells_at hed2 5
      have e5 := (CK.out _ (w.heap.size + 1) 0 hKa (by omega) (by omega) (by omega)).trans (cells_at R1.out 0)
      have e6 := (CK.out _ (w.heap.size + 1) 1 hKa (by omega) (by omega) (by omega)).trans (cells_at R1.out 1)
      have hsz0 := hKa.size
      have hbW : bs < (W.setCell ⟨bs + 1, 0, none⟩ (.int .u64 0)).heap.size := by omega
      have hgW : gg < (W.setCell ⟨bs + 1, 0, none⟩ (.int .u64 0)).heap.size := (Array.getElem?_eq_some_iff.1 hed2).1
      have hpW : w.heap.size + 1 < (W.setCell ⟨bs + 1, 0, none⟩ (.int .u64 0)).heap.size := by omega
      have HKW := Lib.hid (show Keeps (fun _ => False) w (W.setCell ⟨bs + 1, 0, none⟩ (.int .u64 0)) from hkW.trans hKa (fun i hi h => by omega))
      have HED2 := Lib.hid hed2
      clear hed2
      refine round_region_late (fun W => W.cell? ⟨bs, 0, none⟩ = some (.int .i64 s) ∧ W.cell? ⟨gg, 2, none⟩ = some (.int .i64 (pt l 0).1) ∧ W.cell? ⟨gg, 3, none⟩ = some (.int .i64 (pt l 0).2) ∧ W.cell? ⟨gg, 4, none⟩ = some (.int .i64 (pt l q).1) ∧ W.cell? ⟨gg, 5, none⟩ = some (.int .i64 (pt l q).2) ∧ W.cell? ⟨w.heap.size + 1, 0, none⟩ = some (.int .i64 p.1) ∧ W.cell? ⟨w.heap.size + 1, 1, none⟩ = some (.int .i64 p.2)) [] (by kernel_rfl) (by kernel_rfl) (fun ⟨_, _, h⟩ => h) ?_
      have hS : ((W.setCell ⟨bs + 1, 0, none⟩ (.int .u64 0))).drew.cell? ⟨bs, 0, none⟩ = some (.int .i64 s) ∧ ((W.setCell ⟨bs + 1, 0, none⟩ (.int .u64 0))).drew.cell? ⟨gg, 2, none⟩ = some (.int .i64 (pt l 0).1) ∧ ((W.setCell ⟨bs + 1, 0, none⟩ (.int .u64 0))).drew.cell? ⟨gg, 3, none⟩ = some (.int .i64 (pt l 0).2) ∧ ((W.setCell ⟨bs + 1, 0, none⟩ (.int .u64 0))).drew.cell? ⟨gg, 4, none⟩ = some (.int .i64 (pt l q).1) ∧ ((W.setCell ⟨bs + 1, 0, none⟩ (.int .u64 0))).drew.cell? ⟨gg, 5, none⟩ = some (.int .i64 (pt l q).2) ∧ ((W.setCell ⟨bs + 1, 0, none⟩ (.int .u64 0))).drew.cell? ⟨w.heap.size + 1, 0, none⟩ = some (.int .i64 p.1) ∧ ((W.setCell ⟨bs + 1, 0, none⟩ (.int .u64 0))).drew.cell? ⟨w.heap.size + 1, 1, none⟩ = some (.int .i64 p.2) := ⟨e0, e1, e2, e3, e4, e5, e6⟩
      refine wpAnyL_take (i := 0) (oi := _) (v := .int .i64 s) rfl (by kernel_rfl) (by kernel_rfl) (by kernel_rfl) (by kernel_rfl) (fun _ _ _ h => h) (Or.inl ⟨by kernel_rfl, ?_⟩) (by assumption) ?_
      · intro w hSw
        obtain ⟨s0, s1, s2, s3, s4, s5, s6⟩ := hSw
        go_simp
      try simp only [List.getElem_toArray, List.getElem_cons_zero, List.getElem_cons_succ, Act.put, List.setIfInBounds_toArray, List.set_cons_zero, List.set_cons_succ]
      refine wpAnyL_any (i := 1) (oi := _) (v := .pointer (some ⟨gg, 2, none⟩)) rfl (by kernel_rfl) (by kernel_rfl) (by kernel_rfl) (by kernel_rfl) (fun _ _ _ h => h) (Or.inl ⟨by kernel_rfl, ?_⟩) (fun _ => by assumption) ?_
      · intro w _
        go_simp
      try simp only [List.getElem_toArray, List.getElem_cons_zero, List.getElem_cons_succ, Act.put, List.setIfInBounds_toArray, List.set_cons_zero, List.set_cons_succ]
      refine wpAnyL_take (i := 2) (oi := _) (v := .agg #[.int .i64 (pt l 0).1, .int .i64 (pt l 0).2]) rfl (by kernel_rfl) (by kernel_rfl) (by kernel_rfl) (by kernel_rfl) (fun _ _ _ h => h) (Or.inl ⟨by kernel_rfl, ?_⟩) (by assumption) ?_
      · intro w hSw
        obtain ⟨s0, s1, s2, s3, s4, s5, s6⟩ := hSw
        go_simp
      try simp only [List.getElem_toArray, List.getElem_cons_zero, List.getElem_cons_succ, Act.put, List.setIfInBounds_toArray, List.set_cons_zero, List.set_cons_succ]
      refine wpAnyL_any (i := 3) (oi := _) (v := .pointer (some ⟨gg, 4, none⟩)) rfl (by kernel_rfl) (by kernel_rfl) (by kernel_rfl) (by kernel_rfl) (fun _ _ _ h => h) (Or.inl ⟨by kernel_rfl, ?_⟩) (fun _ => by assumption) ?_
      · intro w _
        go_simp
      try simp only [List.getElem_toArray, List.getElem_cons_zero, List.getElem_cons_succ, Act.put, List.setIfInBounds_toArray, List.set_cons_zero, List.set_cons_succ]
      refine wpAnyL_take (i := 4) (oi := _) (v := .agg #[.int .i64 (pt l q).1, .int .i64 (pt l q).2]) rfl (by kernel_rfl) (by kernel_rfl) (by kernel_rfl) (by kernel_rfl) (fun _ _ _ h => h) (Or.inl ⟨by kernel_rfl, ?_⟩) (by assumption) ?_
      · intro w hSw
        obtain ⟨s0, s1, s2, s3, s4, s5, s6⟩ := hSw
        go_simp
      try simp only [List.getElem_toArray, List.getElem_cons_zero, List.getElem_cons_succ, Act.put, List.setIfInBounds_toArray, List.set_cons_zero, List.set_cons_succ]
      refine wpAnyL_take (i := 5) (oi := _) (v := .agg #[.int .i64 p.1, .int .i64 p.2]) rfl (by kernel_rfl) (by kernel_rfl) (by kernel_rfl) (by kernel_rfl) (fun _ _ _ h => h) (Or.inl ⟨by kernel_rfl, ?_⟩) (by assumption) ?_
      · intro w hSw
        obtain ⟨s0, s1, s2, s3, s4, s5, s6⟩ := hSw
        go_simp
      try simp only [List.getElem_toArray, List.getElem_cons_zero, List.getElem_cons_succ, Act.put, List.setIfInBounds_toArray, List.set_cons_zero, List.set_cons_succ]
      refine wpAnyL_next (i := 6) (by kernel_rfl) rfl (fun K hK => ?_)
      go_simp
      refine (osign_calls (pt l 0) (pt l q) p (hp.at 0) (hp.at q) hpp _ (HG.out.kept (HKW.out.drewN 1))).mono ?_; rintro e W4 ⟨rfl, hk4'⟩
      have hk4 : Keeps (fun _ => False) (W.setCell ⟨bs + 1, 0, none⟩ (.int .u64 0)) W4 := knil ((Keeps.refl _ _).drewN 1) hk4'
      go_wp2_with fail
      refine hK.out _ _ ⟨((hk4).cell (p := ⟨bs, 0, none⟩) hbW (fun h => h)).trans e0, ((hk4).cell (p := ⟨gg, 2, none⟩) hgW (fun h => h)).trans e1, ((hk4).cell (p := ⟨gg, 3, none⟩) hgW (fun h => h)).trans e2, ((hk4).cell (p := ⟨gg, 4, none⟩) hgW (fun h => h)).trans e3, ((hk4).cell (p := ⟨gg, 5, none⟩) hgW (fun h => h)).trans e4, ((hk4).cell (p := ⟨w.heap.size + 1, 0, none⟩) hpW (fun h => h)).trans e5, ((hk4).cell (p := ⟨w.heap.size + 1, 1, none⟩) hpW (fun h => h)).trans e6⟩ (fun hHeld => ?_)
      clear hK K
      try simp only [List.getElem_toArray, List.getElem_cons_zero, List.getElem_cons_succ, Act.put, List.setIfInBounds_toArray, List.set_cons_zero, List.set_cons_succ]
      refine wpAnyL_any (i := 7) (oi := _) (v := .int .i64 z) rfl (by kernel_rfl) (by kernel_rfl) (by kernel_rfl) (by kernel_rfl) (fun _ _ _ h => h) (Or.inl ⟨by kernel_rfl, ?_⟩) (fun _ => by assumption) ?_
      · intro w _
        go_simp
      try simp only [List.getElem_toArray, List.getElem_cons_zero, List.getElem_cons_succ, Act.put, List.setIfInBounds_toArray, List.set_cons_zero, List.set_cons_succ]
      refine wpAnyL_any (i := 8) (oi := _) (v := .int .i64 z) rfl (by kernel_rfl) (by kernel_rfl) (by kernel_rfl) (by kernel_rfl) (fun _ _ _ h => h) (Or.inl ⟨by kernel_rfl, ?_⟩) (fun _ => by assumption) ?_
      · intro w _
        go_simp
      try simp only [List.getElem_toArray, List.getElem_cons_zero, List.getElem_cons_succ, Act.put, List.setIfInBounds_toArray, List.set_cons_zero, List.set_cons_succ]
      refine wpAnyL_done (by kernel_rfl) ?_ _
      clear hS e0 e1 e2 e3 e4 e5 e6
      have ho4 := (hk4.block _ (Array.getElem?_eq_some_iff.1 HO2.out).1 (fun h => h)).trans HO2.out
      have hb4 := (hk4.block _ (Array.getElem?_eq_some_iff.1 HB2.out).1 (fun h => h)).trans HB2.out
      have o0 := cells_at ho4 0
      have o1 := two_frozen ho4 0
      have HO4 := Lib.hid ho4
      have HB4 := Lib.hid hb4
      clear ho4 hb4
      gi_wp2_with fail
      refine round_region_late (fun W => W.cell? ⟨bs + 1, 0, none⟩ = some (.int .u64 (maskI false))) [4] (by kernel_rfl) (by kernel_rfl) (fun ⟨_, _, h⟩ => h) ?_
      have hS9 : W4.drew.cell? ⟨bs + 1, 0, none⟩ = some (.int .u64 (maskI false)) := o0
      obtain ⟨m1, hm1⟩ : ∃ m1, (false || decide (z < 0)) = m1 := ⟨_, rfl⟩
      have hom := or_masks false (decide (z < 0))
      rw [hm1] at hom
      have HM1 := Lib.hid hm1
      clear hm1
      refine wpAnyL_take (i := 0) (oi := _) (v := .int .u64 (maskI false)) rfl (by kernel_rfl) (by kernel_rfl) (by kernel_rfl) (by kernel_rfl) (fun _ _ _ h => h) (Or.inl ⟨by kernel_rfl, ?_⟩) (by assumption) ?_
      · intro w hSw
        skip
        go_simp
      try simp only [List.getElem_toArray, List.getElem_cons_zero, List.getElem_cons_succ, Act.put, List.setIfInBounds_toArray, List.set_cons_zero, List.set_cons_succ]
      refine wpAnyL_any (i := 1) (oi := _) (v := .int .i64 z) rfl (by kernel_rfl) (by kernel_rfl) (by kernel_rfl) (by kernel_rfl) (fun _ _ _ h => h) (Or.inl ⟨by kernel_rfl, ?_⟩) (fun _ => by assumption) ?_
      · intro w _
        go_simp
      try simp only [List.getElem_toArray, List.getElem_cons_zero, List.getElem_cons_succ, Act.put, List.setIfInBounds_toArray, List.set_cons_zero, List.set_cons_succ]
      refine wpAnyL_next (i := 2) (by kernel_rfl) rfl (fun K hK => ?_)
      go_simp
      refine (negative_calls z hzS _).mono ?_; rintro e W5 ⟨rfl, rfl⟩
      go_wp2_with fail
      refine hK.out _ _ hS9 (fun hHeld => ?_)
      clear hK K
      try simp only [List.getElem_toArray, List.getElem_cons_zero, List.getElem_cons_succ, Act.put, List.setIfInBounds_toArray, List.set_cons_zero, List.set_cons_succ]
      refine wpAnyL_any (i := 3) (oi := _) (v := .int .u64 (maskI m1)) rfl (by kernel_rfl) (by kernel_rfl) (by kernel_rfl) (by kernel_rfl) (fun _ _ _ h => h) (Or.inl ⟨by kernel_rfl, ?_⟩) (fun _ => by assumption) ?_
      · intro w _
        go_simp
      try simp only [List.getElem_toArray, List.getElem_cons_zero, List.getElem_cons_succ, Act.put, List.setIfInBounds_toArray, List.set_cons_zero, List.set_cons_succ]
      refine wpAnyL_late (i := 4) (by kernel_rfl) rfl (by kernel_rfl) (fun K hK => ?_)
      go_simp
      refine hK.out _ _ (fun _ => ?_)
      clear hK K
      try simp only [List.getElem_toArray, List.getElem_cons_zero, List.getElem_cons_succ, Act.put, List.setIfInBounds_toArray, List.set_cons_zero, List.set_cons_succ]
      refine wpAnyL_done (by kernel_rfl) ?_ _
      clear hS9 o0 o1 hom
      gi_wp2_with fail
      obtain ⟨W5, hW5⟩ : ∃ W5, (W4.setCell ⟨bs + 1, 0, none⟩ (.int .u64 (maskI m1))).drew = W5 := ⟨_, rfl⟩
      rw [hW5]
      have hk45 : Keeps (fun i => i = bs + 1) W4 W5 := by rw [← hW5]; exact ((Keeps.refl (fun i => i = bs + 1) W4).setCell ⟨bs + 1, 0, none⟩ (fun _ => rfl) _).drewN 1
      have HO5 := Lib.hid (show W5.heap[bs + 1]? = some (.cells #[.int .u64 (maskI m1)] 43 (0, 0)) by rw [← hW5]; exact cells_put HO4.out 0 _)
      have hb5 := (hk45.block (bs + 1 + 1) (Array.getElem?_eq_some_iff.1 HB4.out).1 (by omega)).trans HB4.out
      have o0 := cells_at hb5 0
      have o1 := two_frozen hb5 0
      have HB5 := Lib.hid hb5
      clear hb5 hW5
      have hzU : IsU (z % 18446744073709551616) := by unfold IsU; omega
      have hzu : IntKind.u64.wrap z = z % 18446744073709551616 := by rw [IntKind.wrap_u64]
      have HZZ := Lib.hid (show (z % 18446744073709551616 == 0) = (z == 0) by rw [Bool.eq_iff_iff, beq_iff_eq, beq_iff_eq]; unfold IsS at hzS; omega)
      obtain ⟨m2, hm2⟩ : ∃ m2, (bndB l 0 p || (z == 0)) = m2 := ⟨_, rfl⟩
      have hom := or_masks (bndB l 0 p) (z == 0)
      rw [hm2] at hom
      have HM2 := Lib.hid hm2
      clear hm2
      refine round_region_late (fun W => W.cell? ⟨bs + 1 + 1, 0, none⟩ = some (.int .u64 (maskI (bndB l 0 p)))) [5] (by kernel_rfl) (by kernel_rfl) (fun ⟨_, _, h⟩ => h) ?_
      have hS10 : W5.cell? ⟨bs + 1 + 1, 0, none⟩ = some (.int .u64 (maskI (bndB l 0 p))) := o0
      refine wpAnyL_take (i := 0) (oi := _) (v := .int .u64 (maskI (bndB l 0 p))) rfl (by kernel_rfl) (by kernel_rfl) (by kernel_rfl) (by kernel_rfl) (fun _ _ _ h => h) (Or.inl ⟨by kernel_rfl, ?_⟩) (by assumption) ?_
      · intro w hSw
        skip
        go_simp
      try simp only [List.getElem_toArray, List.getElem_cons_zero, List.getElem_cons_succ, Act.put, List.setIfInBounds_toArray, List.set_cons_zero, List.set_cons_succ]
      refine wpAnyL_any (i := 1) (oi := _) (v := .int .i64 z) rfl (by kernel_rfl) (by kernel_rfl) (by kernel_rfl) (by kernel_rfl) (fun _ _ _ h => h) (Or.inl ⟨by kernel_rfl, ?_⟩) (fun _ => by assumption) ?_
      · intro w _
        go_simp
      try simp only [List.getElem_toArray, List.getElem_cons_zero, List.getElem_cons_succ, Act.put, List.setIfInBounds_toArray, List.set_cons_zero, List.set_cons_succ]
      refine wpAnyL_any (i := 2) (oi := _) (v := .int .u64 (z % 18446744073709551616)) rfl (by kernel_rfl) (by kernel_rfl) (by kernel_rfl) (by kernel_rfl) (fun _ _ _ h => h) (Or.inl ⟨by kernel_rfl, ?_⟩) (fun _ => by assumption) ?_
      · intro w _
        go_simp
      try simp only [List.getElem_toArray, List.getElem_cons_zero, List.getElem_cons_succ, Act.put, List.setIfInBounds_toArray, List.set_cons_zero, List.set_cons_succ]
      refine wpAnyL_next (i := 3) (by kernel_rfl) rfl (fun K hK => ?_)
      go_simp
      refine (zero_calls _ hzU _).mono ?_; rintro e W5 ⟨rfl, rfl⟩
      rw [HZZ.out]
      go_wp2_with fail
      refine hK.out _ _ hS10 (fun hHeld => ?_)
      clear hK K
      try simp only [List.getElem_toArray, List.getElem_cons_zero, List.getElem_cons_succ, Act.put, List.setIfInBounds_toArray, List.set_cons_zero, List.set_cons_succ]
      refine wpAnyL_any (i := 4) (oi := _) (v := .int .u64 (maskI m2)) rfl (by kernel_rfl) (by kernel_rfl) (by kernel_rfl) (by kernel_rfl) (fun _ _ _ h => h) (Or.inl ⟨by kernel_rfl, ?_⟩) (fun _ => by assumption) ?_
      · intro w _
        go_simp
      try simp only [List.getElem_toArray, List.getElem_cons_zero, List.getElem_cons_succ, Act.put, List.setIfInBounds_toArray, List.set_cons_zero, List.set_cons_succ]
      refine wpAnyL_late (i := 5) (by kernel_rfl) rfl (by kernel_rfl) (fun K hK => ?_)
      go_simp
      refine hK.out _ _ (fun _ => ?_)
      clear hK K
      try simp only [List.getElem_toArray, List.getElem_cons_zero, List.getElem_cons_succ, Act.put, List.setIfInBounds_toArray, List.set_cons_zero, List.set_cons_succ]
      refine wpAnyL_done (by kernel_rfl) ?_ _
      clear hS10 o0 o1 hom
      gi_wp2_with fail
      have hk6 : Keeps (fun i => i = bs + 1 + 1) W5 (W5.setCell ⟨bs + 1 + 1, 0, none⟩ (.int .u64 (maskI m2))).drew := ((Keeps.refl (fun i => i = bs + 1 + 1) W5).setCell ⟨bs + 1 + 1, 0, none⟩ (fun _ => rfl) _).drewN 1
      have kWf := ((hedk.trans hk4 (fun _ _ h => h.elim)).trans hk45 (fun i _ h => .inl h)).trans hk6 (fun i _ h => .inr h)
      have n0 : ¬ (wl.heap.size = bs + 1 ∨ wl.heap.size = bs + 1 + 1) := by omega
      have n1 : ¬ (wl.heap.size + 1 = bs + 1 ∨ wl.heap.size + 1 = bs + 1 + 1) := by omega
      refine ⟨⟨kWf.block _ (by omega) n0, kWf.block _ (by omega) n1⟩, Nat.le_trans (show wl.heap.size + 2 ≤ W.heap.size by omega) kWf.size, ?_, ?_, HK.out.trans kWf (fun i _ h => h)⟩
      · have h1 := (hk6.block (bs + 1) (Array.getElem?_eq_some_iff.1 HO5.out).1 (by omega)).trans HO5.out
        rw [HOS.out, if_pos trivial, HM1.out]
        exact h1
      · have h1 : (W5.setCell ⟨bs + 1 + 1, 0, none⟩ (.int .u64 (maskI m2))).drew.heap[bs + 1 + 1]? = some (.cells #[.int .u64 (maskI m2)] 43 (0, 0)) := cells_put HB5.out 0 _
        rw [HBS.out, HM2.out]
        exact h1
    · have hkb : ((k : Int) == 0) = false := beq_eq_false_iff_ne.2 (by omega)
      have hedk : Keeps (fun i => i = bs + 1 ∨ i = bs + 1 + 1) W W := Keeps.refl _ W
      have HO2 := HO
      have HB2 := HB
      have Hk0 := Lib.hid hk0
      clear hk0
      gi_wp2_with fail
      refine ⟨trivial, ?_⟩
      refine (CallsIn.inRound _ (callsIn_wide.2 (noteN _ _ _ _))).mono ?_; rintro e W3 ⟨rfl, hW3⟩
      rw [hW3]
      clear hW3 W3
      clear t0 g0 o0 o1
      gi_wp2_with fail
      have e0 := (CK.out _ bs 0 HK.out (by omega) (by omega) (by omega)).trans (cells_at R2.out 0)
      have hed2 := (hedk.block _ hgl (show ¬ (gg = bs + 1 ∨ gg = bs + 1 + 1) by omega)).trans HED.out
      have e1 := cells_at hed2 2
      have e2 := cells_at hed2 3
      have e3 := cells_at hed2 4
      have e4 := cells_at hed2 5
      have e5 := (CK.out _ (w.heap.size + 1) 0 HK.out (by omega) (by omega) (by omega)).trans (cells_at R1.out 0)
      have e6 := (CK.out _ (w.heap.size + 1) 1 HK.out (by omega) (by omega) (by omega)).trans (cells_at R1.out 1)
      have hsz0 := HK.out.size
      have hbW : bs < W.heap.size := by omega
      have hgW : gg < W.heap.size := (Array.getElem?_eq_some_iff.1 hed2).1
      have hpW : w.heap.size + 1 < W.heap.size := by omega
      have HKW := Lib.hid (show Keeps (fun _ => False) w W from hkW.trans HK.out (fun i hi h => by omega))
      have HED2 := Lib.hid hed2
      clear hed2
      refine round_region_late (fun W => W.cell? ⟨bs, 0, none⟩ = some (.int .i64 s) ∧ W.cell? ⟨gg, 2, none⟩ = some (.int .i64 (pt l k).1) ∧ W.cell? ⟨gg, 3, none⟩ = some (.int .i64 (pt l k).2) ∧ W.cell? ⟨gg, 4, none⟩ = some (.int .i64 (pt l q).1) ∧ W.cell? ⟨gg, 5, none⟩ = some (.int .i64 (pt l q).2) ∧ W.cell? ⟨w.heap.size + 1, 0, none⟩ = some (.int .i64 p.1) ∧ W.cell? ⟨w.heap.size + 1, 1, none⟩ = some (.int .i64 p.2)) [] (by kernel_rfl) (by kernel_rfl) (fun ⟨_, _, h⟩ => h) ?_
      have hS : (W).drew.cell? ⟨bs, 0, none⟩ = some (.int .i64 s) ∧ (W).drew.cell? ⟨gg, 2, none⟩ = some (.int .i64 (pt l k).1) ∧ (W).drew.cell? ⟨gg, 3, none⟩ = some (.int .i64 (pt l k).2) ∧ (W).drew.cell? ⟨gg, 4, none⟩ = some (.int .i64 (pt l q).1) ∧ (W).drew.cell? ⟨gg, 5, none⟩ = some (.int .i64 (pt l q).2) ∧ (W).drew.cell? ⟨w.heap.size + 1, 0, none⟩ = some (.int .i64 p.1) ∧ (W).drew.cell? ⟨w.heap.size + 1, 1, none⟩ = some (.int .i64 p.2) := ⟨e0, e1, e2, e3, e4, e5, e6⟩
      refine wpAnyL_take (i := 0) (oi := _) (v := .int .i64 s) rfl (by kernel_rfl) (by kernel_rfl) (by kernel_rfl) (by kernel_rfl) (fun _ _ _ h => h) (Or.inl ⟨by kernel_rfl, ?_⟩) (by assumption) ?_
      · intro w hSw
        obtain ⟨s0, s1, s2, s3, s4, s5, s6⟩ := hSw
        go_simp
      try simp only [List.getElem_toArray, List.getElem_cons_zero, List.getElem_cons_succ, Act.put, List.setIfInBounds_toArray, List.set_cons_zero, List.set_cons_succ]
      refine wpAnyL_any (i := 1) (oi := _) (v := .pointer (some ⟨gg, 2, none⟩)) rfl (by kernel_rfl) (by kernel_rfl) (by kernel_rfl) (by kernel_rfl) (fun _ _ _ h => h) (Or.inl ⟨by kernel_rfl, ?_⟩) (fun _ => by assumption) ?_
      · intro w _
        go_simp
      try simp only [List.getElem_toArray, List.getElem_cons_zero, List.getElem_cons_succ, Act.put, List.setIfInBounds_toArray, List.set_cons_zero, List.set_cons_succ]
      refine wpAnyL_take (i := 2) (oi := _) (v := .agg #[.int .i64 (pt l k).1, .int .i64 (pt l k).2]) rfl (by kernel_rfl) (by kernel_rfl) (by kernel_rfl) (by kernel_rfl) (fun _ _ _ h => h) (Or.inl ⟨by kernel_rfl, ?_⟩) (by assumption) ?_
      · intro w hSw
        obtain ⟨s0, s1, s2, s3, s4, s5, s6⟩ := hSw
        go_simp
      try simp only [List.getElem_toArray, List.getElem_cons_zero, List.getElem_cons_succ, Act.put, List.setIfInBounds_toArray, List.set_cons_zero, List.set_cons_succ]
      refine wpAnyL_any (i := 3) (oi := _) (v := .pointer (some ⟨gg, 4, none⟩)) rfl (by kernel_rfl) (by kernel_rfl) (by kernel_rfl) (by kernel_rfl) (fun _ _ _ h => h) (Or.inl ⟨by kernel_rfl, ?_⟩) (fun _ => by assumption) ?_
      · intro w _
        go_simp
      try simp only [List.getElem_toArray, List.getElem_cons_zero, List.getElem_cons_succ, Act.put, List.setIfInBounds_toArray, List.set_cons_zero, List.set_cons_succ]
      refine wpAnyL_take (i := 4) (oi := _) (v := .agg #[.int .i64 (pt l q).1, .int .i64 (pt l q).2]) rfl (by kernel_rfl) (by kernel_rfl) (by kernel_rfl) (by kernel_rfl) (fun _ _ _ h => h) (Or.inl ⟨by kernel_rfl, ?_⟩) (by assumption) ?_
      · intro w hSw
        obtain ⟨s0, s1, s2, s3, s4, s5, s6⟩ := hSw
        go_simp
      try simp only [List.getElem_toArray, List.getElem_cons_zero, List.getElem_cons_succ, Act.put, List.setIfInBounds_toArray, List.set_cons_zero, List.set_cons_succ]
      refine wpAnyL_take (i := 5) (oi := _) (v := .agg #[.int .i64 p.1, .int .i64 p.2]) rfl (by kernel_rfl) (by kernel_rfl) (by kernel_rfl) (by kernel_rfl) (fun _ _ _ h => h) (Or.inl ⟨by kernel_rfl, ?_⟩) (by assumption) ?_
      · intro w hSw
        obtain ⟨s0, s1, s2, s3, s4, s5, s6⟩ := hSw
        go_simp
      try simp only [List.getElem_toArray, List.getElem_cons_zero, List.getElem_cons_succ, Act.put, List.setIfInBounds_toArray, List.set_cons_zero, List.set_cons_succ]
      refine wpAnyL_next (i := 6) (by kernel_rfl) rfl (fun K hK => ?_)
      go_simp
      refine (osign_calls (pt l k) (pt l q) p (hp.at k) (hp.at q) hpp _ (HG.out.kept (HKW.out.drewN 1))).mono ?_; rintro e W4 ⟨rfl, hk4'⟩
      have hk4 : Keeps (fun _ => False) W W4 := knil ((Keeps.refl _ _).drewN 1) hk4'
      go_wp2_with fail
      refine hK.out _ _ ⟨((hk4).cell (p := ⟨bs, 0, none⟩) hbW (fun h => h)).trans e0, ((hk4).cell (p := ⟨gg, 2, none⟩) hgW (fun h => h)).trans e1, ((hk4).cell (p := ⟨gg, 3, none⟩) hgW (fun h => h)).trans e2, ((hk4).cell (p := ⟨gg, 4, none⟩) hgW (fun h => h)).trans e3, ((hk4).cell (p := ⟨gg, 5, none⟩) hgW (fun h => h)).trans e4, ((hk4).cell (p := ⟨w.heap.size + 1, 0, none⟩) hpW (fun h => h)).trans e5, ((hk4).cell (p := ⟨w.heap.size + 1, 1, none⟩) hpW (fun h => h)).trans e6⟩ (fun hHeld => ?_)
      clear hK K
      try simp only [List.getElem_toArray, List.getElem_cons_zero, List.getElem_cons_succ, Act.put, List.setIfInBounds_toArray, List.set_cons_zero, List.set_cons_succ]
      refine wpAnyL_any (i := 7) (oi := _) (v := .int .i64 z) rfl (by kernel_rfl) (by kernel_rfl) (by kernel_rfl) (by kernel_rfl) (fun _ _ _ h => h) (Or.inl ⟨by kernel_rfl, ?_⟩) (fun _ => by assumption) ?_
      · intro w _
        go_simp
      try simp only [List.getElem_toArray, List.getElem_cons_zero, List.getElem_cons_succ, Act.put, List.setIfInBounds_toArray, List.set_cons_zero, List.set_cons_succ]
      refine wpAnyL_any (i := 8) (oi := _) (v := .int .i64 z) rfl (by kernel_rfl) (by kernel_rfl) (by kernel_rfl) (by kernel_rfl) (fun _ _ _ h => h) (Or.inl ⟨by kernel_rfl, ?_⟩) (fun _ => by assumption) ?_
      · intro w _
        go_simp
      try simp only [List.getElem_toArray, List.getElem_cons_zero, List.getElem_cons_succ, Act.put, List.setIfInBounds_toArray, List.set_cons_zero, List.set_cons_succ]
      refine wpAnyL_done (by kernel_rfl) ?_ _
      clear hS e0 e1 e2 e3 e4 e5 e6
      have ho4 := (hk4.block _ (Array.getElem?_eq_some_iff.1 HO2.out).1 (fun h => h)).trans HO2.out
      have hb4 := (hk4.block _ (Array.getElem?_eq_some_iff.1 HB2.out).1 (fun h => h)).trans HB2.out
      have o0 := cells_at ho4 0
      have o1 := two_frozen ho4 0
      have HO4 := Lib.hid ho4
      have HB4 := Lib.hid hb4
      clear ho4 hb4
      gi_wp2_with fail
      refine round_region_late (fun W => W.cell? ⟨bs + 1, 0, none⟩ = some (.int .u64 (maskI (outB l k p)))) [4] (by kernel_rfl) (by kernel_rfl) (fun ⟨_, _, h⟩ => h) ?_
      have hS9 : W4.drew.cell? ⟨bs + 1, 0, none⟩ = some (.int .u64 (maskI (outB l k p))) := o0
      obtain ⟨m1, hm1⟩ : ∃ m1, ((outB l k p) || decide (z < 0)) = m1 := ⟨_, rfl⟩
      have hom := or_masks (outB l k p) (decide (z < 0))
      rw [hm1] at hom
      have HM1 := Lib.hid hm1
      clear hm1
      refine wpAnyL_take (i := 0) (oi := _) (v := .int .u64 (maskI (outB l k p))) rfl (by kernel_rfl) (by kernel_rfl) (by kernel_rfl) (by kernel_rfl) (fun _ _ _ h => h) (Or.inl ⟨by kernel_rfl, ?_⟩) (by assumption) ?_
      · intro w hSw
        skip
        go_simp
      try simp only [List.getElem_toArray, List.getElem_cons_zero, List.getElem_cons_succ, Act.put, List.setIfInBounds_toArray, List.set_cons_zero, List.set_cons_succ]
      refine wpAnyL_any (i := 1) (oi := _) (v := .int .i64 z) rfl (by kernel_rfl) (by kernel_rfl) (by kernel_rfl) (by kernel_rfl) (fun _ _ _ h => h) (Or.inl ⟨by kernel_rfl, ?_⟩) (fun _ => by assumption) ?_
      · intro w _
        go_simp
      try simp only [List.getElem_toArray, List.getElem_cons_zero, List.getElem_cons_succ, Act.put, List.setIfInBounds_toArray, List.set_cons_zero, List.set_cons_succ]
      refine wpAnyL_next (i := 2) (by kernel_rfl) rfl (fun K hK => ?_)
      go_simp
      refine (negative_calls z hzS _).mono ?_; rintro e W5 ⟨rfl, rfl⟩
      go_wp2_with fail
      refine hK.out _ _ hS9 (fun hHeld => ?_)
      clear hK K
      try simp only [List.getElem_toArray, List.getElem_cons_zero, List.getElem_cons_succ, Act.put, List.setIfInBounds_toArray, List.set_cons_zero, List.set_cons_succ]
      refine wpAnyL_any (i := 3) (oi := _) (v := .int .u64 (maskI m1)) rfl (by kernel_rfl) (by kernel_rfl) (by kernel_rfl) (by kernel_rfl) (fun _ _ _ h => h) (Or.inl ⟨by kernel_rfl, ?_⟩) (fun _ => by assumption) ?_
      · intro w _
        go_simp
      try simp only [List.getElem_toArray, List.getElem_cons_zero, List.getElem_cons_succ, Act.put, List.setIfInBounds_toArray, List.set_cons_zero, List.set_cons_succ]
      refine wpAnyL_late (i := 4) (by kernel_rfl) rfl (by kernel_rfl) (fun K hK => ?_)
      go_simp
      refine hK.out _ _ (fun _ => ?_)
      clear hK K
      try simp only [List.getElem_toArray, List.getElem_cons_zero, List.getElem_cons_succ, Act.put, List.setIfInBounds_toArray, List.set_cons_zero, List.set_cons_succ]
      refine wpAnyL_done (by kernel_rfl) ?_ _
      clear hS9 o0 o1 hom
      gi_wp2_with fail
      obtain ⟨W5, hW5⟩ : ∃ W5, (W4.setCell ⟨bs + 1, 0, none⟩ (.int .u64 (maskI m1))).drew = W5 := ⟨_, rfl⟩
      rw [hW5]
      have hk45 : Keeps (fun i => i = bs + 1) W4 W5 := by rw [← hW5]; exact ((Keeps.refl (fun i => i = bs + 1) W4).setCell ⟨bs + 1, 0, none⟩ (fun _ => rfl) _).drewN 1
      have HO5 := Lib.hid (show W5.heap[bs + 1]? = some (.cells #[.int .u64 (maskI m1)] 43 (0, 0)) by rw [← hW5]; exact cells_put HO4.out 0 _)
      have hb5 := (hk45.block (bs + 1 + 1) (Array.getElem?_eq_some_iff.1 HB4.out).1 (by omega)).trans HB4.out
      have o0 := cells_at hb5 0
      have o1 := two_frozen hb5 0
      have HB5 := Lib.hid hb5
      clear hb5 hW5
      have hzU : IsU (z % 18446744073709551616) := by unfold IsU; omega
      have hzu : IntKind.u64.wrap z = z % 18446744073709551616 := by rw [IntKind.wrap_u64]
      have HZZ := Lib.hid (show (z % 18446744073709551616 == 0) = (z == 0) by rw [Bool.eq_iff_iff, beq_iff_eq, beq_iff_eq]; unfold IsS at hzS; omega)
      obtain ⟨m2, hm2⟩ : ∃ m2, (bndB l k p || (z == 0)) = m2 := ⟨_, rfl⟩
      have hom := or_masks (bndB l k p) (z == 0)
      rw [hm2] at hom
      have HM2 := Lib.hid hm2
      clear hm2
      refine round_region_late (fun W => W.cell? ⟨bs + 1 + 1, 0, none⟩ = some (.int .u64 (maskI (bndB l k p)))) [5] (by kernel_rfl) (by kernel_rfl) (fun ⟨_, _, h⟩ => h) ?_
      have hS10 : W5.cell? ⟨bs + 1 + 1, 0, none⟩ = some (.int .u64 (maskI (bndB l k p))) := o0
      refine wpAnyL_take (i := 0) (oi := _) (v := .int .u64 (maskI (bndB l k p))) rfl (by kernel_rfl) (by kernel_rfl) (by kernel_rfl) (by kernel_rfl) (fun _ _ _ h => h) (Or.inl ⟨by kernel_rfl, ?_⟩) (by assumption) ?_
      · intro w hSw
        skip
        go_simp
      try simp only [List.getElem_toArray, List.getElem_cons_zero, List.getElem_cons_succ, Act.put, List.setIfInBounds_toArray, List.set_cons_zero, List.set_cons_succ]
      refine wpAnyL_any (i := 1) (oi := _) (v := .int .i64 z) rfl (by kernel_rfl) (by kernel_rfl) (by kernel_rfl) (by kernel_rfl) (fun _ _ _ h => h) (Or.inl ⟨by kernel_rfl, ?_⟩) (fun _ => by assumption) ?_
      · intro w _
        go_simp
      try simp only [List.getElem_toArray, List.getElem_cons_zero, List.getElem_cons_succ, Act.put, List.setIfInBounds_toArray, List.set_cons_zero, List.set_cons_succ]
      refine wpAnyL_any (i := 2) (oi := _) (v := .int .u64 (z % 18446744073709551616)) rfl (by kernel_rfl) (by kernel_rfl) (by kernel_rfl) (by kernel_rfl) (fun _ _ _ h => h) (Or.inl ⟨by kernel_rfl, ?_⟩) (fun _ => by assumption) ?_
      · intro w _
        go_simp
      try simp only [List.getElem_toArray, List.getElem_cons_zero, List.getElem_cons_succ, Act.put, List.setIfInBounds_toArray, List.set_cons_zero, List.set_cons_succ]
      refine wpAnyL_next (i := 3) (by kernel_rfl) rfl (fun K hK => ?_)
      go_simp
      refine (zero_calls _ hzU _).mono ?_; rintro e W5 ⟨rfl, rfl⟩
      rw [HZZ.out]
      go_wp2_with fail
      refine hK.out _ _ hS10 (fun hHeld => ?_)
      clear hK K
      try simp only [List.getElem_toArray, List.getElem_cons_zero, List.getElem_cons_succ, Act.put, List.setIfInBounds_toArray, List.set_cons_zero, List.set_cons_succ]
      refine wpAnyL_any (i := 4) (oi := _) (v := .int .u64 (maskI m2)) rfl (by kernel_rfl) (by kernel_rfl) (by kernel_rfl) (by kernel_rfl) (fun _ _ _ h => h) (Or.inl ⟨by kernel_rfl, ?_⟩) (fun _ => by assumption) ?_
      · intro w _
        go_simp
      try simp only [List.getElem_toArray, List.getElem_cons_zero, List.getElem_cons_succ, Act.put, List.setIfInBounds_toArray, List.set_cons_zero, List.set_cons_succ]
      refine wpAnyL_late (i := 5) (by kernel_rfl) rfl (by kernel_rfl) (fun K hK => ?_)
      go_simp
      refine hK.out _ _ (fun _ => ?_)
      clear hK K
      try simp only [List.getElem_toArray, List.getElem_cons_zero, List.getElem_cons_succ, Act.put, List.setIfInBounds_toArray, List.set_cons_zero, List.set_cons_succ]
      refine wpAnyL_done (by kernel_rfl) ?_ _
      clear hS10 o0 o1 hom
      gi_wp2_with fail
      have hk6 : Keeps (fun i => i = bs + 1 + 1) W5 (W5.setCell ⟨bs + 1 + 1, 0, none⟩ (.int .u64 (maskI m2))).drew := ((Keeps.refl (fun i => i = bs + 1 + 1) W5).setCell ⟨bs + 1 + 1, 0, none⟩ (fun _ => rfl) _).drewN 1
      have kWf := ((hedk.trans hk4 (fun _ _ h => h.elim)).trans hk45 (fun i _ h => .inl h)).trans hk6 (fun i _ h => .inr h)
      have n0 : ¬ (wl.heap.size = bs + 1 ∨ wl.heap.size = bs + 1 + 1) := by omega
      have n1 : ¬ (wl.heap.size + 1 = bs + 1 ∨ wl.heap.size + 1 = bs + 1 + 1) := by omega
      refine ⟨⟨kWf.block _ (by omega) n0, kWf.block _ (by omega) n1⟩, Nat.le_trans (show wl.heap.size + 2 ≤ W.heap.size by omega) kWf.size, ?_, ?_, HK.out.trans kWf (fun i _ h => h)⟩
      · have h1 := (hk6.block (bs + 1) (Array.getElem?_eq_some_iff.1 HO5.out).1 (by omega)).trans HO5.out
        rw [HOS.out, if_neg Hk0.out, HM1.out]
        exact h1
      · have h1 : (W5.setCell ⟨bs + 1 + 1, 0, none⟩ (.int .u64 (maskI m2))).drew.heap[bs + 1 + 1]? = some (.cells #[.int .u64 (maskI m2)] 43 (0, 0)) := cells_put HB5.out 0 _
        rw [HBS.out, HM2.out]
        exact h1

  case done =>
    rintro W ⟨ho, hbd, hK⟩ hz2 hdd
    have o0 := cells_at ho 0
    have o1 := cells_at hbd 0
    have HK := Lib.hid hK
    have HL := Lib.hid (loc_masks l p (by omega))
    have hkwW := Lib.hid (show Keeps (fun _ => False) w W from hkW.trans hK (fun i hi h => by omega))
    clear ho hbd hK r0 r1 r2 r3 r4 r5 cellK
    gi_wp2_with fail
    refine ⟨trivial, ?_⟩
    refine (callsIn_wide.2 (sign_calls _ _ (maskI_isU _) (maskI_isU _) _ (HG.out.kept hkwW.out).b)).mono ?_; rintro e W' ⟨rfl, n, rfl⟩
    rw [HL.out]
    gi_wp2
    have hkp := keeps_putE (W.drewN n) (bs + 4) (.deferred none)
    rw [hsz] at hdd
    refine ⟨by simp, .inl ⟨_, _, rfl, run_takeDeferred hdd, ⟨_, results_tmp rfl _ _ _, ⟨rfl, ?_⟩⟩⟩⟩
    exact (hkwW.out.drewN n).trans hkp (fun i hi h => by omega)
end Go.Proofs.YtmoajobnhiopiaaGreatDoor.po
