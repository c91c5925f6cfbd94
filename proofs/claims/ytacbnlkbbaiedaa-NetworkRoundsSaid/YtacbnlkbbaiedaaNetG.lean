/- network.Apply: it runs the comparators over a clone. -/
import Derived.Test.YtacbnlkbbaiedaaNetF
import Derived.Test.YtacbnlkbbaiedaaRound
import Derived.Deep.RegionHeld3
namespace Go.Proofs.Ytacbnlkbbaiedaa.rg
open Go Go.RowKit Go.Shelf
/-- A region that draws its order in a round, by what holds between its operations. -/
theorem round_region_held {P : Program} {n L : Nat} {id : Nat} {ops : Array Oper} {Q : Exit → Act → World → Prop} {a : Act} {w : World} (S : World → Prop) (hm : P.follows .mixedOrders = true) (hn : noDefer ops = true) (hQ : ¬ LetsOut Q) (hS : S w.drew)
    (h : S w.drew → wpAnyH P .any ops Q S ops.size (Array.replicate ops.size false) a w.drew) : (Code.region id ops true).wpIn (Fence.wide.inRound L) n P Q a w :=
  wpIn_region_any hm (anyIn_of hn hQ _ _ _ _ (wpAny_of_held _ _ _ _ (h hS)))
end Go.Proofs.Ytacbnlkbbaiedaa.rg
namespace Go.Proofs.Ytacbnlkbbaiedaa.nw
open Go Go.RowKit Go.Shelf Go.Proofs.Ytacbnlkbbaiedaa.tp Go.Proofs.Ytacbnlkbbaiedaa.rg Go.Proofs.Ytacbnlkbbaiedaa.ar Go.Proofs.Ytacbnlkbbaiedaa.mk

attribute [local go_sem] Oper.semAt_some

/-- The words of l, when the first k comparators of L have been run. -/
def foldK (L : List (Nat × Nat)) (l : List Int) (k : Nat) : List Int := (L.take k).foldl cx l
theorem foldK_succ {L : List (Nat × Nat)} {l : List Int} {k : Nat} {c : Nat × Nat} (h : L[k]? = some c) : foldK L l (k + 1) = cx (foldK L l k) c := by
  unfold foldK
  rw [List.take_add_one, h, List.foldl_append]
  rfl
theorem foldK_length (L : List (Nat × Nat)) (l : List Int) (k : Nat) : (foldK L l k).length = l.length := fold_length _ l
theorem keeps_at (w : World) (b i : Nat) (u : Value) : Keeps (fun k => k = b) w (w.setCell ⟨b, i, none⟩ u) := (Keeps.refl (fun k => k = b) w).setCell ⟨b, i, none⟩ (fun _ => rfl) u
theorem cx_flat {s : List Int} {x y : Nat} {a b : Int} (ha : s[x]? = some a) (hb : s[y]? = some b) : wflat (cx s (x, y)) = ((wflat s).set x (.int .u64 (min a b))).set y (.int .u64 (max a b)) := by
  have g1 : s.getD x 0 = a := by rw [List.getD_eq_getElem?_getD, ha]; rfl
  have g2 : s.getD y 0 = b := by rw [List.getD_eq_getElem?_getD, hb]; rfl
  unfold cx wflat
  simp only [g1, g2, List.map_set]
theorem cx_mem {l : List Int} {c : Nat × Nat} (h1 : c.1 < l.length) (h2 : c.2 < l.length) {P : Int → Prop} (h : ∀ x ∈ l, P x) : ∀ x ∈ cx l c, P x := fun x hx => h x ((cx_perm h1 h2).mem_iff.1 hx)
theorem foldK_words {r N : Nat} {l : List Int} {k i : Nat} {x : Int} (hw : Words l) (hx : (foldK (nl N r) l k)[i]? = some x) : IsU x := by
  have : ∀ (M : List (Nat × Nat)) (l : List Int), Words l → Words (M.foldl cx l) := by
    intro M
    induction M with
    | nil => exact fun l h => h
    | cons c M ih =>
      intro l h
      refine ih (cx l c) (fun x hx => ?_)
      unfold cx at hx
      have hg : ∀ j, IsU (l.getD j 0) := fun j => by
        rw [List.getD_eq_getElem?_getD]
        cases hj : l[j]? with
        | none => exact ⟨Int.le_refl _, by decide⟩
        | some y => exact h y (List.mem_of_getElem? hj)
      have hmin : IsU (min (l.getD c.1 0) (l.getD c.2 0)) := by have := hg c.1; have := hg c.2; unfold IsU at *; omega
      have hmax : IsU (max (l.getD c.1 0) (l.getD c.2 0)) := by have := hg c.1; have := hg c.2; unfold IsU at *; omega
      rcases List.mem_or_eq_of_mem_set hx with hx | rfl
      · rcases List.mem_or_eq_of_mem_set hx with hx | rfl
        · exact h x hx
        · exact hmin
      · exact hmax
  exact this _ l hw x (List.mem_of_getElem? hx)
theorem apply_not (v : Value) (l : List Int) (hl : l.length ≤ 1000) (w : World) (h : wordsAt w v l) (hB : isB (l.length : Int) = false) :
    Calls Try.prog 18 #[v] w fun e w' => e = .returned (.slice none 0 0) ∧ w' = w := by
  obtain ⟨ao, cap, rfl⟩ := words_shape h
  have his := fun W => is_calls (l.length : Int) (WalkArith.wf_i64 (by omega)) W
  rw [hB] at his
  clear hB h
  go_enter Try.func18, Try.ntmps18
  go_wp2_with fail
  refine (his w).mono ?_; rintro e w' ⟨rfl, rfl⟩
  go_wp2_with fail
  go_ret
  exact ⟨rfl, rfl⟩
set_option maxRecDepth 100000 in
set_option maxHeartbeats 4000000 in
theorem apply_calls (v : Value) (l : List Int) (r N : Nat) (hr : r ≤ 12) (hN : N = 2 ^ r) (hl : l.length = N) (hw : Words l) (w : World) (h : wordsAt w v l) :
    Calls Try.prog 18 #[v] w fun e w' => ∃ v', e = .returned v' ∧ w'.ownsRow w.heap.size 38 1 v' N (wflat ((nl N r).foldl cx l)) ∧ Keeps (fun _ => False) w w' := by
  obtain ⟨ao, cap, rfl⟩ := words_shape h
  have hN1 : 1 ≤ N := by rw [hN]; exact Nat.two_pow_pos r
  have hN2 : N ≤ 4096 := by rw [hN]; exact Nat.pow_le_pow_right (show 0 < 2 by omega) hr
  have hB : isB (N : Int) = true := isB_iff.2 ⟨r, hr, by rw [hN]⟩
  have his := fun W => is_calls (N : Int) (WalkArith.wf_i64 (by omega)) W
  rw [hB] at his
  have hcl := uclone_any _ l w (by omega) h
  rw [hl] at hcl
  have HL := Lib.hid hl
  have HN := Lib.hid hN
  rw [hl]
  clear hB h hN hl
  refine (callsIn_wide (n := 5)).1 ?_
  refine callsIn_of_wp_marks Try.func18 rfl trivial ?_ rfl
  simp only [Try.ntmps18, List.size_toArray, List.length_cons, List.length_nil, Nat.reduceAdd, Nat.reduceSub, Array.replicate_succ, Array.replicate_zero, List.push_toArray, List.append_toArray, List.nil_append, List.cons_append]
  gi_wp2_with fail
  refine ⟨trivial, ?_⟩
  refine (callsIn_wide.2 (his w)).mono ?_; rintro e w' ⟨rfl, rfl⟩
  gi_wp2_with fail
  refine ⟨trivial, ?_⟩
  refine (callsIn_wide.2 hcl).mono ?_; rintro e w1 ⟨v1, rfl, hr1, hk1⟩
  rw [HL.out] at hr1
  obtain ⟨g, cap1, hv1⟩ : ∃ g cap1, v1 = Value.slice (some ⟨g, 0, none⟩) N cap1 := by
    rcases hr1.2 with ⟨_, h0⟩ | ⟨g, c, cur, rfl, _⟩
    · omega
    · exact ⟨_, _, rfl⟩
  subst hv1
  gi_wp2_with fail
  refine ⟨trivial, ?_⟩
  refine (callsIn_wide.2 (netall_calls _ _)).mono ?_; rintro e w2 ⟨rfl, rfl⟩
  gi_wp2_with fail
  obtain ⟨w2, hw2⟩ : ∃ w2, (w1.alloc (.cells #[.slice (some ⟨g, 0, none⟩) N cap1] 36)).alloc (.cells #[.int .i64 (N : Int)] 3) = w2 := ⟨_, rfl⟩
  have hz : w2.heap.size = w1.heap.size + 2 := by rw [← hw2]; simp
  have hk2 : Keeps (fun _ => False) w1 w2 := by rw [← hw2]; exact ((Keeps.refl _ w1).alloc _).alloc _
  have hbx : w2.heap[w1.heap.size]? = some (.cells #[.slice (some ⟨g, 0, none⟩) N cap1] 36 (0, 0)) := by
    rw [← hw2, Below.heap_alloc _ _ _ (by simp)]; exact heap_alloc_new w1 _
  have hbn : w2.heap[w1.heap.size + 1]? = some (.cells #[.int .i64 (N : Int)] 3 (0, 0)) := by
    rw [← hw2]
    have := heap_alloc_new (w1.alloc (.cells #[.slice (some ⟨g, 0, none⟩) N cap1] 36)) (.cells #[.int .i64 (N : Int)] 3)
    simpa using this
  have hg := hr1.lt g rfl
  have hr2 : w2.ownsRow w'.heap.size 38 1 (.slice (some ⟨g, 0, none⟩) N cap1) N (wflat l) := by
    refine ⟨hr1.1, ?_⟩
    rcases hr1.2 with h | ⟨g', c, cur, he, h1, h2, h3⟩
    · exact .inl h
    · exact .inr ⟨g', c, cur, he, h1, (hk2.block _ (Array.getElem?_eq_some_iff.1 h2).1 (fun h => h)).trans h2, h3⟩
  rw [hw2]
  clear hw2 his hcl
  have cell1 : ∀ {W : World} {B : Nat} {u : Value} {t : TypeId}, W.heap[B]? = some (.cells #[u] t (0, 0)) → W.cell? ⟨B, 0, none⟩ = some u := fun h => by rw [cell_of_row _ _ 0 _ _ _ h]; rfl
  refine over_all (w1.heap.size + 1) (N : Int) (nl N r) (.inl ⟨r, N, hr, HN.out, rfl, rfl⟩)
    (fun k W => W.heap[w1.heap.size]? = some (.cells #[.slice (some ⟨g, 0, none⟩) N cap1] 36 (0, 0)) ∧ W.heap[w1.heap.size + 1]? = some (.cells #[.int .i64 (N : Int)] 3 (0, 0)) ∧
      W.ownsRow w'.heap.size 38 1 (.slice (some ⟨g, 0, none⟩) N cap1) N (wflat (foldK (nl N r) l k)) ∧ Keeps (fun i => i = g) w2 W)
    rfl (fun _ _ h => cell1 h.2.1) ?_ ?_
    (fun gg x y => { tmps := #[.slice ao N cap, undef, .slice none 0 0, .pointer (some ⟨w1.heap.size, 0, none⟩), .pointer (some ⟨gg, 0, none⟩), undef, undef, .slice ao N cap, .int .i64 (N : Int), .bool true, .bool false, .slice ao N cap, .slice (some ⟨g, 0, none⟩) N cap1,
      .slice (some ⟨g, 0, none⟩) N cap1, .int .i64 (N : Int), .func (.func 24) #[] #[.pointer (some ⟨w1.heap.size + 1, 0, none⟩)], .agg #[.int .i64 x, .int .i64 y], undef, undef, undef, undef, undef, undef, undef, undef, undef, undef, undef, undef, undef, undef, undef, undef, undef, undef, undef, undef, undef, undef, undef, undef, undef, undef, undef, undef], defers := [] }) ?assign ?body ?done
  · rintro k W W' ⟨h1, h2, h3, h4⟩ hz2 hl
    refine ⟨(hl.block _ (by omega) (by omega)).trans h1, (hl.block _ (by omega) (by omega)).trans h2, ⟨h3.1, ?_⟩, h4.trans hl (fun i hi h => by omega)⟩
    rcases h3.2 with h | ⟨g', c, cur, he, ha, hb, hc⟩
    · exact .inl h
    · have e : g' = g := by injection he with he; injection he with he; injection he with he; exact he.symm
      exact .inr ⟨g', c, cur, he, ha, (hl.block _ (by omega) (by omega)).trans hb, hc⟩
  · intro rr
    have hk : Keeps (fun _ => False) w2 ((w2.alloc (.deferred (some []))).alloc (.loop rr)) := ((Keeps.refl _ w2).alloc _).alloc _
    refine ⟨(hk.block _ (by omega) (fun h => h)).trans hbx, (hk.block _ (by omega) (fun h => h)).trans hbn, ⟨?_, ?_⟩, hk.mono (fun _ _ h => h.elim)⟩
    · rw [wflat_length, foldK_length, HL.out, Nat.mul_one]
    · rcases hr2.2 with ⟨_, h⟩ | ⟨g', c, cur, he, ha, hb, hc⟩
      · omega
      · exact .inr ⟨g', c, cur, he, ha, (hk.block _ (Array.getElem?_eq_some_iff.1 hb).1 (fun h => h)).trans hb, hc⟩
  case assign =>
    intro W x y K hK
    gi_wp2
    exact hK
  case body =>
    rintro k x y gg W ⟨h1, h2, h3, h4⟩ hxy hlo hhi c0 c1
    have hm := nl_mem r (by rw [← HN.out]; exact Nat.dvd_refl _) (List.mem_of_getElem? hxy)
    simp only at hm
    obtain ⟨hx, hy, hne⟩ := hm
    have hfl : (foldK (nl N r) l k).length = N := by rw [foldK_length, HL.out]
    obtain ⟨a, ha⟩ : ∃ a, (foldK (nl N r) l k)[x]? = some a := ⟨(foldK (nl N r) l k)[x]'(by omega), by simp⟩
    obtain ⟨b, hb⟩ : ∃ b, (foldK (nl N r) l k)[y]? = some b := ⟨(foldK (nl N r) l k)[y]'(by omega), by simp⟩
    have p0 := cell1 h1
    have hb1 : w1.heap.size < W.heap.size := (Array.getElem?_eq_some_iff.1 h1).1
    have hb2 : ¬ w1.heap.size = g := by omega
    have hb3 : ¬ gg = g := by omega
    have hkx := fun u => keeps_at W g x u
    have hkx2 := fun u u2 => (keeps_at W g x u).trans (keeps_at _ g y u2) (fun _ _ h => h)
    have hau : IsU a := foldK_words hw ha
    have hbu : IsU b := foldK_words hw hb
    have q0 := (h3.cellAt x (by omega)).trans (wflat_get ha)
    have q1 := (h3.cellAt y (by omega)).trans (wflat_get hb)
    have f0 := h3.frozenAt x
    have f1 := h3.frozenAt y
    have hx0 : (0 : Int) ≤ (x : Int) := by omega
    have hy0 : (0 : Int) ≤ (y : Int) := by omega
    have hxN : (x : Int) < (N : Int) := by omega
    have hyN : (y : Int) < (N : Int) := by omega
    have H1 := Lib.hid h1
    have H2 := Lib.hid h2
    have H3 := Lib.hid h3
    have H4 := Lib.hid h4
    have Ha := Lib.hid ha
    have Hb := Lib.hid hb
    have Hxy := Lib.hid hxy
    have Hz := Lib.hid hz
    have Hlo := Lib.hid hlo
    have Hg := Lib.hid hg
    clear h1 h2 h3 h4 ha hb hxy hz hlo hbx hbn hr1 hr2 hk1 hk2 hfl hg
    gi_wp2_with fail
    refine round_still_tail 11 (by kernel_rfl) (by kernel_rfl) (by kernel_rfl) (fun ⟨_, _, h⟩ => h) ?_
    simp only [List.take_succ_cons, List.take_zero, List.drop_succ_cons, List.drop_zero]
    repeat (first | still_step)
    refine wpStill_nil ?_
    go_wp2
    gi_wp2_with fail
    refine round_region_held (fun W' => W'.cell? ⟨w1.heap.size, 0, none⟩ = some (.slice (some ⟨g, 0, none⟩) N cap1) ∧ W'.cell? ⟨gg, 0, none⟩ = some (.int .i64 (x : Int)) ∧ W'.cell? ⟨gg, 1, none⟩ = some (.int .i64 (y : Int))) (by kernel_rfl) (by kernel_rfl) (fun ⟨_, _, h⟩ => h) ⟨p0, c0, c1⟩ (fun hHeld => ?_)
    refine wpAnyH_take (i := 0) (oi := _) (v := .slice (some ⟨g, 0, none⟩) N cap1) rfl (by kernel_rfl) (by kernel_rfl) (by kernel_rfl) (fun _ _ _ h => h) (Or.inl ⟨by rfl, ?_⟩) (by assumption) ?_
    · intro w hSw
      obtain ⟨s0, s1, s2⟩ := hSw
      go_simp
    try simp only [Act.put, List.setIfInBounds_toArray, List.set_cons_zero, List.set_cons_succ]
    refine wpAnyH_take (i := 1) (oi := _) (v := .pointer (some ⟨gg, 0, none⟩)) rfl (by kernel_rfl) (by kernel_rfl) (by kernel_rfl) (fun _ _ _ h => h) (Or.inl ⟨by rfl, ?_⟩) (by assumption) ?_
    · intro w hSw
      obtain ⟨s0, s1, s2⟩ := hSw
      go_simp
    try simp only [Act.put, List.setIfInBounds_toArray, List.set_cons_zero, List.set_cons_succ]
    refine wpAnyH_take (i := 2) (oi := _) (v := .int .i64 (x : Int)) rfl (by kernel_rfl) (by kernel_rfl) (by kernel_rfl) (fun _ _ _ h => h) (Or.inl ⟨by rfl, ?_⟩) (by assumption) ?_
    · intro w hSw
      obtain ⟨s0, s1, s2⟩ := hSw
      go_simp
    try simp only [Act.put, List.setIfInBounds_toArray, List.set_cons_zero, List.set_cons_succ]
    refine wpAnyH_take (i := 3) (oi := _) (v := .slice (some ⟨g, 0, none⟩) N cap1) rfl (by kernel_rfl) (by kernel_rfl) (by kernel_rfl) (fun _ _ _ h => h) (Or.inl ⟨by rfl, ?_⟩) (by assumption) ?_
    · intro w hSw
      obtain ⟨s0, s1, s2⟩ := hSw
      go_simp
    try simp only [Act.put, List.setIfInBounds_toArray, List.set_cons_zero, List.set_cons_succ]
    refine wpAnyH_take (i := 4) (oi := _) (v := .pointer (some ⟨gg, 1, none⟩)) rfl (by kernel_rfl) (by kernel_rfl) (by kernel_rfl) (fun _ _ _ h => h) (Or.inl ⟨by rfl, ?_⟩) (by assumption) ?_
    · intro w hSw
      obtain ⟨s0, s1, s2⟩ := hSw
      go_simp
    try simp only [Act.put, List.setIfInBounds_toArray, List.set_cons_zero, List.set_cons_succ]
    refine wpAnyH_take (i := 5) (oi := _) (v := .int .i64 (y : Int)) rfl (by kernel_rfl) (by kernel_rfl) (by kernel_rfl) (fun _ _ _ h => h) (Or.inl ⟨by rfl, ?_⟩) (by assumption) ?_
    · intro w hSw
      obtain ⟨s0, s1, s2⟩ := hSw
      go_simp
    try simp only [Act.put, List.setIfInBounds_toArray, List.set_cons_zero, List.set_cons_succ]
    refine wpAnyH_take (i := 6) (oi := _) (v := .int .u64 b) rfl (by kernel_rfl) (by kernel_rfl) (by kernel_rfl) (fun _ _ _ h => h) (Or.inl ⟨by rfl, ?_⟩) (by assumption) ?_
    · intro w hSw
      obtain ⟨s0, s1, s2⟩ := hSw
      go_simp
    try simp only [Act.put, List.setIfInBounds_toArray, List.set_cons_zero, List.set_cons_succ]
    refine wpAnyH_take (i := 7) (oi := _) (v := .int .u64 a) rfl (by kernel_rfl) (by kernel_rfl) (by kernel_rfl) (fun _ _ _ h => h) (Or.inl ⟨by rfl, ?_⟩) (by assumption) ?_
    · intro w hSw
      obtain ⟨s0, s1, s2⟩ := hSw
      go_simp
    try simp only [Act.put, List.setIfInBounds_toArray, List.set_cons_zero, List.set_cons_succ]
    refine wpAnyH_take (i := 9) (oi := _) (v := .int .u64 a) rfl (by kernel_rfl) (by kernel_rfl) (by kernel_rfl) (fun _ _ _ h => h) (Or.inl ⟨by rfl, ?_⟩) (by assumption) ?_
    · intro w hSw
      obtain ⟨s0, s1, s2⟩ := hSw
      go_simp
    try simp only [Act.put, List.setIfInBounds_toArray, List.set_cons_zero, List.set_cons_succ]
    refine wpAnyH_take (i := 10) (oi := _) (v := .int .u64 b) rfl (by kernel_rfl) (by kernel_rfl) (by kernel_rfl) (fun _ _ _ h => h) (Or.inl ⟨by rfl, ?_⟩) (by assumption) ?_
    · intro w hSw
      obtain ⟨s0, s1, s2⟩ := hSw
      go_simp
    try simp only [Act.put, List.setIfInBounds_toArray, List.set_cons_zero, List.set_cons_succ]
    refine wpAnyH_ready (rs := [8]) (by kernel_rfl) (by simp) ?_
    refine AllReadyH.cons (o := _) rfl (fun K hK => ?_) AllReadyH.nil
    go_simp
    refine (less_calls b a hbu hau _).mono ?_; rintro e w3 ⟨rfl, rfl⟩
    go_wp2_with fail
    refine hK.out _ _ ⟨p0, c0, c1⟩ (fun hHeld => ?_)
    clear hK K
    try simp only [Act.put, List.setIfInBounds_toArray, List.set_cons_zero, List.set_cons_succ]
    refine wpAnyH_ready (rs := [11]) (by kernel_rfl) (by simp) ?_
    refine AllReadyH.cons (o := _) rfl (fun K hK => ?_) AllReadyH.nil
    go_simp
    refine (swap_calls (maskI (decide (b < a))) a b _).mono ?_; rintro e w3 ⟨rfl, rfl⟩
    go_wp2_with fail
    refine hK.out _ _ ⟨p0, c0, c1⟩ (fun hHeld => ?_)
    clear hK K
    try simp only [Act.put, List.setIfInBounds_toArray, List.set_cons_zero, List.set_cons_succ]
    refine wpAnyH_take (i := 12) (oi := _) (v := .tuple #[.int .u64 (selI (maskI (decide (b < a))) b a), .int .u64 (selI (maskI (decide (b < a))) a b)]) rfl (by kernel_rfl) (by kernel_rfl) (by kernel_rfl) (fun _ _ _ h => h) (Or.inl ⟨by rfl, ?_⟩) (by assumption) ?_
    · intro w hSw
      obtain ⟨s0, s1, s2⟩ := hSw
      go_simp
    try simp only [Act.put, List.setIfInBounds_toArray, List.set_cons_zero, List.set_cons_succ]
    refine wpAnyH_take (i := 13) (oi := _) (v := .int .u64 (selI (maskI (decide (b < a))) b a)) rfl (by kernel_rfl) (by kernel_rfl) (by kernel_rfl) (fun _ _ _ h => h) (Or.inl ⟨by rfl, ?_⟩) (by assumption) ?_
    · intro w hSw
      obtain ⟨s0, s1, s2⟩ := hSw
      go_simp
    try simp only [Act.put, List.setIfInBounds_toArray, List.set_cons_zero, List.set_cons_succ]
    refine wpAnyH_take (i := 14) (oi := _) (v := .int .u64 (selI (maskI (decide (b < a))) a b)) rfl (by kernel_rfl) (by kernel_rfl) (by kernel_rfl) (fun _ _ _ h => h) (Or.inl ⟨by rfl, ?_⟩) (by assumption) ?_
    · intro w hSw
      obtain ⟨s0, s1, s2⟩ := hSw
      go_simp
    try simp only [Act.put, List.setIfInBounds_toArray, List.set_cons_zero, List.set_cons_succ]
    refine wpAnyH_take (i := 15) (oi := _) (v := .pointer (some ⟨g, x, none⟩)) rfl (by kernel_rfl) (by kernel_rfl) (by kernel_rfl) (fun _ _ _ h => h) (Or.inl ⟨by rfl, ?_⟩) (by assumption) ?_
    · intro w hSw
      obtain ⟨s0, s1, s2⟩ := hSw
      go_simp
    try simp only [Act.put, List.setIfInBounds_toArray, List.set_cons_zero, List.set_cons_succ]
    refine wpAnyH_ready (rs := [16]) (by kernel_rfl) (by simp) ?_
    refine AllReadyH.cons (o := _) rfl (fun K hK => ?_) AllReadyH.nil
    go_simp
    refine hK.out _ _ ⟨((hkx _).cell (p := ⟨w1.heap.size, 0, none⟩) hb1 hb2).trans p0, ((hkx _).cell (p := ⟨gg, 0, none⟩) hhi hb3).trans c0, ((hkx _).cell (p := ⟨gg, 1, none⟩) hhi hb3).trans c1⟩ (fun hHeld => ?_)
    clear hK K
    try simp only [Act.put, List.setIfInBounds_toArray, List.set_cons_zero, List.set_cons_succ]
    refine wpAnyH_take (i := 17) (oi := _) (v := .pointer (some ⟨g, y, none⟩)) rfl (by kernel_rfl) (by kernel_rfl) (by kernel_rfl) (fun _ _ _ h => h) (Or.inl ⟨by rfl, ?_⟩) (by assumption) ?_
    · intro w hSw
      obtain ⟨s0, s1, s2⟩ := hSw
      go_simp
    try simp only [Act.put, List.setIfInBounds_toArray, List.set_cons_zero, List.set_cons_succ]
    refine wpAnyH_ready (rs := [18]) (by kernel_rfl) (by simp) ?_
    refine AllReadyH.cons (o := _) rfl (fun K hK => ?_) AllReadyH.nil
    go_simp
    refine hK.out _ _ ⟨((hkx2 _ _).cell (p := ⟨w1.heap.size, 0, none⟩) hb1 hb2).trans p0, ((hkx2 _ _).cell (p := ⟨gg, 0, none⟩) hhi hb3).trans c0, ((hkx2 _ _).cell (p := ⟨gg, 1, none⟩) hhi hb3).trans c1⟩ (fun hHeld => ?_)
    clear hK K
    try simp only [Act.put, List.setIfInBounds_toArray, List.set_cons_zero, List.set_cons_succ]
    refine wpAnyH_done (by kernel_rfl) ?_ _
    go_wp2
    have hlo' : selI (maskI (decide (b < a))) b a = min a b := by
      rw [selI_mask hbu hau]
      by_cases hba : b < a
      · rw [if_pos (decide_eq_true hba)]; omega
      · rw [if_neg (by simpa using hba)]; omega
    have hhi' : selI (maskI (decide (b < a))) a b = max a b := by
      rw [selI_mask hau hbu]
      by_cases hba : b < a
      · rw [if_pos (decide_eq_true hba)]; omega
      · rw [if_neg (by simpa using hba)]; omega
    try rw [hlo', hhi']
    have hz := Hz.out
    have hlo := Hlo.out
    have hg := Hg.out
    have K2 := (hkx2 (.int .u64 (min a b)) (.int .u64 (max a b))).drewN 2
    have R1 := (H3.out.stored x (.int .u64 (min a b))).1
    have R2 := (R1.stored y (.int .u64 (max a b))).1
    refine ⟨⟨K2.block _ (by omega) (by omega), K2.block _ (by omega) (by omega)⟩, Nat.le_trans (show w2.heap.size + 2 ≤ W.heap.size by omega) K2.size, (K2.block _ hb1 hb2).trans H1.out, (K2.block _ (by omega) (by omega)).trans H2.out, ?_, H4.out.trans K2 (fun _ _ h => h)⟩
    rw [foldK_succ Hxy.out, cx_flat Ha.out Hb.out]
    exact R2
  case done =>
    rintro W ⟨h1, h2, h3, h4⟩ hz2 hdd
    have hfin : foldK (nl N r) l (nl N r).length = (nl N r).foldl cx l := by unfold foldK; rw [List.take_length]
    rw [hfin] at h3
    have p0 := cell1 h1
    have H3 := Lib.hid h3
    have H4 := Lib.hid h4
    have Hz := Lib.hid hz
    have Hg := Lib.hid hg
    clear h1 h2 h3 h4 hfin hz hg hbx hbn
    gi_wp2
    have hkp := keeps_putObj W w2.heap.size (.deferred none)
    have hz := Hz.out
    have hg := Hg.out
    refine ⟨by simp, .inl ⟨_, _, rfl, run_takeDeferred hdd, ⟨_, results_tmp rfl _ _ _, ⟨_, rfl, ?_, ?_⟩⟩⟩⟩
    · exact ownsRow_putObj H3.out _ hdd rfl
    · exact (((hk1.trans hk2 (fun _ _ h => h)).trans H4.out (fun i hi h => by omega)).trans hkp (fun i hi h => by omega))
end Go.Proofs.Ytacbnlkbbaiedaa.nw
