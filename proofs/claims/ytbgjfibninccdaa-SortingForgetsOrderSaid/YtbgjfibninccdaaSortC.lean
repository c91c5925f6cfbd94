/- The laws of package sorting: the example, Compares. -/
import Derived.Test.YtbgjfibninccdaaSortB
import Derived.Laws.StructEq
set_option linter.unusedSimpArgs false
set_option linter.unusedVariables false
namespace Go.Proofs.Ytbgjfibninccdaa.so
open Go Go.RowKit Go.Shelf Go.Proofs.Ytbgjfibninccdaa.mk Go.Proofs.Ytbgjfibninccdaa.nw Go.Proofs.Ytbgjfibninccdaa.tp Go.Proofs.Ytbgjfibninccdaa.rg Go.Proofs.Ytbgjfibninccdaa.ar

/-- The answer true, and what was in memory is as it was. -/
def Yes (w : World) (e : Ending) (w' : World) : Prop := e = .returned (.bool true) ∧ Keeps (fun _ => False) w w'
theorem keeps_drw (w : World) (n : Nat) : Keeps (fun _ => False) w (w.drewN n) := ⟨rfl, rfl, rfl, Nat.le_refl _, fun _ _ _ => rfl⟩
theorem rmask_calls (c : Bool) (w : World) : Calls Try.prog 13 #[.bool c] w fun e w' => e = .returned (.int .u64 (maskI c)) ∧ w' = w := by
  cases c
  · go_enter Try.func13, Try.ntmps13
    go_wp2
    go_ret
    exact ⟨rfl, rfl⟩
  · go_enter Try.func13, Try.ntmps13
    go_wp2
    go_ret
    exact ⟨rfl, rfl⟩
theorem rec_equal (a b c d : Int) (w : World) : (Op.equal 24 (.agg #[.int .u64 a, .int .u64 b]) (.agg #[.int .u64 c, .int .u64 d])).run Try.prog w = .ok (a == c && b == d) w := by
  unfold Op.equal
  rw [show Op.maxDepth = (Op.maxDepth - 1) + 1 from rfl]
  rw [run_equalIn_struct (P := Try.prog) w _ _ _ _ Try.underlying24 (by kernel_rfl)]
  have ht := Try.underlying24
  have hu := Try.underlying22
  rw [show Op.maxDepth - 1 = (Op.maxDepth - 2) + 1 from rfl]
  simp [Program.fieldsOf, ht, Op.eqFields, Op.equalIn, part, sizeOf, typeInfo, Sem.run_bind, Result.andThen, go_sem, hu]
  by_cases h1 : a = c <;> by_cases h2 : b = d <;> simp [h1, h2]
theorem rec_eq (a b c d : Int) (w : World) : (binOp .eql 24 (.agg #[.int .u64 a, .int .u64 b]) (.agg #[.int .u64 c, .int .u64 d])).run Try.prog w = .ok (.bool (a == c && b == d)) w := by
  have e : binOp .eql 24 (.agg #[.int .u64 a, .int .u64 b]) (.agg #[.int .u64 c, .int .u64 d]) = (do pure (.bool (← Op.equal 24 (.agg #[.int .u64 a, .int .u64 b]) (.agg #[.int .u64 c, .int .u64 d])))) := rfl
  rw [e, Sem.run_bind, rec_equal]
  rfl
theorem rec_ne (a b c d : Int) (w : World) : (binOp .neq 24 (.agg #[.int .u64 a, .int .u64 b]) (.agg #[.int .u64 c, .int .u64 d])).run Try.prog w = .ok (.bool (!(a == c && b == d))) w := by
  have e : binOp .neq 24 (.agg #[.int .u64 a, .int .u64 b]) (.agg #[.int .u64 c, .int .u64 d]) = (do pure (.bool (!(← Op.equal 24 (.agg #[.int .u64 a, .int .u64 b]) (.agg #[.int .u64 c, .int .u64 d]))))) := rfl
  rw [e, Sem.run_bind, rec_equal]
  rfl
/-! ### the example -/
theorem ex_sorted : sortR [(1, 7), (0, 9), (1, 3)] = [(1, 3), (1, 7), (0, 0)] := by
  have : sortK [(1, 7), (0, 9), (1, 3)] = [3, 7, 18446744073709551616] := sorted_unique (sortK_sorted _) (by decide) ((sortK_perm _).trans (by decide))
  unfold sortR
  rw [this]
  decide
theorem ex_events : (evsC (some ⟨0, 0, none⟩) [] (netOf 3)).length = 6 := by decide
theorem evs_length (b : Nat) (L : List (Nat × Nat)) : (evsC (some ⟨b, 0, none⟩) [] L).length = L.length := by unfold evsC; simp
theorem net_3 : (netOf 3).length = 6 := by decide
theorem rec_lit (w : World) (l : List Rec) (n : Nat) (cs : Array Value) (hn : l.length = n) (hm : n ≤ 1000) (hcs : cs.toList = rflat l) : recAt (w.alloc (.cells cs 24)) (.slice (some ⟨w.heap.size, 0, none⟩) n n) l := by
  have h := World.ownsRow_lit (base := 0) (size := 2) (e := 24) w cs n (Nat.zero_le _) (by unfold maxLen; omega) (by have := congrArg List.length hcs; rw [rflat_length, hn] at this; simpa using this)
  rw [hcs] at h
  have := rec_of_row (c := n) h hn l (fun i r h => h)
  rw [hn] at this
  exact this
theorem alive_calls (w : World) : Calls Try.prog 9 #[] w (Yes w) := by
  have hok : Recs [(1, 7), (0, 9), (1, 3)] := by intro r hr; simp at hr; unfold RecOk IsU; rcases hr with rfl | rfl | rfl <;> decide
  have hok2 : Recs (sortR [(1, 7), (0, 9), (1, 3)]) := sortR_ok hok
  go_enter Try.func9, Try.ntmps9
  go_wp2_with fail
  refine (new_any w).mono ?_; rintro e w1 ⟨b, rfl, hT1, hk1⟩
  go_wp2_with fail
  obtain ⟨cs, hcs⟩ : ∃ cs : Array Value, #[.int .u64 1, .int .u64 7, .int .u64 0, .int .u64 9, .int .u64 1, .int .u64 3] = cs := ⟨_, rfl⟩
  rw [hcs]
  have hv := rec_lit w1 [(1, 7), (0, 9), (1, 3)] 3 cs rfl (by decide) (by rw [← hcs]; rfl)
  have hka := (Keeps.refl (fun _ => False) w1).alloc (.cells cs 24)
  have hT2 : qAt (w1.alloc (.cells cs 24)) (fun k => w.heap.size ≤ k ∧ k < w1.heap.size) (some ⟨b, 0, none⟩) [] := (show qAt w1 _ (some ⟨b, 0, none⟩) [] from .inr ⟨b, rfl, hT1.mono (fun k hk h => ⟨h, hk⟩)⟩).keep hka (fun _ _ _ h => h)
  refine (sort_any (some ⟨b, 0, none⟩) [] _ _ _ _ hT2 (by simp) hv (by simp) hok (fun _ g hg => by cases hg; simp only; omega)).mono ?_
  rintro e w2 ⟨v2, rfl, hv2, hfr, ⟨S, hS1, hS2, hS3⟩, hk2⟩
  have hkw2 : Keeps (fun _ => False) w w2 := (hk1.trans hka (fun _ _ h => h)).trans hk2 (fun i hi h => by omega)
  have HS1 := Lib.hid hS1
  rw [ex_sorted] at hv2
  have Hv2 := Lib.hid hv2
  clear hv hka hT2 hT1 hcs hk2 hk1 hS1 hS2 hS3 hfr hv2
  go_wp2_with fail
  obtain ⟨cs2, hcs2⟩ : ∃ cs : Array Value, #[.int .u64 1, .int .u64 3, .int .u64 1, .int .u64 7, .int .u64 0, .int .u64 0] = cs := ⟨_, rfl⟩
  rw [hcs2]
  have hv3 := rec_lit w2 [(1, 3), (1, 7), (0, 0)] 3 cs2 rfl (by decide) (by rw [← hcs2]; rfl)
  have hka := (Keeps.refl (fun _ => False) w2).alloc (.cells cs2 24)
  refine (rsame_any _ _ [(1, 3), (1, 7), (0, 0)] _ (by simp) (Hv2.out.kept hka) hv3).mono ?_; rintro e w3 ⟨rfl, n3, rfl⟩
  have hk3 := hka.drewN n3
  have hT3 : qAt ((w2.alloc (.cells cs2 24)).drewN n3) S (some ⟨b, 0, none⟩) (evsC (some ⟨b, 0, none⟩) [] (netOf 3)) := HS1.out.keep hk3 (fun _ _ _ h => h)
  have Hv3 := Lib.hid (Hv2.out.kept hk3)
  have Hk3 := Lib.hid (hkw2.trans hk3 (fun _ _ h => h))
  generalize (w2.alloc (.cells cs2 24)).drewN n3 = w3 at hT3 Hv3 Hk3 ⊢
  clear hv3 hka hcs2 hk3 hkw2
  go_wp2_with fail
  refine (len_calls _ S (evsC (some ⟨b, 0, none⟩) [] (netOf 3)) w3 (by rcases hT3 with ⟨h, _⟩ | ⟨b', h, ht⟩; · cases h
                                                                       · cases h; exact .inr ⟨_, rfl, ht⟩)).mono ?_
  rw [evs_length, net_3]
  rintro e w4 ⟨rfl, n4, rfl⟩
  go_wp2_with fail
  refine (scount_any none [] (fun _ => False) v2 [(1, 3), (1, 7), (0, 0)] _ (.inl ⟨rfl, rfl⟩) (by simp) (Hv3.out.kept (keeps_drw _ n4)) (by simp) (by rw [← ex_sorted]; exact hok2) (fun _ _ _ h => h)).mono ?_
  rw [show countR [(1, 3), (1, 7), (0, 0)] = 2 from by decide]
  rintro e w5 ⟨rfl, _, hk5⟩
  have Hk5 := Lib.hid ((Hk3.out.drewN n4).trans hk5 (fun _ _ h => h))
  clear hk5
  go_wp2_with fail
  go_ret
  exact ⟨rfl, Hk5.out⟩
/-! ### Compares -/
set_option maxRecDepth 100000 in
set_option maxHeartbeats 1000000 in
theorem compares_law (a b c d : Int) (ha : IsU a) (hb : IsU b) (hc : IsU c) (hd : IsU d) (w : World) : Calls Try.prog 3 #[.agg #[.int .u64 a, .int .u64 b], .agg #[.int .u64 c, .int .u64 d]] w (Yes w) := by
  have he := fun w => rec_eq (cleanR (a, b)).1 (cleanR (a, b)).2 (cleanR (a, b)).1 (cleanR (a, b)).2 w
  simp only [beq_self_eq_true, Bool.and_self] at he
  go_enter Try.func3, Try.ntmps3
  go_wp2_with fail
  obtain ⟨w1, hw1⟩ : ∃ w1, (w.alloc (.cells #[.int .u64 a, .int .u64 b] 24)).alloc (.cells #[.int .u64 c, .int .u64 d] 24) = w1 := ⟨_, rfl⟩
  have hk1 : Keeps (fun _ => False) w w1 := by rw [← hw1]; exact ((Keeps.refl _ w).alloc _).alloc _
  have hg0 : w1.heap[w.heap.size]? = some (.cells #[.int .u64 a, .int .u64 b] 24 (0, 0)) := by rw [← hw1, Below.heap_alloc _ _ _ (by simp)]; exact heap_alloc_new w _
  have hg1 : w1.heap[w.heap.size + 1]? = some (.cells #[.int .u64 c, .int .u64 d] 24 (0, 0)) := by
    rw [← hw1]
    have := heap_alloc_new (w.alloc (.cells #[.int .u64 a, .int .u64 b] 24)) (.cells #[.int .u64 c, .int .u64 d] 24)
    simpa using this
  rw [hw1]
  clear hw1
  have c0 : w1.cell? ⟨w.heap.size, 0, none⟩ = some (.int .u64 a) := by rw [cell_of_row _ _ _ _ _ _ hg0]; rfl
  have c1 : w1.cell? ⟨w.heap.size, 1, none⟩ = some (.int .u64 b) := by rw [cell_of_row _ _ _ _ _ _ hg0]; rfl
  have c2 : w1.cell? ⟨w.heap.size + 1, 0, none⟩ = some (.int .u64 c) := by rw [cell_of_row _ _ _ _ _ _ hg1]; rfl
  have c3 : w1.cell? ⟨w.heap.size + 1, 1, none⟩ = some (.int .u64 d) := by rw [cell_of_row _ _ _ _ _ _ hg1]; rfl
  have hl0 : w.heap.size < w1.heap.size := (Array.getElem?_eq_some_iff.1 hg0).1
  have hl1 : w.heap.size + 1 < w1.heap.size := (Array.getElem?_eq_some_iff.1 hg1).1
  have Hk1 := Lib.hid hk1
  clear hg0 hg1 hk1
  refine wp_region_late (fun W => W.cell? ⟨w.heap.size, 0, none⟩ = some (.int .u64 a) ∧ W.cell? ⟨w.heap.size, 1, none⟩ = some (.int .u64 b) ∧ W.cell? ⟨w.heap.size + 1, 0, none⟩ = some (.int .u64 c) ∧ W.cell? ⟨w.heap.size + 1, 1, none⟩ = some (.int .u64 d)) [] (by kernel_rfl) ?_
  have hS : w1.drew.cell? ⟨w.heap.size, 0, none⟩ = some (.int .u64 a) ∧ w1.drew.cell? ⟨w.heap.size, 1, none⟩ = some (.int .u64 b) ∧ w1.drew.cell? ⟨w.heap.size + 1, 0, none⟩ = some (.int .u64 c) ∧ w1.drew.cell? ⟨w.heap.size + 1, 1, none⟩ = some (.int .u64 d) := ⟨c0, c1, c2, c3⟩
  refine wpAnyL_next (i := 0) (by kernel_rfl) rfl (fun K hK => ?_)
  go_simp
  refine (alive_calls _).mono ?_; rintro e v1 ⟨rfl, hk'⟩
  have hkv1 : Keeps (fun _ => False) w1 v1 := ((Keeps.refl _ w1).drewN 1).trans hk' (fun _ _ h => h)
  clear hk'
  go_wp2_with fail
  refine hK.out _ _ ⟨(hkv1.cell (p := ⟨w.heap.size, 0, none⟩) hl0 (fun h => h)).trans c0, (hkv1.cell (p := ⟨w.heap.size, 1, none⟩) hl0 (fun h => h)).trans c1, (hkv1.cell (p := ⟨w.heap.size + 1, 0, none⟩) hl1 (fun h => h)).trans c2, (hkv1.cell (p := ⟨w.heap.size + 1, 1, none⟩) hl1 (fun h => h)).trans c3⟩ (fun hHeld => ?_)
  clear hK K
  try simp only [Act.put, List.setIfInBounds_toArray, List.set_cons_zero, List.set_cons_succ]
  refine wpAnyL_take (i := 1) (oi := _) (v := .bool true) rfl (by kernel_rfl) (by kernel_rfl) (by kernel_rfl) (by kernel_rfl) (fun _ _ _ h => (h : False).elim) (Or.inl ⟨by kernel_rfl, ?_⟩) (by assumption) ?_
  · intro w hSw
    obtain ⟨s0, s1, s2, s3⟩ := hSw
    go_simp
  try simp only [Act.put, List.setIfInBounds_toArray, List.set_cons_zero, List.set_cons_succ]
  refine wpAnyL_take (i := 2) (oi := _) (v := .agg #[.int .u64 a, .int .u64 b]) rfl (by kernel_rfl) (by kernel_rfl) (by kernel_rfl) (by kernel_rfl) (fun _ _ _ h => (h : False).elim) (Or.inl ⟨by kernel_rfl, ?_⟩) (by assumption) ?_
  · intro w hSw
    obtain ⟨s0, s1, s2, s3⟩ := hSw
    go_simp
  try simp only [Act.put, List.setIfInBounds_toArray, List.set_cons_zero, List.set_cons_succ]
  refine wpAnyL_take (i := 4) (oi := _) (v := .agg #[.int .u64 a, .int .u64 b]) rfl (by kernel_rfl) (by kernel_rfl) (by kernel_rfl) (by kernel_rfl) (fun _ _ _ h => (h : False).elim) (Or.inl ⟨by kernel_rfl, ?_⟩) (by assumption) ?_
  · intro w hSw
    obtain ⟨s0, s1, s2, s3⟩ := hSw
    go_simp
  try simp only [Act.put, List.setIfInBounds_toArray, List.set_cons_zero, List.set_cons_succ]
  refine wpAnyL_next (i := 3) (by kernel_rfl) rfl (fun K hK => ?_)
  go_simp
  refine (sclean_calls a b ha hb _).mono ?_; rintro e v2 ⟨rfl, hk'⟩
  have hkv2 : Keeps (fun _ => False) w1 v2 := hkv1.trans hk' (fun _ _ h => h)
  clear hk'
  go_wp2_with fail
  refine hK.out _ _ ⟨(hkv2.cell (p := ⟨w.heap.size, 0, none⟩) hl0 (fun h => h)).trans c0, (hkv2.cell (p := ⟨w.heap.size, 1, none⟩) hl0 (fun h => h)).trans c1, (hkv2.cell (p := ⟨w.heap.size + 1, 0, none⟩) hl1 (fun h => h)).trans c2, (hkv2.cell (p := ⟨w.heap.size + 1, 1, none⟩) hl1 (fun h => h)).trans c3⟩ (fun hHeld => ?_)
  clear hK K
  try simp only [Act.put, List.setIfInBounds_toArray, List.set_cons_zero, List.set_cons_succ]
  refine wpAnyL_next (i := 5) (by kernel_rfl) rfl (fun K hK => ?_)
  go_simp
  refine (rclean_calls a b ha _).mono ?_; rintro e v3 ⟨rfl, hk'⟩
  have hkv3 : Keeps (fun _ => False) w1 v3 := hkv2.trans hk' (fun _ _ h => h)
  clear hk'
  go_wp2_with fail
  refine hK.out _ _ ⟨(hkv3.cell (p := ⟨w.heap.size, 0, none⟩) hl0 (fun h => h)).trans c0, (hkv3.cell (p := ⟨w.heap.size, 1, none⟩) hl0 (fun h => h)).trans c1, (hkv3.cell (p := ⟨w.heap.size + 1, 0, none⟩) hl1 (fun h => h)).trans c2, (hkv3.cell (p := ⟨w.heap.size + 1, 1, none⟩) hl1 (fun h => h)).trans c3⟩ (fun hHeld => ?_)
  clear hK K
  try simp only [Act.put, List.setIfInBounds_toArray, List.set_cons_zero, List.set_cons_succ]
  refine wpAnyL_take (i := 6) (oi := _) (v := .bool true) rfl (by kernel_rfl) (by kernel_rfl) (by kernel_rfl) (by kernel_rfl) (fun _ _ _ h => (h : False).elim) (Or.inl ⟨by kernel_rfl, ?_⟩) (by assumption) ?_
  · intro w hSw
    obtain ⟨s0, s1, s2, s3⟩ := hSw
    go_simp
  try simp only [Act.put, List.setIfInBounds_toArray, List.set_cons_zero, List.set_cons_succ]
  refine wpAnyL_take (i := 7) (oi := _) (v := .bool true) rfl (by kernel_rfl) (by kernel_rfl) (by kernel_rfl) (by kernel_rfl) (fun _ _ _ h => (h : False).elim) (Or.inl ⟨by kernel_rfl, ?_⟩) (by assumption) ?_
  · intro w hSw
    obtain ⟨s0, s1, s2, s3⟩ := hSw
    go_simp
  try simp only [Act.put, List.setIfInBounds_toArray, List.set_cons_zero, List.set_cons_succ]
  refine wpAnyL_take (i := 8) (oi := _) (v := .bool true) rfl (by kernel_rfl) (by kernel_rfl) (by kernel_rfl) (by kernel_rfl) (fun _ _ _ h => (h : False).elim) (Or.inl ⟨by kernel_rfl, ?_⟩) (by assumption) ?_
  · intro w hSw
    obtain ⟨s0, s1, s2, s3⟩ := hSw
    go_simp
  try simp only [Act.put, List.setIfInBounds_toArray, List.set_cons_zero, List.set_cons_succ]
  refine wpAnyL_take (i := 9) (oi := _) (v := .agg #[.int .u64 a, .int .u64 b]) rfl (by kernel_rfl) (by kernel_rfl) (by kernel_rfl) (by kernel_rfl) (fun _ _ _ h => (h : False).elim) (Or.inl ⟨by kernel_rfl, ?_⟩) (by assumption) ?_
  · intro w hSw
    obtain ⟨s0, s1, s2, s3⟩ := hSw
    go_simp
  try simp only [Act.put, List.setIfInBounds_toArray, List.set_cons_zero, List.set_cons_succ]
  refine wpAnyL_take (i := 10) (oi := _) (v := .agg #[.int .u64 c, .int .u64 d]) rfl (by kernel_rfl) (by kernel_rfl) (by kernel_rfl) (by kernel_rfl) (fun _ _ _ h => (h : False).elim) (Or.inl ⟨by kernel_rfl, ?_⟩) (by assumption) ?_
  · intro w hSw
    obtain ⟨s0, s1, s2, s3⟩ := hSw
    go_simp
  try simp only [Act.put, List.setIfInBounds_toArray, List.set_cons_zero, List.set_cons_succ]
  refine wpAnyL_take (i := 12) (oi := _) (v := .agg #[.int .u64 a, .int .u64 b]) rfl (by kernel_rfl) (by kernel_rfl) (by kernel_rfl) (by kernel_rfl) (fun _ _ _ h => (h : False).elim) (Or.inl ⟨by kernel_rfl, ?_⟩) (by assumption) ?_
  · intro w hSw
    obtain ⟨s0, s1, s2, s3⟩ := hSw
    go_simp
  try simp only [Act.put, List.setIfInBounds_toArray, List.set_cons_zero, List.set_cons_succ]
  refine wpAnyL_take (i := 13) (oi := _) (v := .agg #[.int .u64 c, .int .u64 d]) rfl (by kernel_rfl) (by kernel_rfl) (by kernel_rfl) (by kernel_rfl) (fun _ _ _ h => (h : False).elim) (Or.inl ⟨by kernel_rfl, ?_⟩) (by assumption) ?_
  · intro w hSw
    obtain ⟨s0, s1, s2, s3⟩ := hSw
    go_simp
  try simp only [Act.put, List.setIfInBounds_toArray, List.set_cons_zero, List.set_cons_succ]
  refine wpAnyL_next (i := 11) (by kernel_rfl) rfl (fun K hK => ?_)
  go_simp
  refine (sless_calls a b c d ha hb hc hd _).mono ?_; rintro e v4 ⟨rfl, hk'⟩
  have hkv4 : Keeps (fun _ => False) w1 v4 := hkv3.trans hk' (fun _ _ h => h)
  clear hk'
  go_wp2_with fail
  refine hK.out _ _ ⟨(hkv4.cell (p := ⟨w.heap.size, 0, none⟩) hl0 (fun h => h)).trans c0, (hkv4.cell (p := ⟨w.heap.size, 1, none⟩) hl0 (fun h => h)).trans c1, (hkv4.cell (p := ⟨w.heap.size + 1, 0, none⟩) hl1 (fun h => h)).trans c2, (hkv4.cell (p := ⟨w.heap.size + 1, 1, none⟩) hl1 (fun h => h)).trans c3⟩ (fun hHeld => ?_)
  clear hK K
  try simp only [Act.put, List.setIfInBounds_toArray, List.set_cons_zero, List.set_cons_succ]
  refine wpAnyL_next (i := 14) (by kernel_rfl) rfl (fun K hK => ?_)
  go_simp
  refine (rless_calls a b c d ha hb hc hd _).mono ?_; rintro e v5 ⟨rfl, hk'⟩
  have hkv5 : Keeps (fun _ => False) w1 v5 := hkv4.trans hk' (fun _ _ h => h)
  clear hk'
  go_wp2_with fail
  refine hK.out _ _ ⟨(hkv5.cell (p := ⟨w.heap.size, 0, none⟩) hl0 (fun h => h)).trans c0, (hkv5.cell (p := ⟨w.heap.size, 1, none⟩) hl0 (fun h => h)).trans c1, (hkv5.cell (p := ⟨w.heap.size + 1, 0, none⟩) hl1 (fun h => h)).trans c2, (hkv5.cell (p := ⟨w.heap.size + 1, 1, none⟩) hl1 (fun h => h)).trans c3⟩ (fun hHeld => ?_)
  clear hK K
  try simp only [Act.put, List.setIfInBounds_toArray, List.set_cons_zero, List.set_cons_succ]
  refine wpAnyL_next (i := 15) (by kernel_rfl) rfl (fun K hK => ?_)
  go_simp
  refine (rmask_calls _ _).mono ?_; rintro e v6 ⟨rfl, rfl⟩
  go_wp2_with fail
  refine hK.out _ _ ⟨(hkv5.cell (p := ⟨w.heap.size, 0, none⟩) hl0 (fun h => h)).trans c0, (hkv5.cell (p := ⟨w.heap.size, 1, none⟩) hl0 (fun h => h)).trans c1, (hkv5.cell (p := ⟨w.heap.size + 1, 0, none⟩) hl1 (fun h => h)).trans c2, (hkv5.cell (p := ⟨w.heap.size + 1, 1, none⟩) hl1 (fun h => h)).trans c3⟩ (fun hHeld => ?_)
  clear hK K
  try simp only [Act.put, List.setIfInBounds_toArray, List.set_cons_zero, List.set_cons_succ]
  refine wpAnyL_take (i := 16) (oi := _) (v := .bool true) rfl (by kernel_rfl) (by kernel_rfl) (by kernel_rfl) (by kernel_rfl) (fun _ _ _ h => (h : False).elim) (Or.inl ⟨by kernel_rfl, ?_⟩) (by assumption) ?_
  · intro w hSw
    obtain ⟨s0, s1, s2, s3⟩ := hSw
    go_simp
  try simp only [Act.put, List.setIfInBounds_toArray, List.set_cons_zero, List.set_cons_succ]
  refine wpAnyL_take (i := 17) (oi := _) (v := .bool true) rfl (by kernel_rfl) (by kernel_rfl) (by kernel_rfl) (by kernel_rfl) (fun _ _ _ h => (h : False).elim) (Or.inl ⟨by kernel_rfl, ?_⟩) (by assumption) ?_
  · intro w hSw
    obtain ⟨s0, s1, s2, s3⟩ := hSw
    go_simp
  try simp only [Act.put, List.setIfInBounds_toArray, List.set_cons_zero, List.set_cons_succ]
  refine wpAnyL_next (i := 18) (by kernel_rfl) rfl (fun K hK => ?_)
  go_simp
  refine hK.out _ _ ⟨(hkv5.cell (p := ⟨w.heap.size, 0, none⟩) hl0 (fun h => h)).trans c0, (hkv5.cell (p := ⟨w.heap.size, 1, none⟩) hl0 (fun h => h)).trans c1, (hkv5.cell (p := ⟨w.heap.size + 1, 0, none⟩) hl1 (fun h => h)).trans c2, (hkv5.cell (p := ⟨w.heap.size + 1, 1, none⟩) hl1 (fun h => h)).trans c3⟩ (fun hHeld => ?_)
  clear hK K
  try simp only [Act.put, List.setIfInBounds_toArray, List.set_cons_zero, List.set_cons_succ]
  refine wpAnyL_done (by kernel_rfl) ?_ _
  refine NoPanic.normal ?_
  go_wp2_with fail
  go_ret
  exact ⟨rfl, Hk1.out.trans hkv5 (fun _ _ h => h)⟩
end Go.Proofs.Ytbgjfibninccdaa.so
