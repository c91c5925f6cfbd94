/- Count, First, All and Some of package array. -/
import Derived.Test.YtkagpdbphdhbaaaArrayW
namespace Go.Proofs.Ytkagpdbphdhbaaa.ar
open Go Go.RowKit Go.Shelf Go.Proofs.Ytkagpdbphdhbaaa.tp Go.Proofs.Ytkagpdbphdhbaaa.mk Go.Proofs.Ytkagpdbphdhbaaa.rg

attribute [local go_sem] Oper.semAt_some

theorem alloc4 (w : World) (o0 o1 o2 o3 : Obj) :
    ((((w.alloc o0).alloc o1).alloc o2).alloc o3).heap.size = w.heap.size + 4 ∧ ((((w.alloc o0).alloc o1).alloc o2).alloc o3).heap[w.heap.size]? = some o0 ∧ ((((w.alloc o0).alloc o1).alloc o2).alloc o3).heap[w.heap.size + 1]? = some o1 ∧
    ((((w.alloc o0).alloc o1).alloc o2).alloc o3).heap[w.heap.size + 2]? = some o2 ∧ ((((w.alloc o0).alloc o1).alloc o2).alloc o3).heap[w.heap.size + 3]? = some o3 ∧ Keeps (fun _ => False) w ((((w.alloc o0).alloc o1).alloc o2).alloc o3) := by
  obtain ⟨_, h0, h1, h2, h3, _, _⟩ := alloc5 w o0 o1 o2 o3 o3
  rw [Below.heap_alloc _ _ _ (by simp <;> omega)] at h0
  rw [Below.heap_alloc _ _ _ (by simp <;> omega)] at h1
  rw [Below.heap_alloc _ _ _ (by simp <;> omega)] at h2
  rw [Below.heap_alloc _ _ _ (by simp <;> omega)] at h3
  exact ⟨by simp, h0, h1, h2, h3, ((((Keeps.refl _ w).alloc _).alloc _).alloc _).alloc _⟩

theorem takeWhile_all {p : Int → Bool} {l : List Int} : (l.takeWhile p).length = l.length ↔ l.all p = true := by
  induction l with
  | nil => simp
  | cons x l ih =>
    rw [List.takeWhile_cons]
    by_cases h : p x = true
    · rw [if_pos h]; simp [h, ih]
    · rw [if_neg h]; simp [h]
theorem take_step {l : List Int} {k : Nat} {x : Int} (hx : l[k]? = some x) : l.take (k + 1) = l.take k ++ [x] := by rw [List.take_add_one, hx]; rfl

/-- What Count returns. -/
def countI : List Int → Int
  | [] => 0
  | x :: l => x % 2 + countI l
theorem countI_append (l m : List Int) : countI (l ++ m) = countI l + countI m := by
  induction l with
  | nil => simp [countI]
  | cons x l ih => simp only [List.cons_append, countI, ih]; omega
theorem countI_bounds (l : List Int) : 0 ≤ countI l ∧ countI l ≤ l.length := by
  induction l with
  | nil => simp [countI]
  | cons x l ih => simp only [countI, List.length_cons]; omega
theorem count_step {l : List Int} (hl : l.length ≤ 549755813888) {k : Nat} {x : Int} (hx : l[k]? = some x) : IntKind.u64.wrap (countI (l.take k) + x % 2) = countI (l.take (k + 1)) := by
  have h := countI_bounds (l.take (k + 1))
  have hlen : (l.take (k + 1)).length ≤ 549755813888 := by rw [List.length_take]; omega
  rw [take_step hx] at h hlen ⊢
  rw [countI_append] at h ⊢
  simp only [countI, Int.add_zero] at h ⊢
  rw [wrap_u64]
  omega

/-- Whether no element is odd: 1 or 0. -/
def openI (l : List Int) : Int := if l.all (fun x => x % 2 == 0) then 1 else 0
/-- What First returns. -/
def firstI (l : List Int) : Int := ((l.takeWhile fun x => x % 2 == 0).length : Nat)
theorem open_step {l : List Int} (hw : Words l) {k : Nat} {x : Int} (hx : l[k]? = some x) : bits .andNot .u64 (openI (l.take k)) (x % 2) = openI (l.take (k + 1)) := by
  have hxu : IsU x := hw x (List.mem_of_getElem? hx)
  rw [take_step hx]
  unfold openI
  rw [List.all_append]
  rcases Int.emod_two_eq x with h | h <;> rw [h]
  · cases hc : (l.take k).all fun x => x % 2 == 0 <;> simp [h] <;> decide
  · cases hc : (l.take k).all fun x => x % 2 == 0 <;> simp [h] <;> decide
theorem first_step {l : List Int} (hl : l.length ≤ 549755813888) {k : Nat} {x : Int} (hx : l[k]? = some x) : IntKind.u64.wrap (firstI (l.take k) + openI (l.take (k + 1))) = firstI (l.take (k + 1)) := by
  have hk := (List.getElem?_eq_some_iff.1 hx).1
  have hlen : (l.take k).length = k := by rw [List.length_take]; omega
  rw [take_step hx]
  have h0 : firstI (l.take k) ≤ k := by
    unfold firstI
    have := (List.takeWhile_sublist (l := l.take k) (fun x => x % 2 == 0)).length_le
    omega
  have h1 : 0 ≤ firstI (l.take k) := by unfold firstI; omega
  rw [wrap_u64]
  unfold openI
  rw [List.all_append]
  unfold firstI at h0 h1 ⊢
  rw [List.takeWhile_append]
  by_cases ha : (l.take k).all (fun x => x % 2 == 0)
  · have e : ((l.take k).takeWhile fun x => x % 2 == 0) = l.take k := by
      exact (List.takeWhile_sublist (l := l.take k) (fun x => x % 2 == 0)).eq_of_length (takeWhile_all.2 ha)
    rw [e, ha, if_pos rfl, List.length_append, hlen]
    rw [e, hlen] at h0 h1
    rcases Int.emod_two_eq x with h | h <;> simp [h] <;> omega
  · have e : ((l.take k).takeWhile fun x => x % 2 == 0).length ≠ (l.take k).length := by
      intro he
      exact ha (takeWhile_all.1 he)
    rw [if_neg e]
    simp only [Bool.not_eq_true] at ha
    rw [ha]
    simp
    omega

/-- What All returns. -/
def andI (l : List Int) : Int := l.foldl (fun a x => bits .and .u64 a x) 18446744073709551615
/-- What Some returns. -/
def orI (l : List Int) : Int := l.foldl (fun a x => bits .or .u64 a x) 0
theorem and_step {l : List Int} {k : Nat} {x : Int} (hx : l[k]? = some x) : bits .and .u64 (andI (l.take k)) x = andI (l.take (k + 1)) := by
  rw [take_step hx]; unfold andI; rw [List.foldl_append]; rfl
theorem or_step {l : List Int} {k : Nat} {x : Int} (hx : l[k]? = some x) : bits .or .u64 (orI (l.take k)) x = orI (l.take (k + 1)) := by
  rw [take_step hx]; unfold orI; rw [List.foldl_append]; rfl

set_option maxRecDepth 100000 in
set_option maxHeartbeats 2000000 in
theorem acount_calls (q : Option Addr) (l0 : List Ev) (S0 : Nat → Prop) (v : Value) (l : List Int) (w : World) (hT : qAt w S0 q l0) (hl0 : l0.length ≤ 549755813888) (hv : wordsAt w v l) (hl : l.length ≤ 549755813888) (hd : l ≠ [] → ∀ k, v.ownBlock = some k → ¬ S0 k) (hw : Words l) :
    Calls Try.prog 10 #[.pointer q, v] w fun e w' => e = .returned (.int .u64 (countI l)) ∧ Tail q l0 1 l.length S0 w w' := by
  obtain ⟨b, off, hvs, hcells, hbb⟩ := words_cell hv
  obtain ⟨ao, cap, hva⟩ := words_shape hv
  subst hva
  refine (callsIn_wide (n := 5)).1 ?_
  refine callsIn_of_wp_marks Try.func10 rfl trivial ?_ rfl
  simp only [Try.ntmps10, List.size_toArray, List.length_cons, List.length_nil, Nat.reduceAdd, Nat.reduceSub, Array.replicate_succ, Array.replicate_zero, List.push_toArray, List.append_toArray, List.nil_append, List.cons_append]
  gi_wp2_with fail
  refine ⟨trivial, ?_⟩
  refine (callsIn_wide.2 (visit_calls q ao l.length cap 1 _)).mono ?_
  rintro e w2 ⟨rfl, rfl⟩
  gi_wp2_with fail
  obtain ⟨hz, g0, g1, g2, g3, hK⟩ := alloc4 w (.cells #[.int .u64 0] 24) (.cells #[.pointer q] 36) (.cells #[.int .i64 1] 3) (.cells #[.slice ao l.length cap] 22)
  refine over_visit_std w _ 4 (w.heap.size + 3) (w.heap.size + 1) (w.heap.size + 2) b off l ao cap q 1 l0 S0 (fun k => k = w.heap.size)
    (fun k W => W.heap[w.heap.size]? = some (.cells #[.int .u64 (countI (l.take k))] 24 (0, 0)))
    rfl hvs hl hl0 (by decide) hcells hbb hd hT hK hz (by omega) g3 g1 g2 (fun k h => by omega) (fun k W W' h hs => (hs _ (by omega) (by omega)).trans h) (by rw [List.take_zero]; exact g0)
    (fun k => { tmps := #[.pointer q, .slice ao l.length cap, undef, undef, .int .u64 0, .pointer (some ⟨w.heap.size, 0, none⟩), undef, .pointer (some ⟨b, off + k, none⟩), .pointer q, .slice ao l.length cap,
      .func (.func 39) #[] #[.pointer (some ⟨w.heap.size + 3, 0, none⟩), .pointer (some ⟨w.heap.size + 1, 0, none⟩), .pointer (some ⟨w.heap.size + 2, 0, none⟩)], .int .u64 k, .pointer (some ⟨b, off + k, none⟩), undef, undef, undef, undef, undef, undef, undef], defers := [] }) ?assign ?body ?done
  case assign =>
    intro x W K hK
    gi_wp2
    exact hK
  case body =>
    rintro k x W c1 hx hc
    clear hz g0 g1 g2 g3 hK hT hv hd hvs hcells hbb
    have hxu : IsU x := hw x (List.mem_of_getElem? hx)
    have Hs := Lib.hid (count_step hl hx)
    obtain ⟨o1, f1⟩ := one_cell c1
    have Hb := Lib.hid c1
    clear c1
    gi_wp2_with fail
    refine round_still_tail 6 (by kernel_rfl) (by kernel_rfl) (by kernel_rfl) (fun ⟨_, _, h⟩ => h) ?_
    simp only [List.take_succ_cons, List.take_zero, List.drop_succ_cons, List.drop_zero]
    repeat (first | still_step | still_call (bit_calls x hxu _))
    refine wpStill_nil ?_
    go_wp2
    exact ⟨(keeps_set W _ _).drew, by rw [← Hs.out]; exact one_set Hb.out⟩
  case done =>
    rintro W c1 hT2 hdd
    rw [List.take_length] at c1
    obtain ⟨o1, f1⟩ := one_cell c1
    clear hz g0 g1 g2 g3 hK hT hv hd hvs hcells hbb
    gi_wp2
    exact ⟨by simp, .inl ⟨_, _, rfl, run_takeDeferred hdd, ⟨_, results_tmp rfl _ _ _, rfl, hT2 _⟩⟩⟩

set_option maxRecDepth 100000 in
set_option maxHeartbeats 2000000 in
theorem afirst_calls (q : Option Addr) (l0 : List Ev) (S0 : Nat → Prop) (v : Value) (l : List Int) (w : World) (hT : qAt w S0 q l0) (hl0 : l0.length ≤ 549755813888) (hv : wordsAt w v l) (hl : l.length ≤ 549755813888) (hd : l ≠ [] → ∀ k, v.ownBlock = some k → ¬ S0 k) (hw : Words l) :
    Calls Try.prog 11 #[.pointer q, v] w fun e w' => e = .returned (.int .u64 (firstI l)) ∧ Tail q l0 1 l.length S0 w w' := by
  obtain ⟨b, off, hvs, hcells, hbb⟩ := words_cell hv
  obtain ⟨ao, cap, hva⟩ := words_shape hv
  subst hva
  refine (callsIn_wide (n := 5)).1 ?_
  refine callsIn_of_wp_marks Try.func11 rfl trivial ?_ rfl
  simp only [Try.ntmps11, List.size_toArray, List.length_cons, List.length_nil, Nat.reduceAdd, Nat.reduceSub, Array.replicate_succ, Array.replicate_zero, List.push_toArray, List.append_toArray, List.nil_append, List.cons_append]
  gi_wp2_with fail
  refine ⟨trivial, ?_⟩
  refine (callsIn_wide.2 (visit_calls q ao l.length cap 1 _)).mono ?_
  rintro e w2 ⟨rfl, rfl⟩
  gi_wp2_with fail
  obtain ⟨hz, g0, g1, g2, g3, g4, hK⟩ := alloc5 w (.cells #[.int .u64 0] 24) (.cells #[.int .u64 1] 24) (.cells #[.pointer q] 36) (.cells #[.int .i64 1] 3) (.cells #[.slice ao l.length cap] 22)
  refine over_visit_std w _ 5 (w.heap.size + 4) (w.heap.size + 2) (w.heap.size + 3) b off l ao cap q 1 l0 S0 (fun k => k = w.heap.size ∨ k = w.heap.size + 1)
    (fun k W => W.heap[w.heap.size]? = some (.cells #[.int .u64 (firstI (l.take k))] 24 (0, 0)) ∧ W.heap[w.heap.size + 1]? = some (.cells #[.int .u64 (openI (l.take k))] 24 (0, 0)))
    rfl hvs hl hl0 (by decide) hcells hbb hd hT hK hz (by omega) g4 g2 g3 (fun k h => by omega) (fun k W W' h hs => ⟨(hs _ (by omega) (by omega)).trans h.1, (hs _ (by omega) (by omega)).trans h.2⟩) ⟨by rw [List.take_zero]; exact g0, by rw [List.take_zero]; exact g1⟩
    (fun k => { tmps := #[.pointer q, .slice ao l.length cap, undef, undef, .int .u64 0, .pointer (some ⟨w.heap.size, 0, none⟩), .pointer (some ⟨w.heap.size + 1, 0, none⟩), undef, .pointer (some ⟨b, off + k, none⟩), .pointer q, .slice ao l.length cap,
      .func (.func 39) #[] #[.pointer (some ⟨w.heap.size + 4, 0, none⟩), .pointer (some ⟨w.heap.size + 2, 0, none⟩), .pointer (some ⟨w.heap.size + 3, 0, none⟩)], .int .u64 k, .pointer (some ⟨b, off + k, none⟩), undef, undef, undef, undef, undef, undef, undef, undef, undef, undef], defers := [] }) ?assign ?body ?done
  case assign =>
    intro x W K hK
    gi_wp2
    exact hK
  case body =>
    rintro k x W ⟨c0, c1⟩ hx hc
    clear hz g0 g1 g2 g3 g4 hK hT hv hd hvs hcells hbb
    have hxu : IsU x := hw x (List.mem_of_getElem? hx)
    have Hs := Lib.hid (open_step hw hx)
    have Hs2 := Lib.hid (first_step hl hx)
    obtain ⟨o1, f1⟩ := one_cell c1
    have Hb := Lib.hid c1
    have Hb0 := Lib.hid c0
    clear c1 c0
    gi_wp2_with fail
    refine round_still_tail 6 (by kernel_rfl) (by kernel_rfl) (by kernel_rfl) (fun ⟨_, _, h⟩ => h) ?_
    simp only [List.take_succ_cons, List.take_zero, List.drop_succ_cons, List.drop_zero]
    repeat (first | still_step | still_call (bit_calls x hxu _))
    refine wpStill_nil ?_
    go_wp2
    rw [Hs.out]
    have e1 : ((W.setCell ⟨w.heap.size + 1, 0, none⟩ (.int .u64 (openI (l.take (k + 1))))).drew).heap[w.heap.size + 1]? = some (.cells #[.int .u64 (openI (l.take (k + 1)))] 24 (0, 0)) := one_set Hb.out
    have e0 : ((W.setCell ⟨w.heap.size + 1, 0, none⟩ (.int .u64 (openI (l.take (k + 1))))).drew).heap[w.heap.size]? = some (.cells #[.int .u64 (firstI (l.take k))] 24 (0, 0)) := other_set Hb0.out (by omega)
    have eK : Keeps (fun k => k = w.heap.size ∨ k = w.heap.size + 1) W (W.setCell ⟨w.heap.size + 1, 0, none⟩ (.int .u64 (openI (l.take (k + 1))))).drew := ((keeps_set W _ _).drew).mono (fun _ _ h => .inr h)
    generalize (W.setCell ⟨w.heap.size + 1, 0, none⟩ (.int .u64 (openI (l.take (k + 1))))).drew = W2 at e1 e0 eK ⊢
    obtain ⟨o1', f1'⟩ := one_cell e1
    obtain ⟨o0', f0'⟩ := one_cell e0
    have He1 := Lib.hid e1
    have He0 := Lib.hid e0
    clear e1 e0 o1 f1 hc
    gi_wp2
    exact ⟨eK.trans ((keeps_set W2 w.heap.size _).mono (fun _ _ h => .inl h)) (fun _ _ h => h), by rw [← Hs2.out]; exact one_set He0.out, other_set He1.out (by omega)⟩
  case done =>
    rintro W ⟨c1, c0⟩ hT2 hdd
    rw [List.take_length] at c1
    obtain ⟨o1, f1⟩ := one_cell c1
    clear hz g0 g1 g2 g3 g4 hK hT hv hd hvs hcells hbb c0
    gi_wp2
    exact ⟨by simp, .inl ⟨_, _, rfl, run_takeDeferred hdd, ⟨_, results_tmp rfl _ _ _, rfl, hT2 _⟩⟩⟩

set_option maxRecDepth 100000 in
set_option maxHeartbeats 2000000 in
theorem some_calls (q : Option Addr) (l0 : List Ev) (S0 : Nat → Prop) (v : Value) (l : List Int) (w : World) (hT : qAt w S0 q l0) (hl0 : l0.length ≤ 549755813888) (hv : wordsAt w v l) (hl : l.length ≤ 549755813888) (hd : l ≠ [] → ∀ k, v.ownBlock = some k → ¬ S0 k) :
    Calls Try.prog 15 #[.pointer q, v] w fun e w' => e = .returned (.int .u64 (orI l)) ∧ Tail q l0 1 l.length S0 w w' := by
  obtain ⟨b, off, hvs, hcells, hbb⟩ := words_cell hv
  obtain ⟨ao, cap, hva⟩ := words_shape hv
  subst hva
  refine (callsIn_wide (n := 5)).1 ?_
  refine callsIn_of_wp_marks Try.func15 rfl trivial ?_ rfl
  simp only [Try.ntmps15, List.size_toArray, List.length_cons, List.length_nil, Nat.reduceAdd, Nat.reduceSub, Array.replicate_succ, Array.replicate_zero, List.push_toArray, List.append_toArray, List.nil_append, List.cons_append]
  gi_wp2_with fail
  refine ⟨trivial, ?_⟩
  refine (callsIn_wide.2 (visit_calls q ao l.length cap 1 _)).mono ?_
  rintro e w2 ⟨rfl, rfl⟩
  gi_wp2_with fail
  obtain ⟨hz, g0, g1, g2, g3, hK⟩ := alloc4 w (.cells #[.int .u64 0] 24) (.cells #[.pointer q] 36) (.cells #[.int .i64 1] 3) (.cells #[.slice ao l.length cap] 22)
  refine over_visit_std w _ 4 (w.heap.size + 3) (w.heap.size + 1) (w.heap.size + 2) b off l ao cap q 1 l0 S0 (fun k => k = w.heap.size)
    (fun k W => W.heap[w.heap.size]? = some (.cells #[.int .u64 (orI (l.take k))] 24 (0, 0)))
    rfl hvs hl hl0 (by decide) hcells hbb hd hT hK hz (by omega) g3 g1 g2 (fun k h => by omega) (fun k W W' h hs => (hs _ (by omega) (by omega)).trans h) (by rw [List.take_zero]; exact g0)
    (fun k => { tmps := #[.pointer q, .slice ao l.length cap, undef, undef, .int .u64 0, .pointer (some ⟨w.heap.size, 0, none⟩), undef, .pointer (some ⟨b, off + k, none⟩), .pointer q, .slice ao l.length cap,
      .func (.func 39) #[] #[.pointer (some ⟨w.heap.size + 3, 0, none⟩), .pointer (some ⟨w.heap.size + 1, 0, none⟩), .pointer (some ⟨w.heap.size + 2, 0, none⟩)], .int .u64 k, .pointer (some ⟨b, off + k, none⟩), undef, undef, undef, undef, undef, undef], defers := [] }) ?assign ?body ?done
  case assign =>
    intro x W K hK
    gi_wp2
    exact hK
  case body =>
    rintro k x W c1 hx hc
    clear hz g0 g1 g2 g3 hK hT hv hd hvs hcells hbb
    have Hs := Lib.hid (or_step hx)
    obtain ⟨o1, f1⟩ := one_cell c1
    have Hb := Lib.hid c1
    clear c1
    gi_wp2_with fail
    refine round_still_tail 5 (by kernel_rfl) (by kernel_rfl) (by kernel_rfl) (fun ⟨_, _, h⟩ => h) ?_
    simp only [List.take_succ_cons, List.take_zero, List.drop_succ_cons, List.drop_zero]
    repeat still_step
    refine wpStill_nil ?_
    go_wp2
    exact ⟨(keeps_set W _ _).drew, by rw [← Hs.out]; exact one_set Hb.out⟩
  case done =>
    rintro W c1 hT2 hdd
    rw [List.take_length] at c1
    obtain ⟨o1, f1⟩ := one_cell c1
    clear hz g0 g1 g2 g3 hK hT hv hd hvs hcells hbb
    gi_wp2
    exact ⟨by simp, .inl ⟨_, _, rfl, run_takeDeferred hdd, ⟨_, results_tmp rfl _ _ _, rfl, hT2 _⟩⟩⟩

set_option maxRecDepth 100000 in
set_option maxHeartbeats 2000000 in
theorem all_calls (q : Option Addr) (l0 : List Ev) (S0 : Nat → Prop) (v : Value) (l : List Int) (w : World) (hT : qAt w S0 q l0) (hl0 : l0.length ≤ 549755813888) (hv : wordsAt w v l) (hl : l.length ≤ 549755813888) (hd : l ≠ [] → ∀ k, v.ownBlock = some k → ¬ S0 k) :
    Calls Try.prog 14 #[.pointer q, v] w fun e w' => e = .returned (.int .u64 (andI l)) ∧ Tail q l0 1 l.length S0 w w' := by
  obtain ⟨b, off, hvs, hcells, hbb⟩ := words_cell hv
  obtain ⟨ao, cap, hva⟩ := words_shape hv
  subst hva
  refine (callsIn_wide (n := 5)).1 ?_
  refine callsIn_of_wp_marks Try.func14 rfl trivial ?_ rfl
  simp only [Try.ntmps14, List.size_toArray, List.length_cons, List.length_nil, Nat.reduceAdd, Nat.reduceSub, Array.replicate_succ, Array.replicate_zero, List.push_toArray, List.append_toArray, List.nil_append, List.cons_append]
  gi_wp2_with fail
  refine ⟨trivial, ?_⟩
  refine (callsIn_wide.2 (of_calls 1 (by unfold IsU; omega) _)).mono ?_
  rintro e w1 ⟨rfl, hw1⟩
  subst hw1
  rename World => w
  gi_wp2_with fail
  refine ⟨trivial, ?_⟩
  refine (callsIn_wide.2 (visit_calls q ao l.length cap 1 _)).mono ?_
  rintro e w2 ⟨rfl, rfl⟩
  gi_wp2_with fail
  obtain ⟨hz, g0, g1, g2, g3, hK⟩ := alloc4 w (.cells #[.int .u64 (maskI (1 % 2 == 1))] 24) (.cells #[.pointer q] 36) (.cells #[.int .i64 1] 3) (.cells #[.slice ao l.length cap] 22)
  refine over_visit_std w _ 4 (w.heap.size + 3) (w.heap.size + 1) (w.heap.size + 2) b off l ao cap q 1 l0 S0 (fun k => k = w.heap.size)
    (fun k W => W.heap[w.heap.size]? = some (.cells #[.int .u64 (andI (l.take k))] 24 (0, 0)))
    rfl hvs hl hl0 (by decide) hcells hbb hd hT hK hz (by omega) g3 g1 g2 (fun k h => by omega) (fun k W W' h hs => (hs _ (by omega) (by omega)).trans h) (by rw [List.take_zero]; exact g0)
    (fun k => { tmps := #[.pointer q, .slice ao l.length cap, undef, undef, .int .u64 0, .pointer (some ⟨w.heap.size, 0, none⟩), undef, .pointer (some ⟨b, off + k, none⟩), .int .u64 (maskI (1 % 2 == 1)), .pointer q, .slice ao l.length cap,
      .func (.func 39) #[] #[.pointer (some ⟨w.heap.size + 3, 0, none⟩), .pointer (some ⟨w.heap.size + 1, 0, none⟩), .pointer (some ⟨w.heap.size + 2, 0, none⟩)], .int .u64 k, .pointer (some ⟨b, off + k, none⟩), undef, undef, undef, undef, undef, undef], defers := [] }) ?assign ?body ?done
  case assign =>
    intro x W K hK
    gi_wp2
    exact hK
  case body =>
    rintro k x W c1 hx hc
    clear hz g0 g1 g2 g3 hK hT hv hd hvs hcells hbb
    have Hs := Lib.hid (and_step hx)
    obtain ⟨o1, f1⟩ := one_cell c1
    have Hb := Lib.hid c1
    clear c1
    gi_wp2_with fail
    refine round_still_tail 5 (by kernel_rfl) (by kernel_rfl) (by kernel_rfl) (fun ⟨_, _, h⟩ => h) ?_
    simp only [List.take_succ_cons, List.take_zero, List.drop_succ_cons, List.drop_zero]
    repeat still_step
    refine wpStill_nil ?_
    go_wp2
    exact ⟨(keeps_set W _ _).drew, by rw [← Hs.out]; exact one_set Hb.out⟩
  case done =>
    rintro W c1 hT2 hdd
    rw [List.take_length] at c1
    obtain ⟨o1, f1⟩ := one_cell c1
    clear hz g0 g1 g2 g3 hK hT hv hd hvs hcells hbb
    gi_wp2
    exact ⟨by simp, .inl ⟨_, _, rfl, run_takeDeferred hdd, ⟨_, results_tmp rfl _ _ _, rfl, hT2 _⟩⟩⟩
end Go.Proofs.Ytkagpdbphdhbaaa.ar
