/- network.Comparators: slices.Collect and slices.AppendSeq over All's iterator. -/
import Derived.Test.YtacbnlkbbaiedaaNetY
import Derived.RangeFuncBox
namespace Go.Proofs.Ytacbnlkbbaiedaa.nw
open Go Go.RowKit Go.Shelf Go.Proofs.Ytacbnlkbbaiedaa.tp Go.Proofs.Ytacbnlkbbaiedaa.rg

attribute [local go_sem] Oper.semAt_some

/-- The cells of a list of comparators. -/
def flatC (L : List (Nat × Nat)) : List Value := L.flatMap fun c => [.int .i64 (c.1 : Int), .int .i64 (c.2 : Int)]
theorem flatC_snoc {L : List (Nat × Nat)} {k : Nat} {c : Nat × Nat} (h : L[k]? = some c) : flatC (L.take (k + 1)) = flatC (L.take k) ++ [.int .i64 (c.1 : Int), .int .i64 (c.2 : Int)] := by
  unfold flatC
  rw [List.take_add_one, h, List.flatMap_append]
  simp
theorem comps_len (k j n : Nat) : (comps k j n).length ≤ n := by
  unfold comps
  rw [List.length_flatMap]
  have : ∀ L : List Nat, (L.map fun i => (if bt i j then [] else [cmpr k j i] : List (Nat × Nat)).length).sum ≤ L.length := by
    intro L
    induction L with
    | nil => simp
    | cons i L ih =>
      simp only [List.map_cons, List.sum_cons, List.length_cons]
      have h1 : (if bt i j then [] else [cmpr k j i] : List (Nat × Nat)).length ≤ 1 := by split <;> simp
      omega
  have h := this (List.range n)
  rwa [List.length_range] at h
theorem rl_len (k n : Nat) : ∀ q, (rl k n q).length ≤ q * n
  | 0 => by simp [rl]
  | q + 1 => by
    show (comps k (2 ^ q) n ++ rl k n q).length ≤ _
    rw [List.length_append, Nat.add_mul, Nat.one_mul]
    have := comps_len k (2 ^ q) n
    have := rl_len k n q
    omega
theorem nl_len (n : Nat) : ∀ r, r ≤ 12 → (nl n r).length ≤ r * 12 * n
  | 0, _ => by simp [nl]
  | r + 1, h => by
    show (nl n r ++ rl (2 ^ (r + 1)) n (r + 1)).length ≤ _
    have h1 := nl_len n r (by omega)
    have h2 := rl_len (2 ^ (r + 1)) n (r + 1)
    have h3 : (r + 1) * n ≤ 12 * n := Nat.mul_le_mul_right n h
    have e : (r + 1) * 12 * n = r * 12 * n + 12 * n := by rw [Nat.add_mul, Nat.add_mul, Nat.one_mul]
    rw [List.length_append]
    omega
theorem nl_bound {r N : Nat} (hr : r ≤ 12) (hN : N = 2 ^ r) : (nl N r).length ≤ 589824 := by
  have h1 := nl_len N r hr
  have h2 : N ≤ 4096 := by rw [hN]; exact Nat.pow_le_pow_right (show 0 < 2 by omega) hr
  have h3 : r * 12 * N ≤ 12 * 12 * 4096 := Nat.mul_le_mul (Nat.mul_le_mul_right 12 hr) h2
  omega
theorem net_bound {nv : Int} {L : List (Nat × Nat)} (h : IsNet nv L) : L.length ≤ 589824 := by
  rcases h with ⟨r, N, hr, hN, _, rfl⟩ | ⟨_, _, rfl⟩
  · exact nl_bound hr hN
  · simp
theorem infoC : (Try.prog.info? 31).map (fun i => (i.zero, i.size, i.bytes)) = some (some (.agg #[.int .i64 0, .int .i64 0]), 2, 16) := by kernel_rfl

theorem row_base {W : World} {b b' : Nat} {e : TypeId} {size : Nat} {v : Value} {n : Nat} {xs : List Value} (h : W.ownsRow b e size v n xs) (hb : b' ≤ b) : W.ownsRow b' e size v n xs := by
  refine ⟨h.1, ?_⟩
  rcases h.2 with h | ⟨g, cap, cur, rfl, h1, h2⟩
  · exact .inl h
  · exact .inr ⟨g, cap, cur, rfl, Nat.le_trans hb h1, h2⟩
set_option maxRecDepth 100000 in
set_option maxHeartbeats 2000000 in
theorem appendSeq_calls (Bn : Nat) (nv : Int) (L : List (Nat × Nat)) (hL : IsNet nv L) (w : World) (hb : Bn < w.heap.size) (hc : w.cell? ⟨Bn, 0, none⟩ = some (.int .i64 nv)) :
    Calls Try.prog 31 #[.slice none 0 0, .func (.func 24) #[] #[.pointer (some ⟨Bn, 0, none⟩)]] w fun e w' =>
      ∃ v, e = .returned v ∧ w'.ownsRow w.heap.size 31 2 v L.length (flatC L) ∧ Keeps (fun _ => False) w w' := by
  obtain ⟨i0, hi, hz0, hz1, hz2⟩ := info_parts infoC
  have Hb := Lib.hid (net_bound hL)
  refine (callsIn_wide (n := 5)).1 ?_
  refine callsIn_of_wp_marks Try.func31 rfl trivial ?_ rfl
  simp only [Try.ntmps31, List.size_toArray, List.length_cons, List.length_nil, Nat.reduceAdd, Nat.reduceSub, Array.replicate_succ, Array.replicate_zero, List.push_toArray, List.append_toArray, List.nil_append, List.cons_append]
  gi_wp2_with fail
  obtain ⟨w1, hw1⟩ : ∃ w1, w.alloc (.cells #[.slice none 0 0] 34) = w1 := ⟨_, rfl⟩
  have hz : w1.heap.size = w.heap.size + 1 := by rw [← hw1]; simp
  have hbx : Boxed w1 w.heap.size 34 (.slice none 0 0) := by rw [← hw1]; exact Boxed.new w _ _
  have hk1 : Keeps (fun _ => False) w w1 := by rw [← hw1]; exact (Keeps.refl _ w).alloc _
  rw [hw1]
  clear hw1
  have hbN : w1.cell? ⟨Bn, 0, none⟩ = some (.int .i64 nv) := (hk1.cell (p := ⟨Bn, 0, none⟩) hb (fun h => h)).trans hc
  refine over_all Bn nv L hL (fun k W => (∃ v, Boxed W w.heap.size 34 v ∧ W.ownsRow (w1.heap.size + 2) 31 2 v k (flatC (L.take k))) ∧ Keeps (fun i => i = w.heap.size) w1 W ∧ W.cell? ⟨Bn, 0, none⟩ = some (.int .i64 nv))
    rfl (fun _ _ h => h.2.2) ?_ ?_
    (fun gg x y => { tmps := #[.slice none 0 0, .func (.func 24) #[] #[.pointer (some ⟨Bn, 0, none⟩)], .pointer (some ⟨w.heap.size, 0, none⟩), undef, .slice none 0 0, .pointer (some ⟨gg, 0, none⟩),
      .func (.func 24) #[] #[.pointer (some ⟨Bn, 0, none⟩)], .agg #[.int .i64 x, .int .i64 y], undef, undef, undef, undef, undef], defers := [] }) ?assign ?body ?done
  · rintro k W W' ⟨⟨v, hv, hr⟩, hk, hcn⟩ hz2 hl
    refine ⟨⟨v, (hl.block _ hv.lt (by omega)).trans hv, hr.1, ?_⟩, hk.trans hl (fun i hi h => by omega), (hl.cell (p := ⟨Bn, 0, none⟩) (World.block_lt_of_cell? _ _ hcn) (by simp only; omega)).trans hcn⟩
    rcases hr.2 with h | ⟨g, cap, cur, rfl, h1, h2, h3⟩
    · exact .inl h
    · exact .inr ⟨g, cap, cur, rfl, h1, (hl.block _ (Array.getElem?_eq_some_iff.1 h2).1 (by omega)).trans h2, h3⟩
  · intro rr
    have hk : Keeps (fun _ => False) w1 ((w1.alloc (.deferred (some []))).alloc (.loop rr)) := ((Keeps.refl _ w1).alloc _).alloc _
    exact ⟨⟨_, (hk.block _ hbx.lt (fun h => h)).trans hbx, by simp [flatC], .inl ⟨rfl, rfl⟩⟩, hk.mono (fun _ _ h => h.elim), (hk.cell (p := ⟨Bn, 0, none⟩) (by simp only; omega) (fun h => h)).trans hbN⟩
  case assign =>
    intro W x y K hK
    gi_wp2
    exact hK
  case body =>
    rintro k x y gg W ⟨⟨v, hv, hrow⟩, hk, hcn⟩ hxy hlo hhi c0 c1
    have hkl : k < L.length := (List.getElem?_eq_some_iff.1 hxy).1
    have hkb : k < 589824 := Nat.lt_of_lt_of_le hkl Hb.out
    have Hs := Lib.hid (flatC_snoc hxy)
    have HV := Lib.hid hv
    have v0 := hv.cell
    have v1 := hv.frozen
    have Hk := Lib.hid hk
    have Hcn := Lib.hid hcn
    have Hlt := Lib.hid hv.lt
    have Hz := Lib.hid hz
    have Hlo := Lib.hid (show w.heap.size + 3 ≤ gg by omega)
    clear hv hk hcn hxy hc hbN hkl hz hlo
    gi_wp2_with (gi_at_builtin; refine wpListIn_append_own _ rfl _ _ 34 rfl (w1.heap.size + 2) 31 i0 (.agg #[.int .i64 0, .int .i64 0]) 2 16 Try.underlying34 hi hz0 hz1 hz2 rfl (by decide) _ _ _ rfl (hrow.alloc _) ⟨W.heap.size, 0, none⟩ 1 1 [.int .i64 (x : Int), .int .i64 (y : Int)] rfl rfl ?c1 ?c2 ?c3 ?c4 ?c5 ?_)
    case c2 => exact ⟨rfl, rfl⟩
    case c3 => unfold maxLen; omega
    case c4 => omega
    case c5 => have := Hlo.out; have := Hz.out; omega
    intro v2 w2 hown2 hgrow2 _
    have hv1 : Boxed w2 w.heap.size 34 v := (HV.out.alloc _).kept hgrow2 (HV.out.not_row (by decide) hrow)
    have hKW : Keeps (fun i => i = w.heap.size ∨ w1.heap.size + 2 ≤ i) W w2 := (((Keeps.refl _ W).alloc _).grown hgrow2 (fun g hg hlt => .inr (by
      rcases hrow.2 with ⟨rfl, _⟩ | ⟨g', cap, cur, rfl, h1, _⟩
      · simp [Value.ownBlock] at hg
      · simp [Value.ownBlock] at hg; omega)))
    obtain ⟨g2, cap2, rfl⟩ := ownsRow_succ hown2
    have v0' := hv1.cell
    have v1' := hv1.frozen
    have HV1 := Lib.hid hv1
    have HO := Lib.hid hown2
    have HKW := Lib.hid hKW
    clear hown2 hgrow2 hv1 hKW v0 v1 hrow c0 c1
    gi_wp2
    have hz := Hz.out
    have hlo := Hlo.out
    have hW3 : Keeps (fun i => i = w.heap.size ∨ w1.heap.size + 2 ≤ i) W (w2.setCell ⟨w.heap.size, 0, none⟩ (.slice (some ⟨g2, 0, none⟩) (k + 1) cap2)) := HKW.out.setCell _ (fun _ => .inl rfl) _
    refine ⟨⟨hW3.block _ (by omega) (by omega), hW3.block _ (by omega) (by omega)⟩, Nat.le_trans (show w1.heap.size + 2 ≤ W.heap.size by omega) hW3.size, ⟨_, HV1.out.set _, ?_⟩, Hk.out.trans hW3 (fun i hi h => by omega), (hW3.cell (p := ⟨Bn, 0, none⟩) (World.block_lt_of_cell? _ _ Hcn.out) (by simp only; omega)).trans Hcn.out⟩
    rw [Hs.out]
    exact HO.out.kept (grownBy_setCell' _ _ _) (.inr (HV1.out.not_row (by decide) HO.out).symm)
  case done =>
    rintro W ⟨⟨v, hv, hrow⟩, hk, _⟩ hz2 hdd
    rw [List.take_length] at hrow
    have v0 := hv.cell
    have Hv := Lib.hid hv
    have Hk := Lib.hid hk
    have Hr := Lib.hid hrow
    have Hz := Lib.hid hz
    clear hv hk hc hbN hbx hrow hz
    gi_wp2
    have hkp := keeps_putObj W w1.heap.size (.deferred none)
    have hz := Hz.out
    refine ⟨by simp, .inl ⟨_, _, rfl, run_takeDeferred hdd, ⟨_, results_tmp rfl _ _ _, ⟨_, rfl, ?_, ?_⟩⟩⟩⟩
    · exact row_base (ownsRow_putObj Hr.out _ hdd rfl) (by omega)
    · exact ((hk1.trans Hk.out (fun i hi h => by omega)).trans hkp (fun i hi h => by omega))
theorem collect_calls (Bn : Nat) (nv : Int) (L : List (Nat × Nat)) (hL : IsNet nv L) (w : World) (hb : Bn < w.heap.size) (hc : w.cell? ⟨Bn, 0, none⟩ = some (.int .i64 nv)) :
    Calls Try.prog 26 #[.func (.func 24) #[] #[.pointer (some ⟨Bn, 0, none⟩)]] w fun e w' =>
      ∃ v, e = .returned v ∧ w'.ownsRow w.heap.size 31 2 v L.length (flatC L) ∧ Keeps (fun _ => False) w w' := by
  have cc := appendSeq_calls Bn nv L hL w hb hc
  go_enter Try.func26, Try.ntmps26
  go_wp2_with fail
  refine cc.mono ?_; clear cc hc; rintro e w1 ⟨v, rfl, hr1, hk1⟩
  have Hr := Lib.hid hr1
  clear hr1
  go_wp2
  go_ret
  exact ⟨v, rfl, Hr.out, hk1⟩
theorem comparators_calls (nv : Int) (L : List (Nat × Nat)) (hL : IsNet nv L) (w : World) :
    Calls Try.prog 16 #[.int .i64 nv] w fun e w' =>
      ∃ v, e = .returned v ∧ w'.ownsRow w.heap.size 31 2 v L.length (flatC L) ∧ Keeps (fun _ => False) w w' := by
  have cc := fun (w : World) hb hc => collect_calls w.heap.size nv L hL (w.alloc (.cells #[.int .i64 nv] 3)) hb hc
  go_enter Try.func16, Try.ntmps16
  go_wp2_with fail
  refine (netall_calls _ _).mono ?_; rintro e w1 ⟨rfl, rfl⟩
  go_wp2_with fail
  refine (cc w (by simp) (by rw [cell_of_row _ _ _ _ _ _ (heap_alloc_new w _)]; rfl)).mono ?_; clear cc; rintro e w1 ⟨v, rfl, hr1, hk1⟩
  have Hr := Lib.hid (row_base (b' := w.heap.size) hr1 (by simp))
  have hk2 := ((Keeps.refl (fun _ => False) w).alloc _).trans hk1 (fun _ _ h => h)
  clear hr1 hk1
  go_wp2
  go_ret
  exact ⟨v, rfl, Hr.out, hk2⟩
end Go.Proofs.Ytacbnlkbbaiedaa.nw
