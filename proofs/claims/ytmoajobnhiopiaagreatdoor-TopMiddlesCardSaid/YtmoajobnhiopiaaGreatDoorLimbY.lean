/- Integers of a fixed width, by walking their text: sums, differences, products. -/
import Derived.Test.YtmoajobnhiopiaaGreatDoorLimbX
set_option linter.unusedSimpArgs false
set_option linter.unusedVariables false
namespace Go.Proofs.YtmoajobnhiopiaaGreatDoor.lm
open Go Go.RowKit Go.Shelf Go.Maps Go.Proofs.YtmoajobnhiopiaaGreatDoor.mk Go.Proofs.YtmoajobnhiopiaaGreatDoor.tp Go.Proofs.YtmoajobnhiopiaaGreatDoor.rg

/-- The first k words of z, zeros behind. -/
def mixU (z : Int) (m k : Nat) : List Int := limbs k z ++ List.replicate (m - k) 0
theorem mixU_zero (z : Int) (m : Nat) : mixU z m 0 = List.replicate m 0 := by simp [mixU, limbs]
theorem mixU_all (z : Int) (m : Nat) : mixU z m m = limbs m z := by simp [mixU]
theorem mixU_length {z : Int} {m k : Nat} (h : k ≤ m) : (mixU z m k).length = m := by unfold mixU; rw [List.length_append, limbs_length, List.length_replicate]; omega
theorem mixU_set {z : Int} {m k : Nat} (h : k < m) : (mixU z m k).set k (lm z k) = mixU z m (k + 1) := by
  unfold mixU
  rw [List.set_append_right _ _ (by rw [limbs_length]; omega), limbs_length, Nat.sub_self, show m - k = (m - (k + 1)) + 1 by omega, List.replicate_succ, List.set_cons_zero, ← limbs_snoc, List.append_assoc]
  rfl
theorem wfl_set (l : List Int) (k : Nat) (x : Int) : (wfl l).set k (.int .u64 x) = wfl (l.set k x) := by unfold wfl; rw [List.map_set]
theorem made_zeros (m : Nat) : (madeCells (Value.int IntKind.u64 0).cells m).toList = wfl (List.replicate m 0) := by
  unfold wfl
  rw [List.map_replicate]
  exact toList_madeCells_one (.int .u64 0) m
/-- A made row of words. -/
theorem made_row (w : World) (base m : Nat) (Z : Array Value) (h : Z.toList = wfl (List.replicate m 0)) (hb : base ≤ w.heap.size) (hm : m ≤ 1000) :
    (w.alloc (.cells Z 43)).ownsRow base 43 1 (.slice (some ⟨w.heap.size, 0, none⟩) m m) m (wfl (List.replicate m 0)) := by
  have hs : Z.size = m := by
    have := congrArg List.length h
    rw [wfl_length, List.length_replicate] at this
    simpa using this
  have := World.ownsRow_lit (base := base) (size := 1) (e := 43) w Z m hb (by unfold maxLen; omega) (by rw [hs, Nat.mul_one])
  rw [h] at this
  exact this

theorem is_two' (v u : Value) (w0 w : World) (b : Nat) (hb : b = w0.heap.size) (h : ∃ ao n c, v = .slice ao n c ∧ 1 ≤ n ∧ n ≤ 8) (h' : ∃ ao n c, u = .slice ao n c ∧ 1 ≤ n ∧ n ≤ 8) (hw : w = w0.alloc (.cells #[v, u] 73)) :
    Calls Tryz.prog 65 #[.slice (some ⟨b, 0, none⟩) 2 2] w fun e w' => e = .returned (.bool true) ∧ w' = w := by subst hb; exact is_two v u w0 w h h' hw

set_option maxRecDepth 100000 in
set_option maxHeartbeats 4000000 in
theorem apply_add (v u : Value) (m : Nat) (x y : Int) (hm1 : 1 ≤ m) (hm : m ≤ 8) (w : World) (hv : numAt w v m x) (hu : numAt w u m y) :
    Calls Tryz.prog 105 #[.agg #[.func (.func 104) #[] #[]], v, u, .int .u64 0] w (GivesNum w m (x + y)) := by
  obtain ⟨i0, hi, hz0, hz1, hz2⟩ := info_parts infoW
  have hmk := fun w => run_make (P := Tryz.prog) w 73 43 i0 (.int .u64 0) Tryz.underlying73 hi hz0 .i64 .i64 (m : Int) (m : Int) (by omega) (Int.le_refl _) (by rw [hz2]; omega) (by omega)
  rw [hz1] at hmk
  simp only [Int.toNat_natCast, Nat.mul_one] at hmk
  have hZ := made_zeros m
  generalize madeCells (Value.int IntKind.u64 0).cells m = Z at hmk hZ
  have HZ := Lib.hid hZ
  clear hZ hi hz0 hz1 hz2
  obtain ⟨ba, oa, ca, rfl, hba, hca⟩ := hv.cases
  obtain ⟨bb, ob, cb, rfl, hbb, hcb⟩ := hu.cases
  have HA := Lib.hid hca
  have HB := Lib.hid hcb
  have hka : Keeps (fun _ => False) w (w.alloc (.cells #[.func (.func 104) #[] #[]] 171)) := (Keeps.refl _ w).alloc _
  have hE0 := heap_alloc_new w (.cells #[.func (.func 104) #[] #[]] 171)
  clear hca hcb hv hu
  go_enter Tryz.func105, Tryz.ntmps105
  go_wp2_with fail
  refine (is_two' _ _ (w.alloc (.cells #[.func (.func 104) #[] #[]] 171)) _ _ (by simp) ⟨_, _, _, rfl, by omega, by omega⟩ ⟨_, _, _, rfl, by omega, by omega⟩ rfl).mono ?_; rintro e w1 ⟨rfl, rfl⟩
  obtain ⟨w1, hw1⟩ : ∃ w1, (w.alloc (.cells #[.func (.func 104) #[] #[]] 171)).alloc (.cells #[.slice (some ⟨ba, oa, none⟩) m ca, .slice (some ⟨bb, ob, none⟩) m cb] 73) = w1 := ⟨_, rfl⟩
  have hk1 : Keeps (fun _ => False) w w1 := by rw [← hw1]; exact hka.alloc _
  have hE1 : w1.heap[w.heap.size]? = some (.cells #[.func (.func 104) #[] #[]] 171 (0, 0)) := by rw [← hw1, Below.heap_alloc _ _ _ (by simp)]; exact hE0
  rw [hw1]
  clear hw1 hka hE0
  go_wp2_with (simp only [hmk])
  obtain ⟨w2, hw2⟩ : ∃ w2, w1.alloc (.cells Z 43) = w2 := ⟨_, rfl⟩
  obtain ⟨g, hg⟩ : ∃ g, w1.heap.size = g := ⟨_, rfl⟩
  have hElt := (Array.getElem?_eq_some_iff.1 hE1).1
  have hr2 : w2.ownsRow g 43 1 (.slice (some ⟨g, 0, none⟩) m m) m (wfl (mixU (x + y) m 0)) := by
    rw [mixU_zero, ← hw2]
    have := made_row w1 w1.heap.size m Z HZ.out (Nat.le_refl _) (by omega)
    rw [hg] at this
    exact this
  have hk2 : Keeps (fun _ => False) w w2 := by rw [← hw2]; exact hk1.alloc _
  have hE2 : w2.heap[w.heap.size]? = some (.cells #[.func (.func 104) #[] #[]] 171 (0, 0)) := by rw [← hw2, Below.heap_alloc _ _ _ hElt]; exact hE1
  have hwg : w.heap.size < g := by rw [← hg]; exact hElt
  have hg2 : g < w2.heap.size := by rw [← hw2, ← hg]; simp
  rw [hw2]
  try rw [hg]
  clear hw2 hE1 hk1 HZ hmk hg hElt
  go_loopw [3, 10, 28] (fun c _ i wr => ∃ k : Nat, k ≤ m ∧ i = .int .i64 k ∧ c = .int .u64 (cya x y k) ∧ wr.ownsRow g 43 1 (.slice (some ⟨g, 0, none⟩) m m) m (wfl (mixU (x + y) m k)) ∧ Keeps (fun j => j = g) w2 wr) (fun _ _ i _ => m - (intOf i).toNat)
  case atStart => exact ⟨0, Nat.zero_le _, rfl, by rw [cya_zero], hr2, Keeps.refl _ _⟩
  case round =>
    clear hr2
    obtain ⟨k, hk, rfl, rfl, hr, hK⟩ := hrel
    have hkw : Keeps (fun _ => False) w wr := hk2.trans hK (fun i hi h => by omega)
    by_cases hlt : k < m
    · have hlt' : (k : Int) < (m : Int) := by omega
      have hk0 : (0 : Int) ≤ (k : Int) := by omega
      have c0 : wr.cell? ⟨w.heap.size, 0, none⟩ = some (.func (.func 104) #[] #[]) := by
        have := (hK.block w.heap.size (Array.getElem?_eq_some_iff.1 hE2).1 (by omega)).trans hE2
        rw [cell_of_row _ _ _ _ _ _ this]; rfl
      have c1 := (hkw.cell (p := ⟨ba, oa + k, none⟩) hba (fun h => h)).trans (HA.out k hlt)
      have c2 := (hkw.cell (p := ⟨bb, ob + k, none⟩) hbb (fun h => h)).trans (HB.out k hlt)
      have hf := hr.frozenAt k
      have hp := (hr.cellAt k (by omega)).trans (wfl_get (l := mixU (x + y) m k) (i := k) (x := 0) (by unfold mixU; rw [List.getElem?_append_right (by rw [limbs_length]; omega), limbs_length, Nat.sub_self, List.getElem?_replicate, if_pos (by omega)]))
      have hst := (hr.stored k (.int .u64 (lm (x + y) k))).1
      rw [wfl_set, mixU_set hlt] at hst
      have Hst := Lib.hid hst
      have HK := Lib.hid hK
      clear hst hr hkw hK hE2 hk2
      go_wp2_with fail
      refine wp_region_late (fun W => W.cell? ⟨w.heap.size, 0, none⟩ = some (.func (.func 104) #[] #[]) ∧ W.cell? ⟨ba, oa + k, none⟩ = some (.int .u64 (lm x k)) ∧ W.cell? ⟨bb, ob + k, none⟩ = some (.int .u64 (lm y k))) [18] (by kernel_rfl) ?_
      have hS : wr.drew.cell? ⟨w.heap.size, 0, none⟩ = some (.func (.func 104) #[] #[]) ∧ wr.drew.cell? ⟨ba, oa + k, none⟩ = some (.int .u64 (lm x k)) ∧ wr.drew.cell? ⟨bb, ob + k, none⟩ = some (.int .u64 (lm y k)) := ⟨c0, c1, c2⟩
      obtain ⟨s0, s1, s2⟩ := id hS
      refine wpAnyL_any (i := 0) (oi := _) (v := .slice (some ⟨g, 0, none⟩) m m) rfl (by kernel_rfl) (by kernel_rfl) (by kernel_rfl) (by kernel_rfl) (fun _ _ _ h => (h : False).elim) (Or.inl ⟨by kernel_rfl, ?_⟩) (fun _ => by assumption) ?_
      · intro w _
        go_simp
      try simp only [List.getElem_toArray, List.getElem_cons_zero, List.getElem_cons_succ, Act.put, List.setIfInBounds_toArray, List.set_cons_zero, List.set_cons_succ]
      refine wpAnyL_any (i := 1) (oi := _) (v := .int .i64 (k : Int)) rfl (by kernel_rfl) (by kernel_rfl) (by kernel_rfl) (by kernel_rfl) (fun _ _ _ h => (h : False).elim) (Or.inl ⟨by kernel_rfl, ?_⟩) (fun _ => by assumption) ?_
      · intro w _
        go_simp
      try simp only [List.getElem_toArray, List.getElem_cons_zero, List.getElem_cons_succ, Act.put, List.setIfInBounds_toArray, List.set_cons_zero, List.set_cons_succ]
      refine wpAnyL_any (i := 2) (oi := _) (v := .pointer (some ⟨w.heap.size, 0, none⟩)) rfl (by kernel_rfl) (by kernel_rfl) (by kernel_rfl) (by kernel_rfl) (fun _ _ _ h => (h : False).elim) (Or.inl ⟨by kernel_rfl, ?_⟩) (fun _ => by assumption) ?_
      · intro w _
        go_simp
      try simp only [List.getElem_toArray, List.getElem_cons_zero, List.getElem_cons_succ, Act.put, List.setIfInBounds_toArray, List.set_cons_zero, List.set_cons_succ]
      refine wpAnyL_take (i := 3) (oi := _) (v := .func (.func 104) #[] #[]) rfl (by kernel_rfl) (by kernel_rfl) (by kernel_rfl) (by kernel_rfl) (fun _ _ _ h => (h : False).elim) (Or.inl ⟨by kernel_rfl, ?_⟩) (by assumption) ?_
      · intro w hSw
        obtain ⟨s0, s1, s2⟩ := hSw
        go_simp
      try simp only [List.getElem_toArray, List.getElem_cons_zero, List.getElem_cons_succ, Act.put, List.setIfInBounds_toArray, List.set_cons_zero, List.set_cons_succ]
      refine wpAnyL_any (i := 4) (oi := _) (v := .slice (some ⟨ba, oa, none⟩) m ca) rfl (by kernel_rfl) (by kernel_rfl) (by kernel_rfl) (by kernel_rfl) (fun _ _ _ h => (h : False).elim) (Or.inl ⟨by kernel_rfl, ?_⟩) (fun _ => by assumption) ?_
      · intro w _
        go_simp
      try simp only [List.getElem_toArray, List.getElem_cons_zero, List.getElem_cons_succ, Act.put, List.setIfInBounds_toArray, List.set_cons_zero, List.set_cons_succ]
      refine wpAnyL_any (i := 5) (oi := _) (v := .int .i64 (k : Int)) rfl (by kernel_rfl) (by kernel_rfl) (by kernel_rfl) (by kernel_rfl) (fun _ _ _ h => (h : False).elim) (Or.inl ⟨by kernel_rfl, ?_⟩) (fun _ => by assumption) ?_
      · intro w _
        go_simp
      try simp only [List.getElem_toArray, List.getElem_cons_zero, List.getElem_cons_succ, Act.put, List.setIfInBounds_toArray, List.set_cons_zero, List.set_cons_succ]
      refine wpAnyL_any (i := 6) (oi := _) (v := .pointer (some ⟨ba, oa + k, none⟩)) rfl (by kernel_rfl) (by kernel_rfl) (by kernel_rfl) (by kernel_rfl) (fun _ _ _ h => (h : False).elim) (Or.inl ⟨by kernel_rfl, ?_⟩) (fun _ => by assumption) ?_
      · intro w _
        go_simp
      try simp only [List.getElem_toArray, List.getElem_cons_zero, List.getElem_cons_succ, Act.put, List.setIfInBounds_toArray, List.set_cons_zero, List.set_cons_succ]
      refine wpAnyL_take (i := 7) (oi := _) (v := .int .u64 (lm x k)) rfl (by kernel_rfl) (by kernel_rfl) (by kernel_rfl) (by kernel_rfl) (fun _ _ _ h => (h : False).elim) (Or.inl ⟨by kernel_rfl, ?_⟩) (by assumption) ?_
      · intro w hSw
        obtain ⟨s0, s1, s2⟩ := hSw
        go_simp
      try simp only [List.getElem_toArray, List.getElem_cons_zero, List.getElem_cons_succ, Act.put, List.setIfInBounds_toArray, List.set_cons_zero, List.set_cons_succ]
      refine wpAnyL_any (i := 8) (oi := _) (v := .slice (some ⟨bb, ob, none⟩) m cb) rfl (by kernel_rfl) (by kernel_rfl) (by kernel_rfl) (by kernel_rfl) (fun _ _ _ h => (h : False).elim) (Or.inl ⟨by kernel_rfl, ?_⟩) (fun _ => by assumption) ?_
      · intro w _
        go_simp
      try simp only [List.getElem_toArray, List.getElem_cons_zero, List.getElem_cons_succ, Act.put, List.setIfInBounds_toArray, List.set_cons_zero, List.set_cons_succ]
      refine wpAnyL_any (i := 9) (oi := _) (v := .int .i64 (k : Int)) rfl (by kernel_rfl) (by kernel_rfl) (by kernel_rfl) (by kernel_rfl) (fun _ _ _ h => (h : False).elim) (Or.inl ⟨by kernel_rfl, ?_⟩) (fun _ => by assumption) ?_
      · intro w _
        go_simp
      try simp only [List.getElem_toArray, List.getElem_cons_zero, List.getElem_cons_succ, Act.put, List.setIfInBounds_toArray, List.set_cons_zero, List.set_cons_succ]
      refine wpAnyL_any (i := 10) (oi := _) (v := .pointer (some ⟨bb, ob + k, none⟩)) rfl (by kernel_rfl) (by kernel_rfl) (by kernel_rfl) (by kernel_rfl) (fun _ _ _ h => (h : False).elim) (Or.inl ⟨by kernel_rfl, ?_⟩) (fun _ => by assumption) ?_
      · intro w _
        go_simp
      try simp only [List.getElem_toArray, List.getElem_cons_zero, List.getElem_cons_succ, Act.put, List.setIfInBounds_toArray, List.set_cons_zero, List.set_cons_succ]
      refine wpAnyL_take (i := 11) (oi := _) (v := .int .u64 (lm y k)) rfl (by kernel_rfl) (by kernel_rfl) (by kernel_rfl) (by kernel_rfl) (fun _ _ _ h => (h : False).elim) (Or.inl ⟨by kernel_rfl, ?_⟩) (by assumption) ?_
      · intro w hSw
        obtain ⟨s0, s1, s2⟩ := hSw
        go_simp
      try simp only [List.getElem_toArray, List.getElem_cons_zero, List.getElem_cons_succ, Act.put, List.setIfInBounds_toArray, List.set_cons_zero, List.set_cons_succ]
      refine wpAnyL_any (i := 12) (oi := _) (v := .int .u64 (cya x y k)) rfl (by kernel_rfl) (by kernel_rfl) (by kernel_rfl) (by kernel_rfl) (fun _ _ _ h => (h : False).elim) (Or.inl ⟨by kernel_rfl, ?_⟩) (fun _ => by assumption) ?_
      · intro w _
        go_simp
      try simp only [List.getElem_toArray, List.getElem_cons_zero, List.getElem_cons_succ, Act.put, List.setIfInBounds_toArray, List.set_cons_zero, List.set_cons_succ]
      refine wpAnyL_next (i := 13) (by kernel_rfl) rfl (fun K hK => ?_)
      go_simp
      refine (wadd_calls _ _ _ (lm_isU x k) (lm_isU y k) (cya_ok x y k).1 (cya_ok x y k).2 _).mono ?_; rintro e w5 ⟨rfl, rfl⟩
      rw [add_lm, ← cya_succ]
      go_wp2_with fail
      refine hK.out _ _ ⟨s0, s1, s2⟩ (fun hHeld => ?_)
      clear hK K
      try simp only [List.getElem_toArray, List.getElem_cons_zero, List.getElem_cons_succ, Act.put, List.setIfInBounds_toArray, List.set_cons_zero, List.set_cons_succ]
      refine wpAnyL_any (i := 14) (oi := _) (v := .tuple #[.int .u64 (lm (x + y) k), .int .u64 (cya x y (k + 1))]) rfl (by kernel_rfl) (by kernel_rfl) (by kernel_rfl) (by kernel_rfl) (fun _ _ _ h => (h : False).elim) (Or.inl ⟨by kernel_rfl, ?_⟩) (fun _ => by assumption) ?_
      · intro w _
        go_simp
      try simp only [List.getElem_toArray, List.getElem_cons_zero, List.getElem_cons_succ, Act.put, List.setIfInBounds_toArray, List.set_cons_zero, List.set_cons_succ]
      refine wpAnyL_any (i := 15) (oi := _) (v := .int .u64 (lm (x + y) k)) rfl (by kernel_rfl) (by kernel_rfl) (by kernel_rfl) (by kernel_rfl) (fun _ _ _ h => (h : False).elim) (Or.inl ⟨by kernel_rfl, ?_⟩) (fun _ => by assumption) ?_
      · intro w _
        go_simp
      try simp only [List.getElem_toArray, List.getElem_cons_zero, List.getElem_cons_succ, Act.put, List.setIfInBounds_toArray, List.set_cons_zero, List.set_cons_succ]
      refine wpAnyL_any (i := 16) (oi := _) (v := .int .u64 (cya x y (k + 1))) rfl (by kernel_rfl) (by kernel_rfl) (by kernel_rfl) (by kernel_rfl) (fun _ _ _ h => (h : False).elim) (Or.inl ⟨by kernel_rfl, ?_⟩) (fun _ => by assumption) ?_
      · intro w _
        go_simp
      try simp only [List.getElem_toArray, List.getElem_cons_zero, List.getElem_cons_succ, Act.put, List.setIfInBounds_toArray, List.set_cons_zero, List.set_cons_succ]
      refine wpAnyL_any (i := 17) (oi := _) (v := .pointer (some ⟨g, k, none⟩)) rfl (by kernel_rfl) (by kernel_rfl) (by kernel_rfl) (by kernel_rfl) (fun _ _ _ h => (h : False).elim) (Or.inl ⟨by kernel_rfl, ?_⟩) (fun _ => by assumption) ?_
      · intro w _
        go_simp
      try simp only [List.getElem_toArray, List.getElem_cons_zero, List.getElem_cons_succ, Act.put, List.setIfInBounds_toArray, List.set_cons_zero, List.set_cons_succ]
      refine wpAnyL_late (i := 18) (by kernel_rfl) rfl (by kernel_rfl) (fun K hK => ?_)
      go_simp
      refine hK.out _ _ (fun _ => ?_)
      clear hK K
      try simp only [List.getElem_toArray, List.getElem_cons_zero, List.getElem_cons_succ, Act.put, List.setIfInBounds_toArray, List.set_cons_zero, List.set_cons_succ]
      refine wpAnyL_after (i := 19) (oi := _) (v := .int .u64 (cya x y (k + 1))) rfl (by kernel_rfl) (by kernel_rfl) (by kernel_rfl) (by kernel_rfl) (by kernel_rfl) (fun _ _ _ h => (h : False).elim) (Or.inl ⟨by kernel_rfl, ?_⟩) ?_
      · intro w _
        go_simp
      try simp only [List.getElem_toArray, List.getElem_cons_zero, List.getElem_cons_succ, Act.put, List.setIfInBounds_toArray, List.set_cons_zero, List.set_cons_succ]
      refine wpAnyL_done (by kernel_rfl) ?_ _
      refine NoPanic.normal ?_
      have Hk6 := Lib.hid ((HK.out.setCell ⟨g, k, none⟩ (fun _ => rfl) (.int .u64 (lm (x + y) k))).drewN 1)
      clear hS c0 c1 c2
      go_wp2
      go_roundw
      case rel => exact ⟨k + 1, by omega, by go_num, rfl, Hst.out, Hk6.out⟩
      case measure => simp [intOf]; omega
    · obtain rfl : k = m := by omega
      have Hr := Lib.hid hr
      have HK := Lib.hid hK
      clear hr hK hkw
      go_wp2
      go_ret
      have hr3 := Hr.out
      rw [mixU_all] at hr3
      obtain ⟨h1, _⟩ := wAt_row (l := limbs k (x + y)) (by rw [limbs_length]; exact hr3) (fun h => by have := congrArg List.length h; rw [limbs_length] at this; simp at this; omega)
      exact ⟨_, rfl, h1, hk2.trans HK.out (fun i hi h => by omega)⟩
set_option maxRecDepth 100000 in
set_option maxHeartbeats 4000000 in
theorem apply_sub (v u : Value) (m : Nat) (x y : Int) (hm1 : 1 ≤ m) (hm : m ≤ 8) (w : World) (hv : numAt w v m x) (hu : numAt w u m y) :
    Calls Tryz.prog 105 #[.agg #[.func (.func 131) #[] #[]], v, u, .int .u64 0] w (GivesNum w m (x - y)) := by
  obtain ⟨i0, hi, hz0, hz1, hz2⟩ := info_parts infoW
  have hmk := fun w => run_make (P := Tryz.prog) w 73 43 i0 (.int .u64 0) Tryz.underlying73 hi hz0 .i64 .i64 (m : Int) (m : Int) (by omega) (Int.le_refl _) (by rw [hz2]; omega) (by omega)
  rw [hz1] at hmk
  simp only [Int.toNat_natCast, Nat.mul_one] at hmk
  have hZ := made_zeros m
  generalize madeCells (Value.int IntKind.u64 0).cells m = Z at hmk hZ
  have HZ := Lib.hid hZ
  clear hZ hi hz0 hz1 hz2
  obtain ⟨ba, oa, ca, rfl, hba, hca⟩ := hv.cases
  obtain ⟨bb, ob, cb, rfl, hbb, hcb⟩ := hu.cases
  have HA := Lib.hid hca
  have HB := Lib.hid hcb
  have hka : Keeps (fun _ => False) w (w.alloc (.cells #[.func (.func 131) #[] #[]] 171)) := (Keeps.refl _ w).alloc _
  have hE0 := heap_alloc_new w (.cells #[.func (.func 131) #[] #[]] 171)
  clear hca hcb hv hu
  go_enter Tryz.func105, Tryz.ntmps105
  go_wp2_with fail
  refine (is_two' _ _ (w.alloc (.cells #[.func (.func 131) #[] #[]] 171)) _ _ (by simp) ⟨_, _, _, rfl, by omega, by omega⟩ ⟨_, _, _, rfl, by omega, by omega⟩ rfl).mono ?_; rintro e w1 ⟨rfl, rfl⟩
  obtain ⟨w1, hw1⟩ : ∃ w1, (w.alloc (.cells #[.func (.func 131) #[] #[]] 171)).alloc (.cells #[.slice (some ⟨ba, oa, none⟩) m ca, .slice (some ⟨bb, ob, none⟩) m cb] 73) = w1 := ⟨_, rfl⟩
  have hk1 : Keeps (fun _ => False) w w1 := by rw [← hw1]; exact hka.alloc _
  have hE1 : w1.heap[w.heap.size]? = some (.cells #[.func (.func 131) #[] #[]] 171 (0, 0)) := by rw [← hw1, Below.heap_alloc _ _ _ (by simp)]; exact hE0
  rw [hw1]
  clear hw1 hka hE0
  go_wp2_with (simp only [hmk])
  obtain ⟨w2, hw2⟩ : ∃ w2, w1.alloc (.cells Z 43) = w2 := ⟨_, rfl⟩
  obtain ⟨g, hg⟩ : ∃ g, w1.heap.size = g := ⟨_, rfl⟩
  have hElt := (Array.getElem?_eq_some_iff.1 hE1).1
  have hr2 : w2.ownsRow g 43 1 (.slice (some ⟨g, 0, none⟩) m m) m (wfl (mixU (x - y) m 0)) := by
    rw [mixU_zero, ← hw2]
    have := made_row w1 w1.heap.size m Z HZ.out (Nat.le_refl _) (by omega)
    rw [hg] at this
    exact this
  have hk2 : Keeps (fun _ => False) w w2 := by rw [← hw2]; exact hk1.alloc _
  have hE2 : w2.heap[w.heap.size]? = some (.cells #[.func (.func 131) #[] #[]] 171 (0, 0)) := by rw [← hw2, Below.heap_alloc _ _ _ hElt]; exact hE1
  have hwg : w.heap.size < g := by rw [← hg]; exact hElt
  have hg2 : g < w2.heap.size := by rw [← hw2, ← hg]; simp
  rw [hw2]
  try rw [hg]
  clear hw2 hE1 hk1 HZ hmk hg hElt
  go_loopw [3, 10, 28] (fun c _ i wr => ∃ k : Nat, k ≤ m ∧ i = .int .i64 k ∧ c = .int .u64 (cys x y k) ∧ wr.ownsRow g 43 1 (.slice (some ⟨g, 0, none⟩) m m) m (wfl (mixU (x - y) m k)) ∧ Keeps (fun j => j = g) w2 wr) (fun _ _ i _ => m - (intOf i).toNat)
  case atStart => exact ⟨0, Nat.zero_le _, rfl, by rw [cys_zero], hr2, Keeps.refl _ _⟩
  case round =>
    clear hr2
    obtain ⟨k, hk, rfl, rfl, hr, hK⟩ := hrel
    have hkw : Keeps (fun _ => False) w wr := hk2.trans hK (fun i hi h => by omega)
    by_cases hlt : k < m
    · have hlt' : (k : Int) < (m : Int) := by omega
      have hk0 : (0 : Int) ≤ (k : Int) := by omega
      have c0 : wr.cell? ⟨w.heap.size, 0, none⟩ = some (.func (.func 131) #[] #[]) := by
        have := (hK.block w.heap.size (Array.getElem?_eq_some_iff.1 hE2).1 (by omega)).trans hE2
        rw [cell_of_row _ _ _ _ _ _ this]; rfl
      have c1 := (hkw.cell (p := ⟨ba, oa + k, none⟩) hba (fun h => h)).trans (HA.out k hlt)
      have c2 := (hkw.cell (p := ⟨bb, ob + k, none⟩) hbb (fun h => h)).trans (HB.out k hlt)
      have hf := hr.frozenAt k
      have hp := (hr.cellAt k (by omega)).trans (wfl_get (l := mixU (x - y) m k) (i := k) (x := 0) (by unfold mixU; rw [List.getElem?_append_right (by rw [limbs_length]; omega), limbs_length, Nat.sub_self, List.getElem?_replicate, if_pos (by omega)]))
      have hst := (hr.stored k (.int .u64 (lm (x - y) k))).1
      rw [wfl_set, mixU_set hlt] at hst
      have Hst := Lib.hid hst
      have HK := Lib.hid hK
      clear hst hr hkw hK hE2 hk2
      go_wp2_with fail
      refine wp_region_late (fun W => W.cell? ⟨w.heap.size, 0, none⟩ = some (.func (.func 131) #[] #[]) ∧ W.cell? ⟨ba, oa + k, none⟩ = some (.int .u64 (lm x k)) ∧ W.cell? ⟨bb, ob + k, none⟩ = some (.int .u64 (lm y k))) [18] (by kernel_rfl) ?_
      have hS : wr.drew.cell? ⟨w.heap.size, 0, none⟩ = some (.func (.func 131) #[] #[]) ∧ wr.drew.cell? ⟨ba, oa + k, none⟩ = some (.int .u64 (lm x k)) ∧ wr.drew.cell? ⟨bb, ob + k, none⟩ = some (.int .u64 (lm y k)) := ⟨c0, c1, c2⟩
      obtain ⟨s0, s1, s2⟩ := id hS
      refine wpAnyL_any (i := 0) (oi := _) (v := .slice (some ⟨g, 0, none⟩) m m) rfl (by kernel_rfl) (by kernel_rfl) (by kernel_rfl) (by kernel_rfl) (fun _ _ _ h => (h : False).elim) (Or.inl ⟨by kernel_rfl, ?_⟩) (fun _ => by assumption) ?_
      · intro w _
        go_simp
      try simp only [List.getElem_toArray, List.getElem_cons_zero, List.getElem_cons_succ, Act.put, List.setIfInBounds_toArray, List.set_cons_zero, List.set_cons_succ]
      refine wpAnyL_any (i := 1) (oi := _) (v := .int .i64 (k : Int)) rfl (by kernel_rfl) (by kernel_rfl) (by kernel_rfl) (by kernel_rfl) (fun _ _ _ h => (h : False).elim) (Or.inl ⟨by kernel_rfl, ?_⟩) (fun _ => by assumption) ?_
      · intro w _
        go_simp
      try simp only [List.getElem_toArray, List.getElem_cons_zero, List.getElem_cons_succ, Act.put, List.setIfInBounds_toArray, List.set_cons_zero, List.set_cons_succ]
      refine wpAnyL_any (i := 2) (oi := _) (v := .pointer (some ⟨w.heap.size, 0, none⟩)) rfl (by kernel_rfl) (by kernel_rfl) (by kernel_rfl) (by kernel_rfl) (fun _ _ _ h => (h : False).elim) (Or.inl ⟨by kernel_rfl, ?_⟩) (fun _ => by assumption) ?_
      · intro w _
        go_simp
      try simp only [List.getElem_toArray, List.getElem_cons_zero, List.getElem_cons_succ, Act.put, List.setIfInBounds_toArray, List.set_cons_zero, List.set_cons_succ]
      refine wpAnyL_take (i := 3) (oi := _) (v := .func (.func 131) #[] #[]) rfl (by kernel_rfl) (by kernel_rfl) (by kernel_rfl) (by kernel_rfl) (fun _ _ _ h => (h : False).elim) (Or.inl ⟨by kernel_rfl, ?_⟩) (by assumption) ?_
      · intro w hSw
        obtain ⟨s0, s1, s2⟩ := hSw
        go_simp
      try simp only [List.getElem_toArray, List.getElem_cons_zero, List.getElem_cons_succ, Act.put, List.setIfInBounds_toArray, List.set_cons_zero, List.set_cons_succ]
      refine wpAnyL_any (i := 4) (oi := _) (v := .slice (some ⟨ba, oa, none⟩) m ca) rfl (by kernel_rfl) (by kernel_rfl) (by kernel_rfl) (by kernel_rfl) (fun _ _ _ h => (h : False).elim) (Or.inl ⟨by kernel_rfl, ?_⟩) (fun _ => by assumption) ?_
      · intro w _
        go_simp
      try simp only [List.getElem_toArray, List.getElem_cons_zero, List.getElem_cons_succ, Act.put, List.setIfInBounds_toArray, List.set_cons_zero, List.set_cons_succ]
      refine wpAnyL_any (i := 5) (oi := _) (v := .int .i64 (k : Int)) rfl (by kernel_rfl) (by kernel_rfl) (by kernel_rfl) (by kernel_rfl) (fun _ _ _ h => (h : False).elim) (Or.inl ⟨by kernel_rfl, ?_⟩) (fun _ => by assumption) ?_
      · intro w _
        go_simp
      try simp only [List.getElem_toArray, List.getElem_cons_zero, List.getElem_cons_succ, Act.put, List.setIfInBounds_toArray, List.set_cons_zero, List.set_cons_succ]
      refine wpAnyL_any (i := 6) (oi := _) (v := .pointer (some ⟨ba, oa + k, none⟩)) rfl (by kernel_rfl) (by kernel_rfl) (by kernel_rfl) (by kernel_rfl) (fun _ _ _ h => (h : False).elim) (Or.inl ⟨by kernel_rfl, ?_⟩) (fun _ => by assumption) ?_
      · intro w _
        go_simp
      try simp only [List.getElem_toArray, List.getElem_cons_zero, List.getElem_cons_succ, Act.put, List.setIfInBounds_toArray, List.set_cons_zero, List.set_cons_succ]
      refine wpAnyL_take (i := 7) (oi := _) (v := .int .u64 (lm x k)) rfl (by kernel_rfl) (by kernel_rfl) (by kernel_rfl) (by kernel_rfl) (fun _ _ _ h => (h : False).elim) (Or.inl ⟨by kernel_rfl, ?_⟩) (by assumption) ?_
      · intro w hSw
        obtain ⟨s0, s1, s2⟩ := hSw
        go_simp
      try simp only [List.getElem_toArray, List.getElem_cons_zero, List.getElem_cons_succ, Act.put, List.setIfInBounds_toArray, List.set_cons_zero, List.set_cons_succ]
      refine wpAnyL_any (i := 8) (oi := _) (v := .slice (some ⟨bb, ob, none⟩) m cb) rfl (by kernel_rfl) (by kernel_rfl) (by kernel_rfl) (by kernel_rfl) (fun _ _ _ h => (h : False).elim) (Or.inl ⟨by kernel_rfl, ?_⟩) (fun _ => by assumption) ?_
      · intro w _
        go_simp
      try simp only [List.getElem_toArray, List.getElem_cons_zero, List.getElem_cons_succ, Act.put, List.setIfInBounds_toArray, List.set_cons_zero, List.set_cons_succ]
      refine wpAnyL_any (i := 9) (oi := _) (v := .int .i64 (k : Int)) rfl (by kernel_rfl) (by kernel_rfl) (by kernel_rfl) (by kernel_rfl) (fun _ _ _ h => (h : False).elim) (Or.inl ⟨by kernel_rfl, ?_⟩) (fun _ => by assumption) ?_
      · intro w _
        go_simp
      try simp only [List.getElem_toArray, List.getElem_cons_zero, List.getElem_cons_succ, Act.put, List.setIfInBounds_toArray, List.set_cons_zero, List.set_cons_succ]
      refine wpAnyL_any (i := 10) (oi := _) (v := .pointer (some ⟨bb, ob + k, none⟩)) rfl (by kernel_rfl) (by kernel_rfl) (by kernel_rfl) (by kernel_rfl) (fun _ _ _ h => (h : False).elim) (Or.inl ⟨by kernel_rfl, ?_⟩) (fun _ => by assumption) ?_
      · intro w _
        go_simp
      try simp only [List.getElem_toArray, List.getElem_cons_zero, List.getElem_cons_succ, Act.put, List.setIfInBounds_toArray, List.set_cons_zero, List.set_cons_succ]
      refine wpAnyL_take (i := 11) (oi := _) (v := .int .u64 (lm y k)) rfl (by kernel_rfl) (by kernel_rfl) (by kernel_rfl) (by kernel_rfl) (fun _ _ _ h => (h : False).elim) (Or.inl ⟨by kernel_rfl, ?_⟩) (by assumption) ?_
      · intro w hSw
        obtain ⟨s0, s1, s2⟩ := hSw
        go_simp
      try simp only [List.getElem_toArray, List.getElem_cons_zero, List.getElem_cons_succ, Act.put, List.setIfInBounds_toArray, List.set_cons_zero, List.set_cons_succ]
      refine wpAnyL_any (i := 12) (oi := _) (v := .int .u64 (cys x y k)) rfl (by kernel_rfl) (by kernel_rfl) (by kernel_rfl) (by kernel_rfl) (fun _ _ _ h => (h : False).elim) (Or.inl ⟨by kernel_rfl, ?_⟩) (fun _ => by assumption) ?_
      · intro w _
        go_simp
      try simp only [List.getElem_toArray, List.getElem_cons_zero, List.getElem_cons_succ, Act.put, List.setIfInBounds_toArray, List.set_cons_zero, List.set_cons_succ]
      refine wpAnyL_next (i := 13) (by kernel_rfl) rfl (fun K hK => ?_)
      go_simp
      refine (wsub_calls _ _ _ (lm_isU x k) (lm_isU y k) (cys_ok x y k).1 (cys_ok x y k).2 _).mono ?_; rintro e w5 ⟨rfl, rfl⟩
      rw [sub_lm, ← cys_succ]
      go_wp2_with fail
      refine hK.out _ _ ⟨s0, s1, s2⟩ (fun hHeld => ?_)
      clear hK K
      try simp only [List.getElem_toArray, List.getElem_cons_zero, List.getElem_cons_succ, Act.put, List.setIfInBounds_toArray, List.set_cons_zero, List.set_cons_succ]
      refine wpAnyL_any (i := 14) (oi := _) (v := .tuple #[.int .u64 (lm (x - y) k), .int .u64 (cys x y (k + 1))]) rfl (by kernel_rfl) (by kernel_rfl) (by kernel_rfl) (by kernel_rfl) (fun _ _ _ h => (h : False).elim) (Or.inl ⟨by kernel_rfl, ?_⟩) (fun _ => by assumption) ?_
      · intro w _
        go_simp
      try simp only [List.getElem_toArray, List.getElem_cons_zero, List.getElem_cons_succ, Act.put, List.setIfInBounds_toArray, List.set_cons_zero, List.set_cons_succ]
      refine wpAnyL_any (i := 15) (oi := _) (v := .int .u64 (lm (x - y) k)) rfl (by kernel_rfl) (by kernel_rfl) (by kernel_rfl) (by kernel_rfl) (fun _ _ _ h => (h : False).elim) (Or.inl ⟨by kernel_rfl, ?_⟩) (fun _ => by assumption) ?_
      · intro w _
        go_simp
      try simp only [List.getElem_toArray, List.getElem_cons_zero, List.getElem_cons_succ, Act.put, List.setIfInBounds_toArray, List.set_cons_zero, List.set_cons_succ]
      refine wpAnyL_any (i := 16) (oi := _) (v := .int .u64 (cys x y (k + 1))) rfl (by kernel_rfl) (by kernel_rfl) (by kernel_rfl) (by kernel_rfl) (fun _ _ _ h => (h : False).elim) (Or.inl ⟨by kernel_rfl, ?_⟩) (fun _ => by assumption) ?_
      · intro w _
        go_simp
      try simp only [List.getElem_toArray, List.getElem_cons_zero, List.getElem_cons_succ, Act.put, List.setIfInBounds_toArray, List.set_cons_zero, List.set_cons_succ]
      refine wpAnyL_any (i := 17) (oi := _) (v := .pointer (some ⟨g, k, none⟩)) rfl (by kernel_rfl) (by kernel_rfl) (by kernel_rfl) (by kernel_rfl) (fun _ _ _ h => (h : False).elim) (Or.inl ⟨by kernel_rfl, ?_⟩) (fun _ => by assumption) ?_
      · intro w _
        go_simp
      try simp only [List.getElem_toArray, List.getElem_cons_zero, List.getElem_cons_succ, Act.put, List.setIfInBounds_toArray, List.set_cons_zero, List.set_cons_succ]
      refine wpAnyL_late (i := 18) (by kernel_rfl) rfl (by kernel_rfl) (fun K hK => ?_)
      go_simp
      refine hK.out _ _ (fun _ => ?_)
      clear hK K
      try simp only [List.getElem_toArray, List.getElem_cons_zero, List.getElem_cons_succ, Act.put, List.setIfInBounds_toArray, List.set_cons_zero, List.set_cons_succ]
      refine wpAnyL_after (i := 19) (oi := _) (v := .int .u64 (cys x y (k + 1))) rfl (by kernel_rfl) (by kernel_rfl) (by kernel_rfl) (by kernel_rfl) (by kernel_rfl) (fun _ _ _ h => (h : False).elim) (Or.inl ⟨by kernel_rfl, ?_⟩) ?_
      · intro w _
        go_simp
      try simp only [List.getElem_toArray, List.getElem_cons_zero, List.getElem_cons_succ, Act.put, List.setIfInBounds_toArray, List.set_cons_zero, List.set_cons_succ]
      refine wpAnyL_done (by kernel_rfl) ?_ _
      refine NoPanic.normal ?_
      have Hk6 := Lib.hid ((HK.out.setCell ⟨g, k, none⟩ (fun _ => rfl) (.int .u64 (lm (x - y) k))).drewN 1)
      clear hS c0 c1 c2
      go_wp2
      go_roundw
      case rel => exact ⟨k + 1, by omega, by go_num, rfl, Hst.out, Hk6.out⟩
      case measure => simp [intOf]; omega
    · obtain rfl : k = m := by omega
      have Hr := Lib.hid hr
      have HK := Lib.hid hK
      clear hr hK hkw
      go_wp2
      go_ret
      have hr3 := Hr.out
      rw [mixU_all] at hr3
      obtain ⟨h1, _⟩ := wAt_row (l := limbs k (x - y)) (by rw [limbs_length]; exact hr3) (fun h => by have := congrArg List.length h; rw [limbs_length] at this; simp at this; omega)
      exact ⟨_, rfl, h1, hk2.trans HK.out (fun i hi h => by omega)⟩
theorem ladd_calls (v u : Value) (m : Nat) (x y : Int) (hm1 : 1 ≤ m) (hm : m ≤ 8) (w : World) (hv : numAt w v m x) (hu : numAt w u m y) :
    Calls Tryz.prog 72 #[v, u] w (GivesNum w m (x + y)) := by
  obtain ⟨ba, oa, ca, rfl, hba, hca⟩ := hv.cases
  obtain ⟨bb, ob, cb, rfl, hbb, hcb⟩ := hu.cases
  have HV := Lib.hid hv
  have HU := Lib.hid hu
  clear hv hu hca hcb
  go_enter Tryz.func72, Tryz.ntmps72
  go_wp2_with fail
  refine (apply_add _ _ m x y hm1 hm w HV.out HU.out).mono ?_; rintro e w1 ⟨v', rfl, hv', hk'⟩
  go_wp2
  go_ret
  exact ⟨v', rfl, hv', hk'⟩
theorem lsub_calls (v u : Value) (m : Nat) (x y : Int) (hm1 : 1 ≤ m) (hm : m ≤ 8) (w : World) (hv : numAt w v m x) (hu : numAt w u m y) :
    Calls Tryz.prog 101 #[v, u] w (GivesNum w m (x - y)) := by
  obtain ⟨ba, oa, ca, rfl, hba, hca⟩ := hv.cases
  obtain ⟨bb, ob, cb, rfl, hbb, hcb⟩ := hu.cases
  have HV := Lib.hid hv
  have HU := Lib.hid hu
  clear hv hu hca hcb
  go_enter Tryz.func101, Tryz.ntmps101
  go_wp2_with fail
  refine (apply_sub _ _ m x y hm1 hm w HV.out HU.out).mono ?_; rintro e w1 ⟨v', rfl, hv', hk'⟩
  go_wp2
  go_ret
  exact ⟨v', rfl, hv', hk'⟩
set_option maxRecDepth 100000 in
set_option maxHeartbeats 4000000 in
theorem lmul_calls (v u : Value) (m1 m2 : Nat) (x y : Int) (hm : m1 + 1 + (m2 + 1) ≤ 8) (w : World) (hv : numAt w v (m1 + 1) x) (hu : numAt w u (m2 + 1) y) (hx : Fit (m1 + 1) x) (hy : Fit (m2 + 1) y) :
    Calls Tryz.prog 73 #[v, u] w (GivesNum w (m1 + 1 + (m2 + 1)) (x * y)) := by
  obtain ⟨n, hn⟩ : ∃ n, m1 + 1 + (m2 + 1) = n := ⟨_, rfl⟩
  have hnI : (m1 : Int) + 1 + ((m2 : Int) + 1) = (n : Int) := by omega
  rw [hn] at hm ⊢
  have hn1 : 1 ≤ n := by omega
  have HN := Lib.hid hn
  obtain ⟨i0, hi, hz0, hz1, hz2⟩ := info_parts infoW
  have hmk := fun w => run_make (P := Tryz.prog) w 73 43 i0 (.int .u64 0) Tryz.underlying73 hi hz0 .i64 .i64 (n : Int) (n : Int) (by omega) (Int.le_refl _) (by rw [hz2]; omega) (by omega)
  rw [hz1] at hmk
  simp only [Int.toNat_natCast, Nat.mul_one] at hmk
  have hZ := made_zeros n
  generalize madeCells (Value.int IntKind.u64 0).cells n = Z at hmk hZ
  have HZ := Lib.hid hZ
  clear hZ hi hz0 hz1 hz2
  obtain ⟨ba, oa, ca, rfl, hba, _⟩ := hv.cases
  obtain ⟨bb, ob, cb, rfl, hbb, _⟩ := hu.cases
  have HV := Lib.hid hv
  have HU := Lib.hid hu
  have h8 : ¬ (n : Int) > 8 := by omega
  have FX := Lib.hid hx
  have FY := Lib.hid hy
  clear hv hu hn hx hy
  go_enter Tryz.func73, Tryz.ntmps73
  go_wp2_with fail
  refine (is_two _ _ w _ ⟨_, _, _, rfl, by have := HN.out; omega, by have := HN.out; omega⟩ ⟨_, _, _, rfl, by have := HN.out; omega, by have := HN.out; omega⟩ rfl).mono ?_; rintro e w1 ⟨rfl, rfl⟩
  obtain ⟨w1, hw1⟩ : ∃ w1, w.alloc (.cells #[.slice (some ⟨ba, oa, none⟩) (m1 + 1) ca, .slice (some ⟨bb, ob, none⟩) (m2 + 1) cb] 73) = w1 := ⟨_, rfl⟩
  have hk1 : Keeps (fun _ => False) w w1 := by rw [← hw1]; exact (Keeps.refl _ w).alloc _
  rw [hw1]
  clear hw1
  go_wp2_with fail
  refine (extend_calls _ m1 n x (by have := HN.out; omega) (by omega) (by omega) (.inr FX.out) w1 (HV.out.kept hk1)).mono ?_; rintro e w2 ⟨vx, rfl, hvx, hk2⟩
  have hk2 := knil hk1 hk2
  go_wp2_with fail
  refine (extend_calls _ m2 n y (by have := HN.out; omega) (by omega) (by omega) (.inr FY.out) w2 (HU.out.kept hk2)).mono ?_; rintro e w3 ⟨vy, rfl, hvy, hk3⟩
  have hvx3 := hvx.kept hk3
  have hk3 := knil hk2 hk3
  obtain ⟨bx, ox, cx, rfl, hbx, hcx⟩ := hvx3.cases
  obtain ⟨by_, oy, cy, rfl, hby, hcy⟩ := hvy.cases
  have HX := Lib.hid hcx
  have HY := Lib.hid hcy
  clear hvx hvx3 hvy hcx hcy hk1 hk2
  go_wp2_with (simp only [hmk])
  obtain ⟨w4, hw4⟩ : ∃ w4, w3.alloc (.cells Z 43) = w4 := ⟨_, rfl⟩
  obtain ⟨g, hg⟩ : ∃ g, w3.heap.size = g := ⟨_, rfl⟩
  have hr4 : w4.ownsRow g 43 1 (.slice (some ⟨g, 0, none⟩) n n) n (wfl (List.replicate n 0)) := by
    rw [← hw4]
    have := made_row w3 w3.heap.size n Z HZ.out (Nat.le_refl _) (by omega)
    rw [hg] at this
    exact this
  have hk4 : Keeps (fun _ => False) w w4 := by rw [← hw4]; exact hk3.alloc _
  have hk34 : Keeps (fun _ => False) w3 w4 := by rw [← hw4]; exact (Keeps.refl _ w3).alloc _
  have hwg : w.heap.size ≤ g := by rw [← hg]; exact hk3.size
  have hg4 : g < w4.heap.size := by rw [← hw4, ← hg]; simp
  have HX4 : RowKit.Hid (∀ i, i < n → w4.cell? ⟨bx, ox + i, none⟩ = some (.int .u64 (lm x i))) := Lib.hid (fun i hi => (hk34.cell (p := ⟨bx, ox + i, none⟩) hbx (fun h => h)).trans (HX.out i hi))
  have HY4 : RowKit.Hid (∀ i, i < n → w4.cell? ⟨by_, oy + i, none⟩ = some (.int .u64 (lm y i))) := Lib.hid (fun i hi => (hk34.cell (p := ⟨by_, oy + i, none⟩) hby (fun h => h)).trans (HY.out i hi))
  rw [hg] at hbx hby
  rw [hw4]
  try rw [hg]
  clear hw4 HZ hmk hg hk34 hk3 HX HY
  have HM0 := Lib.hid (mulInv_start x y n)
  go_loopw [9, 10, 11, 35] (fun _ _ _ i wr => ∃ (k : Nat) (out : List Int), k ≤ n ∧ i = .int .i64 k ∧ RowKit.Hid (MulInv x y n k 0 out 0) ∧ wr.ownsRow g 43 1 (.slice (some ⟨g, 0, none⟩) n n) n (wfl out) ∧ Keeps (fun j => j = g) w4 wr) (fun _ _ _ i _ => n - (intOf i).toNat)
  case atStart => exact ⟨0, _, Nat.zero_le _, rfl, HM0, hr4, Keeps.refl _ _⟩
  case round =>
    clear hr4 HM0
    obtain ⟨i, out, hin, rfl, HM, hr, hK⟩ := hrel
    by_cases hlt : i < n
    · have hlt' : (i : Int) < (n : Int) := by omega
      have hi0 : (0 : Int) ≤ (i : Int) := by omega
      have hcx := (hK.cell (p := ⟨bx, ox + i, none⟩) (Nat.lt_trans hbx hg4) (by show ¬ bx = g; omega)).trans (HX4.out i hlt)
      have HCX := Lib.hid hcx
      obtain ⟨d, hd⟩ : ∃ d, n - i = d := ⟨_, rfl⟩
      have hdI : (n : Int) - (i : Int) = (d : Int) := by omega
      have HD := Lib.hid hd
      clear hcx hd
      go_wp2_with fail
      go_loopw [10, 11, 41] (fun c _ jv wr2 => ∃ (j : Nat) (o2 : List Int) (cc : Int), j ≤ d ∧ jv = .int .i64 j ∧ c = .int .u64 cc ∧ RowKit.Hid (MulInv x y n i j o2 cc) ∧ wr2.ownsRow g 43 1 (.slice (some ⟨g, 0, none⟩) n n) n (wfl o2) ∧ Keeps (fun j => j = g) w4 wr2) (fun _ _ jv _ => d - (intOf jv).toNat)
      case atStart => exact ⟨0, out, 0, Nat.zero_le _, rfl, rfl, HM, hr, hK⟩
      case round =>
        clear hr hK HM
        obtain ⟨j, o2, c, hjd, rfl, rfl, HM, hr, hK⟩ := hrel
        by_cases hjt : j < d
        · have hjt' : (j : Int) < (d : Int) := by omega
          have hj0 : (0 : Int) ≤ (j : Int) := by omega
          obtain ⟨q, hq⟩ : ∃ q, i + j = q := ⟨_, rfl⟩
          have hqI : (i : Int) + (j : Int) = (q : Int) := by omega
          have hqn : q < n := by have := HD.out; omega
          have hqn' : (q : Int) < (n : Int) := by omega
          have hq0 : (0 : Int) ≤ (q : Int) := by omega
          have hqw : IntKind.i64.wrap (q : Int) = (q : Int) := by rw [IntKind.wrap_i64]; omega
          have hjn : j < n := by omega
          have hjn' : (j : Int) < (n : Int) := by omega
          obtain ⟨o, ho⟩ : ∃ o, o2[q]? = some o := ⟨o2[q]'(by rw [HM.out.1]; exact hqn), List.getElem?_eq_getElem _⟩
          have hoU := Lib.hid (HM.out.2.1 o (List.mem_of_getElem? ho))
          have hcU := Lib.hid HM.out.2.2.1
          obtain ⟨hi, hhi⟩ : ∃ hi, (lm x i * lm y j + o + c) / 18446744073709551616 = hi := ⟨_, rfl⟩
          obtain ⟨lo, hlo⟩ : ∃ lo, (lm x i * lm y j + o + c) % 18446744073709551616 = lo := ⟨_, rfl⟩
          have hloU : IsU lo := by rw [← hlo]; unfold IsU; omega
          have hhiU : IsU hi := by
            rw [← hhi]
            have := (muladd_num (lm_isU x i) (lm_isU y j) hoU.out hcU.out)
            have a1 := hoU.out
            have a2 := hcU.out
            unfold IsU at a1 a2 ⊢
            omega
          have HM2 := Lib.hid (mulInv_step HM.out (by rw [hq]; exact ho) hloU hhiU (by rw [← hhi, ← hlo]; omega))
          rw [hq] at HM2
          have c0 := (hK.cell (p := ⟨bx, ox + i, none⟩) (Nat.lt_trans hbx hg4) (by show ¬ bx = g; omega)).trans (HX4.out i hlt)
          have c1 := (hK.cell (p := ⟨by_, oy + j, none⟩) (Nat.lt_trans hby hg4) (by show ¬ by_ = g; omega)).trans (HY4.out j hjn)
          have hf := hr.frozenAt q
          have hp := (hr.cellAt q (by omega)).trans (wfl_get ho)
          have hst := (hr.stored q (.int .u64 lo)).1
          rw [wfl_set] at hst
          have Hst := Lib.hid hst
          have HK := Lib.hid hK
          have Ho := Lib.hid ho
          have Hhi := Lib.hid hhi
          have Hlo := Lib.hid hlo
          clear hst hr hK ho hloU hhiU hk4 HM HCX hq hhi hlo
          go_wp2_with fail
          refine wp_region_late (fun W => W.cell? ⟨bx, ox + i, none⟩ = some (.int .u64 (lm x i)) ∧ W.cell? ⟨by_, oy + j, none⟩ = some (.int .u64 (lm y j)) ∧ W.cell? ⟨g, q, none⟩ = some (.int .u64 o)) [25] (by kernel_rfl) ?_
          have hS : wr.drew.cell? ⟨bx, ox + i, none⟩ = some (.int .u64 (lm x i)) ∧ wr.drew.cell? ⟨by_, oy + j, none⟩ = some (.int .u64 (lm y j)) ∧ wr.drew.cell? ⟨g, q, none⟩ = some (.int .u64 o) := ⟨c0, c1, hp⟩
          obtain ⟨s0, s1, s2⟩ := id hS
          refine wpAnyL_any (i := 0) (oi := _) (v := .slice (some ⟨g, 0, none⟩) n n) rfl (by kernel_rfl) (by kernel_rfl) (by kernel_rfl) (by kernel_rfl) (fun _ _ _ h => (h : False).elim) (Or.inl ⟨by kernel_rfl, ?_⟩) (fun _ => by assumption) ?_
          · intro w _
            go_simp
          try simp only [List.getElem_toArray, List.getElem_cons_zero, List.getElem_cons_succ, Act.put, List.setIfInBounds_toArray, List.set_cons_zero, List.set_cons_succ]
          refine wpAnyL_any (i := 1) (oi := _) (v := .int .i64 (i : Int)) rfl (by kernel_rfl) (by kernel_rfl) (by kernel_rfl) (by kernel_rfl) (fun _ _ _ h => (h : False).elim) (Or.inl ⟨by kernel_rfl, ?_⟩) (fun _ => by assumption) ?_
          · intro w _
            go_simp
          try simp only [List.getElem_toArray, List.getElem_cons_zero, List.getElem_cons_succ, Act.put, List.setIfInBounds_toArray, List.set_cons_zero, List.set_cons_succ]
          refine wpAnyL_any (i := 2) (oi := _) (v := .int .i64 (j : Int)) rfl (by kernel_rfl) (by kernel_rfl) (by kernel_rfl) (by kernel_rfl) (fun _ _ _ h => (h : False).elim) (Or.inl ⟨by kernel_rfl, ?_⟩) (fun _ => by assumption) ?_
          · intro w _
            go_simp
          try simp only [List.getElem_toArray, List.getElem_cons_zero, List.getElem_cons_succ, Act.put, List.setIfInBounds_toArray, List.set_cons_zero, List.set_cons_succ]
          refine wpAnyL_any (i := 3) (oi := _) (v := .int .i64 (q : Int)) rfl (by kernel_rfl) (by kernel_rfl) (by kernel_rfl) (by kernel_rfl) (fun _ _ _ h => (h : False).elim) (Or.inl ⟨by kernel_rfl, ?_⟩) (fun _ => by assumption) ?_
          · intro w _
            go_simp
          try simp only [List.getElem_toArray, List.getElem_cons_zero, List.getElem_cons_succ, Act.put, List.setIfInBounds_toArray, List.set_cons_zero, List.set_cons_succ]
          refine wpAnyL_any (i := 4) (oi := _) (v := .slice (some ⟨bx, ox, none⟩) n cx) rfl (by kernel_rfl) (by kernel_rfl) (by kernel_rfl) (by kernel_rfl) (fun _ _ _ h => (h : False).elim) (Or.inl ⟨by kernel_rfl, ?_⟩) (fun _ => by assumption) ?_
          · intro w _
            go_simp
          try simp only [List.getElem_toArray, List.getElem_cons_zero, List.getElem_cons_succ, Act.put, List.setIfInBounds_toArray, List.set_cons_zero, List.set_cons_succ]
          refine wpAnyL_any (i := 5) (oi := _) (v := .int .i64 (i : Int)) rfl (by kernel_rfl) (by kernel_rfl) (by kernel_rfl) (by kernel_rfl) (fun _ _ _ h => (h : False).elim) (Or.inl ⟨by kernel_rfl, ?_⟩) (fun _ => by assumption) ?_
          · intro w _
            go_simp
          try simp only [List.getElem_toArray, List.getElem_cons_zero, List.getElem_cons_succ, Act.put, List.setIfInBounds_toArray, List.set_cons_zero, List.set_cons_succ]
          refine wpAnyL_any (i := 6) (oi := _) (v := .pointer (some ⟨bx, ox + i, none⟩)) rfl (by kernel_rfl) (by kernel_rfl) (by kernel_rfl) (by kernel_rfl) (fun _ _ _ h => (h : False).elim) (Or.inl ⟨by kernel_rfl, ?_⟩) (fun _ => by assumption) ?_
          · intro w _
            go_simp
          try simp only [List.getElem_toArray, List.getElem_cons_zero, List.getElem_cons_succ, Act.put, List.setIfInBounds_toArray, List.set_cons_zero, List.set_cons_succ]
          refine wpAnyL_take (i := 7) (oi := _) (v := .int .u64 (lm x i)) rfl (by kernel_rfl) (by kernel_rfl) (by kernel_rfl) (by kernel_rfl) (fun _ _ _ h => (h : False).elim) (Or.inl ⟨by kernel_rfl, ?_⟩) (by assumption) ?_
          · intro w hSw
            obtain ⟨s0, s1, s2⟩ := hSw
            go_simp
          try simp only [List.getElem_toArray, List.getElem_cons_zero, List.getElem_cons_succ, Act.put, List.setIfInBounds_toArray, List.set_cons_zero, List.set_cons_succ]
          refine wpAnyL_any (i := 8) (oi := _) (v := .slice (some ⟨by_, oy, none⟩) n cy) rfl (by kernel_rfl) (by kernel_rfl) (by kernel_rfl) (by kernel_rfl) (fun _ _ _ h => (h : False).elim) (Or.inl ⟨by kernel_rfl, ?_⟩) (fun _ => by assumption) ?_
          · intro w _
            go_simp
          try simp only [List.getElem_toArray, List.getElem_cons_zero, List.getElem_cons_succ, Act.put, List.setIfInBounds_toArray, List.set_cons_zero, List.set_cons_succ]
          refine wpAnyL_any (i := 9) (oi := _) (v := .int .i64 (j : Int)) rfl (by kernel_rfl) (by kernel_rfl) (by kernel_rfl) (by kernel_rfl) (fun _ _ _ h => (h : False).elim) (Or.inl ⟨by kernel_rfl, ?_⟩) (fun _ => by assumption) ?_
          · intro w _
            go_simp
          try simp only [List.getElem_toArray, List.getElem_cons_zero, List.getElem_cons_succ, Act.put, List.setIfInBounds_toArray, List.set_cons_zero, List.set_cons_succ]
          refine wpAnyL_any (i := 10) (oi := _) (v := .pointer (some ⟨by_, oy + j, none⟩)) rfl (by kernel_rfl) (by kernel_rfl) (by kernel_rfl) (by kernel_rfl) (fun _ _ _ h => (h : False).elim) (Or.inl ⟨by kernel_rfl, ?_⟩) (fun _ => by assumption) ?_
          · intro w _
            go_simp
          try simp only [List.getElem_toArray, List.getElem_cons_zero, List.getElem_cons_succ, Act.put, List.setIfInBounds_toArray, List.set_cons_zero, List.set_cons_succ]
          refine wpAnyL_take (i := 11) (oi := _) (v := .int .u64 (lm y j)) rfl (by kernel_rfl) (by kernel_rfl) (by kernel_rfl) (by kernel_rfl) (fun _ _ _ h => (h : False).elim) (Or.inl ⟨by kernel_rfl, ?_⟩) (by assumption) ?_
          · intro w hSw
            obtain ⟨s0, s1, s2⟩ := hSw
            go_simp
          try simp only [List.getElem_toArray, List.getElem_cons_zero, List.getElem_cons_succ, Act.put, List.setIfInBounds_toArray, List.set_cons_zero, List.set_cons_succ]
          refine wpAnyL_any (i := 12) (oi := _) (v := .slice (some ⟨g, 0, none⟩) n n) rfl (by kernel_rfl) (by kernel_rfl) (by kernel_rfl) (by kernel_rfl) (fun _ _ _ h => (h : False).elim) (Or.inl ⟨by kernel_rfl, ?_⟩) (fun _ => by assumption) ?_
          · intro w _
            go_simp
          try simp only [List.getElem_toArray, List.getElem_cons_zero, List.getElem_cons_succ, Act.put, List.setIfInBounds_toArray, List.set_cons_zero, List.set_cons_succ]
          refine wpAnyL_any (i := 13) (oi := _) (v := .int .i64 (i : Int)) rfl (by kernel_rfl) (by kernel_rfl) (by kernel_rfl) (by kernel_rfl) (fun _ _ _ h => (h : False).elim) (Or.inl ⟨by kernel_rfl, ?_⟩) (fun _ => by assumption) ?_
          · intro w _
            go_simp
          try simp only [List.getElem_toArray, List.getElem_cons_zero, List.getElem_cons_succ, Act.put, List.setIfInBounds_toArray, List.set_cons_zero, List.set_cons_succ]
          refine wpAnyL_any (i := 14) (oi := _) (v := .int .i64 (j : Int)) rfl (by kernel_rfl) (by kernel_rfl) (by kernel_rfl) (by kernel_rfl) (fun _ _ _ h => (h : False).elim) (Or.inl ⟨by kernel_rfl, ?_⟩) (fun _ => by assumption) ?_
          · intro w _
            go_simp
          try simp only [List.getElem_toArray, List.getElem_cons_zero, List.getElem_cons_succ, Act.put, List.setIfInBounds_toArray, List.set_cons_zero, List.set_cons_succ]
          refine wpAnyL_any (i := 15) (oi := _) (v := .int .i64 (q : Int)) rfl (by kernel_rfl) (by kernel_rfl) (by kernel_rfl) (by kernel_rfl) (fun _ _ _ h => (h : False).elim) (Or.inl ⟨by kernel_rfl, ?_⟩) (fun _ => by assumption) ?_
          · intro w _
            go_simp
          try simp only [List.getElem_toArray, List.getElem_cons_zero, List.getElem_cons_succ, Act.put, List.setIfInBounds_toArray, List.set_cons_zero, List.set_cons_succ]
          refine wpAnyL_any (i := 16) (oi := _) (v := .pointer (some ⟨g, q, none⟩)) rfl (by kernel_rfl) (by kernel_rfl) (by kernel_rfl) (by kernel_rfl) (fun _ _ _ h => (h : False).elim) (Or.inl ⟨by kernel_rfl, ?_⟩) (fun _ => by assumption) ?_
          · intro w _
            go_simp
          try simp only [List.getElem_toArray, List.getElem_cons_zero, List.getElem_cons_succ, Act.put, List.setIfInBounds_toArray, List.set_cons_zero, List.set_cons_succ]
          refine wpAnyL_take (i := 17) (oi := _) (v := .int .u64 o) rfl (by kernel_rfl) (by kernel_rfl) (by kernel_rfl) (by kernel_rfl) (fun _ _ _ h => (h : False).elim) (Or.inl ⟨by kernel_rfl, ?_⟩) (by assumption) ?_
          · intro w hSw
            obtain ⟨s0, s1, s2⟩ := hSw
            go_simp
          try simp only [List.getElem_toArray, List.getElem_cons_zero, List.getElem_cons_succ, Act.put, List.setIfInBounds_toArray, List.set_cons_zero, List.set_cons_succ]
          refine wpAnyL_any (i := 18) (oi := _) (v := .int .u64 c) rfl (by kernel_rfl) (by kernel_rfl) (by kernel_rfl) (by kernel_rfl) (fun _ _ _ h => (h : False).elim) (Or.inl ⟨by kernel_rfl, ?_⟩) (fun _ => by assumption) ?_
          · intro w _
            go_simp
          try simp only [List.getElem_toArray, List.getElem_cons_zero, List.getElem_cons_succ, Act.put, List.setIfInBounds_toArray, List.set_cons_zero, List.set_cons_succ]
          refine wpAnyL_next (i := 19) (by kernel_rfl) rfl (fun K hK => ?_)
          go_simp
          refine (muladd_calls _ _ _ _ (lm_isU x i) (lm_isU y j) hoU.out hcU.out _).mono ?_; rintro e w5 ⟨rfl, rfl⟩
          rw [Hhi.out, Hlo.out]
          go_wp2_with fail
          refine hK.out _ _ ⟨s0, s1, s2⟩ (fun hHeld => ?_)
          clear hK K
          try simp only [List.getElem_toArray, List.getElem_cons_zero, List.getElem_cons_succ, Act.put, List.setIfInBounds_toArray, List.set_cons_zero, List.set_cons_succ]
          refine wpAnyL_any (i := 20) (oi := _) (v := .tuple #[.int .u64 hi, .int .u64 lo]) rfl (by kernel_rfl) (by kernel_rfl) (by kernel_rfl) (by kernel_rfl) (fun _ _ _ h => (h : False).elim) (Or.inl ⟨by kernel_rfl, ?_⟩) (fun _ => by assumption) ?_
          · intro w _
            go_simp
          try simp only [List.getElem_toArray, List.getElem_cons_zero, List.getElem_cons_succ, Act.put, List.setIfInBounds_toArray, List.set_cons_zero, List.set_cons_succ]
          refine wpAnyL_any (i := 21) (oi := _) (v := .int .u64 hi) rfl (by kernel_rfl) (by kernel_rfl) (by kernel_rfl) (by kernel_rfl) (fun _ _ _ h => (h : False).elim) (Or.inl ⟨by kernel_rfl, ?_⟩) (fun _ => by assumption) ?_
          · intro w _
            go_simp
          try simp only [List.getElem_toArray, List.getElem_cons_zero, List.getElem_cons_succ, Act.put, List.setIfInBounds_toArray, List.set_cons_zero, List.set_cons_succ]
          refine wpAnyL_any (i := 22) (oi := _) (v := .int .u64 lo) rfl (by kernel_rfl) (by kernel_rfl) (by kernel_rfl) (by kernel_rfl) (fun _ _ _ h => (h : False).elim) (Or.inl ⟨by kernel_rfl, ?_⟩) (fun _ => by assumption) ?_
          · intro w _
            go_simp
          try simp only [List.getElem_toArray, List.getElem_cons_zero, List.getElem_cons_succ, Act.put, List.setIfInBounds_toArray, List.set_cons_zero, List.set_cons_succ]
          refine wpAnyL_any (i := 23) (oi := _) (v := .int .u64 hi) rfl (by kernel_rfl) (by kernel_rfl) (by kernel_rfl) (by kernel_rfl) (fun _ _ _ h => (h : False).elim) (Or.inl ⟨by kernel_rfl, ?_⟩) (fun _ => by assumption) ?_
          · intro w _
            go_simp
          try simp only [List.getElem_toArray, List.getElem_cons_zero, List.getElem_cons_succ, Act.put, List.setIfInBounds_toArray, List.set_cons_zero, List.set_cons_succ]
          refine wpAnyL_any (i := 24) (oi := _) (v := .pointer (some ⟨g, q, none⟩)) rfl (by kernel_rfl) (by kernel_rfl) (by kernel_rfl) (by kernel_rfl) (fun _ _ _ h => (h : False).elim) (Or.inl ⟨by kernel_rfl, ?_⟩) (fun _ => by assumption) ?_
          · intro w _
            go_simp
          try simp only [List.getElem_toArray, List.getElem_cons_zero, List.getElem_cons_succ, Act.put, List.setIfInBounds_toArray, List.set_cons_zero, List.set_cons_succ]
          refine wpAnyL_late (i := 25) (by kernel_rfl) rfl (by kernel_rfl) (fun K hK => ?_)
          go_simp
          refine hK.out _ _ (fun _ => ?_)
          clear hK K
          try simp only [List.getElem_toArray, List.getElem_cons_zero, List.getElem_cons_succ, Act.put, List.setIfInBounds_toArray, List.set_cons_zero, List.set_cons_succ]
          refine wpAnyL_done (by kernel_rfl) ?_ _
          refine NoPanic.normal ?_
          have Hk6 := Lib.hid ((HK.out.setCell ⟨g, q, none⟩ (fun _ => rfl) (.int .u64 lo)).drewN 1)
          clear hS c0 c1 hp s0 s1 s2
          go_wp2
          go_roundw
          case rel => exact ⟨j + 1, _, hi, by omega, by go_num, rfl, HM2, Hst.out, Hk6.out⟩
          case measure => simp [intOf]; omega
        · obtain rfl : j = d := by omega
          have Hr := Lib.hid hr
          have HK := Lib.hid hK
          have HM2 := Lib.hid (mulInv_row HM.out (by have := HD.out; omega))
          clear hr hK hk4
          go_wp2
          go_roundw
          case rel => exact ⟨i + 1, o2, by omega, by go_num, HM2, Hr.out, HK.out⟩
          case measure => simp [intOf]; omega
    · obtain rfl : i = n := by omega
      have Hr := Lib.hid hr
      have HK := Lib.hid hK
      have he := mulInv_end (j := 0) HM.out
      clear hr hK
      go_wp2
      go_ret
      have hr3 := Hr.out
      rw [he] at hr3
      obtain ⟨h1, _⟩ := wAt_row (l := limbs i (x * y)) (by rw [limbs_length]; exact hr3) (fun h => by have := congrArg List.length h; rw [limbs_length] at this; simp at this; omega)
      exact ⟨_, rfl, h1, hk4.trans HK.out (fun i hi h => by omega)⟩
end Go.Proofs.YtmoajobnhiopiaaGreatDoor.lm
