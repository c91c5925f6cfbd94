/- Sums, differences and comparisons of digits, by walking their text. -/
import Derived.Test.YtmoajobnhiopiaaGreatDoorNumW
set_option linter.unusedSimpArgs false
set_option linter.unusedVariables false
namespace Go.Proofs.YtmoajobnhiopiaaGreatDoor.nb
open Go Go.RowKit Go.Shelf Go.Maps Go.Proofs.YtmoajobnhiopiaaGreatDoor.mk Go.Proofs.YtmoajobnhiopiaaGreatDoor.tp Go.Proofs.YtmoajobnhiopiaaGreatDoor.rg Go.Proofs.YtmoajobnhiopiaaGreatDoor.lm Go.Proofs.YtmoajobnhiopiaaGreatDoor.gm

/-- The call returns digits. -/
def GivesD (w : World) (n : Nat) (x : Int) (e : Ending) (w' : World) : Prop := ∃ v' l', e = .returned v' ∧ dAt w' v' l' ∧ Digs l' ∧ dv l' = x ∧ l'.length ≤ n ∧ Keeps (fun _ => False) w w'
theorem dAt_fin {w : World} {base : Nat} {v : Value} {l : List Int} {n : Nat} (h : w.ownsRow base 3 1 v n (dfl l)) (hn : l.length = n) : dAt w v l := dAt_row h hn.symm
theorem own_shape {w : World} {base : Nat} {v : Value} {n : Nat} {l : List Value} (h : w.ownsRow base 3 1 v n l) : ∃ ao cap, v = .slice ao n cap := by
  rcases h.2 with ⟨rfl, h0⟩ | ⟨g, cap, cur, rfl, _⟩
  · exact ⟨none, 0, by rw [h0]⟩
  · exact ⟨_, _, rfl⟩
theorem len_snoc {l : List Int} {k : Nat} {d : Int} (h : l.length = k) : (l ++ [d]).length = k + 1 := by rw [List.length_append, h]; rfl
theorem add_none {l : List Int} {k : Nat} (h : ¬ k < l.length) : dg l k = 0 := dg_none (by omega)

set_option maxRecDepth 100000 in
set_option maxHeartbeats 4000000 in
theorem addD_calls (va vb : Value) (a b : List Int) (N : Nat) (ha : a.length ≤ N) (hb : b.length ≤ N) (hN : N ≤ 900) (da : Digs a) (db : Digs b) (w : World) (hva : dAt w va a) (hvb : dAt w vb b) :
    Calls Tryz.prog 108 #[va, vb] w (GivesD w (N + 1) (dv a + dv b)) := by
  obtain ⟨i0, hi, hz0, hz1, hz2⟩ := info_parts infoD
  obtain ⟨aa, ca, rfl⟩ := hva.shape
  obtain ⟨ab, cb, rfl⟩ := hvb.shape
  have HA := Lib.hid hva
  have HB := Lib.hid hvb
  have HDA := Lib.hid da
  have HDB := Lib.hid db
  clear hva hvb da db
  have hrow : w.ownsRow w.heap.size 3 1 (.slice none 0 0) 0 (dfl []) := World.ownsRow_nil ..
  obtain ⟨B, hB⟩ : ∃ B, B = w.heap.size := ⟨_, rfl⟩
  rw [← hB] at hrow
  have hBw : w.heap.size ≤ B := Nat.le_of_eq hB.symm
  have hB0 : B ≤ w.heap.size := Nat.le_of_eq hB
  clear hB
  go_enter Tryz.func108, Tryz.ntmps108
  go_wp2
  go_loopw [5, 6, 7, 8] (fun v' cv i _ wr => ∃ (k : Nat) (out : List Int) (c : Int), k ≤ N + 1 ∧ i = .int .i64 k ∧ cv = .int .i64 c ∧ RowKit.Hid (Digs out ∧ (0 ≤ c ∧ c ≤ 1) ∧ dv out + c * pd k = dt a k + dt b k) ∧ RowKit.Hid (out.length = k) ∧ wr.ownsRow B 3 1 v' k (dfl out) ∧ Keeps (fun _ => False) w wr ∧ B ≤ wr.heap.size ∧ RowKit.Hid (k = N + 1 → c = 0)) (fun _ _ i _ _ => N + 2 - (intOf i).toNat)
  case atStart => exact ⟨0, [], 0, by omega, rfl, rfl, ⟨fun _ h => (List.not_mem_nil h).elim, by omega, by simp [dv, dt_zero]⟩, rfl, hrow, Keeps.refl _ _, by omega, fun h => by omega⟩
  case round =>
    clear hrow
    obtain ⟨k, out, c, hk, rfl, rfl, HO, Hlen, hr, hK, hBr, HZ⟩ := hrel
    have hk0 : (0 : Int) ≤ (k : Int) := by omega
    obtain ⟨ao5, cap5, rfl⟩ := own_shape hr
    by_cases h1 : k < a.length
    · have h1' : (k : Int) < (a.length : Int) := by omega
      have hnx : k ≤ N := by have := HZ.out; omega
      obtain ⟨s, hs⟩ : ∃ s, dg a k + dg b k + c = s := ⟨_, rfl⟩
      have Hst := addD_step HDA.out HDB.out Hlen.out HO.out.1 HO.out.2.1 HO.out.2.2
      rw [hs] at Hst
      have hda := dg_ok HDA.out k
      have hdb := dg_ok HDB.out k
      have hcc := HO.out.2.1
      have HZ : RowKit.Hid (k + 1 = N + 1 → s / 65536 = 0) := Lib.hid (fun h => by
        have hkN : k = N := by omega
        have h1 := add_none (l := a) (k := k) (by omega)
        have h2 := add_none (l := b) (k := k) (by omega)
        omega)
      have hs0 : 0 ≤ s ∧ s ≤ 131071 := by omega
      have hw1 : IntKind.i64.wrap (dg a k + dg b k) = dg a k + dg b k := by rw [IntKind.wrap_i64]; omega
      have hw2 : IntKind.i64.wrap s = s := by rw [IntKind.wrap_i64]; omega
      have hw3 : s.tmod 65536 = s % 65536 := Int.tmod_eq_emod_of_nonneg hs0.1
      have hw4 : s.tdiv 65536 = s / 65536 := Int.tdiv_eq_ediv_of_nonneg hs0.1
      have hw5 : IntKind.i64.wrap (s % 65536) = s % 65536 := by rw [IntKind.wrap_i64]; omega
      have hw6 : IntKind.i64.wrap (s / 65536) = s / 65536 := by rw [IntKind.wrap_i64]; omega
      have Hst : RowKit.Hid _ := Lib.hid Hst
      have HO' := HO
      clear hda hdb hcc hs0 HO
      go_wp2_with fail
      refine (dig_calls (.slice aa a.length ca) a k (by omega) (by omega) wr (HA.out.kept hK)).mono ?_; rintro e w1 ⟨rfl, rfl⟩
      go_wp2_with fail
      refine (dig_calls (.slice ab b.length cb) b k (by omega) (by omega) w1 (HB.out.kept hK)).mono ?_; rintro e w1 ⟨rfl, rfl⟩
      go_wp2_with (at_builtin; refine wpList_append_own _ rfl _ _ 90 rfl B 3 i0 (.int .i64 0) 1 8 Tryz.underlying90 hi hz0 hz1 hz2 rfl (by decide) _ _ _ rfl (hr.alloc _) ⟨w1.heap.size, 0, none⟩ 1 1 [.int .i64 (s % 65536)] rfl rfl ?c1 ?c2 ?c3 ?c4 ?c5 ?_)
      try
        case c1 =>
          intro j u hj
          have hadd : (⟨w1.heap.size, 0, none⟩ : Addr).add j = ⟨w1.heap.size, 0 + j, none⟩ := by unfold Addr.add; split <;> simp_all
          rw [hadd, cell_of_row _ _ _ _ _ _ (heap_alloc_new w1 _), Nat.zero_add]
          simpa using hj
      case c2 => first | (intro u hu; simp at hu; rw [hu]; rfl) | rfl
      case c3 => unfold maxLen; omega
      case c4 => omega
      case c5 => first | omega | (simp; omega)
      intro v2 w2 hown2 hgrow2 _
      have hK2 : Keeps (fun _ => False) w w2 := (hK.alloc _).grown hgrow2 (fun g hg hlt => by have := hr.lt g hg; omega)
      have hsz : w1.heap.size ≤ w2.heap.size := Nat.le_trans (by simp) hgrow2.size
      have hown3 : w2.ownsRow B 3 1 v2 (k + 1) (dfl (out ++ [(s % 65536)])) := by rw [← dfl_snoc]; exact hown2
      clear hown2 hgrow2
      go_wp2
      go_roundw
      case rel => exact ⟨k + 1, out ++ [s % 65536], s / 65536, by omega, rfl, rfl, Hst, len_snoc Hlen.out, hown3, hK2, by omega, fun h => by have := HZ.out; omega⟩
      case measure => simp [intOf]; omega
    · have h1' : ¬ (k : Int) < (a.length : Int) := by omega
      by_cases h2 : k < b.length
      · have h2' : (k : Int) < (b.length : Int) := by omega
        have hnx : k ≤ N := by have := HZ.out; omega
        obtain ⟨s, hs⟩ : ∃ s, dg a k + dg b k + c = s := ⟨_, rfl⟩
        have Hst := addD_step HDA.out HDB.out Hlen.out HO.out.1 HO.out.2.1 HO.out.2.2
        rw [hs] at Hst
        have hda := dg_ok HDA.out k
        have hdb := dg_ok HDB.out k
        have hcc := HO.out.2.1
        have HZ : RowKit.Hid (k + 1 = N + 1 → s / 65536 = 0) := Lib.hid (fun h => by
          have hkN : k = N := by omega
          have h1 := add_none (l := a) (k := k) (by omega)
          have h2 := add_none (l := b) (k := k) (by omega)
          omega)
        have hs0 : 0 ≤ s ∧ s ≤ 131071 := by omega
        have hw1 : IntKind.i64.wrap (dg a k + dg b k) = dg a k + dg b k := by rw [IntKind.wrap_i64]; omega
        have hw2 : IntKind.i64.wrap s = s := by rw [IntKind.wrap_i64]; omega
        have hw3 : s.tmod 65536 = s % 65536 := Int.tmod_eq_emod_of_nonneg hs0.1
        have hw4 : s.tdiv 65536 = s / 65536 := Int.tdiv_eq_ediv_of_nonneg hs0.1
        have hw5 : IntKind.i64.wrap (s % 65536) = s % 65536 := by rw [IntKind.wrap_i64]; omega
        have hw6 : IntKind.i64.wrap (s / 65536) = s / 65536 := by rw [IntKind.wrap_i64]; omega
        have Hst : RowKit.Hid _ := Lib.hid Hst
        have HO' := HO
        clear hda hdb hcc hs0 HO
        go_wp2_with fail
        refine (dig_calls (.slice aa a.length ca) a k (by omega) (by omega) wr (HA.out.kept hK)).mono ?_; rintro e w1 ⟨rfl, rfl⟩
        go_wp2_with fail
        refine (dig_calls (.slice ab b.length cb) b k (by omega) (by omega) w1 (HB.out.kept hK)).mono ?_; rintro e w1 ⟨rfl, rfl⟩
        go_wp2_with (at_builtin; refine wpList_append_own _ rfl _ _ 90 rfl B 3 i0 (.int .i64 0) 1 8 Tryz.underlying90 hi hz0 hz1 hz2 rfl (by decide) _ _ _ rfl (hr.alloc _) ⟨w1.heap.size, 0, none⟩ 1 1 [.int .i64 (s % 65536)] rfl rfl ?c1 ?c2 ?c3 ?c4 ?c5 ?_)
        try
          case c1 =>
            intro j u hj
            have hadd : (⟨w1.heap.size, 0, none⟩ : Addr).add j = ⟨w1.heap.size, 0 + j, none⟩ := by unfold Addr.add; split <;> simp_all
            rw [hadd, cell_of_row _ _ _ _ _ _ (heap_alloc_new w1 _), Nat.zero_add]
            simpa using hj
        case c2 => first | (intro u hu; simp at hu; rw [hu]; rfl) | rfl
        case c3 => unfold maxLen; omega
        case c4 => omega
        case c5 => first | omega | (simp; omega)
        intro v2 w2 hown2 hgrow2 _
        have hK2 : Keeps (fun _ => False) w w2 := (hK.alloc _).grown hgrow2 (fun g hg hlt => by have := hr.lt g hg; omega)
        have hsz : w1.heap.size ≤ w2.heap.size := Nat.le_trans (by simp) hgrow2.size
        have hown3 : w2.ownsRow B 3 1 v2 (k + 1) (dfl (out ++ [(s % 65536)])) := by rw [← dfl_snoc]; exact hown2
        clear hown2 hgrow2
        go_wp2
        go_roundw
        case rel => exact ⟨k + 1, out ++ [s % 65536], s / 65536, by omega, rfl, rfl, Hst, len_snoc Hlen.out, hown3, hK2, by omega, fun h => by have := HZ.out; omega⟩
        case measure => simp [intOf]; omega
      · have h2' : ¬ (k : Int) < (b.length : Int) := by omega
        by_cases h3 : 0 < c
        · have h3' : c > 0 := h3
          have hnx : k ≤ N := by have := HZ.out; omega
          obtain ⟨s, hs⟩ : ∃ s, dg a k + dg b k + c = s := ⟨_, rfl⟩
          have Hst := addD_step HDA.out HDB.out Hlen.out HO.out.1 HO.out.2.1 HO.out.2.2
          rw [hs] at Hst
          have hda := dg_ok HDA.out k
          have hdb := dg_ok HDB.out k
          have hcc := HO.out.2.1
          have HZ : RowKit.Hid (k + 1 = N + 1 → s / 65536 = 0) := Lib.hid (fun h => by
            have hkN : k = N := by omega
            have h1 := add_none (l := a) (k := k) (by omega)
            have h2 := add_none (l := b) (k := k) (by omega)
            omega)
          have hs0 : 0 ≤ s ∧ s ≤ 131071 := by omega
          have hw1 : IntKind.i64.wrap (dg a k + dg b k) = dg a k + dg b k := by rw [IntKind.wrap_i64]; omega
          have hw2 : IntKind.i64.wrap s = s := by rw [IntKind.wrap_i64]; omega
          have hw3 : s.tmod 65536 = s % 65536 := Int.tmod_eq_emod_of_nonneg hs0.1
          have hw4 : s.tdiv 65536 = s / 65536 := Int.tdiv_eq_ediv_of_nonneg hs0.1
          have hw5 : IntKind.i64.wrap (s % 65536) = s % 65536 := by rw [IntKind.wrap_i64]; omega
          have hw6 : IntKind.i64.wrap (s / 65536) = s / 65536 := by rw [IntKind.wrap_i64]; omega
          have Hst : RowKit.Hid _ := Lib.hid Hst
          have HO' := HO
          clear hda hdb hcc hs0 HO
          go_wp2_with fail
          refine (dig_calls (.slice aa a.length ca) a k (by omega) (by omega) wr (HA.out.kept hK)).mono ?_; rintro e w1 ⟨rfl, rfl⟩
          go_wp2_with fail
          refine (dig_calls (.slice ab b.length cb) b k (by omega) (by omega) w1 (HB.out.kept hK)).mono ?_; rintro e w1 ⟨rfl, rfl⟩
          go_wp2_with (at_builtin; refine wpList_append_own _ rfl _ _ 90 rfl B 3 i0 (.int .i64 0) 1 8 Tryz.underlying90 hi hz0 hz1 hz2 rfl (by decide) _ _ _ rfl (hr.alloc _) ⟨w1.heap.size, 0, none⟩ 1 1 [.int .i64 (s % 65536)] rfl rfl ?c1 ?c2 ?c3 ?c4 ?c5 ?_)
          try
            case c1 =>
              intro j u hj
              have hadd : (⟨w1.heap.size, 0, none⟩ : Addr).add j = ⟨w1.heap.size, 0 + j, none⟩ := by unfold Addr.add; split <;> simp_all
              rw [hadd, cell_of_row _ _ _ _ _ _ (heap_alloc_new w1 _), Nat.zero_add]
              simpa using hj
          case c2 => first | (intro u hu; simp at hu; rw [hu]; rfl) | rfl
          case c3 => unfold maxLen; omega
          case c4 => omega
          case c5 => first | omega | (simp; omega)
          intro v2 w2 hown2 hgrow2 _
          have hK2 : Keeps (fun _ => False) w w2 := (hK.alloc _).grown hgrow2 (fun g hg hlt => by have := hr.lt g hg; omega)
          have hsz : w1.heap.size ≤ w2.heap.size := Nat.le_trans (by simp) hgrow2.size
          have hown3 : w2.ownsRow B 3 1 v2 (k + 1) (dfl (out ++ [(s % 65536)])) := by rw [← dfl_snoc]; exact hown2
          clear hown2 hgrow2
          go_wp2
          go_roundw
          case rel => exact ⟨k + 1, out ++ [s % 65536], s / 65536, by omega, rfl, rfl, Hst, len_snoc Hlen.out, hown3, hK2, by omega, fun h => by have := HZ.out; omega⟩
          case measure => simp [intOf]; omega
        · have h3' : ¬ c > 0 := h3
          go_wp2
          go_ret
          have hc0 : c = 0 := by have := HO.out.2.1; omega
          have he := HO.out.2.2
          rw [dt_all (by omega), dt_all (by omega), hc0] at he
          exact ⟨_, out, rfl, dAt_fin hr Hlen.out, HO.out.1, by omega, by rw [Hlen.out]; exact hk, hK⟩
set_option maxRecDepth 100000 in
set_option maxHeartbeats 4000000 in
theorem subD_calls (va vb : Value) (a b : List Int) (hN : a.length ≤ 900) (hNb : b.length ≤ 900) (na : Norm a) (nb : Norm b) (hle : dv b ≤ dv a) (w : World) (hva : dAt w va a) (hvb : dAt w vb b) :
    Calls Tryz.prog 110 #[va, vb] w (GivesD w a.length (dv a - dv b)) := by
  obtain ⟨i0, hi, hz0, hz1, hz2⟩ := info_parts infoD
  obtain ⟨aa, ca, rfl⟩ := hva.shape
  obtain ⟨ab, cb, rfl⟩ := hvb.shape
  have HA := Lib.hid hva
  have HB := Lib.hid hvb
  have HDA := Lib.hid na
  have HDB := Lib.hid nb
  have HLE := Lib.hid hle
  clear hva hvb na nb hle
  have hrow : w.ownsRow w.heap.size 3 1 (.slice none 0 0) 0 (dfl []) := World.ownsRow_nil ..
  obtain ⟨B, hB⟩ : ∃ B, B = w.heap.size := ⟨_, rfl⟩
  rw [← hB] at hrow
  have hBw : w.heap.size ≤ B := Nat.le_of_eq hB.symm
  have hB0 : B ≤ w.heap.size := Nat.le_of_eq hB
  clear hB
  go_enter Tryz.func110, Tryz.ntmps110
  go_wp2
  go_loopw [5, 6, 7, 8] (fun v' cv i _ wr => ∃ (k : Nat) (out : List Int) (c : Int), k ≤ a.length ∧ i = .int .i64 k ∧ cv = .int .i64 c ∧ RowKit.Hid (Digs out ∧ (0 ≤ c ∧ c ≤ 1) ∧ dv out - c * pd k = dt a k - dt b k) ∧ RowKit.Hid (out.length = k) ∧ wr.ownsRow B 3 1 v' k (dfl out) ∧ Keeps (fun _ => False) w wr ∧ B ≤ wr.heap.size) (fun _ _ i _ _ => a.length - (intOf i).toNat)
  case atStart => exact ⟨0, [], 0, by omega, rfl, rfl, ⟨fun _ h => (List.not_mem_nil h).elim, by omega, by simp [dv, dt_zero]⟩, rfl, hrow, Keeps.refl _ _, by omega⟩
  case round =>
    clear hrow
    obtain ⟨k, out, c, hk, rfl, rfl, HO, Hlen, hr, hK, hBr⟩ := hrel
    have hk0 : (0 : Int) ≤ (k : Int) := by omega
    obtain ⟨ao5, cap5, rfl⟩ := own_shape hr
    by_cases h1 : k < a.length
    · have h1' : (k : Int) < (a.length : Int) := by omega
      obtain ⟨bq, oq, cq, he, hcq, hbq, hcell⟩ := HA.out.block h1
      injection he with he1 _ he3
      subst he1
      subst he3
      have c0 := (hK.cell (p := ⟨bq, oq + k, none⟩) hbq (fun h => h)).trans (hcell k h1)
      obtain ⟨s, hs⟩ : ∃ s, dg a k - dg b k - c = s := ⟨_, rfl⟩
      have Hst := subD_step HDA.out.1 HDB.out.1 Hlen.out HO.out.1 HO.out.2.1 HO.out.2.2
      rw [hs] at Hst
      have hda := dg_ok HDA.out.1 k
      have hdb := dg_ok HDB.out.1 k
      have hcc := HO.out.2.1
      have hs0 : -65536 ≤ s ∧ s < 65536 := by omega
      have hw1 : IntKind.i64.wrap (dg a k - dg b k) = dg a k - dg b k := by rw [IntKind.wrap_i64]; omega
      have hw2 : IntKind.i64.wrap s = s := by rw [IntKind.wrap_i64]; omega
      have hw3 : IntKind.i64.wrap (s + 65536) = s + 65536 := by rw [IntKind.wrap_i64]; omega
      have HST := Lib.hid Hst
      have HK := Lib.hid hK
      clear hda hdb hcc Hst hcell
      go_wp2_with fail
      refine wp_region_late (fun W => W.cell? ⟨bq, oq + k, none⟩ = some (.int .i64 (dg a k))) [] (by kernel_rfl) ?_
      have hS : wr.drew.cell? ⟨bq, oq + k, none⟩ = some (.int .i64 (dg a k)) := c0
      refine wpAnyL_any (i := 0) (oi := _) (v := .slice (some ⟨bq, oq, none⟩) a.length ca) rfl (by kernel_rfl) (by kernel_rfl) (by kernel_rfl) (by kernel_rfl) (fun _ _ _ h => (h : False).elim) (Or.inl ⟨by kernel_rfl, ?_⟩) (fun _ => by assumption) ?_
      · intro w _
        go_simp
      try simp only [List.getElem_toArray, List.getElem_cons_zero, List.getElem_cons_succ, Act.put, List.setIfInBounds_toArray, List.set_cons_zero, List.set_cons_succ]
      refine wpAnyL_any (i := 1) (oi := _) (v := .int .i64 (k : Int)) rfl (by kernel_rfl) (by kernel_rfl) (by kernel_rfl) (by kernel_rfl) (fun _ _ _ h => (h : False).elim) (Or.inl ⟨by kernel_rfl, ?_⟩) (fun _ => by assumption) ?_
      · intro w _
        go_simp
      try simp only [List.getElem_toArray, List.getElem_cons_zero, List.getElem_cons_succ, Act.put, List.setIfInBounds_toArray, List.set_cons_zero, List.set_cons_succ]
      refine wpAnyL_any (i := 2) (oi := _) (v := .pointer (some ⟨bq, oq + k, none⟩)) rfl (by kernel_rfl) (by kernel_rfl) (by kernel_rfl) (by kernel_rfl) (fun _ _ _ h => (h : False).elim) (Or.inl ⟨by kernel_rfl, ?_⟩) (fun _ => by assumption) ?_
      · intro w _
        go_simp
      try simp only [List.getElem_toArray, List.getElem_cons_zero, List.getElem_cons_succ, Act.put, List.setIfInBounds_toArray, List.set_cons_zero, List.set_cons_succ]
      refine wpAnyL_take (i := 3) (oi := _) (v := .int .i64 (dg a k)) rfl (by kernel_rfl) (by kernel_rfl) (by kernel_rfl) (by kernel_rfl) (fun _ _ _ h => (h : False).elim) (Or.inl ⟨by kernel_rfl, ?_⟩) (by assumption) ?_
      · intro w hSw
        skip
        go_simp
      try simp only [List.getElem_toArray, List.getElem_cons_zero, List.getElem_cons_succ, Act.put, List.setIfInBounds_toArray, List.set_cons_zero, List.set_cons_succ]
      refine wpAnyL_any (i := 4) (oi := _) (v := .slice ab b.length cb) rfl (by kernel_rfl) (by kernel_rfl) (by kernel_rfl) (by kernel_rfl) (fun _ _ _ h => (h : False).elim) (Or.inl ⟨by kernel_rfl, ?_⟩) (fun _ => by assumption) ?_
      · intro w _
        go_simp
      try simp only [List.getElem_toArray, List.getElem_cons_zero, List.getElem_cons_succ, Act.put, List.setIfInBounds_toArray, List.set_cons_zero, List.set_cons_succ]
      refine wpAnyL_any (i := 5) (oi := _) (v := .int .i64 (k : Int)) rfl (by kernel_rfl) (by kernel_rfl) (by kernel_rfl) (by kernel_rfl) (fun _ _ _ h => (h : False).elim) (Or.inl ⟨by kernel_rfl, ?_⟩) (fun _ => by assumption) ?_
      · intro w _
        go_simp
      try simp only [List.getElem_toArray, List.getElem_cons_zero, List.getElem_cons_succ, Act.put, List.setIfInBounds_toArray, List.set_cons_zero, List.set_cons_succ]
      refine wpAnyL_any (i := 8) (oi := _) (v := .int .i64 c) rfl (by kernel_rfl) (by kernel_rfl) (by kernel_rfl) (by kernel_rfl) (fun _ _ _ h => (h : False).elim) (Or.inl ⟨by kernel_rfl, ?_⟩) (fun _ => by assumption) ?_
      · intro w _
        go_simp
      try simp only [List.getElem_toArray, List.getElem_cons_zero, List.getElem_cons_succ, Act.put, List.setIfInBounds_toArray, List.set_cons_zero, List.set_cons_succ]
      refine wpAnyL_next (i := 6) (by kernel_rfl) rfl (fun K hKK => ?_)
      go_simp
      refine (dig_calls (.slice ab b.length cb) b k (by omega) (by omega) _ (HB.out.kept (hK.drewN 1))).mono ?_; rintro e w1 ⟨rfl, rfl⟩
      go_wp2_with fail
      refine hKK.out _ _ hS (fun hHeld => ?_)
      clear hKK K
      try simp only [List.getElem_toArray, List.getElem_cons_zero, List.getElem_cons_succ, Act.put, List.setIfInBounds_toArray, List.set_cons_zero, List.set_cons_succ]
      refine wpAnyL_any (i := 7) (oi := _) (v := .int .i64 (dg a k - dg b k)) rfl (by kernel_rfl) (by kernel_rfl) (by kernel_rfl) (by kernel_rfl) (fun _ _ _ h => (h : False).elim) (Or.inl ⟨by kernel_rfl, ?_⟩) (fun _ => by assumption) ?_
      · intro w _
        go_simp
      try simp only [List.getElem_toArray, List.getElem_cons_zero, List.getElem_cons_succ, Act.put, List.setIfInBounds_toArray, List.set_cons_zero, List.set_cons_succ]
      refine wpAnyL_any (i := 9) (oi := _) (v := .int .i64 s) rfl (by kernel_rfl) (by kernel_rfl) (by kernel_rfl) (by kernel_rfl) (fun _ _ _ h => (h : False).elim) (Or.inl ⟨by kernel_rfl, ?_⟩) (fun _ => by assumption) ?_
      · intro w _
        go_simp
      try simp only [List.getElem_toArray, List.getElem_cons_zero, List.getElem_cons_succ, Act.put, List.setIfInBounds_toArray, List.set_cons_zero, List.set_cons_succ]
      refine wpAnyL_any (i := 10) (oi := _) (v := .int .i64 s) rfl (by kernel_rfl) (by kernel_rfl) (by kernel_rfl) (by kernel_rfl) (fun _ _ _ h => (h : False).elim) (Or.inl ⟨by kernel_rfl, ?_⟩) (fun _ => by assumption) ?_
      · intro w _
        go_simp
      try simp only [List.getElem_toArray, List.getElem_cons_zero, List.getElem_cons_succ, Act.put, List.setIfInBounds_toArray, List.set_cons_zero, List.set_cons_succ]
      refine wpAnyL_done (by kernel_rfl) ?_ _
      refine NoPanic.normal ?_
      have hrd : (wr.drewN 1).ownsRow B 3 1 (.slice ao5 k cap5) k (dfl out) := hr
      have hKd : Keeps (fun _ => False) w (wr.drewN 1) := HK.out.drewN 1
      have hBd : B ≤ (wr.drewN 1).heap.size := hBr
      clear hS hBr c0 hr
      generalize wr.drewN 1 = wd at hrd hKd hBd ⊢
      by_cases hn : s < 0
      · have Hst := Lib.hid (HST.out.1 (by omega))
        clear HST
        go_wp2_with (at_builtin; refine wpList_append_own _ rfl _ _ 90 rfl B 3 i0 (.int .i64 0) 1 8 Tryz.underlying90 hi hz0 hz1 hz2 rfl (by decide) _ _ _ rfl (hrd.alloc _) ⟨wd.heap.size, 0, none⟩ 1 1 [.int .i64 (s + 65536)] rfl rfl ?c1 ?c2 ?c3 ?c4 ?c5 ?_)
        try
          case c1 =>
            intro j u hj
            have hadd : (⟨wd.heap.size, 0, none⟩ : Addr).add j = ⟨wd.heap.size, 0 + j, none⟩ := by unfold Addr.add; split <;> simp_all
            rw [hadd, cell_of_row _ _ _ _ _ _ (heap_alloc_new wd _), Nat.zero_add]
            simpa using hj
        case c2 => first | (intro u hu; simp at hu; rw [hu]; rfl) | rfl
        case c3 => unfold maxLen; omega
        case c4 => omega
        case c5 => first | omega | (simp; omega)
        intro v2 w2 hown2 hgrow2 _
        have hK2 : Keeps (fun _ => False) w w2 := (hKd.alloc _).grown hgrow2 (fun g hg hlt => by have := hrd.lt g hg; omega)
        have hsz : wd.heap.size ≤ w2.heap.size := Nat.le_trans (by simp) hgrow2.size
        have hown3 : w2.ownsRow B 3 1 v2 (k + 1) (dfl (out ++ [s + 65536])) := by rw [← dfl_snoc]; exact hown2
        clear hown2 hgrow2
        go_wp2
        go_roundw
        case rel => exact ⟨k + 1, out ++ [s + 65536], 1, by omega, rfl, rfl, ⟨Hst.out.1, by omega, Hst.out.2⟩, len_snoc Hlen.out, hown3, hK2, by have := hBd; omega⟩
        case measure => simp [intOf]; omega
      · have Hst := Lib.hid (HST.out.2 (by omega))
        clear HST
        go_wp2_with (at_builtin; refine wpList_append_own _ rfl _ _ 90 rfl B 3 i0 (.int .i64 0) 1 8 Tryz.underlying90 hi hz0 hz1 hz2 rfl (by decide) _ _ _ rfl (hrd.alloc _) ⟨wd.heap.size, 0, none⟩ 1 1 [.int .i64 s] rfl rfl ?c1 ?c2 ?c3 ?c4 ?c5 ?_)
        try
          case c1 =>
            intro j u hj
            have hadd : (⟨wd.heap.size, 0, none⟩ : Addr).add j = ⟨wd.heap.size, 0 + j, none⟩ := by unfold Addr.add; split <;> simp_all
            rw [hadd, cell_of_row _ _ _ _ _ _ (heap_alloc_new wd _), Nat.zero_add]
            simpa using hj
        case c2 => first | (intro u hu; simp at hu; rw [hu]; rfl) | rfl
        case c3 => unfold maxLen; omega
        case c4 => omega
        case c5 => first | omega | (simp; omega)
        intro v2 w2 hown2 hgrow2 _
        have hK2 : Keeps (fun _ => False) w w2 := (hKd.alloc _).grown hgrow2 (fun g hg hlt => by have := hrd.lt g hg; omega)
        have hsz : wd.heap.size ≤ w2.heap.size := Nat.le_trans (by simp) hgrow2.size
        have hown3 : w2.ownsRow B 3 1 v2 (k + 1) (dfl (out ++ [s])) := by rw [← dfl_snoc]; exact hown2
        clear hown2 hgrow2
        go_wp2
        go_roundw
        case rel => exact ⟨k + 1, out ++ [s], 0, by omega, rfl, rfl, ⟨Hst.out.1, by omega, Hst.out.2⟩, len_snoc Hlen.out, hown3, hK2, by have := hBd; omega⟩
        case measure => simp [intOf]; omega
    · have h1' : ¬ (k : Int) < (a.length : Int) := by omega
      obtain rfl : k = a.length := by omega
      clear h1
      go_wp2
      go_ret
      have he := HO.out.2.2
      have hd := subD_end HDA.out HDB.out Hlen.out HO.out.1 HO.out.2.1 HLE.out he
      exact ⟨_, out, rfl, dAt_fin hr Hlen.out, HO.out.1, hd, by rw [Hlen.out]; exact hk, hK⟩
theorem sgn_lt {x y : Int} (h : x < y) : sgnI (x - y) = -1 := by unfold sgnI; rw [if_pos (by omega)]
theorem sgn_gt {x y : Int} (h : y < x) : sgnI (x - y) = 1 := by unfold sgnI; rw [if_neg (by omega), if_neg (by omega)]
theorem sgn_eq {x y : Int} (h : x = y) : sgnI (x - y) = 0 := by unfold sgnI; rw [if_neg (by omega), if_pos (by omega)]
set_option maxRecDepth 100000 in
set_option maxHeartbeats 4000000 in
theorem cmpD_calls (va vb : Value) (a b : List Int) (hN : a.length ≤ 900) (hNb : b.length ≤ 900) (na : Norm a) (nb : Norm b) (w : World) (hva : dAt w va a) (hvb : dAt w vb b) :
    Calls Tryz.prog 109 #[va, vb] w fun e w' => e = .returned (.int .i64 (sgnI (dv a - dv b))) ∧ Keeps (fun _ => False) w w' := by
  by_cases hlen : a.length = b.length
  · by_cases h0 : a.length = 0
    · obtain ⟨aa, ca, rfl⟩ := hva.shape
      obtain ⟨ab, cb, rfl⟩ := hvb.shape
      have ea : a = [] := List.eq_nil_of_length_eq_zero h0
      have eb : b = [] := List.eq_nil_of_length_eq_zero (by omega)
      subst ea
      subst eb
      clear hva hvb
      go_enter Tryz.func109, Tryz.ntmps109
      go_wp2
      go_loopw [5] (fun i wr => i = .int .i64 (-1) ∧ wr = w) (fun _ _ => 0)
      case atStart => exact ⟨by go_num, rfl⟩
      case round =>
        obtain ⟨rfl, rfl⟩ := hrel
        go_wp2
        go_ret
        exact ⟨rfl, Keeps.refl _ _⟩
    · obtain ⟨bq, oq, ca, rfl, hca, hbq, ha⟩ := hva.block (i := 0) (by omega)
      obtain ⟨br, or_, cb, rfl, hcb, hbr, hb⟩ := hvb.block (i := 0) (by omega)
      have HA := Lib.hid ha
      have HB := Lib.hid hb
      have NA := Lib.hid na
      have NB := Lib.hid nb
      have HL := Lib.hid hlen
      obtain ⟨n, hn⟩ : ∃ n, a.length = n := ⟨_, rfl⟩
      have hnb : b.length = n := by omega
      rw [hn, hnb]
      have HLA := Lib.hid hn
      have HLB := Lib.hid hnb
      rw [hn] at hN h0 hca
      clear ha hb na nb hva hvb hlen hn hnb hcb hNb
      go_enter Tryz.func109, Tryz.ntmps109
      have hn1 : IntKind.i64.wrap ((n : Int) - 1) = (n : Int) - 1 := by rw [IntKind.wrap_i64]; omega
      go_wp2
      go_loopw [5] (fun i wr => ∃ j : Nat, j ≤ n ∧ i = .int .i64 ((j : Int) - 1) ∧ RowKit.Hid (∀ m, j ≤ m → dg a m = dg b m) ∧ RowKit.Hid (Keeps (fun _ => False) w wr)) (fun i _ => (intOf i + 1).toNat)
      case atStart => exact ⟨n, Nat.le_refl _, rfl, fun m hm => by rw [dg_none (by rw [HLA.out]; exact hm), dg_none (by rw [HLB.out]; exact hm)], Keeps.refl _ _⟩
      case round =>
        clear hn1
        obtain ⟨j, hj, rfl, HE, HK⟩ := hrel
        cases j with
        | zero =>
          go_wp2
          go_ret
          exact ⟨congrArg (fun z => Ending.returned (.int .i64 z)) (sgn_eq (cmp_same HL.out (fun m => HE.out m (Nat.zero_le _)))).symm, HK.out⟩
        | succ j =>
        have hj1 : ((j + 1 : Nat) : Int) - 1 = (j : Int) := by omega
        rw [hj1]
        clear hj1
        have hj0 : (0 : Int) ≤ (j : Int) := by omega
        have hj0' : (j : Int) ≥ 0 := hj0
        have hjn : (j : Int) < (n : Int) := by omega
        have c0 := (HK.out.cell (p := ⟨bq, oq + j, none⟩) hbq (fun h => h)).trans (HA.out j (by rw [HLA.out]; omega))
        have c1 := (HK.out.cell (p := ⟨br, or_ + j, none⟩) hbr (fun h => h)).trans (HB.out j (by rw [HLB.out]; omega))
        obtain ⟨t, ht⟩ : ∃ t, (dg a j != dg b j) = t := ⟨_, rfl⟩
        go_wp2_with fail
        refine wp_region_late (fun W => W.cell? ⟨bq, oq + j, none⟩ = some (.int .i64 (dg a j)) ∧ W.cell? ⟨br, or_ + j, none⟩ = some (.int .i64 (dg b j))) [] (by kernel_rfl) ?_
        have hS : wr.drew.cell? ⟨bq, oq + j, none⟩ = some (.int .i64 (dg a j)) ∧ wr.drew.cell? ⟨br, or_ + j, none⟩ = some (.int .i64 (dg b j)) := ⟨c0, c1⟩
        refine wpAnyL_any (i := 0) (oi := _) (v := .slice (some ⟨bq, oq, none⟩) n ca) rfl (by kernel_rfl) (by kernel_rfl) (by kernel_rfl) (by kernel_rfl) (fun _ _ _ h => (h : False).elim) (Or.inl ⟨by kernel_rfl, ?_⟩) (fun _ => by assumption) ?_
        · intro w _
          go_simp
        try simp only [List.getElem_toArray, List.getElem_cons_zero, List.getElem_cons_succ, Act.put, List.setIfInBounds_toArray, List.set_cons_zero, List.set_cons_succ]
        refine wpAnyL_any (i := 1) (oi := _) (v := .int .i64 (j : Int)) rfl (by kernel_rfl) (by kernel_rfl) (by kernel_rfl) (by kernel_rfl) (fun _ _ _ h => (h : False).elim) (Or.inl ⟨by kernel_rfl, ?_⟩) (fun _ => by assumption) ?_
        · intro w _
          go_simp
        try simp only [List.getElem_toArray, List.getElem_cons_zero, List.getElem_cons_succ, Act.put, List.setIfInBounds_toArray, List.set_cons_zero, List.set_cons_succ]
        refine wpAnyL_any (i := 2) (oi := _) (v := .pointer (some ⟨bq, oq + j, none⟩)) rfl (by kernel_rfl) (by kernel_rfl) (by kernel_rfl) (by kernel_rfl) (fun _ _ _ h => (h : False).elim) (Or.inl ⟨by kernel_rfl, ?_⟩) (fun _ => by assumption) ?_
        · intro w _
          go_simp
        try simp only [List.getElem_toArray, List.getElem_cons_zero, List.getElem_cons_succ, Act.put, List.setIfInBounds_toArray, List.set_cons_zero, List.set_cons_succ]
        refine wpAnyL_take (i := 3) (oi := _) (v := .int .i64 (dg a j)) rfl (by kernel_rfl) (by kernel_rfl) (by kernel_rfl) (by kernel_rfl) (fun _ _ _ h => (h : False).elim) (Or.inl ⟨by kernel_rfl, ?_⟩) (by assumption) ?_
        · intro w hSw
          obtain ⟨s0, s1⟩ := hSw
          go_simp
        try simp only [List.getElem_toArray, List.getElem_cons_zero, List.getElem_cons_succ, Act.put, List.setIfInBounds_toArray, List.set_cons_zero, List.set_cons_succ]
        refine wpAnyL_any (i := 4) (oi := _) (v := .slice (some ⟨br, or_, none⟩) n cb) rfl (by kernel_rfl) (by kernel_rfl) (by kernel_rfl) (by kernel_rfl) (fun _ _ _ h => (h : False).elim) (Or.inl ⟨by kernel_rfl, ?_⟩) (fun _ => by assumption) ?_
        · intro w _
          go_simp
        try simp only [List.getElem_toArray, List.getElem_cons_zero, List.getElem_cons_succ, Act.put, List.setIfInBounds_toArray, List.set_cons_zero, List.set_cons_succ]
        refine wpAnyL_any (i := 5) (oi := _) (v := .int .i64 (j : Int)) rfl (by kernel_rfl) (by kernel_rfl) (by kernel_rfl) (by kernel_rfl) (fun _ _ _ h => (h : False).elim) (Or.inl ⟨by kernel_rfl, ?_⟩) (fun _ => by assumption) ?_
        · intro w _
          go_simp
        try simp only [List.getElem_toArray, List.getElem_cons_zero, List.getElem_cons_succ, Act.put, List.setIfInBounds_toArray, List.set_cons_zero, List.set_cons_succ]
        refine wpAnyL_any (i := 6) (oi := _) (v := .pointer (some ⟨br, or_ + j, none⟩)) rfl (by kernel_rfl) (by kernel_rfl) (by kernel_rfl) (by kernel_rfl) (fun _ _ _ h => (h : False).elim) (Or.inl ⟨by kernel_rfl, ?_⟩) (fun _ => by assumption) ?_
        · intro w _
          go_simp
        try simp only [List.getElem_toArray, List.getElem_cons_zero, List.getElem_cons_succ, Act.put, List.setIfInBounds_toArray, List.set_cons_zero, List.set_cons_succ]
        refine wpAnyL_take (i := 7) (oi := _) (v := .int .i64 (dg b j)) rfl (by kernel_rfl) (by kernel_rfl) (by kernel_rfl) (by kernel_rfl) (fun _ _ _ h => (h : False).elim) (Or.inl ⟨by kernel_rfl, ?_⟩) (by assumption) ?_
        · intro w hSw
          obtain ⟨s0, s1⟩ := hSw
          go_simp
        try simp only [List.getElem_toArray, List.getElem_cons_zero, List.getElem_cons_succ, Act.put, List.setIfInBounds_toArray, List.set_cons_zero, List.set_cons_succ]
        refine wpAnyL_any (i := 8) (oi := _) (v := .bool t) rfl (by kernel_rfl) (by kernel_rfl) (by kernel_rfl) (by kernel_rfl) (fun _ _ _ h => (h : False).elim) (Or.inl ⟨by kernel_rfl, ?_⟩) (fun _ => by assumption) ?_
        · intro w _
          go_simp
        try simp only [List.getElem_toArray, List.getElem_cons_zero, List.getElem_cons_succ, Act.put, List.setIfInBounds_toArray, List.set_cons_zero, List.set_cons_succ]
        refine wpAnyL_done (by kernel_rfl) ?_ _
        refine NoPanic.normal ?_
        have HT := Lib.hid ht
        clear hS ht
        cases t with
        | false =>
          have he : dg a j = dg b j := by have := HT.out; simpa using this
          have hjw : IntKind.i64.wrap ((j : Int) - 1) = (j : Int) - 1 := by rw [IntKind.wrap_i64]; omega
          have HEE : RowKit.Hid (∀ m, j ≤ m → dg a m = dg b m) := fun m hm => by
            rcases Nat.lt_or_eq_of_le hm with h | h
            · exact HE.out m h
            · rw [← h]; exact he
          clear he
          go_wp2
          go_roundw
          case rel => exact ⟨j, by omega, rfl, HEE, HK.out.drewN 1⟩
          case measure => simp [intOf]
        | true =>
          have hne : dg a j ≠ dg b j := by have := HT.out; simpa using this
          obtain ⟨t2, ht2⟩ : ∃ t2, decide (dg a j < dg b j) = t2 := ⟨_, rfl⟩
          go_wp2_with fail
          refine wp_region_late (fun W => W.cell? ⟨bq, oq + j, none⟩ = some (.int .i64 (dg a j)) ∧ W.cell? ⟨br, or_ + j, none⟩ = some (.int .i64 (dg b j))) [] (by kernel_rfl) ?_
          have hS : (wr.drewN 1).drew.cell? ⟨bq, oq + j, none⟩ = some (.int .i64 (dg a j)) ∧ (wr.drewN 1).drew.cell? ⟨br, or_ + j, none⟩ = some (.int .i64 (dg b j)) := ⟨c0, c1⟩
          refine wpAnyL_any (i := 0) (oi := _) (v := .slice (some ⟨bq, oq, none⟩) n ca) rfl (by kernel_rfl) (by kernel_rfl) (by kernel_rfl) (by kernel_rfl) (fun _ _ _ h => (h : False).elim) (Or.inl ⟨by kernel_rfl, ?_⟩) (fun _ => by assumption) ?_
          · intro w _
            go_simp
          try simp only [List.getElem_toArray, List.getElem_cons_zero, List.getElem_cons_succ, Act.put, List.setIfInBounds_toArray, List.set_cons_zero, List.set_cons_succ]
          refine wpAnyL_any (i := 1) (oi := _) (v := .int .i64 (j : Int)) rfl (by kernel_rfl) (by kernel_rfl) (by kernel_rfl) (by kernel_rfl) (fun _ _ _ h => (h : False).elim) (Or.inl ⟨by kernel_rfl, ?_⟩) (fun _ => by assumption) ?_
          · intro w _
            go_simp
          try simp only [List.getElem_toArray, List.getElem_cons_zero, List.getElem_cons_succ, Act.put, List.setIfInBounds_toArray, List.set_cons_zero, List.set_cons_succ]
          refine wpAnyL_any (i := 2) (oi := _) (v := .pointer (some ⟨bq, oq + j, none⟩)) rfl (by kernel_rfl) (by kernel_rfl) (by kernel_rfl) (by kernel_rfl) (fun _ _ _ h => (h : False).elim) (Or.inl ⟨by kernel_rfl, ?_⟩) (fun _ => by assumption) ?_
          · intro w _
            go_simp
          try simp only [List.getElem_toArray, List.getElem_cons_zero, List.getElem_cons_succ, Act.put, List.setIfInBounds_toArray, List.set_cons_zero, List.set_cons_succ]
          refine wpAnyL_take (i := 3) (oi := _) (v := .int .i64 (dg a j)) rfl (by kernel_rfl) (by kernel_rfl) (by kernel_rfl) (by kernel_rfl) (fun _ _ _ h => (h : False).elim) (Or.inl ⟨by kernel_rfl, ?_⟩) (by assumption) ?_
          · intro w hSw
            obtain ⟨s0, s1⟩ := hSw
            go_simp
          try simp only [List.getElem_toArray, List.getElem_cons_zero, List.getElem_cons_succ, Act.put, List.setIfInBounds_toArray, List.set_cons_zero, List.set_cons_succ]
          refine wpAnyL_any (i := 4) (oi := _) (v := .slice (some ⟨br, or_, none⟩) n cb) rfl (by kernel_rfl) (by kernel_rfl) (by kernel_rfl) (by kernel_rfl) (fun _ _ _ h => (h : False).elim) (Or.inl ⟨by kernel_rfl, ?_⟩) (fun _ => by assumption) ?_
          · intro w _
            go_simp
          try simp only [List.getElem_toArray, List.getElem_cons_zero, List.getElem_cons_succ, Act.put, List.setIfInBounds_toArray, List.set_cons_zero, List.set_cons_succ]
          refine wpAnyL_any (i := 5) (oi := _) (v := .int .i64 (j : Int)) rfl (by kernel_rfl) (by kernel_rfl) (by kernel_rfl) (by kernel_rfl) (fun _ _ _ h => (h : False).elim) (Or.inl ⟨by kernel_rfl, ?_⟩) (fun _ => by assumption) ?_
          · intro w _
            go_simp
          try simp only [List.getElem_toArray, List.getElem_cons_zero, List.getElem_cons_succ, Act.put, List.setIfInBounds_toArray, List.set_cons_zero, List.set_cons_succ]
          refine wpAnyL_any (i := 6) (oi := _) (v := .pointer (some ⟨br, or_ + j, none⟩)) rfl (by kernel_rfl) (by kernel_rfl) (by kernel_rfl) (by kernel_rfl) (fun _ _ _ h => (h : False).elim) (Or.inl ⟨by kernel_rfl, ?_⟩) (fun _ => by assumption) ?_
          · intro w _
            go_simp
          try simp only [List.getElem_toArray, List.getElem_cons_zero, List.getElem_cons_succ, Act.put, List.setIfInBounds_toArray, List.set_cons_zero, List.set_cons_succ]
          refine wpAnyL_take (i := 7) (oi := _) (v := .int .i64 (dg b j)) rfl (by kernel_rfl) (by kernel_rfl) (by kernel_rfl) (by kernel_rfl) (fun _ _ _ h => (h : False).elim) (Or.inl ⟨by kernel_rfl, ?_⟩) (by assumption) ?_
          · intro w hSw
            obtain ⟨s0, s1⟩ := hSw
            go_simp
          try simp only [List.getElem_toArray, List.getElem_cons_zero, List.getElem_cons_succ, Act.put, List.setIfInBounds_toArray, List.set_cons_zero, List.set_cons_succ]
          refine wpAnyL_any (i := 8) (oi := _) (v := .bool t2) rfl (by kernel_rfl) (by kernel_rfl) (by kernel_rfl) (by kernel_rfl) (fun _ _ _ h => (h : False).elim) (Or.inl ⟨by kernel_rfl, ?_⟩) (fun _ => by assumption) ?_
          · intro w _
            go_simp
          try simp only [List.getElem_toArray, List.getElem_cons_zero, List.getElem_cons_succ, Act.put, List.setIfInBounds_toArray, List.set_cons_zero, List.set_cons_succ]
          refine wpAnyL_done (by kernel_rfl) ?_ _
          refine NoPanic.normal ?_
          have HT2 := Lib.hid ht2
          clear hS ht2
          cases t2 with
          | true =>
            have hlt : dg a j < dg b j := by have := HT2.out; simpa using this
            have hc := cmp_high NA.out.1 NB.out.1 HL.out j (by rw [HLA.out]; omega) (fun m hm => HE.out m (by omega)) hlt
            have HC := Lib.hid (sgn_lt hc)
            clear hlt hc hne
            go_wp2
            go_ret
            exact ⟨congrArg (fun z => Ending.returned (.int .i64 z)) HC.out.symm, HK.out.drewN 2⟩
          | false =>
            have hge : ¬ dg a j < dg b j := by have := HT2.out; simpa using this
            have hc := cmp_high NB.out.1 NA.out.1 HL.out.symm j (by rw [HLB.out]; omega) (fun m hm => (HE.out m (by omega)).symm) (by omega)
            have HC := Lib.hid (sgn_gt hc)
            clear hge hc hne
            go_wp2
            go_ret
            exact ⟨congrArg (fun z => Ending.returned (.int .i64 z)) HC.out.symm, HK.out.drewN 2⟩
  · obtain ⟨aa, ca, rfl⟩ := hva.shape
    obtain ⟨ab, cb, rfl⟩ := hvb.shape
    clear hva hvb
    have hne : ((a.length : Int) != (b.length : Int)) = true := by rw [bne_iff_ne]; omega
    have hne' : ¬ (a.length : Int) = (b.length : Int) := by omega
    by_cases hlt : a.length < b.length
    · rw [sgn_lt (norm_short na nb hlt)]
      have hlt' : (a.length : Int) < (b.length : Int) := by omega
      clear na nb
      go_enter Tryz.func109, Tryz.ntmps109
      go_wp2
      go_ret
      exact ⟨rfl, Keeps.refl _ _⟩
    · rw [sgn_gt (norm_short nb na (by omega))]
      have hlt' : ¬ (a.length : Int) < (b.length : Int) := by omega
      clear na nb
      go_enter Tryz.func109, Tryz.ntmps109
      go_wp2
      go_ret
      exact ⟨rfl, Keeps.refl _ _⟩
end Go.Proofs.YtmoajobnhiopiaaGreatDoor.nb
