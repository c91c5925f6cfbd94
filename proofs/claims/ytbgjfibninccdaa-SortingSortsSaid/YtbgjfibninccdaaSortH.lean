/- The reference's Sort; the law SortingSorts. -/
import Derived.Test.YtbgjfibninccdaaSortI
set_option linter.unusedSimpArgs false
set_option linter.unusedVariables false
namespace Go.Proofs.Ytbgjfibninccdaa.so
open Go Go.RowKit Go.Shelf Go.Maps Go.Proofs.Ytbgjfibninccdaa.mk Go.Proofs.Ytbgjfibninccdaa.nw Go.Proofs.Ytbgjfibninccdaa.tp Go.Proofs.Ytbgjfibninccdaa.rg Go.Proofs.Ytbgjfibninccdaa.ar

theorem gset_shift {α : Type} {s : List α} {m : Nat} {z y : α} (hm : m + 1 ≤ s.length) (hy : s[m]? = some y) : (s.take (m + 1) ++ z :: s.drop (m + 1)).set (m + 1) y = s.take m ++ y :: s.drop m := by
  have hl : (s.take (m + 1)).length = m + 1 := by rw [List.length_take]; omega
  have hd : s.drop m = y :: s.drop (m + 1) := by
    have hlt : m < s.length := by omega
    rw [List.drop_eq_getElem_cons hlt]
    rw [List.getElem?_eq_getElem hlt] at hy
    rw [Option.some.inj hy]
  rw [List.set_append_right _ _ (by omega), hl, Nat.sub_self, hd, List.take_add_one, hy, List.append_assoc]
  rfl
theorem gset_here {α : Type} {s : List α} {k : Nat} {z x : α} (hk : k ≤ s.length) : (s.take k ++ z :: s.drop k).set k x = s.take k ++ x :: s.drop k := by
  have hl : (s.take k).length = k := by rw [List.length_take]; omega
  rw [List.set_append_right _ _ (by omega), hl, Nat.sub_self]
  rfl
theorem row_any {w w' : World} {base n : Nat} {E : TypeId} {size : Nat} {v : Value} {xs : List Value} (h : w.ownsRow base E size v n xs) (hk : Keeps (fun _ => False) w w') : w'.ownsRow base E size v n xs := by
  refine ⟨h.1, ?_⟩
  rcases h.2 with hh | ⟨g', c, cur, he, h1, h2, h3⟩
  · exact .inl hh
  · exact .inr ⟨g', c, cur, he, h1, (hk.block _ (Array.getElem?_eq_some_iff.1 h2).1 (fun h => h)).trans h2, h3⟩
theorem less_keys {a b : Int} (ha : IsK a) (hb : IsK b) : lessR ((unkey a).1, (unkey a).2) ((unkey b).1, (unkey b).2) = decide (a < b) := by
  show decide (keyR (unkey a) < keyR (unkey b)) = _
  rw [key_unkey ha.1 ha.2, key_unkey hb.1 hb.2]
theorem nil_q' (w : World) : qAt w (fun _ => False) none [] := .inl ⟨rfl, rfl⟩
theorem rsort_empty (ao : Option Addr) (cap : Nat) (w : World) : Calls Try.prog 19 #[.slice ao 0 cap] w fun e w' => e = .returned (.slice none 0 0) ∧ w' = w := by
  go_enter Try.func19, Try.ntmps19
  go_wp2
  refine wp_loop_rounds 1 ?_
  rw [rounds_succ]
  go_wp2
  go_ret
  exact ⟨rfl, rfl⟩
set_option maxRecDepth 100000 in
set_option maxHeartbeats 4000000 in
theorem rsort_some (b off cap : Nat) (l : List Rec) (hl : l.length ≤ 1000) (w : World) (hb : b < w.heap.size) (hok : Recs l)
    (h : ∀ (i : Nat) (r : Rec), l[i]? = some r → w.cell? ⟨b, off + i * 2, none⟩ = some (.int .u64 r.1) ∧ w.cell? ⟨b, off + (i * 2 + 1), none⟩ = some (.int .u64 r.2)) :
    Calls Try.prog 19 #[.slice (some ⟨b, off, none⟩) l.length cap] w fun e w' => ∃ v, e = .returned v ∧ recAt w' v (sortR l) ∧ Keeps (fun _ => False) w w' := by
  obtain ⟨i0, hi, hz0, hz1, hz2⟩ := info_parts infoRec
  have H := Lib.hid h
  have Hok := Lib.hid hok
  clear h hok
  go_enter Try.func19, Try.ntmps19
  go_wp2
  go_loopw [3, 4] (fun v i wr => ∃ (k : Nat) (ks : List Int), k ≤ l.length ∧ i = .int .i64 k ∧ ks.length = k ∧ srt ks ∧ ks.Perm ((l.map keyR).take k) ∧ wr.ownsRow 0 24 2 v k (rflat (ks.map unkey)) ∧ (∀ g, v.ownBlock = some g → w.heap.size ≤ g ∧ g < wr.heap.size) ∧ Keeps (fun _ => False) w wr) (fun _ i _ => l.length - (intOf i).toNat)
  case atStart => exact ⟨0, [], Nat.zero_le _, rfl, rfl, List.Pairwise.nil, by rw [List.take_zero], World.ownsRow_nil _ _ _ _, (fun g h => by cases h), Keeps.refl _ _⟩
  case round =>
    obtain ⟨k, ks, hk, rfl, hsl, hs, hp, hrow, hown, hK⟩ := hrel
    have Hsl := Lib.hid hsl
    have Hs := Lib.hid hs
    have Hp := Lib.hid hp
    have Hrow := Lib.hid hrow
    have Hown := Lib.hid hown
    have HK := Lib.hid hK
    by_cases hlt : k < l.length
    · obtain ⟨⟨x, y⟩, hx⟩ : ∃ e, l[k]? = some e := ⟨l[k], by simp [hlt]⟩
      have hxo := Hok.out _ (List.mem_of_getElem? hx)
      have p0 := (hK.cell (p := ⟨b, off + k * 2, none⟩) hb (fun h => h)).trans (H.out k _ hx).1
      have p1 : wr.cell? ⟨b, off + k * 2 + 1, none⟩ = some (.int .u64 y) := (hK.cell (p := ⟨b, off + (k * 2 + 1), none⟩) hb (fun h => h)).trans (H.out k _ hx).2
      simp only at p0
      have ck := fun w => rclean_calls x y hxo.1 w
      obtain ⟨kx, hkx⟩ : ∃ kx, keyR (x, y) = kx := ⟨_, rfl⟩
      have hKx : IsK kx := hkx ▸ keyR_isK hxo
      have hX := unkey_ok hKx
      rw [← unkey_key hxo, hkx] at ck
      have Hxk := Lib.hid (show (l.map keyR)[k]? = some kx by rw [List.getElem?_map, hx, ← hkx]; rfl)
      have hlt' : (k : Int) < (l.length : Int) := by omega
      have hk0 : (0 : Int) ≤ (k : Int) := by omega
      have hform : ∃ ao c, u3 = Value.slice ao k c := by
        rcases hrow.2 with ⟨rfl, h0⟩ | ⟨g, c, cur, rfl, _⟩
        · exact ⟨none, 0, by rw [h0]⟩
        · exact ⟨_, _, rfl⟩
      obtain ⟨ao, c, rfl⟩ := hform
      have HKs := Lib.hid (show ∀ z ∈ ks, IsK z from fun z hz => by
        obtain ⟨r, hr, rfl⟩ := List.mem_map.1 (List.mem_of_mem_take (hp.mem_iff.1 hz))
        exact keyR_isK (Hok.out r hr))
      clear hsl hs hp hrow hown hK hx hkx
      obtain ⟨wo, rfl⟩ : ∃ wo : World, wo = wr := ⟨_, rfl⟩
      go_wp2_with fail
      refine (ck _).mono ?_; clear ck; rintro e w3 ⟨rfl, hk3⟩
      have Hk3 := Lib.hid hk3
      clear hk3 p0 p1
      go_wp2_with fail
      obtain ⟨bx, hbx⟩ : ∃ bx, w3.heap.size = bx := ⟨_, rfl⟩
      obtain ⟨w4, hw4⟩ : ∃ w4, w3.alloc (.cells #[.int .u64 (unkey kx).1, .int .u64 (unkey kx).2] 24) = w4 := ⟨_, rfl⟩
      have HD4 := Lib.hid (show w4.heap[bx]? = some (.cells #[.int .u64 (unkey kx).1, .int .u64 (unkey kx).2] 24 (0, 0)) by rw [← hbx, ← hw4]; exact heap_alloc_new w3 _)
      have HKo4 := Lib.hid (show Keeps (fun _ => False) wo w4 by rw [← hw4]; exact Hk3.out.alloc _)
      have Hbx := Lib.hid (show wo.heap.size ≤ bx by rw [← hbx]; exact Hk3.out.size)
      rw [hw4, hbx]
      clear hw4 hbx
      go_loopw [6] (fun t wr => ∃ j : Nat, j ≤ k ∧ t = .int .i64 j ∧ Keeps (fun _ => False) w4 wr ∧ ∀ y ∈ ks.take j, y ≤ kx) (fun t _ => k - (intOf t).toNat)
      case atStart => exact ⟨0, Nat.zero_le _, rfl, Keeps.refl _ _, fun y hy => by simp at hy⟩
      case round =>
        obtain ⟨j, hjk, rfl, hkw, h1⟩ := hrel
        have H1 := Lib.hid h1
        have Hkw := Lib.hid hkw
        clear h1
        by_cases hj : j < k
        · obtain ⟨ky, hy⟩ : ∃ y, ks[j]? = some y := ⟨ks[j]'(by rw [Hsl.out]; omega), by simp⟩
          have hKy : IsK ky := HKs.out ky (List.mem_of_getElem? hy)
          have hY := unkey_ok hKy
          obtain ⟨g, rfl⟩ : ∃ g, ao = some ⟨g, 0, none⟩ := by
            rcases Hrow.out.2 with ⟨_, h0⟩ | ⟨g, c, cur, he, _⟩
            · omega
            · injection he with he; exact ⟨g, he⟩
          have hrw := row_any (row_any Hrow.out HKo4.out) hkw
          have hgm := rflat_get (ks.map unkey) j (unkey ky) (by rw [List.getElem?_map, hy]; rfl)
          have q0 := (hrw.cellAt (j * 2) (by omega)).trans hgm.1
          have q1 := (hrw.cellAt (j * 2 + 1) (by omega)).trans hgm.2
          have hgl := (hrw.lt g rfl).2
          have hdw := (hkw.block bx (Array.getElem?_eq_some_iff.1 HD4.out).1 (fun h => h)).trans HD4.out
          have hbl := (Array.getElem?_eq_some_iff.1 hdw).1
          have d0 : wr.cell? ⟨bx, 0, none⟩ = some (.int .u64 (unkey kx).1) := by rw [cell_of_row _ _ _ _ _ _ hdw]; rfl
          have d1 : wr.cell? ⟨bx, 1, none⟩ = some (.int .u64 (unkey kx).2) := by rw [cell_of_row _ _ _ _ _ _ hdw]; rfl
          have Hdw := Lib.hid hdw
          have Hrw := Lib.hid hrw
          have hj' : (j : Int) < (k : Int) := by omega
          have hj0 : (0 : Int) ≤ (j : Int) := by omega
          have hless := less_keys hKx hKy
          by_cases hyx : ky ≤ kx
          · have H1' := Lib.hid (show ∀ u ∈ ks.take (j + 1), u ≤ kx from fun u hu => by
              rw [List.take_add_one, hy] at hu
              rcases List.mem_append.1 hu with h | h
              · exact H1.out u h
              · simp at h; omega)
            rw [decide_eq_false (show ¬ kx < ky by omega)] at hless
            clear hy hgm hrw hdw hkw
            go_wp2_with fail
            refine wp_region_late (fun W => W.cell? ⟨bx, 0, none⟩ = some (.int .u64 (unkey kx).1) ∧ W.cell? ⟨bx, 1, none⟩ = some (.int .u64 (unkey kx).2) ∧ W.cell? ⟨g, j * 2, none⟩ = some (.int .u64 (unkey ky).1) ∧ W.cell? ⟨g, j * 2 + 1, none⟩ = some (.int .u64 (unkey ky).2)) [] (by kernel_rfl) ?_
            have hS : wr.drew.cell? ⟨bx, 0, none⟩ = some (.int .u64 (unkey kx).1) ∧ wr.drew.cell? ⟨bx, 1, none⟩ = some (.int .u64 (unkey kx).2) ∧ wr.drew.cell? ⟨g, j * 2, none⟩ = some (.int .u64 (unkey ky).1) ∧ wr.drew.cell? ⟨g, j * 2 + 1, none⟩ = some (.int .u64 (unkey ky).2) := ⟨d0, d1, q0, q1⟩
            refine wpAnyL_any (i := 0) (oi := _) (v := .int .i64 (j : Int)) rfl (by kernel_rfl) (by kernel_rfl) (by kernel_rfl) (by kernel_rfl) (fun _ _ _ h => (h : False).elim) (Or.inl ⟨by kernel_rfl, ?_⟩) (fun _ => by assumption) ?_
            · intro w _
              go_simp
            try simp only [List.getElem_toArray, List.getElem_cons_zero, List.getElem_cons_succ, Act.put, List.setIfInBounds_toArray, List.set_cons_zero, List.set_cons_succ]
            refine wpAnyL_any (i := 1) (oi := _) (v := .slice (some ⟨g, 0, none⟩) k c) rfl (by kernel_rfl) (by kernel_rfl) (by kernel_rfl) (by kernel_rfl) (fun _ _ _ h => (h : False).elim) (Or.inl ⟨by kernel_rfl, ?_⟩) (fun _ => by assumption) ?_
            · intro w _
              go_simp
            try simp only [List.getElem_toArray, List.getElem_cons_zero, List.getElem_cons_succ, Act.put, List.setIfInBounds_toArray, List.set_cons_zero, List.set_cons_succ]
            refine wpAnyL_any (i := 2) (oi := _) (v := .int .i64 (k : Int)) rfl (by kernel_rfl) (by kernel_rfl) (by kernel_rfl) (by kernel_rfl) (fun _ _ _ h => (h : False).elim) (Or.inl ⟨by kernel_rfl, ?_⟩) (fun _ => by assumption) ?_
            · intro w _
              go_simp
            try simp only [List.getElem_toArray, List.getElem_cons_zero, List.getElem_cons_succ, Act.put, List.setIfInBounds_toArray, List.set_cons_zero, List.set_cons_succ]
            refine wpAnyL_any (i := 3) (oi := _) (v := .bool true) rfl (by kernel_rfl) (by kernel_rfl) (by kernel_rfl) (by kernel_rfl) (fun _ _ _ h => (h : False).elim) (Or.inl ⟨by kernel_rfl, ?_⟩) (fun _ => by assumption) ?_
            · intro w _
              go_simp
            try simp only [List.getElem_toArray, List.getElem_cons_zero, List.getElem_cons_succ, Act.put, List.setIfInBounds_toArray, List.set_cons_zero, List.set_cons_succ]
            refine wpAnyL_any (i := 4) (oi := _) (v := .bool true) rfl (by kernel_rfl) (by kernel_rfl) (by kernel_rfl) (by kernel_rfl) (fun _ _ _ h => (h : False).elim) (Or.inl ⟨by kernel_rfl, ?_⟩) (fun _ => by assumption) ?_
            · intro w _
              go_simp
            try simp only [List.getElem_toArray, List.getElem_cons_zero, List.getElem_cons_succ, Act.put, List.setIfInBounds_toArray, List.set_cons_zero, List.set_cons_succ]
            refine wpAnyL_take (i := 5) (oi := _) (v := .agg #[.int .u64 (unkey kx).1, .int .u64 (unkey kx).2]) rfl (by kernel_rfl) (by kernel_rfl) (by kernel_rfl) (by kernel_rfl) (fun _ _ _ h => (h : False).elim) (Or.inl ⟨by kernel_rfl, ?_⟩) (by assumption) ?_
            · intro w hSw
              obtain ⟨s0, s1, s2, s3⟩ := hSw
              go_simp
            try simp only [List.getElem_toArray, List.getElem_cons_zero, List.getElem_cons_succ, Act.put, List.setIfInBounds_toArray, List.set_cons_zero, List.set_cons_succ]
            refine wpAnyL_any (i := 6) (oi := _) (v := .slice (some ⟨g, 0, none⟩) k c) rfl (by kernel_rfl) (by kernel_rfl) (by kernel_rfl) (by kernel_rfl) (fun _ _ _ h => (h : False).elim) (Or.inl ⟨by kernel_rfl, ?_⟩) (fun _ => by assumption) ?_
            · intro w _
              go_simp
            try simp only [List.getElem_toArray, List.getElem_cons_zero, List.getElem_cons_succ, Act.put, List.setIfInBounds_toArray, List.set_cons_zero, List.set_cons_succ]
            refine wpAnyL_any (i := 7) (oi := _) (v := .int .i64 (j : Int)) rfl (by kernel_rfl) (by kernel_rfl) (by kernel_rfl) (by kernel_rfl) (fun _ _ _ h => (h : False).elim) (Or.inl ⟨by kernel_rfl, ?_⟩) (fun _ => by assumption) ?_
            · intro w _
              go_simp
            try simp only [List.getElem_toArray, List.getElem_cons_zero, List.getElem_cons_succ, Act.put, List.setIfInBounds_toArray, List.set_cons_zero, List.set_cons_succ]
            refine wpAnyL_any (i := 8) (oi := _) (v := .pointer (some ⟨g, j * 2, none⟩)) rfl (by kernel_rfl) (by kernel_rfl) (by kernel_rfl) (by kernel_rfl) (fun _ _ _ h => (h : False).elim) (Or.inl ⟨by kernel_rfl, ?_⟩) (fun _ => by assumption) ?_
            · intro w _
              go_simp
            try simp only [List.getElem_toArray, List.getElem_cons_zero, List.getElem_cons_succ, Act.put, List.setIfInBounds_toArray, List.set_cons_zero, List.set_cons_succ]
            refine wpAnyL_take (i := 9) (oi := _) (v := .agg #[.int .u64 (unkey ky).1, .int .u64 (unkey ky).2]) rfl (by kernel_rfl) (by kernel_rfl) (by kernel_rfl) (by kernel_rfl) (fun _ _ _ h => (h : False).elim) (Or.inl ⟨by kernel_rfl, ?_⟩) (by assumption) ?_
            · intro w hSw
              obtain ⟨s0, s1, s2, s3⟩ := hSw
              go_simp
            try simp only [List.getElem_toArray, List.getElem_cons_zero, List.getElem_cons_succ, Act.put, List.setIfInBounds_toArray, List.set_cons_zero, List.set_cons_succ]
            refine wpAnyL_next (i := 10) (by kernel_rfl) rfl (fun K hK => ?_)
            go_simp
            refine (rless_calls (unkey kx).1 (unkey kx).2 (unkey ky).1 (unkey ky).2 hX.1 hX.2 hY.1 hY.2 _).mono ?_
            rw [show lessR ((unkey kx).1, (unkey kx).2) ((unkey ky).1, (unkey ky).2) = false from hless]
            rintro e w6 ⟨rfl, hk2'⟩
            have hk2 : Keeps (fun _ => False) wr w6 := ((Keeps.refl _ wr).drewN 1).trans hk2' (fun _ _ h => h)
            clear hk2'
            go_wp2_with fail
            refine hK.out _ _ ⟨(hk2.cell (p := ⟨bx, 0, none⟩) hbl (fun h => h)).trans d0, (hk2.cell (p := ⟨bx, 1, none⟩) hbl (fun h => h)).trans d1, (hk2.cell (p := ⟨g, j * 2, none⟩) hgl (fun h => h)).trans q0, (hk2.cell (p := ⟨g, j * 2 + 1, none⟩) hgl (fun h => h)).trans q1⟩ (fun hHeld => ?_)
            clear hK K
            try simp only [List.getElem_toArray, List.getElem_cons_zero, List.getElem_cons_succ, Act.put, List.setIfInBounds_toArray, List.set_cons_zero, List.set_cons_succ]
            refine wpAnyL_any (i := 11) (oi := _) (v := .bool true) rfl (by kernel_rfl) (by kernel_rfl) (by kernel_rfl) (by kernel_rfl) (fun _ _ _ h => (h : False).elim) (Or.inl ⟨by kernel_rfl, ?_⟩) (fun _ => by assumption) ?_
            · intro w _
              go_simp
            try simp only [List.getElem_toArray, List.getElem_cons_zero, List.getElem_cons_succ, Act.put, List.setIfInBounds_toArray, List.set_cons_zero, List.set_cons_succ]
            refine wpAnyL_any (i := 12) (oi := _) (v := .bool true) rfl (by kernel_rfl) (by kernel_rfl) (by kernel_rfl) (by kernel_rfl) (fun _ _ _ h => (h : False).elim) (Or.inl ⟨by kernel_rfl, ?_⟩) (fun _ => by assumption) ?_
            · intro w _
              go_simp
            try simp only [List.getElem_toArray, List.getElem_cons_zero, List.getElem_cons_succ, Act.put, List.setIfInBounds_toArray, List.set_cons_zero, List.set_cons_succ]
            refine wpAnyL_done (by kernel_rfl) ?_ _
            refine NoPanic.normal ?_
            have Hk6 := Lib.hid (Hkw.out.trans hk2 (fun _ _ h => h))
            clear hk2 hS d0 d1 q0 q1 hless
            go_wp2
            go_roundw
            case rel => exact ⟨j + 1, by omega, by go_num, Hk6.out, H1'.out⟩
            case measure => simp [intOf]; omega
          · have H2 := Lib.hid (show ∀ u, ks[j]? = some u → kx < u from fun u hu => by rw [hy] at hu; cases hu; omega)
            rw [decide_eq_true (show kx < ky by omega)] at hless
            clear hy hgm hrw hdw hkw
            go_wp2_with fail
            refine wp_region_late (fun W => W.cell? ⟨bx, 0, none⟩ = some (.int .u64 (unkey kx).1) ∧ W.cell? ⟨bx, 1, none⟩ = some (.int .u64 (unkey kx).2) ∧ W.cell? ⟨g, j * 2, none⟩ = some (.int .u64 (unkey ky).1) ∧ W.cell? ⟨g, j * 2 + 1, none⟩ = some (.int .u64 (unkey ky).2)) [] (by kernel_rfl) ?_
            have hS : wr.drew.cell? ⟨bx, 0, none⟩ = some (.int .u64 (unkey kx).1) ∧ wr.drew.cell? ⟨bx, 1, none⟩ = some (.int .u64 (unkey kx).2) ∧ wr.drew.cell? ⟨g, j * 2, none⟩ = some (.int .u64 (unkey ky).1) ∧ wr.drew.cell? ⟨g, j * 2 + 1, none⟩ = some (.int .u64 (unkey ky).2) := ⟨d0, d1, q0, q1⟩
            refine wpAnyL_any (i := 0) (oi := _) (v := .int .i64 (j : Int)) rfl (by kernel_rfl) (by kernel_rfl) (by kernel_rfl) (by kernel_rfl) (fun _ _ _ h => (h : False).elim) (Or.inl ⟨by kernel_rfl, ?_⟩) (fun _ => by assumption) ?_
            · intro w _
              go_simp
            try simp only [List.getElem_toArray, List.getElem_cons_zero, List.getElem_cons_succ, Act.put, List.setIfInBounds_toArray, List.set_cons_zero, List.set_cons_succ]
            refine wpAnyL_any (i := 1) (oi := _) (v := .slice (some ⟨g, 0, none⟩) k c) rfl (by kernel_rfl) (by kernel_rfl) (by kernel_rfl) (by kernel_rfl) (fun _ _ _ h => (h : False).elim) (Or.inl ⟨by kernel_rfl, ?_⟩) (fun _ => by assumption) ?_
            · intro w _
              go_simp
            try simp only [List.getElem_toArray, List.getElem_cons_zero, List.getElem_cons_succ, Act.put, List.setIfInBounds_toArray, List.set_cons_zero, List.set_cons_succ]
            refine wpAnyL_any (i := 2) (oi := _) (v := .int .i64 (k : Int)) rfl (by kernel_rfl) (by kernel_rfl) (by kernel_rfl) (by kernel_rfl) (fun _ _ _ h => (h : False).elim) (Or.inl ⟨by kernel_rfl, ?_⟩) (fun _ => by assumption) ?_
            · intro w _
              go_simp
            try simp only [List.getElem_toArray, List.getElem_cons_zero, List.getElem_cons_succ, Act.put, List.setIfInBounds_toArray, List.set_cons_zero, List.set_cons_succ]
            refine wpAnyL_any (i := 3) (oi := _) (v := .bool true) rfl (by kernel_rfl) (by kernel_rfl) (by kernel_rfl) (by kernel_rfl) (fun _ _ _ h => (h : False).elim) (Or.inl ⟨by kernel_rfl, ?_⟩) (fun _ => by assumption) ?_
            · intro w _
              go_simp
            try simp only [List.getElem_toArray, List.getElem_cons_zero, List.getElem_cons_succ, Act.put, List.setIfInBounds_toArray, List.set_cons_zero, List.set_cons_succ]
            refine wpAnyL_any (i := 4) (oi := _) (v := .bool true) rfl (by kernel_rfl) (by kernel_rfl) (by kernel_rfl) (by kernel_rfl) (fun _ _ _ h => (h : False).elim) (Or.inl ⟨by kernel_rfl, ?_⟩) (fun _ => by assumption) ?_
            · intro w _
              go_simp
            try simp only [List.getElem_toArray, List.getElem_cons_zero, List.getElem_cons_succ, Act.put, List.setIfInBounds_toArray, List.set_cons_zero, List.set_cons_succ]
            refine wpAnyL_take (i := 5) (oi := _) (v := .agg #[.int .u64 (unkey kx).1, .int .u64 (unkey kx).2]) rfl (by kernel_rfl) (by kernel_rfl) (by kernel_rfl) (by kernel_rfl) (fun _ _ _ h => (h : False).elim) (Or.inl ⟨by kernel_rfl, ?_⟩) (by assumption) ?_
            · intro w hSw
              obtain ⟨s0, s1, s2, s3⟩ := hSw
              go_simp
            try simp only [List.getElem_toArray, List.getElem_cons_zero, List.getElem_cons_succ, Act.put, List.setIfInBounds_toArray, List.set_cons_zero, List.set_cons_succ]
            refine wpAnyL_any (i := 6) (oi := _) (v := .slice (some ⟨g, 0, none⟩) k c) rfl (by kernel_rfl) (by kernel_rfl) (by kernel_rfl) (by kernel_rfl) (fun _ _ _ h => (h : False).elim) (Or.inl ⟨by kernel_rfl, ?_⟩) (fun _ => by assumption) ?_
            · intro w _
              go_simp
            try simp only [List.getElem_toArray, List.getElem_cons_zero, List.getElem_cons_succ, Act.put, List.setIfInBounds_toArray, List.set_cons_zero, List.set_cons_succ]
            refine wpAnyL_any (i := 7) (oi := _) (v := .int .i64 (j : Int)) rfl (by kernel_rfl) (by kernel_rfl) (by kernel_rfl) (by kernel_rfl) (fun _ _ _ h => (h : False).elim) (Or.inl ⟨by kernel_rfl, ?_⟩) (fun _ => by assumption) ?_
            · intro w _
              go_simp
            try simp only [List.getElem_toArray, List.getElem_cons_zero, List.getElem_cons_succ, Act.put, List.setIfInBounds_toArray, List.set_cons_zero, List.set_cons_succ]
            refine wpAnyL_any (i := 8) (oi := _) (v := .pointer (some ⟨g, j * 2, none⟩)) rfl (by kernel_rfl) (by kernel_rfl) (by kernel_rfl) (by kernel_rfl) (fun _ _ _ h => (h : False).elim) (Or.inl ⟨by kernel_rfl, ?_⟩) (fun _ => by assumption) ?_
            · intro w _
              go_simp
            try simp only [List.getElem_toArray, List.getElem_cons_zero, List.getElem_cons_succ, Act.put, List.setIfInBounds_toArray, List.set_cons_zero, List.set_cons_succ]
            refine wpAnyL_take (i := 9) (oi := _) (v := .agg #[.int .u64 (unkey ky).1, .int .u64 (unkey ky).2]) rfl (by kernel_rfl) (by kernel_rfl) (by kernel_rfl) (by kernel_rfl) (fun _ _ _ h => (h : False).elim) (Or.inl ⟨by kernel_rfl, ?_⟩) (by assumption) ?_
            · intro w hSw
              obtain ⟨s0, s1, s2, s3⟩ := hSw
              go_simp
            try simp only [List.getElem_toArray, List.getElem_cons_zero, List.getElem_cons_succ, Act.put, List.setIfInBounds_toArray, List.set_cons_zero, List.set_cons_succ]
            refine wpAnyL_next (i := 10) (by kernel_rfl) rfl (fun K hK => ?_)
            go_simp
            refine (rless_calls (unkey kx).1 (unkey kx).2 (unkey ky).1 (unkey ky).2 hX.1 hX.2 hY.1 hY.2 _).mono ?_
            rw [show lessR ((unkey kx).1, (unkey kx).2) ((unkey ky).1, (unkey ky).2) = true from hless]
            rintro e w6 ⟨rfl, hk2'⟩
            have hk2 : Keeps (fun _ => False) wr w6 := ((Keeps.refl _ wr).drewN 1).trans hk2' (fun _ _ h => h)
            clear hk2'
            go_wp2_with fail
            refine hK.out _ _ ⟨(hk2.cell (p := ⟨bx, 0, none⟩) hbl (fun h => h)).trans d0, (hk2.cell (p := ⟨bx, 1, none⟩) hbl (fun h => h)).trans d1, (hk2.cell (p := ⟨g, j * 2, none⟩) hgl (fun h => h)).trans q0, (hk2.cell (p := ⟨g, j * 2 + 1, none⟩) hgl (fun h => h)).trans q1⟩ (fun hHeld => ?_)
            clear hK K
            try simp only [List.getElem_toArray, List.getElem_cons_zero, List.getElem_cons_succ, Act.put, List.setIfInBounds_toArray, List.set_cons_zero, List.set_cons_succ]
            refine wpAnyL_any (i := 11) (oi := _) (v := .bool false) rfl (by kernel_rfl) (by kernel_rfl) (by kernel_rfl) (by kernel_rfl) (fun _ _ _ h => (h : False).elim) (Or.inl ⟨by kernel_rfl, ?_⟩) (fun _ => by assumption) ?_
            · intro w _
              go_simp
            try simp only [List.getElem_toArray, List.getElem_cons_zero, List.getElem_cons_succ, Act.put, List.setIfInBounds_toArray, List.set_cons_zero, List.set_cons_succ]
            refine wpAnyL_any (i := 12) (oi := _) (v := .bool false) rfl (by kernel_rfl) (by kernel_rfl) (by kernel_rfl) (by kernel_rfl) (fun _ _ _ h => (h : False).elim) (Or.inl ⟨by kernel_rfl, ?_⟩) (fun _ => by assumption) ?_
            · intro w _
              go_simp
            try simp only [List.getElem_toArray, List.getElem_cons_zero, List.getElem_cons_succ, Act.put, List.setIfInBounds_toArray, List.set_cons_zero, List.set_cons_succ]
            refine wpAnyL_done (by kernel_rfl) ?_ _
            refine NoPanic.normal ?_
            obtain ⟨w7, hw7⟩ : ∃ w7, w6 = w7 := ⟨_, rfl⟩
            have HrD := Lib.hid (row_any Hrw.out hk2)
            have HD7 := Lib.hid ((hk2.block bx (Array.getElem?_eq_some_iff.1 Hdw.out).1 (fun h => h)).trans Hdw.out)
            have HKD := Lib.hid (((HK.out.trans HKo4.out (fun _ _ h => h)).trans Hkw.out (fun _ _ h => h)).trans hk2 (fun _ _ h => h))
            rw [hw7] at HrD HD7 HKD ⊢
            have hjk : j ≤ k := by omega
            clear hk2 hS d0 d1 q0 q1 hless hw7
            have d0 : w7.cell? ⟨bx, 0, none⟩ = some (.int .u64 (unkey kx).1) := by rw [cell_of_row _ _ _ _ _ _ HD7.out]; rfl
            have d1 : w7.cell? ⟨bx, 1, none⟩ = some (.int .u64 (unkey kx).2) := by rw [cell_of_row _ _ _ _ _ _ HD7.out]; rfl
            go_wp2_with (at_builtin; refine wpList_append_mine _ rfl _ _ 30 rfl 24 i0 (.agg #[.int .u64 0, .int .u64 0]) 2 16 Try.underlying30 hi hz0 hz1 hz2 rfl (by decide) _ _ _ rfl (HrD.out.alloc _) ⟨w7.heap.size, 0, none⟩ 1 1 [.int .u64 (unkey kx).1, .int .u64 (unkey kx).2] rfl rfl ?c1 ?c2 (by decide) ?c3 ?c4 ?_)
            case c1 =>
              intro z u hz
              have hadd : (⟨w7.heap.size, 0, none⟩ : Addr).add z = ⟨w7.heap.size, 0 + z, none⟩ := by unfold Addr.add; split <;> simp_all
              rw [hadd, cell_of_row _ _ _ _ _ _ (heap_alloc_new w7 _), Nat.zero_add]
              simpa using hz
            case c2 => intro u hu; simp at hu; rcases hu with rfl | rfl <;> rfl
            case c3 => unfold maxLen; omega
            case c4 => omega
            intro g2 cap2 w8 hown2 hgrow2 hgg
            have hbl7 := (Array.getElem?_eq_some_iff.1 HD7.out).1
            have hg2 : w.heap.size ≤ g2 ∧ g2 ≠ bx := by
              rcases hgg with h | h
              · have := Hown.out g2 h
                have := Hbx.out
                omega
              · have := HKD.out.size
                try simp at h
                omega
            have hd8 : w8.heap[bx]? = some (.cells #[.int .u64 (unkey kx).1, .int .u64 (unkey kx).2] 24 (0, 0)) := by
              rw [hgrow2.block bx (by simp; omega) (fun e => by have := Hown.out bx e.symm; have := Hbx.out; omega), Below.heap_alloc _ _ _ hbl7]
              exact HD7.out
            have hK8 : Keeps (fun _ => False) w w8 := (HKD.out.alloc _).grown hgrow2 (fun g' hg hlt => by have := Hown.out g' hg; omega)
            have Hown2 := Lib.hid (show w8.ownsRow 0 24 2 (.slice (some ⟨g2, 0, none⟩) (k + 1) cap2) (k + 1) (rflat ((ks.map unkey).take k ++ unkey kx :: (ks.map unkey).drop k)) by
              have e : rflat ((ks.map unkey).take k ++ unkey kx :: (ks.map unkey).drop k) = rflat (ks.map unkey) ++ [.int .u64 (unkey kx).1, .int .u64 (unkey kx).2] := by
                rw [List.take_of_length_le (by rw [List.length_map, Hsl.out]; exact Nat.le_refl _), List.drop_eq_nil_of_le (by rw [List.length_map, Hsl.out]; exact Nat.le_refl _), rflat_append]
                rfl
              rw [e]; exact hown2)
            have HK8 := Lib.hid hK8
            have HD8 := Lib.hid hd8
            have Hg2 := Lib.hid hg2
            clear hown2 hgrow2 hK8 hd8 hg2 hgg hbl7
            go_wp2_with fail
            go_loopw [7] (fun m wr => ∃ (q : Nat) (z : Rec), j ≤ q ∧ q ≤ k ∧ m = .int .i64 q ∧ wr.ownsRow 0 24 2 (.slice (some ⟨g2, 0, none⟩) (k + 1) cap2) (k + 1) (rflat ((ks.map unkey).take q ++ z :: (ks.map unkey).drop q)) ∧ wr.heap[bx]? = some (.cells #[.int .u64 (unkey kx).1, .int .u64 (unkey kx).2] 24 (0, 0)) ∧ Keeps (fun _ => False) w wr) (fun m _ => (intOf m).toNat - j)
            case atStart => exact ⟨k, unkey kx, hjk, Nat.le_refl _, by go_num, Hown2.out, HD8.out, HK8.out⟩
            case round =>
              obtain ⟨q, z, hq1, hq2, rfl, hr3, hd3, hk3⟩ := hrel
              have hml : ((ks.map unkey).take q ++ z :: (ks.map unkey).drop q).length = k + 1 := by rw [List.length_append, List.length_cons, List.length_take, List.length_drop, List.length_map, Hsl.out]; omega
              by_cases hq : j < q
              · obtain ⟨q', rfl⟩ : ∃ q', q = q' + 1 := ⟨q - 1, by omega⟩
                obtain ⟨y', hy'⟩ : ∃ y', (ks.map unkey)[q']? = some y' := ⟨(ks.map unkey)[q']'(by rw [List.length_map, Hsl.out]; omega), List.getElem?_eq_getElem _⟩
                have hgm := rflat_get ((ks.map unkey).take (q' + 1) ++ z :: (ks.map unkey).drop (q' + 1)) q' y' (by rw [List.getElem?_append_left (by rw [List.length_take, List.length_map, Hsl.out]; omega), List.getElem?_take, if_pos (by omega)]; exact hy')
                have r0 := (hr3.cellAt (q' * 2) (by omega)).trans hgm.1
                have r1 := (hr3.cellAt (q' * 2 + 1) (by omega)).trans hgm.2
                have f0 := hr3.frozenAt ((q' + 1) * 2)
                have f1 := hr3.frozenAt ((q' + 1) * 2 + 1)
                have ⟨cz, s0⟩ : ∃ u, wr.cell? ⟨g2, (q' + 1) * 2, none⟩ = some u := ⟨_, (hr3.cellAt ((q' + 1) * 2) (by omega)).trans (List.getElem?_eq_getElem (by rw [rflat_length, hml]; omega))⟩
                have ⟨cz1, s1⟩ : ∃ u, wr.cell? ⟨g2, (q' + 1) * 2 + 1, none⟩ = some u := ⟨_, (hr3.cellAt ((q' + 1) * 2 + 1) (by omega)).trans (List.getElem?_eq_getElem (by rw [rflat_length, hml]; omega))⟩
                have hst := ((hr3.stored ((q' + 1) * 2) (.int .u64 y'.1)).1.stored ((q' + 1) * 2 + 1) (.int .u64 y'.2)).1
                rw [← rflat_set _ (q' + 1) y' (by rw [hml]; omega), gset_shift (by rw [List.length_map, Hsl.out]; omega) hy'] at hst
                have Hst := Lib.hid hst
                have Hk3 := Lib.hid (((hk3.setCell ⟨g2, (q' + 1) * 2, none⟩ (fun hl => by have := Hg2.out.1; simp only at hl; omega) (.int .u64 y'.1)).setCell ⟨g2, (q' + 1) * 2 + 1, none⟩ (fun hl => by have := Hg2.out.1; simp only at hl; omega) (.int .u64 y'.2)))
                have Hd3 := Lib.hid (((keeps_at wr g2 ((q' + 1) * 2) (.int .u64 y'.1)).trans (keeps_at _ g2 ((q' + 1) * 2 + 1) (.int .u64 y'.2)) (fun _ _ h => h)).block bx (Array.getElem?_eq_some_iff.1 hd3).1 (fun h => Hg2.out.2 h.symm) |>.trans hd3)
                have hqj : (j : Int) < ((q' + 1 : Nat) : Int) := by omega
                have hqs : ((q' + 1 : Nat) : Int) - 1 = (q' : Int) := by omega
                have hq0 : (0 : Int) ≤ (q' : Int) := by omega
                have hqk : (q' : Int) < ((k + 1 : Nat) : Int) := by omega
                have hqk1 : ((q' + 1 : Nat) : Int) < ((k + 1 : Nat) : Int) := by omega
                clear hgm hy' hr3 hd3 hk3 hst hml
                go_wp2
                go_roundw
                case rel => exact ⟨q', y', by omega, by omega, by go_num, Hst.out, Hd3.out, Hk3.out⟩
                case measure => simp [intOf]; omega
              · obtain rfl : j = q := by omega
                have f0 := hr3.frozenAt (j * 2)
                have f1 := hr3.frozenAt (j * 2 + 1)
                have ⟨cz, s0⟩ : ∃ u, wr.cell? ⟨g2, j * 2, none⟩ = some u := ⟨_, (hr3.cellAt (j * 2) (by omega)).trans (List.getElem?_eq_getElem (by rw [rflat_length, hml]; omega))⟩
                have ⟨cz1, s1⟩ : ∃ u, wr.cell? ⟨g2, j * 2 + 1, none⟩ = some u := ⟨_, (hr3.cellAt (j * 2 + 1) (by omega)).trans (List.getElem?_eq_getElem (by rw [rflat_length, hml]; omega))⟩
                have b0 : wr.cell? ⟨bx, 0, none⟩ = some (.int .u64 (unkey kx).1) := by rw [cell_of_row _ _ _ _ _ _ hd3]; rfl
                have b1 : wr.cell? ⟨bx, 1, none⟩ = some (.int .u64 (unkey kx).2) := by rw [cell_of_row _ _ _ _ _ _ hd3]; rfl
                have hst := ((hr3.stored (j * 2) (.int .u64 (unkey kx).1)).1.stored (j * 2 + 1) (.int .u64 (unkey kx).2)).1
                rw [← rflat_set _ j (unkey kx) (by rw [hml]; omega), gset_here (by rw [List.length_map, Hsl.out]; omega)] at hst
                have Hst := Lib.hid (show ((wr.setCell ⟨g2, j * 2, none⟩ (.int .u64 (unkey kx).1)).setCell ⟨g2, j * 2 + 1, none⟩ (.int .u64 (unkey kx).2)).ownsRow 0 24 2 (.slice (some ⟨g2, 0, none⟩) (k + 1) cap2) (k + 1) (rflat ((ks.take j ++ kx :: ks.drop j).map unkey)) by
                  rw [List.map_append, List.map_cons, List.map_take, List.map_drop]; exact hst)
                have Hlt2 := Lib.hid (hst.lt g2 rfl)
                have Hk3 := Lib.hid (((hk3.setCell ⟨g2, j * 2, none⟩ (fun hl => by have := Hg2.out.1; simp only at hl; omega) (.int .u64 (unkey kx).1)).setCell ⟨g2, j * 2 + 1, none⟩ (fun hl => by have := Hg2.out.1; simp only at hl; omega) (.int .u64 (unkey kx).2)))
                have Hns := Lib.hid (show srt (ks.take j ++ kx :: ks.drop j) from ins_sorted Hs.out H1.out H2.out)
                have Hnp := Lib.hid (show (ks.take j ++ kx :: ks.drop j).Perm ((l.map keyR).take (k + 1)) from ins_perm Hp.out Hxk.out)
                have Hnl := Lib.hid (show (ks.take j ++ kx :: ks.drop j).length = k + 1 by rw [List.length_append, List.length_cons, List.length_take, List.length_drop, Hsl.out]; omega)
                have hqj : ¬ (j : Int) < (j : Int) := by omega
                have hj0 : (0 : Int) ≤ (j : Int) := by omega
                have hjk1 : (j : Int) < ((k + 1 : Nat) : Int) := by omega
                clear hr3 hd3 hk3 hst hml
                go_wp2
                go_roundw
                case rel => exact ⟨k + 1, ks.take j ++ kx :: ks.drop j, by omega, by go_num, Hnl.out, Hns.out, Hnp.out, Hst.out, fun g' h => by cases h; exact ⟨Hg2.out.1, Hlt2.out.2⟩, Hk3.out⟩
                case measure => simp [intOf]; omega
        · obtain rfl : k = j := by omega
          have H2 := Lib.hid (show ∀ u, ks[k]? = some u → kx < u from fun u hu => by have := (List.getElem?_eq_some_iff.1 hu).1; rw [Hsl.out] at this; omega)
          have hkk : ¬ (k : Int) < (k : Int) := by omega
          clear hkw hj
          go_wp2_with fail
          refine wp_region_late (fun _ => True) [] (by kernel_rfl) ?_
          have hS : True := trivial
          refine wpAnyL_any (i := 0) (oi := _) (v := .int .i64 (k : Int)) rfl (by kernel_rfl) (by kernel_rfl) (by kernel_rfl) (by kernel_rfl) (fun _ _ _ h => (h : False).elim) (Or.inl ⟨by kernel_rfl, ?_⟩) (fun _ => by assumption) ?_
          · intro w _
            go_simp
          try simp only [List.getElem_toArray, List.getElem_cons_zero, List.getElem_cons_succ, Act.put, List.setIfInBounds_toArray, List.set_cons_zero, List.set_cons_succ]
          refine wpAnyL_any (i := 1) (oi := _) (v := .slice ao k c) rfl (by kernel_rfl) (by kernel_rfl) (by kernel_rfl) (by kernel_rfl) (fun _ _ _ h => (h : False).elim) (Or.inl ⟨by kernel_rfl, ?_⟩) (fun _ => by assumption) ?_
          · intro w _
            go_simp
          try simp only [List.getElem_toArray, List.getElem_cons_zero, List.getElem_cons_succ, Act.put, List.setIfInBounds_toArray, List.set_cons_zero, List.set_cons_succ]
          refine wpAnyL_any (i := 2) (oi := _) (v := .int .i64 (k : Int)) rfl (by kernel_rfl) (by kernel_rfl) (by kernel_rfl) (by kernel_rfl) (fun _ _ _ h => (h : False).elim) (Or.inl ⟨by kernel_rfl, ?_⟩) (fun _ => by assumption) ?_
          · intro w _
            go_simp
          try simp only [List.getElem_toArray, List.getElem_cons_zero, List.getElem_cons_succ, Act.put, List.setIfInBounds_toArray, List.set_cons_zero, List.set_cons_succ]
          refine wpAnyL_any (i := 3) (oi := _) (v := .bool false) rfl (by kernel_rfl) (by kernel_rfl) (by kernel_rfl) (by kernel_rfl) (fun _ _ _ h => (h : False).elim) (Or.inl ⟨by kernel_rfl, ?_⟩) (fun _ => by assumption) ?_
          · intro w _
            go_simp
          try simp only [List.getElem_toArray, List.getElem_cons_zero, List.getElem_cons_succ, Act.put, List.setIfInBounds_toArray, List.set_cons_zero, List.set_cons_succ]
          refine wpAnyL_any (i := 4) (oi := _) (v := .bool false) rfl (by kernel_rfl) (by kernel_rfl) (by kernel_rfl) (by kernel_rfl) (fun _ _ _ h => (h : False).elim) (Or.inl ⟨by kernel_rfl, ?_⟩) (fun _ => by assumption) ?_
          · intro w _
            go_simp
          try simp only [List.getElem_toArray, List.getElem_cons_zero, List.getElem_cons_succ, Act.put, List.setIfInBounds_toArray, List.set_cons_zero, List.set_cons_succ]
          refine wpAnyL_any (i := 5) (oi := _) (v := undef) rfl (by kernel_rfl) (by kernel_rfl) (by kernel_rfl) (by kernel_rfl) (fun _ _ _ h => (h : False).elim) (Or.inr ⟨by kernel_rfl, rfl⟩) (fun _ => by assumption) ?_
          try simp only [List.getElem_toArray, List.getElem_cons_zero, List.getElem_cons_succ, Act.put, List.setIfInBounds_toArray, List.set_cons_zero, List.set_cons_succ]
          refine wpAnyL_any (i := 6) (oi := _) (v := undef) rfl (by kernel_rfl) (by kernel_rfl) (by kernel_rfl) (by kernel_rfl) (fun _ _ _ h => (h : False).elim) (Or.inr ⟨by kernel_rfl, rfl⟩) (fun _ => by assumption) ?_
          try simp only [List.getElem_toArray, List.getElem_cons_zero, List.getElem_cons_succ, Act.put, List.setIfInBounds_toArray, List.set_cons_zero, List.set_cons_succ]
          refine wpAnyL_any (i := 7) (oi := _) (v := undef) rfl (by kernel_rfl) (by kernel_rfl) (by kernel_rfl) (by kernel_rfl) (fun _ _ _ h => (h : False).elim) (Or.inr ⟨by kernel_rfl, rfl⟩) (fun _ => by assumption) ?_
          try simp only [List.getElem_toArray, List.getElem_cons_zero, List.getElem_cons_succ, Act.put, List.setIfInBounds_toArray, List.set_cons_zero, List.set_cons_succ]
          refine wpAnyL_any (i := 8) (oi := _) (v := undef) rfl (by kernel_rfl) (by kernel_rfl) (by kernel_rfl) (by kernel_rfl) (fun _ _ _ h => (h : False).elim) (Or.inr ⟨by kernel_rfl, rfl⟩) (fun _ => by assumption) ?_
          try simp only [List.getElem_toArray, List.getElem_cons_zero, List.getElem_cons_succ, Act.put, List.setIfInBounds_toArray, List.set_cons_zero, List.set_cons_succ]
          refine wpAnyL_any (i := 9) (oi := _) (v := undef) rfl (by kernel_rfl) (by kernel_rfl) (by kernel_rfl) (by kernel_rfl) (fun _ _ _ h => (h : False).elim) (Or.inr ⟨by kernel_rfl, rfl⟩) (fun _ => by assumption) ?_
          try simp only [List.getElem_toArray, List.getElem_cons_zero, List.getElem_cons_succ, Act.put, List.setIfInBounds_toArray, List.set_cons_zero, List.set_cons_succ]
          refine wpAnyL_any (i := 10) (oi := _) (v := undef) rfl (by kernel_rfl) (by kernel_rfl) (by kernel_rfl) (by kernel_rfl) (fun _ _ _ h => (h : False).elim) (Or.inr ⟨by kernel_rfl, rfl⟩) (fun _ => by assumption) ?_
          try simp only [List.getElem_toArray, List.getElem_cons_zero, List.getElem_cons_succ, Act.put, List.setIfInBounds_toArray, List.set_cons_zero, List.set_cons_succ]
          refine wpAnyL_any (i := 11) (oi := _) (v := undef) rfl (by kernel_rfl) (by kernel_rfl) (by kernel_rfl) (by kernel_rfl) (fun _ _ _ h => (h : False).elim) (Or.inr ⟨by kernel_rfl, rfl⟩) (fun _ => by assumption) ?_
          try simp only [List.getElem_toArray, List.getElem_cons_zero, List.getElem_cons_succ, Act.put, List.setIfInBounds_toArray, List.set_cons_zero, List.set_cons_succ]
          refine wpAnyL_any (i := 12) (oi := _) (v := .bool false) rfl (by kernel_rfl) (by kernel_rfl) (by kernel_rfl) (by kernel_rfl) (fun _ _ _ h => (h : False).elim) (Or.inl ⟨by kernel_rfl, ?_⟩) (fun _ => by assumption) ?_
          · intro w _
            go_simp
          try simp only [List.getElem_toArray, List.getElem_cons_zero, List.getElem_cons_succ, Act.put, List.setIfInBounds_toArray, List.set_cons_zero, List.set_cons_succ]
          refine wpAnyL_done (by kernel_rfl) ?_ _
          refine NoPanic.normal ?_
          obtain ⟨w7, hw7⟩ : ∃ w7, wr.drew = w7 := ⟨_, rfl⟩
          have hk2 : Keeps (fun _ => False) wr w7 := by rw [← hw7]; exact (Keeps.refl _ wr).drewN 1
          have HrD := Lib.hid (row_any (row_any (row_any Hrow.out HKo4.out) Hkw.out) hk2)
          have HD7 := Lib.hid (((Hkw.out.trans hk2 (fun _ _ h => h)).block bx (Array.getElem?_eq_some_iff.1 HD4.out).1 (fun h => h)).trans HD4.out)
          have HKD := Lib.hid (((HK.out.trans HKo4.out (fun _ _ h => h)).trans Hkw.out (fun _ _ h => h)).trans hk2 (fun _ _ h => h))
          have d0 : w7.cell? ⟨bx, 0, none⟩ = some (.int .u64 (unkey kx).1) := by rw [cell_of_row _ _ _ _ _ _ HD7.out]; rfl
          have d1 : w7.cell? ⟨bx, 1, none⟩ = some (.int .u64 (unkey kx).2) := by rw [cell_of_row _ _ _ _ _ _ HD7.out]; rfl
          rw [hw7]
          clear hk2 hS hw7
          go_wp2_with (at_builtin; refine wpList_append_mine _ rfl _ _ 30 rfl 24 i0 (.agg #[.int .u64 0, .int .u64 0]) 2 16 Try.underlying30 hi hz0 hz1 hz2 rfl (by decide) _ _ _ rfl (HrD.out.alloc _) ⟨w7.heap.size, 0, none⟩ 1 1 [.int .u64 (unkey kx).1, .int .u64 (unkey kx).2] rfl rfl ?c1 ?c2 (by decide) ?c3 ?c4 ?_)
          case c1 =>
            intro z u hz
            have hadd : (⟨w7.heap.size, 0, none⟩ : Addr).add z = ⟨w7.heap.size, 0 + z, none⟩ := by unfold Addr.add; split <;> simp_all
            rw [hadd, cell_of_row _ _ _ _ _ _ (heap_alloc_new w7 _), Nat.zero_add]
            simpa using hz
          case c2 => intro u hu; simp at hu; rcases hu with rfl | rfl <;> rfl
          case c3 => unfold maxLen; omega
          case c4 => omega
          intro g2 cap2 w8 hown2 hgrow2 hgg
          have hbl7 := (Array.getElem?_eq_some_iff.1 HD7.out).1
          have hg2 : w.heap.size ≤ g2 ∧ g2 ≠ bx := by
            rcases hgg with h | h
            · have := Hown.out g2 h
              have := Hbx.out
              omega
            · have := HKD.out.size
              try simp at h
              omega
          have hd8 : w8.heap[bx]? = some (.cells #[.int .u64 (unkey kx).1, .int .u64 (unkey kx).2] 24 (0, 0)) := by
            rw [hgrow2.block bx (by simp; omega) (fun e => by have := Hown.out bx e.symm; have := Hbx.out; omega), Below.heap_alloc _ _ _ hbl7]
            exact HD7.out
          have hK8 : Keeps (fun _ => False) w w8 := (HKD.out.alloc _).grown hgrow2 (fun g' hg hlt => by have := Hown.out g' hg; omega)
          have Hown2 := Lib.hid (show w8.ownsRow 0 24 2 (.slice (some ⟨g2, 0, none⟩) (k + 1) cap2) (k + 1) (rflat ((ks.map unkey).take k ++ unkey kx :: (ks.map unkey).drop k)) by
            have e : rflat ((ks.map unkey).take k ++ unkey kx :: (ks.map unkey).drop k) = rflat (ks.map unkey) ++ [.int .u64 (unkey kx).1, .int .u64 (unkey kx).2] := by
              rw [List.take_of_length_le (by rw [List.length_map, Hsl.out]; exact Nat.le_refl _), List.drop_eq_nil_of_le (by rw [List.length_map, Hsl.out]; exact Nat.le_refl _), rflat_append]
              rfl
            rw [e]; exact hown2)
          have HK8 := Lib.hid hK8
          have HD8 := Lib.hid hd8
          have Hg2 := Lib.hid hg2
          clear hown2 hgrow2 hK8 hd8 hg2 hgg hbl7
          go_wp2_with fail
          go_loopw [7] (fun m wr => ∃ (q : Nat) (z : Rec), k ≤ q ∧ q ≤ k ∧ m = .int .i64 q ∧ wr.ownsRow 0 24 2 (.slice (some ⟨g2, 0, none⟩) (k + 1) cap2) (k + 1) (rflat ((ks.map unkey).take q ++ z :: (ks.map unkey).drop q)) ∧ wr.heap[bx]? = some (.cells #[.int .u64 (unkey kx).1, .int .u64 (unkey kx).2] 24 (0, 0)) ∧ Keeps (fun _ => False) w wr) (fun m _ => (intOf m).toNat - k)
          case atStart => exact ⟨k, unkey kx, hjk, Nat.le_refl _, by go_num, Hown2.out, HD8.out, HK8.out⟩
          case round =>
            obtain ⟨q, z, hq1, hq2, rfl, hr3, hd3, hk3⟩ := hrel
            have hml : ((ks.map unkey).take q ++ z :: (ks.map unkey).drop q).length = k + 1 := by rw [List.length_append, List.length_cons, List.length_take, List.length_drop, List.length_map, Hsl.out]; omega
            by_cases hq : k < q
            · exact absurd hq (by omega)
            · obtain rfl : k = q := by omega
              have f0 := hr3.frozenAt (k * 2)
              have f1 := hr3.frozenAt (k * 2 + 1)
              have ⟨cz, s0⟩ : ∃ u, wr.cell? ⟨g2, k * 2, none⟩ = some u := ⟨_, (hr3.cellAt (k * 2) (by omega)).trans (List.getElem?_eq_getElem (by rw [rflat_length, hml]; omega))⟩
              have ⟨cz1, s1⟩ : ∃ u, wr.cell? ⟨g2, k * 2 + 1, none⟩ = some u := ⟨_, (hr3.cellAt (k * 2 + 1) (by omega)).trans (List.getElem?_eq_getElem (by rw [rflat_length, hml]; omega))⟩
              have b0 : wr.cell? ⟨bx, 0, none⟩ = some (.int .u64 (unkey kx).1) := by rw [cell_of_row _ _ _ _ _ _ hd3]; rfl
              have b1 : wr.cell? ⟨bx, 1, none⟩ = some (.int .u64 (unkey kx).2) := by rw [cell_of_row _ _ _ _ _ _ hd3]; rfl
              have hst := ((hr3.stored (k * 2) (.int .u64 (unkey kx).1)).1.stored (k * 2 + 1) (.int .u64 (unkey kx).2)).1
              rw [← rflat_set _ k (unkey kx) (by rw [hml]; omega), gset_here (by rw [List.length_map, Hsl.out]; omega)] at hst
              have Hst := Lib.hid (show ((wr.setCell ⟨g2, k * 2, none⟩ (.int .u64 (unkey kx).1)).setCell ⟨g2, k * 2 + 1, none⟩ (.int .u64 (unkey kx).2)).ownsRow 0 24 2 (.slice (some ⟨g2, 0, none⟩) (k + 1) cap2) (k + 1) (rflat ((ks.take k ++ kx :: ks.drop k).map unkey)) by
                rw [List.map_append, List.map_cons, List.map_take, List.map_drop]; exact hst)
              have Hlt2 := Lib.hid (hst.lt g2 rfl)
              have Hk3 := Lib.hid (((hk3.setCell ⟨g2, k * 2, none⟩ (fun hl => by have := Hg2.out.1; simp only at hl; omega) (.int .u64 (unkey kx).1)).setCell ⟨g2, k * 2 + 1, none⟩ (fun hl => by have := Hg2.out.1; simp only at hl; omega) (.int .u64 (unkey kx).2)))
              have Hns := Lib.hid (show srt (ks.take k ++ kx :: ks.drop k) from ins_sorted Hs.out H1.out H2.out)
              have Hnp := Lib.hid (show (ks.take k ++ kx :: ks.drop k).Perm ((l.map keyR).take (k + 1)) from ins_perm Hp.out Hxk.out)
              have Hnl := Lib.hid (show (ks.take k ++ kx :: ks.drop k).length = k + 1 by rw [List.length_append, List.length_cons, List.length_take, List.length_drop, Hsl.out]; omega)
              have hqj : ¬ (k : Int) < (k : Int) := by omega
              have hj0 : (0 : Int) ≤ (k : Int) := by omega
              have hjk1 : (k : Int) < ((k + 1 : Nat) : Int) := by omega
              clear hr3 hd3 hk3 hst hml
              go_wp2
              go_roundw
              case rel => exact ⟨k + 1, ks.take k ++ kx :: ks.drop k, by omega, by go_num, Hnl.out, Hns.out, Hnp.out, Hst.out, fun g' h => by cases h; exact ⟨Hg2.out.1, Hlt2.out.2⟩, Hk3.out⟩
              case measure => simp [intOf]; omega
    · obtain rfl : l.length = k := by omega
      have hR : (ks.map unkey) = sortR l := by
        unfold sortR
        rw [List.take_of_length_le (by rw [List.length_map]; exact Nat.le_refl _)] at hp
        rw [sorted_unique hs (sortK_sorted l) (hp.trans (sortK_perm l).symm)]
      rw [hR] at hrow
      have hv : recAt wr u3 (sortR l) := by
        rcases hrow.2 with ⟨he, h0⟩ | ⟨g, c, cur, he, _⟩
        · exact .inl ⟨List.eq_nil_of_length_eq_zero (by rw [sortR_length]; omega), none, 0, he⟩
        · rw [he] at hrow ⊢
          have := rec_of_row (c := c) hrow (sortR_length l) (sortR l) (fun i r h => h)
          rw [sortR_length] at this
          exact this
      have Hv := Lib.hid hv
      clear hsl hs hp hrow hown hK hv hR
      go_wp2
      go_ret
      exact ⟨_, rfl, Hv.out, HK.out⟩
theorem rec_row {w : World} {base : Nat} {v : Value} {l : List Rec} (h : w.ownsRow base 24 2 v l.length (rflat l)) : recAt w v l := by
  rcases h.2 with ⟨he, h0⟩ | ⟨g, c, cur, he, _⟩
  · exact .inl ⟨List.eq_nil_of_length_eq_zero h0, none, 0, he⟩
  · rw [he] at h ⊢
    exact rec_of_row (c := c) h rfl l (fun i r h => h)
theorem rsort_any (v : Value) (l : List Rec) (hl : l.length ≤ 1000) (w : World) (hv : recAt w v l) (hok : Recs l) :
    Calls Try.prog 19 #[v] w fun e w' => ∃ v, e = .returned v ∧ recAt w' v (sortR l) ∧ Keeps (fun _ => False) w w' := by
  rcases hv with ⟨rfl, ao, cap, rfl⟩ | ⟨_, b, off, cap, rfl, hb, hc⟩
  · exact (rsort_empty ao cap w).mono fun e w' ⟨he, hw⟩ => ⟨_, he, .inl ⟨by unfold sortR sortK; simp, _, _, rfl⟩, by rw [hw]; exact Keeps.refl _ _⟩
  · exact rsort_some b off cap l hl w hb hok hc
set_option maxHeartbeats 1000000 in
theorem sorts_law (v : Value) (l : List Rec) (w : World) (hv : recAt w v l) (hok : Recs l) : Calls Try.prog 5 #[v] w (Yes w) := by
  obtain ⟨ao, cap, hva⟩ : ∃ ao cap, v = .slice ao l.length cap := by
    rcases hv with ⟨rfl, ao, cap, rfl⟩ | ⟨_, b, off, cap, rfl, _⟩
    · exact ⟨_, _, rfl⟩
    · exact ⟨_, _, rfl⟩
  subst hva
  by_cases hl : l.length ≤ 100
  · have hl' : ¬ (l.length : Int) > 100 := by omega
    have hle : (l.length : Int) ≤ 100 := by omega
    have Hv := Lib.hid hv
    have hRl := sortR_length l
    have cr := rclone_any _ l w (by omega) hv
    clear hv
    go_enter Try.func5, Try.ntmps5
    go_wp2_with fail
    refine cr.mono ?_; clear cr; rintro e w1 ⟨v1, rfl, hr1, hk1⟩
    have Hv1 := Lib.hid (rec_row hr1)
    have Hk1 := Lib.hid hk1
    clear hr1 hk1
    have cs := sort_any none [] (fun _ => False) _ l w1 (nil_q' w1) (by simp) (Hv.out.kept Hk1.out) (by omega) hok (fun _ _ _ h => h)
    go_wp2_with fail
    refine cs.mono ?_; clear cs; rintro e w2 ⟨v2, rfl, hv2, _, _, hk2⟩
    have Hv2 := Lib.hid hv2
    have Hv12 := Lib.hid (Hv1.out.kept hk2)
    have Hk2 := Lib.hid (Hk1.out.trans hk2 (fun _ _ h => h))
    clear hv2 hk2
    go_wp2_with fail
    refine (alive_calls _).mono ?_; rintro e w3 ⟨rfl, hk3⟩
    have Hv2 := Lib.hid (Hv2.out.kept hk3)
    have Hv12 := Lib.hid (Hv12.out.kept hk3)
    have Hk3 := Lib.hid (Hk2.out.trans hk3 (fun _ _ h => h))
    clear hk3
    go_wp2_with fail
    refine (rsort_any _ l (by omega) _ (Hv.out.kept Hk3.out) hok).mono ?_; rintro e w4 ⟨v4, rfl, hv4, hk4⟩
    have Hv2 := Lib.hid (Hv2.out.kept hk4)
    have Hv12 := Lib.hid (Hv12.out.kept hk4)
    have Hk4 := Lib.hid (Hk3.out.trans hk4 (fun _ _ h => h))
    have Hv4 := Lib.hid hv4
    clear hv4 hk4
    go_wp2_with fail
    refine (rsame_any _ _ (sortR l) _ (by omega) Hv2.out Hv4.out).mono ?_; rintro e w5 ⟨rfl, n5, rfl⟩
    have Hv12 := Lib.hid (Hv12.out.kept (keeps_drw w4 n5))
    have Hk5 := Lib.hid (Hk4.out.drewN n5)
    generalize w4.drewN n5 = w5 at Hv12 Hk5 ⊢
    go_wp2_with fail
    refine (rsame_any _ _ l _ (by omega) (Hv.out.kept Hk5.out) Hv12.out).mono ?_; rintro e w6 ⟨rfl, n6, rfl⟩
    have Hk6 := Lib.hid (Hk5.out.drewN n6)
    generalize w5.drewN n6 = w6 at Hk6 ⊢
    have cc := scount_any none [] (fun _ => False) _ l w6 (nil_q' w6) (by simp) (Hv.out.kept Hk6.out) (by omega) hok (fun _ _ _ h => h)
    go_wp2_with fail
    refine cc.mono ?_; clear cc; rintro e w7 ⟨rfl, _, hk7⟩
    have Hk7 := Lib.hid (Hk6.out.trans hk7 (fun _ _ h => h))
    clear hk7
    go_wp2_with fail
    refine (rscount_any _ l _ (Hv.out.kept Hk7.out) (by omega) hok).mono ?_; rintro e w8 ⟨rfl, rfl⟩
    go_wp2_with fail
    go_ret
    exact ⟨rfl, Hk7.out⟩
  · have hl' : (l.length : Int) > 100 := by omega
    go_enter Try.func5, Try.ntmps5
    go_wp2_with fail
    refine (alive_calls _).mono ?_; rintro e w3 ⟨rfl, hk3⟩
    go_wp2
    go_ret
    exact ⟨rfl, hk3⟩
end Go.Proofs.Ytbgjfibninccdaa.so
