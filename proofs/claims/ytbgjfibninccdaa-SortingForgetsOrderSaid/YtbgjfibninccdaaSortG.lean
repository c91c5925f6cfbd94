/- The law SortingEvents. -/
import Derived.Test.YtbgjfibninccdaaSortC
import Derived.Test.YtbgjfibninccdaaTapeF
import Derived.Test.YtbgjfibninccdaaTapeG
import Derived.Test.YtbgjfibninccdaaNetE
set_option linter.unusedSimpArgs false
set_option linter.unusedVariables false
namespace Go.Proofs.Ytbgjfibninccdaa.so
open Go Go.RowKit Go.Shelf Go.Maps Go.Proofs.Ytbgjfibninccdaa.mk Go.Proofs.Ytbgjfibninccdaa.nw Go.Proofs.Ytbgjfibninccdaa.tp Go.Proofs.Ytbgjfibninccdaa.rg Go.Proofs.Ytbgjfibninccdaa.ar

/-- One event for each index. -/
def ievs (kind : Int) (n : Nat) : List Ev := (List.range n).map fun j : Nat => (kind, (j : Int), (0 : Int))
theorem ievs_length (kind : Int) (n : Nat) : (ievs kind n).length = n := by unfold ievs; simp
theorem ievs_succ (kind : Int) (n : Nat) : ievs kind (n + 1) = ievs kind n ++ [(kind, (n : Int), 0)] := by unfold ievs; simp [List.range_succ]
theorem ievents_calls (kind : Int) (n : Nat) (hn : n ≤ 1000) (w : World) :
    Calls Try.prog 26 #[.int .i64 kind, .int .i64 n] w fun e w' => ∃ v, e = .returned v ∧ w'.ownsRow w.heap.size 45 3 v (ievs kind n).length (flat (ievs kind n)) ∧ Keeps (fun _ => False) w w' := by
  obtain ⟨i0, hi, hz0, hz1, hz2⟩ := info_parts infoEv
  go_enter Try.func26, Try.ntmps26
  go_wp2
  go_loopw [5, 6] (fun v i wr => ∃ k : Nat, k ≤ n ∧ i = .int .i64 k ∧ wr.ownsRow w.heap.size 45 3 v k (flat (ievs kind k)) ∧ Keeps (fun _ => False) w wr) (fun _ i _ => n - (intOf i).toNat)
  case atStart => exact ⟨0, Nat.zero_le _, rfl, World.ownsRow_nil _ _ _ _, Keeps.refl _ _⟩
  case round =>
    obtain ⟨k, hk, rfl, hrow, hK⟩ := hrel
    by_cases hlt : k < n
    · have hlt' : (k : Int) < (n : Int) := by omega
      have hsz := hK.size
      go_wp2_with (at_builtin; refine wpList_append_own _ rfl _ _ 39 rfl w.heap.size 45 i0 (.agg #[.int .i64 0, .int .i64 0, .int .i64 0]) 3 24 Try.underlying39 hi hz0 hz1 hz2 rfl (by decide) _ _ _ rfl (hrow.alloc _) ⟨wr.heap.size, 0, none⟩ 1 1 (evC (kind, (k : Int), 0)) rfl rfl ?c1 ?c2 ?c3 ?c4 ?c5 ?_)
      case c1 =>
        intro j u hj
        have hadd : (⟨wr.heap.size, 0, none⟩ : Addr).add j = ⟨wr.heap.size, 0 + j, none⟩ := by unfold Addr.add; split <;> simp_all
        rw [hadd, cell_of_row _ _ _ _ _ _ (heap_alloc_new wr _), Nat.zero_add]
        simpa [evC] using hj
      case c2 => intro u hu; simp [evC] at hu; rcases hu with rfl | rfl | rfl <;> rfl
      case c3 => unfold maxLen; omega
      case c4 => omega
      case c5 => have := hK.size; simp; omega
      intro v2 w2 hown2 hgrow2 _
      have hK2 : Keeps (fun _ => False) w w2 := (hK.alloc _).grown hgrow2 (fun g hg hlt => by have := hrow.lt g hg; omega)
      have Ho := Lib.hid (show w2.ownsRow w.heap.size 45 3 v2 (k + 1) (flat (ievs kind (k + 1))) from by rw [ievs_succ, flat_append, flat_one]; exact hown2)
      clear hown2 hgrow2 hrow
      go_wp2
      go_roundw
      case rel => exact ⟨k + 1, by omega, by go_num, Ho.out, hK2⟩
      case measure => simp [intOf]; omega
    · obtain rfl : n = k := by omega
      go_wp2
      go_ret
      exact ⟨_, rfl, by rw [ievs_length]; exact hrow, hK⟩
/-- The events of a list of comparators. -/
def cevs (L : List (Nat × Nat)) : List Ev := L.map fun c => (3, (c.1 : Int), (c.2 : Int))
theorem cevs_length (L : List (Nat × Nat)) : (cevs L).length = L.length := by unfold cevs; simp
theorem cevs_snoc {L : List (Nat × Nat)} {k : Nat} {c : Nat × Nat} (h : L[k]? = some c) : cevs (L.take (k + 1)) = cevs (L.take k) ++ [(3, (c.1 : Int), (c.2 : Int))] := by
  unfold cevs
  rw [List.take_add_one, h, List.map_append]; rfl
theorem netOf_isNet {n : Nat} (h : n ≤ 4096) : IsNet (sizeI (n : Int)) (netOf n) := by
  by_cases h0 : n = 0
  · subst h0
    exact .inr ⟨by decide, by decide, rfl⟩
  · obtain ⟨hr, hsz, _, hnet⟩ := size_net h0 h
    exact .inl ⟨lenN (n - 1), 2 ^ lenN (n - 1), hr, rfl, hsz, hnet⟩
theorem rcomp_net (nv : Int) (L : List (Nat × Nat)) (hL : IsNet nv L) (w : World) : Calls Try.prog 22 #[.int .i64 nv] w fun e w' => ∃ v, e = .returned v ∧ pairs w' w.heap.size v L ∧ Keeps (fun _ => False) w w' := by
  rcases hL with ⟨r, N, hr, hN, rfl, rfl⟩ | ⟨hB, _, rfl⟩
  · exact rcomps_some r N hr hN w
  · exact rcomps_none nv hB w
theorem pair_cells {w : World} {base : Nat} {v : Value} {L : List (Nat × Nat)} (h : pairs w base v L) : ∃ ao cap, v = .slice ao L.length cap ∧ ∀ (i : Nat) (c : Nat × Nat), L[i]? = some c → ∃ g, ao = some ⟨g, 0, none⟩ ∧ g < w.heap.size ∧ w.cell? ⟨g, i * 2, none⟩ = some (.int .i64 (c.1 : Int)) ∧ w.cell? ⟨g, i * 2 + 1, none⟩ = some (.int .i64 (c.2 : Int)) := by
  rcases h.2 with ⟨rfl, h0⟩ | ⟨g, cap, cur, rfl, _, hg, _⟩
  · exact ⟨none, 0, by rw [h0], fun i c hc => by have := (List.getElem?_eq_some_iff.1 hc).1; omega⟩
  · refine ⟨_, cap, rfl, fun i c hc => ⟨g, rfl, (Array.getElem?_eq_some_iff.1 hg).1, ?_⟩⟩
    have hi := (List.getElem?_eq_some_iff.1 hc).1
    obtain ⟨h1, h2⟩ := flatC_get L i c hc
    exact ⟨(World.ownsRow.cellAt h (i * 2) (by omega)).trans h1, (World.ownsRow.cellAt h (i * 2 + 1) (by omega)).trans h2⟩
theorem rec_lt {w : World} {v : Value} {l : List Rec} (h : recAt w v l) : l ≠ [] → ∀ g, v.ownBlock = some g → g < w.heap.size := by
  intro hne g hg
  rcases h with ⟨h0, _⟩ | ⟨_, b, off, cap, rfl, hb, _⟩
  · exact absurd h0 hne
  · cases hg; exact hb
theorem q_ptr {w : World} {S : Nat → Prop} {b : Nat} {l : List Ev} (h : qAt w S (some ⟨b, 0, none⟩) l) : ptrAt w S (.pointer (some ⟨b, 0, none⟩)) l := by
  rcases h with ⟨h, _⟩ | ⟨b', h, ht⟩
  · cases h
  · cases h; exact .inr ⟨_, rfl, ht⟩
set_option maxRecDepth 100000 in
set_option maxHeartbeats 2000000 in
theorem events_law (v : Value) (l : List Rec) (w : World) (hv : recAt w v l) (hok : Recs l) : Calls Try.prog 6 #[v] w (Yes w) := by
  obtain ⟨ao, cap, hva⟩ : ∃ ao cap, v = .slice ao l.length cap := by
    rcases hv with ⟨rfl, ao, cap, rfl⟩ | ⟨_, b, off, cap, rfl, _⟩
    · exact ⟨_, _, rfl⟩
    · exact ⟨_, _, rfl⟩
  subst hva
  by_cases hl : l.length ≤ 100
  · have hl' : ¬ (l.length : Int) > 100 := by omega
    have hle : (l.length : Int) ≤ 100 := by omega
    obtain ⟨i0, hi, hz0, hz1, hz2⟩ := info_parts infoEv
    have hNet := netOf_isNet (n := l.length) (by omega)
    have Hnb := Lib.hid (net_bound hNet)
    have Hlt := Lib.hid (rec_lt hv)
    have crc := fun w => rcomp_net _ _ hNet w
    have csz := fun w => rsize_calls (l.length : Int) w
    generalize sizeI (l.length : Int) = NV at crc csz
    obtain ⟨L, hL⟩ : ∃ L, netOf l.length = L := ⟨_, rfl⟩
    rw [hL] at Hnb crc
    have HL := Lib.hid hL
    have Hv := Lib.hid hv
    clear hv hNet hL
    go_enter Try.func6, Try.ntmps6
    go_wp2_with fail
    refine (new_any w).mono ?_; rintro e w1 ⟨b1, rfl, hT1, hk1⟩
    go_wp2_with fail
    refine (new_any w1).mono ?_; rintro e w2 ⟨b2, rfl, hT2, hk2⟩
    have hz1' := hk1.size
    have hz2' := hk2.size
    have hq1 : qAt w2 (fun k => w.heap.size ≤ k ∧ k < w1.heap.size) (some ⟨b1, 0, none⟩) [] := (show qAt w1 (fun k => w.heap.size ≤ k ∧ k < w1.heap.size) (some ⟨b1, 0, none⟩) [] from .inr ⟨b1, rfl, hT1.mono (fun k hk h => ⟨h, hk⟩)⟩).keep hk2 (fun _ _ _ h => h)
    have hq2 : qAt w2 (fun k => w1.heap.size ≤ k ∧ k < w2.heap.size) (some ⟨b2, 0, none⟩) [] := .inr ⟨b2, rfl, hT2.mono (fun k hk h => ⟨h, hk⟩)⟩
    have hkw2 := hk1.trans hk2 (fun _ _ h => h)
    have cs := sort_any (some ⟨b1, 0, none⟩) [] _ _ l w2 hq1 (by simp) (Hv.out.kept hkw2) (by omega) hok (fun hne g hg h => by have := Hlt.out hne g hg; omega)
    have Hq2 := Lib.hid hq2
    have Hkw2 := Lib.hid hkw2
    have Hz1 := Lib.hid hz1'
    have Hz2 := Lib.hid hz2'
    clear hT1 hT2 hk1 hk2 hq1 hq2 hkw2 hz1' hz2'
    go_wp2_with fail
    refine cs.mono ?_; clear cs; rintro e w3 ⟨v3, rfl, _, _, ⟨S3, hS1, hS2, _⟩, hk3⟩
    rw [HL.out] at hS1
    have hz1' := Hz1.out
    have hz2' := Hz2.out
    have hz3' := hk3.size
    have hq2 := Hq2.out.keep hk3 (fun k _ h1 h2 => by omega)
    have hkw3 := Hkw2.out.trans hk3 (fun i hi h => by omega)
    have cc := scount_any (some ⟨b2, 0, none⟩) [] _ _ l w3 hq2 (by simp) (Hv.out.kept hkw3) (by omega) hok (fun hne g hg h => by have := Hlt.out hne g hg; omega)
    have HS1 := Lib.hid hS1
    have HS2 := Lib.hid hS2
    have Hkw3 := Lib.hid hkw3
    have Hz3 := Lib.hid hz3'
    clear hS1 hS2 hk3 hq2 hkw3 hz1' hz2' hz3'
    go_wp2_with fail
    refine cc.mono ?_; clear cc; rintro e w4 ⟨rfl, hq4, hk4⟩
    have hz1' := Hz1.out
    have hz2' := Hz2.out
    have hz3' := Hz3.out
    have hq1 := HS1.out.keep hk4 (fun k _ h1 h2 => by rcases HS2.out k h1 with h | h <;> omega)
    have hkw4 := Hkw3.out.trans hk4 (fun i hi h => by omega)
    have Hq1 := Lib.hid hq1
    have Hq4 := Lib.hid hq4
    have Hkw4 := Lib.hid hkw4
    clear hq1 hq4 hk4 hkw4 hz1' hz2' hz3'
    go_wp2_with fail
    refine (csz _).mono ?_; clear csz; rintro e w4' ⟨rfl, rfl⟩
    go_wp2_with fail
    refine (crc _).mono ?_; clear crc; rintro e w5 ⟨v5, rfl, hr5, hk5⟩
    obtain ⟨ao5, cap5, rfl, hc5⟩ := pair_cells hr5
    have Hc5 := Lib.hid hc5
    have Hk5 := Lib.hid hk5
    clear hr5 hc5 hk5
    go_wp2_with fail
    go_loopw [5, 25] (fun u i wr => ∃ k : Nat, k ≤ L.length ∧ i = .int .i64 k ∧ wr.ownsRow w5.heap.size 45 3 u k (flat (cevs (L.take k))) ∧ Keeps (fun _ => False) w5 wr) (fun _ i _ => L.length - (intOf i).toNat)
    case atStart => exact ⟨0, Nat.zero_le _, rfl, World.ownsRow_nil _ _ _ _, Keeps.refl _ _⟩
    case round =>
      obtain ⟨k, hk, rfl, hrow, hK⟩ := hrel
      by_cases hlt : k < L.length
      · obtain ⟨⟨x, y⟩, hxy⟩ : ∃ e, L[k]? = some e := ⟨L[k], by simp [hlt]⟩
        obtain ⟨g, rfl, hg, p0, p1⟩ := Hc5.out k _ hxy
        simp only at p0 p1
        have p0 := (hK.cell (p := ⟨g, k * 2, none⟩) hg (fun h => h)).trans p0
        have p1 := (hK.cell (p := ⟨g, k * 2 + 1, none⟩) hg (fun h => h)).trans p1
        have hlt' : (k : Int) < (L.length : Int) := by omega
        have hk0 : (0 : Int) ≤ (k : Int) := by omega
        have hkb : k < 589824 := Nat.lt_of_lt_of_le hlt Hnb.out
        have Hfl := Lib.hid (show flat (cevs (L.take (k + 1))) = flat (cevs (L.take k)) ++ evC (3, (x : Int), (y : Int)) by rw [cevs_snoc hxy, flat_append, flat_one])
        have Hsz := Lib.hid hK.size
        have HK := Lib.hid hK
        clear hxy hK
        go_wp2_with (at_builtin; refine wpList_append_own _ rfl _ _ 39 rfl w5.heap.size 45 i0 (.agg #[.int .i64 0, .int .i64 0, .int .i64 0]) 3 24 Try.underlying39 hi hz0 hz1 hz2 rfl (by decide) _ _ _ rfl ((hrow.alloc _).alloc _) ⟨wr.heap.size + 1, 0, none⟩ 1 1 (evC (3, (x : Int), (y : Int))) rfl rfl ?c1 ?c2 ?c3 ?c4 ?c5 ?_)
        case c1 =>
          intro j u hj
          have hadd : (⟨wr.heap.size + 1, 0, none⟩ : Addr).add j = ⟨wr.heap.size + 1, 0 + j, none⟩ := by unfold Addr.add; split <;> simp_all
          have hnew := heap_alloc_new (wr.alloc (.cells #[.int .i64 (x : Int), .int .i64 (y : Int)] 43)) (.cells #[.int .i64 3, .int .i64 (x : Int), .int .i64 (y : Int)] 45)
          rw [show (wr.alloc (.cells #[.int .i64 (x : Int), .int .i64 (y : Int)] 43)).heap.size = wr.heap.size + 1 by simp] at hnew
          rw [hadd, cell_of_row _ _ _ _ _ _ hnew, Nat.zero_add]
          simpa [evC] using hj
        case c2 => intro u hu; simp [evC] at hu; rcases hu with rfl | rfl | rfl <;> rfl
        case c3 => unfold maxLen; omega
        case c4 => omega
        case c5 => have := Hsz.out; simp; omega
        intro v2 w6 hown2 hgrow2 _
        have hK2 : Keeps (fun _ => False) w5 w6 := ((HK.out.alloc _).alloc _).grown hgrow2 (fun g hg hlt => by have := hrow.lt g hg; omega)
        have Ho := Lib.hid (show w6.ownsRow w5.heap.size 45 3 v2 (k + 1) (flat (cevs (L.take (k + 1)))) from by rw [Hfl.out]; exact hown2)
        have HK2 := Lib.hid hK2
        clear hown2 hgrow2 hrow hK2 p0 p1
        go_wp2
        go_roundw
        case rel => exact ⟨k + 1, by omega, by go_num, Ho.out, HK2.out⟩
        case measure => simp [intOf]; omega
      · obtain rfl : L.length = k := by omega
        have hev := evAt_of_row (l := cevs L) (by rw [cevs_length]; rw [List.take_length] at hrow; exact hrow)
        have hk6 := Hk5.out.trans hK (fun _ _ h => h)
        have Hev := Lib.hid hev
        have Hk6 := Lib.hid hk6
        clear hrow hK hlt hev hk6
        go_wp2_with fail
        refine (alive_calls _).mono ?_; rintro e w7 ⟨rfl, hk7⟩
        have Hk7 := Lib.hid (Hk6.out.trans hk7 (fun _ _ h => h))
        have Hev7 := Lib.hid (Hev.out.keep hk7 (fun _ _ _ h => h))
        clear hk7
        have hlenb : (cevs L).length ≤ 1099511627776 := by rw [cevs_length]; have := Hnb.out; omega
        have he1 : evsC (some ⟨b1, 0, none⟩) [] L = cevs L := by unfold evsC cevs; simp
        have he2 : recs (some ⟨b2, 0, none⟩) [] 1 l.length = ievs 1 l.length := by unfold recs ievs; simp
        have ct := events_calls (.pointer (some ⟨b1, 0, none⟩)) _ (cevs L) w7 hlenb (q_ptr (by rw [← he1]; exact Hq1.out.keep Hk7.out (fun _ _ _ h => h)))
        clear he1
        go_wp2_with fail
        refine ct.mono ?_; clear ct; rintro e w8 ⟨v8, rfl, hr8, hk8⟩
        have Hev8 := Lib.hid (evAt_of_row hr8)
        have Hev8' := Lib.hid (Hev7.out.keep hk8 (fun _ _ _ h => h))
        have Hk8 := Lib.hid (Hk7.out.trans hk8 (fun _ _ h => h))
        clear hr8 hk8
        go_wp2_with fail
        refine (same_calls _ _ (cevs L) (cevs L) _ hlenb hlenb Hev8.out Hev8'.out).mono ?_; rintro e w9 ⟨rfl, n9, rfl⟩
        rw [decide_eq_true rfl]
        have Hk9 := Lib.hid (Hk8.out.drewN n9)
        generalize w8.drewN n9 = w9 at Hk9 ⊢
        have cu := events_calls (.pointer (some ⟨b2, 0, none⟩)) _ (ievs 1 l.length) w9 (by rw [ievs_length]; omega) (q_ptr (by rw [← he2]; exact Hq4.out.keep Hk9.out (fun _ _ _ h => h)))
        clear he2
        go_wp2_with fail
        refine cu.mono ?_; clear cu; rintro e w10 ⟨v10, rfl, hr10, hk10⟩
        have Hev10 := Lib.hid (evAt_of_row hr10)
        have Hk10 := Lib.hid (Hk9.out.trans hk10 (fun _ _ h => h))
        clear hr10 hk10
        go_wp2_with fail
        refine (ievents_calls 1 l.length (by omega) _).mono ?_; rintro e w11 ⟨v11, rfl, hr11, hk11⟩
        have Hev11 := Lib.hid (evAt_of_row hr11)
        have Hev11' := Lib.hid (Hev10.out.keep hk11 (fun _ _ _ h => h))
        have Hk11 := Lib.hid (Hk10.out.trans hk11 (fun _ _ h => h))
        have hib : (ievs 1 l.length).length ≤ 1099511627776 := by rw [ievs_length]; omega
        clear hr11 hk11
        go_wp2_with fail
        refine (same_calls _ _ (ievs 1 l.length) (ievs 1 l.length) _ hib hib Hev11'.out Hev11.out).mono ?_; rintro e w12 ⟨rfl, n12, rfl⟩
        rw [decide_eq_true rfl]
        go_wp2_with fail
        go_ret
        exact ⟨rfl, (Hkw4.out.trans Hk11.out (fun _ _ h => h)).drewN n12⟩
  · have hl' : (l.length : Int) > 100 := by omega
    go_enter Try.func6, Try.ntmps6
    go_wp2_with fail
    refine (alive_calls _).mono ?_; rintro e w3 ⟨rfl, hk3⟩
    go_wp2
    go_ret
    exact ⟨rfl, hk3⟩
end Go.Proofs.Ytbgjfibninccdaa.so
