/- Sort, Count of package sorting for whatever list; the reference's Count and Same. -/
import Derived.Test.YtbgjfibninccdaaSortA
import Derived.Test.YtbgjfibninccdaaTapeR
import Derived.Test.YtbgjfibninccdaaArrayX
set_option linter.unusedSimpArgs false
set_option linter.unusedVariables false
namespace Go.Proofs.Ytbgjfibninccdaa.so
open Go Go.RowKit Go.Shelf Go.Proofs.Ytbgjfibninccdaa.mk Go.Proofs.Ytbgjfibninccdaa.nw Go.Proofs.Ytbgjfibninccdaa.tp Go.Proofs.Ytbgjfibninccdaa.rg Go.Proofs.Ytbgjfibninccdaa.ar

/-! ### the sorted keys -/
def sortK (l : List Rec) : List Int := (l.map keyR).mergeSort (fun a b => decide (a ≤ b))
theorem sortK_perm (l : List Rec) : (sortK l).Perm (l.map keyR) := List.mergeSort_perm _ _
theorem sortK_sorted (l : List Rec) : (sortK l).Pairwise (· ≤ ·) := by
  have := List.pairwise_mergeSort (le := fun a b : Int => decide (a ≤ b)) (fun a b c h1 h2 => by simp at *; omega) (fun a b => by simp; omega) (l.map keyR)
  exact this.imp (fun h => by simpa using h)
theorem sortK_length (l : List Rec) : (sortK l).length = l.length := by rw [(sortK_perm l).length_eq, List.length_map]
theorem sortK_isK {l : List Rec} (hok : Recs l) : ∀ k ∈ sortK l, IsK k := by
  intro k hk
  obtain ⟨r, hr, rfl⟩ := List.mem_map.1 ((sortK_perm l).mem_iff.1 hk)
  exact keyR_isK (hok r hr)
/-- The list that Sort returns. -/
def sortR (l : List Rec) : List Rec := (sortK l).map unkey
theorem sortR_length (l : List Rec) : (sortR l).length = l.length := by unfold sortR; rw [List.length_map, sortK_length]
theorem sortR_ok {l : List Rec} (hok : Recs l) : Recs (sortR l) := by
  intro r hr
  obtain ⟨k, hk, rfl⟩ := List.mem_map.1 hr
  exact unkey_ok (sortK_isK hok k hk)
theorem net_sortK {r N : Nat} (hN : N = 2 ^ r) {l : List Rec} (hok : Recs l) (hlN : l.length ≤ N) : (nl N r).foldl cx (l.map keyR ++ List.replicate (N - l.length) 18446744073709551616) = sortK l ++ List.replicate (N - l.length) 18446744073709551616 := by
  have hlen : (l.map keyR ++ List.replicate (N - l.length) (18446744073709551616 : Int)).length = 2 ^ r := by rw [List.length_append, List.length_map, List.length_replicate, ← hN]; omega
  rw [hN] at hlen ⊢
  rw [← hN] at hlen ⊢
  have h1 := nl_sorts (r := r) (by rw [hlen, hN])
  have h2 := nl_perm (r := r) (l := l.map keyR ++ List.replicate (N - l.length) (18446744073709551616 : Int)) (by rw [hlen, hN])
  rw [← hN] at h1 h2
  refine sorted_unique h1 ?_ (h2.trans ((sortK_perm l).symm.append_right _))
  rw [List.pairwise_append]
  refine ⟨sortK_sorted l, List.pairwise_replicate.2 (.inr (Int.le_refl _)), fun a ha b hb => ?_⟩
  rw [List.eq_of_mem_replicate hb]
  exact (sortK_isK hok a ha).2
/-- The comparators that Sort goes through. -/
def netOf (n : Nat) : List (Nat × Nat) := if n = 0 then [] else nl (2 ^ lenN (n - 1)) (lenN (n - 1))
theorem size_net {n : Nat} (h0 : n ≠ 0) (h1 : n ≤ 4096) : lenN (n - 1) ≤ 12 ∧ sizeI (n : Int) = ((2 ^ lenN (n - 1) : Nat) : Int) ∧ n ≤ 2 ^ lenN (n - 1) ∧ netOf n = nl (2 ^ lenN (n - 1)) (lenN (n - 1)) := by
  refine ⟨lenN_le (by omega), ?_, ?_, by unfold netOf; rw [if_neg h0]⟩
  · unfold sizeI
    rw [if_neg (by omega), show ((n : Int) - 1).toNat = n - 1 by omega]
  · have := (lenN_spec (x := n - 1) (r := lenN (n - 1))).1 (Nat.le_refl _)
    omega
theorem rec_of_row {w : World} {base g n cap c : Nat} {L : List Rec} (h : w.ownsRow base 24 2 (.slice (some ⟨g, 0, none⟩) n cap) n (rflat L)) (hL : L.length = n) (l : List Rec) (hl : ∀ (i : Nat) (r : Rec), l[i]? = some r → L[i]? = some r) : recAt w (.slice (some ⟨g, 0, none⟩) l.length c) l := by
  by_cases hne : l = []
  · subst hne
    exact .inl ⟨rfl, _, _, rfl⟩
  · refine .inr ⟨hne, g, 0, c, rfl, (h.lt g rfl).2, fun i r hi => ?_⟩
    obtain ⟨g1, g2⟩ := rflat_get L i r (hl i r hi)
    have hlt := (List.getElem?_eq_some_iff.1 (hl i r hi)).1
    rw [Nat.zero_add, Nat.zero_add]
    exact ⟨(h.cellAt (i * 2) (by omega)).trans g1, (h.cellAt (i * 2 + 1) (by omega)).trans g2⟩
/-- What Sort leaves. -/
def Sorted (q : Option Addr) (l0 : List Ev) (S0 : Nat → Prop) (l : List Rec) (w : World) (e : Ending) (w' : World) : Prop :=
  ∃ v', e = .returned v' ∧ recAt w' v' (sortR l) ∧ (∀ g, v'.ownBlock = some g → w.heap.size ≤ g) ∧ (∃ S, qAt w' S q (evsC q l0 (netOf l.length)) ∧ (∀ i, S i → S0 i ∨ w.heap.size ≤ i) ∧ ∀ g, v'.ownBlock = some g → ¬ S g) ∧ Keeps S0 w w'
theorem sort_any (q : Option Addr) (l0 : List Ev) (S0 : Nat → Prop) (v : Value) (l : List Rec) (w : World) (hT : qAt w S0 q l0) (hl0 : l0.length ≤ 549755813888) (hv : recAt w v l) (hl : l.length ≤ 4096) (hok : Recs l) (hS : l ≠ [] → ∀ g, v.ownBlock = some g → ¬ S0 g) :
    Calls Try.prog 16 #[.pointer q, v] w (Sorted q l0 S0 l w) := by
  rcases hv with ⟨rfl, ao, cap, rfl⟩ | ⟨hne, b, off, cap, rfl, hb, hc⟩
  · refine (sort_nil q ao cap w).mono fun e w' ⟨he, hk⟩ => ⟨_, he, .inl ⟨by unfold sortR sortK; simp, _, _, rfl⟩, fun g h => (by cases h), ⟨S0, ?_, fun i h => .inl h, fun g h => (by cases h)⟩, hk.mono (fun _ _ h => h.elim)⟩
    have h2 := hT.keep hk (fun _ _ _ h => h)
    rcases h2 with ⟨rfl, rfl⟩ | ⟨b', rfl, ht⟩
    · exact .inl ⟨rfl, rfl⟩
    · exact .inr ⟨b', rfl, by simpa [evsC, netOf] using ht⟩
  · have h0 : l.length ≠ 0 := fun h => hne (List.eq_nil_of_length_eq_zero h)
    obtain ⟨hr, hsz, hlN, hnet⟩ := size_net h0 hl
    refine (sort_some q l0 S0 b off cap l (lenN (l.length - 1)) (2 ^ lenN (l.length - 1)) w hT hl0 hr rfl hsz hlN hne hb hc (hS hne b rfl) hok).mono ?_
    rintro e w' ⟨g, he, hg, hrow, ⟨S, h1, h2, h3⟩, hk⟩
    rw [net_sortK rfl hok hlN] at hrow
    refine ⟨_, he, ?_, fun g' h => (by cases h; exact hg), ⟨S, by rw [hnet]; exact h1, h2, fun g' h => (by cases h; exact h3)⟩, hk⟩
    have := rec_of_row (c := l.length) hrow (by rw [List.length_map, List.length_append, sortK_length, List.length_replicate]; omega) (sortR l) (fun i r hi => by
      rw [List.map_append, List.getElem?_append_left (by rw [List.length_map, sortK_length, ← sortR_length]; exact (List.getElem?_eq_some_iff.1 hi).1)]
      exact hi)
    rw [sortR_length] at this
    exact this

/-! ### Count -/
def countR (l : List Rec) : Int := countI (l.map Prod.fst)
theorem count_empty (q ao : Option Addr) (cap : Nat) (w : World) : Calls Try.prog 15 #[.pointer q, .slice ao 0 cap] w fun e w' => e = .returned (.int .u64 0) ∧ w' = w := by
  go_enter Try.func15, Try.ntmps15
  go_wp2
  refine wp_loop_rounds 1 ?_
  rw [rounds_succ]
  go_wp2
  go_ret
  exact ⟨rfl, rfl⟩
set_option maxHeartbeats 1000000 in
theorem count_some (q : Option Addr) (l0 : List Ev) (S0 : Nat → Prop) (b off cap : Nat) (l : List Rec) (w : World) (hT : qAt w S0 q l0) (hl0 : l0.length ≤ 549755813888) (hl : l.length ≤ 4096) (hb : b < w.heap.size)
    (hc : ∀ (i : Nat) (r : Rec), l[i]? = some r → w.cell? ⟨b, off + i * 2, none⟩ = some (.int .u64 r.1) ∧ w.cell? ⟨b, off + (i * 2 + 1), none⟩ = some (.int .u64 r.2)) (hS : ¬ S0 b) (hok : Recs l) :
    Calls Try.prog 15 #[.pointer q, .slice (some ⟨b, off, none⟩) l.length cap] w fun e w' => e = .returned (.int .u64 (countR l)) ∧ qAt w' (fun i => S0 i ∨ w.heap.size ≤ i) q (recs q l0 1 l.length) ∧ Keeps S0 w w' := by
  have HT := Lib.hid hT
  have HC := Lib.hid hc
  have hml : (l.map Prod.fst).length ≤ 549755813888 := by rw [List.length_map]; omega
  clear hT hc
  go_enter Try.func15, Try.ntmps15
  go_wp2
  go_loopw [5, 10] (fun o i wr => ∃ k : Nat, k ≤ l.length ∧ i = .int .i64 k ∧ o = .int .u64 (countI ((l.map Prod.fst).take k)) ∧ qAt wr (fun i => S0 i ∨ w.heap.size ≤ i) q (recs q l0 1 k) ∧ Keeps S0 w wr) (fun _ i _ => l.length - (intOf i).toNat)
  case atStart => exact ⟨0, Nat.zero_le _, rfl, rfl, by rw [recs_zero]; exact HT.out.mono (fun _ _ h => .inl h), Keeps.refl _ _⟩
  case round =>
    obtain ⟨k, hk, rfl, rfl, hq, hkp⟩ := hrel
    have Hq := Lib.hid hq
    have Hkp := Lib.hid hkp
    by_cases hlt : k < l.length
    · obtain ⟨⟨x, y⟩, hx⟩ : ∃ e, l[k]? = some e := ⟨l[k], by simp [hlt]⟩
      have hxo := hok _ (List.mem_of_getElem? hx)
      have p0 := (hkp.cell (p := ⟨b, off + k * 2, none⟩) hb hS).trans (HC.out k _ hx).1
      have p1 : wr.cell? ⟨b, off + k * 2 + 1, none⟩ = some (.int .u64 y) := (hkp.cell (p := ⟨b, off + (k * 2 + 1), none⟩) hb hS).trans (HC.out k _ hx).2
      simp only at p0
      have hx1 : (l.map Prod.fst)[k]? = some x := by rw [List.getElem?_map, hx]; rfl
      have hcs := count_step hml hx1
      have hcb := countI_bounds ((l.map Prod.fst).take k)
      have Hcs := Lib.hid hcs
      have hlt' : (k : Int) < (l.length : Int) := by omega
      have hk0 : (0 : Int) ≤ (k : Int) := by omega
      have cb := fun w => bit_calls x hxo.1 w
      have hnew : ∀ cs : Array Value, (wr.alloc (.cells cs 24)).heap[wr.heap.size]? = some (.cells cs 24 (0, 0)) := fun cs => heap_alloc_new wr _
      have Hnew := Lib.hid hnew
      clear hq hkp hx hcs hcb hx1 hnew
      go_wp2_with fail
      have hT2 : qAt (wr.alloc (.cells #[.int .u64 x, .int .u64 y] 24)) (fun i => (S0 i ∨ w.heap.size ≤ i) ∧ i < wr.heap.size) q (recs q l0 1 k) := (Hq.out.mono (fun i hi h => ⟨h, hi⟩)).keep ((Keeps.refl (fun _ => False) wr).alloc _) (fun _ _ _ h => h)
      refine (note_q q _ l0 1 k _ hT2 (by decide) (by omega) hl0).mono ?_; rintro e w2 ⟨rfl, hq2, hk2⟩
      have c0 : w2.cell? ⟨wr.heap.size, 0, none⟩ = some (.int .u64 x) := (hk2.cell (p := ⟨wr.heap.size, 0, none⟩) (by simp) (by simp)).trans (by rw [cell_of_row _ _ _ _ _ _ (Hnew.out _)]; rfl)
      have Hq2 := Lib.hid (show qAt w2 (fun i => S0 i ∨ w.heap.size ≤ i) q (recs q l0 1 (k + 1)) from hq2.mono (fun i _ h => by
        rcases h with h | h
        · exact h.1
        · right
          have := Hkp.out.size
          simp at h
          omega))
      have Hk2 := Lib.hid ((Hkp.out.alloc (.cells #[.int .u64 x, .int .u64 y] 24)).trans hk2 (fun i hi h => by
        rcases h.1 with h | h
        · exact h
        · omega))
      clear hq2 hk2 hT2
      go_wp2_with fail
      refine (cb _).mono ?_; clear cb; rintro e w3 ⟨rfl, rfl⟩
      go_wp2
      go_roundw
      case rel => exact ⟨k + 1, by omega, by go_num, by rw [← Hcs.out], Hq2.out, Hk2.out⟩
      case measure => simp [intOf]; omega
    · obtain rfl : l.length = k := by omega
      clear hq hkp
      go_wp2
      go_ret
      refine ⟨?_, Hq.out, Hkp.out⟩
      unfold countR
      rw [List.take_of_length_le (by rw [List.length_map]; exact Nat.le_refl _)]
      rfl
theorem scount_any (q : Option Addr) (l0 : List Ev) (S0 : Nat → Prop) (v : Value) (l : List Rec) (w : World) (hT : qAt w S0 q l0) (hl0 : l0.length ≤ 549755813888) (hv : recAt w v l) (hl : l.length ≤ 4096) (hok : Recs l) (hS : l ≠ [] → ∀ g, v.ownBlock = some g → ¬ S0 g) :
    Calls Try.prog 15 #[.pointer q, v] w fun e w' => e = .returned (.int .u64 (countR l)) ∧ qAt w' (fun i => S0 i ∨ w.heap.size ≤ i) q (recs q l0 1 l.length) ∧ Keeps S0 w w' := by
  rcases hv with ⟨rfl, ao, cap, rfl⟩ | ⟨hne, b, off, cap, rfl, hb, hc⟩
  · refine (count_empty q ao cap w).mono fun e w' ⟨he, hw⟩ => ⟨he, by rw [hw]; exact (by rw [show ([] : List Rec).length = 0 from rfl, recs_zero]; exact hT.mono (fun _ _ h => .inl h)), by rw [hw]; exact Keeps.refl _ _⟩
  · exact count_some q l0 S0 b off cap l w hT hl0 hl hb hc (hS hne b rfl) hok
theorem srcount_empty (ao : Option Addr) (cap : Nat) (w : World) : Calls Try.prog 20 #[.slice ao 0 cap] w fun e w' => e = .returned (.int .u64 0) ∧ w' = w := by
  go_enter Try.func20, Try.ntmps20
  go_wp2
  refine wp_loop_rounds 1 ?_
  rw [rounds_succ]
  go_wp2
  go_ret
  exact ⟨rfl, rfl⟩
theorem srcount_some (b off cap : Nat) (l : List Rec) (w : World) (hl : l.length ≤ 4096)
    (hc : ∀ (i : Nat) (r : Rec), l[i]? = some r → w.cell? ⟨b, off + i * 2, none⟩ = some (.int .u64 r.1) ∧ w.cell? ⟨b, off + (i * 2 + 1), none⟩ = some (.int .u64 r.2)) (hok : Recs l) :
    Calls Try.prog 20 #[.slice (some ⟨b, off, none⟩) l.length cap] w fun e w' => e = .returned (.int .u64 (countR l)) ∧ w' = w := by
  have HC := Lib.hid hc
  have hml : (l.map Prod.fst).length ≤ 549755813888 := by rw [List.length_map]; omega
  clear hc
  go_enter Try.func20, Try.ntmps20
  go_wp2
  go_loop [3, 4] (fun o i => ∃ k : Nat, k ≤ l.length ∧ i = .int .i64 k ∧ o = .int .u64 (countI ((l.map Prod.fst).take k))) (fun _ i => l.length - (intOf i).toNat)
  case atStart => exact ⟨0, Nat.zero_le _, rfl, rfl⟩
  case round =>
    obtain ⟨k, hk, rfl, rfl⟩ := hrel
    by_cases hlt : k < l.length
    · obtain ⟨⟨x, y⟩, hx⟩ : ∃ e, l[k]? = some e := ⟨l[k], by simp [hlt]⟩
      have hxo := hok _ (List.mem_of_getElem? hx)
      have p0 := (HC.out k _ hx).1
      simp only at p0
      have hx1 : (l.map Prod.fst)[k]? = some x := by rw [List.getElem?_map, hx]; rfl
      have hcs := count_step hml hx1
      have ht : x.tmod 2 = x % 2 := Int.tmod_eq_emod_of_nonneg hxo.1.1
      have Hcs := Lib.hid hcs
      have hlt' : (k : Int) < (l.length : Int) := by omega
      have hk0 : (0 : Int) ≤ (k : Int) := by omega
      clear hx hcs hx1
      go_wp2
      go_round
      case rel => exact ⟨k + 1, by omega, by go_num, by rw [← Hcs.out]⟩
      case measure => simp [intOf]; omega
    · obtain rfl : l.length = k := by omega
      go_wp2
      go_ret
      refine ⟨?_, rfl⟩
      unfold countR
      rw [List.take_of_length_le (by rw [List.length_map]; exact Nat.le_refl _)]
      rfl
theorem rscount_any (v : Value) (l : List Rec) (w : World) (hv : recAt w v l) (hl : l.length ≤ 4096) (hok : Recs l) :
    Calls Try.prog 20 #[v] w fun e w' => e = .returned (.int .u64 (countR l)) ∧ w' = w := by
  rcases hv with ⟨rfl, ao, cap, rfl⟩ | ⟨hne, b, off, cap, rfl, hb, hc⟩
  · exact srcount_empty ao cap w
  · exact srcount_some b off cap l w hl hc hok

/-! ### Same -/
theorem rsame_empty (ao ao' : Option Addr) (cap cap' : Nat) (w : World) : Calls Try.prog 18 #[.slice ao 0 cap, .slice ao' 0 cap'] w fun e w' => e = .returned (.bool true) ∧ w' = w := by
  go_enter Try.func18, Try.ntmps18
  go_wp2
  refine wp_loop_rounds 1 ?_
  rw [rounds_succ]
  go_wp2
  go_ret
  exact ⟨rfl, rfl⟩
set_option maxHeartbeats 1000000 in
theorem rsame_some (b off cap b' off' cap' : Nat) (l : List Rec) (w : World) (hl : l.length ≤ 4096)
    (hc : ∀ (i : Nat) (r : Rec), l[i]? = some r → w.cell? ⟨b, off + i * 2, none⟩ = some (.int .u64 r.1) ∧ w.cell? ⟨b, off + (i * 2 + 1), none⟩ = some (.int .u64 r.2))
    (hc' : ∀ (i : Nat) (r : Rec), l[i]? = some r → w.cell? ⟨b', off' + i * 2, none⟩ = some (.int .u64 r.1) ∧ w.cell? ⟨b', off' + (i * 2 + 1), none⟩ = some (.int .u64 r.2)) :
    Calls Try.prog 18 #[.slice (some ⟨b, off, none⟩) l.length cap, .slice (some ⟨b', off', none⟩) l.length cap'] w fun e w' => e = .returned (.bool true) ∧ ∃ n, w' = w.drewN n := by
  have HC := Lib.hid hc
  have HC' := Lib.hid hc'
  clear hc hc'
  go_enter Try.func18, Try.ntmps18
  go_wp2
  go_loopw [5] (fun i wr => ∃ k n : Nat, k ≤ l.length ∧ i = .int .i64 k ∧ wr = w.drewN n) (fun i _ => l.length - (intOf i).toNat)
  case atStart => exact ⟨0, 0, Nat.zero_le _, rfl, rfl⟩
  case round =>
    obtain ⟨k, n, hk, rfl, rfl⟩ := hrel
    by_cases hlt : k < l.length
    · obtain ⟨⟨x, y⟩, hx⟩ : ∃ e, l[k]? = some e := ⟨l[k], by simp [hlt]⟩
      have p0 := (HC.out k _ hx).1
      have p1 : w.cell? ⟨b, off + k * 2 + 1, none⟩ = some (.int .u64 y) := (HC.out k _ hx).2
      have q0 := (HC'.out k _ hx).1
      have q1 : w.cell? ⟨b', off' + k * 2 + 1, none⟩ = some (.int .u64 y) := (HC'.out k _ hx).2
      simp only at p0 q0
      clear hx
      have hlt' : (k : Int) < (l.length : Int) := by omega
      have hk0 : (0 : Int) ≤ (k : Int) := by omega
      go_wp2
      go_quiet (fail)
      go_wp2
      go_roundw
      case rel => exact ⟨k + 1, _, by omega, by go_num, rfl⟩
      case measure => simp [intOf]; omega
    · go_wp2
      go_ret
      exact ⟨rfl, _, rfl⟩
theorem rsame_any (v v' : Value) (l : List Rec) (w : World) (hl : l.length ≤ 4096) (h : recAt w v l) (h' : recAt w v' l) :
    Calls Try.prog 18 #[v, v'] w fun e w' => e = .returned (.bool true) ∧ ∃ n, w' = w.drewN n := by
  rcases h with ⟨rfl, ao, cap, rfl⟩ | ⟨hne, b, off, cap, rfl, _, hc⟩
  · rcases h' with ⟨_, ao', cap', rfl⟩ | ⟨hne, _⟩
    · exact (rsame_empty ao ao' cap cap' w).mono fun e w' ⟨he, hw⟩ => ⟨he, 0, hw⟩
    · exact absurd rfl hne
  · rcases h' with ⟨rfl, _⟩ | ⟨_, b', off', cap', rfl, _, hc'⟩
    · exact absurd rfl hne
    · exact rsame_some b off cap b' off' cap' l w hl hc hc'
end Go.Proofs.Ytbgjfibninccdaa.so
