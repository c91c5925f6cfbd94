/- The law ArrayEvents. -/
import Derived.Test.YtkagpdbphdhbaaaArrayP
import Derived.Test.YtkagpdbphdhbaaaTapeF
import Derived.Test.YtkagpdbphdhbaaaTapeG
namespace Go.Proofs.Ytkagpdbphdhbaaa.ar
open Go Go.RowKit Go.Maps Go.Proofs.Ytkagpdbphdhbaaa.tp Go.Proofs.Ytkagpdbphdhbaaa.mk

/-- A tape and a list of the law's own, apart from each other. -/
structure One (B : Nat) (w : World) (q : Option Addr) (l1 : List Ev) (v : Value) (l : List Int) : Prop where
  ex : ∃ S, qAt w S q l1 ∧ (∀ k, S k → B ≤ k ∧ k < w.heap.size ∧ v.ownBlock ≠ some k)
  hv : wordsAt w v l
  hr : rowAt w v
  hlt : ∀ k, v.ownBlock = some k → B ≤ k ∧ k < w.heap.size
theorem One.tail {B : Nat} {w : World} {q : Option Addr} {l1 : List Ev} {v : Value} {l : List Int} (h : One B w q l1 v l) (hB : B ≤ w.heap.size) :
    ∃ S, qAt w S q l1 ∧ (∀ k, v.ownBlock = some k → ¬ S k) ∧ (∀ w' kind n, Tail q l1 kind n S w w' → One B w' q (recs q l1 kind n) v l ∧ Keeps (fun k => B ≤ k) w w') ∧
      ∀ w' l' kind n, wordsAt w' v l' → rowAt w' v → (∃ S', qAt w' S' q (recs q l1 kind n) ∧ ∀ k, S' k → S k ∨ w.heap.size ≤ k) → Keeps (fun k => S k ∨ v.ownBlock = some k) w w' → One B w' q (recs q l1 kind n) v l' ∧ Keeps (fun k => B ≤ k) w w' := by
  obtain ⟨⟨S, hq, hS⟩, hv, hr, hlt⟩ := h
  have key : ∀ (w' : World) (S' : Nat → Prop), w.heap.size ≤ w'.heap.size → (∀ k, S' k → S k ∨ w.heap.size ≤ k) → ∀ k, S' k ∧ k < w'.heap.size → B ≤ k ∧ k < w'.heap.size ∧ v.ownBlock ≠ some k := by
    rintro w' S' hz hS' k ⟨hk, hk'⟩
    rcases hS' k hk with h | h
    · exact ⟨(hS k h).1, hk', (hS k h).2.2⟩
    · exact ⟨by omega, hk', fun e => by have := hlt k e; omega⟩
  refine ⟨S, hq, fun k hk hs => (hS k hs).2.2 hk, ?_, ?_⟩
  · rintro w' kind n ⟨⟨S', hq', hS'⟩, hK⟩
    exact ⟨⟨⟨fun k => S' k ∧ k < w'.heap.size, hq'.mono (fun k hk h => ⟨h, hk⟩), key w' S' hK.size hS'⟩, hv.keep hK (fun _ k hk hs => (hS k hs).2.2 hk), hr.keep hK (fun k hk hs => (hS k hs).2.2 hk), fun k hk => by have := hlt k hk; have := hK.size; omega⟩, hK.mono (fun k _ hk => (hS k hk).1)⟩
  · rintro w' l' kind n hv' hr' ⟨S', hq', hS'⟩ hK
    exact ⟨⟨⟨fun k => S' k ∧ k < w'.heap.size, hq'.mono (fun k hk h => ⟨h, hk⟩), key w' S' hK.size hS'⟩, hv', hr', fun k hk => by have := hlt k hk; have := hK.size; omega⟩, hK.mono (fun k _ hk => hk.elim (fun h => (hS k h).1) (fun h => (hlt k h).1))⟩

theorem recs_evs (b : Addr) (l0 : List Ev) (kind : Int) (n : Nat) : recs (some b) l0 kind n = l0 ++ evs kind n := rfl
theorem arg_of_row {w : World} {base : Nat} {v : Value} {l : List Ev} (h : w.ownsRow base 45 3 v l.length (flat l)) : argAt w v l := by
  refine ⟨evAt_of_row h, fun n c e => ?_⟩
  rcases h.2 with ⟨rfl, h0⟩ | ⟨g, cap, cur, rfl, _⟩
  · cases e; exact ⟨rfl, rfl⟩
  · cases e
theorem six_cells (w : World) (a b c d e f : Value) (la lb lc ld le lf : List Ev) : ∀ (i : Nat) p, [(a, la), (b, lb), (c, lc), (d, ld), (e, le), (f, lf)][i]? = some p → (w.alloc (.cells #[a, b, c, d, e, f] 39)).cell? ⟨w.heap.size, i, none⟩ = some p.1 := by
  intro i p h
  rw [cell_of_row _ _ _ _ _ _ (heap_alloc_new w _)]
  have hi := (List.getElem?_eq_some_iff.1 h).1
  simp only [List.length_cons, List.length_nil] at hi
  rcases (show i = 0 ∨ i = 1 ∨ i = 2 ∨ i = 3 ∨ i = 4 ∨ i = 5 by omega) with rfl | rfl | rfl | rfl | rfl | rfl <;> (simp at h; subst h; rfl)

set_option maxHeartbeats 2000000 in
theorem events_law (v : Value) (l : List Int) (i x : Int) (w : World) (ha : argW w v l) (hw : Words l) (hi : IsU i) (hx : IsU x) : Calls Try.prog 8 #[v, .int .u64 i, .int .u64 x] w (Yes w) := by
  obtain ⟨hv, hn⟩ := ha
  obtain ⟨ao, cap, hva⟩ := words_shape hv
  subst hva
  by_cases hl : l.length ≤ 500
  · have hl' : ¬ (l.length : Int) > 500 := by omega
    go_enter Try.func8, Try.ntmps8
    go_wp2_with fail
    refine (new_any _).mono ?_; rintro e w1 ⟨b, rfl, hT1, hk1⟩
    go_wp2_with fail
    refine (uclone_any _ l _ (by omega) (hv.kept hk1)).mono ?_; rintro e w2 ⟨v2, rfl, hr2, hk2⟩
    obtain ⟨hv2, hra2, hge2⟩ := words_of_row hr2
    have hO : One w.heap.size w2 (some ⟨b, 0, none⟩) [] v2 l := by
      have z1 := hk1.size
      have z2 := hk2.size
      refine ⟨⟨fun k => w.heap.size ≤ k ∧ k < w1.heap.size, .inr ⟨b, rfl, (hT1.mono (fun k hk h => ⟨h, hk⟩)).keep hk2 (fun _ _ _ h => h)⟩, fun k hk => ⟨hk.1, by omega, fun e => by have := hge2 k e; omega⟩⟩, hv2, hra2, fun k hk => ?_⟩
      obtain ⟨cs, t, hc⟩ := hra2 k hk
      have := (Array.getElem?_eq_some_iff.1 hc).1
      have := hge2 k hk
      omega
    have hK2 : Keeps (fun k => w.heap.size ≤ k) w w2 := (hk1.trans hk2 (fun _ _ h => h)).mono (fun _ _ h => h.elim)
    clear hr2 hv2 hra2 hge2 hk1 hk2 hT1
    obtain ⟨S, hq, hd, hn1, _⟩ := hO.tail hK2.size
    go_wp2_with fail
    refine (read_calls _ _ S v2 l i w2 hq (by simp) hO.hv (by omega) (fun _ => hd) hw hi).mono ?_; rintro e w3 ⟨rfl, hT⟩
    obtain ⟨hO3, hk⟩ := hn1 _ _ _ hT
    have hK3 := hK2.trans hk (fun _ _ h => h)
    have hr3 := recs_length (some ⟨b, 0, none⟩) [] 1 l.length
    clear hO hK2 hq hd hn1 hT hk
    obtain ⟨S, hq, hd, _, hn1⟩ := hO3.tail hK3.size
    go_wp2_with fail
    refine (write_calls _ _ S v2 l i x w3 hq (by simp at hr3; omega) hO3.hv hO3.hr (by omega) hd hw hi hx).mono ?_; rintro e w4 ⟨rfl, hv4, hr4, hT, hk⟩
    obtain ⟨hO4, hk⟩ := hn1 _ _ _ _ hv4 hr4 hT hk
    have hK4 := hK3.trans hk (fun _ _ h => h)
    have hws : Words (l.set i.toNat x) := words_set hw hx _
    have hls : (l.set i.toNat x).length = l.length := by simp
    have hr4 := recs_length (some ⟨b, 0, none⟩) (recs (some ⟨b, 0, none⟩) [] 1 l.length) 2 l.length
    clear hO3 hK3 hq hd hn1 hT hk hv4
    generalize l.set i.toNat x = m at hO4 hws hls
    obtain ⟨S, hq, hd, hn1, _⟩ := hO4.tail hK4.size
    go_wp2_with fail
    refine (acount_calls _ _ S v2 m w4 hq (by simp at hr3; omega) hO4.hv (by omega) (fun _ => hd) hws).mono ?_; rintro e w5 ⟨rfl, hT⟩
    rw [hls] at hT
    obtain ⟨hO5, hk⟩ := hn1 _ _ _ hT
    have hK5 := hK4.trans hk (fun _ _ h => h)
    have hr5 := recs_length (some ⟨b, 0, none⟩) (recs (some ⟨b, 0, none⟩) (recs (some ⟨b, 0, none⟩) [] 1 l.length) 2 l.length) 1 l.length
    clear hO4 hK4 hq hd hn1 hT hk
    obtain ⟨S, hq, hd, hn1, _⟩ := hO5.tail hK5.size
    go_wp2_with fail
    refine (afirst_calls _ _ S v2 m w5 hq (by simp at hr3; omega) hO5.hv (by omega) (fun _ => hd) hws).mono ?_; rintro e w6 ⟨rfl, hT⟩
    rw [hls] at hT
    obtain ⟨hO6, hk⟩ := hn1 _ _ _ hT
    have hK6 := hK5.trans hk (fun _ _ h => h)
    have hr6 := recs_length (some ⟨b, 0, none⟩) (recs (some ⟨b, 0, none⟩) (recs (some ⟨b, 0, none⟩) (recs (some ⟨b, 0, none⟩) [] 1 l.length) 2 l.length) 1 l.length) 1 l.length
    clear hO5 hK5 hq hd hn1 hT hk
    obtain ⟨S, hq, hd, hn1, _⟩ := hO6.tail hK6.size
    go_wp2_with fail
    refine (all_calls _ _ S v2 m w6 hq (by simp at hr3; omega) hO6.hv (by omega) (fun _ => hd)).mono ?_; rintro e w7 ⟨rfl, hT⟩
    rw [hls] at hT
    obtain ⟨hO7, hk⟩ := hn1 _ _ _ hT
    have hK7 := hK6.trans hk (fun _ _ h => h)
    have hr7 := recs_length (some ⟨b, 0, none⟩) (recs (some ⟨b, 0, none⟩) (recs (some ⟨b, 0, none⟩) (recs (some ⟨b, 0, none⟩) (recs (some ⟨b, 0, none⟩) [] 1 l.length) 2 l.length) 1 l.length) 1 l.length) 1 l.length
    clear hO6 hK6 hq hd hn1 hT hk
    obtain ⟨S, hq, hd, hn1, _⟩ := hO7.tail hK7.size
    go_wp2_with fail
    refine (some_calls _ _ S v2 m w7 hq (by simp at hr3; omega) hO7.hv (by omega) (fun _ => hd)).mono ?_; rintro e w8 ⟨rfl, hT⟩
    rw [hls] at hT
    obtain ⟨hO8, hk⟩ := hn1 _ _ _ hT
    have hK8 := hK7.trans hk (fun _ _ h => h)
    clear hO7 hK7 hq hd hn1 hT hk hr3 hr4 hr5 hr6 hr7
    rw [recs_evs, recs_evs, recs_evs, recs_evs, recs_evs, recs_evs] at hO8
    obtain ⟨⟨S, hq, hS⟩, _, _, _⟩ := hO8
    go_wp2_with fail
    refine (revents_calls 1 l.length (by omega) _).mono ?_; rintro e w9 ⟨v9, rfl, hr9, hk9⟩
    have hq9 := hq.keep hk9 (fun _ _ _ h => h)
    have hK9 := hK8.trans hk9 (fun _ _ h => h.elim)
    have ha9 := arg_of_row hr9
    clear hq hK8 hk9 hr9
    go_wp2_with fail
    refine (revents_calls 2 l.length (by omega) _).mono ?_; rintro e w10 ⟨v10, rfl, hr10, hk10⟩
    have hq10 := hq9.keep hk10 (fun _ _ _ h => h)
    have hK10 := hK9.trans hk10 (fun _ _ h => h.elim)
    have ha10 := argAt_kept ha9 hk10
    have hb10 := arg_of_row hr10
    clear hq9 hK9 hk10 hr10 ha9
    go_wp2_with fail
    refine (alive_calls _).mono ?_; rintro e w11 ⟨rfl, hk11⟩
    have hq11 := hq10.keep hk11 (fun _ _ _ h => h)
    have hK11 := hK10.trans hk11 (fun _ _ h => h.elim)
    have ha11 := argAt_kept ha10 hk11
    have hb11 := argAt_kept hb10 hk11
    clear hq10 hK10 hk11 ha10 hb10
    have hlen : ∀ k, (evs k l.length).length ≤ 500 := fun k => by rw [evs_length]; exact hl
    have hl1 := hlen 1
    have hl2 := hlen 2
    generalize evs 1 l.length = E1 at hq11 ha11 hl1
    generalize evs 2 l.length = E2 at hq11 hb11 hl2
    obtain ⟨a9, c9, rfl⟩ := ha11.1.shape
    obtain ⟨a10, c10, rfl⟩ := hb11.1.shape
    go_wp2_with fail
    refine (events_calls _ S _ w11 (by simp only [List.length_append, List.length_nil]; omega) (qptr hq11)).mono ?_; rintro e w12 ⟨v12, rfl, hr12, hk12⟩
    have hK12 := hK11.trans hk12 (fun _ _ h => h.elim)
    have ha12 := argAt_kept ha11 hk12
    have hb12 := argAt_kept hb11 hk12
    have hc12 := arg_of_row hr12
    clear hq11 hK11 hk12 ha11 hb11 hr12
    go_wp2_with fail
    have hk13 := (Keeps.refl (fun _ => False) w12).alloc (.cells #[(.slice a9 E1.length c9), (.slice a10 E2.length c10), (.slice a9 E1.length c9), (.slice a9 E1.length c9), (.slice a9 E1.length c9), (.slice a9 E1.length c9)] 39)
    have cc := concat_calls w12.heap.size [((.slice a9 E1.length c9), E1), ((.slice a10 E2.length c10), E2), ((.slice a9 E1.length c9), E1), ((.slice a9 E1.length c9), E1), ((.slice a9 E1.length c9), E1), ((.slice a9 E1.length c9), E1)] 6 (w12.alloc (.cells #[(.slice a9 E1.length c9), (.slice a10 E2.length c10), (.slice a9 E1.length c9), (.slice a9 E1.length c9), (.slice a9 E1.length c9), (.slice a9 E1.length c9)] 39)) (by simp) (fun _ => by simp) (six_cells w12 (.slice a9 E1.length c9) (.slice a10 E2.length c10) (.slice a9 E1.length c9) (.slice a9 E1.length c9) (.slice a9 E1.length c9) (.slice a9 E1.length c9) E1 E2 E1 E1 E1 E1) (by
      have h1 := argAt_kept ha12 hk13
      have h2 := argAt_kept hb12 hk13
      intro p hp
      simp only [List.mem_cons, List.not_mem_nil, or_false] at hp
      rcases hp with rfl | rfl | rfl | rfl | rfl | rfl
      · exact h1
      · exact h2
      · exact h1
      · exact h1
      · exact h1
      · exact h1) (by simp [catE]; omega)
    have hc13 := argAt_kept hc12 hk13
    have hK13 := hK12.trans hk13 (fun _ _ h => h.elim)
    clear hc12 hk13 hK12
    refine cc.mono ?_; clear cc; rintro e w14 ⟨v14, rfl, hr14, hk14⟩
    have hc14 := argAt_kept hc13 hk14
    have hK14 := hK13.trans hk14 (fun _ _ h => h.elim)
    have hd14 := arg_of_row hr14
    clear hc13 hK13 hk14 hr14
    have hE : catE [((.slice a9 E1.length c9), E1), ((.slice a10 E2.length c10), E2), ((.slice a9 E1.length c9), E1), ((.slice a9 E1.length c9), E1), ((.slice a9 E1.length c9), E1), ((.slice a9 E1.length c9), E1)] = [] ++ E1 ++ E2 ++ E1 ++ E1 ++ E1 ++ E1 := by simp [catE]
    rw [hE] at hd14
    go_wp2_with fail
    have cc := same_calls v12 v14 _ _ w14 (by simp only [List.length_append, List.length_nil]; omega) (by simp only [List.length_append, List.length_nil]; omega) hc14.1 hd14.1
    rw [decide_eq_true rfl] at cc
    refine cc.mono ?_; clear cc; rintro e w15 ⟨rfl, n, rfl⟩
    go_wp2_with fail
    go_ret
    exact ⟨rfl, (hK14.trans (keeps_drewN w14 n) (fun _ _ h => h.elim)).mono (fun k hk h => absurd h (by omega))⟩
  · have hl' : (l.length : Int) > 500 := by omega
    go_enter Try.func8, Try.ntmps8
    go_wp2_with fail
    refine (alive_calls _).mono ?_; rintro e w3 ⟨rfl, hk3⟩
    go_wp2
    go_ret
    exact ⟨rfl, hk3⟩
end Go.Proofs.Ytkagpdbphdhbaaa.ar
