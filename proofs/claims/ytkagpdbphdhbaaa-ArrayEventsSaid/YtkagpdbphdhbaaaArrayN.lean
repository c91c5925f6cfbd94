/- The law ArrayIsOblivious. -/
import Derived.Test.YtkagpdbphdhbaaaArrayM
namespace Go.Proofs.Ytkagpdbphdhbaaa.ar
open Go Go.RowKit Go.Maps Go.Proofs.Ytkagpdbphdhbaaa.tp Go.Proofs.Ytkagpdbphdhbaaa.mk

/-- Two tapes, the argument's list and a list of the law's own, apart from each other. B: what the law has made begins here. -/
structure Obl (B : Nat) (w : World) (q1 q2 : Option Addr) (l1 l2 : List Ev) (v v1 : Value) (l m : List Int) : Prop where
  ex : ∃ S1 S2, qAt w S1 q1 l1 ∧ qAt w S2 q2 l2 ∧ (∀ k, S1 k → B ≤ k ∧ k < w.heap.size ∧ ¬ S2 k ∧ (l ≠ [] → v.ownBlock ≠ some k) ∧ v1.ownBlock ≠ some k) ∧ (∀ k, S2 k → B ≤ k ∧ k < w.heap.size ∧ (l ≠ [] → v.ownBlock ≠ some k) ∧ v1.ownBlock ≠ some k)
  hv : wordsAt w v l
  hm : wordsAt w v1 m
  hr : rowAt w v1
  hlt : ∀ k, ((l ≠ [] ∧ v.ownBlock = some k) ∨ v1.ownBlock = some k) → k < w.heap.size
theorem Obl.symm {B : Nat} {w : World} {q1 q2 : Option Addr} {l1 l2 : List Ev} {v v1 : Value} {l m : List Int} (h : Obl B w q1 q2 l1 l2 v v1 l m) : Obl B w q2 q1 l2 l1 v v1 l m := by
  obtain ⟨⟨S1, S2, h1, h2, h3, h4⟩, hv, hm, hr, hlt⟩ := h
  exact ⟨⟨S2, S1, h2, h1, fun k hk => ⟨(h4 k hk).1, (h4 k hk).2.1, fun hh => (h3 k hh).2.2.1 hk, (h4 k hk).2.2⟩, fun k hk => ⟨(h3 k hk).1, (h3 k hk).2.1, (h3 k hk).2.2.2⟩⟩, hv, hm, hr, hlt⟩
theorem rowAt.keep {w w' : World} {v : Value} {T : Nat → Prop} (h : rowAt w v) (hk : Keeps T w w') (hT : ∀ k, v.ownBlock = some k → ¬ T k) : rowAt w' v := by
  intro b hb
  obtain ⟨cs, t, hr⟩ := h b hb
  exact ⟨cs, t, (hk.block b (Array.getElem?_eq_some_iff.1 hr).1 (hT b hb)).trans hr⟩
theorem Obl.step {B : Nat} {w : World} {q1 q2 : Option Addr} {l1 l2 : List Ev} {v v1 : Value} {l m : List Int} (h : Obl B w q1 q2 l1 l2 v v1 l m) (hB : B ≤ w.heap.size) :
    ∃ S, qAt w S q1 l1 ∧ (∀ k, S k → B ≤ k ∧ k < w.heap.size ∧ (l ≠ [] → v.ownBlock ≠ some k) ∧ v1.ownBlock ≠ some k) ∧
      (∀ w' l1', (∃ S', qAt w' S' q1 l1' ∧ ∀ k, S' k → S k ∨ w.heap.size ≤ k) → Keeps S w w' → Obl B w' q1 q2 l1' l2 v v1 l m) ∧
      (∀ w' l1', (∃ S', qAt w' S' q1 l1' ∧ ∀ k, S' k → S k ∨ w.heap.size ≤ k) → Keeps (fun k => S k ∨ v1.ownBlock = some k) w w' → ∃ S1 S2, qAt w' S1 q1 l1' ∧ qAt w' S2 q2 l2) := by
  obtain ⟨⟨S1, S2, h1, h2, h3, h4⟩, hv, hm, hr, hlt⟩ := h
  refine ⟨S1, h1, fun k hk => ⟨(h3 k hk).1, (h3 k hk).2.1, (h3 k hk).2.2.2⟩, ?_, ?_⟩
  · rintro w' l1' ⟨S', hq, hS'⟩ hK
    have hsz := hK.size
    refine ⟨⟨fun k => S' k ∧ k < w'.heap.size, S2, hq.mono (fun k hk h => ⟨h, hk⟩), h2.keep hK (fun k _ h2k h1k => (h3 k h1k).2.2.1 h2k), ?_, fun k hk => ⟨(h4 k hk).1, by have := (h4 k hk).2.1; omega, (h4 k hk).2.2⟩⟩, hv.keep hK (fun hne k hk hs => (h3 k hs).2.2.2.1 hne hk), hm.keep hK (fun _ k hk hs => (h3 k hs).2.2.2.2 hk), hr.keep hK (fun k hk hs => (h3 k hs).2.2.2.2 hk), fun k hk => by have := hlt k hk; omega⟩
    rintro k ⟨hk, hk'⟩
    rcases hS' k hk with h | h
    · exact ⟨(h3 k h).1, hk', (h3 k h).2.2⟩
    · exact ⟨by omega, hk', fun hh => by have := (h4 k hh).2.1; omega, fun hne hh => by have := hlt k (.inl ⟨hne, hh⟩); omega, fun hh => by have := hlt k (.inr hh); omega⟩
  · rintro w' l1' ⟨S', hq, hS'⟩ hK
    exact ⟨S', S2, hq, h2.keep hK (fun k _ h2k h1k => h1k.elim (fun h => (h3 k h).2.2.1 h2k) (fun h => (h4 k h2k).2.2.2 h))⟩
theorem Obl.read {B : Nat} {w : World} {q1 q2 : Option Addr} {l1 l2 : List Ev} {v v1 : Value} {l m : List Int} (h : Obl B w q1 q2 l1 l2 v v1 l m) {e : Nat} (hB : B ≤ w.heap.size) (h1 : l1.length ≤ 549755813888) (hl : l.length ≤ 549755813888) (hw : Words l) (i : Int) (hi : IsU i) (he : e = l.length) :
    Calls Try.prog 17 #[.pointer q1, v, .int .u64 i] w fun r w' => (∃ x, r = .returned x) ∧ Obl B w' q1 q2 (recs q1 l1 1 e) l2 v v1 l m ∧ Keeps (fun k => B ≤ k) w w' := by
  obtain ⟨S, hq, hS, hn, _⟩ := h.step hB
  subst he
  exact (read_calls q1 l1 S v l i w hq h1 h.hv hl (fun hne k hk hs => (hS k hs).2.2.1 hne hk) hw hi).mono fun r w' ⟨hr, hT⟩ => ⟨⟨_, hr⟩, hn w' _ hT.1 hT.2, hT.2.mono (fun k _ hk => (hS k hk).1)⟩
theorem Obl.read' {B : Nat} {w : World} {q1 q2 : Option Addr} {l1 l2 : List Ev} {v v1 : Value} {l m : List Int} (h : Obl B w q1 q2 l1 l2 v v1 l m) {e : Nat} (hB : B ≤ w.heap.size) (h2 : l2.length ≤ 549755813888) (hl : m.length ≤ 549755813888) (hw : Words m) (i : Int) (hi : IsU i) (he : e = m.length) :
    Calls Try.prog 17 #[.pointer q2, v1, .int .u64 i] w fun r w' => (∃ x, r = .returned x) ∧ Obl B w' q1 q2 l1 (recs q2 l2 1 e) v v1 l m ∧ Keeps (fun k => B ≤ k) w w' := by
  obtain ⟨S, hq, hS, hn, _⟩ := h.symm.step hB
  subst he
  exact (read_calls q2 l2 S v1 m i w hq h2 h.hm hl (fun _ k hk hs => (hS k hs).2.2.2 hk) hw hi).mono fun r w' ⟨hr, hT⟩ => ⟨⟨_, hr⟩, (hn w' _ hT.1 hT.2).symm, hT.2.mono (fun k _ hk => (hS k hk).1)⟩
theorem Obl.first {B : Nat} {w : World} {q1 q2 : Option Addr} {l1 l2 : List Ev} {v v1 : Value} {l m : List Int} (h : Obl B w q1 q2 l1 l2 v v1 l m) {e : Nat} (hB : B ≤ w.heap.size) (h1 : l1.length ≤ 549755813888) (hl : l.length ≤ 549755813888) (hw : Words l) (he : e = l.length) :
    Calls Try.prog 11 #[.pointer q1, v] w fun r w' => (∃ x, r = .returned x) ∧ Obl B w' q1 q2 (recs q1 l1 1 e) l2 v v1 l m ∧ Keeps (fun k => B ≤ k) w w' := by
  obtain ⟨S, hq, hS, hn, _⟩ := h.step hB
  subst he
  exact (afirst_calls q1 l1 S v l w hq h1 h.hv hl (fun hne k hk hs => (hS k hs).2.2.1 hne hk) hw).mono fun r w' ⟨hr, hT⟩ => ⟨⟨_, hr⟩, hn w' _ hT.1 hT.2, hT.2.mono (fun k _ hk => (hS k hk).1)⟩
theorem Obl.first' {B : Nat} {w : World} {q1 q2 : Option Addr} {l1 l2 : List Ev} {v v1 : Value} {l m : List Int} (h : Obl B w q1 q2 l1 l2 v v1 l m) {e : Nat} (hB : B ≤ w.heap.size) (h2 : l2.length ≤ 549755813888) (hl : m.length ≤ 549755813888) (hw : Words m) (he : e = m.length) :
    Calls Try.prog 11 #[.pointer q2, v1] w fun r w' => (∃ x, r = .returned x) ∧ Obl B w' q1 q2 l1 (recs q2 l2 1 e) v v1 l m ∧ Keeps (fun k => B ≤ k) w w' := by
  obtain ⟨S, hq, hS, hn, _⟩ := h.symm.step hB
  subst he
  exact (afirst_calls q2 l2 S v1 m w hq h2 h.hm hl (fun _ k hk hs => (hS k hs).2.2.2 hk) hw).mono fun r w' ⟨hr, hT⟩ => ⟨⟨_, hr⟩, (hn w' _ hT.1 hT.2).symm, hT.2.mono (fun k _ hk => (hS k hk).1)⟩

/-- The words of a list of which the first k have been turned by f. -/
def RowF (f : Int → Int) (g : Nat) (l : List Int) (k : Nat) (W : World) : Prop :=
  l ≠ [] → ∃ cs t, W.heap[g]? = some (.cells cs t (0, 0)) ∧ ∀ (j : Nat) (y : Int), l[j]? = some y → cs[j]? = some (.int .u64 (if j < k then f y else y))
theorem RowF.set {f : Int → Int} {g : Nat} {l : List Int} {k : Nat} {W : World} (h : RowF f g l k W) {y : Int} (hy : l[k]? = some y) : RowF f g l (k + 1) (W.setCell ⟨g, k, none⟩ (.int .u64 (f y))) := by
  intro hne
  obtain ⟨cs, t, hr, hc⟩ := h hne
  have hcy := hc k y hy
  have hlt := (Array.getElem?_eq_some_iff.1 hcy).1
  refine ⟨_, _, row_set hr _, fun j z hz => ?_⟩
  by_cases hj : j = k
  · subst hj
    rw [hy] at hz
    injection hz with hz
    subst hz
    rw [Array.getElem?_setIfInBounds, if_pos rfl, if_pos hlt, if_pos (by omega)]
  · rw [Array.getElem?_setIfInBounds, if_neg (by omega), hc j z hz]
    by_cases h : j < k
    · rw [if_pos h, if_pos (by omega)]
    · rw [if_neg h, if_neg (by omega)]
theorem RowF.cell {f : Int → Int} {g : Nat} {l : List Int} {k : Nat} {W : World} (h : RowF f g l k W) {y : Int} (hy : l[k]? = some y) : W.cell? ⟨g, k, none⟩ = some (.int .u64 y) ∧ W.frozen? ⟨g, k, none⟩ = false := by
  have hne : l ≠ [] := by intro e; rw [e] at hy; simp at hy
  obtain ⟨cs, t, hr, hc⟩ := h hne
  exact ⟨by rw [cell_of_row _ _ _ _ _ _ hr, hc k y hy, if_neg (by omega)], two_frozen hr _⟩
theorem RowF.words {f : Int → Int} {g : Nat} {l : List Int} {W : World} {cap : Nat} (h : RowF f g l l.length W) : wordsAt W (.slice (some ⟨g, 0, none⟩) l.length cap) (l.map f) ∧ (l ≠ [] → rowAt W (.slice (some ⟨g, 0, none⟩) l.length cap)) := by
  by_cases hne : l = []
  · subst hne
    exact ⟨.inl ⟨rfl, _, _, rfl⟩, fun h => absurd rfl h⟩
  · obtain ⟨cs, t, hr, hc⟩ := h hne
    refine ⟨.inr ⟨by simpa using hne, g, 0, cap, by simp, (Array.getElem?_eq_some_iff.1 hr).1, fun j z hz => ?_⟩, fun _ b hb => ?_⟩
    · rw [List.getElem?_map] at hz
      cases hl : l[j]? with
      | none => rw [hl] at hz; cases hz
      | some y =>
        rw [hl] at hz
        cases hz
        have hj := (List.getElem?_eq_some_iff.1 hl).1
        rw [cell_of_row _ _ _ _ _ _ hr, Nat.zero_add, hc j y hl, if_pos hj]
    · cases hb
      exact ⟨cs, t, hr⟩
theorem wrap_isU (n : Int) : IsU (IntKind.u64.wrap n) := by rw [wrap_u64]; unfold IsU; omega
theorem Obl.start {B : Nat} {w w' w'' : World} {b1 b2 : Nat} {v v1 : Value} {l m : List Int} (hv : wordsAt w v l) (hm : wordsAt w v1 m) (hr : rowAt w v1) (hB : B ≤ w.heap.size) (hlt : ∀ k, ((l ≠ [] ∧ v.ownBlock = some k) ∨ v1.ownBlock = some k) → k < w.heap.size)
    (t1 : tapeAt w' (fun k => w.heap.size ≤ k) b1 []) (k1 : Keeps (fun _ => False) w w') (t2 : tapeAt w'' (fun k => w'.heap.size ≤ k) b2 []) (k2 : Keeps (fun _ => False) w' w'') : Obl B w'' (some ⟨b1, 0, none⟩) (some ⟨b2, 0, none⟩) [] [] v v1 l m := by
  have z1 := k1.size
  have z2 := k2.size
  refine ⟨⟨fun k => w.heap.size ≤ k ∧ k < w'.heap.size, fun k => w'.heap.size ≤ k ∧ k < w''.heap.size, .inr ⟨b1, rfl, (t1.mono (fun k hk h => ⟨h, hk⟩)).keep k2 (fun _ _ _ h => h)⟩, .inr ⟨b2, rfl, t2.mono (fun k hk h => ⟨h, hk⟩)⟩, ?_, ?_⟩, (hv.kept k1).kept k2, (hm.kept k1).kept k2, (hr.keep k1 (fun _ _ h => h)).keep k2 (fun _ _ h => h), fun k hk => by have := hlt k hk; omega⟩
  · rintro k ⟨h1, h2⟩
    exact ⟨by omega, by omega, by omega, fun hne h => by have := hlt k (.inl ⟨hne, h⟩); omega, fun h => by have := hlt k (.inr h); omega⟩
  · rintro k ⟨h1, h2⟩
    exact ⟨by omega, by omega, fun hne h => by have := hlt k (.inl ⟨hne, h⟩); omega, fun h => by have := hlt k (.inr h); omega⟩
theorem qptr {w : World} {S : Nat → Prop} {q : Option Addr} {l : List Ev} (h : qAt w S q l) : ptrAt w S (.pointer q) l := by
  rcases h with ⟨rfl, rfl⟩ | ⟨b, rfl, h⟩
  · exact .inl ⟨rfl, rfl⟩
  · exact .inr ⟨b, rfl, h⟩
theorem row_start {w w1 : World} {v1 : Value} {l : List Int} (f : Int → Int) (h : w1.ownsRow w.heap.size 24 1 v1 l.length (wflat l)) :
    ∃ g ao1 cap1, v1 = .slice ao1 l.length cap1 ∧ (l ≠ [] → ao1 = some ⟨g, 0, none⟩ ∧ w.heap.size ≤ g) ∧ RowF f g l 0 w1 ∧ (∀ b, v1.ownBlock = some b → b < w1.heap.size) := by
  have hv := (words_of_row h).1
  rcases h.2 with ⟨rfl, h0⟩ | ⟨g, cap, cur, rfl, hb, hg, hle, hcap, hcur, htake⟩
  · have hl : l = [] := List.eq_nil_of_length_eq_zero h0
    subst hl
    exact ⟨0, none, 0, rfl, fun h => absurd rfl h, fun h => absurd rfl h, fun b h => by cases h⟩
  · refine ⟨g, _, _, rfl, fun _ => ⟨rfl, hb⟩, fun hne => ⟨cur, _, hg, fun j y hy => ?_⟩, fun b h => by cases h; exact (Array.getElem?_eq_some_iff.1 hg).1⟩
    rcases words_cases hv with ⟨h, _⟩ | ⟨_, b, off, cap', e, hc⟩
    · exact absurd h hne
    · cases e
      have := hc j y hy
      rw [cell_of_row _ _ _ _ _ _ hg, Nat.zero_add] at this
      rw [this, if_neg (by omega)]

set_option maxHeartbeats 2000000 in
theorem oblivious_law (v : Value) (l : List Int) (i x : Int) (w : World) (ha : argW w v l) (hw : Words l) (hi : IsU i) (hx : IsU x) : Calls Try.prog 7 #[v, .int .u64 i, .int .u64 x] w (Yes w) := by
  obtain ⟨hv, hn⟩ := ha
  obtain ⟨ao, cap, hva⟩ := words_shape hv
  subst hva
  by_cases hl : l.length ≤ 500
  · have hl' : ¬ (l.length : Int) > 500 := by omega
    go_enter Try.func7, Try.ntmps7
    go_wp2_with fail
    refine (uclone_any _ l _ (by omega) hv).mono ?_; rintro e w1 ⟨v1, rfl, hr1, hk1⟩
    obtain ⟨hv1, hra1, hge1⟩ := words_of_row hr1
    have hvw := hv.kept hk1
    have hlt0 : ∀ k, l ≠ [] → (Value.slice ao l.length cap).ownBlock = some k → k < w.heap.size := by
      intro k hne hk
      rcases hv with ⟨h, _⟩ | ⟨_, b, off, cap', e, hb, _⟩
      · exact absurd h hne
      · cases e; cases hk; exact hb
    obtain ⟨g, ao1, cap1, hva1, hao1, hrow1, hlt1⟩ := row_start (fun y => IntKind.u64.wrap (IntKind.u64.wrap (y * i) + x)) hr1
    subst hva1
    have Hw1 := Lib.hid hr1
    have Hra := Lib.hid hra1
    have Hge := Lib.hid hge1
    have Hlt := Lib.hid hlt1
    have Hlt0 := Lib.hid hlt0
    have Hvw := Lib.hid hvw
    have Hk1 := Lib.hid hk1
    have Hn := Lib.hid hn
    clear hr1 hra1 hge1 hv1 hv hvw hlt0 hlt1 hk1 hn
    go_wp2_with fail
    go_loopw [19] (fun j wr => ∃ k : Nat, k ≤ l.length ∧ j = .int .i64 k ∧ RowF (fun y => IntKind.u64.wrap (IntKind.u64.wrap (y * i) + x)) g l k wr ∧ Keeps (fun b => b = g ∧ l ≠ []) w1 wr) (fun j _ => l.length - (intOf j).toNat)
    case atStart => exact ⟨0, Nat.zero_le _, rfl, hrow1, Keeps.refl _ _⟩
    case round =>
      obtain ⟨k, hk, rfl, hrow, hkw⟩ := hrel
      by_cases hlt : k < l.length
      · obtain ⟨y, hy⟩ : ∃ e, l[k]? = some e := ⟨l[k], by simp [hlt]⟩
        have hne : l ≠ [] := by intro e; rw [e] at hlt; simp at hlt
        obtain ⟨p0, f0⟩ := hrow.cell hy
        have Hs := Lib.hid (hrow.set hy)
        have Hkw := Lib.hid hkw
        clear hrow hkw hy hrow1
        have hlt' : (k : Int) < (l.length : Int) := by omega
        obtain ⟨ha, _⟩ := hao1 hne
        subst ha
        go_wp2
        go_roundw
        case rel => exact ⟨k + 1, by omega, by go_num, Hs.out, Hkw.out.setCell ⟨g, k, none⟩ (fun _ => ⟨rfl, hne⟩) _⟩
        case measure => simp [intOf]; omega
      · have e : k = l.length := by omega
        subst e
        obtain ⟨hvm, hrm⟩ := hrow.words (cap := cap1)
        have hvm : wordsAt wr (.slice ao1 l.length cap1) (l.map fun y => IntKind.u64.wrap (IntKind.u64.wrap (y * i) + x)) := by
          by_cases hne : l = []
          · subst hne; exact .inl ⟨rfl, _, _, rfl⟩
          · rw [(hao1 hne).1]; exact hvm
        have hrm : rowAt wr (.slice ao1 l.length cap1) := by
          by_cases hne : l = []
          · exact Hra.out.keep hkw (fun k _ h => h.2 hne)
          · have := hrm hne
            rw [(hao1 hne).1]; exact this
        have hK1 : Keeps (fun _ => False) w wr := Hk1.out.trans hkw (fun b hb h => by have := (hao1 h.2).2; rw [h.1] at hb; omega)
        have hvl : wordsAt wr (.slice ao l.length cap) l := Hvw.out.keep hkw (fun hne b hb h => by have := (hao1 hne).2; have := Hlt0.out b hne hb; rw [h.1] at this; omega)
        have hltb : ∀ k, ((l ≠ [] ∧ (Value.slice ao l.length cap).ownBlock = some k) ∨ (Value.slice ao1 l.length cap1).ownBlock = some k) → k < wr.heap.size := by
          intro k hk
          have h1 := hkw.size
          have h2 := hK1.size
          rcases hk with ⟨hne, hk⟩ | hk
          · have := Hlt0.out k hne hk; omega
          · have := Hlt.out k hk; omega
        have hBw := hK1.size
        have hwm : Words (l.map fun y => IntKind.u64.wrap (IntKind.u64.wrap (y * i) + x)) := by
          intro y hy
          obtain ⟨z, _, rfl⟩ := List.mem_map.1 hy
          exact wrap_isU _
        have hlm : (l.map fun y => IntKind.u64.wrap (IntKind.u64.wrap (y * i) + x)).length = l.length := by simp
        generalize (l.map fun y => IntKind.u64.wrap (IntKind.u64.wrap (y * i) + x)) = m at hvm hwm hlm
        clear hrow hkw hrow1
        go_wp2_with fail
        refine (new_any _).mono ?_; rintro e w2 ⟨b1, rfl, hT2, hk2⟩
        go_wp2_with fail
        refine (new_any _).mono ?_; rintro e w3 ⟨b2, rfl, hT3, hk3⟩
        have hO := Obl.start (B := w.heap.size) hvl hvm hrm hBw hltb hT2 hk2 hT3 hk3
        have hK3 : Keeps (fun k => w.heap.size ≤ k) w w3 := ((hK1.trans hk2 (fun _ _ h => h)).trans hk3 (fun _ _ h => h)).mono (fun _ _ h => h.elim)
        clear hvl hvm hrm hBw hltb hT2 hk2 hT3 hk3 hK1
        go_wp2_with fail
        refine (hO.read (e := l.length) hK3.size (by simp) (by omega) hw i hi rfl).mono ?_; rintro e w4 ⟨⟨_, rfl⟩, hO4, hk4⟩
        have hK4 := hK3.trans hk4 (fun _ _ h => h)
        clear hO hk4 hK3
        have hr1 : (recs (some ⟨b1, 0, none⟩) [] 1 l.length).length ≤ l.length := by have := recs_length (some ⟨b1, 0, none⟩) [] 1 l.length; simpa using this
        go_wp2_with fail
        refine (hO4.read' (e := l.length) hK4.size (by simp) (by omega) hwm x hx hlm.symm).mono ?_; rintro e w5 ⟨⟨_, rfl⟩, hO5, hk5⟩
        have hK5 := hK4.trans hk5 (fun _ _ h => h)
        clear hO4 hk5 hK4
        have hr2 : (recs (some ⟨b2, 0, none⟩) [] 1 l.length).length ≤ l.length := by have := recs_length (some ⟨b2, 0, none⟩) [] 1 l.length; simpa using this
        go_wp2_with fail
        refine (hO5.first (e := l.length) hK5.size (by omega) (by omega) hw rfl).mono ?_; rintro e w6 ⟨⟨_, rfl⟩, hO6, hk6⟩
        have hK6 := hK5.trans hk6 (fun _ _ h => h)
        clear hO5 hk6 hK5
        have hr3 := recs_length (some ⟨b1, 0, none⟩) (recs (some ⟨b1, 0, none⟩) [] 1 l.length) 1 l.length
        go_wp2_with fail
        refine (hO6.first' (e := l.length) hK6.size (by omega) (by omega) hwm hlm.symm).mono ?_; rintro e w7 ⟨⟨_, rfl⟩, hO7, hk7⟩
        have hK7 := hK6.trans hk7 (fun _ _ h => h)
        clear hO6 hk7 hK6
        have hr4 := recs_length (some ⟨b2, 0, none⟩) (recs (some ⟨b2, 0, none⟩) [] 1 l.length) 1 l.length
        go_wp2_with fail
        refine (uclone_any _ l _ (by omega) hO7.hv).mono ?_; rintro e w8 ⟨v8, rfl, hr8, hk8⟩
        obtain ⟨hv8, hra8, hge8⟩ := words_of_row hr8
        obtain ⟨S, hq, hS, hnext, _⟩ := hO7.step hK7.size
        have hw7 := hK7.size
        go_wp2_with fail
        refine (write_calls _ _ S v8 l i x w8 (hq.keep hk8 (fun _ _ _ h => h)) (by omega) hv8 hra8 (by omega) (fun k hk hs => by have := hge8 k hk; have := hS k hs; omega) hw hi hx).mono ?_; rintro e w9 ⟨rfl, _, _, hT9, hk9⟩
        have hk79 : Keeps S w7 w9 := (hk8.mono (fun _ _ h => h.elim)).trans hk9 (fun k hk h => h.elim id (fun h => by have := hge8 k h; omega))
        have hO9 := hnext w9 _ (by obtain ⟨S', h1, h2⟩ := hT9; exact ⟨S', h1, fun k hk => (h2 k hk).elim .inl (fun h => .inr (by have := hk8.size; omega))⟩) hk79
        have hK9 := hK7.trans hk79 (fun k _ h => (hS k h).1)
        clear hO7 hr8 hk8 hv8 hra8 hge8 hq hS hnext hT9 hk9 hk79 hK7 hw7
        obtain ⟨S, hq, hS, _, hnext⟩ := hO9.symm.step hK9.size
        go_wp2_with fail
        refine (write_calls _ _ S _ m x i w9 hq (by omega) hO9.hm hO9.hr (by omega) (fun k hk hs => (hS k hs).2.2.2 hk) hwm hx hi).mono ?_; rintro e w10 ⟨rfl, _, _, hT10, hk10⟩
        obtain ⟨S2, S1, hq2, hq1⟩ := hnext w10 _ hT10 hk10
        rw [hlm] at hq2
        have hK10 := hK9.trans hk10 (fun k _ h => h.elim (fun h => (hS k h).1) (fun h => Hge.out k h))
        clear hO9 hK9 hq hS hnext hT10 hk10
        go_wp2_with fail
        refine (alive_calls _).mono ?_; rintro e w11 ⟨rfl, hk11⟩
        go_wp2_with fail
        have cc := tequal_calls _ _ S1 S2 _ _ w11 (by have := recs_length (some ⟨b1, 0, none⟩) (recs (some ⟨b1, 0, none⟩) (recs (some ⟨b1, 0, none⟩) [] 1 l.length) 1 l.length) 2 l.length; omega) (qptr (hq1.keep hk11 (fun _ _ _ h => h))) (qptr (hq2.keep hk11 (fun _ _ _ h => h)))
        rw [decide_eq_true (show recs (some ⟨b1, 0, none⟩) (recs (some ⟨b1, 0, none⟩) (recs (some ⟨b1, 0, none⟩) [] 1 l.length) 1 l.length) 2 l.length = recs (some ⟨b2, 0, none⟩) (recs (some ⟨b2, 0, none⟩) (recs (some ⟨b2, 0, none⟩) [] 1 l.length) 1 l.length) 2 l.length from rfl)] at cc
        refine cc.mono ?_; clear cc; rintro e w12 ⟨rfl, n, rfl⟩
        go_wp2_with fail
        go_ret
        have hK12 := (hK10.trans (hk11.mono (T := fun k => w.heap.size ≤ k) (fun _ _ h => h.elim)) (fun _ _ h => h)).trans ((keeps_drewN w11 n).mono (T := fun k => w.heap.size ≤ k) (fun _ _ h => h.elim)) (fun _ _ h => h)
        exact ⟨rfl, hK12.mono (fun k hk h => absurd h (by omega))⟩
  · have hl' : (l.length : Int) > 500 := by omega
    go_enter Try.func7, Try.ntmps7
    go_wp2_with fail
    refine (alive_calls _).mono ?_; rintro e w3 ⟨rfl, hk3⟩
    go_wp2
    go_ret
    exact ⟨rfl, hk3⟩
end Go.Proofs.Ytkagpdbphdhbaaa.ar
