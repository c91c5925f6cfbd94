/- Write of package array. -/
import Derived.Test.YtkagpdbphdhbaaaArrayX
namespace Go.Proofs.Ytkagpdbphdhbaaa.ar
open Go Go.RowKit Go.Shelf Go.Proofs.Ytkagpdbphdhbaaa.tp Go.Proofs.Ytkagpdbphdhbaaa.mk Go.Proofs.Ytkagpdbphdhbaaa.rg

attribute [local go_sem] Oper.semAt_some

theorem row_set {w : World} {b j : Nat} {cs : Array Value} {t : TypeId} {fr : Nat × Nat} (h : w.heap[b]? = some (.cells cs t fr)) (u : Value) : (w.setCell ⟨b, j, none⟩ u).heap[b]? = some (.cells (cs.setIfInBounds j u) t fr) := by
  simp [World.setCell, Array.getElem?_modify, h]

/-- A list whose row may be written. -/
def rowAt (w : World) (v : Value) : Prop := ∀ b, v.ownBlock = some b → ∃ cs t, w.heap[b]? = some (.cells cs t (0, 0))
/-- The words of a list of which the first k have been visited. -/
def halfI (i x : Int) (k j : Nat) (y : Int) : Int := if j < k ∧ i = (j : Int) then x else y
def RowK (b off : Nat) (l : List Int) (i x : Int) (k : Nat) (W : World) : Prop :=
  l ≠ [] → ∃ cs t, W.heap[b]? = some (.cells cs t (0, 0)) ∧ ∀ (j : Nat) (y : Int), l[j]? = some y → cs[off + j]? = some (.int .u64 (halfI i x k j y))
theorem RowK.set {b off : Nat} {l : List Int} {i x : Int} {k : Nat} {W : World} (h : RowK b off l i x k W) {y : Int} (hy : l[k]? = some y) : RowK b off l i x (k + 1) (W.setCell ⟨b, off + k, none⟩ (.int .u64 (if i = (k : Int) then x else y))) := by
  intro hne
  obtain ⟨cs, t, hr, hc⟩ := h hne
  have hcy := hc k y hy
  have hlt := (Array.getElem?_eq_some_iff.1 hcy).1
  refine ⟨_, _, row_set hr _, fun j z hz => ?_⟩
  by_cases hj : j = k
  · subst hj
    rw [hy] at hz
    injection hz with hz
    subst hz
    rw [Array.getElem?_setIfInBounds, if_pos rfl, if_pos hlt]
    unfold halfI
    by_cases h : i = (j : Int)
    · rw [if_pos h, if_pos ⟨by omega, h⟩]
    · rw [if_neg h, if_neg (fun hh => h hh.2)]
  · rw [Array.getElem?_setIfInBounds, if_neg (by omega), hc j z hz]
    unfold halfI
    by_cases h : j < k
    · by_cases h2 : i = (j : Int)
      · rw [if_pos ⟨h, h2⟩, if_pos ⟨by omega, h2⟩]
      · rw [if_neg (fun hh => h2 hh.2), if_neg (fun hh => h2 hh.2)]
    · rw [if_neg (fun hh => h hh.1), if_neg (fun hh => by omega)]
theorem RowK.drew {b off : Nat} {l : List Int} {i x : Int} {k : Nat} {W : World} (h : RowK b off l i x k W) : RowK b off l i x k W.drew := h

theorem other_set' {w : World} {b c j : Nat} {u : Value} {o : Obj} (h : w.heap[c]? = some o) (hne : c ≠ b) : ((w.setCell ⟨b, j, none⟩ u).drew).heap[c]? = some o := (Below.heap_setCell _ _ _ _ hne).trans h
theorem RowK.words {b off : Nat} {l : List Int} {i x : Int} {W : World} {ao : Option Addr} {cap : Nat} (hi : IsU i) (hvs : (l.length = 0 ∧ ∃ ao' cap', Value.slice ao l.length cap = .slice ao' 0 cap') ∨ ∃ cap', Value.slice ao l.length cap = .slice (some ⟨b, off, none⟩) l.length cap')
    (hbb : l ≠ [] → b < W.heap.size ∧ (Value.slice ao l.length cap).ownBlock = some b) (h : RowK b off l i x l.length W) :
    wordsAt W (.slice ao l.length cap) (l.set i.toNat x) := by
  by_cases hne : l = []
  · subst hne
    exact .inl ⟨rfl, ao, cap, rfl⟩
  · obtain ⟨cs, t, hr, hc⟩ := h hne
    have hvs' : ∃ cap', Value.slice ao l.length cap = .slice (some ⟨b, off, none⟩) l.length cap' := by
      rcases hvs with ⟨h0, _⟩ | h
      · exact absurd (List.eq_nil_of_length_eq_zero h0) hne
      · exact h
    obtain ⟨cap', he⟩ := hvs'
    refine .inr ⟨fun e => hne (by simpa using congrArg List.length e), b, off, cap', by rw [List.length_set]; exact he, (hbb hne).1, fun j z hz => ?_⟩
    rw [List.getElem?_set] at hz
    rw [cell_of_row _ _ _ _ _ _ hr]
    by_cases hj : i.toNat = j
    · rw [if_pos hj] at hz
      split at hz
      · rename_i hlt
        rw [hc j _ (List.getElem?_eq_getElem (by omega))]
        injection hz with hz
        unfold halfI
        rw [if_pos (by unfold IsU at hi; omega), hz]
      · cases hz
    · rw [if_neg hj] at hz
      rw [hc j z hz]
      unfold halfI
      rw [if_neg (by unfold IsU at hi; omega)]
theorem RowK.keep {b off : Nat} {l : List Int} {i x : Int} {k : Nat} {W W' : World} (h : RowK b off l i x k W) (hs : l ≠ [] → W'.heap[b]? = W.heap[b]?) : RowK b off l i x k W' := by
  intro hne
  obtain ⟨cs, t, hr, hc⟩ := h hne
  exact ⟨cs, t, (hs hne).trans hr, hc⟩

set_option maxRecDepth 100000 in
set_option maxHeartbeats 2000000 in
theorem write_calls (q : Option Addr) (l0 : List Ev) (S0 : Nat → Prop) (v : Value) (l : List Int) (i x : Int) (w : World) (hT : qAt w S0 q l0) (hl0 : l0.length ≤ 549755813888) (hv : wordsAt w v l) (hr : rowAt w v) (hl : l.length ≤ 549755813888) (hd : ∀ k, v.ownBlock = some k → ¬ S0 k) (hw : Words l) (hi : IsU i) (hx : IsU x) :
    Calls Try.prog 20 #[.pointer q, v, .int .u64 i, .int .u64 x] w fun e w' => e = .returned (.tuple #[]) ∧ wordsAt w' v (l.set i.toNat x) ∧ rowAt w' v ∧
      (∃ S, qAt w' S q (recs q l0 2 l.length) ∧ ∀ k, S k → S0 k ∨ w.heap.size ≤ k) ∧ Keeps (fun k => S0 k ∨ v.ownBlock = some k) w w' := by
  obtain ⟨b, off, hvs, hcells, hbb⟩ := words_cell hv
  obtain ⟨ao, cap, hva⟩ := words_shape hv
  subst hva
  refine (callsIn_wide (n := 5)).1 ?_
  refine callsIn_of_wp_marks Try.func20 rfl trivial ?_ rfl
  simp only [Try.ntmps20, List.size_toArray, List.length_cons, List.length_nil, Nat.reduceAdd, Nat.reduceSub, Array.replicate_succ, Array.replicate_zero, List.push_toArray, List.append_toArray, List.nil_append, List.cons_append]
  gi_wp2_with fail
  refine ⟨trivial, ?_⟩
  refine (callsIn_wide.2 (visit_calls q ao l.length cap 2 _)).mono ?_
  rintro e w2 ⟨rfl, rfl⟩
  gi_wp2_with fail
  obtain ⟨hz, g0, g1, g2, g3, g4, hK⟩ := alloc5 w (.cells #[.int .u64 i] 24) (.cells #[.int .u64 x] 24) (.cells #[.pointer q] 36) (.cells #[.int .i64 2] 3) (.cells #[.slice ao l.length cap] 22)
  have cell1 : ∀ {W : World} {Bx : Nat} {u : Value} {t : TypeId}, W.heap[Bx]? = some (.cells #[u] t (0, 0)) → W.cell? ⟨Bx, 0, none⟩ = some u := fun h => by rw [cell_of_row _ _ 0 _ _ _ h]; rfl
  have hrow0 : RowK b off l i x 0 w := by
    intro hne
    obtain ⟨hb, ho⟩ := hbb hne
    obtain ⟨cs, t, hrw⟩ := hr b ho
    refine ⟨cs, t, hrw, fun j y hy => ?_⟩
    have := hcells j y hy
    rw [cell_of_row _ _ _ _ _ _ hrw] at this
    rw [this]
    unfold halfI
    rw [if_neg (by omega)]
  refine over_visit (w.heap.size + 4) (w.heap.size + 2) (w.heap.size + 3) b off l.length (.slice ao l.length cap) q 2 l0 (fun k => S0 k ∧ k < w.heap.size)
    (fun k => (w.heap.size ≤ k ∧ k < w.heap.size + 5) ∨ (k = b ∧ l ≠ [])) (fun k => k = b ∧ l ≠ [])
    (fun k W => RowK b off l i x k W ∧ W.heap[w.heap.size]? = some (.cells #[.int .u64 i] 24 (0, 0)) ∧ W.heap[w.heap.size + 1]? = some (.cells #[.int .u64 x] 24 (0, 0)))
    rfl hvs hl hl0 (by decide) (cell1 g4) (cell1 g2) (cell1 g3) ?_ ?_ ?_ ⟨.inl (by omega), .inl (by omega), .inl (by omega)⟩ ?_ ?_ ⟨?_, g0, g1⟩
    (fun k => { tmps := #[.pointer q, .slice ao l.length cap, .int .u64 i, .int .u64 x, undef, undef, .pointer (some ⟨w.heap.size, 0, none⟩), .pointer (some ⟨w.heap.size + 1, 0, none⟩), .int .u64 k, .pointer (some ⟨b, off + k, none⟩), .pointer q, .slice ao l.length cap,
      .func (.func 39) #[] #[.pointer (some ⟨w.heap.size + 4, 0, none⟩), .pointer (some ⟨w.heap.size + 2, 0, none⟩), .pointer (some ⟨w.heap.size + 3, 0, none⟩)], .int .u64 k, .pointer (some ⟨b, off + k, none⟩), undef, undef, undef, undef, undef, undef, undef, undef, undef, undef], defers := [] }) ?assign ?body ?done
  · exact (hT.mono (fun k hk h => ⟨h, hk⟩)).keep hK (fun _ _ _ h => h)
  · rintro k ⟨h1, h2⟩
    refine ⟨by omega, ?_⟩
    rintro (h | ⟨rfl, hne⟩)
    · omega
    · exact hd _ (hbb hne).2 h1
  · rintro k (h | ⟨rfl, hne⟩)
    · omega
    · have := (hbb hne).1; omega
  · rintro k ⟨rfl, hne⟩
    have := (hbb hne).1
    exact ⟨.inr ⟨rfl, hne⟩, by omega, by omega, by omega⟩
  · rintro k W W' ⟨h1, h2, h3⟩ hs
    refine ⟨fun hne => ?_, (hs _ (.inl (by omega))).trans h2, (hs _ (.inl (by omega))).trans h3⟩
    obtain ⟨cs, t, hr1, hr2⟩ := h1 hne
    exact ⟨cs, t, (hs b (.inr ⟨rfl, hne⟩)).trans hr1, hr2⟩
  · intro hne
    obtain ⟨cs, t, hr1, hr2⟩ := hrow0 hne
    exact ⟨cs, t, (hK.block b (hbb hne).1 (fun h => h)).trans hr1, hr2⟩
  case assign =>
    intro x W K hK
    gi_wp2
    exact hK
  case body =>
    rintro k W ⟨c2, c0, c1⟩ hk _
    obtain ⟨y, hy⟩ : ∃ y, l[k]? = some y := ⟨l[k], by simp [hk]⟩
    have hne : l ≠ [] := by intro e; rw [e] at hy; simp at hy
    obtain ⟨cs, t, hr1, hr2⟩ := c2 hne
    have hc : W.cell? ⟨b, off + k, none⟩ = some (.int .u64 y) := by
      rw [cell_of_row _ _ _ _ _ _ hr1, hr2 k y hy]
      unfold halfI
      rw [if_neg (by omega)]
    have hf : W.frozen? ⟨b, off + k, none⟩ = false := two_frozen hr1 _
    have hyu : IsU y := hw y (List.mem_of_getElem? hy)
    have hku : IsU (k : Int) := by unfold IsU; omega
    have hbz : b < w.heap.size := (hbb hne).1
    have Hc := Lib.hid c2
    clear hz g0 g1 g2 g3 g4 hK hT hv hr hd hvs hcells hbb hr1 hr2 c2 hrow0
    obtain ⟨o1, _⟩ := one_cell c1
    obtain ⟨o0, _⟩ := one_cell c0
    have Hb := Lib.hid c1
    have Hb0 := Lib.hid c0
    clear c1 c0
    have Hsel := Lib.hid (show selI (maskI (i == (k : Int))) x y = if i = (k : Int) then x else y by
      rw [selI_mask hx hyu]
      by_cases h : i = (k : Int)
      · rw [if_pos h, if_pos (by simpa using h)]
      · rw [if_neg h, if_neg (by simpa using h)])
    gi_wp2_with fail
    refine round_still_tail 10 (by kernel_rfl) (by kernel_rfl) (by kernel_rfl) (fun ⟨_, _, h⟩ => h) ?_
    simp only [List.take_succ_cons, List.take_zero, List.drop_succ_cons, List.drop_zero]
    repeat (first | still_step | still_call (equal_calls i (k : Int) hi hku _) | still_call (select_calls (maskI (i == (k : Int))) x y _))
    refine wpStill_nil ?_
    go_wp2
    rw [Hsel.out]
    have hlt : b < w.heap.size := hbz
    exact ⟨((Keeps.refl (fun k => k = b) W).setCell ⟨b, off + k, none⟩ (fun _ => rfl) _).drew, (Hc.out.set hy).drew, other_set' Hb0.out (by omega), other_set' Hb.out (by omega)⟩
  case done =>
    rintro W ⟨c2, _, _⟩ ⟨S, hq, hS⟩ hK2 hdd
    have hK3 := (hK.mono (T := fun k => S0 k ∨ (Value.slice ao l.length cap).ownBlock = some k) (fun _ _ h => h.elim)).trans hK2 (fun i hi h => by
      rcases h with h | h
      · exact .inl h.1
      · obtain ⟨rfl, hne⟩ := h
        exact .inr (hbb hne).2)
    have hall : ∀ r o, r = w.heap.size + 5 → (wordsAt (W.putObj r o) (.slice ao l.length cap) (l.set i.toNat x) ∧ rowAt (W.putObj r o) (.slice ao l.length cap) ∧
      (∃ S, qAt (W.putObj r o) S q (recs q l0 2 l.length) ∧ ∀ k, S k → S0 k ∨ w.heap.size ≤ k) ∧ Keeps (fun k => S0 k ∨ (Value.slice ao l.length cap).ownBlock = some k) w (W.putObj r o)) := by
      intro r o hr5
      have hkp := keeps_putObj W r o
      have hb5 : l ≠ [] → b < W.heap.size := fun hne => Nat.lt_of_lt_of_le (hbb hne).1 hK3.size
      have hrk : RowK b off l i x l.length (W.putObj r o) := c2.keep (fun hne => hkp.block b (hb5 hne) (fun e => by have := (hbb hne).1; omega))
      refine ⟨RowK.words hi hvs (fun hne => ⟨Nat.lt_of_lt_of_le (hb5 hne) hkp.size, (hbb hne).2⟩) hrk, fun b' hb' => ?_, ⟨S, hq.keep hkp (fun k _ hk e => ?_), fun k hk => ?_⟩, hK3.trans hkp (fun i hi e => by omega)⟩
      · by_cases hne : l = []
        · obtain ⟨cs, t, hr'⟩ := hr b' hb'
          have hlt : b' < w.heap.size := (Array.getElem?_eq_some_iff.1 hr').1
          refine ⟨cs, t, ?_⟩
          rw [hkp.block b' (Nat.lt_of_lt_of_le hlt hK3.size) (fun e => by omega), (hK.mono (T := fun k => S0 k) (fun _ _ h => h.elim)).trans hK2 (fun i hi h => by
            rcases h with h | h
            · exact h.1
            · exact absurd hne h.2) |>.block b' hlt (hd _ hb')]
          exact hr'
        · have := (hbb hne).2
          rw [this] at hb'
          injection hb' with hb'
          subst hb'
          obtain ⟨cs, t, hr1, _⟩ := hrk hne
          exact ⟨cs, t, hr1⟩
      · rcases hS k hk with h | h
        · have := h.2; omega
        · omega
      · rcases hS k hk with h | h
        · exact .inl h.1
        · exact .inr (by omega)
    clear hz g0 g1 g2 g3 g4 hK hT hv hr hd hvs hcells hbb hrow0 hK2 hK3 c2 hq hS
    gi_wp2
    exact ⟨by simp, .inl ⟨_, _, rfl, run_takeDeferred hdd, ⟨_, results_none rfl _ _ _, rfl, hall _ _ (by simp)⟩⟩⟩
end Go.Proofs.Ytkagpdbphdhbaaa.ar
