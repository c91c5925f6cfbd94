/- The functions of package array, by walking their text over the law of a loop over visit. -/
import Derived.Test.YtkagpdbphdhbaaaVisit
import Derived.Test.YtkagpdbphdhbaaaRound
import Derived.Outline
import Derived.Lib.Hide
namespace Go.Proofs.Ytkagpdbphdhbaaa.ar
open Go Go.RowKit Go.Shelf Go.Proofs.Ytkagpdbphdhbaaa.tp Go.Proofs.Ytkagpdbphdhbaaa.mk Go.Proofs.Ytkagpdbphdhbaaa.rg

attribute [local go_sem] Oper.semAt_some

/-- What Read returns. -/
def readI (l : List Int) (i : Int) : Int := if 0 ≤ i ∧ i < l.length then l.getD i.toNat 0 else 0
/-- All words of a list are of the kind uint64. -/
def Words (l : List Int) : Prop := ∀ x ∈ l, IsU x

/-- What is left of the tape and of memory behind a call: S0 may have turned. -/
def Tail (q : Option Addr) (l0 : List Ev) (kind : Int) (n : Nat) (S0 : Nat → Prop) (w w' : World) : Prop :=
  (∃ S, qAt w' S q (recs q l0 kind n) ∧ ∀ k, S k → S0 k ∨ w.heap.size ≤ k) ∧ Keeps S0 w w'

theorem words_cell {w : World} {v : Value} {l : List Int} (h : wordsAt w v l) : ∃ b off, ((l.length = 0 ∧ ∃ ao cap, v = .slice ao 0 cap) ∨ ∃ cap, v = .slice (some ⟨b, off, none⟩) l.length cap) ∧
    (∀ (i : Nat) (x : Int), l[i]? = some x → w.cell? ⟨b, off + i, none⟩ = some (.int .u64 x)) ∧ (l ≠ [] → b < w.heap.size ∧ v.ownBlock = some b) := by
  rcases h with ⟨rfl, ao, cap, rfl⟩ | ⟨hne, b, off, cap, rfl, hb, hc⟩
  · exact ⟨0, 0, .inl ⟨rfl, ao, cap, rfl⟩, fun i x h => by simp at h, fun h => absurd rfl h⟩
  · exact ⟨b, off, .inr ⟨cap, rfl⟩, hc, fun _ => ⟨hb, rfl⟩⟩
theorem words_shape {w : World} {v : Value} {l : List Int} (h : wordsAt w v l) : ∃ ao cap, v = .slice ao l.length cap := by
  rcases h with ⟨rfl, ao, cap, rfl⟩ | ⟨hne, b, off, cap, rfl, _⟩
  · exact ⟨_, _, rfl⟩
  · exact ⟨_, _, rfl⟩

theorem alloc5 (w : World) (o0 o1 o2 o3 o4 : Obj) :
    (((((w.alloc o0).alloc o1).alloc o2).alloc o3).alloc o4).heap.size = w.heap.size + 5 ∧ (((((w.alloc o0).alloc o1).alloc o2).alloc o3).alloc o4).heap[w.heap.size]? = some o0 ∧ (((((w.alloc o0).alloc o1).alloc o2).alloc o3).alloc o4).heap[w.heap.size + 1]? = some o1 ∧
    (((((w.alloc o0).alloc o1).alloc o2).alloc o3).alloc o4).heap[w.heap.size + 2]? = some o2 ∧ (((((w.alloc o0).alloc o1).alloc o2).alloc o3).alloc o4).heap[w.heap.size + 3]? = some o3 ∧ (((((w.alloc o0).alloc o1).alloc o2).alloc o3).alloc o4).heap[w.heap.size + 4]? = some o4 ∧
    Keeps (fun _ => False) w (((((w.alloc o0).alloc o1).alloc o2).alloc o3).alloc o4) := by
  have z1 : (w.alloc o0).heap.size = w.heap.size + 1 := by simp
  have z2 : ((w.alloc o0).alloc o1).heap.size = w.heap.size + 2 := by simp
  have z3 : (((w.alloc o0).alloc o1).alloc o2).heap.size = w.heap.size + 3 := by simp
  have z4 : ((((w.alloc o0).alloc o1).alloc o2).alloc o3).heap.size = w.heap.size + 4 := by simp
  refine ⟨by simp, ?_, ?_, ?_, ?_, ?_, (((((Keeps.refl _ w).alloc _).alloc _).alloc _).alloc _).alloc _⟩
  · rw [Below.heap_alloc _ _ _ (by omega), Below.heap_alloc _ _ _ (by omega), Below.heap_alloc _ _ _ (by omega), Below.heap_alloc _ _ _ (by omega)]; exact World.alloc_heap_new w o0
  · rw [Below.heap_alloc _ _ _ (by omega), Below.heap_alloc _ _ _ (by omega), Below.heap_alloc _ _ _ (by omega), ← z1]; exact World.alloc_heap_new _ o1
  · rw [Below.heap_alloc _ _ _ (by omega), Below.heap_alloc _ _ _ (by omega), ← z2]; exact World.alloc_heap_new _ o2
  · rw [Below.heap_alloc _ _ _ (by omega), ← z3]; exact World.alloc_heap_new _ o3
  · rw [← z4]; exact World.alloc_heap_new _ o4

theorem or_zero {a : Int} (h : IsU a) : bits .or .u64 a 0 = a := by rw [bits_or, show bv 0 = 0#64 from by decide, BitVec.or_zero, nu_bv h]
theorem zero_or {a : Int} (h : IsU a) : bits .or .u64 0 a = a := by rw [bits_or, show bv 0 = 0#64 from by decide, BitVec.zero_or, nu_bv h]
theorem mask_and {a : Int} (c : Bool) (h : IsU a) : bits .and .u64 (maskI c) a = if c then a else 0 := by
  rw [bits_and, bv_maskI]
  cases c
  · show nu (0#64 &&& bv a) = 0
    rw [BitVec.zero_and]; decide
  · show nu (BitVec.allOnes 64 &&& bv a) = a
    rw [BitVec.allOnes_and, nu_bv h]
theorem readI_isU {l : List Int} (h : Words l) (i : Int) : IsU (readI l i) := by
  unfold readI
  split
  · rename_i hc
    have hlt : i.toNat < l.length := by omega
    rw [List.getD_eq_getElem?_getD, List.getElem?_eq_getElem hlt]
    exact h _ (List.getElem_mem hlt)
  · unfold IsU; omega
theorem readI_nil (i : Int) : readI [] i = 0 := by
  unfold readI
  rw [if_neg (by simp)]
theorem words_take {l : List Int} (h : Words l) (k : Nat) : Words (l.take k) := fun x hx => h x (List.mem_of_mem_take hx)
theorem read_step {l : List Int} (hw : Words l) {k : Nat} {x i : Int} (hx : l[k]? = some x) : bits .or .u64 (readI (l.take k) i) (bits .and .u64 (maskI (i == (k : Int))) x) = readI (l.take (k + 1)) i := by
  have hk := (List.getElem?_eq_some_iff.1 hx).1
  have hxu : IsU x := hw x (List.mem_of_getElem? hx)
  have hlen : (l.take k).length = k := by rw [List.length_take]; omega
  have hlen1 : (l.take (k + 1)).length = k + 1 := by rw [List.length_take]; omega
  rw [mask_and _ hxu]
  by_cases h : i = (k : Int)
  · subst h
    have e : readI (l.take k) (k : Int) = 0 := by
      unfold readI
      rw [if_neg (by rw [hlen]; omega)]
    rw [e, if_pos (by simp), zero_or hxu]
    unfold readI
    rw [if_pos (by rw [hlen1]; omega), Int.toNat_natCast, List.getD_eq_getElem?_getD, List.getElem?_take, if_pos (by omega), hx]
    rfl
  · rw [if_neg (by simpa using h), or_zero (readI_isU (words_take hw k) i)]
    unfold readI
    rw [hlen, hlen1]
    by_cases hc : 0 ≤ i ∧ i < (k : Int)
    · rw [if_pos hc, if_pos (by omega)]
      rw [List.getD_eq_getElem?_getD, List.getD_eq_getElem?_getD, List.getElem?_take, List.getElem?_take, if_pos (by omega), if_pos (by omega)]
    · rw [if_neg hc, if_neg (by omega)]

/-- A loop over visit in a function that writes boxes of its own alone. -/
theorem over_visit_std {n : Nat} {g : Operand} {p1 p2 : Tmp} {assign body : Code} {Q : Exit → Act → World → Prop} {a : Act} (w0 w : World) (m Bl Bt Bk b off : Nat) (l : List Int) (ao : Option Addr) (cap : Nat) (q : Option Addr) (kind : Int) (l0 : List Ev) (S0 Bw : Nat → Prop) (D : Nat → World → Prop)
    (hg : a.eval g = .func (.func 39) #[] #[.pointer (some ⟨Bl, 0, none⟩), .pointer (some ⟨Bt, 0, none⟩), .pointer (some ⟨Bk, 0, none⟩)])
    (hvs : (l.length = 0 ∧ ∃ ao' cap', Value.slice ao l.length cap = .slice ao' 0 cap') ∨ ∃ cap', Value.slice ao l.length cap = .slice (some ⟨b, off, none⟩) l.length cap') (hl : l.length ≤ 549755813888) (hl0 : l0.length ≤ 549755813888) (hkind : wf64 kind = true)
    (hcells : ∀ (i : Nat) (x : Int), l[i]? = some x → w0.cell? ⟨b, off + i, none⟩ = some (.int .u64 x)) (hbb : l ≠ [] → b < w0.heap.size ∧ (Value.slice ao l.length cap).ownBlock = some b)
    (hd : l ≠ [] → ∀ k, (Value.slice ao l.length cap).ownBlock = some k → ¬ S0 k) (hT : qAt w0 S0 q l0)
    (hK : Keeps (fun _ => False) w0 w) (hz : w.heap.size = w0.heap.size + m) (hB3 : (w0.heap.size ≤ Bl ∧ Bl < w0.heap.size + m) ∧ (w0.heap.size ≤ Bt ∧ Bt < w0.heap.size + m) ∧ (w0.heap.size ≤ Bk ∧ Bk < w0.heap.size + m))
    (gl : w.heap[Bl]? = some (.cells #[.slice ao l.length cap] 22 (0, 0))) (gt : w.heap[Bt]? = some (.cells #[.pointer q] 36 (0, 0))) (gk : w.heap[Bk]? = some (.cells #[.int .i64 kind] 3 (0, 0)))
    (hBw : ∀ k, Bw k → (w0.heap.size ≤ k ∧ k < w0.heap.size + m) ∧ k ≠ Bl ∧ k ≠ Bt ∧ k ≠ Bk)
    (hD : ∀ k W W', D k W → (∀ j, w0.heap.size ≤ j → j < w0.heap.size + m → W'.heap[j]? = W.heap[j]?) → D k W') (hD0 : D 0 w) (a₁ : Nat → Act)
    (hassign : ∀ (x : Nat) (W : World) (K : Act → World → Prop), K (a₁ x) W →
      assign.wpIn (Fence.wide.inRound (w.heap.size + 1)) (n - 1 - 1) Try.prog (Exit.then K (fun _ _ _ => False)) { tmps := (a.tmps.setIfInBounds p1 (.int .u64 x)).setIfInBounds p2 (.pointer (some ⟨b, off + x, none⟩)), defers := [] } W)
    (hbody : ∀ (k : Nat) (x : Int) (W : World), D k W → l[k]? = some x → W.cell? ⟨b, off + k, none⟩ = some (.int .u64 x) → body.wpIn (Fence.wide.inRound (w.heap.size + 1)) (n - 1 - 1) Try.prog (fun e _ W' => match e with | .normal => Keeps Bw W W' ∧ D (k + 1) W' | _ => False) (a₁ k) W)
    (hdone : ∀ (W : World), D l.length W → (∀ o, Tail q l0 kind l.length S0 w0 (W.putObj w.heap.size o)) → W.heap[w.heap.size]? = some (.deferred (some [])) → Q .normal { a with defers := { target := .collected w.heap.size, args := #[] } :: a.defers } W) :
    (Code.rangeFunc g #[p1, p2] assign body).wpIn Fence.wide n Try.prog Q a w := by
  have cell1 : ∀ {Bx : Nat} {u : Value} {t : TypeId}, w.heap[Bx]? = some (.cells #[u] t (0, 0)) → w.cell? ⟨Bx, 0, none⟩ = some u := fun h => by rw [cell_of_row _ _ 0 _ _ _ h]; rfl
  refine over_visit Bl Bt Bk b off l.length (.slice ao l.length cap) q kind l0 (fun k => S0 k ∧ k < w0.heap.size)
    (fun k => (w0.heap.size ≤ k ∧ k < w0.heap.size + m) ∨ (k = b ∧ l ≠ [])) Bw
    (fun k W => D k W ∧ ∀ (j : Nat) (x : Int), l[j]? = some x → W.cell? ⟨b, off + j, none⟩ = some (.int .u64 x))
    hg hvs hl hl0 hkind (cell1 gl) (cell1 gt) (cell1 gk) ?_ ?_ ?_ ⟨.inl hB3.1, .inl hB3.2.1, .inl hB3.2.2⟩ (fun k h => ⟨.inl (hBw k h).1, (hBw k h).2⟩) ?_ ⟨hD0, ?_⟩ a₁ hassign ?_ ?_
  · exact (hT.mono (fun k hk h => ⟨h, hk⟩)).keep hK (fun _ _ _ h => h)
  · rintro k ⟨h1, h2⟩
    refine ⟨by omega, ?_⟩
    rintro (h | ⟨rfl, hne⟩)
    · omega
    · exact hd hne _ (hbb hne).2 h1
  · rintro k (h | ⟨rfl, hne⟩)
    · omega
    · have := (hbb hne).1; omega
  · rintro k W W' ⟨h1, h2⟩ hs
    refine ⟨hD k W W' h1 (fun j hj hj' => hs j (.inl ⟨hj, hj'⟩)), fun j x hx => ?_⟩
    have hne : l ≠ [] := by intro e; rw [e] at hx; simp at hx
    exact (World.cell?_of_block (w := W) (a := ⟨b, off + j, none⟩) (hs b (.inr ⟨rfl, hne⟩))).trans (h2 j x hx)
  · intro j x hx
    have hne : l ≠ [] := by intro e; rw [e] at hx; simp at hx
    exact (hK.cell (p := ⟨b, off + j, none⟩) (hbb hne).1 (fun h => h)).trans (hcells j x hx)
  · rintro k W ⟨h1, h2⟩ hk _
    obtain ⟨x, hx⟩ : ∃ x, l[k]? = some x := ⟨l[k], by simp [hk]⟩
    refine wpIn_mono (hbody k x W h1 hx (h2 k x hx)) ?_
    rintro e a3 W3 hp
    cases e with
    | normal =>
      obtain ⟨hk3, hd3⟩ := hp
      refine ⟨hk3, hd3, fun j y hy => ?_⟩
      have hne : l ≠ [] := by intro e; rw [e] at hx; simp at hx
      have hc := h2 j y hy
      refine (hk3.cell (p := ⟨b, off + j, none⟩) (World.block_lt_of_cell? _ _ hc) (fun h => ?_)).trans hc
      have := (hBw _ h).1
      have := (hbb hne).1
      simp at *
      omega
    | ret => exact hp.elim
    | exit id => exact hp.elim
    | goto t => exact hp.elim
    | panic ch => exact hp.elim
    | outgrown => exact hp.elim
  · rintro W ⟨h1, h2⟩ ⟨S, hq, hS⟩ hK2 hdd
    refine hdone W h1 (fun o => ⟨⟨S, hq.keep (keeps_putObj W w.heap.size o) (fun k _ hk e => ?_), fun k hk => ?_⟩, ((hK.mono (T := S0) (fun _ _ h => h.elim)).trans hK2 (fun i hi h => ?_)).trans (keeps_putObj W w.heap.size o) (fun i hi e => by omega)⟩) hdd
    · rcases hS k hk with h | h
      · have := h.2; omega
      · omega
    · rcases hS k hk with h | h
      · exact .inl h.1
      · exact .inr (by omega)
    · rcases h with h | h
      · exact h.1
      · have := (hBw i h).1; omega

theorem one_cell {w : World} {b : Nat} {u : Value} {t : TypeId} (h : w.heap[b]? = some (.cells #[u] t (0, 0))) : w.cell? ⟨b, 0, none⟩ = some u ∧ w.frozen? ⟨b, 0, none⟩ = false := ⟨by rw [cell_of_row _ _ 0 _ _ _ h]; rfl, two_frozen h _⟩
theorem keeps_set (w : World) (b : Nat) (u : Value) : Keeps (fun k => k = b) w (w.setCell ⟨b, 0, none⟩ u) := (Keeps.refl (fun k => k = b) w).setCell ⟨b, 0, none⟩ (fun _ => rfl) u
theorem one_set {w : World} {b : Nat} {v u : Value} {t : TypeId} (h : w.heap[b]? = some (.cells #[v] t (0, 0))) : (w.setCell ⟨b, 0, none⟩ u).heap[b]? = some (.cells #[u] t (0, 0)) := one_setCell h
theorem other_set {w : World} {b c : Nat} {u : Value} {o : Obj} (h : w.heap[c]? = some o) (hne : c ≠ b) : (w.setCell ⟨b, 0, none⟩ u).heap[c]? = some o := (Below.heap_setCell _ _ _ _ hne).trans h

set_option maxRecDepth 100000 in
set_option maxHeartbeats 2000000 in
theorem read_calls (q : Option Addr) (l0 : List Ev) (S0 : Nat → Prop) (v : Value) (l : List Int) (i : Int) (w : World) (hT : qAt w S0 q l0) (hl0 : l0.length ≤ 549755813888) (hv : wordsAt w v l) (hl : l.length ≤ 549755813888) (hd : l ≠ [] → ∀ k, v.ownBlock = some k → ¬ S0 k) (hw : Words l) (hi : IsU i) :
    Calls Try.prog 17 #[.pointer q, v, .int .u64 i] w fun e w' => e = .returned (.int .u64 (readI l i)) ∧ Tail q l0 1 l.length S0 w w' := by
  obtain ⟨b, off, hvs, hcells, hbb⟩ := words_cell hv
  obtain ⟨ao, cap, hva⟩ := words_shape hv
  subst hva
  refine (callsIn_wide (n := 5)).1 ?_
  refine callsIn_of_wp_marks Try.func17 rfl trivial ?_ rfl
  simp only [Try.ntmps17, List.size_toArray, List.length_cons, List.length_nil, Nat.reduceAdd, Nat.reduceSub, Array.replicate_succ, Array.replicate_zero, List.push_toArray, List.append_toArray, List.nil_append, List.cons_append]
  gi_wp2_with fail
  refine ⟨trivial, ?_⟩
  refine (callsIn_wide.2 (visit_calls q ao l.length cap 1 _)).mono ?_
  rintro e w2 ⟨rfl, rfl⟩
  gi_wp2_with fail
  obtain ⟨hz, g0, g1, g2, g3, g4, hK⟩ := alloc5 w (.cells #[.int .u64 i] 24) (.cells #[.int .u64 0] 24) (.cells #[.pointer q] 36) (.cells #[.int .i64 1] 3) (.cells #[.slice ao l.length cap] 22)
  refine over_visit_std w _ 5 (w.heap.size + 4) (w.heap.size + 2) (w.heap.size + 3) b off l ao cap q 1 l0 S0 (fun k => k = w.heap.size + 1)
    (fun k W => W.heap[w.heap.size + 1]? = some (.cells #[.int .u64 (readI (l.take k) i)] 24 (0, 0)) ∧ W.heap[w.heap.size]? = some (.cells #[.int .u64 i] 24 (0, 0)))
    rfl hvs hl hl0 (by decide) hcells hbb hd hT hK hz (by omega) g4 g2 g3 (fun k h => by omega) (fun k W W' h hs => ⟨(hs _ (by omega) (by omega)).trans h.1, (hs _ (by omega) (by omega)).trans h.2⟩) ⟨by rw [List.take_zero, readI_nil]; exact g1, g0⟩
    (fun k => { tmps := #[.pointer q, .slice ao l.length cap, .int .u64 i, undef, undef, .pointer (some ⟨w.heap.size, 0, none⟩), .int .u64 0, .pointer (some ⟨w.heap.size + 1, 0, none⟩), .int .u64 k, .pointer (some ⟨b, off + k, none⟩), .pointer q, .slice ao l.length cap,
      .func (.func 39) #[] #[.pointer (some ⟨w.heap.size + 4, 0, none⟩), .pointer (some ⟨w.heap.size + 2, 0, none⟩), .pointer (some ⟨w.heap.size + 3, 0, none⟩)], .int .u64 k, .pointer (some ⟨b, off + k, none⟩), undef, undef, undef, undef, undef, undef, undef, undef, undef, undef], defers := [] }) ?assign ?body ?done
  case assign =>
    intro x W K hK
    gi_wp2
    exact hK
  case body =>
    rintro k x W ⟨c1, c0⟩ hx hc
    clear hz g0 g1 g2 g3 g4 hK hT hv hd hvs hcells hbb
    have hku : IsU (k : Int) := by
      have := (List.getElem?_eq_some_iff.1 hx).1
      unfold IsU; omega
    have Hs := Lib.hid (read_step (i := i) hw hx)
    obtain ⟨o1, f1⟩ := one_cell c1
    obtain ⟨o0, _⟩ := one_cell c0
    have Hb := Lib.hid c1
    have Hb0 := Lib.hid c0
    clear c1 c0
    gi_wp2_with fail
    refine round_still_tail 9 (by kernel_rfl) (by kernel_rfl) (by kernel_rfl) (fun ⟨_, _, h⟩ => h) ?_
    simp only [List.take_succ_cons, List.take_zero, List.drop_succ_cons, List.drop_zero]
    repeat (first | still_step | still_call (equal_calls i (k : Int) hi hku _))
    refine wpStill_nil ?_
    go_wp2
    exact ⟨(keeps_set W _ _).drew, by rw [← Hs.out]; exact one_set Hb.out, other_set Hb0.out (by omega)⟩
  case done =>
    rintro W ⟨c1, c0⟩ hT2 hdd
    rw [List.take_length] at c1
    obtain ⟨o1, f1⟩ := one_cell c1
    clear hz g0 g1 g2 g3 g4 hK hT hv hd hvs hcells hbb c0
    gi_wp2
    exact ⟨by simp, .inl ⟨_, _, rfl, run_takeDeferred hdd, ⟨_, results_tmp rfl _ _ _, rfl, hT2 _⟩⟩⟩
end Go.Proofs.Ytkagpdbphdhbaaa.ar
