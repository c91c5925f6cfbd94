/- array.visit and its iterator, by walking their text. -/
import Derived.Test.YtkagpdbphdhbaaaRange
import Derived.Test.YtkagpdbphdhbaaaTapeW
import Derived.Test.YtkagpdbphdhbaaaMaskW
namespace Go.Proofs.Ytkagpdbphdhbaaa.ar
open Go Go.RowKit Go.Shelf Go.Proofs.Ytkagpdbphdhbaaa.tp Go.Proofs.Ytkagpdbphdhbaaa.mk Go.Proofs.Ytkagpdbphdhbaaa.rg

attribute [local go_sem] Oper.semAt_some

/-- A list of words in memory. -/
def wordsAt (w : World) (v : Value) (l : List Int) : Prop :=
  (l = [] ∧ ∃ ao cap, v = .slice ao 0 cap) ∨ (l ≠ [] ∧ ∃ b off cap, v = .slice (some ⟨b, off, none⟩) l.length cap ∧ b < w.heap.size ∧ ∀ (i : Nat) (x : Int), l[i]? = some x → w.cell? ⟨b, off + i, none⟩ = some (.int .u64 x))

theorem visit_calls (q ao : Option Addr) (n c : Nat) (kind : Int) (w : World) : Calls Try.prog 29 #[.pointer q, .int .i64 kind, .slice ao n c] w fun e w' =>
    e = .returned (.func (.func 39) #[] #[.pointer (some ⟨w.heap.size + 2, 0, none⟩), .pointer (some ⟨w.heap.size, 0, none⟩), .pointer (some ⟨w.heap.size + 1, 0, none⟩)]) ∧
    w' = ((w.alloc (.cells #[.pointer q] 36)).alloc (.cells #[.int .i64 kind] 3)).alloc (.cells #[.slice ao n c] 22) := by
  go_enter Try.func29, Try.ntmps29
  go_wp2
  go_ret
  exact ⟨rfl, rfl⟩

set_option maxRecDepth 100000 in
set_option maxHeartbeats 2000000 in
theorem visit1 (n : Nat) (l Bl Bt Bk b off len cap : Nat) (kind : Int) (p : Value) (hlen : len ≤ 1099511627776) (J J' : Nat → World → Prop)
    (hbox : ∀ k W, J k W → W.cell? ⟨Bl, 0, none⟩ = some (.slice (some ⟨b, off, none⟩) len cap) ∧ W.cell? ⟨Bt, 0, none⟩ = some p ∧ W.cell? ⟨Bk, 0, none⟩ = some (.int .i64 kind))
    (hbox' : ∀ k W, J' k W → W.cell? ⟨Bl, 0, none⟩ = some (.slice (some ⟨b, off, none⟩) len cap))
    (hN : ∀ (k : Nat) W, J k W → k < len → Calls Try.prog 40 #[p, .int .i64 kind, .int .i64 k, .int .i64 0] W fun e W' => e = .returned (.tuple #[]) ∧ J' k W')
    (hY : ∀ (k : Nat) W, J' k W → k < len → YieldAt Fence.wide (n - 1) Try.prog l #[.int .u64 k, .pointer (some ⟨b, off + k, none⟩)] W fun e W' => e = .returned (.bool true) ∧ J (k + 1) W')
    (W : World) (h0 : J 0 W) :
    CallsIn Fence.wide n Try.prog 39 #[.func (.yield l) #[] #[], .pointer (some ⟨Bl, 0, none⟩), .pointer (some ⟨Bt, 0, none⟩), .pointer (some ⟨Bk, 0, none⟩)] W fun e W' => (∃ v, e = .returned v) ∧ J len W' := by
  obtain ⟨q0, q1, q2⟩ := hbox 0 W h0
  refine callsIn_of_wp Try.func39 rfl trivial ?_ rfl
  simp only [Try.ntmps39, List.size_toArray, List.length_cons, List.length_nil, Nat.reduceAdd, Nat.reduceSub, Array.replicate_succ, Array.replicate_zero, List.push_toArray, List.append_toArray, List.nil_append, List.cons_append]
  gi_wp2
  gi_loopw [5, 8] (fun _ i wr => ∃ k : Nat, k ≤ len ∧ i = .int .i64 k ∧ J k wr)
    (fun _ i _ => len - (intOf i).toNat)
  case atStart => exact ⟨0, Nat.zero_le _, rfl, h0⟩
  case round =>
    obtain ⟨k, hk, rfl, hJ⟩ := hrel
    clear q0 q1 q2
    obtain ⟨q0, q1, q2⟩ := hbox k wr hJ
    by_cases hlt : k < len
    · have hlt' : (k : Int) < (len : Int) := by omega
      have hn := hN k wr hJ hlt
      gi_wp2_with fail
      refine ⟨trivial, (fun h => by cases h), ?_⟩
      refine (callsIn_wide.2 hn).mono ?_
      rintro e W2 ⟨rfl, hJ2⟩
      have q3 := hbox' k W2 hJ2
      obtain ⟨fn, tmps, assign, body, hy, hR⟩ := hY k W2 hJ2 hlt
      clear q0 q1 q2 hn hJ
      gi_wp2_with fail
      refine ⟨(fun h => by cases h), hR.mono ?_⟩
      rintro e W3 ⟨rfl, hJ3⟩
      gi_wp2
      go_roundw
      case rel => exact ⟨k + 1, by omega, by go_num, hJ3⟩
      case measure => simp [intOf]; omega
    · obtain rfl : k = len := by omega
      gi_wp2
      go_end0
      exact ⟨⟨_, rfl⟩, hJ⟩

set_option maxHeartbeats 2000000 in
/-- .. at a list without elements: no round. -/
theorem visit1_nil (n : Nat) (l Bl Bt Bk cap : Nat) (ao : Option Addr) (W : World) (hb : W.cell? ⟨Bl, 0, none⟩ = some (.slice ao 0 cap)) (J : World → Prop) (h0 : J W) :
    CallsIn Fence.wide n Try.prog 39 #[.func (.yield l) #[] #[], .pointer (some ⟨Bl, 0, none⟩), .pointer (some ⟨Bt, 0, none⟩), .pointer (some ⟨Bk, 0, none⟩)] W fun e W' => (∃ v, e = .returned v) ∧ J W' := by
  refine callsIn_of_wp Try.func39 rfl trivial ?_ rfl
  simp only [Try.ntmps39, List.size_toArray, List.length_cons, List.length_nil, Nat.reduceAdd, Nat.reduceSub, Array.replicate_succ, Array.replicate_zero, List.push_toArray, List.append_toArray, List.nil_append, List.cons_append]
  gi_wp2
  gi_loopw [8] (fun i wr => i = .int .i64 0 ∧ J wr) (fun _ _ => 0)
  case atStart => exact ⟨rfl, h0⟩
  case round =>
    obtain ⟨rfl, hJ⟩ := hrel
    gi_wp2
    go_end0
    exact ⟨⟨_, rfl⟩, hJ⟩

/-! ### a loop over visit -/
/-- What a tape (or no tape: none) has recorded when k elements have been visited. -/
def recs (q : Option Addr) (l0 : List Ev) (kind : Int) (k : Nat) : List Ev := if q.isNone then l0 else l0 ++ (List.range k).map fun j : Nat => (kind, (j : Int), (0 : Int))
theorem recs_zero (q : Option Addr) (l0 : List Ev) (kind : Int) : recs q l0 kind 0 = l0 := by
  unfold recs
  split <;> simp
theorem recs_length (q : Option Addr) (l0 : List Ev) (kind : Int) (k : Nat) : (recs q l0 kind k).length ≤ l0.length + k := by
  unfold recs
  split <;> simp
/-- A tape with the events of l at q (or none), its blocks in S. -/
def qAt (w : World) (S : Nat → Prop) (q : Option Addr) (l : List Ev) : Prop := (q = none ∧ l = []) ∨ ∃ b, q = some ⟨b, 0, none⟩ ∧ tapeAt w S b l
theorem qAt.keep {w w' : World} {S T : Nat → Prop} {q : Option Addr} {l : List Ev} (h : qAt w S q l) (hk : Keeps T w w') (hST : ∀ k, k < w.heap.size → S k → ¬ T k) : qAt w' S q l := by
  rcases h with h | ⟨b, hq, hT⟩
  · exact .inl h
  · exact .inr ⟨b, hq, hT.keep hk hST⟩
theorem qAt.mono {w : World} {S T : Nat → Prop} {q : Option Addr} {l : List Ev} (h : qAt w S q l) (hST : ∀ k, k < w.heap.size → S k → T k) : qAt w T q l := by
  rcases h with h | ⟨b, hq, hT⟩
  · exact .inl h
  · exact .inr ⟨b, hq, hT.mono hST⟩
theorem note_none (k a b : Int) (w : World) : Calls Try.prog 40 #[.pointer none, .int .i64 k, .int .i64 a, .int .i64 b] w fun e w' => e = .returned (.tuple #[]) ∧ w' = w := by
  go_enter Try.func40, Try.ntmps40
  go_wp2
  refine bodyPost_ret (results_none rfl _ _ _) rfl ?_
  exact ⟨rfl, rfl⟩
theorem note_q (q : Option Addr) (S : Nat → Prop) (l0 : List Ev) (kind : Int) (k : Nat) (w : World) (hT : qAt w S q (recs q l0 kind k)) (hkind : wf64 kind = true) (hk : k ≤ 549755813888) (hl : l0.length ≤ 549755813888) :
    Calls Try.prog 40 #[.pointer q, .int .i64 kind, .int .i64 k, .int .i64 0] w fun r w' => r = .returned (.tuple #[]) ∧ qAt w' (fun k => S k ∨ w.heap.size ≤ k) q (recs q l0 kind (k + 1)) ∧ Keeps S w w' := by
  rcases hT with ⟨rfl, he⟩ | ⟨b, rfl, hT⟩
  · refine (note_none kind k 0 w).mono fun r w' ⟨hr, hw⟩ => ⟨hr, .inl ⟨rfl, ?_⟩, by rw [hw]; exact Keeps.refl _ _⟩
    simpa [recs] using he
  · have hlen := recs_length (some ⟨b, 0, none⟩) l0 kind k
    refine (note_calls b S _ (kind, (k : Int), 0) w hT ⟨hkind, WalkArith.wf_i64 (show -9223372036854775808 ≤ (k : Int) ∧ (k : Int) ≤ 9223372036854775807 by omega), show wf64 0 = true by decide⟩ (by omega)).mono fun r w' ⟨hr, hT', hK⟩ => ⟨hr, .inr ⟨b, rfl, ?_⟩, hK⟩
    have e : recs (some ⟨b, 0, none⟩) l0 kind k ++ [(kind, (k : Int), 0)] = recs (some ⟨b, 0, none⟩) l0 kind (k + 1) := by
      simp [recs, List.range_succ]
    rw [← e]
    exact hT'

theorem keeps_putObj (w : World) (r : Nat) (o : Obj) : Keeps (fun k => k = r) w (w.putObj r o) :=
  ⟨rfl, rfl, rfl, by simp, fun k _ hk => World.putObj_heap_other hk⟩

set_option maxHeartbeats 400000 in
theorem over_visit {n : Nat} {g : Operand} {p1 p2 : Tmp} {assign body : Code} {Q : Exit → Act → World → Prop} {a : Act} {w : World}
    (Bl Bt Bk b off len : Nat) (v : Value) (q : Option Addr) (kind : Int) (l0 : List Ev) (S0 Pr B : Nat → Prop) (C : Nat → World → Prop)
    (hg : a.eval g = .func (.func 39) #[] #[.pointer (some ⟨Bl, 0, none⟩), .pointer (some ⟨Bt, 0, none⟩), .pointer (some ⟨Bk, 0, none⟩)])
    (hv : (len = 0 ∧ ∃ ao cap, v = .slice ao 0 cap) ∨ ∃ cap, v = .slice (some ⟨b, off, none⟩) len cap) (hlen : len ≤ 549755813888) (hl0 : l0.length ≤ 549755813888) (hkind : wf64 kind = true)
    (hbl : w.cell? ⟨Bl, 0, none⟩ = some v) (hbt : w.cell? ⟨Bt, 0, none⟩ = some (.pointer q)) (hbk : w.cell? ⟨Bk, 0, none⟩ = some (.int .i64 kind))
    (hT : qAt w S0 q l0) (hS0 : ∀ k, S0 k → k < w.heap.size ∧ ¬ Pr k) (hPr : ∀ k, Pr k → k < w.heap.size) (hPl : Pr Bl ∧ Pr Bt ∧ Pr Bk) (hB : ∀ k, B k → Pr k ∧ k ≠ Bl ∧ k ≠ Bt ∧ k ≠ Bk)
    (hC : ∀ k W W', C k W → (∀ j, Pr j → W'.heap[j]? = W.heap[j]?) → C k W') (hC0 : C 0 w)
    (a₁ : Nat → Act)
    (hassign : ∀ (x : Nat) (W : World) (K : Act → World → Prop), K (a₁ x) W →
      assign.wpIn (Fence.wide.inRound (w.heap.size + 1)) (n - 1 - 1) Try.prog (Exit.then K (fun _ _ _ => False)) { tmps := (a.tmps.setIfInBounds p1 (.int .u64 x)).setIfInBounds p2 (.pointer (some ⟨b, off + x, none⟩)), defers := [] } W)
    (hbody : ∀ (k : Nat) (W : World), C k W → k < len → (∃ cap, v = .slice (some ⟨b, off, none⟩) len cap) → body.wpIn (Fence.wide.inRound (w.heap.size + 1)) (n - 1 - 1) Try.prog (fun e _ W' => match e with | .normal => Keeps B W W' ∧ C (k + 1) W' | _ => False) (a₁ k) W)
    (hdone : ∀ (W : World), C len W → (∃ S, qAt W S q (recs q l0 kind len) ∧ ∀ k, S k → S0 k ∨ w.heap.size + 2 ≤ k) → Keeps (fun k => S0 k ∨ B k) w W → W.heap[w.heap.size]? = some (.deferred (some [])) → Q .normal { a with defers := { target := .collected w.heap.size, args := #[] } :: a.defers } W) :
    (Code.rangeFunc g #[p1, p2] assign body).wpIn Fence.wide n Try.prog Q a w := by
  -- what holds between two rounds, when j events have been recorded and k rounds are over
  let I : Nat → Nat → World → Prop := fun j k W => (W.cell? ⟨Bl, 0, none⟩ = some v ∧ W.cell? ⟨Bt, 0, none⟩ = some (.pointer q) ∧ W.cell? ⟨Bk, 0, none⟩ = some (.int .i64 kind)) ∧ C k W ∧
    (∃ S, qAt W S q (recs q l0 kind j) ∧ ∀ k, S k → S0 k ∨ w.heap.size + 2 ≤ k) ∧ Keeps (fun k => S0 k ∨ B k) w W ∧ w.heap.size + 2 ≤ W.heap.size
  have hcell : ∀ (Bx : Nat) (W W' : World), Pr Bx → (∀ j, Pr j → W'.heap[j]? = W.heap[j]?) → W'.cell? ⟨Bx, 0, none⟩ = W.cell? ⟨Bx, 0, none⟩ :=
    fun Bx W W' hp h => World.cell?_of_block (w := W) (h Bx hp)
  have hnS : ∀ (S : Nat → Prop), (∀ k, S k → S0 k ∨ w.heap.size + 2 ≤ k) → ∀ k, S k → ¬ Pr k ∧ k ≠ w.heap.size ∧ k ≠ w.heap.size + 1 := by
    intro S hS k hk
    rcases hS k hk with h | h
    · have := hS0 k h
      exact ⟨this.2, by omega, by omega⟩
    · exact ⟨fun hp => by have := hPr k hp; omega, by omega, by omega⟩
  -- a step that turns no block of Pr, and, of old ones, none at all
  have step : ∀ (j k : Nat) (W W' : World) (T : Nat → Prop), I j k W → Keeps T W W' → (∀ i, T i → ¬ Pr i ∧ w.heap.size ≤ i ∧ i < w.heap.size + 2) → I j k W' := by
    rintro j k W W' T ⟨⟨q1, q2, q3⟩, hc, ⟨S, hq, hS⟩, hK, hz⟩ hk hT
    have same : ∀ i, Pr i → W'.heap[i]? = W.heap[i]? := fun i hp => hk.block i (Nat.lt_of_lt_of_le (hPr i hp) hK.size) (fun ht => (hT i ht).1 hp)
    refine ⟨⟨(hcell _ _ _ hPl.1 same).trans q1, (hcell _ _ _ hPl.2.1 same).trans q2, (hcell _ _ _ hPl.2.2 same).trans q3⟩, hC k W W' hc same, ⟨S, hq.keep hk (fun i _ hs ht => ?_), hS⟩, hK.trans hk (fun i hi ht => by have := hT i ht; omega), Nat.le_trans hz hk.size⟩
    have h1 := hnS S hS i hs
    have h2 := hT i ht
    omega
  have hput : ∀ j k W o, I j k W → W.heap[w.heap.size + 1]? ≠ none → I j k (W.putObj (w.heap.size + 1) o) := fun j k W o h _ =>
    step j k W _ _ h (keeps_putObj W _ o) (fun i hi => ⟨fun hp => by have := hPr i hp; omega, by omega, by omega⟩)
  have hI0 : ∀ r, I 0 0 ((w.alloc (.deferred (some []))).alloc (.loop r)) := by
    intro r
    have hk : Keeps (fun _ => False) w ((w.alloc (.deferred (some []))).alloc (.loop r)) := ((Keeps.refl _ w).alloc _).alloc _
    have same : ∀ i, Pr i → ((w.alloc (.deferred (some []))).alloc (.loop r)).heap[i]? = w.heap[i]? := fun i hp => hk.block i (hPr i hp) (fun h => h)
    exact ⟨⟨(hcell _ _ _ hPl.1 same).trans hbl, (hcell _ _ _ hPl.2.1 same).trans hbt, (hcell _ _ _ hPl.2.2 same).trans hbk⟩, hC 0 _ _ hC0 same,
      ⟨S0, by rw [recs_zero]; exact hT.keep hk (fun _ _ _ h => h), fun k h => .inl h⟩, hk.mono (fun _ _ h => h.elim), by simp⟩
  have hnote : ∀ (k : Nat) W, I k k W → k < len → Calls Try.prog 40 #[.pointer q, .int .i64 kind, .int .i64 k, .int .i64 0] W fun e W' => e = .returned (.tuple #[]) ∧ I (k + 1) k W' ∧ Two w W W' := by
    rintro k W ⟨⟨q1, q2, q3⟩, hc, ⟨S, hq, hS⟩, hK, hz⟩ hk
    refine (note_q q S l0 kind k W hq hkind (by omega) hl0).mono fun e W' ⟨he, hq', hk'⟩ => ⟨he, ?_, ?_⟩
    · have same : ∀ i, Pr i → W'.heap[i]? = W.heap[i]? := fun i hp => hk'.block i (Nat.lt_of_lt_of_le (hPr i hp) hK.size) (fun ht => (hnS S hS i ht).1 hp)
      refine ⟨⟨(hcell _ _ _ hPl.1 same).trans q1, (hcell _ _ _ hPl.2.1 same).trans q2, (hcell _ _ _ hPl.2.2 same).trans q3⟩, hC k W W' hc same, ?_, hK.trans hk' (fun i hi ht => ?_), Nat.le_trans hz hk'.size⟩
      · exact ⟨_, hq', fun i hi => by rcases hi with h | h; exact hS i h; exact .inr (by omega)⟩
      · rcases hS i ht with h | h
        · exact .inl h
        · omega
    · exact ⟨hk'.block _ (by omega) (fun h => (hnS S hS _ h).2.1 rfl), hk'.block _ (by omega) (fun h => (hnS S hS _ h).2.2 rfl)⟩
  have hround : ∀ (k : Nat) W, I (k + 1) k W → k < len → (∃ cap, v = .slice (some ⟨b, off, none⟩) len cap) → body.wpIn (Fence.wide.inRound (w.heap.size + 1)) (n - 1 - 1) Try.prog (GoesOn w (fun k => I k k) k W) (a₁ k) W := by
    rintro k W ⟨⟨q1, q2, q3⟩, hc, ⟨S, hq, hS⟩, hK, hz⟩ hk hvs
    refine wpIn_mono (hbody k W hc hk hvs) ?_
    rintro e a3 W3 hp
    cases e with
    | normal =>
      obtain ⟨hkB, hc3⟩ := hp
      have cellB : ∀ Bx, Bx < w.heap.size → ¬ B Bx → W3.cell? ⟨Bx, 0, none⟩ = W.cell? ⟨Bx, 0, none⟩ := fun Bx hlt hn => hkB.cell (p := ⟨Bx, 0, none⟩) (Nat.lt_of_lt_of_le hlt hK.size) hn
      refine ⟨⟨hkB.block _ (by omega) (fun h => by have := hPr _ (hB _ h).1; omega), hkB.block _ (by omega) (fun h => by have := hPr _ (hB _ h).1; omega)⟩,
        ⟨(cellB _ (hPr _ hPl.1) (fun h => (hB _ h).2.1 rfl)).trans q1, (cellB _ (hPr _ hPl.2.1) (fun h => (hB _ h).2.2.1 rfl)).trans q2, (cellB _ (hPr _ hPl.2.2) (fun h => (hB _ h).2.2.2 rfl)).trans q3⟩, hc3,
        ⟨S, hq.keep hkB (fun i _ hs ht => (hnS S hS i hs).1 (hB i ht).1), hS⟩, hK.trans hkB (fun i _ h => .inr h), Nat.le_trans hz hkB.size⟩
    | ret => exact hp.elim
    | exit id => exact hp.elim
    | goto t => exact hp.elim
    | panic ch => exact hp.elim
    | outgrown => exact hp.elim
  have fin : ∀ W, I len len W → W.heap[w.heap.size]? = some (.deferred (some [])) → Q .normal { a with defers := { target := .collected w.heap.size, args := #[] } :: a.defers } W := by
    rintro W ⟨_, hc, ⟨S, hq, hS⟩, hK, _⟩ hd
    exact hdone W hc ⟨S, hq, hS⟩ hK hd
  refine range_law hg (enters_of Try.func39 (by kernel_rfl) rfl) (fun k => #[.int .u64 k, .pointer (some ⟨b, off + k, none⟩)]) (fun _ => rfl) len (fun k => I k k) (fun k => I (k + 1) k) (fun k => hput k k) (fun k => hput (k + 1) k) hI0 ?_ a₁ ?_ ?_ fin
  · intro Kp hKp _ W1 h1 hb1 hY
    rcases hv with ⟨rfl, ao, cap, rfl⟩ | ⟨cap, rfl⟩
    · exact (visit1_nil (n - 1) _ Bl Bt Bk cap ao W1 h1.1.1 (fun W => I 0 0 W ∧ Kp W) ⟨h1, hb1⟩).mono fun e W' ⟨he, hi, hb⟩ => ⟨he, hi, hb⟩
    · refine (visit1 (n - 1) _ Bl Bt Bk b off len cap kind (.pointer q) (by omega) (fun k W => I k k W ∧ Kp W) (fun k W => I (k + 1) k W ∧ Kp W) (fun k W h => h.1.1) (fun k W h => h.1.1.1) ?_ ?_ W1 ⟨h1, hb1⟩).mono fun e W' ⟨he, hi, hb⟩ => ⟨he, hi, hb⟩
      · intro k W ⟨hi, hb⟩ hk
        exact (hnote k W hi hk).mono fun e W' ⟨he, hi', ht⟩ => ⟨he, hi', hKp W W' hb ht⟩
      · intro k W ⟨hi, hb⟩ hk
        exact hY k W hi hb hk
  · intro x W K hK
    have e : ∀ (u v : Value) (t : Array Value), (#[p1, p2].zip #[u, v]).foldl (fun t (p, v) => t.setIfInBounds p v) t = (t.setIfInBounds p1 u).setIfInBounds p2 v := fun _ _ _ => by simp
    rw [e]
    exact hassign x W K hK
  · intro k W hi hk _
    rcases hv with ⟨rfl, _⟩ | h
    · omega
    · exact hround k W hi hk h
end Go.Proofs.Ytkagpdbphdhbaaa.ar
