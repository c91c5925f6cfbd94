/- What memory holds of a tape and of a list of events; which blocks a step may write. No walk is here. -/
import Derived.Test.YtmoajobnhiopiaaGreatDoorChecked
import Derived.WalkKit
import Derived.Maps.OwnOps
import Derived.Maps.Views
import Derived.Maps.AppendAt
import Derived.RangeFuncBox
import Derived.WalkSmall
import Derived.ArgAppend
import Derived.Laws.AppendOwnNone
import Derived.IntWalk
namespace Go.Proofs.YtmoajobnhiopiaaGreatDoor.tp
open Go Go.RowKit Go.Maps

/-! ### which blocks a step may write -/
/-- From w to w' no block that was there has turned, but for those in S. -/
structure Keeps (S : Nat → Prop) (w w' : World) : Prop where
  os : w'.os = w.os
  tape : w'.tape = w.tape
  output : w'.output = w.output
  size : w.heap.size ≤ w'.heap.size
  block : ∀ k, k < w.heap.size → ¬ S k → w'.heap[k]? = w.heap[k]?

theorem Keeps.refl (S : Nat → Prop) (w : World) : Keeps S w w := ⟨rfl, rfl, rfl, Nat.le_refl _, fun _ _ _ => rfl⟩
theorem Keeps.mono {S T : Nat → Prop} {w w' : World} (h : Keeps S w w') (hST : ∀ k, k < w.heap.size → S k → T k) : Keeps T w w' :=
  ⟨h.os, h.tape, h.output, h.size, fun k hk hT => h.block k hk (fun hS => hT (hST k hk hS))⟩
theorem Keeps.trans {S T : Nat → Prop} {a b c : World} (h : Keeps S a b) (k : Keeps T b c) (hT : ∀ i, i < a.heap.size → T i → S i) : Keeps S a c :=
  ⟨k.os.trans h.os, k.tape.trans h.tape, k.output.trans h.output, Nat.le_trans h.size k.size,
    fun i hi hS => (k.block i (Nat.lt_of_lt_of_le hi h.size) (fun ht => hS (hT i hi ht))).trans (h.block i hi hS)⟩
theorem Keeps.drewN {S : Nat → Prop} {a w : World} (h : Keeps S a w) (n : Nat) : Keeps S a (w.drewN n) := ⟨h.os, h.tape, h.output, h.size, h.block⟩
theorem Keeps.drew {S : Nat → Prop} {a w : World} (h : Keeps S a w) : Keeps S a w.drew := ⟨h.os, h.tape, h.output, h.size, h.block⟩
theorem Keeps.alloc {S : Nat → Prop} {a w : World} (h : Keeps S a w) (o : Obj) : Keeps S a (w.alloc o) :=
  ⟨h.os, h.tape, h.output, by simp; exact Nat.le_succ_of_le h.size,
    fun k hk hS => (Below.heap_alloc w o k (Nat.lt_of_lt_of_le hk h.size)).trans (h.block k hk hS)⟩
theorem Keeps.setCell {S : Nat → Prop} {a w : World} (h : Keeps S a w) (p : Addr) (hp : p.block < a.heap.size → S p.block) (u : Value) : Keeps S a (w.setCell p u) :=
  ⟨h.os, h.tape, h.output, by simp [World.setCell]; exact h.size,
    fun k hk hS => (Below.heap_setCell w p u k (fun e => hS (e ▸ hp (e ▸ hk)))).trans (h.block k hk hS)⟩
theorem Keeps.grown {S : Nat → Prop} {a w w' : World} {row : Option Nat} (h : Keeps S a w) (hg : w.grownBy w' row) (hr : ∀ k, row = some k → k < a.heap.size → S k) : Keeps S a w' :=
  ⟨hg.os.trans h.os, hg.tape.trans h.tape, hg.output.trans h.output, Nat.le_trans h.size hg.size,
    fun k hk hS => (hg.block k (Nat.lt_of_lt_of_le hk h.size) (fun e => hS (hr k e.symm hk))).trans (h.block k hk hS)⟩
theorem Keeps.below {S : Nat → Prop} {w w' : World} (h : Keeps S w w') {B : Nat} (hB : B ≤ w.heap.size) (hS : ∀ k, k < w.heap.size → S k → B ≤ k) : Below B w w' :=
  ⟨h.os, h.tape, h.output, h.size, fun k hk => h.block k (by omega) (fun e => by have := hS k (by omega) e; omega)⟩
theorem Keeps.of_below {B : Nat} {w w' : World} (h : Below B w w') : Keeps (fun k => B ≤ k) w w' :=
  ⟨h.os, h.tape, h.output, h.size, fun k _ hk => h.block k (by omega)⟩
theorem Keeps.cell {S : Nat → Prop} {w w' : World} (h : Keeps S w w') {p : Addr} (hp : p.block < w.heap.size) (hS : ¬ S p.block) : w'.cell? p = w.cell? p := World.cell?_of_block (w := w) (h.block p.block hp hS)
theorem Keeps.frozen {S : Nat → Prop} {w w' : World} (h : Keeps S w w') {p : Addr} (hp : p.block < w.heap.size) (hS : ¬ S p.block) : w'.frozen? p = w.frozen? p := World.frozen?_of_block (w := w) (h.block p.block hp hS)

/-! ### events -/
/-- An event: its kind, A and B. -/
abbrev Ev := Int × Int × Int
def wf64 (n : Int) : Bool := (Lit.int .i64 n).wf
def EvOk (e : Ev) : Prop := wf64 e.1 = true ∧ wf64 e.2.1 = true ∧ wf64 e.2.2 = true
def evC (e : Ev) : List Value := [.int .i64 e.1, .int .i64 e.2.1, .int .i64 e.2.2]
def flat (l : List Ev) : List Value := l.flatMap evC
def evV (e : Ev) : Value := .agg #[.int .i64 e.1, .int .i64 e.2.1, .int .i64 e.2.2]
/-- How many events are of a kind. -/
def cntE (l : List Ev) (k : Int) : Nat := (l.filter (fun e => e.1 == k)).length

theorem flat_nil : flat [] = [] := rfl
theorem flat_append (l m : List Ev) : flat (l ++ m) = flat l ++ flat m := by simp [flat]
theorem flat_one (e : Ev) : flat [e] = evC e := by simp [flat]
theorem flat_cons (e : Ev) (l : List Ev) : flat (e :: l) = evC e ++ flat l := by simp [flat]
theorem flat_length (l : List Ev) : (flat l).length = l.length * 3 := by
  induction l with
  | nil => rfl
  | cons e l ih => rw [flat_cons, List.length_append, ih, List.length_cons]; show 3 + _ = _; omega
theorem flat_get (l : List Ev) : ∀ (i : Nat) (e : Ev), l[i]? = some e → (flat l)[i * 3]? = some (.int .i64 e.1) ∧ (flat l)[i * 3 + 1]? = some (.int .i64 e.2.1) ∧ (flat l)[i * 3 + 2]? = some (.int .i64 e.2.2) := by
  induction l with
  | nil => intro i e h; simp at h
  | cons x l ih =>
    intro i e h
    rw [flat_cons]
    cases i with
    | zero => simp at h; subst h; simp [evC]
    | succ i =>
      have h' : l[i]? = some e := by simpa using h
      obtain ⟨h1, h2, h3⟩ := ih i e h'
      have e3 : (evC x).length = 3 := rfl
      refine ⟨?_, ?_, ?_⟩
      · rw [List.getElem?_append_right (by rw [e3]; omega), e3, show (i + 1) * 3 - 3 = i * 3 from by omega]; exact h1
      · rw [List.getElem?_append_right (by rw [e3]; omega), e3, show (i + 1) * 3 + 1 - 3 = i * 3 + 1 from by omega]; exact h2
      · rw [List.getElem?_append_right (by rw [e3]; omega), e3, show (i + 1) * 3 + 2 - 3 = i * 3 + 2 from by omega]; exact h3
theorem cntE_snoc (l : List Ev) (e : Ev) (k : Int) : cntE (l ++ [e]) k = if e.1 = k then cntE l k + 1 else cntE l k := by
  unfold cntE
  rw [List.filter_append, List.length_append]
  by_cases h : e.1 = k <;> simp [h]
theorem cntE_le (l : List Ev) (k : Int) : cntE l k ≤ l.length := List.length_filter_le _ _

theorem take_same {l m : List Ev} {k : Nat} {e : Ev} (h : l.take k = m.take k) (hl : l[k]? = some e) (hm : m[k]? = some e) : l.take (k + 1) = m.take (k + 1) := by
  rw [List.take_add_one, List.take_add_one, h, hl, hm]
theorem ne_at {l m : List Ev} {k : Nat} {e f : Ev} (hl : l[k]? = some e) (hm : m[k]? = some f) (hne : e ≠ f) : decide (l = m) = false := by
  rw [decide_eq_false_iff_not]
  intro h
  rw [h, hm] at hl
  exact hne (Option.some.inj hl).symm
/-- The first place at which two lists differ, or -1. -/
def firstE : List Ev → List Ev → Int
  | [], [] => -1
  | [], _ :: _ => 0
  | _ :: _, [] => 0
  | e :: l, f :: m => if e = f then (if firstE l m = -1 then -1 else firstE l m + 1) else 0
theorem firstE_ge : ∀ l m : List Ev, -1 ≤ firstE l m
  | [], [] => by simp [firstE]
  | [], _ :: _ => by simp [firstE]
  | _ :: _, [] => by simp [firstE]
  | e :: l, f :: m => by
    have := firstE_ge l m
    unfold firstE
    split
    · split <;> omega
    · omega
theorem firstE_same : ∀ l m : List Ev, firstE l m = -1 ↔ l = m
  | [], [] => by simp [firstE]
  | [], _ :: _ => by simp [firstE]
  | _ :: _, [] => by simp [firstE]
  | e :: l, f :: m => by
    have h := firstE_same l m
    have hg := firstE_ge l m
    unfold firstE
    by_cases hef : e = f
    · subst hef
      rw [if_pos rfl]
      by_cases h1 : firstE l m = -1
      · rw [if_pos h1]; simp [h.1 h1]
      · rw [if_neg h1]
        constructor
        · intro e'; omega
        · intro e'; exact absurd (h.2 (by simpa using e')) h1
    · rw [if_neg hef]; simp [hef]
theorem firstE_at : ∀ (k : Nat) (l m : List Ev) (e f : Ev), l.take k = m.take k → l[k]? = some e → m[k]? = some f → e ≠ f → firstE l m = k
  | 0, l, m, e, f, _, hl, hm, hne => by
    cases l with
    | nil => simp at hl
    | cons x l => cases m with
      | nil => simp at hm
      | cons y m =>
        simp at hl hm
        subst hl hm
        simp [firstE, hne]
  | k + 1, l, m, e, f, ht, hl, hm, hne => by
    cases l with
    | nil => simp at hl
    | cons x l => cases m with
      | nil => simp at hm
      | cons y m =>
        simp at hl hm ht
        have := firstE_at k l m e f ht.2 hl hm hne
        unfold firstE
        rw [if_pos ht.1, if_neg (by omega), this]
        omega
theorem firstE_end : ∀ (l m : List Ev), l.length ≠ m.length → l.take (min l.length m.length) = m.take (min l.length m.length) → firstE l m = (min l.length m.length : Nat)
  | [], [], h, _ => absurd rfl h
  | [], _ :: _, _, _ => by simp [firstE]
  | _ :: _, [], _, _ => by simp [firstE]
  | e :: l, f :: m, h, ht => by
    have e1 : min (l.length + 1) (m.length + 1) = min l.length m.length + 1 := by omega
    simp only [List.length_cons, e1, List.take_succ_cons, List.cons.injEq] at ht
    have := firstE_end l m (by simpa using h) ht.2
    unfold firstE
    rw [if_pos ht.1, if_neg (by omega), this, List.length_cons, List.length_cons, e1]
    omega
theorem firstE_nil {l : List Ev} (h : l ≠ []) : firstE [] l = 0 := by
  cases l with
  | nil => exact absurd rfl h
  | cons f l => rfl
theorem firstE_all {l m : List Ev} (hl : l.length = m.length) (h : l.take (min l.length m.length) = m.take (min l.length m.length)) : firstE l m = -1 := by
  rw [firstE_same]
  rw [← hl, Nat.min_self, List.take_length, hl, List.take_length] at h
  exact h

/-! ### a slice value that reads as a list of events -/
/-- The cells from (b, off) on hold the events of l. -/
def cellsAt (w : World) (b off : Nat) (l : List Ev) : Prop :=
  ∀ (i : Nat) (e : Ev), l[i]? = some e → w.cell? ⟨b, off + i * 3, none⟩ = some (.int .i64 e.1) ∧ w.cell? ⟨b, off + i * 3 + 1, none⟩ = some (.int .i64 e.2.1) ∧ w.cell? ⟨b, off + i * 3 + 2, none⟩ = some (.int .i64 e.2.2)
def evAt (w : World) (v : Value) (l : List Ev) : Prop :=
  (l = [] ∧ ∃ ao cap, v = .slice ao 0 cap) ∨ (l ≠ [] ∧ ∃ b off cap, v = .slice (some ⟨b, off, none⟩) l.length cap ∧ b < w.heap.size ∧ cellsAt w b off l)

theorem flat_one_cell (l : List Ev) : ∀ u ∈ flat l, u.oneCell' = true := by
  intro u hu
  obtain ⟨e, _, he⟩ := List.mem_flatMap.1 hu
  simp [evC] at he
  rcases he with rfl | rfl | rfl <;> rfl
theorem cells_flat {w : World} {b off : Nat} {l : List Ev} (h : cellsAt w b off l) : ∀ j u, (flat l)[j]? = some u → w.cell? ((⟨b, off, none⟩ : Addr).add j) = some u := by
  intro j u hj
  have hadd : (⟨b, off, none⟩ : Addr).add j = ⟨b, off + j, none⟩ := by unfold Addr.add; split <;> simp_all
  have hlt : j < l.length * 3 := by rw [← flat_length]; exact (List.getElem?_eq_some_iff.1 hj).1
  have hk : j / 3 < l.length := by omega
  have he : l[j / 3]? = some l[j / 3] := by simp [hk]
  obtain ⟨f0, f1, f2⟩ := flat_get l _ _ he
  obtain ⟨g0, g1, g2⟩ := h _ _ he
  rw [hadd]
  rcases (show j % 3 = 0 ∨ j % 3 = 1 ∨ j % 3 = 2 from by omega) with hr | hr | hr
  · have e : j = j / 3 * 3 := by omega
    rw [← e] at f0 g0
    rw [hj] at f0
    rw [f0]; exact g0
  · have e : j = j / 3 * 3 + 1 := by omega
    rw [← e] at f1
    rw [Nat.add_assoc, ← e] at g1
    rw [hj] at f1
    rw [f1]; exact g1
  · have e : j = j / 3 * 3 + 2 := by omega
    rw [← e] at f2
    rw [Nat.add_assoc, ← e] at g2
    rw [hj] at f2
    rw [f2]; exact g2
theorem cellsAt.keep {S : Nat → Prop} {w w' : World} {b off : Nat} {l : List Ev} (h : cellsAt w b off l) (hk : Keeps S w w') (hb : b < w.heap.size) (hS : ¬ S b) : cellsAt w' b off l := by
  intro i e he
  obtain ⟨h1, h2, h3⟩ := h i e he
  exact ⟨(hk.cell (p := ⟨b, _, none⟩) hb hS).trans h1, (hk.cell (p := ⟨b, _, none⟩) hb hS).trans h2, (hk.cell (p := ⟨b, _, none⟩) hb hS).trans h3⟩
/-- The block at which a slice value lies. -/
def inBlock (v : Value) (k : Nat) : Prop := v.ownBlock = some k
theorem evAt.keep {S : Nat → Prop} {w w' : World} {v : Value} {l : List Ev} (h : evAt w v l) (hk : Keeps S w w') (hS : ∀ k, k < w.heap.size → v.ownBlock = some k → ¬ S k) : evAt w' v l := by
  rcases h with h | ⟨hne, b, off, cap, rfl, hb, hc⟩
  · exact .inl h
  · exact .inr ⟨hne, b, off, cap, rfl, Nat.lt_of_lt_of_le hb hk.size, hc.keep hk hb (hS b hb rfl)⟩
theorem evAt.shape {w : World} {v : Value} {l : List Ev} (h : evAt w v l) : ∃ ao cap, v = .slice ao l.length cap := by
  rcases h with ⟨rfl, ao, cap, rfl⟩ | ⟨_, b, off, cap, rfl, _⟩
  · exact ⟨_, _, rfl⟩
  · exact ⟨_, _, rfl⟩
/-- .. as an argument reads: a nil slice has no capacity. -/
def argAt (w : World) (v : Value) (l : List Ev) : Prop := evAt w v l ∧ (∀ n c, v = .slice none n c → n = 0 ∧ c = 0)
theorem argAt.src {w : World} {ao : Option Addr} {n c : Nat} {l : List Ev} (h : argAt w (.slice ao n c) l) : n = l.length ∧ (ao = none → n = 0 ∧ c = 0) ∧ ∀ ad, ao = some ad → ∀ j u, (flat l)[j]? = some u → w.cell? (ad.add j) = some u := by
  obtain ⟨h1, h2⟩ := h
  refine ⟨?_, fun e => h2 n c (by rw [e]), ?_⟩
  · obtain ⟨_, _, e⟩ := h1.shape
    cases e; rfl
  · intro ad e j u hj
    rcases h1 with ⟨rfl, _⟩ | ⟨_, b, off, cap, e', _, hc⟩
    · simp [flat] at hj
    · cases e'; cases e
      exact cells_flat hc j u hj
theorem evAt.cap {w : World} {ao : Option Addr} {n c : Nat} {l : List Ev} (h : evAt w (.slice ao n c) l) (c' : Nat) : evAt w (.slice ao n c') l := by
  rcases h with ⟨rfl, ao, cap, e⟩ | ⟨hne, b, off, cap, e, h⟩
  · cases e; exact .inl ⟨rfl, _, _, rfl⟩
  · cases e; exact .inr ⟨hne, b, off, c', rfl, h⟩
theorem evAt.drewN {w : World} {v : Value} {l : List Ev} (h : evAt w v l) (n : Nat) : evAt (w.drewN n) v l := h
theorem evAt.below {B : Nat} {w w' : World} {v : Value} {l : List Ev} (h : evAt w v l) (hk : Below B w w') (hS : ∀ k, v.ownBlock = some k → k < B) : evAt w' v l :=
  h.keep (Keeps.of_below hk) (fun k _ e => by have := hS k e; omega)

/-! ### a tape -/
/-- The map's datum counts the kinds of l. -/
def CountsOk (D : DataW Unit) (l : List Ev) : Prop :=
  IsMap D ∧ ∀ k, wf64 k = true → D.atKey (.int .i64 k) (.lit (.int .i64 0)) = .lit (.int .i64 (cntE l k : Nat))
theorem CountsOk.start : CountsOk (.map []) [] := ⟨⟨[], rfl⟩, fun _ _ => rfl⟩
theorem CountsOk.snoc {D : DataW Unit} {l : List Ev} (h : CountsOk D l) (e : Ev) (he : wf64 e.1 = true) {c : Int} (hc : D.atKey (.int .i64 e.1) (.lit (.int .i64 0)) = .lit (.int .i64 c)) :
    CountsOk (D.put (.int .i64 e.1) (.lit (.int .i64 (c + 1)))) (l ++ [e]) ∧ c = (cntE l e.1 : Nat) := by
  have hce : c = (cntE l e.1 : Nat) := by
    have := h.2 e.1 he
    rw [hc] at this
    simpa using this
  refine ⟨⟨?_, fun k hk => ?_⟩, hce⟩
  · obtain ⟨es, rfl⟩ := h.1
    exact ⟨_, rfl⟩
  · rw [cntE_snoc]
    by_cases hek : e.1 = k
    · subst hek
      rw [atKey_put_same h.1 (by simp [WideAt.IsKeyLit]), if_pos rfl, hce]
      rfl
    · rw [atKey_put_other (by intro e'; exact hek (by simpa using e'.symm)), if_neg hek]
      exact h.2 k hk

/-- At block b lies a tape that has the events of l; its own blocks are in S. -/
def tapeAt (w : World) (S : Nat → Prop) (b : Nat) (l : List Ev) : Prop :=
  S b ∧ ∃ v mb D, w.heap[b]? = some (.cells #[v, .map (some mb)] 132 (0, 0)) ∧ w.ownsRow 0 134 3 v l.length (flat l) ∧ (∀ g, v.ownBlock = some g → S g) ∧ S mb ∧
    w.ownsMap Tryz.prog 3 (plainElem Tryz.prog 3) mb l.length D ∧ CountsOk D l

theorem tapeAt.lt {w : World} {S : Nat → Prop} {b : Nat} {l : List Ev} (h : tapeAt w S b l) : b < w.heap.size := by
  obtain ⟨_, v, mb, D, hb, _⟩ := h
  exact (Array.getElem?_eq_some_iff.1 hb).1
theorem tapeAt.mono {w : World} {S T : Nat → Prop} {b : Nat} {l : List Ev} (h : tapeAt w S b l) (hST : ∀ k, k < w.heap.size → S k → T k) : tapeAt w T b l := by
  have hlt := h.lt
  obtain ⟨hS, v, mb, D, hb, hr, hg, hm, ho, hc⟩ := h
  exact ⟨hST b hlt hS, v, mb, D, hb, hr, fun g e => hST g (hr.lt g e).2 (hg g e), hST mb ho.lt hm, ho, hc⟩
theorem tapeAt.keep {w w' : World} {S T : Nat → Prop} {b : Nat} {l : List Ev} (h : tapeAt w S b l) (hk : Keeps T w w') (hST : ∀ k, k < w.heap.size → S k → ¬ T k) : tapeAt w' S b l := by
  have hlt := h.lt
  obtain ⟨hS, v, mb, D, hb, hr, hg, hm, ho, hc⟩ := h
  refine ⟨hS, v, mb, D, (hk.block b hlt (hST b hlt hS)).trans hb, ?_, hg, hm, ?_, hc⟩
  · refine ⟨hr.1, ?_⟩
    rcases hr.2 with hn | ⟨g, cap, cur, rfl, h0, hgg, rest⟩
    · exact .inl hn
    · have hl := (Array.getElem?_eq_some_iff.1 hgg).1
      exact .inr ⟨g, cap, cur, rfl, h0, (hk.block g hl (hST g hl (hg g rfl))).trans hgg, rest⟩
  · have hl := ho.lt
    obtain ⟨es, clock, hmb, rest⟩ := ho
    exact ⟨es, clock, (hk.block mb hl (hST mb hl hm)).trans hmb, rest⟩
theorem tapeAt.drewN {w : World} {S : Nat → Prop} {b : Nat} {l : List Ev} (h : tapeAt w S b l) (n : Nat) : tapeAt (w.drewN n) S b l := h

/-- The block of an owned row is none of another element type, and no map. -/
theorem row_ne {w : World} {base : Nat} {e t : TypeId} {size : Nat} {v : Value} {n : Nat} {xs : List Value} {b : Nat} {cs : Array Value} {fr : Nat × Nat} (h : w.ownsRow base e size v n xs) (hte : t ≠ e) (hb : w.heap[b]? = some (.cells cs t fr)) : v.ownBlock ≠ some b := by
  intro e'
  rcases h.2 with ⟨rfl, _⟩ | ⟨g, cap, cur, rfl, _, hg, _⟩
  · simp [Value.ownBlock] at e'
  · simp [Value.ownBlock] at e'
    subst e'
    rw [hb] at hg
    injection hg with hg
    injection hg with _ ht _
    exact hte ht
theorem row_no_map {w : World} {base : Nat} {e : TypeId} {size : Nat} {v : Value} {n : Nat} {xs : List Value} {b : Nat} {es : Array MapEntry} {c : Nat} (h : w.ownsRow base e size v n xs) (hb : w.heap[b]? = some (.map es c)) : v.ownBlock ≠ some b := by
  intro e'
  rcases h.2 with ⟨rfl, _⟩ | ⟨g, cap, cur, rfl, _, hg, _⟩
  · simp [Value.ownBlock] at e'
  · simp [Value.ownBlock] at e'
    subst e'
    rw [hb] at hg
    injection hg with hg
    cases hg
theorem row_setCell {w : World} {base : Nat} {e : TypeId} {size : Nat} {v : Value} {n : Nat} {xs : List Value} (h : w.ownsRow base e size v n xs) {a : Addr} (ha : v.ownBlock ≠ some a.block) (u : Value) : (w.setCell a u).ownsRow base e size v n xs := by
  refine ⟨h.1, ?_⟩
  rcases h.2 with hn | ⟨g, cap, cur, rfl, h0, hgg, rest⟩
  · exact .inl hn
  · exact .inr ⟨g, cap, cur, rfl, h0, by rw [Below.heap_setCell _ _ _ _ (fun e => ha (by rw [← e]; rfl))]; exact hgg, rest⟩
theorem two_frozen {w : World} {b : Nat} {cs : Array Value} {t : TypeId} (h : w.heap[b]? = some (.cells cs t (0, 0))) (i : Nat) : w.frozen? ⟨b, i, none⟩ = false := by simp [World.frozen?, h]
theorem two_setCell {w : World} {b : Nat} {v m : Value} {t : TypeId} (h : w.heap[b]? = some (.cells #[v, m] t (0, 0))) (u : Value) : (w.setCell ⟨b, 0, none⟩ u).heap[b]? = some (.cells #[u, m] t (0, 0)) := by
  simp [World.setCell, Array.getElem?_modify, h]

/-- append of m elements (one or more) to a row that the call owns: the row stays where it is, or a new one is made. -/
theorem wpList_append_mine {P : Program} (w : World) {ops : Array Oper} {rest : List Oper} {o : Oper} {a : Act} {Q : Exit → Act → World → Prop} (hgd : o.guard = none) (s x : Operand) (t : TypeId)
    (ho : o.op = .call { callee := .builtin .append, args := #[s, x], argTypes := #[t, t] })
    (e : TypeId) (i : TypeInfo) (z : Value) (size bytes : Nat) (ht : P.underlying t = some (.slice e)) (hi : P.info? e = some i) (hz : i.zero = some z)
    (hsize : i.size = size) (hby : i.bytes = bytes) (hzs : z.cells.size = size) (hsz : 0 < size)
    (v : Value) (n : Nat) (xs : List Value) (hs : a.eval s = v) (hown : w.ownsRow 0 e size v n xs)
    (ad : Addr) (m c : Nat) (news : List Value) (hx : a.eval x = .slice (some ad) m c) (hl : news.length = m * size) (hnews : ∀ j u, news[j]? = some u → w.cell? (ad.add j) = some u) (h1 : ∀ u ∈ news, u.oneCell' = true)
    (hm : 0 < m) (h63 : n + m ≤ maxLen) (hbytes : (n + m) * bytes ≤ 140737488355328)
    (h : ∀ g' cap' w', w'.ownsRow 0 e size (.slice (some ⟨g', 0, none⟩) (n + m) cap') (n + m) (xs ++ news) → w.grownBy w' v.ownBlock → (v.ownBlock = some g' ∨ w.heap.size ≤ g') → wpList P ops Q rest (a.put o.dst (.slice (some ⟨g', 0, none⟩) (n + m) cap')) w') : wpList P ops Q (o :: rest) a w := by
  have out : ∀ v' w', w'.ownsRow w.heap.size e size v' (n + m) (xs ++ news) → w.grownBy w' none → wpList P ops Q rest (a.put o.dst v') w' := by
    intro v' w' hr hg
    obtain ⟨k, hk⟩ : ∃ k, n + m = k + 1 := ⟨n + m - 1, by omega⟩
    rcases hr.2 with ⟨_, h0⟩ | ⟨g, cap, cur, rfl, hb, hgg, rest⟩
    · omega
    · exact h g cap w' ⟨hr.1, .inr ⟨g, cap, cur, rfl, Nat.zero_le _, hgg, rest⟩⟩ ⟨hg.os, hg.tape, hg.output, hg.size, fun k hk _ => hg.block k hk (by simp)⟩ (.inr hb)
  rcases hown.2 with ⟨rfl, rfl⟩ | ⟨g, cap, cur, rfl, _, hgg, hle, hcm, hcs, htake⟩
  · refine wpList_append_grows w hgd s x t ho e i z size bytes ht hi hz hsize hby hzs hsz none 0 0 xs hs (fun _ => ⟨rfl, rfl⟩) hown.1 (fun b hb => by cases hb) ad m c news hx hl hnews h1 (by omega) h63 hbytes out
  · by_cases hroom : n + m ≤ cap
    · exact wpList_append_fits w hgd s x t ho 0 e i size ht hi hsize g n cap xs hs hown ad m c news hx hl hnews h1 hroom (fun w' hr hg => h g cap w' hr hg (.inl rfl))
    · refine wpList_append_grows w hgd s x t ho e i z size bytes ht hi hz hsize hby hzs hsz (some ⟨g, 0, none⟩) n cap xs hs (fun h0 => by cases h0) hown.1 (fun b hb j u hu => by cases hb; exact hown.cells (g := g) rfl j u hu) ad m c news hx hl hnews h1 (by omega) h63 hbytes out

/-- append of a slice from whatever source (nil, empty, or m elements that lie at an address) to a row of the call's own. -/
theorem wpList_append_src {P : Program} (w : World) {ops : Array Oper} {rest : List Oper} {o : Oper} {a : Act} {Q : Exit → Act → World → Prop} (hgd : o.guard = none) (s x : Operand) (t : TypeId)
    (ho : o.op = .call { callee := .builtin .append, args := #[s, x], argTypes := #[t, t] })
    (base : Nat) (e : TypeId) (i : TypeInfo) (z : Value) (size bytes : Nat) (ht : P.underlying t = some (.slice e)) (hi : P.info? e = some i) (hz : i.zero = some z)
    (hsize : i.size = size) (hby : i.bytes = bytes) (hzs : z.cells.size = size) (hsz : 0 < size)
    (v : Value) (n : Nat) (xs : List Value) (hs : a.eval s = v) (hown : w.ownsRow base e size v n xs)
    (ao : Option Addr) (m c : Nat) (news : List Value) (hx : a.eval x = .slice ao m c) (hnone : ao = none → m = 0 ∧ c = 0) (hl : news.length = m * size) (hnews : ∀ ad, ao = some ad → ∀ j u, news[j]? = some u → w.cell? (ad.add j) = some u) (h1 : ∀ u ∈ news, u.oneCell' = true)
    (h63 : n + m ≤ maxLen) (hbytes : (n + m) * bytes ≤ 140737488355328) (hbase : base ≤ w.heap.size)
    (h : ∀ v' w', w'.ownsRow base e size v' (n + m) (xs ++ news) → w.grownBy w' v.ownBlock → wpList P ops Q rest (a.put o.dst v') w') : wpList P ops Q (o :: rest) a w := by
  cases ao with
  | none =>
    obtain ⟨rfl, rfl⟩ := hnone rfl
    obtain rfl : news = [] := List.eq_nil_of_length_eq_zero (by simpa using hl)
    refine wpList_append_own_none hgd s x t ho base e i size ht hi v n xs hs hown hx ?_
    exact h v w (by simpa using hown) (World.grownBy.refl w _)
  | some ad => exact wpList_append_own w hgd s x t ho base e i z size bytes ht hi hz hsize hby hzs hsz v n xs hs hown ad m c news hx hl (hnews ad rfl) h1 h63 hbytes hbase (fun v' w' h2 h3 _ => h v' w' h2 h3)

/-- What an owned row of events reads as. -/
theorem evAt_of_row {w : World} {base : Nat} {v : Value} {l : List Ev} (h : w.ownsRow base 134 3 v l.length (flat l)) : evAt w v l := by
  rcases h.2 with ⟨rfl, h0⟩ | ⟨g, cap, cur, rfl, _, hg, hle, hcap, hcur, htake⟩
  · exact .inl ⟨List.eq_nil_of_length_eq_zero h0, _, _, rfl⟩
  · by_cases hne : l = []
    · subst hne; exact .inl ⟨rfl, _, _, rfl⟩
    · refine .inr ⟨hne, g, 0, cap, rfl, (Array.getElem?_eq_some_iff.1 hg).1, fun i e he => ?_⟩
      obtain ⟨h1, h2, h3⟩ := flat_get l i e he
      have hi : i < l.length := (List.getElem?_eq_some_iff.1 he).1
      have get : ∀ j u, j < l.length * 3 → (flat l)[j]? = some u → w.cell? ⟨g, 0 + j, none⟩ = some u := by
        intro j u hj hu
        rw [cell_of_row w g (0 + j) cur _ (0, 0) hg, Nat.zero_add]
        rw [← htake, List.getElem?_take, if_pos hj] at hu
        simpa using hu
      exact ⟨get _ _ (by omega) h1, by rw [Nat.add_assoc]; exact get _ _ (by omega) h2, by rw [Nat.add_assoc]; exact get _ _ (by omega) h3⟩

end Go.Proofs.YtmoajobnhiopiaaGreatDoor.tp
