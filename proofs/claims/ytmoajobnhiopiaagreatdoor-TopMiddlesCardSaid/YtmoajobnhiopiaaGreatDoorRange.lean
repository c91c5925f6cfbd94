/- A range over an iterator that writes memory of its own between two rounds (a tape), at a body that always goes on: one law for the caller. -/
import Derived.RangeFuncNested
import Derived.RangeFuncBound
import Derived.RangeFuncCalls
import Derived.RangeFuncLeaves
import Derived.Shelf.Abstract
import Derived.Shelf.RegionOpen
import Derived.WalkKit
import Derived.OwnWalkIn
import Derived.TacticsInMore
import Derived.LoopNIn
import Derived.LoopIn
import Derived.Test.YtmoajobnhiopiaaGreatDoorChecked
namespace Go.Proofs.YtmoajobnhiopiaaGreatDoor.rg
open Go Go.RowKit Go.Shelf

/-- The loop's own two blocks lie as they lay. -/
def Two (w W W' : World) : Prop := W'.heap[w.heap.size]? = W.heap[w.heap.size]? ∧ W'.heap[w.heap.size + 1]? = W.heap[w.heap.size + 1]?
theorem Two.refl (w W : World) : Two w W W := ⟨rfl, rfl⟩
theorem Two.trans {w A B C : World} (h : Two w A B) (k : Two w B C) : Two w A C := ⟨k.1.trans h.1, k.2.trans h.2⟩

/-- How a round's body is left: it goes on. -/
def GoesOn (w : World) (I : Nat → World → Prop) (k : Nat) (W : World) : Exit → Act → World → Prop
  | .normal, _, W' => Two w W W' ∧ I (k + 1) W'
  | _, _, _ => False

theorem range_law {P : Program} {n : Nat} {g : Operand} {ps : Array Tmp} {assign body : Code} {Q : Exit → Act → World → Prop} {a : Act} {w : World}
    {gf : Nat} {lb : Array Value} (hg : a.eval g = .func (.func gf) #[] lb) (eg : ∀ args w, (callFunc gf args).run P w = .ok (.enter gf args) w)
    (encs : Nat → Array Value) (hps : ∀ x, (encs x).size = ps.size) (N : Nat) (I I' : Nat → World → Prop)
    (hput : ∀ k W o, I k W → W.heap[w.heap.size + 1]? ≠ none → I k (W.putObj (w.heap.size + 1) o))
    (hput' : ∀ k W o, I' k W → W.heap[w.heap.size + 1]? ≠ none → I' k (W.putObj (w.heap.size + 1) o))
    (h0 : ∀ r, I 0 ((w.alloc (.deferred (some []))).alloc (.loop r)))
    (hiter : ∀ (Bk : World → Prop), (∀ W W', Bk W → Two w W W' → Bk W') → (∀ W, Bk W → w.heap.size + 1 < W.heap.size) → ∀ W1, I 0 W1 → Bk W1 →
      (∀ k W, I' k W → Bk W → k < N → YieldAt Fence.wide (n - 1 - 1) P (w.heap.size + 1) (encs k) W fun e W' => e = .returned (.bool true) ∧ I (k + 1) W' ∧ Bk W') →
      CallsIn Fence.wide (n - 1) P gf (#[.func (.yield (w.heap.size + 1)) #[] #[]] ++ lb) W1 fun e W' => (∃ v, e = .returned v) ∧ I N W' ∧ Bk W')
    (a₁ : Nat → Act)
    (hassign : ∀ (x : Nat) (W : World) (K : Act → World → Prop), K (a₁ x) W →
      assign.wpIn (Fence.wide.inRound (w.heap.size + 1)) (n - 1 - 1) P (Exit.then K (fun _ _ _ => False)) { tmps := (ps.zip (encs x)).foldl (fun t (p, v) => t.setIfInBounds p v) a.tmps, defers := [] } W)
    (hbody : ∀ (k : Nat) (W : World), I' k W → k < N → w.heap.size + 1 < W.heap.size → body.wpIn (Fence.wide.inRound (w.heap.size + 1)) (n - 1 - 1) P (GoesOn w I k W) (a₁ k) W)
    (hdone : ∀ (W : World), I N W → W.heap[w.heap.size]? = some (.deferred (some [])) → Q .normal { a with defers := { target := .collected w.heap.size, args := #[] } :: a.defers } W) :
    (Code.rangeFunc g ps assign body).wpIn Fence.wide n P Q a w := by
  refine wpIn_rangeFunc ?_
  intro fn hfn
  obtain ⟨rec, hrec⟩ : ∃ rec : LoopState → Option Code → Loop, rec = fun st pe => { state := st, pending := pe, fn, tmps := a.tmps, params := ps, assign, body, defers := w.heap.size } := ⟨_, rfl⟩
  have hsz1 : (w.alloc (.deferred (some []))).heap.size = w.heap.size + 1 := by simp
  have hloop : ((w.alloc (.deferred (some []))).alloc (.loop (rec .ready none))).heap[w.heap.size + 1]? = some (.loop (rec .ready none)) := by
    have := World.alloc_heap_new (w.alloc (.deferred (some []))) (.loop (rec .ready none))
    rwa [hsz1] at this
  have hdef : ((w.alloc (.deferred (some []))).alloc (.loop (rec .ready none))).heap[w.heap.size]? = some (.deferred (some [])) :=
    (Below.heap_alloc _ _ _ (by omega)).trans (World.alloc_heap_new w _)
  -- what holds of the two blocks between two rounds
  let Bk : World → Prop := fun W => W.heap[w.heap.size]? = some (.deferred (some [])) ∧ W.heap[w.heap.size + 1]? = some (.loop (rec .ready none))
  have hBk : ∀ W W', Bk W → Two w W W' → Bk W' := fun W W' h t => ⟨t.1.trans h.1, t.2.trans h.2⟩
  have hsz : ∀ W, Bk W → w.heap.size + 1 < W.heap.size := fun W h => (Array.getElem?_eq_some_iff.1 h.2).1
  refine ⟨w.heap.size + 1, [{ target := .collected w.heap.size, args := #[] }], (w.alloc (.deferred (some []))).alloc (.loop (rec .ready none)), { target := .fn (.func gf) lb, args := #[.func (.yield (w.heap.size + 1)) #[] #[]] }, (w.alloc (.deferred (some []))).alloc (.loop (rec .ready none)), gf,
    #[.func (.yield (w.heap.size + 1)) #[] #[]] ++ lb, (w.alloc (.deferred (some []))).alloc (.loop (rec .ready none)), ?_, ?_, fun _ _ => trivial, ?_, (fun h => by cases h), ?_⟩
  · rw [hrec]; exact run_enterLoop_outer _ _ _ _ _
  · simp only [resolve, hg, hrec]
    simp [go_sem]
  · simp [invoke, go_sem, eg, hrec]
  · refine (hiter Bk hBk hsz _ (h0 _) ⟨hdef, hloop⟩ ?_).mono ?_
    · intro k W hI hb hk
      have hy := run_yield (P := P) (args := encs k) hb.2 (by rw [hrec]; exact hps k)
      rw [hrec] at hy
      refine ⟨fn, _, assign, body, hy, roundIn_of_wpIn hfn (hassign k W _ ⟨_, run_beginRound hb.2 (by rw [hrec]), ?_⟩)⟩
      have hlt := hsz W hb
      have hl2 : (W.putObj (w.heap.size + 1) (.loop { rec .ready none with state := .busy })).heap[w.heap.size + 1]? = some (.loop { rec .ready none with state := .busy }) := World.putObj_heap_same hlt
      have hd2 : (W.putObj (w.heap.size + 1) (.loop { rec .ready none with state := .busy })).heap[w.heap.size]? = some (.deferred (some [])) := (World.putObj_heap_other (by omega)).trans hb.1
      have hI2 := hput' k W (.loop { rec .ready none with state := .busy }) hI (by rw [hb.2]; simp)
      refine wpIn_mono (hbody k _ hI2 hk (by simpa using hlt)) ?_
      rintro e a3 W3 hp
      cases e with
      | normal =>
        obtain ⟨ht, hi3⟩ := hp
        have hl3 := ht.2.trans hl2
        have hd3 := ht.1.trans hd2
        have hr := run_endRound (P := P) (none : Option Code) hl3
        refine ⟨_, _, hr, rfl, hput _ _ _ hi3 (by rw [hl3]; simp), (World.putObj_heap_other (by omega)).trans hd3, ?_⟩
        have := World.putObj_heap_same (o := .loop (rec .ready none)) (Array.getElem?_eq_some_iff.1 hl3).1
        rw [hrec] at this ⊢
        exact this
      | ret => exact hp.elim
      | exit id => exact hp.elim
      | goto t => exact hp.elim
      | panic ch => exact hp.elim
      | outgrown => exact hp.elim
    · rintro e W2 ⟨⟨v, rfl⟩, hI, hb⟩
      refine ⟨none, _, ?_, hdone _ (hput _ _ (.loop { rec .ready none with state := .exhausted }) hI (by rw [hb.2]; simp)) ((World.putObj_heap_other (by omega)).trans hb.1)⟩
      have := run_endLoop (P := P) hb.2 (by rw [hrec]; simp)
      rw [hrec] at this ⊢
      exact this
end Go.Proofs.YtmoajobnhiopiaaGreatDoor.rg
