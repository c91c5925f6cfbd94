/- A loop over network.All whose body is told of the world ahead of its variable's block. -/
import Derived.Test.YtbgjfibninccdaaNetY
set_option linter.unusedSimpArgs false
set_option linter.unusedVariables false
namespace Go.Proofs.Ytbgjfibninccdaa.nw
open Go Go.RowKit Go.Shelf Go.Proofs.Ytbgjfibninccdaa.tp Go.Proofs.Ytbgjfibninccdaa.rg

/-- over_all, where the body is told of the world ahead of its variable's block. -/
theorem over_all3 {n : Nat} {g : Operand} {p : Tmp} {assign body : Code} {Q : Exit → Act → World → Prop} {a : Act} {w : World} (Bn : Nat) (nv : Int) (L : List (Nat × Nat)) (hL : IsNet nv L) (I : Nat → World → Prop)
    (hg : a.eval g = .func (.func 48) #[] #[.pointer (some ⟨Bn, 0, none⟩)])
    (hbox : ∀ k W, I k W → W.cell? ⟨Bn, 0, none⟩ = some (.int .i64 nv))
    (hI : ∀ k W W', I k W → w.heap.size + 2 ≤ W.heap.size → Loops w W W' → I k W') (h0 : ∀ r, I 0 ((w.alloc (.deferred (some []))).alloc (.loop r)))
    (a₁ : Nat → Int → Int → Act)
    (hassign : ∀ (W : World) (x y : Int) (K : Act → World → Prop), K (a₁ W.heap.size x y) (W.alloc (.cells #[.int .i64 x, .int .i64 y] 62)) →
      assign.wpIn (Fence.wide.inRound (w.heap.size + 1)) (n - 1 - 1) Try.prog (Exit.then K (fun _ _ _ => False)) { tmps := a.tmps.setIfInBounds p (.agg #[.int .i64 x, .int .i64 y]), defers := [] } W)
    (hbody : ∀ (k x y gg : Nat) (W0 W : World), I k W0 → gg = W0.heap.size → w.heap.size + 2 ≤ W0.heap.size → Loops w W0 W → I k W → L[k]? = some (x, y) → w.heap.size + 2 ≤ gg → gg < W.heap.size → W.cell? ⟨gg, 0, none⟩ = some (.int .i64 x) → W.cell? ⟨gg, 1, none⟩ = some (.int .i64 y) →
      body.wpIn (Fence.wide.inRound (w.heap.size + 1)) (n - 1 - 1) Try.prog (GoesAll w I k W) (a₁ gg x y) W)
    (hdone : ∀ (W : World), I L.length W → w.heap.size + 2 ≤ W.heap.size → W.heap[w.heap.size]? = some (.deferred (some [])) → Q .normal { a with defers := { target := .collected w.heap.size, args := #[] } :: a.defers } W) :
    (Code.rangeFunc g #[p] assign body).wpIn Fence.wide n Try.prog Q a w := by
  let I2 : Nat → World → Prop := fun k W => I k W ∧ w.heap.size + 2 ≤ W.heap.size
  have hstep : ∀ k W W', I2 k W → Loops w W W' → I2 k W' := fun k W W' h hk => ⟨hI k W W' h.1 h.2 hk, Nat.le_trans h.2 hk.size⟩
  have hcat : ∀ k, k < L.length → L[k]? = some (cat L k) := fun k hk => by
    unfold cat; rw [List.getD_eq_getElem?_getD, List.getElem?_eq_getElem hk]; rfl
  refine range_law2 hg (enters_of Try.func48 (by kernel_rfl) rfl) (fun k => #[.agg #[.int .i64 ((cat L k).1 : Int), .int .i64 ((cat L k).2 : Int)]]) (fun _ => rfl) L.length I2 ?_ ?_ ?_
    (fun k a' W => ∃ gg, At w a₁ (cat L k).1 (cat L k).2 a' W gg ∧ ∃ W0, I k W0 ∧ gg = W0.heap.size ∧ w.heap.size + 2 ≤ W0.heap.size ∧ Loops w W0 W) ?_ ?_ ?_ (fun W h hd => hdone W h.1 h.2 hd)
  · intro k W o h _
    exact hstep k W _ h ((keeps_putObj W _ o).mono (fun i _ h => .inr h))
  · intro rr
    exact ⟨h0 rr, by simp⟩
  · intro Bk hBk hsz W1 h1 hb1 hY
    have two : ∀ W W', w.heap.size + 2 ≤ W.heap.size → Keeps (fun _ => False) W W' → Two w W W' := fun W W' hz hk => ⟨hk.block _ (by omega) (fun h => h), hk.block _ (by omega) (fun h => h)⟩
    rcases hL with ⟨r, N, hr, hN, rfl, rfl⟩ | ⟨hB, hwf, rfl⟩
    case inr => exact (all1_none (n - 1) (w.heap.size + 1) Bn nv hwf hB W1 (hbox _ _ h1.1)).mono fun e W' ⟨he, hw⟩ => ⟨he, by rw [hw]; exact h1, by rw [hw]; exact hb1⟩
    refine (all1 (n - 1) r N (w.heap.size + 1) Bn hr hN (fun D W => I2 D.length W ∧ Bk W) (fun _ => False) (fun D W h => hbox _ W h.1.1) ?_ ?_ W1 ⟨h1, hb1⟩).mono ?_
    · intro D W x y h
      have hk : Keeps (fun _ => False) W (W.alloc (.cells #[.int .i64 x, .int .i64 y] 62)) := (Keeps.refl _ W).alloc _
      exact ⟨hstep _ _ _ h.1 (hk.mono (fun _ _ h => h.elim)), hBk _ _ h.2 (two _ _ h.1.2 hk)⟩
    · intro D x y E W h hE
      have hlen : D.length < (nl N r).length := by rw [← hE]; simp
      have hxy : cat (nl N r) D.length = (x, y) := by
        have := (congrArg (fun M => M[D.length]?) hE).trans (hcat _ hlen)
        rw [List.getElem?_append_right (Nat.le_refl _), Nat.sub_self] at this
        exact (Option.some.inj this).symm
      have hy := hY D.length W h.1 h.2 hlen
      rw [hxy] at hy
      obtain ⟨fn, tmps, asg, bo, hrun, hR⟩ := hy
      exact ⟨fn, tmps, asg, bo, hrun, hR.mono fun e W' ⟨he, hi, hb⟩ => .inl ⟨he, by rw [List.length_append]; exact hi, hb⟩⟩
    · rintro e W' ⟨he, h | h⟩
      · exact ⟨he, h.1, h.2⟩
      · exact h.elim
  · intro k W K hk _ hz hK
    have e : ∀ (u : Value) (t : Array Value), (#[p].zip #[u]).foldl (fun t (p, v) => t.setIfInBounds p v) t = t.setIfInBounds p u := fun _ _ => by simp
    rw [e]
    refine hassign W _ _ K (hK _ _ ⟨W.heap.size, ⟨rfl, ?_, ?_, hk.2, by simp⟩, W, hk.1, rfl, hk.2, ((Keeps.refl (fun _ => False) W).alloc _).mono (fun _ _ h => h.elim)⟩ ?_ ?_)
    · rw [cell_of_row _ _ _ _ _ _ (heap_alloc_new W _)]; rfl
    · rw [cell_of_row _ _ _ _ _ _ (heap_alloc_new W _)]; rfl
    · exact hstep _ _ _ hk (((Keeps.refl _ W).alloc _).mono (fun _ _ h => h))
    · have hkk : Keeps (fun _ => False) W (W.alloc (.cells #[.int .i64 ((cat L k).1 : Int), .int .i64 ((cat L k).2 : Int)] 62)) := (Keeps.refl _ W).alloc _
      exact ⟨hkk.block _ (by have := hk.2; omega) (fun h => h), hkk.block _ (by have := hk.2; omega) (fun h => h)⟩
  · rintro k a' W o ⟨gg, h, W0, h0, hgg, hz0, hl0⟩ _
    have hk := keeps_putObj W (w.heap.size + 1) o
    have hlo := h.lo
    exact ⟨gg, ⟨h.act, (hk.cell (p := ⟨gg, 0, none⟩) h.hi (by simp; omega)).trans h.c0, (hk.cell (p := ⟨gg, 1, none⟩) h.hi (by simp; omega)).trans h.c1, h.lo, Nat.lt_of_lt_of_le h.hi hk.size⟩, W0, h0, hgg, hz0, hl0.trans (hk.mono (T := fun i => i = w.heap.size ∨ i = w.heap.size + 1) (fun i _ h => .inr h)) (fun _ _ h => h)⟩
  · rintro k a' W ⟨gg, h, W0, h0, hgg, hz0, hl0⟩ hi hk _
    rw [h.act]
    refine wpIn_mono (hbody k _ _ gg W0 W h0 hgg hz0 hl0 hi.1 (hcat k hk) h.lo h.hi h.c0 h.c1) ?_
    rintro e a3 W3 hp
    cases e with
    | normal => exact ⟨hp.1, hp.2.2, hp.2.1⟩
    | ret => exact hp.elim
    | exit id => exact hp.elim
    | goto t => exact hp.elim
    | panic ch => exact hp.elim
    | outgrown => exact hp.elim
end Go.Proofs.Ytbgjfibninccdaa.nw
