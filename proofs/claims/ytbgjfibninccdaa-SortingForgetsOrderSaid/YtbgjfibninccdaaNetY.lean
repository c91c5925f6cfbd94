/- A loop over network.All: one law for its callers. -/
import Derived.Test.YtbgjfibninccdaaNetX
namespace Go.Proofs.Ytbgjfibninccdaa.rg
open Go Go.RowKit Go.Shelf

/-- range_law where a round's variable lies in memory: what the assignment leaves is a relation. -/
theorem range_law2 {P : Program} {n : Nat} {g : Operand} {ps : Array Tmp} {assign body : Code} {Q : Exit → Act → World → Prop} {a : Act} {w : World}
    {gf : Nat} {lb : Array Value} (hg : a.eval g = .func (.func gf) #[] lb) (eg : ∀ args w, (callFunc gf args).run P w = .ok (.enter gf args) w)
    (encs : Nat → Array Value) (hps : ∀ x, (encs x).size = ps.size) (N : Nat) (I : Nat → World → Prop)
    (hput : ∀ k W o, I k W → W.heap[w.heap.size + 1]? ≠ none → I k (W.putObj (w.heap.size + 1) o))
    (h0 : ∀ r, I 0 ((w.alloc (.deferred (some []))).alloc (.loop r)))
    (hiter : ∀ (Bk : World → Prop), (∀ W W', Bk W → Two w W W' → Bk W') → (∀ W, Bk W → w.heap.size + 1 < W.heap.size) → ∀ W1, I 0 W1 → Bk W1 →
      (∀ k W, I k W → Bk W → k < N → YieldAt Fence.wide (n - 1 - 1) P (w.heap.size + 1) (encs k) W fun e W' => e = .returned (.bool true) ∧ I (k + 1) W' ∧ Bk W') →
      CallsIn Fence.wide (n - 1) P gf (#[.func (.yield (w.heap.size + 1)) #[] #[]] ++ lb) W1 fun e W' => (∃ v, e = .returned v) ∧ I N W' ∧ Bk W')
    (A : Nat → Act → World → Prop)
    (hassign : ∀ (k : Nat) (W : World) (K : Act → World → Prop), I k W → k < N → w.heap.size + 1 < W.heap.size → (∀ a' W', A k a' W' → I k W' → Two w W W' → K a' W') →
      assign.wpIn (Fence.wide.inRound (w.heap.size + 1)) (n - 1 - 1) P (Exit.then K (fun _ _ _ => False)) { tmps := (ps.zip (encs k)).foldl (fun t (p, v) => t.setIfInBounds p v) a.tmps, defers := [] } W)
    (hAput : ∀ k a' W o, A k a' W → W.heap[w.heap.size + 1]? ≠ none → A k a' (W.putObj (w.heap.size + 1) o))
    (hbody : ∀ (k : Nat) (a' : Act) (W : World), A k a' W → I k W → k < N → w.heap.size + 1 < W.heap.size → body.wpIn (Fence.wide.inRound (w.heap.size + 1)) (n - 1 - 1) P (GoesOn w I k W) a' W)
    (hdone : ∀ (W : World), I N W → W.heap[w.heap.size]? = some (.deferred (some [])) → Q .normal { a with defers := { target := .collected w.heap.size, args := #[] } :: a.defers } W) :
    (Code.rangeFunc g ps assign body).wpIn Fence.wide n P Q a w := by
  refine wpIn_rangeFunc ?_
  intro fn hfn
  obtain ⟨rec, hrec⟩ : ∃ rec : LoopState → Option Code → Loop, rec = fun st pe => { state := st, pending := pe, fn, tmps := a.tmps, params := ps, assign, body, defers := w.heap.size } := ⟨_, rfl⟩
  have hsz1 : (w.alloc (.deferred (some []))).heap.size = w.heap.size + 1 := by simp
  have hloop : ((w.alloc (.deferred (some []))).alloc (.loop (rec .ready none))).heap[w.heap.size + 1]? = some (.loop (rec .ready none)) := by
    have := World.alloc_heap_new (w.alloc (.deferred (some []))) (.loop (rec .ready none))
    rwa [hsz1] at this
  have hdef : ((w.alloc (.deferred (some []))).alloc (.loop (rec .ready none))).heap[w.heap.size]? = some (.deferred (some [])) :=
    (Below.heap_alloc _ _ _ (by omega)).trans (World.alloc_heap_new w _)
  let Bk : World → Prop := fun W => W.heap[w.heap.size]? = some (.deferred (some [])) ∧ W.heap[w.heap.size + 1]? = some (.loop (rec .ready none))
  have hBk : ∀ W W', Bk W → Two w W W' → Bk W' := fun W W' h t => ⟨t.1.trans h.1, t.2.trans h.2⟩
  have hsz : ∀ W, Bk W → w.heap.size + 1 < W.heap.size := fun W h => (Array.getElem?_eq_some_iff.1 h.2).1
  refine ⟨w.heap.size + 1, [{ target := .collected w.heap.size, args := #[] }], (w.alloc (.deferred (some []))).alloc (.loop (rec .ready none)), { target := .fn (.func gf) lb, args := #[.func (.yield (w.heap.size + 1)) #[] #[]] }, (w.alloc (.deferred (some []))).alloc (.loop (rec .ready none)), gf,
    #[.func (.yield (w.heap.size + 1)) #[] #[]] ++ lb, (w.alloc (.deferred (some []))).alloc (.loop (rec .ready none)), ?_, ?_, fun _ _ => trivial, ?_, (fun h => by cases h), ?_⟩
  · rw [hrec]; exact run_enterLoop_outer _ _ _ _ _
  · simp only [resolve, hg, hrec]
    simp [go_sem]
  · simp [invoke, go_sem, eg, hrec]
  · refine (hiter Bk hBk hsz _ (h0 _) ⟨hdef, hloop⟩ ?_).mono ?_
    · intro k W hI hb hk
      have hy := run_yield (P := P) (args := encs k) hb.2 (by rw [hrec]; exact hps k)
      rw [hrec] at hy
      refine ⟨fn, _, assign, body, hy, roundIn_of_wpIn hfn (hassign k W _ hI hk (hsz W hb) ?_)⟩
      intro a' W' hA hI' ht'
      have hb' := hBk _ _ hb ht'
      refine ⟨_, run_beginRound hb'.2 (by rw [hrec]), ?_⟩
      have hlt := hsz W' hb'
      have hl2 : (W'.putObj (w.heap.size + 1) (.loop { rec .ready none with state := .busy })).heap[w.heap.size + 1]? = some (.loop { rec .ready none with state := .busy }) := World.putObj_heap_same hlt
      have hd2 : (W'.putObj (w.heap.size + 1) (.loop { rec .ready none with state := .busy })).heap[w.heap.size]? = some (.deferred (some [])) := (World.putObj_heap_other (by omega)).trans hb'.1
      have hI2 := hput k W' (.loop { rec .ready none with state := .busy }) hI' (by rw [hb'.2]; simp)
      have hA2 := hAput k a' W' (.loop { rec .ready none with state := .busy }) hA (by rw [hb'.2]; simp)
      refine wpIn_mono (hbody k a' _ hA2 hI2 hk (by simpa using hlt)) ?_
      rintro e a3 W3 hp
      cases e with
      | normal =>
        obtain ⟨ht, hi3⟩ := hp
        have hl3 := ht.2.trans hl2
        have hd3 := ht.1.trans hd2
        have hr := run_endRound (P := P) (none : Option Code) hl3
        refine ⟨_, _, hr, rfl, hput _ _ _ hi3 (by rw [hl3]; simp), (World.putObj_heap_other (by omega)).trans hd3, ?_⟩
        have := World.putObj_heap_same (o := .loop (rec .ready none)) (Array.getElem?_eq_some_iff.1 hl3).1
        rw [hrec] at this ⊢
        exact this
      | ret => exact hp.elim
      | exit id => exact hp.elim
      | goto t => exact hp.elim
      | panic ch => exact hp.elim
      | outgrown => exact hp.elim
    · rintro e W2 ⟨⟨v, rfl⟩, hI, hb⟩
      refine ⟨none, _, ?_, hdone _ (hput _ _ (.loop { rec .ready none with state := .exhausted }) hI (by rw [hb.2]; simp)) ((World.putObj_heap_other (by omega)).trans hb.1)⟩
      have := run_endLoop (P := P) hb.2 (by rw [hrec]; simp)
      rw [hrec] at this ⊢
      exact this
end Go.Proofs.Ytbgjfibninccdaa.rg
namespace Go.Proofs.Ytbgjfibninccdaa.nw
open Go Go.RowKit Go.Shelf Go.Proofs.Ytbgjfibninccdaa.tp Go.Proofs.Ytbgjfibninccdaa.rg

theorem keeps_putObj (w : World) (r : Nat) (o : Obj) : Keeps (fun k => k = r) w (w.putObj r o) :=
  ⟨rfl, rfl, rfl, by simp, fun k _ hk => World.putObj_heap_other hk⟩
/-- Where nothing but the loop's two blocks has turned. -/
def Loops (w : World) (W W' : World) : Prop := Keeps (fun i => i = w.heap.size ∨ i = w.heap.size + 1) W W'
/-- The act of a round of a loop over All: its variable lies at g, and reads x, y there. -/
structure At (w : World) (a₁ : Nat → Int → Int → Act) (x y : Nat) (a' : Act) (W : World) (g : Nat) : Prop where
  act : a' = a₁ g x y
  c0 : W.cell? ⟨g, 0, none⟩ = some (.int .i64 x)
  c1 : W.cell? ⟨g, 1, none⟩ = some (.int .i64 y)
  lo : w.heap.size + 2 ≤ g
  hi : g < W.heap.size
/-- How a round's body is left: it goes on. -/
def GoesAll (w : World) (I : Nat → World → Prop) (k : Nat) (W : World) : Exit → Act → World → Prop
  | .normal, _, W' => Two w W W' ∧ w.heap.size + 2 ≤ W'.heap.size ∧ I (k + 1) W'
  | _, _, _ => False
/-- The comparator that is yielded k-th. -/
def cat (L : List (Nat × Nat)) (k : Nat) : Nat × Nat := L.getD k (0, 0)
/-- L are the comparators for the number nv. -/
def IsNet (nv : Int) (L : List (Nat × Nat)) : Prop := (∃ r N : Nat, r ≤ 12 ∧ N = 2 ^ r ∧ nv = (N : Int) ∧ L = nl N r) ∨ (isB nv = false ∧ wf64 nv = true ∧ L = [])
theorem over_all {n : Nat} {g : Operand} {p : Tmp} {assign body : Code} {Q : Exit → Act → World → Prop} {a : Act} {w : World} (Bn : Nat) (nv : Int) (L : List (Nat × Nat)) (hL : IsNet nv L) (I : Nat → World → Prop)
    (hg : a.eval g = .func (.func 48) #[] #[.pointer (some ⟨Bn, 0, none⟩)])
    (hbox : ∀ k W, I k W → W.cell? ⟨Bn, 0, none⟩ = some (.int .i64 nv))
    (hI : ∀ k W W', I k W → w.heap.size + 2 ≤ W.heap.size → Loops w W W' → I k W') (h0 : ∀ r, I 0 ((w.alloc (.deferred (some []))).alloc (.loop r)))
    (a₁ : Nat → Int → Int → Act)
    (hassign : ∀ (W : World) (x y : Int) (K : Act → World → Prop), K (a₁ W.heap.size x y) (W.alloc (.cells #[.int .i64 x, .int .i64 y] 62)) →
      assign.wpIn (Fence.wide.inRound (w.heap.size + 1)) (n - 1 - 1) Try.prog (Exit.then K (fun _ _ _ => False)) { tmps := a.tmps.setIfInBounds p (.agg #[.int .i64 x, .int .i64 y]), defers := [] } W)
    (hbody : ∀ (k x y gg : Nat) (W : World), I k W → L[k]? = some (x, y) → w.heap.size + 2 ≤ gg → gg < W.heap.size → W.cell? ⟨gg, 0, none⟩ = some (.int .i64 x) → W.cell? ⟨gg, 1, none⟩ = some (.int .i64 y) →
      body.wpIn (Fence.wide.inRound (w.heap.size + 1)) (n - 1 - 1) Try.prog (GoesAll w I k W) (a₁ gg x y) W)
    (hdone : ∀ (W : World), I L.length W → w.heap.size + 2 ≤ W.heap.size → W.heap[w.heap.size]? = some (.deferred (some [])) → Q .normal { a with defers := { target := .collected w.heap.size, args := #[] } :: a.defers } W) :
    (Code.rangeFunc g #[p] assign body).wpIn Fence.wide n Try.prog Q a w := by
  let I2 : Nat → World → Prop := fun k W => I k W ∧ w.heap.size + 2 ≤ W.heap.size
  have hstep : ∀ k W W', I2 k W → Loops w W W' → I2 k W' := fun k W W' h hk => ⟨hI k W W' h.1 h.2 hk, Nat.le_trans h.2 hk.size⟩
  have hcat : ∀ k, k < L.length → L[k]? = some (cat L k) := fun k hk => by
    unfold cat; rw [List.getD_eq_getElem?_getD, List.getElem?_eq_getElem hk]; rfl
  refine range_law2 hg (enters_of Try.func48 (by kernel_rfl) rfl) (fun k => #[.agg #[.int .i64 ((cat L k).1 : Int), .int .i64 ((cat L k).2 : Int)]]) (fun _ => rfl) L.length I2 ?_ ?_ ?_
    (fun k a' W => ∃ gg, At w a₁ (cat L k).1 (cat L k).2 a' W gg) ?_ ?_ ?_ (fun W h hd => hdone W h.1 h.2 hd)
  · intro k W o h _
    exact hstep k W _ h ((keeps_putObj W _ o).mono (fun i _ h => .inr h))
  · intro rr
    exact ⟨h0 rr, by simp⟩
  · intro Bk hBk hsz W1 h1 hb1 hY
    have two : ∀ W W', w.heap.size + 2 ≤ W.heap.size → Keeps (fun _ => False) W W' → Two w W W' := fun W W' hz hk => ⟨hk.block _ (by omega) (fun h => h), hk.block _ (by omega) (fun h => h)⟩
    rcases hL with ⟨r, N, hr, hN, rfl, rfl⟩ | ⟨hB, hwf, rfl⟩
    case inr => exact (all1_none (n - 1) (w.heap.size + 1) Bn nv hwf hB W1 (hbox _ _ h1.1)).mono fun e W' ⟨he, hw⟩ => ⟨he, by rw [hw]; exact h1, by rw [hw]; exact hb1⟩
    refine (all1 (n - 1) r N (w.heap.size + 1) Bn hr hN (fun D W => I2 D.length W ∧ Bk W) (fun _ => False) (fun D W h => hbox _ W h.1.1) ?_ ?_ W1 ⟨h1, hb1⟩).mono ?_
    · intro D W x y h
      have hk : Keeps (fun _ => False) W (W.alloc (.cells #[.int .i64 x, .int .i64 y] 62)) := (Keeps.refl _ W).alloc _
      exact ⟨hstep _ _ _ h.1 (hk.mono (fun _ _ h => h.elim)), hBk _ _ h.2 (two _ _ h.1.2 hk)⟩
    · intro D x y E W h hE
      have hlen : D.length < (nl N r).length := by rw [← hE]; simp
      have hxy : cat (nl N r) D.length = (x, y) := by
        have := (congrArg (fun M => M[D.length]?) hE).trans (hcat _ hlen)
        rw [List.getElem?_append_right (Nat.le_refl _), Nat.sub_self] at this
        exact (Option.some.inj this).symm
      have hy := hY D.length W h.1 h.2 hlen
      rw [hxy] at hy
      obtain ⟨fn, tmps, asg, bo, hrun, hR⟩ := hy
      exact ⟨fn, tmps, asg, bo, hrun, hR.mono fun e W' ⟨he, hi, hb⟩ => .inl ⟨he, by rw [List.length_append]; exact hi, hb⟩⟩
    · rintro e W' ⟨he, h | h⟩
      · exact ⟨he, h.1, h.2⟩
      · exact h.elim
  · intro k W K hk _ hz hK
    have e : ∀ (u : Value) (t : Array Value), (#[p].zip #[u]).foldl (fun t (p, v) => t.setIfInBounds p v) t = t.setIfInBounds p u := fun _ _ => by simp
    rw [e]
    refine hassign W _ _ K (hK _ _ ⟨W.heap.size, rfl, ?_, ?_, hk.2, by simp⟩ ?_ ?_)
    · rw [cell_of_row _ _ _ _ _ _ (heap_alloc_new W _)]; rfl
    · rw [cell_of_row _ _ _ _ _ _ (heap_alloc_new W _)]; rfl
    · exact hstep _ _ _ hk (((Keeps.refl _ W).alloc _).mono (fun _ _ h => h))
    · have hkk : Keeps (fun _ => False) W (W.alloc (.cells #[.int .i64 ((cat L k).1 : Int), .int .i64 ((cat L k).2 : Int)] 62)) := (Keeps.refl _ W).alloc _
      exact ⟨hkk.block _ (by have := hk.2; omega) (fun h => h), hkk.block _ (by have := hk.2; omega) (fun h => h)⟩
  · rintro k a' W o ⟨gg, h⟩ _
    have hk := keeps_putObj W (w.heap.size + 1) o
    have hlo := h.lo
    exact ⟨gg, h.act, (hk.cell (p := ⟨gg, 0, none⟩) h.hi (by simp; omega)).trans h.c0, (hk.cell (p := ⟨gg, 1, none⟩) h.hi (by simp; omega)).trans h.c1, h.lo, Nat.lt_of_lt_of_le h.hi hk.size⟩
  · rintro k a' W ⟨gg, h⟩ hi hk _
    rw [h.act]
    refine wpIn_mono (hbody k _ _ gg W hi.1 (hcat k hk) h.lo h.hi h.c0 h.c1) ?_
    rintro e a3 W3 hp
    cases e with
    | normal => exact ⟨hp.1, hp.2.2, hp.2.1⟩
    | ret => exact hp.elim
    | exit id => exact hp.elim
    | goto t => exact hp.elim
    | panic ch => exact hp.elim
    | outgrown => exact hp.elim
end Go.Proofs.Ytbgjfibninccdaa.nw
