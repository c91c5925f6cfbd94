/- A loop over the edges of a polygon: one law for its callers. -/
import Derived.Test.YtmoajobnhiopiaaGreatDoorPolE
set_option linter.unusedSimpArgs false
set_option linter.unusedVariables false
namespace Go.Proofs.YtmoajobnhiopiaaGreatDoor.po
open Go Go.RowKit Go.Shelf Go.Maps Go.Proofs.YtmoajobnhiopiaaGreatDoor.mk Go.Proofs.YtmoajobnhiopiaaGreatDoor.tp Go.Proofs.YtmoajobnhiopiaaGreatDoor.rg Go.Proofs.YtmoajobnhiopiaaGreatDoor.lm Go.Proofs.YtmoajobnhiopiaaGreatDoor.gm Go.Proofs.YtmoajobnhiopiaaGreatDoor.nb

theorem range_lawE {P : Program} {n : Nat} {g : Operand} {ps : Array Tmp} {assign body : Code} {Q : Exit → Act → World → Prop} {a : Act} {w : World}
    {gf : Nat} {lb : Array Value} (hg : a.eval g = .func (.func gf) #[] lb) (eg : ∀ args w, (callFunc gf args).run P w = .ok (.enter gf args) w)
    (encs : Nat → Array Value) (hps : ∀ x, (encs x).size = ps.size) (N : Nat) (I : Nat → World → Prop)
    (hput : ∀ k W o, I k W → W.heap[w.heap.size + 1]? ≠ none → I k (W.putObj (w.heap.size + 1) o))
    (h0 : ∀ r, I 0 ((w.alloc (.deferred (some []))).alloc (.loop r)))
    (hiter : ∀ (Bk : World → Prop), (∀ W W', Bk W → Two w W W' → Bk W') → (∀ W, Bk W → w.heap.size + 1 < W.heap.size) → ∀ W1, I 0 W1 → Bk W1 →
      (∀ k W, I k W → Bk W → k < N → YieldAt Fence.wide (n - 1 - 1) P (w.heap.size + 1) (encs k) W fun e W' => e = .returned (.bool true) ∧ I (k + 1) W' ∧ Bk W') →
      CallsIn Fence.wide (n - 1) P gf (#[.func (.yield (w.heap.size + 1)) #[] #[]] ++ lb) W1 fun e W' => (∃ v, e = .returned v) ∧ I N W' ∧ Bk W')
    (A : Nat → Act → World → Prop)
    (hassign : ∀ (k : Nat) (W : World) (K : Act → World → Prop), I k W → k < N → w.heap.size + 1 < W.heap.size → (∀ a' W', A k a' W' → I k W' → Two w W W' → K a' W') →
      assign.wpIn (Fence.wide.inRound (w.heap.size + 1)) (n - 1 - 1) P (Exit.then K (fun _ _ _ => False)) { tmps := (ps.zip (encs k)).foldl (fun t (p, v) => t.setIfInBounds p v) a.tmps, defers := [] } W)
    (hAput : ∀ k a' W o, A k a' W → W.heap[w.heap.size + 1]? ≠ none → A k a' (W.putObj (w.heap.size + 1) o))
    (hbody : ∀ (k : Nat) (a' : Act) (W : World), A k a' W → I k W → k < N → w.heap.size + 1 < W.heap.size → body.wpIn (Fence.wide.inRound (w.heap.size + 1)) (n - 1 - 1) P (GoesOn w I k W) a' W)
    (hdone : ∀ (W : World), I N W → W.heap[w.heap.size]? = some (.deferred (some [])) → Q .normal { a with defers := { target := .collected w.heap.size, args := #[] } :: a.defers } W) :
    (Code.rangeFunc g ps assign body).wpIn Fence.wide n P Q a w := by
  refine wpIn_rangeFunc ?_
  intro fn hfn
  obtain ⟨rec, hrec⟩ : ∃ rec : LoopState → Option Code → Loop, rec = fun st pe => { state := st, pending := pe, fn, tmps := a.tmps, params := ps, assign, body, defers := w.heap.size } := ⟨_, rfl⟩
  have hsz1 : (w.alloc (.deferred (some []))).heap.size = w.heap.size + 1 := by simp
  have hloop : ((w.alloc (.deferred (some []))).alloc (.loop (rec .ready none))).heap[w.heap.size + 1]? = some (.loop (rec .ready none)) := by
    have := World.alloc_heap_new (w.alloc (.deferred (some []))) (.loop (rec .ready none))
    rwa [hsz1] at this
  have hdef : ((w.alloc (.deferred (some []))).alloc (.loop (rec .ready none))).heap[w.heap.size]? = some (.deferred (some [])) :=
    (Below.heap_alloc _ _ _ (by omega)).trans (World.alloc_heap_new w _)
  let Bk : World → Prop := fun W => W.heap[w.heap.size]? = some (.deferred (some [])) ∧ W.heap[w.heap.size + 1]? = some (.loop (rec .ready none))
  have hBk : ∀ W W', Bk W → Two w W W' → Bk W' := fun W W' h t => ⟨t.1.trans h.1, t.2.trans h.2⟩
  have hsz : ∀ W, Bk W → w.heap.size + 1 < W.heap.size := fun W h => (Array.getElem?_eq_some_iff.1 h.2).1
  refine ⟨w.heap.size + 1, [{ target := .collected w.heap.size, args := #[] }], (w.alloc (.deferred (some []))).alloc (.loop (rec .ready none)), { target := .fn (.func gf) lb, args := #[.func (.yield (w.heap.size + 1)) #[] #[]] }, (w.alloc (.deferred (some []))).alloc (.loop (rec .ready none)), gf,
    #[.func (.yield (w.heap.size + 1)) #[] #[]] ++ lb, (w.alloc (.deferred (some []))).alloc (.loop (rec .ready none)), ?_, ?_, fun _ _ => trivial, ?_, (fun h => by cases h), ?_⟩
  · rw [hrec]; exact run_enterLoop_outer _ _ _ _ _
  · simp only [resolve, hg, hrec]
    simp [go_sem]
  · simp [invoke, go_sem, eg, hrec]
  · refine (hiter Bk hBk hsz _ (h0 _) ⟨hdef, hloop⟩ ?_).mono ?_
    · intro k W hI hb hk
      have hy := run_yield (P := P) (args := encs k) hb.2 (by rw [hrec]; exact hps k)
      rw [hrec] at hy
      refine ⟨fn, _, assign, body, hy, roundIn_of_wpIn hfn (hassign k W _ hI hk (hsz W hb) ?_)⟩
      intro a' W' hA hI' ht'
      have hb' := hBk _ _ hb ht'
      refine ⟨_, run_beginRound hb'.2 (by rw [hrec]), ?_⟩
      have hlt := hsz W' hb'
      have hl2 : (W'.putObj (w.heap.size + 1) (.loop { rec .ready none with state := .busy })).heap[w.heap.size + 1]? = some (.loop { rec .ready none with state := .busy }) := World.putObj_heap_same hlt
      have hd2 : (W'.putObj (w.heap.size + 1) (.loop { rec .ready none with state := .busy })).heap[w.heap.size]? = some (.deferred (some [])) := (World.putObj_heap_other (by omega)).trans hb'.1
      have hI2 := hput k W' (.loop { rec .ready none with state := .busy }) hI' (by rw [hb'.2]; simp)
      have hA2 := hAput k a' W' (.loop { rec .ready none with state := .busy }) hA (by rw [hb'.2]; simp)
      refine wpIn_mono (hbody k a' _ hA2 hI2 hk (by simpa using hlt)) ?_
      rintro e a3 W3 hp
      cases e with
      | normal =>
        obtain ⟨ht, hi3⟩ := hp
        have hl3 := ht.2.trans hl2
        have hd3 := ht.1.trans hd2
        have hr := run_endRound (P := P) (none : Option Code) hl3
        refine ⟨_, _, hr, rfl, hput _ _ _ hi3 (by rw [hl3]; simp), (World.putObj_heap_other (by omega)).trans hd3, ?_⟩
        have := World.putObj_heap_same (o := .loop (rec .ready none)) (Array.getElem?_eq_some_iff.1 hl3).1
        rw [hrec] at this ⊢
        exact this
      | ret => exact hp.elim
      | exit id => exact hp.elim
      | goto t => exact hp.elim
      | panic ch => exact hp.elim
      | outgrown => exact hp.elim
    · rintro e W2 ⟨⟨v, rfl⟩, hI, hb⟩
      refine ⟨none, _, ?_, hdone _ (hput _ _ (.loop { rec .ready none with state := .exhausted }) hI (by rw [hb.2]; simp)) ((World.putObj_heap_other (by omega)).trans hb.1)⟩
      have := run_endLoop (P := P) hb.2 (by rw [hrec]; simp)
      rw [hrec] at this ⊢
      exact this

theorem keeps_putE (w : World) (r : Nat) (o : Obj) : Keeps (fun k => k = r) w (w.putObj r o) :=
  ⟨rfl, rfl, rfl, by simp, fun k _ hk => World.putObj_heap_other hk⟩
/-- Where nothing but the loop's two blocks has turned. -/
def LoopsE (w : World) (W W' : World) : Prop := Keeps (fun i => i = w.heap.size ∨ i = w.heap.size + 1) W W'
/-- The cells of the edge of round k at block g. -/
def EdgeAt (l : List (Int × Int)) (k : Nat) (W : World) (g : Nat) : Prop :=
  W.heap[g]? = some (.cells #[.int .i64 k, .int .i64 ((k + 1) % l.length : Nat), .int .i64 (pt l k).1, .int .i64 (pt l k).2, .int .i64 (pt l ((k + 1) % l.length)).1, .int .i64 (pt l ((k + 1) % l.length)).2] 83 (0, 0))
/-- The act of a round: its variable lies at g. -/
structure AtE (w : World) (l : List (Int × Int)) (a₁ : Nat → Nat → Act) (k : Nat) (a' : Act) (W : World) (g : Nat) : Prop where
  act : a' = a₁ g k
  edge : EdgeAt l k W g
  lo : w.heap.size + 2 ≤ g
/-- How a round's body is left: it goes on. -/
def GoesE (w : World) (I : Nat → World → Prop) (k : Nat) (W : World) : Exit → Act → World → Prop
  | .normal, _, W' => Two w W W' ∧ w.heap.size + 2 ≤ W'.heap.size ∧ I (k + 1) W'
  | _, _, _ => False
theorem over_edges {n : Nat} {g : Operand} {p : Tmp} {assign body : Code} {Q : Exit → Act → World → Prop} {a : Act} {w : World} (Bv b off cap : Nat) (l : List (Int × Int)) (h3 : 3 ≤ l.length) (h64 : l.length ≤ 64) (I : Nat → World → Prop)
    (hg : a.eval g = .func (.func 74) #[] #[.pointer (some ⟨Bv, 0, none⟩)])
    (hbox : ∀ k W, I k W → W.cell? ⟨Bv, 0, none⟩ = some (.slice (some ⟨b, off, none⟩) l.length cap) ∧ ∀ i, i < l.length → W.cell? ⟨b, off + i * 2, none⟩ = some (.int .i64 (pt l i).1) ∧ W.cell? ⟨b, off + i * 2 + 1, none⟩ = some (.int .i64 (pt l i).2))
    (hI : ∀ k W W', I k W → w.heap.size + 2 ≤ W.heap.size → LoopsE w W W' → I k W') (h0 : ∀ r, I 0 ((w.alloc (.deferred (some []))).alloc (.loop r)))
    (a₁ : Nat → Nat → Act)
    (hassign : ∀ (W : World) (k : Nat) (K : Act → World → Prop), K (a₁ W.heap.size k) (W.alloc (.cells #[.int .i64 k, .int .i64 ((k + 1) % l.length : Nat), .int .i64 (pt l k).1, .int .i64 (pt l k).2, .int .i64 (pt l ((k + 1) % l.length)).1, .int .i64 (pt l ((k + 1) % l.length)).2] 83)) →
      assign.wpIn (Fence.wide.inRound (w.heap.size + 1)) (n - 1 - 1) Tryz.prog (Exit.then K (fun _ _ _ => False)) { tmps := a.tmps.setIfInBounds p (edgeV l k), defers := [] } W)
    (hbody : ∀ (k gg : Nat) (W : World), I k W → k < l.length → w.heap.size + 2 ≤ gg → EdgeAt l k W gg →
      body.wpIn (Fence.wide.inRound (w.heap.size + 1)) (n - 1 - 1) Tryz.prog (GoesE w I k W) (a₁ gg k) W)
    (hdone : ∀ (W : World), I l.length W → w.heap.size + 2 ≤ W.heap.size → W.heap[w.heap.size]? = some (.deferred (some [])) → Q .normal { a with defers := { target := .collected w.heap.size, args := #[] } :: a.defers } W) :
    (Code.rangeFunc g #[p] assign body).wpIn Fence.wide n Tryz.prog Q a w := by
  let I2 : Nat → World → Prop := fun k W => I k W ∧ w.heap.size + 2 ≤ W.heap.size
  have hstep : ∀ k W W', I2 k W → LoopsE w W W' → I2 k W' := fun k W W' h hk => ⟨hI k W W' h.1 h.2 hk, Nat.le_trans h.2 hk.size⟩
  refine range_lawE hg (enters_of Tryz.func74 (by kernel_rfl) rfl) (fun k => #[edgeV l k]) (fun _ => rfl) l.length I2 ?_ ?_ ?_
    (fun k a' W => ∃ gg, AtE w l a₁ k a' W gg) ?_ ?_ ?_ (fun W h hd => hdone W h.1 h.2 hd)
  · intro k W o h _
    exact hstep k W _ h ((keeps_putE W _ o).mono (fun i _ h => .inr h))
  · intro rr
    exact ⟨h0 rr, by simp⟩
  · intro Bk hBk hsz W1 h1 hb1 hY
    have two : ∀ W W', w.heap.size + 2 ≤ W.heap.size → Keeps (fun _ => False) W W' → Two w W W' := fun W W' hz hk => ⟨hk.block _ (by omega) (fun h => h), hk.block _ (by omega) (fun h => h)⟩
    refine (edges1 (n - 1) (w.heap.size + 1) Bv b off cap l h3 h64 (fun k W => I2 k W ∧ Bk W) (fun k W h => hbox k W h.1.1) ?_ ?_ W1 ⟨h1, hb1⟩).mono ?_
    · intro k W h
      have hk : Keeps (fun _ => False) W W.drew := (Keeps.refl _ W).drewN 1
      exact ⟨hstep _ _ _ h.1 (hk.mono (fun _ _ h => h.elim)), hBk _ _ h.2 (two _ _ h.1.2 hk)⟩
    · intro k W h hlen
      exact hY k W h.1 h.2 hlen
    · rintro e W' ⟨he, h⟩
      exact ⟨he, h.1, h.2⟩
  · intro k W K hk _ hz hK
    have e : ∀ (u : Value) (t : Array Value), (#[p].zip #[u]).foldl (fun t (p, v) => t.setIfInBounds p v) t = t.setIfInBounds p u := fun _ _ => by simp
    rw [e]
    refine hassign W k K (hK _ _ ⟨W.heap.size, rfl, heap_alloc_new W _, hk.2⟩ ?_ ?_)
    · exact hstep _ _ _ hk (((Keeps.refl _ W).alloc _).mono (fun _ _ h => h))
    · have hkk : ∀ o, Keeps (fun _ => False) W (W.alloc o) := fun o => (Keeps.refl _ W).alloc o
      exact ⟨(hkk _).block _ (by have := hk.2; omega) (fun h => h), (hkk _).block _ (by have := hk.2; omega) (fun h => h)⟩
  · rintro k a' W o ⟨gg, h⟩ _
    have hk := keeps_putE W (w.heap.size + 1) o
    have hlo := h.lo
    have hed : W.heap[gg]? = _ := h.edge
    exact ⟨gg, h.act, (hk.block gg (Array.getElem?_eq_some_iff.1 hed).1 (by omega)).trans h.edge, h.lo⟩
  · rintro k a' W ⟨gg, h⟩ hi hk _
    rw [h.act]
    refine wpIn_mono (hbody k gg W hi.1 hk h.lo h.edge) ?_
    rintro e a3 W3 hp
    cases e with
    | normal => exact ⟨hp.1, hp.2.2, hp.2.1⟩
    | ret => exact hp.elim
    | exit id => exact hp.elim
    | goto t => exact hp.elim
    | panic ch => exact hp.elim
    | outgrown => exact hp.elim
end Go.Proofs.YtmoajobnhiopiaaGreatDoor.po
