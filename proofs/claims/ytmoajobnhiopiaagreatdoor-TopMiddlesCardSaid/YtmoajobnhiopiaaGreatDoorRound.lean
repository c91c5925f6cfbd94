/- A region that draws its order, in a round of a loop over a function: what is known of it outside a round serves in it. -/
import Derived.Test.YtmoajobnhiopiaaGreatDoorRange
import Derived.StillTailTactics
import Derived.OrdersIn
namespace Go.Proofs.YtmoajobnhiopiaaGreatDoor.rg
open Go Go.RowKit Go.Shelf

/-- No operation of a region is a defer statement. -/
def noDefer (ops : Array Oper) : Bool := ops.toList.all fun o => match o.op with | .defer _ => false | _ => true
theorem noDefer_spec {ops : Array Oper} (h : noDefer ops = true) {i : Nat} {o : Oper} (ho : ops[i]? = some o) : ∀ c, o.op ≠ .defer c := by
  intro c hc
  have hm : o ∈ ops.toList := by simpa using Array.mem_of_getElem? ho
  have := List.all_eq_true.1 h o hm
  rw [hc] at this
  cases this
section
variable {P : Program} {n L : Nat} {ops : Array Oper} {Q : Exit → Act → World → Prop}

theorem rowsIn_of {row : String} {args : Array Value} {w : World} {R : Value → World → Prop} (h : Rows P row args w R) : RowsIn (Fence.wide.inRound L) n P row args w R :=
  fun c cs _ => let ⟨v, w', r, s⟩ := h c cs; ⟨v, w', r, stepsIn_wide.2 s⟩
theorem uponIn_of {o : Oper} {a : Act} {next : Act → World → Prop} {r : Result Next} (h : o.upon P a next Q r) : o.uponIn (Fence.wide.inRound L) n P a next Q r := by
  unfold Oper.upon at h
  unfold Oper.uponIn
  split at h
  · exact h
  · exact h
  · exact h
  · exact ⟨fun h => (by cases h), CallsIn.inRound L (callsIn_wide.2 h)⟩
  · exact ⟨fun h => (by cases h), rowsIn_of h⟩
  · exact h
  · exact h.elim
theorem opIn_of {i : Nat} {K K' : Act → World → Prop} {a : Act} {w : World} (hn : noDefer ops = true) (hQ : ¬ LetsOut Q) (hK : ∀ a w, K a w → K' a w) (h : wpOp P ops Q i K a w) : wpOpIn (Fence.wide.inRound L) n P ops Q i K' a w := by
  have h' := wpOp_mono hK h
  unfold wpOp at h'
  unfold wpOpIn
  cases ho : ops[i]? with
  | none => rw [ho] at h'; exact h'
  | some o =>
    rw [ho] at h'
    simp only at h' ⊢
    by_cases hw : Region.wanted o (yielded ops a.tmps) = true
    · rw [if_pos hw] at h' ⊢
      rcases h' with h' | ⟨_, h'⟩
      · unfold Oper.wp at h'
        unfold Oper.wpIn
        rw [Oper.semAt_eq _ _ _ (noDefer_spec hn ho)]
        exact ⟨fun _ _ => trivial, uponIn_of h'⟩
      · exact absurd h' hQ
    · rw [if_neg hw] at h' ⊢
      exact ⟨fun _ _ => trivial, h'⟩
theorem anyIn_of {md : Region.Mode} (hn : noDefer ops = true) (hQ : ¬ LetsOut Q) : ∀ (g : Nat) (listed : Array Bool) (a : Act) (w : World), wpAny P md ops Q g listed a w → wpAnyIn (Fence.wide.inRound L) n P md ops Q g listed a w
  | 0, _, _, _, h => h
  | g + 1, _, _, _, h => ⟨h.1, fun i hi => opIn_of hn hQ (fun a w h => anyIn_of hn hQ g _ a w h) (h.2 i hi)⟩
end

/-- 'go_still_tail' in a round: the first m operations leave the world as it is; what follows them is forced. -/
theorem round_still_tail {P : Program} {n L : Nat} {id : Nat} {Q : Exit → Act → World → Prop} {a : Act} {w : World} {l : List Oper} (m : Nat) (hm : P.follows .mixedOrders = true) (hB : Region.lexTailB .any l.toArray m = true) (hn : noDefer l.toArray = true) (hQ : ¬ LetsOut Q)
    (h : wpStill P l.toArray w.drew (fun a' => wpList P l.toArray Q (l.drop m) a' w.drew) (l.take m) a) : (Code.region id l.toArray true).wpIn (Fence.wide.inRound L) n P Q a w := by
  simp only [Region.lexTailB, Bool.and_eq_true, decide_eq_true_eq] at hB
  obtain ⟨⟨⟨⟨hsel, hlt⟩, hs⟩, hc⟩, hlex⟩ := hB
  have hm' : m < l.length := by simpa using hlt
  have htl : (l.take m).length = m := by rw [List.length_take]; omega
  have hdl : (l.drop m).length = l.toArray.size - m := by simp
  have H := wpAnyL_lex (P := P) (ops := l.toArray) (md := .any) (n := m) (g := l.toArray.size - m) hsel hs hc hlt (l.take m) 0 _ a
    (fun j hj => by rw [htl] at hj; rw [List.getElem?_take, if_pos hj, Nat.zero_add]; simp) (by rw [htl]; omega)
    ⟨by rw [Array.size_replicate], fun j oj _ hl => (by rw [getD_replicate_false] at hl; cases hl), fun t _ ht => getD_in (by simpa using ht) (getD_replicate_false _ _)⟩ (by rw [htl]; exact hlex) h
  have G := wpAny_of_head (Q' := Q) (g := l.toArray.size - m) (fun listed a' hL => by
    have := wpAny_of_seq (md := .any) (Q' := Q) (l.drop m) m listed a' { w with drawn := w.drawn + 1 } (fun j => by simp [List.getElem?_drop]) (by rw [hdl]; exact hL.1) hL.2
    rwa [hdl] at this) _ _ _ H
  rw [htl, show m + (l.toArray.size - m) = l.toArray.size by omega] at G
  exact wpIn_region_any hm (anyIn_of hn hQ _ _ _ _ G)
end Go.Proofs.YtmoajobnhiopiaaGreatDoor.rg
