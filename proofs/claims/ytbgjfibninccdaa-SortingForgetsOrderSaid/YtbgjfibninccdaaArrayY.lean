/- Write of package array. -/
import Derived.Test.YtbgjfibninccdaaArrayX
namespace Go.Proofs.Ytbgjfibninccdaa.ar
open Go Go.RowKit Go.Shelf Go.Proofs.Ytbgjfibninccdaa.tp Go.Proofs.Ytbgjfibninccdaa.mk Go.Proofs.Ytbgjfibninccdaa.rg

attribute [local go_sem] Oper.semAt_some

theorem row_set {w : World} {b j : Nat} {cs : Array Value} {t : TypeId} {fr : Nat × Nat} (h : w.heap[b]? = some (.cells cs t fr)) (u : Value) : (w.setCell ⟨b, j, none⟩ u).heap[b]? = some (.cells (cs.setIfInBounds j u) t fr) := by
  simp [World.setCell, Array.getElem?_modify, h]

/-- A list whose row may be written. -/
def rowAt (w : World) (v : Value) : Prop := ∀ b, v.ownBlock = some b → ∃ cs t, w.heap[b]? = some (.cells cs t (0, 0))
/-- The words of a list of which the first k have been visited. -/
def halfI (i x : Int) (k j : Nat) (y : Int) : Int := if j < k ∧ i = (j : Int) then x else y
def RowK (b off : Nat) (l : List Int) (i x : Int) (k : Nat) (W : World) : Prop :=
  l ≠ [] → ∃ cs t, W.heap[b]? = some (.cells cs t (0, 0)) ∧ ∀ (j : Nat) (y : Int), l[j]? = some y → cs[off + j]? = some (.int .u64 (halfI i x k j y))
theorem RowK.set {b off : Nat} {l : List Int} {i x : Int} {k : Nat} {W : World} (h : RowK b off l i x k W) {y : Int} (hy : l[k]? = some y) : RowK b off l i x (k + 1) (W.setCell ⟨b, off + k, none⟩ (.int .u64 (if i = (k : Int) then x else y))) := by
  intro hne
  obtain ⟨cs, t, hr, hc⟩ := h hne
  have hcy := hc k y hy
  have hlt := (Array.getElem?_eq_some_iff.1 hcy).1
  refine ⟨_, _, row_set hr _, fun j z hz => ?_⟩
  by_cases hj : j = k
  · subst hj
    rw [hy] at hz
    injection hz with hz
    subst hz
    rw [Array.getElem?_setIfInBounds, if_pos rfl, if_pos hlt]
    unfold halfI
    by_cases h : i = (j : Int)
    · rw [if_pos h, if_pos ⟨by omega, h⟩]
    · rw [if_neg h, if_neg (fun hh => h hh.2)]
  · rw [Array.getElem?_setIfInBounds, if_neg (by omega), hc j z hz]
    unfold halfI
    by_cases h : j < k
    · by_cases h2 : i = (j : Int)
      · rw [if_pos ⟨h, h2⟩, if_pos ⟨by omega, h2⟩]
      · rw [if_neg (fun hh => h2 hh.2), if_neg (fun hh => h2 hh.2)]
    · rw [if_neg (fun hh => h hh.1), if_neg (fun hh => by omega)]
theorem RowK.drew {b off : Nat} {l : List Int} {i x : Int} {k : Nat} {W : World} (h : RowK b off l i x k W) : RowK b off l i x k W.drew := h

theorem other_set' {w : World} {b c j : Nat} {u : Value} {o : Obj} (h : w.heap[c]? = some o) (hne : c ≠ b) : ((w.setCell ⟨b, j, none⟩ u).drew).heap[c]? = some o := (Below.heap_setCell _ _ _ _ hne).trans h
theorem RowK.words {b off : Nat} {l : List Int} {i x : Int} {W : World} {ao : Option Addr} {cap : Nat} (hi : IsU i) (hvs : (l.length = 0 ∧ ∃ ao' cap', Value.slice ao l.length cap = .slice ao' 0 cap') ∨ ∃ cap', Value.slice ao l.length cap = .slice (some ⟨b, off, none⟩) l.length cap')
    (hbb : l ≠ [] → b < W.heap.size ∧ (Value.slice ao l.length cap).ownBlock = some b) (h : RowK b off l i x l.length W) :
    wordsAt W (.slice ao l.length cap) (l.set i.toNat x) := by
  by_cases hne : l = []
  · subst hne
    exact .inl ⟨rfl, ao, cap, rfl⟩
  · obtain ⟨cs, t, hr, hc⟩ := h hne
    have hvs' : ∃ cap', Value.slice ao l.length cap = .slice (some ⟨b, off, none⟩) l.length cap' := by
      rcases hvs with ⟨h0, _⟩ | h
      · exact absurd (List.eq_nil_of_length_eq_zero h0) hne
      · exact h
    obtain ⟨cap', he⟩ := hvs'
    refine .inr ⟨fun e => hne (by simpa using congrArg List.length e), b, off, cap', by rw [List.length_set]; exact he, (hbb hne).1, fun j z hz => ?_⟩
    rw [List.getElem?_set] at hz
    rw [cell_of_row _ _ _ _ _ _ hr]
    by_cases hj : i.toNat = j
    · rw [if_pos hj] at hz
      split at hz
      · rename_i hlt
        rw [hc j _ (List.getElem?_eq_getElem (by omega))]
        injection hz with hz
        unfold halfI
        rw [if_pos (by unfold IsU at hi; omega), hz]
      · cases hz
    · rw [if_neg hj] at hz
      rw [hc j z hz]
      unfold halfI
      rw [if_neg (by unfold IsU at hi; omega)]
theorem RowK.keep {b off : Nat} {l : List Int} {i x : Int} {k : Nat} {W W' : World} (h : RowK b off l i x k W) (hs : l ≠ [] → W'.heap[b]? = W.heap[b]?) : RowK b off l i x k W' := by
  intro hne
  obtain ⟨cs, t, hr, hc⟩ := h hne
  exact ⟨cs, t, (hs hne).trans hr, hc⟩

end Go.Proofs.Ytbgjfibninccdaa.ar
