/- network.Apply: it runs the comparators over a clone. -/
import Derived.Test.YtbgjfibninccdaaNetF
import Derived.Test.YtbgjfibninccdaaRound
import Derived.Deep.RegionHeld3
namespace Go.Proofs.Ytbgjfibninccdaa.rg
open Go Go.RowKit Go.Shelf
/-- A region that draws its order in a round, by what holds between its operations. -/
theorem round_region_held {P : Program} {n L : Nat} {id : Nat} {ops : Array Oper} {Q : Exit → Act → World → Prop} {a : Act} {w : World} (S : World → Prop) (hm : P.follows .mixedOrders = true) (hn : noDefer ops = true) (hQ : ¬ LetsOut Q) (hS : S w.drew)
    (h : S w.drew → wpAnyH P .any ops Q S ops.size (Array.replicate ops.size false) a w.drew) : (Code.region id ops true).wpIn (Fence.wide.inRound L) n P Q a w :=
  wpIn_region_any hm (anyIn_of hn hQ _ _ _ _ (wpAny_of_held _ _ _ _ (h hS)))
end Go.Proofs.Ytbgjfibninccdaa.rg
namespace Go.Proofs.Ytbgjfibninccdaa.nw
open Go Go.RowKit Go.Shelf Go.Proofs.Ytbgjfibninccdaa.tp Go.Proofs.Ytbgjfibninccdaa.rg Go.Proofs.Ytbgjfibninccdaa.ar Go.Proofs.Ytbgjfibninccdaa.mk

attribute [local go_sem] Oper.semAt_some

/-- The words of l, when the first k comparators of L have been run. -/
def foldK (L : List (Nat × Nat)) (l : List Int) (k : Nat) : List Int := (L.take k).foldl cx l
theorem foldK_succ {L : List (Nat × Nat)} {l : List Int} {k : Nat} {c : Nat × Nat} (h : L[k]? = some c) : foldK L l (k + 1) = cx (foldK L l k) c := by
  unfold foldK
  rw [List.take_add_one, h, List.foldl_append]
  rfl
theorem foldK_length (L : List (Nat × Nat)) (l : List Int) (k : Nat) : (foldK L l k).length = l.length := fold_length _ l
theorem keeps_at (w : World) (b i : Nat) (u : Value) : Keeps (fun k => k = b) w (w.setCell ⟨b, i, none⟩ u) := (Keeps.refl (fun k => k = b) w).setCell ⟨b, i, none⟩ (fun _ => rfl) u
theorem cx_flat {s : List Int} {x y : Nat} {a b : Int} (ha : s[x]? = some a) (hb : s[y]? = some b) : wflat (cx s (x, y)) = ((wflat s).set x (.int .u64 (min a b))).set y (.int .u64 (max a b)) := by
  have g1 : s.getD x 0 = a := by rw [List.getD_eq_getElem?_getD, ha]; rfl
  have g2 : s.getD y 0 = b := by rw [List.getD_eq_getElem?_getD, hb]; rfl
  unfold cx wflat
  simp only [g1, g2, List.map_set]
theorem cx_mem {l : List Int} {c : Nat × Nat} (h1 : c.1 < l.length) (h2 : c.2 < l.length) {P : Int → Prop} (h : ∀ x ∈ l, P x) : ∀ x ∈ cx l c, P x := fun x hx => h x ((cx_perm h1 h2).mem_iff.1 hx)
theorem foldK_words {r N : Nat} {l : List Int} {k i : Nat} {x : Int} (hw : Words l) (hx : (foldK (nl N r) l k)[i]? = some x) : IsU x := by
  have : ∀ (M : List (Nat × Nat)) (l : List Int), Words l → Words (M.foldl cx l) := by
    intro M
    induction M with
    | nil => exact fun l h => h
    | cons c M ih =>
      intro l h
      refine ih (cx l c) (fun x hx => ?_)
      unfold cx at hx
      have hg : ∀ j, IsU (l.getD j 0) := fun j => by
        rw [List.getD_eq_getElem?_getD]
        cases hj : l[j]? with
        | none => exact ⟨Int.le_refl _, by decide⟩
        | some y => exact h y (List.mem_of_getElem? hj)
      have hmin : IsU (min (l.getD c.1 0) (l.getD c.2 0)) := by have := hg c.1; have := hg c.2; unfold IsU at *; omega
      have hmax : IsU (max (l.getD c.1 0) (l.getD c.2 0)) := by have := hg c.1; have := hg c.2; unfold IsU at *; omega
      rcases List.mem_or_eq_of_mem_set hx with hx | rfl
      · rcases List.mem_or_eq_of_mem_set hx with hx | rfl
        · exact h x hx
        · exact hmin
      · exact hmax
  exact this _ l hw x (List.mem_of_getElem? hx)
end Go.Proofs.Ytbgjfibninccdaa.nw
