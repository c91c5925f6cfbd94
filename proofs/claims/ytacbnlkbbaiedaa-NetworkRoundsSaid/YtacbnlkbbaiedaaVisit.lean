/- array.visit and its iterator, by walking their text. -/
import Derived.Test.YtacbnlkbbaiedaaRange
import Derived.Test.YtacbnlkbbaiedaaTapeW
import Derived.Test.YtacbnlkbbaiedaaMaskW
namespace Go.Proofs.Ytacbnlkbbaiedaa.ar
open Go Go.RowKit Go.Shelf Go.Proofs.Ytacbnlkbbaiedaa.tp Go.Proofs.Ytacbnlkbbaiedaa.mk Go.Proofs.Ytacbnlkbbaiedaa.rg

attribute [local go_sem] Oper.semAt_some

/-- A list of words in memory. -/
def wordsAt (w : World) (v : Value) (l : List Int) : Prop :=
  (l = [] ∧ ∃ ao cap, v = .slice ao 0 cap) ∨ (l ≠ [] ∧ ∃ b off cap, v = .slice (some ⟨b, off, none⟩) l.length cap ∧ b < w.heap.size ∧ ∀ (i : Nat) (x : Int), l[i]? = some x → w.cell? ⟨b, off + i, none⟩ = some (.int .u64 x))

/-! ### a loop over visit -/
/-- What a tape (or no tape: none) has recorded when k elements have been visited. -/
def recs (q : Option Addr) (l0 : List Ev) (kind : Int) (k : Nat) : List Ev := if q.isNone then l0 else l0 ++ (List.range k).map fun j : Nat => (kind, (j : Int), (0 : Int))
theorem recs_zero (q : Option Addr) (l0 : List Ev) (kind : Int) : recs q l0 kind 0 = l0 := by
  unfold recs
  split <;> simp
theorem recs_length (q : Option Addr) (l0 : List Ev) (kind : Int) (k : Nat) : (recs q l0 kind k).length ≤ l0.length + k := by
  unfold recs
  split <;> simp
theorem keeps_putObj (w : World) (r : Nat) (o : Obj) : Keeps (fun k => k = r) w (w.putObj r o) :=
  ⟨rfl, rfl, rfl, by simp, fun k _ hk => World.putObj_heap_other hk⟩

end Go.Proofs.Ytacbnlkbbaiedaa.ar
