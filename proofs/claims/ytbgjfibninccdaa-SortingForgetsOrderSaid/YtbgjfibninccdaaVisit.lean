/- array.visit and its iterator, by walking their text. -/
import Derived.Test.YtbgjfibninccdaaRange
import Derived.Test.YtbgjfibninccdaaTapeW
import Derived.Test.YtbgjfibninccdaaMaskW
namespace Go.Proofs.Ytbgjfibninccdaa.ar
open Go Go.RowKit Go.Shelf Go.Proofs.Ytbgjfibninccdaa.tp Go.Proofs.Ytbgjfibninccdaa.mk Go.Proofs.Ytbgjfibninccdaa.rg

attribute [local go_sem] Oper.semAt_some

/-- A list of words in memory. -/
def wordsAt (w : World) (v : Value) (l : List Int) : Prop :=
  (l = [] ∧ ∃ ao cap, v = .slice ao 0 cap) ∨ (l ≠ [] ∧ ∃ b off cap, v = .slice (some ⟨b, off, none⟩) l.length cap ∧ b < w.heap.size ∧ ∀ (i : Nat) (x : Int), l[i]? = some x → w.cell? ⟨b, off + i, none⟩ = some (.int .u64 x))

/-! ### a loop over visit -/
/-- What a tape (or no tape: none) has recorded when k elements have been visited. -/
def recs (q : Option Addr) (l0 : List Ev) (kind : Int) (k : Nat) : List Ev := if q.isNone then l0 else l0 ++ (List.range k).map fun j : Nat => (kind, (j : Int), (0 : Int))
theorem recs_zero (q : Option Addr) (l0 : List Ev) (kind : Int) : recs q l0 kind 0 = l0 := by
  unfold recs
  split <;> simp
theorem recs_length (q : Option Addr) (l0 : List Ev) (kind : Int) (k : Nat) : (recs q l0 kind k).length ≤ l0.length + k := by
  unfold recs
  split <;> simp
/-- A tape with the events of l at q (or none), its blocks in S. -/
def qAt (w : World) (S : Nat → Prop) (q : Option Addr) (l : List Ev) : Prop := (q = none ∧ l = []) ∨ ∃ b, q = some ⟨b, 0, none⟩ ∧ tapeAt w S b l
theorem qAt.keep {w w' : World} {S T : Nat → Prop} {q : Option Addr} {l : List Ev} (h : qAt w S q l) (hk : Keeps T w w') (hST : ∀ k, k < w.heap.size → S k → ¬ T k) : qAt w' S q l := by
  rcases h with h | ⟨b, hq, hT⟩
  · exact .inl h
  · exact .inr ⟨b, hq, hT.keep hk hST⟩
theorem qAt.mono {w : World} {S T : Nat → Prop} {q : Option Addr} {l : List Ev} (h : qAt w S q l) (hST : ∀ k, k < w.heap.size → S k → T k) : qAt w T q l := by
  rcases h with h | ⟨b, hq, hT⟩
  · exact .inl h
  · exact .inr ⟨b, hq, hT.mono hST⟩
theorem note_none (k a b : Int) (w : World) : Calls Try.prog 35 #[.pointer none, .int .i64 k, .int .i64 a, .int .i64 b] w fun e w' => e = .returned (.tuple #[]) ∧ w' = w := by
  go_enter Try.func35, Try.ntmps35
  go_wp2
  refine bodyPost_ret (results_none rfl _ _ _) rfl ?_
  exact ⟨rfl, rfl⟩
theorem note_q (q : Option Addr) (S : Nat → Prop) (l0 : List Ev) (kind : Int) (k : Nat) (w : World) (hT : qAt w S q (recs q l0 kind k)) (hkind : wf64 kind = true) (hk : k ≤ 549755813888) (hl : l0.length ≤ 549755813888) :
    Calls Try.prog 35 #[.pointer q, .int .i64 kind, .int .i64 k, .int .i64 0] w fun r w' => r = .returned (.tuple #[]) ∧ qAt w' (fun k => S k ∨ w.heap.size ≤ k) q (recs q l0 kind (k + 1)) ∧ Keeps S w w' := by
  rcases hT with ⟨rfl, he⟩ | ⟨b, rfl, hT⟩
  · refine (note_none kind k 0 w).mono fun r w' ⟨hr, hw⟩ => ⟨hr, .inl ⟨rfl, ?_⟩, by rw [hw]; exact Keeps.refl _ _⟩
    simpa [recs] using he
  · have hlen := recs_length (some ⟨b, 0, none⟩) l0 kind k
    refine (note_calls b S _ (kind, (k : Int), 0) w hT ⟨hkind, WalkArith.wf_i64 (show -9223372036854775808 ≤ (k : Int) ∧ (k : Int) ≤ 9223372036854775807 by omega), show wf64 0 = true by decide⟩ (by omega)).mono fun r w' ⟨hr, hT', hK⟩ => ⟨hr, .inr ⟨b, rfl, ?_⟩, hK⟩
    have e : recs (some ⟨b, 0, none⟩) l0 kind k ++ [(kind, (k : Int), 0)] = recs (some ⟨b, 0, none⟩) l0 kind (k + 1) := by
      simp [recs, List.range_succ]
    rw [← e]
    exact hT'

theorem keeps_putObj (w : World) (r : Nat) (o : Obj) : Keeps (fun k => k = r) w (w.putObj r o) :=
  ⟨rfl, rfl, rfl, by simp, fun k _ hk => World.putObj_heap_other hk⟩

end Go.Proofs.Ytbgjfibninccdaa.ar
