/- The laws' same, and the reference's Sorted. -/
import Derived.Test.YtbgjfibninccdaaNetE
import Derived.Laws.OwnMore
namespace Go.Proofs.Ytbgjfibninccdaa.nw
open Go Go.RowKit Go.Shelf Go.Proofs.Ytbgjfibninccdaa.tp Go.Proofs.Ytbgjfibninccdaa.rg Go.Proofs.Ytbgjfibninccdaa.ar Go.Proofs.Ytbgjfibninccdaa.mk

/-! ### lists of pairs in memory -/
theorem flatC_length (L : List (Nat × Nat)) : (flatC L).length = L.length * 2 := by
  induction L with
  | nil => rfl
  | cons c L ih =>
    show ([Value.int .i64 (c.1 : Int), .int .i64 (c.2 : Int)] ++ flatC L).length = _
    rw [List.length_append, ih]
    show 2 + L.length * 2 = (L.length + 1) * 2
    omega
theorem flatC_get (L : List (Nat × Nat)) : ∀ (i : Nat) (c : Nat × Nat), L[i]? = some c → (flatC L)[i * 2]? = some (.int .i64 (c.1 : Int)) ∧ (flatC L)[i * 2 + 1]? = some (.int .i64 (c.2 : Int)) := by
  induction L with
  | nil => intro i c h; simp at h
  | cons d L ih =>
    intro i c h
    have e : flatC (d :: L) = [Value.int .i64 (d.1 : Int), .int .i64 (d.2 : Int)] ++ flatC L := rfl
    rw [e]
    cases i with
    | zero => simp at h; subst h; simp
    | succ i =>
      obtain ⟨h1, h2⟩ := ih i c (by simpa using h)
      have e2 : ([Value.int .i64 (d.1 : Int), .int .i64 (d.2 : Int)] : List Value).length = 2 := rfl
      refine ⟨?_, ?_⟩
      · rw [List.getElem?_append_right (by rw [e2]; omega), e2, show (i + 1) * 2 - 2 = i * 2 from by omega]; exact h1
      · rw [List.getElem?_append_right (by rw [e2]; omega), e2, show (i + 1) * 2 + 1 - 2 = i * 2 + 1 from by omega]; exact h2
/-- A slice value that reads as a list of pairs. -/
def pairAt (w : World) (v : Value) (L : List (Nat × Nat)) : Prop :=
  (L = [] ∧ ∃ ao cap, v = .slice ao 0 cap) ∨ (L ≠ [] ∧ ∃ g cap, v = .slice (some ⟨g, 0, none⟩) L.length cap ∧ g < w.heap.size ∧ ∀ (i : Nat) (c : Nat × Nat), L[i]? = some c → w.cell? ⟨g, i * 2, none⟩ = some (.int .i64 (c.1 : Int)) ∧ w.cell? ⟨g, i * 2 + 1, none⟩ = some (.int .i64 (c.2 : Int)))
theorem pairAt_of_row {w : World} {base : Nat} {E : TypeId} {v : Value} {L : List (Nat × Nat)} (h : w.ownsRow base E 2 v L.length (flatC L)) : pairAt w v L := by
  by_cases hne : L = []
  · subst hne
    rcases h.2 with ⟨rfl, _⟩ | ⟨g, cap, cur, rfl, _⟩
    · exact .inl ⟨rfl, _, _, rfl⟩
    · exact .inl ⟨rfl, _, _, rfl⟩
  · have hlp : 0 < L.length := List.length_pos_iff.2 hne
    rcases h.2 with ⟨_, h0⟩ | ⟨g, cap, cur, rfl, hb, hg, _⟩
    · omega
    · refine .inr ⟨hne, g, cap, rfl, (Array.getElem?_eq_some_iff.1 hg).1, fun i c hc => ?_⟩
      have hi := (List.getElem?_eq_some_iff.1 hc).1
      obtain ⟨h1, h2⟩ := flatC_get L i c hc
      exact ⟨(h.cellAt (i * 2) (by omega)).trans h1, (h.cellAt (i * 2 + 1) (by omega)).trans h2⟩
theorem pairAt.keep {w w' : World} {T : Nat → Prop} {v : Value} {L : List (Nat × Nat)} (h : pairAt w v L) (hk : Keeps T w w') (hT : ∀ g, v.ownBlock = some g → g < w.heap.size → ¬ T g) : pairAt w' v L := by
  rcases h with h | ⟨hne, g, cap, rfl, hlt, hc⟩
  · exact .inl h
  · exact .inr ⟨hne, g, cap, rfl, Nat.lt_of_lt_of_le hlt hk.size, fun i c hi => ⟨(hk.cell (p := ⟨g, _, none⟩) hlt (hT g rfl hlt)).trans (hc i c hi).1, (hk.cell (p := ⟨g, _, none⟩) hlt (hT g rfl hlt)).trans (hc i c hi).2⟩⟩
theorem pairAt.kept {w w' : World} {v : Value} {L : List (Nat × Nat)} (h : pairAt w v L) (hk : Keeps (fun _ => False) w w') : pairAt w' v L := h.keep hk (fun _ _ _ h => h)
/-! ### Sorted -/
def srt (s : List Int) : Prop := s.Pairwise (· ≤ ·)
theorem ins_sorted {s : List Int} {x : Int} {k : Nat} (hs : srt s) (h1 : ∀ y ∈ s.take k, y ≤ x) (h2 : ∀ y, s[k]? = some y → x < y) : srt (s.take k ++ x :: s.drop k) := by
  unfold srt at hs ⊢
  have hd : ∀ y ∈ s.drop k, x ≤ y := by
    intro y hy
    cases hdk : s.drop k with
    | nil => rw [hdk] at hy; simp at hy
    | cons z t =>
      have hz : s[k]? = some z := by
        have := congrArg (fun l => l[0]?) hdk
        simpa using this
      have hzx := h2 z hz
      rw [hdk] at hy
      have hp : (z :: t).Pairwise (· ≤ ·) := by rw [← hdk]; exact hs.sublist (List.drop_sublist k s)
      rcases List.mem_cons.1 hy with rfl | hy
      · omega
      · have := (List.pairwise_cons.1 hp).1 y hy
        omega
  rw [List.pairwise_append]
  refine ⟨hs.sublist (List.take_sublist k s), List.pairwise_cons.2 ⟨hd, hs.sublist (List.drop_sublist k s)⟩, fun a ha b hb => ?_⟩
  rcases List.mem_cons.1 hb with rfl | hb
  · exact h1 a ha
  · exact Int.le_trans (h1 a ha) (hd b hb)
theorem ins_perm {s l : List Int} {x : Int} {k i : Nat} (hp : s.Perm (l.take i)) (hx : l[i]? = some x) : (s.take k ++ x :: s.drop k).Perm (l.take (i + 1)) := by
  rw [List.take_add_one, hx]
  have h1 : (s.take k ++ x :: s.drop k).Perm (x :: s) := by
    have := @List.perm_middle _ x (s.take k) (s.drop k)
    rwa [List.take_append_drop] at this
  exact h1.trans ((List.Perm.cons x hp).trans (by
    have := @List.perm_append_singleton _ x (l.take i)
    exact this.symm))
theorem set_shift {s : List Int} {m : Nat} {z y : Int} (hm : m + 1 ≤ s.length) (hy : s[m]? = some y) :
    ((wflat (s.take (m + 1) ++ z :: s.drop (m + 1))).set (m + 1) (.int .u64 y)) = wflat (s.take m ++ y :: s.drop m) := by
  have hl : (s.take (m + 1)).length = m + 1 := by rw [List.length_take]; omega
  have e1 : s.take m ++ y :: s.drop m = s.take (m + 1) ++ y :: s.drop (m + 1) := by
    rw [List.take_add_one, hy]
    have : s.drop m = y :: s.drop (m + 1) := by
      have hlt : m < s.length := by omega
      rw [List.drop_eq_getElem_cons hlt]
      rw [List.getElem?_eq_getElem hlt] at hy
      rw [Option.some.inj hy]
    rw [this]
    simp
  rw [e1]
  unfold wflat
  rw [List.map_append, List.map_append, List.set_append_right _ _ (by rw [List.length_map, hl]; omega), List.length_map, hl, Nat.sub_self]
  rfl
theorem set_here {s : List Int} {k : Nat} {z x : Int} (hk : k ≤ s.length) : ((wflat (s.take k ++ z :: s.drop k)).set k (.int .u64 x)) = wflat (s.take k ++ x :: s.drop k) := by
  have hl : (s.take k).length = k := by rw [List.length_take]; omega
  unfold wflat
  rw [List.map_append, List.map_append, List.set_append_right _ _ (by rw [List.length_map, hl]; omega), List.length_map, hl, Nat.sub_self]
  rfl
theorem wflat_get {l : List Int} {i : Nat} {x : Int} (h : l[i]? = some x) : (wflat l)[i]? = some (.int .u64 x) := by unfold wflat; rw [List.getElem?_map, h]; rfl
end Go.Proofs.Ytbgjfibninccdaa.nw
