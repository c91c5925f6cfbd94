/- The reference of package array (its functions that only read), and slices.Clone and slices.Equal at words. -/
import Derived.Test.YtbgjfibninccdaaArrayY
import Derived.Test.YtbgjfibninccdaaTapeR
namespace Go.Proofs.Ytbgjfibninccdaa.ar
open Go Go.RowKit Go.Maps Go.Proofs.Ytbgjfibninccdaa.tp Go.Proofs.Ytbgjfibninccdaa.mk

/-- The words of l lie at b, off. -/
def wcells (w : World) (b off : Nat) (l : List Int) : Prop := ∀ (i : Nat) (x : Int), l[i]? = some x → w.cell? ⟨b, off + i, none⟩ = some (.int .u64 x)

theorem rem_two (x : Int) (h : IsU x) : x.tmod 2 = x % 2 := Int.tmod_eq_emod_of_nonneg h.1

theorem words_cases {w : World} {v : Value} {l : List Int} (h : wordsAt w v l) : (l = [] ∧ ∃ ao cap, v = .slice ao 0 cap) ∨ (l ≠ [] ∧ ∃ b off cap, v = .slice (some ⟨b, off, none⟩) l.length cap ∧ wcells w b off l) := by
  rcases h with h | ⟨hne, b, off, cap, hv, _, hc⟩
  · exact .inl h
  · exact .inr ⟨hne, b, off, cap, hv, hc⟩
theorem first_all {l : List Int} (h : l.all (fun x => x % 2 == 0) = true) : firstI l = l.length := by
  unfold firstI
  rw [takeWhile_all.2 h]
theorem first_here {l : List Int} {k : Nat} {x : Int} (h : (l.take k).all (fun x => x % 2 == 0) = true) (hx : l[k]? = some x) (h1 : x % 2 = 1) : firstI l = k := by
  have hk := (List.getElem?_eq_some_iff.1 hx).1
  have hlen : (l.take k).length = k := by rw [List.length_take]; omega
  unfold firstI
  have e : l = l.take k ++ x :: l.drop (k + 1) := by
    conv => lhs; rw [← List.take_append_drop k l]
    congr 1
    rw [List.drop_eq_getElem_cons hk]
    rw [List.getElem?_eq_getElem hk] at hx
    injection hx with hx
    rw [hx]
  have ht := takeWhile_all.2 h
  rw [e, List.takeWhile_append, if_pos ht]
  simp [h1, hlen]
theorem all_step {l : List Int} {k : Nat} {x : Int} (h : (l.take k).all (fun x => x % 2 == 0) = true) (hx : l[k]? = some x) (h1 : ¬ x % 2 = 1) : (l.take (k + 1)).all (fun x => x % 2 == 0) = true := by
  rw [take_step hx, List.all_append, h]
  have : x % 2 = 0 := by omega
  simp [this]
/-! ### slices.Equal at words -/
theorem wne_at {l m : List Int} {k : Nat} {x y : Int} (hx : l[k]? = some x) (hy : m[k]? = some y) (hne : x ≠ y) : decide (l = m) = false := by
  rw [decide_eq_false_iff_not]
  rintro rfl
  rw [hx] at hy
  injection hy with hy
  exact hne hy
/-! ### slices.Clone at words -/
theorem infoU : (Try.prog.info? 22).map (fun i => (i.zero, i.size, i.bytes)) = some (some (.int .u64 0), 1, 8) := by kernel_rfl
/-- The values of a list of words. -/
def wflat (l : List Int) : List Value := l.map (Value.int .u64)
theorem words_of_row {w : World} {base : Nat} {v : Value} {l : List Int} (h : w.ownsRow base 22 1 v l.length (wflat l)) : wordsAt w v l ∧ rowAt w v ∧ ∀ g, v.ownBlock = some g → base ≤ g := by
  rcases h.2 with ⟨rfl, h0⟩ | ⟨g, cap, cur, rfl, hb, hg, hle, hcap, hcur, htake⟩
  · exact ⟨.inl ⟨List.eq_nil_of_length_eq_zero h0, _, _, rfl⟩, (fun b (hb : none = some b) => by cases hb), fun g (hg : none = some g) => by cases hg⟩
  · refine ⟨?_, fun b hb' => ?_, fun b hb' => ?_⟩
    · by_cases hne : l = []
      · subst hne; exact .inl ⟨rfl, _, _, rfl⟩
      · refine .inr ⟨hne, g, 0, cap, rfl, (Array.getElem?_eq_some_iff.1 hg).1, fun i x he => ?_⟩
        have hi : i < l.length := (List.getElem?_eq_some_iff.1 he).1
        have hu : (wflat l)[i]? = some (.int .u64 x) := by unfold wflat; rw [List.getElem?_map, he]; rfl
        rw [cell_of_row w g (0 + i) cur _ (0, 0) hg, Nat.zero_add]
        rw [← htake, List.getElem?_take, if_pos (by omega)] at hu
        simpa using hu
    · cases hb'
      exact ⟨_, _, hg⟩
    · cases hb'
      exact hb
def WCloneOf (w : World) (l : List Int) (e : Ending) (w' : World) : Prop :=
  ∃ v, e = .returned v ∧ w'.ownsRow w.heap.size 22 1 v l.length (wflat l) ∧ Keeps (fun _ => False) w w'
theorem wflat_length (l : List Int) : (wflat l).length = l.length := by unfold wflat; simp
theorem wflat_one (l : List Int) : ∀ u ∈ wflat l, u.oneCell' = true := by
  intro u hu
  unfold wflat at hu
  obtain ⟨x, _, rfl⟩ := List.mem_map.1 hu
  rfl
end Go.Proofs.Ytbgjfibninccdaa.ar
