/- What each function of package tape returns and leaves, by walking its text: New, Note. -/
import Derived.Test.YtoefjgcehmcbcaaTape
import Derived.ProofKit
import Derived.Outline
import Derived.WalkSpells
import Derived.WalkLawsBesides
import Derived.Lib.Hide
import Derived.ArgAppend
namespace Go.Proofs.Ytoefjgcehmcbcaa.tp
open Go Go.RowKit Go.Maps

theorem infoEv : (Try.prog.info? 36).map (fun i => (i.zero, i.size, i.bytes)) = some (some (.agg #[.int .i64 0, .int .i64 0, .int .i64 0]), 3, 24) := by kernel_rfl
theorem lawInt : Keyed Try.prog 3 := int_keyed Try.underlying3
theorem zeroInt (w : World) : (zeroValue 3).run Try.prog w = .ok (.int .i64 0) w := by kernel_rfl

theorem new_calls (w : World) : Calls Try.prog 20 #[] w fun e w' => e = .returned (.pointer (some ⟨w.heap.size + 1, 0, none⟩)) ∧ w' = (w.alloc (.map #[] 0)).alloc (.cells #[.slice none 0 0, .map (some w.heap.size)] 46) := by
  have hmm := @run_makeMap Try.prog
  go_enter Try.func20, Try.ntmps20
  go_wp2
  go_ret
  exact ⟨rfl, rfl⟩
/-- A new tape, whatever the blocks that may be its own from now on. -/
theorem new_any (w : World) : Calls Try.prog 20 #[] w fun e w' => ∃ b, e = .returned (.pointer (some ⟨b, 0, none⟩)) ∧ tapeAt w' (fun k => w.heap.size ≤ k) b [] ∧ Keeps (fun _ => False) w w' := by
  refine (new_calls w).mono fun e w' ⟨he, hw⟩ => ⟨_, he, ?_, ?_⟩
  · subst hw
    refine ⟨by show w.heap.size ≤ _; omega, .slice none 0 0, w.heap.size, .map [], ?_, World.ownsRow_nil _ _ _ _, fun g h => by simp [Value.ownBlock] at h, Nat.le_refl _, (World.ownsMap_made w _ _ _).alloc _, CountsOk.start⟩
    have := heap_alloc_new (w.alloc (.map #[] 0)) (.cells #[.slice none 0 0, .map (some w.heap.size)] 46)
    simpa using this
  · subst hw
    exact ((Keeps.refl _ w).alloc _).alloc _

/-- Note -/
theorem note_calls (b : Nat) (S : Nat → Prop) (l : List Ev) (e : Ev) (w : World) (hT : tapeAt w S b l) (he : EvOk e) (hlen : l.length ≤ 1099511627776) :
    Calls Try.prog 19 #[.pointer (some ⟨b, 0, none⟩), .int .i64 e.1, .int .i64 e.2.1, .int .i64 e.2.2] w fun r w' => r = .returned (.tuple #[]) ∧ tapeAt w' (fun k => S k ∨ w.heap.size ≤ k) b (l ++ [e]) ∧ Keeps S w w' := by
  have hblt := hT.lt
  obtain ⟨hS, v, mb, D, hb, hrow, hg, hm, hown, hc⟩ := hT
  obtain ⟨k0, k1, k2⟩ := e
  obtain ⟨hk0, hk1, hk2⟩ := he
  obtain ⟨i0, hi, hz0, hz1, hz2⟩ := info_parts infoEv
  obtain ⟨ao, cp, rfl⟩ : ∃ ao cp, v = .slice ao l.length cp := by
    rcases hrow.2 with ⟨rfl, h0⟩ | ⟨g, cap, cur, rfl, _⟩
    · exact ⟨_, _, by rw [h0]⟩
    · exact ⟨_, _, rfl⟩
  have c0 : w.cell? ⟨b, 0, none⟩ = some (.slice ao l.length cp) := by rw [cell_of_row w b 0 _ _ _ hb]; rfl
  have c1 : w.cell? ⟨b, 1, none⟩ = some (.map (some mb)) := by rw [cell_of_row w b 1 _ _ _ hb]; rfl
  have hkey := keyOf_int_mk Try.underlying3 hk0
  go_enter Try.func19, Try.ntmps19
  go_wp2_with (at_builtin; refine wpList_append_mine _ rfl _ _ 22 rfl 36 i0 (.agg #[.int .i64 0, .int .i64 0, .int .i64 0]) 3 24 Try.underlying22 hi hz0 hz1 hz2 rfl (by decide) _ _ _ rfl (hrow.alloc _) ⟨w.heap.size, 0, none⟩ 1 1 (evC (k0, k1, k2)) rfl rfl ?c1 ?c2 (by decide) ?c3 ?c4 ?_)
  case c1 => intro j u hj; exact hj
  case c2 => intro u hu; simp [evC] at hu; rcases hu with rfl | rfl | rfl <;> rfl
  case c3 => unfold maxLen; omega
  case c4 => omega
  intro g' cap' w1 hown1 hgrow1 hgg
  have hKe : Keeps S w w1 := ((Keeps.refl S w).alloc _).grown hgrow1 (fun k e _ => hg k e)
  have hb1 : w1.heap[b]? = some (.cells #[.slice ao l.length cp, .map (some mb)] 46 (0, 0)) := by
    rw [hgrow1.block b (by simp; omega) (fun e => row_ne hrow (by decide) hb e.symm), Below.heap_alloc _ _ _ hblt]
    exact hb
  have c10 : w1.cell? ⟨b, 0, none⟩ = some (.slice ao l.length cp) := by rw [cell_of_row w1 b 0 _ _ _ hb1]; rfl
  have c11 : w1.cell? ⟨b, 1, none⟩ = some (.map (some mb)) := by rw [cell_of_row w1 b 1 _ _ _ hb1]; rfl
  have f10 : w1.frozen? ⟨b, 0, none⟩ = false := two_frozen hb1 _
  have hmb : mb ≠ b := fun e => by obtain ⟨es, clock, h, _⟩ := hown; rw [e, hb] at h; cases h
  have hown1' : w1.ownsMap Try.prog 3 (plainElem Try.prog 3) mb l.length D := by
    refine (hown.alloc _).kept hgrow1 (fun e => ?_)
    obtain ⟨es, clock, h, _⟩ := hown
    exact row_no_map hrow h e.symm
  have hown2 : (w1.setCell ⟨b, 0, none⟩ (.slice (some ⟨g', 0, none⟩) (l.length + 1) cap')).ownsMap Try.prog 3 (plainElem Try.prog 3) mb l.length D := by
    obtain ⟨es, clock, h, r⟩ := hown1'
    exact ⟨es, clock, by rw [Below.heap_setCell _ _ _ _ hmb]; exact h, r⟩
  have hb2 := two_setCell hb1 (.slice (some ⟨g', 0, none⟩) (l.length + 1) cap')
  have hKe2 : Keeps S w (w1.setCell ⟨b, 0, none⟩ (.slice (some ⟨g', 0, none⟩) (l.length + 1) cap')) := hKe.setCell _ (fun _ => hS) _
  have hrow2 : (w1.setCell ⟨b, 0, none⟩ (.slice (some ⟨g', 0, none⟩) (l.length + 1) cap')).ownsRow 0 36 3 (.slice (some ⟨g', 0, none⟩) (l.length + 1) cap') (l.length + 1) (flat l ++ evC (k0, k1, k2)) :=
    row_setCell hown1 (fun e => row_ne hown1 (by decide) hb1 e) _
  have hg' : S g' ∨ w.heap.size ≤ g' := hgg.elim (fun h => .inl (hg g' h)) (fun h => .inr (by omega))
  have hgmb : (.slice (some ⟨g', 0, none⟩) (l.length + 1) cap' : Value).ownBlock ≠ some mb := by
    obtain ⟨es, clock, h, _⟩ := hown2
    exact row_no_map hrow2 h
  clear hb hrow hown hgrow1 hb1 hown1 hown1' c0 c1 hgg
  go_wp2_with (first | (at_lookup; refine wpList_lookup_own_int _ rfl _ _ 44 rfl 3 3 .i64 lawInt Try.underlying44 Try.underlying3 (zeroInt _) mb l.length D rfl hown2 _ _ rfl hkey ?_; intro c hat hwc) | (at_mapUpdate; refine wpList_mapUpdate_own _ rfl _ _ _ 44 rfl 3 3 lawInt Try.underlying44 _ mb l.length D rfl hown2 (by unfold maxLen; omega) _ _ _ rfl rfl hkey _ [] (plainElem_int Try.underlying3 (wrap64_wf _)) ?_; intro w3 hown3 hgrow3))
  go_end0
  refine ⟨rfl, ?_, hKe2.grown hgrow3 (fun k e _ => by cases e; exact hm)⟩
  obtain ⟨hc2, hce⟩ := hc.snoc (k0, k1, k2) hk0 hat
  have hce' : c = (cntE l k0 : Nat) := hce
  have hcl := cntE_le l k0
  have hwr : wrap64 (c + 1) = c + 1 := IntWalk.wrap64_in _ ⟨by clear hce; omega, by clear hce; omega⟩
  rw [hwr] at hown3
  refine ⟨.inl hS, .slice (some ⟨g', 0, none⟩) (l.length + 1) cap', mb, _, ?_, ?_, ?_, .inl hm, ?_, hc2⟩
  · rw [hgrow3.block b (Array.getElem?_eq_some_iff.1 hb2).1 (fun e => hmb (by simpa using e.symm))]
    exact hb2
  · rw [List.length_append, flat_append, flat_one]
    exact hrow2.kept hgrow3 (.inr hgmb)
  · intro g e
    cases e
    exact hg'
  · rw [List.length_append]
    exact hown3
end Go.Proofs.Ytoefjgcehmcbcaa.tp
