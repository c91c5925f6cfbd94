/- The reference of package array (its functions that only read), and slices.Clone and slices.Equal at words. -/
import Derived.Test.YtacbnlkbbaiedaaArrayY
import Derived.Test.YtacbnlkbbaiedaaTapeR
namespace Go.Proofs.Ytacbnlkbbaiedaa.ar
open Go Go.RowKit Go.Maps Go.Proofs.Ytacbnlkbbaiedaa.tp Go.Proofs.Ytacbnlkbbaiedaa.mk

/-- The words of l lie at b, off. -/
def wcells (w : World) (b off : Nat) (l : List Int) : Prop := ∀ (i : Nat) (x : Int), l[i]? = some x → w.cell? ⟨b, off + i, none⟩ = some (.int .u64 x)

theorem rem_two (x : Int) (h : IsU x) : x.tmod 2 = x % 2 := Int.tmod_eq_emod_of_nonneg h.1

theorem words_cases {w : World} {v : Value} {l : List Int} (h : wordsAt w v l) : (l = [] ∧ ∃ ao cap, v = .slice ao 0 cap) ∨ (l ≠ [] ∧ ∃ b off cap, v = .slice (some ⟨b, off, none⟩) l.length cap ∧ wcells w b off l) := by
  rcases h with h | ⟨hne, b, off, cap, hv, _, hc⟩
  · exact .inl h
  · exact .inr ⟨hne, b, off, cap, hv, hc⟩
theorem first_all {l : List Int} (h : l.all (fun x => x % 2 == 0) = true) : firstI l = l.length := by
  unfold firstI
  rw [takeWhile_all.2 h]
theorem first_here {l : List Int} {k : Nat} {x : Int} (h : (l.take k).all (fun x => x % 2 == 0) = true) (hx : l[k]? = some x) (h1 : x % 2 = 1) : firstI l = k := by
  have hk := (List.getElem?_eq_some_iff.1 hx).1
  have hlen : (l.take k).length = k := by rw [List.length_take]; omega
  unfold firstI
  have e : l = l.take k ++ x :: l.drop (k + 1) := by
    conv => lhs; rw [← List.take_append_drop k l]
    congr 1
    rw [List.drop_eq_getElem_cons hk]
    rw [List.getElem?_eq_getElem hk] at hx
    injection hx with hx
    rw [hx]
  have ht := takeWhile_all.2 h
  rw [e, List.takeWhile_append, if_pos ht]
  simp [h1, hlen]
theorem all_step {l : List Int} {k : Nat} {x : Int} (h : (l.take k).all (fun x => x % 2 == 0) = true) (hx : l[k]? = some x) (h1 : ¬ x % 2 = 1) : (l.take (k + 1)).all (fun x => x % 2 == 0) = true := by
  rw [take_step hx, List.all_append, h]
  have : x % 2 = 0 := by omega
  simp [this]
/-! ### slices.Equal at words -/
theorem wne_at {l m : List Int} {k : Nat} {x y : Int} (hx : l[k]? = some x) (hy : m[k]? = some y) (hne : x ≠ y) : decide (l = m) = false := by
  rw [decide_eq_false_iff_not]
  rintro rfl
  rw [hx] at hy
  injection hy with hy
  exact hne hy
theorem uequal_none (ao ao' : Option Addr) (n m cap cap' : Nat) (w : World) (hne : n ≠ m) :
    Calls Try.prog 19 #[.slice ao n cap, .slice ao' m cap'] w fun e w' => e = .returned (.bool false) ∧ w' = w := by
  have h : ((n : Int) != (m : Int)) = true := by rw [bne_iff_ne]; omega
  go_enter Try.func19, Try.ntmps19
  go_wp2
  go_ret
  exact ⟨rfl, rfl⟩
theorem uequal_empty (ao ao' : Option Addr) (cap cap' : Nat) (w : World) :
    Calls Try.prog 19 #[.slice ao 0 cap, .slice ao' 0 cap'] w fun e w' => e = .returned (.bool true) ∧ w' = w := by
  go_enter Try.func19, Try.ntmps19
  go_wp2
  refine wp_loop_rounds 1 ?_
  rw [rounds_succ]
  go_wp2
  go_ret
  exact ⟨rfl, rfl⟩
theorem uequal_some (b off b' off' cap cap' : Nat) (l m : List Int) (w : World) (hlm : l.length = m.length) (hl : l.length ≤ 1099511627776) (h : wcells w b off l) (h' : wcells w b' off' m) :
    Calls Try.prog 19 #[.slice (some ⟨b, off, none⟩) l.length cap, .slice (some ⟨b', off', none⟩) l.length cap'] w fun e w' => e = .returned (.bool (decide (l = m))) ∧ ∃ n, w' = w.drewN n := by
  have Hlm := Lib.hid hlm
  clear hlm
  go_enter Try.func19, Try.ntmps19
  go_wp2
  go_loopw [13] (fun i wr => ∃ k n : Nat, k ≤ l.length ∧ i = .int .i64 k ∧ l.take k = m.take k ∧ wr = w.drewN n) (fun i _ => l.length - (intOf i).toNat)
  case atStart => exact ⟨0, 0, Nat.zero_le _, rfl, rfl, rfl⟩
  case round =>
    obtain ⟨k, n, hk, rfl, htk, rfl⟩ := hrel
    have Htk := Lib.hid htk
    clear htk
    by_cases hlt : k < l.length
    · obtain ⟨x0, hx⟩ : ∃ e, l[k]? = some e := ⟨l[k], by simp [hlt]⟩
      obtain ⟨y0, hy⟩ : ∃ e, m[k]? = some e := ⟨m[k]'(by rw [← Hlm.out]; exact hlt), by simp⟩
      have p0 := h k _ hx
      have q0 := h' k _ hy
      have Hx := Lib.hid hx
      have Hy := Lib.hid hy
      clear hx hy
      have hlt' : (k : Int) < (l.length : Int) := by omega
      go_wp2
      cases h0 : (x0 == y0)
      · have hne := Lib.hid (wne_at Hx.out Hy.out (fun e => by cases e; simp at h0))
        go_quiet (fail)
        go_wp2
        go_ret
        exact ⟨by rw [hne.out]; rfl, n + nq, World.drewN_drewN _ _ _⟩
      · have hst := Lib.hid (show l.take (k + 1) = m.take (k + 1) by rw [take_step Hx.out, take_step Hy.out, Htk.out, beq_iff_eq.1 h0])
        go_quiet (fail)
        go_wp2
        go_roundw
        case rel => exact ⟨k + 1, _, by omega, by go_num, hst.out, rfl⟩
        case measure => simp [intOf]; omega
    · have hfin := Lib.hid (show decide (l = m) = true by
        have e : k = l.length := by omega
        have := Htk.out
        rw [e, List.take_length, Hlm.out, List.take_length] at this
        exact decide_eq_true this)
      go_wp2
      go_ret
      exact ⟨by rw [hfin.out]; rfl, _, rfl⟩
theorem uequal_any (v v' : Value) (l m : List Int) (w : World) (hl : l.length ≤ 1099511627776) (h : wordsAt w v l) (h' : wordsAt w v' m) :
    Calls Try.prog 19 #[v, v'] w fun e w' => e = .returned (.bool (decide (l = m))) ∧ ∃ n, w' = w.drewN n := by
  by_cases hlm : l.length = m.length
  · rcases words_cases h with ⟨rfl, ao, cap, rfl⟩ | ⟨hne, b, off, cap, rfl, hc⟩
    · obtain rfl : m = [] := List.eq_nil_of_length_eq_zero (by simpa using hlm.symm)
      obtain ⟨ao', cap', rfl⟩ := words_shape h'
      exact (uequal_empty ao ao' cap cap' w).mono fun e w' ⟨he, hw⟩ => ⟨he, 0, hw⟩
    · rcases words_cases h' with ⟨rfl, _⟩ | ⟨_, b', off', cap', rfl, hc'⟩
      · exact absurd (List.eq_nil_of_length_eq_zero (by simpa using hlm)) hne
      · have := uequal_some b off b' off' cap cap' l m w hlm hl hc hc'
        rw [← hlm]
        exact this
  · obtain ⟨ao, cap, rfl⟩ := words_shape h
    obtain ⟨ao', cap', rfl⟩ := words_shape h'
    have hd : decide (l = m) = false := by rw [decide_eq_false_iff_not]; intro e; exact hlm (by rw [e])
    rw [hd]
    exact (uequal_none ao ao' _ _ cap cap' w hlm).mono fun e w' ⟨he, hw⟩ => ⟨he, 0, hw⟩

/-! ### slices.Clone at words -/
theorem infoU : (Try.prog.info? 38).map (fun i => (i.zero, i.size, i.bytes)) = some (some (.int .u64 0), 1, 8) := by kernel_rfl
/-- The values of a list of words. -/
def wflat (l : List Int) : List Value := l.map (Value.int .u64)
theorem words_of_row {w : World} {base : Nat} {v : Value} {l : List Int} (h : w.ownsRow base 38 1 v l.length (wflat l)) : wordsAt w v l ∧ rowAt w v ∧ ∀ g, v.ownBlock = some g → base ≤ g := by
  rcases h.2 with ⟨rfl, h0⟩ | ⟨g, cap, cur, rfl, hb, hg, hle, hcap, hcur, htake⟩
  · exact ⟨.inl ⟨List.eq_nil_of_length_eq_zero h0, _, _, rfl⟩, (fun b (hb : none = some b) => by cases hb), fun g (hg : none = some g) => by cases hg⟩
  · refine ⟨?_, fun b hb' => ?_, fun b hb' => ?_⟩
    · by_cases hne : l = []
      · subst hne; exact .inl ⟨rfl, _, _, rfl⟩
      · refine .inr ⟨hne, g, 0, cap, rfl, (Array.getElem?_eq_some_iff.1 hg).1, fun i x he => ?_⟩
        have hi : i < l.length := (List.getElem?_eq_some_iff.1 he).1
        have hu : (wflat l)[i]? = some (.int .u64 x) := by unfold wflat; rw [List.getElem?_map, he]; rfl
        rw [cell_of_row w g (0 + i) cur _ (0, 0) hg, Nat.zero_add]
        rw [← htake, List.getElem?_take, if_pos (by omega)] at hu
        simpa using hu
    · cases hb'
      exact ⟨_, _, hg⟩
    · cases hb'
      exact hb
def WCloneOf (w : World) (l : List Int) (e : Ending) (w' : World) : Prop :=
  ∃ v, e = .returned v ∧ w'.ownsRow w.heap.size 38 1 v l.length (wflat l) ∧ Keeps (fun _ => False) w w'
theorem uclone_nil (c : Nat) (w : World) : Calls Try.prog 17 #[.slice none 0 c] w (WCloneOf w []) := by
  have hnil : ∀ w, (binOp .eql 36 (.slice none 0 c) (.slice none 0 0)).run Try.prog w = .ok (.bool true) w := fun w => Lib.run_eql_slice_nil w 36 38 none 0 c 0 0 Try.underlying36
  go_enter Try.func17, Try.ntmps17
  go_wp2
  go_ret
  exact ⟨.slice none 0 0, rfl, World.ownsRow_nil _ _ _ _, Keeps.refl _ _⟩
theorem wflat_length (l : List Int) : (wflat l).length = l.length := by unfold wflat; simp
theorem wflat_one (l : List Int) : ∀ u ∈ wflat l, u.oneCell' = true := by
  intro u hu
  unfold wflat at hu
  obtain ⟨x, _, rfl⟩ := List.mem_map.1 hu
  rfl
theorem uclone_some (ad : Addr) (n cap : Nat) (l : List Int) (w : World) (hl : n ≤ 1099511627776) (hn : (wflat l).length = n * 1) (h : ∀ j u, (wflat l)[j]? = some u → w.cell? (ad.add j) = some u) : Calls Try.prog 17 #[.slice (some ad) n cap] w (WCloneOf w l) := by
  have hnil : ∀ w, (binOp .eql 36 (.slice (some ad) n cap) (.slice none 0 0)).run Try.prog w = .ok (.bool false) w := fun w => Lib.run_eql_slice_nil w 36 38 (some ad) n cap 0 0 Try.underlying36
  obtain ⟨i0, hi, hz0, hz1, hz2⟩ := info_parts infoU
  have Hn := Lib.hid hn
  clear hn
  have hrow := World.ownsRow_made w (base := w.heap.size) (e := 38) (size := 1) #[] 0 (Nat.le_refl _) (by simp) rfl
  go_enter Try.func17, Try.ntmps17
  go_wp2_with (at_builtin; refine wpList_append_own _ rfl _ _ 36 rfl w.heap.size 38 i0 (.int .u64 0) 1 8 Try.underlying36 hi hz0 hz1 hz2 rfl (by decide) _ _ _ rfl hrow ad n cap (wflat l) rfl Hn.out ?c1 ?c2 ?c3 ?c4 ?c5 ?_)
  case c1 =>
    intro j u hj
    have hc := h j u hj
    have hlt := World.block_lt_of_cell? w _ hc
    rw [World.cell?_of_block (w := w) (Below.heap_alloc w _ _ hlt)]
    exact hc
  case c2 => exact wflat_one l
  case c3 => unfold maxLen; omega
  case c4 => omega
  case c5 => simp
  intro v' w1 hown1 hgrow1 _
  go_wp2
  go_ret
  have hn : n = l.length := by
    have h1 := Hn.out
    rw [wflat_length] at h1
    omega
  subst hn
  exact ⟨v', rfl, hown1, ((Keeps.refl _ w).alloc _).grown hgrow1 (fun k e hk => by cases e; exact absurd hk (Nat.lt_irrefl _))⟩
theorem uclone_any (v : Value) (l : List Int) (w : World) (hl : l.length ≤ 1099511627776) (h : wordsAt w v l) : Calls Try.prog 17 #[v] w (WCloneOf w l) := by
  rcases words_cases h with ⟨rfl, ao, cap, rfl⟩ | ⟨hne, b, off, cap, rfl, hc⟩
  · cases ao with
    | none => exact uclone_nil cap w
    | some ad => exact uclone_some ad 0 cap [] w (by omega) rfl (fun j u hj => by simp [wflat] at hj)
  · refine uclone_some _ _ cap l w hl (by rw [wflat_length]; omega) (fun j u hj => ?_)
    unfold wflat at hj
    rw [List.getElem?_map] at hj
    cases hx : l[j]? with
    | none => rw [hx] at hj; cases hj
    | some x =>
      rw [hx] at hj
      cases hj
      have hadd : (⟨b, off, none⟩ : Addr).add j = ⟨b, off + j, none⟩ := by unfold Addr.add; split <;> simp_all
      rw [hadd]
      exact hc j x hx
end Go.Proofs.Ytacbnlkbbaiedaa.ar
