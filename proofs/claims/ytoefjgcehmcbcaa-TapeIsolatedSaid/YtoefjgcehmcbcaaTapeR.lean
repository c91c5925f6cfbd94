/- What the functions of package tape that only read return, by walking their text: all, Len, Count, Events, Equal, First; slices.Clone and slices.Equal at events. -/
import Derived.Test.YtoefjgcehmcbcaaTapeW
import Derived.Deep.QuietTactic
import Derived.BigQuiet
import Derived.Deep.RegionWith
import Derived.LoopTactic
namespace Go.Proofs.Ytoefjgcehmcbcaa.tp
open Go Go.RowKit Go.Maps

/-- A value that reads as l comes back; blocks of it lie in S; the call has only drawn. -/
def GivesEv (w : World) (S : Nat → Prop) (l : List Ev) (e : Ending) (w' : World) : Prop :=
  ∃ v n, e = .returned v ∧ evAt w v l ∧ (∀ g, v.ownBlock = some g → S g) ∧ w' = w.drewN n

theorem all_nil (w : World) : Calls Try.prog 22 #[.pointer none] w fun e w' => e = .returned (.slice none 0 0) ∧ w = w' := by
  go_enter Try.func22, Try.ntmps22
  go_wp2
  go_ret
  exact ⟨rfl, rfl⟩
/-- What 'all' gives, in this world and behind any draws: always the same value. -/
def AllVal (w : World) (S : Nat → Prop) (p : Value) (l : List Ev) (v : Value) : Prop :=
  evAt w v l ∧ (∀ g, v.ownBlock = some g → S g) ∧ ∀ n, Calls Try.prog 22 #[p] (w.drewN n) fun e w' => e = .returned v ∧ ∃ m, w' = w.drewN m
theorem all_val (b : Nat) (S : Nat → Prop) (l : List Ev) (w : World) (hT : tapeAt w S b l) : ∃ v, AllVal w S (.pointer (some ⟨b, 0, none⟩)) l v := by
  obtain ⟨hS, v, mb, D, hb, hrow, hg, hm, hown, hc⟩ := hT
  have hev := evAt_of_row hrow
  rcases hrow.2 with ⟨rfl, h0⟩ | ⟨g, cap, cur, rfl, _, hgg, hle, hcap, _⟩
  · have c0 : w.cell? ⟨b, 0, none⟩ = some (.slice none 0 0) := by rw [cell_of_row w b 0 _ _ _ hb]; rfl
    refine ⟨.slice none 0 0, hev, hg, fun n => ?_⟩
    clear hb hrow
    go_enter Try.func22, Try.ntmps22
    go_wp2
    go_quiet (fail)
    go_wp2
    go_ret
    exact ⟨rfl, _, World.drewN_drewN _ _ _⟩
  · have c0 : w.cell? ⟨b, 0, none⟩ = some (.slice (some ⟨g, 0, none⟩) l.length cap) := by rw [cell_of_row w b 0 _ _ _ hb]; rfl
    refine ⟨.slice (some ⟨g, 0, none⟩) l.length l.length, hev.cap _, hg, fun n => ?_⟩
    unfold maxLen at hcap
    have hle' : (l.length : Int) ≤ (cap : Int) := by omega
    clear hb hrow hgg
    go_enter Try.func22, Try.ntmps22
    go_wp2
    go_quiet (fail)
    go_wp2
    go_ret
    exact ⟨rfl, _, World.drewN_drewN _ _ _⟩

/-- A tape, or no tape (nil: it has no events). -/
def ptrAt (w : World) (S : Nat → Prop) (p : Value) (l : List Ev) : Prop := (p = .pointer none ∧ l = []) ∨ ∃ b, p = .pointer (some ⟨b, 0, none⟩) ∧ tapeAt w S b l
theorem all_value (p : Value) (S : Nat → Prop) (l : List Ev) (w : World) (hT : ptrAt w S p l) : ∃ v, AllVal w S p l v := by
  rcases hT with ⟨rfl, rfl⟩ | ⟨b, rfl, h⟩
  · exact ⟨.slice none 0 0, .inl ⟨rfl, _, _, rfl⟩, fun g h => by simp [Value.ownBlock] at h, fun n => (all_nil _).mono fun e w' ⟨he, hw⟩ => ⟨he, n, hw.symm⟩⟩
  · exact all_val b S l w h
theorem all_any (p : Value) (S : Nat → Prop) (l : List Ev) (w : World) (hT : ptrAt w S p l) :
    Calls Try.prog 22 #[p] w (GivesEv w S l) := by
  obtain ⟨v, hev, hg, hc⟩ := all_value p S l w hT
  exact (hc 0).mono fun e w' ⟨he, m, hw⟩ => ⟨v, m, he, hev, hg, hw⟩
theorem ptrAt.drewN {w : World} {S : Nat → Prop} {p : Value} {l : List Ev} (h : ptrAt w S p l) (n : Nat) : ptrAt (w.drewN n) S p l := h

theorem len_calls (p : Value) (S : Nat → Prop) (l : List Ev) (w : World) (hT : ptrAt w S p l) :
    Calls Try.prog 13 #[p] w fun e w' => e = .returned (.int .i64 (l.length : Nat)) ∧ ∃ n, w' = w.drewN n := by
  go_enter Try.func13, Try.ntmps13
  go_wp2_with fail
  refine (all_any p S l _ hT).mono ?_; rintro e w' ⟨v, n, rfl, hev, hg, rfl⟩
  obtain ⟨ao, cap, rfl⟩ := hev.shape
  go_wp2_with fail
  go_ret
  exact ⟨rfl, n, rfl⟩
theorem count_nil (k : Int) (w : World) : Calls Try.prog 14 #[.pointer none, .int .i64 k] w fun e w' => e = .returned (.int .i64 0) ∧ w = w' := by
  go_enter Try.func14, Try.ntmps14
  go_wp2
  go_ret
  exact ⟨rfl, rfl⟩
theorem count_calls (b : Nat) (S : Nat → Prop) (l : List Ev) (k : Int) (w : World) (hT : tapeAt w S b l) (hk : wf64 k = true) :
    Calls Try.prog 14 #[.pointer (some ⟨b, 0, none⟩), .int .i64 k] w fun e w' => e = .returned (.int .i64 (cntE l k : Nat)) ∧ w' = w := by
  obtain ⟨hS, v, mb, D, hb, hrow, hg, hm, hown, hc⟩ := hT
  have hkey := keyOf_int_mk Try.underlying3 hk
  have c1 : w.cell? ⟨b, 1, none⟩ = some (.map (some mb)) := by rw [cell_of_row w b 1 _ _ _ hb]; rfl
  clear hb hrow hg
  go_enter Try.func14, Try.ntmps14
  go_wp2_with (at_lookup; refine wpList_lookup_own_int _ rfl _ _ 44 rfl 3 3 .i64 lawInt Try.underlying44 Try.underlying3 (zeroInt _) mb l.length D rfl hown _ _ rfl hkey ?_; intro c hat hwc)
  go_ret
  have e := hc.2 k hk
  rw [hat] at e
  have e' : c = (cntE l k : Nat) := by simpa using e
  exact ⟨by rw [e']; rfl, rfl⟩
theorem count_any (p : Value) (S : Nat → Prop) (l : List Ev) (k : Int) (w : World) (hT : ptrAt w S p l) (hk : wf64 k = true) :
    Calls Try.prog 14 #[p, .int .i64 k] w fun e w' => e = .returned (.int .i64 (cntE l k : Nat)) ∧ w' = w := by
  rcases hT with ⟨rfl, rfl⟩ | ⟨b, rfl, h⟩
  · exact (count_nil k w).mono fun e w' ⟨he, hw⟩ => ⟨he, hw.symm⟩
  · exact count_calls b S l k w h hk

/-- slices.Equal at events -/
theorem equal_none (ao ao' : Option Addr) (n m cap cap' : Nat) (w : World) (hne : n ≠ m) :
    Calls Try.prog 23 #[.slice ao n cap, .slice ao' m cap'] w fun e w' => e = .returned (.bool false) ∧ w' = w := by
  have h : ((n : Int) != (m : Int)) = true := by rw [bne_iff_ne]; omega
  go_enter Try.func23, Try.ntmps23
  go_wp2
  go_ret
  exact ⟨rfl, rfl⟩
theorem equal_empty (ao ao' : Option Addr) (cap cap' : Nat) (w : World) :
    Calls Try.prog 23 #[.slice ao 0 cap, .slice ao' 0 cap'] w fun e w' => e = .returned (.bool true) ∧ w' = w := by
  go_enter Try.func23, Try.ntmps23
  go_wp2
  refine wp_loop_rounds 1 ?_
  rw [rounds_succ]
  go_wp2
  go_ret
  exact ⟨rfl, rfl⟩
theorem equal_some (b off b' off' cap cap' : Nat) (l m : List Ev) (w : World) (hlm : l.length = m.length) (hl : l.length ≤ 1099511627776) (h : cellsAt w b off l) (h' : cellsAt w b' off' m) :
    Calls Try.prog 23 #[.slice (some ⟨b, off, none⟩) l.length cap, .slice (some ⟨b', off', none⟩) l.length cap'] w fun e w' => e = .returned (.bool (decide (l = m))) ∧ ∃ n, w' = w.drewN n := by
  have Hlm := Lib.hid hlm
  clear hlm
  go_enter Try.func23, Try.ntmps23
  go_wp2
  go_loopw [13] (fun i wr => ∃ k n : Nat, k ≤ l.length ∧ i = .int .i64 k ∧ l.take k = m.take k ∧ wr = w.drewN n) (fun i _ => l.length - (intOf i).toNat)
  case atStart => exact ⟨0, 0, Nat.zero_le _, rfl, rfl, rfl⟩
  case round =>
    obtain ⟨k, n, hk, rfl, htk, rfl⟩ := hrel
    have Htk := Lib.hid htk
    clear htk
    by_cases hlt : k < l.length
    · obtain ⟨⟨x0, x1, x2⟩, hx⟩ : ∃ e, l[k]? = some e := ⟨l[k], by simp [hlt]⟩
      obtain ⟨⟨y0, y1, y2⟩, hy⟩ : ∃ e, m[k]? = some e := ⟨m[k]'(by rw [← Hlm.out]; exact hlt), by simp⟩
      obtain ⟨p0, p1, p2⟩ := h k _ hx
      obtain ⟨q0, q1, q2⟩ := h' k _ hy
      have Hx := Lib.hid hx
      have Hy := Lib.hid hy
      clear hx hy
      have hlt' : (k : Int) < (l.length : Int) := by omega
      go_wp2
      cases h0 : (x0 == y0)
      · have hne := Lib.hid (ne_at Hx.out Hy.out (fun e => by cases e; simp at h0))
        go_quiet (fail)
        go_wp2
        go_ret
        exact ⟨by rw [hne.out]; rfl, n + nq, World.drewN_drewN _ _ _⟩
      · cases h1 : (x1 == y1)
        · have hne := Lib.hid (ne_at Hx.out Hy.out (fun e => by cases e; simp at h1))
          go_quiet (fail)
          go_wp2
          go_ret
          exact ⟨by rw [hne.out]; rfl, n + nq, World.drewN_drewN _ _ _⟩
        · cases h2 : (x2 == y2)
          · have hne := Lib.hid (ne_at Hx.out Hy.out (fun e => by cases e; simp at h2))
            go_quiet (fail)
            go_wp2
            go_ret
            exact ⟨by rw [hne.out]; rfl, n + nq, World.drewN_drewN _ _ _⟩
          · have hst := Lib.hid (take_same Htk.out Hx.out (by rw [Hy.out, beq_iff_eq.1 h0, beq_iff_eq.1 h1, beq_iff_eq.1 h2]))
            go_quiet (fail)
            go_wp2
            go_roundw
            case rel => exact ⟨k + 1, _, by omega, by go_num, hst.out, rfl⟩
            case measure => simp [intOf]; omega
    · have hfin := Lib.hid (show decide (l = m) = true by
        have e : k = l.length := by omega
        have := Htk.out
        rw [e, List.take_length, Hlm.out, List.take_length] at this
        exact decide_eq_true this)
      go_wp2
      go_ret
      exact ⟨by rw [hfin.out]; rfl, _, rfl⟩
theorem equal_any (v v' : Value) (l m : List Ev) (w : World) (hl : l.length ≤ 1099511627776) (h : evAt w v l) (h' : evAt w v' m) :
    Calls Try.prog 23 #[v, v'] w fun e w' => e = .returned (.bool (decide (l = m))) ∧ ∃ n, w' = w.drewN n := by
  by_cases hlm : l.length = m.length
  · rcases h with ⟨rfl, ao, cap, rfl⟩ | ⟨hne, b, off, cap, rfl, _, hc⟩
    · obtain rfl : m = [] := List.eq_nil_of_length_eq_zero (by simpa using hlm.symm)
      obtain ⟨ao', cap', rfl⟩ := h'.shape
      exact (equal_empty ao ao' cap cap' w).mono fun e w' ⟨he, hw⟩ => ⟨he, 0, hw⟩
    · rcases h' with ⟨rfl, _⟩ | ⟨_, b', off', cap', rfl, _, hc'⟩
      · exact absurd (List.eq_nil_of_length_eq_zero (by simpa using hlm)) hne
      · have := equal_some b off b' off' cap cap' l m w hlm hl hc hc'
        rw [← hlm]
        exact this
  · obtain ⟨ao, cap, rfl⟩ := h.shape
    obtain ⟨ao', cap', rfl⟩ := h'.shape
    have hd : decide (l = m) = false := by rw [decide_eq_false_iff_not]; intro e; exact hlm (by rw [e])
    rw [hd]
    exact (equal_none ao ao' _ _ cap cap' w hlm).mono fun e w' ⟨he, hw⟩ => ⟨he, 0, hw⟩

/-- tape.Equal -/
theorem tequal_calls (p q : Value) (S T : Nat → Prop) (l m : List Ev) (w : World) (hl : l.length ≤ 1099511627776) (h : ptrAt w S p l) (h' : ptrAt w T q m) :
    Calls Try.prog 16 #[p, q] w fun e w' => e = .returned (.bool (decide (l = m))) ∧ ∃ n, w' = w.drewN n := by
  go_enter Try.func16, Try.ntmps16
  go_wp2_with fail
  refine (all_any p S l _ h).mono ?_; rintro e w' ⟨v, n, rfl, hev, hg, rfl⟩
  go_wp2_with fail
  refine (all_any q T m _ (h'.drewN n)).mono ?_; rintro e w' ⟨v', n', rfl, hev', hg', rfl⟩
  go_wp2_with fail
  refine (equal_any v v' l m _ hl (by exact hev) (by exact hev')).mono ?_; rintro e w' ⟨rfl, n'', rfl⟩
  go_wp2_with fail
  go_ret
  exact ⟨rfl, _, rfl⟩

/-- slices.Clone at events: the copy lies in a new block. -/
def CloneOf (w : World) (l : List Ev) (e : Ending) (w' : World) : Prop :=
  ∃ v, e = .returned v ∧ w'.ownsRow w.heap.size 36 3 v l.length (flat l) ∧ Keeps (fun _ => False) w w'
theorem clone_nil (c : Nat) (w : World) : Calls Try.prog 21 #[.slice none 0 c] w (CloneOf w []) := by
  have hnil : ∀ w, (binOp .eql 22 (.slice none 0 c) (.slice none 0 0)).run Try.prog w = .ok (.bool true) w := fun w => Lib.run_eql_slice_nil w 22 36 none 0 c 0 0 Try.underlying22
  go_enter Try.func21, Try.ntmps21
  go_wp2
  go_ret
  exact ⟨.slice none 0 0, rfl, World.ownsRow_nil _ _ _ _, Keeps.refl _ _⟩
theorem clone_some (ad : Addr) (n cap : Nat) (l : List Ev) (w : World) (hl : n ≤ 1099511627776) (hn : (flat l).length = n * 3) (h : ∀ j u, (flat l)[j]? = some u → w.cell? (ad.add j) = some u) : Calls Try.prog 21 #[.slice (some ad) n cap] w (CloneOf w l) := by
  have hnil : ∀ w, (binOp .eql 22 (.slice (some ad) n cap) (.slice none 0 0)).run Try.prog w = .ok (.bool false) w := fun w => Lib.run_eql_slice_nil w 22 36 (some ad) n cap 0 0 Try.underlying22
  obtain ⟨i0, hi, hz0, hz1, hz2⟩ := info_parts infoEv
  have Hn := Lib.hid hn
  clear hn
  have hrow := World.ownsRow_made w (base := w.heap.size) (e := 36) (size := 3) #[] 0 (Nat.le_refl _) (by simp) rfl
  go_enter Try.func21, Try.ntmps21
  go_wp2_with (at_builtin; refine wpList_append_own _ rfl _ _ 22 rfl w.heap.size 36 i0 (.agg #[.int .i64 0, .int .i64 0, .int .i64 0]) 3 24 Try.underlying22 hi hz0 hz1 hz2 rfl (by decide) _ _ _ rfl hrow ad n cap (flat l) rfl Hn.out ?c1 ?c2 ?c3 ?c4 ?c5 ?_)
  case c1 =>
    intro j u hj
    have hc := h j u hj
    have hlt := World.block_lt_of_cell? w _ hc
    rw [World.cell?_of_block (w := w) (Below.heap_alloc w _ _ hlt)]
    exact hc
  case c2 => exact flat_one_cell l
  case c3 => unfold maxLen; omega
  case c4 => omega
  case c5 => simp
  intro v' w1 hown1 hgrow1 _
  go_wp2
  go_ret
  have hn : n = l.length := by
    have h1 := Hn.out
    rw [flat_length] at h1
    omega
  subst hn
  exact ⟨v', rfl, hown1, ((Keeps.refl _ w).alloc _).grown hgrow1 (fun k e hk => by cases e; exact absurd hk (Nat.lt_irrefl _))⟩
theorem clone_any (v : Value) (l : List Ev) (w : World) (hl : l.length ≤ 1099511627776) (h : evAt w v l) : Calls Try.prog 21 #[v] w (CloneOf w l) := by
  rcases h with ⟨rfl, ao, cap, rfl⟩ | ⟨_, b, off, cap, rfl, _, hc⟩
  · cases ao with
    | none => exact clone_nil cap w
    | some ad => exact clone_some ad 0 cap [] w (by omega) rfl (fun j u hj => by simp [flat] at hj)
  · exact clone_some _ _ cap l w hl (flat_length l) (cells_flat hc)
end Go.Proofs.Ytoefjgcehmcbcaa.tp
