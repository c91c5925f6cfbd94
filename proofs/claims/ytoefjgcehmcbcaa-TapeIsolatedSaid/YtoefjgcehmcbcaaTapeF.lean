/- tape.First and tape.Events: what they return, by walking their text. -/
import Derived.Test.YtoefjgcehmcbcaaTapeR
namespace Go.Proofs.Ytoefjgcehmcbcaa.tp
open Go Go.RowKit Go.Maps

/-- Events -/
theorem events_calls (p : Value) (S : Nat → Prop) (l : List Ev) (w : World) (hl : l.length ≤ 1099511627776) (h : ptrAt w S p l) :
    Calls Try.prog 12 #[p] w (CloneOf w l) := by
  go_enter Try.func12, Try.ntmps12
  go_wp2_with fail
  refine (all_any p S l _ h).mono ?_; rintro e w' ⟨v, n, rfl, hev, hg, rfl⟩
  go_wp2_with fail
  refine (clone_any v l _ hl (by exact hev)).mono ?_; rintro e w' ⟨v', rfl, hr, hk⟩
  go_wp2_with fail
  go_ret
  exact ⟨v', rfl, hr, ⟨hk.os, hk.tape, hk.output, hk.size, hk.block⟩⟩

set_option maxHeartbeats 400000 in
theorem first_lt (b off b' off' cap cap' : Nat) (l m : List Ev) (w : World) (hlm : l.length < m.length) (_hl : l.length ≤ 1099511627776) (hm : m.length ≤ 1099511627776) (p q : Value) (hp : ∀ n, Calls Try.prog 22 #[p] (w.drewN n) fun e w' => e = .returned (.slice (some ⟨b, off, none⟩) l.length cap) ∧ ∃ n, w' = w.drewN n)
    (hq : ∀ n, Calls Try.prog 22 #[q] (w.drewN n) fun e w' => e = .returned (.slice (some ⟨b', off', none⟩) m.length cap') ∧ ∃ m, w' = w.drewN m) (h : cellsAt w b off l) (h' : cellsAt w b' off' m) :
    Calls Try.prog 17 #[p, q] w fun e w' => e = .returned (.int .i64 (firstE l m)) ∧ ∃ n, w' = w.drewN n := by
  have Hp := Lib.hid hp
  have Hq := Lib.hid hq
  clear hp hq
  go_enter Try.func17, Try.ntmps17
  go_wp2_with fail
  refine (Hp.out 0).mono ?_; rintro e w' ⟨rfl, n0, rfl⟩
  go_wp2_with fail
  refine (Hq.out n0).mono ?_; rintro e w' ⟨rfl, n1, rfl⟩
  clear Hp Hq
  go_wp2
  go_loopw [19] (fun i wr => ∃ k n : Nat, k ≤ l.length ∧ i = .int .i64 k ∧ l.take k = m.take k ∧ wr = w.drewN n) (fun i _ => l.length - (intOf i).toNat)
  case atStart => exact ⟨0, _, Nat.zero_le _, rfl, rfl, rfl⟩
  case round =>
    obtain ⟨k, n, hk, rfl, htk, rfl⟩ := hrel
    have Htk := Lib.hid htk
    clear htk
    by_cases hlt : k < l.length
    · obtain ⟨⟨x0, x1, x2⟩, hx⟩ : ∃ e, l[k]? = some e := ⟨l[k]'(by exact hlt), by simp⟩
      obtain ⟨⟨y0, y1, y2⟩, hy⟩ : ∃ e, m[k]? = some e := ⟨m[k]'(by omega), by simp⟩
      obtain ⟨p0, p1, p2⟩ := h k _ hx
      obtain ⟨q0, q1, q2⟩ := h' k _ hy
      have Hx := Lib.hid hx
      have Hy := Lib.hid hy
      clear hx hy
      have hlt' : (k : Int) < (l.length : Nat) := by omega
      have hlt2 : (k : Int) < (m.length : Nat) := by omega
      go_wp2
      cases h0 : (x0 == y0)
      · have hne := Lib.hid (firstE_at k l m _ _ Htk.out Hx.out Hy.out (fun e => by cases e; simp at h0))
        go_quiet (fail)
        go_wp2
        go_ret
        exact ⟨by rw [hne.out]; rfl, n + nq, World.drewN_drewN _ _ _⟩
      · cases h1 : (x1 == y1)
        · have hne := Lib.hid (firstE_at k l m _ _ Htk.out Hx.out Hy.out (fun e => by cases e; simp at h1))
          go_quiet (fail)
          go_wp2
          go_ret
          exact ⟨by rw [hne.out]; rfl, n + nq, World.drewN_drewN _ _ _⟩
        · cases h2 : (x2 == y2)
          · have hne := Lib.hid (firstE_at k l m _ _ Htk.out Hx.out Hy.out (fun e => by cases e; simp at h2))
            go_quiet (fail)
            go_wp2
            go_ret
            exact ⟨by rw [hne.out]; rfl, n + nq, World.drewN_drewN _ _ _⟩
          · have hst := Lib.hid (take_same Htk.out Hx.out (by rw [Hy.out, beq_iff_eq.1 h0, beq_iff_eq.1 h1, beq_iff_eq.1 h2]))
            go_quiet (fail)
            go_wp2
            go_roundw
            case rel => exact ⟨k + 1, _, by omega, by go_num, hst.out, rfl⟩
            case measure => simp [intOf]; omega
    · have hfin := Lib.hid (show firstE l m = (l.length : Nat) by
        have e : k = l.length := by omega
        have ht := Htk.out
        rw [e] at ht
        have hmin : min l.length m.length = l.length := by omega
        have := firstE_end l m (by omega) (by rw [hmin]; exact ht)
        rw [hmin] at this
        exact this)
      have htest : (((l.length : Nat) : Int) == ((m.length : Nat) : Int)) = false := by rw [beq_eq_false_iff_ne]; omega
      go_wp2
      go_ret
      exact ⟨by rw [hfin.out]; rfl, _, rfl⟩
set_option maxHeartbeats 400000 in
theorem first_gt (b off b' off' cap cap' : Nat) (l m : List Ev) (w : World) (hlm : m.length < l.length) (hl : l.length ≤ 1099511627776) (_hm : m.length ≤ 1099511627776) (p q : Value) (hp : ∀ n, Calls Try.prog 22 #[p] (w.drewN n) fun e w' => e = .returned (.slice (some ⟨b, off, none⟩) l.length cap) ∧ ∃ n, w' = w.drewN n)
    (hq : ∀ n, Calls Try.prog 22 #[q] (w.drewN n) fun e w' => e = .returned (.slice (some ⟨b', off', none⟩) m.length cap') ∧ ∃ m, w' = w.drewN m) (h : cellsAt w b off l) (h' : cellsAt w b' off' m) :
    Calls Try.prog 17 #[p, q] w fun e w' => e = .returned (.int .i64 (firstE l m)) ∧ ∃ n, w' = w.drewN n := by
  have Hp := Lib.hid hp
  have Hq := Lib.hid hq
  clear hp hq
  go_enter Try.func17, Try.ntmps17
  go_wp2_with fail
  refine (Hp.out 0).mono ?_; rintro e w' ⟨rfl, n0, rfl⟩
  go_wp2_with fail
  refine (Hq.out n0).mono ?_; rintro e w' ⟨rfl, n1, rfl⟩
  clear Hp Hq
  go_wp2
  go_loopw [19] (fun i wr => ∃ k n : Nat, k ≤ m.length ∧ i = .int .i64 k ∧ l.take k = m.take k ∧ wr = w.drewN n) (fun i _ => m.length - (intOf i).toNat)
  case atStart => exact ⟨0, _, Nat.zero_le _, rfl, rfl, rfl⟩
  case round =>
    obtain ⟨k, n, hk, rfl, htk, rfl⟩ := hrel
    have Htk := Lib.hid htk
    clear htk
    by_cases hlt : k < m.length
    · obtain ⟨⟨x0, x1, x2⟩, hx⟩ : ∃ e, l[k]? = some e := ⟨l[k]'(by omega), by simp⟩
      obtain ⟨⟨y0, y1, y2⟩, hy⟩ : ∃ e, m[k]? = some e := ⟨m[k]'(by exact hlt), by simp⟩
      obtain ⟨p0, p1, p2⟩ := h k _ hx
      obtain ⟨q0, q1, q2⟩ := h' k _ hy
      have Hx := Lib.hid hx
      have Hy := Lib.hid hy
      clear hx hy
      have hlt' : (k : Int) < (m.length : Nat) := by omega
      have hlt2 : (k : Int) < (l.length : Nat) := by omega
      go_wp2
      cases h0 : (x0 == y0)
      · have hne := Lib.hid (firstE_at k l m _ _ Htk.out Hx.out Hy.out (fun e => by cases e; simp at h0))
        go_quiet (fail)
        go_wp2
        go_ret
        exact ⟨by rw [hne.out]; rfl, n + nq, World.drewN_drewN _ _ _⟩
      · cases h1 : (x1 == y1)
        · have hne := Lib.hid (firstE_at k l m _ _ Htk.out Hx.out Hy.out (fun e => by cases e; simp at h1))
          go_quiet (fail)
          go_wp2
          go_ret
          exact ⟨by rw [hne.out]; rfl, n + nq, World.drewN_drewN _ _ _⟩
        · cases h2 : (x2 == y2)
          · have hne := Lib.hid (firstE_at k l m _ _ Htk.out Hx.out Hy.out (fun e => by cases e; simp at h2))
            go_quiet (fail)
            go_wp2
            go_ret
            exact ⟨by rw [hne.out]; rfl, n + nq, World.drewN_drewN _ _ _⟩
          · have hst := Lib.hid (take_same Htk.out Hx.out (by rw [Hy.out, beq_iff_eq.1 h0, beq_iff_eq.1 h1, beq_iff_eq.1 h2]))
            go_quiet (fail)
            go_wp2
            go_roundw
            case rel => exact ⟨k + 1, _, by omega, by go_num, hst.out, rfl⟩
            case measure => simp [intOf]; omega
    · have hfin := Lib.hid (show firstE l m = (m.length : Nat) by
        have e : k = m.length := by omega
        have ht := Htk.out
        rw [e] at ht
        have hmin : min l.length m.length = m.length := by omega
        have := firstE_end l m (by omega) (by rw [hmin]; exact ht)
        rw [hmin] at this
        exact this)
      have htest : (((l.length : Nat) : Int) == ((m.length : Nat) : Int)) = false := by rw [beq_eq_false_iff_ne]; omega
      go_wp2
      go_ret
      exact ⟨by rw [hfin.out]; rfl, _, rfl⟩
set_option maxHeartbeats 400000 in
theorem first_eq (b off b' off' cap cap' : Nat) (l m : List Ev) (w : World) (hlm : l.length = m.length) (hl : l.length ≤ 1099511627776) (_hm : m.length ≤ 1099511627776) (p q : Value) (hp : ∀ n, Calls Try.prog 22 #[p] (w.drewN n) fun e w' => e = .returned (.slice (some ⟨b, off, none⟩) l.length cap) ∧ ∃ n, w' = w.drewN n)
    (hq : ∀ n, Calls Try.prog 22 #[q] (w.drewN n) fun e w' => e = .returned (.slice (some ⟨b', off', none⟩) l.length cap') ∧ ∃ m, w' = w.drewN m) (h : cellsAt w b off l) (h' : cellsAt w b' off' m) :
    Calls Try.prog 17 #[p, q] w fun e w' => e = .returned (.int .i64 (firstE l m)) ∧ ∃ n, w' = w.drewN n := by
  have Hp := Lib.hid hp
  have Hq := Lib.hid hq
  clear hp hq
  have Hlm := Lib.hid hlm
  clear hlm _hm
  go_enter Try.func17, Try.ntmps17
  go_wp2_with fail
  refine (Hp.out 0).mono ?_; rintro e w' ⟨rfl, n0, rfl⟩
  go_wp2_with fail
  refine (Hq.out n0).mono ?_; rintro e w' ⟨rfl, n1, rfl⟩
  clear Hp Hq
  go_wp2
  go_loopw [19] (fun i wr => ∃ k n : Nat, k ≤ l.length ∧ i = .int .i64 k ∧ l.take k = m.take k ∧ wr = w.drewN n) (fun i _ => l.length - (intOf i).toNat)
  case atStart => exact ⟨0, _, Nat.zero_le _, rfl, rfl, rfl⟩
  case round =>
    obtain ⟨k, n, hk, rfl, htk, rfl⟩ := hrel
    have Htk := Lib.hid htk
    clear htk
    by_cases hlt : k < l.length
    · obtain ⟨⟨x0, x1, x2⟩, hx⟩ : ∃ e, l[k]? = some e := ⟨l[k]'(by exact hlt), by simp⟩
      obtain ⟨⟨y0, y1, y2⟩, hy⟩ : ∃ e, m[k]? = some e := ⟨m[k]'(by rw [← Hlm.out]; exact hlt), by simp⟩
      obtain ⟨p0, p1, p2⟩ := h k _ hx
      obtain ⟨q0, q1, q2⟩ := h' k _ hy
      have Hx := Lib.hid hx
      have Hy := Lib.hid hy
      clear hx hy
      have hlt' : (k : Int) < (l.length : Nat) := by omega
      skip
      go_wp2
      cases h0 : (x0 == y0)
      · have hne := Lib.hid (firstE_at k l m _ _ Htk.out Hx.out Hy.out (fun e => by cases e; simp at h0))
        go_quiet (fail)
        go_wp2
        go_ret
        exact ⟨by rw [hne.out]; rfl, n + nq, World.drewN_drewN _ _ _⟩
      · cases h1 : (x1 == y1)
        · have hne := Lib.hid (firstE_at k l m _ _ Htk.out Hx.out Hy.out (fun e => by cases e; simp at h1))
          go_quiet (fail)
          go_wp2
          go_ret
          exact ⟨by rw [hne.out]; rfl, n + nq, World.drewN_drewN _ _ _⟩
        · cases h2 : (x2 == y2)
          · have hne := Lib.hid (firstE_at k l m _ _ Htk.out Hx.out Hy.out (fun e => by cases e; simp at h2))
            go_quiet (fail)
            go_wp2
            go_ret
            exact ⟨by rw [hne.out]; rfl, n + nq, World.drewN_drewN _ _ _⟩
          · have hst := Lib.hid (take_same Htk.out Hx.out (by rw [Hy.out, beq_iff_eq.1 h0, beq_iff_eq.1 h1, beq_iff_eq.1 h2]))
            go_quiet (fail)
            go_wp2
            go_roundw
            case rel => exact ⟨k + 1, _, by omega, by go_num, hst.out, rfl⟩
            case measure => simp [intOf]; omega
    · have hfin := Lib.hid (show firstE l m = -1 by
        have e : k = l.length := by omega
        have ht := Htk.out
        rw [e] at ht
        have hmin : min l.length m.length = l.length := by have := Hlm.out; omega
        exact firstE_all Hlm.out (by rw [hmin]; exact ht))
      go_wp2
      go_ret
      exact ⟨by rw [hfin.out]; rfl, _, rfl⟩
theorem first_ee (ao ao' : Option Addr) (cap cap' : Nat) (w : World)  (p q : Value) (hp : ∀ n, Calls Try.prog 22 #[p] (w.drewN n) fun e w' => e = .returned (.slice ao 0 cap) ∧ ∃ n, w' = w.drewN n)
    (hq : ∀ n, Calls Try.prog 22 #[q] (w.drewN n) fun e w' => e = .returned (.slice ao' 0 cap') ∧ ∃ m, w' = w.drewN m) :
    Calls Try.prog 17 #[p, q] w fun e w' => e = .returned (.int .i64 (-1)) ∧ ∃ n, w' = w.drewN n := by
  have Hp := Lib.hid hp
  have Hq := Lib.hid hq
  clear hp hq
  go_enter Try.func17, Try.ntmps17
  go_wp2_with fail
  refine (Hp.out 0).mono ?_; rintro e w' ⟨rfl, n0, rfl⟩
  go_wp2_with fail
  refine (Hq.out n0).mono ?_; rintro e w' ⟨rfl, n1, rfl⟩
  clear Hp Hq
  go_wp2
  refine wp_loop_rounds 1 ?_
  rw [rounds_succ]
  go_wp2
  go_ret
  exact ⟨rfl, _, rfl⟩
theorem first_en (ao ao' : Option Addr) (cap cap' mm : Nat) (w : World) (hm : 0 < mm) (_hm : mm ≤ 1099511627776) (p q : Value) (hp : ∀ n, Calls Try.prog 22 #[p] (w.drewN n) fun e w' => e = .returned (.slice ao 0 cap) ∧ ∃ n, w' = w.drewN n)
    (hq : ∀ n, Calls Try.prog 22 #[q] (w.drewN n) fun e w' => e = .returned (.slice ao' mm cap') ∧ ∃ m, w' = w.drewN m) :
    Calls Try.prog 17 #[p, q] w fun e w' => e = .returned (.int .i64 (0)) ∧ ∃ n, w' = w.drewN n := by
  have Hp := Lib.hid hp
  have Hq := Lib.hid hq
  clear hp hq
  have htest : ((0 : Int) == ((mm : Nat) : Int)) = false := by rw [beq_eq_false_iff_ne]; omega
  go_enter Try.func17, Try.ntmps17
  go_wp2_with fail
  refine (Hp.out 0).mono ?_; rintro e w' ⟨rfl, n0, rfl⟩
  go_wp2_with fail
  refine (Hq.out n0).mono ?_; rintro e w' ⟨rfl, n1, rfl⟩
  clear Hp Hq
  go_wp2
  refine wp_loop_rounds 1 ?_
  rw [rounds_succ]
  go_wp2
  go_ret
  exact ⟨rfl, _, rfl⟩
theorem first_ne (ao ao' : Option Addr) (cap cap' nn : Nat) (w : World) (hm : 0 < nn) (_hm : nn ≤ 1099511627776) (p q : Value) (hp : ∀ n, Calls Try.prog 22 #[p] (w.drewN n) fun e w' => e = .returned (.slice ao nn cap) ∧ ∃ n, w' = w.drewN n)
    (hq : ∀ n, Calls Try.prog 22 #[q] (w.drewN n) fun e w' => e = .returned (.slice ao' 0 cap') ∧ ∃ m, w' = w.drewN m) :
    Calls Try.prog 17 #[p, q] w fun e w' => e = .returned (.int .i64 (0)) ∧ ∃ n, w' = w.drewN n := by
  have Hp := Lib.hid hp
  have Hq := Lib.hid hq
  clear hp hq
  have htest : (((nn : Nat) : Int) == (0 : Int)) = false := by rw [beq_eq_false_iff_ne]; omega
  go_enter Try.func17, Try.ntmps17
  go_wp2_with fail
  refine (Hp.out 0).mono ?_; rintro e w' ⟨rfl, n0, rfl⟩
  go_wp2_with fail
  refine (Hq.out n0).mono ?_; rintro e w' ⟨rfl, n1, rfl⟩
  clear Hp Hq
  go_wp2
  refine wp_loop_rounds 1 ?_
  rw [rounds_succ]
  go_wp2
  go_ret
  exact ⟨rfl, _, rfl⟩

/-- First: the first place at which two tapes differ, or -1. -/
theorem first_calls (p q : Value) (S T : Nat → Prop) (l m : List Ev) (w : World) (hl : l.length ≤ 1099511627776) (hm : m.length ≤ 1099511627776) (h : ptrAt w S p l) (h' : ptrAt w T q m) :
    Calls Try.prog 17 #[p, q] w fun e w' => e = .returned (.int .i64 (firstE l m)) ∧ ∃ n, w' = w.drewN n := by
  obtain ⟨v, hev, _, hp⟩ := all_value p S l w h
  obtain ⟨v', hev', _, hq⟩ := all_value q T m w h'
  rcases hev with ⟨rfl, ao, cap, rfl⟩ | ⟨hne, b, off, cap, rfl, _, hc⟩
  · obtain ⟨ao', cap', rfl⟩ := hev'.shape
    cases m with
    | nil => exact first_ee ao ao' cap cap' w p q hp hq
    | cons f m => exact first_en ao ao' cap cap' (f :: m).length w (by simp) hm p q hp hq
  · rcases hev' with ⟨rfl, ao', cap', rfl⟩ | ⟨hne', b', off', cap', rfl, _, hc'⟩
    · cases l with
      | nil => exact absurd rfl hne
      | cons f l => exact first_ne _ ao' cap cap' (f :: l).length w (by simp) hl p q hp hq
    · rcases (show l.length < m.length ∨ l.length = m.length ∨ m.length < l.length from by omega) with hlm | hlm | hlm
      · exact first_lt b off b' off' cap cap' l m w hlm hl hm p q hp hq hc hc'
      · exact first_eq b off b' off' cap cap' l m w hlm hl hm p q hp (by rw [hlm]; exact hq) hc hc'
      · exact first_gt b off b' off' cap cap' l m w hlm hl hm p q hp hq hc hc'
end Go.Proofs.Ytoefjgcehmcbcaa.tp
