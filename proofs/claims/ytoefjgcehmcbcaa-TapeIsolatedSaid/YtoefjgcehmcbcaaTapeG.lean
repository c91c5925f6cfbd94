/- The references of layer 10: what they return, by walking their text. -/
import Derived.Test.YtoefjgcehmcbcaaTapeF
namespace Go.Proofs.Ytoefjgcehmcbcaa.tp
open Go Go.RowKit Go.Maps

set_option maxHeartbeats 800000 in
theorem rfirst_lt (b off b' off' cap cap' : Nat) (l m : List Ev) (w : World) (hlm : l.length < m.length) (_hl : l.length ≤ 1099511627776) (hm : m.length ≤ 1099511627776) (h : cellsAt w b off l) (h' : cellsAt w b' off' m) :
    Calls Try.prog 18 #[.slice (some ⟨b, off, none⟩) l.length cap, .slice (some ⟨b', off', none⟩) m.length cap'] w fun e w' => e = .returned (.int .i64 (firstE l m)) ∧ ∃ n, w' = w.drewN n := by
  go_enter Try.func18, Try.ntmps18
  go_wp2
  go_loopw [5] (fun i wr => ∃ k n : Nat, k ≤ l.length ∧ i = .int .i64 k ∧ l.take k = m.take k ∧ wr = w.drewN n) (fun i _ => l.length - (intOf i).toNat)
  case atStart => exact ⟨0, 0, Nat.zero_le _, rfl, rfl, rfl⟩
  case round =>
    obtain ⟨k, n, hk, rfl, htk, rfl⟩ := hrel
    have Htk := Lib.hid htk
    clear htk
    by_cases hlt : k < l.length
    · obtain ⟨⟨x0, x1, x2⟩, hx⟩ : ∃ e, l[k]? = some e := ⟨l[k]'(by exact hlt), by simp⟩
      obtain ⟨⟨y0, y1, y2⟩, hy⟩ : ∃ e, m[k]? = some e := ⟨m[k]'(by omega), by simp⟩
      obtain ⟨p0, p1, p2⟩ := h k _ hx
      obtain ⟨q0, q1, q2⟩ := h' k _ hy
      have Hx := Lib.hid hx
      have Hy := Lib.hid hy
      clear hx hy
      have hlt' : (k : Int) < (l.length : Nat) := by omega
      have hlt2 : (k : Int) < (m.length : Nat) := by omega
      go_wp2
      cases h0 : (x0 != y0)
      · cases h1 : (x1 != y1)
        · cases h2 : (x2 != y2)
          · have hst := Lib.hid (take_same Htk.out Hx.out (by rw [Hy.out, bne_eq_false_iff_eq.1 h0, bne_eq_false_iff_eq.1 h1, bne_eq_false_iff_eq.1 h2]))
            go_quiet (fail)
            go_wp2
            go_roundw
            case rel => exact ⟨k + 1, _, by omega, by go_num, hst.out, rfl⟩
            case measure => simp [intOf]; omega
          · have hne := Lib.hid (firstE_at k l m _ _ Htk.out Hx.out Hy.out (fun e => by cases e; simp at h2))
            go_quiet (fail)
            go_wp2
            go_ret
            exact ⟨by rw [hne.out]; rfl, n + nq, World.drewN_drewN _ _ _⟩
        · have hne := Lib.hid (firstE_at k l m _ _ Htk.out Hx.out Hy.out (fun e => by cases e; simp at h1))
          go_quiet (fail)
          go_wp2
          go_ret
          exact ⟨by rw [hne.out]; rfl, n + nq, World.drewN_drewN _ _ _⟩
      · have hne := Lib.hid (firstE_at k l m _ _ Htk.out Hx.out Hy.out (fun e => by cases e; simp at h0))
        go_quiet (fail)
        go_wp2
        go_ret
        exact ⟨by rw [hne.out]; rfl, n + nq, World.drewN_drewN _ _ _⟩
    · have hfin := Lib.hid (show firstE l m = (l.length : Nat) by
        have e : k = l.length := by omega
        have ht := Htk.out
        rw [e] at ht
        have hmin : min l.length m.length = l.length := by omega
        have := firstE_end l m (by omega) (by rw [hmin]; exact ht)
        rw [hmin] at this
        exact this)
      have htest : (((l.length : Nat) : Int) == ((m.length : Nat) : Int)) = false := by rw [beq_eq_false_iff_ne]; omega
      go_wp2
      go_ret
      exact ⟨by rw [hfin.out]; rfl, _, rfl⟩
set_option maxHeartbeats 800000 in
theorem rfirst_gt (b off b' off' cap cap' : Nat) (l m : List Ev) (w : World) (hlm : m.length < l.length) (hl : l.length ≤ 1099511627776) (_hm : m.length ≤ 1099511627776) (h : cellsAt w b off l) (h' : cellsAt w b' off' m) :
    Calls Try.prog 18 #[.slice (some ⟨b, off, none⟩) l.length cap, .slice (some ⟨b', off', none⟩) m.length cap'] w fun e w' => e = .returned (.int .i64 (firstE l m)) ∧ ∃ n, w' = w.drewN n := by
  go_enter Try.func18, Try.ntmps18
  go_wp2
  go_loopw [5] (fun i wr => ∃ k n : Nat, k ≤ m.length ∧ i = .int .i64 k ∧ l.take k = m.take k ∧ wr = w.drewN n) (fun i _ => m.length - (intOf i).toNat)
  case atStart => exact ⟨0, 0, Nat.zero_le _, rfl, rfl, rfl⟩
  case round =>
    obtain ⟨k, n, hk, rfl, htk, rfl⟩ := hrel
    have Htk := Lib.hid htk
    clear htk
    by_cases hlt : k < m.length
    · obtain ⟨⟨x0, x1, x2⟩, hx⟩ : ∃ e, l[k]? = some e := ⟨l[k]'(by omega), by simp⟩
      obtain ⟨⟨y0, y1, y2⟩, hy⟩ : ∃ e, m[k]? = some e := ⟨m[k]'(by exact hlt), by simp⟩
      obtain ⟨p0, p1, p2⟩ := h k _ hx
      obtain ⟨q0, q1, q2⟩ := h' k _ hy
      have Hx := Lib.hid hx
      have Hy := Lib.hid hy
      clear hx hy
      have hlt' : (k : Int) < (m.length : Nat) := by omega
      have hlt2 : (k : Int) < (l.length : Nat) := by omega
      go_wp2
      cases h0 : (x0 != y0)
      · cases h1 : (x1 != y1)
        · cases h2 : (x2 != y2)
          · have hst := Lib.hid (take_same Htk.out Hx.out (by rw [Hy.out, bne_eq_false_iff_eq.1 h0, bne_eq_false_iff_eq.1 h1, bne_eq_false_iff_eq.1 h2]))
            go_quiet (fail)
            go_wp2
            go_roundw
            case rel => exact ⟨k + 1, _, by omega, by go_num, hst.out, rfl⟩
            case measure => simp [intOf]; omega
          · have hne := Lib.hid (firstE_at k l m _ _ Htk.out Hx.out Hy.out (fun e => by cases e; simp at h2))
            go_quiet (fail)
            go_wp2
            go_ret
            exact ⟨by rw [hne.out]; rfl, n + nq, World.drewN_drewN _ _ _⟩
        · have hne := Lib.hid (firstE_at k l m _ _ Htk.out Hx.out Hy.out (fun e => by cases e; simp at h1))
          go_quiet (fail)
          go_wp2
          go_ret
          exact ⟨by rw [hne.out]; rfl, n + nq, World.drewN_drewN _ _ _⟩
      · have hne := Lib.hid (firstE_at k l m _ _ Htk.out Hx.out Hy.out (fun e => by cases e; simp at h0))
        go_quiet (fail)
        go_wp2
        go_ret
        exact ⟨by rw [hne.out]; rfl, n + nq, World.drewN_drewN _ _ _⟩
    · have hfin := Lib.hid (show firstE l m = (m.length : Nat) by
        have e : k = m.length := by omega
        have ht := Htk.out
        rw [e] at ht
        have hmin : min l.length m.length = m.length := by omega
        have := firstE_end l m (by omega) (by rw [hmin]; exact ht)
        rw [hmin] at this
        exact this)
      have htest : (((l.length : Nat) : Int) == ((m.length : Nat) : Int)) = false := by rw [beq_eq_false_iff_ne]; omega
      go_wp2
      go_ret
      exact ⟨by rw [hfin.out]; rfl, _, rfl⟩
set_option maxHeartbeats 800000 in
theorem rfirst_eq (b off b' off' cap cap' : Nat) (l m : List Ev) (w : World) (hlm : l.length = m.length) (hl : l.length ≤ 1099511627776) (_hm : m.length ≤ 1099511627776) (h : cellsAt w b off l) (h' : cellsAt w b' off' m) :
    Calls Try.prog 18 #[.slice (some ⟨b, off, none⟩) l.length cap, .slice (some ⟨b', off', none⟩) l.length cap'] w fun e w' => e = .returned (.int .i64 (firstE l m)) ∧ ∃ n, w' = w.drewN n := by
  have Hlm := Lib.hid hlm
  clear hlm _hm
  go_enter Try.func18, Try.ntmps18
  go_wp2
  go_loopw [5] (fun i wr => ∃ k n : Nat, k ≤ l.length ∧ i = .int .i64 k ∧ l.take k = m.take k ∧ wr = w.drewN n) (fun i _ => l.length - (intOf i).toNat)
  case atStart => exact ⟨0, 0, Nat.zero_le _, rfl, rfl, rfl⟩
  case round =>
    obtain ⟨k, n, hk, rfl, htk, rfl⟩ := hrel
    have Htk := Lib.hid htk
    clear htk
    by_cases hlt : k < l.length
    · obtain ⟨⟨x0, x1, x2⟩, hx⟩ : ∃ e, l[k]? = some e := ⟨l[k]'(by exact hlt), by simp⟩
      obtain ⟨⟨y0, y1, y2⟩, hy⟩ : ∃ e, m[k]? = some e := ⟨m[k]'(by rw [← Hlm.out]; exact hlt), by simp⟩
      obtain ⟨p0, p1, p2⟩ := h k _ hx
      obtain ⟨q0, q1, q2⟩ := h' k _ hy
      have Hx := Lib.hid hx
      have Hy := Lib.hid hy
      clear hx hy
      have hlt' : (k : Int) < (l.length : Nat) := by omega
      skip
      go_wp2
      cases h0 : (x0 != y0)
      · cases h1 : (x1 != y1)
        · cases h2 : (x2 != y2)
          · have hst := Lib.hid (take_same Htk.out Hx.out (by rw [Hy.out, bne_eq_false_iff_eq.1 h0, bne_eq_false_iff_eq.1 h1, bne_eq_false_iff_eq.1 h2]))
            go_quiet (fail)
            go_wp2
            go_roundw
            case rel => exact ⟨k + 1, _, by omega, by go_num, hst.out, rfl⟩
            case measure => simp [intOf]; omega
          · have hne := Lib.hid (firstE_at k l m _ _ Htk.out Hx.out Hy.out (fun e => by cases e; simp at h2))
            go_quiet (fail)
            go_wp2
            go_ret
            exact ⟨by rw [hne.out]; rfl, n + nq, World.drewN_drewN _ _ _⟩
        · have hne := Lib.hid (firstE_at k l m _ _ Htk.out Hx.out Hy.out (fun e => by cases e; simp at h1))
          go_quiet (fail)
          go_wp2
          go_ret
          exact ⟨by rw [hne.out]; rfl, n + nq, World.drewN_drewN _ _ _⟩
      · have hne := Lib.hid (firstE_at k l m _ _ Htk.out Hx.out Hy.out (fun e => by cases e; simp at h0))
        go_quiet (fail)
        go_wp2
        go_ret
        exact ⟨by rw [hne.out]; rfl, n + nq, World.drewN_drewN _ _ _⟩
    · have hfin := Lib.hid (show firstE l m = -1 by
        have e : k = l.length := by omega
        have ht := Htk.out
        rw [e] at ht
        have hmin : min l.length m.length = l.length := by have := Hlm.out; omega
        exact firstE_all Hlm.out (by rw [hmin]; exact ht))
      go_wp2
      go_ret
      exact ⟨by rw [hfin.out]; rfl, _, rfl⟩
theorem rfirst_ee (ao ao' : Option Addr) (cap cap' : Nat) (w : World)  :
    Calls Try.prog 18 #[.slice ao 0 cap, .slice ao' 0 cap'] w fun e w' => e = .returned (.int .i64 (-1)) ∧ ∃ n, w' = w.drewN n := by
  go_enter Try.func18, Try.ntmps18
  go_wp2
  refine wp_loop_rounds 1 ?_
  rw [rounds_succ]
  go_wp2
  go_ret
  exact ⟨rfl, 0, rfl⟩
theorem rfirst_en (ao ao' : Option Addr) (cap cap' mm : Nat) (w : World) (hm : 0 < mm) (_hm : mm ≤ 1099511627776) :
    Calls Try.prog 18 #[.slice ao 0 cap, .slice ao' mm cap'] w fun e w' => e = .returned (.int .i64 (0)) ∧ ∃ n, w' = w.drewN n := by
  have htest : ((0 : Int) == ((mm : Nat) : Int)) = false := by rw [beq_eq_false_iff_ne]; omega
  go_enter Try.func18, Try.ntmps18
  go_wp2
  refine wp_loop_rounds 1 ?_
  rw [rounds_succ]
  go_wp2
  go_ret
  exact ⟨rfl, 0, rfl⟩
theorem rfirst_ne (ao ao' : Option Addr) (cap cap' nn : Nat) (w : World) (hm : 0 < nn) (_hm : nn ≤ 1099511627776) :
    Calls Try.prog 18 #[.slice ao nn cap, .slice ao' 0 cap'] w fun e w' => e = .returned (.int .i64 (0)) ∧ ∃ n, w' = w.drewN n := by
  have htest : (((nn : Nat) : Int) == (0 : Int)) = false := by rw [beq_eq_false_iff_ne]; omega
  go_enter Try.func18, Try.ntmps18
  go_wp2
  refine wp_loop_rounds 1 ?_
  rw [rounds_succ]
  go_wp2
  go_ret
  exact ⟨rfl, 0, rfl⟩

theorem rfirst_calls (v v' : Value) (l m : List Ev) (w : World) (hl : l.length ≤ 1099511627776) (hm : m.length ≤ 1099511627776) (h : evAt w v l) (h' : evAt w v' m) :
    Calls Try.prog 18 #[v, v'] w fun e w' => e = .returned (.int .i64 (firstE l m)) ∧ ∃ n, w' = w.drewN n := by
  rcases h with ⟨rfl, ao, cap, rfl⟩ | ⟨hne, b, off, cap, rfl, _, hc⟩
  · obtain ⟨ao', cap', rfl⟩ := h'.shape
    cases m with
    | nil => exact rfirst_ee ao ao' cap cap' w
    | cons f m => exact rfirst_en ao ao' cap cap' (f :: m).length w (by simp) hm
  · rcases h' with ⟨rfl, ao', cap', rfl⟩ | ⟨hne', b', off', cap', rfl, _, hc'⟩
    · cases l with
      | nil => exact absurd rfl hne
      | cons f l => exact rfirst_ne _ ao' cap cap' (f :: l).length w (by simp) hl
    · rcases (show l.length < m.length ∨ l.length = m.length ∨ m.length < l.length from by omega) with hlm | hlm | hlm
      · exact rfirst_lt b off b' off' cap cap' l m w hlm hl hm hc hc'
      · rw [← hlm]; exact rfirst_eq b off b' off' cap cap' l m w hlm hl hm hc hc'
      · exact rfirst_gt b off b' off' cap cap' l m w hlm hl hm hc hc'
theorem same_calls (v v' : Value) (l m : List Ev) (w : World) (hl : l.length ≤ 1099511627776) (hm : m.length ≤ 1099511627776) (h : evAt w v l) (h' : evAt w v' m) :
    Calls Try.prog 11 #[v, v'] w fun e w' => e = .returned (.bool (decide (l = m))) ∧ ∃ n, w' = w.drewN n := by
  have hg := firstE_ge l m
  have hd : decide (l = m) = decide (firstE l m < 0) := by
    have := firstE_same l m
    by_cases hlm : l = m
    · rw [decide_eq_true hlm, decide_eq_true (by rw [this.2 hlm]; omega)]
    · rw [decide_eq_false hlm, decide_eq_false (fun h => hlm (this.1 (by omega)))]
  rw [hd]
  clear hd
  go_enter Try.func11, Try.ntmps11
  go_wp2_with fail
  refine (rfirst_calls v v' l m _ hl hm h h').mono ?_; rintro e w' ⟨rfl, n, rfl⟩
  go_wp2_with fail
  go_ret
  exact ⟨rfl, n, rfl⟩
theorem cntE_take_succ {l : List Ev} {k : Nat} {e : Ev} (h : l[k]? = some e) (q : Int) : (cntE (l.take (k + 1)) q : Nat) = cntE (l.take k) q + if e.1 == q then 1 else 0 := by
  rw [List.take_add_one, h]
  show cntE (l.take k ++ [e]) q = _
  rw [cntE_snoc]
  by_cases hq : e.1 = q
  · rw [if_pos hq, if_pos (by simpa using hq)]
  · rw [if_neg hq, if_neg (by simpa using hq)]; rfl
theorem rcount_empty (ao : Option Addr) (cap : Nat) (q : Int) (w : World) :
    Calls Try.prog 15 #[.slice ao 0 cap, .int .i64 q] w fun e w' => e = .returned (.int .i64 0) ∧ w' = w := by
  go_enter Try.func15, Try.ntmps15
  go_wp2
  refine wp_loop_rounds 1 ?_
  rw [rounds_succ]
  go_wp2
  go_ret
  exact ⟨rfl, rfl⟩
theorem rcount_some (b off cap : Nat) (l : List Ev) (q : Int) (w : World) (hl : l.length ≤ 1099511627776) (h : cellsAt w b off l) :
    Calls Try.prog 15 #[.slice (some ⟨b, off, none⟩) l.length cap, .int .i64 q] w fun e w' => e = .returned (.int .i64 (cntE l q : Nat)) ∧ w' = w := by
  go_enter Try.func15, Try.ntmps15
  go_wp2
  go_loop [5, 6] (fun c i => ∃ k : Nat, k ≤ l.length ∧ i = .int .i64 k ∧ c = .int .i64 (cntE (l.take k) q : Nat)) (fun _ i => l.length - (intOf i).toNat)
  case atStart => exact ⟨0, Nat.zero_le _, rfl, rfl⟩
  case round =>
    obtain ⟨k, hk, rfl, rfl⟩ := hrel
    have hcl : cntE (l.take k) q ≤ l.length := Nat.le_trans (cntE_le _ _) (by rw [List.length_take]; omega)
    by_cases hlt : k < l.length
    · obtain ⟨⟨x0, x1, x2⟩, hx⟩ : ∃ e, l[k]? = some e := ⟨l[k], by simp [hlt]⟩
      obtain ⟨p0, p1, p2⟩ := h k _ hx
      have Hs := Lib.hid (cntE_take_succ hx q)
      clear hx
      cases hq : (x0 == q)
      · have Ht := Lib.hid (show cntE (l.take (k + 1)) q = cntE (l.take k) q by rw [Hs.out]; simp [hq])
        go_wp2
        go_round
        case rel => exact ⟨k + 1, by omega, by go_num, by rw [Ht.out]⟩
        case measure => simp [intOf]; omega
      · have Ht := Lib.hid (show cntE (l.take (k + 1)) q = cntE (l.take k) q + 1 by rw [Hs.out]; simp [hq])
        go_wp2
        go_round
        case rel => exact ⟨k + 1, by omega, by go_num, by rw [Ht.out]; go_num⟩
        case measure => simp [intOf]; omega
    · have e : k = l.length := by omega
      subst e
      go_wp2
      go_ret
      exact ⟨rfl, rfl⟩
theorem rcount_calls (v : Value) (l : List Ev) (q : Int) (w : World) (hl : l.length ≤ 1099511627776) (h : evAt w v l) :
    Calls Try.prog 15 #[v, .int .i64 q] w fun e w' => e = .returned (.int .i64 (cntE l q : Nat)) ∧ w' = w := by
  rcases h with ⟨rfl, ao, cap, rfl⟩ | ⟨hne, b, off, cap, rfl, _, hc⟩
  · exact rcount_empty ao cap q w
  · exact rcount_some b off cap l q w hl hc
end Go.Proofs.Ytoefjgcehmcbcaa.tp
