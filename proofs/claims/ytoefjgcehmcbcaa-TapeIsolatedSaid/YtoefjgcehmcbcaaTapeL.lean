/- The laws of layer 10 and what they share (the chapter's example, record), by walking their text over the contracts. -/
import Derived.Test.YtoefjgcehmcbcaaTapeG
namespace Go.Proofs.Ytoefjgcehmcbcaa.tp
open Go Go.RowKit Go.Maps

theorem note_nil (k a b : Int) (w : World) : Calls Try.prog 19 #[.pointer none, .int .i64 k, .int .i64 a, .int .i64 b] w fun e w' => e = .returned (.tuple #[]) ∧ w' = w := by
  go_enter Try.func19, Try.ntmps19
  go_wp2
  refine bodyPost_ret (results_none rfl _ _ _) rfl ?_
  exact ⟨rfl, rfl⟩

/-- A call that answers true and leaves what was there. -/
def Yes (w : World) (e : Ending) (w' : World) : Prop := e = .returned (.bool true) ∧ Keeps (fun _ => False) w w'

theorem Keeps.nothing {w w' : World} (h : Keeps (fun k => w.heap.size ≤ k) w w') : Keeps (fun _ => False) w w' :=
  h.mono (fun k hk h => absurd h (by omega))
theorem tapeAt.ptr {w : World} {S : Nat → Prop} {b : Nat} {l : List Ev} (h : tapeAt w S b l) : ptrAt w S (.pointer (some ⟨b, 0, none⟩)) l := .inr ⟨b, rfl, h⟩

/-- The literal of the chapter's example. -/
theorem lit_evAt (w : World) : evAt (w.alloc (.cells #[.int .i64 3, .int .i64 0, .int .i64 1, .int .i64 1, .int .i64 5, .int .i64 0] 36)) (.slice (some ⟨w.heap.size, 0, none⟩) 2 2) [(3, 0, 1), (1, 5, 0)] :=
  evAt_of_row (l := [(3, 0, 1), (1, 5, 0)]) (World.ownsRow_lit (base := 0) w _ 2 (Nat.zero_le _) (by decide) rfl)

theorem alive_calls (w : World) : Calls Try.prog 9 #[] w (Yes w) := by
  have k30 : EvOk (3, 0, 1) := ⟨by decide, by decide, by decide⟩
  have k15 : EvOk (1, 5, 0) := ⟨by decide, by decide, by decide⟩
  go_enter Try.func9, Try.ntmps9
  go_wp2_with fail
  refine (new_any w).mono ?_; rintro e w1 ⟨b, rfl, hT1, hk1⟩
  go_wp2_with fail
  refine (note_calls b _ [] (3, 0, 1) w1 hT1 k30 (by simp)).mono ?_; rintro e w2 ⟨rfl, hT2, hk2⟩
  go_wp2_with fail
  refine (note_calls b _ _ (1, 5, 0) w2 hT2 k15 (by simp)).mono ?_; rintro e w3 ⟨rfl, hT3, hk3⟩
  have hk : Keeps (fun k => w.heap.size ≤ k) w w3 := (((hk1.mono (fun _ _ h => h.elim)).trans hk2 (fun _ _ h => h)).trans hk3 (fun i hi h => by rcases h with h | h; exact h; have := hk1.size; omega))
  have hT : tapeAt w3 (fun k => w.heap.size ≤ k) b [(3, 0, 1), (1, 5, 0)] := hT3.mono (fun k _ h => by
    have h1 := hk1.size
    have h2 := hk2.size
    rcases h with (h | h) | h <;> omega)
  clear hT1 hT2 hT3 hk1 hk2 hk3
  go_wp2_with fail
  refine (len_calls _ _ _ w3 hT.ptr).mono ?_; rintro e w' ⟨rfl, n, rfl⟩
  go_wp2_with fail
  have cc := count_any _ _ _ 3 _ (hT.drewN n).ptr (by decide)
  rw [show cntE [(3, 0, 1), (1, 5, 0)] 3 = 1 from by decide] at cc
  refine cc.mono ?_; clear cc; rintro e w' ⟨rfl, rfl⟩
  go_wp2_with fail
  refine (new_any _).mono ?_; rintro e w4 ⟨b', rfl, hT4, hk4⟩
  have hT5 : tapeAt w4 (fun k => w.heap.size ≤ k) b [(3, 0, 1), (1, 5, 0)] := (hT.drewN n).keep hk4 (fun _ _ _ h => h)
  go_wp2_with fail
  have cc := first_calls _ _ _ _ _ _ w4 (by simp) (by simp) hT5.ptr hT4.ptr
  rw [show firstE [(3, 0, 1), (1, 5, 0)] [] = 0 from by decide] at cc
  refine cc.mono ?_; clear cc; rintro e w' ⟨rfl, n2, rfl⟩
  go_wp2_with fail
  have cc := tequal_calls _ _ _ _ _ _ _ (by simp) (hT5.drewN n2).ptr (hT5.drewN n2).ptr
  rw [decide_eq_true rfl] at cc
  refine cc.mono ?_; clear cc; rintro e w' ⟨rfl, n3, rfl⟩
  go_wp2_with fail
  have cc := tequal_calls _ _ _ (fun _ => False) _ [] _ (by simp) (hT5.drewN (n2 + n3)).ptr (.inl ⟨rfl, rfl⟩)
  rw [decide_eq_false (by simp)] at cc
  refine cc.mono ?_; clear cc; rintro e w' ⟨rfl, n4, rfl⟩
  go_wp2_with fail
  refine (events_calls _ _ _ _ (by simp) (hT5.drewN _).ptr).mono ?_; rintro e w5 ⟨v, rfl, hr5, hk5⟩
  have hev := evAt_of_row hr5
  have hlit := lit_evAt w5
  have hev6 := hev.keep (S := fun _ => False) ((Keeps.refl _ w5).alloc (.cells #[.int .i64 3, .int .i64 0, .int .i64 1, .int .i64 1, .int .i64 5, .int .i64 0] 36)) (fun _ _ _ h => h)
  clear hT4 hT5 hr5
  go_wp2_with fail
  have cc := same_calls _ _ _ _ _ (by simp) (by simp) hev6 hlit
  rw [decide_eq_true rfl] at cc
  refine cc.mono ?_; clear cc; rintro e w' ⟨rfl, n5, rfl⟩
  go_wp2_with fail
  go_ret
  refine ⟨rfl, Keeps.drewN ?_ _⟩
  have hk' := hk.drewN n
  have hk6 : Keeps (fun k => w.heap.size ≤ k) w w4 := hk'.trans hk4 (fun _ _ h => h.elim)
  have hk7 : Keeps (fun k => w.heap.size ≤ k) w w5 := (hk6.drewN (n2 + n3 + n4)).trans hk5 (fun _ _ h => h.elim)
  exact (hk7.alloc _).nothing

/-- record: a new tape with the events of a list. -/
theorem record_empty (ao : Option Addr) (cap : Nat) (w : World) : Calls Try.prog 10 #[.slice ao 0 cap] w fun e w' => ∃ b, e = .returned (.pointer (some ⟨b, 0, none⟩)) ∧ tapeAt w' (fun k => w.heap.size ≤ k) b [] ∧ Keeps (fun _ => False) w w' := by
  go_enter Try.func10, Try.ntmps10
  go_wp2_with fail
  refine (new_any w).mono ?_; rintro e w1 ⟨b, rfl, hT1, hk1⟩
  go_wp2_with fail
  refine wp_loop_rounds 1 ?_
  rw [rounds_succ]
  go_wp2
  go_ret
  exact ⟨b, rfl, hT1, hk1⟩
theorem record_some (c off cap : Nat) (l : List Ev) (w : World) (hl : l.length ≤ 1099511627776) (hlt : c < w.heap.size) (h : cellsAt w c off l) (hok : ∀ e ∈ l, EvOk e) :
    Calls Try.prog 10 #[.slice (some ⟨c, off, none⟩) l.length cap] w fun e w' => ∃ b, e = .returned (.pointer (some ⟨b, 0, none⟩)) ∧ tapeAt w' (fun k => w.heap.size ≤ k) b l ∧ Keeps (fun _ => False) w w' := by
  go_enter Try.func10, Try.ntmps10
  go_wp2_with fail
  refine (new_any w).mono ?_; rintro e w1 ⟨b, rfl, hT1, hk1⟩
  go_wp2_with fail
  go_loopw [5, 9] (fun _ i wr => ∃ k : Nat, k ≤ l.length ∧ i = .int .i64 k ∧ tapeAt wr (fun k => w.heap.size ≤ k) b (l.take k) ∧ Keeps (fun k => w.heap.size ≤ k) w wr) (fun _ i _ => l.length - (intOf i).toNat)
  case atStart => exact ⟨0, Nat.zero_le _, rfl, hT1, hk1.mono (fun _ _ h => h.elim)⟩
  case round =>
    obtain ⟨k, hk, rfl, hT, hK⟩ := hrel
    by_cases hlk : k < l.length
    · obtain ⟨⟨x0, x1, x2⟩, hx⟩ : ∃ e, l[k]? = some e := ⟨l[k], by simp [hlk]⟩
      have hxo := hok _ (List.mem_of_getElem? hx)
      obtain ⟨p0, p1, p2⟩ := (h.keep hK hlt (by omega)) k _ hx
      have Hs := Lib.hid (show l.take (k + 1) = l.take k ++ [(x0, x1, x2)] by rw [List.take_add_one, hx]; rfl)
      clear hx
      have hTa : tapeAt (wr.alloc (.cells #[.int .i64 x0, .int .i64 x1, .int .i64 x2] 36)) (fun k => w.heap.size ≤ k) b (l.take k) := hT.keep (T := fun _ => False) ((Keeps.refl _ wr).alloc _) (fun _ _ _ h => h)
      have hKa : Keeps (fun k => w.heap.size ≤ k) w (wr.alloc (.cells #[.int .i64 x0, .int .i64 x1, .int .i64 x2] 36)) := hK.alloc _
      have hlen : (l.take k).length ≤ 1099511627776 := by rw [List.length_take]; omega
      have hsz := hKa.size
      clear hT hK
      go_wp2_with fail
      refine (note_calls b _ (l.take k) (x0, x1, x2) _ hTa hxo hlen).mono ?_; rintro e w2 ⟨rfl, hT', hK'⟩
      have hT2 : tapeAt w2 (fun k => w.heap.size ≤ k) b (l.take (k + 1)) := by
        rw [Hs.out]
        exact hT'.mono (fun i _ hi => by rcases hi with hi | hi; exact hi; omega)
      have hK2 : Keeps (fun k => w.heap.size ≤ k) w w2 := hKa.trans hK' (fun _ _ h => h)
      clear hT' hK' hTa hKa hlen hsz
      go_wp2_with fail
      go_roundw
      case rel => exact ⟨k + 1, by omega, by go_num, hT2, hK2⟩
      case measure => simp [intOf]; omega
    · have e : k = l.length := by omega
      subst e
      have hT2 : tapeAt wr (fun k => w.heap.size ≤ k) b l := by rw [List.take_length] at hT; exact hT
      clear hT
      go_wp2
      go_ret
      exact ⟨b, rfl, hT2, hK.nothing⟩
theorem record_calls (v : Value) (l : List Ev) (w : World) (hl : l.length ≤ 1099511627776) (h : evAt w v l) (hok : ∀ e ∈ l, EvOk e) :
    Calls Try.prog 10 #[v] w fun e w' => ∃ b, e = .returned (.pointer (some ⟨b, 0, none⟩)) ∧ tapeAt w' (fun k => w.heap.size ≤ k) b l ∧ Keeps (fun _ => False) w w' := by
  rcases h with ⟨rfl, ao, cap, rfl⟩ | ⟨hne, b, off, cap, rfl, hlt, hc⟩
  · exact record_empty ao cap w
  · exact record_some b off cap l w hl hlt hc hok

/-! ### the laws -/
theorem keeps_ev {w w' : World} {v : Value} {l : List Ev} (h : evAt w v l) (hk : Keeps (fun _ => False) w w') : evAt w' v l := h.keep hk (fun _ _ _ h => h)
theorem Keeps.nil_trans {a b c : World} (h : Keeps (fun _ => False) a b) (k : Keeps (fun _ => False) b c) : Keeps (fun _ => False) a c := h.trans k (fun _ _ h => h)
theorem tapeAt.still {w w' : World} {S : Nat → Prop} {b : Nat} {l : List Ev} (h : tapeAt w S b l) (hk : Keeps (fun _ => False) w w') : tapeAt w' S b l := h.keep hk (fun _ _ _ h => h)

set_option maxHeartbeats 400000 in
theorem records_law (v : Value) (l : List Ev) (q : Int) (w : World) (h : evAt w v l) (hok : ∀ e ∈ l, EvOk e) (hq : wf64 q = true) (hreach : l.length ≤ 9223372036854775807) :
    Calls Try.prog 3 #[v, .int .i64 q] w (Yes w) := by
  obtain ⟨ao, cap, rfl⟩ := h.shape
  by_cases hbig : 1000 < l.length
  · go_enter Try.func3, Try.ntmps3
    go_wp2_with fail
    refine (alive_calls _).mono ?_; rintro e w1 ⟨rfl, hk1⟩
    go_wp2_with fail
    go_ret
    exact ⟨rfl, hk1⟩
  · have hl : l.length ≤ 1099511627776 := by omega
    go_enter Try.func3, Try.ntmps3
    go_wp2_with fail
    refine (record_calls _ l w hl h hok).mono ?_; rintro e w1 ⟨b, rfl, hT1, hk1⟩
    have h1 := keeps_ev h hk1
    go_wp2_with fail
    refine (alive_calls _).mono ?_; rintro e w2 ⟨rfl, hk2⟩
    have h2 := keeps_ev h1 hk2
    have hT2 := hT1.still hk2
    have hk02 := hk1.nil_trans hk2
    clear h h1 hT1 hk1 hk2
    go_wp2_with fail
    refine (events_calls _ _ l _ hl hT2.ptr).mono ?_; rintro e w3 ⟨v3, rfl, hr3, hk3⟩
    have hev3 := evAt_of_row hr3
    have h3 := keeps_ev h2 hk3
    have hT3 := hT2.still hk3
    have hk03 := hk02.nil_trans hk3
    clear h2 hT2 hk02 hk3 hr3
    go_wp2_with fail
    have cc := same_calls _ _ l l w3 hl hl hev3 h3
    rw [decide_eq_true rfl] at cc
    refine cc.mono ?_; clear cc; rintro e w' ⟨rfl, n, rfl⟩
    go_wp2_with fail
    refine (len_calls _ _ l _ (hT3.drewN n).ptr).mono ?_; rintro e w' ⟨rfl, n1, rfl⟩
    go_wp2_with fail
    refine (count_any _ _ l q _ (hT3.drewN _).ptr hq).mono ?_; rintro e w' ⟨rfl, rfl⟩
    go_wp2_with fail
    refine (rcount_calls _ l q _ hl (by exact h3)).mono ?_; rintro e w' ⟨rfl, rfl⟩
    go_wp2_with fail
    go_ret
    exact ⟨rfl, hk03.drewN _⟩

set_option maxHeartbeats 400000 in
theorem compares_law (v v' : Value) (l m : List Ev) (w : World) (h : evAt w v l) (h' : evAt w v' m) (hok : ∀ e ∈ l, EvOk e) (hok' : ∀ e ∈ m, EvOk e) (hreach : l.length ≤ 9223372036854775807) (hreach' : m.length ≤ 9223372036854775807) :
    Calls Try.prog 4 #[v, v'] w (Yes w) := by
  obtain ⟨ao, cap, rfl⟩ := h.shape
  obtain ⟨ao', cap', rfl⟩ := h'.shape
  by_cases hbig : 1000 < l.length
  · go_enter Try.func4, Try.ntmps4
    go_wp2_with fail
    refine (alive_calls _).mono ?_; rintro e w1 ⟨rfl, hk1⟩
    go_wp2_with fail
    go_ret
    exact ⟨rfl, hk1⟩
  · by_cases hbig' : 1000 < m.length
    · go_enter Try.func4, Try.ntmps4
      go_wp2_with fail
      refine (alive_calls _).mono ?_; rintro e w1 ⟨rfl, hk1⟩
      go_wp2_with fail
      go_ret
      exact ⟨rfl, hk1⟩
    · have hl : l.length ≤ 1099511627776 := by omega
      have hm : m.length ≤ 1099511627776 := by omega
      go_enter Try.func4, Try.ntmps4
      go_wp2_with fail
      refine (record_calls _ l w hl h hok).mono ?_; rintro e w1 ⟨b, rfl, hT1, hk1⟩
      have h1 := keeps_ev h' hk1
      have g1 := keeps_ev h hk1
      go_wp2_with fail
      refine (record_calls _ m w1 hm h1 hok').mono ?_; rintro e w2 ⟨b', rfl, hU2, hk2⟩
      have h2 := keeps_ev h1 hk2
      have g2 := keeps_ev g1 hk2
      have hT2 := hT1.still hk2
      go_wp2_with fail
      refine (alive_calls _).mono ?_; rintro e w3 ⟨rfl, hk3⟩
      have h3 := keeps_ev h2 hk3
      have g3 := keeps_ev g2 hk3
      have hT3 := hT2.still hk3
      have hU3 := hU2.still hk3
      have hk03 := (hk1.nil_trans hk2).nil_trans hk3
      clear h h' h1 g1 h2 g2 hT1 hT2 hU2 hk1 hk2 hk3
      go_wp2_with fail
      refine (tequal_calls _ _ _ _ l m _ hl hT3.ptr hU3.ptr).mono ?_; rintro e w' ⟨rfl, n, rfl⟩
      go_wp2_with fail
      refine (same_calls _ _ l m _ hl hm (g3.drewN n) (h3.drewN n)).mono ?_; rintro e w' ⟨rfl, n1, rfl⟩
      go_wp2_with fail
      refine (first_calls _ _ _ _ l m _ hl hm (hT3.drewN _).ptr (hU3.drewN _).ptr).mono ?_; rintro e w' ⟨rfl, n2, rfl⟩
      go_wp2_with fail
      refine (rfirst_calls _ _ l m _ hl hm (g3.drewN _) (h3.drewN _)).mono ?_; rintro e w' ⟨rfl, n3, rfl⟩
      go_wp2_with fail
      refine (first_calls _ _ _ _ m l _ hm hl (hU3.drewN _).ptr (hT3.drewN _).ptr).mono ?_; rintro e w' ⟨rfl, n4, rfl⟩
      go_wp2_with fail
      refine (rfirst_calls _ _ m l _ hm hl (h3.drewN _) (g3.drewN _)).mono ?_; rintro e w' ⟨rfl, n5, rfl⟩
      go_wp2_with fail
      go_ret
      exact ⟨rfl, hk03.drewN _⟩

set_option maxHeartbeats 400000 in
theorem nil_law (e : Ev) (v : Value) (l : List Ev) (w : World) (he : EvOk e) (h : evAt w v l) (hok : ∀ e ∈ l, EvOk e) (hreach : l.length ≤ 9223372036854775807) :
    Calls Try.prog 7 #[evV e, v] w (Yes w) := by
  obtain ⟨ao, cap, rfl⟩ := h.shape
  obtain ⟨k0, k1, k2⟩ := e
  unfold evV
  by_cases hbig : 1000 < l.length
  · go_enter Try.func7, Try.ntmps7
    go_wp2_with fail
    refine (alive_calls _).mono ?_; rintro e w1 ⟨rfl, hk1⟩
    go_wp2_with fail
    go_ret
    exact ⟨rfl, ((Keeps.refl _ w).alloc _).nil_trans hk1⟩
  · have hl : l.length ≤ 1099511627776 := by omega
    have hka : Keeps (fun _ => False) w (w.alloc (.cells #[.int .i64 k0, .int .i64 k1, .int .i64 k2] 36)) := (Keeps.refl _ w).alloc _
    have h1 := keeps_ev h hka
    have hE : (w.alloc (.cells #[.int .i64 k0, .int .i64 k1, .int .i64 k2] 36)).cell? ⟨w.heap.size, 0, none⟩ = some (.int .i64 k0) := by rw [cell_of_row _ _ 0 _ _ _ (heap_alloc_new w _)]; rfl
    cases hnil : l.isEmpty
    · have hne : l ≠ [] := by intro e; rw [e] at hnil; simp at hnil
      have hz : (((l.length : Nat) : Int) == 0) = false := by
        rw [beq_eq_false_iff_ne]
        intro e
        exact hne (List.eq_nil_of_length_eq_zero (by omega))
      have HD := Lib.hid (show decide ([] = l) = false by rw [decide_eq_false_iff_not]; exact fun e => hne e.symm)
      have HF := Lib.hid (firstE_nil hne)
      clear hnil hne h
      go_enter Try.func7, Try.ntmps7
      go_wp2_with fail
      refine (note_nil k0 k1 k2 _).mono ?_; rintro e w' ⟨rfl, rfl⟩
      go_wp2_with fail
      refine (record_calls _ l _ hl h1 hok).mono ?_; rintro e w1 ⟨b, rfl, hT1, hk1⟩
      have h2 := keeps_ev h1 hk1
      have hk01 := hka.nil_trans hk1
      have hE1 := (hk1.cell (p := ⟨w.heap.size, 0, none⟩) (by simp) (fun h => h)).trans hE
      clear h1 hka hE hk1
      go_wp2_with fail
      refine (alive_calls _).mono ?_; rintro e w2 ⟨rfl, hk2⟩
      have hT2 := hT1.still hk2
      have hk02 := hk01.nil_trans hk2
      have hE2 := (hk2.cell (p := ⟨w.heap.size, 0, none⟩) (World.block_lt_of_cell? _ _ hE1) (fun h => h)).trans hE1
      clear h2 hT1 hk01 hE1 hk2
      go_wp2_with fail
      have cc := len_calls (.pointer none) (fun _ => False) [] w2 (.inl ⟨rfl, rfl⟩)
      rw [List.length_nil] at cc
      refine cc.mono ?_; clear cc; rintro e w' ⟨rfl, n, rfl⟩
      go_wp2_with fail
      refine (events_calls (.pointer none) (fun _ => False) [] _ (by simp) (.inl ⟨rfl, rfl⟩)).mono ?_; rintro e w3 ⟨v3, rfl, hr3, hk3⟩
      obtain ⟨ao3, cap3, rfl⟩ := (evAt_of_row hr3).shape
      have hT3 := (hT2.drewN n).still hk3
      have hk03 := (hk02.drewN n).nil_trans hk3
      have hE3 := (hk3.cell (p := ⟨w.heap.size, 0, none⟩) (World.block_lt_of_cell? _ _ hE2) (fun h => h)).trans hE2
      clear hT2 hk02 hE2 hk3 hr3
      go_wp2_with fail
      have cc := count_any (.pointer none) (fun _ => False) [] k0 w3 (.inl ⟨rfl, rfl⟩) he.1
      rw [show cntE [] k0 = 0 from rfl] at cc
      refine cc.mono ?_; clear cc; rintro e w4 ⟨rfl, rfl⟩
      go_wp2_with fail
      have cc := tequal_calls (.pointer none) _ (fun _ => False) _ [] l w4 (by simp) (.inl ⟨rfl, rfl⟩) hT3.ptr
      rw [HD.out] at cc
      refine cc.mono ?_; clear cc; rintro e w' ⟨rfl, n1, rfl⟩
      go_wp2_with fail
      have cc := first_calls (.pointer none) _ (fun _ => False) _ [] l (w4.drewN n1) (by simp) hl (.inl ⟨rfl, rfl⟩) (hT3.drewN n1).ptr
      rw [HF.out] at cc
      refine cc.mono ?_; clear cc; rintro e w' ⟨rfl, n2, rfl⟩
      go_wp2_with fail
      have cc := first_calls (.pointer none) (.pointer none) (fun _ => False) (fun _ => False) [] [] (w4.drewN (n1 + n2)) (by simp) (by simp) (.inl ⟨rfl, rfl⟩) (.inl ⟨rfl, rfl⟩)
      rw [show firstE [] [] = -1 from rfl] at cc
      refine cc.mono ?_; clear cc; rintro e w' ⟨rfl, n3, rfl⟩
      go_wp2_with fail
      go_ret
      exact ⟨rfl, hk03.drewN _⟩
    · obtain rfl : l = [] := by simpa using hnil
      have HF := Lib.hid (show firstE [] [] = -1 from rfl)
      clear hnil h hl hbig
      have hl : ([] : List Ev).length ≤ 1099511627776 := by simp
      go_enter Try.func7, Try.ntmps7
      go_wp2_with fail
      refine (note_nil k0 k1 k2 _).mono ?_; rintro e w' ⟨rfl, rfl⟩
      go_wp2_with fail
      refine (record_calls _ [] _ hl h1 hok).mono ?_; rintro e w1 ⟨b, rfl, hT1, hk1⟩
      have h2 := keeps_ev h1 hk1
      have hk01 := hka.nil_trans hk1
      have hE1 := (hk1.cell (p := ⟨w.heap.size, 0, none⟩) (by simp) (fun h => h)).trans hE
      clear h1 hka hE hk1
      go_wp2_with fail
      refine (alive_calls _).mono ?_; rintro e w2 ⟨rfl, hk2⟩
      have hT2 := hT1.still hk2
      have hk02 := hk01.nil_trans hk2
      have hE2 := (hk2.cell (p := ⟨w.heap.size, 0, none⟩) (World.block_lt_of_cell? _ _ hE1) (fun h => h)).trans hE1
      clear h2 hT1 hk01 hE1 hk2
      go_wp2_with fail
      have cc := len_calls (.pointer none) (fun _ => False) [] w2 (.inl ⟨rfl, rfl⟩)
      rw [List.length_nil] at cc
      refine cc.mono ?_; clear cc; rintro e w' ⟨rfl, n, rfl⟩
      go_wp2_with fail
      refine (events_calls (.pointer none) (fun _ => False) [] _ (by simp) (.inl ⟨rfl, rfl⟩)).mono ?_; rintro e w3 ⟨v3, rfl, hr3, hk3⟩
      obtain ⟨ao3, cap3, rfl⟩ := (evAt_of_row hr3).shape
      have hT3 := (hT2.drewN n).still hk3
      have hk03 := (hk02.drewN n).nil_trans hk3
      have hE3 := (hk3.cell (p := ⟨w.heap.size, 0, none⟩) (World.block_lt_of_cell? _ _ hE2) (fun h => h)).trans hE2
      clear hT2 hk02 hE2 hk3 hr3
      go_wp2_with fail
      have cc := count_any (.pointer none) (fun _ => False) [] k0 w3 (.inl ⟨rfl, rfl⟩) he.1
      rw [show cntE [] k0 = 0 from rfl] at cc
      refine cc.mono ?_; clear cc; rintro e w4 ⟨rfl, rfl⟩
      go_wp2_with fail
      have cc := tequal_calls (.pointer none) _ (fun _ => False) _ [] [] w4 (by simp) (.inl ⟨rfl, rfl⟩) hT3.ptr
      rw [decide_eq_true rfl] at cc
      refine cc.mono ?_; clear cc; rintro e w' ⟨rfl, n1, rfl⟩
      go_wp2_with fail
      have cc := first_calls (.pointer none) _ (fun _ => False) _ [] [] (w4.drewN n1) (by simp) hl (.inl ⟨rfl, rfl⟩) (hT3.drewN n1).ptr
      rw [HF.out] at cc
      refine cc.mono ?_; clear cc; rintro e w' ⟨rfl, n2, rfl⟩
      go_wp2_with fail
      have cc := first_calls (.pointer none) (.pointer none) (fun _ => False) (fun _ => False) [] [] (w4.drewN (n1 + n2)) (by simp) (by simp) (.inl ⟨rfl, rfl⟩) (.inl ⟨rfl, rfl⟩)
      rw [show firstE [] [] = -1 from rfl] at cc
      refine cc.mono ?_; clear cc; rintro e w' ⟨rfl, n3, rfl⟩
      go_wp2_with fail
      go_ret
      exact ⟨rfl, hk03.drewN _⟩

/-- Below the lists' own length. -/
theorem prefixes_cond {l m : List Ev} : firstE l (l ++ m) = (if m = [] then (-1 : Int) else (l.length : Nat)) := by
  induction l with
  | nil => cases m <;> simp [firstE]
  | cons e l ih =>
    show (if e = e then (if firstE l (l ++ m) = -1 then -1 else firstE l (l ++ m) + 1) else 0) = _
    rw [if_pos rfl, ih]
    by_cases hm : m = []
    · simp [hm]
    · rw [if_neg hm, if_neg hm, if_neg (by omega), List.length_cons]; omega
theorem argAt.keep {w w' : World} {v : Value} {l : List Ev} (h : argAt w v l) (hk : Keeps (fun _ => False) w w') : argAt w' v l := ⟨keeps_ev h.1 hk, h.2⟩
set_option maxHeartbeats 400000 in
theorem prefixes_law (v v' : Value) (l m : List Ev) (w : World) (h : argAt w v l) (h' : argAt w v' m) (hok : ∀ e ∈ l, EvOk e) (hok' : ∀ e ∈ m, EvOk e) (hreach : l.length ≤ 9223372036854775807) (hreach' : m.length ≤ 9223372036854775807) :
    Calls Try.prog 8 #[v, v'] w (Yes w) := by
  obtain ⟨ao, cap, rfl⟩ := h.1.shape
  obtain ⟨ao', cap', rfl⟩ := h'.1.shape
  by_cases hbig : 1000 < l.length
  · go_enter Try.func8, Try.ntmps8
    go_wp2_with fail
    refine (alive_calls _).mono ?_; rintro e w1 ⟨rfl, hk1⟩
    go_wp2_with fail
    go_ret
    exact ⟨rfl, hk1⟩
  · by_cases hbig' : 1000 < m.length
    · go_enter Try.func8, Try.ntmps8
      go_wp2_with fail
      refine (alive_calls _).mono ?_; rintro e w1 ⟨rfl, hk1⟩
      go_wp2_with fail
      go_ret
      exact ⟨rfl, hk1⟩
    · have hl : l.length ≤ 1099511627776 := by omega
      have hm : m.length ≤ 1099511627776 := by omega
      cases hmt : m.isEmpty
      · have hne : m ≠ [] := by intro e; rw [e] at hmt; simp at hmt
        have hz : (((m.length : Nat) : Int) == 0) = false := by
          rw [beq_eq_false_iff_ne]
          intro e
          exact hne (List.eq_nil_of_length_eq_zero (by omega))
        have HF := Lib.hid (show firstE l (l ++ m) = (l.length : Nat) by rw [prefixes_cond, if_neg hne])
        have HD := Lib.hid (show decide (l ++ m = l) = false by rw [decide_eq_false_iff_not]; intro e; exact hne (by simpa using e))
        clear hmt hne
        go_enter Try.func8, Try.ntmps8
        go_wp2_with fail
        refine (record_calls _ l w hl h.1 hok).mono ?_; rintro e w1 ⟨b, rfl, hT1, hk1⟩
        obtain ⟨i0, hi, hz0, hz1, hz2⟩ := info_parts infoEv
        have hrow := World.ownsRow_made w1 (base := w1.heap.size) (e := 36) (size := 3) #[] 0 (Nat.le_refl _) (by simp) rfl
        have ha : Keeps (fun _ => False) w1 (w1.alloc (.cells #[] 36)) := (Keeps.refl _ w1).alloc _
        obtain ⟨_, hs1, hs2⟩ := ((h.keep hk1).keep ha).src
        go_wp2_with (at_builtin; refine wpList_append_src _ rfl (.tmp 19) (.tmp 20) 22 rfl w1.heap.size 36 i0 (.agg #[.int .i64 0, .int .i64 0, .int .i64 0]) 3 24 Try.underlying22 hi hz0 hz1 hz2 rfl (by decide) _ _ _ rfl hrow ao l.length cap (flat l) rfl hs1 (flat_length l) hs2 (flat_one_cell l) (by unfold maxLen; omega) (by omega) (by have := ha.size; exact this) ?_)
        intro v2 w2 hown2 hgrow2
        have hk2 : Keeps (fun _ => False) w1 w2 := ha.grown hgrow2 (fun k e hk => by cases e; exact absurd hk (Nat.lt_irrefl _))
        obtain ⟨_, ht1, ht2⟩ := ((h'.keep hk1).keep hk2).src
        clear hs1 hs2 hrow hgrow2
        go_wp2_with (at_builtin; refine wpList_append_src _ rfl (.tmp 21) (.tmp 22) 22 rfl w1.heap.size 36 i0 (.agg #[.int .i64 0, .int .i64 0, .int .i64 0]) 3 24 Try.underlying22 hi hz0 hz1 hz2 rfl (by decide) _ _ _ rfl hown2 ao' m.length cap' (flat m) rfl ht1 (flat_length m) ht2 (flat_one_cell m) (by unfold maxLen; omega) (by omega) (by have := hk2.size; exact this) ?_)
        intro v3 w3 hown3 hgrow3
        have hk3 : Keeps (fun _ => False) w1 w3 := (hk2.grown hgrow3 (fun k e hk => by have := hown2.lt k e; omega))
        have hev3 : evAt w3 v3 (l ++ m) := evAt_of_row (base := w1.heap.size) (by rw [flat_append, List.length_append]; exact hown3)
        have hT3 := hT1.still hk3
        have hk03 := hk1.nil_trans hk3
        have hok3 : ∀ e ∈ l ++ m, EvOk e := fun e he => (List.mem_append.1 he).elim (hok e) (hok' e)
        have hlen3 : (l ++ m).length ≤ 1099511627776 := by rw [List.length_append]; omega
        clear ht1 ht2 hown2 hown3 hgrow3 hk1 hk2 hk3 ha hT1 h h'
        go_wp2_with fail
        refine (record_calls _ (l ++ m) w3 hlen3 hev3 hok3).mono ?_; rintro e w4 ⟨b4, rfl, hU4, hk4⟩
        have hT4 := hT3.still hk4
        have hk04 := hk03.nil_trans hk4
        clear hT3 hev3 hk03 hk4 hok3
        go_wp2_with fail
        refine (alive_calls _).mono ?_; rintro e w5 ⟨rfl, hk5⟩
        have hT5 := hT4.still hk5
        have hU5 := hU4.still hk5
        have hk05 := hk04.nil_trans hk5
        clear hT4 hU4 hk04 hk5
        go_wp2_with fail
        have cc := first_calls _ _ _ _ l (l ++ m) w5 hl hlen3 hT5.ptr hU5.ptr
        rw [HF.out] at cc
        refine cc.mono ?_; clear cc; rintro e w' ⟨rfl, n, rfl⟩
        go_wp2_with fail
        have cc := tequal_calls _ _ _ _ (l ++ m) l (w5.drewN n) hlen3 (hU5.drewN n).ptr (hT5.drewN n).ptr
        rw [HD.out] at cc
        refine cc.mono ?_; clear cc; rintro e w' ⟨rfl, n1, rfl⟩
        go_wp2_with fail
        go_ret
        exact ⟨rfl, hk05.drewN _⟩
      · obtain rfl : m = [] := by simpa using hmt
        have HF := Lib.hid (show firstE l (l ++ []) = -1 by rw [prefixes_cond, if_pos rfl])
        have HD := Lib.hid (show decide (l ++ [] = l) = true by rw [decide_eq_true_iff, List.append_nil])
        clear hmt hbig' hm hreach'
        have hm : 0 ≤ 1099511627776 := by omega
        go_enter Try.func8, Try.ntmps8
        go_wp2_with fail
        refine (record_calls _ l w hl h.1 hok).mono ?_; rintro e w1 ⟨b, rfl, hT1, hk1⟩
        obtain ⟨i0, hi, hz0, hz1, hz2⟩ := info_parts infoEv
        have hrow := World.ownsRow_made w1 (base := w1.heap.size) (e := 36) (size := 3) #[] 0 (Nat.le_refl _) (by simp) rfl
        have ha : Keeps (fun _ => False) w1 (w1.alloc (.cells #[] 36)) := (Keeps.refl _ w1).alloc _
        obtain ⟨_, hs1, hs2⟩ := ((h.keep hk1).keep ha).src
        go_wp2_with (at_builtin; refine wpList_append_src _ rfl (.tmp 19) (.tmp 20) 22 rfl w1.heap.size 36 i0 (.agg #[.int .i64 0, .int .i64 0, .int .i64 0]) 3 24 Try.underlying22 hi hz0 hz1 hz2 rfl (by decide) _ _ _ rfl hrow ao l.length cap (flat l) rfl hs1 (flat_length l) hs2 (flat_one_cell l) (by unfold maxLen; omega) (by omega) (by have := ha.size; exact this) ?_)
        intro v2 w2 hown2 hgrow2
        have hk2 : Keeps (fun _ => False) w1 w2 := ha.grown hgrow2 (fun k e hk => by cases e; exact absurd hk (Nat.lt_irrefl _))
        obtain ⟨_, ht1, ht2⟩ := ((h'.keep hk1).keep hk2).src
        clear hs1 hs2 hrow hgrow2
        go_wp2_with (at_builtin; refine wpList_append_src _ rfl (.tmp 21) (.tmp 22) 22 rfl w1.heap.size 36 i0 (.agg #[.int .i64 0, .int .i64 0, .int .i64 0]) 3 24 Try.underlying22 hi hz0 hz1 hz2 rfl (by decide) _ _ _ rfl hown2 ao' 0 cap' (flat []) rfl ht1 (flat_length []) ht2 (flat_one_cell []) (by unfold maxLen; omega) (by omega) (by have := hk2.size; exact this) ?_)
        intro v3 w3 hown3 hgrow3
        have hk3 : Keeps (fun _ => False) w1 w3 := (hk2.grown hgrow3 (fun k e hk => by have := hown2.lt k e; omega))
        have hev3 : evAt w3 v3 (l ++ []) := evAt_of_row (base := w1.heap.size) (by rw [flat_append, List.length_append]; exact hown3)
        have hT3 := hT1.still hk3
        have hk03 := hk1.nil_trans hk3
        have hok3 : ∀ e ∈ l ++ [], EvOk e := fun e he => (List.mem_append.1 he).elim (hok e) (hok' e)
        have hlen3 : (l ++ []).length ≤ 1099511627776 := by rw [List.length_append]; omega
        clear ht1 ht2 hown2 hown3 hgrow3 hk1 hk2 hk3 ha hT1 h h'
        go_wp2_with fail
        refine (record_calls _ (l ++ []) w3 hlen3 hev3 hok3).mono ?_; rintro e w4 ⟨b4, rfl, hU4, hk4⟩
        have hT4 := hT3.still hk4
        have hk04 := hk03.nil_trans hk4
        clear hT3 hev3 hk03 hk4 hok3
        go_wp2_with fail
        refine (alive_calls _).mono ?_; rintro e w5 ⟨rfl, hk5⟩
        have hT5 := hT4.still hk5
        have hU5 := hU4.still hk5
        have hk05 := hk04.nil_trans hk5
        clear hT4 hU4 hk04 hk5
        go_wp2_with fail
        have cc := first_calls _ _ _ _ l (l ++ []) w5 hl hlen3 hT5.ptr hU5.ptr
        rw [HF.out] at cc
        refine cc.mono ?_; clear cc; rintro e w' ⟨rfl, n, rfl⟩
        go_wp2_with fail
        have cc := tequal_calls _ _ _ _ (l ++ []) l (w5.drewN n) hlen3 (hU5.drewN n).ptr (hT5.drewN n).ptr
        rw [HD.out] at cc
        refine cc.mono ?_; clear cc; rintro e w' ⟨rfl, n1, rfl⟩
        go_wp2_with fail
        go_ret
        exact ⟨rfl, hk05.drewN _⟩
end Go.Proofs.Ytoefjgcehmcbcaa.tp
