/- The laws' same, and the reference's Sorted. -/
import Derived.Test.YtacbnlkbbaiedaaNetE
import Derived.Laws.OwnMore
namespace Go.Proofs.Ytacbnlkbbaiedaa.nw
open Go Go.RowKit Go.Shelf Go.Proofs.Ytacbnlkbbaiedaa.tp Go.Proofs.Ytacbnlkbbaiedaa.rg Go.Proofs.Ytacbnlkbbaiedaa.ar Go.Proofs.Ytacbnlkbbaiedaa.mk

/-! ### lists of pairs in memory -/
theorem flatC_length (L : List (Nat × Nat)) : (flatC L).length = L.length * 2 := by
  induction L with
  | nil => rfl
  | cons c L ih =>
    show ([Value.int .i64 (c.1 : Int), .int .i64 (c.2 : Int)] ++ flatC L).length = _
    rw [List.length_append, ih]
    show 2 + L.length * 2 = (L.length + 1) * 2
    omega
theorem flatC_get (L : List (Nat × Nat)) : ∀ (i : Nat) (c : Nat × Nat), L[i]? = some c → (flatC L)[i * 2]? = some (.int .i64 (c.1 : Int)) ∧ (flatC L)[i * 2 + 1]? = some (.int .i64 (c.2 : Int)) := by
  induction L with
  | nil => intro i c h; simp at h
  | cons d L ih =>
    intro i c h
    have e : flatC (d :: L) = [Value.int .i64 (d.1 : Int), .int .i64 (d.2 : Int)] ++ flatC L := rfl
    rw [e]
    cases i with
    | zero => simp at h; subst h; simp
    | succ i =>
      obtain ⟨h1, h2⟩ := ih i c (by simpa using h)
      have e2 : ([Value.int .i64 (d.1 : Int), .int .i64 (d.2 : Int)] : List Value).length = 2 := rfl
      refine ⟨?_, ?_⟩
      · rw [List.getElem?_append_right (by rw [e2]; omega), e2, show (i + 1) * 2 - 2 = i * 2 from by omega]; exact h1
      · rw [List.getElem?_append_right (by rw [e2]; omega), e2, show (i + 1) * 2 + 1 - 2 = i * 2 + 1 from by omega]; exact h2
/-- A slice value that reads as a list of pairs. -/
def pairAt (w : World) (v : Value) (L : List (Nat × Nat)) : Prop :=
  (L = [] ∧ ∃ ao cap, v = .slice ao 0 cap) ∨ (L ≠ [] ∧ ∃ g cap, v = .slice (some ⟨g, 0, none⟩) L.length cap ∧ g < w.heap.size ∧ ∀ (i : Nat) (c : Nat × Nat), L[i]? = some c → w.cell? ⟨g, i * 2, none⟩ = some (.int .i64 (c.1 : Int)) ∧ w.cell? ⟨g, i * 2 + 1, none⟩ = some (.int .i64 (c.2 : Int)))
theorem pairAt_of_row {w : World} {base : Nat} {E : TypeId} {v : Value} {L : List (Nat × Nat)} (h : w.ownsRow base E 2 v L.length (flatC L)) : pairAt w v L := by
  by_cases hne : L = []
  · subst hne
    rcases h.2 with ⟨rfl, _⟩ | ⟨g, cap, cur, rfl, _⟩
    · exact .inl ⟨rfl, _, _, rfl⟩
    · exact .inl ⟨rfl, _, _, rfl⟩
  · have hlp : 0 < L.length := List.length_pos_iff.2 hne
    rcases h.2 with ⟨_, h0⟩ | ⟨g, cap, cur, rfl, hb, hg, _⟩
    · omega
    · refine .inr ⟨hne, g, cap, rfl, (Array.getElem?_eq_some_iff.1 hg).1, fun i c hc => ?_⟩
      have hi := (List.getElem?_eq_some_iff.1 hc).1
      obtain ⟨h1, h2⟩ := flatC_get L i c hc
      exact ⟨(h.cellAt (i * 2) (by omega)).trans h1, (h.cellAt (i * 2 + 1) (by omega)).trans h2⟩
theorem pairAt.keep {w w' : World} {T : Nat → Prop} {v : Value} {L : List (Nat × Nat)} (h : pairAt w v L) (hk : Keeps T w w') (hT : ∀ g, v.ownBlock = some g → g < w.heap.size → ¬ T g) : pairAt w' v L := by
  rcases h with h | ⟨hne, g, cap, rfl, hlt, hc⟩
  · exact .inl h
  · exact .inr ⟨hne, g, cap, rfl, Nat.lt_of_lt_of_le hlt hk.size, fun i c hi => ⟨(hk.cell (p := ⟨g, _, none⟩) hlt (hT g rfl hlt)).trans (hc i c hi).1, (hk.cell (p := ⟨g, _, none⟩) hlt (hT g rfl hlt)).trans (hc i c hi).2⟩⟩
theorem pairAt.kept {w w' : World} {v : Value} {L : List (Nat × Nat)} (h : pairAt w v L) (hk : Keeps (fun _ => False) w w') : pairAt w' v L := h.keep hk (fun _ _ _ h => h)
theorem same_empty (ao ao' : Option Addr) (cap cap' : Nat) (w : World) : Calls Try.prog 15 #[.slice ao 0 cap, .slice ao' 0 cap'] w fun e w' => e = .returned (.bool true) ∧ w' = w := by
  go_enter Try.func15, Try.ntmps15
  go_wp2
  refine wp_loop_rounds 1 ?_
  rw [rounds_succ]
  go_wp2
  go_ret
  exact ⟨rfl, rfl⟩
set_option maxHeartbeats 1000000 in
theorem same_some (g g' cap cap' : Nat) (L : List (Nat × Nat)) (hL : L.length ≤ 1000000) (w : World)
    (h : ∀ (i : Nat) (c : Nat × Nat), L[i]? = some c → w.cell? ⟨g, i * 2, none⟩ = some (.int .i64 (c.1 : Int)) ∧ w.cell? ⟨g, i * 2 + 1, none⟩ = some (.int .i64 (c.2 : Int)))
    (h' : ∀ (i : Nat) (c : Nat × Nat), L[i]? = some c → w.cell? ⟨g', i * 2, none⟩ = some (.int .i64 (c.1 : Int)) ∧ w.cell? ⟨g', i * 2 + 1, none⟩ = some (.int .i64 (c.2 : Int))) :
    Calls Try.prog 15 #[.slice (some ⟨g, 0, none⟩) L.length cap, .slice (some ⟨g', 0, none⟩) L.length cap'] w fun e w' => e = .returned (.bool true) ∧ ∃ n, w' = w.drewN n := by
  have H := Lib.hid h
  have H' := Lib.hid h'
  clear h h'
  go_enter Try.func15, Try.ntmps15
  go_wp2
  go_loopw [13] (fun i wr => ∃ k n : Nat, k ≤ L.length ∧ i = .int .i64 k ∧ wr = w.drewN n) (fun i _ => L.length - (intOf i).toNat)
  case atStart => exact ⟨0, 0, Nat.zero_le _, rfl, rfl⟩
  case round =>
    obtain ⟨k, n, hk, rfl, rfl⟩ := hrel
    by_cases hlt : k < L.length
    · obtain ⟨⟨x, y⟩, hx⟩ : ∃ e, L[k]? = some e := ⟨L[k], by simp [hlt]⟩
      obtain ⟨p0, p1⟩ := H.out k _ hx
      obtain ⟨q0, q1⟩ := H'.out k _ hx
      clear hx
      have hlt' : (k : Int) < (L.length : Int) := by omega
      have hk0 : (0 : Int) ≤ (k : Int) := by omega
      go_wp2
      go_quiet (fail)
      go_wp2
      go_roundw
      case rel => exact ⟨k + 1, _, by omega, by go_num, rfl⟩
      case measure => simp [intOf]; omega
    · go_wp2
      go_ret
      exact ⟨rfl, _, rfl⟩
theorem same_calls (v v' : Value) (L : List (Nat × Nat)) (hL : L.length ≤ 1000000) (w : World) (h : pairAt w v L) (h' : pairAt w v' L) :
    Calls Try.prog 15 #[v, v'] w fun e w' => e = .returned (.bool true) ∧ ∃ n, w' = w.drewN n := by
  rcases h with ⟨rfl, ao, cap, rfl⟩ | ⟨hne, g, cap, rfl, _, hc⟩
  · rcases h' with ⟨_, ao', cap', rfl⟩ | ⟨hne, _⟩
    · exact (same_empty ao ao' cap cap' w).mono fun e w' ⟨he, hw⟩ => ⟨he, 0, hw⟩
    · exact absurd rfl hne
  · rcases h' with ⟨rfl, _⟩ | ⟨_, g', cap', rfl, _, hc'⟩
    · exact absurd rfl hne
    · exact same_some g g' cap cap' L hL w hc hc'

/-! ### Sorted -/
def srt (s : List Int) : Prop := s.Pairwise (· ≤ ·)
theorem ins_sorted {s : List Int} {x : Int} {k : Nat} (hs : srt s) (h1 : ∀ y ∈ s.take k, y ≤ x) (h2 : ∀ y, s[k]? = some y → x < y) : srt (s.take k ++ x :: s.drop k) := by
  unfold srt at hs ⊢
  have hd : ∀ y ∈ s.drop k, x ≤ y := by
    intro y hy
    cases hdk : s.drop k with
    | nil => rw [hdk] at hy; simp at hy
    | cons z t =>
      have hz : s[k]? = some z := by
        have := congrArg (fun l => l[0]?) hdk
        simpa using this
      have hzx := h2 z hz
      rw [hdk] at hy
      have hp : (z :: t).Pairwise (· ≤ ·) := by rw [← hdk]; exact hs.sublist (List.drop_sublist k s)
      rcases List.mem_cons.1 hy with rfl | hy
      · omega
      · have := (List.pairwise_cons.1 hp).1 y hy
        omega
  rw [List.pairwise_append]
  refine ⟨hs.sublist (List.take_sublist k s), List.pairwise_cons.2 ⟨hd, hs.sublist (List.drop_sublist k s)⟩, fun a ha b hb => ?_⟩
  rcases List.mem_cons.1 hb with rfl | hb
  · exact h1 a ha
  · exact Int.le_trans (h1 a ha) (hd b hb)
theorem ins_perm {s l : List Int} {x : Int} {k i : Nat} (hp : s.Perm (l.take i)) (hx : l[i]? = some x) : (s.take k ++ x :: s.drop k).Perm (l.take (i + 1)) := by
  rw [List.take_add_one, hx]
  have h1 : (s.take k ++ x :: s.drop k).Perm (x :: s) := by
    have := @List.perm_middle _ x (s.take k) (s.drop k)
    rwa [List.take_append_drop] at this
  exact h1.trans ((List.Perm.cons x hp).trans (by
    have := @List.perm_append_singleton _ x (l.take i)
    exact this.symm))
theorem set_shift {s : List Int} {m : Nat} {z y : Int} (hm : m + 1 ≤ s.length) (hy : s[m]? = some y) :
    ((wflat (s.take (m + 1) ++ z :: s.drop (m + 1))).set (m + 1) (.int .u64 y)) = wflat (s.take m ++ y :: s.drop m) := by
  have hl : (s.take (m + 1)).length = m + 1 := by rw [List.length_take]; omega
  have e1 : s.take m ++ y :: s.drop m = s.take (m + 1) ++ y :: s.drop (m + 1) := by
    rw [List.take_add_one, hy]
    have : s.drop m = y :: s.drop (m + 1) := by
      have hlt : m < s.length := by omega
      rw [List.drop_eq_getElem_cons hlt]
      rw [List.getElem?_eq_getElem hlt] at hy
      rw [Option.some.inj hy]
    rw [this]
    simp
  rw [e1]
  unfold wflat
  rw [List.map_append, List.map_append, List.set_append_right _ _ (by rw [List.length_map, hl]; omega), List.length_map, hl, Nat.sub_self]
  rfl
theorem set_here {s : List Int} {k : Nat} {z x : Int} (hk : k ≤ s.length) : ((wflat (s.take k ++ z :: s.drop k)).set k (.int .u64 x)) = wflat (s.take k ++ x :: s.drop k) := by
  have hl : (s.take k).length = k := by rw [List.length_take]; omega
  unfold wflat
  rw [List.map_append, List.map_append, List.set_append_right _ _ (by rw [List.length_map, hl]; omega), List.length_map, hl, Nat.sub_self]
  rfl
theorem wflat_get {l : List Int} {i : Nat} {x : Int} (h : l[i]? = some x) : (wflat l)[i]? = some (.int .u64 x) := by unfold wflat; rw [List.getElem?_map, h]; rfl
theorem sorted_empty (ao : Option Addr) (cap : Nat) (w : World) : Calls Try.prog 20 #[.slice ao 0 cap] w fun e w' => ∃ v s, e = .returned v ∧ w'.ownsRow w.heap.size 38 1 v s.length (wflat s) ∧ srt s ∧ s.Perm [] ∧ Keeps (fun _ => False) w w' := by
  go_enter Try.func20, Try.ntmps20
  go_wp2
  refine wp_loop_rounds 1 ?_
  rw [rounds_succ]
  go_wp2
  go_ret
  exact ⟨_, [], rfl, World.ownsRow_nil _ _ _ _, List.Pairwise.nil, List.Perm.refl _, Keeps.refl _ _⟩
set_option maxRecDepth 100000 in
set_option maxHeartbeats 4000000 in
theorem sorted_some (b off cap : Nat) (l : List Int) (hl : l.length ≤ 1000) (hne : l ≠ []) (w : World) (hb : b < w.heap.size) (h : wcells w b off l) :
    Calls Try.prog 20 #[.slice (some ⟨b, off, none⟩) l.length cap] w fun e w' => ∃ v s, e = .returned v ∧ w'.ownsRow w.heap.size 38 1 v s.length (wflat s) ∧ srt s ∧ s.Perm l ∧ Keeps (fun _ => False) w w' := by
  obtain ⟨i0, hi, hz0, hz1, hz2⟩ := info_parts infoU
  have H := Lib.hid h
  clear h
  go_enter Try.func20, Try.ntmps20
  go_wp2
  go_loopw [3, 4] (fun v i wr => ∃ (k : Nat) (s : List Int), k ≤ l.length ∧ i = .int .i64 k ∧ s.length = k ∧ srt s ∧ s.Perm (l.take k) ∧ wr.ownsRow w.heap.size 38 1 v k (wflat s) ∧ Keeps (fun _ => False) w wr) (fun _ i _ => l.length - (intOf i).toNat)
  case atStart => exact ⟨0, [], Nat.zero_le _, rfl, rfl, List.Pairwise.nil, by rw [List.take_zero], World.ownsRow_nil _ _ _ _, Keeps.refl _ _⟩
  case round =>
    obtain ⟨k, s, hk, rfl, hsl, hs, hp, hrow, hK⟩ := hrel
    have Hsl := Lib.hid hsl
    have Hs := Lib.hid hs
    have Hp := Lib.hid hp
    have Hrow := Lib.hid hrow
    have HK := Lib.hid hK
    by_cases hlt : k < l.length
    · obtain ⟨x, hx⟩ : ∃ e, l[k]? = some e := ⟨l[k], by simp [hlt]⟩
      have p0 := (hK.cell (p := ⟨b, off + k, none⟩) hb (fun h => h)).trans (H.out k x hx)
      have Hx := Lib.hid hx
      have hlt' : (k : Int) < (l.length : Int) := by omega
      -- the form of the slice
      have hform : ∃ ao c, u3 = Value.slice ao k c := by
        rcases hrow.2 with ⟨rfl, h0⟩ | ⟨g, c, cur, rfl, _⟩
        · exact ⟨none, 0, by rw [h0]⟩
        · exact ⟨_, _, rfl⟩
      obtain ⟨ao, c, rfl⟩ := hform
      clear hsl hs hp hrow hK hx
      obtain ⟨wo, rfl⟩ : ∃ wo : World, wo = wr := ⟨_, rfl⟩
      go_wp2_with fail
      go_loopw [5] (fun t wr => ∃ (j nq : Nat), j ≤ k ∧ t = .int .i64 j ∧ wr = wo.drewN nq ∧ ∀ y ∈ s.take j, y ≤ x) (fun t _ => k - (intOf t).toNat)
      case atStart => exact ⟨0, 0, Nat.zero_le _, rfl, rfl, fun y hy => by simp at hy⟩
      case round =>
        obtain ⟨j, n0, hjk, rfl, rfl, h1⟩ := hrel
        have H1 := Lib.hid h1
        clear h1
        by_cases hj : j < k
        · obtain ⟨y, hy⟩ : ∃ y, s[j]? = some y := ⟨s[j]'(by rw [Hsl.out]; omega), by simp⟩
          obtain ⟨g, rfl⟩ : ∃ g, ao = some ⟨g, 0, none⟩ := by
            rcases Hrow.out.2 with ⟨_, h0⟩ | ⟨g, c, cur, he, _⟩
            · omega
            · injection he with he; exact ⟨g, he⟩
          have q0 : wo.cell? ⟨g, j, none⟩ = some (.int .u64 y) := (Hrow.out.cellAt j (by omega)).trans (wflat_get hy)
          have hj' : (j : Int) < (k : Int) := by omega
          have hjd : decide (j < k) = true := decide_eq_true hj
          by_cases hyx : y ≤ x
          · have H1' := Lib.hid (show ∀ u ∈ s.take (j + 1), u ≤ x from fun u hu => by
              rw [List.take_add_one, hy] at hu
              rcases List.mem_append.1 hu with h | h
              · exact H1.out u h
              · simp at h; omega)
            clear hy
            have hyd : decide (y ≤ x) = true := decide_eq_true hyx
            go_wp2
            go_quiet (fail)
            go_wp2
            go_roundw
            case rel => exact ⟨j + 1, _, by omega, by go_num, rfl, H1'.out⟩
            case measure => simp [intOf]; omega
          · have H2 := Lib.hid (show ∀ u, s[j]? = some u → x < u from fun u hu => by rw [hy] at hu; cases hu; omega)
            clear hy
            have hyd : decide (y ≤ x) = false := decide_eq_false hyx
            go_wp2
            go_quiet (fail)
            rw [World.drewN_drewN]
            obtain ⟨NQ, hNQ⟩ : ∃ NQ, n0 + nq = NQ := ⟨_, rfl⟩
            rw [hNQ]
            clear hNQ
            have hrowD : (wo.drewN NQ).ownsRow w.heap.size 38 1 (.slice (some ⟨g, 0, none⟩) k c) k (wflat s) := Hrow.out
            have HKD := Lib.hid (show Keeps (fun _ => False) w (wo.drewN NQ) from HK.out.drewN _)
            have Hsz := Lib.hid (show w.heap.size ≤ (wo.drewN NQ).heap.size from HKD.out.size)
            have HrD := Lib.hid hrowD
            clear hrowD
            go_wp2_with (at_builtin; refine wpList_append_own _ rfl _ _ 36 rfl w.heap.size 38 i0 (.int .u64 0) 1 8 Try.underlying36 hi hz0 hz1 hz2 rfl (by decide) _ _ _ rfl (HrD.out.alloc _) ⟨wo.heap.size, 0, none⟩ 1 1 [.int .u64 0] rfl rfl ?_ ?_ (by unfold maxLen; omega) (by omega) ?_ ?_)
            · intro x u hx
              have hadd : (⟨wo.heap.size, 0, none⟩ : Addr).add x = ⟨wo.heap.size, 0 + x, none⟩ := by unfold Addr.add; split <;> simp_all
              have hnew : ((wo.drewN NQ).alloc (.cells #[.int .u64 0] 38)).heap[wo.heap.size]? = some (.cells #[.int .u64 0] 38 (0, 0)) := heap_alloc_new (wo.drewN NQ) _
              rw [hadd, cell_of_row _ _ _ _ _ _ hnew, Nat.zero_add]
              simpa using hx
            · intro u hu; simp at hu; subst hu; rfl
            · have := Hsz.out; simp at this ⊢; omega
            intro v2 w2 hown2 hgrow2 _
            have hK2 : Keeps (fun _ => False) w w2 := (HKD.out.alloc _).grown hgrow2 (fun g hg hlt => by have := Hrow.out.lt g hg; omega)
            obtain ⟨g2, cap2, rfl⟩ := ownsRow_succ hown2
            have Hown2 := Lib.hid (show w2.ownsRow w.heap.size 38 1 (.slice (some ⟨g2, 0, none⟩) (k + 1) cap2) (k + 1) (wflat (s.take k ++ 0 :: s.drop k)) by
              have e : wflat (s.take k ++ 0 :: s.drop k) = wflat s ++ [.int .u64 0] := by
                rw [List.take_of_length_le (by rw [Hsl.out]; exact Nat.le_refl _), List.drop_eq_nil_of_le (by rw [Hsl.out]; exact Nat.le_refl _)]
                unfold wflat; simp
              rw [e]; exact hown2)
            have HK2 := Lib.hid hK2
            clear hown2 hgrow2 hK2
            go_wp2_with fail
            go_loopw [6] (fun m wr => ∃ (q : Nat) (z : Int), j ≤ q ∧ q ≤ k ∧ m = .int .i64 q ∧ wr.ownsRow w.heap.size 38 1 (.slice (some ⟨g2, 0, none⟩) (k + 1) cap2) (k + 1) (wflat (s.take q ++ z :: s.drop q)) ∧ Keeps (fun _ => False) w wr) (fun m _ => (intOf m).toNat - j)
            case atStart => exact ⟨k, 0, hjk, Nat.le_refl _, by go_num, Hown2.out, HK2.out⟩
            case round =>
              obtain ⟨q, z, hq1, hq2, rfl, hr3, hk3⟩ := hrel
              by_cases hq : j < q
              · obtain ⟨q', rfl⟩ : ∃ q', q = q' + 1 := ⟨q - 1, by omega⟩
                obtain ⟨y, hy⟩ : ∃ y, s[q']? = some y := ⟨s[q']'(by rw [Hsl.out]; omega), by simp⟩
                have r0 : wr.cell? ⟨g2, q', none⟩ = some (.int .u64 y) := by
                  rw [hr3.cellAt q' (by omega)]
                  have : (s.take (q' + 1) ++ z :: s.drop (q' + 1))[q']? = some y := by
                    rw [List.getElem?_append_left (by rw [List.length_take, Hsl.out]; omega), List.getElem?_take, if_pos (by omega)]; exact hy
                  exact wflat_get this
                have r1 := hr3.frozenAt (q' + 1)
                have ⟨cz, r2⟩ : ∃ u, wr.cell? ⟨g2, q' + 1, none⟩ = some u := by
                  rw [hr3.cellAt (q' + 1) (by omega)]
                  exact ⟨_, List.getElem?_eq_getElem (by rw [wflat_length, List.length_append, List.length_cons, List.length_take, List.length_drop, Hsl.out]; omega)⟩
                have Hst := Lib.hid (hr3.stored (q' + 1) (.int .u64 y)).1
                have Hsh := Lib.hid (set_shift (z := z) (show q' + 1 ≤ s.length by rw [Hsl.out]; omega) hy)
                have Hk3 := Lib.hid hk3
                have Hlt3 := Lib.hid (hr3.lt g2 rfl)
                clear hy hr3 hk3
                go_wp2
                go_roundw
                case rel => exact ⟨q', y, by omega, by omega, by go_num, by rw [← Hsh.out]; exact Hst.out, Hk3.out.setCell _ (fun hl => by have := Hlt3.out.1; simp only at hl; omega) _⟩
                case measure => simp [intOf]; omega
              · obtain rfl : q = j := by omega
                have r1 := hr3.frozenAt q
                have ⟨cz, r2⟩ : ∃ u, wr.cell? ⟨g2, q, none⟩ = some u := by
                  rw [hr3.cellAt q (by omega)]
                  exact ⟨_, List.getElem?_eq_getElem (by rw [wflat_length, List.length_append, List.length_cons, List.length_take, List.length_drop, Hsl.out]; omega)⟩
                have Hst := Lib.hid (hr3.stored q (.int .u64 x)).1
                have Hsh := Lib.hid (set_here (z := z) (x := x) (show q ≤ s.length by rw [Hsl.out]; omega))
                have p1 : wr.cell? ⟨b, off + k, none⟩ = some (.int .u64 x) := (hk3.cell (p := ⟨b, off + k, none⟩) hb (fun h => h)).trans (H.out k x Hx.out)
                have Hk3 := Lib.hid hk3
                have Hlt3 := Lib.hid (hr3.lt g2 rfl)
                have Hns := Lib.hid (show srt (s.take q ++ x :: s.drop q) from ins_sorted Hs.out H1.out H2.out)
                have Hnp := Lib.hid (show (s.take q ++ x :: s.drop q).Perm (l.take (k + 1)) from ins_perm Hp.out Hx.out)
                have Hnl := Lib.hid (show (s.take q ++ x :: s.drop q).length = k + 1 by rw [List.length_append, List.length_cons, List.length_take, List.length_drop, Hsl.out]; omega)
                clear hr3 hk3 p0
                go_wp2
                go_roundw
                case rel => exact ⟨k + 1, s.take q ++ x :: s.drop q, by omega, by go_num, Hnl.out, Hns.out, Hnp.out, by rw [← Hsh.out]; exact Hst.out, Hk3.out.setCell _ (fun hl => by have := Hlt3.out.1; simp only at hl; omega) _⟩
                case measure => simp [intOf]; omega
        · have hjk' : j = k := by omega
          have H2 := Lib.hid (show ∀ u, s[j]? = some u → x < u from fun u hu => by have := (List.getElem?_eq_some_iff.1 hu).1; rw [Hsl.out] at this; omega)
          have hjd : decide (j < k) = false := decide_eq_false hj
          have hjk2 : k ≤ j := by omega
          clear hjk'
          go_wp2
          go_quiet (fail)
          rw [World.drewN_drewN]
          obtain ⟨NQ, hNQ⟩ : ∃ NQ, n0 + nq = NQ := ⟨_, rfl⟩
          rw [hNQ]
          clear hNQ
          have hrowD : (wo.drewN NQ).ownsRow w.heap.size 38 1 (.slice ao k c) k (wflat s) := Hrow.out
          have HKD := Lib.hid (show Keeps (fun _ => False) w (wo.drewN NQ) from HK.out.drewN _)
          have Hsz := Lib.hid (show w.heap.size ≤ (wo.drewN NQ).heap.size from HKD.out.size)
          have HrD := Lib.hid hrowD
          clear hrowD
          go_wp2_with (at_builtin; refine wpList_append_own _ rfl _ _ 36 rfl w.heap.size 38 i0 (.int .u64 0) 1 8 Try.underlying36 hi hz0 hz1 hz2 rfl (by decide) _ _ _ rfl (HrD.out.alloc _) ⟨wo.heap.size, 0, none⟩ 1 1 [.int .u64 0] rfl rfl ?_ ?_ (by unfold maxLen; omega) (by omega) ?_ ?_)
          · intro x u hx
            have hadd : (⟨wo.heap.size, 0, none⟩ : Addr).add x = ⟨wo.heap.size, 0 + x, none⟩ := by unfold Addr.add; split <;> simp_all
            have hnew : ((wo.drewN NQ).alloc (.cells #[.int .u64 0] 38)).heap[wo.heap.size]? = some (.cells #[.int .u64 0] 38 (0, 0)) := heap_alloc_new (wo.drewN NQ) _
            rw [hadd, cell_of_row _ _ _ _ _ _ hnew, Nat.zero_add]
            simpa using hx
          · intro u hu; simp at hu; subst hu; rfl
          · have := Hsz.out; simp at this ⊢; omega
          intro v2 w2 hown2 hgrow2 _
          have hK2 : Keeps (fun _ => False) w w2 := (HKD.out.alloc _).grown hgrow2 (fun g hg hlt => by have := Hrow.out.lt g hg; omega)
          obtain ⟨g2, cap2, rfl⟩ := ownsRow_succ hown2
          have Hown2 := Lib.hid (show w2.ownsRow w.heap.size 38 1 (.slice (some ⟨g2, 0, none⟩) (k + 1) cap2) (k + 1) (wflat (s.take k ++ 0 :: s.drop k)) by
            have e : wflat (s.take k ++ 0 :: s.drop k) = wflat s ++ [.int .u64 0] := by
              rw [List.take_of_length_le (by rw [Hsl.out]; exact Nat.le_refl _), List.drop_eq_nil_of_le (by rw [Hsl.out]; exact Nat.le_refl _)]
              unfold wflat; simp
            rw [e]; exact hown2)
          have HK2 := Lib.hid hK2
          clear hown2 hgrow2 hK2
          go_wp2_with fail
          go_loopw [6] (fun m wr => ∃ (q : Nat) (z : Int), j ≤ q ∧ q ≤ k ∧ m = .int .i64 q ∧ wr.ownsRow w.heap.size 38 1 (.slice (some ⟨g2, 0, none⟩) (k + 1) cap2) (k + 1) (wflat (s.take q ++ z :: s.drop q)) ∧ Keeps (fun _ => False) w wr) (fun m _ => (intOf m).toNat - j)
          case atStart => exact ⟨k, 0, hjk, Nat.le_refl _, by go_num, Hown2.out, HK2.out⟩
          case round =>
            obtain ⟨q, z, hq1, hq2, rfl, hr3, hk3⟩ := hrel
            by_cases hq : j < q
            · exact absurd hq (by omega)
            · obtain rfl : q = j := by omega
              have r1 := hr3.frozenAt q
              have ⟨cz, r2⟩ : ∃ u, wr.cell? ⟨g2, q, none⟩ = some u := by
                rw [hr3.cellAt q (by omega)]
                exact ⟨_, List.getElem?_eq_getElem (by rw [wflat_length, List.length_append, List.length_cons, List.length_take, List.length_drop, Hsl.out]; omega)⟩
              have Hst := Lib.hid (hr3.stored q (.int .u64 x)).1
              have Hsh := Lib.hid (set_here (z := z) (x := x) (show q ≤ s.length by rw [Hsl.out]; omega))
              have p1 : wr.cell? ⟨b, off + k, none⟩ = some (.int .u64 x) := (hk3.cell (p := ⟨b, off + k, none⟩) hb (fun h => h)).trans (H.out k x Hx.out)
              have Hk3 := Lib.hid hk3
              have Hlt3 := Lib.hid (hr3.lt g2 rfl)
              have Hns := Lib.hid (show srt (s.take q ++ x :: s.drop q) from ins_sorted Hs.out H1.out H2.out)
              have Hnp := Lib.hid (show (s.take q ++ x :: s.drop q).Perm (l.take (k + 1)) from ins_perm Hp.out Hx.out)
              have Hnl := Lib.hid (show (s.take q ++ x :: s.drop q).length = k + 1 by rw [List.length_append, List.length_cons, List.length_take, List.length_drop, Hsl.out]; omega)
              clear hr3 hk3 p0
              go_wp2
              go_roundw
              case rel => exact ⟨k + 1, s.take q ++ x :: s.drop q, by omega, by go_num, Hnl.out, Hns.out, Hnp.out, by rw [← Hsh.out]; exact Hst.out, Hk3.out.setCell _ (fun hl => by have := Hlt3.out.1; simp only at hl; omega) _⟩
              case measure => simp [intOf]; omega
    · obtain rfl : k = l.length := by omega
      rw [List.take_length] at hp
      have Hp := Lib.hid hp
      clear hsl hs hp hrow hK
      go_wp2
      go_ret
      exact ⟨_, s, rfl, by rw [Hsl.out]; exact Hrow.out, Hs.out, Hp.out, HK.out⟩
theorem sorted_calls (v : Value) (l : List Int) (hl : l.length ≤ 1000) (w : World) (h : wordsAt w v l) :
    Calls Try.prog 20 #[v] w fun e w' => ∃ v s, e = .returned v ∧ w'.ownsRow w.heap.size 38 1 v s.length (wflat s) ∧ srt s ∧ s.Perm l ∧ Keeps (fun _ => False) w w' := by
  rcases h with ⟨rfl, ao, cap, rfl⟩ | ⟨hne, b, off, cap, rfl, hb, hc⟩
  · exact sorted_empty ao cap w
  · exact sorted_some b off cap l hl hne w hb hc
end Go.Proofs.Ytacbnlkbbaiedaa.nw
