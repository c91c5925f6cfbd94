/- Lists of points of a request, by walking their text. -/
import Derived.Test.YtmoajobnhiopiaaGreatDoorSrvC
import Derived.Test.YtmoajobnhiopiaaGreatDoorPolR
set_option linter.unusedSimpArgs false
set_option linter.unusedVariables false
namespace Go.Proofs.YtmoajobnhiopiaaGreatDoor.sv
open Go Go.RowKit Go.Shelf Go.Maps Go.Proofs.YtmoajobnhiopiaaGreatDoor.mk Go.Proofs.YtmoajobnhiopiaaGreatDoor.tp Go.Proofs.YtmoajobnhiopiaaGreatDoor.rg Go.Proofs.YtmoajobnhiopiaaGreatDoor.lm Go.Proofs.YtmoajobnhiopiaaGreatDoor.gm Go.Proofs.YtmoajobnhiopiaaGreatDoor.po

/-- The cells of a list of points. -/
def pfl : List (Int × Int) → List Value
  | [] => []
  | p :: l => .int .i64 p.1 :: .int .i64 p.2 :: pfl l
theorem pfl_length (l : List (Int × Int)) : (pfl l).length = l.length * 2 := by
  induction l with
  | nil => rfl
  | cons p l ih => simp only [pfl, List.length_cons, ih]; omega
theorem pfl_get (l : List (Int × Int)) : ∀ (i : Nat), i < l.length → (pfl l)[i * 2]? = some (.int .i64 (pt l i).1) ∧ (pfl l)[i * 2 + 1]? = some (.int .i64 (pt l i).2) := by
  induction l with
  | nil => intro i h; simp at h
  | cons p l ih =>
    intro i h
    cases i with
    | zero => exact ⟨rfl, rfl⟩
    | succ i =>
      have h' := ih i (by simpa using h)
      have e1 : (i + 1) * 2 = i * 2 + 1 + 1 := by omega
      rw [e1]
      exact h'
theorem pfl_set (l : List (Int × Int)) : ∀ (i : Nat) (p : Int × Int), i < l.length → ((pfl l).set (i * 2) (.int .i64 p.1)).set (i * 2 + 1) (.int .i64 p.2) = pfl (l.set i p) := by
  induction l with
  | nil => intro i p h; simp at h
  | cons q l ih =>
    intro i p h
    cases i with
    | zero => rfl
    | succ i =>
      have h' := ih i p (by simpa using h)
      have e1 : (i + 1) * 2 = i * 2 + 1 + 1 := by omega
      rw [e1, List.set_cons_succ]
      show _ = (Value.int .i64 q.1 :: Value.int .i64 q.2 :: pfl (l.set i p))
      rw [← h']
      rfl
/-- The first k points of a list of bytes, zeros behind. -/
def mixP (bs : List Int) (n k : Nat) : List (Int × Int) := (List.range n).map (fun i => if i < k then ptB bs i else (0, 0))
/-- The points of a list of bytes. -/
def ptsB (bs : List Int) (n : Nat) : List (Int × Int) := (List.range n).map (ptB bs)
theorem mixP_length (bs : List Int) (n k : Nat) : (mixP bs n k).length = n := by unfold mixP; simp
theorem mixP_set {bs : List Int} {n k : Nat} (h : k < n) : (mixP bs n k).set k (ptB bs k) = mixP bs n (k + 1) := by
  apply List.ext_getElem?
  intro i
  unfold mixP
  rw [List.getElem?_set]
  by_cases hik : k = i
  · subst hik
    simp [h]
  · rw [if_neg hik]
    by_cases hi : i < n
    · simp only [List.getElem?_map, List.getElem?_range hi, Option.map_some]
      by_cases h1 : i < k
      · rw [if_pos h1, if_pos (by omega)]
      · rw [if_neg h1, if_neg (by omega)]
    · simp [List.getElem?_eq_none, hi]
theorem mixP_all (bs : List Int) (n : Nat) : mixP bs n n = ptsB bs n := by
  unfold mixP ptsB
  apply List.map_congr_left
  intro i hi
  rw [if_pos (List.mem_range.1 hi)]
theorem pfl_zeros (n : Nat) : pfl (List.replicate n (0, 0)) = List.replicate (n * 2) (.int .i64 0) := by
  induction n with
  | zero => rfl
  | succ n ih => rw [List.replicate_succ, pfl, ih, show (n + 1) * 2 = n * 2 + 1 + 1 by omega, List.replicate_succ, List.replicate_succ]
theorem mixP_zero (bs : List Int) (n : Nat) : mixP bs n 0 = List.replicate n (0, 0) := by
  unfold mixP
  apply List.ext_getElem?
  intro i
  by_cases hi : i < n
  · simp [hi]
  · simp [List.getElem?_eq_none, hi]
theorem made_pts (n : Nat) : (madeCells (Value.agg #[.int .i64 0, .int .i64 0]).cells (n * 2)).toList = pfl (List.replicate n (0, 0)) := by
  rw [pfl_zeros]
  apply List.ext_getElem?
  intro j
  by_cases hj : j < n * 2
  · have e : (madeCells (Value.agg #[.int .i64 0, .int .i64 0]).cells (n * 2)).toList[j]? = some (.int .i64 0) := by
      rcases Nat.mod_two_eq_zero_or_one j with h | h <;> simp [madeCells, Value.cells, hj, h]
    rw [e]
    simp [hj]
  · simp [madeCells, hj]
theorem infoP : (Tryz.prog.info? 35).map (fun i => (i.zero, i.size, i.bytes)) = some (some (.agg #[.int .i64 0, .int .i64 0]), 2, 16) := by kernel_rfl
theorem infoQ : (Tryz.prog.info? 45).map (fun i => (i.zero, i.size, i.bytes)) = some (some (.agg #[.int .i64 0, .int .i64 0, .int .u64 0]), 3, 24) := by kernel_rfl
/-- What an owned row of points reads as. -/
theorem ptsAt_row {w : World} {base : Nat} {v : Value} {l : List (Int × Int)} {n : Nat} (h : w.ownsRow base 35 2 v n (pfl l)) (hn : n = l.length) : ptsAt w v l := by
  subst hn
  rcases h.2 with ⟨rfl, h0⟩ | ⟨g, cap, cur, rfl, hb, hg, hle, hcap, hcur, htake⟩
  · have e := List.eq_nil_of_length_eq_zero h0
    subst e
    exact .inl ⟨rfl, none, 0, rfl⟩
  · refine .inr ⟨g, 0, cap, rfl, (Array.getElem?_eq_some_iff.1 hg).1, fun i hi => ?_⟩
    have h1 := h.cellAt (i * 2) (by omega)
    have h2 := h.cellAt (i * 2 + 1) (by omega)
    rw [Nat.zero_add]
    exact ⟨h1.trans (pfl_get l i hi).1, h2.trans (pfl_get l i hi).2⟩
set_option maxRecDepth 100000 in
set_option maxHeartbeats 4000000 in
theorem take_calls (br b off m n : Nat) (bs : List Int) (hn : n ≤ 65) (hl : 16 * n ≤ bs.length) (w : World) (h : RdAt w br b off (16 * n + m)) (hne : b ≠ br) (hb : BytesAt w b off bs) :
    Calls Tryz.prog 81 #[.int .i64 n, .func (.func 83) #[.pointer (some ⟨br, 0, none⟩)] #[]] w fun e w' => ∃ v', e = .returned v' ∧ w'.ownsRow w.heap.size 35 2 v' n (pfl (ptsB bs n)) ∧ RdAt w' br b (off + 16 * n) m ∧ Keeps (fun j => j = br) w w' := by
  obtain ⟨i0, hi, hz0, hz1, hz2⟩ := info_parts infoP
  have hmk := fun w => run_make (P := Tryz.prog) w 38 35 i0 (.agg #[.int .i64 0, .int .i64 0]) Tryz.underlying38 hi hz0 .i64 .i64 (n : Int) (n : Int) (by omega) (Int.le_refl _) (by rw [hz2]; omega) (by omega)
  rw [hz1] at hmk
  simp only [Int.toNat_natCast] at hmk
  have hZ := made_pts n
  generalize madeCells (Value.agg #[.int .i64 0, .int .i64 0]).cells (n * 2) = Z at hmk hZ
  have HZ := Lib.hid hZ
  have hbr : br < w.heap.size := by obtain ⟨ao, cap, hg, _⟩ := h; exact (Array.getElem?_eq_some_iff.1 hg).1
  have H := Lib.hid h
  have HB := Lib.hid hb
  clear hZ hi hz0 hz1 hz2 h hb
  go_enter Tryz.func81, Tryz.ntmps81
  go_wp2_with (simp only [hmk])
  obtain ⟨w2, hw2⟩ : ∃ w2, w.alloc (.cells Z 35) = w2 := ⟨_, rfl⟩
  obtain ⟨g, hg⟩ : ∃ g, w.heap.size = g := ⟨_, rfl⟩
  have hr2 : w2.ownsRow g 35 2 (.slice (some ⟨g, 0, none⟩) n n) n (pfl (mixP bs n 0)) := by
    rw [mixP_zero, ← HZ.out, ← hw2, ← hg]
    refine World.ownsRow_lit w Z n (Nat.le_refl _) (by unfold maxLen; omega) ?_
    have := congrArg List.length HZ.out
    rw [pfl_length] at this
    simpa using this
  have hk2 : Keeps (fun _ => False) w w2 := by rw [← hw2]; exact (Keeps.refl _ w).alloc _
  have hrd2 : RdAt w2 br b (off + 16 * 0) (16 * (n - 0) + m) := by
    obtain ⟨ao, cap, hg, h1, h2⟩ := H.out
    exact ⟨ao, cap, (hk2.block _ hbr (fun h => h)).trans hg, h1, h2⟩
  have HB2 := Lib.hid (HB.out.kept hk2 (fun h => h))
  have HRD2 := Lib.hid hrd2
  have hsz2 : w2.heap.size = g + 1 := by rw [← hw2, ← hg]; simp
  have hbg : b < g := by rw [← hg]; exact HB.out.1
  rw [hw2]
  try rw [hg]
  have hbrg : br < g := by rw [← hg]; exact hbr
  have HW := Lib.hid hg
  clear hw2 hmk HZ hrd2 hbr hg
  go_loopw [6, 11] (fun _ i wr => ∃ k : Nat, k ≤ n ∧ i = .int .i64 k ∧ wr.ownsRow g 35 2 (.slice (some ⟨g, 0, none⟩) n n) n (pfl (mixP bs n k)) ∧ RowKit.Hid (RdAt wr br b (off + 16 * k) (16 * (n - k) + m)) ∧ RowKit.Hid (Keeps (fun j => j = br ∨ j = g) w2 wr)) (fun _ i _ => n - (intOf i).toNat)
  case atStart => exact ⟨0, Nat.zero_le _, rfl, hr2, HRD2, Keeps.refl _ _⟩
  case round =>
    clear hr2 HRD2
    obtain ⟨k, hk, rfl, hr, HR, HK⟩ := hrel
    by_cases hkn : k < n
    · have hkI : (k : Int) < (n : Int) := by omega
      have hk0 : (0 : Int) ≤ (k : Int) := by omega
      have hrd : RdAt wr br b (off + 16 * k) ((16 * (n - (k + 1)) + m) + 16) := by have := HR.out; rwa [show 16 * (n - k) + m = (16 * (n - (k + 1)) + m) + 16 by omega] at this
      have hbw := HB2.out.kept HK.out (show ¬ (b = br ∨ b = g) by omega)
      have Hr := Lib.hid hr
      have Hrd := Lib.hid hrd
      have Hbw := Lib.hid hbw
      clear hr hrd hbw
      go_wp2_with fail
      refine (rpoint_calls br b off _ k bs (by omega) wr Hrd.out hne Hbw.out).mono ?_; rintro e w3 ⟨rfl, hrd3, hk3⟩
      have hr3 : w3.ownsRow g 35 2 (.slice (some ⟨g, 0, none⟩) n n) n (pfl (mixP bs n k)) := by
        refine ⟨Hr.out.1, ?_⟩
        rcases Hr.out.2 with h | ⟨g', c, cur, he, h1, h2, h3⟩
        · exact .inl h
        · have e : g' = g := by injection he with he; injection he with he; injection he with he; exact he.symm
          exact .inr ⟨g', c, cur, he, h1, (hk3.block _ (Array.getElem?_eq_some_iff.1 h2).1 (by omega)).trans h2, h3⟩
      obtain ⟨p, hp⟩ : ∃ p, ptB bs k = p := ⟨_, rfl⟩
      rw [hp]
      have hml := mixP_length bs n k
      have c0 := (hr3.cellAt (k * 2) (by omega)).trans (pfl_get _ k (by omega)).1
      have c1 := (hr3.cellAt (k * 2 + 1) (by omega)).trans (pfl_get _ k (by omega)).2
      have f0 := hr3.frozenAt (k * 2)
      have f1 := hr3.frozenAt (k * 2 + 1)
      have hst := ((hr3.stored (k * 2) (.int .i64 p.1)).1.stored (k * 2 + 1) (.int .i64 p.2)).1
      rw [pfl_set _ k p (by omega), ← hp, mixP_set hkn, hp] at hst
      have Hst := Lib.hid hst
      have HKa := Lib.hid (((HK.out.trans hk3 (fun _ _ h => .inl h)).setCell ⟨g, k * 2, none⟩ (fun _ => .inr rfl) (.int .i64 p.1)).setCell ⟨g, k * 2 + 1, none⟩ (fun _ => .inr rfl) (.int .i64 p.2))
      have Hrd4 : RowKit.Hid (RdAt ((w3.setCell ⟨g, k * 2, none⟩ (.int .i64 p.1)).setCell ⟨g, k * 2 + 1, none⟩ (.int .i64 p.2)) br b (off + 16 * (k + 1)) (16 * (n - (k + 1)) + m)) := by
        obtain ⟨ao, cap, hg, h1, h2⟩ := hrd3
        have hkF : Keeps (fun j => j = g) w3 ((w3.setCell ⟨g, k * 2, none⟩ (.int .i64 p.1)).setCell ⟨g, k * 2 + 1, none⟩ (.int .i64 p.2)) := ((Keeps.refl (fun j => j = g) w3).setCell ⟨g, k * 2, none⟩ (fun _ => rfl) _).setCell ⟨g, k * 2 + 1, none⟩ (fun _ => rfl) _
        exact ⟨ao, cap, (hkF.block br (Array.getElem?_eq_some_iff.1 hg).1 (by omega)).trans hg, h1, h2⟩
      clear hst hr3 hrd3 hk3 hp hml
      go_wp2
      go_roundw
      case rel => exact ⟨k + 1, by omega, by go_num, Hst.out, Hrd4, HKa⟩
      case measure => simp [intOf]; omega
    · obtain rfl : k = n := by omega
      have Hr := Lib.hid hr
      clear hr
      go_wp2
      go_ret
      refine ⟨_, rfl, by rw [HW.out, ← mixP_all]; exact Hr.out, ?_, ?_⟩
      · have := HR.out
        rwa [show 16 * (k - k) + m = m by omega] at this
      · exact (hk2.mono (fun _ _ h => h.elim)).trans HK.out (fun i hi h => by have := HW.out; omega)
set_option maxRecDepth 100000 in
set_option maxHeartbeats 4000000 in
/-- No queries. -/
theorem take_none (f : Value) (w : World) :
    Calls Tryz.prog 85 #[.int .i64 0, f] w fun e w' => (∃ g cap, e = .returned (.slice (some ⟨g, 0, none⟩) 0 cap)) ∧ Keeps (fun _ => False) w w' := by
  obtain ⟨i0, hi, hz0, hz1, hz2⟩ := info_parts infoQ
  have hmk := fun w => run_make (P := Tryz.prog) w 33 45 i0 (.agg #[.int .i64 0, .int .i64 0, .int .u64 0]) Tryz.underlying33 hi hz0 .i64 .i64 (0 : Int) (0 : Int) (by omega) (Int.le_refl _) (by rw [hz2]; omega) (by omega)
  simp only [Int.toNat_zero, Nat.zero_mul] at hmk
  generalize madeCells (Value.agg #[.int .i64 0, .int .i64 0, .int .u64 0]).cells 0 = Z at hmk
  clear hi hz0 hz1 hz2
  go_enter Tryz.func85, Tryz.ntmps85
  go_wp2_with (simp only [hmk])
  obtain ⟨w2, hw2⟩ : ∃ w2, w.alloc (.cells Z 45) = w2 := ⟨_, rfl⟩
  have hk2 : Keeps (fun _ => False) w w2 := by rw [← hw2]; exact (Keeps.refl _ w).alloc _
  rw [hw2]
  clear hw2 hmk
  go_loopw [6, 11] (fun _ i wr => i = .int .i64 0 ∧ wr = w2) (fun _ _ _ => 0)
  case atStart => exact ⟨rfl, rfl⟩
  case round =>
    obtain ⟨rfl, rfl⟩ := hrel
    go_wp2
    go_ret
    exact ⟨⟨_, _, rfl⟩, hk2⟩
end Go.Proofs.YtmoajobnhiopiaaGreatDoor.sv
