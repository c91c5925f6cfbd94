/- Numbers with a sign and digits of 16 bits, by walking their text: digit, trim, make16, addDigits, subDigits, compareDigits. -/
import Derived.Test.YtmoajobnhiopiaaGreatDoorNum
import Derived.Test.YtmoajobnhiopiaaGreatDoorLimbZ
set_option linter.unusedSimpArgs false
set_option linter.unusedVariables false
namespace Go.Proofs.YtmoajobnhiopiaaGreatDoor.nb
open Go Go.RowKit Go.Shelf Go.Maps Go.Proofs.YtmoajobnhiopiaaGreatDoor.mk Go.Proofs.YtmoajobnhiopiaaGreatDoor.tp Go.Proofs.YtmoajobnhiopiaaGreatDoor.rg Go.Proofs.YtmoajobnhiopiaaGreatDoor.lm Go.Proofs.YtmoajobnhiopiaaGreatDoor.gm

/-- The slice v reads as the digits l. -/
def dAt (w : World) (v : Value) (l : List Int) : Prop :=
  (v = .slice none 0 0 ∧ l = []) ∨ ∃ b off cap, v = .slice (some ⟨b, off, none⟩) l.length cap ∧ l.length ≤ cap ∧ b < w.heap.size ∧ ∀ (i : Nat) (x : Int), l[i]? = some x → w.cell? ⟨b, off + i, none⟩ = some (.int .i64 x)
theorem dAt.kept {w w' : World} {v : Value} {l : List Int} (h : dAt w v l) (hk : Keeps (fun _ => False) w w') : dAt w' v l := by
  rcases h with h | ⟨b, off, cap, hv, hle, hb, hc⟩
  · exact .inl h
  · exact .inr ⟨b, off, cap, hv, hle, Nat.lt_of_lt_of_le hb hk.size, fun i x hi => (hk.cell (p := ⟨b, off + i, none⟩) hb (fun h => h)).trans (hc i x hi)⟩
theorem dAt.shape {w : World} {v : Value} {l : List Int} (h : dAt w v l) : ∃ ao cap, v = .slice ao l.length cap := by
  rcases h with ⟨rfl, rfl⟩ | ⟨b, off, cap, rfl, _⟩
  · exact ⟨_, _, rfl⟩
  · exact ⟨_, _, rfl⟩
/-- .. where there is a digit, the slice has a block. -/
theorem dAt.block {w : World} {v : Value} {l : List Int} (h : dAt w v l) {i : Nat} (hi : i < l.length) : ∃ b off cap, v = .slice (some ⟨b, off, none⟩) l.length cap ∧ l.length ≤ cap ∧ b < w.heap.size ∧ ∀ i, i < l.length → w.cell? ⟨b, off + i, none⟩ = some (.int .i64 (dg l i)) := by
  rcases h with ⟨rfl, rfl⟩ | ⟨b, off, cap, rfl, hle, hb, hc⟩
  · simp at hi
  · exact ⟨b, off, cap, rfl, hle, hb, fun j hj => hc j _ (by unfold dg; rw [List.getElem?_eq_getElem hj]; rfl)⟩
def dfl (l : List Int) : List Value := l.map (Value.int .i64)
theorem dfl_length (l : List Int) : (dfl l).length = l.length := by unfold dfl; simp
theorem dfl_get {l : List Int} {i : Nat} {x : Int} (h : l[i]? = some x) : (dfl l)[i]? = some (.int .i64 x) := by unfold dfl; rw [List.getElem?_map, h]; rfl
theorem dfl_snoc (l : List Int) (d : Int) : dfl l ++ [.int .i64 d] = dfl (l ++ [d]) := by unfold dfl; rw [List.map_append]; rfl
theorem dfl_set (l : List Int) (k : Nat) (x : Int) : (dfl l).set k (.int .i64 x) = dfl (l.set k x) := by unfold dfl; rw [List.map_set]
theorem infoD : (Tryz.prog.info? 3).map (fun i => (i.zero, i.size, i.bytes)) = some (some (.int .i64 0), 1, 8) := by kernel_rfl
/-- What an owned row of digits reads as. -/
theorem dAt_row {w : World} {base : Nat} {v : Value} {l : List Int} {n : Nat} (h : w.ownsRow base 3 1 v n (dfl l)) (hn : n = l.length) : dAt w v l := by
  subst hn
  rcases h.2 with ⟨rfl, h0⟩ | ⟨g, cap, cur, rfl, hb, hg, hle, hcap, hcur, htake⟩
  · have e := List.eq_nil_of_length_eq_zero h0
    subst e
    exact .inl ⟨rfl, rfl⟩
  · refine .inr ⟨g, 0, cap, rfl, hle, (Array.getElem?_eq_some_iff.1 hg).1, fun i x he => ?_⟩
    have hi : i < l.length := (List.getElem?_eq_some_iff.1 he).1
    have hu := dfl_get he
    rw [cell_of_row w g (0 + i) cur _ (0, 0) hg, Nat.zero_add]
    rw [← htake, List.getElem?_take, if_pos (by omega)] at hu
    simpa using hu
theorem dig_calls (v : Value) (l : List Int) (i : Nat) (hlen : l.length ≤ 1000) (hi : i ≤ 100000) (w : World) (h : dAt w v l) :
    Calls Tryz.prog 137 #[v, .int .i64 i] w fun e w' => e = .returned (.int .i64 (dg l i)) ∧ w' = w := by
  have hi0 : (0 : Int) ≤ (i : Int) := by omega
  by_cases hlt : i < l.length
  · obtain ⟨b, off, cap, rfl, hle, hb, hc⟩ := h.block hlt
    have hcell := hc i hlt
    have hlt' : (i : Int) < (l.length : Int) := by omega
    clear hc h
    go_enter Tryz.func137, Tryz.ntmps137
    go_wp2
    go_ret
    exact ⟨rfl, rfl⟩
  · obtain ⟨ao, cap, rfl⟩ := h.shape
    rw [dg_none (by omega)]
    have hlt' : ¬ (i : Int) < (l.length : Int) := by omega
    clear h
    go_enter Tryz.func137, Tryz.ntmps137
    go_wp2
    go_ret
    exact ⟨rfl, rfl⟩
theorem dAt.take {w : World} {b off cap : Nat} {l : List Int} (h : dAt w (.slice (some ⟨b, off, none⟩) l.length cap) l) (k : Nat) (hk : k ≤ l.length) : dAt w (.slice (some ⟨b, off, none⟩) k cap) (l.take k) := by
  rcases h with ⟨h, _⟩ | ⟨b', off', cap', hv, hle, hb, hc⟩
  · cases h
  · injection hv with h1 _ h3
    injection h1 with h1
    injection h1 with e1 e2
    subst e1
    subst e2
    subst h3
    refine .inr ⟨b, off, cap, by rw [List.length_take, Nat.min_eq_left hk], by rw [List.length_take]; omega, hb, fun i x hi => hc i x ?_⟩
    rw [List.getElem?_take] at hi
    split at hi
    · exact hi
    · cases hi
set_option maxRecDepth 100000 in
set_option maxHeartbeats 2000000 in
theorem trim_calls (v : Value) (l : List Int) (hlen : l.length ≤ 1000) (hd : Digs l) (w : World) (h : dAt w v l) :
    Calls Tryz.prog 136 #[v] w fun e w' => (∃ v' l', e = .returned v' ∧ (∀ W, dAt W v l → dAt W v' l') ∧ Norm l' ∧ dv l' = dv l ∧ l'.length ≤ l.length) ∧ w' = w := by
  by_cases h0 : l = []
  · subst h0
    obtain ⟨ao, cap, rfl⟩ := h.shape
    have H := Lib.hid h
    clear h
    go_enter Tryz.func136, Tryz.ntmps136
    go_wp2
    go_loopw [0] (fun vv wr => vv = .slice ao 0 cap ∧ wr = w) (fun _ _ => 0)
    case atStart => exact ⟨rfl, rfl⟩
    case round =>
      obtain ⟨rfl, rfl⟩ := hrel
      go_wp2
      go_ret
      exact ⟨⟨_, [], rfl, fun _ h => h, Norm.nil, rfl, Nat.le_refl _⟩, rfl⟩
  · obtain ⟨b, off, cap, rfl, hle, hb, hc⟩ := h.block (i := 0) (by have : l.length ≠ 0 := fun h => h0 (List.eq_nil_of_length_eq_zero h); omega)
    have H := Lib.hid h
    have HC := Lib.hid hc
    have HD := Lib.hid hd
    clear h h0 hc hd
    go_enter Tryz.func136, Tryz.ntmps136
    go_wp2
    go_loopw [0] (fun vv wr => ∃ k : Nat, k ≤ l.length ∧ vv = .slice (some ⟨b, off, none⟩) k cap ∧ RowKit.Hid (dt l k = dv l) ∧ wr = w) (fun vv _ => match vv with | .slice _ k _ => k | _ => 0)
    case atStart => exact ⟨l.length, Nat.le_refl _, rfl, dt_all (Nat.le_refl _), rfl⟩
    case round =>
      obtain ⟨k, hk, rfl, HT, rfl⟩ := hrel
      cases k with
      | zero =>
        go_wp2
        go_ret
        exact ⟨⟨_, _, rfl, fun _ h => h.take 0 (by omega), (trim_norm HD.out hk HT.out (fun j hj => by omega)).1, (trim_norm HD.out hk HT.out (fun j hj => by omega)).2, by simp⟩, rfl⟩
      | succ k =>
        have hcell := HC.out k (by omega)
        have hk0 : (0 : Int) ≤ (k : Int) := by omega
        have hkp : ((k + 1 : Nat) : Int) > 0 := by omega
        have hks : ((k + 1 : Nat) : Int) - 1 = (k : Int) := by omega
        have hkw : IntKind.i64.wrap (k : Int) = (k : Int) := by rw [IntKind.wrap_i64]; omega
        have hkc : (k : Int) ≤ (cap : Int) := by omega
        have hkp1 : (k : Int) + 1 > 0 := by omega
        by_cases hz : dg l k = 0
        · have HZ := Lib.hid (trim_step HT.out hz)
          have hz' : (dg l k == 0) = true := by rw [hz]; rfl
          have hcap0 : ¬ cap = 0 := by omega
          rw [hz] at hcell
          clear hz hz'
          go_wp2
          go_roundw
          case rel => exact ⟨k, by omega, rfl, HZ, trivial⟩
          case measure => simp
        · have hz' : (dg l k == 0) = false := beq_eq_false_iff_ne.2 hz
          have Hz := Lib.hid hz
          clear hz
          go_wp2
          go_ret
          have HN := trim_norm HD.out hk HT.out (fun j hj => by
            have e : k = j := by omega
            subst e
            exact Hz.out)
          exact ⟨⟨_, _, rfl, fun _ h => h.take (k + 1) hk, HN.1, HN.2, by simp; omega⟩, rfl⟩
/-- A number's value. -/
def nAt (w : World) (v : Value) (x : Int) (n : Nat) : Prop := ∃ s sv l, v = .agg #[.int .i64 s, sv] ∧ dAt w sv l ∧ Rep s l x ∧ l.length ≤ n
theorem nAt.kept {w w' : World} {v : Value} {x : Int} {n : Nat} (h : nAt w v x n) (hk : Keeps (fun _ => False) w w') : nAt w' v x n := by
  obtain ⟨s, sv, l, h1, h2, h3, h4⟩ := h
  exact ⟨s, sv, l, h1, h2.kept hk, h3, h4⟩
/-- The call returns a number, and leaves what was there. -/
def GivesN (w : World) (x : Int) (n : Nat) (e : Ending) (w' : World) : Prop := ∃ v', e = .returned v' ∧ nAt w' v' x n ∧ Keeps (fun _ => False) w w'
theorem results_nb {fn : Func} {p : Tmp} (h : fn.results = #[.cell p 92]) (tmps : Array Value) (w : World) (g : Nat) (t : TypeId) (x y : Value) (fr : Nat × Nat)
    (hp : tmps.getD p undef = .pointer (some ⟨g, 0, none⟩)) (hg : w.heap[g]? = some (.cells #[x, y] t fr)) : (results fn tmps).run Tryz.prog w = .ok (.agg #[x, y]) w := by
  rw [resultsV_cell1 h, hp]
  have e := run_loadVar_row (P := Tryz.prog) w g t 92 #[x, y] fr _ hg Tryz.underlying92 rfl (by kernel_rfl)
  simp [asAddr, e, Result.andThen]
theorem dAt.alloc {w : World} {v : Value} {l : List Int} (h : dAt w v l) (o : Obj) : dAt (w.alloc o) v l := h.kept ((Keeps.refl _ w).alloc o)
set_option maxRecDepth 100000 in
theorem make_calls (s : Int) (v : Value) (l : List Int) (x : Int) (n : Nat) (hlen : l.length ≤ n) (hn : n ≤ 1000) (hd : Digs l) (hs : dv l ≠ 0 → s = 1 ∨ s = -1) (hx : x = s * dv l) (w : World) (h : dAt w v l) :
    Calls Tryz.prog 107 #[.int .i64 s, v] w (GivesN w x n) := by
  obtain ⟨ao, cap, rfl⟩ := h.shape
  have H := Lib.hid h
  have HD := Lib.hid hd
  have HS := Lib.hid hs
  have HX := Lib.hid hx
  clear h hd hs hx
  go_enter Tryz.func107, Tryz.ntmps107
  go_wp2_with fail
  obtain ⟨w1, hw1⟩ : ∃ w1, w.alloc (.cells #[.int .i64 0, .slice none 0 0] 92) = w1 := ⟨_, rfl⟩
  have hg : w1.heap[w.heap.size]? = some (.cells #[.int .i64 0, .slice none 0 0] 92 (0, 0)) := by rw [← hw1]; exact heap_alloc_new w _
  have hk1 : Keeps (fun _ => False) w w1 := by rw [← hw1]; exact (Keeps.refl _ w).alloc _
  rw [hw1]
  clear hw1
  refine (trim_calls _ l (by omega) HD.out _ (H.out.kept hk1)).mono ?_; rintro e w2 ⟨⟨v', l', rfl, hv', hl', hdv, hle⟩, rfl⟩
  have e0 := two_frozen hg 0
  have e1 := two_frozen hg 1
  have f0 := cells_at hg 0
  have f1 := cells_at hg 1
  have HG := Lib.hid hg
  have HL := Lib.hid hl'
  have HDV := Lib.hid hdv
  obtain ⟨ao', cap', rfl⟩ := (hv' _ H.out).shape
  clear hg hl' hdv
  by_cases h0 : l' = []
  · subst h0
    go_wp2
    refine bodyPost_ret (results_nb rfl _ _ _ _ _ _ _ rfl (cells_two HG.out)) rfl ⟨_, rfl, ⟨_, _, [], rfl, .inl ⟨rfl, rfl⟩, ?_, by simp⟩, keeps_two hk1 (Nat.le_refl _) _ _⟩
    have : x = 0 := by rw [HX.out, ← HDV.out]; simp [dv]
    rw [this]
    exact Rep.zero
  · have h0' : ¬ (l'.length : Int) = 0 := fun h => h0 (List.eq_nil_of_length_eq_zero (by omega))
    have hb0 : ((l'.length : Int) == 0) = false := beq_eq_false_iff_ne.2 h0'
    have h0n : ¬ l'.length = 0 := by omega
    go_wp2
    refine bodyPost_ret (results_nb rfl _ _ _ _ _ _ _ rfl (cells_two HG.out)) rfl ⟨_, rfl, ⟨_, _, l', rfl, ?_, ?_, by omega⟩, keeps_two hk1 (Nat.le_refl _) _ _⟩
    · exact hv' _ (H.out.kept (keeps_two hk1 (Nat.le_refl _) _ _))
    · refine rep_make HL.out (HS.out ?_) h0 (by rw [HX.out, HDV.out])
      rw [← HDV.out]
      exact fun h => h0 ((norm_zero HL.out).2 h)
end Go.Proofs.YtmoajobnhiopiaaGreatDoor.nb
