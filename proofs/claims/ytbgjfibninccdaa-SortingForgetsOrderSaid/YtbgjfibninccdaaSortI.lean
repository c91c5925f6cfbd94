/- The law SortingIsOblivious. -/
import Derived.Test.YtbgjfibninccdaaSortG
set_option linter.unusedSimpArgs false
set_option linter.unusedVariables false
namespace Go.Proofs.Ytbgjfibninccdaa.so
open Go Go.RowKit Go.Shelf Go.Maps Go.Proofs.Ytbgjfibninccdaa.mk Go.Proofs.Ytbgjfibninccdaa.nw Go.Proofs.Ytbgjfibninccdaa.tp Go.Proofs.Ytbgjfibninccdaa.rg Go.Proofs.Ytbgjfibninccdaa.ar

/-! ### slices.Clone of records -/
def RCloneOf (w : World) (l : List Rec) (e : Ending) (w' : World) : Prop :=
  ∃ v, e = .returned v ∧ w'.ownsRow w.heap.size 24 2 v l.length (rflat l) ∧ Keeps (fun _ => False) w w'
theorem rclone_nil (c : Nat) (w : World) : Calls Try.prog 17 #[.slice none 0 c] w (RCloneOf w []) := by
  have hnil : ∀ w, (binOp .eql 30 (.slice none 0 c) (.slice none 0 0)).run Try.prog w = .ok (.bool true) w := fun w => Lib.run_eql_slice_nil w 30 24 none 0 c 0 0 Try.underlying30
  go_enter Try.func17, Try.ntmps17
  go_wp2
  go_ret
  exact ⟨.slice none 0 0, rfl, World.ownsRow_nil _ _ _ _, Keeps.refl _ _⟩
theorem rclone_some (ad : Addr) (n cap : Nat) (l : List Rec) (w : World) (hl : n ≤ 1099511627776) (hn : (rflat l).length = n * 2) (h : ∀ j u, (rflat l)[j]? = some u → w.cell? (ad.add j) = some u) : Calls Try.prog 17 #[.slice (some ad) n cap] w (RCloneOf w l) := by
  have hnil : ∀ w, (binOp .eql 30 (.slice (some ad) n cap) (.slice none 0 0)).run Try.prog w = .ok (.bool false) w := fun w => Lib.run_eql_slice_nil w 30 24 (some ad) n cap 0 0 Try.underlying30
  obtain ⟨i0, hi, hz0, hz1, hz2⟩ := info_parts infoRec
  have Hn := Lib.hid hn
  clear hn
  have hrow := World.ownsRow_made w (base := w.heap.size) (e := 24) (size := 2) #[] 0 (Nat.le_refl _) (by simp) rfl
  go_enter Try.func17, Try.ntmps17
  go_wp2_with (at_builtin; refine wpList_append_own _ rfl _ _ 30 rfl w.heap.size 24 i0 (.agg #[.int .u64 0, .int .u64 0]) 2 16 Try.underlying30 hi hz0 hz1 hz2 rfl (by decide) _ _ _ rfl hrow ad n cap (rflat l) rfl Hn.out ?c1 ?c2 ?c3 ?c4 ?c5 ?_)
  case c1 =>
    intro j u hj
    have hc := h j u hj
    have hlt := World.block_lt_of_cell? w _ hc
    rw [World.cell?_of_block (w := w) (Below.heap_alloc w _ _ hlt)]
    exact hc
  case c2 => exact rflat_one l
  case c3 => unfold maxLen; omega
  case c4 => omega
  case c5 => simp
  intro v' w1 hown1 hgrow1 _
  go_wp2
  go_ret
  have hn : n = l.length := by
    have h1 := Hn.out
    rw [rflat_length] at h1
    omega
  subst hn
  exact ⟨v', rfl, hown1, ((Keeps.refl _ w).alloc _).grown hgrow1 (fun k e hk => by cases e; exact absurd hk (Nat.lt_irrefl _))⟩
theorem rclone_any (v : Value) (l : List Rec) (w : World) (hl : l.length ≤ 1099511627776) (h : recAt w v l) : Calls Try.prog 17 #[v] w (RCloneOf w l) := by
  rcases h with ⟨rfl, ao, cap, rfl⟩ | ⟨_, b, off, cap, rfl, _, hc⟩
  · cases ao with
    | none => exact rclone_nil cap w
    | some ad => exact rclone_some ad 0 cap [] w (by omega) rfl (fun j u hj => by simp [rflat] at hj)
  · exact rclone_some _ _ cap l w hl (rflat_length l) (rec_cells (cap := cap) hc)

/-! ### the other list -/
def otherR (a b : Int) (r : Rec) : Rec := (IntKind.u64.wrap (IntKind.u64.wrap (r.1 * a) + b), IntKind.u64.wrap (IntKind.u64.wrap (r.2 * b) + a))
theorem otherR_ok (a b : Int) (r : Rec) : RecOk (otherR a b r) := by
  unfold otherR RecOk IsU
  simp only [wrap_u64]
  omega
/-- The first k are changed. -/
def mixO (a b : Int) (L : List Rec) (k : Nat) : List Rec := (L.take k).map (otherR a b) ++ L.drop k
theorem mixO_length (a b : Int) (L : List Rec) (k : Nat) : (mixO a b L k).length = L.length := by
  unfold mixO
  rw [List.length_append, List.length_map, List.length_take, List.length_drop]; omega
theorem mixO_get {a b : Int} {L : List Rec} {k : Nat} {r : Rec} (h : L[k]? = some r) : (mixO a b L k)[k]? = some r := by
  have hk := (List.getElem?_eq_some_iff.1 h).1
  have hl : ((L.take k).map (otherR a b)).length = k := by rw [List.length_map, List.length_take]; omega
  unfold mixO
  rw [List.getElem?_append_right (by omega), hl, Nat.sub_self, List.getElem?_drop, Nat.add_zero]
  exact h
theorem mixO_set {a b : Int} {L : List Rec} {k : Nat} {r : Rec} (h : L[k]? = some r) : (mixO a b L k).set k (otherR a b r) = mixO a b L (k + 1) := by
  have hk := (List.getElem?_eq_some_iff.1 h).1
  have hl : ((L.take k).map (otherR a b)).length = k := by rw [List.length_map, List.length_take]; omega
  have hd : L.drop k = r :: L.drop (k + 1) := by
    rw [List.drop_eq_getElem_cons hk, (List.getElem?_eq_some_iff.1 h).2]
  unfold mixO
  rw [List.set_append_right _ _ (by omega), hl, Nat.sub_self, hd, List.take_add_one, h, List.map_append, List.append_assoc]
  rfl
theorem qcut {w : World} {S : Nat → Prop} {q : Option Addr} {l : List Ev} (h : qAt w S q l) : qAt w (fun i => S i ∧ i < w.heap.size) q l := h.mono (fun i hi h => ⟨h, hi⟩)
theorem q_ptr' {w : World} {S : Nat → Prop} {b : Nat} {l : List Ev} (h : qAt w S (some ⟨b, 0, none⟩) l) : ptrAt w S (.pointer (some ⟨b, 0, none⟩)) l := q_ptr h
set_option maxRecDepth 100000 in
set_option maxHeartbeats 2000000 in
theorem oblivious_law (v : Value) (l : List Rec) (a b : Int) (w : World) (hv : recAt w v l) (hok : Recs l) (ha : IsU a) (hb : IsU b) : Calls Try.prog 7 #[v, .int .u64 a, .int .u64 b] w (Yes w) := by
  obtain ⟨ao, cap, hva⟩ : ∃ ao cap, v = .slice ao l.length cap := by
    rcases hv with ⟨rfl, ao, cap, rfl⟩ | ⟨_, b, off, cap, rfl, _⟩
    · exact ⟨_, _, rfl⟩
    · exact ⟨_, _, rfl⟩
  subst hva
  by_cases hl : l.length ≤ 100
  · have hl' : ¬ (l.length : Int) > 100 := by omega
    have hle : (l.length : Int) ≤ 100 := by omega
    have Hlt := Lib.hid (rec_lt hv)
    have Hv := Lib.hid hv
    have cr := rclone_any _ l w (by omega) hv
    clear hv
    go_enter Try.func7, Try.ntmps7
    go_wp2_with fail
    refine cr.mono ?_; clear cr; rintro e w1 ⟨v1, rfl, hr1, hk1⟩
    obtain ⟨ao1, cap1, rfl⟩ : ∃ ao cap, v1 = .slice ao l.length cap := by
      rcases hr1.2 with ⟨rfl, h0⟩ | ⟨g, c, cur, rfl, _⟩
      · exact ⟨none, 0, by rw [h0]⟩
      · exact ⟨_, _, rfl⟩
    have Hg := Lib.hid (show ∀ k, k < l.length → ∃ g, ao1 = some ⟨g, 0, none⟩ from fun k hk => by
      rcases hr1.2 with ⟨_, h0⟩ | ⟨g, c, cur, he, _⟩
      · omega
      · injection he with he1 _ _; exact ⟨g, he1⟩)
    have Hr1 := Lib.hid hr1
    have Hk1 := Lib.hid hk1
    clear hr1 hk1
    go_wp2_with fail
    go_loopw [19] (fun i wr => ∃ k : Nat, k ≤ l.length ∧ i = .int .i64 k ∧ wr.ownsRow w.heap.size 24 2 (.slice ao1 l.length cap1) l.length (rflat (mixO a b l k)) ∧ Keeps (fun _ => False) w wr) (fun i _ => l.length - (intOf i).toNat)
    case atStart => exact ⟨0, Nat.zero_le _, rfl, Hr1.out, Hk1.out⟩
    case round =>
      obtain ⟨k, hk, rfl, hrow, hkp⟩ := hrel
      by_cases hlt : k < l.length
      · obtain ⟨⟨x, y⟩, hxy⟩ : ∃ e, l[k]? = some e := ⟨l[k], by simp [hlt]⟩
        obtain ⟨g, rfl⟩ := Hg.out k hlt
        have hgm := rflat_get _ k _ (mixO_get (a := a) (b := b) hxy)
        have c0 := (hrow.cellAt (k * 2) (by omega)).trans hgm.1
        have c1 := (hrow.cellAt (k * 2 + 1) (by omega)).trans hgm.2
        simp only at c0 c1
        have e0 := hrow.frozenAt (k * 2)
        have e1 := hrow.frozenAt (k * 2 + 1)
        have Hset := Lib.hid (mixO_set (a := a) (b := b) hxy)
        have Hrow := Lib.hid hrow
        have Hkp := Lib.hid hkp
        have Hgl := Lib.hid (hrow.lt g rfl)
        have hlt' : (k : Int) < (l.length : Int) := by omega
        have hk0 : (0 : Int) ≤ (k : Int) := by omega
        clear hxy hgm hrow hkp
        go_wp2_with fail
        refine wp_region_late (fun W => W.cell? ⟨g, k * 2, none⟩ = some (.int .u64 x) ∧ W.cell? ⟨g, k * 2 + 1, none⟩ = some (.int .u64 y)) [22] (by kernel_rfl) ?_
        have hS : wr.drew.cell? ⟨g, k * 2, none⟩ = some (.int .u64 x) ∧ wr.drew.cell? ⟨g, k * 2 + 1, none⟩ = some (.int .u64 y) := ⟨c0, c1⟩
        refine wpAnyL_any (i := 0) (oi := _) (v := .slice (some ⟨g, 0, none⟩) l.length cap1) rfl (by kernel_rfl) (by kernel_rfl) (by kernel_rfl) (by kernel_rfl) (fun _ _ _ h => (h : False).elim) (Or.inl ⟨by kernel_rfl, ?_⟩) (fun _ => by assumption) ?_
        · intro w _
          go_simp
        try simp only [List.getElem_toArray, List.getElem_cons_zero, List.getElem_cons_succ, Act.put, List.setIfInBounds_toArray, List.set_cons_zero, List.set_cons_succ]
        refine wpAnyL_any (i := 1) (oi := _) (v := .int .i64 (k : Int)) rfl (by kernel_rfl) (by kernel_rfl) (by kernel_rfl) (by kernel_rfl) (fun _ _ _ h => (h : False).elim) (Or.inl ⟨by kernel_rfl, ?_⟩) (fun _ => by assumption) ?_
        · intro w _
          go_simp
        try simp only [List.getElem_toArray, List.getElem_cons_zero, List.getElem_cons_succ, Act.put, List.setIfInBounds_toArray, List.set_cons_zero, List.set_cons_succ]
        refine wpAnyL_any (i := 2) (oi := _) (v := .slice (some ⟨g, 0, none⟩) l.length cap1) rfl (by kernel_rfl) (by kernel_rfl) (by kernel_rfl) (by kernel_rfl) (fun _ _ _ h => (h : False).elim) (Or.inl ⟨by kernel_rfl, ?_⟩) (fun _ => by assumption) ?_
        · intro w _
          go_simp
        try simp only [List.getElem_toArray, List.getElem_cons_zero, List.getElem_cons_succ, Act.put, List.setIfInBounds_toArray, List.set_cons_zero, List.set_cons_succ]
        refine wpAnyL_any (i := 3) (oi := _) (v := .int .i64 (k : Int)) rfl (by kernel_rfl) (by kernel_rfl) (by kernel_rfl) (by kernel_rfl) (fun _ _ _ h => (h : False).elim) (Or.inl ⟨by kernel_rfl, ?_⟩) (fun _ => by assumption) ?_
        · intro w _
          go_simp
        try simp only [List.getElem_toArray, List.getElem_cons_zero, List.getElem_cons_succ, Act.put, List.setIfInBounds_toArray, List.set_cons_zero, List.set_cons_succ]
        refine wpAnyL_any (i := 4) (oi := _) (v := .pointer (some ⟨g, k * 2, none⟩)) rfl (by kernel_rfl) (by kernel_rfl) (by kernel_rfl) (by kernel_rfl) (fun _ _ _ h => (h : False).elim) (Or.inl ⟨by kernel_rfl, ?_⟩) (fun _ => by assumption) ?_
        · intro w _
          go_simp
        try simp only [List.getElem_toArray, List.getElem_cons_zero, List.getElem_cons_succ, Act.put, List.setIfInBounds_toArray, List.set_cons_zero, List.set_cons_succ]
        refine wpAnyL_any (i := 5) (oi := _) (v := .pointer (some ⟨g, k * 2, none⟩)) rfl (by kernel_rfl) (by kernel_rfl) (by kernel_rfl) (by kernel_rfl) (fun _ _ _ h => (h : False).elim) (Or.inl ⟨by kernel_rfl, ?_⟩) (fun _ => by assumption) ?_
        · intro w _
          go_simp
        try simp only [List.getElem_toArray, List.getElem_cons_zero, List.getElem_cons_succ, Act.put, List.setIfInBounds_toArray, List.set_cons_zero, List.set_cons_succ]
        refine wpAnyL_take (i := 6) (oi := _) (v := .int .u64 x) rfl (by kernel_rfl) (by kernel_rfl) (by kernel_rfl) (by kernel_rfl) (fun _ _ _ h => (h : False).elim) (Or.inl ⟨by kernel_rfl, ?_⟩) (by assumption) ?_
        · intro w hSw
          obtain ⟨s0, s1⟩ := hSw
          go_simp
        try simp only [List.getElem_toArray, List.getElem_cons_zero, List.getElem_cons_succ, Act.put, List.setIfInBounds_toArray, List.set_cons_zero, List.set_cons_succ]
        refine wpAnyL_any (i := 7) (oi := _) (v := .int .u64 a) rfl (by kernel_rfl) (by kernel_rfl) (by kernel_rfl) (by kernel_rfl) (fun _ _ _ h => (h : False).elim) (Or.inl ⟨by kernel_rfl, ?_⟩) (fun _ => by assumption) ?_
        · intro w _
          go_simp
        try simp only [List.getElem_toArray, List.getElem_cons_zero, List.getElem_cons_succ, Act.put, List.setIfInBounds_toArray, List.set_cons_zero, List.set_cons_succ]
        refine wpAnyL_any (i := 8) (oi := _) (v := .int .u64 (IntKind.u64.wrap (x * a))) rfl (by kernel_rfl) (by kernel_rfl) (by kernel_rfl) (by kernel_rfl) (fun _ _ _ h => (h : False).elim) (Or.inl ⟨by kernel_rfl, ?_⟩) (fun _ => by assumption) ?_
        · intro w _
          go_simp
        try simp only [List.getElem_toArray, List.getElem_cons_zero, List.getElem_cons_succ, Act.put, List.setIfInBounds_toArray, List.set_cons_zero, List.set_cons_succ]
        refine wpAnyL_any (i := 9) (oi := _) (v := .int .u64 b) rfl (by kernel_rfl) (by kernel_rfl) (by kernel_rfl) (by kernel_rfl) (fun _ _ _ h => (h : False).elim) (Or.inl ⟨by kernel_rfl, ?_⟩) (fun _ => by assumption) ?_
        · intro w _
          go_simp
        try simp only [List.getElem_toArray, List.getElem_cons_zero, List.getElem_cons_succ, Act.put, List.setIfInBounds_toArray, List.set_cons_zero, List.set_cons_succ]
        refine wpAnyL_any (i := 10) (oi := _) (v := .int .u64 (IntKind.u64.wrap (IntKind.u64.wrap (x * a) + b))) rfl (by kernel_rfl) (by kernel_rfl) (by kernel_rfl) (by kernel_rfl) (fun _ _ _ h => (h : False).elim) (Or.inl ⟨by kernel_rfl, ?_⟩) (fun _ => by assumption) ?_
        · intro w _
          go_simp
        try simp only [List.getElem_toArray, List.getElem_cons_zero, List.getElem_cons_succ, Act.put, List.setIfInBounds_toArray, List.set_cons_zero, List.set_cons_succ]
        refine wpAnyL_any (i := 11) (oi := _) (v := .slice (some ⟨g, 0, none⟩) l.length cap1) rfl (by kernel_rfl) (by kernel_rfl) (by kernel_rfl) (by kernel_rfl) (fun _ _ _ h => (h : False).elim) (Or.inl ⟨by kernel_rfl, ?_⟩) (fun _ => by assumption) ?_
        · intro w _
          go_simp
        try simp only [List.getElem_toArray, List.getElem_cons_zero, List.getElem_cons_succ, Act.put, List.setIfInBounds_toArray, List.set_cons_zero, List.set_cons_succ]
        refine wpAnyL_any (i := 12) (oi := _) (v := .int .i64 (k : Int)) rfl (by kernel_rfl) (by kernel_rfl) (by kernel_rfl) (by kernel_rfl) (fun _ _ _ h => (h : False).elim) (Or.inl ⟨by kernel_rfl, ?_⟩) (fun _ => by assumption) ?_
        · intro w _
          go_simp
        try simp only [List.getElem_toArray, List.getElem_cons_zero, List.getElem_cons_succ, Act.put, List.setIfInBounds_toArray, List.set_cons_zero, List.set_cons_succ]
        refine wpAnyL_any (i := 13) (oi := _) (v := .pointer (some ⟨g, k * 2, none⟩)) rfl (by kernel_rfl) (by kernel_rfl) (by kernel_rfl) (by kernel_rfl) (fun _ _ _ h => (h : False).elim) (Or.inl ⟨by kernel_rfl, ?_⟩) (fun _ => by assumption) ?_
        · intro w _
          go_simp
        try simp only [List.getElem_toArray, List.getElem_cons_zero, List.getElem_cons_succ, Act.put, List.setIfInBounds_toArray, List.set_cons_zero, List.set_cons_succ]
        refine wpAnyL_any (i := 14) (oi := _) (v := .pointer (some ⟨g, k * 2 + 1, none⟩)) rfl (by kernel_rfl) (by kernel_rfl) (by kernel_rfl) (by kernel_rfl) (fun _ _ _ h => (h : False).elim) (Or.inl ⟨by kernel_rfl, ?_⟩) (fun _ => by assumption) ?_
        · intro w _
          go_simp
        try simp only [List.getElem_toArray, List.getElem_cons_zero, List.getElem_cons_succ, Act.put, List.setIfInBounds_toArray, List.set_cons_zero, List.set_cons_succ]
        refine wpAnyL_take (i := 15) (oi := _) (v := .int .u64 y) rfl (by kernel_rfl) (by kernel_rfl) (by kernel_rfl) (by kernel_rfl) (fun _ _ _ h => (h : False).elim) (Or.inl ⟨by kernel_rfl, ?_⟩) (by assumption) ?_
        · intro w hSw
          obtain ⟨s0, s1⟩ := hSw
          go_simp
        try simp only [List.getElem_toArray, List.getElem_cons_zero, List.getElem_cons_succ, Act.put, List.setIfInBounds_toArray, List.set_cons_zero, List.set_cons_succ]
        refine wpAnyL_any (i := 16) (oi := _) (v := .int .u64 b) rfl (by kernel_rfl) (by kernel_rfl) (by kernel_rfl) (by kernel_rfl) (fun _ _ _ h => (h : False).elim) (Or.inl ⟨by kernel_rfl, ?_⟩) (fun _ => by assumption) ?_
        · intro w _
          go_simp
        try simp only [List.getElem_toArray, List.getElem_cons_zero, List.getElem_cons_succ, Act.put, List.setIfInBounds_toArray, List.set_cons_zero, List.set_cons_succ]
        refine wpAnyL_any (i := 17) (oi := _) (v := .int .u64 (IntKind.u64.wrap (y * b))) rfl (by kernel_rfl) (by kernel_rfl) (by kernel_rfl) (by kernel_rfl) (fun _ _ _ h => (h : False).elim) (Or.inl ⟨by kernel_rfl, ?_⟩) (fun _ => by assumption) ?_
        · intro w _
          go_simp
        try simp only [List.getElem_toArray, List.getElem_cons_zero, List.getElem_cons_succ, Act.put, List.setIfInBounds_toArray, List.set_cons_zero, List.set_cons_succ]
        refine wpAnyL_any (i := 18) (oi := _) (v := .int .u64 a) rfl (by kernel_rfl) (by kernel_rfl) (by kernel_rfl) (by kernel_rfl) (fun _ _ _ h => (h : False).elim) (Or.inl ⟨by kernel_rfl, ?_⟩) (fun _ => by assumption) ?_
        · intro w _
          go_simp
        try simp only [List.getElem_toArray, List.getElem_cons_zero, List.getElem_cons_succ, Act.put, List.setIfInBounds_toArray, List.set_cons_zero, List.set_cons_succ]
        refine wpAnyL_any (i := 19) (oi := _) (v := .int .u64 (IntKind.u64.wrap (IntKind.u64.wrap (y * b) + a))) rfl (by kernel_rfl) (by kernel_rfl) (by kernel_rfl) (by kernel_rfl) (fun _ _ _ h => (h : False).elim) (Or.inl ⟨by kernel_rfl, ?_⟩) (fun _ => by assumption) ?_
        · intro w _
          go_simp
        try simp only [List.getElem_toArray, List.getElem_cons_zero, List.getElem_cons_succ, Act.put, List.setIfInBounds_toArray, List.set_cons_zero, List.set_cons_succ]
        refine wpAnyL_any (i := 20) (oi := _) (v := .agg #[.int .u64 (IntKind.u64.wrap (IntKind.u64.wrap (x * a) + b)), .int .u64 (IntKind.u64.wrap (IntKind.u64.wrap (y * b) + a))]) rfl (by kernel_rfl) (by kernel_rfl) (by kernel_rfl) (by kernel_rfl) (fun _ _ _ h => (h : False).elim) (Or.inl ⟨by kernel_rfl, ?_⟩) (fun _ => by assumption) ?_
        · intro w _
          go_simp
        try simp only [List.getElem_toArray, List.getElem_cons_zero, List.getElem_cons_succ, Act.put, List.setIfInBounds_toArray, List.set_cons_zero, List.set_cons_succ]
        refine wpAnyL_any (i := 21) (oi := _) (v := .pointer (some ⟨g, k * 2, none⟩)) rfl (by kernel_rfl) (by kernel_rfl) (by kernel_rfl) (by kernel_rfl) (fun _ _ _ h => (h : False).elim) (Or.inl ⟨by kernel_rfl, ?_⟩) (fun _ => by assumption) ?_
        · intro w _
          go_simp
        try simp only [List.getElem_toArray, List.getElem_cons_zero, List.getElem_cons_succ, Act.put, List.setIfInBounds_toArray, List.set_cons_zero, List.set_cons_succ]
        refine wpAnyL_late (i := 22) (by kernel_rfl) rfl (by kernel_rfl) (fun K hK => ?_)
        go_simp
        refine hK.out _ _ (fun _ => ?_)
        clear hK K
        try simp only [List.getElem_toArray, List.getElem_cons_zero, List.getElem_cons_succ, Act.put, List.setIfInBounds_toArray, List.set_cons_zero, List.set_cons_succ]
        refine wpAnyL_done (by kernel_rfl) ?_ _
        refine NoPanic.normal ?_
        have hst := ((Hrow.out.stored (k * 2) (.int .u64 (otherR a b (x, y)).1)).1.stored (k * 2 + 1) (.int .u64 (otherR a b (x, y)).2)).1
        rw [← rflat_set _ k (otherR a b (x, y)) (by rw [mixO_length]; exact hlt), Hset.out] at hst
        have Hst := Lib.hid hst
        have Hk6 := Lib.hid (((Hkp.out.setCell ⟨g, k * 2, none⟩ (fun h => by have := Hgl.out.1; simp only at h; omega) (.int .u64 (otherR a b (x, y)).1)).setCell ⟨g, k * 2 + 1, none⟩ (fun h => by have := Hgl.out.1; simp only at h; omega) (.int .u64 (otherR a b (x, y)).2)).drewN 1)
        clear hst hS c0 c1
        go_wp2
        go_roundw
        case rel => exact ⟨k + 1, by omega, by go_num, Hst.out, Hk6.out⟩
        case measure => simp [intOf]; omega
      · obtain rfl : l.length = k := by omega
        have hM : mixO a b l l.length = l.map (otherR a b) := by unfold mixO; rw [List.take_length, List.drop_length, List.append_nil]
        rw [hM] at hrow
        have hMl : (l.map (otherR a b)).length = l.length := List.length_map _
        have hMok : Recs (l.map (otherR a b)) := fun r hr => by
          obtain ⟨s, _, rfl⟩ := List.mem_map.1 hr
          exact otherR_ok a b s
        generalize l.map (otherR a b) = M at hrow hMl hMok
        have hvm : recAt wr (.slice ao1 l.length cap1) M := by
          rcases hrow.2 with ⟨he, h0⟩ | ⟨g, c, cur, he, _⟩
          · exact .inl ⟨List.eq_nil_of_length_eq_zero (by omega), ao1, cap1, by rw [h0]⟩
          · have := rec_of_row (c := cap1) (by rw [he] at hrow; exact hrow) hMl M (fun i r h => h)
            rw [hMl] at this
            injection he with he1 _ _
            rw [he1]; exact this
        have hmg : ∀ g, (Value.slice ao1 l.length cap1).ownBlock = some g → w.heap.size ≤ g ∧ g < wr.heap.size := fun g hg => hrow.lt g hg
        have Hvm := Lib.hid hvm
        have Hmg := Lib.hid hmg
        have Hkp := Lib.hid hkp
        have HMok := Lib.hid hMok
        clear hrow hkp hlt hM hvm hmg hMok
        obtain ⟨w1, rfl⟩ : ∃ w1 : World, w1 = wr := ⟨_, rfl⟩
        go_wp2_with fail
        refine (new_any w1).mono ?_; rintro e w2 ⟨b1, rfl, hT1, hk2⟩
        go_wp2_with fail
        refine (new_any w2).mono ?_; rintro e w3 ⟨b2, rfl, hT2, hk3⟩
        have Hz0 := Lib.hid Hkp.out.size
        have Hz2 := Lib.hid hk2.size
        have Hz3 := Lib.hid hk3.size
        have Hq1 := Lib.hid ((show qAt w2 (fun k => w1.heap.size ≤ k ∧ k < w2.heap.size) (some ⟨b1, 0, none⟩) [] from .inr ⟨b1, rfl, hT1.mono (fun k hk h => ⟨h, hk⟩)⟩).keep hk3 (fun _ _ _ h => h))
        have Hq2 := Lib.hid (show qAt w3 (fun k => w2.heap.size ≤ k ∧ k < w3.heap.size) (some ⟨b2, 0, none⟩) [] from .inr ⟨b2, rfl, hT2.mono (fun k hk h => ⟨h, hk⟩)⟩)
        have Hkw3 := Lib.hid ((Hkp.out.trans hk2 (fun _ _ h => h)).trans hk3 (fun _ _ h => h))
        have Hvm3 := Lib.hid ((Hvm.out.kept hk2).kept hk3)
        clear hT1 hT2 hk2 hk3
        -- Sort(t, l)
        have cs := sort_any (some ⟨b1, 0, none⟩) [] _ _ l w3 Hq1.out (by simp) (Hv.out.kept Hkw3.out) (by omega) hok (fun hne g hg h => by have := Hlt.out hne g hg; have := Hz0.out; omega)
        go_wp2_with fail
        refine cs.mono ?_; clear cs; rintro e w4 ⟨v4, rfl, _, _, ⟨S4, hS1, hS2, _⟩, hk4⟩
        have Hq1 := Lib.hid (qcut hS1)
        have HS4 := Lib.hid (show ∀ i, S4 i ∧ i < w4.heap.size → (w1.heap.size ≤ i ∧ i < w2.heap.size) ∨ (w3.heap.size ≤ i ∧ i < w4.heap.size) from fun i h => by rcases hS2 i h.1 with h' | h'; exact .inl h'; exact .inr ⟨h', h.2⟩)
        have Hz4 := Lib.hid hk4.size
        have Hq2 := Lib.hid (Hq2.out.keep hk4 (fun k _ h1 h2 => by have := Hz2.out; omega))
        have Hkw4 := Lib.hid (Hkw3.out.trans hk4 (fun i hi h => by have := Hz0.out; omega))
        have Hvm4 := Lib.hid (Hvm3.out.keep hk4 (fun _ g hg hlt h => by have := (Hmg.out g hg).2; omega))
        clear hS1 hS2 hk4
        -- Sort(u, m)
        have cs := sort_any (some ⟨b2, 0, none⟩) [] _ _ M w4 Hq2.out (by simp) Hvm4.out (by omega) HMok.out (fun hne g hg h => by have := (Hmg.out g hg).2; have := Hz2.out; omega)

        go_wp2_with fail
        refine cs.mono ?_; clear cs; rintro e w5 ⟨v5, rfl, _, _, ⟨S5, hS1, hS2, _⟩, hk5⟩
        have Hq2 := Lib.hid (qcut hS1)
        have HS5 := Lib.hid (show ∀ i, S5 i ∧ i < w5.heap.size → (w2.heap.size ≤ i ∧ i < w3.heap.size) ∨ (w4.heap.size ≤ i ∧ i < w5.heap.size) from fun i h => by rcases hS2 i h.1 with h' | h'; exact .inl h'; exact .inr ⟨h', h.2⟩)
        have Hz5 := Lib.hid hk5.size
        have Hq1 := Lib.hid (Hq1.out.keep hk5 (fun k _ h1 h2 => by have := HS4.out k h1; have := Hz2.out; have := Hz3.out; omega))
        have Hkw5 := Lib.hid (Hkw4.out.trans hk5 (fun i hi h => by have := Hz0.out; have := Hz2.out; omega))
        have Hvm5 := Lib.hid (Hvm4.out.keep hk5 (fun _ g hg hlt h => by have := (Hmg.out g hg).2; have := Hz2.out; omega))
        rw [hMl] at Hq2
        clear hS1 hS2 hk5
        obtain ⟨L, hL⟩ : ∃ L, netOf l.length = L := ⟨_, rfl⟩
        have Hnb := Lib.hid (show L.length ≤ 589824 from hL ▸ net_bound (netOf_isNet (n := l.length) (by omega)))
        rw [hL] at Hq1 Hq2
        have hlb1 : (evsC (some ⟨b1, 0, none⟩) [] L).length ≤ 549755813888 := by have := Hnb.out; rw [show evsC (some ⟨b1, 0, none⟩) [] L = cevs L by unfold evsC cevs; simp, cevs_length]; omega
        have hlb2 : (evsC (some ⟨b2, 0, none⟩) [] L).length ≤ 549755813888 := by have := Hnb.out; rw [show evsC (some ⟨b2, 0, none⟩) [] L = cevs L by unfold evsC cevs; simp, cevs_length]; omega
        -- Count(t, l)
        have cc := scount_any (some ⟨b1, 0, none⟩) (evsC (some ⟨b1, 0, none⟩) [] L) _ _ l w5 Hq1.out hlb1 (Hv.out.kept Hkw5.out) (by omega) hok (fun hne g hg h => by have := Hlt.out hne g hg; have := HS4.out g h; have := Hz0.out; have := Hz2.out; have := Hz3.out; omega)
        go_wp2_with fail
        refine cc.mono ?_; clear cc; rintro e w6 ⟨rfl, hq6, hk6⟩
        have Hq1 := Lib.hid (qcut hq6)
        have Hz6 := Lib.hid hk6.size
        have HS6 := Lib.hid (show ∀ i, ((S4 i ∧ i < w4.heap.size) ∨ w5.heap.size ≤ i) ∧ i < w6.heap.size → (w1.heap.size ≤ i ∧ i < w2.heap.size) ∨ (w3.heap.size ≤ i ∧ i < w4.heap.size) ∨ (w5.heap.size ≤ i ∧ i < w6.heap.size) from fun i h => by
          rcases h.1 with h' | h'
          · rcases HS4.out i h' with h'' | h''
            · exact .inl h''
            · exact .inr (.inl h'')
          · exact .inr (.inr ⟨h', h.2⟩))
        have Hq2 := Lib.hid (Hq2.out.keep hk6 (fun k _ h1 h2 => by have := HS4.out k h2; have := HS5.out k h1; have := Hz2.out; have := Hz3.out; have := Hz4.out; omega))
        have Hkw6 := Lib.hid (Hkw5.out.trans hk6 (fun i hi h => by have := HS4.out i h; have := Hz0.out; have := Hz2.out; have := Hz3.out; omega))
        have Hvm6 := Lib.hid (Hvm5.out.keep hk6 (fun _ g hg hlt h => by have := (Hmg.out g hg).2; have := HS4.out g h; have := Hz2.out; have := Hz3.out; omega))
        clear hq6 hk6
        -- Count(u, m)
        have cc := scount_any (some ⟨b2, 0, none⟩) (evsC (some ⟨b2, 0, none⟩) [] L) _ _ M w6 Hq2.out hlb2 Hvm6.out (by omega) HMok.out (fun hne g hg h => by have := (Hmg.out g hg).2; have := HS5.out g h; have := Hz2.out; have := Hz3.out; have := Hz4.out; omega)
        rw [hMl] at cc
        go_wp2_with fail
        refine cc.mono ?_; clear cc; rintro e w7 ⟨rfl, hq7, hk7⟩
        have Hq1 := Lib.hid (Hq1.out.keep hk7 (fun k _ h1 h2 => by have := HS6.out k h1; have := HS5.out k h2; have := Hz2.out; have := Hz3.out; have := Hz4.out; have := Hz5.out; omega))
        have Hq2 := Lib.hid hq7
        have Hkw7 := Lib.hid (Hkw6.out.trans hk7 (fun i hi h => by have := HS5.out i h; have := Hz0.out; have := Hz2.out; have := Hz3.out; have := Hz4.out; omega))
        clear hq7 hk7
        go_wp2_with fail
        refine (alive_calls _).mono ?_; rintro e w8 ⟨rfl, hk8⟩
        have Hkw8 := Lib.hid (Hkw7.out.trans hk8 (fun _ _ h => h))
        have e1 : recs (some ⟨b1, 0, none⟩) (evsC (some ⟨b1, 0, none⟩) [] L) 1 l.length = cevs L ++ ievs 1 l.length := by unfold recs evsC cevs ievs; simp
        have e2 : recs (some ⟨b2, 0, none⟩) (evsC (some ⟨b2, 0, none⟩) [] L) 1 l.length = cevs L ++ ievs 1 l.length := by unfold recs evsC cevs ievs; simp
        have ct := tequal_calls (.pointer (some ⟨b1, 0, none⟩)) (.pointer (some ⟨b2, 0, none⟩)) _ _ (cevs L ++ ievs 1 l.length) (cevs L ++ ievs 1 l.length) w8 (by rw [List.length_append, cevs_length, ievs_length]; have := Hnb.out; omega)
          (q_ptr (by rw [← e1]; exact Hq1.out.keep hk8 (fun _ _ _ h => h))) (q_ptr (by rw [← e2]; exact Hq2.out.keep hk8 (fun _ _ _ h => h)))
        clear e1 e2 hk8
        go_wp2_with fail
        refine ct.mono ?_; clear ct; rintro e w9 ⟨rfl, n9, rfl⟩
        rw [show decide True = true from rfl]
        go_wp2_with fail
        go_ret
        exact ⟨rfl, Hkw8.out.drewN n9⟩
  · have hl' : (l.length : Int) > 100 := by omega
    go_enter Try.func7, Try.ntmps7
    go_wp2_with fail
    refine (alive_calls _).mono ?_; rintro e w3 ⟨rfl, hk3⟩
    go_wp2
    go_ret
    exact ⟨rfl, hk3⟩
end Go.Proofs.Ytbgjfibninccdaa.so
