/- The writer of a request, by walking its text. -/
import Derived.Test.YtmoajobnhiopiaaGreatDoorSrvE
import Derived.Maps.AppendAt
set_option linter.unusedSimpArgs false
set_option linter.unusedVariables false
namespace Go.Proofs.YtmoajobnhiopiaaGreatDoor.sv
open Go Go.RowKit Go.Shelf Go.Maps Go.Proofs.YtmoajobnhiopiaaGreatDoor.mk Go.Proofs.YtmoajobnhiopiaaGreatDoor.tp Go.Proofs.YtmoajobnhiopiaaGreatDoor.rg Go.Proofs.YtmoajobnhiopiaaGreatDoor.lm Go.Proofs.YtmoajobnhiopiaaGreatDoor.gm Go.Proofs.YtmoajobnhiopiaaGreatDoor.po

theorem wp_append_atW {P : Program} {w : World} {o : Oper} {a : Act} {K : Act → World → Prop} {Q : Exit → Act → World → Prop} (s x : Operand) (t : TypeId)
    (ho : o.op = .call { callee := .builtin .append, args := #[s, x], argTypes := #[t, t] })
    (base : Nat) (e : TypeId) (i : TypeInfo) (z : Value) (size bytes : Nat) (ht : P.underlying t = some (.slice e)) (hi : P.info? e = some i) (hz : i.zero = some z)
    (hsize : i.size = size) (hby : i.bytes = bytes) (hzs : z.cells.size = size) (hsz : 0 < size)
    (v : Value) (n : Nat) (xs : List Value) (hs : a.eval s = v) (hown : w.ownsRow base e size v n xs)
    (ao : Option Addr) (m c : Nat) (news : List Value) (hx : a.eval x = .slice ao m c) (hnone : ao = none → m = 0 ∧ c = 0) (hl : news.length = m * size) (hnews : ∀ ad, ao = some ad → ∀ j u, news[j]? = some u → w.cell? (ad.add j) = some u) (h1 : ∀ u ∈ news, u.oneCell' = true)
    (h63 : n + m ≤ maxLen) (hbytes : (n + m) * bytes ≤ 140737488355328) (hbase : base ≤ w.heap.size)
    (h : ∀ v' w', w'.ownsRow base e size v' (n + m) (xs ++ news) → w.grownBy w' v.ownBlock → (v'.ownBlock = v.ownBlock ∨ v'.ownBlock = some w.heap.size) → K (a.put o.dst v') w') : o.wp P a w K Q := by
  cases ao with
  | none =>
    obtain ⟨rfl, rfl⟩ := hnone rfl
    obtain rfl : news = [] := List.eq_nil_of_length_eq_zero (by simpa using hl)
    have hrun := run_append_owned_none (P := P) (w := w) base t o.type e i size ht hi v n xs hown
    unfold Oper.wp
    simp [execOp, ho, resolve, invoke, builtin, hs, hx, hrun, Result.andThen]
    exact h v w (by simpa using hown) (World.grownBy.refl w _) (.inl rfl)
  | some ad =>
    obtain ⟨v', w', hr, h2, h3, h4, h5⟩ := run_append_own_at (P := P) w base t o.type e i z size bytes ht hi hz hsize hby hzs hsz v n xs hown ad m c news hl (hnews ad rfl) h1 h63 hbytes hbase
    unfold Oper.wp execOp
    simp only [ho, resolve, invoke, builtin, Sem.run_bind, Sem.run_pure, Result.andThen_ok, List.map_toArray, List.map_cons, List.map_nil, hs, hx, hr]
    exact h v' w' h2 h3 h5

theorem rowW_off {w w' : World} {base b n size : Nat} {e : TypeId} {v : Value} {xs : List Value} (h : w.ownsRow base e size v n xs) (hk : Keeps (fun j => j = b) w w') (hb : v.ownBlock ≠ some b) : w'.ownsRow base e size v n xs := by
  refine ⟨h.1, ?_⟩
  rcases h.2 with h0 | ⟨g, cap, cur, he, h1, h2, h3⟩
  · exact .inl h0
  · refine .inr ⟨g, cap, cur, he, h1, (hk.block g (Array.getElem?_eq_some_iff.1 h2).1 (fun hg => hb ?_)).trans h2, h3⟩
    rw [he, ← hg]
    rfl
theorem infoB : (Tryz.prog.info? 5).map (fun i => (i.zero, i.size, i.bytes)) = some (some (.int .u8 0), 1, 1) := by kernel_rfl
/-- The writer at block bw has n bytes, in a row of the call's own; nothing but the writer and its first row has turned since w0. -/
def Wr (w0 : World) (v0 : Value) (bw B n : Nat) (W : World) : Prop := ∃ v l, W.heap[bw]? = some (.cells #[v] 155 (0, 0)) ∧ W.ownsRow B 5 1 v n l ∧ (v.ownBlock = v0.ownBlock ∨ ∃ j, v.ownBlock = some j ∧ w0.heap.size ≤ j) ∧ Keeps (fun j => j = bw ∨ some j = v0.ownBlock) w0 W

set_option maxRecDepth 100000 in
set_option maxHeartbeats 4000000 in
theorem wword_calls (w0 : World) (v0 : Value) (bw B n : Nat) (x : Int) (hx : IsU x) (hn : n ≤ 2000) (hB : B ≤ w0.heap.size) (hbw : bw < w0.heap.size) (hne : v0.ownBlock ≠ some bw) (w : World) (h : Wr w0 v0 bw B n w) :
    Calls Tryz.prog 129 #[.pointer (some ⟨bw, 0, none⟩), .int .u64 x] w fun e w' => e = .returned (.tuple #[]) ∧ Wr w0 v0 bw B (n + 8) w' := by
  obtain ⟨i0, hi, hz0, hz1, hz2⟩ := info_parts infoB
  have H := Lib.hid h
  have HNE := Lib.hid hne
  have HX := Lib.hid hx
  clear h hne hx
  go_enter Tryz.func129, Tryz.ntmps129
  go_wp2
  go_loopw [4, 5] (fun _ i wr => ∃ k : Nat, k ≤ 8 ∧ i = .int .i64 k ∧ RowKit.Hid (Wr w0 v0 bw B (n + k) wr)) (fun _ i _ => 8 - (intOf i).toNat)
  case atStart => exact ⟨0, by omega, rfl, H.out⟩
  case round =>
    obtain ⟨k, hk, rfl, HW⟩ := hrel
    by_cases hk8 : k < 8
    · have hkI : (k : Int) < 8 := by omega
      have hk0 : (0 : Int) ≤ (k : Int) := by omega
      have hw8 : IntKind.i64.wrap (8 * (k : Int)) = 8 * (k : Int) := by rw [IntKind.wrap_i64]; omega
      obtain ⟨v, l, hg, hr, ho, hK⟩ := HW.out
      have c0 := cells_at hg 0
      have HGR := Lib.hid hg
      have HR := Lib.hid hr
      have HO := Lib.hid ho
      have HK := Lib.hid hK
      clear hg hr ho hK HW
      go_wp2_with fail
      refine wp_region_late (fun W => W.cell? ⟨bw, 0, none⟩ = some v) [14] (by kernel_rfl) ?_
      have hS : wr.drew.cell? ⟨bw, 0, none⟩ = some v := c0
      have HRD := Lib.hid (show wr.drew.ownsRow B 5 1 v (n + k) l from HR.out)
      have HGD := Lib.hid (show wr.drew.heap[bw]? = some (.cells #[v] 155 (0, 0)) from HGR.out)
      have HKD := Lib.hid (HK.out.drewN 1)
      have hbd : bw < wr.drew.heap.size := (Array.getElem?_eq_some_iff.1 HGD.out).1
      have hsz0 := Lib.hid (show B ≤ wr.drew.heap.size from Nat.le_trans hB HK.out.size)
      have hvne : ¬ some bw = v.ownBlock := fun h => by
        rcases HO.out with ho | ⟨j, ho, hj⟩
        · exact HNE.out (by rw [← ho, ← h])
        · rw [ho] at h; injection h with h; omega
      have hte : (8 * (k : Int)).toNat = 8 * k := by omega
      have HKD : RowKit.Hid (Keeps (fun j => j = bw ∨ some j = v0.ownBlock) w0 wr.drew) := HKD
      clear c0 HGR HR HK
      generalize wr.drew = wd at hS HRD HGD HKD hbd hsz0 ⊢
      refine wpAnyL_any (i := 0) (oi := _) (v := .pointer (some ⟨bw, 0, none⟩)) rfl (by kernel_rfl) (by kernel_rfl) (by kernel_rfl) (by kernel_rfl) (fun _ _ _ h => (h : False).elim) (Or.inl ⟨by kernel_rfl, ?_⟩) (fun _ => by assumption) ?_
      · intro w _
        go_simp
      try simp only [List.getElem_toArray, List.getElem_cons_zero, List.getElem_cons_succ, Act.put, List.setIfInBounds_toArray, List.set_cons_zero, List.set_cons_succ]
      refine wpAnyL_any (i := 1) (oi := _) (v := .pointer (some ⟨bw, 0, none⟩)) rfl (by kernel_rfl) (by kernel_rfl) (by kernel_rfl) (by kernel_rfl) (fun _ _ _ h => (h : False).elim) (Or.inl ⟨by kernel_rfl, ?_⟩) (fun _ => by assumption) ?_
      · intro w _
        go_simp
      try simp only [List.getElem_toArray, List.getElem_cons_zero, List.getElem_cons_succ, Act.put, List.setIfInBounds_toArray, List.set_cons_zero, List.set_cons_succ]
      refine wpAnyL_any (i := 2) (oi := _) (v := .pointer (some ⟨bw, 0, none⟩)) rfl (by kernel_rfl) (by kernel_rfl) (by kernel_rfl) (by kernel_rfl) (fun _ _ _ h => (h : False).elim) (Or.inl ⟨by kernel_rfl, ?_⟩) (fun _ => by assumption) ?_
      · intro w _
        go_simp
      try simp only [List.getElem_toArray, List.getElem_cons_zero, List.getElem_cons_succ, Act.put, List.setIfInBounds_toArray, List.set_cons_zero, List.set_cons_succ]
      refine wpAnyL_any (i := 3) (oi := _) (v := .pointer (some ⟨bw, 0, none⟩)) rfl (by kernel_rfl) (by kernel_rfl) (by kernel_rfl) (by kernel_rfl) (fun _ _ _ h => (h : False).elim) (Or.inl ⟨by kernel_rfl, ?_⟩) (fun _ => by assumption) ?_
      · intro w _
        go_simp
      try simp only [List.getElem_toArray, List.getElem_cons_zero, List.getElem_cons_succ, Act.put, List.setIfInBounds_toArray, List.set_cons_zero, List.set_cons_succ]
      refine wpAnyL_take (i := 4) (oi := _) (v := v) rfl (by kernel_rfl) (by kernel_rfl) (by kernel_rfl) (by kernel_rfl) (fun _ _ _ h => (h : False).elim) (Or.inl ⟨by kernel_rfl, ?_⟩) (by assumption) ?_
      · intro w hSw
        skip
        go_simp
      try simp only [List.getElem_toArray, List.getElem_cons_zero, List.getElem_cons_succ, Act.put, List.setIfInBounds_toArray, List.set_cons_zero, List.set_cons_succ]
      refine wpAnyL_any (i := 5) (oi := _) (v := .int .u64 x) rfl (by kernel_rfl) (by kernel_rfl) (by kernel_rfl) (by kernel_rfl) (fun _ _ _ h => (h : False).elim) (Or.inl ⟨by kernel_rfl, ?_⟩) (fun _ => by assumption) ?_
      · intro w _
        go_simp
      try simp only [List.getElem_toArray, List.getElem_cons_zero, List.getElem_cons_succ, Act.put, List.setIfInBounds_toArray, List.set_cons_zero, List.set_cons_succ]
      refine wpAnyL_any (i := 6) (oi := _) (v := .int .i64 (k : Int)) rfl (by kernel_rfl) (by kernel_rfl) (by kernel_rfl) (by kernel_rfl) (fun _ _ _ h => (h : False).elim) (Or.inl ⟨by kernel_rfl, ?_⟩) (fun _ => by assumption) ?_
      · intro w _
        go_simp
      try simp only [List.getElem_toArray, List.getElem_cons_zero, List.getElem_cons_succ, Act.put, List.setIfInBounds_toArray, List.set_cons_zero, List.set_cons_succ]
      refine wpAnyL_any (i := 7) (oi := _) (v := .int .i64 (8 * (k : Int))) rfl (by kernel_rfl) (by kernel_rfl) (by kernel_rfl) (by kernel_rfl) (fun _ _ _ h => (h : False).elim) (Or.inl ⟨by kernel_rfl, ?_⟩) (fun _ => by assumption) ?_
      · intro w _
        go_simp
      try simp only [List.getElem_toArray, List.getElem_cons_zero, List.getElem_cons_succ, Act.put, List.setIfInBounds_toArray, List.set_cons_zero, List.set_cons_succ]
      refine wpAnyL_any (i := 8) (oi := _) (v := .int .u64 (x / 2 ^ (8 * k))) rfl (by kernel_rfl) (by kernel_rfl) (by kernel_rfl) (by kernel_rfl) (fun _ _ _ h => (h : False).elim) (Or.inl ⟨by kernel_rfl, ?_⟩) (fun _ => by assumption) ?_
      · intro w _
        go_simp
      try simp only [List.getElem_toArray, List.getElem_cons_zero, List.getElem_cons_succ, Act.put, List.setIfInBounds_toArray, List.set_cons_zero, List.set_cons_succ]
      refine wpAnyL_any (i := 9) (oi := _) (v := .int .u8 (IntKind.u8.wrap (x / 2 ^ (8 * k)))) rfl (by kernel_rfl) (by kernel_rfl) (by kernel_rfl) (by kernel_rfl) (fun _ _ _ h => (h : False).elim) (Or.inl ⟨by kernel_rfl, ?_⟩) (fun _ => by assumption) ?_
      · intro w _
        go_simp
      try simp only [List.getElem_toArray, List.getElem_cons_zero, List.getElem_cons_succ, Act.put, List.setIfInBounds_toArray, List.set_cons_zero, List.set_cons_succ]
      refine wpAnyL_next (i := 10) (by kernel_rfl) rfl (fun K hK => ?_)
      go_simp
      obtain ⟨y1, hy1⟩ : ∃ y1, wd.alloc (.cells #[.int .u8 (IntKind.u8.wrap (x / 2 ^ (8 * k)))] 5) = y1 := ⟨_, rfl⟩
      obtain ⟨gy, hgy⟩ : ∃ gy, wd.heap.size = gy := ⟨_, rfl⟩
      have hky : Keeps (fun _ => False) wd y1 := by rw [← hy1]; exact (Keeps.refl _ _).alloc _
      have hgc : y1.heap[gy]? = some (.cells #[.int .u8 (IntKind.u8.wrap (x / 2 ^ (8 * k)))] 5 (0, 0)) := by rw [← hy1, ← hgy]; exact heap_alloc_new _ _
      have hry : y1.ownsRow B 5 1 v (n + k) l := by rw [← hy1]; exact HRD.out.alloc _
      have hsy : y1.heap.size = gy + 1 := by rw [← hy1, ← hgy]; simp
      rw [hy1]
      try rw [hgy]
      have cy := (hky.cell (p := ⟨bw, 0, none⟩) hbd (fun h => h)).trans hS
      refine hK.out _ _ cy (fun hHeld => ?_)
      clear hK K
      try simp only [List.getElem_toArray, List.getElem_cons_zero, List.getElem_cons_succ, Act.put, List.setIfInBounds_toArray, List.set_cons_zero, List.set_cons_succ]
      refine wpAnyL_next (i := 11) (by kernel_rfl) rfl (fun K hK => ?_)
      rw [if_pos (by rfl)]
      refine wp_append_atW (.tmp 12) (.tmp 18) 22 rfl B 5 i0 (.int .u8 0) 1 1 Tryz.underlying22 hi hz0 hz1 hz2 rfl (by decide) v (n + k) l rfl hry (some ⟨gy, 0, none⟩) 1 1 [.int .u8 (IntKind.u8.wrap (x / 2 ^ (8 * k)))] rfl (fun h => by cases h) rfl ?_ ?_ (by unfold maxLen; omega) (by omega) (by have := hsz0.out; omega) ?_
      · intro ad had j u hj
        injection had with had
        subst had
        have hadd : (⟨gy, 0, none⟩ : Addr).add j = ⟨gy, 0 + j, none⟩ := by unfold Addr.add; split <;> simp_all
        rw [hadd, cell_of_row _ _ _ _ _ _ hgc, Nat.zero_add]
        simpa using hj
      · intro u hu; simp at hu; rw [hu]; rfl
      intro v6 w9 r6 hg6 hat6
      obtain ⟨ao6, c6, rfl⟩ : ∃ ao c, v6 = .slice ao (n + k + 1) c := by
        rcases r6.2 with ⟨_, h0⟩ | ⟨g, cap, cur, rfl, _⟩
        · omega
        · exact ⟨_, _, rfl⟩
      have hk9 : Keeps (fun j => some j = v.ownBlock) y1 w9 := (Keeps.refl (fun j => some j = v.ownBlock) y1).grown hg6 (fun j h1 _ => h1.symm)
      have hvb : ¬ some bw = v.ownBlock := hvne
      have c9 := (hk9.cell (p := ⟨bw, 0, none⟩) (show bw < y1.heap.size by omega) hvb).trans cy
      have f9 := (hk9.block bw (by omega) hvb).trans ((hky.block bw hbd (fun h => h)).trans HGD.out)
      have fz := two_frozen f9 0
      have cz := cells_at f9 0
      refine hK.out _ _ c9 (fun hHeld => ?_)
      clear hK K
      try simp only [List.getElem_toArray, List.getElem_cons_zero, List.getElem_cons_succ, Act.put, List.setIfInBounds_toArray, List.set_cons_zero, List.set_cons_succ]
      refine wpAnyL_any (i := 12) (oi := _) (v := .pointer (some ⟨bw, 0, none⟩)) rfl (by kernel_rfl) (by kernel_rfl) (by kernel_rfl) (by kernel_rfl) (fun _ _ _ h => (h : False).elim) (Or.inl ⟨by kernel_rfl, ?_⟩) (fun _ => by assumption) ?_
      · intro w _
        go_simp
      try simp only [List.getElem_toArray, List.getElem_cons_zero, List.getElem_cons_succ, Act.put, List.setIfInBounds_toArray, List.set_cons_zero, List.set_cons_succ]
      refine wpAnyL_any (i := 13) (oi := _) (v := .pointer (some ⟨bw, 0, none⟩)) rfl (by kernel_rfl) (by kernel_rfl) (by kernel_rfl) (by kernel_rfl) (fun _ _ _ h => (h : False).elim) (Or.inl ⟨by kernel_rfl, ?_⟩) (fun _ => by assumption) ?_
      · intro w _
        go_simp
      try simp only [List.getElem_toArray, List.getElem_cons_zero, List.getElem_cons_succ, Act.put, List.setIfInBounds_toArray, List.set_cons_zero, List.set_cons_succ]
      refine wpAnyL_late (i := 14) (by kernel_rfl) rfl (by kernel_rfl) (fun K hK => ?_)
      go_simp
      refine hK.out _ _ (fun _ => ?_)
      clear hK K
      try simp only [List.getElem_toArray, List.getElem_cons_zero, List.getElem_cons_succ, Act.put, List.setIfInBounds_toArray, List.set_cons_zero, List.set_cons_succ]
      refine wpAnyL_done (by kernel_rfl) ?_ _
      refine NoPanic.normal ?_
      clear hS cy c9
      have hv6 : (Value.slice ao6 (n + k + 1) c6).ownBlock ≠ some bw := fun h => by
        rcases hat6 with h1 | h1
        · exact hvb (by rw [← h1, h])
        · rw [h1] at h; injection h with h; omega
      have hkF : Keeps (fun j => j = bw) w9 (w9.setCell ⟨bw, 0, none⟩ (.slice ao6 (n + k + 1) c6)) := (Keeps.refl (fun j => j = bw) w9).setCell ⟨bw, 0, none⟩ (fun _ => rfl) _
      have hWr : Wr w0 v0 bw B (n + (k + 1)) (w9.setCell ⟨bw, 0, none⟩ (.slice ao6 (n + k + 1) c6)) := by
        refine ⟨_, _, cells_put f9 0 _, rowW_off r6 hkF hv6, ?_, ?_⟩
        · rcases hat6 with h1 | h1
          · rw [h1]; exact HO.out
          · exact .inr ⟨_, h1, by have := HKD.out.size; have := hky.size; omega⟩
        · refine ((HKD.out.trans hky (fun i hi h => h.elim)).trans hk9 (fun i hi h => ?_)).trans hkF (fun i hi h => .inl h)
          rcases HO.out with ho | ⟨j, ho, hj⟩
          · exact .inr (by rw [h, ho])
          · rw [ho] at h; injection h with h; omega
      have HWr := Lib.hid hWr
      clear hWr hkF r6 hg6 hat6 hv6 f9 fz cz hk9 hvb hgc hry hky
      go_wp2
      go_roundw
      case rel => exact ⟨k + 1, by omega, by go_num, HWr⟩
      case measure => simp [intOf]; omega
    · obtain rfl : k = 8 := by omega
      go_wp2
      go_end0
      exact ⟨rfl, HW.out⟩
end Go.Proofs.YtmoajobnhiopiaaGreatDoor.sv
