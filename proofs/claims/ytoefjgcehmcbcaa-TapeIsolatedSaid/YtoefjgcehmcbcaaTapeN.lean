/- The law TapeIsolated, by walking its text: the events that a tape returned are changed in place; the tape is not. -/
import Derived.Test.YtoefjgcehmcbcaaTapeL
import Derived.Test.YtoefjgcehmcbcaaLate
import Derived.Deep.RegionHeld3
set_option linter.unusedSimpArgs false
set_option linter.unusedVariables false
namespace Go.Proofs.Ytoefjgcehmcbcaa.tp
open Go Go.RowKit Go.Shelf Go.Maps Go.Proofs.Ytoefjgcehmcbcaa.rg

def incE (e : Ev) : Ev := (wrap64 (e.1 + 1), e.2)
theorem incE_ne {e : Ev} (h : EvOk e) : incE e ≠ e := by
  intro he
  have h1 : wrap64 (e.1 + 1) = e.1 := congrArg Prod.fst he
  unfold wrap64 at h1
  omega
/-- The first k events raised, the others as they were. -/
def bump (l : List Ev) (k : Nat) : List Ev := (l.take k).map incE ++ l.drop k
theorem bump_length (l : List Ev) (k : Nat) : (bump l k).length = l.length := by
  unfold bump
  rw [List.length_append, List.length_map, List.length_take, List.length_drop]
  omega
theorem bump_zero (l : List Ev) : bump l 0 = l := by simp [bump]
theorem bump_all (l : List Ev) : bump l l.length = l.map incE := by simp [bump]
theorem flat_set (l : List Ev) : ∀ (k : Nat) (e : Ev) (q : Int), l[k]? = some e → (flat l).set (k * 3) (.int .i64 q) = flat (l.set k (q, e.2)) := by
  induction l with
  | nil => intro k e q h; simp at h
  | cons x l ih =>
    intro k e q h
    cases k with
    | zero => simp at h; subst h; simp [flat_cons, evC]
    | succ k =>
      have h' : l[k]? = some e := by simpa using h
      rw [flat_cons, List.set_cons_succ, flat_cons, ← ih k e q h', List.set_append_right _ _ (by show 3 ≤ _; omega)]
      congr 2
      show (k + 1) * 3 - 3 = k * 3
      omega
theorem bump_set {l : List Ev} {k : Nat} {e : Ev} (h : l[k]? = some e) : (bump l k)[k]? = some e ∧ (bump l k).set k (incE e) = bump l (k + 1) := by
  have hk := (List.getElem?_eq_some_iff.1 h).1
  have hlen : ((l.take k).map incE).length = k := by rw [List.length_map, List.length_take]; omega
  have hd : l.drop k = e :: l.drop (k + 1) := by
    rw [List.drop_eq_getElem_cons hk]
    have := (List.getElem?_eq_some_iff.1 h).2
    rw [this]
  unfold bump
  constructor
  · rw [List.getElem?_append_right (by omega), hlen, Nat.sub_self, hd]; rfl
  · rw [List.set_append_right _ _ (by omega), hlen, Nat.sub_self, hd, List.take_add_one, h]
    simp
theorem first_bump {l : List Ev} (hok : ∀ e ∈ l, EvOk e) : firstE (l.map incE) l ≤ 0 := by
  cases l with
  | nil => simp [firstE]
  | cons e l =>
    show (if incE e = e then _ else (0 : Int)) ≤ 0
    rw [if_neg (incE_ne (hok e List.mem_cons_self))]
    omega

/-! ### the laws of the region -/
/-- append of a slice from whatever source to a row of the call's own, and where the new row lies. -/
theorem wp_append_at {P : Program} {w : World} {o : Oper} {a : Act} {K : Act → World → Prop} {Q : Exit → Act → World → Prop} (s x : Operand) (t : TypeId)
    (ho : o.op = .call { callee := .builtin .append, args := #[s, x], argTypes := #[t, t] })
    (base : Nat) (e : TypeId) (i : TypeInfo) (z : Value) (size bytes : Nat) (ht : P.underlying t = some (.slice e)) (hi : P.info? e = some i) (hz : i.zero = some z)
    (hsize : i.size = size) (hby : i.bytes = bytes) (hzs : z.cells.size = size) (hsz : 0 < size)
    (v : Value) (n : Nat) (xs : List Value) (hs : a.eval s = v) (hown : w.ownsRow base e size v n xs)
    (ao : Option Addr) (m c : Nat) (news : List Value) (hx : a.eval x = .slice ao m c) (hnone : ao = none → m = 0 ∧ c = 0) (hl : news.length = m * size) (hnews : ∀ ad, ao = some ad → ∀ j u, news[j]? = some u → w.cell? (ad.add j) = some u) (h1 : ∀ u ∈ news, u.oneCell' = true)
    (h63 : n + m ≤ maxLen) (hbytes : (n + m) * bytes ≤ 140737488355328) (hbase : base ≤ w.heap.size)
    (h : ∀ v' w', w'.ownsRow base e size v' (n + m) (xs ++ news) → w.grownBy w' v.ownBlock → (v'.ownBlock = v.ownBlock ∨ v'.ownBlock = some w.heap.size) → K (a.put o.dst v') w') : o.wp P a w K Q := by
  cases ao with
  | none =>
    obtain ⟨rfl, rfl⟩ := hnone rfl
    obtain rfl : news = [] := List.eq_nil_of_length_eq_zero (by simpa using hl)
    have hrun := run_append_owned_none (P := P) (w := w) base t o.type e i size ht hi v n xs hown
    unfold Oper.wp
    simp [execOp, ho, resolve, invoke, builtin, hs, hx, hrun, Result.andThen]
    exact h v w (by simpa using hown) (World.grownBy.refl w _) (.inl rfl)
  | some ad =>
    obtain ⟨v', w', hr, h2, h3, h4, h5⟩ := run_append_own_at (P := P) w base t o.type e i z size bytes ht hi hz hsize hby hzs hsz v n xs hown ad m c news hl (hnews ad rfl) h1 h63 hbytes hbase
    unfold Oper.wp execOp
    simp only [ho, resolve, invoke, builtin, Sem.run_bind, Sem.run_pure, Result.andThen_ok, List.map_toArray, List.map_cons, List.map_nil, hs, hx, hr]
    exact h v' w' h2 h3 h5
theorem row_base {w : World} {base b' : Nat} {e : TypeId} {size : Nat} {v : Value} {n : Nat} {xs : List Value} (h : w.ownsRow base e size v n xs) (hb : b' ≤ base) : w.ownsRow b' e size v n xs := by
  refine ⟨h.1, ?_⟩
  rcases h.2 with h | ⟨g, cap, cur, h1, h2, h3⟩
  · exact .inl h
  · exact .inr ⟨g, cap, cur, h1, Nat.le_trans hb h2, h3⟩
theorem row_apart {w w' : World} {base : Nat} {e : TypeId} {size : Nat} {v u : Value} {n : Nat} {xs : List Value} (h : w.ownsRow base e size v n xs) (hg : w.grownBy w' u.ownBlock) (hd : ∀ k, v.ownBlock = some k → u.ownBlock ≠ some k) : w'.ownsRow base e size v n xs := by
  refine h.kept hg ?_
  cases hv : v.ownBlock with
  | none => exact .inl rfl
  | some k => exact .inr (fun he => hd k hv he.symm)
theorem row_keep {w w' : World} {base : Nat} {e : TypeId} {size : Nat} {v : Value} {n : Nat} {xs : List Value} (h : w.ownsRow base e size v n xs) (hk : Keeps (fun _ => False) w w') : w'.ownsRow base e size v n xs :=
  h.kept (row := none) ⟨hk.os, hk.tape, hk.output, hk.size, fun k hlt _ => hk.block k hlt (fun h => h)⟩ (by cases hv : v.ownBlock <;> simp)
end Go.Proofs.Ytoefjgcehmcbcaa.tp
namespace Go.Proofs.Ytoefjgcehmcbcaa.rg
open Go Go.RowKit Go.Shelf
section
variable {P : Program} {ops : Array Oper} {Q : Exit → Act → World → Prop} {md : Region.Mode} {S : World → Prop} {late : List Nat}
def AllL (P : Program) (md : Region.Mode) (ops : Array Oper) (Q : Exit → Act → World → Prop) (S : World → Prop) (late : List Nat) (fuel : Nat) (listed : Array Bool) (a : Act) (w : World) (rs : List Nat) : Prop :=
  ∀ i ∈ rs, wpOp P ops Q i (fun a' w' => (early late (listed.setIfInBounds i true) = true → S w') ∧ wpAnyL P md ops Q S late fuel (listed.setIfInBounds i true) a' w') a w
theorem AllL.nil {fuel : Nat} {listed : Array Bool} {a : Act} {w : World} : AllL P md ops Q S late fuel listed a w [] := fun _ h => by cases h
theorem AllL.cons {fuel : Nat} {listed : Array Bool} {a : Act} {w : World} {i : Nat} {o : Oper} {rs : List Nat} (ho : ops[i]? = some o)
    (h : ∀ K' : Act → World → Prop, Shut (∀ a w, S w → (S w → wpAnyL P md ops Q S late fuel (listed.setIfInBounds i true) a w) → K' a w) → if Region.wanted o (yielded ops a.tmps) = true then Oper.wp P o a w K' Q else K' (a.put o.dst undef) w)
    (hs : AllL P md ops Q S late fuel listed a w rs) : AllL P md ops Q S late fuel listed a w (i :: rs) := fun j hj => by
  rcases List.mem_cons.1 hj with rfl | hj
  · exact wpOp_step ho (fun K' hK => h K' (fun a w hS hW => hK a w ⟨fun _ => hS, hW hS⟩))
  · exact hs j hj
theorem wpAnyL_fork {rs : List Nat} {fuel : Nat} {listed : Array Bool} {a : Act} {w : World} (hr : Region.ready md ops listed = rs) (hne : rs ≠ [])
    (h : AllL P md ops Q S late fuel listed a w rs) : wpAnyL P md ops Q S late (fuel + 1) listed a w :=
  ⟨fun h0 => absurd (hr.symm.trans h0) hne, fun i hi => h i (hr ▸ hi)⟩
end
end Go.Proofs.Ytoefjgcehmcbcaa.rg
namespace Go.Proofs.Ytoefjgcehmcbcaa.tp
open Go Go.RowKit Go.Shelf Go.Maps Go.Proofs.Ytoefjgcehmcbcaa.rg

set_option maxRecDepth 100000 in
set_option maxHeartbeats 4000000 in
theorem isolated_small (ao : Option Addr) (cap : Nat) (l : List Ev) (k0 k1 k2 : Int) (w : World) (h : argAt w (.slice ao l.length cap) l) (hok : ∀ e ∈ l, EvOk e) (he : EvOk (k0, k1, k2)) (hbig : l.length ≤ 1000) :
    Calls Try.prog 5 #[.slice ao l.length cap, .agg #[.int .i64 k0, .int .i64 k1, .int .i64 k2]] w (Yes w) := by
  have hl : l.length ≤ 1099511627776 := by omega
  have hlen1 : (l ++ [(k0, k1, k2)]).length ≤ 1099511627776 := by rw [List.length_append]; simp; omega
  have hlI : ¬ (l.length : Int) > 1000 := by omega
  have hka : Keeps (fun _ => False) w (w.alloc (.cells #[.int .i64 k0, .int .i64 k1, .int .i64 k2] 36)) := (Keeps.refl _ w).alloc _
  have h1 := h.keep hka
  have hE0 : (w.alloc (.cells #[.int .i64 k0, .int .i64 k1, .int .i64 k2] 36)).heap[w.heap.size]? = some (.cells #[.int .i64 k0, .int .i64 k1, .int .i64 k2] 36 (0, 0)) := heap_alloc_new w _
  have HX := Lib.hid h
  clear h
  go_enter Try.func5, Try.ntmps5
  go_wp2_with fail
  refine (record_calls _ l _ hl h1.1 hok).mono ?_; rintro e w1 ⟨b, rfl, hT1, hk1⟩
  have hE1 : w1.heap[w.heap.size]? = some (.cells #[.int .i64 k0, .int .i64 k1, .int .i64 k2] 36 (0, 0)) := (hk1.block _ (by simp) (fun h => h)).trans hE0
  have h2 := h1.keep hk1
  have hk01 := hka.nil_trans hk1
  have hT1' := hT1.mono (T := fun k => w.heap.size < k ∧ k < w1.heap.size) (fun k hk h => ⟨by simp at h; omega, hk⟩)
  clear hE0 h1 hka hk1 hT1
  go_wp2_with fail
  refine (events_calls _ _ l _ hl hT1'.ptr).mono ?_; rintro e w2 ⟨v2, rfl, hr2, hk2⟩
  obtain ⟨ao2, cap2, rfl⟩ : ∃ ao2 cap, v2 = .slice ao2 l.length cap := (evAt_of_row hr2).shape
  have hgle : ∀ k, (Value.slice ao2 l.length cap2).ownBlock = some k → w1.heap.size ≤ k := fun k hk => (hr2.lt k hk).1
  have hE2 : w2.heap[w.heap.size]? = some (.cells #[.int .i64 k0, .int .i64 k1, .int .i64 k2] 36 (0, 0)) := (hk2.block _ (Array.getElem?_eq_some_iff.1 hE1).1 (fun h => h)).trans hE1
  have hElt := (Array.getElem?_eq_some_iff.1 hE1).1
  have h3 := h2.keep hk2
  have hT2 := hT1'.still hk2
  have hk02 := hk01.nil_trans hk2
  have hszw := hk01.size
  have hs12 := hk2.size
  have hk12 := Lib.hid hk2
  clear hE1 h2 hT1' hk2
  go_wp2_with fail
  go_loopw [7, 20] (fun _ i wr => ∃ k : Nat, k ≤ l.length ∧ i = .int .i64 k ∧ wr.ownsRow w1.heap.size 36 3 (.slice ao2 l.length cap2) l.length (flat (bump l k)) ∧ Keeps (fun j => (Value.slice ao2 l.length cap2).ownBlock = some j) w2 wr) (fun _ i _ => l.length - (intOf i).toNat)
  case atStart => exact ⟨0, Nat.zero_le _, rfl, by rw [bump_zero]; exact hr2, Keeps.refl _ _⟩
  case round =>
    obtain ⟨k, hk, rfl, hr, hK⟩ := hrel
    by_cases hlk : k < l.length
    · obtain ⟨g, rfl⟩ : ∃ g, ao2 = some ⟨g, 0, none⟩ := by
        rcases hr.2 with ⟨h0, h1⟩ | ⟨g, c, cur, h0, _⟩
        · omega
        · injection h0 with h0; exact ⟨g, h0⟩
      obtain ⟨⟨x0, x1, x2⟩, hx⟩ : ∃ e, l[k]? = some e := ⟨l[k], by simp [hlk]⟩
      obtain ⟨hb1, hb2⟩ := bump_set hx
      have hc : wr.cell? ⟨g, k * 3, none⟩ = some (.int .i64 x0) := by
        rw [hr.cellAt (k * 3) (by omega)]
        exact (flat_get _ _ _ hb1).1
      have hf : wr.frozen? ⟨g, k * 3, none⟩ = false := hr.frozenAt _
      obtain ⟨hr', hg'⟩ := hr.stored (k * 3) (.int .i64 (wrap64 (x0 + 1)))
      rw [flat_set _ k _ _ hb1] at hr'
      have hs : (bump l k).set k (wrap64 (x0 + 1), (x0, x1, x2).2) = bump l (k + 1) := hb2
      rw [hs] at hr'
      have hK' := Lib.hid (hK.grown hg' (fun j e _ => e.symm ▸ rfl))
      have Hr' := Lib.hid hr'
      have hk0 : (0 : Int) ≤ (k : Int) := by omega
      have hkI : (k : Int) < (l.length : Int) := by omega
      clear hr hb1 hb2 hs hx hg' hK hr' h3 hT2 hr2 hE2
      go_wp2
      go_roundw
      case rel => exact ⟨k + 1, by omega, by go_num, Hr'.out, hK'.out⟩
      case measure => simp [intOf]; omega
    · obtain rfl : k = l.length := by omega
      rw [bump_all] at hr
      have hst : ∀ k, k < w2.heap.size → (fun k => w.heap.size < k ∧ k < w1.heap.size) k → ¬ (Value.slice ao2 l.length cap2).ownBlock = some k := fun k _ h1 h2 => by have := hgle k h2; omega
      have hT3 := hT2.keep hK hst
      have hE3 : wr.heap[w.heap.size]? = some (.cells #[.int .i64 k0, .int .i64 k1, .int .i64 k2] 36 (0, 0)) := (hK.block _ (Array.getElem?_eq_some_iff.1 hE2).1 (fun h => by have := hgle _ h; omega)).trans hE2
      have hSw : w2.heap.size ≤ wr.heap.size := hK.size
      have hkW : Keeps (fun _ => False) w wr := hk02.trans (hK.mono (T := fun k => w2.heap.size ≤ k ∨ ¬ k < w.heap.size) (fun k _ h => .inr (by have := hgle k h; omega))) (fun i hi h => by rcases h with h | h <;> omega)
      have hX3 : argAt wr (.slice ao l.length cap) l := HX.out.keep hkW
      have q0 : wr.cell? ⟨w.heap.size, 0, none⟩ = some (.int .i64 k0) := by rw [cell_of_row _ _ _ _ _ _ hE3]; rfl
      have q1 : wr.cell? ⟨w.heap.size, 1, none⟩ = some (.int .i64 k1) := by rw [cell_of_row _ _ _ _ _ _ hE3]; rfl
      have q2 : wr.cell? ⟨w.heap.size, 2, none⟩ = some (.int .i64 k2) := by rw [cell_of_row _ _ _ _ _ _ hE3]; rfl
      have HgotR := Lib.hid hr
      have HE3 := Lib.hid hE3
      clear hr hE3 hT2 h3 hE2 hr2
      go_wp2_with fail
      refine (note_calls b _ l (k0, k1, k2) wr hT3 he hl).mono ?_; rintro e wB ⟨rfl, hT, hkN⟩
      have hkN' : Keeps (fun _ => False) w wB := hkW.trans (hkN.mono (T := fun k => ¬ k < w.heap.size) (fun k _ h => by omega)) (fun i hi h => h hi)
      have hk0B := hkN'
      have h : argAt wB (.slice ao l.length cap) l := HX.out.keep hkN'
      have hne : ¬ (w.heap.size < w.heap.size ∧ w.heap.size < w1.heap.size) := by omega
      have hwr : w.heap.size < wr.heap.size := by omega
      have c0 := (hkN.cell (p := ⟨w.heap.size, 0, none⟩) hwr hne).trans q0
      have c1 := (hkN.cell (p := ⟨w.heap.size, 1, none⟩) hwr hne).trans q1
      have c2 := (hkN.cell (p := ⟨w.heap.size, 2, none⟩) hwr hne).trans q2
      have hsB : wr.heap.size ≤ wB.heap.size := hkN.size
      have hgot : evAt wB (.slice ao2 l.length cap2) (l.map incE) := (evAt_of_row (base := w1.heap.size) (by rw [List.length_map]; exact HgotR.out)).keep hkN (fun k _ h1 h2 => by have := hgle k h1; omega)
      have sk : ∀ W, Keeps (fun _ => False) wB W → W.cell? ⟨w.heap.size, 0, none⟩ = some (.int .i64 k0) ∧ W.cell? ⟨w.heap.size, 1, none⟩ = some (.int .i64 k1) ∧ W.cell? ⟨w.heap.size, 2, none⟩ = some (.int .i64 k2) := fun W hW =>
        ⟨(hW.cell (p := ⟨w.heap.size, 0, none⟩) (Nat.lt_of_lt_of_le hwr hsB) (fun h => h)).trans c0, (hW.cell (p := ⟨w.heap.size, 1, none⟩) (Nat.lt_of_lt_of_le hwr hsB) (fun h => h)).trans c1, (hW.cell (p := ⟨w.heap.size, 2, none⟩) (Nat.lt_of_lt_of_le hwr hsB) (fun h => h)).trans c2⟩
      obtain ⟨i0, hi, hz0, hz1, hz2⟩ := info_parts infoEv
      have hkB : Keeps (fun _ => False) wB wB.drew := (Keeps.refl _ wB).drewN 1
      have HF := Lib.hid (first_bump hok)
      have Hok := Lib.hid hok
      have Hgot := Lib.hid hgot
      have hS := sk _ hkB
      have hfr : ∀ W : World, W.cell? ⟨w.heap.size, 0, none⟩ = some (.int .i64 k0) → W.cell? ⟨w.heap.size, 0, none⟩ = some (.int .i64 k0) := fun _ h => h
      clear hgot q0 q1 q2 c0 c1 c2 hkN hT3 hX3 HgotR HE3 hst hK hkN' hok he hfr hkW hk02 hk12 hk01
      go_wp2_with fail
      refine wp_region_late (fun W => W.cell? ⟨w.heap.size, 0, none⟩ = some (.int .i64 k0) ∧ W.cell? ⟨w.heap.size, 1, none⟩ = some (.int .i64 k1) ∧ W.cell? ⟨w.heap.size, 2, none⟩ = some (.int .i64 k2)) [9] (by kernel_rfl) ?_
      refine wpAnyL_next (i := 0) (by kernel_rfl) rfl (fun K hK => ?_)
      go_simp
      refine (alive_calls _).mono ?_; rintro e w6 ⟨rfl, hk6⟩
      replace hk6 := hkB.nil_trans hk6
      go_wp2_with fail
      refine hK.out _ _ (sk _ hk6) (fun hHeld => ?_)
      clear hK K
      try simp only [List.getElem_toArray, List.getElem_cons_zero, List.getElem_cons_succ, Act.put, List.setIfInBounds_toArray, List.set_cons_zero, List.set_cons_succ]
      refine wpAnyL_any (i := 1) (oi := _) (v := .bool true) rfl (by kernel_rfl) (by kernel_rfl) (by kernel_rfl) (by kernel_rfl) (fun _ _ _ h => (h : False).elim) (Or.inl ⟨by kernel_rfl, ?_⟩) (fun _ => by assumption) ?_
      · intro w _
        go_simp
      try simp only [List.getElem_toArray, List.getElem_cons_zero, List.getElem_cons_succ, Act.put, List.setIfInBounds_toArray, List.set_cons_zero, List.set_cons_succ]
      refine wpAnyL_any (i := 2) (oi := _) (v := .pointer (some ⟨b, 0, none⟩)) rfl (by kernel_rfl) (by kernel_rfl) (by kernel_rfl) (by kernel_rfl) (fun _ _ _ h => (h : False).elim) (Or.inl ⟨by kernel_rfl, ?_⟩) (fun _ => by assumption) ?_
      · intro w _
        go_simp
      try simp only [List.getElem_toArray, List.getElem_cons_zero, List.getElem_cons_succ, Act.put, List.setIfInBounds_toArray, List.set_cons_zero, List.set_cons_succ]
      refine wpAnyL_any (i := 5) (oi := _) (v := .slice ao l.length cap) rfl (by kernel_rfl) (by kernel_rfl) (by kernel_rfl) (by kernel_rfl) (fun _ _ _ h => (h : False).elim) (Or.inl ⟨by kernel_rfl, ?_⟩) (fun _ => by assumption) ?_
      · intro w _
        go_simp
      try simp only [List.getElem_toArray, List.getElem_cons_zero, List.getElem_cons_succ, Act.put, List.setIfInBounds_toArray, List.set_cons_zero, List.set_cons_succ]
      refine wpAnyL_take (i := 7) (oi := _) (v := .agg #[.int .i64 k0, .int .i64 k1, .int .i64 k2]) rfl (by kernel_rfl) (by kernel_rfl) (by kernel_rfl) (by kernel_rfl) (fun _ _ _ h => (h : False).elim) (Or.inl ⟨by kernel_rfl, ?_⟩) (by assumption) ?_
      · intro w hSw
        obtain ⟨s0, s1, s2⟩ := hSw
        go_simp
      try simp only [List.getElem_toArray, List.getElem_cons_zero, List.getElem_cons_succ, Act.put, List.setIfInBounds_toArray, List.set_cons_zero, List.set_cons_succ]
      refine wpAnyL_fork (rs := [3, 4, 8]) (by kernel_rfl) (by simp) ?_
      refine AllL.cons (i := 3) rfl (fun K hK => ?_) ?_
      · go_simp
        refine (events_calls _ _ (l ++ [(k0, k1, k2)]) _ hlen1 (hT.still hk6).ptr).mono ?_; rintro e w7 ⟨v3, rfl, hr3x, hk7x⟩
        have hk7 : Keeps (fun _ => False) wB w7 := hk6.nil_trans hk7x
        have r3 := row_base hr3x hk6.size
        clear hr3x hk7x
        go_wp2_with fail
        refine hK.out _ _ (sk _ hk7) (fun hS => ?_)
        clear hK K
        try simp only [List.getElem_toArray, List.getElem_cons_zero, List.getElem_cons_succ, Act.put, List.setIfInBounds_toArray, List.set_cons_zero, List.set_cons_succ]
        refine wpAnyL_fork (rs := [4, 8]) (by kernel_rfl) (by simp) ?_
        refine AllL.cons (i := 4) rfl (fun K hK => ?_) ?_
        · go_simp
          have hk8 : Keeps (fun _ => False) wB (w7.alloc (.cells #[] 36)) := hk7.alloc _
          obtain ⟨v46, hv46⟩ : ∃ v, v = Value.slice (some ⟨w7.heap.size, 0, none⟩) 0 0 := ⟨_, rfl⟩
          have r4 : (w7.alloc (.cells #[] 36)).ownsRow wB.heap.size 36 3 v46 0 [] := by rw [hv46]; exact World.ownsRow_made w7 #[] 0 hk7.size (by simp) rfl
          have d34 : ∀ k, v3.ownBlock = some k → v46.ownBlock ≠ some k := fun k h1 h2 => by
            have := (r3.lt k h1).2
            rw [hv46] at h2
            simp [Value.ownBlock] at h2
            omega
          replace r3 := r3.alloc (.cells #[] 36)
          rw [← hv46]
          generalize hgw8 : w7.alloc (.cells #[] 36) = w8 at *
          clear hv46
          refine hK.out _ _ (sk _ hk8) (fun hS => ?_)
          clear hK K
          try simp only [List.getElem_toArray, List.getElem_cons_zero, List.getElem_cons_succ, Act.put, List.setIfInBounds_toArray, List.set_cons_zero, List.set_cons_succ]
          refine wpAnyL_fork (rs := [6, 8]) (by kernel_rfl) (by simp) ?_
          refine AllL.cons (i := 6) rfl (fun K hK => ?_) ?_
          · rw [if_pos (by rfl)]
            obtain ⟨_, hs1, hs2⟩ := (h.keep hk8).src
            refine wp_append_at (.tmp 44) (.tmp 45) 22 rfl wB.heap.size 36 i0 (.agg #[.int .i64 0, .int .i64 0, .int .i64 0]) 3 24 Try.underlying22 hi hz0 hz1 hz2 rfl (by decide) v46 0 [] rfl r4 ao l.length cap (flat l) rfl hs1 (flat_length l) hs2 (flat_one_cell l) (by unfold maxLen; omega) (by omega) hk8.size ?_
            intro v6 w9 r6 hg6 hat6
            have hk9 : Keeps (fun _ => False) wB w9 := hk8.grown hg6 (fun k h1 h2 => by have := r4.lt k h1; omega)
            have d36 : ∀ k, v3.ownBlock = some k → v6.ownBlock ≠ some k := fun k h1 h2 => by
              rcases hat6 with hat | hat
              · exact d34 k h1 (hat ▸ h2)
              · have := (r3.lt k h1).2
                rw [hat] at h2
                injection h2 with h2
                omega
            replace r3 := row_apart r3 hg6 d34
            rw [Nat.zero_add, List.nil_append] at r6
            clear r4 d34 hat6 hg6 hs1 hs2
            refine hK.out _ _ (sk _ hk9) (fun hS => ?_)
            clear hK K
            try simp only [List.getElem_toArray, List.getElem_cons_zero, List.getElem_cons_succ, Act.put, List.setIfInBounds_toArray, List.set_cons_zero, List.set_cons_succ]
            refine wpAnyL_next (i := 8) (by kernel_rfl) rfl (fun K hK => ?_)
            go_simp
            have hk10 : Keeps (fun _ => False) wB (w9.alloc (.cells #[.int .i64 k0, .int .i64 k1, .int .i64 k2] 36)) := hk9.alloc _
            obtain ⟨n8, hn8⟩ : ∃ n, n = w9.heap.size := ⟨_, rfl⟩
            have c8 : (w9.alloc (.cells #[.int .i64 k0, .int .i64 k1, .int .i64 k2] 36)).heap[n8]? = some (.cells #[.int .i64 k0, .int .i64 k1, .int .i64 k2] 36 (0, 0)) := by rw [hn8]; exact heap_alloc_new w9 _
            replace r3 := r3.alloc (.cells #[.int .i64 k0, .int .i64 k1, .int .i64 k2] 36)
            have d68 : v6.ownBlock ≠ some n8 := fun h2 => by have := (r6.lt n8 h2).2; omega
            replace r6 := r6.alloc (.cells #[.int .i64 k0, .int .i64 k1, .int .i64 k2] 36)
            rw [← hn8]
            generalize hgw10 : w9.alloc (.cells #[.int .i64 k0, .int .i64 k1, .int .i64 k2] 36) = w10 at *
            clear hn8
            refine hK.out _ _ (sk _ hk10) (fun hS => ?_)
            clear hK K
            try simp only [List.getElem_toArray, List.getElem_cons_zero, List.getElem_cons_succ, Act.put, List.setIfInBounds_toArray, List.set_cons_zero, List.set_cons_succ]
            -- END 10 w10
            refine wpAnyL_late (i := 9) (by kernel_rfl) rfl (by kernel_rfl) (fun K hK => ?_)
            rw [if_pos (by rfl)]
            refine wp_append_at (.tmp 46) (.tmp 48) 22 rfl wB.heap.size 36 i0 (.agg #[.int .i64 0, .int .i64 0, .int .i64 0]) 3 24 Try.underlying22 hi hz0 hz1 hz2 rfl (by decide) v6 l.length (flat l) rfl r6 (some ⟨n8, 0, none⟩) 1 1 (evC (k0, k1, k2)) rfl (fun h => by cases h) rfl ?_ ?_ (by unfold maxLen; omega) (by omega) hk10.size ?_
            · intro ad had j u hj
              injection had with had
              subst had
              have hadd : (⟨n8, 0, none⟩ : Addr).add j = ⟨n8, 0 + j, none⟩ := by unfold Addr.add; split <;> simp_all
              rw [hadd, cell_of_row _ _ _ _ _ _ c8, Nat.zero_add]
              simpa [evC] using hj
            · intro u hu; simp [evC] at hu; rcases hu with rfl | rfl | rfl <;> rfl
            intro v9 wZ r9 hg9 _
            have hkZ : Keeps (fun _ => False) wB wZ := hk10.grown hg9 (fun k h1 h2 => by have := r6.lt k h1; omega)
            replace r3 := row_apart r3 hg9 d36
            have ev3 := evAt_of_row r3
            have ev9 : evAt wZ v9 (l ++ [(k0, k1, k2)]) := evAt_of_row (base := wB.heap.size) (by rw [flat_append, List.length_append, flat_one]; exact r9)
            clear r6 r9 hg9 r3 c8 d36
            refine hK.out _ _ (fun _ => ?_)
            clear hK K
            try simp only [List.getElem_toArray, List.getElem_cons_zero, List.getElem_cons_succ, Act.put, List.setIfInBounds_toArray, List.set_cons_zero, List.set_cons_succ]
            refine wpAnyL_late (i := 10) (by kernel_rfl) rfl (by kernel_rfl) (fun K hK => ?_)
            go_simp
            refine (same_calls v3 v9 _ _ _ hlen1 hlen1 ev3 ev9).mono ?_; rintro e w10 ⟨rfl, n10, rfl⟩
            go_wp2_with fail
            refine hK.out _ _ (fun _ => ?_)
            clear hK K
            try simp only [List.getElem_toArray, List.getElem_cons_zero, List.getElem_cons_succ, Act.put, List.setIfInBounds_toArray, List.set_cons_zero, List.set_cons_succ]
            refine wpAnyL_after (i := 11) (oi := _) (v := .bool true) rfl (by kernel_rfl) (by kernel_rfl) (by kernel_rfl) (by kernel_rfl) (by kernel_rfl) (fun _ _ _ h => (h : False).elim) (Or.inl ⟨by kernel_rfl, ?_⟩) ?_
            · intro w _
              go_simp
            try simp only [List.getElem_toArray, List.getElem_cons_zero, List.getElem_cons_succ, Act.put, List.setIfInBounds_toArray, List.set_cons_zero, List.set_cons_succ]
            refine wpAnyL_after (i := 12) (oi := _) (v := .bool true) rfl (by kernel_rfl) (by kernel_rfl) (by kernel_rfl) (by kernel_rfl) (by kernel_rfl) (fun _ _ _ h => (h : False).elim) (Or.inl ⟨by kernel_rfl, ?_⟩) ?_
            · intro w _
              go_simp
            try simp only [List.getElem_toArray, List.getElem_cons_zero, List.getElem_cons_succ, Act.put, List.setIfInBounds_toArray, List.set_cons_zero, List.set_cons_succ]
            refine wpAnyL_after (i := 13) (oi := _) (v := .slice ao2 l.length cap2) rfl (by kernel_rfl) (by kernel_rfl) (by kernel_rfl) (by kernel_rfl) (by kernel_rfl) (fun _ _ _ h => (h : False).elim) (Or.inl ⟨by kernel_rfl, ?_⟩) ?_
            · intro w _
              go_simp
            try simp only [List.getElem_toArray, List.getElem_cons_zero, List.getElem_cons_succ, Act.put, List.setIfInBounds_toArray, List.set_cons_zero, List.set_cons_succ]
            refine wpAnyL_after (i := 14) (oi := _) (v := .slice ao l.length cap) rfl (by kernel_rfl) (by kernel_rfl) (by kernel_rfl) (by kernel_rfl) (by kernel_rfl) (fun _ _ _ h => (h : False).elim) (Or.inl ⟨by kernel_rfl, ?_⟩) ?_
            · intro w _
              go_simp
            try simp only [List.getElem_toArray, List.getElem_cons_zero, List.getElem_cons_succ, Act.put, List.setIfInBounds_toArray, List.set_cons_zero, List.set_cons_succ]
            refine wpAnyL_late (i := 15) (by kernel_rfl) rfl (by kernel_rfl) (fun K hK => ?_)
            go_simp
            refine (rfirst_calls _ _ (l.map incE) l _ (by rw [List.length_map]; exact hl) hl (Hgot.out.keep (hkZ.drewN n10) (fun _ _ _ h => h)) (keeps_ev h.1 (hkZ.drewN n10))).mono ?_; rintro e w15 ⟨rfl, n15, rfl⟩
            go_wp2_with fail
            refine hK.out _ _ (fun _ => ?_)
            clear hK K
            try simp only [List.getElem_toArray, List.getElem_cons_zero, List.getElem_cons_succ, Act.put, List.setIfInBounds_toArray, List.set_cons_zero, List.set_cons_succ]
            refine wpAnyL_after (i := 16) (oi := _) (v := .bool true) rfl (by kernel_rfl) (by kernel_rfl) (by kernel_rfl) (by kernel_rfl) (by kernel_rfl) (fun _ _ _ h => (h : False).elim) (Or.inl ⟨by kernel_rfl, ?_⟩) ?_
            · intro w _
              go_simp
              exact HF.out
            try simp only [List.getElem_toArray, List.getElem_cons_zero, List.getElem_cons_succ, Act.put, List.setIfInBounds_toArray, List.set_cons_zero, List.set_cons_succ]
            refine wpAnyL_after (i := 17) (oi := _) (v := .bool true) rfl (by kernel_rfl) (by kernel_rfl) (by kernel_rfl) (by kernel_rfl) (by kernel_rfl) (fun _ _ _ h => (h : False).elim) (Or.inl ⟨by kernel_rfl, ?_⟩) ?_
            · intro w _
              go_simp
            try simp only [List.getElem_toArray, List.getElem_cons_zero, List.getElem_cons_succ, Act.put, List.setIfInBounds_toArray, List.set_cons_zero, List.set_cons_succ]
            refine wpAnyL_late (i := 18) (by kernel_rfl) rfl (by kernel_rfl) (fun K hK => ?_)
            go_simp
            refine hK.out _ _ (fun _ => ?_)
            clear hK K
            try simp only [List.getElem_toArray, List.getElem_cons_zero, List.getElem_cons_succ, Act.put, List.setIfInBounds_toArray, List.set_cons_zero, List.set_cons_succ]
            refine wpAnyL_done (by kernel_rfl) ?_ _
            refine NoPanic.normal ?_
            go_wp2
            go_ret
            exact ⟨rfl, hk0B.nil_trans (hkZ.drewN (n10 + n15))⟩
          refine AllL.cons (i := 8) rfl (fun K hK => ?_) ?_
          · go_simp
            have hk9 : Keeps (fun _ => False) wB (w8.alloc (.cells #[.int .i64 k0, .int .i64 k1, .int .i64 k2] 36)) := hk8.alloc _
            obtain ⟨n8, hn8⟩ : ∃ n, n = w8.heap.size := ⟨_, rfl⟩
            have c8 : (w8.alloc (.cells #[.int .i64 k0, .int .i64 k1, .int .i64 k2] 36)).heap[n8]? = some (.cells #[.int .i64 k0, .int .i64 k1, .int .i64 k2] 36 (0, 0)) := by rw [hn8]; exact heap_alloc_new w8 _
            replace r3 := r3.alloc (.cells #[.int .i64 k0, .int .i64 k1, .int .i64 k2] 36)
            have d48 : v46.ownBlock ≠ some n8 := fun h2 => by have := (r4.lt n8 h2).2; omega
            replace r4 := r4.alloc (.cells #[.int .i64 k0, .int .i64 k1, .int .i64 k2] 36)
            rw [← hn8]
            generalize hgw9 : w8.alloc (.cells #[.int .i64 k0, .int .i64 k1, .int .i64 k2] 36) = w9 at *
            clear hn8
            refine hK.out _ _ (sk _ hk9) (fun hS => ?_)
            clear hK K
            try simp only [List.getElem_toArray, List.getElem_cons_zero, List.getElem_cons_succ, Act.put, List.setIfInBounds_toArray, List.set_cons_zero, List.set_cons_succ]
            refine wpAnyL_next (i := 6) (by kernel_rfl) rfl (fun K hK => ?_)
            rw [if_pos (by rfl)]
            obtain ⟨_, hs1, hs2⟩ := (h.keep hk9).src
            refine wp_append_at (.tmp 44) (.tmp 45) 22 rfl wB.heap.size 36 i0 (.agg #[.int .i64 0, .int .i64 0, .int .i64 0]) 3 24 Try.underlying22 hi hz0 hz1 hz2 rfl (by decide) v46 0 [] rfl r4 ao l.length cap (flat l) rfl hs1 (flat_length l) hs2 (flat_one_cell l) (by unfold maxLen; omega) (by omega) hk9.size ?_
            intro v6 w10 r6 hg6 hat6
            have hk10 : Keeps (fun _ => False) wB w10 := hk9.grown hg6 (fun k h1 h2 => by have := r4.lt k h1; omega)
            have d36 : ∀ k, v3.ownBlock = some k → v6.ownBlock ≠ some k := fun k h1 h2 => by
              rcases hat6 with hat | hat
              · exact d34 k h1 (hat ▸ h2)
              · have := (r3.lt k h1).2
                rw [hat] at h2
                injection h2 with h2
                omega
            replace r3 := row_apart r3 hg6 d34
            have d68 : v6.ownBlock ≠ some n8 := fun h2 => by
              rcases hat6 with hat | hat
              · exact d48 (hat ▸ h2)
              · have := (Array.getElem?_eq_some_iff.1 c8).1
                rw [hat] at h2
                injection h2 with h2
                omega
            replace c8 := (hg6.block n8 (Array.getElem?_eq_some_iff.1 c8).1 (fun h => d48 h.symm)).trans c8
            clear d48
            rw [Nat.zero_add, List.nil_append] at r6
            clear r4 d34 hat6 hg6 hs1 hs2
            refine hK.out _ _ (sk _ hk10) (fun hS => ?_)
            clear hK K
            try simp only [List.getElem_toArray, List.getElem_cons_zero, List.getElem_cons_succ, Act.put, List.setIfInBounds_toArray, List.set_cons_zero, List.set_cons_succ]
            -- END 10 w10
            refine wpAnyL_late (i := 9) (by kernel_rfl) rfl (by kernel_rfl) (fun K hK => ?_)
            rw [if_pos (by rfl)]
            refine wp_append_at (.tmp 46) (.tmp 48) 22 rfl wB.heap.size 36 i0 (.agg #[.int .i64 0, .int .i64 0, .int .i64 0]) 3 24 Try.underlying22 hi hz0 hz1 hz2 rfl (by decide) v6 l.length (flat l) rfl r6 (some ⟨n8, 0, none⟩) 1 1 (evC (k0, k1, k2)) rfl (fun h => by cases h) rfl ?_ ?_ (by unfold maxLen; omega) (by omega) hk10.size ?_
            · intro ad had j u hj
              injection had with had
              subst had
              have hadd : (⟨n8, 0, none⟩ : Addr).add j = ⟨n8, 0 + j, none⟩ := by unfold Addr.add; split <;> simp_all
              rw [hadd, cell_of_row _ _ _ _ _ _ c8, Nat.zero_add]
              simpa [evC] using hj
            · intro u hu; simp [evC] at hu; rcases hu with rfl | rfl | rfl <;> rfl
            intro v9 wZ r9 hg9 _
            have hkZ : Keeps (fun _ => False) wB wZ := hk10.grown hg9 (fun k h1 h2 => by have := r6.lt k h1; omega)
            replace r3 := row_apart r3 hg9 d36
            have ev3 := evAt_of_row r3
            have ev9 : evAt wZ v9 (l ++ [(k0, k1, k2)]) := evAt_of_row (base := wB.heap.size) (by rw [flat_append, List.length_append, flat_one]; exact r9)
            clear r6 r9 hg9 r3 c8 d36
            refine hK.out _ _ (fun _ => ?_)
            clear hK K
            try simp only [List.getElem_toArray, List.getElem_cons_zero, List.getElem_cons_succ, Act.put, List.setIfInBounds_toArray, List.set_cons_zero, List.set_cons_succ]
            refine wpAnyL_late (i := 10) (by kernel_rfl) rfl (by kernel_rfl) (fun K hK => ?_)
            go_simp
            refine (same_calls v3 v9 _ _ _ hlen1 hlen1 ev3 ev9).mono ?_; rintro e w10 ⟨rfl, n10, rfl⟩
            go_wp2_with fail
            refine hK.out _ _ (fun _ => ?_)
            clear hK K
            try simp only [List.getElem_toArray, List.getElem_cons_zero, List.getElem_cons_succ, Act.put, List.setIfInBounds_toArray, List.set_cons_zero, List.set_cons_succ]
            refine wpAnyL_after (i := 11) (oi := _) (v := .bool true) rfl (by kernel_rfl) (by kernel_rfl) (by kernel_rfl) (by kernel_rfl) (by kernel_rfl) (fun _ _ _ h => (h : False).elim) (Or.inl ⟨by kernel_rfl, ?_⟩) ?_
            · intro w _
              go_simp
            try simp only [List.getElem_toArray, List.getElem_cons_zero, List.getElem_cons_succ, Act.put, List.setIfInBounds_toArray, List.set_cons_zero, List.set_cons_succ]
            refine wpAnyL_after (i := 12) (oi := _) (v := .bool true) rfl (by kernel_rfl) (by kernel_rfl) (by kernel_rfl) (by kernel_rfl) (by kernel_rfl) (fun _ _ _ h => (h : False).elim) (Or.inl ⟨by kernel_rfl, ?_⟩) ?_
            · intro w _
              go_simp
            try simp only [List.getElem_toArray, List.getElem_cons_zero, List.getElem_cons_succ, Act.put, List.setIfInBounds_toArray, List.set_cons_zero, List.set_cons_succ]
            refine wpAnyL_after (i := 13) (oi := _) (v := .slice ao2 l.length cap2) rfl (by kernel_rfl) (by kernel_rfl) (by kernel_rfl) (by kernel_rfl) (by kernel_rfl) (fun _ _ _ h => (h : False).elim) (Or.inl ⟨by kernel_rfl, ?_⟩) ?_
            · intro w _
              go_simp
            try simp only [List.getElem_toArray, List.getElem_cons_zero, List.getElem_cons_succ, Act.put, List.setIfInBounds_toArray, List.set_cons_zero, List.set_cons_succ]
            refine wpAnyL_after (i := 14) (oi := _) (v := .slice ao l.length cap) rfl (by kernel_rfl) (by kernel_rfl) (by kernel_rfl) (by kernel_rfl) (by kernel_rfl) (fun _ _ _ h => (h : False).elim) (Or.inl ⟨by kernel_rfl, ?_⟩) ?_
            · intro w _
              go_simp
            try simp only [List.getElem_toArray, List.getElem_cons_zero, List.getElem_cons_succ, Act.put, List.setIfInBounds_toArray, List.set_cons_zero, List.set_cons_succ]
            refine wpAnyL_late (i := 15) (by kernel_rfl) rfl (by kernel_rfl) (fun K hK => ?_)
            go_simp
            refine (rfirst_calls _ _ (l.map incE) l _ (by rw [List.length_map]; exact hl) hl (Hgot.out.keep (hkZ.drewN n10) (fun _ _ _ h => h)) (keeps_ev h.1 (hkZ.drewN n10))).mono ?_; rintro e w15 ⟨rfl, n15, rfl⟩
            go_wp2_with fail
            refine hK.out _ _ (fun _ => ?_)
            clear hK K
            try simp only [List.getElem_toArray, List.getElem_cons_zero, List.getElem_cons_succ, Act.put, List.setIfInBounds_toArray, List.set_cons_zero, List.set_cons_succ]
            refine wpAnyL_after (i := 16) (oi := _) (v := .bool true) rfl (by kernel_rfl) (by kernel_rfl) (by kernel_rfl) (by kernel_rfl) (by kernel_rfl) (fun _ _ _ h => (h : False).elim) (Or.inl ⟨by kernel_rfl, ?_⟩) ?_
            · intro w _
              go_simp
              exact HF.out
            try simp only [List.getElem_toArray, List.getElem_cons_zero, List.getElem_cons_succ, Act.put, List.setIfInBounds_toArray, List.set_cons_zero, List.set_cons_succ]
            refine wpAnyL_after (i := 17) (oi := _) (v := .bool true) rfl (by kernel_rfl) (by kernel_rfl) (by kernel_rfl) (by kernel_rfl) (by kernel_rfl) (fun _ _ _ h => (h : False).elim) (Or.inl ⟨by kernel_rfl, ?_⟩) ?_
            · intro w _
              go_simp
            try simp only [List.getElem_toArray, List.getElem_cons_zero, List.getElem_cons_succ, Act.put, List.setIfInBounds_toArray, List.set_cons_zero, List.set_cons_succ]
            refine wpAnyL_late (i := 18) (by kernel_rfl) rfl (by kernel_rfl) (fun K hK => ?_)
            go_simp
            refine hK.out _ _ (fun _ => ?_)
            clear hK K
            try simp only [List.getElem_toArray, List.getElem_cons_zero, List.getElem_cons_succ, Act.put, List.setIfInBounds_toArray, List.set_cons_zero, List.set_cons_succ]
            refine wpAnyL_done (by kernel_rfl) ?_ _
            refine NoPanic.normal ?_
            go_wp2
            go_ret
            exact ⟨rfl, hk0B.nil_trans (hkZ.drewN (n10 + n15))⟩
          exact AllL.nil
        refine AllL.cons (i := 8) rfl (fun K hK => ?_) ?_
        · go_simp
          have hk8 : Keeps (fun _ => False) wB (w7.alloc (.cells #[.int .i64 k0, .int .i64 k1, .int .i64 k2] 36)) := hk7.alloc _
          obtain ⟨n8, hn8⟩ : ∃ n, n = w7.heap.size := ⟨_, rfl⟩
          have c8 : (w7.alloc (.cells #[.int .i64 k0, .int .i64 k1, .int .i64 k2] 36)).heap[n8]? = some (.cells #[.int .i64 k0, .int .i64 k1, .int .i64 k2] 36 (0, 0)) := by rw [hn8]; exact heap_alloc_new w7 _
          replace r3 := r3.alloc (.cells #[.int .i64 k0, .int .i64 k1, .int .i64 k2] 36)
          rw [← hn8]
          generalize hgw8 : w7.alloc (.cells #[.int .i64 k0, .int .i64 k1, .int .i64 k2] 36) = w8 at *
          clear hn8
          refine hK.out _ _ (sk _ hk8) (fun hS => ?_)
          clear hK K
          try simp only [List.getElem_toArray, List.getElem_cons_zero, List.getElem_cons_succ, Act.put, List.setIfInBounds_toArray, List.set_cons_zero, List.set_cons_succ]
          refine wpAnyL_next (i := 4) (by kernel_rfl) rfl (fun K hK => ?_)
          go_simp
          have hk9 : Keeps (fun _ => False) wB (w8.alloc (.cells #[] 36)) := hk8.alloc _
          obtain ⟨v46, hv46⟩ : ∃ v, v = Value.slice (some ⟨w8.heap.size, 0, none⟩) 0 0 := ⟨_, rfl⟩
          have r4 : (w8.alloc (.cells #[] 36)).ownsRow wB.heap.size 36 3 v46 0 [] := by rw [hv46]; exact World.ownsRow_made w8 #[] 0 hk8.size (by simp) rfl
          have d34 : ∀ k, v3.ownBlock = some k → v46.ownBlock ≠ some k := fun k h1 h2 => by
            have := (r3.lt k h1).2
            rw [hv46] at h2
            simp [Value.ownBlock] at h2
            omega
          replace r3 := r3.alloc (.cells #[] 36)
          have d48 : v46.ownBlock ≠ some n8 := fun h2 => by
            have := (Array.getElem?_eq_some_iff.1 c8).1
            rw [hv46] at h2
            simp [Value.ownBlock] at h2
            omega
          replace c8 := (((Keeps.refl (fun _ => False) w8).alloc (.cells #[] 36)).block n8 (Array.getElem?_eq_some_iff.1 c8).1 (fun h => h)).trans c8
          rw [← hv46]
          generalize hgw9 : w8.alloc (.cells #[] 36) = w9 at *
          clear hv46
          refine hK.out _ _ (sk _ hk9) (fun hS => ?_)
          clear hK K
          try simp only [List.getElem_toArray, List.getElem_cons_zero, List.getElem_cons_succ, Act.put, List.setIfInBounds_toArray, List.set_cons_zero, List.set_cons_succ]
          refine wpAnyL_next (i := 6) (by kernel_rfl) rfl (fun K hK => ?_)
          rw [if_pos (by rfl)]
          obtain ⟨_, hs1, hs2⟩ := (h.keep hk9).src
          refine wp_append_at (.tmp 44) (.tmp 45) 22 rfl wB.heap.size 36 i0 (.agg #[.int .i64 0, .int .i64 0, .int .i64 0]) 3 24 Try.underlying22 hi hz0 hz1 hz2 rfl (by decide) v46 0 [] rfl r4 ao l.length cap (flat l) rfl hs1 (flat_length l) hs2 (flat_one_cell l) (by unfold maxLen; omega) (by omega) hk9.size ?_
          intro v6 w10 r6 hg6 hat6
          have hk10 : Keeps (fun _ => False) wB w10 := hk9.grown hg6 (fun k h1 h2 => by have := r4.lt k h1; omega)
          have d36 : ∀ k, v3.ownBlock = some k → v6.ownBlock ≠ some k := fun k h1 h2 => by
            rcases hat6 with hat | hat
            · exact d34 k h1 (hat ▸ h2)
            · have := (r3.lt k h1).2
              rw [hat] at h2
              injection h2 with h2
              omega
          replace r3 := row_apart r3 hg6 d34
          have d68 : v6.ownBlock ≠ some n8 := fun h2 => by
            rcases hat6 with hat | hat
            · exact d48 (hat ▸ h2)
            · have := (Array.getElem?_eq_some_iff.1 c8).1
              rw [hat] at h2
              injection h2 with h2
              omega
          replace c8 := (hg6.block n8 (Array.getElem?_eq_some_iff.1 c8).1 (fun h => d48 h.symm)).trans c8
          clear d48
          rw [Nat.zero_add, List.nil_append] at r6
          clear r4 d34 hat6 hg6 hs1 hs2
          refine hK.out _ _ (sk _ hk10) (fun hS => ?_)
          clear hK K
          try simp only [List.getElem_toArray, List.getElem_cons_zero, List.getElem_cons_succ, Act.put, List.setIfInBounds_toArray, List.set_cons_zero, List.set_cons_succ]
          -- END 10 w10
          refine wpAnyL_late (i := 9) (by kernel_rfl) rfl (by kernel_rfl) (fun K hK => ?_)
          rw [if_pos (by rfl)]
          refine wp_append_at (.tmp 46) (.tmp 48) 22 rfl wB.heap.size 36 i0 (.agg #[.int .i64 0, .int .i64 0, .int .i64 0]) 3 24 Try.underlying22 hi hz0 hz1 hz2 rfl (by decide) v6 l.length (flat l) rfl r6 (some ⟨n8, 0, none⟩) 1 1 (evC (k0, k1, k2)) rfl (fun h => by cases h) rfl ?_ ?_ (by unfold maxLen; omega) (by omega) hk10.size ?_
          · intro ad had j u hj
            injection had with had
            subst had
            have hadd : (⟨n8, 0, none⟩ : Addr).add j = ⟨n8, 0 + j, none⟩ := by unfold Addr.add; split <;> simp_all
            rw [hadd, cell_of_row _ _ _ _ _ _ c8, Nat.zero_add]
            simpa [evC] using hj
          · intro u hu; simp [evC] at hu; rcases hu with rfl | rfl | rfl <;> rfl
          intro v9 wZ r9 hg9 _
          have hkZ : Keeps (fun _ => False) wB wZ := hk10.grown hg9 (fun k h1 h2 => by have := r6.lt k h1; omega)
          replace r3 := row_apart r3 hg9 d36
          have ev3 := evAt_of_row r3
          have ev9 : evAt wZ v9 (l ++ [(k0, k1, k2)]) := evAt_of_row (base := wB.heap.size) (by rw [flat_append, List.length_append, flat_one]; exact r9)
          clear r6 r9 hg9 r3 c8 d36
          refine hK.out _ _ (fun _ => ?_)
          clear hK K
          try simp only [List.getElem_toArray, List.getElem_cons_zero, List.getElem_cons_succ, Act.put, List.setIfInBounds_toArray, List.set_cons_zero, List.set_cons_succ]
          refine wpAnyL_late (i := 10) (by kernel_rfl) rfl (by kernel_rfl) (fun K hK => ?_)
          go_simp
          refine (same_calls v3 v9 _ _ _ hlen1 hlen1 ev3 ev9).mono ?_; rintro e w10 ⟨rfl, n10, rfl⟩
          go_wp2_with fail
          refine hK.out _ _ (fun _ => ?_)
          clear hK K
          try simp only [List.getElem_toArray, List.getElem_cons_zero, List.getElem_cons_succ, Act.put, List.setIfInBounds_toArray, List.set_cons_zero, List.set_cons_succ]
          refine wpAnyL_after (i := 11) (oi := _) (v := .bool true) rfl (by kernel_rfl) (by kernel_rfl) (by kernel_rfl) (by kernel_rfl) (by kernel_rfl) (fun _ _ _ h => (h : False).elim) (Or.inl ⟨by kernel_rfl, ?_⟩) ?_
          · intro w _
            go_simp
          try simp only [List.getElem_toArray, List.getElem_cons_zero, List.getElem_cons_succ, Act.put, List.setIfInBounds_toArray, List.set_cons_zero, List.set_cons_succ]
          refine wpAnyL_after (i := 12) (oi := _) (v := .bool true) rfl (by kernel_rfl) (by kernel_rfl) (by kernel_rfl) (by kernel_rfl) (by kernel_rfl) (fun _ _ _ h => (h : False).elim) (Or.inl ⟨by kernel_rfl, ?_⟩) ?_
          · intro w _
            go_simp
          try simp only [List.getElem_toArray, List.getElem_cons_zero, List.getElem_cons_succ, Act.put, List.setIfInBounds_toArray, List.set_cons_zero, List.set_cons_succ]
          refine wpAnyL_after (i := 13) (oi := _) (v := .slice ao2 l.length cap2) rfl (by kernel_rfl) (by kernel_rfl) (by kernel_rfl) (by kernel_rfl) (by kernel_rfl) (fun _ _ _ h => (h : False).elim) (Or.inl ⟨by kernel_rfl, ?_⟩) ?_
          · intro w _
            go_simp
          try simp only [List.getElem_toArray, List.getElem_cons_zero, List.getElem_cons_succ, Act.put, List.setIfInBounds_toArray, List.set_cons_zero, List.set_cons_succ]
          refine wpAnyL_after (i := 14) (oi := _) (v := .slice ao l.length cap) rfl (by kernel_rfl) (by kernel_rfl) (by kernel_rfl) (by kernel_rfl) (by kernel_rfl) (fun _ _ _ h => (h : False).elim) (Or.inl ⟨by kernel_rfl, ?_⟩) ?_
          · intro w _
            go_simp
          try simp only [List.getElem_toArray, List.getElem_cons_zero, List.getElem_cons_succ, Act.put, List.setIfInBounds_toArray, List.set_cons_zero, List.set_cons_succ]
          refine wpAnyL_late (i := 15) (by kernel_rfl) rfl (by kernel_rfl) (fun K hK => ?_)
          go_simp
          refine (rfirst_calls _ _ (l.map incE) l _ (by rw [List.length_map]; exact hl) hl (Hgot.out.keep (hkZ.drewN n10) (fun _ _ _ h => h)) (keeps_ev h.1 (hkZ.drewN n10))).mono ?_; rintro e w15 ⟨rfl, n15, rfl⟩
          go_wp2_with fail
          refine hK.out _ _ (fun _ => ?_)
          clear hK K
          try simp only [List.getElem_toArray, List.getElem_cons_zero, List.getElem_cons_succ, Act.put, List.setIfInBounds_toArray, List.set_cons_zero, List.set_cons_succ]
          refine wpAnyL_after (i := 16) (oi := _) (v := .bool true) rfl (by kernel_rfl) (by kernel_rfl) (by kernel_rfl) (by kernel_rfl) (by kernel_rfl) (fun _ _ _ h => (h : False).elim) (Or.inl ⟨by kernel_rfl, ?_⟩) ?_
          · intro w _
            go_simp
            exact HF.out
          try simp only [List.getElem_toArray, List.getElem_cons_zero, List.getElem_cons_succ, Act.put, List.setIfInBounds_toArray, List.set_cons_zero, List.set_cons_succ]
          refine wpAnyL_after (i := 17) (oi := _) (v := .bool true) rfl (by kernel_rfl) (by kernel_rfl) (by kernel_rfl) (by kernel_rfl) (by kernel_rfl) (fun _ _ _ h => (h : False).elim) (Or.inl ⟨by kernel_rfl, ?_⟩) ?_
          · intro w _
            go_simp
          try simp only [List.getElem_toArray, List.getElem_cons_zero, List.getElem_cons_succ, Act.put, List.setIfInBounds_toArray, List.set_cons_zero, List.set_cons_succ]
          refine wpAnyL_late (i := 18) (by kernel_rfl) rfl (by kernel_rfl) (fun K hK => ?_)
          go_simp
          refine hK.out _ _ (fun _ => ?_)
          clear hK K
          try simp only [List.getElem_toArray, List.getElem_cons_zero, List.getElem_cons_succ, Act.put, List.setIfInBounds_toArray, List.set_cons_zero, List.set_cons_succ]
          refine wpAnyL_done (by kernel_rfl) ?_ _
          refine NoPanic.normal ?_
          go_wp2
          go_ret
          exact ⟨rfl, hk0B.nil_trans (hkZ.drewN (n10 + n15))⟩
        exact AllL.nil
      refine AllL.cons (i := 4) rfl (fun K hK => ?_) ?_
      · go_simp
        have hk7 : Keeps (fun _ => False) wB (w6.alloc (.cells #[] 36)) := hk6.alloc _
        obtain ⟨v46, hv46⟩ : ∃ v, v = Value.slice (some ⟨w6.heap.size, 0, none⟩) 0 0 := ⟨_, rfl⟩
        have r4 : (w6.alloc (.cells #[] 36)).ownsRow wB.heap.size 36 3 v46 0 [] := by rw [hv46]; exact World.ownsRow_made w6 #[] 0 hk6.size (by simp) rfl
        rw [← hv46]
        generalize hgw7 : w6.alloc (.cells #[] 36) = w7 at *
        clear hv46
        refine hK.out _ _ (sk _ hk7) (fun hS => ?_)
        clear hK K
        try simp only [List.getElem_toArray, List.getElem_cons_zero, List.getElem_cons_succ, Act.put, List.setIfInBounds_toArray, List.set_cons_zero, List.set_cons_succ]
        refine wpAnyL_fork (rs := [3, 8]) (by kernel_rfl) (by simp) ?_
        refine AllL.cons (i := 3) rfl (fun K hK => ?_) ?_
        · go_simp
          refine (events_calls _ _ (l ++ [(k0, k1, k2)]) _ hlen1 (hT.still hk7).ptr).mono ?_; rintro e w8 ⟨v3, rfl, hr3x, hk8x⟩
          have hk8 : Keeps (fun _ => False) wB w8 := hk7.nil_trans hk8x
          have r3 := row_base hr3x hk7.size
          have d34 : ∀ k, v3.ownBlock = some k → v46.ownBlock ≠ some k := fun k h1 h2 => by have := (hr3x.lt k h1).1; have := (r4.lt k h2).2; omega
          replace r4 := row_keep r4 hk8x
          clear hr3x hk8x
          go_wp2_with fail
          refine hK.out _ _ (sk _ hk8) (fun hS => ?_)
          clear hK K
          try simp only [List.getElem_toArray, List.getElem_cons_zero, List.getElem_cons_succ, Act.put, List.setIfInBounds_toArray, List.set_cons_zero, List.set_cons_succ]
          refine wpAnyL_fork (rs := [6, 8]) (by kernel_rfl) (by simp) ?_
          refine AllL.cons (i := 6) rfl (fun K hK => ?_) ?_
          · rw [if_pos (by rfl)]
            obtain ⟨_, hs1, hs2⟩ := (h.keep hk8).src
            refine wp_append_at (.tmp 44) (.tmp 45) 22 rfl wB.heap.size 36 i0 (.agg #[.int .i64 0, .int .i64 0, .int .i64 0]) 3 24 Try.underlying22 hi hz0 hz1 hz2 rfl (by decide) v46 0 [] rfl r4 ao l.length cap (flat l) rfl hs1 (flat_length l) hs2 (flat_one_cell l) (by unfold maxLen; omega) (by omega) hk8.size ?_
            intro v6 w9 r6 hg6 hat6
            have hk9 : Keeps (fun _ => False) wB w9 := hk8.grown hg6 (fun k h1 h2 => by have := r4.lt k h1; omega)
            have d36 : ∀ k, v3.ownBlock = some k → v6.ownBlock ≠ some k := fun k h1 h2 => by
              rcases hat6 with hat | hat
              · exact d34 k h1 (hat ▸ h2)
              · have := (r3.lt k h1).2
                rw [hat] at h2
                injection h2 with h2
                omega
            replace r3 := row_apart r3 hg6 d34
            rw [Nat.zero_add, List.nil_append] at r6
            clear r4 d34 hat6 hg6 hs1 hs2
            refine hK.out _ _ (sk _ hk9) (fun hS => ?_)
            clear hK K
            try simp only [List.getElem_toArray, List.getElem_cons_zero, List.getElem_cons_succ, Act.put, List.setIfInBounds_toArray, List.set_cons_zero, List.set_cons_succ]
            refine wpAnyL_next (i := 8) (by kernel_rfl) rfl (fun K hK => ?_)
            go_simp
            have hk10 : Keeps (fun _ => False) wB (w9.alloc (.cells #[.int .i64 k0, .int .i64 k1, .int .i64 k2] 36)) := hk9.alloc _
            obtain ⟨n8, hn8⟩ : ∃ n, n = w9.heap.size := ⟨_, rfl⟩
            have c8 : (w9.alloc (.cells #[.int .i64 k0, .int .i64 k1, .int .i64 k2] 36)).heap[n8]? = some (.cells #[.int .i64 k0, .int .i64 k1, .int .i64 k2] 36 (0, 0)) := by rw [hn8]; exact heap_alloc_new w9 _
            replace r3 := r3.alloc (.cells #[.int .i64 k0, .int .i64 k1, .int .i64 k2] 36)
            have d68 : v6.ownBlock ≠ some n8 := fun h2 => by have := (r6.lt n8 h2).2; omega
            replace r6 := r6.alloc (.cells #[.int .i64 k0, .int .i64 k1, .int .i64 k2] 36)
            rw [← hn8]
            generalize hgw10 : w9.alloc (.cells #[.int .i64 k0, .int .i64 k1, .int .i64 k2] 36) = w10 at *
            clear hn8
            refine hK.out _ _ (sk _ hk10) (fun hS => ?_)
            clear hK K
            try simp only [List.getElem_toArray, List.getElem_cons_zero, List.getElem_cons_succ, Act.put, List.setIfInBounds_toArray, List.set_cons_zero, List.set_cons_succ]
            -- END 10 w10
            refine wpAnyL_late (i := 9) (by kernel_rfl) rfl (by kernel_rfl) (fun K hK => ?_)
            rw [if_pos (by rfl)]
            refine wp_append_at (.tmp 46) (.tmp 48) 22 rfl wB.heap.size 36 i0 (.agg #[.int .i64 0, .int .i64 0, .int .i64 0]) 3 24 Try.underlying22 hi hz0 hz1 hz2 rfl (by decide) v6 l.length (flat l) rfl r6 (some ⟨n8, 0, none⟩) 1 1 (evC (k0, k1, k2)) rfl (fun h => by cases h) rfl ?_ ?_ (by unfold maxLen; omega) (by omega) hk10.size ?_
            · intro ad had j u hj
              injection had with had
              subst had
              have hadd : (⟨n8, 0, none⟩ : Addr).add j = ⟨n8, 0 + j, none⟩ := by unfold Addr.add; split <;> simp_all
              rw [hadd, cell_of_row _ _ _ _ _ _ c8, Nat.zero_add]
              simpa [evC] using hj
            · intro u hu; simp [evC] at hu; rcases hu with rfl | rfl | rfl <;> rfl
            intro v9 wZ r9 hg9 _
            have hkZ : Keeps (fun _ => False) wB wZ := hk10.grown hg9 (fun k h1 h2 => by have := r6.lt k h1; omega)
            replace r3 := row_apart r3 hg9 d36
            have ev3 := evAt_of_row r3
            have ev9 : evAt wZ v9 (l ++ [(k0, k1, k2)]) := evAt_of_row (base := wB.heap.size) (by rw [flat_append, List.length_append, flat_one]; exact r9)
            clear r6 r9 hg9 r3 c8 d36
            refine hK.out _ _ (fun _ => ?_)
            clear hK K
            try simp only [List.getElem_toArray, List.getElem_cons_zero, List.getElem_cons_succ, Act.put, List.setIfInBounds_toArray, List.set_cons_zero, List.set_cons_succ]
            refine wpAnyL_late (i := 10) (by kernel_rfl) rfl (by kernel_rfl) (fun K hK => ?_)
            go_simp
            refine (same_calls v3 v9 _ _ _ hlen1 hlen1 ev3 ev9).mono ?_; rintro e w10 ⟨rfl, n10, rfl⟩
            go_wp2_with fail
            refine hK.out _ _ (fun _ => ?_)
            clear hK K
            try simp only [List.getElem_toArray, List.getElem_cons_zero, List.getElem_cons_succ, Act.put, List.setIfInBounds_toArray, List.set_cons_zero, List.set_cons_succ]
            refine wpAnyL_after (i := 11) (oi := _) (v := .bool true) rfl (by kernel_rfl) (by kernel_rfl) (by kernel_rfl) (by kernel_rfl) (by kernel_rfl) (fun _ _ _ h => (h : False).elim) (Or.inl ⟨by kernel_rfl, ?_⟩) ?_
            · intro w _
              go_simp
            try simp only [List.getElem_toArray, List.getElem_cons_zero, List.getElem_cons_succ, Act.put, List.setIfInBounds_toArray, List.set_cons_zero, List.set_cons_succ]
            refine wpAnyL_after (i := 12) (oi := _) (v := .bool true) rfl (by kernel_rfl) (by kernel_rfl) (by kernel_rfl) (by kernel_rfl) (by kernel_rfl) (fun _ _ _ h => (h : False).elim) (Or.inl ⟨by kernel_rfl, ?_⟩) ?_
            · intro w _
              go_simp
            try simp only [List.getElem_toArray, List.getElem_cons_zero, List.getElem_cons_succ, Act.put, List.setIfInBounds_toArray, List.set_cons_zero, List.set_cons_succ]
            refine wpAnyL_after (i := 13) (oi := _) (v := .slice ao2 l.length cap2) rfl (by kernel_rfl) (by kernel_rfl) (by kernel_rfl) (by kernel_rfl) (by kernel_rfl) (fun _ _ _ h => (h : False).elim) (Or.inl ⟨by kernel_rfl, ?_⟩) ?_
            · intro w _
              go_simp
            try simp only [List.getElem_toArray, List.getElem_cons_zero, List.getElem_cons_succ, Act.put, List.setIfInBounds_toArray, List.set_cons_zero, List.set_cons_succ]
            refine wpAnyL_after (i := 14) (oi := _) (v := .slice ao l.length cap) rfl (by kernel_rfl) (by kernel_rfl) (by kernel_rfl) (by kernel_rfl) (by kernel_rfl) (fun _ _ _ h => (h : False).elim) (Or.inl ⟨by kernel_rfl, ?_⟩) ?_
            · intro w _
              go_simp
            try simp only [List.getElem_toArray, List.getElem_cons_zero, List.getElem_cons_succ, Act.put, List.setIfInBounds_toArray, List.set_cons_zero, List.set_cons_succ]
            refine wpAnyL_late (i := 15) (by kernel_rfl) rfl (by kernel_rfl) (fun K hK => ?_)
            go_simp
            refine (rfirst_calls _ _ (l.map incE) l _ (by rw [List.length_map]; exact hl) hl (Hgot.out.keep (hkZ.drewN n10) (fun _ _ _ h => h)) (keeps_ev h.1 (hkZ.drewN n10))).mono ?_; rintro e w15 ⟨rfl, n15, rfl⟩
            go_wp2_with fail
            refine hK.out _ _ (fun _ => ?_)
            clear hK K
            try simp only [List.getElem_toArray, List.getElem_cons_zero, List.getElem_cons_succ, Act.put, List.setIfInBounds_toArray, List.set_cons_zero, List.set_cons_succ]
            refine wpAnyL_after (i := 16) (oi := _) (v := .bool true) rfl (by kernel_rfl) (by kernel_rfl) (by kernel_rfl) (by kernel_rfl) (by kernel_rfl) (fun _ _ _ h => (h : False).elim) (Or.inl ⟨by kernel_rfl, ?_⟩) ?_
            · intro w _
              go_simp
              exact HF.out
            try simp only [List.getElem_toArray, List.getElem_cons_zero, List.getElem_cons_succ, Act.put, List.setIfInBounds_toArray, List.set_cons_zero, List.set_cons_succ]
            refine wpAnyL_after (i := 17) (oi := _) (v := .bool true) rfl (by kernel_rfl) (by kernel_rfl) (by kernel_rfl) (by kernel_rfl) (by kernel_rfl) (fun _ _ _ h => (h : False).elim) (Or.inl ⟨by kernel_rfl, ?_⟩) ?_
            · intro w _
              go_simp
            try simp only [List.getElem_toArray, List.getElem_cons_zero, List.getElem_cons_succ, Act.put, List.setIfInBounds_toArray, List.set_cons_zero, List.set_cons_succ]
            refine wpAnyL_late (i := 18) (by kernel_rfl) rfl (by kernel_rfl) (fun K hK => ?_)
            go_simp
            refine hK.out _ _ (fun _ => ?_)
            clear hK K
            try simp only [List.getElem_toArray, List.getElem_cons_zero, List.getElem_cons_succ, Act.put, List.setIfInBounds_toArray, List.set_cons_zero, List.set_cons_succ]
            refine wpAnyL_done (by kernel_rfl) ?_ _
            refine NoPanic.normal ?_
            go_wp2
            go_ret
            exact ⟨rfl, hk0B.nil_trans (hkZ.drewN (n10 + n15))⟩
          refine AllL.cons (i := 8) rfl (fun K hK => ?_) ?_
          · go_simp
            have hk9 : Keeps (fun _ => False) wB (w8.alloc (.cells #[.int .i64 k0, .int .i64 k1, .int .i64 k2] 36)) := hk8.alloc _
            obtain ⟨n8, hn8⟩ : ∃ n, n = w8.heap.size := ⟨_, rfl⟩
            have c8 : (w8.alloc (.cells #[.int .i64 k0, .int .i64 k1, .int .i64 k2] 36)).heap[n8]? = some (.cells #[.int .i64 k0, .int .i64 k1, .int .i64 k2] 36 (0, 0)) := by rw [hn8]; exact heap_alloc_new w8 _
            replace r3 := r3.alloc (.cells #[.int .i64 k0, .int .i64 k1, .int .i64 k2] 36)
            have d48 : v46.ownBlock ≠ some n8 := fun h2 => by have := (r4.lt n8 h2).2; omega
            replace r4 := r4.alloc (.cells #[.int .i64 k0, .int .i64 k1, .int .i64 k2] 36)
            rw [← hn8]
            generalize hgw9 : w8.alloc (.cells #[.int .i64 k0, .int .i64 k1, .int .i64 k2] 36) = w9 at *
            clear hn8
            refine hK.out _ _ (sk _ hk9) (fun hS => ?_)
            clear hK K
            try simp only [List.getElem_toArray, List.getElem_cons_zero, List.getElem_cons_succ, Act.put, List.setIfInBounds_toArray, List.set_cons_zero, List.set_cons_succ]
            refine wpAnyL_next (i := 6) (by kernel_rfl) rfl (fun K hK => ?_)
            rw [if_pos (by rfl)]
            obtain ⟨_, hs1, hs2⟩ := (h.keep hk9).src
            refine wp_append_at (.tmp 44) (.tmp 45) 22 rfl wB.heap.size 36 i0 (.agg #[.int .i64 0, .int .i64 0, .int .i64 0]) 3 24 Try.underlying22 hi hz0 hz1 hz2 rfl (by decide) v46 0 [] rfl r4 ao l.length cap (flat l) rfl hs1 (flat_length l) hs2 (flat_one_cell l) (by unfold maxLen; omega) (by omega) hk9.size ?_
            intro v6 w10 r6 hg6 hat6
            have hk10 : Keeps (fun _ => False) wB w10 := hk9.grown hg6 (fun k h1 h2 => by have := r4.lt k h1; omega)
            have d36 : ∀ k, v3.ownBlock = some k → v6.ownBlock ≠ some k := fun k h1 h2 => by
              rcases hat6 with hat | hat
              · exact d34 k h1 (hat ▸ h2)
              · have := (r3.lt k h1).2
                rw [hat] at h2
                injection h2 with h2
                omega
            replace r3 := row_apart r3 hg6 d34
            have d68 : v6.ownBlock ≠ some n8 := fun h2 => by
              rcases hat6 with hat | hat
              · exact d48 (hat ▸ h2)
              · have := (Array.getElem?_eq_some_iff.1 c8).1
                rw [hat] at h2
                injection h2 with h2
                omega
            replace c8 := (hg6.block n8 (Array.getElem?_eq_some_iff.1 c8).1 (fun h => d48 h.symm)).trans c8
            clear d48
            rw [Nat.zero_add, List.nil_append] at r6
            clear r4 d34 hat6 hg6 hs1 hs2
            refine hK.out _ _ (sk _ hk10) (fun hS => ?_)
            clear hK K
            try simp only [List.getElem_toArray, List.getElem_cons_zero, List.getElem_cons_succ, Act.put, List.setIfInBounds_toArray, List.set_cons_zero, List.set_cons_succ]
            -- END 10 w10
            refine wpAnyL_late (i := 9) (by kernel_rfl) rfl (by kernel_rfl) (fun K hK => ?_)
            rw [if_pos (by rfl)]
            refine wp_append_at (.tmp 46) (.tmp 48) 22 rfl wB.heap.size 36 i0 (.agg #[.int .i64 0, .int .i64 0, .int .i64 0]) 3 24 Try.underlying22 hi hz0 hz1 hz2 rfl (by decide) v6 l.length (flat l) rfl r6 (some ⟨n8, 0, none⟩) 1 1 (evC (k0, k1, k2)) rfl (fun h => by cases h) rfl ?_ ?_ (by unfold maxLen; omega) (by omega) hk10.size ?_
            · intro ad had j u hj
              injection had with had
              subst had
              have hadd : (⟨n8, 0, none⟩ : Addr).add j = ⟨n8, 0 + j, none⟩ := by unfold Addr.add; split <;> simp_all
              rw [hadd, cell_of_row _ _ _ _ _ _ c8, Nat.zero_add]
              simpa [evC] using hj
            · intro u hu; simp [evC] at hu; rcases hu with rfl | rfl | rfl <;> rfl
            intro v9 wZ r9 hg9 _
            have hkZ : Keeps (fun _ => False) wB wZ := hk10.grown hg9 (fun k h1 h2 => by have := r6.lt k h1; omega)
            replace r3 := row_apart r3 hg9 d36
            have ev3 := evAt_of_row r3
            have ev9 : evAt wZ v9 (l ++ [(k0, k1, k2)]) := evAt_of_row (base := wB.heap.size) (by rw [flat_append, List.length_append, flat_one]; exact r9)
            clear r6 r9 hg9 r3 c8 d36
            refine hK.out _ _ (fun _ => ?_)
            clear hK K
            try simp only [List.getElem_toArray, List.getElem_cons_zero, List.getElem_cons_succ, Act.put, List.setIfInBounds_toArray, List.set_cons_zero, List.set_cons_succ]
            refine wpAnyL_late (i := 10) (by kernel_rfl) rfl (by kernel_rfl) (fun K hK => ?_)
            go_simp
            refine (same_calls v3 v9 _ _ _ hlen1 hlen1 ev3 ev9).mono ?_; rintro e w10 ⟨rfl, n10, rfl⟩
            go_wp2_with fail
            refine hK.out _ _ (fun _ => ?_)
            clear hK K
            try simp only [List.getElem_toArray, List.getElem_cons_zero, List.getElem_cons_succ, Act.put, List.setIfInBounds_toArray, List.set_cons_zero, List.set_cons_succ]
            refine wpAnyL_after (i := 11) (oi := _) (v := .bool true) rfl (by kernel_rfl) (by kernel_rfl) (by kernel_rfl) (by kernel_rfl) (by kernel_rfl) (fun _ _ _ h => (h : False).elim) (Or.inl ⟨by kernel_rfl, ?_⟩) ?_
            · intro w _
              go_simp
            try simp only [List.getElem_toArray, List.getElem_cons_zero, List.getElem_cons_succ, Act.put, List.setIfInBounds_toArray, List.set_cons_zero, List.set_cons_succ]
            refine wpAnyL_after (i := 12) (oi := _) (v := .bool true) rfl (by kernel_rfl) (by kernel_rfl) (by kernel_rfl) (by kernel_rfl) (by kernel_rfl) (fun _ _ _ h => (h : False).elim) (Or.inl ⟨by kernel_rfl, ?_⟩) ?_
            · intro w _
              go_simp
            try simp only [List.getElem_toArray, List.getElem_cons_zero, List.getElem_cons_succ, Act.put, List.setIfInBounds_toArray, List.set_cons_zero, List.set_cons_succ]
            refine wpAnyL_after (i := 13) (oi := _) (v := .slice ao2 l.length cap2) rfl (by kernel_rfl) (by kernel_rfl) (by kernel_rfl) (by kernel_rfl) (by kernel_rfl) (fun _ _ _ h => (h : False).elim) (Or.inl ⟨by kernel_rfl, ?_⟩) ?_
            · intro w _
              go_simp
            try simp only [List.getElem_toArray, List.getElem_cons_zero, List.getElem_cons_succ, Act.put, List.setIfInBounds_toArray, List.set_cons_zero, List.set_cons_succ]
            refine wpAnyL_after (i := 14) (oi := _) (v := .slice ao l.length cap) rfl (by kernel_rfl) (by kernel_rfl) (by kernel_rfl) (by kernel_rfl) (by kernel_rfl) (fun _ _ _ h => (h : False).elim) (Or.inl ⟨by kernel_rfl, ?_⟩) ?_
            · intro w _
              go_simp
            try simp only [List.getElem_toArray, List.getElem_cons_zero, List.getElem_cons_succ, Act.put, List.setIfInBounds_toArray, List.set_cons_zero, List.set_cons_succ]
            refine wpAnyL_late (i := 15) (by kernel_rfl) rfl (by kernel_rfl) (fun K hK => ?_)
            go_simp
            refine (rfirst_calls _ _ (l.map incE) l _ (by rw [List.length_map]; exact hl) hl (Hgot.out.keep (hkZ.drewN n10) (fun _ _ _ h => h)) (keeps_ev h.1 (hkZ.drewN n10))).mono ?_; rintro e w15 ⟨rfl, n15, rfl⟩
            go_wp2_with fail
            refine hK.out _ _ (fun _ => ?_)
            clear hK K
            try simp only [List.getElem_toArray, List.getElem_cons_zero, List.getElem_cons_succ, Act.put, List.setIfInBounds_toArray, List.set_cons_zero, List.set_cons_succ]
            refine wpAnyL_after (i := 16) (oi := _) (v := .bool true) rfl (by kernel_rfl) (by kernel_rfl) (by kernel_rfl) (by kernel_rfl) (by kernel_rfl) (fun _ _ _ h => (h : False).elim) (Or.inl ⟨by kernel_rfl, ?_⟩) ?_
            · intro w _
              go_simp
              exact HF.out
            try simp only [List.getElem_toArray, List.getElem_cons_zero, List.getElem_cons_succ, Act.put, List.setIfInBounds_toArray, List.set_cons_zero, List.set_cons_succ]
            refine wpAnyL_after (i := 17) (oi := _) (v := .bool true) rfl (by kernel_rfl) (by kernel_rfl) (by kernel_rfl) (by kernel_rfl) (by kernel_rfl) (fun _ _ _ h => (h : False).elim) (Or.inl ⟨by kernel_rfl, ?_⟩) ?_
            · intro w _
              go_simp
            try simp only [List.getElem_toArray, List.getElem_cons_zero, List.getElem_cons_succ, Act.put, List.setIfInBounds_toArray, List.set_cons_zero, List.set_cons_succ]
            refine wpAnyL_late (i := 18) (by kernel_rfl) rfl (by kernel_rfl) (fun K hK => ?_)
            go_simp
            refine hK.out _ _ (fun _ => ?_)
            clear hK K
            try simp only [List.getElem_toArray, List.getElem_cons_zero, List.getElem_cons_succ, Act.put, List.setIfInBounds_toArray, List.set_cons_zero, List.set_cons_succ]
            refine wpAnyL_done (by kernel_rfl) ?_ _
            refine NoPanic.normal ?_
            go_wp2
            go_ret
            exact ⟨rfl, hk0B.nil_trans (hkZ.drewN (n10 + n15))⟩
          exact AllL.nil
        refine AllL.cons (i := 8) rfl (fun K hK => ?_) ?_
        · go_simp
          have hk8 : Keeps (fun _ => False) wB (w7.alloc (.cells #[.int .i64 k0, .int .i64 k1, .int .i64 k2] 36)) := hk7.alloc _
          obtain ⟨n8, hn8⟩ : ∃ n, n = w7.heap.size := ⟨_, rfl⟩
          have c8 : (w7.alloc (.cells #[.int .i64 k0, .int .i64 k1, .int .i64 k2] 36)).heap[n8]? = some (.cells #[.int .i64 k0, .int .i64 k1, .int .i64 k2] 36 (0, 0)) := by rw [hn8]; exact heap_alloc_new w7 _
          have d48 : v46.ownBlock ≠ some n8 := fun h2 => by have := (r4.lt n8 h2).2; omega
          replace r4 := r4.alloc (.cells #[.int .i64 k0, .int .i64 k1, .int .i64 k2] 36)
          rw [← hn8]
          generalize hgw8 : w7.alloc (.cells #[.int .i64 k0, .int .i64 k1, .int .i64 k2] 36) = w8 at *
          clear hn8
          refine hK.out _ _ (sk _ hk8) (fun hS => ?_)
          clear hK K
          try simp only [List.getElem_toArray, List.getElem_cons_zero, List.getElem_cons_succ, Act.put, List.setIfInBounds_toArray, List.set_cons_zero, List.set_cons_succ]
          refine wpAnyL_next (i := 3) (by kernel_rfl) rfl (fun K hK => ?_)
          go_simp
          refine (events_calls _ _ (l ++ [(k0, k1, k2)]) _ hlen1 (hT.still hk8).ptr).mono ?_; rintro e w9 ⟨v3, rfl, hr3x, hk9x⟩
          have hk9 : Keeps (fun _ => False) wB w9 := hk8.nil_trans hk9x
          have r3 := row_base hr3x hk8.size
          have d34 : ∀ k, v3.ownBlock = some k → v46.ownBlock ≠ some k := fun k h1 h2 => by have := (hr3x.lt k h1).1; have := (r4.lt k h2).2; omega
          replace r4 := row_keep r4 hk9x
          replace c8 := (hk9x.block _ (Array.getElem?_eq_some_iff.1 c8).1 (fun h => h)).trans c8
          clear hr3x hk9x
          go_wp2_with fail
          refine hK.out _ _ (sk _ hk9) (fun hS => ?_)
          clear hK K
          try simp only [List.getElem_toArray, List.getElem_cons_zero, List.getElem_cons_succ, Act.put, List.setIfInBounds_toArray, List.set_cons_zero, List.set_cons_succ]
          refine wpAnyL_next (i := 6) (by kernel_rfl) rfl (fun K hK => ?_)
          rw [if_pos (by rfl)]
          obtain ⟨_, hs1, hs2⟩ := (h.keep hk9).src
          refine wp_append_at (.tmp 44) (.tmp 45) 22 rfl wB.heap.size 36 i0 (.agg #[.int .i64 0, .int .i64 0, .int .i64 0]) 3 24 Try.underlying22 hi hz0 hz1 hz2 rfl (by decide) v46 0 [] rfl r4 ao l.length cap (flat l) rfl hs1 (flat_length l) hs2 (flat_one_cell l) (by unfold maxLen; omega) (by omega) hk9.size ?_
          intro v6 w10 r6 hg6 hat6
          have hk10 : Keeps (fun _ => False) wB w10 := hk9.grown hg6 (fun k h1 h2 => by have := r4.lt k h1; omega)
          have d36 : ∀ k, v3.ownBlock = some k → v6.ownBlock ≠ some k := fun k h1 h2 => by
            rcases hat6 with hat | hat
            · exact d34 k h1 (hat ▸ h2)
            · have := (r3.lt k h1).2
              rw [hat] at h2
              injection h2 with h2
              omega
          replace r3 := row_apart r3 hg6 d34
          have d68 : v6.ownBlock ≠ some n8 := fun h2 => by
            rcases hat6 with hat | hat
            · exact d48 (hat ▸ h2)
            · have := (Array.getElem?_eq_some_iff.1 c8).1
              rw [hat] at h2
              injection h2 with h2
              omega
          replace c8 := (hg6.block n8 (Array.getElem?_eq_some_iff.1 c8).1 (fun h => d48 h.symm)).trans c8
          clear d48
          rw [Nat.zero_add, List.nil_append] at r6
          clear r4 d34 hat6 hg6 hs1 hs2
          refine hK.out _ _ (sk _ hk10) (fun hS => ?_)
          clear hK K
          try simp only [List.getElem_toArray, List.getElem_cons_zero, List.getElem_cons_succ, Act.put, List.setIfInBounds_toArray, List.set_cons_zero, List.set_cons_succ]
          -- END 10 w10
          refine wpAnyL_late (i := 9) (by kernel_rfl) rfl (by kernel_rfl) (fun K hK => ?_)
          rw [if_pos (by rfl)]
          refine wp_append_at (.tmp 46) (.tmp 48) 22 rfl wB.heap.size 36 i0 (.agg #[.int .i64 0, .int .i64 0, .int .i64 0]) 3 24 Try.underlying22 hi hz0 hz1 hz2 rfl (by decide) v6 l.length (flat l) rfl r6 (some ⟨n8, 0, none⟩) 1 1 (evC (k0, k1, k2)) rfl (fun h => by cases h) rfl ?_ ?_ (by unfold maxLen; omega) (by omega) hk10.size ?_
          · intro ad had j u hj
            injection had with had
            subst had
            have hadd : (⟨n8, 0, none⟩ : Addr).add j = ⟨n8, 0 + j, none⟩ := by unfold Addr.add; split <;> simp_all
            rw [hadd, cell_of_row _ _ _ _ _ _ c8, Nat.zero_add]
            simpa [evC] using hj
          · intro u hu; simp [evC] at hu; rcases hu with rfl | rfl | rfl <;> rfl
          intro v9 wZ r9 hg9 _
          have hkZ : Keeps (fun _ => False) wB wZ := hk10.grown hg9 (fun k h1 h2 => by have := r6.lt k h1; omega)
          replace r3 := row_apart r3 hg9 d36
          have ev3 := evAt_of_row r3
          have ev9 : evAt wZ v9 (l ++ [(k0, k1, k2)]) := evAt_of_row (base := wB.heap.size) (by rw [flat_append, List.length_append, flat_one]; exact r9)
          clear r6 r9 hg9 r3 c8 d36
          refine hK.out _ _ (fun _ => ?_)
          clear hK K
          try simp only [List.getElem_toArray, List.getElem_cons_zero, List.getElem_cons_succ, Act.put, List.setIfInBounds_toArray, List.set_cons_zero, List.set_cons_succ]
          refine wpAnyL_late (i := 10) (by kernel_rfl) rfl (by kernel_rfl) (fun K hK => ?_)
          go_simp
          refine (same_calls v3 v9 _ _ _ hlen1 hlen1 ev3 ev9).mono ?_; rintro e w10 ⟨rfl, n10, rfl⟩
          go_wp2_with fail
          refine hK.out _ _ (fun _ => ?_)
          clear hK K
          try simp only [List.getElem_toArray, List.getElem_cons_zero, List.getElem_cons_succ, Act.put, List.setIfInBounds_toArray, List.set_cons_zero, List.set_cons_succ]
          refine wpAnyL_after (i := 11) (oi := _) (v := .bool true) rfl (by kernel_rfl) (by kernel_rfl) (by kernel_rfl) (by kernel_rfl) (by kernel_rfl) (fun _ _ _ h => (h : False).elim) (Or.inl ⟨by kernel_rfl, ?_⟩) ?_
          · intro w _
            go_simp
          try simp only [List.getElem_toArray, List.getElem_cons_zero, List.getElem_cons_succ, Act.put, List.setIfInBounds_toArray, List.set_cons_zero, List.set_cons_succ]
          refine wpAnyL_after (i := 12) (oi := _) (v := .bool true) rfl (by kernel_rfl) (by kernel_rfl) (by kernel_rfl) (by kernel_rfl) (by kernel_rfl) (fun _ _ _ h => (h : False).elim) (Or.inl ⟨by kernel_rfl, ?_⟩) ?_
          · intro w _
            go_simp
          try simp only [List.getElem_toArray, List.getElem_cons_zero, List.getElem_cons_succ, Act.put, List.setIfInBounds_toArray, List.set_cons_zero, List.set_cons_succ]
          refine wpAnyL_after (i := 13) (oi := _) (v := .slice ao2 l.length cap2) rfl (by kernel_rfl) (by kernel_rfl) (by kernel_rfl) (by kernel_rfl) (by kernel_rfl) (fun _ _ _ h => (h : False).elim) (Or.inl ⟨by kernel_rfl, ?_⟩) ?_
          · intro w _
            go_simp
          try simp only [List.getElem_toArray, List.getElem_cons_zero, List.getElem_cons_succ, Act.put, List.setIfInBounds_toArray, List.set_cons_zero, List.set_cons_succ]
          refine wpAnyL_after (i := 14) (oi := _) (v := .slice ao l.length cap) rfl (by kernel_rfl) (by kernel_rfl) (by kernel_rfl) (by kernel_rfl) (by kernel_rfl) (fun _ _ _ h => (h : False).elim) (Or.inl ⟨by kernel_rfl, ?_⟩) ?_
          · intro w _
            go_simp
          try simp only [List.getElem_toArray, List.getElem_cons_zero, List.getElem_cons_succ, Act.put, List.setIfInBounds_toArray, List.set_cons_zero, List.set_cons_succ]
          refine wpAnyL_late (i := 15) (by kernel_rfl) rfl (by kernel_rfl) (fun K hK => ?_)
          go_simp
          refine (rfirst_calls _ _ (l.map incE) l _ (by rw [List.length_map]; exact hl) hl (Hgot.out.keep (hkZ.drewN n10) (fun _ _ _ h => h)) (keeps_ev h.1 (hkZ.drewN n10))).mono ?_; rintro e w15 ⟨rfl, n15, rfl⟩
          go_wp2_with fail
          refine hK.out _ _ (fun _ => ?_)
          clear hK K
          try simp only [List.getElem_toArray, List.getElem_cons_zero, List.getElem_cons_succ, Act.put, List.setIfInBounds_toArray, List.set_cons_zero, List.set_cons_succ]
          refine wpAnyL_after (i := 16) (oi := _) (v := .bool true) rfl (by kernel_rfl) (by kernel_rfl) (by kernel_rfl) (by kernel_rfl) (by kernel_rfl) (fun _ _ _ h => (h : False).elim) (Or.inl ⟨by kernel_rfl, ?_⟩) ?_
          · intro w _
            go_simp
            exact HF.out
          try simp only [List.getElem_toArray, List.getElem_cons_zero, List.getElem_cons_succ, Act.put, List.setIfInBounds_toArray, List.set_cons_zero, List.set_cons_succ]
          refine wpAnyL_after (i := 17) (oi := _) (v := .bool true) rfl (by kernel_rfl) (by kernel_rfl) (by kernel_rfl) (by kernel_rfl) (by kernel_rfl) (fun _ _ _ h => (h : False).elim) (Or.inl ⟨by kernel_rfl, ?_⟩) ?_
          · intro w _
            go_simp
          try simp only [List.getElem_toArray, List.getElem_cons_zero, List.getElem_cons_succ, Act.put, List.setIfInBounds_toArray, List.set_cons_zero, List.set_cons_succ]
          refine wpAnyL_late (i := 18) (by kernel_rfl) rfl (by kernel_rfl) (fun K hK => ?_)
          go_simp
          refine hK.out _ _ (fun _ => ?_)
          clear hK K
          try simp only [List.getElem_toArray, List.getElem_cons_zero, List.getElem_cons_succ, Act.put, List.setIfInBounds_toArray, List.set_cons_zero, List.set_cons_succ]
          refine wpAnyL_done (by kernel_rfl) ?_ _
          refine NoPanic.normal ?_
          go_wp2
          go_ret
          exact ⟨rfl, hk0B.nil_trans (hkZ.drewN (n10 + n15))⟩
        exact AllL.nil
      refine AllL.cons (i := 8) rfl (fun K hK => ?_) ?_
      · go_simp
        have hk7 : Keeps (fun _ => False) wB (w6.alloc (.cells #[.int .i64 k0, .int .i64 k1, .int .i64 k2] 36)) := hk6.alloc _
        obtain ⟨n8, hn8⟩ : ∃ n, n = w6.heap.size := ⟨_, rfl⟩
        have c8 : (w6.alloc (.cells #[.int .i64 k0, .int .i64 k1, .int .i64 k2] 36)).heap[n8]? = some (.cells #[.int .i64 k0, .int .i64 k1, .int .i64 k2] 36 (0, 0)) := by rw [hn8]; exact heap_alloc_new w6 _
        rw [← hn8]
        generalize hgw7 : w6.alloc (.cells #[.int .i64 k0, .int .i64 k1, .int .i64 k2] 36) = w7 at *
        clear hn8
        refine hK.out _ _ (sk _ hk7) (fun hS => ?_)
        clear hK K
        try simp only [List.getElem_toArray, List.getElem_cons_zero, List.getElem_cons_succ, Act.put, List.setIfInBounds_toArray, List.set_cons_zero, List.set_cons_succ]
        refine wpAnyL_fork (rs := [3, 4]) (by kernel_rfl) (by simp) ?_
        refine AllL.cons (i := 3) rfl (fun K hK => ?_) ?_
        · go_simp
          refine (events_calls _ _ (l ++ [(k0, k1, k2)]) _ hlen1 (hT.still hk7).ptr).mono ?_; rintro e w8 ⟨v3, rfl, hr3x, hk8x⟩
          have hk8 : Keeps (fun _ => False) wB w8 := hk7.nil_trans hk8x
          have r3 := row_base hr3x hk7.size
          replace c8 := (hk8x.block _ (Array.getElem?_eq_some_iff.1 c8).1 (fun h => h)).trans c8
          clear hr3x hk8x
          go_wp2_with fail
          refine hK.out _ _ (sk _ hk8) (fun hS => ?_)
          clear hK K
          try simp only [List.getElem_toArray, List.getElem_cons_zero, List.getElem_cons_succ, Act.put, List.setIfInBounds_toArray, List.set_cons_zero, List.set_cons_succ]
          refine wpAnyL_next (i := 4) (by kernel_rfl) rfl (fun K hK => ?_)
          go_simp
          have hk9 : Keeps (fun _ => False) wB (w8.alloc (.cells #[] 36)) := hk8.alloc _
          obtain ⟨v46, hv46⟩ : ∃ v, v = Value.slice (some ⟨w8.heap.size, 0, none⟩) 0 0 := ⟨_, rfl⟩
          have r4 : (w8.alloc (.cells #[] 36)).ownsRow wB.heap.size 36 3 v46 0 [] := by rw [hv46]; exact World.ownsRow_made w8 #[] 0 hk8.size (by simp) rfl
          have d34 : ∀ k, v3.ownBlock = some k → v46.ownBlock ≠ some k := fun k h1 h2 => by
            have := (r3.lt k h1).2
            rw [hv46] at h2
            simp [Value.ownBlock] at h2
            omega
          replace r3 := r3.alloc (.cells #[] 36)
          have d48 : v46.ownBlock ≠ some n8 := fun h2 => by
            have := (Array.getElem?_eq_some_iff.1 c8).1
            rw [hv46] at h2
            simp [Value.ownBlock] at h2
            omega
          replace c8 := (((Keeps.refl (fun _ => False) w8).alloc (.cells #[] 36)).block n8 (Array.getElem?_eq_some_iff.1 c8).1 (fun h => h)).trans c8
          rw [← hv46]
          generalize hgw9 : w8.alloc (.cells #[] 36) = w9 at *
          clear hv46
          refine hK.out _ _ (sk _ hk9) (fun hS => ?_)
          clear hK K
          try simp only [List.getElem_toArray, List.getElem_cons_zero, List.getElem_cons_succ, Act.put, List.setIfInBounds_toArray, List.set_cons_zero, List.set_cons_succ]
          refine wpAnyL_next (i := 6) (by kernel_rfl) rfl (fun K hK => ?_)
          rw [if_pos (by rfl)]
          obtain ⟨_, hs1, hs2⟩ := (h.keep hk9).src
          refine wp_append_at (.tmp 44) (.tmp 45) 22 rfl wB.heap.size 36 i0 (.agg #[.int .i64 0, .int .i64 0, .int .i64 0]) 3 24 Try.underlying22 hi hz0 hz1 hz2 rfl (by decide) v46 0 [] rfl r4 ao l.length cap (flat l) rfl hs1 (flat_length l) hs2 (flat_one_cell l) (by unfold maxLen; omega) (by omega) hk9.size ?_
          intro v6 w10 r6 hg6 hat6
          have hk10 : Keeps (fun _ => False) wB w10 := hk9.grown hg6 (fun k h1 h2 => by have := r4.lt k h1; omega)
          have d36 : ∀ k, v3.ownBlock = some k → v6.ownBlock ≠ some k := fun k h1 h2 => by
            rcases hat6 with hat | hat
            · exact d34 k h1 (hat ▸ h2)
            · have := (r3.lt k h1).2
              rw [hat] at h2
              injection h2 with h2
              omega
          replace r3 := row_apart r3 hg6 d34
          have d68 : v6.ownBlock ≠ some n8 := fun h2 => by
            rcases hat6 with hat | hat
            · exact d48 (hat ▸ h2)
            · have := (Array.getElem?_eq_some_iff.1 c8).1
              rw [hat] at h2
              injection h2 with h2
              omega
          replace c8 := (hg6.block n8 (Array.getElem?_eq_some_iff.1 c8).1 (fun h => d48 h.symm)).trans c8
          clear d48
          rw [Nat.zero_add, List.nil_append] at r6
          clear r4 d34 hat6 hg6 hs1 hs2
          refine hK.out _ _ (sk _ hk10) (fun hS => ?_)
          clear hK K
          try simp only [List.getElem_toArray, List.getElem_cons_zero, List.getElem_cons_succ, Act.put, List.setIfInBounds_toArray, List.set_cons_zero, List.set_cons_succ]
          -- END 10 w10
          refine wpAnyL_late (i := 9) (by kernel_rfl) rfl (by kernel_rfl) (fun K hK => ?_)
          rw [if_pos (by rfl)]
          refine wp_append_at (.tmp 46) (.tmp 48) 22 rfl wB.heap.size 36 i0 (.agg #[.int .i64 0, .int .i64 0, .int .i64 0]) 3 24 Try.underlying22 hi hz0 hz1 hz2 rfl (by decide) v6 l.length (flat l) rfl r6 (some ⟨n8, 0, none⟩) 1 1 (evC (k0, k1, k2)) rfl (fun h => by cases h) rfl ?_ ?_ (by unfold maxLen; omega) (by omega) hk10.size ?_
          · intro ad had j u hj
            injection had with had
            subst had
            have hadd : (⟨n8, 0, none⟩ : Addr).add j = ⟨n8, 0 + j, none⟩ := by unfold Addr.add; split <;> simp_all
            rw [hadd, cell_of_row _ _ _ _ _ _ c8, Nat.zero_add]
            simpa [evC] using hj
          · intro u hu; simp [evC] at hu; rcases hu with rfl | rfl | rfl <;> rfl
          intro v9 wZ r9 hg9 _
          have hkZ : Keeps (fun _ => False) wB wZ := hk10.grown hg9 (fun k h1 h2 => by have := r6.lt k h1; omega)
          replace r3 := row_apart r3 hg9 d36
          have ev3 := evAt_of_row r3
          have ev9 : evAt wZ v9 (l ++ [(k0, k1, k2)]) := evAt_of_row (base := wB.heap.size) (by rw [flat_append, List.length_append, flat_one]; exact r9)
          clear r6 r9 hg9 r3 c8 d36
          refine hK.out _ _ (fun _ => ?_)
          clear hK K
          try simp only [List.getElem_toArray, List.getElem_cons_zero, List.getElem_cons_succ, Act.put, List.setIfInBounds_toArray, List.set_cons_zero, List.set_cons_succ]
          refine wpAnyL_late (i := 10) (by kernel_rfl) rfl (by kernel_rfl) (fun K hK => ?_)
          go_simp
          refine (same_calls v3 v9 _ _ _ hlen1 hlen1 ev3 ev9).mono ?_; rintro e w10 ⟨rfl, n10, rfl⟩
          go_wp2_with fail
          refine hK.out _ _ (fun _ => ?_)
          clear hK K
          try simp only [List.getElem_toArray, List.getElem_cons_zero, List.getElem_cons_succ, Act.put, List.setIfInBounds_toArray, List.set_cons_zero, List.set_cons_succ]
          refine wpAnyL_after (i := 11) (oi := _) (v := .bool true) rfl (by kernel_rfl) (by kernel_rfl) (by kernel_rfl) (by kernel_rfl) (by kernel_rfl) (fun _ _ _ h => (h : False).elim) (Or.inl ⟨by kernel_rfl, ?_⟩) ?_
          · intro w _
            go_simp
          try simp only [List.getElem_toArray, List.getElem_cons_zero, List.getElem_cons_succ, Act.put, List.setIfInBounds_toArray, List.set_cons_zero, List.set_cons_succ]
          refine wpAnyL_after (i := 12) (oi := _) (v := .bool true) rfl (by kernel_rfl) (by kernel_rfl) (by kernel_rfl) (by kernel_rfl) (by kernel_rfl) (fun _ _ _ h => (h : False).elim) (Or.inl ⟨by kernel_rfl, ?_⟩) ?_
          · intro w _
            go_simp
          try simp only [List.getElem_toArray, List.getElem_cons_zero, List.getElem_cons_succ, Act.put, List.setIfInBounds_toArray, List.set_cons_zero, List.set_cons_succ]
          refine wpAnyL_after (i := 13) (oi := _) (v := .slice ao2 l.length cap2) rfl (by kernel_rfl) (by kernel_rfl) (by kernel_rfl) (by kernel_rfl) (by kernel_rfl) (fun _ _ _ h => (h : False).elim) (Or.inl ⟨by kernel_rfl, ?_⟩) ?_
          · intro w _
            go_simp
          try simp only [List.getElem_toArray, List.getElem_cons_zero, List.getElem_cons_succ, Act.put, List.setIfInBounds_toArray, List.set_cons_zero, List.set_cons_succ]
          refine wpAnyL_after (i := 14) (oi := _) (v := .slice ao l.length cap) rfl (by kernel_rfl) (by kernel_rfl) (by kernel_rfl) (by kernel_rfl) (by kernel_rfl) (fun _ _ _ h => (h : False).elim) (Or.inl ⟨by kernel_rfl, ?_⟩) ?_
          · intro w _
            go_simp
          try simp only [List.getElem_toArray, List.getElem_cons_zero, List.getElem_cons_succ, Act.put, List.setIfInBounds_toArray, List.set_cons_zero, List.set_cons_succ]
          refine wpAnyL_late (i := 15) (by kernel_rfl) rfl (by kernel_rfl) (fun K hK => ?_)
          go_simp
          refine (rfirst_calls _ _ (l.map incE) l _ (by rw [List.length_map]; exact hl) hl (Hgot.out.keep (hkZ.drewN n10) (fun _ _ _ h => h)) (keeps_ev h.1 (hkZ.drewN n10))).mono ?_; rintro e w15 ⟨rfl, n15, rfl⟩
          go_wp2_with fail
          refine hK.out _ _ (fun _ => ?_)
          clear hK K
          try simp only [List.getElem_toArray, List.getElem_cons_zero, List.getElem_cons_succ, Act.put, List.setIfInBounds_toArray, List.set_cons_zero, List.set_cons_succ]
          refine wpAnyL_after (i := 16) (oi := _) (v := .bool true) rfl (by kernel_rfl) (by kernel_rfl) (by kernel_rfl) (by kernel_rfl) (by kernel_rfl) (fun _ _ _ h => (h : False).elim) (Or.inl ⟨by kernel_rfl, ?_⟩) ?_
          · intro w _
            go_simp
            exact HF.out
          try simp only [List.getElem_toArray, List.getElem_cons_zero, List.getElem_cons_succ, Act.put, List.setIfInBounds_toArray, List.set_cons_zero, List.set_cons_succ]
          refine wpAnyL_after (i := 17) (oi := _) (v := .bool true) rfl (by kernel_rfl) (by kernel_rfl) (by kernel_rfl) (by kernel_rfl) (by kernel_rfl) (fun _ _ _ h => (h : False).elim) (Or.inl ⟨by kernel_rfl, ?_⟩) ?_
          · intro w _
            go_simp
          try simp only [List.getElem_toArray, List.getElem_cons_zero, List.getElem_cons_succ, Act.put, List.setIfInBounds_toArray, List.set_cons_zero, List.set_cons_succ]
          refine wpAnyL_late (i := 18) (by kernel_rfl) rfl (by kernel_rfl) (fun K hK => ?_)
          go_simp
          refine hK.out _ _ (fun _ => ?_)
          clear hK K
          try simp only [List.getElem_toArray, List.getElem_cons_zero, List.getElem_cons_succ, Act.put, List.setIfInBounds_toArray, List.set_cons_zero, List.set_cons_succ]
          refine wpAnyL_done (by kernel_rfl) ?_ _
          refine NoPanic.normal ?_
          go_wp2
          go_ret
          exact ⟨rfl, hk0B.nil_trans (hkZ.drewN (n10 + n15))⟩
        refine AllL.cons (i := 4) rfl (fun K hK => ?_) ?_
        · go_simp
          have hk8 : Keeps (fun _ => False) wB (w7.alloc (.cells #[] 36)) := hk7.alloc _
          obtain ⟨v46, hv46⟩ : ∃ v, v = Value.slice (some ⟨w7.heap.size, 0, none⟩) 0 0 := ⟨_, rfl⟩
          have r4 : (w7.alloc (.cells #[] 36)).ownsRow wB.heap.size 36 3 v46 0 [] := by rw [hv46]; exact World.ownsRow_made w7 #[] 0 hk7.size (by simp) rfl
          have d48 : v46.ownBlock ≠ some n8 := fun h2 => by
            have := (Array.getElem?_eq_some_iff.1 c8).1
            rw [hv46] at h2
            simp [Value.ownBlock] at h2
            omega
          replace c8 := (((Keeps.refl (fun _ => False) w7).alloc (.cells #[] 36)).block n8 (Array.getElem?_eq_some_iff.1 c8).1 (fun h => h)).trans c8
          rw [← hv46]
          generalize hgw8 : w7.alloc (.cells #[] 36) = w8 at *
          clear hv46
          refine hK.out _ _ (sk _ hk8) (fun hS => ?_)
          clear hK K
          try simp only [List.getElem_toArray, List.getElem_cons_zero, List.getElem_cons_succ, Act.put, List.setIfInBounds_toArray, List.set_cons_zero, List.set_cons_succ]
          refine wpAnyL_next (i := 3) (by kernel_rfl) rfl (fun K hK => ?_)
          go_simp
          refine (events_calls _ _ (l ++ [(k0, k1, k2)]) _ hlen1 (hT.still hk8).ptr).mono ?_; rintro e w9 ⟨v3, rfl, hr3x, hk9x⟩
          have hk9 : Keeps (fun _ => False) wB w9 := hk8.nil_trans hk9x
          have r3 := row_base hr3x hk8.size
          have d34 : ∀ k, v3.ownBlock = some k → v46.ownBlock ≠ some k := fun k h1 h2 => by have := (hr3x.lt k h1).1; have := (r4.lt k h2).2; omega
          replace r4 := row_keep r4 hk9x
          replace c8 := (hk9x.block _ (Array.getElem?_eq_some_iff.1 c8).1 (fun h => h)).trans c8
          clear hr3x hk9x
          go_wp2_with fail
          refine hK.out _ _ (sk _ hk9) (fun hS => ?_)
          clear hK K
          try simp only [List.getElem_toArray, List.getElem_cons_zero, List.getElem_cons_succ, Act.put, List.setIfInBounds_toArray, List.set_cons_zero, List.set_cons_succ]
          refine wpAnyL_next (i := 6) (by kernel_rfl) rfl (fun K hK => ?_)
          rw [if_pos (by rfl)]
          obtain ⟨_, hs1, hs2⟩ := (h.keep hk9).src
          refine wp_append_at (.tmp 44) (.tmp 45) 22 rfl wB.heap.size 36 i0 (.agg #[.int .i64 0, .int .i64 0, .int .i64 0]) 3 24 Try.underlying22 hi hz0 hz1 hz2 rfl (by decide) v46 0 [] rfl r4 ao l.length cap (flat l) rfl hs1 (flat_length l) hs2 (flat_one_cell l) (by unfold maxLen; omega) (by omega) hk9.size ?_
          intro v6 w10 r6 hg6 hat6
          have hk10 : Keeps (fun _ => False) wB w10 := hk9.grown hg6 (fun k h1 h2 => by have := r4.lt k h1; omega)
          have d36 : ∀ k, v3.ownBlock = some k → v6.ownBlock ≠ some k := fun k h1 h2 => by
            rcases hat6 with hat | hat
            · exact d34 k h1 (hat ▸ h2)
            · have := (r3.lt k h1).2
              rw [hat] at h2
              injection h2 with h2
              omega
          replace r3 := row_apart r3 hg6 d34
          have d68 : v6.ownBlock ≠ some n8 := fun h2 => by
            rcases hat6 with hat | hat
            · exact d48 (hat ▸ h2)
            · have := (Array.getElem?_eq_some_iff.1 c8).1
              rw [hat] at h2
              injection h2 with h2
              omega
          replace c8 := (hg6.block n8 (Array.getElem?_eq_some_iff.1 c8).1 (fun h => d48 h.symm)).trans c8
          clear d48
          rw [Nat.zero_add, List.nil_append] at r6
          clear r4 d34 hat6 hg6 hs1 hs2
          refine hK.out _ _ (sk _ hk10) (fun hS => ?_)
          clear hK K
          try simp only [List.getElem_toArray, List.getElem_cons_zero, List.getElem_cons_succ, Act.put, List.setIfInBounds_toArray, List.set_cons_zero, List.set_cons_succ]
          -- END 10 w10
          refine wpAnyL_late (i := 9) (by kernel_rfl) rfl (by kernel_rfl) (fun K hK => ?_)
          rw [if_pos (by rfl)]
          refine wp_append_at (.tmp 46) (.tmp 48) 22 rfl wB.heap.size 36 i0 (.agg #[.int .i64 0, .int .i64 0, .int .i64 0]) 3 24 Try.underlying22 hi hz0 hz1 hz2 rfl (by decide) v6 l.length (flat l) rfl r6 (some ⟨n8, 0, none⟩) 1 1 (evC (k0, k1, k2)) rfl (fun h => by cases h) rfl ?_ ?_ (by unfold maxLen; omega) (by omega) hk10.size ?_
          · intro ad had j u hj
            injection had with had
            subst had
            have hadd : (⟨n8, 0, none⟩ : Addr).add j = ⟨n8, 0 + j, none⟩ := by unfold Addr.add; split <;> simp_all
            rw [hadd, cell_of_row _ _ _ _ _ _ c8, Nat.zero_add]
            simpa [evC] using hj
          · intro u hu; simp [evC] at hu; rcases hu with rfl | rfl | rfl <;> rfl
          intro v9 wZ r9 hg9 _
          have hkZ : Keeps (fun _ => False) wB wZ := hk10.grown hg9 (fun k h1 h2 => by have := r6.lt k h1; omega)
          replace r3 := row_apart r3 hg9 d36
          have ev3 := evAt_of_row r3
          have ev9 : evAt wZ v9 (l ++ [(k0, k1, k2)]) := evAt_of_row (base := wB.heap.size) (by rw [flat_append, List.length_append, flat_one]; exact r9)
          clear r6 r9 hg9 r3 c8 d36
          refine hK.out _ _ (fun _ => ?_)
          clear hK K
          try simp only [List.getElem_toArray, List.getElem_cons_zero, List.getElem_cons_succ, Act.put, List.setIfInBounds_toArray, List.set_cons_zero, List.set_cons_succ]
          refine wpAnyL_late (i := 10) (by kernel_rfl) rfl (by kernel_rfl) (fun K hK => ?_)
          go_simp
          refine (same_calls v3 v9 _ _ _ hlen1 hlen1 ev3 ev9).mono ?_; rintro e w10 ⟨rfl, n10, rfl⟩
          go_wp2_with fail
          refine hK.out _ _ (fun _ => ?_)
          clear hK K
          try simp only [List.getElem_toArray, List.getElem_cons_zero, List.getElem_cons_succ, Act.put, List.setIfInBounds_toArray, List.set_cons_zero, List.set_cons_succ]
          refine wpAnyL_after (i := 11) (oi := _) (v := .bool true) rfl (by kernel_rfl) (by kernel_rfl) (by kernel_rfl) (by kernel_rfl) (by kernel_rfl) (fun _ _ _ h => (h : False).elim) (Or.inl ⟨by kernel_rfl, ?_⟩) ?_
          · intro w _
            go_simp
          try simp only [List.getElem_toArray, List.getElem_cons_zero, List.getElem_cons_succ, Act.put, List.setIfInBounds_toArray, List.set_cons_zero, List.set_cons_succ]
          refine wpAnyL_after (i := 12) (oi := _) (v := .bool true) rfl (by kernel_rfl) (by kernel_rfl) (by kernel_rfl) (by kernel_rfl) (by kernel_rfl) (fun _ _ _ h => (h : False).elim) (Or.inl ⟨by kernel_rfl, ?_⟩) ?_
          · intro w _
            go_simp
          try simp only [List.getElem_toArray, List.getElem_cons_zero, List.getElem_cons_succ, Act.put, List.setIfInBounds_toArray, List.set_cons_zero, List.set_cons_succ]
          refine wpAnyL_after (i := 13) (oi := _) (v := .slice ao2 l.length cap2) rfl (by kernel_rfl) (by kernel_rfl) (by kernel_rfl) (by kernel_rfl) (by kernel_rfl) (fun _ _ _ h => (h : False).elim) (Or.inl ⟨by kernel_rfl, ?_⟩) ?_
          · intro w _
            go_simp
          try simp only [List.getElem_toArray, List.getElem_cons_zero, List.getElem_cons_succ, Act.put, List.setIfInBounds_toArray, List.set_cons_zero, List.set_cons_succ]
          refine wpAnyL_after (i := 14) (oi := _) (v := .slice ao l.length cap) rfl (by kernel_rfl) (by kernel_rfl) (by kernel_rfl) (by kernel_rfl) (by kernel_rfl) (fun _ _ _ h => (h : False).elim) (Or.inl ⟨by kernel_rfl, ?_⟩) ?_
          · intro w _
            go_simp
          try simp only [List.getElem_toArray, List.getElem_cons_zero, List.getElem_cons_succ, Act.put, List.setIfInBounds_toArray, List.set_cons_zero, List.set_cons_succ]
          refine wpAnyL_late (i := 15) (by kernel_rfl) rfl (by kernel_rfl) (fun K hK => ?_)
          go_simp
          refine (rfirst_calls _ _ (l.map incE) l _ (by rw [List.length_map]; exact hl) hl (Hgot.out.keep (hkZ.drewN n10) (fun _ _ _ h => h)) (keeps_ev h.1 (hkZ.drewN n10))).mono ?_; rintro e w15 ⟨rfl, n15, rfl⟩
          go_wp2_with fail
          refine hK.out _ _ (fun _ => ?_)
          clear hK K
          try simp only [List.getElem_toArray, List.getElem_cons_zero, List.getElem_cons_succ, Act.put, List.setIfInBounds_toArray, List.set_cons_zero, List.set_cons_succ]
          refine wpAnyL_after (i := 16) (oi := _) (v := .bool true) rfl (by kernel_rfl) (by kernel_rfl) (by kernel_rfl) (by kernel_rfl) (by kernel_rfl) (fun _ _ _ h => (h : False).elim) (Or.inl ⟨by kernel_rfl, ?_⟩) ?_
          · intro w _
            go_simp
            exact HF.out
          try simp only [List.getElem_toArray, List.getElem_cons_zero, List.getElem_cons_succ, Act.put, List.setIfInBounds_toArray, List.set_cons_zero, List.set_cons_succ]
          refine wpAnyL_after (i := 17) (oi := _) (v := .bool true) rfl (by kernel_rfl) (by kernel_rfl) (by kernel_rfl) (by kernel_rfl) (by kernel_rfl) (fun _ _ _ h => (h : False).elim) (Or.inl ⟨by kernel_rfl, ?_⟩) ?_
          · intro w _
            go_simp
          try simp only [List.getElem_toArray, List.getElem_cons_zero, List.getElem_cons_succ, Act.put, List.setIfInBounds_toArray, List.set_cons_zero, List.set_cons_succ]
          refine wpAnyL_late (i := 18) (by kernel_rfl) rfl (by kernel_rfl) (fun K hK => ?_)
          go_simp
          refine hK.out _ _ (fun _ => ?_)
          clear hK K
          try simp only [List.getElem_toArray, List.getElem_cons_zero, List.getElem_cons_succ, Act.put, List.setIfInBounds_toArray, List.set_cons_zero, List.set_cons_succ]
          refine wpAnyL_done (by kernel_rfl) ?_ _
          refine NoPanic.normal ?_
          go_wp2
          go_ret
          exact ⟨rfl, hk0B.nil_trans (hkZ.drewN (n10 + n15))⟩
        exact AllL.nil
      exact AllL.nil

theorem isolated_law (v : Value) (l : List Ev) (e : Ev) (w : World) (h : argAt w v l) (hok : ∀ e ∈ l, EvOk e) (he : EvOk e) (hreach : l.length ≤ 9223372036854775807) :
    Calls Try.prog 5 #[v, .agg #[.int .i64 e.1, .int .i64 e.2.1, .int .i64 e.2.2]] w (Yes w) := by
  obtain ⟨ao, cap, rfl⟩ := h.1.shape
  obtain ⟨k0, k1, k2⟩ := e
  by_cases hbig : 1000 < l.length
  · have hka : Keeps (fun _ => False) w (w.alloc (.cells #[.int .i64 k0, .int .i64 k1, .int .i64 k2] 36)) := (Keeps.refl _ w).alloc _
    go_enter Try.func5, Try.ntmps5
    go_wp2_with fail
    refine (alive_calls _).mono ?_; rintro e w1 ⟨rfl, hk1⟩
    go_wp2_with fail
    go_ret
    exact ⟨rfl, hka.nil_trans hk1⟩
  · exact isolated_small ao cap l k0 k1 k2 w h hok he (by omega)
end Go.Proofs.Ytoefjgcehmcbcaa.tp
