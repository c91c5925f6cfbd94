/- Sort of package sorting. -/
import Derived.Test.YtbgjfibninccdaaSortE
import Derived.Test.YtbgjfibninccdaaNetG
import Derived.Test.YtbgjfibninccdaaNetV
import Derived.Laws.CopyRow
set_option linter.unusedSimpArgs false
set_option linter.unusedVariables false
namespace Go.Proofs.Ytbgjfibninccdaa.so
open Go Go.RowKit Go.Shelf Go.Proofs.Ytbgjfibninccdaa.mk Go.Proofs.Ytbgjfibninccdaa.nw Go.Proofs.Ytbgjfibninccdaa.tp Go.Proofs.Ytbgjfibninccdaa.rg Go.Proofs.Ytbgjfibninccdaa.ar

attribute [local go_sem] Oper.semAt_some

/-! ### copy, for elements of some cells -/
theorem run_copy_sized {P : Program} (w : World) (dT sT ty elem : TypeId) (g o dLen dCap : Nat) (a : Addr) (sLen sCap sz k : Nat) (cur : Array Value) (t : TypeId) (cs : List Value)
    (hu : P.underlying dT = some (.slice elem)) (hs : (P.info? elem).map (·.size) = some sz)
    (hg : w.heap[g]? = some (.cells cur t (0, 0))) (hk : k = Nat.min sLen dLen) (hn : cs.length = k * sz)
    (hsrc : ∀ j v, cs[j]? = some v → w.cell? (a.add j) = some v) (hfit : o + cs.length ≤ cur.size) (h1 : ∀ v ∈ cs, v.oneCell' = true) :
    (Builtin.copy_ #[dT, sT] ty #[.slice (some ⟨g, o, none⟩) dLen dCap, .slice (some a) sLen sCap]).run P w =
      .ok (goInt k) (w.setRow g (cur.toList.take o ++ cs ++ cur.toList.drop (o + cs.length)).toArray) := by
  have hl := run_loadCells_list (P := P) w a cs hsrc
  have hst := run_storeCells_at P g o t cs 0 cur w hg (by simpa using hfit) h1
  cases hq : P.info? elem with
  | none => simp [hq] at hs
  | some i =>
    have hi : i.size = sz := by simpa [hq] using hs
    rw [hn] at hl
    simp [Builtin.copy_, run_underlying hu, Builtin.lenOf, Builtin.firstCells, sizeOf, typeInfo, hq, hi, ← hk, hl, hst]
theorem wpList_copy_sized {P : Program} {w : World} {ops : Array Oper} {rest : List Oper} {o : Oper} {a : Act} {Q : Exit → Act → World → Prop} (hgd : o.guard = none) (d s : Operand) (dT sT : TypeId)
    (ho : o.op = .call { callee := .builtin .copy, args := #[d, s], argTypes := #[dT, sT] }) (elem : TypeId) (hu : P.underlying dT = some (.slice elem)) (sz : Nat) (hsz : (P.info? elem).map (·.size) = some sz)
    (g off dLen dCap : Nat) (ad : Addr) (sLen sCap k : Nat) (hd : a.eval d = .slice (some ⟨g, off, none⟩) dLen dCap) (hs : a.eval s = .slice (some ad) sLen sCap)
    (cur : Array Value) (t : TypeId) (hg : w.heap[g]? = some (.cells cur t (0, 0))) (cs : List Value) (hk : k = Nat.min sLen dLen) (hn : cs.length = k * sz)
    (hsrc : ∀ j v, cs[j]? = some v → w.cell? (ad.add j) = some v) (hfit : off + cs.length ≤ cur.size) (h1 : ∀ v ∈ cs, v.oneCell' = true)
    (h : wpList P ops Q rest (a.put o.dst (goInt k)) (w.setRow g (cur.toList.take off ++ (cs ++ cur.toList.drop (off + cs.length))).toArray)) : wpList P ops Q (o :: rest) a w := by
  refine wpList_plain hgd fun K hK => ?_
  have hrun := run_copy_sized (P := P) w dT sT o.type elem g off dLen dCap ad sLen sCap sz k cur t cs hu hsz hg hk hn hsrc hfit h1
  unfold Oper.wp
  simp [execOp, ho, resolve, invoke, builtin, hd, hs, hrun, Result.andThen]
  exact hK _ _ h

/-! ### lists of records in memory -/
def recAt (w : World) (v : Value) (l : List Rec) : Prop :=
  (l = [] ∧ ∃ ao cap, v = .slice ao 0 cap) ∨ (l ≠ [] ∧ ∃ b off cap, v = .slice (some ⟨b, off, none⟩) l.length cap ∧ b < w.heap.size ∧ ∀ (i : Nat) (r : Rec), l[i]? = some r → w.cell? ⟨b, off + i * 2, none⟩ = some (.int .u64 r.1) ∧ w.cell? ⟨b, off + (i * 2 + 1), none⟩ = some (.int .u64 r.2))
def Recs (l : List Rec) : Prop := ∀ r ∈ l, RecOk r
theorem recAt.keep {w w' : World} {T : Nat → Prop} {v : Value} {l : List Rec} (h : recAt w v l) (hk : Keeps T w w') (hT : l ≠ [] → ∀ g, v.ownBlock = some g → g < w.heap.size → ¬ T g) : recAt w' v l := by
  rcases h with h | ⟨hne, b, off, cap, rfl, hlt, hc⟩
  · exact .inl h
  · exact .inr ⟨hne, b, off, cap, rfl, Nat.lt_of_lt_of_le hlt hk.size, fun i r hi => ⟨(hk.cell (p := ⟨b, _, none⟩) hlt (hT hne b rfl hlt)).trans (hc i r hi).1, (hk.cell (p := ⟨b, _, none⟩) hlt (hT hne b rfl hlt)).trans (hc i r hi).2⟩⟩
theorem recAt.kept {w w' : World} {v : Value} {l : List Rec} (h : recAt w v l) (hk : Keeps (fun _ => False) w w') : recAt w' v l := h.keep hk (fun _ _ _ _ h => h)
theorem rec_cells {w : World} {b off cap : Nat} {l : List Rec} (h : ∀ (i : Nat) (r : Rec), l[i]? = some r → w.cell? ⟨b, off + i * 2, none⟩ = some (.int .u64 r.1) ∧ w.cell? ⟨b, off + (i * 2 + 1), none⟩ = some (.int .u64 r.2)) :
    ∀ (j : Nat) (u : Value), (rflat l)[j]? = some u → w.cell? ((⟨b, off, none⟩ : Addr).add j) = some u := by
  intro j u hj
  have hl := (List.getElem?_eq_some_iff.1 hj).1
  rw [rflat_length] at hl
  have hadd : (⟨b, off, none⟩ : Addr).add j = ⟨b, off + j, none⟩ := by unfold Addr.add; split <;> simp_all
  rw [hadd]
  obtain ⟨r, hr⟩ : ∃ r, l[j / 2]? = some r := ⟨l[j / 2]'(by omega), by simp⟩
  obtain ⟨g1, g2⟩ := rflat_get l (j / 2) r hr
  obtain ⟨h1, h2⟩ := h (j / 2) r hr
  rcases Nat.mod_two_eq_zero_or_one j with hm | hm
  · have e : j / 2 * 2 = j := by omega
    rw [e] at g1 h1
    rw [h1, ← g1, hj]
  · have e : j / 2 * 2 + 1 = j := by omega
    rw [e] at g2 h2
    rw [h2, ← g2, hj]
theorem rflat_one (l : List Rec) : ∀ v ∈ rflat l, v.oneCell' = true := by
  intro v hv
  unfold rflat at hv
  obtain ⟨r, _, hr⟩ := List.mem_flatMap.1 hv
  simp at hr
  rcases hr with rfl | rfl <;> rfl
theorem infoRec : (Try.prog.info? 24).map (fun i => (i.zero, i.size, i.bytes)) = some (some (.agg #[.int .u64 0, .int .u64 0]), 2, 16) := by kernel_rfl

/-! ### events of a list of comparators -/
def evsC (q : Option Addr) (l0 : List Ev) (L : List (Nat × Nat)) : List Ev := if q = none then [] else l0 ++ L.map fun c => (3, (c.1 : Int), (c.2 : Int))
theorem evsC_snoc {q : Option Addr} {l0 : List Ev} {L : List (Nat × Nat)} {k : Nat} {c : Nat × Nat} (h : L[k]? = some c) : evsC q l0 (L.take (k + 1)) = if q = none then [] else evsC q l0 (L.take k) ++ [(3, (c.1 : Int), (c.2 : Int))] := by
  unfold evsC
  split
  · rfl
  · rw [List.take_add_one, h, List.map_append, List.append_assoc]; rfl
theorem note_c (q : Option Addr) (S : Nat → Prop) (l0 : List Ev) (L : List (Nat × Nat)) (k x y : Nat) (w : World) (hT : qAt w S q (evsC q l0 (L.take k))) (hc : L[k]? = some (x, y)) (hx : x ≤ 4096) (hy : y ≤ 4096) (hL : L.length ≤ 589824) (hl : l0.length ≤ 549755813888) :
    Calls Try.prog 35 #[.pointer q, .int .i64 3, .int .i64 (x : Int), .int .i64 (y : Int)] w fun r w' => r = .returned (.tuple #[]) ∧ qAt w' (fun k => S k ∨ w.heap.size ≤ k) q (evsC q l0 (L.take (k + 1))) ∧ Keeps S w w' := by
  rcases hT with ⟨rfl, he⟩ | ⟨b, rfl, hT⟩
  · refine (note_none 3 x y w).mono fun r w' ⟨hr, hw⟩ => ⟨hr, .inl ⟨rfl, ?_⟩, by rw [hw]; exact Keeps.refl _ _⟩
    simp [evsC]
  · have he : EvOk (3, (x : Int), (y : Int)) := ⟨show wf64 3 = true by decide, show wf64 (x : Int) = true from WalkArith.wf_i64 (by omega), show wf64 (y : Int) = true from WalkArith.wf_i64 (by omega)⟩
    have hlen : (evsC (some ⟨b, 0, none⟩) l0 (L.take k)).length ≤ 1099511627776 := by
      unfold evsC
      rw [if_neg (by simp), List.length_append, List.length_map, List.length_take]
      omega
    refine (note_calls b S _ _ w hT he hlen).mono fun r w' ⟨hr, ht, hk⟩ => ⟨hr, .inr ⟨b, rfl, ?_⟩, hk⟩
    rw [evsC_snoc hc, if_neg (by simp)]
    exact ht
/-- The first k records are clean. -/
def mixR (L : List Rec) (k : Nat) : List Rec := (L.take k).map cleanR ++ L.drop k
theorem mixR_zero (L : List Rec) : mixR L 0 = L := rfl
theorem mixR_length (L : List Rec) (k : Nat) : (mixR L k).length = L.length := by
  unfold mixR
  rw [List.length_append, List.length_map, List.length_take, List.length_drop]; omega
theorem mixR_get {L : List Rec} {k : Nat} {r : Rec} (h : L[k]? = some r) : (mixR L k)[k]? = some r := by
  have hk := (List.getElem?_eq_some_iff.1 h).1
  have hl : ((L.take k).map cleanR).length = k := by rw [List.length_map, List.length_take]; omega
  unfold mixR
  rw [List.getElem?_append_right (by omega), hl, Nat.sub_self, List.getElem?_drop, Nat.add_zero]
  exact h
theorem mixR_set {L : List Rec} {k : Nat} {r : Rec} (h : L[k]? = some r) : (mixR L k).set k (cleanR r) = mixR L (k + 1) := by
  have hk := (List.getElem?_eq_some_iff.1 h).1
  have hl : ((L.take k).map cleanR).length = k := by rw [List.length_map, List.length_take]; omega
  have hd : L.drop k = r :: L.drop (k + 1) := by
    rw [List.drop_eq_getElem_cons hk, (List.getElem?_eq_some_iff.1 h).2]
  unfold mixR
  rw [List.set_append_right _ _ (by omega), hl, Nat.sub_self, hd, List.take_add_one, h, List.map_append, List.append_assoc]
  rfl
theorem row_kept {w w' : World} {base g n cap : Nat} {E : TypeId} {size : Nat} {xs : List Value} (h : w.ownsRow base E size (.slice (some ⟨g, 0, none⟩) n cap) n xs) {T : Nat → Prop} (hk : Keeps T w w') (hT : ¬ T g := by exact fun h => h) : w'.ownsRow base E size (.slice (some ⟨g, 0, none⟩) n cap) n xs := by
  refine ⟨h.1, ?_⟩
  rcases h.2 with hh | ⟨g', c, cur, he, h1, h2, h3⟩
  · exact .inl hh
  · have e : g' = g := by injection he with he; injection he with he; injection he with he; exact he.symm
    subst e
    exact .inr ⟨g', c, cur, he, h1, (hk.block _ (Array.getElem?_eq_some_iff.1 h2).1 hT).trans h2, h3⟩
theorem sort_nil (q : Option Addr) (ao : Option Addr) (cap : Nat) (w : World) : Calls Try.prog 16 #[.pointer q, .slice ao 0 cap] w fun e w' => e = .returned (.slice none 0 0) ∧ Keeps (fun _ => False) w w' := by
  have cs := fun w => size_calls 0 w
  rw [show sizeI 0 = 0 from by decide] at cs
  go_enter Try.func16, Try.ntmps16
  go_wp2_with fail
  refine (cs _).mono ?_; rintro e w1 ⟨rfl, rfl⟩
  go_wp2_with fail
  go_ret
  exact ⟨rfl, (Keeps.refl _ w).alloc _⟩
set_option maxRecDepth 100000 in
set_option maxHeartbeats 4000000 in
theorem sort_some (q : Option Addr) (l0 : List Ev) (S0 : Nat → Prop) (b off cap : Nat) (l : List Rec) (r N : Nat) (w : World) (hT : qAt w S0 q l0) (hl0 : l0.length ≤ 549755813888) (hr : r ≤ 12) (hN : N = 2 ^ r) (hsz : sizeI (l.length : Int) = (N : Int)) (hlN : l.length ≤ N)
    (hne : l ≠ []) (hb : b < w.heap.size) (hc : ∀ (i : Nat) (r : Rec), l[i]? = some r → w.cell? ⟨b, off + i * 2, none⟩ = some (.int .u64 r.1) ∧ w.cell? ⟨b, off + (i * 2 + 1), none⟩ = some (.int .u64 r.2)) (hS : ¬ S0 b) (hok : Recs l) :
    Calls Try.prog 16 #[.pointer q, .slice (some ⟨b, off, none⟩) l.length cap] w fun e w' => ∃ g, e = .returned (.slice (some ⟨g, 0, none⟩) l.length l.length) ∧ w.heap.size ≤ g ∧
      w'.ownsRow w.heap.size 24 2 (.slice (some ⟨g, 0, none⟩) N N) N (rflat (((nl N r).foldl cx ((l.map keyR) ++ List.replicate (N - l.length) 18446744073709551616)).map unkey)) ∧ (∃ S, qAt w' S q (evsC q l0 (nl N r)) ∧ (∀ i, S i → S0 i ∨ w.heap.size ≤ i) ∧ ¬ S g) ∧ Keeps S0 w w' := by
  have hlp : 0 < l.length := List.length_pos_iff.2 hne
  have hN1 : 1 ≤ N := by omega
  have hN2 : N ≤ 4096 := by rw [hN]; exact Nat.pow_le_pow_right (n := 2) (by omega) hr
  have cs := fun w => size_calls (l.length : Int) w
  rw [hsz] at cs
  have HN := Lib.hid hN
  have hN0 : ((N : Int) == 0) = false := by rw [beq_eq_false_iff_ne]; omega
  obtain ⟨i0, hi, hz0, hz1, hz2⟩ := info_parts infoRec
  have hmk := fun w => run_make (P := Try.prog) w 30 24 i0 (.agg #[.int .u64 0, .int .u64 0]) Try.underlying30 hi hz0 .i64 .i64 (N : Int) (N : Int) (by omega) (Int.le_refl _) (by rw [hz2]; omega) (by omega)
  rw [hz1] at hmk
  simp only [Int.toNat_natCast] at hmk
  have hZ1 : (madeCells (Value.agg #[.int .u64 0, .int .u64 0]).cells (N * 2)).toList = rflat (List.replicate N (0, 0)) := by
    apply List.ext_getElem?
    intro j
    by_cases hj : j < N * 2
    · obtain ⟨g1, g2⟩ := rflat_get (List.replicate N (0, 0)) (j / 2) (0, 0) (by rw [List.getElem?_replicate, if_pos (by omega)])
      have e : (madeCells (Value.agg #[.int .u64 0, .int .u64 0]).cells (N * 2)).toList[j]? = some (.int .u64 0) := by
        rcases Nat.mod_two_eq_zero_or_one j with hm | hm <;> simp [madeCells, hj, Value.cells, hm]
      rw [e]
      rcases Nat.mod_two_eq_zero_or_one j with hm | hm
      · rw [show j / 2 * 2 = j by omega] at g1; rw [g1]
      · rw [show j / 2 * 2 + 1 = j by omega] at g2; rw [g2]
    · rw [List.getElem?_eq_none (by simp [madeCells]; omega), List.getElem?_eq_none (by rw [rflat_length, List.length_replicate]; omega)]
  generalize hZ : madeCells (Value.agg #[.int .u64 0, .int .u64 0]).cells (N * 2) = Z at hmk hZ1
  have HZ := Lib.hid hZ1
  have HT := Lib.hid hT
  have HC := Lib.hid hc
  have Hsz := Lib.hid hsz
  clear hT hc hN hsz hZ1 hZ
  refine (callsIn_wide (n := 5)).1 ?_
  refine callsIn_of_wp_marks Try.func16 rfl trivial ?_ rfl
  simp only [Try.ntmps16, List.size_toArray, List.length_cons, List.length_nil, Nat.reduceAdd, Nat.reduceSub, Array.replicate_succ, Array.replicate_zero, List.push_toArray, List.append_toArray, List.nil_append, List.cons_append]
  refine wpIn_wide.2 ?_
  go_wp2_with fail
  refine (cs _).mono ?_; clear cs; rintro e w1 ⟨rfl, rfl⟩
  go_wp2_with fail
  obtain ⟨g, hg⟩ : ∃ g, g = w.heap.size + 1 := ⟨_, rfl⟩
  obtain ⟨w3, hw3⟩ : ∃ w3, ((w.alloc (.cells #[.pointer q] 37)).alloc (.cells Z 24)).alloc (.cells #[.slice (some ⟨w.heap.size + 1, 0, none⟩) N N] 30) = w3 := ⟨_, rfl⟩
  have hz3 : w3.heap.size = w.heap.size + 3 := by rw [← hw3]; simp
  have hk3 : Keeps (fun _ => False) w w3 := by rw [← hw3]; exact (((Keeps.refl _ w).alloc _).alloc _).alloc _
  have hbq : Boxed w3 w.heap.size 37 (.pointer q) := by rw [← hw3]; exact (Boxed.new w _ _).alloc _ |>.alloc _
  have hgz : w3.heap[g]? = some (.cells Z 24 (0, 0)) := by
    rw [hg, ← hw3, Below.heap_alloc _ _ _ (by simp)]
    have := heap_alloc_new (w.alloc (.cells #[.pointer q] 37)) (.cells Z 24)
    simpa using this
  have hbo : Boxed w3 (g + 1) 30 (.slice (some ⟨g, 0, none⟩) N N) := by
    rw [hg, ← hw3]
    have := Boxed.new ((w.alloc (.cells #[.pointer q] 37)).alloc (.cells Z 24)) 30 (.slice (some ⟨w.heap.size + 1, 0, none⟩) N N)
    simpa using this
  rw [hw3, ← hg]
  have hsrc : ∀ j v, (rflat l)[j]? = some v → w3.cell? ((⟨b, off, none⟩ : Addr).add j) = some v := fun j v hj => by
    have hadd : (⟨b, off, none⟩ : Addr).add j = ⟨b, off + j, none⟩ := by unfold Addr.add; split <;> simp_all
    have := rec_cells (cap := cap) HC.out j v hj
    rw [hadd] at this ⊢
    exact (hk3.cell (p := ⟨b, off + j, none⟩) hb (fun h => h)).trans this
  have hZs : Z.size = N * 2 := by
    have := congrArg List.length HZ.out
    rw [rflat_length, List.length_replicate] at this
    simpa using this
  rw [run_copy_sized (P := Try.prog) w3 30 30 3 24 g 0 N N ⟨b, off, none⟩ l.length cap 2 l.length Z 24 (rflat l) Try.underlying30 (by kernel_rfl) hgz (Nat.min_eq_left hlN).symm (rflat_length l) hsrc (by rw [rflat_length, hZs]; omega) (rflat_one l)]
  obtain ⟨Y, hY⟩ : ∃ Y, (Z.toList.take 0 ++ rflat l ++ Z.toList.drop (0 + (rflat l).length)).toArray = Y := ⟨_, rfl⟩
  have hYl : Y.toList = rflat (l ++ List.replicate (N - l.length) (0, 0)) := by
    rw [← hY, HZ.out, rflat_append, List.take_zero, List.nil_append, Nat.zero_add, rflat_length]
    show rflat l ++ _ = _
    congr 1
    rw [show rflat (List.replicate N (0, 0)) = rflat (List.replicate l.length (0, 0)) ++ rflat (List.replicate (N - l.length) (0, 0)) by rw [← rflat_append, List.replicate_append_replicate, show l.length + (N - l.length) = N by omega]]
    rw [List.drop_left' (by rw [rflat_length, List.length_replicate])]
  rw [hY]
  obtain ⟨w4, hw4⟩ : ∃ w4, w3.setRow g Y = w4 := ⟨_, rfl⟩
  rw [hw4]
  have hg4 : w4.heap[g]? = some (.cells Y 24 (0, 0)) := by rw [← hw4]; exact setRow_heap w3 g Z Y _ _ hgz
  have hk4 : Keeps (fun i => i = g) w3 w4 := by rw [← hw4]; exact ⟨rfl, rfl, rfl, by simp [World.setRow], fun k _ hk => setRow_other w3 g k Y hk⟩
  have hr4 : w4.ownsRow w.heap.size 24 2 (.slice (some ⟨g, 0, none⟩) N N) N (rflat (l ++ List.replicate (N - l.length) (0, 0))) := by
    have hlen : Y.size = N * 2 := by
      have := congrArg List.length hYl
      rw [rflat_length, List.length_append, List.length_replicate] at this
      simp at this
      omega
    refine ⟨by rw [rflat_length, List.length_append, List.length_replicate]; omega, .inr ⟨g, N, Y, rfl, by omega, hg4, Nat.le_refl _, by unfold maxLen; omega, hlen, ?_⟩⟩
    rw [hYl, List.take_of_length_le (by rw [rflat_length, List.length_append, List.length_replicate]; omega)]
  have hbq4 : Boxed w4 w.heap.size 37 (.pointer q) := (hk4.block _ hbq.lt (by omega)).trans hbq
  have hbo4 : Boxed w4 (g + 1) 30 (.slice (some ⟨g, 0, none⟩) N N) := (hk4.block _ hbo.lt (by omega)).trans hbo
  obtain ⟨L0, hL0⟩ : ∃ L0, l ++ List.replicate (N - l.length) ((0, 0) : Rec) = L0 := ⟨_, rfl⟩
  have hL0l : L0.length = N := by rw [← hL0, List.length_append, List.length_replicate]; omega
  have hL0ok : Recs L0 := by
    rw [← hL0]
    intro r hr
    rcases List.mem_append.1 hr with h | h
    · exact hok r h
    · rw [List.eq_of_mem_replicate h]; unfold RecOk IsU; decide
  rw [hL0] at hr4
  have b0 := hbo4.cell
  have Hbq := Lib.hid hbq4
  have Hbo := Lib.hid hbo4
  have Hr4 := Lib.hid hr4
  have Hk34 := Lib.hid (show Keeps (fun _ => False) w w4 from hk3.trans hk4 (fun i hi h => by omega))
  have Hz4 := Lib.hid (show w4.heap.size = w.heap.size + 3 by rw [← hw4]; simp [World.setRow, hz3])
  have Hg := Lib.hid hg
  have HL0 := Lib.hid hL0
  have HL0ok := Lib.hid hL0ok
  clear hw3 hz3 hk3 hbq hgz hbo hsrc hZs hY hYl hw4 hg4 hk4 hr4 hbq4 hbo4 hL0 hL0ok hok HZ hmk hg
  go_simp
  go_wp2_with fail
  go_loopw [21] (fun i wr => ∃ k : Nat, k ≤ N ∧ i = .int .i64 k ∧ Boxed wr w.heap.size 37 (.pointer q) ∧ Boxed wr (g + 1) 30 (.slice (some ⟨g, 0, none⟩) N N) ∧ wr.ownsRow w.heap.size 24 2 (.slice (some ⟨g, 0, none⟩) N N) N (rflat (mixR L0 k)) ∧ Keeps (fun i => i = g) w4 wr) (fun i _ => N - (intOf i).toNat)
  case atStart => exact ⟨0, Nat.zero_le _, rfl, Hbq.out, Hbo.out, by rw [mixR_zero]; exact Hr4.out, Keeps.refl _ _⟩
  case round =>
    clear b0
    obtain ⟨k, hk, rfl, hq1, ho1, hr1, hk1⟩ := hrel
    have b0 := ho1.cell
    by_cases hlt : k < N
    · obtain ⟨⟨u, v⟩, hu⟩ : ∃ e, L0[k]? = some e := ⟨L0[k]'(by omega), by simp⟩
      have hru := HL0ok.out _ (List.mem_of_getElem? hu)
      have hgm := rflat_get _ k _ (mixR_get hu)
      have c0 := (hr1.cellAt (k * 2) (by omega)).trans hgm.1
      have c1 := (hr1.cellAt (k * 2 + 1) (by omega)).trans hgm.2
      simp only at c0 c1
      have Hset := Lib.hid (mixR_set hu)
      have hml : (mixR L0 k).length = N := by rw [mixR_length, hL0l]
      have hgl := (hr1.lt g rfl).2
      have hbl := ho1.lt
      have Hr1 := Lib.hid hr1
      have Hq1 := Lib.hid hq1
      have Ho1 := Lib.hid ho1
      have Hk1 := Lib.hid hk1
      have hlt' : (k : Int) < (N : Int) := by omega
      have hk0 : (0 : Int) ≤ (k : Int) := by omega
      clear hu hgm hr1 hq1 ho1 hk1
      go_wp2_with fail
      refine wp_region_late (fun W => W.cell? ⟨g + 1, 0, none⟩ = some (.slice (some ⟨g, 0, none⟩) N N) ∧ W.cell? ⟨g, k * 2, none⟩ = some (.int .u64 u) ∧ W.cell? ⟨g, k * 2 + 1, none⟩ = some (.int .u64 v)) [8] (by kernel_rfl) ?_
      have hS : wr.drew.cell? ⟨g + 1, 0, none⟩ = some (.slice (some ⟨g, 0, none⟩) N N) ∧ wr.drew.cell? ⟨g, k * 2, none⟩ = some (.int .u64 u) ∧ wr.drew.cell? ⟨g, k * 2 + 1, none⟩ = some (.int .u64 v) := ⟨b0, c0, c1⟩
      refine wpAnyL_take (i := 0) (oi := _) (v := .slice (some ⟨g, 0, none⟩) N N) rfl (by kernel_rfl) (by kernel_rfl) (by kernel_rfl) (by kernel_rfl) (fun _ _ _ h => (h : False).elim) (Or.inl ⟨by kernel_rfl, ?_⟩) (by assumption) ?_
      · intro w hSw
        obtain ⟨s0, s1, s2⟩ := hSw
        go_simp
      try simp only [Act.put, List.setIfInBounds_toArray, List.set_cons_zero, List.set_cons_succ]
      refine wpAnyL_any (i := 1) (oi := _) (v := .int .i64 (k : Int)) rfl (by kernel_rfl) (by kernel_rfl) (by kernel_rfl) (by kernel_rfl) (fun _ _ _ h => (h : False).elim) (Or.inl ⟨by kernel_rfl, ?_⟩) (fun _ => by assumption) ?_
      · intro w _
        go_simp
      try simp only [Act.put, List.setIfInBounds_toArray, List.set_cons_zero, List.set_cons_succ]
      refine wpAnyL_take (i := 2) (oi := _) (v := .slice (some ⟨g, 0, none⟩) N N) rfl (by kernel_rfl) (by kernel_rfl) (by kernel_rfl) (by kernel_rfl) (fun _ _ _ h => (h : False).elim) (Or.inl ⟨by kernel_rfl, ?_⟩) (by assumption) ?_
      · intro w hSw
        obtain ⟨s0, s1, s2⟩ := hSw
        go_simp
      try simp only [Act.put, List.setIfInBounds_toArray, List.set_cons_zero, List.set_cons_succ]
      refine wpAnyL_any (i := 3) (oi := _) (v := .int .i64 (k : Int)) rfl (by kernel_rfl) (by kernel_rfl) (by kernel_rfl) (by kernel_rfl) (fun _ _ _ h => (h : False).elim) (Or.inl ⟨by kernel_rfl, ?_⟩) (fun _ => by assumption) ?_
      · intro w _
        go_simp
      try simp only [Act.put, List.setIfInBounds_toArray, List.set_cons_zero, List.set_cons_succ]
      refine wpAnyL_any (i := 4) (oi := _) (v := .pointer (some ⟨g, k * 2, none⟩)) rfl (by kernel_rfl) (by kernel_rfl) (by kernel_rfl) (by kernel_rfl) (fun _ _ _ h => (h : False).elim) (Or.inl ⟨by kernel_rfl, ?_⟩) (fun _ => by assumption) ?_
      · intro w _
        go_simp
      try simp only [Act.put, List.setIfInBounds_toArray, List.set_cons_zero, List.set_cons_succ]
      refine wpAnyL_take (i := 5) (oi := _) (v := .agg #[.int .u64 u, .int .u64 v]) rfl (by kernel_rfl) (by kernel_rfl) (by kernel_rfl) (by kernel_rfl) (fun _ _ _ h => (h : False).elim) (Or.inl ⟨by kernel_rfl, ?_⟩) (by assumption) ?_
      · intro w hSw
        obtain ⟨s0, s1, s2⟩ := hSw
        go_simp
      try simp only [Act.put, List.setIfInBounds_toArray, List.set_cons_zero, List.set_cons_succ]
      refine wpAnyL_next (i := 6) (by kernel_rfl) rfl (fun K hK => ?_)
      go_simp
      refine (sclean_calls u v hru.1 hru.2 _).mono ?_; rintro e w5 ⟨rfl, hk5'⟩
      have hk5 : Keeps (fun _ => False) wr w5 := ((Keeps.refl _ wr).drewN 1).trans hk5' (fun _ _ h => h)
      clear hk5'
      go_wp2_with fail
      refine hK.out _ _ ⟨(hk5.cell (p := ⟨g + 1, 0, none⟩) hbl (fun h => h)).trans b0, (hk5.cell (p := ⟨g, k * 2, none⟩) hgl (fun h => h)).trans c0, (hk5.cell (p := ⟨g, k * 2 + 1, none⟩) hgl (fun h => h)).trans c1⟩ (fun hHeld => ?_)
      clear hK K
      try simp only [Act.put, List.setIfInBounds_toArray, List.set_cons_zero, List.set_cons_succ]
      refine wpAnyL_any (i := 7) (oi := _) (v := .pointer (some ⟨g, k * 2, none⟩)) rfl (by kernel_rfl) (by kernel_rfl) (by kernel_rfl) (by kernel_rfl) (fun _ _ _ h => (h : False).elim) (Or.inl ⟨by kernel_rfl, ?_⟩) (fun _ => by assumption) ?_
      · intro w _
        go_simp
      try simp only [Act.put, List.setIfInBounds_toArray, List.set_cons_zero, List.set_cons_succ]
      have hr5 := row_kept Hr1.out hk5
      have p0 := (hk5.cell (p := ⟨g, k * 2, none⟩) hgl (fun h => h)).trans c0
      have p1 := (hk5.cell (p := ⟨g, k * 2 + 1, none⟩) hgl (fun h => h)).trans c1
      have q0 := hr5.frozenAt (k * 2)
      have q1 := hr5.frozenAt (k * 2 + 1)
      have Hr5 := Lib.hid hr5
      clear hr5
      refine wpAnyL_late (i := 8) (by kernel_rfl) rfl (by kernel_rfl) (fun K hK => ?_)
      go_simp
      refine hK.out _ _ (fun _ => ?_)
      clear hK K
      try simp only [Act.put, List.setIfInBounds_toArray, List.set_cons_zero, List.set_cons_succ]
      refine wpAnyL_done (by kernel_rfl) ?_ _
      refine NoPanic.normal ?_
      go_wp2_with fail
      go_roundw
      case rel =>
        have hg0 := Hg.out
        have K6 : Keeps (fun i => i = g) wr ((w5.setCell ⟨g, k * 2, none⟩ (.int .u64 (cleanR (u, v)).1)).setCell ⟨g, k * 2 + 1, none⟩ (.int .u64 (cleanR (u, v)).2)) :=
          ((show Keeps (fun i => i = g) wr w5 from hk5.mono (fun _ _ h => h.elim)).setCell ⟨g, k * 2, none⟩ (fun _ => rfl) _).setCell ⟨g, k * 2 + 1, none⟩ (fun _ => rfl) _
        refine ⟨k + 1, by omega, by go_num, (K6.block _ Hq1.out.lt (by omega)).trans Hq1.out, (K6.block _ Ho1.out.lt (by omega)).trans Ho1.out, ?_, Hk1.out.trans K6 (fun _ _ h => h)⟩
        have := ((Hr5.out.stored (k * 2) (.int .u64 (cleanR (u, v)).1)).1.stored (k * 2 + 1) (.int .u64 (cleanR (u, v)).2)).1
        rw [← rflat_set _ k (cleanR (u, v)) (by rw [mixR_length, hL0l]; exact hlt), Hset.out] at this
        exact this
      case measure => simp [intOf]; omega
    · obtain rfl : N = k := by omega
      have hkeys : mixR L0 N = (l.map keyR ++ List.replicate (N - l.length) 18446744073709551616).map unkey := by
        have h1 : mixR L0 N = L0.map cleanR := by unfold mixR; rw [List.take_of_length_le (by omega), List.drop_eq_nil_of_le (by omega), List.append_nil]
        have h2 : ∀ M : List Rec, Recs M → M.map cleanR = (M.map keyR).map unkey := by
          intro M hM
          rw [List.map_map]
          refine List.map_congr_left fun r hr => ?_
          exact (unkey_key (hM r hr)).symm
        rw [h1, h2 L0 HL0ok.out, ← HL0.out, List.map_append, List.map_replicate]
        rfl
      have hkl : (l.map keyR ++ List.replicate (N - l.length) (18446744073709551616 : Int)).length = N := by rw [List.length_append, List.length_map, List.length_replicate]; omega
      have hkk : ∀ x ∈ l.map keyR ++ List.replicate (N - l.length) (18446744073709551616 : Int), IsK x := by
        intro x hx
        rcases List.mem_append.1 hx with h | h
        · obtain ⟨r, hr, rfl⟩ := List.mem_map.1 h
          have : RecOk r := HL0ok.out r (by rw [← HL0.out]; exact List.mem_append_left _ hr)
          exact keyR_isK this
        · rw [List.eq_of_mem_replicate h]; unfold IsK; decide
      obtain ⟨ks, hks⟩ : ∃ ks, l.map keyR ++ List.replicate (N - l.length) (18446744073709551616 : Int) = ks := ⟨_, rfl⟩
      rw [hks] at hkeys hkl hkk
      have Hks := Lib.hid hks
      clear hks
      rw [hkeys] at hr1
      have Hq1 := Lib.hid hq1
      have Ho1 := Lib.hid ho1
      have Hr1 := Lib.hid hr1
      have Hk1 := Lib.hid hk1
      have Hkk := Lib.hid hkk
      clear hq1 ho1 hr1 hk1 hkk hkeys hlt
      obtain ⟨wl, rfl⟩ : ∃ wl : World, wl = wr := ⟨_, rfl⟩
      go_wp2_with fail
      refine (netall_calls _ _).mono ?_; rintro e w6' ⟨rfl, rfl⟩
      obtain ⟨w6, hw6⟩ : ∃ w6, wl.alloc (.cells #[.int .i64 (N : Int)] 3) = w6 := ⟨_, rfl⟩
      rw [hw6]
      go_wp2_with fail
      have hz6 : w6.heap.size = wl.heap.size + 1 := by rw [← hw6]; simp
      have hk6 : Keeps (fun _ => False) wl w6 := by rw [← hw6]; exact (Keeps.refl _ wl).alloc _
      have hbn : Boxed w6 wl.heap.size 3 (.int .i64 (N : Int)) := by rw [← hw6]; exact Boxed.new wl _ _
      have hg0 := Hg.out
      have hz4 := Hz4.out
      have hzl : w4.heap.size ≤ wl.heap.size := Hk1.out.size
      have Hbn := Lib.hid hbn
      have Hk6 := Lib.hid hk6
      clear hw6 hbn hk6
      have hT6 : qAt w6 (fun i => S0 i ∧ i < w.heap.size) q (evsC q l0 []) := by
        have h1 : qAt w (fun i => S0 i ∧ i < w.heap.size) q l0 := HT.out.mono (fun k hk h => ⟨h, hk⟩)
        have h2 : qAt w6 (fun i => S0 i ∧ i < w.heap.size) q l0 := ((h1.keep Hk34.out (fun _ _ _ h => h)).keep Hk1.out (fun k _ h => by omega)).keep Hk6.out (fun _ _ _ h => h)
        rcases h2 with ⟨rfl, rfl⟩ | ⟨b', rfl, ht⟩
        · exact .inl ⟨rfl, rfl⟩
        · exact .inr ⟨b', rfl, by simpa [evsC] using ht⟩
      have HT6 := Lib.hid hT6
      clear hT6
      have Hz6 := Lib.hid hz6
      have Hzl := Lib.hid hzl
      clear hz6 hg0 hz4 hzl
      refine (wpIn_wide (n := 5)).1 ?_
      refine over_all3 wl.heap.size (N : Int) (nl N r) (.inl ⟨r, N, hr, HN.out, rfl, rfl⟩)
        (fun k W => Boxed W w.heap.size 37 (.pointer q) ∧ Boxed W (g + 1) 30 (.slice (some ⟨g, 0, none⟩) N N) ∧ W.cell? ⟨wl.heap.size, 0, none⟩ = some (.int .i64 (N : Int)) ∧
          W.ownsRow w.heap.size 24 2 (.slice (some ⟨g, 0, none⟩) N N) N (rflat ((foldK (nl N r) ks k).map unkey)) ∧
          (∃ S, qAt W S q (evsC q l0 ((nl N r).take k)) ∧ ∀ i, S i → (S0 i ∧ i < w.heap.size) ∨ w6.heap.size + 2 ≤ i) ∧ Keeps (fun i => (S0 i ∧ i < w.heap.size) ∨ i = g) w6 W)
        rfl (fun _ _ h => h.2.2.1) ?_ ?_
        (fun gg x y => { tmps := #[.pointer q, .slice (some ⟨b, off, none⟩) l.length cap, .pointer (some ⟨w.heap.size, 0, none⟩), undef, .slice none 0 0, .int .i64 (N : Int), .pointer (some ⟨g + 1, 0, none⟩), u7, .pointer (some ⟨gg, 0, none⟩), .slice (some ⟨b, off, none⟩) l.length cap, .int .i64 (l.length : Int), .int .i64 (N : Int), .int .i64 (N : Int), .bool false, .int .i64 (N : Int), .slice (some ⟨g, 0, none⟩) N N, .slice (some ⟨g, 0, none⟩) N N, .slice (some ⟨b, off, none⟩) l.length cap, .int .i64 (l.length : Int), .slice (some ⟨g, 0, none⟩) N N, .int .i64 (N : Int), .int .i64 (N : Int), .bool false, u23, u24, u25, u26, u27, u28, u29, u30, u31, u32, .int .i64 (N : Int), .func (.func 48) #[] #[.pointer (some ⟨wl.heap.size, 0, none⟩)], .agg #[.int .i64 x, .int .i64 y], undef, undef, undef, undef, undef, undef, undef, undef, undef, undef, undef, undef, undef, undef, undef, undef, undef, undef, undef, undef, undef], defers := [] }) ?assign ?body ?done
      · rintro k W W' ⟨h1, h2, h3, h4, ⟨S, hS1, hS2⟩, h5⟩ hz2 hl
        have hz6 := Hz6.out; have hg0 := Hg.out; have hz4 := Hz4.out; have hzl := Hzl.out
        refine ⟨(hl.block _ h1.lt (by omega)).trans h1, (hl.block _ h2.lt (by omega)).trans h2, (hl.cell (p := ⟨wl.heap.size, 0, none⟩) (World.block_lt_of_cell? _ _ h3) (by simp only; omega)).trans h3, row_kept h4 hl (by omega), ⟨S, hS1.keep hl (fun i _ hi h => by rcases hS2 i hi with h' | h' <;> omega), hS2⟩, h5.trans hl (fun i hi h => by omega)⟩
      · intro rr
        have hk : Keeps (fun _ => False) w6 ((w6.alloc (.deferred (some []))).alloc (.loop rr)) := ((Keeps.refl _ w6).alloc _).alloc _
        have hkl6 := Hk6.out.trans hk (fun _ _ h => h)
        exact ⟨(hkl6.block _ Hq1.out.lt (fun h => h)).trans Hq1.out, (hkl6.block _ Ho1.out.lt (fun h => h)).trans Ho1.out, ((show Boxed _ _ _ _ from (hk.block _ Hbn.out.lt (fun h => h)).trans Hbn.out)).cell, row_kept (row_kept Hr1.out Hk6.out) hk, ⟨_, HT6.out.keep hk (fun _ _ _ h => h), fun i h => .inl h⟩, hk.mono (fun _ _ h => h.elim)⟩
      case assign =>
        intro W x y K hK
        gi_wp2
        exact hK
      case body =>
        rintro k x y gg W0 W ⟨_, _, _, _, ⟨S, hS1, hS2⟩, _⟩ hgg hlo hloops ⟨h1, h2, h3, h4, _, h5⟩ hxy _ hhi c0 c1
        -- the tape's own blocks lie below the variable's
        have hz6 := Hz6.out; have hg0 := Hg.out; have hz4 := Hz4.out; have hzl := Hzl.out
        have hS3 : qAt W (fun i => S i ∧ i < W0.heap.size) q (evsC q l0 ((nl N r).take k)) := (hS1.mono (fun i hi h => ⟨h, hi⟩)).keep hloops (fun i _ hi h => by rcases hS2 i hi.1 with h' | h' <;> omega)
        have hm := nl_mem r (by rw [← HN.out]; exact Nat.dvd_refl _) (List.mem_of_getElem? hxy)
        simp only at hm
        obtain ⟨hx, hy, hxy'⟩ := hm
        have hfl : (foldK (nl N r) ks k).length = N := by rw [foldK_length, hkl]
        obtain ⟨ka, hka⟩ : ∃ a, (foldK (nl N r) ks k)[x]? = some a := ⟨(foldK (nl N r) ks k)[x]'(by omega), by simp⟩
        obtain ⟨kb, hkb⟩ : ∃ b, (foldK (nl N r) ks k)[y]? = some b := ⟨(foldK (nl N r) ks k)[y]'(by omega), by simp⟩
        have hIK : ∀ z ∈ foldK (nl N r) ks k, IsK z := fun z hz => Hkk.out z ((fold_perm ((nl N r).take k) ks (fun c hc => by
          have := nl_mem r (n := N) (by rw [← HN.out]; exact Nat.dvd_refl _) (List.mem_of_mem_take hc)
          rw [hkl]; exact ⟨this.1, this.2.1⟩)).mem_iff.1 hz)
        have hKa := hIK ka (List.mem_of_getElem? hka)
        have hKb := hIK kb (List.mem_of_getElem? hkb)
        have hLk := lo_hi_key hKa hKb
        have a0 := h1.cell
        have hx0 : (0 : Int) ≤ (x : Int) := by omega
        have hy0 : (0 : Int) ≤ (y : Int) := by omega
        have hxN : (x : Int) < (N : Int) := by omega
        have hyN : (y : Int) < (N : Int) := by omega
        have H1 := Lib.hid h1
        have H2 := Lib.hid h2
        have H3 := Lib.hid h3
        have H4 := Lib.hid h4
        have H5 := Lib.hid h5
        have HS2 := Lib.hid hS2
        have HS3 := Lib.hid hS3
        have Hxy := Lib.hid hxy
        have Hka := Lib.hid hka
        have Hkb := Lib.hid hkb
        have HLk := Lib.hid hLk
        have Hlb := Lib.hid (nl_bound hr HN.out)
        have Hloops := Lib.hid hloops
        have Hgg := Lib.hid hgg
        have Hlo := Lib.hid hlo
        clear h1 h2 h3 h4 h5 hS1 hS2 hS3 hxy hka hkb hLk hIK hloops hgg hlo hz6 hg0 hz4 hzl
        gi_wp2_with fail
        refine ⟨trivial, ?_⟩
        refine (CallsIn.inRound _ (callsIn_wide.2 (note_c q _ l0 (nl N r) k x y W HS3.out Hxy.out (by omega) (by omega) Hlb.out hl0))).mono ?_
        rintro e W1 ⟨rfl, hq1, hkn⟩
        have hz6 := Hz6.out; have hg0 := Hg.out; have hz4 := Hz4.out; have hzl := Hzl.out
        have hgS : ¬ (S g ∧ g < W0.heap.size) := fun h => by rcases HS2.out g h.1 with h' | h' <;> omega
        have hboS : ¬ (S (g + 1) ∧ g + 1 < W0.heap.size) := fun h => by rcases HS2.out (g + 1) h.1 with h' | h' <;> omega
        have hggS : ¬ (S gg ∧ gg < W0.heap.size) := fun h => by have := Hgg.out; omega
        have hr1 := row_kept H4.out hkn hgS
        have a0 := (hkn.cell (p := ⟨g + 1, 0, none⟩) H2.out.lt hboS).trans H2.out.cell
        have c0 := (hkn.cell (p := ⟨gg, 0, none⟩) hhi hggS).trans c0
        have c1 := (hkn.cell (p := ⟨gg, 1, none⟩) hhi hggS).trans c1
        have hrx : ((foldK (nl N r) ks k).map unkey)[x]? = some (unkey ka) := by rw [List.getElem?_map, Hka.out]; rfl
        have hry : ((foldK (nl N r) ks k).map unkey)[y]? = some (unkey kb) := by rw [List.getElem?_map, Hkb.out]; rfl
        have cc := fun (W2 : World) (hW2 : W2.ownsRow w.heap.size 24 2 (.slice (some ⟨g, 0, none⟩) N N) N (rflat ((foldK (nl N r) ks k).map unkey))) => exch_calls g x y N N w.heap.size _ (unkey ka) (unkey kb) W2 hW2 (by rw [List.length_map, hfl]) hrx hry hxy' (unkey_ok hKa) (unkey_ok hKb)
        rw [HLk.out.1, HLk.out.2, ← unkey_cx Hka.out Hkb.out, ← foldK_succ Hxy.out] at cc
        have Hr1 := Lib.hid hr1
        have Hq1' := Lib.hid hq1
        have Hkn := Lib.hid hkn
        have HgS := Lib.hid hgS
        clear hr1 hq1 hkn hgS hboS hggS hrx hry hz6 hg0 hz4 hzl
        gi_wp2_with fail
        refine round_still_tail 8 (by kernel_rfl) (by kernel_rfl) (by kernel_rfl) (fun ⟨_, _, h⟩ => h) ?_
        simp only [List.take_succ_cons, List.take_zero, List.drop_succ_cons, List.drop_zero]
        repeat (first | still_step)
        refine wpStill_nil ?_
        go_wp2_with fail
        refine (cc W1.drew Hr1.out).mono ?_; clear cc; rintro e W2 ⟨rfl, hr2, hke⟩
        have hz6 := Hz6.out; have hg0 := Hg.out; have hz4 := Hz4.out; have hzl := Hzl.out
        have Kt : Keeps (fun i => (S i ∧ i < W0.heap.size) ∨ i = g) W W2 := ((Hkn.out.drewN 1).mono (T := fun i => (S i ∧ i < W0.heap.size) ∨ i = g) (fun i _ h => .inl h)).trans hke (fun i _ h => .inr h)
        have Hr2 := Lib.hid hr2
        have Hke := Lib.hid hke
        have HKt := Lib.hid Kt
        clear hr2 hke Kt hz6 hg0 hz4 hzl
        gi_wp2_with fail
        have hz6 := Hz6.out; have hg0 := Hg.out; have hz4 := Hz4.out; have hzl := Hzl.out
        have Kt := HKt.out
        have hSw : ∀ i, (S i ∧ i < W0.heap.size) → (S0 i ∧ i < w.heap.size) ∨ w6.heap.size + 2 ≤ i := fun i h => HS2.out i h.1
        have hlo := Hlo.out
        have hgg := Hgg.out
        have hWW : w6.heap.size + 2 ≤ W.heap.size := by omega
        have two : ∀ i, w6.heap.size ≤ i → i < w6.heap.size + 2 → ¬ ((S i ∧ i < W0.heap.size) ∨ i = g) := fun i h1 h2 h => by
          rcases h with h | h
          · rcases hSw i h with h' | h' <;> omega
          · omega
        have nb : ∀ i, w.heap.size ≤ i → i < w6.heap.size → i ≠ g → ¬ ((S i ∧ i < W0.heap.size) ∨ i = g) := fun i h1 h2 h3 h => by
          rcases h with h | h
          · rcases hSw i h with h' | h' <;> omega
          · exact h3 h
        refine ⟨⟨Kt.block _ (by omega) (two _ (by omega) (by omega)), Kt.block _ (by omega) (two _ (by omega) (by omega))⟩, Nat.le_trans hWW Kt.size, (Kt.block _ H1.out.lt (nb _ (by omega) (by omega) (by omega))).trans H1.out, (Kt.block _ H2.out.lt (nb _ (by omega) (by omega) (by omega))).trans H2.out,
          (Kt.cell (p := ⟨wl.heap.size, 0, none⟩) (World.block_lt_of_cell? _ _ H3.out) (nb wl.heap.size (by omega) (by omega) (by omega))).trans H3.out, Hr2.out, ⟨fun i => (S i ∧ i < W0.heap.size) ∨ W.heap.size ≤ i, ?_, ?_⟩, ?_⟩
        · exact Hq1'.out.keep (((Keeps.refl (fun i => i = g) W1).drewN 1).trans Hke.out (fun _ _ h => h)) (fun i _ hi h => by
            rcases hi with hi | hi
            · rw [h] at hi; exact HgS.out hi
            · omega)
        · intro i hi
          rcases hi with hi | hi
          · exact hSw i hi
          · right; omega
        · exact H5.out.trans Kt (fun i hi h => by
            rcases h with h | h
            · rcases hSw i h with h' | h'
              · exact .inl h'
              · omega
            · exact .inr h)
      case done =>
        rintro W ⟨h1, h2, h3, h4, ⟨S, hS1, hS2⟩, h5⟩ hz2 hdd
        have hfin : foldK (nl N r) ks (nl N r).length = (nl N r).foldl cx ks := by unfold foldK; rw [List.take_length]
        rw [hfin] at h4
        rw [List.take_length] at hS1
        have a0 := h2.cell
        have hln : (l.length : Int) ≤ (N : Int) := by omega
        have Hrr := Lib.hid h4
        have HSS := Lib.hid hS1
        have HS2 := Lib.hid hS2
        have H5 := Lib.hid h5
        clear h1 h2 h3 h4 h5 hS1 hS2 hfin
        go_wp2_with fail
        have hz6 := Hz6.out; have hg0 := Hg.out; have hz4 := Hz4.out; have hzl := Hzl.out
        have hkp := nw.keeps_putObj W w6.heap.size (.deferred none)
        refine ⟨by simp, .inl ⟨_, _, rfl, run_takeDeferred hdd, ⟨_, results_tmp rfl _ _ _, g, rfl, by omega, ?_, ⟨S, ?_, ?_, ?_⟩, ?_⟩⟩⟩
        · rw [Hks.out]
          exact ownsRow_putObj Hrr.out _ hdd rfl
        · exact HSS.out.keep hkp (fun i _ hi h => by rcases HS2.out i hi with h' | h' <;> omega)
        · intro i hi
          rcases HS2.out i hi with h' | h'
          · exact .inl h'.1
          · right; omega
        · intro hi
          rcases HS2.out g hi with h' | h' <;> omega
        · have k1 : Keeps S0 w wl := (show Keeps S0 w w4 from Hk34.out.mono (fun _ _ h => h.elim)).trans Hk1.out (fun i hi h => by omega)
          have k2 : Keeps S0 w W := (k1.trans Hk6.out (fun _ _ h => h.elim)).trans H5.out (fun i hi h => by
            rcases h with h | h
            · exact h.1
            · omega)
          exact k2.trans hkp (fun i hi h => by omega)
end Go.Proofs.Ytbgjfibninccdaa.so
