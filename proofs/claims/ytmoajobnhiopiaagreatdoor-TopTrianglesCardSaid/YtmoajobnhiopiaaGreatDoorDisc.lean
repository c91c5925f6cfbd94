/- Discs without a tape, by walking their text. -/
import Derived.Test.YtmoajobnhiopiaaGreatDoorPolL
import Derived.Test.YtmoajobnhiopiaaGreatDoorCir
set_option linter.unusedSimpArgs false
set_option linter.unusedVariables false
namespace Go.Proofs.YtmoajobnhiopiaaGreatDoor.po
open Go Go.RowKit Go.Shelf Go.Maps Go.Proofs.YtmoajobnhiopiaaGreatDoor.mk Go.Proofs.YtmoajobnhiopiaaGreatDoor.tp Go.Proofs.YtmoajobnhiopiaaGreatDoor.rg Go.Proofs.YtmoajobnhiopiaaGreatDoor.lm Go.Proofs.YtmoajobnhiopiaaGreatDoor.gm Go.Proofs.YtmoajobnhiopiaaGreatDoor.nb

theorem run_copyP {P : Program} (w : World) (dT sT ty elem : TypeId) (g o dLen dCap : Nat) (a : Addr) (sLen sCap sz k : Nat) (cur : Array Value) (t : TypeId) (cs : List Value)
    (hu : P.underlying dT = some (.slice elem)) (hs : (P.info? elem).map (·.size) = some sz)
    (hg : w.heap[g]? = some (.cells cur t (0, 0))) (hk : k = Nat.min sLen dLen) (hn : cs.length = k * sz)
    (hsrc : ∀ j v, cs[j]? = some v → w.cell? (a.add j) = some v) (hfit : o + cs.length ≤ cur.size) (h1 : ∀ v ∈ cs, v.oneCell' = true) :
    (Builtin.copy_ #[dT, sT] ty #[.slice (some ⟨g, o, none⟩) dLen dCap, .slice (some a) sLen sCap]).run P w =
      .ok (goInt k) (w.setRow g (cur.toList.take o ++ cs ++ cur.toList.drop (o + cs.length)).toArray) := by
  have hl := run_loadCells_list (P := P) w a cs hsrc
  have hst := run_storeCells_at P g o t cs 0 cur w hg (by simpa using hfit) h1
  cases hq : P.info? elem with
  | none => simp [hq] at hs
  | some i =>
    have hi : i.size = sz := by simpa [hq] using hs
    rw [hn] at hl
    simp [Builtin.copy_, run_underlying hu, Builtin.lenOf, Builtin.firstCells, sizeOf, typeInfo, hq, hi, ← hk, hl, hst]
theorem wpList_copyP {P : Program} {w : World} {ops : Array Oper} {rest : List Oper} {o : Oper} {a : Act} {Q : Exit → Act → World → Prop} (hgd : o.guard = none) (d s : Operand) (dT sT : TypeId)
    (ho : o.op = .call { callee := .builtin .copy, args := #[d, s], argTypes := #[dT, sT] }) (elem : TypeId) (hu : P.underlying dT = some (.slice elem)) (sz : Nat) (hsz : (P.info? elem).map (·.size) = some sz)
    (g off dLen dCap : Nat) (ad : Addr) (sLen sCap k : Nat) (hd : a.eval d = .slice (some ⟨g, off, none⟩) dLen dCap) (hs : a.eval s = .slice (some ad) sLen sCap)
    (cur : Array Value) (t : TypeId) (hg : w.heap[g]? = some (.cells cur t (0, 0))) (cs : List Value) (hk : k = Nat.min sLen dLen) (hn : cs.length = k * sz)
    (hsrc : ∀ j v, cs[j]? = some v → w.cell? (ad.add j) = some v) (hfit : off + cs.length ≤ cur.size) (h1 : ∀ v ∈ cs, v.oneCell' = true)
    (h : wpList P ops Q rest (a.put o.dst (goInt k)) (w.setRow g (cur.toList.take off ++ (cs ++ cur.toList.drop (off + cs.length))).toArray)) : wpList P ops Q (o :: rest) a w := by
  refine wpList_plain hgd fun K hK => ?_
  have hrun := run_copyP (P := P) w dT sT o.type elem g off dLen dCap ad sLen sCap sz k cur t cs hu hsz hg hk hn hsrc hfit h1
  unfold Oper.wp
  simp [execOp, ho, resolve, invoke, builtin, hd, hs, hrun, Result.andThen]
  exact hK _ _ h


theorem not_masksD (a : Bool) : bits .xor .u64 IntKind.u64.max (maskI a) = maskI (!a) := by cases a <;> decide
theorem sgn_convU' (x : Int) (h : -1 ≤ x ∧ x ≤ 1) : IntKind.u64.wrap x = x % 18446744073709551616 ∧ IsU (x % 18446744073709551616) ∧ (x % 18446744073709551616 == 0) = (x == 0) := by
  refine ⟨by rw [IntKind.wrap_u64], by unfold IsU; omega, ?_⟩
  rcases (show x = -1 ∨ x = 0 ∨ x = 1 by omega) with rfl | rfl | rfl <;> decide
theorem results_six {fn : Func} {p q : Tmp} (h : fn.results = #[.cell p 87, .tmp q]) (tmps : Array Value) (w : World) (g : Nat) (t : TypeId) (a b c d e f : Value) (fr : Nat × Nat)
    (hp : tmps.getD p undef = .pointer (some ⟨g, 0, none⟩)) (hg : w.heap[g]? = some (.cells #[a, b, c, d, e, f] t fr)) : (results fn tmps).run Tryz.prog w = .ok (.tuple #[.agg #[a, b, c, d, e, f], tmps.getD q undef]) w := by
  have e' := run_loadVar_row (P := Tryz.prog) w g t 87 #[a, b, c, d, e, f] fr _ hg Tryz.underlying87 rfl (by kernel_rfl)
  rw [Array.getD_eq_getD_getElem?] at hp
  simp only [results, h]
  simp [Sem.run_bind, Result.andThen, hp, asAddr, e']
theorem cells_six {w : World} {g : Nat} {t : TypeId} {fr : Nat × Nat} {z0 z1 z2 z3 z4 z5 a b c d e f : Value} (h : w.heap[g]? = some (.cells #[z0, z1, z2, z3, z4, z5] t fr)) :
    ((((((w.setCell ⟨g, 0, none⟩ a).setCell ⟨g, 1, none⟩ b).setCell ⟨g, 2, none⟩ c).setCell ⟨g, 3, none⟩ d).setCell ⟨g, 4, none⟩ e).setCell ⟨g, 5, none⟩ f).heap[g]? = some (.cells #[a, b, c, d, e, f] t fr) :=
  cells_put (cells_put (cells_put (cells_put (cells_put (cells_put h 0 a) 1 b) 2 c) 3 d) 4 e) 5 f
theorem keeps_six {a w : World} (h : Keeps (fun _ => False) a w) {g : Nat} (hb : a.heap.size ≤ g) (x0 x1 x2 x3 x4 x5 : Value) : Keeps (fun _ => False) a ((((((w.setCell ⟨g, 0, none⟩ x0).setCell ⟨g, 1, none⟩ x1).setCell ⟨g, 2, none⟩ x2).setCell ⟨g, 3, none⟩ x3).setCell ⟨g, 4, none⟩ x4).setCell ⟨g, 5, none⟩ x5) := by
  have n : ∀ i, (⟨g, i, none⟩ : Addr).block < a.heap.size → False := fun i hp => by have : g < a.heap.size := hp; omega
  exact (((((h.setCell ⟨g, 0, none⟩ (n 0) x0).setCell ⟨g, 1, none⟩ (n 1) x1).setCell ⟨g, 2, none⟩ (n 2) x2).setCell ⟨g, 3, none⟩ (n 3) x3).setCell ⟨g, 4, none⟩ (n 4) x4).setCell ⟨g, 5, none⟩ (n 5) x5
/-- The cells of three points. -/
def six (a b c : Int × Int) : List Value := [.int .i64 a.1, .int .i64 a.2, .int .i64 b.1, .int .i64 b.2, .int .i64 c.1, .int .i64 c.2]
set_option maxRecDepth 100000 in
set_option maxHeartbeats 2000000 in
theorem from3_calls (v : Value) (l : List (Int × Int)) (h3 : l.length = 3) (w : World) (h : ptsAt w v l) :
    Calls Tryz.prog 47 #[v] w fun e w' => e = .returned (.tuple #[.agg #[.int .i64 (pt l 0).1, .int .i64 (pt l 0).2, .int .i64 (pt l 1).1, .int .i64 (pt l 1).2, .int .i64 (pt l 2).1, .int .i64 (pt l 2).2], .bool true]) ∧ Keeps (fun _ => False) w w' := by
  obtain ⟨b, off, cap, rfl, hb, hc⟩ := h.block (i := 0) (by omega)
  rw [h3]
  obtain ⟨wz, hwz⟩ : ∃ wz, (w.alloc (.cells #[.int .i64 0, .int .i64 0, .int .i64 0, .int .i64 0, .int .i64 0, .int .i64 0] 87)).alloc (.cells #[.int .i64 0, .int .i64 0, .int .i64 0, .int .i64 0, .int .i64 0, .int .i64 0] 87) = wz := ⟨_, rfl⟩
  have hkz : Keeps (fun _ => False) w wz := by rw [← hwz]; exact ((Keeps.refl _ w).alloc _).alloc _
  have hg := heap_two w (.cells #[.int .i64 0, .int .i64 0, .int .i64 0, .int .i64 0, .int .i64 0, .int .i64 0] 87) (.cells #[.int .i64 0, .int .i64 0, .int .i64 0, .int .i64 0, .int .i64 0, .int .i64 0] 87)
  rw [hwz] at hg
  obtain ⟨hg0, hg1⟩ := hg
  have hsrc : ∀ j v, (six (pt l 0) (pt l 1) (pt l 2))[j]? = some v → wz.cell? ((⟨b, off, none⟩ : Addr).add j) = some v := by
    intro j v hj
    have hadd : (⟨b, off, none⟩ : Addr).add j = ⟨b, off + j, none⟩ := by unfold Addr.add; split <;> simp_all
    rw [hadd, hkz.cell (p := ⟨b, off + j, none⟩) hb (fun h => h)]
    match j, hj with
    | 0, hj => injection hj with hj; subst hj; exact (hc 0 (by omega)).1
    | 1, hj => injection hj with hj; subst hj; exact (hc 0 (by omega)).2
    | 2, hj => injection hj with hj; subst hj; exact (hc 1 (by omega)).1
    | 3, hj => injection hj with hj; subst hj; exact (hc 1 (by omega)).2
    | 4, hj => injection hj with hj; subst hj; exact (hc 2 (by omega)).1
    | 5, hj => injection hj with hj; subst hj; exact (hc 2 (by omega)).2
    | k + 6, hj => simp [six] at hj
  have HG0 := Lib.hid hg0
  have HG1 := Lib.hid hg1
  have HS := Lib.hid hsrc
  clear hg0 hg1 hsrc hc h h3
  go_enter Tryz.func47, Tryz.ntmps47
  go_upto_region 4 with fail
  try rw [hwz]
  go_upto_region 5 with (refine wpList_copyP rfl _ _ 38 38 rfl 35 Tryz.underlying38 2 (by kernel_rfl) (w.heap.size + 1) 0 3 3 ⟨b, off, none⟩ 3 cap 3 rfl rfl _ 87 HG1.out (six (pt l 0) (pt l 1) (pt l 2)) rfl rfl HS.out (by simp [six]) (by intro u hu; simp [six] at hu; rcases hu with rfl | rfl | rfl | rfl | rfl | rfl <;> rfl) ?_)
  obtain ⟨wc, hwc⟩ : ∃ wc, World.setRow wz (w.heap.size + 1) (List.take 0 ([.int .i64 0, .int .i64 0, .int .i64 0, .int .i64 0, .int .i64 0, .int .i64 0] : List Value) ++ (six (pt l 0) (pt l 1) (pt l 2) ++ List.drop (0 + (six (pt l 0) (pt l 1) (pt l 2)).length) ([.int .i64 0, .int .i64 0, .int .i64 0, .int .i64 0, .int .i64 0, .int .i64 0] : List Value))).toArray = wc := ⟨_, rfl⟩
  have hgc : wc.heap[w.heap.size + 1]? = some (.cells #[.int .i64 (pt l 0).1, .int .i64 (pt l 0).2, .int .i64 (pt l 1).1, .int .i64 (pt l 1).2, .int .i64 (pt l 2).1, .int .i64 (pt l 2).2] 87 (0, 0)) := by rw [← hwc, setRow_heap wz _ _ _ _ _ HG1.out]; rfl
  have hg0c : wc.heap[w.heap.size]? = some (.cells #[.int .i64 0, .int .i64 0, .int .i64 0, .int .i64 0, .int .i64 0, .int .i64 0] 87 (0, 0)) := by rw [← hwc, setRow_other _ _ _ _ (by omega)]; exact HG0.out
  have hkc : Keeps (fun i => i = w.heap.size + 1) wz wc := by rw [← hwc]; exact ⟨rfl, rfl, rfl, by simp, fun k _ h => setRow_other _ _ _ _ h⟩
  have hkw : Keeps (fun _ => False) w wc := hkz.trans hkc (fun i hi h => by omega)
  rw [hwc]
  have HGC := Lib.hid hg0c
  have c0 := cells_at hgc 0
  have c1 := cells_at hgc 1
  have c2 := cells_at hgc 2
  have c3 := cells_at hgc 3
  have c4 := cells_at hgc 4
  have c5 := cells_at hgc 5
  have d0 := cells_at hg0c 0
  have d1 := cells_at hg0c 1
  have d2 := cells_at hg0c 2
  have d3 := cells_at hg0c 3
  have d4 := cells_at hg0c 4
  have d5 := cells_at hg0c 5
  have e0 := two_frozen hg0c 0
  have e1 := two_frozen hg0c 1
  have e2 := two_frozen hg0c 2
  have e3 := two_frozen hg0c 3
  have e4 := two_frozen hg0c 4
  have e5 := two_frozen hg0c 5
  clear hgc hg0c hwz hwc
  go_wp2_with fail
  refine bodyPost_ret (results_six rfl _ _ _ _ _ _ _ _ _ _ _ rfl (cells_six HGC.out)) rfl ⟨rfl, keeps_six hkw (Nat.le_refl _) _ _ _ _ _ _⟩
set_option maxRecDepth 100000 in
set_option maxHeartbeats 2000000 in
theorem dvalid_calls (v : Value) (l : List (Int × Int)) (h3 : l.length = 3) (hp : Pts l) (w : World) (hG : Gl w) (h : ptsAt w v l) :
    Calls Tryz.prog 25 #[.pointer none, v] w fun e w' => e = .returned (.int .u64 (maskI (!(polyS l == 0)))) ∧ Keeps (fun _ => False) w w' := by
  obtain ⟨b, off, cap, rfl, hb, hc⟩ := h.block (i := 0) (by omega)
  have H := Lib.hid h
  have HG := Lib.hid hG
  have hz := sgn_convU' (polyS l) (polyS_ok l)
  have H3 := Lib.hid h3
  clear h hc hG h3
  go_enter Tryz.func25, Tryz.ntmps25
  go_wp2_with fail
  refine (from3_calls _ l H3.out w H.out).mono ?_; rintro e w1 ⟨rfl, hk1⟩
  go_upto_region 2 with fail
  obtain ⟨w2, hw2⟩ : ∃ w2, w1.alloc (.cells #[.int .i64 (pt l 0).1, .int .i64 (pt l 0).2, .int .i64 (pt l 1).1, .int .i64 (pt l 1).2, .int .i64 (pt l 2).1, .int .i64 (pt l 2).2] 87) = w2 := ⟨_, rfl⟩
  have hg := heap_alloc_new w1 (.cells #[.int .i64 (pt l 0).1, .int .i64 (pt l 0).2, .int .i64 (pt l 1).1, .int .i64 (pt l 1).2, .int .i64 (pt l 2).1, .int .i64 (pt l 2).2] 87)
  have hk2 : Keeps (fun _ => False) w1 w2 := by rw [← hw2]; exact (Keeps.refl _ w1).alloc _
  rw [hw2] at hg ⊢
  clear hw2
  have c0 := cells_at hg 0
  have c1 := cells_at hg 1
  have c2 := cells_at hg 2
  have c3 := cells_at hg 3
  have c4 := cells_at hg 4
  have c5 := cells_at hg 5
  have hw1' := hz.1
  have hnm := not_masksD (polyS l == 0)
  clear hg
  go_wp2_with fail
  refine (noteN _ _ _ _).mono ?_; rintro e w3 ⟨rfl, hw3⟩
  rw [hw3]
  clear hw3 w3
  go_wp2_with fail
  refine (osign_calls (pt l 0) (pt l 1) (pt l 2) (hp.at 0) (hp.at 1) (hp.at 2) _ (HG.out.kept (knil hk1 hk2))).mono ?_; rintro e w4 ⟨rfl, hk4⟩
  rw [show sgnI (det (pt l 0) (pt l 1) (pt l 2)) = polyS l from rfl]
  go_wp2_with fail
  refine (zero_calls _ hz.2.1 _).mono ?_; rintro e w5 ⟨rfl, hw5⟩
  rw [hw5, hz.2.2]
  clear hw5 w5
  go_wp2
  go_ret
  exact ⟨rfl, knil (knil hk1 hk2) hk4⟩
set_option maxRecDepth 100000 in
set_option maxHeartbeats 2000000 in
theorem dlocate_calls (v : Value) (l : List (Int × Int)) (p : Int × Int) (h3 : l.length = 3) (hp : Pts l) (hpp : Pt p) (w : World) (hG : Gl w) (h : ptsAt w v l) :
    Calls Tryz.prog 28 #[.pointer none, v, .agg #[.int .i64 p.1, .int .i64 p.2]] w fun e w' => e = .returned (.int .i64 (sgnI (inc (pt l 0) (pt l 1) (pt l 2) p) * polyS l)) ∧ Keeps (fun _ => False) w w' := by
  obtain ⟨b, off, cap, rfl, hb, hc⟩ := h.block (i := 0) (by omega)
  have hk0 : Keeps (fun _ => False) w (w.alloc (.cells #[.int .i64 p.1, .int .i64 p.2] 35)) := (Keeps.refl _ w).alloc _
  have hg0 := heap_alloc_new w (.cells #[.int .i64 p.1, .int .i64 p.2] 35)
  have hl0 : w.heap.size < (w.alloc (.cells #[.int .i64 p.1, .int .i64 p.2] 35)).heap.size := (Array.getElem?_eq_some_iff.1 hg0).1
  have H := Lib.hid h
  have HG := Lib.hid hG
  have HG0 := Lib.hid hg0
  have H3 := Lib.hid h3
  clear h hc hG hg0 h3
  go_enter Tryz.func28, Tryz.ntmps28
  go_upto_region 1 with fail
  generalize w.alloc (.cells #[.int .i64 p.1, .int .i64 p.2] 35) = w0 at hk0 HG0 hl0 ⊢
  go_wp2_with fail
  refine (from3_calls _ l H3.out w0 (H.out.kept hk0)).mono ?_; rintro e w1 ⟨rfl, hk1⟩
  go_upto_region 2 with fail
  obtain ⟨w2, hw2⟩ : ∃ w2, w1.alloc (.cells #[.int .i64 (pt l 0).1, .int .i64 (pt l 0).2, .int .i64 (pt l 1).1, .int .i64 (pt l 1).2, .int .i64 (pt l 2).1, .int .i64 (pt l 2).2] 87) = w2 := ⟨_, rfl⟩
  have hg := heap_alloc_new w1 (.cells #[.int .i64 (pt l 0).1, .int .i64 (pt l 0).2, .int .i64 (pt l 1).1, .int .i64 (pt l 1).2, .int .i64 (pt l 2).1, .int .i64 (pt l 2).2] 87)
  have hk2 : Keeps (fun _ => False) w1 w2 := by rw [← hw2]; exact (Keeps.refl _ w1).alloc _
  rw [hw2] at hg ⊢
  clear hw2
  have hk02 := knil hk1 hk2
  have hgp := (hk02.block _ hl0 (fun h => h)).trans HG0.out
  have c0 := cells_at hg 0
  have c1 := cells_at hg 1
  have c2 := cells_at hg 2
  have c3 := cells_at hg 3
  have c4 := cells_at hg 4
  have c5 := cells_at hg 5
  have d0 := cells_at hgp 0
  have d1 := cells_at hgp 1
  clear hg hgp
  go_wp2_with fail
  refine (noteN _ _ _ _).mono ?_; rintro e w3 ⟨rfl, hw3⟩
  rw [hw3]
  clear hw3 w3
  go_wp2_with fail
  refine (cside_calls (pt l 0) (pt l 1) (pt l 2) p (hp.at 0) (hp.at 1) (hp.at 2) hpp _ (HG.out.kept (knil hk0 hk02))).mono ?_; rintro e w4 ⟨rfl, hk4⟩
  go_wp2
  go_ret
  exact ⟨rfl, knil (knil hk0 hk02) hk4⟩
end Go.Proofs.YtmoajobnhiopiaaGreatDoor.po
