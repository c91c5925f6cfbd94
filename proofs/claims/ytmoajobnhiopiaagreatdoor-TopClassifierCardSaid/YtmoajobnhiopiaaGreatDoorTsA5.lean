import Derived.Test.YtmoajobnhiopiaaGreatDoorTsA4
import Derived.Lib.Tables
import Derived.Deep.RegionHeld3
import Derived.Laws.CopyRow
namespace Go.Proofs.YtmoajobnhiopiaaGreatDoor.nw
open Go Go.RowKit Go.Shelf Go.Proofs.YtmoajobnhiopiaaGreatDoor.tp Go.Proofs.YtmoajobnhiopiaaGreatDoor.rg
def lenN (x : Nat) : Nat := if x = 0 then 0 else x.log2 + 1
theorem lenN_spec {x r : Nat} : lenN x ≤ r ↔ x < 2 ^ r := by
  unfold lenN
  by_cases h : x = 0
  · subst h
    simp [Nat.two_pow_pos]
  · rw [if_neg h]
    have := Nat.log2_lt h (k := r)
    omega
theorem lenN_256 {x : Nat} (h : 256 ≤ x) : lenN x = 8 + lenN (x / 256) := by
  have h1 : ∀ r, lenN x ≤ r + 8 ↔ lenN (x / 256) ≤ r := by
    intro r
    rw [lenN_spec, lenN_spec, Nat.pow_add, Nat.div_lt_iff_lt_mul (by decide)]
  have h2 := (h1 (lenN (x / 256))).2 (Nat.le_refl _)
  have h3 : 8 < lenN x := by
    have := (lenN_spec (x := x) (r := 8)).1
    have h256 : (2 : Nat) ^ 8 = 256 := by decide
    omega
  have h4 := (h1 (lenN x - 8)).1 (by omega)
  omega
theorem len8_table : (List.range 256).all (fun i => Lib.len8 (i : Int) == (lenN i : Int)) = true := by decide +kernel
theorem len8_eq {x : Nat} (h : x < 256) : Lib.len8 (x : Int) = (lenN x : Int) := by
  have := List.all_eq_true.1 len8_table x (by rw [List.mem_range]; exact h)
  exact beq_iff_eq.1 this
theorem lenN_le {x r : Nat} (h : x < 2 ^ r) : lenN x ≤ r := lenN_spec.2 h
theorem tab_get {y : Int} (h0 : 0 ≤ y) (h1 : y < 256) (h : y.toNat < Lib.len8tab.size) : ((Lib.len8tab[y.toNat]'h).toNat : Int) = (lenN y.toNat : Int) := by
  obtain ⟨n, rfl⟩ := Int.eq_ofNat_of_zero_le h0
  show _ = ((lenN n : Nat) : Int)
  rw [← len8_eq (x := n) (by omega)]
  unfold Lib.len8
  rw [getElem?_pos Lib.len8tab (n : Int).toNat h]
  rfl
theorem tab_wrap {y : Int} (h0 : 0 ≤ y) (h1 : y < 256) (h : y.toNat < Lib.len8tab.size) : wrap64 (wrap64 ((Lib.len8tab[y.toNat]'h).toNat : Int)) = (lenN y.toNat : Int) ∧ wrap64 (8 + wrap64 ((Lib.len8tab[y.toNat]'h).toNat : Int)) = ((8 + lenN y.toNat : Nat) : Int) := by
  rw [tab_get h0 h1 h]
  have hl := lenN_le (x := y.toNat) (r := 8) (by omega)
  unfold wrap64
  omega
theorem tab_size : Lib.len8tab.size = 256 := by decide +kernel
set_option maxRecDepth 100000 in
set_option maxHeartbeats 1000000 in
theorem len64_lo (x : Int) (h0 : 0 ≤ x) (hx : x < 256) (w : World) : Calls Tryz.prog 166 #[.int .u64 x] w fun e w' => e = .returned (.int .i64 (lenN x.toNat : Nat)) ∧ w' = w := by
  go_enter Tryz.func166, Tryz.ntmps166
  go_wp2
  all_goals (first | (go_ret; refine ⟨congrArg Ending.returned (congrArg (Value.int IntKind.i64) ?_), rfl⟩; exact (tab_wrap h0 hx _).1) | (exfalso; have := tab_size; omega))
set_option maxRecDepth 100000 in
set_option maxHeartbeats 1000000 in
theorem len64_hi (x : Int) (h0 : 256 ≤ x) (hx : x < 65536) (w : World) : Calls Tryz.prog 166 #[.int .u64 x] w fun e w' => e = .returned (.int .i64 (lenN x.toNat : Nat)) ∧ w' = w := by
  have e : lenN x.toNat = 8 + lenN (x / 256).toNat := by
    rw [lenN_256 (by omega)]
    congr 2
    omega
  have E := Lib.hid e
  clear e
  go_enter Tryz.func166, Tryz.ntmps166
  go_wp2
  all_goals (first | (go_ret; refine ⟨congrArg Ending.returned (congrArg (Value.int IntKind.i64) ?_), rfl⟩; rw [E.out]; exact (tab_wrap (by omega) (by omega) _).2) | (exfalso; have := tab_size; omega))
theorem len64_calls (x : Int) (h0 : 0 ≤ x) (hx : x < 65536) (w : World) : Calls Tryz.prog 166 #[.int .u64 x] w fun e w' => e = .returned (.int .i64 (lenN x.toNat : Nat)) ∧ w' = w := by
  by_cases h : x < 256
  · exact len64_lo x h0 h w
  · exact len64_hi x (by omega) hx w
theorem bitsLen_calls (x : Int) (h0 : 0 ≤ x) (hx : x < 65536) (w : World) : Calls Tryz.prog 159 #[.int .u64 x] w fun e w' => e = .returned (.int .i64 (lenN x.toNat : Nat)) ∧ w' = w := by
  have cc := fun w => len64_calls x h0 hx w
  go_enter Tryz.func159, Tryz.ntmps159
  go_wp2_with fail
  refine (cc _).mono ?_; rintro e w' ⟨rfl, rfl⟩
  go_wp2_with fail
  go_ret
  exact ⟨rfl, rfl⟩
theorem pow_wrap {k : Nat} (h : k ≤ 12) : wrap64 ((2 : Int) ^ k) = ((2 ^ k : Nat) : Int) := by
  have e : ((2 : Int) ^ k) = ((2 ^ k : Nat) : Int) := by rw [Int.natCast_pow]; rfl
  have : 2 ^ k ≤ 2 ^ 12 := Nat.pow_le_pow_right (by omega) h
  rw [e]
  generalize 2 ^ k = m at this ⊢
  unfold wrap64
  omega
def sizeI (n : Int) : Int := if n < 1 ∨ 4096 < n then 0 else ((2 ^ lenN (n - 1).toNat : Nat) : Int)
theorem size_calls (n : Int) (w : World) : Calls Tryz.prog 147 #[.int .i64 n] w fun e w' => e = .returned (.int .i64 (sizeI n)) ∧ w' = w := by
  by_cases h1 : n < 1
  · have H := Lib.hid (show sizeI n = 0 from if_pos (.inl h1))
    go_enter Tryz.func147, Tryz.ntmps147
    go_wp2
    go_ret
    exact ⟨by rw [H.out]; rfl, rfl⟩
  · by_cases h2 : 4096 < n
    · have H := Lib.hid (show sizeI n = 0 from if_pos (.inr h2))
      go_enter Tryz.func147, Tryz.ntmps147
      go_wp2
      go_ret
      exact ⟨by rw [H.out]; rfl, rfl⟩
    · have H := Lib.hid (show sizeI n = ((2 ^ lenN (n - 1).toNat : Nat) : Int) from if_neg (by omega))
      have cc := fun w => bitsLen_calls (n - 1) (by omega) (by omega) w
      have hl := lenN_le (x := (n - 1).toNat) (r := 12) (by omega)
      generalize lenN (n - 1).toNat = k at H cc hl
      have h3 : 1 ≤ n := by omega
      have h4 : n ≤ 4096 := by omega
      have hw := pow_wrap hl
      clear h1 h2
      go_enter Tryz.func147, Tryz.ntmps147
      go_wp2_with fail
      refine (cc _).mono ?_; clear cc; rintro e w' ⟨rfl, rfl⟩
      go_wp2_with fail
      go_ret
      exact ⟨by rw [H.out, ← hw]; rfl, rfl⟩
end Go.Proofs.YtmoajobnhiopiaaGreatDoor.nw
namespace Go.Proofs.YtmoajobnhiopiaaGreatDoor.rg
open Go Go.RowKit Go.Shelf
end Go.Proofs.YtmoajobnhiopiaaGreatDoor.rg
namespace Go.Proofs.YtmoajobnhiopiaaGreatDoor.nw
open Go Go.RowKit Go.Shelf Go.Proofs.YtmoajobnhiopiaaGreatDoor.tp Go.Proofs.YtmoajobnhiopiaaGreatDoor.rg Go.Proofs.YtmoajobnhiopiaaGreatDoor.ar Go.Proofs.YtmoajobnhiopiaaGreatDoor.mk
attribute [local go_sem] Oper.semAt_some
def foldK (L : List (Nat × Nat)) (l : List Int) (k : Nat) : List Int := (L.take k).foldl cx l
theorem foldK_succ {L : List (Nat × Nat)} {l : List Int} {k : Nat} {c : Nat × Nat} (h : L[k]? = some c) : foldK L l (k + 1) = cx (foldK L l k) c := by
  unfold foldK
  rw [List.take_add_one, h, List.foldl_append]
  rfl
theorem foldK_length (L : List (Nat × Nat)) (l : List Int) (k : Nat) : (foldK L l k).length = l.length := fold_length _ l
end Go.Proofs.YtmoajobnhiopiaaGreatDoor.nw
set_option linter.unusedSimpArgs false
set_option linter.unusedVariables false
namespace Go.Proofs.YtmoajobnhiopiaaGreatDoor.nw
open Go Go.RowKit Go.Shelf Go.Proofs.YtmoajobnhiopiaaGreatDoor.tp Go.Proofs.YtmoajobnhiopiaaGreatDoor.rg
theorem over_all3 {n : Nat} {g : Operand} {p : Tmp} {assign body : Code} {Q : Exit → Act → World → Prop} {a : Act} {w : World} (Bn : Nat) (nv : Int) (L : List (Nat × Nat)) (hL : IsNet nv L) (I : Nat → World → Prop)
    (hg : a.eval g = .func (.func 160) #[] #[.pointer (some ⟨Bn, 0, none⟩)])
    (hbox : ∀ k W, I k W → W.cell? ⟨Bn, 0, none⟩ = some (.int .i64 nv))
    (hI : ∀ k W W', I k W → w.heap.size + 2 ≤ W.heap.size → Loops w W W' → I k W') (h0 : ∀ r, I 0 ((w.alloc (.deferred (some []))).alloc (.loop r)))
    (a₁ : Nat → Int → Int → Act)
    (hassign : ∀ (W : World) (x y : Int) (K : Act → World → Prop), K (a₁ W.heap.size x y) (W.alloc (.cells #[.int .i64 x, .int .i64 y] 224)) →
      assign.wpIn (Fence.wide.inRound (w.heap.size + 1)) (n - 1 - 1) Tryz.prog (Exit.then K (fun _ _ _ => False)) { tmps := a.tmps.setIfInBounds p (.agg #[.int .i64 x, .int .i64 y]), defers := [] } W)
    (hbody : ∀ (k x y gg : Nat) (W0 W : World), I k W0 → gg = W0.heap.size → w.heap.size + 2 ≤ W0.heap.size → Loops w W0 W → I k W → L[k]? = some (x, y) → w.heap.size + 2 ≤ gg → gg < W.heap.size → W.cell? ⟨gg, 0, none⟩ = some (.int .i64 x) → W.cell? ⟨gg, 1, none⟩ = some (.int .i64 y) →
      body.wpIn (Fence.wide.inRound (w.heap.size + 1)) (n - 1 - 1) Tryz.prog (GoesAll w I k W) (a₁ gg x y) W)
    (hdone : ∀ (W : World), I L.length W → w.heap.size + 2 ≤ W.heap.size → W.heap[w.heap.size]? = some (.deferred (some [])) → Q .normal { a with defers := { target := .collected w.heap.size, args := #[] } :: a.defers } W) :
    (Code.rangeFunc g #[p] assign body).wpIn Fence.wide n Tryz.prog Q a w := by
  let I2 : Nat → World → Prop := fun k W => I k W ∧ w.heap.size + 2 ≤ W.heap.size
  have hstep : ∀ k W W', I2 k W → Loops w W W' → I2 k W' := fun k W W' h hk => ⟨hI k W W' h.1 h.2 hk, Nat.le_trans h.2 hk.size⟩
  have hcat : ∀ k, k < L.length → L[k]? = some (cat L k) := fun k hk => by
    unfold cat; rw [List.getD_eq_getElem?_getD, List.getElem?_eq_getElem hk]; rfl
  refine range_law2 hg (enters_of Tryz.func160 (by kernel_rfl) rfl) (fun k => #[.agg #[.int .i64 ((cat L k).1 : Int), .int .i64 ((cat L k).2 : Int)]]) (fun _ => rfl) L.length I2 ?_ ?_ ?_
    (fun k a' W => ∃ gg, At w a₁ (cat L k).1 (cat L k).2 a' W gg ∧ ∃ W0, I k W0 ∧ gg = W0.heap.size ∧ w.heap.size + 2 ≤ W0.heap.size ∧ Loops w W0 W) ?_ ?_ ?_ (fun W h hd => hdone W h.1 h.2 hd)
  · intro k W o h _
    exact hstep k W _ h ((keeps_putObj W _ o).mono (fun i _ h => .inr h))
  · intro rr
    exact ⟨h0 rr, by simp⟩
  · intro Bk hBk hsz W1 h1 hb1 hY
    have two : ∀ W W', w.heap.size + 2 ≤ W.heap.size → Keeps (fun _ => False) W W' → Two w W W' := fun W W' hz hk => ⟨hk.block _ (by omega) (fun h => h), hk.block _ (by omega) (fun h => h)⟩
    rcases hL with ⟨r, N, hr, hN, rfl, rfl⟩ | ⟨hB, hwf, rfl⟩
    case inr => exact (all1_none (n - 1) (w.heap.size + 1) Bn nv hwf hB W1 (hbox _ _ h1.1)).mono fun e W' ⟨he, hw⟩ => ⟨he, by rw [hw]; exact h1, by rw [hw]; exact hb1⟩
    refine (all1 (n - 1) r N (w.heap.size + 1) Bn hr hN (fun D W => I2 D.length W ∧ Bk W) (fun _ => False) (fun D W h => hbox _ W h.1.1) ?_ ?_ W1 ⟨h1, hb1⟩).mono ?_
    · intro D W x y h
      have hk : Keeps (fun _ => False) W (W.alloc (.cells #[.int .i64 x, .int .i64 y] 224)) := (Keeps.refl _ W).alloc _
      exact ⟨hstep _ _ _ h.1 (hk.mono (fun _ _ h => h.elim)), hBk _ _ h.2 (two _ _ h.1.2 hk)⟩
    · intro D x y E W h hE
      have hlen : D.length < (nl N r).length := by rw [← hE]; simp
      have hxy : cat (nl N r) D.length = (x, y) := by
        have := (congrArg (fun M => M[D.length]?) hE).trans (hcat _ hlen)
        rw [List.getElem?_append_right (Nat.le_refl _), Nat.sub_self] at this
        exact (Option.some.inj this).symm
      have hy := hY D.length W h.1 h.2 hlen
      rw [hxy] at hy
      obtain ⟨fn, tmps, asg, bo, hrun, hR⟩ := hy
      exact ⟨fn, tmps, asg, bo, hrun, hR.mono fun e W' ⟨he, hi, hb⟩ => .inl ⟨he, by rw [List.length_append]; exact hi, hb⟩⟩
    · rintro e W' ⟨he, h | h⟩
      · exact ⟨he, h.1, h.2⟩
      · exact h.elim
  · intro k W K hk _ hz hK
    have e : ∀ (u : Value) (t : Array Value), (#[p].zip #[u]).foldl (fun t (p, v) => t.setIfInBounds p v) t = t.setIfInBounds p u := fun _ _ => by simp
    rw [e]
    refine hassign W _ _ K (hK _ _ ⟨W.heap.size, ⟨rfl, ?_, ?_, hk.2, by simp⟩, W, hk.1, rfl, hk.2, ((Keeps.refl (fun _ => False) W).alloc _).mono (fun _ _ h => h.elim)⟩ ?_ ?_)
    · rw [cell_of_row _ _ _ _ _ _ (heap_alloc_new W _)]; rfl
    · rw [cell_of_row _ _ _ _ _ _ (heap_alloc_new W _)]; rfl
    · exact hstep _ _ _ hk (((Keeps.refl _ W).alloc _).mono (fun _ _ h => h))
    · have hkk : Keeps (fun _ => False) W (W.alloc (.cells #[.int .i64 ((cat L k).1 : Int), .int .i64 ((cat L k).2 : Int)] 224)) := (Keeps.refl _ W).alloc _
      exact ⟨hkk.block _ (by have := hk.2; omega) (fun h => h), hkk.block _ (by have := hk.2; omega) (fun h => h)⟩
  · rintro k a' W o ⟨gg, h, W0, h0, hgg, hz0, hl0⟩ _
    have hk := keeps_putObj W (w.heap.size + 1) o
    have hlo := h.lo
    exact ⟨gg, ⟨h.act, (hk.cell (p := ⟨gg, 0, none⟩) h.hi (by simp; omega)).trans h.c0, (hk.cell (p := ⟨gg, 1, none⟩) h.hi (by simp; omega)).trans h.c1, h.lo, Nat.lt_of_lt_of_le h.hi hk.size⟩, W0, h0, hgg, hz0, hl0.trans (hk.mono (T := fun i => i = w.heap.size ∨ i = w.heap.size + 1) (fun i _ h => .inr h)) (fun _ _ h => h)⟩
  · rintro k a' W ⟨gg, h, W0, h0, hgg, hz0, hl0⟩ hi hk _
    rw [h.act]
    refine wpIn_mono (hbody k _ _ gg W0 W h0 hgg hz0 hl0 hi.1 (hcat k hk) h.lo h.hi h.c0 h.c1) ?_
    rintro e a3 W3 hp
    cases e with
    | normal => exact ⟨hp.1, hp.2.2, hp.2.1⟩
    | ret => exact hp.elim
    | exit id => exact hp.elim
    | goto t => exact hp.elim
    | panic ch => exact hp.elim
    | outgrown => exact hp.elim
end Go.Proofs.YtmoajobnhiopiaaGreatDoor.nw
set_option linter.unusedSimpArgs false
set_option linter.unusedVariables false
namespace Go.Proofs.YtmoajobnhiopiaaGreatDoor.so
open Go Go.RowKit Go.Shelf Go.Proofs.YtmoajobnhiopiaaGreatDoor.mk Go.Proofs.YtmoajobnhiopiaaGreatDoor.nw Go.Proofs.YtmoajobnhiopiaaGreatDoor.tp Go.Proofs.YtmoajobnhiopiaaGreatDoor.rg Go.Proofs.YtmoajobnhiopiaaGreatDoor.ar
open List renaming getElem_toArray → ga, getElem_cons_zero → gb, getElem_cons_succ → gc, setIfInBounds_toArray → gd, set_cons_zero → ge, set_cons_succ → gf
attribute [local go_sem] Oper.semAt_some
theorem run_copy_sized {P : Program} (w : World) (dT sT ty elem : TypeId) (g o dLen dCap : Nat) (a : Addr) (sLen sCap sz k : Nat) (cur : Array Value) (t : TypeId) (cs : List Value)
    (hu : P.underlying dT = some (.slice elem)) (hs : (P.info? elem).map (·.size) = some sz)
    (hg : w.heap[g]? = some (.cells cur t (0, 0))) (hk : k = Nat.min sLen dLen) (hn : cs.length = k * sz)
    (hsrc : ∀ j v, cs[j]? = some v → w.cell? (a.add j) = some v) (hfit : o + cs.length ≤ cur.size) (h1 : ∀ v ∈ cs, v.oneCell' = true) :
    (Builtin.copy_ #[dT, sT] ty #[.slice (some ⟨g, o, none⟩) dLen dCap, .slice (some a) sLen sCap]).run P w =
      .ok (goInt k) (w.setRow g (cur.toList.take o ++ cs ++ cur.toList.drop (o + cs.length)).toArray) := by
  have hl := run_loadCells_list (P := P) w a cs hsrc
  have hst := run_storeCells_at P g o t cs 0 cur w hg (by simpa using hfit) h1
  cases hq : P.info? elem with
  | none => simp [hq] at hs
  | some i =>
    have hi : i.size = sz := by simpa [hq] using hs
    rw [hn] at hl
    simp [Builtin.copy_, run_underlying hu, Builtin.lenOf, Builtin.firstCells, sizeOf, typeInfo, hq, hi, ← hk, hl, hst]
def recAt (w : World) (v : Value) (l : List Rec) : Prop :=
  (l = [] ∧ ∃ ao cap, v = .slice ao 0 cap) ∨ (l ≠ [] ∧ ∃ b off cap, v = .slice (some ⟨b, off, none⟩) l.length cap ∧ b < w.heap.size ∧ ∀ (i : Nat) (r : Rec), l[i]? = some r → w.cell? ⟨b, off + i * 2, none⟩ = some (.int .u64 r.1) ∧ w.cell? ⟨b, off + (i * 2 + 1), none⟩ = some (.int .u64 r.2))
def Recs (l : List Rec) : Prop := ∀ r ∈ l, RecOk r
theorem recAt.keep {w w' : World} {T : Nat → Prop} {v : Value} {l : List Rec} (h : recAt w v l) (hk : Keeps T w w') (hT : l ≠ [] → ∀ g, v.ownBlock = some g → g < w.heap.size → ¬ T g) : recAt w' v l := by
  rcases h with h | ⟨hne, b, off, cap, rfl, hlt, hc⟩
  · exact .inl h
  · exact .inr ⟨hne, b, off, cap, rfl, Nat.lt_of_lt_of_le hlt hk.size, fun i r hi => ⟨(hk.cell (p := ⟨b, _, none⟩) hlt (hT hne b rfl hlt)).trans (hc i r hi).1, (hk.cell (p := ⟨b, _, none⟩) hlt (hT hne b rfl hlt)).trans (hc i r hi).2⟩⟩
theorem recAt.kept {w w' : World} {v : Value} {l : List Rec} (h : recAt w v l) (hk : Keeps (fun _ => False) w w') : recAt w' v l := h.keep hk (fun _ _ _ _ h => h)
theorem rec_cells {w : World} {b off cap : Nat} {l : List Rec} (h : ∀ (i : Nat) (r : Rec), l[i]? = some r → w.cell? ⟨b, off + i * 2, none⟩ = some (.int .u64 r.1) ∧ w.cell? ⟨b, off + (i * 2 + 1), none⟩ = some (.int .u64 r.2)) :
    ∀ (j : Nat) (u : Value), (rflat l)[j]? = some u → w.cell? ((⟨b, off, none⟩ : Addr).add j) = some u := by
  intro j u hj
  have hl := (List.getElem?_eq_some_iff.1 hj).1
  rw [rflat_length] at hl
  have hadd : (⟨b, off, none⟩ : Addr).add j = ⟨b, off + j, none⟩ := by unfold Addr.add; split <;> simp_all
  rw [hadd]
  obtain ⟨r, hr⟩ : ∃ r, l[j / 2]? = some r := ⟨l[j / 2]'(by omega), by simp⟩
  obtain ⟨g1, g2⟩ := rflat_get l (j / 2) r hr
  obtain ⟨h1, h2⟩ := h (j / 2) r hr
  rcases Nat.mod_two_eq_zero_or_one j with hm | hm
  · have e : j / 2 * 2 = j := by omega
    rw [e] at g1 h1
    rw [h1, ← g1, hj]
  · have e : j / 2 * 2 + 1 = j := by omega
    rw [e] at g2 h2
    rw [h2, ← g2, hj]
theorem rflat_one (l : List Rec) : ∀ v ∈ rflat l, v.oneCell' = true := by
  intro v hv
  unfold rflat at hv
  obtain ⟨r, _, hr⟩ := List.mem_flatMap.1 hv
  simp at hr
  rcases hr with rfl | rfl <;> rfl
theorem infoRec : (Tryz.prog.info? 158).map (fun i => (i.zero, i.size, i.bytes)) = some (some (.agg #[.int .u64 0, .int .u64 0]), 2, 16) := by kernel_rfl
def evsC (q : Option Addr) (l0 : List Ev) (L : List (Nat × Nat)) : List Ev := if q = none then [] else l0 ++ L.map fun c => (3, (c.1 : Int), (c.2 : Int))
theorem evsC_snoc {q : Option Addr} {l0 : List Ev} {L : List (Nat × Nat)} {k : Nat} {c : Nat × Nat} (h : L[k]? = some c) : evsC q l0 (L.take (k + 1)) = if q = none then [] else evsC q l0 (L.take k) ++ [(3, (c.1 : Int), (c.2 : Int))] := by
  unfold evsC
  split
  · rfl
  · rw [List.take_add_one, h, List.map_append, List.append_assoc]; rfl
theorem note_c (q : Option Addr) (S : Nat → Prop) (l0 : List Ev) (L : List (Nat × Nat)) (k x y : Nat) (w : World) (hT : qAt w S q (evsC q l0 (L.take k))) (hc : L[k]? = some (x, y)) (hx : x ≤ 4096) (hy : y ≤ 4096) (hL : L.length ≤ 589824) (hl : l0.length ≤ 549755813888) :
    Calls Tryz.prog 45 #[.pointer q, .int .i64 3, .int .i64 (x : Int), .int .i64 (y : Int)] w fun r w' => r = .returned (.tuple #[]) ∧ qAt w' (fun k => S k ∨ w.heap.size ≤ k) q (evsC q l0 (L.take (k + 1))) ∧ Keeps S w w' := by
  rcases hT with ⟨rfl, he⟩ | ⟨b, rfl, hT⟩
  · refine (note_none 3 x y w).mono fun r w' ⟨hr, hw⟩ => ⟨hr, .inl ⟨rfl, ?_⟩, by rw [hw]; exact Keeps.refl _ _⟩
    simp [evsC]
  · have he : EvOk (3, (x : Int), (y : Int)) := ⟨show wf64 3 = true by decide, show wf64 (x : Int) = true from WalkArith.wf_i64 (by omega), show wf64 (y : Int) = true from WalkArith.wf_i64 (by omega)⟩
    have hlen : (evsC (some ⟨b, 0, none⟩) l0 (L.take k)).length ≤ 1099511627776 := by
      unfold evsC
      rw [if_neg (by simp), List.length_append, List.length_map, List.length_take]
      omega
    refine (note_calls b S _ _ w hT he hlen).mono fun r w' ⟨hr, ht, hk⟩ => ⟨hr, .inr ⟨b, rfl, ?_⟩, hk⟩
    rw [evsC_snoc hc, if_neg (by simp)]
    exact ht
def mixR (L : List Rec) (k : Nat) : List Rec := (L.take k).map cleanR ++ L.drop k
theorem mixR_zero (L : List Rec) : mixR L 0 = L := rfl
theorem mixR_length (L : List Rec) (k : Nat) : (mixR L k).length = L.length := by
  unfold mixR
  rw [List.length_append, List.length_map, List.length_take, List.length_drop]; omega
theorem mixR_get {L : List Rec} {k : Nat} {r : Rec} (h : L[k]? = some r) : (mixR L k)[k]? = some r := by
  have hk := (List.getElem?_eq_some_iff.1 h).1
  have hl : ((L.take k).map cleanR).length = k := by rw [List.length_map, List.length_take]; omega
  unfold mixR
  rw [List.getElem?_append_right (by omega), hl, Nat.sub_self, List.getElem?_drop, Nat.add_zero]
  exact h
theorem mixR_set {L : List Rec} {k : Nat} {r : Rec} (h : L[k]? = some r) : (mixR L k).set k (cleanR r) = mixR L (k + 1) := by
  have hk := (List.getElem?_eq_some_iff.1 h).1
  have hl : ((L.take k).map cleanR).length = k := by rw [List.length_map, List.length_take]; omega
  have hd : L.drop k = r :: L.drop (k + 1) := by
    rw [List.drop_eq_getElem_cons hk, (List.getElem?_eq_some_iff.1 h).2]
  unfold mixR
  rw [List.set_append_right _ _ (by omega), hl, Nat.sub_self, hd, List.take_add_one, h, List.map_append, List.append_assoc]
  rfl
theorem row_kept {w w' : World} {base g n cap : Nat} {E : TypeId} {size : Nat} {xs : List Value} (h : w.ownsRow base E size (.slice (some ⟨g, 0, none⟩) n cap) n xs) {T : Nat → Prop} (hk : Keeps T w w') (hT : ¬ T g := by exact fun h => h) : w'.ownsRow base E size (.slice (some ⟨g, 0, none⟩) n cap) n xs := by
  refine ⟨h.1, ?_⟩
  rcases h.2 with hh | ⟨g', c, cur, he, h1, h2, h3⟩
  · exact .inl hh
  · have e : g' = g := by injection he with he; injection he with he; injection he with he; exact he.symm
    subst e
    exact .inr ⟨g', c, cur, he, h1, (hk.block _ (Array.getElem?_eq_some_iff.1 h2).1 hT).trans h2, h3⟩
theorem sort_nil (q : Option Addr) (ao : Option Addr) (cap : Nat) (w : World) : Calls Tryz.prog 126 #[.pointer q, .slice ao 0 cap] w fun e w' => e = .returned (.slice none 0 0) ∧ Keeps (fun _ => False) w w' := by
  have cs := fun w => size_calls 0 w
  rw [show sizeI 0 = 0 from by decide] at cs
  go_enter Tryz.func126, Tryz.ntmps126
  go_wp2_with fail
  refine (cs _).mono ?_; rintro e w1 ⟨rfl, rfl⟩
  go_wp2_with fail
  go_ret
  exact ⟨rfl, (Keeps.refl _ w).alloc _⟩
set_option maxRecDepth 100000 in
set_option maxHeartbeats 4000000 in
theorem sort_some (q : Option Addr) (l0 : List Ev) (S0 : Nat → Prop) (b off cap : Nat) (l : List Rec) (r N : Nat) (w : World) (hT : qAt w S0 q l0) (hl0 : l0.length ≤ 549755813888) (hr : r ≤ 12) (hN : N = 2 ^ r) (hsz : sizeI (l.length : Int) = (N : Int)) (hlN : l.length ≤ N)
    (hne : l ≠ []) (hb : b < w.heap.size) (hc : ∀ (i : Nat) (r : Rec), l[i]? = some r → w.cell? ⟨b, off + i * 2, none⟩ = some (.int .u64 r.1) ∧ w.cell? ⟨b, off + (i * 2 + 1), none⟩ = some (.int .u64 r.2)) (hS : ¬ S0 b) (hok : Recs l) :
    Calls Tryz.prog 126 #[.pointer q, .slice (some ⟨b, off, none⟩) l.length cap] w fun e w' => ∃ g, e = .returned (.slice (some ⟨g, 0, none⟩) l.length l.length) ∧ w.heap.size ≤ g ∧
      w'.ownsRow w.heap.size 158 2 (.slice (some ⟨g, 0, none⟩) N N) N (rflat (((nl N r).foldl cx ((l.map keyR) ++ List.replicate (N - l.length) 18446744073709551616)).map unkey)) ∧ (∃ S, qAt w' S q (evsC q l0 (nl N r)) ∧ (∀ i, S i → S0 i ∨ w.heap.size ≤ i) ∧ ¬ S g) ∧ Keeps S0 w w' := by
  have hlp : 0 < l.length := List.length_pos_iff.2 hne
  have hN1 : 1 ≤ N := by omega
  have hN2 : N ≤ 4096 := by rw [hN]; exact Nat.pow_le_pow_right (n := 2) (by omega) hr
  have cs := fun w => size_calls (l.length : Int) w
  rw [hsz] at cs
  have HN := Lib.hid hN
  have hN0 : ((N : Int) == 0) = false := by rw [beq_eq_false_iff_ne]; omega
  obtain ⟨i0, hi, hz0, hz1, hz2⟩ := info_parts infoRec
  have hmk := fun w => run_make (P := Tryz.prog) w 108 158 i0 (.agg #[.int .u64 0, .int .u64 0]) Tryz.underlying108 hi hz0 .i64 .i64 (N : Int) (N : Int) (by omega) (Int.le_refl _) (by rw [hz2]; omega) (by omega)
  rw [hz1] at hmk
  simp only [Int.toNat_natCast] at hmk
  have hZ1 : (madeCells (Value.agg #[.int .u64 0, .int .u64 0]).cells (N * 2)).toList = rflat (List.replicate N (0, 0)) := by
    apply List.ext_getElem?
    intro j
    by_cases hj : j < N * 2
    · obtain ⟨g1, g2⟩ := rflat_get (List.replicate N (0, 0)) (j / 2) (0, 0) (by rw [List.getElem?_replicate, if_pos (by omega)])
      have e : (madeCells (Value.agg #[.int .u64 0, .int .u64 0]).cells (N * 2)).toList[j]? = some (.int .u64 0) := by
        rcases Nat.mod_two_eq_zero_or_one j with hm | hm <;> simp [madeCells, hj, Value.cells, hm]
      rw [e]
      rcases Nat.mod_two_eq_zero_or_one j with hm | hm
      · rw [show j / 2 * 2 = j by omega] at g1; rw [g1]
      · rw [show j / 2 * 2 + 1 = j by omega] at g2; rw [g2]
    · rw [List.getElem?_eq_none (by simp [madeCells]; omega), List.getElem?_eq_none (by rw [rflat_length, List.length_replicate]; omega)]
  generalize hZ : madeCells (Value.agg #[.int .u64 0, .int .u64 0]).cells (N * 2) = Z at hmk hZ1
  have HZ := Lib.hid hZ1
  have HT := Lib.hid hT
  have HC := Lib.hid hc
  have Hsz := Lib.hid hsz
  clear hT hc hN hsz hZ1 hZ
  refine (callsIn_wide (n := 5)).1 ?_
  refine callsIn_of_wp_marks Tryz.func126 rfl trivial ?_ rfl
  simp only [Tryz.ntmps126, List.size_toArray, List.length_cons, List.length_nil, Nat.reduceAdd, Nat.reduceSub, Array.replicate_succ, Array.replicate_zero, List.push_toArray, List.append_toArray, List.nil_append, List.cons_append]
  refine wpIn_wide.2 ?_
  go_wp2_with fail
  refine (cs _).mono ?_; clear cs; rintro e w1 ⟨rfl, rfl⟩
  go_wp2_with fail
  obtain ⟨g, hg⟩ : ∃ g, g = w.heap.size + 1 := ⟨_, rfl⟩
  obtain ⟨w3, hw3⟩ : ∃ w3, ((w.alloc (.cells #[.pointer q] 76)).alloc (.cells Z 158)).alloc (.cells #[.slice (some ⟨w.heap.size + 1, 0, none⟩) N N] 108) = w3 := ⟨_, rfl⟩
  have hz3 : w3.heap.size = w.heap.size + 3 := by rw [← hw3]; simp
  have hk3 : Keeps (fun _ => False) w w3 := by rw [← hw3]; exact (((Keeps.refl _ w).alloc _).alloc _).alloc _
  have hbq : Boxed w3 w.heap.size 76 (.pointer q) := by rw [← hw3]; exact (Boxed.new w _ _).alloc _ |>.alloc _
  have hgz : w3.heap[g]? = some (.cells Z 158 (0, 0)) := by
    rw [hg, ← hw3, Below.heap_alloc _ _ _ (by simp)]
    have := heap_alloc_new (w.alloc (.cells #[.pointer q] 76)) (.cells Z 158)
    simpa using this
  have hbo : Boxed w3 (g + 1) 108 (.slice (some ⟨g, 0, none⟩) N N) := by
    rw [hg, ← hw3]
    have := Boxed.new ((w.alloc (.cells #[.pointer q] 76)).alloc (.cells Z 158)) 108 (.slice (some ⟨w.heap.size + 1, 0, none⟩) N N)
    simpa using this
  rw [hw3, ← hg]
  have hsrc : ∀ j v, (rflat l)[j]? = some v → w3.cell? ((⟨b, off, none⟩ : Addr).add j) = some v := fun j v hj => by
    have hadd : (⟨b, off, none⟩ : Addr).add j = ⟨b, off + j, none⟩ := by unfold Addr.add; split <;> simp_all
    have := rec_cells (cap := cap) HC.out j v hj
    rw [hadd] at this ⊢
    exact (hk3.cell (p := ⟨b, off + j, none⟩) hb (fun h => h)).trans this
  have hZs : Z.size = N * 2 := by
    have := congrArg List.length HZ.out
    rw [rflat_length, List.length_replicate] at this
    simpa using this
  rw [run_copy_sized (P := Tryz.prog) w3 108 108 3 158 g 0 N N ⟨b, off, none⟩ l.length cap 2 l.length Z 158 (rflat l) Tryz.underlying108 (by kernel_rfl) hgz (Nat.min_eq_left hlN).symm (rflat_length l) hsrc (by rw [rflat_length, hZs]; omega) (rflat_one l)]
  obtain ⟨Y, hY⟩ : ∃ Y, (Z.toList.take 0 ++ rflat l ++ Z.toList.drop (0 + (rflat l).length)).toArray = Y := ⟨_, rfl⟩
  have hYl : Y.toList = rflat (l ++ List.replicate (N - l.length) (0, 0)) := by
    rw [← hY, HZ.out, rflat_append, List.take_zero, List.nil_append, Nat.zero_add, rflat_length]
    show rflat l ++ _ = _
    congr 1
    rw [show rflat (List.replicate N (0, 0)) = rflat (List.replicate l.length (0, 0)) ++ rflat (List.replicate (N - l.length) (0, 0)) by rw [← rflat_append, List.replicate_append_replicate, show l.length + (N - l.length) = N by omega]]
    rw [List.drop_left' (by rw [rflat_length, List.length_replicate])]
  rw [hY]
  obtain ⟨w4, hw4⟩ : ∃ w4, w3.setRow g Y = w4 := ⟨_, rfl⟩
  rw [hw4]
  have hg4 : w4.heap[g]? = some (.cells Y 158 (0, 0)) := by rw [← hw4]; exact setRow_heap w3 g Z Y _ _ hgz
  have hk4 : Keeps (fun i => i = g) w3 w4 := by rw [← hw4]; exact ⟨rfl, rfl, rfl, by simp [World.setRow], fun k _ hk => setRow_other w3 g k Y hk⟩
  have hr4 : w4.ownsRow w.heap.size 158 2 (.slice (some ⟨g, 0, none⟩) N N) N (rflat (l ++ List.replicate (N - l.length) (0, 0))) := by
    have hlen : Y.size = N * 2 := by
      have := congrArg List.length hYl
      rw [rflat_length, List.length_append, List.length_replicate] at this
      simp at this
      omega
    refine ⟨by rw [rflat_length, List.length_append, List.length_replicate]; omega, .inr ⟨g, N, Y, rfl, by omega, hg4, Nat.le_refl _, by unfold maxLen; omega, hlen, ?_⟩⟩
    rw [hYl, List.take_of_length_le (by rw [rflat_length, List.length_append, List.length_replicate]; omega)]
  have hbq4 : Boxed w4 w.heap.size 76 (.pointer q) := (hk4.block _ hbq.lt (by omega)).trans hbq
  have hbo4 : Boxed w4 (g + 1) 108 (.slice (some ⟨g, 0, none⟩) N N) := (hk4.block _ hbo.lt (by omega)).trans hbo
  obtain ⟨L0, hL0⟩ : ∃ L0, l ++ List.replicate (N - l.length) ((0, 0) : Rec) = L0 := ⟨_, rfl⟩
  have hL0l : L0.length = N := by rw [← hL0, List.length_append, List.length_replicate]; omega
  have hL0ok : Recs L0 := by
    rw [← hL0]
    intro r hr
    rcases List.mem_append.1 hr with h | h
    · exact hok r h
    · rw [List.eq_of_mem_replicate h]; unfold RecOk IsU; decide
  rw [hL0] at hr4
  have b0 := hbo4.cell
  have Hbq := Lib.hid hbq4
  have Hbo := Lib.hid hbo4
  have Hr4 := Lib.hid hr4
  have Hk34 := Lib.hid (show Keeps (fun _ => False) w w4 from hk3.trans hk4 (fun i hi h => by omega))
  have Hz4 := Lib.hid (show w4.heap.size = w.heap.size + 3 by rw [← hw4]; simp [World.setRow, hz3])
  have Hg := Lib.hid hg
  have HL0 := Lib.hid hL0
  have HL0ok := Lib.hid hL0ok
  clear hw3 hz3 hk3 hbq hgz hbo hsrc hZs hY hYl hw4 hg4 hk4 hr4 hbq4 hbo4 hL0 hL0ok hok HZ hmk hg
  go_simp
  go_wp2_with fail
  go_loopw [21] (fun i wr => ∃ k : Nat, k ≤ N ∧ i = .int .i64 k ∧ Boxed wr w.heap.size 76 (.pointer q) ∧ Boxed wr (g + 1) 108 (.slice (some ⟨g, 0, none⟩) N N) ∧ wr.ownsRow w.heap.size 158 2 (.slice (some ⟨g, 0, none⟩) N N) N (rflat (mixR L0 k)) ∧ Keeps (fun i => i = g) w4 wr) (fun i _ => N - (intOf i).toNat)
  case atStart => exact ⟨0, Nat.zero_le _, rfl, Hbq.out, Hbo.out, by rw [mixR_zero]; exact Hr4.out, Keeps.refl _ _⟩
  case round =>
    clear b0
    obtain ⟨k, hk, rfl, hq1, ho1, hr1, hk1⟩ := hrel
    have b0 := ho1.cell
    by_cases hlt : k < N
    · obtain ⟨⟨u, v⟩, hu⟩ : ∃ e, L0[k]? = some e := ⟨L0[k]'(by omega), by simp⟩
      have hru := HL0ok.out _ (List.mem_of_getElem? hu)
      have hgm := rflat_get _ k _ (mixR_get hu)
      have c0 := (hr1.cellAt (k * 2) (by omega)).trans hgm.1
      have c1 := (hr1.cellAt (k * 2 + 1) (by omega)).trans hgm.2
      simp only at c0 c1
      have Hset := Lib.hid (mixR_set hu)
      have hml : (mixR L0 k).length = N := by rw [mixR_length, hL0l]
      have hgl := (hr1.lt g rfl).2
      have hbl := ho1.lt
      have Hr1 := Lib.hid hr1
      have Hq1 := Lib.hid hq1
      have Ho1 := Lib.hid ho1
      have Hk1 := Lib.hid hk1
      have hlt' : (k : Int) < (N : Int) := by omega
      have hk0 : (0 : Int) ≤ (k : Int) := by omega
      clear hu hgm hr1 hq1 ho1 hk1
      go_wp2_with fail
      refine wp_region_late (fun W => W.cell? ⟨g + 1, 0, none⟩ = some (.slice (some ⟨g, 0, none⟩) N N) ∧ W.cell? ⟨g, k * 2, none⟩ = some (.int .u64 u) ∧ W.cell? ⟨g, k * 2 + 1, none⟩ = some (.int .u64 v)) [8] (by kernel_rfl) ?_
      have hS : wr.drew.cell? ⟨g + 1, 0, none⟩ = some (.slice (some ⟨g, 0, none⟩) N N) ∧ wr.drew.cell? ⟨g, k * 2, none⟩ = some (.int .u64 u) ∧ wr.drew.cell? ⟨g, k * 2 + 1, none⟩ = some (.int .u64 v) := ⟨b0, c0, c1⟩
      refine tkL 0 (.slice (some ⟨g, 0, none⟩) N N) rfl (by kernel_rfl) (fun _ _ _ h => (h : False).elim) (by kernel_rfl) ‹_› ?_ ?_
      · intro w hSw
        obtain ⟨s0, s1, s2⟩ := hSw
        go_simp
      try simp only [Act.put, gd, ge, gf]
      refine tkA 1 (.int .i64 (k : Int)) rfl (by kernel_rfl) (fun _ _ _ h => (h : False).elim) (by kernel_rfl) (fun _ => ‹_›) ?_ ?_
      · intro w _; go_simp
      try simp only [Act.put, gd, ge, gf]
      refine tkL 2 (.slice (some ⟨g, 0, none⟩) N N) rfl (by kernel_rfl) (fun _ _ _ h => (h : False).elim) (by kernel_rfl) ‹_› ?_ ?_
      · intro w hSw
        obtain ⟨s0, s1, s2⟩ := hSw
        go_simp
      try simp only [Act.put, gd, ge, gf]
      refine tkA 3 (.int .i64 (k : Int)) rfl (by kernel_rfl) (fun _ _ _ h => (h : False).elim) (by kernel_rfl) (fun _ => ‹_›) ?_ ?_
      · intro w _; go_simp
      try simp only [Act.put, gd, ge, gf]
      refine tkA 4 (.pointer (some ⟨g, k * 2, none⟩)) rfl (by kernel_rfl) (fun _ _ _ h => (h : False).elim) (by kernel_rfl) (fun _ => ‹_›) ?_ ?_
      · intro w _; go_simp
      try simp only [Act.put, gd, ge, gf]
      refine tkL 5 (.agg #[.int .u64 u, .int .u64 v]) rfl (by kernel_rfl) (fun _ _ _ h => (h : False).elim) (by kernel_rfl) ‹_› ?_ ?_
      · intro w hSw
        obtain ⟨s0, s1, s2⟩ := hSw
        go_simp
      try simp only [Act.put, gd, ge, gf]
      refine wpAnyL_next (i := 6) (by kernel_rfl) rfl (fun K hK => ?_)
      go_simp
      refine (sclean_calls u v hru.1 hru.2 _).mono ?_; rintro e w5 ⟨rfl, hk5'⟩
      have hk5 : Keeps (fun _ => False) wr w5 := ((Keeps.refl _ wr).drewN 1).trans hk5' (fun _ _ h => h)
      clear hk5'
      go_wp2_with fail
      refine hK.out _ _ ⟨(hk5.cell (p := ⟨g + 1, 0, none⟩) hbl (fun h => h)).trans b0, (hk5.cell (p := ⟨g, k * 2, none⟩) hgl (fun h => h)).trans c0, (hk5.cell (p := ⟨g, k * 2 + 1, none⟩) hgl (fun h => h)).trans c1⟩ (fun hHeld => ?_)
      clear hK K
      try simp only [Act.put, gd, ge, gf]
      refine tkA 7 (.pointer (some ⟨g, k * 2, none⟩)) rfl (by kernel_rfl) (fun _ _ _ h => (h : False).elim) (by kernel_rfl) (fun _ => ‹_›) ?_ ?_
      · intro w _; go_simp
      try simp only [Act.put, gd, ge, gf]
      have hr5 := row_kept Hr1.out hk5
      have p0 := (hk5.cell (p := ⟨g, k * 2, none⟩) hgl (fun h => h)).trans c0
      have p1 := (hk5.cell (p := ⟨g, k * 2 + 1, none⟩) hgl (fun h => h)).trans c1
      have q0 := hr5.frozenAt (k * 2)
      have q1 := hr5.frozenAt (k * 2 + 1)
      have Hr5 := Lib.hid hr5
      clear hr5
      refine wpAnyL_late (i := 8) (by kernel_rfl) rfl (by kernel_rfl) (fun K hK => ?_)
      go_simp
      refine hK.out _ _ (fun _ => ?_)
      clear hK K
      try simp only [Act.put, gd, ge, gf]
      refine wpAnyL_done (by kernel_rfl) ?_ _
      refine NoPanic.normal ?_
      go_wp2_with fail
      go_roundw
      case rel =>
        have hg0 := Hg.out
        have K6 : Keeps (fun i => i = g) wr ((w5.setCell ⟨g, k * 2, none⟩ (.int .u64 (cleanR (u, v)).1)).setCell ⟨g, k * 2 + 1, none⟩ (.int .u64 (cleanR (u, v)).2)) :=
          ((show Keeps (fun i => i = g) wr w5 from hk5.mono (fun _ _ h => h.elim)).setCell ⟨g, k * 2, none⟩ (fun _ => rfl) _).setCell ⟨g, k * 2 + 1, none⟩ (fun _ => rfl) _
        refine ⟨k + 1, by omega, by go_num, (K6.block _ Hq1.out.lt (by omega)).trans Hq1.out, (K6.block _ Ho1.out.lt (by omega)).trans Ho1.out, ?_, Hk1.out.trans K6 (fun _ _ h => h)⟩
        have := ((Hr5.out.stored (k * 2) (.int .u64 (cleanR (u, v)).1)).1.stored (k * 2 + 1) (.int .u64 (cleanR (u, v)).2)).1
        rw [← rflat_set _ k (cleanR (u, v)) (by rw [mixR_length, hL0l]; exact hlt), Hset.out] at this
        exact this
      case measure => simp [intOf]; omega
    · obtain rfl : N = k := by omega
      have hkeys : mixR L0 N = (l.map keyR ++ List.replicate (N - l.length) 18446744073709551616).map unkey := by
        have h1 : mixR L0 N = L0.map cleanR := by unfold mixR; rw [List.take_of_length_le (by omega), List.drop_eq_nil_of_le (by omega), List.append_nil]
        have h2 : ∀ M : List Rec, Recs M → M.map cleanR = (M.map keyR).map unkey := by
          intro M hM
          rw [List.map_map]
          refine List.map_congr_left fun r hr => ?_
          exact (unkey_key (hM r hr)).symm
        rw [h1, h2 L0 HL0ok.out, ← HL0.out, List.map_append, List.map_replicate]
        rfl
      have hkl : (l.map keyR ++ List.replicate (N - l.length) (18446744073709551616 : Int)).length = N := by rw [List.length_append, List.length_map, List.length_replicate]; omega
      have hkk : ∀ x ∈ l.map keyR ++ List.replicate (N - l.length) (18446744073709551616 : Int), IsK x := by
        intro x hx
        rcases List.mem_append.1 hx with h | h
        · obtain ⟨r, hr, rfl⟩ := List.mem_map.1 h
          have : RecOk r := HL0ok.out r (by rw [← HL0.out]; exact List.mem_append_left _ hr)
          exact keyR_isK this
        · rw [List.eq_of_mem_replicate h]; unfold IsK; decide
      obtain ⟨ks, hks⟩ : ∃ ks, l.map keyR ++ List.replicate (N - l.length) (18446744073709551616 : Int) = ks := ⟨_, rfl⟩
      rw [hks] at hkeys hkl hkk
      have Hks := Lib.hid hks
      clear hks
      rw [hkeys] at hr1
      have Hq1 := Lib.hid hq1
      have Ho1 := Lib.hid ho1
      have Hr1 := Lib.hid hr1
      have Hk1 := Lib.hid hk1
      have Hkk := Lib.hid hkk
      clear hq1 ho1 hr1 hk1 hkk hkeys hlt
      obtain ⟨wl, rfl⟩ : ∃ wl : World, wl = wr := ⟨_, rfl⟩
      go_wp2_with fail
      refine (netall_calls _ _).mono ?_; rintro e w6' ⟨rfl, rfl⟩
      obtain ⟨w6, hw6⟩ : ∃ w6, wl.alloc (.cells #[.int .i64 (N : Int)] 3) = w6 := ⟨_, rfl⟩
      rw [hw6]
      go_wp2_with fail
      have hz6 : w6.heap.size = wl.heap.size + 1 := by rw [← hw6]; simp
      have hk6 : Keeps (fun _ => False) wl w6 := by rw [← hw6]; exact (Keeps.refl _ wl).alloc _
      have hbn : Boxed w6 wl.heap.size 3 (.int .i64 (N : Int)) := by rw [← hw6]; exact Boxed.new wl _ _
      have hg0 := Hg.out
      have hz4 := Hz4.out
      have hzl : w4.heap.size ≤ wl.heap.size := Hk1.out.size
      have Hbn := Lib.hid hbn
      have Hk6 := Lib.hid hk6
      clear hw6 hbn hk6
      have hT6 : qAt w6 (fun i => S0 i ∧ i < w.heap.size) q (evsC q l0 []) := by
        have h1 : qAt w (fun i => S0 i ∧ i < w.heap.size) q l0 := HT.out.mono (fun k hk h => ⟨h, hk⟩)
        have h2 : qAt w6 (fun i => S0 i ∧ i < w.heap.size) q l0 := ((h1.keep Hk34.out (fun _ _ _ h => h)).keep Hk1.out (fun k _ h => by omega)).keep Hk6.out (fun _ _ _ h => h)
        rcases h2 with ⟨rfl, rfl⟩ | ⟨b', rfl, ht⟩
        · exact .inl ⟨rfl, rfl⟩
        · exact .inr ⟨b', rfl, by simpa [evsC] using ht⟩
      have HT6 := Lib.hid hT6
      clear hT6
      have Hz6 := Lib.hid hz6
      have Hzl := Lib.hid hzl
      clear hz6 hg0 hz4 hzl
      refine (wpIn_wide (n := 5)).1 ?_
      refine over_all3 wl.heap.size (N : Int) (nl N r) (.inl ⟨r, N, hr, HN.out, rfl, rfl⟩)
        (fun k W => Boxed W w.heap.size 76 (.pointer q) ∧ Boxed W (g + 1) 108 (.slice (some ⟨g, 0, none⟩) N N) ∧ W.cell? ⟨wl.heap.size, 0, none⟩ = some (.int .i64 (N : Int)) ∧
          W.ownsRow w.heap.size 158 2 (.slice (some ⟨g, 0, none⟩) N N) N (rflat ((foldK (nl N r) ks k).map unkey)) ∧
          (∃ S, qAt W S q (evsC q l0 ((nl N r).take k)) ∧ ∀ i, S i → (S0 i ∧ i < w.heap.size) ∨ w6.heap.size + 2 ≤ i) ∧ Keeps (fun i => (S0 i ∧ i < w.heap.size) ∨ i = g) w6 W)
        rfl (fun _ _ h => h.2.2.1) ?_ ?_
        (fun gg x y => { tmps := #[.pointer q, .slice (some ⟨b, off, none⟩) l.length cap, .pointer (some ⟨w.heap.size, 0, none⟩), undef, .slice none 0 0, .int .i64 (N : Int), .pointer (some ⟨g + 1, 0, none⟩), u7, .pointer (some ⟨gg, 0, none⟩), .slice (some ⟨b, off, none⟩) l.length cap, .int .i64 (l.length : Int), .int .i64 (N : Int), .int .i64 (N : Int), .bool false, .int .i64 (N : Int), .slice (some ⟨g, 0, none⟩) N N, .slice (some ⟨g, 0, none⟩) N N, .slice (some ⟨b, off, none⟩) l.length cap, .int .i64 (l.length : Int), .slice (some ⟨g, 0, none⟩) N N, .int .i64 (N : Int), .int .i64 (N : Int), .bool false, u23, u24, u25, u26, u27, u28, u29, u30, u31, u32, .int .i64 (N : Int), .func (.func 160) #[] #[.pointer (some ⟨wl.heap.size, 0, none⟩)], .agg #[.int .i64 x, .int .i64 y], undef, undef, undef, undef, undef, undef, undef, undef, undef, undef, undef, undef, undef, undef, undef, undef, undef, undef, undef, undef, undef], defers := [] }) ?assign ?body ?done
      · rintro k W W' ⟨h1, h2, h3, h4, ⟨S, hS1, hS2⟩, h5⟩ hz2 hl
        have hz6 := Hz6.out; have hg0 := Hg.out; have hz4 := Hz4.out; have hzl := Hzl.out
        refine ⟨(hl.block _ h1.lt (by omega)).trans h1, (hl.block _ h2.lt (by omega)).trans h2, (hl.cell (p := ⟨wl.heap.size, 0, none⟩) (World.block_lt_of_cell? _ _ h3) (by simp only; omega)).trans h3, row_kept h4 hl (by omega), ⟨S, hS1.keep hl (fun i _ hi h => by rcases hS2 i hi with h' | h' <;> omega), hS2⟩, h5.trans hl (fun i hi h => by omega)⟩
      · intro rr
        have hk : Keeps (fun _ => False) w6 ((w6.alloc (.deferred (some []))).alloc (.loop rr)) := ((Keeps.refl _ w6).alloc _).alloc _
        have hkl6 := Hk6.out.trans hk (fun _ _ h => h)
        exact ⟨(hkl6.block _ Hq1.out.lt (fun h => h)).trans Hq1.out, (hkl6.block _ Ho1.out.lt (fun h => h)).trans Ho1.out, ((show Boxed _ _ _ _ from (hk.block _ Hbn.out.lt (fun h => h)).trans Hbn.out)).cell, row_kept (row_kept Hr1.out Hk6.out) hk, ⟨_, HT6.out.keep hk (fun _ _ _ h => h), fun i h => .inl h⟩, hk.mono (fun _ _ h => h.elim)⟩
      case assign =>
        intro W x y K hK
        gi_wp2
        exact hK
      case body =>
        rintro k x y gg W0 W ⟨_, _, _, _, ⟨S, hS1, hS2⟩, _⟩ hgg hlo hloops ⟨h1, h2, h3, h4, _, h5⟩ hxy _ hhi c0 c1
        -- the tape's own blocks lie below the variable's
        have hz6 := Hz6.out; have hg0 := Hg.out; have hz4 := Hz4.out; have hzl := Hzl.out
        have hS3 : qAt W (fun i => S i ∧ i < W0.heap.size) q (evsC q l0 ((nl N r).take k)) := (hS1.mono (fun i hi h => ⟨h, hi⟩)).keep hloops (fun i _ hi h => by rcases hS2 i hi.1 with h' | h' <;> omega)
        have hm := nl_mem r (by rw [← HN.out]; exact Nat.dvd_refl _) (List.mem_of_getElem? hxy)
        simp only at hm
        obtain ⟨hx, hy, hxy'⟩ := hm
        have hfl : (foldK (nl N r) ks k).length = N := by rw [foldK_length, hkl]
        obtain ⟨ka, hka⟩ : ∃ a, (foldK (nl N r) ks k)[x]? = some a := ⟨(foldK (nl N r) ks k)[x]'(by omega), by simp⟩
        obtain ⟨kb, hkb⟩ : ∃ b, (foldK (nl N r) ks k)[y]? = some b := ⟨(foldK (nl N r) ks k)[y]'(by omega), by simp⟩
        have hIK : ∀ z ∈ foldK (nl N r) ks k, IsK z := fun z hz => Hkk.out z ((fold_perm ((nl N r).take k) ks (fun c hc => by
          have := nl_mem r (n := N) (by rw [← HN.out]; exact Nat.dvd_refl _) (List.mem_of_mem_take hc)
          rw [hkl]; exact ⟨this.1, this.2.1⟩)).mem_iff.1 hz)
        have hKa := hIK ka (List.mem_of_getElem? hka)
        have hKb := hIK kb (List.mem_of_getElem? hkb)
        have hLk := lo_hi_key hKa hKb
        have a0 := h1.cell
        have hx0 : (0 : Int) ≤ (x : Int) := by omega
        have hy0 : (0 : Int) ≤ (y : Int) := by omega
        have hxN : (x : Int) < (N : Int) := by omega
        have hyN : (y : Int) < (N : Int) := by omega
        have H1 := Lib.hid h1
        have H2 := Lib.hid h2
        have H3 := Lib.hid h3
        have H4 := Lib.hid h4
        have H5 := Lib.hid h5
        have HS2 := Lib.hid hS2
        have HS3 := Lib.hid hS3
        have Hxy := Lib.hid hxy
        have Hka := Lib.hid hka
        have Hkb := Lib.hid hkb
        have HLk := Lib.hid hLk
        have Hlb := Lib.hid (nl_bound hr HN.out)
        have Hloops := Lib.hid hloops
        have Hgg := Lib.hid hgg
        have Hlo := Lib.hid hlo
        clear h1 h2 h3 h4 h5 hS1 hS2 hS3 hxy hka hkb hLk hIK hloops hgg hlo hz6 hg0 hz4 hzl
        gi_wp2_with fail
        refine ⟨trivial, ?_⟩
        refine (CallsIn.inRound _ (callsIn_wide.2 (note_c q _ l0 (nl N r) k x y W HS3.out Hxy.out (by omega) (by omega) Hlb.out hl0))).mono ?_
        rintro e W1 ⟨rfl, hq1, hkn⟩
        have hz6 := Hz6.out; have hg0 := Hg.out; have hz4 := Hz4.out; have hzl := Hzl.out
        have hgS : ¬ (S g ∧ g < W0.heap.size) := fun h => by rcases HS2.out g h.1 with h' | h' <;> omega
        have hboS : ¬ (S (g + 1) ∧ g + 1 < W0.heap.size) := fun h => by rcases HS2.out (g + 1) h.1 with h' | h' <;> omega
        have hggS : ¬ (S gg ∧ gg < W0.heap.size) := fun h => by have := Hgg.out; omega
        have hr1 := row_kept H4.out hkn hgS
        have a0 := (hkn.cell (p := ⟨g + 1, 0, none⟩) H2.out.lt hboS).trans H2.out.cell
        have c0 := (hkn.cell (p := ⟨gg, 0, none⟩) hhi hggS).trans c0
        have c1 := (hkn.cell (p := ⟨gg, 1, none⟩) hhi hggS).trans c1
        have hrx : ((foldK (nl N r) ks k).map unkey)[x]? = some (unkey ka) := by rw [List.getElem?_map, Hka.out]; rfl
        have hry : ((foldK (nl N r) ks k).map unkey)[y]? = some (unkey kb) := by rw [List.getElem?_map, Hkb.out]; rfl
        have cc := fun (W2 : World) (hW2 : W2.ownsRow w.heap.size 158 2 (.slice (some ⟨g, 0, none⟩) N N) N (rflat ((foldK (nl N r) ks k).map unkey))) => exch_calls g x y N N w.heap.size _ (unkey ka) (unkey kb) W2 hW2 (by rw [List.length_map, hfl]) hrx hry hxy' (unkey_ok hKa) (unkey_ok hKb)
        rw [HLk.out.1, HLk.out.2, ← unkey_cx Hka.out Hkb.out, ← foldK_succ Hxy.out] at cc
        have Hr1 := Lib.hid hr1
        have Hq1' := Lib.hid hq1
        have Hkn := Lib.hid hkn
        have HgS := Lib.hid hgS
        clear hr1 hq1 hkn hgS hboS hggS hrx hry hz6 hg0 hz4 hzl
        gi_wp2_with fail
        refine round_still_tail 8 (by kernel_rfl) (by kernel_rfl) (by kernel_rfl) (fun ⟨_, _, h⟩ => h) ?_
        simp only [List.take_succ_cons, List.take_zero, List.drop_succ_cons, List.drop_zero]
        repeat (first | still_step)
        refine wpStill_nil ?_
        go_wp2_with fail
        refine (cc W1.drew Hr1.out).mono ?_; clear cc; rintro e W2 ⟨rfl, hr2, hke⟩
        have hz6 := Hz6.out; have hg0 := Hg.out; have hz4 := Hz4.out; have hzl := Hzl.out
        have Kt : Keeps (fun i => (S i ∧ i < W0.heap.size) ∨ i = g) W W2 := ((Hkn.out.drewN 1).mono (T := fun i => (S i ∧ i < W0.heap.size) ∨ i = g) (fun i _ h => .inl h)).trans hke (fun i _ h => .inr h)
        have Hr2 := Lib.hid hr2
        have Hke := Lib.hid hke
        have HKt := Lib.hid Kt
        clear hr2 hke Kt hz6 hg0 hz4 hzl
        gi_wp2_with fail
        have hz6 := Hz6.out; have hg0 := Hg.out; have hz4 := Hz4.out; have hzl := Hzl.out
        have Kt := HKt.out
        have hSw : ∀ i, (S i ∧ i < W0.heap.size) → (S0 i ∧ i < w.heap.size) ∨ w6.heap.size + 2 ≤ i := fun i h => HS2.out i h.1
        have hlo := Hlo.out
        have hgg := Hgg.out
        have hWW : w6.heap.size + 2 ≤ W.heap.size := by omega
        have two : ∀ i, w6.heap.size ≤ i → i < w6.heap.size + 2 → ¬ ((S i ∧ i < W0.heap.size) ∨ i = g) := fun i h1 h2 h => by
          rcases h with h | h
          · rcases hSw i h with h' | h' <;> omega
          · omega
        have nb : ∀ i, w.heap.size ≤ i → i < w6.heap.size → i ≠ g → ¬ ((S i ∧ i < W0.heap.size) ∨ i = g) := fun i h1 h2 h3 h => by
          rcases h with h | h
          · rcases hSw i h with h' | h' <;> omega
          · exact h3 h
        refine ⟨⟨Kt.block _ (by omega) (two _ (by omega) (by omega)), Kt.block _ (by omega) (two _ (by omega) (by omega))⟩, Nat.le_trans hWW Kt.size, (Kt.block _ H1.out.lt (nb _ (by omega) (by omega) (by omega))).trans H1.out, (Kt.block _ H2.out.lt (nb _ (by omega) (by omega) (by omega))).trans H2.out,
          (Kt.cell (p := ⟨wl.heap.size, 0, none⟩) (World.block_lt_of_cell? _ _ H3.out) (nb wl.heap.size (by omega) (by omega) (by omega))).trans H3.out, Hr2.out, ⟨fun i => (S i ∧ i < W0.heap.size) ∨ W.heap.size ≤ i, ?_, ?_⟩, ?_⟩
        · exact Hq1'.out.keep (((Keeps.refl (fun i => i = g) W1).drewN 1).trans Hke.out (fun _ _ h => h)) (fun i _ hi h => by
            rcases hi with hi | hi
            · rw [h] at hi; exact HgS.out hi
            · omega)
        · intro i hi
          rcases hi with hi | hi
          · exact hSw i hi
          · right; omega
        · exact H5.out.trans Kt (fun i hi h => by
            rcases h with h | h
            · rcases hSw i h with h' | h'
              · exact .inl h'
              · omega
            · exact .inr h)
      case done =>
        rintro W ⟨h1, h2, h3, h4, ⟨S, hS1, hS2⟩, h5⟩ hz2 hdd
        have hfin : foldK (nl N r) ks (nl N r).length = (nl N r).foldl cx ks := by unfold foldK; rw [List.take_length]
        rw [hfin] at h4
        rw [List.take_length] at hS1
        have a0 := h2.cell
        have hln : (l.length : Int) ≤ (N : Int) := by omega
        have Hrr := Lib.hid h4
        have HSS := Lib.hid hS1
        have HS2 := Lib.hid hS2
        have H5 := Lib.hid h5
        clear h1 h2 h3 h4 h5 hS1 hS2 hfin
        go_wp2_with fail
        have hz6 := Hz6.out; have hg0 := Hg.out; have hz4 := Hz4.out; have hzl := Hzl.out
        have hkp := nw.keeps_putObj W w6.heap.size (.deferred none)
        refine ⟨by simp, .inl ⟨_, _, rfl, run_takeDeferred hdd, ⟨_, results_tmp rfl _ _ _, g, rfl, by omega, ?_, ⟨S, ?_, ?_, ?_⟩, ?_⟩⟩⟩
        · rw [Hks.out]
          exact ownsRow_putObj Hrr.out _ hdd rfl
        · exact HSS.out.keep hkp (fun i _ hi h => by rcases HS2.out i hi with h' | h' <;> omega)
        · intro i hi
          rcases HS2.out i hi with h' | h'
          · exact .inl h'.1
          · right; omega
        · intro hi
          rcases HS2.out g hi with h' | h' <;> omega
        · have k1 : Keeps S0 w wl := (show Keeps S0 w w4 from Hk34.out.mono (fun _ _ h => h.elim)).trans Hk1.out (fun i hi h => by omega)
          have k2 : Keeps S0 w W := (k1.trans Hk6.out (fun _ _ h => h.elim)).trans H5.out (fun i hi h => by
            rcases h with h | h
            · exact h.1
            · omega)
          exact k2.trans hkp (fun i hi h => by omega)
end Go.Proofs.YtmoajobnhiopiaaGreatDoor.so
set_option linter.unusedSimpArgs false
set_option linter.unusedVariables false
namespace Go.Proofs.YtmoajobnhiopiaaGreatDoor.so
open Go Go.RowKit Go.Shelf Go.Proofs.YtmoajobnhiopiaaGreatDoor.mk Go.Proofs.YtmoajobnhiopiaaGreatDoor.nw Go.Proofs.YtmoajobnhiopiaaGreatDoor.tp Go.Proofs.YtmoajobnhiopiaaGreatDoor.rg Go.Proofs.YtmoajobnhiopiaaGreatDoor.ar
def sortK (l : List Rec) : List Int := (l.map keyR).mergeSort (fun a b => decide (a ≤ b))
theorem sortK_perm (l : List Rec) : (sortK l).Perm (l.map keyR) := List.mergeSort_perm _ _
theorem sortK_sorted (l : List Rec) : (sortK l).Pairwise (· ≤ ·) := by
  have := List.pairwise_mergeSort (le := fun a b : Int => decide (a ≤ b)) (fun a b c h1 h2 => by simp at *; omega) (fun a b => by simp; omega) (l.map keyR)
  exact this.imp (fun h => by simpa using h)
theorem sortK_length (l : List Rec) : (sortK l).length = l.length := by rw [(sortK_perm l).length_eq, List.length_map]
theorem sortK_isK {l : List Rec} (hok : Recs l) : ∀ k ∈ sortK l, IsK k := by
  intro k hk
  obtain ⟨r, hr, rfl⟩ := List.mem_map.1 ((sortK_perm l).mem_iff.1 hk)
  exact keyR_isK (hok r hr)
def sortR (l : List Rec) : List Rec := (sortK l).map unkey
theorem sortR_length (l : List Rec) : (sortR l).length = l.length := by unfold sortR; rw [List.length_map, sortK_length]
theorem sortR_ok {l : List Rec} (hok : Recs l) : Recs (sortR l) := by
  intro r hr
  obtain ⟨k, hk, rfl⟩ := List.mem_map.1 hr
  exact unkey_ok (sortK_isK hok k hk)
theorem net_sortK {r N : Nat} (hN : N = 2 ^ r) {l : List Rec} (hok : Recs l) (hlN : l.length ≤ N) : (nl N r).foldl cx (l.map keyR ++ List.replicate (N - l.length) 18446744073709551616) = sortK l ++ List.replicate (N - l.length) 18446744073709551616 := by
  have hlen : (l.map keyR ++ List.replicate (N - l.length) (18446744073709551616 : Int)).length = 2 ^ r := by rw [List.length_append, List.length_map, List.length_replicate, ← hN]; omega
  rw [hN] at hlen ⊢
  rw [← hN] at hlen ⊢
  have h1 := nl_sorts (r := r) (by rw [hlen, hN])
  have h2 := nl_perm (r := r) (l := l.map keyR ++ List.replicate (N - l.length) (18446744073709551616 : Int)) (by rw [hlen, hN])
  rw [← hN] at h1 h2
  refine sorted_unique h1 ?_ (h2.trans ((sortK_perm l).symm.append_right _))
  rw [List.pairwise_append]
  refine ⟨sortK_sorted l, List.pairwise_replicate.2 (.inr (Int.le_refl _)), fun a ha b hb => ?_⟩
  rw [List.eq_of_mem_replicate hb]
  exact (sortK_isK hok a ha).2
def netOf (n : Nat) : List (Nat × Nat) := if n = 0 then [] else nl (2 ^ lenN (n - 1)) (lenN (n - 1))
theorem size_net {n : Nat} (h0 : n ≠ 0) (h1 : n ≤ 4096) : lenN (n - 1) ≤ 12 ∧ sizeI (n : Int) = ((2 ^ lenN (n - 1) : Nat) : Int) ∧ n ≤ 2 ^ lenN (n - 1) ∧ netOf n = nl (2 ^ lenN (n - 1)) (lenN (n - 1)) := by
  refine ⟨lenN_le (by omega), ?_, ?_, by unfold netOf; rw [if_neg h0]⟩
  · unfold sizeI
    rw [if_neg (by omega), show ((n : Int) - 1).toNat = n - 1 by omega]
  · have := (lenN_spec (x := n - 1) (r := lenN (n - 1))).1 (Nat.le_refl _)
    omega
theorem rec_of_row {w : World} {base g n cap c : Nat} {L : List Rec} (h : w.ownsRow base 158 2 (.slice (some ⟨g, 0, none⟩) n cap) n (rflat L)) (hL : L.length = n) (l : List Rec) (hl : ∀ (i : Nat) (r : Rec), l[i]? = some r → L[i]? = some r) : recAt w (.slice (some ⟨g, 0, none⟩) l.length c) l := by
  by_cases hne : l = []
  · subst hne
    exact .inl ⟨rfl, _, _, rfl⟩
  · refine .inr ⟨hne, g, 0, c, rfl, (h.lt g rfl).2, fun i r hi => ?_⟩
    obtain ⟨g1, g2⟩ := rflat_get L i r (hl i r hi)
    have hlt := (List.getElem?_eq_some_iff.1 (hl i r hi)).1
    rw [Nat.zero_add, Nat.zero_add]
    exact ⟨(h.cellAt (i * 2) (by omega)).trans g1, (h.cellAt (i * 2 + 1) (by omega)).trans g2⟩
def Sorted (q : Option Addr) (l0 : List Ev) (S0 : Nat → Prop) (l : List Rec) (w : World) (e : Ending) (w' : World) : Prop :=
  ∃ v', e = .returned v' ∧ recAt w' v' (sortR l) ∧ (∀ g, v'.ownBlock = some g → w.heap.size ≤ g) ∧ (∃ S, qAt w' S q (evsC q l0 (netOf l.length)) ∧ (∀ i, S i → S0 i ∨ w.heap.size ≤ i) ∧ ∀ g, v'.ownBlock = some g → ¬ S g) ∧ Keeps S0 w w'
theorem sort_any (q : Option Addr) (l0 : List Ev) (S0 : Nat → Prop) (v : Value) (l : List Rec) (w : World) (hT : qAt w S0 q l0) (hl0 : l0.length ≤ 549755813888) (hv : recAt w v l) (hl : l.length ≤ 4096) (hok : Recs l) (hS : l ≠ [] → ∀ g, v.ownBlock = some g → ¬ S0 g) :
    Calls Tryz.prog 126 #[.pointer q, v] w (Sorted q l0 S0 l w) := by
  rcases hv with ⟨rfl, ao, cap, rfl⟩ | ⟨hne, b, off, cap, rfl, hb, hc⟩
  · refine (sort_nil q ao cap w).mono fun e w' ⟨he, hk⟩ => ⟨_, he, .inl ⟨by unfold sortR sortK; simp, _, _, rfl⟩, fun g h => (by cases h), ⟨S0, ?_, fun i h => .inl h, fun g h => (by cases h)⟩, hk.mono (fun _ _ h => h.elim)⟩
    have h2 := hT.keep hk (fun _ _ _ h => h)
    rcases h2 with ⟨rfl, rfl⟩ | ⟨b', rfl, ht⟩
    · exact .inl ⟨rfl, rfl⟩
    · exact .inr ⟨b', rfl, by simpa [evsC, netOf] using ht⟩
  · have h0 : l.length ≠ 0 := fun h => hne (List.eq_nil_of_length_eq_zero h)
    obtain ⟨hr, hsz, hlN, hnet⟩ := size_net h0 hl
    refine (sort_some q l0 S0 b off cap l (lenN (l.length - 1)) (2 ^ lenN (l.length - 1)) w hT hl0 hr rfl hsz hlN hne hb hc (hS hne b rfl) hok).mono ?_
    rintro e w' ⟨g, he, hg, hrow, ⟨S, h1, h2, h3⟩, hk⟩
    rw [net_sortK rfl hok hlN] at hrow
    refine ⟨_, he, ?_, fun g' h => (by cases h; exact hg), ⟨S, by rw [hnet]; exact h1, h2, fun g' h => (by cases h; exact h3)⟩, hk⟩
    have := rec_of_row (c := l.length) hrow (by rw [List.length_map, List.length_append, sortK_length, List.length_replicate]; omega) (sortR l) (fun i r hi => by
      rw [List.map_append, List.getElem?_append_left (by rw [List.length_map, sortK_length, ← sortR_length]; exact (List.getElem?_eq_some_iff.1 hi).1)]
      exact hi)
    rw [sortR_length] at this
    exact this
end Go.Proofs.YtmoajobnhiopiaaGreatDoor.so
set_option linter.unusedSimpArgs false
set_option linter.unusedVariables false
namespace Go.Proofs.YtmoajobnhiopiaaGreatDoor.sv
open Go Go.RowKit Go.Shelf Go.Maps Go.Proofs.YtmoajobnhiopiaaGreatDoor.mk Go.Proofs.YtmoajobnhiopiaaGreatDoor.tp Go.Proofs.YtmoajobnhiopiaaGreatDoor.rg Go.Proofs.YtmoajobnhiopiaaGreatDoor.lm Go.Proofs.YtmoajobnhiopiaaGreatDoor.gm Go.Proofs.YtmoajobnhiopiaaGreatDoor.po
open List renaming getElem_toArray → ga, getElem_cons_zero → gb, getElem_cons_succ → gc, setIfInBounds_toArray → gd, set_cons_zero → ge, set_cons_succ → gf
set_option maxRecDepth 100000 in
theorem bcheck_calls (v : Value) (l : List Reg) (n : Nat) (h1 : 1 ≤ n) (h4 : n ≤ 4096) (hf : FenOk l) (w : World) (h : regsAt w v l) : Calls Tryz.prog 122 #[v, .int .i64 n] w fun e w' => e = .returned (.int .i64 0) ∧ Keeps (fun _ => False) w w' := by
  have HCK := Lib.hid (fcheck_calls v l hf w h)
  have h1' : ¬ (n : Int) < 1 := by omega
  have h4' : ¬ 4096 < (n : Int) := by omega
  clear h hf h1 h4
  go_enter Tryz.func122, Tryz.ntmps122
  go_wp2_with fail
  refine HCK.out.mono ?_; rintro e w1 ⟨rfl, hk1⟩
  go_wp2_with fail
  go_ret
  exact ⟨rfl, hk1⟩
def recC (c : Bool) (rs : List Reg) (q : Qry) : Int × Int := if (c && memF rs q.1) = true then (1, q.2) else (0, 0)
theorem clean_recC (c : Bool) (rs : List Reg) (q : Qry) : so.cleanR (maskI (c && memF rs q.1), q.2) = recC c rs q := by
  unfold so.cleanR recC
  cases (c && memF rs q.1)
  · simp [maskI]
  · have : maskI true % 2 = 1 := by decide
    simp [this]
theorem recC_ok {c : Bool} {rs : List Reg} {q : Qry} (h : IsU q.2) : IsU (recC c rs q).1 ∧ IsU (recC c rs q).2 := by
  unfold recC
  split
  · exact ⟨by show IsU 1; unfold IsU; decide, h⟩
  · exact ⟨by show IsU 0; unfold IsU; decide, by show IsU 0; unfold IsU; decide⟩
theorem results_rec {fn : Func} {p : Tmp} (h : fn.results = #[.cell p 158]) (tmps : Array Value) (w : World) (g : Nat) (t : TypeId) (x y : Value) (fr : Nat × Nat)
    (hp : tmps.getD p undef = .pointer (some ⟨g, 0, none⟩)) (hg : w.heap[g]? = some (.cells #[x, y] t fr)) : (results fn tmps).run Tryz.prog w = .ok (.agg #[x, y]) w := by
  rw [resultsV_cell1 h, hp]
  have e := run_loadVar_row (P := Tryz.prog) w g t 158 #[x, y] fr _ hg Tryz.underlying158 rfl (by kernel_rfl)
  simp [asAddr, e, Result.andThen]
set_option maxRecDepth 100000 in
set_option maxHeartbeats 4000000 in
theorem crec_calls (gt gv gl gq i : Nat) (c : Bool) (al aq : Option Addr) (kl cl n cq : Nat) (rs : List Reg) (qs : List Qry) (hf : FenOk rs) (hqo : QsOk qs) (hn : n = qs.length) (hi : i < n) (w : World) (hG : Gl w)
    (hct : w.cell? ⟨gt, 0, none⟩ = some (.pointer none)) (hcv : w.cell? ⟨gv, 0, none⟩ = some (.int .u64 (maskI c))) (hcl : w.cell? ⟨gl, 0, none⟩ = some (.slice al kl cl)) (hcq : w.cell? ⟨gq, 0, none⟩ = some (.slice aq n cq))
    (hgt : gt < w.heap.size) (hgv : gv < w.heap.size) (hgl : gl < w.heap.size) (hgq : gq < w.heap.size) (hr : regsAt w (.slice al kl cl) rs) (hq : qsAt w (.slice aq n cq) qs) :
    Calls Tryz.prog 144 #[.int .i64 i, .pointer (some ⟨gt, 0, none⟩), .pointer (some ⟨gv, 0, none⟩), .pointer (some ⟨gl, 0, none⟩), .pointer (some ⟨gq, 0, none⟩)] w fun e w' => e = .returned (.agg #[.int .u64 (recC c rs (qy qs i)).1, .int .u64 (recC c rs (qy qs i)).2]) ∧ Keeps (fun _ => False) w w' := by
  obtain ⟨bq, oq, rfl, hbq, hcc⟩ : ∃ bq oq, aq = some ⟨bq, oq, none⟩ ∧ bq < w.heap.size ∧ ∀ i, i < qs.length → w.cell? ⟨bq, oq + i * 3, none⟩ = some (.int .i64 (qy qs i).1.1) ∧ w.cell? ⟨bq, oq + i * 3 + 1, none⟩ = some (.int .i64 (qy qs i).1.2) ∧ w.cell? ⟨bq, oq + i * 3 + 2, none⟩ = some (.int .u64 (qy qs i).2) := by
    rcases hq with ⟨h0, _⟩ | ⟨b, o, cc, hv, hb, hc⟩
    · rw [h0] at hn; simp at hn; omega
    · injection hv with h1 h2 h3
      exact ⟨b, o, h1, hb, hc⟩
  obtain ⟨q0, q1, q2⟩ := hcc i (by omega)
  obtain ⟨hpp, hud⟩ := hqo.at i
  have hcr := clean_recC c rs (qy qs i)
  obtain ⟨p, hp⟩ : ∃ p, (qy qs i).1 = p := ⟨_, rfl⟩
  obtain ⟨d, hd⟩ : ∃ d, (qy qs i).2 = d := ⟨_, rfl⟩
  obtain ⟨mm, hm⟩ : ∃ m, memF rs p = m := ⟨_, rfl⟩
  obtain ⟨rr, hrr⟩ : ∃ r, recC c rs (qy qs i) = r := ⟨_, rfl⟩
  rw [hp] at hcr q0 q1 hpp
  rw [hd] at hcr q2 hud
  rw [hm, hrr] at hcr
  rw [hrr]
  have HM := Lib.hid hm
  have HU := Lib.hid hud
  have HCR := Lib.hid hcr
  have HF := Lib.hid hf
  have HG := Lib.hid hG
  have HR := Lib.hid hr
  have hi0 : (0 : Int) ≤ (i : Int) := by omega
  have hiI : (i : Int) < (n : Int) := by omega
  have ham := and_masksF c mm
  clear hq hcc hp hd hm hrr hcr hud hf hG hr hqo hn
  go_enter Tryz.func144, Tryz.ntmps144
  go_upto_region 1 with fail
  obtain ⟨w1, hw1⟩ : ∃ w1, w.alloc (.cells #[.int .u64 0, .int .u64 0] 158) = w1 := ⟨_, rfl⟩
  obtain ⟨g0, hg0⟩ : ∃ g, w.heap.size = g := ⟨_, rfl⟩
  have hgo := heap_alloc_new w (.cells #[.int .u64 0, .int .u64 0] 158)
  have hk1 : Keeps (fun _ => False) w w1 := by rw [← hw1]; exact (Keeps.refl _ w).alloc _
  rw [hw1, hg0] at hgo
  rw [hw1]
  try rw [hg0]
  have HG0 := Lib.hid hg0
  have ct := (hk1.cell (p := ⟨gt, 0, none⟩) hgt (fun h => h)).trans hct
  have cv := (hk1.cell (p := ⟨gv, 0, none⟩) hgv (fun h => h)).trans hcv
  have cl' := (hk1.cell (p := ⟨gl, 0, none⟩) hgl (fun h => h)).trans hcl
  have cq' := (hk1.cell (p := ⟨gq, 0, none⟩) hgq (fun h => h)).trans hcq
  have r0 := (hk1.cell (p := ⟨bq, oq + i * 3, none⟩) hbq (fun h => h)).trans q0
  have r1 := (hk1.cell (p := ⟨bq, oq + i * 3 + 1, none⟩) hbq (fun h => h)).trans q1
  have r2 := (hk1.cell (p := ⟨bq, oq + i * 3 + 2, none⟩) hbq (fun h => h)).trans q2
  have hgt := Nat.lt_of_lt_of_le hgt hk1.size
  have hgv := Nat.lt_of_lt_of_le hgv hk1.size
  have hgl := Nat.lt_of_lt_of_le hgl hk1.size
  have hgq := Nat.lt_of_lt_of_le hgq hk1.size
  have hbq := Nat.lt_of_lt_of_le hbq hk1.size
  have hg0l : g0 < w1.heap.size := (Array.getElem?_eq_some_iff.1 hgo).1
  have HO := Lib.hid hgo
  clear hw1 hgo hct hcv hcl hcq q0 q1 q2 hg0
  go_wp2_with fail
  refine (noteN 8 i 0 _).mono ?_; rintro e wn ⟨rfl, hwn⟩
  rw [hwn]
  clear hwn wn
  go_wp2_with fail
  refine wp_region_late (fun W => W.cell? ⟨gv, 0, none⟩ = some (.int .u64 (maskI c)) ∧ W.cell? ⟨gt, 0, none⟩ = some (.pointer none) ∧ W.cell? ⟨gl, 0, none⟩ = some (.slice al kl cl) ∧ W.cell? ⟨gq, 0, none⟩ = some (.slice (some ⟨bq, oq, none⟩) n cq) ∧ W.cell? ⟨bq, oq + i * 3, none⟩ = some (.int .i64 p.1) ∧ W.cell? ⟨bq, oq + i * 3 + 1, none⟩ = some (.int .i64 p.2) ∧ W.cell? ⟨bq, oq + i * 3 + 2, none⟩ = some (.int .u64 d)) [17] (by kernel_rfl) ?_
  have hS : w1.drew.cell? ⟨gv, 0, none⟩ = some (.int .u64 (maskI c)) ∧ w1.drew.cell? ⟨gt, 0, none⟩ = some (.pointer none) ∧ w1.drew.cell? ⟨gl, 0, none⟩ = some (.slice al kl cl) ∧ w1.drew.cell? ⟨gq, 0, none⟩ = some (.slice (some ⟨bq, oq, none⟩) n cq) ∧ w1.drew.cell? ⟨bq, oq + i * 3, none⟩ = some (.int .i64 p.1) ∧ w1.drew.cell? ⟨bq, oq + i * 3 + 1, none⟩ = some (.int .i64 p.2) ∧ w1.drew.cell? ⟨bq, oq + i * 3 + 2, none⟩ = some (.int .u64 d) := ⟨cv, ct, cl', cq', r0, r1, r2⟩
  have hkd : Keeps (fun _ => False) w w1.drew := hk1.drewN 1
  have HO := Lib.hid (show w1.drew.heap[g0]? = some (.cells #[.int .u64 0, .int .u64 0] 158 (0, 0)) from HO.out)
  have hgt : gt < w1.drew.heap.size := hgt
  have hgv : gv < w1.drew.heap.size := hgv
  have hgl : gl < w1.drew.heap.size := hgl
  have hgq : gq < w1.drew.heap.size := hgq
  have hbq : bq < w1.drew.heap.size := hbq
  have hg0l : g0 < w1.drew.heap.size := hg0l
  clear cv ct cl' cq' r0 r1 r2
  generalize w1.drew = wd at hS hkd HO hgt hgv hgl hgq hbq hg0l ⊢
  refine tkL 0 (.int .u64 (maskI c)) rfl (by kernel_rfl) (fun _ _ _ h => (h : False).elim) (by kernel_rfl) ‹_› ?_ ?_
  · intro w hSw
    obtain ⟨s0, s1, s2, s3, s4, s5, s6⟩ := hSw
    go_simp
  try simp only [ga, gb, gc, Act.put, gd, ge, gf]
  refine tkL 1 (.pointer none) rfl (by kernel_rfl) (fun _ _ _ h => (h : False).elim) (by kernel_rfl) ‹_› ?_ ?_
  · intro w hSw
    obtain ⟨s0, s1, s2, s3, s4, s5, s6⟩ := hSw
    go_simp
  try simp only [ga, gb, gc, Act.put, gd, ge, gf]
  refine tkL 2 (.slice al kl cl) rfl (by kernel_rfl) (fun _ _ _ h => (h : False).elim) (by kernel_rfl) ‹_› ?_ ?_
  · intro w hSw
    obtain ⟨s0, s1, s2, s3, s4, s5, s6⟩ := hSw
    go_simp
  try simp only [ga, gb, gc, Act.put, gd, ge, gf]
  refine tkL 3 (.slice (some ⟨bq, oq, none⟩) n cq) rfl (by kernel_rfl) (fun _ _ _ h => (h : False).elim) (by kernel_rfl) ‹_› ?_ ?_
  · intro w hSw
    obtain ⟨s0, s1, s2, s3, s4, s5, s6⟩ := hSw
    go_simp
  try simp only [ga, gb, gc, Act.put, gd, ge, gf]
  refine tkA 4 (.int .i64 i) rfl (by kernel_rfl) (fun _ _ _ h => (h : False).elim) (by kernel_rfl) (fun _ => ‹_›) ?_ ?_
  · intro w _; go_simp
  try simp only [ga, gb, gc, Act.put, gd, ge, gf]
  refine tkA 5 (.pointer (some ⟨bq, oq + i * 3, none⟩)) rfl (by kernel_rfl) (fun _ _ _ h => (h : False).elim) (by kernel_rfl) (fun _ => ‹_›) ?_ ?_
  · intro w _; go_simp
  try simp only [ga, gb, gc, Act.put, gd, ge, gf]
  refine tkA 6 (.pointer (some ⟨bq, oq + i * 3, none⟩)) rfl (by kernel_rfl) (fun _ _ _ h => (h : False).elim) (by kernel_rfl) (fun _ => ‹_›) ?_ ?_
  · intro w _; go_simp
  try simp only [ga, gb, gc, Act.put, gd, ge, gf]
  refine tkL 7 (.agg #[.int .i64 p.1, .int .i64 p.2]) rfl (by kernel_rfl) (fun _ _ _ h => (h : False).elim) (by kernel_rfl) ‹_› ?_ ?_
  · intro w hSw
    obtain ⟨s0, s1, s2, s3, s4, s5, s6⟩ := hSw
    go_simp
  try simp only [ga, gb, gc, Act.put, gd, ge, gf]
  refine tkL 10 (.slice (some ⟨bq, oq, none⟩) n cq) rfl (by kernel_rfl) (fun _ _ _ h => (h : False).elim) (by kernel_rfl) ‹_› ?_ ?_
  · intro w hSw
    obtain ⟨s0, s1, s2, s3, s4, s5, s6⟩ := hSw
    go_simp
  try simp only [ga, gb, gc, Act.put, gd, ge, gf]
  refine tkA 11 (.int .i64 i) rfl (by kernel_rfl) (fun _ _ _ h => (h : False).elim) (by kernel_rfl) (fun _ => ‹_›) ?_ ?_
  · intro w _; go_simp
  try simp only [ga, gb, gc, Act.put, gd, ge, gf]
  refine tkA 12 (.pointer (some ⟨bq, oq + i * 3, none⟩)) rfl (by kernel_rfl) (fun _ _ _ h => (h : False).elim) (by kernel_rfl) (fun _ => ‹_›) ?_ ?_
  · intro w _; go_simp
  try simp only [ga, gb, gc, Act.put, gd, ge, gf]
  refine tkA 13 (.pointer (some ⟨bq, oq + i * 3 + 2, none⟩)) rfl (by kernel_rfl) (fun _ _ _ h => (h : False).elim) (by kernel_rfl) (fun _ => ‹_›) ?_ ?_
  · intro w _; go_simp
  try simp only [ga, gb, gc, Act.put, gd, ge, gf]
  refine tkL 14 (.int .u64 d) rfl (by kernel_rfl) (fun _ _ _ h => (h : False).elim) (by kernel_rfl) ‹_› ?_ ?_
  · intro w hSw
    obtain ⟨s0, s1, s2, s3, s4, s5, s6⟩ := hSw
    go_simp
  try simp only [ga, gb, gc, Act.put, gd, ge, gf]
  refine wpAnyL_next (i := 8) (by kernel_rfl) rfl (fun K hK => ?_)
  go_simp
  refine (fmember_calls _ rs p HF.out hpp wd (HG.out.kept hkd) (HR.out.kept hkd)).mono ?_; rintro e x1 ⟨rfl, hx1⟩
  rw [HM.out]
  have hS1 : x1.cell? ⟨gv, 0, none⟩ = some (.int .u64 (maskI c)) ∧ x1.cell? ⟨gt, 0, none⟩ = some (.pointer none) ∧ x1.cell? ⟨gl, 0, none⟩ = some (.slice al kl cl) ∧ x1.cell? ⟨gq, 0, none⟩ = some (.slice (some ⟨bq, oq, none⟩) n cq) ∧ x1.cell? ⟨bq, oq + i * 3, none⟩ = some (.int .i64 p.1) ∧ x1.cell? ⟨bq, oq + i * 3 + 1, none⟩ = some (.int .i64 p.2) ∧ x1.cell? ⟨bq, oq + i * 3 + 2, none⟩ = some (.int .u64 d) := ⟨(hx1.cell (p := ⟨gv, 0, none⟩) hgv (fun h => h)).trans hS.1, (hx1.cell (p := ⟨gt, 0, none⟩) hgt (fun h => h)).trans hS.2.1, (hx1.cell (p := ⟨gl, 0, none⟩) hgl (fun h => h)).trans hS.2.2.1, (hx1.cell (p := ⟨gq, 0, none⟩) hgq (fun h => h)).trans hS.2.2.2.1, (hx1.cell (p := ⟨bq, oq + i * 3, none⟩) hbq (fun h => h)).trans hS.2.2.2.2.1, (hx1.cell (p := ⟨bq, oq + i * 3 + 1, none⟩) hbq (fun h => h)).trans hS.2.2.2.2.2.1, (hx1.cell (p := ⟨bq, oq + i * 3 + 2, none⟩) hbq (fun h => h)).trans hS.2.2.2.2.2.2⟩
  have hkd1 := knil hkd hx1
  have hgv1 := Nat.lt_of_lt_of_le hgv hx1.size
  have hgt1 := Nat.lt_of_lt_of_le hgt hx1.size
  have hgl1 := Nat.lt_of_lt_of_le hgl hx1.size
  have hgq1 := Nat.lt_of_lt_of_le hgq hx1.size
  have hbq1 := Nat.lt_of_lt_of_le hbq hx1.size
  have HO1 := Lib.hid ((hx1.block g0 hg0l (fun h => h)).trans HO.out)
  have hg01 := Nat.lt_of_lt_of_le hg0l hx1.size
  go_wp2_with fail
  refine hK.out _ _ hS1 (fun hHeld => ?_)
  clear hK K
  try simp only [ga, gb, gc, Act.put, gd, ge, gf]
  refine tkA 9 (.int .u64 (maskI (c && mm))) rfl (by kernel_rfl) (fun _ _ _ h => (h : False).elim) (by kernel_rfl) (fun _ => ‹_›) ?_ ?_
  · intro w _; go_simp
  try simp only [ga, gb, gc, Act.put, gd, ge, gf]
  refine tkA 15 (.agg #[.int .u64 (maskI (c && mm)), .int .u64 d]) rfl (by kernel_rfl) (fun _ _ _ h => (h : False).elim) (by kernel_rfl) (fun _ => ‹_›) ?_ ?_
  · intro w _; go_simp
  try simp only [ga, gb, gc, Act.put, gd, ge, gf]
  refine wpAnyL_next (i := 16) (by kernel_rfl) rfl (fun K hK => ?_)
  go_simp
  refine (so.sclean_calls (maskI (c && mm)) d (maskI_isU' _) HU.out x1).mono ?_; rintro e x2 ⟨rfl, hx2⟩
  rw [HCR.out]
  have hS2 : x2.cell? ⟨gv, 0, none⟩ = some (.int .u64 (maskI c)) ∧ x2.cell? ⟨gt, 0, none⟩ = some (.pointer none) ∧ x2.cell? ⟨gl, 0, none⟩ = some (.slice al kl cl) ∧ x2.cell? ⟨gq, 0, none⟩ = some (.slice (some ⟨bq, oq, none⟩) n cq) ∧ x2.cell? ⟨bq, oq + i * 3, none⟩ = some (.int .i64 p.1) ∧ x2.cell? ⟨bq, oq + i * 3 + 1, none⟩ = some (.int .i64 p.2) ∧ x2.cell? ⟨bq, oq + i * 3 + 2, none⟩ = some (.int .u64 d) := ⟨(hx2.cell (p := ⟨gv, 0, none⟩) hgv1 (fun h => h)).trans hS1.1, (hx2.cell (p := ⟨gt, 0, none⟩) hgt1 (fun h => h)).trans hS1.2.1, (hx2.cell (p := ⟨gl, 0, none⟩) hgl1 (fun h => h)).trans hS1.2.2.1, (hx2.cell (p := ⟨gq, 0, none⟩) hgq1 (fun h => h)).trans hS1.2.2.2.1, (hx2.cell (p := ⟨bq, oq + i * 3, none⟩) hbq1 (fun h => h)).trans hS1.2.2.2.2.1, (hx2.cell (p := ⟨bq, oq + i * 3 + 1, none⟩) hbq1 (fun h => h)).trans hS1.2.2.2.2.2.1, (hx2.cell (p := ⟨bq, oq + i * 3 + 2, none⟩) hbq1 (fun h => h)).trans hS1.2.2.2.2.2.2⟩
  have hkd2 := knil hkd1 hx2
  have HO2 := Lib.hid ((hx2.block g0 hg01 (fun h => h)).trans HO1.out)
  go_wp2_with fail
  refine hK.out _ _ hS2 (fun hHeld => ?_)
  clear hK K
  try simp only [ga, gb, gc, Act.put, gd, ge, gf]
  have e0 := two_frozen HO2.out 0
  have e1 := two_frozen HO2.out 1
  have f0 := cells_at HO2.out 0
  have f1 := cells_at HO2.out 1
  refine wpAnyL_late (i := 17) (by kernel_rfl) rfl (by kernel_rfl) (fun K hK => ?_)
  go_simp
  refine hK.out _ _ (fun _ => ?_)
  clear hK K
  try simp only [ga, gb, gc, Act.put, gd, ge, gf]
  refine wpAnyL_done (by kernel_rfl) ?_ _
  refine NoPanic.normal ?_
  clear hS hS1 hS2 e0 e1 f0 f1
  have hcf := cells_put (cells_put HO2.out 0 (.int .u64 rr.1)) 1 (.int .u64 rr.2)
  have HCF := Lib.hid hcf
  have hn0 : ∀ j, (⟨g0, j, none⟩ : Addr).block < w.heap.size → False := fun j h => by have h' : g0 < w.heap.size := h; have := HG0.out; omega
  have HKF := Lib.hid ((hkd2.setCell ⟨g0, 0, none⟩ (hn0 0) (.int .u64 rr.1)).setCell ⟨g0, 1, none⟩ (hn0 1) (.int .u64 rr.2))
  clear hcf hn0
  go_wp2_with fail
  exact bodyPost_ret (results_rec rfl _ _ _ _ _ _ _ rfl HCF.out) rfl ⟨rfl, HKF.out⟩
def mixC (c : Bool) (rs : List Reg) (qs : List Qry) (k : Nat) : List (Int × Int) := (List.range qs.length).map (fun i => if i < k then recC c rs (qy qs i) else (0, 0))
def recsC (c : Bool) (rs : List Reg) (qs : List Qry) : List (Int × Int) := qs.map (recC c rs)
theorem mixC_length (c : Bool) (rs : List Reg) (qs : List Qry) (k : Nat) : (mixC c rs qs k).length = qs.length := by unfold mixC; simp
theorem mixC_set {c : Bool} {rs : List Reg} {qs : List Qry} {k : Nat} (h : k < qs.length) : (mixC c rs qs k).set k (recC c rs (qy qs k)) = mixC c rs qs (k + 1) := by
  apply List.ext_getElem?
  intro i
  unfold mixC
  rw [List.getElem?_set]
  by_cases hik : k = i
  · subst hik
    simp [h]
  · rw [if_neg hik]
    by_cases hi : i < qs.length
    · simp only [List.getElem?_map, List.getElem?_range hi, Option.map_some]
      by_cases h1 : i < k
      · rw [if_pos h1, if_pos (by omega)]
      · rw [if_neg h1, if_neg (by omega)]
    · simp [List.getElem?_eq_none, hi]
theorem mixC_all (c : Bool) (rs : List Reg) (qs : List Qry) : mixC c rs qs qs.length = recsC c rs qs := by
  apply List.ext_getElem?
  intro i
  unfold mixC recsC
  by_cases hi : i < qs.length
  · simp only [List.getElem?_map, List.getElem?_range hi, Option.map_some, if_pos hi]
    have : qs[i]? = some (qy qs i) := by unfold qy; rw [List.getD_eq_getElem?_getD, List.getElem?_eq_getElem hi]; rfl
    rw [this]
    rfl
  · simp [List.getElem?_eq_none, hi]
theorem mixC_zero (c : Bool) (rs : List Reg) (qs : List Qry) : mixC c rs qs 0 = List.replicate qs.length (0, 0) := by
  unfold mixC
  apply List.ext_getElem?
  intro i
  by_cases hi : i < qs.length
  · simp [hi]
  · simp [List.getElem?_eq_none, hi]
theorem mixC_at {c : Bool} {rs : List Reg} {qs : List Qry} {k j : Nat} (h : j < qs.length) : (mixC c rs qs k)[j]? = some ((mixC c rs qs k).getD j (0, 0)) := by
  rw [List.getD_eq_getElem?_getD, List.getElem?_eq_getElem (by rw [mixC_length]; exact h)]
  rfl
theorem made_recs (n : Nat) : (madeCells (Value.agg #[.int .u64 0, .int .u64 0]).cells (n * 2)).toList = so.rflat (List.replicate n (0, 0)) := by
  apply List.ext_getElem?
  intro j
  by_cases hj : j < n * 2
  · have h2 : j / 2 < n := by omega
    have hg := so.rflat_get (List.replicate n (0, 0)) (j / 2) (0, 0) (by rw [List.getElem?_replicate, if_pos h2])
    rcases Nat.mod_two_eq_zero_or_one j with h | h
    · rw [show (so.rflat (List.replicate n (0, 0)))[j]? = (so.rflat (List.replicate n (0, 0)))[j / 2 * 2]? by rw [show j / 2 * 2 = j by omega], hg.1]
      simp [madeCells, Value.cells, hj, h]
    · rw [show (so.rflat (List.replicate n (0, 0)))[j]? = (so.rflat (List.replicate n (0, 0)))[j / 2 * 2 + 1]? by rw [show j / 2 * 2 + 1 = j by omega], hg.2]
      simp [madeCells, Value.cells, hj, h]
  · rw [List.getElem?_eq_none (by simp [madeCells]; omega), List.getElem?_eq_none (by rw [so.rflat_length]; simp; omega)]
theorem infoC : (Tryz.prog.info? 158).map (fun i => (i.zero, i.size, i.bytes)) = some (some (.agg #[.int .u64 0, .int .u64 0]), 2, 16) := by kernel_rfl
theorem heap4 (w : World) (a b c : Obj) : (((w.alloc a).alloc b).alloc c).heap[w.heap.size]? = some a ∧ (((w.alloc a).alloc b).alloc c).heap[w.heap.size + 1]? = some b ∧ (((w.alloc a).alloc b).alloc c).heap[w.heap.size + 1 + 1]? = some c := heap3 w a b c
set_option maxRecDepth 100000 in
set_option maxHeartbeats 8000000 in
theorem bcollect_calls (vr vq : Value) (rs : List Reg) (qs : List Qry) (hf : FenOk rs) (hqo : QsOk qs) (h1 : 1 ≤ qs.length) (h4 : qs.length ≤ 4096) (w : World) (hG : Gl w) (hr : regsAt w vr rs) (hq : qsAt w vq qs) :
    Calls Tryz.prog 123 #[.pointer none, vr, vq] w fun e w' => (∃ v', e = .returned (.tuple #[.int .u64 (maskI (valF rs)), v']) ∧ w'.ownsRow w.heap.size 158 2 v' qs.length (so.rflat (recsC (valF rs) rs qs))) ∧ Keeps (fun _ => False) w w' := by
  obtain ⟨i0, hi, hz0, hz1, hz2⟩ := info_parts infoC
  have hmk := fun w => run_make (P := Tryz.prog) w 108 158 i0 (.agg #[.int .u64 0, .int .u64 0]) Tryz.underlying108 hi hz0 .i64 .i64 (qs.length : Int) (qs.length : Int) (by omega) (Int.le_refl _) (by rw [hz2]; omega) (by omega)
  rw [hz1] at hmk
  simp only [Int.toNat_natCast] at hmk
  have hZ := made_recs qs.length
  generalize madeCells (Value.agg #[.int .u64 0, .int .u64 0]).cells (qs.length * 2) = Z at hmk hZ
  have HZ := Lib.hid hZ
  have HFV := Lib.hid (fun W (hk : Keeps (fun _ => False) w W) => fvalid_calls vr rs hf W (hG.kept hk) (hr.kept hk))
  have HF := Lib.hid hf
  have HQO := Lib.hid hqo
  have HG := Lib.hid hG
  have HR := Lib.hid hr
  have HQ := Lib.hid hq
  obtain ⟨al, cl, rfl⟩ := hr.shape
  obtain ⟨aq, cq, rfl⟩ := hq.shape
  obtain ⟨kl, hkl⟩ : ∃ k, rs.length = k := ⟨_, rfl⟩
  obtain ⟨n, hn⟩ : ∃ k, qs.length = k := ⟨_, rfl⟩
  have HN := Lib.hid hn
  rw [hkl] at HR HFV ⊢
  rw [hn] at HZ HQ hmk h1 h4 ⊢
  obtain ⟨c, hc⟩ : ∃ c, valF rs = c := ⟨_, rfl⟩
  rw [hc] at HFV ⊢
  clear hZ hi hz0 hz1 hz2 hf hqo hG hr hq hkl hn hc
  go_enter Tryz.func123, Tryz.ntmps123
  go_upto_region 1 with fail
  obtain ⟨w1, hw1⟩ : ∃ w1, ((w.alloc (.cells #[.pointer none] 76)).alloc (.cells #[.slice al kl cl] 25)).alloc (.cells #[.slice aq n cq] 33) = w1 := ⟨_, rfl⟩
  obtain ⟨gt, hgt⟩ : ∃ g, w.heap.size = g := ⟨_, rfl⟩
  have hg := heap4 w (.cells #[.pointer none] 76) (.cells #[.slice al kl cl] 25) (.cells #[.slice aq n cq] 33)
  have hk1 : Keeps (fun _ => False) w w1 := by rw [← hw1]; exact (((Keeps.refl _ w).alloc _).alloc _).alloc _
  have hs1 : w1.heap.size = gt + 3 := by rw [← hw1, ← hgt]; simp
  rw [hw1, hgt] at hg
  rw [hw1]
  try rw [hgt]
  have HGT := Lib.hid hgt
  obtain ⟨b0, b1, b2⟩ := hg
  have c0 := cells_at b0 0
  have c1 := cells_at b1 0
  have c2 := cells_at b2 0
  have B0 := Lib.hid b0
  have B1 := Lib.hid b1
  have B2 := Lib.hid b2
  clear hw1 hgt b0 b1 b2
  go_wp2_with fail
  refine (HFV.out w1 hk1).mono ?_; rintro e w2 ⟨rfl, hk2⟩
  go_upto_region 2 with fail
  obtain ⟨w3, hw3⟩ : ∃ w3, w2.alloc (.cells #[.int .u64 (maskI c)] 43) = w3 := ⟨_, rfl⟩
  obtain ⟨gv, hgv⟩ : ∃ g, w2.heap.size = g := ⟨_, rfl⟩
  have hgg := heap_alloc_new w2 (.cells #[.int .u64 (maskI c)] 43)
  have hk3 : Keeps (fun _ => False) w2 w3 := by rw [← hw3]; exact (Keeps.refl _ w2).alloc _
  have hs3 : w3.heap.size = gv + 1 := by rw [← hw3, ← hgv]; simp
  rw [hw3, hgv] at hgg
  rw [hw3]
  try rw [hgv]
  have hgvt : gt + 3 ≤ gv := by rw [← hgv, ← hs1]; exact hk2.size
  have hk23 := knil hk2 hk3
  have b0 := (hk23.block gt (by omega) (fun h => h)).trans B0.out
  have b1 := (hk23.block (gt + 1) (by omega) (fun h => h)).trans B1.out
  have b2 := (hk23.block (gt + 1 + 1) (by omega) (fun h => h)).trans B2.out
  have BV := Lib.hid hgg
  clear hw3 hgv hgg c0 c1 c2 B0 B1 B2
  have c0 := cells_at b0 0
  have c1 := cells_at b1 0
  have c2 := cells_at b2 0
  have B0 := Lib.hid b0
  have B1 := Lib.hid b1
  have B2 := Lib.hid b2
  have hk03 := knil hk1 hk23
  clear b0 b1 b2
  have hmf := traced_mk
  go_upto_region 4 with (simp only [hmk])
  obtain ⟨w4, hw4⟩ : ∃ w4, w3.alloc (.cells Z 158) = w4 := ⟨_, rfl⟩
  obtain ⟨g, hg⟩ : ∃ g, w3.heap.size = g := ⟨_, rfl⟩
  have hr4 : w4.ownsRow (gv + 1) 158 2 (.slice (some ⟨g, 0, none⟩) n n) n (so.rflat (mixC c rs qs 0)) := by
    rw [mixC_zero, HN.out, ← HZ.out, ← hw4, ← hg]
    refine World.ownsRow_lit w3 Z n (by omega) (by unfold maxLen; omega) ?_
    have := congrArg List.length HZ.out
    rw [so.rflat_length] at this
    simpa using this
  have hk4 : Keeps (fun _ => False) w3 w4 := by rw [← hw4]; exact (Keeps.refl _ w3).alloc _
  rw [hw4]
  try rw [hg]
  have hgs : g = gv + 1 := by rw [← hg, hs3]
  have b0 := (hk4.block gt (by omega) (fun h => h)).trans B0.out
  have b1 := (hk4.block (gt + 1) (by omega) (fun h => h)).trans B1.out
  have b2 := (hk4.block (gt + 1 + 1) (by omega) (fun h => h)).trans B2.out
  have bv := (hk4.block gv (by omega) (fun h => h)).trans BV.out
  have hk04 := knil hk03 hk4
  have hs4 : w4.heap.size = gv + 2 := by rw [← hw4]; simp; omega
  clear hw4 hg c0 c1 c2 B0 B1 B2 BV hmk
  have c0 := cells_at b0 0
  have c1 := cells_at b1 0
  have c2 := cells_at b2 0
  have B0 := Lib.hid b0
  have B1 := Lib.hid b1
  have B2 := Lib.hid b2
  have BV := Lib.hid bv
  have HR4 := Lib.hid hr4
  clear b0 b1 b2 bv hr4
  subst hgs
  go_wp2_with fail
  go_loopw [11, 21] (fun _ i wr => ∃ k : Nat, k ≤ n ∧ i = .int .i64 k ∧ wr.ownsRow (gv + 1) 158 2 (.slice (some ⟨gv + 1, 0, none⟩) n n) n (so.rflat (mixC c rs qs k)) ∧ RowKit.Hid (Keeps (fun j => j = gv + 1) w4 wr)) (fun _ i _ => n - (intOf i).toNat)
  case atStart => exact ⟨0, Nat.zero_le _, rfl, HR4.out, Lib.hid (Keeps.refl _ _)⟩
  case round =>
    clear c0 c1 c2 HR4
    obtain ⟨k, hk, rfl, hr, HK⟩ := hrel
    have hk0w : Keeps (fun _ => False) w wr := hk04.trans HK.out (fun i hi h => by have := HGT.out; omega)
    have b0 := (HK.out.block gt (by omega) (by omega)).trans B0.out
    have b1 := (HK.out.block (gt + 1) (by omega) (by omega)).trans B1.out
    have b2 := (HK.out.block (gt + 1 + 1) (by omega) (by omega)).trans B2.out
    have bv := (HK.out.block gv (by omega) (by omega)).trans BV.out
    have hsw := HK.out.size
    have c2 := cells_at b2 0
    by_cases hkn : k < n
    · have hkI : (k : Int) < (n : Int) := by omega
      have hk0 : (0 : Int) ≤ (k : Int) := by omega
      have Hr := Lib.hid hr
      have hcall := crec_calls gt gv (gt + 1) (gt + 1 + 1) k c al aq kl cl n cq rs qs HF.out HQO.out HN.out.symm hkn wr (HG.out.kept hk0w) (cells_at b0 0) (cells_at bv 0) (cells_at b1 0) (cells_at b2 0) (by omega) (by omega) (by omega) (by omega) (HR.out.kept hk0w) (HQ.out.kept hk0w)
      have HCALL := Lib.hid hcall
      clear hr hcall b0 b1 b2 bv
      go_wp2_with fail
      refine HCALL.out.mono ?_; rintro e w5 ⟨rfl, hk5⟩
      have hr5 := rowW_nil Hr.out hk5
      obtain ⟨p, hp⟩ : ∃ p, recC c rs (qy qs k) = p := ⟨_, rfl⟩
      rw [hp]
      have hml := mixC_length c rs qs k
      have hgx := so.rflat_get (mixC c rs qs k) k _ (mixC_at (by rw [HN.out]; exact hkn))
      have d0 := (hr5.cellAt (k * 2) (by omega)).trans hgx.1
      have d1 := (hr5.cellAt (k * 2 + 1) (by omega)).trans hgx.2
      have f0 := hr5.frozenAt (k * 2)
      have f1 := hr5.frozenAt (k * 2 + 1)
      have hst := ((hr5.stored (k * 2) (.int .u64 p.1)).1.stored (k * 2 + 1) (.int .u64 p.2)).1
      rw [← so.rflat_set _ k p (by rw [hml, HN.out]; exact hkn), ← hp, mixC_set (by rw [HN.out]; exact hkn), hp] at hst
      have Hst := Lib.hid hst
      have HKa := Lib.hid (((HK.out.trans hk5 (fun i hi h => h.elim)).setCell ⟨gv + 1, k * 2, none⟩ (fun _ => rfl) (.int .u64 p.1)).setCell ⟨gv + 1, k * 2 + 1, none⟩ (fun _ => rfl) (.int .u64 p.2))
      clear hst hr5 hk5 hp hml hgx c2 HCALL
      go_wp2_with fail
      go_roundw
      case rel => exact ⟨k + 1, by omega, by go_num, Hst.out, HKa⟩
      case measure => simp [intOf]; omega
    · obtain rfl : k = n := by omega
      have Hr := Lib.hid hr
      have cv := cells_at bv 0
      clear hr b0 b1 b2 bv c2
      go_wp2_with fail
      go_ret2
      exact ⟨⟨_, rfl, by rw [← mixC_all, HN.out]; exact row_mono Hr.out (by rw [HGT.out]; omega)⟩, hk0w⟩
def cntL (l : List (Int × Int)) : Int := (l.map fun r => r.1 % 2).sum
theorem cntL_bound (l : List (Int × Int)) : 0 ≤ cntL l ∧ cntL l ≤ l.length := by
  unfold cntL
  induction l with
  | nil => simp
  | cons r l ih => simp only [List.map_cons, List.sum_cons, List.length_cons]; omega
theorem cntL_snoc (l : List (Int × Int)) (r : Int × Int) : cntL (l ++ [r]) = cntL l + r.1 % 2 := by unfold cntL; simp
set_option maxRecDepth 100000 in
set_option maxHeartbeats 4000000 in
theorem scount_calls (v : Value) (l : List (Int × Int)) (hl : l.length ≤ 4096) (hok : so.Recs l) (w : World) (h : so.recAt w v l) : Calls Tryz.prog 125 #[.pointer none, v] w fun e w' => e = .returned (.int .u64 (cntL l)) ∧ Keeps (fun _ => False) w w' := by
  rcases h with ⟨rfl, ao, cap, rfl⟩ | ⟨hne, b, off, cap, rfl, hb, hc⟩
  · go_enter Tryz.func125, Tryz.ntmps125
    go_wp2_with fail
    go_loopw [5, 6, 7, 10] (fun n _ _ i wr => n = .int .u64 0 ∧ i = .int .i64 0 ∧ wr = w) (fun _ _ _ _ _ => 0)
    case atStart => exact ⟨rfl, rfl, rfl⟩
    case round =>
      obtain ⟨rfl, rfl, rfl⟩ := hrel
      go_wp2_with fail
      go_ret
      exact ⟨rfl, Keeps.refl _ _⟩
  · have HC := Lib.hid hc
    have HOK := Lib.hid hok
    obtain ⟨n, hn⟩ : ∃ n, l.length = n := ⟨_, rfl⟩
    have HN := Lib.hid hn
    have hcn : cntL l = cntL (l.take n) := by rw [← hn, List.take_length]
    rw [hcn]
    rw [hn] at hl ⊢
    clear hc hok hn hne hcn
    go_enter Tryz.func125, Tryz.ntmps125
    go_wp2_with fail
    go_loopw [5, 6, 7, 10] (fun m _ _ i wr => ∃ k : Nat, k ≤ n ∧ i = .int .i64 k ∧ m = .int .u64 (cntL (l.take k)) ∧ RowKit.Hid (Keeps (fun _ => False) w wr)) (fun _ _ _ i _ => n - (intOf i).toNat)
    case atStart => exact ⟨0, Nat.zero_le _, rfl, rfl, Lib.hid (Keeps.refl _ _)⟩
    case round =>
      obtain ⟨k, hk, rfl, rfl, HW⟩ := hrel
      by_cases hkl : k < n
      · have hkI : (k : Int) < (n : Int) := by omega
        have hk0 : (0 : Int) ≤ (k : Int) := by omega
        have hli : l[k]? = some (l[k]'(by rw [HN.out]; exact hkl)) := List.getElem?_eq_getElem _
        have hst : l.take (k + 1) = l.take k ++ [l[k]'(by rw [HN.out]; exact hkl)] := by rw [List.take_add_one, hli]; rfl
        have hrk := HOK.out _ (List.mem_of_getElem? hli)
        obtain ⟨r, hr⟩ : ∃ r, (l[k]'(by rw [HN.out]; exact hkl)) = r := ⟨_, rfl⟩
        rw [hr] at hli hst hrk
        have c0 := (HW.out.cell (p := ⟨b, off + k * 2, none⟩) hb (fun h => h)).trans (HC.out k r hli).1
        have c1 := (HW.out.cell (p := ⟨b, off + (k * 2 + 1), none⟩) hb (fun h => h)).trans (HC.out k r hli).2
        rw [← Nat.add_assoc] at c1
        have hbd := cntL_bound (l.take k)
        have hlen : (l.take k).length ≤ 4096 := by rw [List.length_take]; omega
        have hws : IntKind.u64.wrap (cntL (l.take k) + r.1 % 2) = cntL (l.take k) + r.1 % 2 := by rw [IntKind.wrap_u64]; omega
        have HST := Lib.hid hst
        have HU := Lib.hid hrk.1
        have hka : Keeps (fun _ => False) wr (wr.alloc (.cells #[.int .u64 r.1, .int .u64 r.2] 158)) := (Keeps.refl _ wr).alloc _
        clear hli hst hrk hr hbd hlen
        go_wp2_with fail
        refine (noteN 1 k 0 _).mono ?_; rintro e wn ⟨rfl, hwn⟩
        rw [hwn]
        clear hwn wn
        go_wp2_with fail
        refine (bit_calls r.1 HU.out _).mono ?_; rintro e w5 ⟨rfl, hw5⟩
        rw [hw5]
        clear hw5 w5
        go_wp2_with fail
        go_roundw
        case rel => exact ⟨k + 1, by omega, by go_num, by rw [HST.out, cntL_snoc], Lib.hid (knil HW.out hka)⟩
        case measure => simp [intOf]; omega
      · obtain rfl : k = n := by omega
        go_wp2_with fail
        go_ret
        exact ⟨rfl, HW.out⟩
end Go.Proofs.YtmoajobnhiopiaaGreatDoor.sv
set_option linter.unusedSimpArgs false
set_option linter.unusedVariables false
namespace Go.Proofs.YtmoajobnhiopiaaGreatDoor.sv
open Go Go.RowKit Go.Shelf Go.Maps Go.Proofs.YtmoajobnhiopiaaGreatDoor.mk Go.Proofs.YtmoajobnhiopiaaGreatDoor.tp Go.Proofs.YtmoajobnhiopiaaGreatDoor.rg Go.Proofs.YtmoajobnhiopiaaGreatDoor.lm Go.Proofs.YtmoajobnhiopiaaGreatDoor.gm Go.Proofs.YtmoajobnhiopiaaGreatDoor.po
def AnsAt (w : World) (v : Value) (x c : Int) (l : List (Int × Int)) : Prop := ∃ vr, v = .agg #[.int .i64 x, .int .i64 c, vr] ∧ so.recAt w vr l ∧ ∃ a n k, vr = .slice a n k
theorem recAt_kept {w w' : World} {v : Value} {l : List (Int × Int)} (h : so.recAt w v l) (hk : Keeps (fun _ => False) w w') : so.recAt w' v l := h.keep hk (fun _ _ _ _ h => h)
theorem AnsAt.kept {w w' : World} {v : Value} {x c : Int} {l : List (Int × Int)} (h : AnsAt w v x c l) (hk : Keeps (fun _ => False) w w') : AnsAt w' v x c l := by
  obtain ⟨vr, h1, h2, h3⟩ := h
  exact ⟨vr, h1, recAt_kept h2 hk, h3⟩
theorem recsC_ok {c : Bool} {rs : List Reg} {qs : List Qry} (h : QsOk qs) : so.Recs (recsC c rs qs) := by
  intro r hr
  obtain ⟨q, hq, rfl⟩ := List.mem_map.1 hr
  exact recC_ok (h q hq).2
theorem recsC_length (c : Bool) (rs : List Reg) (qs : List Qry) : (recsC c rs qs).length = qs.length := by unfold recsC; simp
def batR (rs : List Reg) (qs : List Qry) : List (Int × Int) := so.sortR (recsC (valF rs) rs qs)
def batN (rs : List Reg) (qs : List Qry) : Int := cntL (recsC (valF rs) rs qs)
def batX (rs : List Reg) : Int := if valF rs = true then 1 else 0
theorem rec_row {w : World} {base n : Nat} {v : Value} {L : List (Int × Int)} (h : w.ownsRow base 158 2 v n (so.rflat L)) (hn : n = L.length) (h1 : 1 ≤ n) : so.recAt w v L := by
  rcases id h.2 with ⟨rfl, h0⟩ | ⟨g, cap, cur, rfl, _⟩
  · omega
  · subst hn
    exact so.rec_of_row h rfl L (fun i r hi => hi)
set_option maxRecDepth 100000 in
set_option maxHeartbeats 8000000 in
theorem brun_calls (vr vq : Value) (rs : List Reg) (qs : List Qry) (hf : FenOk rs) (hqo : QsOk qs) (h1 : 1 ≤ qs.length) (h4 : qs.length ≤ 4096) (w : World) (hG : Gl w) (hr : regsAt w vr rs) (hq : qsAt w vq qs) :
    Calls Tryz.prog 88 #[.pointer none, vr, vq] w fun e w' => (∃ v', e = .returned (.tuple #[v', .int .i64 0]) ∧ AnsAt w' v' (batX rs) (batN rs qs) (batR rs qs)) ∧ Keeps (fun _ => False) w w' := by
  have HCK := Lib.hid (fun W (hk : Keeps (fun _ => False) w W) => bcheck_calls vr rs qs.length h1 h4 hf W (hr.kept hk))
  have HCO := Lib.hid (fun W (hk : Keeps (fun _ => False) w W) => bcollect_calls vr vq rs qs hf hqo h1 h4 W (hG.kept hk) (hr.kept hk) (hq.kept hk))
  have HOK := Lib.hid (recsC_ok (c := valF rs) (rs := rs) hqo)
  have HL := Lib.hid (recsC_length (valF rs) rs qs)
  obtain ⟨al, cl, rfl⟩ := hr.shape
  obtain ⟨aq, cq, rfl⟩ := hq.shape
  obtain ⟨kl, hkl⟩ : ∃ k, rs.length = k := ⟨_, rfl⟩
  obtain ⟨n, hn⟩ : ∃ k, qs.length = k := ⟨_, rfl⟩
  have HN := Lib.hid hn
  have hx : batX rs = maskI (valF rs) % 2 := by unfold batX; rw [maskI_bit]
  have hcn : batN rs qs = cntL (recsC (valF rs) rs qs) := rfl
  have hbr : batR rs qs = so.sortR (recsC (valF rs) rs qs) := rfl
  rw [hx, hcn, hbr]
  rw [hkl] at HCK HCO ⊢
  rw [hn] at HCK HCO HL h1 h4 ⊢
  obtain ⟨c, hc⟩ : ∃ c, valF rs = c := ⟨_, rfl⟩
  rw [hc] at HCO HOK HL ⊢
  obtain ⟨L, hLL⟩ : ∃ L, recsC c rs qs = L := ⟨_, rfl⟩
  rw [hLL] at HCO HOK HL ⊢
  have hmb := maskI_bit c
  obtain ⟨x, hxx⟩ : ∃ x, maskI c % 2 = x := ⟨_, rfl⟩
  have HX := Lib.hid hxx
  rw [hxx] at hmb ⊢
  have hx01 : 0 ≤ x ∧ x ≤ 1 := by rw [hmb]; split <;> omega
  have hcb := cntL_bound L
  rw [HL.out] at hcb
  obtain ⟨cn, hcc⟩ : ∃ x, cntL L = x := ⟨_, rfl⟩
  have HCC := Lib.hid hcc
  rw [hcc] at hcb ⊢
  have hw1 : IntKind.i64.wrap x = x := by rw [IntKind.wrap_i64]; omega
  have hw2 : IntKind.i64.wrap cn = cn := by rw [IntKind.wrap_i64]; omega
  clear hf hqo hG hr hq hkl hn hc hx hcn hbr hLL hmb hxx hcc hcb hx01
  go_enter Tryz.func88, Tryz.ntmps88
  go_upto_region 1 with fail
  obtain ⟨w1, hww1⟩ : ∃ w1, w.alloc (.cells #[.int .i64 0, .int .i64 0, .slice none 0 0] 110) = w1 := ⟨_, rfl⟩
  have hg := heap_alloc_new w (.cells #[.int .i64 0, .int .i64 0, .slice none 0 0] 110)
  have hk1 : Keeps (fun _ => False) w w1 := by rw [← hww1]; exact (Keeps.refl _ w).alloc _
  rw [hww1] at hg ⊢
  have HG1 := Lib.hid hg
  have hl1 : w.heap.size < w1.heap.size := (Array.getElem?_eq_some_iff.1 hg).1
  clear hww1 hg
  go_wp2_with fail
  refine (HCK.out w1 hk1).mono ?_; rintro e w2 ⟨rfl, hk2⟩
  have hk12 := knil hk1 hk2
  go_wp2_with fail
  refine (HCO.out w2 hk12).mono ?_; rintro e w3 ⟨⟨v3, rfl, hv3⟩, hk3⟩
  have hk13 := knil hk12 hk3
  have hrec := rec_row hv3 HL.out.symm h1
  obtain ⟨a3, c3, rfl⟩ := shape_own hv3
  have HREC := Lib.hid hrec
  clear hv3 hrec
  go_wp2_with fail
  refine (bit_calls (maskI c) (maskI_isU' c) w3).mono ?_; rintro e w4 ⟨rfl, hw4⟩
  rw [HX.out, hw4]
  clear hw4 w4
  go_wp2_with fail
  refine (scount_calls _ L (by rw [HL.out]; omega) HOK.out w3 HREC.out).mono ?_; rintro e w4 ⟨rfl, hk4⟩
  rw [HCC.out]
  have hk14 := knil hk13 hk4
  go_upto_region 6 with fail
  obtain ⟨w5, hw5⟩ : ∃ w5, w4.alloc (.cells #[.int .i64 x, .int .i64 cn, .slice none 0 0] 110) = w5 := ⟨_, rfl⟩
  obtain ⟨ga, hga⟩ : ∃ g, w4.heap.size = g := ⟨_, rfl⟩
  have hg5 := heap_alloc_new w4 (.cells #[.int .i64 x, .int .i64 cn, .slice none 0 0] 110)
  have hk5 : Keeps (fun _ => False) w4 w5 := by rw [← hw5]; exact (Keeps.refl _ w4).alloc _
  rw [hw5, hga] at hg5
  rw [hw5]
  try rw [hga]
  have hgal : ga < w5.heap.size := (Array.getElem?_eq_some_iff.1 hg5).1
  have hgaw : w.heap.size < ga := by rw [← hga]; exact Nat.lt_of_lt_of_le hl1 (knil hk2 (knil hk3 hk4)).size
  have HGA := Lib.hid hg5
  have hk15 := knil hk14 hk5
  clear hw5 hga hg5
  go_wp2_with fail
  refine (so.sort_any none [] (fun _ => False) _ L w5 (.inl ⟨rfl, rfl⟩) (by simp) (recAt_kept HREC.out (knil hk4 hk5)) (by rw [HL.out]; omega) HOK.out (fun _ _ _ h => h)).mono ?_
  rintro e w6 ⟨v6, rfl, hr6, hb6, _, hk6⟩
  have hg6 := (hk6.block ga hgal (fun h => h)).trans HGA.out
  have hs6 : ∃ a n k, v6 = .slice a n k := by
    rcases hr6 with ⟨_, a, k, h⟩ | ⟨_, b, o, k, h, _⟩
    · exact ⟨_, _, _, h⟩
    · exact ⟨_, _, _, h⟩
  obtain ⟨a6, n6, k6, rfl⟩ := hs6
  have HR6 := Lib.hid hr6
  have HB6 := Lib.hid hb6
  have HG6 := Lib.hid hg6
  have c2 := cells_at hg6 2
  have f2 := two_frozen hg6 2
  have hk16 := knil hk15 hk6
  clear hr6 hb6 hg6
  go_upto_region 7 with fail
  obtain ⟨w7, hw7⟩ : ∃ w7, w6.setCell ⟨ga, 2, none⟩ (.slice a6 n6 k6) = w7 := ⟨_, rfl⟩
  have hg7 : w7.heap[ga]? = some (.cells #[.int .i64 x, .int .i64 cn, .slice a6 n6 k6] 110 (0, 0)) := by rw [← hw7]; exact cells_put HG6.out 2 _
  have hk7 : Keeps (fun j => j = ga) w6 w7 := by rw [← hw7]; exact (Keeps.refl (fun j => j = ga) w6).setCell ⟨ga, 2, none⟩ (fun _ => rfl) _
  have hk17 : Keeps (fun _ => False) w w7 := hk16.trans hk7 (fun i hi h => by omega)
  rw [hw7]
  clear hw7 c2 f2
  have ho7 := (hk7.block w.heap.size (Nat.lt_of_lt_of_le hl1 (knil hk2 (knil hk3 (knil hk4 (knil hk5 hk6)))).size) (by omega)).trans (((knil hk2 (knil hk3 (knil hk4 (knil hk5 hk6)))).block w.heap.size hl1 (fun h => h)).trans HG1.out)
  have HR7 := Lib.hid (HR6.out.keep hk7 (fun _ g hg _ h => by have := HB6.out g hg; omega))
  have c0 := cells_at hg7 0
  have c1 := cells_at hg7 1
  have c2 := cells_at hg7 2
  have d0 := cells_at ho7 0
  have d1 := cells_at ho7 1
  have d2 := cells_at ho7 2
  have e0 := two_frozen ho7 0
  have e1 := two_frozen ho7 1
  have e2 := two_frozen ho7 2
  have HO7 := Lib.hid ho7
  clear hg7 ho7
  go_wp2_with fail
  have hkg : Keeps (fun j => j = w.heap.size) w7 (((w7.setCell ⟨w.heap.size, 0, none⟩ (.int .i64 x)).setCell ⟨w.heap.size, 1, none⟩ (.int .i64 cn)).setCell ⟨w.heap.size, 2, none⟩ (.slice a6 n6 k6)) := (((Keeps.refl (fun j => j = w.heap.size) w7).setCell ⟨w.heap.size, 0, none⟩ (fun _ => rfl) _).setCell ⟨w.heap.size, 1, none⟩ (fun _ => rfl) _).setCell ⟨w.heap.size, 2, none⟩ (fun _ => rfl) _
  refine bodyPost_ret (results_ans rfl _ _ _ _ _ _ _ _ rfl (cells_three HO7.out)) rfl ⟨⟨_, rfl, _, rfl, HR7.out.keep hkg (fun _ g hg _ h => by have := HB6.out g hg; omega), _, _, _, rfl⟩, keeps_three hk17 (Nat.le_refl _) _ _ _⟩
end Go.Proofs.YtmoajobnhiopiaaGreatDoor.sv
set_option linter.unusedSimpArgs false
set_option linter.unusedVariables false
namespace Go.Proofs.YtmoajobnhiopiaaGreatDoor.sv
open Go Go.RowKit Go.Shelf Go.Maps Go.Proofs.YtmoajobnhiopiaaGreatDoor.mk Go.Proofs.YtmoajobnhiopiaaGreatDoor.tp Go.Proofs.YtmoajobnhiopiaaGreatDoor.rg Go.Proofs.YtmoajobnhiopiaaGreatDoor.lm Go.Proofs.YtmoajobnhiopiaaGreatDoor.gm Go.Proofs.YtmoajobnhiopiaaGreatDoor.po
def AnsOk (h : Hd) (x c : Int) (l : List (Int × Int)) : Prop :=
  0 ≤ x ∧ x ≤ (if h.op = 3 then 3 else if h.op = 5 then 1 else 2) ∧ (l.length : Int) = h.pts ∧ 0 ≤ c ∧ c ≤ h.pts ∧ (x = 0 → c = 0) ∧ ∀ (i : Nat) (r : Int × Int), l[i]? = some r → if (i : Int) < c then r.1 = 1 else r = (0, 0)
set_option maxRecDepth 100000 in
set_option maxHeartbeats 4000000 in
theorem isAnswer_o (xo xv x : Int) (ah ar : Option Addr) (K ch cr : Nat) (h3 : (xo == 3) = false) (h5 : (xo == 5) = false) (hx0 : 0 ≤ x) (hx1 : x ≤ 2) (w : World) : Calls Tryz.prog 91 #[.agg #[.int .i64 xo, .int .i64 xv, .slice ah K ch, .int .i64 0], .agg #[.int .i64 x, .int .i64 0, .slice ar 0 cr]] w fun e w' => e = .returned (.bool true) ∧ Keeps (fun _ => False) w w' := by
  have hd1 : decide (x < 0) = false := decide_eq_false (by omega)
  have hd2 : decide (2 < x) = false := decide_eq_false (by omega)
  obtain ⟨mm, hmm⟩ : ∃ m, (if 1 < x then 1 else x) = m := ⟨_, rfl⟩
  go_enter Tryz.func91, Tryz.ntmps91
  go_upto_region 1 with fail
  obtain ⟨w1, hw1⟩ : ∃ w1, (w.alloc (.cells #[.int .i64 xo, .int .i64 xv, .slice ah K ch, .int .i64 0] 27)).alloc (.cells #[.int .i64 x, .int .i64 0, .slice ar 0 cr] 110) = w1 := ⟨_, rfl⟩
  have hg := heap2 w (.cells #[.int .i64 xo, .int .i64 xv, .slice ah K ch, .int .i64 0] 27) (.cells #[.int .i64 x, .int .i64 0, .slice ar 0 cr] 110)
  have hk1 : Keeps (fun _ => False) w w1 := by rw [← hw1]; exact ((Keeps.refl _ w).alloc _).alloc _
  rw [hw1] at hg ⊢
  clear hw1
  obtain ⟨hg0, hg1⟩ := hg
  have c0 := cells_at hg0 0
  have c1 := cells_at hg0 1
  have c2 := cells_at hg0 2
  have c3 := cells_at hg0 3
  have a0 := cells_at hg1 0
  have a1 := cells_at hg1 1
  have a2 := cells_at hg1 2
  clear hg0 hg1
  go_wp2_with fail
  go_loopw [6, 7, 8, 51] (fun _ _ _ i wr => i = .int .i64 0 ∧ wr = w1) (fun _ _ _ _ _ => 0)
  case atStart => exact ⟨rfl, rfl⟩
  case round =>
    obtain ⟨rfl, hwr⟩ := hrel
    rw [hwr]
    clear hwr wr
    go_wp2_with fail
    go_ret
    exact ⟨rfl, hk1⟩
set_option maxRecDepth 100000 in
set_option maxHeartbeats 4000000 in
theorem isAnswer_3 (xv x : Int) (ah ar : Option Addr) (K ch cr : Nat) (hx0 : 0 ≤ x) (hx1 : x ≤ 3) (w : World) : Calls Tryz.prog 91 #[.agg #[.int .i64 3, .int .i64 xv, .slice ah K ch, .int .i64 0], .agg #[.int .i64 x, .int .i64 0, .slice ar 0 cr]] w fun e w' => e = .returned (.bool true) ∧ Keeps (fun _ => False) w w' := by
  have hd1 : decide (x < 0) = false := decide_eq_false (by omega)
  have hd2 : decide (3 < x) = false := decide_eq_false (by omega)
  obtain ⟨mm, hmm⟩ : ∃ m, (if 1 < x then 1 else x) = m := ⟨_, rfl⟩
  go_enter Tryz.func91, Tryz.ntmps91
  go_upto_region 1 with fail
  obtain ⟨w1, hw1⟩ : ∃ w1, (w.alloc (.cells #[.int .i64 3, .int .i64 xv, .slice ah K ch, .int .i64 0] 27)).alloc (.cells #[.int .i64 x, .int .i64 0, .slice ar 0 cr] 110) = w1 := ⟨_, rfl⟩
  have hg := heap2 w (.cells #[.int .i64 3, .int .i64 xv, .slice ah K ch, .int .i64 0] 27) (.cells #[.int .i64 x, .int .i64 0, .slice ar 0 cr] 110)
  have hk1 : Keeps (fun _ => False) w w1 := by rw [← hw1]; exact ((Keeps.refl _ w).alloc _).alloc _
  rw [hw1] at hg ⊢
  clear hw1
  obtain ⟨hg0, hg1⟩ := hg
  have c0 := cells_at hg0 0
  have c1 := cells_at hg0 1
  have c2 := cells_at hg0 2
  have c3 := cells_at hg0 3
  have a0 := cells_at hg1 0
  have a1 := cells_at hg1 1
  have a2 := cells_at hg1 2
  clear hg0 hg1
  go_wp2_with fail
  go_loopw [6, 7, 8, 51] (fun _ _ _ i wr => i = .int .i64 0 ∧ wr = w1) (fun _ _ _ _ _ => 0)
  case atStart => exact ⟨rfl, rfl⟩
  case round =>
    obtain ⟨rfl, hwr⟩ := hrel
    rw [hwr]
    clear hwr wr
    go_wp2_with fail
    go_ret
    exact ⟨rfl, hk1⟩
set_option maxRecDepth 100000 in
set_option maxHeartbeats 4000000 in
theorem isAnswer_5 (xv x c p : Int) (ah ar : Option Addr) (K ch n cr : Nat) (l : List (Int × Int)) (hn : l.length = n) (hnp : (n : Int) = p) (h4 : n ≤ 4096) (hx0 : 0 ≤ x) (hx1 : x ≤ 1) (hc0 : 0 ≤ c) (hc1 : c ≤ p) (hxc : x = 0 → c = 0) (hl : ∀ (i : Nat) (r : Int × Int), l[i]? = some r → if (i : Int) < c then r.1 = 1 else r = (0, 0)) (w : World) (hr : so.recAt w (.slice ar n cr) l) :
    Calls Tryz.prog 91 #[.agg #[.int .i64 5, .int .i64 xv, .slice ah K ch, .int .i64 p], .agg #[.int .i64 x, .int .i64 c, .slice ar n cr]] w fun e w' => e = .returned (.bool true) ∧ Keeps (fun _ => False) w w' := by
  have hd1 : decide (x < 0) = false := decide_eq_false (by omega)
  have hd2 : decide (1 < x) = false := decide_eq_false (by omega)
  have hd3 : decide (c < 0) = false := decide_eq_false (by omega)
  have HR := Lib.hid hr
  have HL := Lib.hid hl
  have HN := Lib.hid hn
  have HXC := Lib.hid hxc
  subst hnp
  have hbp : c ≤ (n : Int) * x ∧ (n : Int) * x ≤ 4096 ∧ 0 ≤ (n : Int) * x := by
    by_cases h0 : x = 0
    · rw [hxc h0, h0]; simp
    · rw [show x = 1 by omega]; omega
  have hw64 : RowKit.wrap64 ((n : Int) * x) = (n : Int) * x := by unfold RowKit.wrap64; omega
  have hd4 : decide ((n : Int) * x < c) = false := decide_eq_false (by omega)
  clear hr hl hn hxc hbp
  go_enter Tryz.func91, Tryz.ntmps91
  go_upto_region 1 with fail
  obtain ⟨w1, hw1⟩ : ∃ w1, (w.alloc (.cells #[.int .i64 5, .int .i64 xv, .slice ah K ch, .int .i64 n] 27)).alloc (.cells #[.int .i64 x, .int .i64 c, .slice ar n cr] 110) = w1 := ⟨_, rfl⟩
  have hg := heap2 w (.cells #[.int .i64 5, .int .i64 xv, .slice ah K ch, .int .i64 n] 27) (.cells #[.int .i64 x, .int .i64 c, .slice ar n cr] 110)
  have hk1 : Keeps (fun _ => False) w w1 := by rw [← hw1]; exact ((Keeps.refl _ w).alloc _).alloc _
  rw [hw1] at hg ⊢
  clear hw1
  obtain ⟨hg0, hg1⟩ := hg
  have c0 := cells_at hg0 0
  have c1 := cells_at hg0 1
  have c2 := cells_at hg0 2
  have c3 := cells_at hg0 3
  have a0 := cells_at hg1 0
  have a1 := cells_at hg1 1
  have a2 := cells_at hg1 2
  have G1 := Lib.hid hg1
  have hl1 : w.heap.size + 1 < w1.heap.size := (Array.getElem?_eq_some_iff.1 hg1).1
  clear hg0 hg1
  go_wp2_with fail
  go_loopw [6, 7, 8, 51] (fun _ _ _ i wr => ∃ k : Nat, k ≤ n ∧ i = .int .i64 k ∧ RowKit.Hid (Keeps (fun _ => False) w1 wr)) (fun _ _ _ i _ => n - (intOf i).toNat)
  case atStart => exact ⟨0, Nat.zero_le _, rfl, Lib.hid (Keeps.refl _ _)⟩
  case round =>
    clear c0 c1 c2 c3 a0 a1 a2
    obtain ⟨k, hk, rfl, HW⟩ := hrel
    by_cases hkl : k < n
    · have hkI : (k : Int) < (n : Int) := by omega
      have hk0 : (0 : Int) ≤ (k : Int) := by omega
      obtain ⟨he, _⟩ | ⟨hne, b, off, cap, hv, hb, hc⟩ := HR.out
      · have := HN.out; rw [he] at this; simp at this; omega
      injection hv with hv1 hv2 hv3
      subst hv1
      have hli : l[k]? = some (l[k]'(by rw [HN.out]; exact hkl)) := List.getElem?_eq_getElem _
      have hlr := HL.out k _ hli
      obtain ⟨r, hr⟩ : ∃ r, (l[k]'(by rw [HN.out]; exact hkl)) = r := ⟨_, rfl⟩
      rw [hr] at hli hlr
      have e0 := ((knil hk1 HW.out).cell (p := ⟨b, off + k * 2, none⟩) hb (fun h => h)).trans (hc k r hli).1
      have e1 := ((knil hk1 HW.out).cell (p := ⟨b, off + (k * 2 + 1), none⟩) hb (fun h => h)).trans (hc k r hli).2
      rw [← Nat.add_assoc] at e1
      have hg1 := (HW.out.block _ hl1 (fun h => h)).trans G1.out
      have a1 := cells_at hg1 1
      have HW2 := Lib.hid (HW.out.alloc (.cells #[.int .u64 r.1, .int .u64 r.2] 158))
      have ha1 : (wr.alloc (.cells #[.int .u64 r.1, .int .u64 r.2] 158)).cell? ⟨w.heap.size + 1, 1, none⟩ = some (.int .i64 c) := (((Keeps.refl (fun _ => False) wr).alloc _).cell (p := ⟨w.heap.size + 1, 1, none⟩) (Array.getElem?_eq_some_iff.1 hg1).1 (fun h => h)).trans a1
      clear hc hli hr hg1 hne hv2 hv3
      by_cases hkc : (k : Int) < c
      · rw [if_pos hkc] at hlr
        obtain ⟨r1, r2⟩ := r
        simp only at hlr
        subst hlr
        have hdk : decide ((k : Int) < c) = true := decide_eq_true hkc
        go_wp2_with fail
        go_roundw
        case rel => exact ⟨k + 1, by omega, by go_num, HW2⟩
        case measure => simp [intOf]; omega
      · rw [if_neg hkc] at hlr
        subst hlr
        have hdk : decide ((k : Int) < c) = false := decide_eq_false hkc
        go_wp2_with fail
        go_roundw
        case rel => exact ⟨k + 1, by omega, by go_num, HW2⟩
        case measure => simp [intOf]; omega
    · obtain rfl : k = n := by omega
      go_wp2_with fail
      go_ret
      exact ⟨rfl, knil hk1 HW.out⟩
theorem isAnswer_calls (v u : Value) (h : Hd) (x c : Int) (l : List (Int × Int)) (ho : HdOk h) (ha : AnsOk h x c l) (w : World) (hv : HdAt w v h) (hu : AnsAt w u x c l) : Calls Tryz.prog 91 #[v, u] w fun e w' => e = .returned (.bool true) ∧ Keeps (fun _ => False) w w' := by
  obtain ⟨ah, ch, rfl, hreg, hz⟩ := hv
  obtain ⟨vr, rfl, hrec, ar, n, cr, rfl⟩ := hu
  obtain ⟨hx0, hx1, hlp, hc0, hc1, hxc, hl⟩ := ha
  have hn : l.length = n := by
    rcases hrec with ⟨h0, a, k, he⟩ | ⟨_, b, o, k, he, _⟩
    · injection he with _ h2 _; rw [h0, h2]; rfl
    · injection he with _ h2 _; exact h2.symm
  by_cases h5 : h.op = 5
  · have hp : 1 ≤ h.pts ∧ h.pts ≤ 4096 := by
      rcases ho with ⟨h1 | h1, _⟩ | ⟨h1, _⟩ | ⟨⟨h1, _⟩ | ⟨_, h4⟩, _⟩ <;> first | omega | exact h4
    rw [if_neg (by omega), if_pos h5] at hx1
    rw [h5]
    exact isAnswer_5 _ x c _ ah ar _ ch n cr l hn (by rw [← hn]; exact hlp) (by omega) hx0 hx1 hc0 hc1 hxc hl w hrec
  · have hp : h.pts = 0 := by
      rcases ho with ⟨_, _, _, h4⟩ | ⟨_, _, _, h4⟩ | ⟨⟨_, h4⟩ | ⟨h1, _⟩, _⟩
      · exact h4
      · exact h4
      · exact h4
      · exact absurd h1 h5
    have hc : c = 0 := by omega
    have hn0 : n = 0 := by omega
    subst hc
    subst hn0
    rw [hp]
    by_cases h3 : h.op = 3
    · rw [if_pos h3] at hx1
      rw [h3]
      exact isAnswer_3 _ x ah ar _ ch cr hx0 hx1 w
    · rw [if_neg h3, if_neg h5] at hx1
      exact isAnswer_o _ _ x ah ar _ ch cr (by simp [h3]) (by simp [h5]) hx0 hx1 w
end Go.Proofs.YtmoajobnhiopiaaGreatDoor.sv
set_option linter.unusedSimpArgs false
set_option linter.unusedVariables false
namespace Go.Proofs.YtmoajobnhiopiaaGreatDoor.sv
open Go Go.RowKit Go.Shelf Go.Maps Go.Proofs.YtmoajobnhiopiaaGreatDoor.mk Go.Proofs.YtmoajobnhiopiaaGreatDoor.tp Go.Proofs.YtmoajobnhiopiaaGreatDoor.rg Go.Proofs.YtmoajobnhiopiaaGreatDoor.lm Go.Proofs.YtmoajobnhiopiaaGreatDoor.gm Go.Proofs.YtmoajobnhiopiaaGreatDoor.po
open List renaming getElem_toArray → ga, getElem_cons_zero → gb, getElem_cons_succ → gc, setIfInBounds_toArray → gd, set_cons_zero → ge, set_cons_succ → gf
theorem WrV.kept {w0 : World} {v0 : Value} {bw B n : Nat} {l : List Value} {W W' : World} (h : WrV w0 v0 bw B n l W) (hk : Keeps (fun _ => False) W W') : WrV w0 v0 bw B n l W' := by
  obtain ⟨v, h1, h2, h3, h4⟩ := h
  exact ⟨v, (hk.block bw (Array.getElem?_eq_some_iff.1 h1).1 (fun h => h)).trans h1, rowW_nil h2 hk, h3, h4.trans hk (fun i hi h => h.elim)⟩
theorem WrV.keeps {w0 : World} {v0 : Value} {bw B n : Nat} {l : List Value} {W : World} (h : WrV w0 v0 bw B n l W) : Keeps (fun j => j = bw ∨ some j = v0.ownBlock) w0 W := by
  obtain ⟨v, h1, h2, h3, h4⟩ := h
  exact h4
theorem WrV.step {w0 : World} {v0 : Value} {bw B n : Nat} {l : List Value} {W : World} (h : WrV w0 v0 bw B n l W) (hbw : bw < w0.heap.size) (hne : v0.ownBlock ≠ some bw) :
    ∃ v1, (∀ W1, Keeps (fun _ => False) W W1 → WrV W1 v1 bw B n l W1) ∧ v1.ownBlock ≠ some bw ∧ (∀ j, v1.ownBlock = some j → j < W.heap.size) ∧ ∀ n' l' W1 W', Keeps (fun _ => False) W W1 → WrV W1 v1 bw B n' l' W' → WrV w0 v0 bw B n' l' W' := by
  obtain ⟨v, h1, h2, h3, h4⟩ := h
  refine ⟨v, fun W1 hk => ⟨v, (hk.block bw (Array.getElem?_eq_some_iff.1 h1).1 (fun h => h)).trans h1, rowW_nil h2 hk, .inl rfl, Keeps.refl _ _⟩, fun hb => ?_, fun j hj => (h2.lt j hj).2, ?_⟩
  · rcases h3 with h3 | ⟨j, h3, hj⟩
    · exact hne (by rw [← h3, hb])
    · rw [h3] at hb; injection hb with hb; omega
  · rintro n' l' W1 W' hk ⟨v2, k1, k2, k3, k4⟩
    have hs := hk.size
    refine ⟨v2, k1, k2, ?_, (h4.trans hk (fun i hi h => h.elim)).trans k4 (fun i hi hh => ?_)⟩
    · rcases k3 with k3 | ⟨j, k3, hj⟩
      · rw [k3]; exact h3
      · exact .inr ⟨j, k3, Nat.le_trans (Nat.le_trans h4.size hs) hj⟩
    · rcases hh with hh | hh
      · exact .inl hh
      · rcases h3 with h3 | ⟨j, h3, hj⟩
        · exact .inr (by rw [hh, h3])
        · rw [h3] at hh; injection hh with hh; omega
def recV (r : Int × Int) : List Value := .int .u8 (IntKind.u8.wrap r.1) :: le8V r.2
def recsV (l : List (Int × Int)) : List Value := l.flatMap recV
theorem recsV_snoc (l : List (Int × Int)) (r : Int × Int) : recsV (l ++ [r]) = recsV l ++ recV r := by unfold recsV; rw [List.flatMap_append]; simp
set_option maxRecDepth 100000 in
set_option maxHeartbeats 4000000 in
theorem wrecord_calls (w0 : World) (v0 : Value) (bw B n : Nat) (l : List Value) (r : Int × Int) (hid : IsU r.2) (hn : n ≤ 900000) (hB : B ≤ w0.heap.size) (hbw : bw < w0.heap.size) (hne : v0.ownBlock ≠ some bw) (w : World) (h : WrV w0 v0 bw B n l w) :
    Calls Tryz.prog 93 #[.pointer (some ⟨bw, 0, none⟩), .agg #[.int .u64 r.1, .int .u64 r.2]] w fun e w' => e = .returned (.tuple #[]) ∧ WrV w0 v0 bw B (n + 9) (l ++ recV r) w' := by
  obtain ⟨i0, hi, hz0, hz1, hz2⟩ := info_parts infoB
  obtain ⟨v1, hW, hne1, hvlt, hback⟩ := h.step hbw hne
  have H := Lib.hid hW
  have HNE := Lib.hid hne1
  have HVL := Lib.hid hvlt
  have HBK := Lib.hid hback
  have hbw1 : bw < w.heap.size := Nat.lt_of_lt_of_le hbw h.keeps.size
  have hBw : B ≤ w.heap.size := Nat.le_trans hB h.keeps.size
  have HID := Lib.hid hid
  clear h hW hne1 hvlt hback hne hid
  go_enter Tryz.func93, Tryz.ntmps93
  go_upto_region 1 with fail
  obtain ⟨w1, hw1⟩ : ∃ w1, w.alloc (.cells #[.int .u64 r.1, .int .u64 r.2] 158) = w1 := ⟨_, rfl⟩
  obtain ⟨g3, hg3⟩ : ∃ g, w.heap.size = g := ⟨_, rfl⟩
  have hg := heap_alloc_new w (.cells #[.int .u64 r.1, .int .u64 r.2] 158)
  have hk1 : Keeps (fun _ => False) w w1 := by rw [← hw1]; exact (Keeps.refl _ w).alloc _
  rw [hw1, hg3] at hg
  rw [hw1]
  try rw [hg3]
  rw [hg3] at hbw1 hBw
  have HG3 := Lib.hid hg3
  have c0 := cells_at hg 0
  have H1 := Lib.hid (H.out w1 hk1)
  have hl1 : g3 < w1.heap.size := (Array.getElem?_eq_some_iff.1 hg).1
  have HGR := Lib.hid hg
  clear hw1 hg3 hg
  obtain ⟨v, hgw, hr, ho, hK⟩ := H1.out
  have cw := cells_at hgw 0
  refine wp_region_late (fun W => W.cell? ⟨bw, 0, none⟩ = some v ∧ W.cell? ⟨g3, 0, none⟩ = some (.int .u64 r.1)) [12] (by kernel_rfl) ?_
  have hS : w1.drew.cell? ⟨bw, 0, none⟩ = some v ∧ w1.drew.cell? ⟨g3, 0, none⟩ = some (.int .u64 r.1) := ⟨cw, c0⟩
  have HRD := Lib.hid (show w1.drew.ownsRow B 5 1 v n l from hr)
  have HGD := Lib.hid (show w1.drew.heap[bw]? = some (.cells #[v] 155 (0, 0)) from hgw)
  have HG3D := Lib.hid (show w1.drew.heap[g3]? = some (.cells #[.int .u64 r.1, .int .u64 r.2] 158 (0, 0)) from HGR.out)
  have HKD := Lib.hid (show Keeps (fun j => j = bw ∨ some j = v1.ownBlock) w1 w1.drew from hK.drewN 1)
  have HO := Lib.hid ho
  have hbd : bw < w1.drew.heap.size := (Array.getElem?_eq_some_iff.1 HGD.out).1
  have hg3d : g3 < w1.drew.heap.size := hl1
  have hsz0 := Lib.hid (show B ≤ w1.drew.heap.size from Nat.le_trans hBw (Nat.le_of_lt hl1))
  have hvlt2 : ∀ j, v1.ownBlock = some j → j < g3 := fun j hj => by have := HVL.out j hj; rw [HG3.out] at this; exact this
  have hvne : ¬ some bw = v.ownBlock := fun h => by
    rcases HO.out with ho | ⟨j, ho, hj⟩
    · exact HNE.out (by rw [← ho, ← h])
    · rw [ho] at h; injection h with h; omega
  have hg3v : ¬ some g3 = v.ownBlock := fun h => by
    rcases HO.out with ho | ⟨j, ho, hj⟩
    · have := hvlt2 g3 (by rw [← ho, ← h]); omega
    · rw [ho] at h; injection h with h; omega
  clear cw c0 hr hgw ho hK
  generalize w1.drew = wd at hS HRD HGD HG3D HKD hbd hg3d hsz0 ⊢
  refine tkA 0 (.pointer (some ⟨bw, 0, none⟩)) rfl (by kernel_rfl) (fun _ _ _ h => (h : False).elim) (by kernel_rfl) (fun _ => ‹_›) ?_ ?_
  · intro w _; go_simp
  try simp only [ga, gb, gc, Act.put, gd, ge, gf]
  refine tkA 1 (.pointer (some ⟨bw, 0, none⟩)) rfl (by kernel_rfl) (fun _ _ _ h => (h : False).elim) (by kernel_rfl) (fun _ => ‹_›) ?_ ?_
  · intro w _; go_simp
  try simp only [ga, gb, gc, Act.put, gd, ge, gf]
  refine tkA 2 (.pointer (some ⟨bw, 0, none⟩)) rfl (by kernel_rfl) (fun _ _ _ h => (h : False).elim) (by kernel_rfl) (fun _ => ‹_›) ?_ ?_
  · intro w _; go_simp
  try simp only [ga, gb, gc, Act.put, gd, ge, gf]
  refine tkA 3 (.pointer (some ⟨bw, 0, none⟩)) rfl (by kernel_rfl) (fun _ _ _ h => (h : False).elim) (by kernel_rfl) (fun _ => ‹_›) ?_ ?_
  · intro w _; go_simp
  try simp only [ga, gb, gc, Act.put, gd, ge, gf]
  refine tkL 4 (v) rfl (by kernel_rfl) (fun _ _ _ h => (h : False).elim) (by kernel_rfl) ‹_› ?_ ?_
  · intro w hSw
    obtain ⟨s0, s1⟩ := hSw
    go_simp
  try simp only [ga, gb, gc, Act.put, gd, ge, gf]
  refine tkA 5 (.pointer (some ⟨g3, 0, none⟩)) rfl (by kernel_rfl) (fun _ _ _ h => (h : False).elim) (by kernel_rfl) (fun _ => ‹_›) ?_ ?_
  · intro w _; go_simp
  try simp only [ga, gb, gc, Act.put, gd, ge, gf]
  refine tkL 6 (.int .u64 r.1) rfl (by kernel_rfl) (fun _ _ _ h => (h : False).elim) (by kernel_rfl) ‹_› ?_ ?_
  · intro w hSw
    obtain ⟨s0, s1⟩ := hSw
    go_simp
  try simp only [ga, gb, gc, Act.put, gd, ge, gf]
  refine tkA 7 (.int .u8 (IntKind.u8.wrap r.1)) rfl (by kernel_rfl) (fun _ _ _ h => (h : False).elim) (by kernel_rfl) (fun _ => ‹_›) ?_ ?_
  · intro w _; go_simp
  try simp only [ga, gb, gc, Act.put, gd, ge, gf]
  refine wpAnyL_next (i := 8) (by kernel_rfl) rfl (fun K hK => ?_)
  go_simp
  obtain ⟨y1, hy1⟩ : ∃ y1, wd.alloc (.cells #[.int .u8 (IntKind.u8.wrap r.1)] 5) = y1 := ⟨_, rfl⟩
  obtain ⟨gy, hgy⟩ : ∃ gy, wd.heap.size = gy := ⟨_, rfl⟩
  have hky : Keeps (fun _ => False) wd y1 := by rw [← hy1]; exact (Keeps.refl _ _).alloc _
  have hgc : y1.heap[gy]? = some (.cells #[.int .u8 (IntKind.u8.wrap r.1)] 5 (0, 0)) := by rw [← hy1, ← hgy]; exact heap_alloc_new _ _
  have hry : y1.ownsRow B 5 1 v n l := by rw [← hy1]; exact HRD.out.alloc _
  have hsy : y1.heap.size = gy + 1 := by rw [← hy1, ← hgy]; simp
  rw [hy1]
  try rw [hgy]
  have hcyS : y1.cell? ⟨bw, 0, none⟩ = some v ∧ y1.cell? ⟨g3, 0, none⟩ = some (.int .u64 r.1) := ⟨(hky.cell (p := ⟨bw, 0, none⟩) hbd (fun h => h)).trans hS.1, (hky.cell (p := ⟨g3, 0, none⟩) hg3d (fun h => h)).trans hS.2⟩
  refine hK.out _ _ hcyS (fun hHeld => ?_)
  clear hK K
  try simp only [ga, gb, gc, Act.put, gd, ge, gf]
  refine wpAnyL_next (i := 9) (by kernel_rfl) rfl (fun K hK => ?_)
  rw [if_pos (by rfl)]
  refine wp_append_atW (.tmp 8) (.tmp 12) 22 rfl B 5 i0 (.int .u8 0) 1 1 Tryz.underlying22 hi hz0 hz1 hz2 rfl (by decide) v n l rfl hry (some ⟨gy, 0, none⟩) 1 1 [.int .u8 (IntKind.u8.wrap r.1)] rfl (fun h => by cases h) rfl ?_ ?_ (by unfold maxLen; omega) (by omega) (by have := hsz0.out; omega) ?_
  · intro ad had j u hj
    injection had with had
    subst had
    have hadd : (⟨gy, 0, none⟩ : Addr).add j = ⟨gy, 0 + j, none⟩ := by unfold Addr.add; split <;> simp_all
    rw [hadd, cell_of_row _ _ _ _ _ _ hgc, Nat.zero_add]
    simpa using hj
  · intro u hu; simp at hu; rw [hu]; rfl
  intro v6 w9 r6 hg6 hat6
  obtain ⟨ao6, c6, rfl⟩ : ∃ ao c, v6 = .slice ao (n + 1) c := by
    rcases r6.2 with ⟨_, h0⟩ | ⟨g, cap, cur, rfl, _⟩
    · omega
    · exact ⟨_, _, rfl⟩
  have hk9 : Keeps (fun j => some j = v.ownBlock) y1 w9 := (Keeps.refl (fun j => some j = v.ownBlock) y1).grown hg6 (fun j h1 _ => h1.symm)
  have hvb : ¬ some bw = v.ownBlock := hvne
  have c9S : w9.cell? ⟨bw, 0, none⟩ = some v ∧ w9.cell? ⟨g3, 0, none⟩ = some (.int .u64 r.1) := ⟨(hk9.cell (p := ⟨bw, 0, none⟩) (show bw < y1.heap.size by omega) hvb).trans hcyS.1, (hk9.cell (p := ⟨g3, 0, none⟩) (show g3 < y1.heap.size by omega) hg3v).trans hcyS.2⟩
  have f9 := (hk9.block bw (by omega) hvb).trans ((hky.block bw hbd (fun h => h)).trans HGD.out)
  have fz := two_frozen f9 0
  have cz := cells_at f9 0
  refine hK.out _ _ c9S (fun hHeld => ?_)
  clear hK K
  try simp only [ga, gb, gc, Act.put, gd, ge, gf]
  refine tkA 10 (.pointer (some ⟨bw, 0, none⟩)) rfl (by kernel_rfl) (fun _ _ _ h => (h : False).elim) (by kernel_rfl) (fun _ => ‹_›) ?_ ?_
  · intro w _; go_simp
  try simp only [ga, gb, gc, Act.put, gd, ge, gf]
  refine tkA 11 (.pointer (some ⟨bw, 0, none⟩)) rfl (by kernel_rfl) (fun _ _ _ h => (h : False).elim) (by kernel_rfl) (fun _ => ‹_›) ?_ ?_
  · intro w _; go_simp
  try simp only [ga, gb, gc, Act.put, gd, ge, gf]
  refine wpAnyL_late (i := 12) (by kernel_rfl) rfl (by kernel_rfl) (fun K hK => ?_)
  go_simp
  refine hK.out _ _ (fun _ => ?_)
  clear hK K
  try simp only [ga, gb, gc, Act.put, gd, ge, gf]
  refine wpAnyL_done (by kernel_rfl) ?_ _
  refine NoPanic.normal ?_
  clear hS hcyS c9S
  have hv6 : (Value.slice ao6 (n + 1) c6).ownBlock ≠ some bw := fun h => by
    rcases hat6 with h1 | h1
    · exact hvb (by rw [← h1, h])
    · rw [h1] at h; injection h with h; omega
  have hkF : Keeps (fun j => j = bw) w9 (w9.setCell ⟨bw, 0, none⟩ (.slice ao6 (n + 1) c6)) := (Keeps.refl (fun j => j = bw) w9).setCell ⟨bw, 0, none⟩ (fun _ => rfl) _
  have hWr : WrV w1 v1 bw B (n + 1) (l ++ [.int .u8 (IntKind.u8.wrap r.1)]) (w9.setCell ⟨bw, 0, none⟩ (.slice ao6 (n + 1) c6)) := by
    refine ⟨_, cells_put f9 0 _, rowW_off r6 hkF hv6, ?_, ?_⟩
    · rcases hat6 with h1 | h1
      · rw [h1]; exact HO.out
      · exact .inr ⟨_, h1, by have := HKD.out.size; have := hky.size; omega⟩
    · refine ((HKD.out.trans hky (fun i hi h => h.elim)).trans hk9 (fun i hi h => ?_)).trans hkF (fun i hi h => .inl h)
      rcases HO.out with ho | ⟨j, ho, hj⟩
      · exact .inr (by rw [h, ho])
      · rw [ho] at h; injection h with h; omega
  have hg3f := (hkF.block g3 (Nat.lt_of_lt_of_le (show g3 < y1.heap.size by omega) hk9.size) (by omega)).trans ((hk9.block g3 (by omega) hg3v).trans ((hky.block g3 hg3d (fun h => h)).trans HG3D.out))
  have HWr := Lib.hid hWr
  have c1 := cells_at hg3f 1
  clear hWr hkF r6 hg6 hat6 hv6 f9 fz cz hk9 hvb hgc hry hky hg3f hvlt2
  go_wp2_with fail
  refine (wwordV_calls w1 v1 bw B (n + 1) _ r.2 HID.out (by omega) (by omega) (by omega) HNE.out _ HWr.out).mono ?_; rintro e w3 ⟨rfl, h3⟩
  have H3 := Lib.hid h3
  clear h3 c1
  go_wp2
  go_end0
  have h9 := HBK.out _ _ _ _ hk1 H3.out
  rw [List.append_assoc] at h9
  exact ⟨rfl, h9⟩
set_option maxRecDepth 100000 in
set_option maxHeartbeats 4000000 in
theorem eachR_calls (w00 w0 : World) (v0 v : Value) (bw B n : Nat) (l0 : List Value) (l : List (Int × Int)) (hok : so.Recs l) (hl : l.length ≤ 4096) (hn : n ≤ 700000) (hB : B ≤ w0.heap.size) (hbw : bw < w0.heap.size) (hne : v0.ownBlock ≠ some bw)
    (hp : so.recAt w00 v l) (hk0 : Keeps (fun _ => False) w00 w0) (hbw0 : w00.heap.size ≤ bw) (hv0 : ∀ j, v0.ownBlock = some j → w00.heap.size ≤ j) (w : World) (h : WrV w0 v0 bw B n l0 w) :
    Calls Tryz.prog 92 #[v, .func (.func 93) #[.pointer (some ⟨bw, 0, none⟩)] #[]] w fun e w' => e = .returned (.tuple #[]) ∧ WrV w0 v0 bw B (n + 9 * l.length) (l0 ++ recsV l) w' := by
  rcases hp with ⟨rfl, ao, cap, rfl⟩ | ⟨_, bb, oo, cc, rfl, hb, hc⟩
  · exact (eachR_none ao cap _ w).mono fun e w' ⟨he, hw⟩ => ⟨he, by rw [hw, show recsV [] = [] from rfl, List.append_nil]; exact h⟩
  have H := Lib.hid h
  have HNE := Lib.hid hne
  have HOK := Lib.hid hok
  have HNS := Lib.hid (show ¬ (bb = bw ∨ some bb = v0.ownBlock) by
    rintro (h | h)
    · omega
    · have := hv0 bb h.symm; omega)
  have hb0 := Nat.lt_of_lt_of_le hb hk0.size
  have HC := Lib.hid (fun i r (hi : l[i]? = some r) => And.intro ((hk0.cell (p := ⟨bb, oo + i * 2, none⟩) hb (fun h => h)).trans (hc i r hi).1) ((hk0.cell (p := ⟨bb, oo + (i * 2 + 1), none⟩) hb (fun h => h)).trans (hc i r hi).2))
  clear h hne hc hok hv0
  go_enter Tryz.func92, Tryz.ntmps92
  go_wp2
  go_loopw [5, 8] (fun _ i wr => ∃ k : Nat, k ≤ l.length ∧ i = .int .i64 k ∧ RowKit.Hid (WrV w0 v0 bw B (n + 9 * k) (l0 ++ recsV (l.take k)) wr)) (fun _ i _ => l.length - (intOf i).toNat)
  case atStart => exact ⟨0, Nat.zero_le _, rfl, Lib.hid (by rw [List.take_zero, show recsV [] = [] from rfl, List.append_nil]; exact H.out)⟩
  case round =>
    obtain ⟨k, hk, rfl, HW⟩ := hrel
    by_cases hkl : k < l.length
    · have hkI : (k : Int) < (l.length : Int) := by omega
      have hk0' : (0 : Int) ≤ (k : Int) := by omega
      have hli : l[k]? = some (l[k]'hkl) := List.getElem?_eq_getElem _
      have hst : recsV (l.take (k + 1)) = recsV (l.take k) ++ recV (l[k]'hkl) := by rw [List.take_add_one, hli]; exact recsV_snoc _ _
      have hrk := HOK.out _ (List.mem_of_getElem? hli)
      obtain ⟨r, hr⟩ : ∃ r, (l[k]'hkl) = r := ⟨_, rfl⟩
      rw [hr] at hli hst hrk
      have c0 := (HW.out.keeps.cell (p := ⟨bb, oo + k * 2, none⟩) hb0 HNS.out).trans (HC.out k r hli).1
      have c1 := (HW.out.keeps.cell (p := ⟨bb, oo + (k * 2 + 1), none⟩) hb0 HNS.out).trans (HC.out k r hli).2
      rw [← Nat.add_assoc] at c1
      have HST := Lib.hid hst
      have HU := Lib.hid hrk.2
      have HW2 := Lib.hid (HW.out.kept ((Keeps.refl _ wr).alloc (.cells #[.int .u64 r.1, .int .u64 r.2] 158)))
      clear hst hrk hr hli
      go_wp2_with fail
      refine (wrecord_calls w0 v0 bw B (n + 9 * k) _ r HU.out (by omega) hB hbw HNE.out _ HW2.out).mono ?_; rintro e w3 ⟨rfl, h3⟩
      have H3 := Lib.hid h3
      clear h3 c0 c1
      go_wp2
      go_roundw
      case rel => exact ⟨k + 1, by omega, by go_num, Lib.hid (by rw [HST.out, ← List.append_assoc]; exact H3.out)⟩
      case measure => simp [intOf]; omega
    · obtain rfl : k = l.length := by omega
      go_wp2
      go_end0
      exact ⟨rfl, by have := HW.out; rwa [List.take_length] at this⟩
end Go.Proofs.YtmoajobnhiopiaaGreatDoor.sv
set_option linter.unusedSimpArgs false
set_option linter.unusedVariables false
namespace Go.Proofs.YtmoajobnhiopiaaGreatDoor.sv
open Go Go.RowKit Go.Shelf Go.Maps Go.Proofs.YtmoajobnhiopiaaGreatDoor.mk Go.Proofs.YtmoajobnhiopiaaGreatDoor.tp Go.Proofs.YtmoajobnhiopiaaGreatDoor.rg Go.Proofs.YtmoajobnhiopiaaGreatDoor.lm Go.Proofs.YtmoajobnhiopiaaGreatDoor.gm Go.Proofs.YtmoajobnhiopiaaGreatDoor.po
open List renaming getElem_toArray → ga, getElem_cons_zero → gb, getElem_cons_succ → gc, setIfInBounds_toArray → gd, set_cons_zero → ge, set_cons_succ → gf
def respV (op x c : Int) (l : List (Int × Int)) : List Value := ([.int .u8 0, .int .u8 (x % 256)] ++ (if op = 5 then [.int .u8 (IntKind.u8.wrap c), .int .u8 (IntKind.u8.wrap (c / 256))] else [])) ++ recsV l
def Responded (w : World) (op x c : Int) (l : List (Int × Int)) (e : Ending) (w' : World) : Prop := (∃ v n, e = .returned (.tuple #[v, .int .i64 0]) ∧ w'.ownsRow w.heap.size 5 1 v n (respV op x c l)) ∧ Keeps (fun _ => False) w w'
theorem xo_ne {x : Int} (h : (x == 5) = false) : ¬ x = 5 := by simpa using h
set_option maxRecDepth 100000 in
set_option maxHeartbeats 8000000 in
theorem respond_o (xo xv xp x c : Int) (ah ar : Option Addr) (K ch n cr : Nat) (l : List (Int × Int)) (h5 : (xo == 5) = false) (hl : l.length ≤ 4096) (hok : so.Recs l) (hc0 : 0 ≤ c) (hc1 : c ≤ 4096) (w : World)
    (hfm : ∀ W, Keeps (fun _ => False) w W → Calls Tryz.prog 90 #[.agg #[.int .i64 xo, .int .i64 xv, .slice ah K ch, .int .i64 xp]] W (Formatted W))
    (his : ∀ W, Keeps (fun _ => False) w W → Calls Tryz.prog 91 #[.agg #[.int .i64 xo, .int .i64 xv, .slice ah K ch, .int .i64 xp], .agg #[.int .i64 x, .int .i64 c, .slice ar n cr]] W fun e w' => e = .returned (.bool true) ∧ Keeps (fun _ => False) W w') (hr : so.recAt w (.slice ar n cr) l) :
    Calls Tryz.prog 62 #[.agg #[.int .i64 xo, .int .i64 xv, .slice ah K ch, .int .i64 xp], .agg #[.int .i64 x, .int .i64 c, .slice ar n cr]] w (Responded w xo x c l) := by
  obtain ⟨i0, hi, hz0, hz1, hz2⟩ := info_parts infoB
  have HFM := Lib.hid hfm
  have HIS := Lib.hid his
  have HR := Lib.hid hr
  have HOK := Lib.hid hok
  have HL := Lib.hid hl
  have hx5 := xo_ne h5
  clear hfm his hr hok hl
  go_enter Tryz.func62, Tryz.ntmps62
  go_upto_region 1 with fail
  obtain ⟨w1, hw1⟩ : ∃ w1, (w.alloc (.cells #[.int .i64 xo, .int .i64 xv, .slice ah K ch, .int .i64 xp] 27)).alloc (.cells #[.int .i64 x, .int .i64 c, .slice ar n cr] 110) = w1 := ⟨_, rfl⟩
  have hg := heap2 w (.cells #[.int .i64 xo, .int .i64 xv, .slice ah K ch, .int .i64 xp] 27) (.cells #[.int .i64 x, .int .i64 c, .slice ar n cr] 110)
  have hk1 : Keeps (fun _ => False) w w1 := by rw [← hw1]; exact ((Keeps.refl _ w).alloc _).alloc _
  rw [hw1] at hg ⊢
  clear hw1
  obtain ⟨hg0, hg1⟩ := hg
  have hl0 : w.heap.size < w1.heap.size := (Array.getElem?_eq_some_iff.1 hg0).1
  have hl1 : w.heap.size + 1 < w1.heap.size := (Array.getElem?_eq_some_iff.1 hg1).1
  have c0 := cells_at hg0 0
  have c1 := cells_at hg0 1
  have c2 := cells_at hg0 2
  have c3 := cells_at hg0 3
  have a0 := cells_at hg1 0
  have a1 := cells_at hg1 1
  have a2 := cells_at hg1 2
  have G0 := Lib.hid hg0
  have G1 := Lib.hid hg1
  clear hg0 hg1
  go_wp2_with fail
  refine (HFM.out w1 hk1).mono ?_; rintro e w2 ⟨⟨vf, nf, lf, rfl, _, _⟩, hk2⟩
  have hk02 := knil hk1 hk2
  have hg0 := (hk2.block _ hl0 (fun h => h)).trans G0.out
  have hg1 := (hk2.block _ hl1 (fun h => h)).trans G1.out
  clear c0 c1 c2 c3 a0 a1 a2
  have c0 := cells_at hg0 0
  have c1 := cells_at hg0 1
  have c2 := cells_at hg0 2
  have c3 := cells_at hg0 3
  have a0 := cells_at hg1 0
  have a1 := cells_at hg1 1
  have a2 := cells_at hg1 2
  clear hg0 hg1
  go_wp2_with fail
  refine (HIS.out w2 hk02).mono ?_; rintro e w3 ⟨rfl, hk3⟩
  have hk13 := knil hk2 hk3
  have hk03 := knil hk1 hk13
  have hg0 := (hk13.block _ hl0 (fun h => h)).trans G0.out
  have hg1 := (hk13.block _ hl1 (fun h => h)).trans G1.out
  clear c0 c1 c2 c3 a0 a1 a2
  have c0 := cells_at hg0 0
  have c1 := cells_at hg0 1
  have c2 := cells_at hg0 2
  have c3 := cells_at hg0 3
  have a0 := cells_at hg1 0
  have a1 := cells_at hg1 1
  have a2 := cells_at hg1 2
  clear hg0 hg1
  go_upto_region 7 with fail
  obtain ⟨w4, hw4⟩ : ∃ w4, (w3.alloc (.cells #[.int .u8 0, .int .u8 (x % 256)] 5)).alloc (.cells #[.slice (some ⟨w3.heap.size, 0, none⟩) 2 2] 155) = w4 := ⟨_, rfl⟩
  obtain ⟨g0, hg0⟩ : ∃ g, w3.heap.size = g := ⟨_, rfl⟩
  have hg := heap2 w3 (.cells #[.int .u8 0, .int .u8 (x % 256)] 5) (.cells #[.slice (some ⟨w3.heap.size, 0, none⟩) 2 2] 155)
  have hk4 : Keeps (fun _ => False) w3 w4 := by rw [← hw4]; exact ((Keeps.refl _ w3).alloc _).alloc _
  have hs4 : w4.heap.size = g0 + 2 := by rw [← hw4, ← hg0]; simp
  rw [hw4] at hg ⊢
  rw [hg0] at hg
  try rw [hg0]
  have hg0w : w.heap.size + 1 < g0 := by rw [← hg0]; exact Nat.lt_of_lt_of_le hl1 hk13.size
  obtain ⟨hga, hgw⟩ := hg
  have hk04 := knil hk03 hk4
  have hgh := (hk4.block _ (by rw [hg0]; omega) (fun h => h)).trans ((hk13.block _ hl0 (fun h => h)).trans G0.out)
  have hgn := (hk4.block _ (by rw [hg0]; omega) (fun h => h)).trans ((hk13.block _ hl1 (fun h => h)).trans G1.out)
  have hwr : WrV w4 (.slice (some ⟨g0, 0, none⟩) 2 2) (g0 + 1) w.heap.size 2 [.int .u8 0, .int .u8 (x % 256)] w4 := ⟨_, hgw, ⟨rfl, .inr ⟨g0, 2, #[.int .u8 0, .int .u8 (x % 256)], rfl, by omega, hga, Nat.le_refl _, by unfold maxLen; omega, rfl, rfl⟩⟩, .inl rfl, Keeps.refl _ _⟩
  have HWR := Lib.hid hwr
  clear hwr c0 c1 c2 c3 a0 a1 a2 hw4 hg0 hga hgw
  have c0 := cells_at hgh 0
  have c1 := cells_at hgh 1
  have c2 := cells_at hgh 2
  have c3 := cells_at hgh 3
  have a0 := cells_at hgn 0
  have a1 := cells_at hgn 1
  have a2 := cells_at hgn 2
  have GH := Lib.hid hgh
  have GN := Lib.hid hgn
  have hne0 : (Value.slice (some ⟨g0, 0, none⟩) 2 2).ownBlock ≠ some (g0 + 1) := fun h => by
    have h' : g0 = g0 + 1 := Option.some.inj h
    omega
  have hlt0 : ∀ j, (Value.slice (some ⟨g0, 0, none⟩) 2 2).ownBlock = some j → w.heap.size ≤ j := fun j h => by
    have h' : g0 = j := Option.some.inj h
    omega
  have HNE := Lib.hid hne0
  have HLT := Lib.hid hlt0
  clear hgh hgn hne0 hlt0
  go_wp2_with fail
  refine (eachR_calls w w4 _ (.slice ar n cr) (g0 + 1) w.heap.size 2 _ l HOK.out HL.out (by omega) (by omega) (by omega) HNE.out HR.out hk04 (by omega) HLT.out w4 HWR.out).mono ?_; rintro e w5 ⟨rfl, h5⟩
  obtain ⟨v5, h51, h52, h53, h54⟩ := h5
  have d0 := cells_at h51 0
  have H52 := Lib.hid h52
  have H54 := Lib.hid h54
  clear h51 h52 h53 h54 c0 c1 c2 c3 a0 a1 a2
  go_wp2_with fail
  go_ret2
  refine ⟨⟨v5, 2 + 9 * l.length, rfl, ?_⟩, hk04.trans H54.out (fun i hi h => by
    rcases h with h | h
    · omega
    · have h' : i = g0 := Option.some.inj h
      omega)⟩
  unfold respV
  rw [if_neg hx5, List.append_nil]
  exact H52.out
set_option maxRecDepth 100000 in
set_option maxHeartbeats 8000000 in
theorem respond_5 (xv xp x c : Int) (ah ar : Option Addr) (K ch n cr : Nat) (l : List (Int × Int)) (hl : l.length ≤ 4096) (hok : so.Recs l) (hc0 : 0 ≤ c) (hc1 : c ≤ 4096) (w : World)
    (hfm : ∀ W, Keeps (fun _ => False) w W → Calls Tryz.prog 90 #[.agg #[.int .i64 5, .int .i64 xv, .slice ah K ch, .int .i64 xp]] W (Formatted W))
    (his : ∀ W, Keeps (fun _ => False) w W → Calls Tryz.prog 91 #[.agg #[.int .i64 5, .int .i64 xv, .slice ah K ch, .int .i64 xp], .agg #[.int .i64 x, .int .i64 c, .slice ar n cr]] W fun e w' => e = .returned (.bool true) ∧ Keeps (fun _ => False) W w') (hr : so.recAt w (.slice ar n cr) l) :
    Calls Tryz.prog 62 #[.agg #[.int .i64 5, .int .i64 xv, .slice ah K ch, .int .i64 xp], .agg #[.int .i64 x, .int .i64 c, .slice ar n cr]] w (Responded w 5 x c l) := by
  obtain ⟨i0, hi, hz0, hz1, hz2⟩ := info_parts infoB
  have HFM := Lib.hid hfm
  have HIS := Lib.hid his
  have HR := Lib.hid hr
  have HOK := Lib.hid hok
  have HL := Lib.hid hl
  clear hfm his hr hok hl
  go_enter Tryz.func62, Tryz.ntmps62
  go_upto_region 1 with fail
  obtain ⟨w1, hw1⟩ : ∃ w1, (w.alloc (.cells #[.int .i64 5, .int .i64 xv, .slice ah K ch, .int .i64 xp] 27)).alloc (.cells #[.int .i64 x, .int .i64 c, .slice ar n cr] 110) = w1 := ⟨_, rfl⟩
  have hg := heap2 w (.cells #[.int .i64 5, .int .i64 xv, .slice ah K ch, .int .i64 xp] 27) (.cells #[.int .i64 x, .int .i64 c, .slice ar n cr] 110)
  have hk1 : Keeps (fun _ => False) w w1 := by rw [← hw1]; exact ((Keeps.refl _ w).alloc _).alloc _
  rw [hw1] at hg ⊢
  clear hw1
  obtain ⟨hg0, hg1⟩ := hg
  have hl0 : w.heap.size < w1.heap.size := (Array.getElem?_eq_some_iff.1 hg0).1
  have hl1 : w.heap.size + 1 < w1.heap.size := (Array.getElem?_eq_some_iff.1 hg1).1
  have c0 := cells_at hg0 0
  have c1 := cells_at hg0 1
  have c2 := cells_at hg0 2
  have c3 := cells_at hg0 3
  have a0 := cells_at hg1 0
  have a1 := cells_at hg1 1
  have a2 := cells_at hg1 2
  have G0 := Lib.hid hg0
  have G1 := Lib.hid hg1
  clear hg0 hg1
  go_wp2_with fail
  refine (HFM.out w1 hk1).mono ?_; rintro e w2 ⟨⟨vf, nf, lf, rfl, _, _⟩, hk2⟩
  have hk02 := knil hk1 hk2
  have hg0 := (hk2.block _ hl0 (fun h => h)).trans G0.out
  have hg1 := (hk2.block _ hl1 (fun h => h)).trans G1.out
  clear c0 c1 c2 c3 a0 a1 a2
  have c0 := cells_at hg0 0
  have c1 := cells_at hg0 1
  have c2 := cells_at hg0 2
  have c3 := cells_at hg0 3
  have a0 := cells_at hg1 0
  have a1 := cells_at hg1 1
  have a2 := cells_at hg1 2
  clear hg0 hg1
  go_wp2_with fail
  refine (HIS.out w2 hk02).mono ?_; rintro e w3 ⟨rfl, hk3⟩
  have hk13 := knil hk2 hk3
  have hk03 := knil hk1 hk13
  have hg0 := (hk13.block _ hl0 (fun h => h)).trans G0.out
  have hg1 := (hk13.block _ hl1 (fun h => h)).trans G1.out
  clear c0 c1 c2 c3 a0 a1 a2
  have c0 := cells_at hg0 0
  have c1 := cells_at hg0 1
  have c2 := cells_at hg0 2
  have c3 := cells_at hg0 3
  have a0 := cells_at hg1 0
  have a1 := cells_at hg1 1
  have a2 := cells_at hg1 2
  clear hg0 hg1
  go_upto_region 7 with fail
  obtain ⟨w4, hw4⟩ : ∃ w4, (w3.alloc (.cells #[.int .u8 0, .int .u8 (x % 256)] 5)).alloc (.cells #[.slice (some ⟨w3.heap.size, 0, none⟩) 2 2] 155) = w4 := ⟨_, rfl⟩
  obtain ⟨g0, hg0⟩ : ∃ g, w3.heap.size = g := ⟨_, rfl⟩
  have hg := heap2 w3 (.cells #[.int .u8 0, .int .u8 (x % 256)] 5) (.cells #[.slice (some ⟨w3.heap.size, 0, none⟩) 2 2] 155)
  have hk4 : Keeps (fun _ => False) w3 w4 := by rw [← hw4]; exact ((Keeps.refl _ w3).alloc _).alloc _
  have hs4 : w4.heap.size = g0 + 2 := by rw [← hw4, ← hg0]; simp
  rw [hw4] at hg ⊢
  rw [hg0] at hg
  try rw [hg0]
  have hg0w : w.heap.size + 1 < g0 := by rw [← hg0]; exact Nat.lt_of_lt_of_le hl1 hk13.size
  obtain ⟨hga, hgw⟩ := hg
  have hk04 := knil hk03 hk4
  have hgh := (hk4.block _ (by rw [hg0]; omega) (fun h => h)).trans ((hk13.block _ hl0 (fun h => h)).trans G0.out)
  have hgn := (hk4.block _ (by rw [hg0]; omega) (fun h => h)).trans ((hk13.block _ hl1 (fun h => h)).trans G1.out)
  have hwr : WrV w4 (.slice (some ⟨g0, 0, none⟩) 2 2) (g0 + 1) w.heap.size 2 [.int .u8 0, .int .u8 (x % 256)] w4 := ⟨_, hgw, ⟨rfl, .inr ⟨g0, 2, #[.int .u8 0, .int .u8 (x % 256)], rfl, by omega, hga, Nat.le_refl _, by unfold maxLen; omega, rfl, rfl⟩⟩, .inl rfl, Keeps.refl _ _⟩
  have HWR := Lib.hid hwr
  clear hwr c0 c1 c2 c3 a0 a1 a2 hw4 hg0 hga hgw
  have c0 := cells_at hgh 0
  have c1 := cells_at hgh 1
  have c2 := cells_at hgh 2
  have c3 := cells_at hgh 3
  have a0 := cells_at hgn 0
  have a1 := cells_at hgn 1
  have a2 := cells_at hgn 2
  have GH := Lib.hid hgh
  have GN := Lib.hid hgn
  have hne0 : (Value.slice (some ⟨g0, 0, none⟩) 2 2).ownBlock ≠ some (g0 + 1) := fun h => by
    have h' : g0 = g0 + 1 := Option.some.inj h
    omega
  have hlt0 : ∀ j, (Value.slice (some ⟨g0, 0, none⟩) 2 2).ownBlock = some j → w.heap.size ≤ j := fun j h => by
    have h' : g0 = j := Option.some.inj h
    omega
  have HNE := Lib.hid hne0
  have HLT := Lib.hid hlt0
  clear hgh hgn hne0 hlt0
  go_upto_region 8 with fail
  obtain ⟨v0, hv0⟩ : ∃ v, (Value.slice (some ⟨g0, 0, none⟩) 2 2) = v := ⟨_, rfl⟩
  obtain ⟨l0, hll0⟩ : ∃ l, ([.int .u8 0, .int .u8 (x % 256)] : List Value) = l := ⟨_, rfl⟩
  rw [hv0] at HWR HNE HLT
  rw [hll0] at HWR
  have hb0 : ∀ j, v0.ownBlock = some j → j = g0 := fun j hj => by rw [← hv0] at hj; exact (Option.some.inj hj).symm
  have HB0 := Lib.hid hb0
  have HLL := Lib.hid hll0
  obtain ⟨bw, hbw⟩ : ∃ b, g0 + 1 = b := ⟨_, rfl⟩
  obtain ⟨gn, hgn⟩ : ∃ b, w.heap.size + 1 = b := ⟨_, rfl⟩
  obtain ⟨B, hBB⟩ : ∃ b, w.heap.size = b := ⟨_, rfl⟩
  have GN' := GN
  rw [hbw, hBB] at HWR
  try rw [hbw]
  rw [hgn] at GN'
  try rw [hgn]
  rw [hbw] at HNE
  have hbwl : bw < w4.heap.size := by omega
  have hgnl : gn < g0 := by omega
  have hgnb : gn < bw := by omega
  have hBw4 : B ≤ w4.heap.size := by omega
  have HBW := Lib.hid hbw
  have HGN := Lib.hid hgn
  have HBB := Lib.hid hBB
  obtain ⟨v, hgw, hrw, ho, hK⟩ := HWR.out
  have cw := cells_at hgw 0
  have cn := cells_at GN'.out 1
  refine wp_region_late (fun W => W.cell? ⟨bw, 0, none⟩ = some v ∧ W.cell? ⟨gn, 1, none⟩ = some (.int .i64 c)) [16] (by kernel_rfl) ?_
  have hS : w4.drew.cell? ⟨bw, 0, none⟩ = some v ∧ w4.drew.cell? ⟨gn, 1, none⟩ = some (.int .i64 c) := ⟨cw, cn⟩
  have HRD := Lib.hid (show w4.drew.ownsRow B 5 1 v 2 l0 from hrw)
  have HGD := Lib.hid (show w4.drew.heap[bw]? = some (.cells #[v] 155 (0, 0)) from hgw)
  have HGND := Lib.hid (show w4.drew.heap[gn]? = some (.cells #[.int .i64 x, .int .i64 c, .slice ar n cr] 110 (0, 0)) from GN'.out)
  have HKD := Lib.hid (show Keeps (fun j => j = bw ∨ some j = v0.ownBlock) w4 w4.drew from hK.drewN 1)
  have HO := Lib.hid ho
  have hbd : bw < w4.drew.heap.size := (Array.getElem?_eq_some_iff.1 HGD.out).1
  have hgnd : gn < w4.drew.heap.size := (Array.getElem?_eq_some_iff.1 HGND.out).1
  have hsz0 := Lib.hid (show B ≤ w4.drew.heap.size by show B ≤ w4.heap.size; omega)
  have hvne : ¬ some bw = v.ownBlock := fun h => by
    rcases HO.out with ho | ⟨j, ho, hj⟩
    · exact HNE.out (by rw [← ho, ← h])
    · rw [ho] at h; injection h with h; omega
  have hgnv : ¬ some gn = v.ownBlock := fun h => by
    rcases HO.out with ho | ⟨j, ho, hj⟩
    · have := HB0.out gn (by rw [← ho, ← h]); omega
    · rw [ho] at h; injection h with h; omega
  clear cw cn hgw hrw ho hK hv0 hll0 hbw hgn hBB hb0
  generalize w4.drew = wd at hS HRD HGD HGND HKD hbd hgnd hsz0 ⊢
  refine tkA 0 (.pointer (some ⟨bw, 0, none⟩)) rfl (by kernel_rfl) (fun _ _ _ h => (h : False).elim) (by kernel_rfl) (fun _ => ‹_›) ?_ ?_
  · intro w _; go_simp
  try simp only [ga, gb, gc, Act.put, gd, ge, gf]
  refine tkA 1 (.pointer (some ⟨bw, 0, none⟩)) rfl (by kernel_rfl) (fun _ _ _ h => (h : False).elim) (by kernel_rfl) (fun _ => ‹_›) ?_ ?_
  · intro w _; go_simp
  try simp only [ga, gb, gc, Act.put, gd, ge, gf]
  refine tkA 2 (.pointer (some ⟨bw, 0, none⟩)) rfl (by kernel_rfl) (fun _ _ _ h => (h : False).elim) (by kernel_rfl) (fun _ => ‹_›) ?_ ?_
  · intro w _; go_simp
  try simp only [ga, gb, gc, Act.put, gd, ge, gf]
  refine tkA 3 (.pointer (some ⟨bw, 0, none⟩)) rfl (by kernel_rfl) (fun _ _ _ h => (h : False).elim) (by kernel_rfl) (fun _ => ‹_›) ?_ ?_
  · intro w _; go_simp
  try simp only [ga, gb, gc, Act.put, gd, ge, gf]
  refine tkL 4 (v) rfl (by kernel_rfl) (fun _ _ _ h => (h : False).elim) (by kernel_rfl) ‹_› ?_ ?_
  · intro w hSw
    obtain ⟨s0, s1⟩ := hSw
    go_simp
  try simp only [ga, gb, gc, Act.put, gd, ge, gf]
  refine tkA 5 (.pointer (some ⟨gn, 1, none⟩)) rfl (by kernel_rfl) (fun _ _ _ h => (h : False).elim) (by kernel_rfl) (fun _ => ‹_›) ?_ ?_
  · intro w _; go_simp
  try simp only [ga, gb, gc, Act.put, gd, ge, gf]
  refine tkL 6 (.int .i64 c) rfl (by kernel_rfl) (fun _ _ _ h => (h : False).elim) (by kernel_rfl) ‹_› ?_ ?_
  · intro w hSw
    obtain ⟨s0, s1⟩ := hSw
    go_simp
  try simp only [ga, gb, gc, Act.put, gd, ge, gf]
  refine tkA 7 (.int .u8 (IntKind.u8.wrap c)) rfl (by kernel_rfl) (fun _ _ _ h => (h : False).elim) (by kernel_rfl) (fun _ => ‹_›) ?_ ?_
  · intro w _; go_simp
  try simp only [ga, gb, gc, Act.put, gd, ge, gf]
  refine tkA 8 (.pointer (some ⟨gn, 1, none⟩)) rfl (by kernel_rfl) (fun _ _ _ h => (h : False).elim) (by kernel_rfl) (fun _ => ‹_›) ?_ ?_
  · intro w _; go_simp
  try simp only [ga, gb, gc, Act.put, gd, ge, gf]
  refine tkL 9 (.int .i64 c) rfl (by kernel_rfl) (fun _ _ _ h => (h : False).elim) (by kernel_rfl) ‹_› ?_ ?_
  · intro w hSw
    obtain ⟨s0, s1⟩ := hSw
    go_simp
  try simp only [ga, gb, gc, Act.put, gd, ge, gf]
  refine tkA 10 (.int .i64 (c / 256)) rfl (by kernel_rfl) (fun _ _ _ h => (h : False).elim) (by kernel_rfl) (fun _ => ‹_›) ?_ ?_
  · intro w _; go_simp
  try simp only [ga, gb, gc, Act.put, gd, ge, gf]
  refine tkA 11 (.int .u8 (IntKind.u8.wrap (c / 256))) rfl (by kernel_rfl) (fun _ _ _ h => (h : False).elim) (by kernel_rfl) (fun _ => ‹_›) ?_ ?_
  · intro w _; go_simp
  try simp only [ga, gb, gc, Act.put, gd, ge, gf]
  refine wpAnyL_next (i := 12) (by kernel_rfl) rfl (fun K hK => ?_)
  go_simp
  obtain ⟨y1, hy1⟩ : ∃ y1, wd.alloc (.cells #[.int .u8 (IntKind.u8.wrap c), .int .u8 (IntKind.u8.wrap (c / 256))] 5) = y1 := ⟨_, rfl⟩
  obtain ⟨gy, hgy⟩ : ∃ gy, wd.heap.size = gy := ⟨_, rfl⟩
  have hky : Keeps (fun _ => False) wd y1 := by rw [← hy1]; exact (Keeps.refl _ _).alloc _
  have hgc : y1.heap[gy]? = some (.cells #[.int .u8 (IntKind.u8.wrap c), .int .u8 (IntKind.u8.wrap (c / 256))] 5 (0, 0)) := by rw [← hy1, ← hgy]; exact heap_alloc_new _ _
  have hry : y1.ownsRow B 5 1 v 2 l0 := by rw [← hy1]; exact HRD.out.alloc _
  have hsy : y1.heap.size = gy + 1 := by rw [← hy1, ← hgy]; simp
  rw [hy1]
  try rw [hgy]
  have hcyS : y1.cell? ⟨bw, 0, none⟩ = some v ∧ y1.cell? ⟨gn, 1, none⟩ = some (.int .i64 c) := ⟨(hky.cell (p := ⟨bw, 0, none⟩) hbd (fun h => h)).trans hS.1, (hky.cell (p := ⟨gn, 1, none⟩) hgnd (fun h => h)).trans hS.2⟩
  refine hK.out _ _ hcyS (fun hHeld => ?_)
  clear hK K
  try simp only [ga, gb, gc, Act.put, gd, ge, gf]
  refine wpAnyL_next (i := 13) (by kernel_rfl) rfl (fun K hK => ?_)
  rw [if_pos (by rfl)]
  refine wp_append_atW (.tmp 34) (.tmp 42) 22 rfl B 5 i0 (.int .u8 0) 1 1 Tryz.underlying22 hi hz0 hz1 hz2 rfl (by decide) v 2 l0 rfl hry (some ⟨gy, 0, none⟩) 2 2 [.int .u8 (IntKind.u8.wrap c), .int .u8 (IntKind.u8.wrap (c / 256))] rfl (fun h => by cases h) rfl ?_ ?_ (by unfold maxLen; omega) (by omega) (by have := hsz0.out; omega) ?_
  · intro ad had j u hj
    injection had with had
    subst had
    have hadd : (⟨gy, 0, none⟩ : Addr).add j = ⟨gy, 0 + j, none⟩ := by unfold Addr.add; split <;> simp_all
    rw [hadd, cell_of_row _ _ _ _ _ _ hgc, Nat.zero_add]
    simpa using hj
  · intro u hu; simp at hu; rcases hu with rfl | rfl <;> rfl
  intro v6 w9 r6 hg6 hat6
  obtain ⟨ao6, c6, rfl⟩ : ∃ ao c, v6 = .slice ao (2 + 2) c := by
    rcases r6.2 with ⟨_, h0⟩ | ⟨g, cap, cur, rfl, _⟩
    · omega
    · exact ⟨_, _, rfl⟩
  have hk9 : Keeps (fun j => some j = v.ownBlock) y1 w9 := (Keeps.refl (fun j => some j = v.ownBlock) y1).grown hg6 (fun j h1 _ => h1.symm)
  have hvb : ¬ some bw = v.ownBlock := hvne
  have c9S : w9.cell? ⟨bw, 0, none⟩ = some v ∧ w9.cell? ⟨gn, 1, none⟩ = some (.int .i64 c) := ⟨(hk9.cell (p := ⟨bw, 0, none⟩) (show bw < y1.heap.size by omega) hvb).trans hcyS.1, (hk9.cell (p := ⟨gn, 1, none⟩) (show gn < y1.heap.size by omega) hgnv).trans hcyS.2⟩
  have f9 := (hk9.block bw (by omega) hvb).trans ((hky.block bw hbd (fun h => h)).trans HGD.out)
  have fz := two_frozen f9 0
  have cz := cells_at f9 0
  refine hK.out _ _ c9S (fun hHeld => ?_)
  clear hK K
  try simp only [ga, gb, gc, Act.put, gd, ge, gf]
  refine tkA 14 (.pointer (some ⟨bw, 0, none⟩)) rfl (by kernel_rfl) (fun _ _ _ h => (h : False).elim) (by kernel_rfl) (fun _ => ‹_›) ?_ ?_
  · intro w _; go_simp
  try simp only [ga, gb, gc, Act.put, gd, ge, gf]
  refine tkA 15 (.pointer (some ⟨bw, 0, none⟩)) rfl (by kernel_rfl) (fun _ _ _ h => (h : False).elim) (by kernel_rfl) (fun _ => ‹_›) ?_ ?_
  · intro w _; go_simp
  try simp only [ga, gb, gc, Act.put, gd, ge, gf]
  refine wpAnyL_late (i := 16) (by kernel_rfl) rfl (by kernel_rfl) (fun K hK => ?_)
  go_simp
  refine hK.out _ _ (fun _ => ?_)
  clear hK K
  try simp only [ga, gb, gc, Act.put, gd, ge, gf]
  refine wpAnyL_done (by kernel_rfl) ?_ _
  refine NoPanic.normal ?_
  clear hS hcyS c9S
  have hv6 : (Value.slice ao6 (2 + 2) c6).ownBlock ≠ some bw := fun h => by
    rcases hat6 with h1 | h1
    · exact hvb (by rw [← h1, h])
    · rw [h1] at h; injection h with h; omega
  have hkF : Keeps (fun j => j = bw) w9 (w9.setCell ⟨bw, 0, none⟩ (.slice ao6 (2 + 2) c6)) := (Keeps.refl (fun j => j = bw) w9).setCell ⟨bw, 0, none⟩ (fun _ => rfl) _
  have hWr : WrV w4 v0 bw B (2 + 2) (l0 ++ [.int .u8 (IntKind.u8.wrap c), .int .u8 (IntKind.u8.wrap (c / 256))]) (w9.setCell ⟨bw, 0, none⟩ (.slice ao6 (2 + 2) c6)) := by
    refine ⟨_, cells_put f9 0 _, rowW_off r6 hkF hv6, ?_, ?_⟩
    · rcases hat6 with h1 | h1
      · rw [h1]; exact HO.out
      · exact .inr ⟨_, h1, by have := HKD.out.size; have := hky.size; omega⟩
    · refine ((HKD.out.trans hky (fun i hi h => h.elim)).trans hk9 (fun i hi h => ?_)).trans hkF (fun i hi h => .inl h)
      rcases HO.out with ho | ⟨j, ho, hj⟩
      · exact .inr (by rw [h, ho])
      · rw [ho] at h; injection h with h; omega
  have hgnf := (hkF.block gn (Nat.lt_of_lt_of_le (show gn < y1.heap.size by omega) hk9.size) (by omega)).trans ((hk9.block gn (by omega) hgnv).trans ((hky.block gn hgnd (fun h => h)).trans HGND.out))
  have HWR := Lib.hid hWr
  have a2 := cells_at hgnf 2
  clear hWr hkF r6 hg6 hat6 hv6 f9 fz cz hk9 hvb hgc hry hky hgnf c0 c1 c2 c3 a0 a1
  go_wp2_with fail
  refine (eachR_calls w w4 v0 (.slice ar n cr) bw B 4 (l0 ++ [.int .u8 (IntKind.u8.wrap c), .int .u8 (IntKind.u8.wrap (c / 256))]) l HOK.out HL.out (by omega) (by omega) hbwl HNE.out HR.out hk04 (by have := HBW.out; omega) HLT.out _ HWR.out).mono ?_; rintro e w5 ⟨rfl, h5⟩
  obtain ⟨v5, h51, h52, h53, h54⟩ := h5
  have d0 := cells_at h51 0
  have H52 := Lib.hid h52
  have H54 := Lib.hid h54
  clear h51 h52 h53 h54 a2
  go_wp2_with fail
  go_ret2
  refine ⟨⟨v5, 4 + 9 * l.length, rfl, ?_⟩, hk04.trans H54.out (fun i hi h => by
    rcases h with h | h
    · have := HBW.out; omega
    · have := HB0.out i h.symm; omega)⟩
  unfold respV
  rw [if_pos rfl, HLL.out, HBB.out]
  exact H52.out
theorem respond_calls (v u : Value) (h : Hd) (x c : Int) (l : List (Int × Int)) (ho : HdOk h) (ha : AnsOk h x c l) (hok : so.Recs l) (w : World) (hv : HdAt w v h) (hu : AnsAt w u x c l) : Calls Tryz.prog 62 #[v, u] w (Responded w h.op x c l) := by
  have hfm := fun W (hk : Keeps (fun _ => False) w W) => format_calls v h ho W (hv.kept hk)
  have his := fun W (hk : Keeps (fun _ => False) w W) => isAnswer_calls v u h x c l ho ha W (hv.kept hk) (hu.kept hk)
  obtain ⟨ah, ch, rfl, hreg, hz⟩ := hv
  obtain ⟨vr, rfl, hrec, ar, n, cr, rfl⟩ := hu
  obtain ⟨hx0, hx1, hlp, hc0, hc1, hxc, hl⟩ := ha
  have hp : h.pts ≤ 4096 := by
    rcases ho with ⟨_, _, _, h4⟩ | ⟨_, _, _, h4⟩ | ⟨⟨_, h4⟩ | ⟨_, _, h4⟩, _⟩ <;> omega
  by_cases h5 : h.op = 5
  · rw [h5] at hfm his ⊢
    exact respond_5 _ _ x c ah ar _ ch n cr l (by omega) hok hc0 (by omega) w hfm his hrec
  · exact respond_o _ _ _ x c ah ar _ ch n cr l (by simp [h5]) (by omega) hok hc0 (by omega) w hfm his hrec
end Go.Proofs.YtmoajobnhiopiaaGreatDoor.sv
set_option linter.unusedSimpArgs false
set_option linter.unusedVariables false
namespace Go.Proofs.YtmoajobnhiopiaaGreatDoor.sv
open Go Go.RowKit Go.Shelf Go.Maps Go.Proofs.YtmoajobnhiopiaaGreatDoor.mk Go.Proofs.YtmoajobnhiopiaaGreatDoor.tp Go.Proofs.YtmoajobnhiopiaaGreatDoor.rg Go.Proofs.YtmoajobnhiopiaaGreatDoor.lm Go.Proofs.YtmoajobnhiopiaaGreatDoor.gm Go.Proofs.YtmoajobnhiopiaaGreatDoor.po
theorem cnt_keys : ∀ l : List (Int × Int), so.Recs l → (((l.map so.keyR).filter (fun k => decide (k < 18446744073709551616))).length : Int) = cntL l
  | [], _ => rfl
  | r :: l, h => by
    have ih := cnt_keys l (fun x hx => h x (by simp [hx]))
    have hr := h r (by simp)
    obtain ⟨a, b⟩ := r
    have hb : IsU b := hr.2
    unfold IsU at hb
    have hc : cntL ((a, b) :: l) = a % 2 + cntL l := by unfold cntL; simp
    rw [List.map_cons, List.filter_cons, hc]
    rcases Int.emod_two_eq a with h0 | h0
    · have e : so.keyR (a, b) = 18446744073709551616 := by unfold so.keyR; simp only; rw [if_neg (by omega)]
      rw [e, h0, if_neg (by decide), ih]
      omega
    · have e : so.keyR (a, b) = b := by unfold so.keyR; simp only; rw [if_pos h0]
      rw [e, h0, if_pos (by simpa using hb.2), List.length_cons, ← ih]
      omega
theorem srt_split {l : List (Int × Int)} (hok : so.Recs l) : so.sortK l = (so.sortK l).filter (fun k => decide (k < 18446744073709551616)) ++ (so.sortK l).filter (fun k => !decide (k < 18446744073709551616)) := by
  refine nw.sorted_unique (so.sortK_sorted l) ?_ (List.filter_append_perm _ _).symm
  rw [List.pairwise_append]
  refine ⟨(so.sortK_sorted l).sublist List.filter_sublist, (so.sortK_sorted l).sublist List.filter_sublist, fun a ha b hb => ?_⟩
  have h1 := (List.mem_filter.1 ha).2
  have h2 := (List.mem_filter.1 hb).2
  simp at h1 h2
  omega
theorem srt_live {l : List (Int × Int)} (hok : so.Recs l) : (((so.sortK l).filter (fun k => decide (k < 18446744073709551616))).length : Int) = cntL l := by
  rw [← cnt_keys l hok, ((so.sortK_perm l).filter _).length_eq]
theorem srt_key {l : List (Int × Int)} (hok : so.Recs l) {i : Nat} {k : Int} (hk : (so.sortK l)[i]? = some k) : if (i : Int) < cntL l then k < 18446744073709551616 else k = 18446744073709551616 := by
  have hl := srt_live hok
  have hm := so.sortK_isK hok k (List.mem_of_getElem? hk)
  rw [srt_split hok] at hk
  by_cases h : (i : Int) < cntL l
  · rw [if_pos h]
    rw [List.getElem?_append_left (by omega)] at hk
    have := (List.mem_filter.1 (List.mem_of_getElem? hk)).2
    simpa using this
  · rw [if_neg h]
    rw [List.getElem?_append_right (by omega)] at hk
    have := (List.mem_filter.1 (List.mem_of_getElem? hk)).2
    simp at this
    have := hm.2
    omega
theorem srt_rec {l : List (Int × Int)} (hok : so.Recs l) {i : Nat} {r : Int × Int} (hr : (so.sortR l)[i]? = some r) : if (i : Int) < cntL l then r.1 = 1 else r = (0, 0) := by
  unfold so.sortR at hr
  rw [List.getElem?_map] at hr
  cases hk : (so.sortK l)[i]? with
  | none => rw [hk] at hr; cases hr
  | some k =>
    rw [hk] at hr
    have hkk := srt_key hok hk
    have e : so.unkey k = r := Option.some.inj hr
    rw [← e]
    unfold so.unkey
    by_cases h : (i : Int) < cntL l
    · rw [if_pos h] at hkk ⊢
      rw [if_pos hkk]
    · rw [if_neg h] at hkk ⊢
      rw [if_neg (by omega)]
def ansX (h : Hd) (rs : List Reg) (ps : List (Int × Int)) : Int := if h.op = 5 then batX rs else ansV h rs ps
def ansC (h : Hd) (rs : List Reg) (qs : List Qry) : Int := if h.op = 5 then batN rs qs else 0
def ansL (h : Hd) (rs : List Reg) (qs : List Qry) : List (Int × Int) := if h.op = 5 then batR rs qs else []
theorem convI_ok (l : List (Int × Int)) (p : Int × Int) : 0 ≤ convI l p ∧ convI l p ≤ 3 := by
  have := locI_ok (sides l l.length p)
  unfold convI
  split <;> omega
theorem fenI_ok (l : List Reg) (p : Int × Int) : 0 ≤ fenI l p ∧ fenI l p ≤ 2 := by
  unfold fenI
  split
  · split <;> omega
  · omega
theorem ansV_ok (h : Hd) (rs : List Reg) (ps : List (Int × Int)) : 0 ≤ ansV h rs ps ∧ ansV h rs ps ≤ if h.op = 3 then 3 else 2 := by
  unfold ansV
  by_cases h1 : h.op = 1
  · rw [if_pos h1, if_neg (by omega)]
    have := sgnI_cases (det (pt ps 0) (pt ps 1) (pt ps 2))
    omega
  rw [if_neg h1]
  by_cases h2 : h.op = 2
  · rw [if_pos h2, if_neg (by omega)]
    have := sgnI_cases (inc (pt ps 0) (pt ps 1) (pt ps 2) (pt ps 3))
    omega
  rw [if_neg h2]
  by_cases h3 : h.op = 3
  · rw [if_pos h3, if_pos h3]; exact convI_ok _ _
  · rw [if_neg h3, if_neg h3]; exact fenI_ok _ _
theorem ans_ok {h : Hd} {rs : List Reg} {ps : List (Int × Int)} {qs : List Qry} (ho : HdOk h) (hf : Fits h rs ps qs) (hqo : QsOk qs) : AnsOk h (ansX h rs ps) (ansC h rs qs) (ansL h rs qs) := by
  unfold ansX ansC ansL
  by_cases h5 : h.op = 5
  · rw [if_pos h5, if_pos h5, if_pos h5]
    have hq : (qs.length : Int) = h.pts := by have := hf.2.2.2; unfold cntQ at this; rw [if_pos h5] at this; exact this
    have hrl := recsC_length (valF rs) rs qs
    have hcb := cntL_bound (recsC (valF rs) rs qs)
    rw [hrl] at hcb
    unfold batX batN batR
    refine ⟨by split <;> omega, by rw [if_neg (show ¬ h.op = 3 by omega), if_pos h5]; split <;> omega, by rw [so.sortR_length, hrl]; exact hq, hcb.1, by omega, fun hx => ?_, fun i r hr => srt_rec (recsC_ok hqo) hr⟩
    have hv : valF rs = false := by
      cases hv : valF rs with
      | true => rw [hv, if_pos rfl] at hx; omega
      | false => rfl
    rw [hv]
    have hz : ∀ r ∈ recsC false rs qs, r = (0, 0) := by
      intro r hr
      obtain ⟨q, _, rfl⟩ := List.mem_map.1 hr
      rfl
    have : ∀ l : List (Int × Int), (∀ r ∈ l, r = (0, 0)) → cntL l = 0 := by
      intro l
      induction l with
      | nil => intro _; rfl
      | cons r l ih =>
        intro h
        have h1 := h r (by simp)
        have h2 := ih (fun x hx => h x (by simp [hx]))
        unfold cntL at h2 ⊢
        rw [List.map_cons, List.sum_cons, h2, h1]
        rfl
    exact this _ hz
  · rw [if_neg h5, if_neg h5, if_neg h5]
    have hv := ansV_ok h rs ps
    have hp : h.pts = 0 := by
      rcases ho with ⟨_, _, _, h4⟩ | ⟨_, _, _, h4⟩ | ⟨⟨_, h4⟩ | ⟨h1, _⟩, _⟩
      · exact h4
      · exact h4
      · exact h4
      · exact absurd h1 h5
    refine ⟨hv.1, ?_, by rw [hp]; rfl, Int.le_refl _, by omega, fun _ => rfl, fun i r hr => by simp at hr⟩
    have := hv.2
    by_cases h3 : h.op = 3
    · rw [if_pos h3] at this ⊢; exact this
    · rw [if_neg h3] at this ⊢; rw [if_neg h5]; exact this
theorem ansL_ok {h : Hd} {rs : List Reg} {qs : List Qry} (hqo : QsOk qs) : so.Recs (ansL h rs qs) := by
  unfold ansL
  split
  · exact so.sortR_ok (recsC_ok hqo)
  · intro r hr; cases hr
set_option maxRecDepth 100000 in
set_option maxHeartbeats 8000000 in
theorem handle_o (xo xv xp z c : Int) (ah ar ap aq : Option Addr) (K ch KR cr NP cp NQ cq : Nat) (l : List (Int × Int)) (h5 : (xo == 5) = false) (w : World)
    (henc : ∀ W, Keeps (fun _ => False) w W → Calls Tryz.prog 87 #[.agg #[.int .i64 xo, .int .i64 xv, .slice ah K ch, .int .i64 xp, .slice ar KR cr, .slice ap NP cp, .slice aq NQ cq]] W fun e w' => (∃ v, e = .returned (.tuple #[v, .int .i64 0])) ∧ Keeps (fun _ => False) W w')
    (hop : ∀ W, Keeps (fun _ => False) w W → Calls Tryz.prog 89 #[.pointer none, .agg #[.int .i64 xo, .int .i64 xv, .slice ah K ch, .int .i64 xp, .slice ar KR cr, .slice ap NP cp, .slice aq NQ cq]] W fun e w' => (∃ v, e = .returned (.tuple #[v, .int .i64 0]) ∧ AnsAt w' v z c l) ∧ Keeps (fun _ => False) W w') :
    Calls Tryz.prog 61 #[.pointer none, .agg #[.int .i64 xo, .int .i64 xv, .slice ah K ch, .int .i64 xp, .slice ar KR cr, .slice ap NP cp, .slice aq NQ cq]] w fun e w' => (∃ v, e = .returned (.tuple #[v, .int .i64 0]) ∧ AnsAt w' v z c l) ∧ Keeps (fun _ => False) w w' := by
  have HENC := Lib.hid henc
  have HOP := Lib.hid hop
  clear henc hop
  go_enter Tryz.func61, Tryz.ntmps61
  go_upto_region 1 with fail
  obtain ⟨w1, hw1⟩ : ∃ w1, (w.alloc (.cells #[.int .i64 xo, .int .i64 xv, .slice ah K ch, .int .i64 xp, .slice ar KR cr, .slice ap NP cp, .slice aq NQ cq] 105)).alloc (.cells #[.int .i64 0, .int .i64 0, .slice none 0 0] 110) = w1 := ⟨_, rfl⟩
  have hg := heap2 w (.cells #[.int .i64 xo, .int .i64 xv, .slice ah K ch, .int .i64 xp, .slice ar KR cr, .slice ap NP cp, .slice aq NQ cq] 105) (.cells #[.int .i64 0, .int .i64 0, .slice none 0 0] 110)
  have hk1 : Keeps (fun _ => False) w w1 := by rw [← hw1]; exact ((Keeps.refl _ w).alloc _).alloc _
  rw [hw1] at hg ⊢
  clear hw1
  obtain ⟨hg0, hg1⟩ := hg
  have G0 := Lib.hid hg0
  have G1 := Lib.hid hg1
  have hl0 : w.heap.size < w1.heap.size := (Array.getElem?_eq_some_iff.1 hg0).1
  have hl1 : w.heap.size + 1 < w1.heap.size := (Array.getElem?_eq_some_iff.1 hg1).1
  have c0 := cells_at hg0 0
  have c1 := cells_at hg0 1
  have c2 := cells_at hg0 2
  have c3 := cells_at hg0 3
  have c4 := cells_at hg0 4
  have c5 := cells_at hg0 5
  have c6 := cells_at hg0 6
  clear hg0 hg1
  go_wp2_with fail
  refine (HENC.out w1 hk1).mono ?_; rintro e w2 ⟨⟨ve, rfl⟩, hk2⟩
  have hk12 := knil hk1 hk2
  have hg0 := (hk2.block _ hl0 (fun h => h)).trans G0.out
  clear c0 c1 c2 c3 c4 c5 c6
  have c0 := cells_at hg0 0
  have c1 := cells_at hg0 1
  have c2 := cells_at hg0 2
  have c3 := cells_at hg0 3
  have c4 := cells_at hg0 4
  have c5 := cells_at hg0 5
  have c6 := cells_at hg0 6
  clear hg0
  go_wp2_with fail
  refine (HOP.out w2 hk12).mono ?_; rintro e w5 ⟨⟨va, rfl, hva⟩, hk5⟩
  obtain ⟨vr, rfl, hrec, a6, n6, k6, rfl⟩ := hva
  have hk25 := knil hk2 hk5
  have hg1 := (hk25.block _ hl1 (fun h => h)).trans G1.out
  have HREC := Lib.hid hrec
  have a0 := cells_at hg1 0
  have a1 := cells_at hg1 1
  have a2 := cells_at hg1 2
  have f0 := two_frozen hg1 0
  have f1 := two_frozen hg1 1
  have f2 := two_frozen hg1 2
  have HG1 := Lib.hid hg1
  clear c0 c1 c2 c3 c4 c5 c6 hg1 hrec
  go_wp2_with fail
  have hkg : Keeps (fun j => j = w.heap.size + 1) w5 (((w5.setCell ⟨w.heap.size + 1, 0, none⟩ (.int .i64 z)).setCell ⟨w.heap.size + 1, 1, none⟩ (.int .i64 c)).setCell ⟨w.heap.size + 1, 2, none⟩ (.slice a6 n6 k6)) := (((Keeps.refl (fun j => j = w.heap.size + 1) w5).setCell ⟨w.heap.size + 1, 0, none⟩ (fun _ => rfl) _).setCell ⟨w.heap.size + 1, 1, none⟩ (fun _ => rfl) _).setCell ⟨w.heap.size + 1, 2, none⟩ (fun _ => rfl) _
  refine bodyPost_ret (results_ans rfl _ _ _ _ _ _ _ _ rfl (cells_three HG1.out)) rfl ⟨⟨_, rfl, _, rfl, HREC.out.keep hkg (fun hne g hg hlt he => ?_), _, _, _, rfl⟩, keeps_three (knil hk1 hk25) (by omega) _ _ _⟩
  rcases HREC.out with ⟨h0, _⟩ | ⟨_, b, o, k, hv, _, hcc⟩
  · exact hne h0
  · rw [hv] at hg
    have h1 : b = g := Option.some.inj hg
    cases l with
    | nil => exact hne rfl
    | cons r l =>
      have h2 := (hcc 0 r rfl).1
      rw [h1, he, cells_at HG1.out] at h2
      rcases (show o + 0 * 2 = 0 ∨ o + 0 * 2 = 1 ∨ o + 0 * 2 = 2 ∨ 3 ≤ o + 0 * 2 by omega) with h3 | h3 | h3 | h3
      · rw [h3] at h2; simp at h2
      · rw [h3] at h2; simp at h2
      · rw [h3] at h2; simp at h2
      · rw [Array.getElem?_eq_none (by simpa using h3)] at h2; simp at h2
set_option maxRecDepth 100000 in
set_option maxHeartbeats 8000000 in
theorem handle_5 (xv xp z c : Int) (ah ar ap aq : Option Addr) (K ch KR cr NP cp NQ cq : Nat) (l : List (Int × Int)) (w : World)
    (henc : ∀ W, Keeps (fun _ => False) w W → Calls Tryz.prog 87 #[.agg #[.int .i64 5, .int .i64 xv, .slice ah K ch, .int .i64 xp, .slice ar KR cr, .slice ap NP cp, .slice aq NQ cq]] W fun e w' => (∃ v, e = .returned (.tuple #[v, .int .i64 0])) ∧ Keeps (fun _ => False) W w')
    (hop : ∀ W, Keeps (fun _ => False) w W → Calls Tryz.prog 88 #[.pointer none, .slice ar KR cr, .slice aq NQ cq] W fun e w' => (∃ v, e = .returned (.tuple #[v, .int .i64 0]) ∧ AnsAt w' v z c l) ∧ Keeps (fun _ => False) W w') :
    Calls Tryz.prog 61 #[.pointer none, .agg #[.int .i64 5, .int .i64 xv, .slice ah K ch, .int .i64 xp, .slice ar KR cr, .slice ap NP cp, .slice aq NQ cq]] w fun e w' => (∃ v, e = .returned (.tuple #[v, .int .i64 0]) ∧ AnsAt w' v z c l) ∧ Keeps (fun _ => False) w w' := by
  have HENC := Lib.hid henc
  have HOP := Lib.hid hop
  clear henc hop
  go_enter Tryz.func61, Tryz.ntmps61
  go_upto_region 1 with fail
  obtain ⟨w1, hw1⟩ : ∃ w1, (w.alloc (.cells #[.int .i64 5, .int .i64 xv, .slice ah K ch, .int .i64 xp, .slice ar KR cr, .slice ap NP cp, .slice aq NQ cq] 105)).alloc (.cells #[.int .i64 0, .int .i64 0, .slice none 0 0] 110) = w1 := ⟨_, rfl⟩
  have hg := heap2 w (.cells #[.int .i64 5, .int .i64 xv, .slice ah K ch, .int .i64 xp, .slice ar KR cr, .slice ap NP cp, .slice aq NQ cq] 105) (.cells #[.int .i64 0, .int .i64 0, .slice none 0 0] 110)
  have hk1 : Keeps (fun _ => False) w w1 := by rw [← hw1]; exact ((Keeps.refl _ w).alloc _).alloc _
  rw [hw1] at hg ⊢
  clear hw1
  obtain ⟨hg0, hg1⟩ := hg
  have G0 := Lib.hid hg0
  have G1 := Lib.hid hg1
  have hl0 : w.heap.size < w1.heap.size := (Array.getElem?_eq_some_iff.1 hg0).1
  have hl1 : w.heap.size + 1 < w1.heap.size := (Array.getElem?_eq_some_iff.1 hg1).1
  have c0 := cells_at hg0 0
  have c1 := cells_at hg0 1
  have c2 := cells_at hg0 2
  have c3 := cells_at hg0 3
  have c4 := cells_at hg0 4
  have c5 := cells_at hg0 5
  have c6 := cells_at hg0 6
  clear hg0 hg1
  go_wp2_with fail
  refine (HENC.out w1 hk1).mono ?_; rintro e w2 ⟨⟨ve, rfl⟩, hk2⟩
  have hk12 := knil hk1 hk2
  have hg0 := (hk2.block _ hl0 (fun h => h)).trans G0.out
  clear c0 c1 c2 c3 c4 c5 c6
  have c0 := cells_at hg0 0
  have c1 := cells_at hg0 1
  have c2 := cells_at hg0 2
  have c3 := cells_at hg0 3
  have c4 := cells_at hg0 4
  have c5 := cells_at hg0 5
  have c6 := cells_at hg0 6
  clear hg0
  go_wp2_with fail
  refine (HOP.out w2 hk12).mono ?_; rintro e w5 ⟨⟨va, rfl, hva⟩, hk5⟩
  obtain ⟨vr, rfl, hrec, a6, n6, k6, rfl⟩ := hva
  have hk25 := knil hk2 hk5
  have hg1 := (hk25.block _ hl1 (fun h => h)).trans G1.out
  have HREC := Lib.hid hrec
  have a0 := cells_at hg1 0
  have a1 := cells_at hg1 1
  have a2 := cells_at hg1 2
  have f0 := two_frozen hg1 0
  have f1 := two_frozen hg1 1
  have f2 := two_frozen hg1 2
  have HG1 := Lib.hid hg1
  clear c0 c1 c2 c3 c4 c5 c6 hg1 hrec
  go_wp2_with fail
  have hkg : Keeps (fun j => j = w.heap.size + 1) w5 (((w5.setCell ⟨w.heap.size + 1, 0, none⟩ (.int .i64 z)).setCell ⟨w.heap.size + 1, 1, none⟩ (.int .i64 c)).setCell ⟨w.heap.size + 1, 2, none⟩ (.slice a6 n6 k6)) := (((Keeps.refl (fun j => j = w.heap.size + 1) w5).setCell ⟨w.heap.size + 1, 0, none⟩ (fun _ => rfl) _).setCell ⟨w.heap.size + 1, 1, none⟩ (fun _ => rfl) _).setCell ⟨w.heap.size + 1, 2, none⟩ (fun _ => rfl) _
  refine bodyPost_ret (results_ans rfl _ _ _ _ _ _ _ _ rfl (cells_three HG1.out)) rfl ⟨⟨_, rfl, _, rfl, HREC.out.keep hkg (fun hne g hg hlt he => ?_), _, _, _, rfl⟩, keeps_three (knil hk1 hk25) (by omega) _ _ _⟩
  rcases HREC.out with ⟨h0, _⟩ | ⟨_, b, o, k, hv, _, hcc⟩
  · exact hne h0
  · rw [hv] at hg
    have h1 : b = g := Option.some.inj hg
    cases l with
    | nil => exact hne rfl
    | cons r l =>
      have h2 := (hcc 0 r rfl).1
      rw [h1, he, cells_at HG1.out] at h2
      rcases (show o + 0 * 2 = 0 ∨ o + 0 * 2 = 1 ∨ o + 0 * 2 = 2 ∨ 3 ≤ o + 0 * 2 by omega) with h3 | h3 | h3 | h3
      · rw [h3] at h2; simp at h2
      · rw [h3] at h2; simp at h2
      · rw [h3] at h2; simp at h2
      · rw [Array.getElem?_eq_none (by simpa using h3)] at h2; simp at h2
theorem handle_calls (v : Value) (h : Hd) (rs : List Reg) (ps : List (Int × Int)) (qs : List Qry) (ho : HdOk h) (hf : Fits h rs ps qs) (hqo : QsOk qs) (hro : RegsOk rs) (hpo : Pts ps) (w : World) (hG : Gl w) (hv : RqAt w v h rs ps qs) :
    Calls Tryz.prog 61 #[.pointer none, v] w fun e w' => (∃ v', e = .returned (.tuple #[v', .int .i64 0]) ∧ AnsAt w' v' (ansX h rs ps) (ansC h rs qs) (ansL h rs qs)) ∧ Keeps (fun _ => False) w w' := by
  have henc := fun W (hk : Keeps (fun _ => False) w W) => encode_calls v h rs ps qs ho hf hqo W (hv.kept hk)
  by_cases h5 : h.op = 5
  · have hfe := fenOk_of ho (by omega) hf hro
    have hq : (qs.length : Int) = h.pts := by have := hf.2.2.2; unfold cntQ at this; rw [if_pos h5] at this; exact this
    have hp : 1 ≤ h.pts ∧ h.pts ≤ 4096 := by
      rcases ho with ⟨h1 | h1, _⟩ | ⟨h1, _⟩ | ⟨⟨h1, _⟩ | ⟨_, h4⟩, _⟩ <;> first | omega | exact h4
    obtain ⟨ah, ch, vr, vp, vq, rfl, hreg, hz, hrr, hpt, hqq, hcp⟩ := hv
    obtain ⟨ar, cr, rfl⟩ := hrr.shape
    obtain ⟨ap, cp, rfl⟩ := ptsAt.shape hpt
    obtain ⟨aq, cq, rfl⟩ := hqq.shape
    unfold ansX ansC ansL
    rw [if_pos h5, if_pos h5, if_pos h5]
    rw [h5] at henc ⊢
    exact handle_5 _ _ _ _ ah ar ap aq _ ch _ cr _ cp _ cq _ w henc (fun W hk => brun_calls _ _ rs qs hfe hqo (by omega) (by omega) W (hG.kept hk) (hrr.kept hk) (hqq.kept hk))
  · have han := fun W (hk : Keeps (fun _ => False) w W) => answer_calls v h rs ps qs ho h5 hf hqo hro hpo W (hG.kept hk) (hv.kept hk)
    obtain ⟨ah, ch, vr, vp, vq, rfl, hreg, hz, hrr, hpt, hqq, hcp⟩ := hv
    obtain ⟨ar, cr, rfl⟩ := hrr.shape
    obtain ⟨ap, cp, rfl⟩ := ptsAt.shape hpt
    obtain ⟨aq, cq, rfl⟩ := hqq.shape
    unfold ansX ansC ansL
    rw [if_neg h5, if_neg h5, if_neg h5]
    exact handle_o _ _ _ _ _ ah ar ap aq _ ch _ cr _ cp _ cq [] (by simp [h5]) w henc (fun W hk => (han W hk).mono fun e w' ⟨he, hk'⟩ => ⟨⟨_, he, _, rfl, .inl ⟨rfl, _, _, rfl⟩, _, _, _, rfl⟩, hk'⟩)
end Go.Proofs.YtmoajobnhiopiaaGreatDoor.sv
set_option linter.unusedSimpArgs false
set_option linter.unusedVariables false
namespace Go.Proofs.YtmoajobnhiopiaaGreatDoor.sv
open Go Go.RowKit Go.Shelf Go.Maps Go.Proofs.YtmoajobnhiopiaaGreatDoor.mk Go.Proofs.YtmoajobnhiopiaaGreatDoor.tp Go.Proofs.YtmoajobnhiopiaaGreatDoor.rg Go.Proofs.YtmoajobnhiopiaaGreatDoor.lm Go.Proofs.YtmoajobnhiopiaaGreatDoor.gm Go.Proofs.YtmoajobnhiopiaaGreatDoor.po
theorem wd_isS (bs : List Int) (i : Nat) : IsS (wd bs i) := by unfold wd IsS RowKit.wrap64; omega
theorem ptB_ok (bs : List Int) (i : Nat) : Pt (ptB bs i) := ⟨wd_isS _ _, wd_isS _ _⟩
theorem ptsB_ok (bs : List Int) (n : Nat) : Pts (ptsB bs n) := by
  intro p hp
  obtain ⟨i, _, rfl⟩ := List.mem_map.1 hp
  exact ptB_ok _ _
theorem leW_le (n : Nat) : ∀ l : List Int, (∀ x ∈ l, IsB x) → l.length ≤ n → 0 ≤ leW l ∧ leW l < 256 ^ n := by
  induction n with
  | zero =>
    intro l _ hl
    rw [List.eq_nil_of_length_eq_zero (by omega : l.length = 0)]
    exact ⟨Int.le_refl _, by decide⟩
  | succ n ih =>
    intro l h hl
    cases l with
    | nil => exact ⟨Int.le_refl _, Int.pow_pos (by decide)⟩
    | cons x l =>
      have h1 := ih l (fun y hy => h y (List.mem_cons_of_mem _ hy)) (by simpa using hl)
      have h2 := h x List.mem_cons_self
      unfold IsB at h2
      simp only [leW, Int.pow_succ]
      omega
theorem leW_word {bs : List Int} (h : ∀ x ∈ bs, IsB x) (i : Nat) : IsU (leW (wdB bs i)) := by
  have h1 := leW_le 8 (wdB bs i) (wdB_ok h i) (by unfold wdB; rw [List.length_take]; omega)
  have h4 : (256 : Int) ^ 8 = 18446744073709551616 := by decide
  rw [h4] at h1
  exact h1
theorem qsB_ok {bs : List Int} (h : ∀ x ∈ bs, IsB x) (n : Nat) : QsOk (qsB bs n) := by
  intro q hq
  obtain ⟨i, _, rfl⟩ := List.mem_map.1 hq
  exact ⟨ptB_ok _ _, leW_word (fun x hx => h x (List.mem_of_mem_drop hx)) 2⟩
theorem rg_decR {l : List Reg} {body : List Int} {i : Nat} (h : i < l.length) : rg (decR l body) i = ((rg l i).1, (rg l i).2.1, ptsB (body.drop (16 * (totR (l.take i)).toNat)) (sizeR (rg l i).2.1).toNat) := by
  show (decR l body).getD i noReg = _
  unfold decR
  rw [List.getD_eq_getElem?_getD, List.getElem?_map, List.getElem?_range h]
  rfl
theorem ptsB_length (bs : List Int) (n : Nat) : (ptsB bs n).length = n := by unfold ptsB; simp
theorem req_fits {bs : List Int} (hE : clsE bs = 0) : Fits (parH bs) (reqR bs) (reqP bs) (reqQ bs) := by
  have ho := hdOk_parse (clsE_zero hE).1
  obtain ⟨_, hp0, _, hq0, _, _⟩ := payH_parts ho
  unfold reqR reqP reqQ
  refine ⟨decR_length _ _, fun i hi => ?_, ?_, ?_⟩
  · rw [rg_decR hi]
    refine ⟨rfl, rfl, ?_⟩
    have := (sizeR_bound (rg (parH bs).rs i).2.1).1
    rw [ptsB_length]
    omega
  · rw [ptsB_length]; omega
  · rw [qsB_length]; omega
theorem req_regs (bs : List Int) : RegsOk (reqR bs) := by
  intro r hr
  unfold reqR decR at hr
  obtain ⟨i, _, rfl⟩ := List.mem_map.1 hr
  exact ptsB_ok _ _
theorem req_pts (bs : List Int) : Pts (reqP bs) := ptsB_ok _ _
theorem req_qs {bs : List Int} (h : ∀ x ∈ bs, IsB x) : QsOk (reqQ bs) := qsB_ok (fun x hx => h x (List.mem_of_mem_drop (List.mem_of_mem_drop hx))) _
theorem one_none {w : World} {g : Nat} {x : Value} {t : TypeId} {fr : Nat × Nat} (h : w.heap[g]? = some (.cells #[x] t fr)) {i : Nat} {u : Value} (hu : w.cell? ⟨g, i + 1, none⟩ = some u) : False := by
  rw [cells_at h (i + 1)] at hu
  simp at hu
theorem pts_one {w w' : World} {v : Value} {l : List (Int × Int)} {g : Nat} {x : Value} {t : TypeId} {fr : Nat × Nat} (h : ptsAt w v l) (hg : w.heap[g]? = some (.cells #[x] t fr)) (hk : Keeps (fun j => j = g) w w') : ptsAt w' v l := by
  rcases h with h | ⟨b, off, cap, hv, hb, hc⟩
  · exact .inl h
  · by_cases hl : l.length = 0
    · have e := List.eq_nil_of_length_eq_zero hl
      subst e
      exact .inl ⟨rfl, _, _, hv⟩
    · have hne : b ≠ g := fun he => by
        have := (hc 0 (by omega)).2
        rw [he] at this
        exact one_none hg this
      exact pts_off (.inr ⟨b, off, cap, hv, hb, hc⟩) hk (fun j hj he => hne (by rw [hv] at hj; have h1 : b = j := Option.some.inj hj; omega))
theorem qs_one {w w' : World} {v : Value} {l : List Qry} {g : Nat} {x : Value} {t : TypeId} {fr : Nat × Nat} (h : qsAt w v l) (hg : w.heap[g]? = some (.cells #[x] t fr)) (hk : Keeps (fun j => j = g) w w') : qsAt w' v l := by
  rcases h with h | ⟨b, off, cap, hv, hb, hc⟩
  · exact .inl h
  · by_cases hl : l.length = 0
    · have e := List.eq_nil_of_length_eq_zero hl
      subst e
      exact .inl ⟨rfl, _, _, hv⟩
    · have hne : b ≠ g := fun he => by
        have := (hc 0 (by omega)).2.1
        rw [he] at this
        exact one_none hg this
      exact qs_off (.inr ⟨b, off, cap, hv, hb, hc⟩) hk (fun j hj he => hne (by rw [hv] at hj; have h1 : b = j := Option.some.inj hj; omega))
theorem regs_one {w w' : World} {v : Value} {l : List Reg} {g : Nat} {x : Value} {t : TypeId} {fr : Nat × Nat} (h : regsAt w v l) (hg : w.heap[g]? = some (.cells #[x] t fr)) (hk : Keeps (fun j => j = g) w w') : regsAt w' v l := by
  rcases h with h | ⟨b, off, cap, hv, hb, hc⟩
  · exact .inl h
  · refine .inr ⟨b, off, cap, hv, Nat.lt_of_lt_of_le hb hk.size, fun i hi => ?_⟩
    obtain ⟨h1, h2, ao, n, c, h3, h4⟩ := hc i hi
    have hne : ¬ b = g := fun he => by
      rw [he] at h2
      exact one_none hg h2
    have k : ∀ i, w'.cell? ⟨b, i, none⟩ = w.cell? ⟨b, i, none⟩ := fun i => hk.cell (p := ⟨b, i, none⟩) hb hne
    exact ⟨(k _).trans h1, (k _).trans h2, ao, n, c, (k _).trans h3, pts_one h4 hg hk⟩
theorem rec_one {w w' : World} {v : Value} {l : List (Int × Int)} {g : Nat} {x : Value} {t : TypeId} {fr : Nat × Nat} (h : so.recAt w v l) (hg : w.heap[g]? = some (.cells #[x] t fr)) (hk : Keeps (fun j => j = g) w w') : so.recAt w' v l := by
  refine h.keep hk (fun hne j hj hlt he => ?_)
  rcases h with ⟨h0, _⟩ | ⟨_, b, o, k, hv, _, hcc⟩
  · exact hne h0
  · rw [hv] at hj
    have h1 : b = j := Option.some.inj hj
    cases l with
    | nil => exact hne rfl
    | cons r l =>
      have h2 := (hcc 0 r rfl).2
      rw [h1, he] at h2
      exact one_none hg h2
theorem rq_one {w w' : World} {v : Value} {h : Hd} {rs : List Reg} {ps : List (Int × Int)} {qs : List Qry} {g : Nat} {x : Value} {t : TypeId} {fr : Nat × Nat} (hv : RqAt w v h rs ps qs) (hg : w.heap[g]? = some (.cells #[x] t fr)) (hk : Keeps (fun j => j = g) w w') : RqAt w' v h rs ps qs := by
  obtain ⟨ah, ch, vr, vp, vq, h1, h2, h3, h4, h5, h6, h7⟩ := hv
  exact ⟨ah, ch, vr, vp, vq, h1, regs_one h2 hg hk, h3, regs_one h4 hg hk, pts_one h5 hg hk, qs_one h6 hg hk, h7⟩
def le8 (x : Int) : List Int := (List.range 8).map fun k => IntKind.u8.wrap (x / 2 ^ (8 * k))
def respI (op x c : Int) (l : List (Int × Int)) : List Int := ([0, x % 256] ++ (if op = 5 then [IntKind.u8.wrap c, IntKind.u8.wrap (c / 256)] else [])) ++ l.flatMap fun r => IntKind.u8.wrap r.1 :: le8 r.2
theorem respV_eq (op x c : Int) (l : List (Int × Int)) : respV op x c l = (respI op x c l).map (Value.int .u8) := by
  unfold respV respI recsV
  rw [List.map_append, List.map_append, List.map_flatMap]
  have h1 : ([Value.int .u8 0, .int .u8 (x % 256)] ++ if op = 5 then [Value.int .u8 (IntKind.u8.wrap c), .int .u8 (IntKind.u8.wrap (c / 256))] else []) = List.map (Value.int .u8) [0, x % 256] ++ List.map (Value.int .u8) (if op = 5 then [IntKind.u8.wrap c, IntKind.u8.wrap (c / 256)] else []) := by
    split <;> rfl
  have h2 : recV = fun r => List.map (Value.int .u8) (IntKind.u8.wrap r.1 :: le8 r.2) := by
    funext r
    unfold recV le8V le8
    rw [List.map_cons, List.map_map]
    rfl
  rw [h1, h2]
theorem wrap_isB (x : Int) : IsB (IntKind.u8.wrap x) := by
  have h : IntKind.u8.wrap x = x % 256 := rfl
  rw [h]
  unfold IsB
  omega
theorem respI_ok (op x c : Int) (l : List (Int × Int)) : ∀ y ∈ respI op x c l, IsB y := by
  intro y hy
  unfold respI at hy
  rcases List.mem_append.1 hy with hy | hy
  · rcases List.mem_append.1 hy with hy | hy
    · simp at hy
      rcases hy with rfl | rfl
      · unfold IsB; omega
      · unfold IsB; omega
    · split at hy
      · simp at hy
        rcases hy with rfl | rfl <;> exact wrap_isB _
      · cases hy
  · obtain ⟨r, _, hy⟩ := List.mem_flatMap.1 hy
    rcases List.mem_cons.1 hy with rfl | hy
    · exact wrap_isB _
    · unfold le8 at hy
      obtain ⟨k, _, rfl⟩ := List.mem_map.1 hy
      exact wrap_isB _
theorem by_row {w : World} {base n : Nat} {v : Value} {l : List Int} (h : w.ownsRow base 5 1 v n (l.map (Value.int .u8))) (hB : ∀ y ∈ l, IsB y) : byAt w v l := by
  have hn : n = l.length := by have := h.1; rw [List.length_map] at this; omega
  subst hn
  refine ⟨hB, ?_⟩
  rcases id h.2 with ⟨rfl, h0⟩ | ⟨g, cap, cur, rfl, hb, hg, hle, hcap, hcur, htake⟩
  · exact .inl ⟨List.eq_nil_of_length_eq_zero h0, _, _, rfl⟩
  · refine .inr ⟨g, 0, cap, rfl, hle, (Array.getElem?_eq_some_iff.1 hg).1, fun i hi => ?_⟩
    rw [Nat.zero_add, h.cellAt i (by omega), List.getElem?_map, List.getElem?_eq_getElem hi]
    unfold bt
    rw [List.getElem?_eq_getElem hi]
    rfl
def servI (bs : List Int) : List Int := if clsE bs ≠ 0 then [clsE bs] else respI (parH bs).op (ansX (parH bs) (reqR bs) (reqP bs)) (ansC (parH bs) (reqR bs) (reqQ bs)) (ansL (parH bs) (reqR bs) (reqQ bs))
def Served (w : World) (l : List Int) (e : Ending) (w' : World) : Prop := (∃ v, e = .returned v ∧ byAt w' v l) ∧ Keeps (fun _ => False) w w'
theorem clsE_range (bs : List Int) : clsE bs = 0 ∨ 4 ≤ clsE bs ∧ clsE bs ≤ 8 := by
  unfold clsE
  split
  · omega
  · unfold parE
    repeat' split
    all_goals omega
set_option maxRecDepth 100000 in
set_option maxHeartbeats 8000000 in
theorem traced_bad (v : Value) (q : Int) (hq : 4 ≤ q ∧ q ≤ 8) (w : World) (hdec : ∀ W, Keeps (fun _ => False) w W → Calls Tryz.prog 60 #[v] W fun e w' => e = .returned (.tuple #[.agg #[.int .i64 0, .int .i64 0, .slice none 0 0, .int .i64 0, .slice none 0 0, .slice none 0 0, .slice none 0 0], .int .i64 q]) ∧ Keeps (fun _ => False) W w') :
    Calls Tryz.prog 34 #[.pointer none, v] w (Served w [q]) := by
  have HDEC := Lib.hid hdec
  obtain ⟨hq4, hq8⟩ := hq
  have hq0 : q ≠ 0 := by omega
  have hqw : IntKind.u8.wrap q = q := by show q % 256 = q; omega
  have HQ0 := Lib.hid hq0
  have HQW := Lib.hid hqw
  have hq1 : (q == 0) = false := by simp [hq0]
  have hq2 : (q != 0) = true := by simp [hq0]
  clear hdec hq0 hqw
  have hmf := traced_mk
  go_enter_defers Tryz.func34, Tryz.ntmps34
  go_upto_region 2 with fail
  obtain ⟨w1, hw1⟩ : ∃ w1, (w.alloc (.cells #[.slice none 0 0] 22)).alloc (.cells #[.int .i64 0] 104) = w1 := ⟨_, rfl⟩
  have hg := heap2 w (.cells #[.slice none 0 0] 22) (.cells #[.int .i64 0] 104)
  have hk1 : Keeps (fun _ => False) w w1 := by rw [← hw1]; exact ((Keeps.refl _ w).alloc _).alloc _
  rw [hw1] at hg ⊢
  clear hw1
  have hl0 : w.heap.size < w1.heap.size := (Array.getElem?_eq_some_iff.1 hg.1).1
  have hl1 : w.heap.size + 1 < w1.heap.size := (Array.getElem?_eq_some_iff.1 hg.2).1
  have G0 := Lib.hid hg.1
  have G1 := Lib.hid hg.2
  clear hg
  go_wp2_with fail
  refine (HDEC.out w1 hk1).mono ?_; rintro e w2 ⟨rfl, hk2⟩
  have hk12 := knil hk1 hk2
  have hl2 := hk2.size
  obtain ⟨w3, hw3⟩ : ∃ w3, w2.alloc (.cells #[.int .i64 0, .int .i64 0, .slice none 0 0, .int .i64 0, .slice none 0 0, .slice none 0 0, .slice none 0 0] 105) = w3 := ⟨_, rfl⟩
  have hk3 : Keeps (fun _ => False) w2 w3 := by rw [← hw3]; exact (Keeps.refl _ w2).alloc _
  have hk23 := knil hk2 hk3
  have hk13 := knil hk1 hk23
  have hl3 := hk23.size
  have G0' := Lib.hid ((hk23.block _ hl0 (fun h => h)).trans G0.out)
  have G1' := Lib.hid ((hk23.block _ hl1 (fun h => h)).trans G1.out)
  have e0 : w3.cell? ⟨w.heap.size + 1, 0, none⟩ = some (.int .i64 0) := cells_at G1'.out 0
  have ef := two_frozen G1'.out 0
  rw [← hw3] at e0 ef
  have HW3 := Lib.hid hw3
  clear hw3
  go_upto_region 4 with fail
  rw [HW3.out]
  clear e0 ef
  obtain ⟨w4, hw4⟩ : ∃ w4, w3.setCell ⟨w.heap.size + 1, 0, none⟩ (.int .i64 q) = w4 := ⟨_, rfl⟩
  have hk4 : Keeps (fun _ => False) w w4 := by rw [← hw4]; exact hk13.setCell ⟨w.heap.size + 1, 0, none⟩ (fun h => by have : w.heap.size + 1 < w.heap.size := h; omega) _
  have H1 : w4.heap[w.heap.size + 1]? = some (.cells #[.int .i64 q] 104 (0, 0)) := by rw [← hw4]; exact cells_put G1'.out 0 _
  have H0 : w4.heap[w.heap.size]? = some (.cells #[.slice none 0 0] 22 (0, 0)) := by rw [← hw4]; exact (Below.heap_setCell _ _ _ _ (by show w.heap.size ≠ w.heap.size + 1; omega)).trans G0'.out
  rw [hw4]
  have o0 : w4.cell? ⟨w.heap.size, 0, none⟩ = some (.slice none 0 0) := cells_at H0 0
  have of := two_frozen H0 0
  have e0 : w4.cell? ⟨w.heap.size + 1, 0, none⟩ = some (.int .i64 q) := cells_at H1 0
  go_wp2_with fail
  have H1' : (w4.setCell ⟨w.heap.size, 0, none⟩ (.slice none 0 0)).heap[w.heap.size + 1]? = some (.cells #[.int .i64 q] 104 (0, 0)) := (Below.heap_setCell _ _ _ _ (by show w.heap.size + 1 ≠ w.heap.size; omega)).trans H1
  have H0' : (w4.setCell ⟨w.heap.size, 0, none⟩ (.slice none 0 0)).heap[w.heap.size]? = some (.cells #[.slice none 0 0] 22 (0, 0)) := cells_put H0 0 _
  have hk5 : Keeps (fun _ => False) w (w4.setCell ⟨w.heap.size, 0, none⟩ (.slice none 0 0)) := hk4.setCell ⟨w.heap.size, 0, none⟩ (fun h => absurd h (Nat.lt_irrefl _)) _
  refine leaves_cons (f := 59) (args := #[.pointer (some ⟨w.heap.size + 1, 0, none⟩), .pointer (some ⟨w.heap.size, 0, none⟩)]) (by simp) (by simp [go_sem]) ?_
  refine (traced_on q HQ0.out HQW.out _ _ .returning _ (cells_at H1' 0) _ _ H0').mono ?_
  rintro e u' w6 ⟨rfl, rfl, ⟨g, hg0, hg1⟩, hk6⟩
  refine ⟨_, results_slc rfl _ _ _ _ _ _ rfl hg0, ⟨_, rfl, ?_, .inr ⟨g, 0, 1, rfl, Nat.le_refl _, (Array.getElem?_eq_some_iff.1 hg1).1, fun i hi => ?_⟩⟩, hk5.trans hk6 (fun k hk he => absurd (he ▸ hk) (Nat.lt_irrefl _))⟩
  · intro y hy
    rw [List.mem_singleton.1 hy]
    unfold IsB
    omega
  · have hi0 : i = 0 := by simpa using hi
    subst hi0
    exact cells_at hg1 0
set_option maxRecDepth 100000 in
set_option maxHeartbeats 8000000 in
theorem traced_good (v : Value) (h : Hd) (rs : List Reg) (ps : List (Int × Int)) (qs : List Qry) (ho : HdOk h) (hf : Fits h rs ps qs) (hqo : QsOk qs) (hro : RegsOk rs) (hpo : Pts ps) (w : World) (hG : Gl w)
    (hdec : ∀ W, Keeps (fun _ => False) w W → Calls Tryz.prog 60 #[v] W fun e w' => (∃ v', e = .returned (.tuple #[v', .int .i64 0]) ∧ RqAt w' v' h rs ps qs) ∧ Keeps (fun _ => False) W w') :
    Calls Tryz.prog 34 #[.pointer none, v] w (Served w (respI h.op (ansX h rs ps) (ansC h rs qs) (ansL h rs qs))) := by
  have HDEC := Lib.hid hdec
  have HHA := Lib.hid (fun W (v : Value) (hk : Keeps (fun _ => False) w W) (hv : RqAt W v h rs ps qs) => handle_calls v h rs ps qs ho hf hqo hro hpo W (hG.kept hk) hv)
  have HRE := Lib.hid (fun W v u (hv : HdAt W v h) (hu : AnsAt W u (ansX h rs ps) (ansC h rs qs) (ansL h rs qs)) => respond_calls v u h _ _ _ ho (ans_ok ho hf hqo) (ansL_ok hqo) W hv hu)
  obtain ⟨z, hz⟩ : ∃ z, ansX h rs ps = z := ⟨_, rfl⟩
  obtain ⟨c, hc⟩ : ∃ z, ansC h rs qs = z := ⟨_, rfl⟩
  obtain ⟨l, hl⟩ : ∃ z, ansL h rs qs = z := ⟨_, rfl⟩
  rw [hz, hc, hl] at HHA HRE ⊢
  clear hdec ho hf hqo hro hpo hG hz hc hl
  have hmf := traced_mk
  go_enter_defers Tryz.func34, Tryz.ntmps34
  go_upto_region 2 with fail
  obtain ⟨w1, hw1⟩ : ∃ w1, (w.alloc (.cells #[.slice none 0 0] 22)).alloc (.cells #[.int .i64 0] 104) = w1 := ⟨_, rfl⟩
  have hg := heap2 w (.cells #[.slice none 0 0] 22) (.cells #[.int .i64 0] 104)
  have hk1 : Keeps (fun _ => False) w w1 := by rw [← hw1]; exact ((Keeps.refl _ w).alloc _).alloc _
  rw [hw1] at hg ⊢
  clear hw1
  have hl0 : w.heap.size < w1.heap.size := (Array.getElem?_eq_some_iff.1 hg.1).1
  have hl1 : w.heap.size + 1 < w1.heap.size := (Array.getElem?_eq_some_iff.1 hg.2).1
  have G0 := Lib.hid hg.1
  have G1 := Lib.hid hg.2
  clear hg
  go_wp2_with fail
  refine (HDEC.out w1 hk1).mono ?_; rintro e w2 ⟨⟨vq, rfl, hrq⟩, hk2⟩
  obtain ⟨hsh, hhd⟩ : (∃ ah ch ar KR cr ap NP cp aq NQ cq, vq = .agg #[.int .i64 h.op, .int .i64 h.vt, .slice ah h.rs.length ch, .int .i64 h.pts, .slice ar KR cr, .slice ap NP cp, .slice aq NQ cq]) ∧ True := by
    obtain ⟨ah, ch, vr, vp, vq', rfl, _, _, k4, k5, k6, _⟩ := hrq
    obtain ⟨ar, cr, rfl⟩ := k4.shape
    obtain ⟨ap, cp, rfl⟩ := ptsAt.shape k5
    obtain ⟨aq, cq, rfl⟩ := k6.shape
    exact ⟨⟨_, _, _, _, _, _, _, _, _, _, _, rfl⟩, trivial⟩
  obtain ⟨ah, ch, ar, KR, cr, ap, NP, cp, aq, NQ, cq, rfl⟩ := hsh
  have HRQ := Lib.hid hrq
  obtain ⟨K, hK⟩ : ∃ K, h.rs.length = K := ⟨_, rfl⟩
  obtain ⟨xo, hxo⟩ : ∃ x, h.op = x := ⟨_, rfl⟩
  obtain ⟨xv, hxv⟩ : ∃ x, h.vt = x := ⟨_, rfl⟩
  obtain ⟨xp, hxp⟩ : ∃ x, h.pts = x := ⟨_, rfl⟩
  rw [hK, hxo, hxv, hxp] at HRQ ⊢
  rw [hxo] at HRE
  have HXX := Lib.hid (And.intro hxo (And.intro hxv (And.intro hxp hK)))
  clear hrq hhd hK hxv hxp hxo
  have hk12 := knil hk1 hk2
  have hl2 := hk2.size
  obtain ⟨w3, hw3⟩ : ∃ w3, w2.alloc (.cells #[.int .i64 xo, .int .i64 xv, .slice ah K ch, .int .i64 xp, .slice ar KR cr, .slice ap NP cp, .slice aq NQ cq] 105) = w3 := ⟨_, rfl⟩
  have hk3 : Keeps (fun _ => False) w2 w3 := by rw [← hw3]; exact (Keeps.refl _ w2).alloc _
  have GR : w3.heap[w2.heap.size]? = some (.cells #[.int .i64 xo, .int .i64 xv, .slice ah K ch, .int .i64 xp, .slice ar KR cr, .slice ap NP cp, .slice aq NQ cq] 105 (0, 0)) := by rw [← hw3]; exact heap_alloc_new _ _
  have hk23 := knil hk2 hk3
  have hk13 := knil hk1 hk23
  have hl3 := hk23.size
  have HRQ3 := Lib.hid (HRQ.out.kept hk3)
  have G0' := Lib.hid ((hk23.block _ hl0 (fun h => h)).trans G0.out)
  have G1' := Lib.hid ((hk23.block _ hl1 (fun h => h)).trans G1.out)
  have e0 : w3.cell? ⟨w.heap.size + 1, 0, none⟩ = some (.int .i64 0) := cells_at G1'.out 0
  have ef := two_frozen G1'.out 0
  rw [← hw3] at e0 ef
  have HW3 := Lib.hid hw3
  have HGR := Lib.hid GR
  clear hw3 GR
  go_upto_region 4 with fail
  rw [HW3.out]
  clear e0 ef
  obtain ⟨w4, hw4⟩ : ∃ w4, w3.setCell ⟨w.heap.size + 1, 0, none⟩ (.int .i64 0) = w4 := ⟨_, rfl⟩
  have hks : Keeps (fun j => j = w.heap.size + 1) w3 w4 := by rw [← hw4]; exact (Keeps.refl (fun j => j = w.heap.size + 1) w3).setCell ⟨w.heap.size + 1, 0, none⟩ (fun _ => rfl) _
  have hk24 : Keeps (fun _ => False) w w4 := hk13.trans hks (fun i hi h => by omega)
  have H1 := Lib.hid (show w4.heap[w.heap.size + 1]? = some (.cells #[.int .i64 0] 104 (0, 0)) by rw [← hw4]; exact cells_put G1'.out 0 _)
  have H0 := Lib.hid ((hks.block w.heap.size (by omega) (by omega)).trans G0'.out)
  have HR := Lib.hid ((hks.block w2.heap.size (Array.getElem?_eq_some_iff.1 HGR.out).1 (by omega)).trans HGR.out)
  have HRQ4 := Lib.hid (rq_one HRQ3.out G1'.out hks)
  have hl4 : w4.heap.size = w3.heap.size := by rw [← hw4]; simp
  rw [hw4]
  clear hw4
  have e0 : w4.cell? ⟨w.heap.size + 1, 0, none⟩ = some (.int .i64 0) := cells_at H1.out 0
  have c0 := cells_at HR.out 0
  have c1 := cells_at HR.out 1
  have c2 := cells_at HR.out 2
  have c3 := cells_at HR.out 3
  have c4 := cells_at HR.out 4
  have c5 := cells_at HR.out 5
  have c6 := cells_at HR.out 6
  go_wp2_with fail
  refine (HHA.out w4 _ hk24 HRQ4.out).mono ?_; rintro e w5 ⟨⟨va, rfl, hva⟩, hk5⟩
  obtain ⟨hsh, _⟩ : (∃ al nl cl, va = .agg #[.int .i64 z, .int .i64 c, .slice al nl cl]) ∧ True := by
    obtain ⟨vr, rfl, _, al, nl, cl, rfl⟩ := hva
    exact ⟨⟨_, _, _, rfl⟩, trivial⟩
  obtain ⟨al, nl, cl, rfl⟩ := hsh
  have HVA := Lib.hid hva
  clear hva
  have hk25 := knil hk24 hk5
  have H1' := Lib.hid ((hk5.block _ (by rw [hl4]; omega) (fun h => h)).trans H1.out)
  have H0' := Lib.hid ((hk5.block _ (by rw [hl4]; omega) (fun h => h)).trans H0.out)
  have HR' := Lib.hid ((hk5.block _ (Array.getElem?_eq_some_iff.1 HR.out).1 (fun h => h)).trans HR.out)
  have HRQ5 := Lib.hid (HRQ4.out.kept hk5)
  obtain ⟨w6, hw6⟩ : ∃ w6, w5.alloc (.cells #[.int .i64 z, .int .i64 c, .slice al nl cl] 110) = w6 := ⟨_, rfl⟩
  have hk6 : Keeps (fun _ => False) w5 w6 := by rw [← hw6]; exact (Keeps.refl _ w5).alloc _
  have HA := Lib.hid (show w6.heap[w5.heap.size]? = some (.cells #[.int .i64 z, .int .i64 c, .slice al nl cl] 110 (0, 0)) by rw [← hw6]; exact heap_alloc_new _ _)
  have hk26 := knil hk25 hk6
  clear e0 c0 c1 c2 c3 c4 c5 c6 H1 H0 HR
  have H1 := Lib.hid ((hk6.block _ (Array.getElem?_eq_some_iff.1 H1'.out).1 (fun h => h)).trans H1'.out)
  have H0 := Lib.hid ((hk6.block _ (Array.getElem?_eq_some_iff.1 H0'.out).1 (fun h => h)).trans H0'.out)
  have HR := Lib.hid ((hk6.block _ (Array.getElem?_eq_some_iff.1 HR'.out).1 (fun h => h)).trans HR'.out)
  have HRQ6 := Lib.hid (HRQ5.out.kept hk6)
  have HVA6 := Lib.hid (HVA.out.kept hk6)
  have hn5 : w2.heap.size < w5.heap.size := (Array.getElem?_eq_some_iff.1 HR'.out).1
  clear H1' H0' HR'
  have e0 : w6.cell? ⟨w.heap.size + 1, 0, none⟩ = some (.int .i64 0) := cells_at H1.out 0
  have ef := two_frozen H1.out 0
  rw [← hw6] at e0 ef
  have HW6 := Lib.hid hw6
  clear hw6
  go_upto_region 7 with fail
  rw [HW6.out]
  clear e0 ef
  obtain ⟨w7, hw7⟩ : ∃ w7, w6.setCell ⟨w.heap.size + 1, 0, none⟩ (.int .i64 0) = w7 := ⟨_, rfl⟩
  have hks : Keeps (fun j => j = w.heap.size + 1) w6 w7 := by rw [← hw7]; exact (Keeps.refl (fun j => j = w.heap.size + 1) w6).setCell ⟨w.heap.size + 1, 0, none⟩ (fun _ => rfl) _
  have hk27 : Keeps (fun _ => False) w w7 := hk26.trans hks (fun i hi h => by omega)
  have J1 := Lib.hid (show w7.heap[w.heap.size + 1]? = some (.cells #[.int .i64 0] 104 (0, 0)) by rw [← hw7]; exact cells_put H1.out 0 _)
  have J0 := Lib.hid ((hks.block w.heap.size (Array.getElem?_eq_some_iff.1 H0.out).1 (by omega)).trans H0.out)
  have JR := Lib.hid ((hks.block w2.heap.size (Array.getElem?_eq_some_iff.1 HR.out).1 (by omega)).trans HR.out)
  have JA := Lib.hid ((hks.block w5.heap.size (Array.getElem?_eq_some_iff.1 HA.out).1 (by omega)).trans HA.out)
  have HRQ7 := Lib.hid (rq_one HRQ6.out H1.out hks)
  have HVA7 := Lib.hid (show AnsAt w7 (.agg #[.int .i64 z, .int .i64 c, .slice al nl cl]) z c l by
    obtain ⟨vr, k1, k2, k3⟩ := HVA6.out
    exact ⟨vr, k1, rec_one k2 H1.out hks, k3⟩)
  rw [hw7]
  clear hw7
  have e0 : w7.cell? ⟨w.heap.size + 1, 0, none⟩ = some (.int .i64 0) := cells_at J1.out 0
  have c0 := cells_at JR.out 0
  have c1 := cells_at JR.out 1
  have c2 := cells_at JR.out 2
  have c3 := cells_at JR.out 3
  have c4 := cells_at JR.out 4
  have c5 := cells_at JR.out 5
  have c6 := cells_at JR.out 6
  have a0 := cells_at JA.out 0
  have a1 := cells_at JA.out 1
  have a2 := cells_at JA.out 2
  have hhd : HdAt w7 (.agg #[.int .i64 xo, .int .i64 xv, .slice ah K ch, .int .i64 xp]) h := by
    obtain ⟨ah', ch', vr, vp, vq', k1, k2, k3, _⟩ := HRQ7.out
    injection k1 with k1
    injection k1 with k1
    simp only [List.cons.injEq, Value.slice.injEq] at k1
    obtain ⟨_, _, ⟨k4, k5, k6⟩, _⟩ := k1
    subst k4
    subst k6
    exact ⟨ah, ch, by rw [HXX.out.1, HXX.out.2.1, HXX.out.2.2.1, HXX.out.2.2.2], k2, k3⟩
  have HHD := Lib.hid hhd
  clear hhd
  go_wp2_with fail
  refine (HRE.out w7 _ _ HHD.out HVA7.out).mono ?_; rintro e w8 ⟨⟨vb, nb, rfl, hrow⟩, hk8⟩
  obtain ⟨ab, cb, rfl⟩ := shape_own hrow
  rw [respV_eq] at hrow
  have HROW := Lib.hid hrow
  have hk28 := knil hk27 hk8
  have K1 := Lib.hid ((hk8.block _ (Array.getElem?_eq_some_iff.1 J1.out).1 (fun h => h)).trans J1.out)
  have K0 := Lib.hid ((hk8.block _ (Array.getElem?_eq_some_iff.1 J0.out).1 (fun h => h)).trans J0.out)
  have hl7 : w.heap.size + 1 < w7.heap.size := (Array.getElem?_eq_some_iff.1 J1.out).1
  clear e0 c0 c1 c2 c3 c4 c5 c6 a0 a1 a2 hrow
  have e0 : w8.cell? ⟨w.heap.size + 1, 0, none⟩ = some (.int .i64 0) := cells_at K1.out 0
  have ef := two_frozen K1.out 0
  have o0 : w8.cell? ⟨w.heap.size, 0, none⟩ = some (.slice none 0 0) := cells_at K0.out 0
  have of := two_frozen K0.out 0
  go_upto_region 10 with fail
  obtain ⟨w9, hw9⟩ : ∃ w9, (w8.setCell ⟨w.heap.size, 0, none⟩ (.slice ab nb cb)).setCell ⟨w.heap.size + 1, 0, none⟩ (.int .i64 0) = w9 := ⟨_, rfl⟩
  have hk89 : Keeps (fun j => j = w.heap.size ∨ j = w.heap.size + 1) w8 w9 := by rw [← hw9]; exact ((Keeps.refl (fun j => j = w.heap.size ∨ j = w.heap.size + 1) w8).setCell ⟨w.heap.size, 0, none⟩ (fun _ => .inl rfl) _).setCell ⟨w.heap.size + 1, 0, none⟩ (fun _ => .inr rfl) _
  have hk29 : Keeps (fun _ => False) w w9 := hk28.trans hk89 (fun i hi h => by omega)
  have L0 := Lib.hid (show w9.heap[w.heap.size]? = some (.cells #[.slice ab nb cb] 22 (0, 0)) by rw [← hw9]; exact (Below.heap_setCell _ _ _ _ (by show w.heap.size ≠ w.heap.size + 1; omega)).trans (cells_put K0.out 0 _))
  have L1 := Lib.hid (show w9.heap[w.heap.size + 1]? = some (.cells #[.int .i64 0] 104 (0, 0)) by rw [← hw9]; exact cells_put ((Below.heap_setCell _ _ _ _ (by show w.heap.size + 1 ≠ w.heap.size; omega)).trans K1.out) 0 _)
  have HROW9 := Lib.hid (row_off HROW.out hk89 (fun b hb h => by have := HROW.out.lt b hb; omega))
  rw [hw9]
  clear e0 ef o0 of hw9
  have o0 : w9.cell? ⟨w.heap.size, 0, none⟩ = some (.slice ab nb cb) := cells_at L0.out 0
  have of := two_frozen L0.out 0
  go_wp2_with fail
  refine leaves_cons (f := 59) (args := #[.pointer (some ⟨w.heap.size + 1, 0, none⟩), .pointer (some ⟨w.heap.size, 0, none⟩)]) (by simp) (by simp [go_sem]) ?_
  have hkF : Keeps (fun j => j = w.heap.size) w9 (w9.setCell ⟨w.heap.size, 0, none⟩ (.slice ab nb cb)) := (Keeps.refl (fun j => j = w.heap.size) w9).setCell ⟨w.heap.size, 0, none⟩ (fun _ => rfl) _
  have L1' := (hkF.block (w.heap.size + 1) (Array.getElem?_eq_some_iff.1 L1.out).1 (by omega)).trans L1.out
  refine (traced_off _ _ .returning _ (cells_at L1' 0)).mono ?_
  rintro e u' w10 ⟨rfl, rfl, rfl⟩
  exact ⟨_, results_slc rfl _ _ _ _ _ _ rfl (cells_put L0.out 0 _), ⟨_, rfl, by rw [HXX.out.1]; exact by_row (row_off HROW9.out hkF (fun b hb h => by have := HROW.out.lt b hb; omega)) (respI_ok _ _ _ _)⟩, hk29.trans hkF (fun i hi h => by omega)⟩
theorem traced_calls (v : Value) (bs : List Int) (w : World) (hG : Gl w) (hv : byAt w v bs) : Calls Tryz.prog 34 #[.pointer none, v] w (Served w (servI bs)) := by
  unfold servI
  by_cases hE : clsE bs = 0
  · rw [if_neg (fun h => h hE)]
    exact traced_good v _ _ _ _ (hdOk_parse (clsE_zero hE).1) (req_fits hE) (req_qs hv.1) (req_regs bs) (req_pts bs) w hG (fun W hk => decode_good v bs W (hG.kept hk) (hv.kept hk) hE)
  · rw [if_pos hE]
    exact traced_bad v _ (by have := clsE_range bs; omega) w (fun W hk => decode_bad v bs W (hG.kept hk) (hv.kept hk) hE)
set_option maxRecDepth 100000 in
theorem serve_calls (v : Value) (bs : List Int) (w : World) (hG : Gl w) (hv : byAt w v bs) : Calls Tryz.prog 12 #[v] w (Served w (servI bs)) := by
  have H := Lib.hid (traced_calls v bs w hG hv)
  clear hG hv
  go_enter Tryz.func12, Tryz.ntmps12
  go_wp2_with fail
  refine H.out.mono ?_; rintro e w2 ⟨⟨u, rfl, hu⟩, hk2⟩
  have HU := Lib.hid hu
  clear hu
  go_wp2_with fail
  go_ret
  exact ⟨⟨u, rfl, HU.out⟩, hk2⟩
end Go.Proofs.YtmoajobnhiopiaaGreatDoor.sv
set_option linter.unusedSimpArgs false
set_option linter.unusedVariables false
namespace Go.Proofs.YtmoajobnhiopiaaGreatDoor.sv
open Go Go.RowKit Go.Shelf Go.Maps Go.Proofs.YtmoajobnhiopiaaGreatDoor.mk Go.Proofs.YtmoajobnhiopiaaGreatDoor.tp Go.Proofs.YtmoajobnhiopiaaGreatDoor.rg Go.Proofs.YtmoajobnhiopiaaGreatDoor.lm Go.Proofs.YtmoajobnhiopiaaGreatDoor.gm Go.Proofs.YtmoajobnhiopiaaGreatDoor.po
theorem rsize16_calls (n : Int) (w : World) : Calls Tryz.prog 33 #[.int .i64 n] w fun e w' => e = .returned (.int .i64 (sizeR n)) ∧ w' = w := by
  by_cases h0 : n = 0
  · subst h0
    go_enter Tryz.func33, Tryz.ntmps33
    go_wp2_with fail
    go_ret
    exact ⟨rfl, rfl⟩
  · have hz : (n == 0) = false := by simp [h0]
    by_cases h3 : 3 ≤ n
    · by_cases h64 : n ≤ 64
      · have hs : sizeR n = n := by unfold sizeR sizeC; rw [if_neg h0, if_pos ⟨h3, h64⟩]
        rw [hs]
        clear hs h0
        have hd1 : decide (3 ≤ n) = true := decide_eq_true h3
        have hd2 : decide (n ≤ 64) = true := decide_eq_true h64
        go_enter Tryz.func33, Tryz.ntmps33
        go_wp2_with fail
        go_ret
        exact ⟨rfl, rfl⟩
      · have hs : sizeR n = 0 := by unfold sizeR sizeC; rw [if_neg h0, if_neg (fun h => h64 h.2)]
        rw [hs]
        clear hs h0
        have hd1 : decide (3 ≤ n) = true := decide_eq_true h3
        have hd2 : decide (n ≤ 64) = false := decide_eq_false h64
        go_enter Tryz.func33, Tryz.ntmps33
        go_wp2_with fail
        go_ret
        exact ⟨rfl, rfl⟩
    · have hs : sizeR n = 0 := by unfold sizeR sizeC; rw [if_neg h0, if_neg (fun h => h3 h.1)]
      rw [hs]
      clear hs h0
      have hd1 : decide (3 ≤ n) = false := decide_eq_false h3
      go_enter Tryz.func33, Tryz.ntmps33
      go_wp2_with fail
      go_ret
      exact ⟨rfl, rfl⟩
def LargeOk (w : World) (n : Nat) (e : Ending) (w' : World) : Prop := (∃ r : Int, e = .returned (.int .i64 r) ∧ (r = 0 ∧ n ≤ 250 ∨ r = 1)) ∧ Keeps (fun _ => False) w w'
set_option maxRecDepth 100000 in
set_option maxHeartbeats 4000000 in
theorem large_calls (v : Value) (l : List Reg) (w : World) (h : regsAt w v l) : Calls Tryz.prog 36 #[v] w (LargeOk w l.length) := by
  have HR := Lib.hid h
  obtain ⟨ao, cap, rfl⟩ := h.shape
  obtain ⟨n, hn⟩ : ∃ n, l.length = n := ⟨_, rfl⟩
  have HN := Lib.hid hn
  rw [hn] at HR ⊢
  clear h hn
  go_enter Tryz.func36, Tryz.ntmps36
  go_wp2_with fail
  go_loopw [3, 5, 8] (fun m _ i wr => ∃ k : Nat, k ≤ n ∧ i = .int .i64 k ∧ ∃ x : Nat, m = .int .i64 x ∧ k ≤ x ∧ x ≤ 250 ∧ RowKit.Hid (Keeps (fun _ => False) w wr)) (fun _ _ i _ => n - (intOf i).toNat)
  case atStart => exact ⟨0, Nat.zero_le _, rfl, 0, rfl, Nat.le_refl _, by omega, Lib.hid (Keeps.refl _ _)⟩
  case round =>
    obtain ⟨k, hk, rfl, x, rfl, hkx, hx, HW⟩ := hrel
    by_cases hkl : k < n
    · have hkI : (k : Int) < (n : Int) := by omega
      have hk0 : (0 : Int) ≤ (k : Int) := by omega
      obtain ⟨he, _⟩ | ⟨b, off, cap', hv, hb, hc⟩ := HR.out.kept HW.out
      · have := HN.out; rw [he] at this; simp at this; omega
      injection hv with hv1 hv2 hv3
      subst hv1
      obtain ⟨e0, e1, ao', n', c', e2, hp⟩ := hc k (by rw [HN.out]; exact hkl)
      obtain ⟨d, hd⟩ : ∃ d, (rg l k).1 = d := ⟨_, rfl⟩
      obtain ⟨m, hm⟩ : ∃ m, (rg l k).2.1 = m := ⟨_, rfl⟩
      rw [hd] at e0
      rw [hm] at e1
      have HKA := Lib.hid (HW.out.alloc (.cells #[.bool d, .int .i64 m, .slice ao' n' c'] 40))
      clear hp hc hd hm hv2 hv3
      obtain ⟨y, hy, hy5⟩ : ∃ y : Nat, (if (500 : Int) < (n' : Int) then (500 : Int) else (n' : Int)) = y ∧ y ≤ 500 := by
        by_cases h5 : 500 < n'
        · exact ⟨500, by rw [if_pos (by omega)]; rfl, by omega⟩
        · exact ⟨n', by rw [if_neg (by omega)], by omega⟩
      have hws : IntKind.i64.wrap (1 + (y : Int)) = 1 + (y : Int) := by rw [IntKind.wrap_i64]; omega
      have hws2 : IntKind.i64.wrap ((x : Int) + (1 + (y : Int))) = (x : Int) + (1 + (y : Int)) := by rw [IntKind.wrap_i64]; omega
      by_cases hgt : 250 < x + (1 + y)
      · have hgd : decide ((250 : Int) < (x : Int) + (1 + (y : Int))) = true := decide_eq_true (by omega)
        clear hgt
        go_wp2_with fail
        go_ret
        exact ⟨⟨1, rfl, .inr rfl⟩, HKA.out⟩
      · have hgd : decide ((250 : Int) < (x : Int) + (1 + (y : Int))) = false := decide_eq_false (by omega)
        go_wp2_with fail
        go_roundw
        case rel => exact ⟨k + 1, by omega, by go_num, x + (1 + y), rfl, by omega, by omega, HKA⟩
        case measure => simp [intOf]; omega
    · obtain rfl : k = n := by omega
      go_wp2_with fail
      go_ret
      exact ⟨⟨0, rfl, .inl ⟨rfl, by omega⟩⟩, HW.out⟩
def SkipOk (w : World) (n : Nat) (e : Ending) (w' : World) : Prop := (∃ r : Int, e = .returned (.int .i64 r) ∧ (r = 0 ∧ n ≤ 100 ∨ r = 1)) ∧ Keeps (fun _ => False) w w'
set_option maxRecDepth 100000 in
set_option maxHeartbeats 4000000 in
theorem skip20_calls (v : Value) (l : List Reg) (aq : Option Addr) (nq cq : Nat) (w : World) (h : regsAt w v l) : Calls Tryz.prog 15 #[v, .slice aq nq cq] w (SkipOk w nq) := by
  have HR := Lib.hid h
  have HLA := Lib.hid (large_calls v l w h)
  obtain ⟨ao, cap, rfl⟩ := h.shape
  obtain ⟨n, hn⟩ : ∃ n, l.length = n := ⟨_, rfl⟩
  have HN := Lib.hid hn
  rw [hn] at HR HLA ⊢
  clear h hn
  go_enter Tryz.func15, Tryz.ntmps15
  go_wp2_with fail
  refine HLA.out.mono ?_; rintro e w1 ⟨⟨r, rfl, hr⟩, hk1⟩
  rcases hr with ⟨rfl, hn250⟩ | rfl
  · by_cases hq : 100 < nq
    · have hq1 : decide ((100 : Int) < (nq : Int)) = true := decide_eq_true (by omega)
      clear hq
      go_wp2_with fail
      go_ret
      exact ⟨⟨1, rfl, .inr rfl⟩, hk1⟩
    · have hq1 : decide ((100 : Int) < (nq : Int)) = false := decide_eq_false (by omega)
      have hq100 : nq ≤ 100 := by omega
      clear hq
      go_wp2_with fail
      go_loopw [5, 7, 18] (fun m _ i wr => ∃ k : Nat, k ≤ n ∧ i = .int .i64 k ∧ ∃ x : Int, m = .int .i64 x ∧ RowKit.Hid (Keeps (fun _ => False) w wr)) (fun _ _ i _ => n - (intOf i).toNat)
      case atStart => exact ⟨0, Nat.zero_le _, rfl, 0, rfl, Lib.hid hk1⟩
      case round =>
        obtain ⟨k, hk, rfl, x, rfl, HW⟩ := hrel
        by_cases hkl : k < n
        · have hkI : (k : Int) < (n : Int) := by omega
          have hk0 : (0 : Int) ≤ (k : Int) := by omega
          obtain ⟨he, _⟩ | ⟨b, off, cap', hv, hb, hc⟩ := HR.out.kept HW.out
          · have := HN.out; rw [he] at this; simp at this; omega
          injection hv with hv1 hv2 hv3
          subst hv1
          obtain ⟨e0, e1, ao', n', c', e2, hp⟩ := hc k (by rw [HN.out]; exact hkl)
          obtain ⟨d, hd⟩ : ∃ d, (rg l k).1 = d := ⟨_, rfl⟩
          obtain ⟨m, hm⟩ : ∃ m, (rg l k).2.1 = m := ⟨_, rfl⟩
          rw [hd] at e0
          rw [hm] at e1
          have HKA := Lib.hid (HW.out.alloc (.cells #[.bool d, .int .i64 m, .slice ao' n' c'] 40))
          clear hp hc hd hm hv2 hv3
          obtain ⟨y, hy⟩ : ∃ y, IntKind.i64.wrap (x + (n' : Int)) = y := ⟨_, rfl⟩
          have hy2 : RowKit.wrap64 (x + (n' : Int)) = y := by rw [← hy, IntKind.wrap_i64]; unfold RowKit.wrap64; omega
          go_wp2_with fail
          go_roundw
          case rel => exact ⟨k + 1, by omega, by go_num, _, rfl, HKA⟩
          case measure => simp [intOf]; omega
        · obtain rfl : k = n := by omega
          obtain ⟨y, hy⟩ : ∃ y, RowKit.wrap64 (x * (nq : Int)) = y := ⟨_, rfl⟩
          by_cases hgt : 2000 < y
          · have hgd : decide (2000 < y) = true := decide_eq_true hgt
            clear hgt
            go_wp2_with fail
            go_ret
            exact ⟨⟨1, rfl, .inr rfl⟩, HW.out⟩
          · have hgd : decide (2000 < y) = false := decide_eq_false hgt
            clear hgt
            go_wp2_with fail
            go_ret
            exact ⟨⟨0, rfl, .inl ⟨rfl, hq100⟩⟩, HW.out⟩
  · go_wp2_with fail
    go_ret
    exact ⟨⟨1, rfl, .inr rfl⟩, hk1⟩
end Go.Proofs.YtmoajobnhiopiaaGreatDoor.sv
