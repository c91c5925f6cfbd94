/- polygon.Valid without a tape, by walking its text. -/
import Derived.Test.YtmoajobnhiopiaaGreatDoorPolL
import Derived.WalkMore
set_option linter.unusedSimpArgs false
set_option linter.unusedVariables false
namespace Go.Proofs.YtmoajobnhiopiaaGreatDoor.po
open Go Go.RowKit Go.Shelf Go.Maps Go.Proofs.YtmoajobnhiopiaaGreatDoor.mk Go.Proofs.YtmoajobnhiopiaaGreatDoor.tp Go.Proofs.YtmoajobnhiopiaaGreatDoor.rg Go.Proofs.YtmoajobnhiopiaaGreatDoor.lm Go.Proofs.YtmoajobnhiopiaaGreatDoor.gm Go.Proofs.YtmoajobnhiopiaaGreatDoor.nb

attribute [local go_sem] Oper.semAt_some
section
variable {P : Program} {F : Fence} {n : Nat} {b : Frame} {a : Act} {k : List Item} {cs : List Frame} {w : World} {Q : Exit → Act → World → Prop}
theorem stepR_scopeS {c : Code} : step P (lone (b.atR a (.code (.scope c) :: k)) cs w) = .next (lone (b.atR a (.code c :: .inScope c :: k)) cs w) :=
  step_lone_go (by simp [stepG, stepG.exec, Frame.atR])
theorem stepR_inScopeS {c : Code} : step P (lone (b.atR a (.inScope c :: k)) cs w) = .next (lone (b.atR a k) cs w) :=
  step_lone_go (by simp [stepG, stepG.exec, Frame.atR])
/-- A scope through which the run goes without a goto, in whatever fence. -/
theorem wpIn_scopeS {c : Code} (h : c.wpIn F n P (Exit.noGoto Q) a w) : (Code.scope c).wpIn F n P Q a w := by
  intro b k cs hro hb hr
  have h0 : (lone (b.atR a (.code (.scope c) :: k)) cs w).fenced P F := fenced_calm hb hr rfl
  obtain ⟨e, a₁, w₁, hq, harr⟩ := h b (.inScope c :: k) cs hro hb hr
  cases e with
  | normal => exact ⟨.normal, a₁, w₁, hq, .head h0 stepR_scopeS (StepsIn.trans harr (.one (fenced_calm hb hr rfl) stepR_inScopeS))⟩
  | exit id =>
    have hx : exitTo id (.inScope c :: k) = exitTo id k := by simp [exitTo]
    exact ⟨.exit id, a₁, w₁, hq, fun k' hk => .head h0 stepR_scopeS (harr.1 k' (by rw [hx]; exact hk)),
      fun hr' hk => let ⟨k₁, h1, h2⟩ := harr.2 hr' (by rw [hx]; exact hk); ⟨k₁, h1, .head h0 stepR_scopeS h2⟩⟩
  | goto l => exact hq.elim
  | ret => exact ⟨_, a₁, w₁, hq, .of_steps (.one h0 stepR_scopeS) harr⟩
  | panic ch => exact ⟨_, a₁, w₁, hq, .of_steps (.one h0 stepR_scopeS) harr⟩
  | outgrown => exact ⟨_, a₁, w₁, hq, .of_steps (.one h0 stepR_scopeS) harr⟩
end
/-- Vertex j and the edge i. -/
def okI (l : List (Int × Int)) (i j : Nat) : Bool := decide (j = i) || (decide (j = (i + 1) % l.length) || (sgnI (edgeD l i (pt l j)) == polyS l))
def rowB (l : List (Int × Int)) (i j : Nat) : Bool := (List.range j).all (fun x => okI l i x)
/-- The list is strictly convex as far as its first i edges tell. -/
def valB (l : List (Int × Int)) (i : Nat) : Bool := !(polyS l == 0) && (List.range i).all (fun x => rowB l x l.length)
theorem rowB_succ (l : List (Int × Int)) (i j : Nat) : rowB l i (j + 1) = (rowB l i j && okI l i j) := by unfold rowB; rw [List.range_succ, List.all_append]; simp
theorem valB_succ (l : List (Int × Int)) (i : Nat) : valB l (i + 1) = (valB l i && rowB l i l.length) := by
  unfold valB
  rw [List.range_succ, List.all_append]
  simp [Bool.and_assoc]
theorem sgn_conv {x y : Int} : (sgnI x % 18446744073709551616 == sgnI y % 18446744073709551616) = (sgnI x == sgnI y) := by
  rcases sgnI_cases x with ⟨_, e⟩ | ⟨_, e⟩ | ⟨_, e⟩ <;> rcases sgnI_cases y with ⟨_, f⟩ | ⟨_, f⟩ | ⟨_, f⟩ <;> rw [e, f] <;> decide
theorem sgn_convU (x : Int) : IntKind.u64.wrap (sgnI x) = sgnI x % 18446744073709551616 ∧ IsU (sgnI x % 18446744073709551616) ∧ (sgnI x % 18446744073709551616 == 0) = (sgnI x == 0) := by
  refine ⟨by rw [IntKind.wrap_u64], by unfold IsU; omega, ?_⟩
  rcases sgnI_cases x with ⟨_, e⟩ | ⟨_, e⟩ | ⟨_, e⟩ <;> rw [e] <;> decide
theorem not_masks (a : Bool) : bits .xor .u64 IntKind.u64.max (maskI a) = maskI (!a) := by cases a <;> decide
theorem heap_three (w : World) (a b c : Obj) : (((w.alloc a).alloc b).alloc c).heap[w.heap.size]? = some a ∧ (((w.alloc a).alloc b).alloc c).heap[w.heap.size + 1]? = some b ∧ (((w.alloc a).alloc b).alloc c).heap[w.heap.size + 2]? = some c := by
  have h1 := heap_two w a b
  refine ⟨by rw [Below.heap_alloc _ _ _ (by simp <;> omega)]; exact h1.1, by rw [Below.heap_alloc _ _ _ (by simp <;> omega)]; exact h1.2, ?_⟩
  have := heap_alloc_new ((w.alloc a).alloc b) c
  simpa using this

set_option maxRecDepth 100000 in
set_option maxHeartbeats 8000000 in
theorem pvalid_calls (v : Value) (l : List (Int × Int)) (h3 : 3 ≤ l.length) (h64 : l.length ≤ 64) (hp : Pts l) (w : World) (hG : Gl w) (h : ptsAt w v l) :
    Calls Tryz.prog 24 #[.pointer none, v] w fun e w' => e = .returned (.int .u64 (maskI (valB l l.length))) ∧ Keeps (fun _ => False) w w' := by
  obtain ⟨b, off, cap, rfl, hb, hc⟩ := h.block (i := 0) (by omega)
  have H := Lib.hid h
  have HC := Lib.hid hc
  have HG := Lib.hid hG
  clear h hc hG
  refine (callsIn_wide (n := 5)).1 ?_
  refine callsIn_of_wp_marks Tryz.func24 rfl trivial ?_ rfl
  simp only [Tryz.ntmps24, List.size_toArray, List.length_cons, List.length_nil, Nat.reduceAdd, Nat.reduceSub, Array.replicate_succ, Array.replicate_zero, List.push_toArray, List.append_toArray, List.nil_append, List.cons_append]
  gi_wp2_with fail
  obtain ⟨w0, hw0⟩ : ∃ w0, (w.alloc (.cells #[.pointer none] 76)).alloc (.cells #[.slice (some ⟨b, off, none⟩) l.length cap] 38) = w0 := ⟨_, rfl⟩
  have hk0 : Keeps (fun _ => False) w w0 := by rw [← hw0]; exact ((Keeps.refl _ w).alloc _).alloc _
  have hg0 := (heap_two w (.cells #[.pointer none] 76) (.cells #[.slice (some ⟨b, off, none⟩) l.length cap] 38)).1
  have hg1 := (heap_two w (.cells #[.pointer none] 76) (.cells #[.slice (some ⟨b, off, none⟩) l.length cap] 38)).2
  rw [hw0] at hg0 hg1 ⊢
  clear hw0
  have hl0 : w.heap.size < w0.heap.size := (Array.getElem?_eq_some_iff.1 hg0).1
  have hl1 : w.heap.size + 1 < w0.heap.size := (Array.getElem?_eq_some_iff.1 hg1).1
  have HG0 := Lib.hid hg0
  have HG1 := Lib.hid hg1
  clear hg0 hg1
  refine ⟨trivial, ?_⟩
  refine (callsIn_wide.2 (pori_calls _ l h3 h64 hp w0 (HG.out.kept hk0) (H.out.kept hk0))).mono ?_; rintro e w1 ⟨rfl, hk1⟩
  have hz2 : IntKind.u64.wrap (polyS l) = polyS l % 18446744073709551616 ∧ IsU (polyS l % 18446744073709551616) ∧ (polyS l % 18446744073709551616 == 0) = (polyS l == 0) := sgn_convU _
  have hw2 := hz2.1
  gi_wp2_with fail
  refine ⟨trivial, ?_⟩
  refine (callsIn_wide.2 (zero_calls _ hz2.2.1 _)).mono ?_; rintro e w2 ⟨rfl, rfl⟩
  rw [hz2.2.2]
  have hnm := not_masks (polyS l == 0)
  have hk3 : ∀ o1 o2, Keeps (fun _ => False) w1 ((w1.alloc o1).alloc o2) := fun o1 o2 => ((Keeps.refl _ w1).alloc o1).alloc o2
  have hl1b := Nat.lt_of_lt_of_le hl1 hk1.size
  have d1 : ∀ o1 o2, ((w1.alloc o1).alloc o2).cell? ⟨w.heap.size + 1, 0, none⟩ = some (.slice (some ⟨b, off, none⟩) l.length cap) := fun o1 o2 => ((hk3 o1 o2).cell (p := ⟨w.heap.size + 1, 0, none⟩) hl1b (fun h => h)).trans ((hk1.cell (p := ⟨w.heap.size + 1, 0, none⟩) hl1 (fun h => h)).trans (cells_at HG1.out 0))
  gi_wp2_with fail
  refine ⟨trivial, ?_⟩
  refine (callsIn_wide.2 (edges_calls (.slice (some ⟨b, off, none⟩) l.length cap) _ _ _ _)).mono ?_; rintro e w3 ⟨rfl, hw3⟩
  gi_wp2_with fail
  clear hw3 w3 d1 hk3
  obtain ⟨wl, hwl⟩ : ∃ wl, ((w1.alloc (.cells #[.int .i64 (polyS l)] 2)).alloc (.cells #[.int .u64 (maskI (!(polyS l == 0)))] 43)).alloc (.cells #[.slice (some ⟨b, off, none⟩) l.length cap] 38) = wl := ⟨_, rfl⟩
  obtain ⟨bs, hbs⟩ : ∃ bs, w1.heap.size = bs := ⟨_, rfl⟩
  have h4 := heap_three w1 (.cells #[.int .i64 (polyS l)] 2) (.cells #[.int .u64 (maskI (!(polyS l == 0)))] 43) (.cells #[.slice (some ⟨b, off, none⟩) l.length cap] 38)
  have hkl : Keeps (fun _ => False) w1 wl := by rw [← hwl]; exact (((Keeps.refl _ w1).alloc _).alloc _).alloc _
  rw [hwl, hbs] at h4
  obtain ⟨r2, r3, r5⟩ := h4
  rw [hwl]
  have hsz : wl.heap.size = bs + 3 := by rw [← hwl, ← hbs]; simp
  rw [hbs]
  have hbs0 : w0.heap.size ≤ bs := by rw [← hbs]; exact hk1.size
  have hkA : Keeps (fun _ => False) w0 wl := knil hk1 hkl
  have hkW : Keeps (fun _ => False) w wl := knil hk0 hkA
  have r0 := (hkA.block _ hl0 (fun h => h)).trans HG0.out
  have r1 := (hkA.block _ hl1 (fun h => h)).trans HG1.out
  have hbl : b < w0.heap.size := Nat.lt_of_lt_of_le hb hk0.size
  have HCl := Lib.hid (fun i hi => show wl.cell? ⟨b, off + i * 2, none⟩ = some (.int .i64 (pt l i).1) ∧ wl.cell? ⟨b, off + i * 2 + 1, none⟩ = some (.int .i64 (pt l i).2) from ⟨(hkW.cell (p := ⟨b, off + i * 2, none⟩) hb (fun h => h)).trans (HC.out i hi).1, (hkW.cell (p := ⟨b, off + i * 2 + 1, none⟩) hb (fun h => h)).trans (HC.out i hi).2⟩)
  clear hwl hbs hkl hk1 hl1b hnm w1
  have cellK : ∀ (W : World) (x o : Nat), Keeps (fun i => i = bs + 1) wl W → x < bs + 3 → x ≠ bs + 1 → W.cell? ⟨x, o, none⟩ = wl.cell? ⟨x, o, none⟩ := fun W x o hK hx h1 => hK.cell (p := ⟨x, o, none⟩) (show x < wl.heap.size by omega) (show ¬ x = bs + 1 by omega)
  have CK := Lib.hid cellK
  refine over_edges (bs + 1 + 1) b off cap l h3 h64
    (fun k W => W.heap[bs + 1]? = some (.cells #[.int .u64 (maskI (valB l k))] 43 (0, 0)) ∧ Keeps (fun i => i = bs + 1) wl W)
    rfl ?box ?loops ?start
    (fun gg k => { tmps := #[.pointer none, .slice (some ⟨b, off, none⟩) l.length cap, .pointer (some ⟨w.heap.size, 0, none⟩), .pointer (some ⟨w.heap.size + 1, 0, none⟩), .int .u64 0, .pointer (some ⟨bs, 0, none⟩), .pointer (some ⟨bs + 1, 0, none⟩), .pointer (some ⟨gg, 0, none⟩), undef, undef, .slice (some ⟨b, off, none⟩) l.length cap, .int .i64 (polyS l), .int .i64 (polyS l), .int .u64 (polyS l % 18446744073709551616), .int .u64 (maskI (polyS l == 0)), .int .u64 (maskI (!(polyS l == 0))), .slice (some ⟨b, off, none⟩) l.length cap, .func (.func 74) #[] #[.pointer (some ⟨bs + 1 + 1, 0, none⟩)], edgeV l k, undef, undef, undef, undef, undef, undef, undef, undef, undef, undef, undef, undef, undef, undef, undef, undef, undef, undef, undef, undef, undef, undef, undef, undef, undef, undef, undef, undef, undef, undef, undef, undef, undef, undef, undef, undef], defers := [] }) ?assign ?body ?done
  case box =>
    rintro k W ⟨_, hK⟩
    exact ⟨(cellK _ _ _ hK (by omega) (by omega)).trans (cells_at r5 0), fun i hi => ⟨(cellK _ _ _ hK (by omega) (by omega)).trans (HCl.out i hi).1, (cellK _ _ _ hK (by omega) (by omega)).trans (HCl.out i hi).2⟩⟩
  case loops =>
    rintro k W W' ⟨ho, hK⟩ hz hl
    exact ⟨(hl.block _ (by omega) (by omega)).trans ho, hK.trans hl (fun i hi h => by omega)⟩
  case start =>
    intro r
    have hk : Keeps (fun _ => False) wl ((wl.alloc (.deferred (some []))).alloc (.loop r)) := ((Keeps.refl _ wl).alloc _).alloc _
    exact ⟨(hk.block _ (by omega) (fun h => h)).trans (by rw [r3]; unfold valB; simp), hk.mono (fun _ _ h => h.elim)⟩
  case assign =>
    intro W k K hK
    unfold edgeV
    gi_wp2
    exact hK
  case body =>
    rintro k gg W ⟨ho, hK⟩ hk hlo hed
    obtain ⟨q, hq⟩ : ∃ q, (k + 1) % l.length = q := ⟨_, rfl⟩
    have hvs := valB_succ l k
    unfold EdgeAt at hed
    rw [hq] at hed
    have hgl : gg < W.heap.size := (Array.getElem?_eq_some_iff.1 hed).1
    have HVS := Lib.hid hvs
    have HO := Lib.hid ho
    have hKW := Lib.hid hK
    have HED := Lib.hid hed
    have HQ := Lib.hid hq
    have R0 := Lib.hid r0
    have R1 := Lib.hid r1
    have R2 := Lib.hid r2
    have s0 := (cellK _ (w.heap.size + 1) 0 hK (by omega) (by omega)).trans (cells_at r1 0)
    have hln : 0 < l.length := by omega
    have hlne : ¬ l = [] := fun h => by rw [h] at hln; simp at hln
    clear hvs ho hK hed hq r0 r1 r2 r3 r5 cellK
    gi_wp2_with fail
    refine wpIn_scopeS ?_
    gi_wp2_with fail
    refine wpIn_label ?_
    gi_wp2_with fail
    gi_loopw [8, 9, 21] (fun _ _ jv wr => ∃ (j : Nat) (v : Bool), j ≤ l.length ∧ jv = .int .i64 j ∧ RowKit.Hid (v = (valB l k && rowB l k j)) ∧ RowKit.Hid (wr.heap[bs + 1]? = some (.cells #[.int .u64 (maskI v)] 43 (0, 0))) ∧ RowKit.Hid (Keeps (fun i => i = bs + 1) W wr)) (fun _ _ jv _ => l.length - (intOf jv).toNat)
    case atStart => exact ⟨0, valB l k, Nat.zero_le _, rfl, by show _ = _; unfold rowB; simp, HO.out, Keeps.refl _ _⟩
    case round =>
      clear s0 HO
      obtain ⟨j, v, hj, rfl, hv, hr, hK⟩ := hrel
      have hjw : IntKind.i64.wrap ((j : Int) + 1) = (j : Int) + 1 := by rw [IntKind.wrap_i64]; omega
      have hj0 : (0 : Int) ≤ (j : Int) := by omega
      by_cases hjl : j < l.length
      · have hjlI : (j : Int) < (l.length : Int) := by omega
        have b0 := (CK.out _ b (off + j * 2) (hKW.out.trans hK.out (fun _ _ h => h)) (by omega) (by omega)).trans (HCl.out j hjl).1
        have b1 := (CK.out _ b (off + j * 2 + 1) (hKW.out.trans hK.out (fun _ _ h => h)) (by omega) (by omega)).trans (HCl.out j hjl).2
        have hkp : ∀ o, Keeps (fun _ => False) wr (wr.alloc o) := fun o => (Keeps.refl _ wr).alloc o
        have hedr := (hK.out.block _ hgl (show ¬ gg = bs + 1 by omega)).trans HED.out
        have hgr : gg < wr.heap.size := (Array.getElem?_eq_some_iff.1 hedr).1
        have g0 : ∀ o, (wr.alloc o).cell? ⟨gg, 0, none⟩ = some (.int .i64 (k : Int)) := fun o => ((hkp o).cell (p := ⟨gg, 0, none⟩) hgr (fun h => h)).trans (cells_at hedr 0)
        have g1 : ∀ o, (wr.alloc o).cell? ⟨gg, 1, none⟩ = some (.int .i64 (q : Int)) := fun o => ((hkp o).cell (p := ⟨gg, 1, none⟩) hgr (fun h => h)).trans (cells_at hedr 1)
        have t0 : ∀ o, (wr.alloc o).cell? ⟨w.heap.size, 0, none⟩ = some (.pointer none) := fun o => ((hkp o).cell (p := ⟨w.heap.size, 0, none⟩) (show w.heap.size < wr.heap.size by have := hK.out.size; have := hKW.out.size; omega) (fun h => h)).trans ((CK.out _ w.heap.size 0 (hKW.out.trans hK.out (fun _ _ h => h)) (by omega) (by omega)).trans (cells_at R0.out 0))
        have HEDR := Lib.hid hedr
        have hra : ∀ o, (wr.alloc o).heap[bs + 1]? = some (.cells #[.int .u64 (maskI v)] 43 (0, 0)) := fun o => ((hkp o).block _ (Array.getElem?_eq_some_iff.1 hr.out).1 (fun h => h)).trans hr.out
        have HRA := Lib.hid hra
        have hKa : ∀ o, Keeps (fun i => i = bs + 1) W (wr.alloc o) := fun o => hK.out.alloc o
        have HKA := Lib.hid hKa
        clear hedr hra hKa hkp
        by_cases hji : j = k
        · subst hji
          have HV2 : RowKit.Hid (v = (valB l j && rowB l j (j + 1))) := by
            show _ = _
            rw [rowB_succ, hv.out]
            unfold okI
            simp
          clear hjl
          gi_wp2_with fail
          go_roundw
          case rel => exact ⟨j + 1, v, by omega, by go_num, HV2, HRA.out _, HKA.out _⟩
          case measure => simp [intOf]; omega
        · have hjiI : ¬ (j : Int) = (k : Int) := by omega
          have hjib : ((j : Int) == (k : Int)) = false := beq_eq_false_iff_ne.2 hjiI
          by_cases hjq : j = q
          · subst hjq
            have HV2 : RowKit.Hid (v = (valB l k && rowB l k (j + 1))) := by
              show _ = _
              rw [rowB_succ, hv.out]
              unfold okI
              rw [HQ.out]
              simp
            clear hji hjl
            gi_wp2_with fail
            go_roundw
            case rel => exact ⟨j + 1, v, by omega, by go_num, HV2, HRA.out _, HKA.out _⟩
            case measure => simp [intOf]; omega
          · have hjqI : ¬ (j : Int) = (q : Int) := by omega
            have hjqb : ((j : Int) == (q : Int)) = false := beq_eq_false_iff_ne.2 hjqI
            have hok : okI l k j = (sgnI (det (pt l k) (pt l q) (pt l j)) == polyS l) := by
              unfold okI
              rw [edgeD_eq, HQ.out, decide_eq_false hji, decide_eq_false hjq]
              rfl
            have HOK := Lib.hid hok
            clear hji hjq hok hjl
            gi_wp2_with fail
            refine ⟨trivial, ?_⟩
            refine (CallsIn.inRound _ (callsIn_wide.2 (noteN _ _ _ _))).mono ?_; rintro e W3 ⟨rfl, rfl⟩
            gi_wp2_with fail
            obtain ⟨wp, hwp⟩ : ∃ wp, wr.alloc (.cells #[.int .i64 (pt l j).1, .int .i64 (pt l j).2] 35) = wp := ⟨_, rfl⟩
            obtain ⟨bp, hbp⟩ : ∃ bp, wr.heap.size = bp := ⟨_, rfl⟩
            have hpn := heap_alloc_new wr (.cells #[.int .i64 (pt l j).1, .int .i64 (pt l j).2] 35)
            have hkrp : Keeps (fun _ => False) wr wp := by rw [← hwp]; exact (Keeps.refl _ wr).alloc _
            have hrp := HRA.out (.cells #[.int .i64 (pt l j).1, .int .i64 (pt l j).2] 35)
            rw [hwp, hbp] at hpn
            rw [hwp] at hrp
            rw [hwp]
            try rw [hbp]
            have hed2 := (hkrp.block _ hgr (fun h => h)).trans HEDR.out
            have hKp : Keeps (fun i => i = bs + 1) W wp := hK.out.trans hkrp (fun i hi h => h.elim)
            have hsz1 := hKp.size
            have hszl := hKW.out.size
            have e0 := cells_at hrp 0
            have fz := two_frozen hrp 0
            have e1 := cells_at hed2 2
            have e2 := cells_at hed2 3
            have e3 := cells_at hed2 4
            have e4 := cells_at hed2 5
            have e5 := cells_at hpn 0
            have e6 := cells_at hpn 1
            have e7 := (CK.out _ bs 0 (hKW.out.trans hKp (fun _ _ h => h)) (by omega) (by omega)).trans (cells_at R2.out 0)
            have hvW : bs + 1 < wp.heap.size := by omega
            have hsW : bs < wp.heap.size := by omega
            have hgW : gg < wp.heap.size := (Array.getElem?_eq_some_iff.1 hed2).1
            have hpW : bp < wp.heap.size := (Array.getElem?_eq_some_iff.1 hpn).1
            have HRP := Lib.hid hrp
            have HKP := Lib.hid hKp
            have hz1 := sgn_convU (det (pt l k) (pt l q) (pt l j))
            have hz2 : IntKind.u64.wrap (polyS l) = polyS l % 18446744073709551616 ∧ IsU (polyS l % 18446744073709551616) ∧ (polyS l % 18446744073709551616 == 0) = (polyS l == 0) := sgn_convU _
            have HCV := Lib.hid (show (sgnI (det (pt l k) (pt l q) (pt l j)) % 18446744073709551616 == polyS l % 18446744073709551616) = (sgnI (det (pt l k) (pt l q) (pt l j)) == polyS l) from sgn_conv)
            have hw1 := hz1.1
            have hw2 := hz2.1
            obtain ⟨v2, hv2⟩ : ∃ v2, (v && (sgnI (det (pt l k) (pt l q) (pt l j)) == polyS l)) = v2 := ⟨_, rfl⟩
            have ham := and_masks v (sgnI (det (pt l k) (pt l q) (pt l j)) == polyS l)
            rw [hv2] at ham
            have HV2 := Lib.hid hv2
            have HKW := Lib.hid (show Keeps (fun _ => False) w wp from hkW.trans (hKW.out.trans hKp (fun _ _ h => h)) (fun i hi h => by omega))
            clear g0 g1 t0 b0 b1 hed2 hpn hrp hkrp hKp hwp hbp hv2
            refine round_region_late (fun W => W.cell? ⟨bs + 1, 0, none⟩ = some (.int .u64 (maskI v)) ∧ W.cell? ⟨gg, 2, none⟩ = some (.int .i64 (pt l k).1) ∧ W.cell? ⟨gg, 3, none⟩ = some (.int .i64 (pt l k).2) ∧ W.cell? ⟨gg, 4, none⟩ = some (.int .i64 (pt l q).1) ∧ W.cell? ⟨gg, 5, none⟩ = some (.int .i64 (pt l q).2) ∧ W.cell? ⟨bp, 0, none⟩ = some (.int .i64 (pt l j).1) ∧ W.cell? ⟨bp, 1, none⟩ = some (.int .i64 (pt l j).2) ∧ W.cell? ⟨bs, 0, none⟩ = some (.int .i64 (polyS l))) [12] (by kernel_rfl) (by kernel_rfl) (fun ⟨_, _, h⟩ => h) ?_
            have hS : wp.drew.cell? ⟨bs + 1, 0, none⟩ = some (.int .u64 (maskI v)) ∧ wp.drew.cell? ⟨gg, 2, none⟩ = some (.int .i64 (pt l k).1) ∧ wp.drew.cell? ⟨gg, 3, none⟩ = some (.int .i64 (pt l k).2) ∧ wp.drew.cell? ⟨gg, 4, none⟩ = some (.int .i64 (pt l q).1) ∧ wp.drew.cell? ⟨gg, 5, none⟩ = some (.int .i64 (pt l q).2) ∧ wp.drew.cell? ⟨bp, 0, none⟩ = some (.int .i64 (pt l j).1) ∧ wp.drew.cell? ⟨bp, 1, none⟩ = some (.int .i64 (pt l j).2) ∧ wp.drew.cell? ⟨bs, 0, none⟩ = some (.int .i64 (polyS l)) := ⟨e0, e1, e2, e3, e4, e5, e6, e7⟩
            refine wpAnyL_take (i := 0) (oi := _) (v := .int .u64 (maskI v)) rfl (by kernel_rfl) (by kernel_rfl) (by kernel_rfl) (by kernel_rfl) (fun _ _ _ h => h) (Or.inl ⟨by kernel_rfl, ?_⟩) (by assumption) ?_
            · intro w hSw
              obtain ⟨s0, s1, s2, s3, s4, s5, s6, s7⟩ := hSw
              go_simp
            try simp only [List.getElem_toArray, List.getElem_cons_zero, List.getElem_cons_succ, Act.put, List.setIfInBounds_toArray, List.set_cons_zero, List.set_cons_succ]
            refine wpAnyL_any (i := 1) (oi := _) (v := .pointer (some ⟨gg, 2, none⟩)) rfl (by kernel_rfl) (by kernel_rfl) (by kernel_rfl) (by kernel_rfl) (fun _ _ _ h => h) (Or.inl ⟨by kernel_rfl, ?_⟩) (fun _ => by assumption) ?_
            · intro w _
              go_simp
            try simp only [List.getElem_toArray, List.getElem_cons_zero, List.getElem_cons_succ, Act.put, List.setIfInBounds_toArray, List.set_cons_zero, List.set_cons_succ]
            refine wpAnyL_take (i := 2) (oi := _) (v := .agg #[.int .i64 (pt l k).1, .int .i64 (pt l k).2]) rfl (by kernel_rfl) (by kernel_rfl) (by kernel_rfl) (by kernel_rfl) (fun _ _ _ h => h) (Or.inl ⟨by kernel_rfl, ?_⟩) (by assumption) ?_
            · intro w hSw
              obtain ⟨s0, s1, s2, s3, s4, s5, s6, s7⟩ := hSw
              go_simp
            try simp only [List.getElem_toArray, List.getElem_cons_zero, List.getElem_cons_succ, Act.put, List.setIfInBounds_toArray, List.set_cons_zero, List.set_cons_succ]
            refine wpAnyL_any (i := 3) (oi := _) (v := .pointer (some ⟨gg, 4, none⟩)) rfl (by kernel_rfl) (by kernel_rfl) (by kernel_rfl) (by kernel_rfl) (fun _ _ _ h => h) (Or.inl ⟨by kernel_rfl, ?_⟩) (fun _ => by assumption) ?_
            · intro w _
              go_simp
            try simp only [List.getElem_toArray, List.getElem_cons_zero, List.getElem_cons_succ, Act.put, List.setIfInBounds_toArray, List.set_cons_zero, List.set_cons_succ]
            refine wpAnyL_take (i := 4) (oi := _) (v := .agg #[.int .i64 (pt l q).1, .int .i64 (pt l q).2]) rfl (by kernel_rfl) (by kernel_rfl) (by kernel_rfl) (by kernel_rfl) (fun _ _ _ h => h) (Or.inl ⟨by kernel_rfl, ?_⟩) (by assumption) ?_
            · intro w hSw
              obtain ⟨s0, s1, s2, s3, s4, s5, s6, s7⟩ := hSw
              go_simp
            try simp only [List.getElem_toArray, List.getElem_cons_zero, List.getElem_cons_succ, Act.put, List.setIfInBounds_toArray, List.set_cons_zero, List.set_cons_succ]
            refine wpAnyL_take (i := 5) (oi := _) (v := .agg #[.int .i64 (pt l j).1, .int .i64 (pt l j).2]) rfl (by kernel_rfl) (by kernel_rfl) (by kernel_rfl) (by kernel_rfl) (fun _ _ _ h => h) (Or.inl ⟨by kernel_rfl, ?_⟩) (by assumption) ?_
            · intro w hSw
              obtain ⟨s0, s1, s2, s3, s4, s5, s6, s7⟩ := hSw
              go_simp
            try simp only [List.getElem_toArray, List.getElem_cons_zero, List.getElem_cons_succ, Act.put, List.setIfInBounds_toArray, List.set_cons_zero, List.set_cons_succ]
            refine wpAnyL_take (i := 8) (oi := _) (v := .int .i64 (polyS l)) rfl (by kernel_rfl) (by kernel_rfl) (by kernel_rfl) (by kernel_rfl) (fun _ _ _ h => h) (Or.inl ⟨by kernel_rfl, ?_⟩) (by assumption) ?_
            · intro w hSw
              obtain ⟨s0, s1, s2, s3, s4, s5, s6, s7⟩ := hSw
              go_simp
            try simp only [List.getElem_toArray, List.getElem_cons_zero, List.getElem_cons_succ, Act.put, List.setIfInBounds_toArray, List.set_cons_zero, List.set_cons_succ]
            refine wpAnyL_any (i := 9) (oi := _) (v := .int .u64 (polyS l % 18446744073709551616)) rfl (by kernel_rfl) (by kernel_rfl) (by kernel_rfl) (by kernel_rfl) (fun _ _ _ h => h) (Or.inl ⟨by kernel_rfl, ?_⟩) (fun _ => by assumption) ?_
            · intro w _
              go_simp
            try simp only [List.getElem_toArray, List.getElem_cons_zero, List.getElem_cons_succ, Act.put, List.setIfInBounds_toArray, List.set_cons_zero, List.set_cons_succ]
            refine wpAnyL_next (i := 6) (by kernel_rfl) rfl (fun K hK => ?_)
            go_simp
            refine (osign_calls (pt l k) (pt l q) (pt l j) (hp.at k) (hp.at q) (hp.at j) _ (HG.out.kept (HKW.out.drewN 1))).mono ?_; rintro e W4 ⟨rfl, hk4'⟩
            have hk4 : Keeps (fun _ => False) wp W4 := knil ((Keeps.refl _ _).drewN 1) hk4'
            go_wp2_with fail
            refine hK.out _ _ ⟨(((hk4)).cell (p := ⟨bs + 1, 0, none⟩) hvW (fun h => h)).trans e0, (((hk4)).cell (p := ⟨gg, 2, none⟩) hgW (fun h => h)).trans e1, (((hk4)).cell (p := ⟨gg, 3, none⟩) hgW (fun h => h)).trans e2, (((hk4)).cell (p := ⟨gg, 4, none⟩) hgW (fun h => h)).trans e3, (((hk4)).cell (p := ⟨gg, 5, none⟩) hgW (fun h => h)).trans e4, (((hk4)).cell (p := ⟨bp, 0, none⟩) hpW (fun h => h)).trans e5, (((hk4)).cell (p := ⟨bp, 1, none⟩) hpW (fun h => h)).trans e6, (((hk4)).cell (p := ⟨bs, 0, none⟩) hsW (fun h => h)).trans e7⟩ (fun hHeld => ?_)
            clear hK K
            try simp only [List.getElem_toArray, List.getElem_cons_zero, List.getElem_cons_succ, Act.put, List.setIfInBounds_toArray, List.set_cons_zero, List.set_cons_succ]
            refine wpAnyL_any (i := 7) (oi := _) (v := .int .u64 (sgnI (det (pt l k) (pt l q) (pt l j)) % 18446744073709551616)) rfl (by kernel_rfl) (by kernel_rfl) (by kernel_rfl) (by kernel_rfl) (fun _ _ _ h => h) (Or.inl ⟨by kernel_rfl, ?_⟩) (fun _ => by assumption) ?_
            · intro w _
              go_simp
            try simp only [List.getElem_toArray, List.getElem_cons_zero, List.getElem_cons_succ, Act.put, List.setIfInBounds_toArray, List.set_cons_zero, List.set_cons_succ]
            refine wpAnyL_next (i := 10) (by kernel_rfl) rfl (fun K hK => ?_)
            go_simp
            refine (equal_calls _ _ hz1.2.1 hz2.2.1 _).mono ?_; rintro e W5 ⟨rfl, rfl⟩
            rw [HCV.out]
            go_wp2_with fail
            refine hK.out _ _ ⟨(((hk4)).cell (p := ⟨bs + 1, 0, none⟩) hvW (fun h => h)).trans e0, (((hk4)).cell (p := ⟨gg, 2, none⟩) hgW (fun h => h)).trans e1, (((hk4)).cell (p := ⟨gg, 3, none⟩) hgW (fun h => h)).trans e2, (((hk4)).cell (p := ⟨gg, 4, none⟩) hgW (fun h => h)).trans e3, (((hk4)).cell (p := ⟨gg, 5, none⟩) hgW (fun h => h)).trans e4, (((hk4)).cell (p := ⟨bp, 0, none⟩) hpW (fun h => h)).trans e5, (((hk4)).cell (p := ⟨bp, 1, none⟩) hpW (fun h => h)).trans e6, (((hk4)).cell (p := ⟨bs, 0, none⟩) hsW (fun h => h)).trans e7⟩ (fun hHeld => ?_)
            clear hK K
            try simp only [List.getElem_toArray, List.getElem_cons_zero, List.getElem_cons_succ, Act.put, List.setIfInBounds_toArray, List.set_cons_zero, List.set_cons_succ]
            refine wpAnyL_any (i := 11) (oi := _) (v := .int .u64 (maskI v2)) rfl (by kernel_rfl) (by kernel_rfl) (by kernel_rfl) (by kernel_rfl) (fun _ _ _ h => h) (Or.inl ⟨by kernel_rfl, ?_⟩) (fun _ => by assumption) ?_
            · intro w _
              go_simp
            try simp only [List.getElem_toArray, List.getElem_cons_zero, List.getElem_cons_succ, Act.put, List.setIfInBounds_toArray, List.set_cons_zero, List.set_cons_succ]
            have f0 := (hk4.cell (p := ⟨bs + 1, 0, none⟩) hvW (fun h => h)).trans e0
            have f1 := (hk4.frozen (p := ⟨bs + 1, 0, none⟩) hvW (fun h => h)).trans fz
            refine wpAnyL_late (i := 12) (by kernel_rfl) rfl (by kernel_rfl) (fun K hK => ?_)
            go_simp
            refine hK.out _ _ (fun _ => ?_)
            clear hK K
            try simp only [List.getElem_toArray, List.getElem_cons_zero, List.getElem_cons_succ, Act.put, List.setIfInBounds_toArray, List.set_cons_zero, List.set_cons_succ]
            refine wpAnyL_done (by kernel_rfl) ?_ _
            clear hS e0 e1 e2 e3 e4 e5 e6 e7 fz ham
            clear f0 f1
            have HV3 : RowKit.Hid (v2 = (valB l k && rowB l k (j + 1))) := by
              show _ = _
              rw [rowB_succ, HOK.out, ← HV2.out, hv.out, Bool.and_assoc]
            have hr4 := (hk4.block (bs + 1) (Array.getElem?_eq_some_iff.1 HRP.out).1 (fun h => h)).trans HRP.out
            have HR4 := Lib.hid hr4
            have HK5 := Lib.hid (((HKP.out.trans hk4 (fun _ _ h => h.elim)).setCell ⟨bs + 1, 0, none⟩ (fun _ => rfl) (.int .u64 (maskI v2))))
            clear hr4
            gi_wp2_with fail
            go_roundw
            case rel => exact ⟨j + 1, v2, by omega, by go_num, HV3, cells_put HR4.out 0 _, HK5.out⟩
            case measure => simp [intOf]; omega
      · obtain rfl : j = l.length := by omega
        have hjlI : ¬ (l.length : Int) < (l.length : Int) := by omega
        gi_wp2_with fail
        have kWf := hK.out
        refine ⟨⟨kWf.block _ (by omega) (by omega), kWf.block _ (by omega) (by omega)⟩, Nat.le_trans (show wl.heap.size + 2 ≤ W.heap.size by omega) kWf.size, ?_, hKW.out.trans kWf (fun i _ h => h)⟩
        have h1 := hr.out
        rw [hv.out, ← HVS.out] at h1
        exact h1
  case done =>
    rintro W ⟨ho, hK⟩ hz2 hdd
    have o0 := cells_at ho 0
    have hkwW := Lib.hid (show Keeps (fun _ => False) w W from hkW.trans hK (fun i hi h => by omega))
    clear ho hK r0 r1 r2 r3 r5 cellK
    gi_wp2
    have hkp := keeps_putE W wl.heap.size (.deferred none)
    refine ⟨by simp, .inl ⟨_, _, rfl, run_takeDeferred hdd, ⟨_, results_tmp rfl _ _ _, ⟨rfl, ?_⟩⟩⟩⟩
    exact hkwW.out.trans hkp (fun i hi h => by omega)
end Go.Proofs.YtmoajobnhiopiaaGreatDoor.po
