import Derived.Test.YtmoajobnhiopiaaGreatDoorTsA3
import Derived.WalkMore
import Derived.ProofKit
import Derived.Outline
import Derived.WalkSpells
import Derived.WalkLawsBesides
import Derived.Lib.Hide
import Derived.ArgAppend
import Derived.Laws.BitsLemmas
import Derived.LoopTactic
import Derived.Scope
import Derived.RangeFuncBox
import Derived.Deep.QuietTactic
import Derived.BigQuiet
import Derived.Deep.RegionWith
set_option linter.unusedSimpArgs false
set_option linter.unusedVariables false
namespace Go.Proofs.YtmoajobnhiopiaaGreatDoor.po
open Go Go.RowKit Go.Shelf Go.Maps Go.Proofs.YtmoajobnhiopiaaGreatDoor.mk Go.Proofs.YtmoajobnhiopiaaGreatDoor.tp Go.Proofs.YtmoajobnhiopiaaGreatDoor.rg Go.Proofs.YtmoajobnhiopiaaGreatDoor.lm Go.Proofs.YtmoajobnhiopiaaGreatDoor.gm Go.Proofs.YtmoajobnhiopiaaGreatDoor.nb
open List renaming getElem_toArray → ga, getElem_cons_zero → gb, getElem_cons_succ → gc, setIfInBounds_toArray → gd, set_cons_zero → ge, set_cons_succ → gf
attribute [local go_sem] Oper.semAt_some
section
variable {P : Program} {F : Fence} {n : Nat} {b : Frame} {a : Act} {k : List Item} {cs : List Frame} {w : World} {Q : Exit → Act → World → Prop}
theorem stepR_scopeS {c : Code} : step P (lone (b.atR a (.code (.scope c) :: k)) cs w) = .next (lone (b.atR a (.code c :: .inScope c :: k)) cs w) :=
  step_lone_go (by simp [stepG, stepG.exec, Frame.atR])
theorem stepR_inScopeS {c : Code} : step P (lone (b.atR a (.inScope c :: k)) cs w) = .next (lone (b.atR a k) cs w) :=
  step_lone_go (by simp [stepG, stepG.exec, Frame.atR])
theorem wpIn_scopeS {c : Code} (h : c.wpIn F n P (Exit.noGoto Q) a w) : (Code.scope c).wpIn F n P Q a w := by
  intro b k cs hro hb hr
  have h0 : (lone (b.atR a (.code (.scope c) :: k)) cs w).fenced P F := fenced_calm hb hr rfl
  obtain ⟨e, a₁, w₁, hq, harr⟩ := h b (.inScope c :: k) cs hro hb hr
  cases e with
  | normal => exact ⟨.normal, a₁, w₁, hq, .head h0 stepR_scopeS (StepsIn.trans harr (.one (fenced_calm hb hr rfl) stepR_inScopeS))⟩
  | exit id =>
    have hx : exitTo id (.inScope c :: k) = exitTo id k := by simp [exitTo]
    exact ⟨.exit id, a₁, w₁, hq, fun k' hk => .head h0 stepR_scopeS (harr.1 k' (by rw [hx]; exact hk)),
      fun hr' hk => let ⟨k₁, h1, h2⟩ := harr.2 hr' (by rw [hx]; exact hk); ⟨k₁, h1, .head h0 stepR_scopeS h2⟩⟩
  | goto l => exact hq.elim
  | ret => exact ⟨_, a₁, w₁, hq, .of_steps (.one h0 stepR_scopeS) harr⟩
  | panic ch => exact ⟨_, a₁, w₁, hq, .of_steps (.one h0 stepR_scopeS) harr⟩
  | outgrown => exact ⟨_, a₁, w₁, hq, .of_steps (.one h0 stepR_scopeS) harr⟩
end
def okI (l : List (Int × Int)) (i j : Nat) : Bool := decide (j = i) || (decide (j = (i + 1) % l.length) || (sgnI (edgeD l i (pt l j)) == polyS l))
def rowB (l : List (Int × Int)) (i j : Nat) : Bool := (List.range j).all (fun x => okI l i x)
def valB (l : List (Int × Int)) (i : Nat) : Bool := !(polyS l == 0) && (List.range i).all (fun x => rowB l x l.length)
theorem rowB_succ (l : List (Int × Int)) (i j : Nat) : rowB l i (j + 1) = (rowB l i j && okI l i j) := by unfold rowB; rw [List.range_succ, List.all_append]; simp
theorem valB_succ (l : List (Int × Int)) (i : Nat) : valB l (i + 1) = (valB l i && rowB l i l.length) := by
  unfold valB
  rw [List.range_succ, List.all_append]
  simp [Bool.and_assoc]
theorem sgn_conv {x y : Int} : (sgnI x % 18446744073709551616 == sgnI y % 18446744073709551616) = (sgnI x == sgnI y) := by
  rcases sgnI_cases x with ⟨_, e⟩ | ⟨_, e⟩ | ⟨_, e⟩ <;> rcases sgnI_cases y with ⟨_, f⟩ | ⟨_, f⟩ | ⟨_, f⟩ <;> rw [e, f] <;> decide
theorem sgn_convU (x : Int) : IntKind.u64.wrap (sgnI x) = sgnI x % 18446744073709551616 ∧ IsU (sgnI x % 18446744073709551616) ∧ (sgnI x % 18446744073709551616 == 0) = (sgnI x == 0) := by
  refine ⟨by rw [IntKind.wrap_u64], by unfold IsU; omega, ?_⟩
  rcases sgnI_cases x with ⟨_, e⟩ | ⟨_, e⟩ | ⟨_, e⟩ <;> rw [e] <;> decide
theorem not_masks (a : Bool) : bits .xor .u64 IntKind.u64.max (maskI a) = maskI (!a) := by cases a <;> decide
theorem heap_three (w : World) (a b c : Obj) : (((w.alloc a).alloc b).alloc c).heap[w.heap.size]? = some a ∧ (((w.alloc a).alloc b).alloc c).heap[w.heap.size + 1]? = some b ∧ (((w.alloc a).alloc b).alloc c).heap[w.heap.size + 2]? = some c := by
  have h1 := heap_two w a b
  refine ⟨by rw [Below.heap_alloc _ _ _ (by simp <;> omega)]; exact h1.1, by rw [Below.heap_alloc _ _ _ (by simp <;> omega)]; exact h1.2, ?_⟩
  have := heap_alloc_new ((w.alloc a).alloc b) c
  simpa using this
set_option maxRecDepth 100000 in
set_option maxHeartbeats 8000000 in
theorem pvalid_calls (v : Value) (l : List (Int × Int)) (h3 : 3 ≤ l.length) (h64 : l.length ≤ 64) (hp : Pts l) (w : World) (hG : Gl w) (h : ptsAt w v l) :
    Calls Tryz.prog 24 #[.pointer none, v] w fun e w' => e = .returned (.int .u64 (maskI (valB l l.length))) ∧ Keeps (fun _ => False) w w' := by
  obtain ⟨b, off, cap, rfl, hb, hc⟩ := h.block (i := 0) (by omega)
  have H := Lib.hid h
  have HC := Lib.hid hc
  have HG := Lib.hid hG
  clear h hc hG
  refine (callsIn_wide (n := 5)).1 ?_
  refine callsIn_of_wp_marks Tryz.func24 rfl trivial ?_ rfl
  simp only [Tryz.ntmps24, List.size_toArray, List.length_cons, List.length_nil, Nat.reduceAdd, Nat.reduceSub, Array.replicate_succ, Array.replicate_zero, List.push_toArray, List.append_toArray, List.nil_append, List.cons_append]
  gi_wp2_with fail
  obtain ⟨w0, hw0⟩ : ∃ w0, (w.alloc (.cells #[.pointer none] 76)).alloc (.cells #[.slice (some ⟨b, off, none⟩) l.length cap] 38) = w0 := ⟨_, rfl⟩
  have hk0 : Keeps (fun _ => False) w w0 := by rw [← hw0]; exact ((Keeps.refl _ w).alloc _).alloc _
  have hg0 := (heap_two w (.cells #[.pointer none] 76) (.cells #[.slice (some ⟨b, off, none⟩) l.length cap] 38)).1
  have hg1 := (heap_two w (.cells #[.pointer none] 76) (.cells #[.slice (some ⟨b, off, none⟩) l.length cap] 38)).2
  rw [hw0] at hg0 hg1 ⊢
  clear hw0
  have hl0 : w.heap.size < w0.heap.size := (Array.getElem?_eq_some_iff.1 hg0).1
  have hl1 : w.heap.size + 1 < w0.heap.size := (Array.getElem?_eq_some_iff.1 hg1).1
  have HG0 := Lib.hid hg0
  have HG1 := Lib.hid hg1
  clear hg0 hg1
  refine ⟨trivial, ?_⟩
  refine (callsIn_wide.2 (pori_calls _ l h3 h64 hp w0 (HG.out.kept hk0) (H.out.kept hk0))).mono ?_; rintro e w1 ⟨rfl, hk1⟩
  have hz2 : IntKind.u64.wrap (polyS l) = polyS l % 18446744073709551616 ∧ IsU (polyS l % 18446744073709551616) ∧ (polyS l % 18446744073709551616 == 0) = (polyS l == 0) := sgn_convU _
  have hw2 := hz2.1
  gi_wp2_with fail
  refine ⟨trivial, ?_⟩
  refine (callsIn_wide.2 (zero_calls _ hz2.2.1 _)).mono ?_; rintro e w2 ⟨rfl, rfl⟩
  rw [hz2.2.2]
  have hnm := not_masks (polyS l == 0)
  have hk3 : ∀ o1 o2, Keeps (fun _ => False) w1 ((w1.alloc o1).alloc o2) := fun o1 o2 => ((Keeps.refl _ w1).alloc o1).alloc o2
  have hl1b := Nat.lt_of_lt_of_le hl1 hk1.size
  have d1 : ∀ o1 o2, ((w1.alloc o1).alloc o2).cell? ⟨w.heap.size + 1, 0, none⟩ = some (.slice (some ⟨b, off, none⟩) l.length cap) := fun o1 o2 => ((hk3 o1 o2).cell (p := ⟨w.heap.size + 1, 0, none⟩) hl1b (fun h => h)).trans ((hk1.cell (p := ⟨w.heap.size + 1, 0, none⟩) hl1 (fun h => h)).trans (cells_at HG1.out 0))
  gi_wp2_with fail
  refine ⟨trivial, ?_⟩
  refine (callsIn_wide.2 (edges_calls (.slice (some ⟨b, off, none⟩) l.length cap) _ _ _ _)).mono ?_; rintro e w3 ⟨rfl, hw3⟩
  gi_wp2_with fail
  clear hw3 w3 d1 hk3
  obtain ⟨wl, hwl⟩ : ∃ wl, ((w1.alloc (.cells #[.int .i64 (polyS l)] 2)).alloc (.cells #[.int .u64 (maskI (!(polyS l == 0)))] 43)).alloc (.cells #[.slice (some ⟨b, off, none⟩) l.length cap] 38) = wl := ⟨_, rfl⟩
  obtain ⟨bs, hbs⟩ : ∃ bs, w1.heap.size = bs := ⟨_, rfl⟩
  have h4 := heap_three w1 (.cells #[.int .i64 (polyS l)] 2) (.cells #[.int .u64 (maskI (!(polyS l == 0)))] 43) (.cells #[.slice (some ⟨b, off, none⟩) l.length cap] 38)
  have hkl : Keeps (fun _ => False) w1 wl := by rw [← hwl]; exact (((Keeps.refl _ w1).alloc _).alloc _).alloc _
  rw [hwl, hbs] at h4
  obtain ⟨r2, r3, r5⟩ := h4
  rw [hwl]
  have hsz : wl.heap.size = bs + 3 := by rw [← hwl, ← hbs]; simp
  rw [hbs]
  have hbs0 : w0.heap.size ≤ bs := by rw [← hbs]; exact hk1.size
  have hkA : Keeps (fun _ => False) w0 wl := knil hk1 hkl
  have hkW : Keeps (fun _ => False) w wl := knil hk0 hkA
  have r0 := (hkA.block _ hl0 (fun h => h)).trans HG0.out
  have r1 := (hkA.block _ hl1 (fun h => h)).trans HG1.out
  have hbl : b < w0.heap.size := Nat.lt_of_lt_of_le hb hk0.size
  have HCl := Lib.hid (fun i hi => show wl.cell? ⟨b, off + i * 2, none⟩ = some (.int .i64 (pt l i).1) ∧ wl.cell? ⟨b, off + i * 2 + 1, none⟩ = some (.int .i64 (pt l i).2) from ⟨(hkW.cell (p := ⟨b, off + i * 2, none⟩) hb (fun h => h)).trans (HC.out i hi).1, (hkW.cell (p := ⟨b, off + i * 2 + 1, none⟩) hb (fun h => h)).trans (HC.out i hi).2⟩)
  clear hwl hbs hkl hk1 hl1b hnm w1
  have cellK : ∀ (W : World) (x o : Nat), Keeps (fun i => i = bs + 1) wl W → x < bs + 3 → x ≠ bs + 1 → W.cell? ⟨x, o, none⟩ = wl.cell? ⟨x, o, none⟩ := fun W x o hK hx h1 => hK.cell (p := ⟨x, o, none⟩) (show x < wl.heap.size by omega) (show ¬ x = bs + 1 by omega)
  have CK := Lib.hid cellK
  refine over_edges (bs + 1 + 1) b off cap l h3 h64
    (fun k W => W.heap[bs + 1]? = some (.cells #[.int .u64 (maskI (valB l k))] 43 (0, 0)) ∧ Keeps (fun i => i = bs + 1) wl W)
    rfl ?box ?loops ?start
    (fun gg k => { tmps := #[.pointer none, .slice (some ⟨b, off, none⟩) l.length cap, .pointer (some ⟨w.heap.size, 0, none⟩), .pointer (some ⟨w.heap.size + 1, 0, none⟩), .int .u64 0, .pointer (some ⟨bs, 0, none⟩), .pointer (some ⟨bs + 1, 0, none⟩), .pointer (some ⟨gg, 0, none⟩), undef, undef, .slice (some ⟨b, off, none⟩) l.length cap, .int .i64 (polyS l), .int .i64 (polyS l), .int .u64 (polyS l % 18446744073709551616), .int .u64 (maskI (polyS l == 0)), .int .u64 (maskI (!(polyS l == 0))), .slice (some ⟨b, off, none⟩) l.length cap, .func (.func 74) #[] #[.pointer (some ⟨bs + 1 + 1, 0, none⟩)], edgeV l k, undef, undef, undef, undef, undef, undef, undef, undef, undef, undef, undef, undef, undef, undef, undef, undef, undef, undef, undef, undef, undef, undef, undef, undef, undef, undef, undef, undef, undef, undef, undef, undef, undef, undef, undef, undef], defers := [] }) ?assign ?body ?done
  case box =>
    rintro k W ⟨_, hK⟩
    exact ⟨(cellK _ _ _ hK (by omega) (by omega)).trans (cells_at r5 0), fun i hi => ⟨(cellK _ _ _ hK (by omega) (by omega)).trans (HCl.out i hi).1, (cellK _ _ _ hK (by omega) (by omega)).trans (HCl.out i hi).2⟩⟩
  case loops =>
    rintro k W W' ⟨ho, hK⟩ hz hl
    exact ⟨(hl.block _ (by omega) (by omega)).trans ho, hK.trans hl (fun i hi h => by omega)⟩
  case start =>
    intro r
    have hk : Keeps (fun _ => False) wl ((wl.alloc (.deferred (some []))).alloc (.loop r)) := ((Keeps.refl _ wl).alloc _).alloc _
    exact ⟨(hk.block _ (by omega) (fun h => h)).trans (by rw [r3]; unfold valB; simp), hk.mono (fun _ _ h => h.elim)⟩
  case assign =>
    intro W k K hK
    unfold edgeV
    gi_wp2
    exact hK
  case body =>
    rintro k gg W ⟨ho, hK⟩ hk hlo hed
    obtain ⟨q, hq⟩ : ∃ q, (k + 1) % l.length = q := ⟨_, rfl⟩
    have hvs := valB_succ l k
    unfold EdgeAt at hed
    rw [hq] at hed
    have hgl : gg < W.heap.size := (Array.getElem?_eq_some_iff.1 hed).1
    have HVS := Lib.hid hvs
    have HO := Lib.hid ho
    have hKW := Lib.hid hK
    have HED := Lib.hid hed
    have HQ := Lib.hid hq
    have R0 := Lib.hid r0
    have R1 := Lib.hid r1
    have R2 := Lib.hid r2
    have s0 := (cellK _ (w.heap.size + 1) 0 hK (by omega) (by omega)).trans (cells_at r1 0)
    have hln : 0 < l.length := by omega
    have hlne : ¬ l = [] := fun h => by rw [h] at hln; simp at hln
    clear hvs ho hK hed hq r0 r1 r2 r3 r5 cellK
    gi_wp2_with fail
    refine wpIn_scopeS ?_
    gi_wp2_with fail
    refine wpIn_label ?_
    gi_wp2_with fail
    gi_loopw [8, 9, 21] (fun _ _ jv wr => ∃ (j : Nat) (v : Bool), j ≤ l.length ∧ jv = .int .i64 j ∧ RowKit.Hid (v = (valB l k && rowB l k j)) ∧ RowKit.Hid (wr.heap[bs + 1]? = some (.cells #[.int .u64 (maskI v)] 43 (0, 0))) ∧ RowKit.Hid (Keeps (fun i => i = bs + 1) W wr)) (fun _ _ jv _ => l.length - (intOf jv).toNat)
    case atStart => exact ⟨0, valB l k, Nat.zero_le _, rfl, by show _ = _; unfold rowB; simp, HO.out, Keeps.refl _ _⟩
    case round =>
      clear s0 HO
      obtain ⟨j, v, hj, rfl, hv, hr, hK⟩ := hrel
      have hjw : IntKind.i64.wrap ((j : Int) + 1) = (j : Int) + 1 := by rw [IntKind.wrap_i64]; omega
      have hj0 : (0 : Int) ≤ (j : Int) := by omega
      by_cases hjl : j < l.length
      · have hjlI : (j : Int) < (l.length : Int) := by omega
        have b0 := (CK.out _ b (off + j * 2) (hKW.out.trans hK.out (fun _ _ h => h)) (by omega) (by omega)).trans (HCl.out j hjl).1
        have b1 := (CK.out _ b (off + j * 2 + 1) (hKW.out.trans hK.out (fun _ _ h => h)) (by omega) (by omega)).trans (HCl.out j hjl).2
        have hkp : ∀ o, Keeps (fun _ => False) wr (wr.alloc o) := fun o => (Keeps.refl _ wr).alloc o
        have hedr := (hK.out.block _ hgl (show ¬ gg = bs + 1 by omega)).trans HED.out
        have hgr : gg < wr.heap.size := (Array.getElem?_eq_some_iff.1 hedr).1
        have g0 : ∀ o, (wr.alloc o).cell? ⟨gg, 0, none⟩ = some (.int .i64 (k : Int)) := fun o => ((hkp o).cell (p := ⟨gg, 0, none⟩) hgr (fun h => h)).trans (cells_at hedr 0)
        have g1 : ∀ o, (wr.alloc o).cell? ⟨gg, 1, none⟩ = some (.int .i64 (q : Int)) := fun o => ((hkp o).cell (p := ⟨gg, 1, none⟩) hgr (fun h => h)).trans (cells_at hedr 1)
        have t0 : ∀ o, (wr.alloc o).cell? ⟨w.heap.size, 0, none⟩ = some (.pointer none) := fun o => ((hkp o).cell (p := ⟨w.heap.size, 0, none⟩) (show w.heap.size < wr.heap.size by have := hK.out.size; have := hKW.out.size; omega) (fun h => h)).trans ((CK.out _ w.heap.size 0 (hKW.out.trans hK.out (fun _ _ h => h)) (by omega) (by omega)).trans (cells_at R0.out 0))
        have HEDR := Lib.hid hedr
        have hra : ∀ o, (wr.alloc o).heap[bs + 1]? = some (.cells #[.int .u64 (maskI v)] 43 (0, 0)) := fun o => ((hkp o).block _ (Array.getElem?_eq_some_iff.1 hr.out).1 (fun h => h)).trans hr.out
        have HRA := Lib.hid hra
        have hKa : ∀ o, Keeps (fun i => i = bs + 1) W (wr.alloc o) := fun o => hK.out.alloc o
        have HKA := Lib.hid hKa
        clear hedr hra hKa hkp
        by_cases hji : j = k
        · subst hji
          have HV2 : RowKit.Hid (v = (valB l j && rowB l j (j + 1))) := by
            show _ = _
            rw [rowB_succ, hv.out]
            unfold okI
            simp
          clear hjl
          gi_wp2_with fail
          go_roundw
          case rel => exact ⟨j + 1, v, by omega, by go_num, HV2, HRA.out _, HKA.out _⟩
          case measure => simp [intOf]; omega
        · have hjiI : ¬ (j : Int) = (k : Int) := by omega
          have hjib : ((j : Int) == (k : Int)) = false := beq_eq_false_iff_ne.2 hjiI
          by_cases hjq : j = q
          · subst hjq
            have HV2 : RowKit.Hid (v = (valB l k && rowB l k (j + 1))) := by
              show _ = _
              rw [rowB_succ, hv.out]
              unfold okI
              rw [HQ.out]
              simp
            clear hji hjl
            gi_wp2_with fail
            go_roundw
            case rel => exact ⟨j + 1, v, by omega, by go_num, HV2, HRA.out _, HKA.out _⟩
            case measure => simp [intOf]; omega
          · have hjqI : ¬ (j : Int) = (q : Int) := by omega
            have hjqb : ((j : Int) == (q : Int)) = false := beq_eq_false_iff_ne.2 hjqI
            have hok : okI l k j = (sgnI (det (pt l k) (pt l q) (pt l j)) == polyS l) := by
              unfold okI
              rw [edgeD_eq, HQ.out, decide_eq_false hji, decide_eq_false hjq]
              rfl
            have HOK := Lib.hid hok
            clear hji hjq hok hjl
            gi_wp2_with fail
            refine ⟨trivial, ?_⟩
            refine (CallsIn.inRound _ (callsIn_wide.2 (noteN _ _ _ _))).mono ?_; rintro e W3 ⟨rfl, rfl⟩
            gi_wp2_with fail
            obtain ⟨wp, hwp⟩ : ∃ wp, wr.alloc (.cells #[.int .i64 (pt l j).1, .int .i64 (pt l j).2] 35) = wp := ⟨_, rfl⟩
            obtain ⟨bp, hbp⟩ : ∃ bp, wr.heap.size = bp := ⟨_, rfl⟩
            have hpn := heap_alloc_new wr (.cells #[.int .i64 (pt l j).1, .int .i64 (pt l j).2] 35)
            have hkrp : Keeps (fun _ => False) wr wp := by rw [← hwp]; exact (Keeps.refl _ wr).alloc _
            have hrp := HRA.out (.cells #[.int .i64 (pt l j).1, .int .i64 (pt l j).2] 35)
            rw [hwp, hbp] at hpn
            rw [hwp] at hrp
            rw [hwp]
            try rw [hbp]
            have hed2 := (hkrp.block _ hgr (fun h => h)).trans HEDR.out
            have hKp : Keeps (fun i => i = bs + 1) W wp := hK.out.trans hkrp (fun i hi h => h.elim)
            have hsz1 := hKp.size
            have hszl := hKW.out.size
            have e0 := cells_at hrp 0
            have fz := two_frozen hrp 0
            have e1 := cells_at hed2 2
            have e2 := cells_at hed2 3
            have e3 := cells_at hed2 4
            have e4 := cells_at hed2 5
            have e5 := cells_at hpn 0
            have e6 := cells_at hpn 1
            have e7 := (CK.out _ bs 0 (hKW.out.trans hKp (fun _ _ h => h)) (by omega) (by omega)).trans (cells_at R2.out 0)
            have hvW : bs + 1 < wp.heap.size := by omega
            have hsW : bs < wp.heap.size := by omega
            have hgW : gg < wp.heap.size := (Array.getElem?_eq_some_iff.1 hed2).1
            have hpW : bp < wp.heap.size := (Array.getElem?_eq_some_iff.1 hpn).1
            have HRP := Lib.hid hrp
            have HKP := Lib.hid hKp
            have hz1 := sgn_convU (det (pt l k) (pt l q) (pt l j))
            have hz2 : IntKind.u64.wrap (polyS l) = polyS l % 18446744073709551616 ∧ IsU (polyS l % 18446744073709551616) ∧ (polyS l % 18446744073709551616 == 0) = (polyS l == 0) := sgn_convU _
            have HCV := Lib.hid (show (sgnI (det (pt l k) (pt l q) (pt l j)) % 18446744073709551616 == polyS l % 18446744073709551616) = (sgnI (det (pt l k) (pt l q) (pt l j)) == polyS l) from sgn_conv)
            have hw1 := hz1.1
            have hw2 := hz2.1
            obtain ⟨v2, hv2⟩ : ∃ v2, (v && (sgnI (det (pt l k) (pt l q) (pt l j)) == polyS l)) = v2 := ⟨_, rfl⟩
            have ham := and_masks v (sgnI (det (pt l k) (pt l q) (pt l j)) == polyS l)
            rw [hv2] at ham
            have HV2 := Lib.hid hv2
            have HKW := Lib.hid (show Keeps (fun _ => False) w wp from hkW.trans (hKW.out.trans hKp (fun _ _ h => h)) (fun i hi h => by omega))
            clear g0 g1 t0 b0 b1 hed2 hpn hrp hkrp hKp hwp hbp hv2
            refine round_region_late (fun W => W.cell? ⟨bs + 1, 0, none⟩ = some (.int .u64 (maskI v)) ∧ W.cell? ⟨gg, 2, none⟩ = some (.int .i64 (pt l k).1) ∧ W.cell? ⟨gg, 3, none⟩ = some (.int .i64 (pt l k).2) ∧ W.cell? ⟨gg, 4, none⟩ = some (.int .i64 (pt l q).1) ∧ W.cell? ⟨gg, 5, none⟩ = some (.int .i64 (pt l q).2) ∧ W.cell? ⟨bp, 0, none⟩ = some (.int .i64 (pt l j).1) ∧ W.cell? ⟨bp, 1, none⟩ = some (.int .i64 (pt l j).2) ∧ W.cell? ⟨bs, 0, none⟩ = some (.int .i64 (polyS l))) [12] (by kernel_rfl) (by kernel_rfl) (fun ⟨_, _, h⟩ => h) ?_
            have hS : wp.drew.cell? ⟨bs + 1, 0, none⟩ = some (.int .u64 (maskI v)) ∧ wp.drew.cell? ⟨gg, 2, none⟩ = some (.int .i64 (pt l k).1) ∧ wp.drew.cell? ⟨gg, 3, none⟩ = some (.int .i64 (pt l k).2) ∧ wp.drew.cell? ⟨gg, 4, none⟩ = some (.int .i64 (pt l q).1) ∧ wp.drew.cell? ⟨gg, 5, none⟩ = some (.int .i64 (pt l q).2) ∧ wp.drew.cell? ⟨bp, 0, none⟩ = some (.int .i64 (pt l j).1) ∧ wp.drew.cell? ⟨bp, 1, none⟩ = some (.int .i64 (pt l j).2) ∧ wp.drew.cell? ⟨bs, 0, none⟩ = some (.int .i64 (polyS l)) := ⟨e0, e1, e2, e3, e4, e5, e6, e7⟩
            refine tkL 0 (.int .u64 (maskI v)) rfl (by kernel_rfl) (fun _ _ _ h => h) (by kernel_rfl) ‹_› ?_ ?_
            · intro w hSw
              obtain ⟨s0, s1, s2, s3, s4, s5, s6, s7⟩ := hSw
              go_simp
            try simp only [ga, gb, gc, Act.put, gd, ge, gf]
            refine tkA 1 (.pointer (some ⟨gg, 2, none⟩)) rfl (by kernel_rfl) (fun _ _ _ h => h) (by kernel_rfl) (fun _ => ‹_›) ?_ ?_
            · intro w _; go_simp
            try simp only [ga, gb, gc, Act.put, gd, ge, gf]
            refine tkL 2 (.agg #[.int .i64 (pt l k).1, .int .i64 (pt l k).2]) rfl (by kernel_rfl) (fun _ _ _ h => h) (by kernel_rfl) ‹_› ?_ ?_
            · intro w hSw
              obtain ⟨s0, s1, s2, s3, s4, s5, s6, s7⟩ := hSw
              go_simp
            try simp only [ga, gb, gc, Act.put, gd, ge, gf]
            refine tkA 3 (.pointer (some ⟨gg, 4, none⟩)) rfl (by kernel_rfl) (fun _ _ _ h => h) (by kernel_rfl) (fun _ => ‹_›) ?_ ?_
            · intro w _; go_simp
            try simp only [ga, gb, gc, Act.put, gd, ge, gf]
            refine tkL 4 (.agg #[.int .i64 (pt l q).1, .int .i64 (pt l q).2]) rfl (by kernel_rfl) (fun _ _ _ h => h) (by kernel_rfl) ‹_› ?_ ?_
            · intro w hSw
              obtain ⟨s0, s1, s2, s3, s4, s5, s6, s7⟩ := hSw
              go_simp
            try simp only [ga, gb, gc, Act.put, gd, ge, gf]
            refine tkL 5 (.agg #[.int .i64 (pt l j).1, .int .i64 (pt l j).2]) rfl (by kernel_rfl) (fun _ _ _ h => h) (by kernel_rfl) ‹_› ?_ ?_
            · intro w hSw
              obtain ⟨s0, s1, s2, s3, s4, s5, s6, s7⟩ := hSw
              go_simp
            try simp only [ga, gb, gc, Act.put, gd, ge, gf]
            refine tkL 8 (.int .i64 (polyS l)) rfl (by kernel_rfl) (fun _ _ _ h => h) (by kernel_rfl) ‹_› ?_ ?_
            · intro w hSw
              obtain ⟨s0, s1, s2, s3, s4, s5, s6, s7⟩ := hSw
              go_simp
            try simp only [ga, gb, gc, Act.put, gd, ge, gf]
            refine tkA 9 (.int .u64 (polyS l % 18446744073709551616)) rfl (by kernel_rfl) (fun _ _ _ h => h) (by kernel_rfl) (fun _ => ‹_›) ?_ ?_
            · intro w _; go_simp
            try simp only [ga, gb, gc, Act.put, gd, ge, gf]
            refine wpAnyL_next (i := 6) (by kernel_rfl) rfl (fun K hK => ?_)
            go_simp
            refine (osign_calls (pt l k) (pt l q) (pt l j) (hp.at k) (hp.at q) (hp.at j) _ (HG.out.kept (HKW.out.drewN 1))).mono ?_; rintro e W4 ⟨rfl, hk4'⟩
            have hk4 : Keeps (fun _ => False) wp W4 := knil ((Keeps.refl _ _).drewN 1) hk4'
            go_wp2_with fail
            refine hK.out _ _ ⟨(((hk4)).cell (p := ⟨bs + 1, 0, none⟩) hvW (fun h => h)).trans e0, (((hk4)).cell (p := ⟨gg, 2, none⟩) hgW (fun h => h)).trans e1, (((hk4)).cell (p := ⟨gg, 3, none⟩) hgW (fun h => h)).trans e2, (((hk4)).cell (p := ⟨gg, 4, none⟩) hgW (fun h => h)).trans e3, (((hk4)).cell (p := ⟨gg, 5, none⟩) hgW (fun h => h)).trans e4, (((hk4)).cell (p := ⟨bp, 0, none⟩) hpW (fun h => h)).trans e5, (((hk4)).cell (p := ⟨bp, 1, none⟩) hpW (fun h => h)).trans e6, (((hk4)).cell (p := ⟨bs, 0, none⟩) hsW (fun h => h)).trans e7⟩ (fun hHeld => ?_)
            clear hK K
            try simp only [ga, gb, gc, Act.put, gd, ge, gf]
            refine tkA 7 (.int .u64 (sgnI (det (pt l k) (pt l q) (pt l j)) % 18446744073709551616)) rfl (by kernel_rfl) (fun _ _ _ h => h) (by kernel_rfl) (fun _ => ‹_›) ?_ ?_
            · intro w _; go_simp
            try simp only [ga, gb, gc, Act.put, gd, ge, gf]
            refine wpAnyL_next (i := 10) (by kernel_rfl) rfl (fun K hK => ?_)
            go_simp
            refine (equal_calls _ _ hz1.2.1 hz2.2.1 _).mono ?_; rintro e W5 ⟨rfl, rfl⟩
            rw [HCV.out]
            go_wp2_with fail
            refine hK.out _ _ ⟨(((hk4)).cell (p := ⟨bs + 1, 0, none⟩) hvW (fun h => h)).trans e0, (((hk4)).cell (p := ⟨gg, 2, none⟩) hgW (fun h => h)).trans e1, (((hk4)).cell (p := ⟨gg, 3, none⟩) hgW (fun h => h)).trans e2, (((hk4)).cell (p := ⟨gg, 4, none⟩) hgW (fun h => h)).trans e3, (((hk4)).cell (p := ⟨gg, 5, none⟩) hgW (fun h => h)).trans e4, (((hk4)).cell (p := ⟨bp, 0, none⟩) hpW (fun h => h)).trans e5, (((hk4)).cell (p := ⟨bp, 1, none⟩) hpW (fun h => h)).trans e6, (((hk4)).cell (p := ⟨bs, 0, none⟩) hsW (fun h => h)).trans e7⟩ (fun hHeld => ?_)
            clear hK K
            try simp only [ga, gb, gc, Act.put, gd, ge, gf]
            refine tkA 11 (.int .u64 (maskI v2)) rfl (by kernel_rfl) (fun _ _ _ h => h) (by kernel_rfl) (fun _ => ‹_›) ?_ ?_
            · intro w _; go_simp
            try simp only [ga, gb, gc, Act.put, gd, ge, gf]
            have f0 := (hk4.cell (p := ⟨bs + 1, 0, none⟩) hvW (fun h => h)).trans e0
            have f1 := (hk4.frozen (p := ⟨bs + 1, 0, none⟩) hvW (fun h => h)).trans fz
            refine wpAnyL_late (i := 12) (by kernel_rfl) rfl (by kernel_rfl) (fun K hK => ?_)
            go_simp
            refine hK.out _ _ (fun _ => ?_)
            clear hK K
            try simp only [ga, gb, gc, Act.put, gd, ge, gf]
            refine wpAnyL_done (by kernel_rfl) ?_ _
            clear hS e0 e1 e2 e3 e4 e5 e6 e7 fz ham
            clear f0 f1
            have HV3 : RowKit.Hid (v2 = (valB l k && rowB l k (j + 1))) := by
              show _ = _
              rw [rowB_succ, HOK.out, ← HV2.out, hv.out, Bool.and_assoc]
            have hr4 := (hk4.block (bs + 1) (Array.getElem?_eq_some_iff.1 HRP.out).1 (fun h => h)).trans HRP.out
            have HR4 := Lib.hid hr4
            have HK5 := Lib.hid (((HKP.out.trans hk4 (fun _ _ h => h.elim)).setCell ⟨bs + 1, 0, none⟩ (fun _ => rfl) (.int .u64 (maskI v2))))
            clear hr4
            gi_wp2_with fail
            go_roundw
            case rel => exact ⟨j + 1, v2, by omega, by go_num, HV3, cells_put HR4.out 0 _, HK5.out⟩
            case measure => simp [intOf]; omega
      · obtain rfl : j = l.length := by omega
        have hjlI : ¬ (l.length : Int) < (l.length : Int) := by omega
        gi_wp2_with fail
        have kWf := hK.out
        refine ⟨⟨kWf.block _ (by omega) (by omega), kWf.block _ (by omega) (by omega)⟩, Nat.le_trans (show wl.heap.size + 2 ≤ W.heap.size by omega) kWf.size, ?_, hKW.out.trans kWf (fun i _ h => h)⟩
        have h1 := hr.out
        rw [hv.out, ← HVS.out] at h1
        exact h1
  case done =>
    rintro W ⟨ho, hK⟩ hz2 hdd
    have o0 := cells_at ho 0
    have hkwW := Lib.hid (show Keeps (fun _ => False) w W from hkW.trans hK (fun i hi h => by omega))
    clear ho hK r0 r1 r2 r3 r5 cellK
    gi_wp2
    have hkp := keeps_putE W wl.heap.size (.deferred none)
    refine ⟨by simp, .inl ⟨_, _, rfl, run_takeDeferred hdd, ⟨_, results_tmp rfl _ _ _, ⟨rfl, ?_⟩⟩⟩⟩
    exact hkwW.out.trans hkp (fun i hi h => by omega)
end Go.Proofs.YtmoajobnhiopiaaGreatDoor.po
set_option linter.unusedSimpArgs false
set_option linter.unusedVariables false
namespace Go.Proofs.YtmoajobnhiopiaaGreatDoor.sv
open Go Go.RowKit Go.Shelf Go.Maps Go.Proofs.YtmoajobnhiopiaaGreatDoor.mk Go.Proofs.YtmoajobnhiopiaaGreatDoor.tp Go.Proofs.YtmoajobnhiopiaaGreatDoor.rg Go.Proofs.YtmoajobnhiopiaaGreatDoor.lm Go.Proofs.YtmoajobnhiopiaaGreatDoor.gm Go.Proofs.YtmoajobnhiopiaaGreatDoor.po
open List renaming getElem_toArray → ga, getElem_cons_zero → gb, getElem_cons_succ → gc, setIfInBounds_toArray → gd, set_cons_zero → ge, set_cons_succ → gf
def FenOk (l : List Reg) : Prop := (1 ≤ l.length ∧ l.length ≤ 64) ∧ ∀ i, i < l.length → ((rg l i).2.2.length : Int) = sizeR (rg l i).2.1 ∧ sizeR (rg l i).2.1 ≠ 0 ∧ Pts (rg l i).2.2
def valR (r : Reg) : Bool := if r.2.1 = 0 then !(polyS r.2.2 == 0) else valB r.2.2 r.2.2.length
def locR (r : Reg) (p : Int × Int) : Int := if r.2.1 = 0 then sgnI (inc (pt r.2.2 0) (pt r.2.2 1) (pt r.2.2 2) p) * polyS r.2.2 else locI (sides r.2.2 r.2.2.length p)
def valF (l : List Reg) : Bool := l.all valR
def inA (l : List Reg) (p : Int × Int) : Bool := l.any fun r => !r.1 && decide (0 ≤ locR r p)
def inD (l : List Reg) (p : Int × Int) : Bool := l.any fun r => r.1 && decide (0 ≤ locR r p)
def memF (l : List Reg) (p : Int × Int) : Bool := inA l p && !inD l p
theorem locR_ok (r : Reg) (p : Int × Int) : -1 ≤ locR r p ∧ locR r p ≤ 1 := by
  unfold locR
  split
  · rcases sgnI_cases (inc (pt r.2.2 0) (pt r.2.2 1) (pt r.2.2 2) p) with ⟨_, h⟩ | ⟨_, h⟩ | ⟨_, h⟩ <;> have h2 := polyS_ok r.2.2 <;> rw [h] <;> omega
  · unfold locI
    split
    · omega
    · split <;> omega
theorem and_masksF (a b : Bool) : bits .and .u64 (maskI a) (maskI b) = maskI (a && b) := by cases a <;> cases b <;> decide
theorem or_masksF (a b : Bool) : bits .or .u64 (maskI a) (maskI b) = maskI (a || b) := by cases a <;> cases b <;> decide
theorem not_masksF (a : Bool) : bits .xor .u64 IntKind.u64.max (maskI a) = maskI (!a) := by cases a <;> decide
theorem andNot_masksF (a b : Bool) : bits .andNot .u64 (maskI a) (maskI b) = maskI (a && !b) := by cases a <;> cases b <;> decide
theorem FenOk.size {l : List Reg} (h : FenOk l) {i : Nat} (hi : i < l.length) : (rg l i).2.1 = 0 ∧ (rg l i).2.2.length = 3 ∨ (rg l i).2.1 ≠ 0 ∧ 3 ≤ (rg l i).2.2.length ∧ (rg l i).2.2.length ≤ 64 := by
  obtain ⟨h1, h2, _⟩ := h.2 i hi
  unfold sizeR sizeC at h1 h2
  by_cases h0 : (rg l i).2.1 = 0
  · rw [if_pos h0] at h1; exact .inl ⟨h0, by omega⟩
  · rw [if_neg h0] at h1 h2
    by_cases h3 : 3 ≤ (rg l i).2.1 ∧ (rg l i).2.1 ≤ 64
    · rw [if_pos h3] at h1; exact .inr ⟨h0, by omega, by omega⟩
    · rw [if_neg h3] at h2; exact absurd rfl h2
set_option maxRecDepth 100000 in
set_option maxHeartbeats 4000000 in
theorem fcheck_calls (v : Value) (l : List Reg) (hf : FenOk l) (w : World) (h : regsAt w v l) : Calls Tryz.prog 142 #[v] w fun e w' => e = .returned (.int .i64 0) ∧ Keeps (fun _ => False) w w' := by
  have HR := Lib.hid h
  have HF := Lib.hid hf
  obtain ⟨ao, cap, rfl⟩ := h.shape
  obtain ⟨⟨h1, h64⟩, _⟩ := hf
  obtain ⟨n, hn⟩ : ∃ n, l.length = n := ⟨_, rfl⟩
  have HN := Lib.hid hn
  rw [hn] at HR h1 h64 ⊢
  clear h hn
  have h1' : ¬ (n : Int) < 1 := by omega
  have h64' : ¬ 64 < (n : Int) := by omega
  go_enter Tryz.func142, Tryz.ntmps142
  go_wp2_with fail
  go_loopw [4, 15] (fun _ i wr => ∃ k : Nat, k ≤ n ∧ i = .int .i64 k ∧ RowKit.Hid (Keeps (fun _ => False) w wr)) (fun _ i _ => n - (intOf i).toNat)
  case atStart => exact ⟨0, Nat.zero_le _, rfl, Lib.hid (Keeps.refl _ _)⟩
  case round =>
    obtain ⟨k, hk, rfl, HW⟩ := hrel
    by_cases hkl : k < n
    · have hkI : (k : Int) < (n : Int) := by omega
      have hk0 : (0 : Int) ≤ (k : Int) := by omega
      obtain ⟨he, _⟩ | ⟨b, off, cap', hv, hb, hc⟩ := HR.out.kept HW.out
      · have := HN.out; rw [he] at this; simp at this; omega
      injection hv with hv1 hv2 hv3
      subst hv1
      obtain ⟨e0, e1, ao', n', c', e2, hp⟩ := hc k (by rw [HN.out]; exact hkl)
      obtain ⟨ap, cp, hsh⟩ := ptsAt.shape hp
      injection hsh with hsh1 hsh2 hsh3
      subst hsh1
      subst hsh3
      obtain ⟨hs1, hs2, _⟩ := HF.out.2 k (by rw [HN.out]; exact hkl)
      rw [← hsh2] at hs1
      obtain ⟨d, hd⟩ : ∃ d, (rg l k).1 = d := ⟨_, rfl⟩
      obtain ⟨m, hm⟩ : ∃ m, (rg l k).2.1 = m := ⟨_, rfl⟩
      rw [hd] at e0
      rw [hm] at e1 hs1 hs2
      have HS := Lib.hid hs1
      have hn0 : (n' : Int) ≠ 0 := by rw [hs1]; exact hs2
      have hz1 : ((n' : Int) == 0) = false := by simp; omega
      have hka : Keeps (fun _ => False) wr (wr.alloc (.cells #[.bool d, .int .i64 m, .slice ao' n' c'] 40)) := (Keeps.refl _ wr).alloc _
      clear hp hc hs1 hs2 hsh2 hd hm hv2 hv3
      go_wp2_with fail
      refine (size_calls _ _ _ _ _ _).mono ?_; rintro e w5 ⟨rfl, hk5⟩
      rw [← HS.out]
      have hga := (hk5.block wr.heap.size (by simp) (fun h => h)).trans (heap_alloc_new wr (.cells #[.bool d, .int .i64 m, .slice ao' n' c'] 40))
      have g2 := cells_at hga 2
      clear e0 e1 e2 hga
      go_wp2_with fail
      go_roundw
      case rel => exact ⟨k + 1, by omega, by go_num, Lib.hid (knil (knil HW.out hka) hk5)⟩
      case measure => simp [intOf]; omega
    · obtain rfl : k = n := by omega
      go_wp2_with fail
      go_ret
      exact ⟨rfl, HW.out⟩
theorem meth_valid_r (v : Value) (w : World) : (method 355 212 v "geofence/fence.valid").run Tryz.prog w = .ok (188, v) w := by kernel_rfl
theorem meth_valid_c (v : Value) (w : World) : (method 355 213 v "geofence/fence.valid").run Tryz.prog w = .ok (191, v) w := by kernel_rfl
theorem meth_locate_r (v : Value) (w : World) : (method 355 212 v "geofence/fence.locate").run Tryz.prog w = .ok (186, v) w := by kernel_rfl
theorem meth_locate_c (v : Value) (w : World) : (method 355 213 v "geofence/fence.locate").run Tryz.prog w = .ok (189, v) w := by kernel_rfl
set_option maxRecDepth 100000 in
theorem valid_r (r : Reg) (h3 : r.2.2.length = 3) (hp : Pts r.2.2) (hm : r.2.1 = 0) (ao : Option Addr) (c n : Nat) (hn : n = r.2.2.length) (w : World) (hG : Gl w) (h : ptsAt w (.slice ao n c) r.2.2) : Calls Tryz.prog 188 #[.agg #[.bool r.1, .int .i64 r.2.1, .slice ao n c], .pointer none] w fun e w' => e = .returned (.int .u64 (maskI (valR r))) ∧ Keeps (fun _ => False) w w' := by
  have hv : valR r = !(polyS r.2.2 == 0) := by unfold valR; rw [if_pos hm]
  rw [hv]
  have hk : Keeps (fun _ => False) w (w.alloc (.cells #[.bool r.1, .int .i64 r.2.1, .slice ao n c] 212)) := (Keeps.refl _ w).alloc _
  have HG := Lib.hid (hG.kept hk)
  have HP := Lib.hid (ptsAt.kept h hk)
  have hp := Lib.hid hp
  obtain ⟨x, hx⟩ : ∃ x, r.2.1 = x := ⟨_, rfl⟩
  obtain ⟨d, hd⟩ : ∃ d, r.1 = d := ⟨_, rfl⟩
  rw [hx, hd] at HG HP hk ⊢
  clear h hG hm hn hv hx hd
  go_enter Tryz.func188, Tryz.ntmps188
  go_wp2_with fail
  refine (dvalid_calls _ r.2.2 h3 hp.out _ HG.out HP.out).mono ?_; rintro e w3 ⟨rfl, hk3⟩
  go_wp2_with fail
  go_ret
  exact ⟨rfl, knil hk hk3⟩
set_option maxRecDepth 100000 in
theorem locate_r (r : Reg) (h3 : r.2.2.length = 3) (hp : Pts r.2.2) (hm : r.2.1 = 0) (p : Int × Int) (hpp : Pt p) (ao : Option Addr) (c n : Nat) (hn : n = r.2.2.length) (w : World) (hG : Gl w) (h : ptsAt w (.slice ao n c) r.2.2) : Calls Tryz.prog 186 #[.agg #[.bool r.1, .int .i64 r.2.1, .slice ao n c], .pointer none, .agg #[.int .i64 p.1, .int .i64 p.2]] w fun e w' => e = .returned (.int .i64 (locR r p)) ∧ Keeps (fun _ => False) w w' := by
  have hv : locR r p = sgnI (inc (pt r.2.2 0) (pt r.2.2 1) (pt r.2.2 2) p) * polyS r.2.2 := by unfold locR; rw [if_pos hm]
  rw [hv]
  have hk : Keeps (fun _ => False) w ((w.alloc (.cells #[.bool r.1, .int .i64 r.2.1, .slice ao n c] 212)).alloc (.cells #[.int .i64 p.1, .int .i64 p.2] 35)) := ((Keeps.refl _ w).alloc _).alloc _
  have HG := Lib.hid (hG.kept hk)
  have HP := Lib.hid (ptsAt.kept h hk)
  have hp := Lib.hid hp
  obtain ⟨x, hx⟩ : ∃ x, r.2.1 = x := ⟨_, rfl⟩
  obtain ⟨d, hd⟩ : ∃ d, r.1 = d := ⟨_, rfl⟩
  rw [hx, hd] at HG HP hk ⊢
  clear h hG hm hn hv hx hd
  go_enter Tryz.func186, Tryz.ntmps186
  go_wp2_with fail
  refine (dlocate_calls _ r.2.2 p h3 hp.out hpp _ HG.out HP.out).mono ?_; rintro e w3 ⟨rfl, hk3⟩
  go_wp2_with fail
  go_ret
  exact ⟨rfl, knil hk hk3⟩
set_option maxRecDepth 100000 in
theorem valid_c (r : Reg) (h3 : 3 ≤ r.2.2.length) (h64 : r.2.2.length ≤ 64) (hp : Pts r.2.2) (hm : r.2.1 ≠ 0) (ao : Option Addr) (c n : Nat) (hn : n = r.2.2.length) (w : World) (hG : Gl w) (h : ptsAt w (.slice ao n c) r.2.2) : Calls Tryz.prog 191 #[.agg #[.bool r.1, .int .i64 r.2.1, .slice ao n c], .pointer none] w fun e w' => e = .returned (.int .u64 (maskI (valR r))) ∧ Keeps (fun _ => False) w w' := by
  have hv : valR r = valB r.2.2 r.2.2.length := by unfold valR; rw [if_neg hm]
  rw [hv]
  have hk : Keeps (fun _ => False) w (w.alloc (.cells #[.bool r.1, .int .i64 r.2.1, .slice ao n c] 213)) := (Keeps.refl _ w).alloc _
  have HG := Lib.hid (hG.kept hk)
  have HP := Lib.hid (ptsAt.kept h hk)
  have hp := Lib.hid hp
  obtain ⟨x, hx⟩ : ∃ x, r.2.1 = x := ⟨_, rfl⟩
  obtain ⟨d, hd⟩ : ∃ d, r.1 = d := ⟨_, rfl⟩
  rw [hx, hd] at HG HP hk ⊢
  clear h hG hm hn hv hx hd
  go_enter Tryz.func191, Tryz.ntmps191
  go_wp2_with fail
  refine (pvalid_calls _ r.2.2 h3 h64 hp.out _ HG.out HP.out).mono ?_; rintro e w3 ⟨rfl, hk3⟩
  go_wp2_with fail
  go_ret
  exact ⟨rfl, knil hk hk3⟩
set_option maxRecDepth 100000 in
theorem locate_c (r : Reg) (h3 : 3 ≤ r.2.2.length) (h64 : r.2.2.length ≤ 64) (hp : Pts r.2.2) (hm : r.2.1 ≠ 0) (p : Int × Int) (hpp : Pt p) (ao : Option Addr) (c n : Nat) (hn : n = r.2.2.length) (w : World) (hG : Gl w) (h : ptsAt w (.slice ao n c) r.2.2) : Calls Tryz.prog 189 #[.agg #[.bool r.1, .int .i64 r.2.1, .slice ao n c], .pointer none, .agg #[.int .i64 p.1, .int .i64 p.2]] w fun e w' => e = .returned (.int .i64 (locR r p)) ∧ Keeps (fun _ => False) w w' := by
  have hv : locR r p = locI (sides r.2.2 r.2.2.length p) := by unfold locR; rw [if_neg hm]
  rw [hv]
  have hk : Keeps (fun _ => False) w ((w.alloc (.cells #[.bool r.1, .int .i64 r.2.1, .slice ao n c] 213)).alloc (.cells #[.int .i64 p.1, .int .i64 p.2] 35)) := ((Keeps.refl _ w).alloc _).alloc _
  have HG := Lib.hid (hG.kept hk)
  have HP := Lib.hid (ptsAt.kept h hk)
  have hp := Lib.hid hp
  obtain ⟨x, hx⟩ : ∃ x, r.2.1 = x := ⟨_, rfl⟩
  obtain ⟨d, hd⟩ : ∃ d, r.1 = d := ⟨_, rfl⟩
  rw [hx, hd] at HG HP hk ⊢
  clear h hG hm hn hv hx hd
  go_enter Tryz.func189, Tryz.ntmps189
  go_wp2_with fail
  refine (plocate_calls _ r.2.2 p h3 h64 hp.out hpp _ HG.out HP.out).mono ?_; rintro e w3 ⟨rfl, hk3⟩
  go_wp2_with fail
  go_ret
  exact ⟨rfl, knil hk hk3⟩
set_option maxRecDepth 100000 in
set_option maxHeartbeats 4000000 in
theorem fvalid_calls (v : Value) (l : List Reg) (hf : FenOk l) (w : World) (hG : Gl w) (h : regsAt w v l) : Calls Tryz.prog 143 #[.pointer none, v] w fun e w' => e = .returned (.int .u64 (maskI (valF l))) ∧ Keeps (fun _ => False) w w' := by
  have HCK := Lib.hid (fcheck_calls v l hf w h)
  have HR := Lib.hid h
  have HF := Lib.hid hf
  have HG := Lib.hid hG
  obtain ⟨ao, cap, rfl⟩ := h.shape
  obtain ⟨⟨h1, h64⟩, _⟩ := hf
  obtain ⟨n, hn⟩ : ∃ n, l.length = n := ⟨_, rfl⟩
  have HN := Lib.hid hn
  have hvF : valF l = (l.take n).all valR := by rw [← hn, List.take_length]; rfl
  rw [hvF]
  rw [hn] at HR HCK h1 h64 ⊢
  have m1 := meth_valid_r
  have m2 := meth_valid_c
  have hu1 : IsU 1 := by unfold IsU; omega
  clear h hn hG hvF
  go_enter Tryz.func143, Tryz.ntmps143
  go_wp2_with fail
  refine HCK.out.mono ?_; rintro e w1 ⟨rfl, hk1⟩
  go_wp2_with fail
  refine (of_calls 1 hu1 w1).mono ?_; rintro e w2 ⟨rfl, hw2⟩
  rw [hw2]
  clear hw2 w2
  go_wp2_with fail
  go_loopw [5, 6, 7, 14] (fun m _ _ i wr => ∃ k : Nat, k ≤ n ∧ i = .int .i64 k ∧ m = .int .u64 (maskI ((l.take k).all valR)) ∧ RowKit.Hid (Keeps (fun _ => False) w wr)) (fun _ _ _ i _ => n - (intOf i).toNat)
  case atStart => exact ⟨0, Nat.zero_le _, rfl, rfl, Lib.hid hk1⟩
  case round =>
    obtain ⟨k, hk, rfl, rfl, HW⟩ := hrel
    by_cases hkl : k < n
    · have hkI : (k : Int) < (n : Int) := by omega
      have hk0 : (0 : Int) ≤ (k : Int) := by omega
      obtain ⟨he, _⟩ | ⟨b, off, cap', hv, hb, hc⟩ := HR.out.kept HW.out
      · have := HN.out; rw [he] at this; simp at this; omega
      injection hv with hv1 hv2 hv3
      subst hv1
      obtain ⟨e0, e1, ao', n', c', e2, hp⟩ := hc k (by rw [HN.out]; exact hkl)
      obtain ⟨ap, cp, hsh⟩ := ptsAt.shape hp
      injection hsh with hsh1 hsh2 hsh3
      subst hsh1
      subst hsh3
      have hsz := HF.out.size (i := k) (by rw [HN.out]; exact hkl)
      have hpts := (HF.out.2 k (by rw [HN.out]; exact hkl)).2.2
      have hst : (l.take (k + 1)).all valR = ((l.take k).all valR && valR (rg l k)) := by rw [rg_take (by rw [HN.out]; exact hkl), List.all_append]; simp
      have HST := Lib.hid hst
      have HP := Lib.hid hp
      have HPT := Lib.hid hpts
      obtain ⟨r, hr⟩ : ∃ r, rg l k = r := ⟨_, rfl⟩
      rw [hr] at e0 e1 hsz HST HP HPT hsh2
      have hka : Keeps (fun _ => False) wr (wr.alloc (.cells #[.bool r.1, .int .i64 r.2.1, .slice ao' n' c'] 40)) := (Keeps.refl _ wr).alloc _
      have HSH := Lib.hid hsh2
      clear hp hc hsh2 hv2 hv3 hst hpts hr
      go_wp2_with fail
      refine (noteN 7 k 0 _).mono ?_; rintro e wn ⟨rfl, hwn⟩
      rw [hwn]
      clear hwn wn
      go_wp2_with fail
      refine (shapeOf_calls _ _ _ _ _ _).mono ?_; rintro e w5 ⟨rfl, hk5⟩
      have hk15 := knil (knil HW.out hka) hk5
      clear e0 e1 e2
      rcases hsz with ⟨h0, h3⟩ | ⟨h0, h3, h6⟩
      · have H0 := Lib.hid h0
        have H3 := Lib.hid h3
        rw [if_pos h0]
        clear h0 h3
        go_wp2_with fail
        refine (valid_r r H3.out HPT.out H0.out ao' c' n' HSH.out w5 (HG.out.kept hk15) (HP.out.kept (knil hka hk5))).mono ?_; rintro e w6 ⟨rfl, hk6⟩
        have ham := and_masksF ((l.take k).all valR) (valR r)
        go_wp2_with fail
        go_roundw
        case rel => exact ⟨k + 1, by omega, by go_num, by rw [HST.out], Lib.hid (knil hk15 hk6)⟩
        case measure => simp [intOf]; omega
      · have H0 := Lib.hid h0
        have H3 := Lib.hid h3
        have H6 := Lib.hid h6
        rw [if_neg h0]
        clear h0 h3 h6
        go_wp2_with fail
        refine (valid_c r H3.out H6.out HPT.out H0.out ao' c' n' HSH.out w5 (HG.out.kept hk15) (HP.out.kept (knil hka hk5))).mono ?_; rintro e w6 ⟨rfl, hk6⟩
        have ham := and_masksF ((l.take k).all valR) (valR r)
        go_wp2_with fail
        go_roundw
        case rel => exact ⟨k + 1, by omega, by go_num, by rw [HST.out], Lib.hid (knil hk15 hk6)⟩
        case measure => simp [intOf]; omega
    · obtain rfl : k = n := by omega
      go_wp2_with fail
      go_ret
      exact ⟨rfl, HW.out⟩
theorem locate_any (r : Reg) (p : Int × Int) (hpp : Pt p) (hp : Pts r.2.2) (hsz : r.2.1 = 0 ∧ r.2.2.length = 3 ∨ r.2.1 ≠ 0 ∧ 3 ≤ r.2.2.length ∧ r.2.2.length ≤ 64) (ao : Option Addr) (c n : Nat) (hn : n = r.2.2.length) :
    ∃ (T : TypeId) (F : FuncId), (∀ w, Calls Tryz.prog 116 #[.agg #[.bool r.1, .int .i64 r.2.1, .slice ao n c]] w fun e w' => e = .returned (.iface T (.agg #[.bool r.1, .int .i64 r.2.1, .slice ao n c])) ∧ Keeps (fun _ => False) w w') ∧
      (∀ (v : Value) (w : World), (method 355 T v "geofence/fence.locate").run Tryz.prog w = .ok (F, v) w) ∧ (∀ (a : Array Value) (w : World), (callFunc F a).run Tryz.prog w = .ok (.enter F a) w) ∧
      ∀ w, Gl w → ptsAt w (.slice ao n c) r.2.2 → Calls Tryz.prog F #[.agg #[.bool r.1, .int .i64 r.2.1, .slice ao n c], .pointer none, .agg #[.int .i64 p.1, .int .i64 p.2]] w fun e w' => e = .returned (.int .i64 (locR r p)) ∧ Keeps (fun _ => False) w w' := by
  rcases hsz with ⟨h0, h3⟩ | ⟨h0, h3, h6⟩
  · refine ⟨212, _, fun w => ?_, meth_locate_r, fun a w => by kernel_rfl, fun w hG h => locate_r r h3 hp h0 p hpp ao c n hn w hG h⟩
    have := shapeOf_calls r.1 r.2.1 ao n c w
    rwa [if_pos h0] at this
  · refine ⟨213, _, fun w => ?_, meth_locate_c, fun a w => by kernel_rfl, fun w hG h => locate_c r h3 h6 hp h0 p hpp ao c n hn w hG h⟩
    have := shapeOf_calls r.1 r.2.1 ao n c w
    rwa [if_neg h0] at this
theorem not_neg (c : Int) : (!decide (c < 0)) = decide (0 ≤ c) := by
  by_cases h : c < 0
  · rw [decide_eq_true h, decide_eq_false (by omega)]; rfl
  · rw [decide_eq_false h, decide_eq_true (by omega)]; rfl
set_option maxRecDepth 100000 in
set_option maxHeartbeats 8000000 in
theorem fmember_calls (v : Value) (l : List Reg) (p : Int × Int) (hf : FenOk l) (hpp : Pt p) (w : World) (hG : Gl w) (h : regsAt w v l) : Calls Tryz.prog 146 #[.pointer none, v, .agg #[.int .i64 p.1, .int .i64 p.2]] w fun e w' => e = .returned (.int .u64 (maskI (memF l p))) ∧ Keeps (fun _ => False) w w' := by
  have HCK := Lib.hid (fun W (hk : Keeps (fun _ => False) w W) => fcheck_calls v l hf W (h.kept hk))
  have HR := Lib.hid h
  have HF := Lib.hid hf
  have HG := Lib.hid hG
  have HPP := Lib.hid hpp
  obtain ⟨ao, cap, rfl⟩ := h.shape
  obtain ⟨⟨h1, h64⟩, _⟩ := hf
  obtain ⟨n, hn⟩ : ∃ n, l.length = n := ⟨_, rfl⟩
  have HN := Lib.hid hn
  have hvF : memF l p = (inA (l.take n) p && !inD (l.take n) p) := by rw [← hn, List.take_length]; rfl
  rw [hvF]
  rw [hn] at HR HCK h1 h64 ⊢
  clear h hn hG hvF hpp
  go_enter Tryz.func146, Tryz.ntmps146
  go_upto_region 1 with fail
  obtain ⟨w0, hw0⟩ : ∃ w0, w.alloc (.cells #[.int .i64 p.1, .int .i64 p.2] 35) = w0 := ⟨_, rfl⟩
  obtain ⟨g5, hg5⟩ : ∃ g, w.heap.size = g := ⟨_, rfl⟩
  have hgp := heap_alloc_new w (.cells #[.int .i64 p.1, .int .i64 p.2] 35)
  have hk0 : Keeps (fun _ => False) w w0 := by rw [← hw0]; exact (Keeps.refl _ w).alloc _
  rw [hw0, hg5] at hgp
  rw [hw0]
  try rw [hg5]
  have hg5l : g5 < w0.heap.size := (Array.getElem?_eq_some_iff.1 hgp).1
  have HGP := Lib.hid hgp
  clear hw0 hg5 hgp
  go_wp2_with fail
  refine (HCK.out w0 hk0).mono ?_; rintro e w1 ⟨rfl, hk1⟩
  go_upto_region 4 with fail
  obtain ⟨w2, hw2⟩ : ∃ w2, w1.alloc (.cells #[.int .u64 0, .int .u64 0] 138) = w2 := ⟨_, rfl⟩
  obtain ⟨g7, hg7⟩ : ∃ g, w1.heap.size = g := ⟨_, rfl⟩
  have hga := heap_alloc_new w1 (.cells #[.int .u64 0, .int .u64 0] 138)
  have hk2 : Keeps (fun _ => False) w1 w2 := by rw [← hw2]; exact (Keeps.refl _ w1).alloc _
  rw [hw2, hg7] at hga
  rw [hw2]
  try rw [hg7]
  have hg57 : g5 < g7 := by rw [← hg7]; exact Nat.lt_of_lt_of_le hg5l hk1.size
  have hk02 := knil hk0 (knil hk1 hk2)
  have hg7w : w.heap.size ≤ g7 := by rw [← hg7]; exact (knil hk0 hk1).size
  have HGP := Lib.hid (((knil hk1 hk2).block g5 hg5l (fun h => h)).trans HGP.out)
  have HGA := Lib.hid hga
  clear hw2 hg7 hga hg5l
  go_wp2_with fail
  go_loopw [8, 9, 10, 16] (fun _ _ _ i wr => ∃ k : Nat, k ≤ n ∧ i = .int .i64 k ∧ RowKit.Hid (wr.heap[g7]? = some (.cells #[.int .u64 (maskI (inA (l.take k) p)), .int .u64 (maskI (inD (l.take k) p))] 138 (0, 0))) ∧ RowKit.Hid (wr.heap[g5]? = some (.cells #[.int .i64 p.1, .int .i64 p.2] 35 (0, 0))) ∧ RowKit.Hid (Keeps (fun _ => False) w wr)) (fun _ _ _ i _ => n - (intOf i).toNat)
  case atStart => exact ⟨0, Nat.zero_le _, rfl, HGA, HGP, Lib.hid hk02⟩
  case round =>
    obtain ⟨k, hk, rfl, HG7, HG5, HW⟩ := hrel
    by_cases hkl : k < n
    · have hkI : (k : Int) < (n : Int) := by omega
      have hk0 : (0 : Int) ≤ (k : Int) := by omega
      obtain ⟨he, _⟩ | ⟨b, off, cap', hv, hb, hc⟩ := HR.out.kept HW.out
      · have := HN.out; rw [he] at this; simp at this; omega
      injection hv with hv1 hv2 hv3
      subst hv1
      obtain ⟨e0, e1, ao', n', c', e2, hp⟩ := hc k (by rw [HN.out]; exact hkl)
      obtain ⟨ap, cp, hsh⟩ := ptsAt.shape hp
      injection hsh with hsh1 hsh2 hsh3
      subst hsh1
      subst hsh3
      have hsz := HF.out.size (i := k) (by rw [HN.out]; exact hkl)
      have hpts := (HF.out.2 k (by rw [HN.out]; exact hkl)).2.2
      have hstA : inA (l.take (k + 1)) p = (inA (l.take k) p || (!(rg l k).1 && decide (0 ≤ locR (rg l k) p))) := by unfold inA; rw [rg_take (by rw [HN.out]; exact hkl), List.any_append]; simp
      have hstD : inD (l.take (k + 1)) p = (inD (l.take k) p || ((rg l k).1 && decide (0 ≤ locR (rg l k) p))) := by unfold inD; rw [rg_take (by rw [HN.out]; exact hkl), List.any_append]; simp
      obtain ⟨T, F, hshp, hmeth, hcf, hloc⟩ := locate_any (rg l k) p HPP.out hpts hsz ao' c' n' hsh2
      have hlR := locR_ok (rg l k) p
      have HP := Lib.hid hp
      obtain ⟨r, hr⟩ : ∃ r, rg l k = r := ⟨_, rfl⟩
      rw [hr] at e0 e1 HP hstA hstD hshp hloc hlR
      obtain ⟨lc, hlc⟩ : ∃ x, locR r p = x := ⟨_, rfl⟩
      rw [hlc] at hstA hstD hloc hlR
      have hlcS : IsS lc := by unfold IsS; omega
      obtain ⟨d, hd⟩ : ∃ d, r.1 = d := ⟨_, rfl⟩
      obtain ⟨m, hm⟩ : ∃ m, r.2.1 = m := ⟨_, rfl⟩
      rw [hd] at e0 hstA hstD hshp hloc
      rw [hm] at e1 hshp hloc
      have HSTA := Lib.hid hstA
      have HSTD := Lib.hid hstD
      have HSHP := Lib.hid hshp
      obtain ⟨g9, hg9⟩ : ∃ g, wr.heap.size = g := ⟨_, rfl⟩
      have HLOC := Lib.hid (fun W (hk : Keeps (fun _ => False) wr W) => hloc W (HG.out.kept (knil HW.out hk)) (HP.out.kept hk))
      have hg7r : g7 < wr.heap.size := (Array.getElem?_eq_some_iff.1 HG7.out).1
      have hg5r : g5 < wr.heap.size := (Array.getElem?_eq_some_iff.1 HG5.out).1
      clear hp hc hsh2 hv2 hv3 hpts hr hstA hstD hshp hloc hsz hlR hd hm hlc
      go_wp2_with fail
      refine (noteN 7 k 1 _).mono ?_; rintro e wn ⟨rfl, hwn⟩
      obtain ⟨wa, hwa⟩ : ∃ wa, wr.alloc (.cells #[.bool d, .int .i64 m, .slice ao' n' c'] 40) = wa := ⟨_, rfl⟩
      have hga := heap_alloc_new wr (.cells #[.bool d, .int .i64 m, .slice ao' n' c'] 40)
      have hka : Keeps (fun _ => False) wr wa := by rw [← hwa]; exact (Keeps.refl _ wr).alloc _
      rw [hwa, hg9] at hga
      rw [hwn, hwa]
      try rw [hg9]
      have hg7q := (hka.block g7 hg7r (fun h => h)).trans HG7.out
      have hg5q := (hka.block g5 hg5r (fun h => h)).trans HG5.out
      have HG7D := Lib.hid (show wa.drew.heap[g7]? = some (.cells #[.int .u64 (maskI (inA (l.take k) p)), .int .u64 (maskI (inD (l.take k) p))] 138 (0, 0)) from hg7q)
      have HG5D := Lib.hid (show wa.drew.heap[g5]? = some (.cells #[.int .i64 p.1, .int .i64 p.2] 35 (0, 0)) from hg5q)
      have HKDR := Lib.hid (show Keeps (fun _ => False) wa wa.drew from (Keeps.refl (fun _ => False) wa).drewN 1)
      have HK0 := Lib.hid hka
      have HKD := Lib.hid (knil (knil HW.out hka) HKDR.out : Keeps (fun _ => False) w wa.drew)
      have hg7l : g7 < wa.drew.heap.size := (Array.getElem?_eq_some_iff.1 HG7D.out).1
      have hg5l : g5 < wa.drew.heap.size := (Array.getElem?_eq_some_iff.1 HG5D.out).1
      have hg9l : g9 < wa.drew.heap.size := (Array.getElem?_eq_some_iff.1 hga).1
      have hne97 : g9 ≠ g7 := by omega
      clear hwn wn hwa hg9 e0 e1 e2
      have s0 := cells_at hga 0
      have s1 := cells_at hga 1
      have s2 := cells_at hga 2
      have q0 := cells_at hg7q 0
      have q1 := cells_at hg7q 1
      have p0 := cells_at hg5q 0
      have p1 := cells_at hg5q 1
      clear hga hg7q hg5q hka
      have hnn := not_neg lc
      cases d with
      | false =>
        go_upto_region 11 with fail
        refine wp_region_late (fun W => W.cell? ⟨g7, 0, none⟩ = some (.int .u64 (maskI (inA (l.take k) p))) ∧ W.cell? ⟨g9, 0, none⟩ = some (.bool false) ∧ W.cell? ⟨g9, 1, none⟩ = some (.int .i64 m) ∧ W.cell? ⟨g9, 2, none⟩ = some (.slice ao' n' c') ∧ W.cell? ⟨g5, 0, none⟩ = some (.int .i64 p.1) ∧ W.cell? ⟨g5, 1, none⟩ = some (.int .i64 p.2)) [12] (by kernel_rfl) ?_
        have hS : wa.drew.cell? ⟨g7, 0, none⟩ = some (.int .u64 (maskI (inA (l.take k) p))) ∧ wa.drew.cell? ⟨g9, 0, none⟩ = some (.bool false) ∧ wa.drew.cell? ⟨g9, 1, none⟩ = some (.int .i64 m) ∧ wa.drew.cell? ⟨g9, 2, none⟩ = some (.slice ao' n' c') ∧ wa.drew.cell? ⟨g5, 0, none⟩ = some (.int .i64 p.1) ∧ wa.drew.cell? ⟨g5, 1, none⟩ = some (.int .i64 p.2) := ⟨q0, s0, s1, s2, p0, p1⟩
        have hor := or_masksF (inA (l.take k) p) (decide (0 ≤ lc))
        have hno : bits .xor .u64 (if IntKind.u64.signed = true then -1 else IntKind.u64.max) (maskI (decide (lc < 0))) = maskI (decide (0 ≤ lc)) := by rw [← hnn]; exact not_masksF _
        clear s0 s1 s2 q0 q1 p0 p1
        generalize wa.drew = wd at hS HG7D HG5D HKDR HKD hg7l hg5l hg9l ⊢
        refine tkA 0 (.int .i64 0) rfl (by kernel_rfl) (fun _ _ _ h => (h : False).elim) (by kernel_rfl) (fun _ => ‹_›) ?_ ?_
        · intro w _; go_simp
        try simp only [ga, gb, gc, Act.put, gd, ge, gf]
        refine tkA 1 (.pointer (some ⟨g7, 0, none⟩)) rfl (by kernel_rfl) (fun _ _ _ h => (h : False).elim) (by kernel_rfl) (fun _ => ‹_›) ?_ ?_
        · intro w _; go_simp
        try simp only [ga, gb, gc, Act.put, gd, ge, gf]
        refine tkL 2 (.int .u64 (maskI (inA (l.take k) p))) rfl (by kernel_rfl) (fun _ _ _ h => (h : False).elim) (by kernel_rfl) ‹_› ?_ ?_
        · intro w hSw
          obtain ⟨s0, s1, s2, s3, s4, s5⟩ := hSw
          go_simp
        try simp only [ga, gb, gc, Act.put, gd, ge, gf]
        refine tkL 3 (.agg #[.bool false, .int .i64 m, .slice ao' n' c']) rfl (by kernel_rfl) (fun _ _ _ h => (h : False).elim) (by kernel_rfl) ‹_› ?_ ?_
        · intro w hSw
          obtain ⟨s0, s1, s2, s3, s4, s5⟩ := hSw
          go_simp
        try simp only [ga, gb, gc, Act.put, gd, ge, gf]
        refine tkA 5 (.pointer none) rfl (by kernel_rfl) (fun _ _ _ h => (h : False).elim) (by kernel_rfl) (fun _ => ‹_›) ?_ ?_
        · intro w _; go_simp
        try simp only [ga, gb, gc, Act.put, gd, ge, gf]
        refine tkL 6 (.agg #[.int .i64 p.1, .int .i64 p.2]) rfl (by kernel_rfl) (fun _ _ _ h => (h : False).elim) (by kernel_rfl) ‹_› ?_ ?_
        · intro w hSw
          obtain ⟨s0, s1, s2, s3, s4, s5⟩ := hSw
          go_simp
        try simp only [ga, gb, gc, Act.put, gd, ge, gf]
        refine wpAnyL_next (i := 4) (by kernel_rfl) rfl (fun K hK => ?_)
        go_simp
        refine (HSHP.out wd).mono ?_; rintro e x4 ⟨rfl, hk4⟩
        have hS4 : x4.cell? ⟨g7, 0, none⟩ = some (.int .u64 (maskI (inA (l.take k) p))) ∧ x4.cell? ⟨g9, 0, none⟩ = some (.bool false) ∧ x4.cell? ⟨g9, 1, none⟩ = some (.int .i64 m) ∧ x4.cell? ⟨g9, 2, none⟩ = some (.slice ao' n' c') ∧ x4.cell? ⟨g5, 0, none⟩ = some (.int .i64 p.1) ∧ x4.cell? ⟨g5, 1, none⟩ = some (.int .i64 p.2) := ⟨(hk4.cell (p := ⟨g7, 0, none⟩) hg7l (fun h => h)).trans hS.1, (hk4.cell (p := ⟨g9, 0, none⟩) hg9l (fun h => h)).trans hS.2.1, (hk4.cell (p := ⟨g9, 1, none⟩) hg9l (fun h => h)).trans hS.2.2.1, (hk4.cell (p := ⟨g9, 2, none⟩) hg9l (fun h => h)).trans hS.2.2.2.1, (hk4.cell (p := ⟨g5, 0, none⟩) hg5l (fun h => h)).trans hS.2.2.2.2.1, (hk4.cell (p := ⟨g5, 1, none⟩) hg5l (fun h => h)).trans hS.2.2.2.2.2⟩
        have HK4 := Lib.hid (knil HKD.out hk4)
        have hg7l4 := Nat.lt_of_lt_of_le hg7l hk4.size
        have hg9l4 := Nat.lt_of_lt_of_le hg9l hk4.size
        have hg5l4 := Nat.lt_of_lt_of_le hg5l hk4.size
        have HG74 := Lib.hid ((hk4.block g7 hg7l (fun h => h)).trans HG7D.out)
        go_wp2_with fail
        refine hK.out _ _ hS4 (fun hHeld => ?_)
        clear hK K
        try simp only [ga, gb, gc, Act.put, gd, ge, gf]
        refine wpAnyL_next (i := 7) (by kernel_rfl) rfl (fun K hK => ?_)
        go_simp
        refine (HLOC.out x4 (knil (knil HK0.out HKDR.out) hk4)).mono ?_; rintro e x7 ⟨rfl, hk7⟩
        have hS7 : x7.cell? ⟨g7, 0, none⟩ = some (.int .u64 (maskI (inA (l.take k) p))) ∧ x7.cell? ⟨g9, 0, none⟩ = some (.bool false) ∧ x7.cell? ⟨g9, 1, none⟩ = some (.int .i64 m) ∧ x7.cell? ⟨g9, 2, none⟩ = some (.slice ao' n' c') ∧ x7.cell? ⟨g5, 0, none⟩ = some (.int .i64 p.1) ∧ x7.cell? ⟨g5, 1, none⟩ = some (.int .i64 p.2) := ⟨(hk7.cell (p := ⟨g7, 0, none⟩) hg7l4 (fun h => h)).trans hS4.1, (hk7.cell (p := ⟨g9, 0, none⟩) hg9l4 (fun h => h)).trans hS4.2.1, (hk7.cell (p := ⟨g9, 1, none⟩) hg9l4 (fun h => h)).trans hS4.2.2.1, (hk7.cell (p := ⟨g9, 2, none⟩) hg9l4 (fun h => h)).trans hS4.2.2.2.1, (hk7.cell (p := ⟨g5, 0, none⟩) hg5l4 (fun h => h)).trans hS4.2.2.2.2.1, (hk7.cell (p := ⟨g5, 1, none⟩) hg5l4 (fun h => h)).trans hS4.2.2.2.2.2⟩
        have HK7 := Lib.hid (knil HK4.out hk7)
        have HG77 := Lib.hid ((hk7.block g7 hg7l4 (fun h => h)).trans HG74.out)
        go_wp2_with fail
        refine hK.out _ _ hS7 (fun hHeld => ?_)
        clear hK K
        try simp only [ga, gb, gc, Act.put, gd, ge, gf]
        refine wpAnyL_next (i := 8) (by kernel_rfl) rfl (fun K hK => ?_)
        go_simp
        refine (negative_calls _ hlcS x7).mono ?_; rintro e x8 ⟨rfl, hx8⟩
        rw [hx8]
        clear hx8
        go_wp2_with fail
        refine hK.out _ _ hS7 (fun hHeld => ?_)
        clear hK K
        try simp only [ga, gb, gc, Act.put, gd, ge, gf]
        refine tkA 9 (.int .u64 (maskI (decide (0 ≤ lc)))) rfl (by kernel_rfl) (fun _ _ _ h => (h : False).elim) (by kernel_rfl) (fun _ => ‹_›) ?_ ?_
        · intro w _; go_simp
        try simp only [ga, gb, gc, Act.put, gd, ge, gf]
        refine tkA 10 (.int .u64 (maskI (inA (l.take k) p || decide (0 ≤ lc)))) rfl (by kernel_rfl) (fun _ _ _ h => (h : False).elim) (by kernel_rfl) (fun _ => ‹_›) ?_ ?_
        · intro w _; go_simp
        try simp only [ga, gb, gc, Act.put, gd, ge, gf]
        refine tkA 11 (.pointer (some ⟨g7, 0, none⟩)) rfl (by kernel_rfl) (fun _ _ _ h => (h : False).elim) (by kernel_rfl) (fun _ => ‹_›) ?_ ?_
        · intro w _; go_simp
        try simp only [ga, gb, gc, Act.put, gd, ge, gf]
        have e7 := two_frozen HG77.out 0
        have f7 := cells_at HG77.out 0
        refine wpAnyL_late (i := 12) (by kernel_rfl) rfl (by kernel_rfl) (fun K hK => ?_)
        go_simp
        refine hK.out _ _ (fun _ => ?_)
        clear hK K
        try simp only [ga, gb, gc, Act.put, gd, ge, gf]
        refine wpAnyL_done (by kernel_rfl) ?_ _
        refine NoPanic.normal ?_
        clear hS hS4 hS7 e7 f7 hno hor hnn
        have hkF : Keeps (fun j => j = g7) x7 (x7.setCell ⟨g7, 0, none⟩ (.int .u64 (maskI (inA (l.take k) p || decide (0 ≤ lc))))) := (Keeps.refl (fun j => j = g7) x7).setCell ⟨g7, 0, none⟩ (fun _ => rfl) _
        have HF7 := Lib.hid (cells_put HG77.out 0 (.int .u64 (maskI (inA (l.take k) p || decide (0 ≤ lc)))))
        have hg5x := (hk7.block g5 hg5l4 (fun h => h)).trans ((hk4.block g5 hg5l (fun h => h)).trans HG5D.out)
        have HF5 := Lib.hid ((hkF.block g5 (Nat.lt_of_lt_of_le hg5l4 hk7.size) (by omega)).trans hg5x)
        have HFK := Lib.hid (HK7.out.setCell ⟨g7, 0, none⟩ (fun h => by have : g7 < w.heap.size := h; omega) (.int .u64 (maskI (inA (l.take k) p || decide (0 ≤ lc)))))
        clear hkF hg5x hk4 hk7
        go_wp2_with fail
        go_roundw
        case rel => exact ⟨k + 1, by omega, by go_num, Lib.hid (by rw [HSTA.out, HSTD.out]; simpa using HF7.out), HF5, HFK⟩
        case measure => simp [intOf]; omega
      | true =>
        go_upto_region 11 with fail
        refine wp_region_late (fun W => W.cell? ⟨g7, 1, none⟩ = some (.int .u64 (maskI (inD (l.take k) p))) ∧ W.cell? ⟨g9, 0, none⟩ = some (.bool true) ∧ W.cell? ⟨g9, 1, none⟩ = some (.int .i64 m) ∧ W.cell? ⟨g9, 2, none⟩ = some (.slice ao' n' c') ∧ W.cell? ⟨g5, 0, none⟩ = some (.int .i64 p.1) ∧ W.cell? ⟨g5, 1, none⟩ = some (.int .i64 p.2)) [12] (by kernel_rfl) ?_
        have hS : wa.drew.cell? ⟨g7, 1, none⟩ = some (.int .u64 (maskI (inD (l.take k) p))) ∧ wa.drew.cell? ⟨g9, 0, none⟩ = some (.bool true) ∧ wa.drew.cell? ⟨g9, 1, none⟩ = some (.int .i64 m) ∧ wa.drew.cell? ⟨g9, 2, none⟩ = some (.slice ao' n' c') ∧ wa.drew.cell? ⟨g5, 0, none⟩ = some (.int .i64 p.1) ∧ wa.drew.cell? ⟨g5, 1, none⟩ = some (.int .i64 p.2) := ⟨q1, s0, s1, s2, p0, p1⟩
        have hor := or_masksF (inD (l.take k) p) (decide (0 ≤ lc))
        have hno : bits .xor .u64 (if IntKind.u64.signed = true then -1 else IntKind.u64.max) (maskI (decide (lc < 0))) = maskI (decide (0 ≤ lc)) := by rw [← hnn]; exact not_masksF _
        clear s0 s1 s2 q0 q1 p0 p1
        generalize wa.drew = wd at hS HG7D HG5D HKDR HKD hg7l hg5l hg9l ⊢
        refine tkA 0 (.int .i64 1) rfl (by kernel_rfl) (fun _ _ _ h => (h : False).elim) (by kernel_rfl) (fun _ => ‹_›) ?_ ?_
        · intro w _; go_simp
        try simp only [ga, gb, gc, Act.put, gd, ge, gf]
        refine tkA 1 (.pointer (some ⟨g7, 1, none⟩)) rfl (by kernel_rfl) (fun _ _ _ h => (h : False).elim) (by kernel_rfl) (fun _ => ‹_›) ?_ ?_
        · intro w _; go_simp
        try simp only [ga, gb, gc, Act.put, gd, ge, gf]
        refine tkL 2 (.int .u64 (maskI (inD (l.take k) p))) rfl (by kernel_rfl) (fun _ _ _ h => (h : False).elim) (by kernel_rfl) ‹_› ?_ ?_
        · intro w hSw
          obtain ⟨s0, s1, s2, s3, s4, s5⟩ := hSw
          go_simp
        try simp only [ga, gb, gc, Act.put, gd, ge, gf]
        refine tkL 3 (.agg #[.bool true, .int .i64 m, .slice ao' n' c']) rfl (by kernel_rfl) (fun _ _ _ h => (h : False).elim) (by kernel_rfl) ‹_› ?_ ?_
        · intro w hSw
          obtain ⟨s0, s1, s2, s3, s4, s5⟩ := hSw
          go_simp
        try simp only [ga, gb, gc, Act.put, gd, ge, gf]
        refine tkA 5 (.pointer none) rfl (by kernel_rfl) (fun _ _ _ h => (h : False).elim) (by kernel_rfl) (fun _ => ‹_›) ?_ ?_
        · intro w _; go_simp
        try simp only [ga, gb, gc, Act.put, gd, ge, gf]
        refine tkL 6 (.agg #[.int .i64 p.1, .int .i64 p.2]) rfl (by kernel_rfl) (fun _ _ _ h => (h : False).elim) (by kernel_rfl) ‹_› ?_ ?_
        · intro w hSw
          obtain ⟨s0, s1, s2, s3, s4, s5⟩ := hSw
          go_simp
        try simp only [ga, gb, gc, Act.put, gd, ge, gf]
        refine wpAnyL_next (i := 4) (by kernel_rfl) rfl (fun K hK => ?_)
        go_simp
        refine (HSHP.out wd).mono ?_; rintro e x4 ⟨rfl, hk4⟩
        have hS4 : x4.cell? ⟨g7, 1, none⟩ = some (.int .u64 (maskI (inD (l.take k) p))) ∧ x4.cell? ⟨g9, 0, none⟩ = some (.bool true) ∧ x4.cell? ⟨g9, 1, none⟩ = some (.int .i64 m) ∧ x4.cell? ⟨g9, 2, none⟩ = some (.slice ao' n' c') ∧ x4.cell? ⟨g5, 0, none⟩ = some (.int .i64 p.1) ∧ x4.cell? ⟨g5, 1, none⟩ = some (.int .i64 p.2) := ⟨(hk4.cell (p := ⟨g7, 1, none⟩) hg7l (fun h => h)).trans hS.1, (hk4.cell (p := ⟨g9, 0, none⟩) hg9l (fun h => h)).trans hS.2.1, (hk4.cell (p := ⟨g9, 1, none⟩) hg9l (fun h => h)).trans hS.2.2.1, (hk4.cell (p := ⟨g9, 2, none⟩) hg9l (fun h => h)).trans hS.2.2.2.1, (hk4.cell (p := ⟨g5, 0, none⟩) hg5l (fun h => h)).trans hS.2.2.2.2.1, (hk4.cell (p := ⟨g5, 1, none⟩) hg5l (fun h => h)).trans hS.2.2.2.2.2⟩
        have HK4 := Lib.hid (knil HKD.out hk4)
        have hg7l4 := Nat.lt_of_lt_of_le hg7l hk4.size
        have hg9l4 := Nat.lt_of_lt_of_le hg9l hk4.size
        have hg5l4 := Nat.lt_of_lt_of_le hg5l hk4.size
        have HG74 := Lib.hid ((hk4.block g7 hg7l (fun h => h)).trans HG7D.out)
        go_wp2_with fail
        refine hK.out _ _ hS4 (fun hHeld => ?_)
        clear hK K
        try simp only [ga, gb, gc, Act.put, gd, ge, gf]
        refine wpAnyL_next (i := 7) (by kernel_rfl) rfl (fun K hK => ?_)
        go_simp
        refine (HLOC.out x4 (knil (knil HK0.out HKDR.out) hk4)).mono ?_; rintro e x7 ⟨rfl, hk7⟩
        have hS7 : x7.cell? ⟨g7, 1, none⟩ = some (.int .u64 (maskI (inD (l.take k) p))) ∧ x7.cell? ⟨g9, 0, none⟩ = some (.bool true) ∧ x7.cell? ⟨g9, 1, none⟩ = some (.int .i64 m) ∧ x7.cell? ⟨g9, 2, none⟩ = some (.slice ao' n' c') ∧ x7.cell? ⟨g5, 0, none⟩ = some (.int .i64 p.1) ∧ x7.cell? ⟨g5, 1, none⟩ = some (.int .i64 p.2) := ⟨(hk7.cell (p := ⟨g7, 1, none⟩) hg7l4 (fun h => h)).trans hS4.1, (hk7.cell (p := ⟨g9, 0, none⟩) hg9l4 (fun h => h)).trans hS4.2.1, (hk7.cell (p := ⟨g9, 1, none⟩) hg9l4 (fun h => h)).trans hS4.2.2.1, (hk7.cell (p := ⟨g9, 2, none⟩) hg9l4 (fun h => h)).trans hS4.2.2.2.1, (hk7.cell (p := ⟨g5, 0, none⟩) hg5l4 (fun h => h)).trans hS4.2.2.2.2.1, (hk7.cell (p := ⟨g5, 1, none⟩) hg5l4 (fun h => h)).trans hS4.2.2.2.2.2⟩
        have HK7 := Lib.hid (knil HK4.out hk7)
        have HG77 := Lib.hid ((hk7.block g7 hg7l4 (fun h => h)).trans HG74.out)
        go_wp2_with fail
        refine hK.out _ _ hS7 (fun hHeld => ?_)
        clear hK K
        try simp only [ga, gb, gc, Act.put, gd, ge, gf]
        refine wpAnyL_next (i := 8) (by kernel_rfl) rfl (fun K hK => ?_)
        go_simp
        refine (negative_calls _ hlcS x7).mono ?_; rintro e x8 ⟨rfl, hx8⟩
        rw [hx8]
        clear hx8
        go_wp2_with fail
        refine hK.out _ _ hS7 (fun hHeld => ?_)
        clear hK K
        try simp only [ga, gb, gc, Act.put, gd, ge, gf]
        refine tkA 9 (.int .u64 (maskI (decide (0 ≤ lc)))) rfl (by kernel_rfl) (fun _ _ _ h => (h : False).elim) (by kernel_rfl) (fun _ => ‹_›) ?_ ?_
        · intro w _; go_simp
        try simp only [ga, gb, gc, Act.put, gd, ge, gf]
        refine tkA 10 (.int .u64 (maskI (inD (l.take k) p || decide (0 ≤ lc)))) rfl (by kernel_rfl) (fun _ _ _ h => (h : False).elim) (by kernel_rfl) (fun _ => ‹_›) ?_ ?_
        · intro w _; go_simp
        try simp only [ga, gb, gc, Act.put, gd, ge, gf]
        refine tkA 11 (.pointer (some ⟨g7, 1, none⟩)) rfl (by kernel_rfl) (fun _ _ _ h => (h : False).elim) (by kernel_rfl) (fun _ => ‹_›) ?_ ?_
        · intro w _; go_simp
        try simp only [ga, gb, gc, Act.put, gd, ge, gf]
        have e7 := two_frozen HG77.out 1
        have f7 := cells_at HG77.out 1
        refine wpAnyL_late (i := 12) (by kernel_rfl) rfl (by kernel_rfl) (fun K hK => ?_)
        go_simp
        refine hK.out _ _ (fun _ => ?_)
        clear hK K
        try simp only [ga, gb, gc, Act.put, gd, ge, gf]
        refine wpAnyL_done (by kernel_rfl) ?_ _
        refine NoPanic.normal ?_
        clear hS hS4 hS7 e7 f7 hno hor hnn
        have hkF : Keeps (fun j => j = g7) x7 (x7.setCell ⟨g7, 1, none⟩ (.int .u64 (maskI (inD (l.take k) p || decide (0 ≤ lc))))) := (Keeps.refl (fun j => j = g7) x7).setCell ⟨g7, 1, none⟩ (fun _ => rfl) _
        have HF7 := Lib.hid (cells_put HG77.out 1 (.int .u64 (maskI (inD (l.take k) p || decide (0 ≤ lc)))))
        have hg5x := (hk7.block g5 hg5l4 (fun h => h)).trans ((hk4.block g5 hg5l (fun h => h)).trans HG5D.out)
        have HF5 := Lib.hid ((hkF.block g5 (Nat.lt_of_lt_of_le hg5l4 hk7.size) (by omega)).trans hg5x)
        have HFK := Lib.hid (HK7.out.setCell ⟨g7, 1, none⟩ (fun h => by have : g7 < w.heap.size := h; omega) (.int .u64 (maskI (inD (l.take k) p || decide (0 ≤ lc)))))
        clear hkF hg5x hk4 hk7
        go_wp2_with fail
        go_roundw
        case rel => exact ⟨k + 1, by omega, by go_num, Lib.hid (by rw [HSTA.out, HSTD.out]; simpa using HF7.out), HF5, HFK⟩
        case measure => simp [intOf]; omega
    · obtain rfl : k = n := by omega
      have hg7q := HG7.out
      have q0 := cells_at hg7q 0
      have q1 := cells_at hg7q 1
      have han := andNot_masksF (inA (l.take k) p) (inD (l.take k) p)
      clear hg7q
      go_wp2_with fail
      go_ret
      exact ⟨rfl, HW.out⟩
end Go.Proofs.YtmoajobnhiopiaaGreatDoor.sv
set_option linter.unusedSimpArgs false
set_option linter.unusedVariables false
namespace Go.Proofs.YtmoajobnhiopiaaGreatDoor.sv
open Go Go.RowKit Go.Shelf Go.Maps Go.Proofs.YtmoajobnhiopiaaGreatDoor.mk Go.Proofs.YtmoajobnhiopiaaGreatDoor.tp Go.Proofs.YtmoajobnhiopiaaGreatDoor.rg Go.Proofs.YtmoajobnhiopiaaGreatDoor.lm Go.Proofs.YtmoajobnhiopiaaGreatDoor.gm Go.Proofs.YtmoajobnhiopiaaGreatDoor.po
open List renaming getElem_toArray → ga, getElem_cons_zero → gb, getElem_cons_succ → gc, setIfInBounds_toArray → gd, set_cons_zero → ge, set_cons_succ → gf
set_option maxRecDepth 100000 in
theorem choose_calls (c : Bool) (x y : Int) (hx : 0 ≤ x ∧ x ≤ 100) (hy : 0 ≤ y ∧ y ≤ 100) (w : World) : Calls Tryz.prog 164 #[.int .u64 (maskI c), .int .i64 x, .int .u64 y] w fun e w' => e = .returned (.int .i64 (if c = true then x else y)) ∧ w' = w := by
  obtain ⟨hx0, hx1⟩ := hx
  obtain ⟨hy0, hy1⟩ := hy
  have hw : IntKind.u64.wrap x = x := by rw [IntKind.wrap_u64]; omega
  have hs := selI_mask (a := x) (b := y) (by unfold IsU; omega) (by unfold IsU; omega) c
  have hz : IntKind.i64.wrap (if c = true then x else y) = if c = true then x else y := by rw [IntKind.wrap_i64]; split <;> omega
  obtain ⟨z, hzz⟩ : ∃ z, (if c = true then x else y) = z := ⟨_, rfl⟩
  rw [hzz] at hs hz ⊢
  clear hzz
  go_enter Tryz.func164, Tryz.ntmps164
  go_wp2_with fail
  refine (select_calls _ _ _ _).mono ?_; rintro e w2 ⟨rfl, rfl⟩
  go_wp2_with fail
  go_ret
  exact ⟨rfl, rfl⟩
def convI (l : List (Int × Int)) (p : Int × Int) : Int := if valB l l.length = true then locI (sides l l.length p) + 1 else 3
def fenI (l : List Reg) (p : Int × Int) : Int := if valF l = true then (if memF l p = true then 1 else 0) else 2
theorem locI_ok (l : List Int) : -1 ≤ locI l ∧ locI l ≤ 1 := by
  unfold locI
  split
  · omega
  · split <;> omega
set_option maxRecDepth 100000 in
set_option maxHeartbeats 2000000 in
theorem convex_calls (v : Value) (l : List (Int × Int)) (p : Int × Int) (h3 : 3 ≤ l.length) (h64 : l.length ≤ 64) (hp : Pts l) (hpp : Pt p) (w : World) (hG : Gl w) (h : ptsAt w v l) : Calls Tryz.prog 153 #[.pointer none, v, .agg #[.int .i64 p.1, .int .i64 p.2]] w fun e w' => e = .returned (.int .i64 (convI l p)) ∧ Keeps (fun _ => False) w w' := by
  have H3 := Lib.hid h3
  have H64 := Lib.hid h64
  have HP := Lib.hid hp
  have HPP := Lib.hid hpp
  have HG := Lib.hid hG
  have HL := Lib.hid h
  have hlo := locI_ok (sides l l.length p)
  obtain ⟨q, hq⟩ : ∃ q, locI (sides l l.length p) = q := ⟨_, rfl⟩
  obtain ⟨c, hc⟩ : ∃ c, valB l l.length = c := ⟨_, rfl⟩
  have hcv : convI l p = if c = true then q + 1 else 3 := by unfold convI; rw [hq, hc]
  rw [hcv]
  rw [hq] at hlo
  have HQ := Lib.hid hq
  have HC := Lib.hid hc
  have hws : IntKind.i64.wrap (q + 1) = q + 1 := by rw [IntKind.wrap_i64]; omega
  have hk1 : Keeps (fun _ => False) w (w.alloc (.cells #[.int .i64 p.1, .int .i64 p.2] 35)) := (Keeps.refl _ w).alloc _
  have hg := heap_alloc_new w (.cells #[.int .i64 p.1, .int .i64 p.2] 35)
  obtain ⟨z, hz⟩ : ∃ z, (if c = true then q + 1 else 3) = z := ⟨_, rfl⟩
  rw [hz]
  have HZ := Lib.hid hz
  have HGP := Lib.hid hg
  obtain ⟨ao, cap, rfl⟩ := ptsAt.shape h
  clear hq hc h3 h64 hp hpp hG h hcv hz hg
  go_enter Tryz.func153, Tryz.ntmps153
  go_wp2_with fail
  refine (pvalid_calls _ l H3.out H64.out HP.out _ (HG.out.kept hk1) (ptsAt.kept HL.out hk1)).mono ?_; rintro e w2 ⟨rfl, hk2⟩
  rw [HC.out]
  have hk12 := knil hk1 hk2
  have hg2 := (hk2.block w.heap.size (by simp) (fun h => h)).trans HGP.out
  have c0 := cells_at hg2 0
  have c1 := cells_at hg2 1
  clear hg2
  go_wp2_with fail
  refine (plocate_calls _ l p H3.out H64.out HP.out HPP.out _ (HG.out.kept hk12) (ptsAt.kept HL.out hk12)).mono ?_; rintro e w3 ⟨rfl, hk3⟩
  rw [HQ.out]
  clear c0 c1
  go_wp2_with fail
  refine (choose_calls c (q + 1) 3 (by omega) (by omega) w3).mono ?_; rintro e w4 ⟨rfl, hw4⟩
  rw [HZ.out, hw4]
  clear hw4
  go_wp2_with fail
  go_ret
  exact ⟨rfl, knil hk12 hk3⟩
theorem maskI_bit (c : Bool) : maskI c % 2 = if c = true then 1 else 0 := by cases c <;> decide
theorem maskI_isU' (c : Bool) : IsU (maskI c) := by cases c <;> (unfold IsU; decide)
set_option maxRecDepth 100000 in
set_option maxHeartbeats 2000000 in
theorem fence_calls (v : Value) (l : List Reg) (p : Int × Int) (hf : FenOk l) (hpp : Pt p) (w : World) (hG : Gl w) (h : regsAt w v l) : Calls Tryz.prog 155 #[.pointer none, v, .agg #[.int .i64 p.1, .int .i64 p.2]] w fun e w' => e = .returned (.int .i64 (fenI l p)) ∧ Keeps (fun _ => False) w w' := by
  have HF := Lib.hid hf
  have HPP := Lib.hid hpp
  have HG := Lib.hid hG
  have HL := Lib.hid h
  obtain ⟨q, hq⟩ : ∃ q, memF l p = q := ⟨_, rfl⟩
  obtain ⟨c, hc⟩ : ∃ c, valF l = c := ⟨_, rfl⟩
  have hcv : fenI l p = if c = true then (maskI q % 2) else 2 := by unfold fenI; rw [hq, hc, maskI_bit]
  rw [hcv]
  have hmb := maskI_bit q
  obtain ⟨b, hb⟩ : ∃ b, maskI q % 2 = b := ⟨_, rfl⟩
  rw [hb] at hmb ⊢
  have hb01 : 0 ≤ b ∧ b ≤ 1 := by rw [hmb]; split <;> omega
  have HQ := Lib.hid hq
  have HC := Lib.hid hc
  have HB := Lib.hid hb
  have hws : RowKit.wrap64 b = b := by unfold RowKit.wrap64; omega
  have hk1 : Keeps (fun _ => False) w (w.alloc (.cells #[.int .i64 p.1, .int .i64 p.2] 35)) := (Keeps.refl _ w).alloc _
  have hg := heap_alloc_new w (.cells #[.int .i64 p.1, .int .i64 p.2] 35)
  obtain ⟨z, hz⟩ : ∃ z, (if c = true then b else 2) = z := ⟨_, rfl⟩
  rw [hz]
  have HZ := Lib.hid hz
  have HGP := Lib.hid hg
  obtain ⟨ao, cap, rfl⟩ := h.shape
  clear hq hc hf hpp hG h hcv hz hg hb hmb
  go_enter Tryz.func155, Tryz.ntmps155
  go_wp2_with fail
  refine (fvalid_calls _ l HF.out _ (HG.out.kept hk1) (HL.out.kept hk1)).mono ?_; rintro e w2 ⟨rfl, hk2⟩
  rw [HC.out]
  have hk12 := knil hk1 hk2
  have hg2 := (hk2.block w.heap.size (by simp) (fun h => h)).trans HGP.out
  have c0 := cells_at hg2 0
  have c1 := cells_at hg2 1
  clear hg2
  go_wp2_with fail
  refine (fmember_calls _ l p HF.out HPP.out _ (HG.out.kept hk12) (HL.out.kept hk12)).mono ?_; rintro e w3 ⟨rfl, hk3⟩
  rw [HQ.out]
  clear c0 c1
  go_wp2_with fail
  refine (bit_calls _ (maskI_isU' q) w3).mono ?_; rintro e w5 ⟨rfl, hw5⟩
  rw [HB.out, hw5]
  clear hw5
  go_wp2_with fail
  refine (choose_calls c b 2 (by omega) (by omega) w3).mono ?_; rintro e w4 ⟨rfl, hw4⟩
  rw [HZ.out, hw4]
  clear hw4
  go_wp2_with fail
  go_ret
  exact ⟨rfl, knil hk12 hk3⟩
set_option maxRecDepth 100000 in
set_option maxHeartbeats 4000000 in
theorem oper_1 (xo xv xp : Int) (ah ar ap aq : Option Addr) (K ch KR cr NP cp NQ cq : Nat) (l : List (Int × Int)) (hl : l.length = 3) (hN : NP = 3) (hp : Pts l) (w : World) (hG : Gl w) (h : ptsAt w (.slice ap NP cp) l) :
    Calls Tryz.prog 150 #[.pointer none, .agg #[.int .i64 xo, .int .i64 xv, .slice ah K ch, .int .i64 xp, .slice ar KR cr, .slice ap NP cp, .slice aq NQ cq]] w fun e w' => e = .returned (.int .i64 (sgnI (det (pt l 0) (pt l 1) (pt l 2)) + 1)) ∧ Keeps (fun _ => False) w w' := by
  obtain ⟨bb, oo, cc, hv, hbb, hc⟩ := ptsAt.block h (i := 0) (by omega)
  injection hv with hv1 hv2 hv3
  subst hv1
  have hNI : ((NP : Nat) : Int) = 3 := by omega
  have hk1 : Keeps (fun _ => False) w (w.alloc (.cells #[.int .i64 xo, .int .i64 xv, .slice ah K ch, .int .i64 xp, .slice ar KR cr, .slice (some ⟨bb, oo, none⟩) NP cp, .slice aq NQ cq] 105)) := (Keeps.refl _ w).alloc _
  have hg := heap_alloc_new w (.cells #[.int .i64 xo, .int .i64 xv, .slice ah K ch, .int .i64 xp, .slice ar KR cr, .slice (some ⟨bb, oo, none⟩) NP cp, .slice aq NQ cq] 105)
  have HG := Lib.hid hG
  have hsc := sgnI_cases ((det (pt l 0) (pt l 1) (pt l 2)))
  obtain ⟨s, hs⟩ : ∃ s, sgnI (det (pt l 0) (pt l 1) (pt l 2)) = s := ⟨_, rfl⟩
  rw [hs] at hsc ⊢
  have hws : IntKind.i64.wrap (s + 1) = s + 1 := by rw [IntKind.wrap_i64]; omega
  have HS := Lib.hid hs
  have q0 := (hk1.cell (p := ⟨bb, oo + 0 * 2, none⟩) hbb (fun h => h)).trans (hc 0 (by omega)).1
  have q1 := (hk1.cell (p := ⟨bb, oo + 0 * 2 + 1, none⟩) hbb (fun h => h)).trans (hc 0 (by omega)).2
  have q2 := (hk1.cell (p := ⟨bb, oo + 1 * 2, none⟩) hbb (fun h => h)).trans (hc 1 (by omega)).1
  have q3 := (hk1.cell (p := ⟨bb, oo + 1 * 2 + 1, none⟩) hbb (fun h => h)).trans (hc 1 (by omega)).2
  have q4 := (hk1.cell (p := ⟨bb, oo + 2 * 2, none⟩) hbb (fun h => h)).trans (hc 2 (by omega)).1
  have q5 := (hk1.cell (p := ⟨bb, oo + 2 * 2 + 1, none⟩) hbb (fun h => h)).trans (hc 2 (by omega)).2
  simp only [Nat.zero_mul, Nat.one_mul, Nat.add_zero, Nat.add_assoc, Nat.reduceMul, Nat.reduceAdd] at q0 q1 q2 q3 q4 q5
  have c5 := cells_at hg 5
  have hlH : w.heap.size < (w.alloc (.cells #[.int .i64 xo, .int .i64 xv, .slice ah K ch, .int .i64 xp, .slice ar KR cr, .slice (some ⟨bb, oo, none⟩) NP cp, .slice aq NQ cq] 105)).heap.size := (Array.getElem?_eq_some_iff.1 hg).1
  have hlB : bb < (w.alloc (.cells #[.int .i64 xo, .int .i64 xv, .slice ah K ch, .int .i64 xp, .slice ar KR cr, .slice (some ⟨bb, oo, none⟩) NP cp, .slice aq NQ cq] 105)).heap.size := Nat.lt_of_lt_of_le hbb hk1.size
  have hN0 : (0 : Int) < (NP : Int) := by omega
  have hN1 : (1 : Int) < (NP : Int) := by omega
  have hN2 : (2 : Int) < (NP : Int) := by omega
  have hm0 : 0 < NP := by omega
  have hm1 : 1 < NP := by omega
  have hm2 : 2 < NP := by omega
  clear hc hg hG hs hl h hv2 hv3 hN hNI hsc
  go_enter Tryz.func150, Tryz.ntmps150
  go_upto_region 1 with fail
  generalize w.alloc (.cells #[.int .i64 xo, .int .i64 xv, .slice ah K ch, .int .i64 xp, .slice ar KR cr, .slice (some ⟨bb, oo, none⟩) NP cp, .slice aq NQ cq] 105) = w1 at hk1 q0 q1 q2 q3 q4 q5 c5 hlH hlB ⊢
  refine wp_region_late (fun W => W.cell? ⟨w.heap.size, 5, none⟩ = some (.slice (some ⟨bb, oo, none⟩) NP cp) ∧ W.cell? ⟨bb, oo, none⟩ = some (.int .i64 (pt l 0).1) ∧ W.cell? ⟨bb, oo + 1, none⟩ = some (.int .i64 (pt l 0).2) ∧ W.cell? ⟨bb, oo + 2, none⟩ = some (.int .i64 (pt l 1).1) ∧ W.cell? ⟨bb, oo + 3, none⟩ = some (.int .i64 (pt l 1).2) ∧ W.cell? ⟨bb, oo + 4, none⟩ = some (.int .i64 (pt l 2).1) ∧ W.cell? ⟨bb, oo + 5, none⟩ = some (.int .i64 (pt l 2).2)) [] (by kernel_rfl) ?_
  have hS : w1.drew.cell? ⟨w.heap.size, 5, none⟩ = some (.slice (some ⟨bb, oo, none⟩) NP cp) ∧ w1.drew.cell? ⟨bb, oo, none⟩ = some (.int .i64 (pt l 0).1) ∧ w1.drew.cell? ⟨bb, oo + 1, none⟩ = some (.int .i64 (pt l 0).2) ∧ w1.drew.cell? ⟨bb, oo + 2, none⟩ = some (.int .i64 (pt l 1).1) ∧ w1.drew.cell? ⟨bb, oo + 3, none⟩ = some (.int .i64 (pt l 1).2) ∧ w1.drew.cell? ⟨bb, oo + 4, none⟩ = some (.int .i64 (pt l 2).1) ∧ w1.drew.cell? ⟨bb, oo + 5, none⟩ = some (.int .i64 (pt l 2).2) := ⟨c5, q0, q1, q2, q3, q4, q5⟩
  have hk1d : Keeps (fun _ => False) w w1.drew := hk1.drewN 1
  have hlH : w.heap.size < w1.drew.heap.size := hlH
  have hlB : bb < w1.drew.heap.size := hlB
  clear q0 q1 q2 q3 q4 q5 c5
  generalize w1.drew = wd at hS hk1d hlH hlB ⊢
  refine tkA 0 (.pointer (some ⟨w.heap.size, 5, none⟩)) rfl (by kernel_rfl) (fun _ _ _ h => (h : False).elim) (by kernel_rfl) (fun _ => ‹_›) ?_ ?_
  · intro w _; go_simp
  try simp only [ga, gb, gc, Act.put, gd, ge, gf]
  refine tkL 1 (.slice (some ⟨bb, oo, none⟩) NP cp) rfl (by kernel_rfl) (fun _ _ _ h => (h : False).elim) (by kernel_rfl) ‹_› ?_ ?_
  · intro w hSw
    obtain ⟨s0, s1, s2, s3, s4, s5, s6⟩ := hSw
    go_simp
  try simp only [ga, gb, gc, Act.put, gd, ge, gf]
  refine tkA 2 (.pointer (some ⟨bb, oo, none⟩)) rfl (by kernel_rfl) (fun _ _ _ h => (h : False).elim) (by kernel_rfl) (fun _ => ‹_›) ?_ ?_
  · intro w _; go_simp
  try simp only [ga, gb, gc, Act.put, gd, ge, gf]
  refine tkL 3 (.agg #[.int .i64 (pt l 0).1, .int .i64 (pt l 0).2]) rfl (by kernel_rfl) (fun _ _ _ h => (h : False).elim) (by kernel_rfl) ‹_› ?_ ?_
  · intro w hSw
    obtain ⟨s0, s1, s2, s3, s4, s5, s6⟩ := hSw
    go_simp
  try simp only [ga, gb, gc, Act.put, gd, ge, gf]
  refine tkA 4 (.pointer (some ⟨w.heap.size, 5, none⟩)) rfl (by kernel_rfl) (fun _ _ _ h => (h : False).elim) (by kernel_rfl) (fun _ => ‹_›) ?_ ?_
  · intro w _; go_simp
  try simp only [ga, gb, gc, Act.put, gd, ge, gf]
  refine tkL 5 (.slice (some ⟨bb, oo, none⟩) NP cp) rfl (by kernel_rfl) (fun _ _ _ h => (h : False).elim) (by kernel_rfl) ‹_› ?_ ?_
  · intro w hSw
    obtain ⟨s0, s1, s2, s3, s4, s5, s6⟩ := hSw
    go_simp
  try simp only [ga, gb, gc, Act.put, gd, ge, gf]
  refine tkA 6 (.pointer (some ⟨bb, oo + 2, none⟩)) rfl (by kernel_rfl) (fun _ _ _ h => (h : False).elim) (by kernel_rfl) (fun _ => ‹_›) ?_ ?_
  · intro w _; go_simp
  try simp only [ga, gb, gc, Act.put, gd, ge, gf]
  refine tkL 7 (.agg #[.int .i64 (pt l 1).1, .int .i64 (pt l 1).2]) rfl (by kernel_rfl) (fun _ _ _ h => (h : False).elim) (by kernel_rfl) ‹_› ?_ ?_
  · intro w hSw
    obtain ⟨s0, s1, s2, s3, s4, s5, s6⟩ := hSw
    go_simp
  try simp only [ga, gb, gc, Act.put, gd, ge, gf]
  refine tkA 8 (.pointer (some ⟨w.heap.size, 5, none⟩)) rfl (by kernel_rfl) (fun _ _ _ h => (h : False).elim) (by kernel_rfl) (fun _ => ‹_›) ?_ ?_
  · intro w _; go_simp
  try simp only [ga, gb, gc, Act.put, gd, ge, gf]
  refine tkL 9 (.slice (some ⟨bb, oo, none⟩) NP cp) rfl (by kernel_rfl) (fun _ _ _ h => (h : False).elim) (by kernel_rfl) ‹_› ?_ ?_
  · intro w hSw
    obtain ⟨s0, s1, s2, s3, s4, s5, s6⟩ := hSw
    go_simp
  try simp only [ga, gb, gc, Act.put, gd, ge, gf]
  refine tkA 10 (.pointer (some ⟨bb, oo + 4, none⟩)) rfl (by kernel_rfl) (fun _ _ _ h => (h : False).elim) (by kernel_rfl) (fun _ => ‹_›) ?_ ?_
  · intro w _; go_simp
  try simp only [ga, gb, gc, Act.put, gd, ge, gf]
  refine tkL 11 (.agg #[.int .i64 (pt l 2).1, .int .i64 (pt l 2).2]) rfl (by kernel_rfl) (fun _ _ _ h => (h : False).elim) (by kernel_rfl) ‹_› ?_ ?_
  · intro w hSw
    obtain ⟨s0, s1, s2, s3, s4, s5, s6⟩ := hSw
    go_simp
  try simp only [ga, gb, gc, Act.put, gd, ge, gf]
  refine wpAnyL_next (i := 12) (by kernel_rfl) rfl (fun K hK => ?_)
  go_simp
  refine (osign_calls (pt l 0) (pt l 1) (pt l 2) (hp.at 0) (hp.at 1) (hp.at 2) _ (HG.out.kept hk1d)).mono ?_; rintro e x1 ⟨rfl, hkx⟩
  rw [HS.out]
  have hS2 : x1.cell? ⟨w.heap.size, 5, none⟩ = some (.slice (some ⟨bb, oo, none⟩) NP cp) ∧ x1.cell? ⟨bb, oo, none⟩ = some (.int .i64 (pt l 0).1) ∧ x1.cell? ⟨bb, oo + 1, none⟩ = some (.int .i64 (pt l 0).2) ∧ x1.cell? ⟨bb, oo + 2, none⟩ = some (.int .i64 (pt l 1).1) ∧ x1.cell? ⟨bb, oo + 3, none⟩ = some (.int .i64 (pt l 1).2) ∧ x1.cell? ⟨bb, oo + 4, none⟩ = some (.int .i64 (pt l 2).1) ∧ x1.cell? ⟨bb, oo + 5, none⟩ = some (.int .i64 (pt l 2).2) := by
    refine ⟨(hkx.cell (p := ⟨w.heap.size, 5, none⟩) hlH (fun h => h)).trans hS.1, (hkx.cell (p := ⟨bb, oo, none⟩) hlB (fun h => h)).trans hS.2.1, (hkx.cell (p := ⟨bb, oo + 1, none⟩) hlB (fun h => h)).trans hS.2.2.1, (hkx.cell (p := ⟨bb, oo + 2, none⟩) hlB (fun h => h)).trans hS.2.2.2.1, (hkx.cell (p := ⟨bb, oo + 3, none⟩) hlB (fun h => h)).trans hS.2.2.2.2.1, (hkx.cell (p := ⟨bb, oo + 4, none⟩) hlB (fun h => h)).trans hS.2.2.2.2.2.1, (hkx.cell (p := ⟨bb, oo + 5, none⟩) hlB (fun h => h)).trans hS.2.2.2.2.2.2⟩
  have hkx2 := knil hk1d hkx
  go_wp2_with fail
  refine hK.out _ _ hS2 (fun hHeld => ?_)
  clear hK K
  try simp only [ga, gb, gc, Act.put, gd, ge, gf]
  refine tkA 13 (.int .i64 (s + 1)) rfl (by kernel_rfl) (fun _ _ _ h => (h : False).elim) (by kernel_rfl) (fun _ => ‹_›) ?_ ?_
  · intro w _; go_simp
  try simp only [ga, gb, gc, Act.put, gd, ge, gf]
  refine tkA 14 (.int .i64 (s + 1)) rfl (by kernel_rfl) (fun _ _ _ h => (h : False).elim) (by kernel_rfl) (fun _ => ‹_›) ?_ ?_
  · intro w _; go_simp
  try simp only [ga, gb, gc, Act.put, gd, ge, gf]
  refine wpAnyL_done (by kernel_rfl) ?_ _
  refine NoPanic.normal ?_
  clear hS hS2
  go_wp2_with fail
  go_ret
  exact ⟨rfl, hkx2⟩
set_option maxRecDepth 100000 in
set_option maxHeartbeats 4000000 in
theorem oper_2 (xo xv xp : Int) (ah ar ap aq : Option Addr) (K ch KR cr NP cp NQ cq : Nat) (l : List (Int × Int)) (hl : l.length = 4) (hN : NP = 4) (hp : Pts l) (w : World) (hG : Gl w) (h : ptsAt w (.slice ap NP cp) l) :
    Calls Tryz.prog 151 #[.pointer none, .agg #[.int .i64 xo, .int .i64 xv, .slice ah K ch, .int .i64 xp, .slice ar KR cr, .slice ap NP cp, .slice aq NQ cq]] w fun e w' => e = .returned (.int .i64 (sgnI (inc (pt l 0) (pt l 1) (pt l 2) (pt l 3)) + 1)) ∧ Keeps (fun _ => False) w w' := by
  obtain ⟨bb, oo, cc, hv, hbb, hc⟩ := ptsAt.block h (i := 0) (by omega)
  injection hv with hv1 hv2 hv3
  subst hv1
  have hNI : ((NP : Nat) : Int) = 4 := by omega
  have hk1 : Keeps (fun _ => False) w (w.alloc (.cells #[.int .i64 xo, .int .i64 xv, .slice ah K ch, .int .i64 xp, .slice ar KR cr, .slice (some ⟨bb, oo, none⟩) NP cp, .slice aq NQ cq] 105)) := (Keeps.refl _ w).alloc _
  have hg := heap_alloc_new w (.cells #[.int .i64 xo, .int .i64 xv, .slice ah K ch, .int .i64 xp, .slice ar KR cr, .slice (some ⟨bb, oo, none⟩) NP cp, .slice aq NQ cq] 105)
  have HG := Lib.hid hG
  have hsc := sgnI_cases ((inc (pt l 0) (pt l 1) (pt l 2) (pt l 3)))
  obtain ⟨s, hs⟩ : ∃ s, sgnI (inc (pt l 0) (pt l 1) (pt l 2) (pt l 3)) = s := ⟨_, rfl⟩
  rw [hs] at hsc ⊢
  have hws : IntKind.i64.wrap (s + 1) = s + 1 := by rw [IntKind.wrap_i64]; omega
  have HS := Lib.hid hs
  have q0 := (hk1.cell (p := ⟨bb, oo + 0 * 2, none⟩) hbb (fun h => h)).trans (hc 0 (by omega)).1
  have q1 := (hk1.cell (p := ⟨bb, oo + 0 * 2 + 1, none⟩) hbb (fun h => h)).trans (hc 0 (by omega)).2
  have q2 := (hk1.cell (p := ⟨bb, oo + 1 * 2, none⟩) hbb (fun h => h)).trans (hc 1 (by omega)).1
  have q3 := (hk1.cell (p := ⟨bb, oo + 1 * 2 + 1, none⟩) hbb (fun h => h)).trans (hc 1 (by omega)).2
  have q4 := (hk1.cell (p := ⟨bb, oo + 2 * 2, none⟩) hbb (fun h => h)).trans (hc 2 (by omega)).1
  have q5 := (hk1.cell (p := ⟨bb, oo + 2 * 2 + 1, none⟩) hbb (fun h => h)).trans (hc 2 (by omega)).2
  have q6 := (hk1.cell (p := ⟨bb, oo + 3 * 2, none⟩) hbb (fun h => h)).trans (hc 3 (by omega)).1
  have q7 := (hk1.cell (p := ⟨bb, oo + 3 * 2 + 1, none⟩) hbb (fun h => h)).trans (hc 3 (by omega)).2
  simp only [Nat.zero_mul, Nat.one_mul, Nat.add_zero, Nat.add_assoc, Nat.reduceMul, Nat.reduceAdd] at q0 q1 q2 q3 q4 q5 q6 q7
  have c5 := cells_at hg 5
  have hlH : w.heap.size < (w.alloc (.cells #[.int .i64 xo, .int .i64 xv, .slice ah K ch, .int .i64 xp, .slice ar KR cr, .slice (some ⟨bb, oo, none⟩) NP cp, .slice aq NQ cq] 105)).heap.size := (Array.getElem?_eq_some_iff.1 hg).1
  have hlB : bb < (w.alloc (.cells #[.int .i64 xo, .int .i64 xv, .slice ah K ch, .int .i64 xp, .slice ar KR cr, .slice (some ⟨bb, oo, none⟩) NP cp, .slice aq NQ cq] 105)).heap.size := Nat.lt_of_lt_of_le hbb hk1.size
  have hN0 : (0 : Int) < (NP : Int) := by omega
  have hN1 : (1 : Int) < (NP : Int) := by omega
  have hN2 : (2 : Int) < (NP : Int) := by omega
  have hN3 : (3 : Int) < (NP : Int) := by omega
  have hm0 : 0 < NP := by omega
  have hm1 : 1 < NP := by omega
  have hm2 : 2 < NP := by omega
  have hm3 : 3 < NP := by omega
  clear hc hg hG hs hl h hv2 hv3 hN hNI hsc
  go_enter Tryz.func151, Tryz.ntmps151
  go_upto_region 1 with fail
  generalize w.alloc (.cells #[.int .i64 xo, .int .i64 xv, .slice ah K ch, .int .i64 xp, .slice ar KR cr, .slice (some ⟨bb, oo, none⟩) NP cp, .slice aq NQ cq] 105) = w1 at hk1 q0 q1 q2 q3 q4 q5 q6 q7 c5 hlH hlB ⊢
  refine wp_region_late (fun W => W.cell? ⟨w.heap.size, 5, none⟩ = some (.slice (some ⟨bb, oo, none⟩) NP cp) ∧ W.cell? ⟨bb, oo, none⟩ = some (.int .i64 (pt l 0).1) ∧ W.cell? ⟨bb, oo + 1, none⟩ = some (.int .i64 (pt l 0).2) ∧ W.cell? ⟨bb, oo + 2, none⟩ = some (.int .i64 (pt l 1).1) ∧ W.cell? ⟨bb, oo + 3, none⟩ = some (.int .i64 (pt l 1).2) ∧ W.cell? ⟨bb, oo + 4, none⟩ = some (.int .i64 (pt l 2).1) ∧ W.cell? ⟨bb, oo + 5, none⟩ = some (.int .i64 (pt l 2).2) ∧ W.cell? ⟨bb, oo + 6, none⟩ = some (.int .i64 (pt l 3).1) ∧ W.cell? ⟨bb, oo + 7, none⟩ = some (.int .i64 (pt l 3).2)) [] (by kernel_rfl) ?_
  have hS : w1.drew.cell? ⟨w.heap.size, 5, none⟩ = some (.slice (some ⟨bb, oo, none⟩) NP cp) ∧ w1.drew.cell? ⟨bb, oo, none⟩ = some (.int .i64 (pt l 0).1) ∧ w1.drew.cell? ⟨bb, oo + 1, none⟩ = some (.int .i64 (pt l 0).2) ∧ w1.drew.cell? ⟨bb, oo + 2, none⟩ = some (.int .i64 (pt l 1).1) ∧ w1.drew.cell? ⟨bb, oo + 3, none⟩ = some (.int .i64 (pt l 1).2) ∧ w1.drew.cell? ⟨bb, oo + 4, none⟩ = some (.int .i64 (pt l 2).1) ∧ w1.drew.cell? ⟨bb, oo + 5, none⟩ = some (.int .i64 (pt l 2).2) ∧ w1.drew.cell? ⟨bb, oo + 6, none⟩ = some (.int .i64 (pt l 3).1) ∧ w1.drew.cell? ⟨bb, oo + 7, none⟩ = some (.int .i64 (pt l 3).2) := ⟨c5, q0, q1, q2, q3, q4, q5, q6, q7⟩
  have hk1d : Keeps (fun _ => False) w w1.drew := hk1.drewN 1
  have hlH : w.heap.size < w1.drew.heap.size := hlH
  have hlB : bb < w1.drew.heap.size := hlB
  clear q0 q1 q2 q3 q4 q5 q6 q7 c5
  generalize w1.drew = wd at hS hk1d hlH hlB ⊢
  refine tkA 0 (.pointer (some ⟨w.heap.size, 5, none⟩)) rfl (by kernel_rfl) (fun _ _ _ h => (h : False).elim) (by kernel_rfl) (fun _ => ‹_›) ?_ ?_
  · intro w _; go_simp
  try simp only [ga, gb, gc, Act.put, gd, ge, gf]
  refine tkL 1 (.slice (some ⟨bb, oo, none⟩) NP cp) rfl (by kernel_rfl) (fun _ _ _ h => (h : False).elim) (by kernel_rfl) ‹_› ?_ ?_
  · intro w hSw
    obtain ⟨s0, s1, s2, s3, s4, s5, s6, s7, s8⟩ := hSw
    go_simp
  try simp only [ga, gb, gc, Act.put, gd, ge, gf]
  refine tkA 2 (.pointer (some ⟨bb, oo, none⟩)) rfl (by kernel_rfl) (fun _ _ _ h => (h : False).elim) (by kernel_rfl) (fun _ => ‹_›) ?_ ?_
  · intro w _; go_simp
  try simp only [ga, gb, gc, Act.put, gd, ge, gf]
  refine tkL 3 (.agg #[.int .i64 (pt l 0).1, .int .i64 (pt l 0).2]) rfl (by kernel_rfl) (fun _ _ _ h => (h : False).elim) (by kernel_rfl) ‹_› ?_ ?_
  · intro w hSw
    obtain ⟨s0, s1, s2, s3, s4, s5, s6, s7, s8⟩ := hSw
    go_simp
  try simp only [ga, gb, gc, Act.put, gd, ge, gf]
  refine tkA 4 (.pointer (some ⟨w.heap.size, 5, none⟩)) rfl (by kernel_rfl) (fun _ _ _ h => (h : False).elim) (by kernel_rfl) (fun _ => ‹_›) ?_ ?_
  · intro w _; go_simp
  try simp only [ga, gb, gc, Act.put, gd, ge, gf]
  refine tkL 5 (.slice (some ⟨bb, oo, none⟩) NP cp) rfl (by kernel_rfl) (fun _ _ _ h => (h : False).elim) (by kernel_rfl) ‹_› ?_ ?_
  · intro w hSw
    obtain ⟨s0, s1, s2, s3, s4, s5, s6, s7, s8⟩ := hSw
    go_simp
  try simp only [ga, gb, gc, Act.put, gd, ge, gf]
  refine tkA 6 (.pointer (some ⟨bb, oo + 2, none⟩)) rfl (by kernel_rfl) (fun _ _ _ h => (h : False).elim) (by kernel_rfl) (fun _ => ‹_›) ?_ ?_
  · intro w _; go_simp
  try simp only [ga, gb, gc, Act.put, gd, ge, gf]
  refine tkL 7 (.agg #[.int .i64 (pt l 1).1, .int .i64 (pt l 1).2]) rfl (by kernel_rfl) (fun _ _ _ h => (h : False).elim) (by kernel_rfl) ‹_› ?_ ?_
  · intro w hSw
    obtain ⟨s0, s1, s2, s3, s4, s5, s6, s7, s8⟩ := hSw
    go_simp
  try simp only [ga, gb, gc, Act.put, gd, ge, gf]
  refine tkA 8 (.pointer (some ⟨w.heap.size, 5, none⟩)) rfl (by kernel_rfl) (fun _ _ _ h => (h : False).elim) (by kernel_rfl) (fun _ => ‹_›) ?_ ?_
  · intro w _; go_simp
  try simp only [ga, gb, gc, Act.put, gd, ge, gf]
  refine tkL 9 (.slice (some ⟨bb, oo, none⟩) NP cp) rfl (by kernel_rfl) (fun _ _ _ h => (h : False).elim) (by kernel_rfl) ‹_› ?_ ?_
  · intro w hSw
    obtain ⟨s0, s1, s2, s3, s4, s5, s6, s7, s8⟩ := hSw
    go_simp
  try simp only [ga, gb, gc, Act.put, gd, ge, gf]
  refine tkA 10 (.pointer (some ⟨bb, oo + 4, none⟩)) rfl (by kernel_rfl) (fun _ _ _ h => (h : False).elim) (by kernel_rfl) (fun _ => ‹_›) ?_ ?_
  · intro w _; go_simp
  try simp only [ga, gb, gc, Act.put, gd, ge, gf]
  refine tkL 11 (.agg #[.int .i64 (pt l 2).1, .int .i64 (pt l 2).2]) rfl (by kernel_rfl) (fun _ _ _ h => (h : False).elim) (by kernel_rfl) ‹_› ?_ ?_
  · intro w hSw
    obtain ⟨s0, s1, s2, s3, s4, s5, s6, s7, s8⟩ := hSw
    go_simp
  try simp only [ga, gb, gc, Act.put, gd, ge, gf]
  refine tkA 12 (.pointer (some ⟨w.heap.size, 5, none⟩)) rfl (by kernel_rfl) (fun _ _ _ h => (h : False).elim) (by kernel_rfl) (fun _ => ‹_›) ?_ ?_
  · intro w _; go_simp
  try simp only [ga, gb, gc, Act.put, gd, ge, gf]
  refine tkL 13 (.slice (some ⟨bb, oo, none⟩) NP cp) rfl (by kernel_rfl) (fun _ _ _ h => (h : False).elim) (by kernel_rfl) ‹_› ?_ ?_
  · intro w hSw
    obtain ⟨s0, s1, s2, s3, s4, s5, s6, s7, s8⟩ := hSw
    go_simp
  try simp only [ga, gb, gc, Act.put, gd, ge, gf]
  refine tkA 14 (.pointer (some ⟨bb, oo + 6, none⟩)) rfl (by kernel_rfl) (fun _ _ _ h => (h : False).elim) (by kernel_rfl) (fun _ => ‹_›) ?_ ?_
  · intro w _; go_simp
  try simp only [ga, gb, gc, Act.put, gd, ge, gf]
  refine tkL 15 (.agg #[.int .i64 (pt l 3).1, .int .i64 (pt l 3).2]) rfl (by kernel_rfl) (fun _ _ _ h => (h : False).elim) (by kernel_rfl) ‹_› ?_ ?_
  · intro w hSw
    obtain ⟨s0, s1, s2, s3, s4, s5, s6, s7, s8⟩ := hSw
    go_simp
  try simp only [ga, gb, gc, Act.put, gd, ge, gf]
  refine wpAnyL_next (i := 16) (by kernel_rfl) rfl (fun K hK => ?_)
  go_simp
  refine (csign_calls (pt l 0) (pt l 1) (pt l 2) (pt l 3) (hp.at 0) (hp.at 1) (hp.at 2) (hp.at 3) _ (HG.out.kept hk1d)).mono ?_; rintro e x1 ⟨rfl, hkx⟩
  rw [HS.out]
  have hS2 : x1.cell? ⟨w.heap.size, 5, none⟩ = some (.slice (some ⟨bb, oo, none⟩) NP cp) ∧ x1.cell? ⟨bb, oo, none⟩ = some (.int .i64 (pt l 0).1) ∧ x1.cell? ⟨bb, oo + 1, none⟩ = some (.int .i64 (pt l 0).2) ∧ x1.cell? ⟨bb, oo + 2, none⟩ = some (.int .i64 (pt l 1).1) ∧ x1.cell? ⟨bb, oo + 3, none⟩ = some (.int .i64 (pt l 1).2) ∧ x1.cell? ⟨bb, oo + 4, none⟩ = some (.int .i64 (pt l 2).1) ∧ x1.cell? ⟨bb, oo + 5, none⟩ = some (.int .i64 (pt l 2).2) ∧ x1.cell? ⟨bb, oo + 6, none⟩ = some (.int .i64 (pt l 3).1) ∧ x1.cell? ⟨bb, oo + 7, none⟩ = some (.int .i64 (pt l 3).2) := by
    refine ⟨(hkx.cell (p := ⟨w.heap.size, 5, none⟩) hlH (fun h => h)).trans hS.1, (hkx.cell (p := ⟨bb, oo, none⟩) hlB (fun h => h)).trans hS.2.1, (hkx.cell (p := ⟨bb, oo + 1, none⟩) hlB (fun h => h)).trans hS.2.2.1, (hkx.cell (p := ⟨bb, oo + 2, none⟩) hlB (fun h => h)).trans hS.2.2.2.1, (hkx.cell (p := ⟨bb, oo + 3, none⟩) hlB (fun h => h)).trans hS.2.2.2.2.1, (hkx.cell (p := ⟨bb, oo + 4, none⟩) hlB (fun h => h)).trans hS.2.2.2.2.2.1, (hkx.cell (p := ⟨bb, oo + 5, none⟩) hlB (fun h => h)).trans hS.2.2.2.2.2.2.1, (hkx.cell (p := ⟨bb, oo + 6, none⟩) hlB (fun h => h)).trans hS.2.2.2.2.2.2.2.1, (hkx.cell (p := ⟨bb, oo + 7, none⟩) hlB (fun h => h)).trans hS.2.2.2.2.2.2.2.2⟩
  have hkx2 := knil hk1d hkx
  go_wp2_with fail
  refine hK.out _ _ hS2 (fun hHeld => ?_)
  clear hK K
  try simp only [ga, gb, gc, Act.put, gd, ge, gf]
  refine tkA 17 (.int .i64 (s + 1)) rfl (by kernel_rfl) (fun _ _ _ h => (h : False).elim) (by kernel_rfl) (fun _ => ‹_›) ?_ ?_
  · intro w _; go_simp
  try simp only [ga, gb, gc, Act.put, gd, ge, gf]
  refine tkA 18 (.int .i64 (s + 1)) rfl (by kernel_rfl) (fun _ _ _ h => (h : False).elim) (by kernel_rfl) (fun _ => ‹_›) ?_ ?_
  · intro w _; go_simp
  try simp only [ga, gb, gc, Act.put, gd, ge, gf]
  refine wpAnyL_done (by kernel_rfl) ?_ _
  refine NoPanic.normal ?_
  clear hS hS2
  go_wp2_with fail
  go_ret
  exact ⟨rfl, hkx2⟩
theorem pts_take {w : World} {b off n cap : Nat} {l : List (Int × Int)} (hl : l.length = n + 1) (h : ptsAt w (.slice (some ⟨b, off, none⟩) (n + 1) cap) l) : ptsAt w (.slice (some ⟨b, off, none⟩) n cap) (l.take n) := by
  have ht : (l.take n).length = n := by rw [List.length_take]; omega
  rcases h with ⟨h0, _⟩ | ⟨b', off', cap', hv, hb, hc⟩
  · rw [h0] at hl; simp at hl
  · injection hv with h1 h2 h3
    injection h1 with h1
    injection h1 with h4 h5
    subst h4
    subst h5
    subst h3
    refine .inr ⟨b, off, cap, by rw [ht], hb, fun i hi => ?_⟩
    have hp : pt (l.take n) i = pt l i := by
      unfold pt
      rw [List.getD_eq_getElem?_getD, List.getD_eq_getElem?_getD, List.getElem?_take, if_pos (by omega)]
    rw [hp]
    exact hc i (by omega)
set_option maxRecDepth 100000 in
set_option maxHeartbeats 4000000 in
theorem oper_3 (xo xv xp : Int) (ah ar ap aq : Option Addr) (K ch KR cr n cp NQ cq : Nat) (l : List (Int × Int)) (hl : l.length = n + 1) (h3 : 3 ≤ n) (h64 : n ≤ 64) (hcp : capOk (.slice ap (n + 1) cp)) (hp : Pts l) (w : World) (hG : Gl w) (h : ptsAt w (.slice ap (n + 1) cp) l) :
    Calls Tryz.prog 152 #[.pointer none, .agg #[.int .i64 xo, .int .i64 xv, .slice ah K ch, .int .i64 xp, .slice ar KR cr, .slice ap (n + 1) cp, .slice aq NQ cq]] w fun e w' => e = .returned (.int .i64 (convI (l.take n) (pt l n))) ∧ Keeps (fun _ => False) w w' := by
  obtain ⟨bb, oo, cc, hv, hbb, hc⟩ := ptsAt.block h (i := 0) (by omega)
  injection hv with hv1 hv2 hv3
  subst hv1
  have hcap := hcp _ _ _ rfl
  have HPT := Lib.hid (fun W (hk : Keeps (fun _ => False) w W) => pts_take hl (ptsAt.kept h hk))
  have ht : (l.take n).length = n := by rw [List.length_take]; omega
  have HT3 := Lib.hid (show 3 ≤ (l.take n).length by rw [ht]; exact h3)
  have HT64 := Lib.hid (show (l.take n).length ≤ 64 by rw [ht]; exact h64)
  have HTP := Lib.hid (show Pts (l.take n) from fun q hq => hp q (List.mem_of_mem_take hq))
  have hk1 : Keeps (fun _ => False) w (w.alloc (.cells #[.int .i64 xo, .int .i64 xv, .slice ah K ch, .int .i64 xp, .slice ar KR cr, .slice (some ⟨bb, oo, none⟩) (n + 1) cp, .slice aq NQ cq] 105)) := (Keeps.refl _ w).alloc _
  have hg := heap_alloc_new w (.cells #[.int .i64 xo, .int .i64 xv, .slice ah K ch, .int .i64 xp, .slice ar KR cr, .slice (some ⟨bb, oo, none⟩) (n + 1) cp, .slice aq NQ cq] 105)
  have HG := Lib.hid hG
  have hw1 : IntKind.i64.wrap ((n : Int) + 1 - 1) = n := by rw [IntKind.wrap_i64]; omega
  have q0 := (hk1.cell (p := ⟨bb, oo + n * 2, none⟩) hbb (fun h => h)).trans (hc n (by omega)).1
  have q1 := (hk1.cell (p := ⟨bb, oo + n * 2 + 1, none⟩) hbb (fun h => h)).trans (hc n (by omega)).2
  have c5 := cells_at hg 5
  have hlH : w.heap.size < (w.alloc (.cells #[.int .i64 xo, .int .i64 xv, .slice ah K ch, .int .i64 xp, .slice ar KR cr, .slice (some ⟨bb, oo, none⟩) (n + 1) cp, .slice aq NQ cq] 105)).heap.size := (Array.getElem?_eq_some_iff.1 hg).1
  have hlB : bb < (w.alloc (.cells #[.int .i64 xo, .int .i64 xv, .slice ah K ch, .int .i64 xp, .slice ar KR cr, .slice (some ⟨bb, oo, none⟩) (n + 1) cp, .slice aq NQ cq] 105)).heap.size := Nat.lt_of_lt_of_le hbb hk1.size
  have hn0 : (0 : Int) ≤ (n : Int) := by omega
  have hnc : (n : Int) ≤ (cp : Int) := by omega
  have hncN : n ≤ cp := by omega
  have hnI : (n : Int) < (n : Int) + 1 := by omega
  have hnN : n < n + 1 := by omega
  clear hc hg hG hl h hv2 hv3 hcp hcap ht
  go_enter Tryz.func152, Tryz.ntmps152
  go_upto_region 2 with fail
  generalize w.alloc (.cells #[.int .i64 xo, .int .i64 xv, .slice ah K ch, .int .i64 xp, .slice ar KR cr, .slice (some ⟨bb, oo, none⟩) (n + 1) cp, .slice aq NQ cq] 105) = w1 at hk1 q0 q1 c5 hlH hlB ⊢
  refine wp_region_late (fun W => W.cell? ⟨w.heap.size, 5, none⟩ = some (.slice (some ⟨bb, oo, none⟩) (n + 1) cp) ∧ W.cell? ⟨bb, oo + n * 2, none⟩ = some (.int .i64 (pt l n).1) ∧ W.cell? ⟨bb, oo + n * 2 + 1, none⟩ = some (.int .i64 (pt l n).2)) [] (by kernel_rfl) ?_
  have hS : w1.drew.cell? ⟨w.heap.size, 5, none⟩ = some (.slice (some ⟨bb, oo, none⟩) (n + 1) cp) ∧ w1.drew.cell? ⟨bb, oo + n * 2, none⟩ = some (.int .i64 (pt l n).1) ∧ w1.drew.cell? ⟨bb, oo + n * 2 + 1, none⟩ = some (.int .i64 (pt l n).2) := ⟨c5, q0, q1⟩
  have hk1d : Keeps (fun _ => False) w w1.drew := hk1.drewN 1
  have hlH : w.heap.size < w1.drew.heap.size := hlH
  have hlB : bb < w1.drew.heap.size := hlB
  clear q0 q1 c5
  generalize w1.drew = wd at hS hk1d hlH hlB ⊢
  refine tkA 0 (.pointer none) rfl (by kernel_rfl) (fun _ _ _ h => (h : False).elim) (by kernel_rfl) (fun _ => ‹_›) ?_ ?_
  · intro w _; go_simp
  try simp only [ga, gb, gc, Act.put, gd, ge, gf]
  refine tkA 1 (.pointer (some ⟨w.heap.size, 5, none⟩)) rfl (by kernel_rfl) (fun _ _ _ h => (h : False).elim) (by kernel_rfl) (fun _ => ‹_›) ?_ ?_
  · intro w _; go_simp
  try simp only [ga, gb, gc, Act.put, gd, ge, gf]
  refine tkL 2 (.slice (some ⟨bb, oo, none⟩) (n + 1) cp) rfl (by kernel_rfl) (fun _ _ _ h => (h : False).elim) (by kernel_rfl) ‹_› ?_ ?_
  · intro w hSw
    obtain ⟨s0, s1, s2⟩ := hSw
    go_simp
  try simp only [ga, gb, gc, Act.put, gd, ge, gf]
  refine tkA 3 (.int .i64 n) rfl (by kernel_rfl) (fun _ _ _ h => (h : False).elim) (by kernel_rfl) (fun _ => ‹_›) ?_ ?_
  · intro w _; go_simp
  try simp only [ga, gb, gc, Act.put, gd, ge, gf]
  refine tkA 4 (.slice (some ⟨bb, oo, none⟩) n cp) rfl (by kernel_rfl) (fun _ _ _ h => (h : False).elim) (by kernel_rfl) (fun _ => ‹_›) ?_ ?_
  · intro w _; go_simp
  try simp only [ga, gb, gc, Act.put, gd, ge, gf]
  refine tkA 5 (.pointer (some ⟨w.heap.size, 5, none⟩)) rfl (by kernel_rfl) (fun _ _ _ h => (h : False).elim) (by kernel_rfl) (fun _ => ‹_›) ?_ ?_
  · intro w _; go_simp
  try simp only [ga, gb, gc, Act.put, gd, ge, gf]
  refine tkL 6 (.slice (some ⟨bb, oo, none⟩) (n + 1) cp) rfl (by kernel_rfl) (fun _ _ _ h => (h : False).elim) (by kernel_rfl) ‹_› ?_ ?_
  · intro w hSw
    obtain ⟨s0, s1, s2⟩ := hSw
    go_simp
  try simp only [ga, gb, gc, Act.put, gd, ge, gf]
  refine tkA 7 (.int .i64 n) rfl (by kernel_rfl) (fun _ _ _ h => (h : False).elim) (by kernel_rfl) (fun _ => ‹_›) ?_ ?_
  · intro w _; go_simp
  try simp only [ga, gb, gc, Act.put, gd, ge, gf]
  refine tkA 8 (.pointer (some ⟨bb, oo + n * 2, none⟩)) rfl (by kernel_rfl) (fun _ _ _ h => (h : False).elim) (by kernel_rfl) (fun _ => ‹_›) ?_ ?_
  · intro w _; go_simp
  try simp only [ga, gb, gc, Act.put, gd, ge, gf]
  refine tkL 9 (.agg #[.int .i64 (pt l n).1, .int .i64 (pt l n).2]) rfl (by kernel_rfl) (fun _ _ _ h => (h : False).elim) (by kernel_rfl) ‹_› ?_ ?_
  · intro w hSw
    obtain ⟨s0, s1, s2⟩ := hSw
    go_simp
  try simp only [ga, gb, gc, Act.put, gd, ge, gf]
  refine wpAnyL_next (i := 10) (by kernel_rfl) rfl (fun K hK => ?_)
  go_simp
  refine (convex_calls _ (l.take n) (pt l n) HT3.out HT64.out HTP.out (hp.at n) _ (HG.out.kept hk1d) (HPT.out wd hk1d)).mono ?_; rintro e x1 ⟨rfl, hkx⟩
  have hS2 : x1.cell? ⟨w.heap.size, 5, none⟩ = some (.slice (some ⟨bb, oo, none⟩) (n + 1) cp) ∧ x1.cell? ⟨bb, oo + n * 2, none⟩ = some (.int .i64 (pt l n).1) ∧ x1.cell? ⟨bb, oo + n * 2 + 1, none⟩ = some (.int .i64 (pt l n).2) := ⟨(hkx.cell (p := ⟨w.heap.size, 5, none⟩) hlH (fun h => h)).trans hS.1, (hkx.cell (p := ⟨bb, oo + n * 2, none⟩) hlB (fun h => h)).trans hS.2.1, (hkx.cell (p := ⟨bb, oo + n * 2 + 1, none⟩) hlB (fun h => h)).trans hS.2.2⟩
  have hkx2 := knil hk1d hkx
  obtain ⟨cv, hcv⟩ : ∃ z, convI (l.take n) (pt l n) = z := ⟨_, rfl⟩
  rw [hcv]
  have HCV := Lib.hid hcv
  clear hcv
  go_wp2_with fail
  refine hK.out _ _ hS2 (fun hHeld => ?_)
  clear hK K
  try simp only [ga, gb, gc, Act.put, gd, ge, gf]
  refine tkA 11 (.int .i64 cv) rfl (by kernel_rfl) (fun _ _ _ h => (h : False).elim) (by kernel_rfl) (fun _ => ‹_›) ?_ ?_
  · intro w _; go_simp
  try simp only [ga, gb, gc, Act.put, gd, ge, gf]
  refine wpAnyL_done (by kernel_rfl) ?_ _
  refine NoPanic.normal ?_
  clear hS hS2
  go_wp2_with fail
  go_ret
  exact ⟨by rw [HCV.out]; rfl, hkx2⟩
set_option maxRecDepth 100000 in
set_option maxHeartbeats 4000000 in
theorem oper_4 (xo xv xp : Int) (ah ar ap aq : Option Addr) (K ch KR cr NP cp NQ cq : Nat) (l : List (Int × Int)) (rs : List Reg) (hl : l.length = 1) (hN : NP = 1) (hf : FenOk rs) (hp : Pts l) (w : World) (hG : Gl w) (hr : regsAt w (.slice ar KR cr) rs) (h : ptsAt w (.slice ap NP cp) l) :
    Calls Tryz.prog 154 #[.pointer none, .agg #[.int .i64 xo, .int .i64 xv, .slice ah K ch, .int .i64 xp, .slice ar KR cr, .slice ap NP cp, .slice aq NQ cq]] w fun e w' => e = .returned (.int .i64 (fenI rs (pt l 0))) ∧ Keeps (fun _ => False) w w' := by
  obtain ⟨bb, oo, cc, hv, hbb, hc⟩ := ptsAt.block h (i := 0) (by omega)
  injection hv with hv1 hv2 hv3
  subst hv1
  have HR := Lib.hid hr
  have HF := Lib.hid hf
  have hk1 : Keeps (fun _ => False) w (w.alloc (.cells #[.int .i64 xo, .int .i64 xv, .slice ah K ch, .int .i64 xp, .slice ar KR cr, .slice (some ⟨bb, oo, none⟩) NP cp, .slice aq NQ cq] 105)) := (Keeps.refl _ w).alloc _
  have hg := heap_alloc_new w (.cells #[.int .i64 xo, .int .i64 xv, .slice ah K ch, .int .i64 xp, .slice ar KR cr, .slice (some ⟨bb, oo, none⟩) NP cp, .slice aq NQ cq] 105)
  have HG := Lib.hid hG
  have q0 := (hk1.cell (p := ⟨bb, oo + 0 * 2, none⟩) hbb (fun h => h)).trans (hc 0 (by omega)).1
  have q1 := (hk1.cell (p := ⟨bb, oo + 0 * 2 + 1, none⟩) hbb (fun h => h)).trans (hc 0 (by omega)).2
  simp only [Nat.zero_mul, Nat.add_zero] at q0 q1
  have c4 := cells_at hg 4
  have c5 := cells_at hg 5
  have hlH : w.heap.size < (w.alloc (.cells #[.int .i64 xo, .int .i64 xv, .slice ah K ch, .int .i64 xp, .slice ar KR cr, .slice (some ⟨bb, oo, none⟩) NP cp, .slice aq NQ cq] 105)).heap.size := (Array.getElem?_eq_some_iff.1 hg).1
  have hlB : bb < (w.alloc (.cells #[.int .i64 xo, .int .i64 xv, .slice ah K ch, .int .i64 xp, .slice ar KR cr, .slice (some ⟨bb, oo, none⟩) NP cp, .slice aq NQ cq] 105)).heap.size := Nat.lt_of_lt_of_le hbb hk1.size
  have hn0 : (0 : Int) < (NP : Int) := by omega
  have hnN : 0 < NP := by omega
  clear hc hg hG hl h hv2 hv3 hN hr hf
  go_enter Tryz.func154, Tryz.ntmps154
  go_upto_region 1 with fail
  generalize w.alloc (.cells #[.int .i64 xo, .int .i64 xv, .slice ah K ch, .int .i64 xp, .slice ar KR cr, .slice (some ⟨bb, oo, none⟩) NP cp, .slice aq NQ cq] 105) = w1 at hk1 q0 q1 c4 c5 hlH hlB ⊢
  refine wp_region_late (fun W => W.cell? ⟨w.heap.size, 4, none⟩ = some (.slice ar KR cr) ∧ W.cell? ⟨w.heap.size, 5, none⟩ = some (.slice (some ⟨bb, oo, none⟩) NP cp) ∧ W.cell? ⟨bb, oo, none⟩ = some (.int .i64 (pt l 0).1) ∧ W.cell? ⟨bb, oo + 1, none⟩ = some (.int .i64 (pt l 0).2)) [] (by kernel_rfl) ?_
  have hS : w1.drew.cell? ⟨w.heap.size, 4, none⟩ = some (.slice ar KR cr) ∧ w1.drew.cell? ⟨w.heap.size, 5, none⟩ = some (.slice (some ⟨bb, oo, none⟩) NP cp) ∧ w1.drew.cell? ⟨bb, oo, none⟩ = some (.int .i64 (pt l 0).1) ∧ w1.drew.cell? ⟨bb, oo + 1, none⟩ = some (.int .i64 (pt l 0).2) := ⟨c4, c5, q0, q1⟩
  have hk1d : Keeps (fun _ => False) w w1.drew := hk1.drewN 1
  have hlH : w.heap.size < w1.drew.heap.size := hlH
  have hlB : bb < w1.drew.heap.size := hlB
  clear q0 q1 c4 c5
  generalize w1.drew = wd at hS hk1d hlH hlB ⊢
  refine tkA 0 (.pointer none) rfl (by kernel_rfl) (fun _ _ _ h => (h : False).elim) (by kernel_rfl) (fun _ => ‹_›) ?_ ?_
  · intro w _; go_simp
  try simp only [ga, gb, gc, Act.put, gd, ge, gf]
  refine tkA 1 (.pointer (some ⟨w.heap.size, 4, none⟩)) rfl (by kernel_rfl) (fun _ _ _ h => (h : False).elim) (by kernel_rfl) (fun _ => ‹_›) ?_ ?_
  · intro w _; go_simp
  try simp only [ga, gb, gc, Act.put, gd, ge, gf]
  refine tkL 2 (.slice ar KR cr) rfl (by kernel_rfl) (fun _ _ _ h => (h : False).elim) (by kernel_rfl) ‹_› ?_ ?_
  · intro w hSw
    obtain ⟨s0, s1, s2, s3⟩ := hSw
    go_simp
  try simp only [ga, gb, gc, Act.put, gd, ge, gf]
  refine tkA 3 (.pointer (some ⟨w.heap.size, 5, none⟩)) rfl (by kernel_rfl) (fun _ _ _ h => (h : False).elim) (by kernel_rfl) (fun _ => ‹_›) ?_ ?_
  · intro w _; go_simp
  try simp only [ga, gb, gc, Act.put, gd, ge, gf]
  refine tkL 4 (.slice (some ⟨bb, oo, none⟩) NP cp) rfl (by kernel_rfl) (fun _ _ _ h => (h : False).elim) (by kernel_rfl) ‹_› ?_ ?_
  · intro w hSw
    obtain ⟨s0, s1, s2, s3⟩ := hSw
    go_simp
  try simp only [ga, gb, gc, Act.put, gd, ge, gf]
  refine tkA 5 (.pointer (some ⟨bb, oo, none⟩)) rfl (by kernel_rfl) (fun _ _ _ h => (h : False).elim) (by kernel_rfl) (fun _ => ‹_›) ?_ ?_
  · intro w _; go_simp
  try simp only [ga, gb, gc, Act.put, gd, ge, gf]
  refine tkL 6 (.agg #[.int .i64 (pt l 0).1, .int .i64 (pt l 0).2]) rfl (by kernel_rfl) (fun _ _ _ h => (h : False).elim) (by kernel_rfl) ‹_› ?_ ?_
  · intro w hSw
    obtain ⟨s0, s1, s2, s3⟩ := hSw
    go_simp
  try simp only [ga, gb, gc, Act.put, gd, ge, gf]
  refine wpAnyL_next (i := 7) (by kernel_rfl) rfl (fun K hK => ?_)
  go_simp
  refine (fence_calls _ rs (pt l 0) HF.out (hp.at 0) _ (HG.out.kept hk1d) (HR.out.kept hk1d)).mono ?_; rintro e x1 ⟨rfl, hkx⟩
  have hS2 : x1.cell? ⟨w.heap.size, 4, none⟩ = some (.slice ar KR cr) ∧ x1.cell? ⟨w.heap.size, 5, none⟩ = some (.slice (some ⟨bb, oo, none⟩) NP cp) ∧ x1.cell? ⟨bb, oo, none⟩ = some (.int .i64 (pt l 0).1) ∧ x1.cell? ⟨bb, oo + 1, none⟩ = some (.int .i64 (pt l 0).2) := ⟨(hkx.cell (p := ⟨w.heap.size, 4, none⟩) hlH (fun h => h)).trans hS.1, (hkx.cell (p := ⟨w.heap.size, 5, none⟩) hlH (fun h => h)).trans hS.2.1, (hkx.cell (p := ⟨bb, oo, none⟩) hlB (fun h => h)).trans hS.2.2.1, (hkx.cell (p := ⟨bb, oo + 1, none⟩) hlB (fun h => h)).trans hS.2.2.2⟩
  have hkx2 := knil hk1d hkx
  obtain ⟨cv, hcv⟩ : ∃ z, fenI rs (pt l 0) = z := ⟨_, rfl⟩
  rw [hcv]
  have HCV := Lib.hid hcv
  clear hcv
  go_wp2_with fail
  refine hK.out _ _ hS2 (fun hHeld => ?_)
  clear hK K
  try simp only [ga, gb, gc, Act.put, gd, ge, gf]
  refine tkA 8 (.int .i64 cv) rfl (by kernel_rfl) (fun _ _ _ h => (h : False).elim) (by kernel_rfl) (fun _ => ‹_›) ?_ ?_
  · intro w _; go_simp
  try simp only [ga, gb, gc, Act.put, gd, ge, gf]
  refine wpAnyL_done (by kernel_rfl) ?_ _
  refine NoPanic.normal ?_
  clear hS hS2
  go_wp2_with fail
  go_ret
  exact ⟨by rw [HCV.out]; rfl, hkx2⟩
end Go.Proofs.YtmoajobnhiopiaaGreatDoor.sv
set_option linter.unusedSimpArgs false
set_option linter.unusedVariables false
namespace Go.Proofs.YtmoajobnhiopiaaGreatDoor.sv
open Go Go.RowKit Go.Shelf Go.Maps Go.Proofs.YtmoajobnhiopiaaGreatDoor.mk Go.Proofs.YtmoajobnhiopiaaGreatDoor.tp Go.Proofs.YtmoajobnhiopiaaGreatDoor.rg Go.Proofs.YtmoajobnhiopiaaGreatDoor.lm Go.Proofs.YtmoajobnhiopiaaGreatDoor.gm Go.Proofs.YtmoajobnhiopiaaGreatDoor.po
open List renaming getElem_toArray → ga, getElem_cons_zero → gb, getElem_cons_succ → gc, setIfInBounds_toArray → gd, set_cons_zero → ge, set_cons_succ → gf
def OpsK (n : Int) (F : FuncId) (w : World) (r : Nat) : Prop := ∃ (es : Array MapEntry) (clock i : Nat), w.heap[r]? = some (.map es clock) ∧ Instr.findNow (.int .i64) (.int .i64 n) es.toList 0 = some (some (i, .agg #[.func (.func F) #[] #[]]))
theorem op_putK {a W : World} {g : Nat} (F : FuncId) (hk : Keeps (fun _ => False) a W) (hg : W.heap[g]? = some (.cells #[.nilFunc] 198 (0, 0))) (hle : a.heap.size ≤ g) :
    ∃ g', (Value.pointer (some ⟨g, 0, none⟩)) = .pointer (some ⟨g', 0, none⟩) ∧ (Value.bool true) = .bool true ∧ (W.setCell ⟨g, 0, none⟩ (.func (.func F) #[] #[])).heap[g']? = some (.cells #[.func (.func F) #[] #[]] 198 (0, 0)) ∧ Keeps (fun _ => False) a (W.setCell ⟨g, 0, none⟩ (.func (.func F) #[] #[])) :=
  ⟨g, rfl, rfl, cells_put hg 0 _, hk.setCell ⟨g, 0, none⟩ (fun hp => by have : g < a.heap.size := hp; omega) _⟩
set_option maxRecDepth 100000 in
set_option maxHeartbeats 8000000 in
theorem answer_gen (n xv xp z : Int) (ah ar ap aq : Option Addr) (K0 ch KR cr NP cp NQ cq : Nat) (F : FuncId) (hcf : ∀ (a : Array Value) (w : World), (callFunc F a).run Tryz.prog w = .ok (.enter F a) w) (w : World)
    (hops : ∀ W, Calls Tryz.prog 127 #[] W fun e w' => (∃ m, e = .returned (.map (some m)) ∧ OpsK n F w' m) ∧ Keeps (fun _ => False) W w')
    (henc : ∀ W, Keeps (fun _ => False) w W → Calls Tryz.prog 87 #[.agg #[.int .i64 n, .int .i64 xv, .slice ah K0 ch, .int .i64 xp, .slice ar KR cr, .slice ap NP cp, .slice aq NQ cq]] W fun e w' => (∃ v, e = .returned (.tuple #[v, .int .i64 0])) ∧ Keeps (fun _ => False) W w')
    (hop : ∀ W, Keeps (fun _ => False) w W → Calls Tryz.prog F #[.pointer none, .agg #[.int .i64 n, .int .i64 xv, .slice ah K0 ch, .int .i64 xp, .slice ar KR cr, .slice ap NP cp, .slice aq NQ cq]] W fun e w' => e = .returned (.int .i64 z) ∧ Keeps (fun _ => False) W w') :
    Calls Tryz.prog 89 #[.pointer none, .agg #[.int .i64 n, .int .i64 xv, .slice ah K0 ch, .int .i64 xp, .slice ar KR cr, .slice ap NP cp, .slice aq NQ cq]] w fun e w' => e = .returned (.tuple #[.agg #[.int .i64 z, .int .i64 0, .slice none 0 0], .int .i64 0]) ∧ Keeps (fun _ => False) w w' := by
  have HOPS := Lib.hid hops
  have HENC := Lib.hid henc
  have HOP := Lib.hid hop
  clear hops henc hop
  go_enter Tryz.func89, Tryz.ntmps89
  go_upto_region 1 with fail
  obtain ⟨w1, hw1⟩ : ∃ w1, (w.alloc (.cells #[.int .i64 n, .int .i64 xv, .slice ah K0 ch, .int .i64 xp, .slice ar KR cr, .slice ap NP cp, .slice aq NQ cq] 105)).alloc (.cells #[.int .i64 0, .int .i64 0, .slice none 0 0] 110) = w1 := ⟨_, rfl⟩
  have hg := heap2 w (.cells #[.int .i64 n, .int .i64 xv, .slice ah K0 ch, .int .i64 xp, .slice ar KR cr, .slice ap NP cp, .slice aq NQ cq] 105) (.cells #[.int .i64 0, .int .i64 0, .slice none 0 0] 110)
  have hk1 : Keeps (fun _ => False) w w1 := by rw [← hw1]; exact ((Keeps.refl _ w).alloc _).alloc _
  rw [hw1] at hg ⊢
  clear hw1
  have hg0 := hg.1
  have G0 := Lib.hid hg.1
  have G1 := Lib.hid hg.2
  have hl0 : w.heap.size < w1.heap.size := (Array.getElem?_eq_some_iff.1 hg.1).1
  have hl1 : w.heap.size + 1 < w1.heap.size := (Array.getElem?_eq_some_iff.1 hg.2).1
  have c0 := cells_at hg0 0
  have c1 := cells_at hg0 1
  have c2 := cells_at hg0 2
  have c3 := cells_at hg0 3
  have c4 := cells_at hg0 4
  have c5 := cells_at hg0 5
  have c6 := cells_at hg0 6
  clear hg hg0
  go_wp2_with fail
  refine (HENC.out w1 hk1).mono ?_; rintro e w2 ⟨⟨ve, rfl⟩, hk2⟩
  clear c0 c1 c2 c3 c4 c5 c6
  have c0 := cells_at ((hk2.block _ hl0 (fun h => h)).trans G0.out) 0
  have hlH := Nat.lt_of_lt_of_le hl0 hk2.size
  go_upto_region 4 with fail
  go_cut [8, 9] from 19 (fun p b wx => ∃ g, p = .pointer (some ⟨g, 0, none⟩) ∧ b = .bool true ∧ wx.heap[g]? = some (.cells #[.func (.func F) #[] #[]] 198 (0, 0)) ∧ Keeps (fun _ => False) w2 wx)
  case first =>
    refine wp_region_late (fun W => W.cell? ⟨w.heap.size, 0, none⟩ = some (.int .i64 n)) [9] (by kernel_rfl) ?_
    have hS : w2.drew.cell? ⟨w.heap.size, 0, none⟩ = some (.int .i64 n) := c0
    have hwd : Keeps (fun _ => False) w2 w2.drew := (Keeps.refl _ w2).drewN 1
    generalize w2.drew = wd at hS hwd ⊢
    refine tkA 1 (.pointer (some ⟨w.heap.size, 0, none⟩)) rfl (by kernel_rfl) (fun _ _ _ h => (h : False).elim) (by kernel_rfl) (fun _ => ‹_›) ?_ ?_
    · intro w _; go_simp
    try simp only [ga, gb, gc, Act.put, gd, ge, gf]
    refine tkA 2 (.pointer (some ⟨w.heap.size, 0, none⟩)) rfl (by kernel_rfl) (fun _ _ _ h => (h : False).elim) (by kernel_rfl) (fun _ => ‹_›) ?_ ?_
    · intro w _; go_simp
    try simp only [ga, gb, gc, Act.put, gd, ge, gf]
    refine tkL 3 (.int .i64 n) rfl (by kernel_rfl) (fun _ _ _ h => (h : False).elim) (by kernel_rfl) ‹_› ?_ ?_
    · intro w hSw
      skip
      go_simp
    try simp only [ga, gb, gc, Act.put, gd, ge, gf]
    refine wpAnyL_fork (rs := [0, 8]) (by kernel_rfl) (by simp) ?_
    refine AllL.cons (i := 0) rfl (fun K hK => ?_) ?_
    · go_simp
      refine (HOPS.out _).mono ?_; rintro e x1 ⟨⟨m, rfl, hm⟩, hkk⟩
      have hx1 : Keeps (fun _ => False) w2 x1 := knil hwd hkk
      go_wp2_with fail
      refine hK.out _ _ ((hx1.cell (p := ⟨w.heap.size, 0, none⟩) hlH (fun h => h)).trans c0) (fun hHeld => ?_)
      clear hK K
      try simp only [ga, gb, gc, Act.put, gd, ge, gf]
      refine wpAnyL_fork (rs := [4, 8]) (by kernel_rfl) (by simp) ?_
      refine AllL.cons (i := 4) rfl (fun K hK => ?_) ?_
      · obtain ⟨es, clock, ix, hmb, hmf⟩ := id hm
        have hlk := run_look (P := Tryz.prog) _ 200 3 198 m clock es n _ ix Tryz.underlying200 Tryz.underlying3 hmb hmf
        go_wp2_with (simp only [hlk])
        refine hK.out _ _ ((hx1.cell (p := ⟨w.heap.size, 0, none⟩) hlH (fun h => h)).trans c0) (fun hHeld => ?_)
        clear hK K
        try simp only [ga, gb, gc, Act.put, gd, ge, gf]
        refine tkA 5 (.tuple #[.agg #[.func (.func F) #[] #[]], .bool true]) rfl (by kernel_rfl) (fun _ _ _ h => (h : False).elim) (by kernel_rfl) (fun _ => ‹_›) ?_ ?_
        · intro w _; go_simp
        try simp only [ga, gb, gc, Act.put, gd, ge, gf]
        refine tkA 6 (.agg #[.func (.func F) #[] #[]]) rfl (by kernel_rfl) (fun _ _ _ h => (h : False).elim) (by kernel_rfl) (fun _ => ‹_›) ?_ ?_
        · intro w _; go_simp
        try simp only [ga, gb, gc, Act.put, gd, ge, gf]
        refine tkA 7 (.bool true) rfl (by kernel_rfl) (fun _ _ _ h => (h : False).elim) (by kernel_rfl) (fun _ => ‹_›) ?_ ?_
        · intro w _; go_simp
        try simp only [ga, gb, gc, Act.put, gd, ge, gf]
        refine wpAnyL_next (i := 8) (by kernel_rfl) rfl (fun K hK => ?_)
        go_simp
        obtain ⟨y1, hwy1⟩ : ∃ y1, (x1).alloc (.cells #[.nilFunc] 198) = y1 := ⟨_, rfl⟩
        obtain ⟨g, hgg⟩ : ∃ g, (x1).heap.size = g := ⟨_, rfl⟩
        have hky : Keeps (fun _ => False) (x1) y1 := by rw [← hwy1]; exact (Keeps.refl _ _).alloc _
        have hy1 : Keeps (fun _ => False) w2 y1 := knil hx1 hky
        have hG := Lib.hid (show y1.heap[g]? = some (.cells #[.nilFunc] 198 (0, 0)) by rw [← hwy1, ← hgg]; exact heap_alloc_new _ _)
        have hgs : w2.heap.size ≤ g := by rw [← hgg]; exact (hx1).size
        try rw [hwy1]
        try rw [hgg]
        refine hK.out _ _ ((hy1.cell (p := ⟨w.heap.size, 0, none⟩) hlH (fun h => h)).trans c0) (fun hHeld => ?_)
        clear hK K
        try simp only [ga, gb, gc, Act.put, gd, ge, gf]
        have hgr := hG.out
        have e0 := two_frozen hgr 0
        have f0 := cells_at hgr 0
        clear hgr
        refine wpAnyL_late (i := 9) (by kernel_rfl) rfl (by kernel_rfl) (fun K hK => ?_)
        rw [if_pos (by kernel_rfl)]
        go_wp2_with fail
        refine hK.out _ _ (fun _ => ?_)
        clear hK K
        try simp only [ga, gb, gc, Act.put, gd, ge, gf]
        refine wpAnyL_after (i := 10) (oi := _) (v := .bool true) rfl (by kernel_rfl) (by kernel_rfl) (by kernel_rfl) (by kernel_rfl) (by kernel_rfl) (fun _ _ _ h => (h : False).elim) (Or.inl ⟨by kernel_rfl, ?_⟩) ?_
        · intro w _; go_simp
        try simp only [ga, gb, gc, Act.put, gd, ge, gf]
        refine wpAnyL_done (by kernel_rfl) ?_ _
        refine NoPanic.normal ?_
        go_wp2_with fail
        go_meet
        exact op_putK F hy1 hG.out hgs
      refine AllL.cons (i := 8) rfl (fun K hK => ?_) AllL.nil
      go_simp
      obtain ⟨y1, hwy1⟩ : ∃ y1, (x1).alloc (.cells #[.nilFunc] 198) = y1 := ⟨_, rfl⟩
      obtain ⟨g, hgg⟩ : ∃ g, (x1).heap.size = g := ⟨_, rfl⟩
      have hky : Keeps (fun _ => False) (x1) y1 := by rw [← hwy1]; exact (Keeps.refl _ _).alloc _
      have hy1 : Keeps (fun _ => False) w2 y1 := knil hx1 hky
      have hG := Lib.hid (show y1.heap[g]? = some (.cells #[.nilFunc] 198 (0, 0)) by rw [← hwy1, ← hgg]; exact heap_alloc_new _ _)
      have hgs : w2.heap.size ≤ g := by rw [← hgg]; exact (hx1).size
      try rw [hwy1]
      try rw [hgg]
      refine hK.out _ _ ((hy1.cell (p := ⟨w.heap.size, 0, none⟩) hlH (fun h => h)).trans c0) (fun hHeld => ?_)
      clear hK K
      try simp only [ga, gb, gc, Act.put, gd, ge, gf]
      have hm : OpsK n F y1 m := by obtain ⟨es, clock, ix, h1, h2⟩ := hm; exact ⟨es, clock, ix, (hky.block m (Array.getElem?_eq_some_iff.1 h1).1 (fun h => h)).trans h1, h2⟩
      refine wpAnyL_next (i := 4) (by kernel_rfl) rfl (fun K hK => ?_)
      obtain ⟨es, clock, ix, hmb, hmf⟩ := id hm
      have hlk := run_look (P := Tryz.prog) _ 200 3 198 m clock es n _ ix Tryz.underlying200 Tryz.underlying3 hmb hmf
      go_wp2_with (simp only [hlk])
      refine hK.out _ _ ((hy1.cell (p := ⟨w.heap.size, 0, none⟩) hlH (fun h => h)).trans c0) (fun hHeld => ?_)
      clear hK K
      try simp only [ga, gb, gc, Act.put, gd, ge, gf]
      refine tkA 5 (.tuple #[.agg #[.func (.func F) #[] #[]], .bool true]) rfl (by kernel_rfl) (fun _ _ _ h => (h : False).elim) (by kernel_rfl) (fun _ => ‹_›) ?_ ?_
      · intro w _; go_simp
      try simp only [ga, gb, gc, Act.put, gd, ge, gf]
      refine tkA 6 (.agg #[.func (.func F) #[] #[]]) rfl (by kernel_rfl) (fun _ _ _ h => (h : False).elim) (by kernel_rfl) (fun _ => ‹_›) ?_ ?_
      · intro w _; go_simp
      try simp only [ga, gb, gc, Act.put, gd, ge, gf]
      refine tkA 7 (.bool true) rfl (by kernel_rfl) (fun _ _ _ h => (h : False).elim) (by kernel_rfl) (fun _ => ‹_›) ?_ ?_
      · intro w _; go_simp
      try simp only [ga, gb, gc, Act.put, gd, ge, gf]
      have hgr := hG.out
      have e0 := two_frozen hgr 0
      have f0 := cells_at hgr 0
      clear hgr
      refine wpAnyL_late (i := 9) (by kernel_rfl) rfl (by kernel_rfl) (fun K hK => ?_)
      rw [if_pos (by kernel_rfl)]
      go_wp2_with fail
      refine hK.out _ _ (fun _ => ?_)
      clear hK K
      try simp only [ga, gb, gc, Act.put, gd, ge, gf]
      refine wpAnyL_after (i := 10) (oi := _) (v := .bool true) rfl (by kernel_rfl) (by kernel_rfl) (by kernel_rfl) (by kernel_rfl) (by kernel_rfl) (fun _ _ _ h => (h : False).elim) (Or.inl ⟨by kernel_rfl, ?_⟩) ?_
      · intro w _; go_simp
      try simp only [ga, gb, gc, Act.put, gd, ge, gf]
      refine wpAnyL_done (by kernel_rfl) ?_ _
      refine NoPanic.normal ?_
      go_wp2_with fail
      go_meet
      exact op_putK F hy1 hG.out hgs
    refine AllL.cons (i := 8) rfl (fun K hK => ?_) AllL.nil
    go_simp
    obtain ⟨y0, hwy0⟩ : ∃ y0, (wd).alloc (.cells #[.nilFunc] 198) = y0 := ⟨_, rfl⟩
    obtain ⟨g, hgg⟩ : ∃ g, (wd).heap.size = g := ⟨_, rfl⟩
    have hky : Keeps (fun _ => False) (wd) y0 := by rw [← hwy0]; exact (Keeps.refl _ _).alloc _
    have hy0 : Keeps (fun _ => False) w2 y0 := knil hwd hky
    have hG := Lib.hid (show y0.heap[g]? = some (.cells #[.nilFunc] 198 (0, 0)) by rw [← hwy0, ← hgg]; exact heap_alloc_new _ _)
    have hgs : w2.heap.size ≤ g := by rw [← hgg]; exact (hwd).size
    try rw [hwy0]
    try rw [hgg]
    refine hK.out _ _ ((hy0.cell (p := ⟨w.heap.size, 0, none⟩) hlH (fun h => h)).trans c0) (fun hHeld => ?_)
    clear hK K
    try simp only [ga, gb, gc, Act.put, gd, ge, gf]
    refine wpAnyL_next (i := 0) (by kernel_rfl) rfl (fun K hK => ?_)
    go_simp
    refine (HOPS.out _).mono ?_; rintro e x2 ⟨⟨m, rfl, hm⟩, hkk⟩
    have hx2 : Keeps (fun _ => False) w2 x2 := knil hy0 hkk
    have hG := Lib.hid ((hkk.block _ (Array.getElem?_eq_some_iff.1 hG.out).1 (fun h => h)).trans hG.out)
    go_wp2_with fail
    refine hK.out _ _ ((hx2.cell (p := ⟨w.heap.size, 0, none⟩) hlH (fun h => h)).trans c0) (fun hHeld => ?_)
    clear hK K
    try simp only [ga, gb, gc, Act.put, gd, ge, gf]
    refine wpAnyL_next (i := 4) (by kernel_rfl) rfl (fun K hK => ?_)
    obtain ⟨es, clock, ix, hmb, hmf⟩ := id hm
    have hlk := run_look (P := Tryz.prog) _ 200 3 198 m clock es n _ ix Tryz.underlying200 Tryz.underlying3 hmb hmf
    go_wp2_with (simp only [hlk])
    refine hK.out _ _ ((hx2.cell (p := ⟨w.heap.size, 0, none⟩) hlH (fun h => h)).trans c0) (fun hHeld => ?_)
    clear hK K
    try simp only [ga, gb, gc, Act.put, gd, ge, gf]
    refine tkA 5 (.tuple #[.agg #[.func (.func F) #[] #[]], .bool true]) rfl (by kernel_rfl) (fun _ _ _ h => (h : False).elim) (by kernel_rfl) (fun _ => ‹_›) ?_ ?_
    · intro w _; go_simp
    try simp only [ga, gb, gc, Act.put, gd, ge, gf]
    refine tkA 6 (.agg #[.func (.func F) #[] #[]]) rfl (by kernel_rfl) (fun _ _ _ h => (h : False).elim) (by kernel_rfl) (fun _ => ‹_›) ?_ ?_
    · intro w _; go_simp
    try simp only [ga, gb, gc, Act.put, gd, ge, gf]
    refine tkA 7 (.bool true) rfl (by kernel_rfl) (fun _ _ _ h => (h : False).elim) (by kernel_rfl) (fun _ => ‹_›) ?_ ?_
    · intro w _; go_simp
    try simp only [ga, gb, gc, Act.put, gd, ge, gf]
    have hgr := hG.out
    have e0 := two_frozen hgr 0
    have f0 := cells_at hgr 0
    clear hgr
    refine wpAnyL_late (i := 9) (by kernel_rfl) rfl (by kernel_rfl) (fun K hK => ?_)
    rw [if_pos (by kernel_rfl)]
    go_wp2_with fail
    refine hK.out _ _ (fun _ => ?_)
    clear hK K
    try simp only [ga, gb, gc, Act.put, gd, ge, gf]
    refine wpAnyL_after (i := 10) (oi := _) (v := .bool true) rfl (by kernel_rfl) (by kernel_rfl) (by kernel_rfl) (by kernel_rfl) (by kernel_rfl) (fun _ _ _ h => (h : False).elim) (Or.inl ⟨by kernel_rfl, ?_⟩) ?_
    · intro w _; go_simp
    try simp only [ga, gb, gc, Act.put, gd, ge, gf]
    refine wpAnyL_done (by kernel_rfl) ?_ _
    refine NoPanic.normal ?_
    go_wp2_with fail
    go_meet
    exact op_putK F hx2 hG.out hgs
  case rest =>
    obtain ⟨g, rfl, rfl, hgo, hk3⟩ := hcut
    have hk13 := knil hk2 hk3
    have d0 : wc.cell? ⟨g, 0, none⟩ = some (.func (.func F) #[] #[]) := cells_at hgo 0
    have hg0 := (hk13.block _ hl0 (fun h => h)).trans G0.out
    clear c0
    have c0 : wc.cell? ⟨w.heap.size, 0, none⟩ = some (.int .i64 n) := cells_at hg0 0
    have c1 : wc.cell? ⟨w.heap.size, 1, none⟩ = some (.int .i64 xv) := cells_at hg0 1
    have c2 : wc.cell? ⟨w.heap.size, 2, none⟩ = some (.slice ah K0 ch) := cells_at hg0 2
    have c3 : wc.cell? ⟨w.heap.size, 3, none⟩ = some (.int .i64 xp) := cells_at hg0 3
    have c4 : wc.cell? ⟨w.heap.size, 4, none⟩ = some (.slice ar KR cr) := cells_at hg0 4
    have c5 : wc.cell? ⟨w.heap.size, 5, none⟩ = some (.slice ap NP cp) := cells_at hg0 5
    have c6 : wc.cell? ⟨w.heap.size, 6, none⟩ = some (.slice aq NQ cq) := cells_at hg0 6
    clear hg0 hgo
    go_upto_region 7 with fail
    go_wp2_with fail
    refine (HOP.out wc (knil hk1 hk13)).mono ?_; rintro e w5 ⟨rfl, hk5⟩
    have hk15 := knil hk13 hk5
    have hg1 := (hk15.block _ hl1 (fun h => h)).trans G1.out
    have a0 := cells_at hg1 0
    have a1 := cells_at hg1 1
    have a2 := cells_at hg1 2
    have f0 := two_frozen hg1 0
    have f1 := two_frozen hg1 1
    have f2 := two_frozen hg1 2
    have HG1 := Lib.hid hg1
    clear c0 c1 c2 c3 c4 c5 c6 d0 hg1
    go_wp2_with fail
    refine bodyPost_ret (results_ans rfl _ _ _ _ _ _ _ _ rfl (cells_three HG1.out)) rfl ⟨rfl, keeps_three (knil hk1 hk15) (by omega) _ _ _⟩
set_option maxRecDepth 100000 in
set_option maxHeartbeats 4000000 in
theorem operations_all (w : World) : Calls Tryz.prog 127 #[] w fun e w' => (∃ m, e = .returned (.map (some m)) ∧ OpsK 1 150 w' m ∧ OpsK 2 151 w' m ∧ OpsK 3 152 w' m ∧ OpsK 4 154 w' m) ∧ Keeps (fun _ => False) w w' := by
  have hk0 : Keeps (fun _ => False) w (w.alloc (.map #[] 0)) := (Keeps.refl _ w).alloc _
  obtain ⟨w1, u1, b1, k1⟩ := upd_ex (P := Tryz.prog) (w.alloc (.map #[] 0)) 200 3 198 w.heap.size 0 #[] 1 (.agg #[.func (.func 150) #[] #[]]) Tryz.underlying200 Tryz.underlying3 (heap_alloc_new w _) rfl
  obtain ⟨w2, u2, b2, k2⟩ := upd_ex (P := Tryz.prog) w1 200 3 198 w.heap.size _ _ 2 (.agg #[.func (.func 151) #[] #[]]) Tryz.underlying200 Tryz.underlying3 b1 rfl
  obtain ⟨w3, u3, b3, k3⟩ := upd_ex (P := Tryz.prog) w2 200 3 198 w.heap.size _ _ 3 (.agg #[.func (.func 152) #[] #[]]) Tryz.underlying200 Tryz.underlying3 b2 rfl
  obtain ⟨w4, u4, b4, k4⟩ := upd_ex (P := Tryz.prog) w3 200 3 198 w.heap.size _ _ 4 (.agg #[.func (.func 154) #[] #[]]) Tryz.underlying200 Tryz.underlying3 b3 rfl
  have B4 := Lib.hid b4
  have K4 := Lib.hid ((((hk0.trans k1 (fun i hi h => by omega)).trans k2 (fun i hi h => by omega)).trans k3 (fun i hi h => by omega)).trans k4 (fun i hi h => by omega))
  have hmk := fun w => run_makeMap_plain (P := Tryz.prog) w 200
  clear b1 b2 b3 b4 k1 k2 k3 k4 hk0
  go_enter Tryz.func127, Tryz.ntmps127
  go_wp2_with (simp only [hmk, u1, u2, u3, u4])
  go_ret
  exact ⟨⟨_, rfl, ⟨_, _, _, B4.out, rfl⟩, ⟨_, _, _, B4.out, rfl⟩, ⟨_, _, _, B4.out, rfl⟩, ⟨_, _, _, B4.out, rfl⟩⟩, K4.out⟩
def ansV (h : Hd) (rs : List Reg) (ps : List (Int × Int)) : Int :=
  if h.op = 1 then sgnI (det (pt ps 0) (pt ps 1) (pt ps 2)) + 1 else if h.op = 2 then sgnI (inc (pt ps 0) (pt ps 1) (pt ps 2) (pt ps 3)) + 1
  else if h.op = 3 then convI (ps.take (ps.length - 1)) (pt ps (ps.length - 1)) else fenI rs (pt ps 0)
def RegsOk (l : List Reg) : Prop := ∀ r ∈ l, Pts r.2.2
theorem fenOk_of {h : Hd} {rs : List Reg} {ps : List (Int × Int)} {qs : List Qry} (ho : HdOk h) (h4 : 4 ≤ h.op) (hf : Fits h rs ps qs) (hr : RegsOk rs) : FenOk rs := by
  rcases ho with ⟨h1, _⟩ | ⟨h1, _⟩ | ⟨_, _, ⟨h1, h2⟩, h3, _⟩
  · omega
  · omega
  refine ⟨by rw [hf.1]; exact ⟨h1, h2⟩, fun i hi => ?_⟩
  rw [hf.1] at hi
  obtain ⟨_, k2, k3⟩ := hf.2.1 i hi
  refine ⟨by rw [k2]; exact k3, ?_, hr _ (rg_mem (by rw [hf.1]; exact hi))⟩
  rw [k2]
  have := List.any_eq_false.1 h3 _ (rg_mem hi)
  unfold wrongR at this
  simpa using this
theorem answer_calls (v : Value) (h : Hd) (rs : List Reg) (ps : List (Int × Int)) (qs : List Qry) (ho : HdOk h) (h5 : h.op ≠ 5) (hf : Fits h rs ps qs) (hqo : QsOk qs) (hro : RegsOk rs) (hpo : Pts ps) (w : World) (hG : Gl w) (hv : RqAt w v h rs ps qs) :
    Calls Tryz.prog 89 #[.pointer none, v] w fun e w' => e = .returned (.tuple #[.agg #[.int .i64 (ansV h rs ps), .int .i64 0, .slice none 0 0], .int .i64 0]) ∧ Keeps (fun _ => False) w w' := by
  have henc := fun W (hk : Keeps (fun _ => False) w W) => encode_calls v h rs ps qs ho hf hqo W (hv.kept hk)
  obtain ⟨ah, ch, vr, vp, vq, rfl, hreg, hz, hrr, hpt, hqq, hcp⟩ := hv
  obtain ⟨ar, cr, rfl⟩ := hrr.shape
  obtain ⟨ap, cp, rfl⟩ := ptsAt.shape hpt
  obtain ⟨aq, cq, rfl⟩ := hqq.shape
  have hcnt := hf.2.2.1
  have h4 : h.op = 1 ∨ h.op = 2 ∨ (h.op = 3 ∧ 3 ≤ h.vt ∧ h.vt ≤ 64) ∨ h.op = 4 := by
    rcases ho with ⟨h1 | h1, _⟩ | ⟨h1, h2, _⟩ | ⟨⟨h1, _⟩ | ⟨h1, _⟩, _⟩
    · exact .inl h1
    · exact .inr (.inl h1)
    · exact .inr (.inr (.inl ⟨h1, h2⟩))
    · exact .inr (.inr (.inr h1))
    · exact absurd h1 h5
  rcases h4 with h4 | h4 | ⟨h4, hv1, hv2⟩ | h4
  · have hl : ps.length = 3 := by unfold cntP at hcnt; rw [h4] at hcnt; simp at hcnt; omega
    have hz' : ansV h rs ps = sgnI (det (pt ps 0) (pt ps 1) (pt ps 2)) + 1 := by unfold ansV; rw [if_pos h4]
    rw [hz']
    rw [h4] at henc ⊢
    exact answer_gen 1 _ _ _ ah _ _ _ _ _ _ _ _ _ _ _ 150 (fun a w => by kernel_rfl) w (fun W => (operations_all W).mono fun e w' ⟨⟨m, k1, k2, _⟩, k3⟩ => ⟨⟨m, k1, k2⟩, k3⟩) henc (fun W hk => oper_1 _ _ _ _ _ _ _ _ _ _ _ _ _ _ _ ps hl hl hpo W (hG.kept hk) (ptsAt.kept hpt hk))
  · have hl : ps.length = 4 := by unfold cntP at hcnt; rw [h4] at hcnt; simp at hcnt; omega
    have hz' : ansV h rs ps = sgnI (inc (pt ps 0) (pt ps 1) (pt ps 2) (pt ps 3)) + 1 := by unfold ansV; rw [h4]; rfl
    rw [hz']
    rw [h4] at henc ⊢
    exact answer_gen 2 _ _ _ ah _ _ _ _ _ _ _ _ _ _ _ 151 (fun a w => by kernel_rfl) w (fun W => (operations_all W).mono fun e w' ⟨⟨m, k1, _, k2, _⟩, k3⟩ => ⟨⟨m, k1, k2⟩, k3⟩) henc (fun W hk => oper_2 _ _ _ _ _ _ _ _ _ _ _ _ _ _ _ ps hl hl hpo W (hG.kept hk) (ptsAt.kept hpt hk))
  · obtain ⟨n, hn⟩ : ∃ n : Nat, h.vt = n := ⟨h.vt.toNat, by omega⟩
    have hl : ps.length = n + 1 := by unfold cntP at hcnt; rw [h4, hn] at hcnt; simp at hcnt; omega
    have hz' : ansV h rs ps = convI (ps.take n) (pt ps n) := by unfold ansV; rw [h4, hl]; rfl
    rw [hz']
    rw [h4, hl] at henc
    rw [hl] at hcp hpt
    rw [h4, hl]
    exact answer_gen 3 _ _ _ ah _ _ _ _ _ _ _ _ _ _ _ 152 (fun a w => by kernel_rfl) w (fun W => (operations_all W).mono fun e w' ⟨⟨m, k1, _, _, k2, _⟩, k3⟩ => ⟨⟨m, k1, k2⟩, k3⟩) henc (fun W hk => oper_3 _ _ _ _ _ _ _ _ _ _ _ n _ _ _ ps hl (by omega) (by omega) hcp hpo W (hG.kept hk) (ptsAt.kept hpt hk))
  · have hl : ps.length = 1 := by unfold cntP at hcnt; rw [h4] at hcnt; simp at hcnt; omega
    have hz' : ansV h rs ps = fenI rs (pt ps 0) := by unfold ansV; rw [h4]; rfl
    have hfe := fenOk_of ho (by omega) hf hro
    rw [hz']
    rw [h4] at henc ⊢
    exact answer_gen 4 _ _ _ ah _ _ _ _ _ _ _ _ _ _ _ 154 (fun a w => by kernel_rfl) w (fun W => (operations_all W).mono fun e w' ⟨⟨m, k1, _, _, _, k2⟩, k3⟩ => ⟨⟨m, k1, k2⟩, k3⟩) henc (fun W hk => oper_4 _ _ _ _ _ _ _ _ _ _ _ _ _ _ _ ps rs hl hl hfe hpo W (hG.kept hk) (hrr.kept hk) (ptsAt.kept hpt hk))
end Go.Proofs.YtmoajobnhiopiaaGreatDoor.sv
namespace Go.Proofs.YtmoajobnhiopiaaGreatDoor.nw
def bt (i v : Nat) : Bool := i / v % 2 == 1
def R {α : Type} (lo hi : α → α → α) (k j : Nat) (f : Nat → α) (i : Nat) : α :=
  if bt i j then (if bt (i - j) k then lo (f (i - j)) (f i) else hi (f (i - j)) (f i)) else (if bt i k then hi (f i) (f (i + j)) else lo (f i) (f (i + j)))
def rounds {α : Type} (S : Nat → (Nat → α) → Nat → α) : Nat → (Nat → α) → Nat → α
  | 0, f => f
  | q + 1, f => rounds S q (S (2 ^ q) f)
def RA (j : Nat) (f : Nat → Bool) (i : Nat) : Bool := if bt i j then f (i - j) || f i else f i && f (i + j)
def RB (k j : Nat) (f : Nat → Bool) : Nat → Bool := R and or k j f
theorem bt_low {q c t : Nat} (ht : t < 2 ^ q) : bt (c * 2 ^ (q + 1) + t) (2 ^ q) = false := by
  unfold bt
  have h0 := Nat.two_pow_pos q
  have e : (c * 2 ^ (q + 1) + t) / 2 ^ q = c * 2 := by
    rw [Nat.pow_succ, show c * (2 ^ q * 2) = 2 ^ q * (c * 2) by rw [Nat.mul_comm (2 ^ q) 2, ← Nat.mul_assoc, Nat.mul_comm], Nat.mul_add_div h0, Nat.div_eq_of_lt ht, Nat.add_zero]
  rw [e, Nat.mul_mod_left]
  rfl
theorem bt_high {q c t : Nat} (ht : t < 2 ^ q) : bt (c * 2 ^ (q + 1) + 2 ^ q + t) (2 ^ q) = true := by
  unfold bt
  have h0 := Nat.two_pow_pos q
  have e : (c * 2 ^ (q + 1) + 2 ^ q + t) / 2 ^ q = c * 2 + 1 := by
    rw [Nat.pow_succ, show c * (2 ^ q * 2) + 2 ^ q + t = 2 ^ q * (c * 2 + 1) + t by rw [Nat.mul_add, Nat.mul_one, Nat.mul_comm (2 ^ q) (c * 2), Nat.mul_assoc, Nat.mul_comm 2 (2 ^ q)], Nat.mul_add_div h0, Nat.div_eq_of_lt ht, Nat.add_zero]
  rw [e]
  have : (c * 2 + 1) % 2 = 1 := by omega
  rw [this]
  rfl
theorem bt_block {p c t : Nat} (ht : t < 2 ^ p) : bt (c * 2 ^ p + t) (2 ^ p) = (c % 2 == 1) := by
  unfold bt
  rw [Nat.mul_comm, Nat.mul_add_div (Nat.two_pow_pos p), Nat.div_eq_of_lt ht, Nat.add_zero]
def Bit (f : Nat → Bool) (o m : Nat) : Prop := ∃ (s : Bool) (a b : Nat), ∀ t, t < m → f (o + t) = (s ^^ decide (a ≤ t ∧ t < b))
def Con (f : Nat → Bool) (o m : Nat) (v : Bool) : Prop := ∀ t, t < m → f (o + t) = v
def Asc (f : Nat → Bool) (o m : Nat) : Prop := ∃ c, ∀ t, t < m → f (o + t) = decide (c ≤ t)
theorem RA_low {q c t : Nat} (f : Nat → Bool) (ht : t < 2 ^ q) : RA (2 ^ q) f (c * 2 ^ (q + 1) + t) = (f (c * 2 ^ (q + 1) + t) && f (c * 2 ^ (q + 1) + 2 ^ q + t)) := by
  unfold RA
  rw [bt_low ht]
  simp only [Bool.false_eq_true, if_false]
  congr 2
  omega
theorem RA_high {q c t : Nat} (f : Nat → Bool) (ht : t < 2 ^ q) : RA (2 ^ q) f (c * 2 ^ (q + 1) + 2 ^ q + t) = (f (c * 2 ^ (q + 1) + t) || f (c * 2 ^ (q + 1) + 2 ^ q + t)) := by
  unfold RA
  rw [bt_high ht]
  simp only [if_true]
  congr 2
  omega
theorem split {q c : Nat} {f : Nat → Bool} (h : Bit f (c * 2 ^ (q + 1)) (2 ^ (q + 1))) :
    Bit (RA (2 ^ q) f) (c * 2 ^ (q + 1)) (2 ^ q) ∧ Bit (RA (2 ^ q) f) (c * 2 ^ (q + 1) + 2 ^ q) (2 ^ q) ∧ (Con (RA (2 ^ q) f) (c * 2 ^ (q + 1)) (2 ^ q) false ∨ Con (RA (2 ^ q) f) (c * 2 ^ (q + 1) + 2 ^ q) (2 ^ q) true) := by
  obtain ⟨s, a, b, h⟩ := h
  have hm : 2 ^ (q + 1) = 2 ^ q + 2 ^ q := by rw [Nat.pow_succ]; omega
  have f1 : ∀ t, t < 2 ^ q → f (c * 2 ^ (q + 1) + t) = (s ^^ decide (a ≤ t ∧ t < b)) := fun t ht => h t (by omega)
  have f2 : ∀ t, t < 2 ^ q → f (c * 2 ^ (q + 1) + 2 ^ q + t) = (s ^^ decide (a ≤ 2 ^ q + t ∧ 2 ^ q + t < b)) := fun t ht => by rw [Nat.add_assoc]; exact h (2 ^ q + t) (by omega)
  have g1 : ∀ t, t < 2 ^ q → RA (2 ^ q) f (c * 2 ^ (q + 1) + t) = ((s ^^ decide (a ≤ t ∧ t < b)) && (s ^^ decide (a ≤ 2 ^ q + t ∧ 2 ^ q + t < b))) := fun t ht => by rw [RA_low f ht, f1 t ht, f2 t ht]
  have g2 : ∀ t, t < 2 ^ q → RA (2 ^ q) f (c * 2 ^ (q + 1) + 2 ^ q + t) = ((s ^^ decide (a ≤ t ∧ t < b)) || (s ^^ decide (a ≤ 2 ^ q + t ∧ 2 ^ q + t < b))) := fun t ht => by rw [RA_high f ht, f1 t ht, f2 t ht]
  clear h f1 f2 hm
  generalize 2 ^ q = m at g1 g2 ⊢
  -- of both halves: the meet is an interval, the join an interval or its complement
  have meet : ∀ t, t < m → (decide (a ≤ t ∧ t < b) && decide (a ≤ m + t ∧ m + t < b)) = decide (a ≤ t ∧ t < b - m) := by
    intro t ht; rw [Bool.eq_iff_iff]; simp only [Bool.and_eq_true, decide_eq_true_eq]; omega
  have join : ∃ (s' : Bool) (a' b' : Nat), ∀ t, t < m → (decide (a ≤ t ∧ t < b) || decide (a ≤ m + t ∧ m + t < b)) = (s' ^^ decide (a' ≤ t ∧ t < b')) := by
    by_cases h1 : b ≤ m
    · exact ⟨false, a, b, fun t ht => by rw [Bool.eq_iff_iff]; simp only [Bool.or_eq_true, decide_eq_true_eq, Bool.false_xor]; omega⟩
    · by_cases h2 : m ≤ a
      · exact ⟨false, a - m, b - m, fun t ht => by rw [Bool.eq_iff_iff]; simp only [Bool.or_eq_true, decide_eq_true_eq, Bool.false_xor]; omega⟩
      · refine ⟨true, b - m, a, fun t ht => ?_⟩
        rw [Bool.eq_iff_iff]; simp only [Bool.or_eq_true, decide_eq_true_eq, Bool.true_xor, Bool.not_eq_true', decide_eq_false_iff_not]; omega
  have key : (∀ t, t < m → (decide (a ≤ t ∧ t < b) && decide (a ≤ m + t ∧ m + t < b)) = false) ∨ (∀ t, t < m → (decide (a ≤ t ∧ t < b) || decide (a ≤ m + t ∧ m + t < b)) = true) := by
    by_cases h1 : m ≤ a ∨ b - m ≤ a
    · left; intro t ht; rw [meet t ht]; rw [decide_eq_false_iff_not]; omega
    · right; intro t ht; simp only [Bool.or_eq_true, decide_eq_true_eq]; omega
  obtain ⟨s', a', b', join⟩ := join
  cases s with
  | false =>
    simp only [Bool.false_xor] at g1 g2
    refine ⟨⟨false, a, b - m, fun t ht => by rw [g1 t ht, meet t ht, Bool.false_xor]⟩, ⟨s', a', b', fun t ht => by rw [g2 t ht, join t ht]⟩, ?_⟩
    rcases key with k | k
    · exact .inl fun t ht => by rw [g1 t ht, k t ht]
    · exact .inr fun t ht => by rw [g2 t ht, k t ht]
  | true =>
    simp only [Bool.true_xor] at g1 g2
    refine ⟨⟨!s', a', b', fun t ht => by rw [g1 t ht, ← Bool.not_or, join t ht, Bool.not_xor]⟩, ⟨true, a, b - m, fun t ht => by rw [g2 t ht, ← Bool.not_and, meet t ht, Bool.true_xor]⟩, ?_⟩
    rcases key with k | k
    · exact .inr fun t ht => by rw [g2 t ht, ← Bool.not_and, k t ht]; rfl
    · exact .inl fun t ht => by rw [g1 t ht, ← Bool.not_or, k t ht]; rfl
theorem half1 (c q : Nat) : c * 2 ^ (q + 1) = (c * 2) * 2 ^ q := by rw [Nat.pow_succ, Nat.mul_comm (2 ^ q) 2, Nat.mul_assoc]
theorem half2 (c q : Nat) : c * 2 ^ (q + 1) + 2 ^ q = (c * 2 + 1) * 2 ^ q := by rw [half1, Nat.add_mul, Nat.one_mul]
theorem rounds_con (q : Nat) : ∀ (f : Nat → Bool) (c : Nat) (v : Bool), Con f (c * 2 ^ q) (2 ^ q) v → Con (rounds RA q f) (c * 2 ^ q) (2 ^ q) v := by
  induction q with
  | zero => exact fun f c v h => h
  | succ q ih =>
    intro f c v h t ht
    have hm : 2 ^ (q + 1) = 2 ^ q + 2 ^ q := by rw [Nat.pow_succ]; omega
    have g1 : ∀ t, t < 2 ^ q → RA (2 ^ q) f (c * 2 ^ (q + 1) + t) = v := fun t ht => by
      rw [RA_low f ht, h t (by omega), Nat.add_assoc, h (2 ^ q + t) (by omega), Bool.and_self]
    have g2 : ∀ t, t < 2 ^ q → RA (2 ^ q) f (c * 2 ^ (q + 1) + 2 ^ q + t) = v := fun t ht => by
      rw [RA_high f ht, h t (by omega), Nat.add_assoc, h (2 ^ q + t) (by omega), Bool.or_self]
    show rounds RA q (RA (2 ^ q) f) _ = v
    by_cases hl : t < 2 ^ q
    · have := ih (RA (2 ^ q) f) (c * 2) v (by rw [← half1]; exact g1) t hl
      rwa [← half1] at this
    · have := ih (RA (2 ^ q) f) (c * 2 + 1) v (by rw [← half2]; exact g2) (t - 2 ^ q) (by omega)
      rwa [← half2, Nat.add_assoc, show 2 ^ q + (t - 2 ^ q) = t by omega] at this
theorem merge (q : Nat) : ∀ (f : Nat → Bool) (c : Nat), Bit f (c * 2 ^ q) (2 ^ q) → Asc (rounds RA q f) (c * 2 ^ q) (2 ^ q) := by
  induction q with
  | zero =>
    intro f c _
    refine ⟨if f (c * 2 ^ 0) then 0 else 1, fun t ht => ?_⟩
    have h0 : t = 0 := by simp at ht; exact ht
    subst h0
    show f (c * 2 ^ 0 + 0) = _
    rw [Nat.add_zero]
    cases f (c * 2 ^ 0) <;> rfl
  | succ q ih =>
    intro f c h
    obtain ⟨b1, b2, key⟩ := split h
    have hm : 2 ^ (q + 1) = 2 ^ q + 2 ^ q := by rw [Nat.pow_succ]; omega
    obtain ⟨c1, h1⟩ := ih (RA (2 ^ q) f) (c * 2) (by rw [← half1]; exact b1)
    obtain ⟨c2, h2⟩ := ih (RA (2 ^ q) f) (c * 2 + 1) (by rw [← half2]; exact b2)
    rw [← half1] at h1
    rw [← half2] at h2
    have h2' : ∀ t, 2 ^ q ≤ t → t < 2 ^ (q + 1) → rounds RA q (RA (2 ^ q) f) (c * 2 ^ (q + 1) + t) = decide (c2 ≤ t - 2 ^ q) := fun t h ht => by
      have := h2 (t - 2 ^ q) (by omega)
      rwa [Nat.add_assoc, show 2 ^ q + (t - 2 ^ q) = t by omega] at this
    rcases key with k | k
    · have k1 := rounds_con q (RA (2 ^ q) f) (c * 2) false (by rw [← half1]; exact k)
      rw [← half1] at k1
      refine ⟨2 ^ q + c2, fun t ht => ?_⟩
      show rounds RA q (RA (2 ^ q) f) _ = _
      by_cases hl : t < 2 ^ q
      · rw [k1 t hl]; symm; rw [decide_eq_false_iff_not]; omega
      · rw [h2' t (by omega) ht, decide_eq_decide]; omega
    · have k2 := rounds_con q (RA (2 ^ q) f) (c * 2 + 1) true (by rw [← half2]; exact k)
      rw [← half2] at k2
      refine ⟨min c1 (2 ^ q), fun t ht => ?_⟩
      show rounds RA q (RA (2 ^ q) f) _ = _
      by_cases hl : t < 2 ^ q
      · rw [h1 t hl, decide_eq_decide]; omega
      · have := k2 (t - 2 ^ q) (by omega)
        rw [Nat.add_assoc, show 2 ^ q + (t - 2 ^ q) = t by omega] at this
        rw [this]; symm; rw [decide_eq_true_eq]; omega
theorem rounds_dir (k : Nat) (d : Bool) (q : Nat) : ∀ (f f' : Nat → Bool) (c : Nat), (∀ t, t < 2 ^ q → bt (c * 2 ^ q + t) k = d) → (∀ t, t < 2 ^ q → f' (c * 2 ^ q + t) = (d ^^ f (c * 2 ^ q + t))) →
    ∀ t, t < 2 ^ q → rounds RA q f' (c * 2 ^ q + t) = (d ^^ rounds (RB k) q f (c * 2 ^ q + t)) := by
  induction q with
  | zero => exact fun f f' c _ h t ht => h t ht
  | succ q ih =>
    intro f f' c hb h t ht
    have hm : 2 ^ (q + 1) = 2 ^ q + 2 ^ q := by rw [Nat.pow_succ]; omega
    have hbm : ∀ t, t < 2 ^ q → bt (c * 2 ^ (q + 1) + 2 ^ q + t) k = d := fun t ht => by rw [Nat.add_assoc]; exact hb _ (by omega)
    have hm2 : ∀ t, t < 2 ^ q → f' (c * 2 ^ (q + 1) + 2 ^ q + t) = (d ^^ f (c * 2 ^ (q + 1) + 2 ^ q + t)) := fun t ht => by rw [Nat.add_assoc]; exact h _ (by omega)
    have g1 : ∀ t, t < 2 ^ q → RA (2 ^ q) f' (c * 2 ^ (q + 1) + t) = (d ^^ RB k (2 ^ q) f (c * 2 ^ (q + 1) + t)) := fun t ht => by
      rw [RA_low f' ht, h t (by omega), hm2 t ht]
      unfold RB R
      rw [bt_low ht, hb t (by omega), show c * 2 ^ (q + 1) + t + 2 ^ q = c * 2 ^ (q + 1) + 2 ^ q + t by omega]
      generalize f (c * 2 ^ (q + 1) + t) = x
      generalize f (c * 2 ^ (q + 1) + 2 ^ q + t) = y
      cases d <;> cases x <;> cases y <;> rfl
    have g2 : ∀ t, t < 2 ^ q → RA (2 ^ q) f' (c * 2 ^ (q + 1) + 2 ^ q + t) = (d ^^ RB k (2 ^ q) f (c * 2 ^ (q + 1) + 2 ^ q + t)) := fun t ht => by
      rw [RA_high f' ht, h t (by omega), hm2 t ht]
      unfold RB R
      rw [bt_high ht, show c * 2 ^ (q + 1) + 2 ^ q + t - 2 ^ q = c * 2 ^ (q + 1) + t by omega, hb t (by omega)]
      generalize f (c * 2 ^ (q + 1) + t) = x
      generalize f (c * 2 ^ (q + 1) + 2 ^ q + t) = y
      cases d <;> cases x <;> cases y <;> rfl
    show rounds RA q (RA (2 ^ q) f') _ = (d ^^ rounds (RB k) q (RB k (2 ^ q) f) _)
    by_cases hl : t < 2 ^ q
    · have := ih (RB k (2 ^ q) f) (RA (2 ^ q) f') (c * 2) (by rw [← half1]; exact fun t ht => hb t (by omega)) (by rw [← half1]; exact g1) t hl
      rwa [← half1] at this
    · have := ih (RB k (2 ^ q) f) (RA (2 ^ q) f') (c * 2 + 1) (by rw [← half2]; exact hbm) (by rw [← half2]; exact g2) (t - 2 ^ q) (by omega)
      rwa [← half2, Nat.add_assoc, show 2 ^ q + (t - 2 ^ q) = t by omega] at this
def net {α : Type} (S : Nat → Nat → (Nat → α) → Nat → α) : Nat → (Nat → α) → Nat → α
  | 0, f => f
  | r + 1, f => rounds (S (2 ^ (r + 1))) (r + 1) (net S r f)
def Srt (d : Bool) (f : Nat → Bool) (o m : Nat) : Prop := ∃ c, ∀ t, t < m → (d ^^ f (o + t)) = decide (c ≤ t)
theorem stage {p : Nat} {f : Nat → Bool} (h : ∀ c, Srt (c % 2 == 1) f (c * 2 ^ p) (2 ^ p)) (c : Nat) : Srt (c % 2 == 1) (rounds (RB (2 ^ (p + 1))) (p + 1) f) (c * 2 ^ (p + 1)) (2 ^ (p + 1)) := by
  obtain ⟨c1, h1⟩ := h (c * 2)
  obtain ⟨c2, h2⟩ := h (c * 2 + 1)
  rw [show (c * 2 % 2 == 1) = false by rw [Nat.mul_mod_left]; rfl, ← half1] at h1
  rw [show ((c * 2 + 1) % 2 == 1) = true by rw [show (c * 2 + 1) % 2 = 1 by omega]; rfl, ← half2] at h2
  have hm : 2 ^ (p + 1) = 2 ^ p + 2 ^ p := by rw [Nat.pow_succ]; omega
  have hf : ∀ t, t < 2 ^ (p + 1) → f (c * 2 ^ (p + 1) + t) = decide (min c1 (2 ^ p) ≤ t ∧ t < 2 ^ p + c2) := by
    intro t ht
    by_cases hl : t < 2 ^ p
    · have := h1 t hl
      rw [Bool.false_xor] at this
      rw [this, decide_eq_decide]; omega
    · have := h2 (t - 2 ^ p) (by omega)
      rw [Bool.true_xor, Nat.add_assoc, show 2 ^ p + (t - 2 ^ p) = t by omega] at this
      rw [← Bool.not_not (f (c * 2 ^ (p + 1) + t)), this, ← decide_not, decide_eq_decide]; omega
  have hb : Bit (fun x => (c % 2 == 1) ^^ f x) (c * 2 ^ (p + 1)) (2 ^ (p + 1)) := ⟨c % 2 == 1, min c1 (2 ^ p), 2 ^ p + c2, fun t ht => by show ((c % 2 == 1) ^^ f (c * 2 ^ (p + 1) + t)) = _; rw [hf t ht]⟩
  obtain ⟨c0, h0⟩ := merge (p + 1) _ c hb
  exact ⟨c0, fun t ht => by rw [← h0 t ht]; exact (rounds_dir (2 ^ (p + 1)) (c % 2 == 1) (p + 1) f _ c (fun t ht => bt_block ht) (fun t _ => rfl) t ht).symm⟩
theorem net_sorts (f : Nat → Bool) : ∀ (r c : Nat), Srt (c % 2 == 1) (net RB r f) (c * 2 ^ r) (2 ^ r)
  | 0, c => ⟨if (c % 2 == 1) ^^ f (c * 2 ^ 0) then 0 else 1, fun t ht => by
      have h0 : t = 0 := by simp at ht; exact ht
      subst h0
      rw [Nat.add_zero]
      show ((c % 2 == 1) ^^ f (c * 2 ^ 0)) = _
      cases ((c % 2 == 1) ^^ f (c * 2 ^ 0)) <;> rfl⟩
  | r + 1, c => stage (net_sorts f r) c
def RI (k j : Nat) (f : Nat → Int) : Nat → Int := R min max k j f
theorem th_R (t : Int) (k j : Nat) (f : Nat → Int) : (fun i => decide (t ≤ RI k j f i)) = RB k j (fun i => decide (t ≤ f i)) := by
  have e1 : ∀ x y : Int, decide (t ≤ min x y) = (decide (t ≤ x) && decide (t ≤ y)) := fun x y => by rw [Bool.eq_iff_iff]; simp only [Bool.and_eq_true, decide_eq_true_eq]; omega
  have e2 : ∀ x y : Int, decide (t ≤ max x y) = (decide (t ≤ x) || decide (t ≤ y)) := fun x y => by rw [Bool.eq_iff_iff]; simp only [Bool.or_eq_true, decide_eq_true_eq]; omega
  funext i
  unfold RI RB R
  split <;> split <;> first | exact e1 _ _ | exact e2 _ _
theorem th_rounds (t : Int) (k : Nat) : ∀ (q : Nat) (f : Nat → Int), (fun i => decide (t ≤ rounds (RI k) q f i)) = rounds (RB k) q (fun i => decide (t ≤ f i))
  | 0, _ => rfl
  | q + 1, f => by
    show (fun i => decide (t ≤ rounds (RI k) q (RI k (2 ^ q) f) i)) = rounds (RB k) q (RB k (2 ^ q) fun i => decide (t ≤ f i))
    rw [th_rounds t k q, th_R]
theorem th_net (t : Int) (f : Nat → Int) : ∀ r, (fun i => decide (t ≤ net RI r f i)) = net RB r (fun i => decide (t ≤ f i))
  | 0 => rfl
  | r + 1 => by
    show (fun i => decide (t ≤ rounds (RI (2 ^ (r + 1))) (r + 1) (net RI r f) i)) = rounds (RB (2 ^ (r + 1))) (r + 1) (net RB r fun i => decide (t ≤ f i))
    rw [th_rounds, th_net t f r]
theorem net_mono (r : Nat) (f : Nat → Int) {i j : Nat} (hij : i ≤ j) (hj : j < 2 ^ r) : net RI r f i ≤ net RI r f j := by
  obtain ⟨c, hc⟩ := net_sorts (fun x => decide (net RI r f i ≤ f x)) r 0
  rw [← th_net] at hc
  have h1 := hc i (by omega)
  have h2 := hc j hj
  simp only [Nat.zero_mul, Nat.zero_add, Nat.zero_mod, show ((0 : Nat) == 1) = false from rfl, Bool.false_xor] at h1 h2
  rw [decide_eq_true (Int.le_refl _)] at h1
  have := of_decide_eq_true h1.symm
  rw [decide_eq_true (show c ≤ j by omega)] at h2
  exact of_decide_eq_true h2
end Go.Proofs.YtmoajobnhiopiaaGreatDoor.nw
namespace Go.Proofs.YtmoajobnhiopiaaGreatDoor.nw
def cmpr (k j i : Nat) : Nat × Nat := if bt i k then (i + j, i) else (i, i + j)
def comps (k j n : Nat) : List (Nat × Nat) := (List.range n).flatMap fun i => if bt i j then [] else [cmpr k j i]
def rl (k n : Nat) : Nat → List (Nat × Nat)
  | 0 => []
  | q + 1 => comps k (2 ^ q) n ++ rl k n q
def nl (n : Nat) : Nat → List (Nat × Nat)
  | 0 => []
  | r + 1 => nl n r ++ rl (2 ^ (r + 1)) n (r + 1)
def cx (l : List Int) (c : Nat × Nat) : List Int := (l.set c.1 (min (l.getD c.1 0) (l.getD c.2 0))).set c.2 (max (l.getD c.1 0) (l.getD c.2 0))
theorem cx_length (l : List Int) (c : Nat × Nat) : (cx l c).length = l.length := by simp [cx]
theorem fold_length (L : List (Nat × Nat)) : ∀ l : List Int, (L.foldl cx l).length = l.length := by
  induction L with
  | nil => intro l; rfl
  | cons c L ih => intro l; rw [List.foldl_cons, ih, cx_length]
theorem bt_le {x q : Nat} (h : bt x (2 ^ q) = true) : 2 ^ q ≤ x := by
  rcases Nat.lt_or_ge x (2 ^ q) with hl | hl
  · unfold bt at h
    rw [Nat.div_eq_of_lt hl] at h
    cases h
  · exact hl
theorem bt_sub {x q : Nat} (h : bt x (2 ^ q) = true) : bt (x - 2 ^ q) (2 ^ q) = false := by
  have hle := bt_le h
  have h0 := Nat.two_pow_pos q
  unfold bt at h ⊢
  have e : x / 2 ^ q = (x - 2 ^ q) / 2 ^ q + 1 := by
    conv => lhs; rw [show x = (x - 2 ^ q) + 2 ^ q by omega]
    exact Nat.add_div_right _ h0
  rw [beq_iff_eq] at h
  rw [beq_eq_false_iff_ne]
  omega
theorem bt_add {x q : Nat} (h : bt x (2 ^ q) = false) : bt (x + 2 ^ q) (2 ^ q) = true := by
  have h0 := Nat.two_pow_pos q
  unfold bt at h ⊢
  rw [Nat.add_div_right _ h0]
  rw [beq_eq_false_iff_ne] at h
  rw [beq_iff_eq]
  omega
theorem bt_lt {x q n : Nat} (h : bt x (2 ^ q) = false) (hx : x < n) (hn : 2 ^ (q + 1) ∣ n) : x + 2 ^ q < n := by
  obtain ⟨m, rfl⟩ := hn
  have h0 := Nat.two_pow_pos q
  unfold bt at h
  rw [beq_eq_false_iff_ne] at h
  have h1 : x / 2 ^ q < 2 * m := by
    rw [Nat.div_lt_iff_lt_mul h0]
    rw [Nat.pow_succ] at hx
    rw [Nat.mul_comm 2 m, Nat.mul_assoc, Nat.mul_comm 2]
    rwa [Nat.mul_comm (2 ^ q * 2) m] at hx
  have h2 : x / 2 ^ q + 1 < 2 * m := by omega
  have h3 : (x + 2 ^ q) / 2 ^ q < 2 * m := by rw [Nat.add_div_right _ h0]; exact h2
  rw [Nat.div_lt_iff_lt_mul h0] at h3
  rw [Nat.pow_succ, Nat.mul_assoc, Nat.mul_comm (2 ^ q)]
  exact h3
theorem getD_cx {l : List Int} {a b x : Nat} (ha : a < l.length) (hb : b < l.length) : (cx l (a, b)).getD x 0 = if x = b then max (l.getD a 0) (l.getD b 0) else if x = a then min (l.getD a 0) (l.getD b 0) else l.getD x 0 := by
  show ((l.set a _).set b _).getD x 0 = _
  simp only [List.getD_eq_getElem?_getD, List.getElem?_set]
  by_cases h1 : b = x
  · subst h1
    rw [if_pos rfl, if_pos rfl, if_pos (by simpa using hb)]
    rfl
  · rw [if_neg h1, if_neg (show ¬ x = b from fun h => h1 h.symm)]
    by_cases h2 : a = x
    · subst h2
      rw [if_pos rfl, if_pos rfl, if_pos ha]
      rfl
    · rw [if_neg h2, if_neg (show ¬ x = a from fun h => h2 h.symm)]
theorem comps_upto {k q n : Nat} (hn : 2 ^ (q + 1) ∣ n) (l : List Int) (hl : l.length = n) : ∀ t, t ≤ n → ∀ x, x < n →
    ((((List.range t).flatMap fun i => if bt i (2 ^ q) then [] else [cmpr k (2 ^ q) i]).foldl cx l).getD x 0) = if (if bt x (2 ^ q) then x - 2 ^ q else x) < t then RI k (2 ^ q) (fun i => l.getD i 0) x else l.getD x 0 := by
  intro t
  induction t with
  | zero => intro _ x _; simp
  | succ t ih =>
    intro ht x hx
    have h0 := Nat.two_pow_pos q
    rw [List.range_succ, List.flatMap_append, List.foldl_append]
    have hlen := fold_length ((List.range t).flatMap fun i => if bt i (2 ^ q) then [] else [cmpr k (2 ^ q) i]) l
    have ih' := ih (by omega)
    generalize ((List.range t).flatMap fun i => if bt i (2 ^ q) then [] else [cmpr k (2 ^ q) i]).foldl cx l = m at hlen ih' ⊢
    by_cases hb : bt t (2 ^ q) = true
    · have e : ((([t] : List Nat).flatMap fun i => if bt i (2 ^ q) then [] else [cmpr k (2 ^ q) i]).foldl cx m) = m := by simp [hb]
      rw [e, ih' x hx]
      have hne : (if bt x (2 ^ q) then x - 2 ^ q else x) ≠ t := by
        intro h
        by_cases hbx : bt x (2 ^ q) = true
        · rw [if_pos hbx] at h
          have := bt_sub hbx
          rw [h, hb] at this
          cases this
        · rw [if_neg hbx] at h
          rw [h] at hbx
          exact hbx hb
      by_cases h1 : (if bt x (2 ^ q) then x - 2 ^ q else x) < t
      · rw [if_pos h1, if_pos (by omega)]
      · rw [if_neg h1, if_neg (by omega)]
    · have hb' : bt t (2 ^ q) = false := by simpa using hb
      have htn := bt_lt hb' (by omega) hn
      have e : ((([t] : List Nat).flatMap fun i => if bt i (2 ^ q) then [] else [cmpr k (2 ^ q) i]).foldl cx m) = cx m (cmpr k (2 ^ q) t) := by simp [hb']
      rw [e]
      have m1 : m.getD t 0 = l.getD t 0 := by rw [ih' t (by omega), if_neg (by rw [hb']; simp)]
      have m2 : m.getD (t + 2 ^ q) 0 = l.getD (t + 2 ^ q) 0 := by
        rw [ih' _ htn, if_neg]
        rw [bt_add hb', if_pos rfl]; omega
      have hx1 : ∀ y, (if bt y (2 ^ q) then y - 2 ^ q else y) = t → y = t ∨ y = t + 2 ^ q := by
        intro y hy
        by_cases hby : bt y (2 ^ q) = true
        · rw [if_pos hby] at hy
          have := bt_le hby
          right; omega
        · rw [if_neg hby] at hy; exact .inl hy
      have lowt : (if bt t (2 ^ q) then t - 2 ^ q else t) = t := by rw [hb']; simp
      have lowt' : (if bt (t + 2 ^ q) (2 ^ q) then t + 2 ^ q - 2 ^ q else t + 2 ^ q) = t := by rw [bt_add hb', if_pos rfl]; omega
      have r1 : RI k (2 ^ q) (fun i => l.getD i 0) t = if bt t k then max (l.getD t 0) (l.getD (t + 2 ^ q) 0) else min (l.getD t 0) (l.getD (t + 2 ^ q) 0) := by
        unfold RI R; rw [hb']; rfl
      have r2 : RI k (2 ^ q) (fun i => l.getD i 0) (t + 2 ^ q) = if bt t k then min (l.getD t 0) (l.getD (t + 2 ^ q) 0) else max (l.getD t 0) (l.getD (t + 2 ^ q) 0) := by
        unfold RI R; rw [bt_add hb', if_pos rfl, show t + 2 ^ q - 2 ^ q = t by omega]
      have hother : x ≠ t → x ≠ t + 2 ^ q → (if (if bt x (2 ^ q) then x - 2 ^ q else x) < t + 1 then RI k (2 ^ q) (fun i => l.getD i 0) x else l.getD x 0) = m.getD x 0 := by
        intro n1 n2
        have hne : (if bt x (2 ^ q) then x - 2 ^ q else x) ≠ t := fun h => by rcases hx1 x h with h | h; exact n1 h; exact n2 h
        rw [ih' x hx]
        by_cases h1 : (if bt x (2 ^ q) then x - 2 ^ q else x) < t
        · rw [if_pos h1, if_pos (by omega)]
        · rw [if_neg h1, if_neg (by omega)]
      unfold cmpr
      by_cases hk : bt t k = true
      · rw [if_pos hk, getD_cx (by omega) (by omega), m1, m2]
        rw [if_pos hk] at r1 r2
        by_cases n1 : x = t
        · subst n1
          rw [if_pos rfl, lowt, if_pos (by omega), r1, Int.max_comm]
        · rw [if_neg n1]
          by_cases n2 : x = t + 2 ^ q
          · subst n2
            rw [if_pos rfl, lowt', if_pos (by omega), r2, Int.min_comm]
          · rw [if_neg n2, hother n1 n2]
      · rw [if_neg hk, getD_cx (by omega) (by omega), m1, m2]
        rw [if_neg hk] at r1 r2
        by_cases n2 : x = t + 2 ^ q
        · subst n2
          rw [if_pos rfl, lowt', if_pos (by omega), r2]
        · rw [if_neg n2]
          by_cases n1 : x = t
          · subst n1
            rw [if_pos rfl, lowt, if_pos (by omega), r1]
          · rw [if_neg n1, hother n1 n2]
theorem comps_R {k q n : Nat} (hn : 2 ^ (q + 1) ∣ n) (l : List Int) (hl : l.length = n) {x : Nat} (hx : x < n) : ((comps k (2 ^ q) n).foldl cx l).getD x 0 = RI k (2 ^ q) (fun i => l.getD i 0) x := by
  have := comps_upto (k := k) hn l hl n (Nat.le_refl _) x hx
  rw [if_pos (by split <;> omega)] at this
  exact this
theorem RI_cong {k q n : Nat} (hn : 2 ^ (q + 1) ∣ n) {f g : Nat → Int} (h : ∀ x, x < n → f x = g x) {x : Nat} (hx : x < n) : RI k (2 ^ q) f x = RI k (2 ^ q) g x := by
  unfold RI R
  by_cases hb : bt x (2 ^ q) = true
  · rw [if_pos hb, if_pos hb, h x hx, h (x - 2 ^ q) (by omega)]
  · rw [if_neg hb, if_neg hb, h x hx, h (x + 2 ^ q) (bt_lt (by simpa using hb) hx hn)]
theorem rounds_cong {k n : Nat} : ∀ (q : Nat), 2 ^ q ∣ n → ∀ {f g : Nat → Int}, (∀ x, x < n → f x = g x) → ∀ {x : Nat}, x < n → rounds (RI k) q f x = rounds (RI k) q g x
  | 0, _, _, _, h, x, hx => h x hx
  | q + 1, hn, _, _, h, _, hx => rounds_cong q (Nat.dvd_trans (Nat.pow_dvd_pow 2 (Nat.le_succ q)) hn) (fun _ hy => RI_cong hn h hy) hx
theorem rl_R {k n : Nat} : ∀ (q : Nat), 2 ^ q ∣ n → ∀ (l : List Int), l.length = n → ∀ {x : Nat}, x < n → ((rl k n q).foldl cx l).getD x 0 = rounds (RI k) q (fun i => l.getD i 0) x
  | 0, _, _, _, _, _ => rfl
  | q + 1, hn, l, hl, x, hx => by
    show ((comps k (2 ^ q) n ++ rl k n q).foldl cx l).getD x 0 = rounds (RI k) q (RI k (2 ^ q) fun i => l.getD i 0) x
    have hn' : 2 ^ q ∣ n := Nat.dvd_trans (Nat.pow_dvd_pow 2 (Nat.le_succ q)) hn
    rw [List.foldl_append, rl_R q hn' _ (by rw [fold_length, hl]) hx]
    exact rounds_cong q hn' (fun y hy => comps_R hn l hl hy) hx
theorem nl_R {n : Nat} : ∀ (r : Nat), 2 ^ r ∣ n → ∀ (l : List Int), l.length = n → ∀ {x : Nat}, x < n → ((nl n r).foldl cx l).getD x 0 = net RI r (fun i => l.getD i 0) x
  | 0, _, _, _, _, _ => rfl
  | r + 1, hn, l, hl, x, hx => by
    show ((nl n r ++ rl (2 ^ (r + 1)) n (r + 1)).foldl cx l).getD x 0 = rounds (RI (2 ^ (r + 1))) (r + 1) (net RI r fun i => l.getD i 0) x
    have hn' : 2 ^ r ∣ n := Nat.dvd_trans (Nat.pow_dvd_pow 2 (Nat.le_succ r)) hn
    rw [List.foldl_append, rl_R (r + 1) hn _ (by rw [fold_length, hl]) hx]
    exact rounds_cong (r + 1) hn (fun y hy => nl_R r hn' l hl hy) hx
theorem nl_sorts {r : Nat} {l : List Int} (hl : l.length = 2 ^ r) : ((nl (2 ^ r) r).foldl cx l).Pairwise (· ≤ ·) := by
  rw [List.pairwise_iff_getElem]
  intro i j hi hj hij
  have hlen := fold_length (nl (2 ^ r) r) l
  have g : ∀ x (hx : x < ((nl (2 ^ r) r).foldl cx l).length), ((nl (2 ^ r) r).foldl cx l)[x] = net RI r (fun i => l.getD i 0) x := by
    intro x hx
    have := nl_R r (Nat.dvd_refl _) l hl (x := x) (by omega)
    rw [List.getD_eq_getElem?_getD, List.getElem?_eq_getElem hx] at this
    exact this
  rw [g i hi, g j hj]
  exact net_mono r _ (by omega) (by omega)
theorem comps_mem {k q n : Nat} (hn : 2 ^ (q + 1) ∣ n) {c : Nat × Nat} (h : c ∈ comps k (2 ^ q) n) : c.1 < n ∧ c.2 < n ∧ c.1 ≠ c.2 := by
  unfold comps at h
  obtain ⟨i, hi, hc⟩ := List.mem_flatMap.1 h
  rw [List.mem_range] at hi
  have h0 := Nat.two_pow_pos q
  by_cases hb : bt i (2 ^ q) = true
  · rw [if_pos hb] at hc; simp at hc
  · rw [if_neg hb] at hc
    have := bt_lt (by simpa using hb) hi hn
    rw [List.mem_singleton] at hc
    rw [hc]
    unfold cmpr
    split
    · exact ⟨this, hi, by show i + 2 ^ q ≠ i; omega⟩
    · exact ⟨hi, this, by show i ≠ i + 2 ^ q; omega⟩
theorem rl_mem {k n : Nat} : ∀ (q : Nat), 2 ^ q ∣ n → ∀ {c : Nat × Nat}, c ∈ rl k n q → c.1 < n ∧ c.2 < n ∧ c.1 ≠ c.2
  | 0, _, c, h => by simp [rl] at h
  | q + 1, hn, c, h => by
    rcases List.mem_append.1 h with h | h
    · exact comps_mem hn h
    · exact rl_mem q (Nat.dvd_trans (Nat.pow_dvd_pow 2 (Nat.le_succ q)) hn) h
theorem nl_mem {n : Nat} : ∀ (r : Nat), 2 ^ r ∣ n → ∀ {c : Nat × Nat}, c ∈ nl n r → c.1 < n ∧ c.2 < n ∧ c.1 ≠ c.2
  | 0, _, c, h => by simp [nl] at h
  | r + 1, hn, c, h => by
    rcases List.mem_append.1 h with h | h
    · exact nl_mem r (Nat.dvd_trans (Nat.pow_dvd_pow 2 (Nat.le_succ r)) hn) h
    · exact rl_mem (r + 1) hn h
theorem cx_perm {l : List Int} {c : Nat × Nat} (h1 : c.1 < l.length) (h2 : c.2 < l.length) : (cx l c).Perm l := by
  have g1 : l.getD c.1 0 = l[c.1] := by rw [List.getD_eq_getElem?_getD, List.getElem?_eq_getElem h1]; rfl
  have g2 : l.getD c.2 0 = l[c.2] := by rw [List.getD_eq_getElem?_getD, List.getElem?_eq_getElem h2]; rfl
  unfold cx
  rw [g1, g2]
  by_cases h : l[c.1] ≤ l[c.2]
  · rw [Int.min_eq_left h, Int.max_eq_right h, List.set_getElem_self, List.set_getElem_self]
  · rw [Int.min_eq_right (by omega), Int.max_eq_left (by omega)]
    exact List.set_set_perm h1 h2
theorem fold_perm : ∀ (L : List (Nat × Nat)) (l : List Int), (∀ c ∈ L, c.1 < l.length ∧ c.2 < l.length) → (L.foldl cx l).Perm l
  | [], l, _ => List.Perm.refl l
  | c :: L, l, h => by
    have hc := h c (by simp)
    exact (fold_perm L (cx l c) (fun d hd => by rw [cx_length]; exact h d (by simp [hd]))).trans (cx_perm hc.1 hc.2)
theorem nl_perm {r : Nat} {l : List Int} (hl : l.length = 2 ^ r) : ((nl (2 ^ r) r).foldl cx l).Perm l :=
  fold_perm _ l fun c hc => by have := nl_mem r (Nat.dvd_refl _) hc; rw [hl]; exact ⟨this.1, this.2.1⟩
theorem sorted_unique {l m : List Int} (hl : l.Pairwise (· ≤ ·)) (hm : m.Pairwise (· ≤ ·)) (h : l.Perm m) : l = m :=
  h.eq_of_pairwise (fun _ _ _ _ h1 h2 => Int.le_antisymm h1 h2) hl hm
end Go.Proofs.YtmoajobnhiopiaaGreatDoor.nw
set_option linter.unusedSimpArgs false
set_option linter.unusedVariables false
namespace Go.Proofs.YtmoajobnhiopiaaGreatDoor.so
open Go Go.Proofs.YtmoajobnhiopiaaGreatDoor.mk Go.Proofs.YtmoajobnhiopiaaGreatDoor.nw
abbrev Rec := Int × Int
def RecOk (r : Rec) : Prop := IsU r.1 ∧ IsU r.2
def cleanR (r : Rec) : Rec := (r.1 % 2, if r.1 % 2 = 1 then r.2 else 0)
def keyR (r : Rec) : Int := if r.1 % 2 = 1 then r.2 else 18446744073709551616
def unkey (k : Int) : Rec := if k < 18446744073709551616 then (1, k) else (0, 0)
theorem unkey_key {r : Rec} (h : RecOk r) : unkey (keyR r) = cleanR r := by
  obtain ⟨a, b⟩ := r
  have hb : IsU b := h.2
  unfold IsU at hb
  show unkey (keyR (a, b)) = (a % 2, if a % 2 = 1 then b else 0)
  unfold keyR unkey
  simp only
  by_cases h1 : a % 2 = 1
  · rw [if_pos h1, if_pos h1, if_pos (by omega), h1]
  · have h0 : a % 2 = 0 := by omega
    rw [if_neg h1, if_neg h1, if_neg (by omega), h0]
theorem cleanR_ok {r : Rec} (h : RecOk r) : RecOk (cleanR r) := by
  unfold RecOk IsU cleanR at *
  refine ⟨by omega, ?_⟩
  simp only
  split
  · exact h.2
  · omega
theorem key_unkey {k : Int} (h0 : 0 ≤ k) (h1 : k ≤ 18446744073709551616) : keyR (unkey k) = k := by
  unfold unkey keyR
  by_cases h : k < 18446744073709551616
  · rw [if_pos h]; rfl
  · rw [if_neg h]; show (18446744073709551616 : Int) = k; omega
def IsK (k : Int) : Prop := 0 ≤ k ∧ k ≤ 18446744073709551616
theorem keyR_isK {r : Rec} (h : RecOk r) : IsK (keyR r) := by
  unfold RecOk IsU at h
  unfold keyR IsK
  split <;> omega
theorem unkey_ok {k : Int} (h : IsK k) : RecOk (unkey k) := by
  unfold IsK at h
  unfold unkey RecOk IsU
  split <;> simp only <;> omega
def lessR (x y : Rec) : Bool := decide (keyR x < keyR y)
def loR (r s : Rec) : Rec := if lessR s r then s else r
def hiR (r s : Rec) : Rec := if lessR s r then r else s
theorem lo_hi_key {a b : Int} (ha : IsK a) (hb : IsK b) : loR (unkey a) (unkey b) = unkey (min a b) ∧ hiR (unkey a) (unkey b) = unkey (max a b) := by
  unfold loR hiR lessR
  rw [key_unkey ha.1 ha.2, key_unkey hb.1 hb.2]
  by_cases h : b < a
  · rw [decide_eq_true h]
    exact ⟨congrArg unkey (by omega), congrArg unkey (by omega)⟩
  · rw [decide_eq_false h]
    exact ⟨congrArg unkey (by omega), congrArg unkey (by omega)⟩
theorem less_parts {x y : Rec} (hx : RecOk x) (hy : RecOk y) : (decide ((cleanR y).1 < (cleanR x).1) || ((cleanR x).1 == (cleanR y).1 && decide ((cleanR x).2 < (cleanR y).2))) = lessR x y := by
  obtain ⟨a, b⟩ := x
  obtain ⟨c, d⟩ := y
  have hb : IsU b := hx.2
  have hd : IsU d := hy.2
  unfold IsU at hb hd
  unfold lessR cleanR keyR
  simp only
  rcases Int.emod_two_eq a with h | h <;> rcases Int.emod_two_eq c with h' | h' <;> rw [h, h'] <;> simp <;> omega
def rflat (l : List Rec) : List Value := l.flatMap fun r => [.int .u64 r.1, .int .u64 r.2]
theorem rflat_length (l : List Rec) : (rflat l).length = l.length * 2 := by
  induction l with
  | nil => rfl
  | cons c L ih =>
    show ([Value.int .u64 c.1, .int .u64 c.2] ++ rflat L).length = _
    rw [List.length_append, ih]
    show 2 + L.length * 2 = (L.length + 1) * 2
    omega
theorem rflat_append (l m : List Rec) : rflat (l ++ m) = rflat l ++ rflat m := by unfold rflat; rw [List.flatMap_append]
theorem rflat_get (L : List Rec) : ∀ (i : Nat) (c : Rec), L[i]? = some c → (rflat L)[i * 2]? = some (.int .u64 c.1) ∧ (rflat L)[i * 2 + 1]? = some (.int .u64 c.2) := by
  induction L with
  | nil => intro i c h; simp at h
  | cons d L ih =>
    intro i c h
    have e : rflat (d :: L) = [Value.int .u64 d.1, .int .u64 d.2] ++ rflat L := rfl
    rw [e]
    cases i with
    | zero => simp at h; subst h; simp
    | succ i =>
      obtain ⟨h1, h2⟩ := ih i c (by simpa using h)
      have e2 : ([Value.int .u64 d.1, .int .u64 d.2] : List Value).length = 2 := rfl
      refine ⟨?_, ?_⟩
      · rw [List.getElem?_append_right (by rw [e2]; omega), e2, show (i + 1) * 2 - 2 = i * 2 from by omega]; exact h1
      · rw [List.getElem?_append_right (by rw [e2]; omega), e2, show (i + 1) * 2 + 1 - 2 = i * 2 + 1 from by omega]; exact h2
theorem rflat_set (L : List Rec) : ∀ (i : Nat) (c : Rec), i < L.length → rflat (L.set i c) = ((rflat L).set (i * 2) (.int .u64 c.1)).set (i * 2 + 1) (.int .u64 c.2) := by
  induction L with
  | nil => intro i c h; simp at h
  | cons d L ih =>
    intro i c h
    have e : ∀ d L, rflat (d :: L) = Value.int .u64 d.1 :: .int .u64 d.2 :: rflat L := fun _ _ => rfl
    cases i with
    | zero => rfl
    | succ i =>
      rw [List.set_cons_succ, e, e, ih i c (by simpa using h), show (i + 1) * 2 = (i * 2 + 1) + 1 by omega]
      rfl
theorem unkey_cx {ks : List Int} {x y : Nat} {a b : Int} (ha : ks[x]? = some a) (hb : ks[y]? = some b) : (cx ks (x, y)).map unkey = ((ks.map unkey).set x (unkey (min a b))).set y (unkey (max a b)) := by
  have g1 : ks.getD x 0 = a := by rw [List.getD_eq_getElem?_getD, ha]; rfl
  have g2 : ks.getD y 0 = b := by rw [List.getD_eq_getElem?_getD, hb]; rfl
  unfold cx
  simp only [g1, g2, List.map_set]
end Go.Proofs.YtmoajobnhiopiaaGreatDoor.so
namespace Go.Proofs.YtmoajobnhiopiaaGreatDoor.tp
open Go Go.RowKit Go.Maps
theorem infoEv : (Tryz.prog.info? 134).map (fun i => (i.zero, i.size, i.bytes)) = some (some (.agg #[.int .i64 0, .int .i64 0, .int .i64 0]), 3, 24) := by kernel_rfl
theorem lawInt : Keyed Tryz.prog 3 := int_keyed Tryz.underlying3
theorem zeroInt (w : World) : (zeroValue 3).run Tryz.prog w = .ok (.int .i64 0) w := by kernel_rfl
theorem note_calls (b : Nat) (S : Nat → Prop) (l : List Ev) (e : Ev) (w : World) (hT : tapeAt w S b l) (he : EvOk e) (hlen : l.length ≤ 1099511627776) :
    Calls Tryz.prog 45 #[.pointer (some ⟨b, 0, none⟩), .int .i64 e.1, .int .i64 e.2.1, .int .i64 e.2.2] w fun r w' => r = .returned (.tuple #[]) ∧ tapeAt w' (fun k => S k ∨ w.heap.size ≤ k) b (l ++ [e]) ∧ Keeps S w w' := by
  have hblt := hT.lt
  obtain ⟨hS, v, mb, D, hb, hrow, hg, hm, hown, hc⟩ := hT
  obtain ⟨k0, k1, k2⟩ := e
  obtain ⟨hk0, hk1, hk2⟩ := he
  obtain ⟨i0, hi, hz0, hz1, hz2⟩ := info_parts infoEv
  obtain ⟨ao, cp, rfl⟩ : ∃ ao cp, v = .slice ao l.length cp := by
    rcases hrow.2 with ⟨rfl, h0⟩ | ⟨g, cap, cur, rfl, _⟩
    · exact ⟨_, _, by rw [h0]⟩
    · exact ⟨_, _, rfl⟩
  have c0 : w.cell? ⟨b, 0, none⟩ = some (.slice ao l.length cp) := by rw [cell_of_row w b 0 _ _ _ hb]; rfl
  have c1 : w.cell? ⟨b, 1, none⟩ = some (.map (some mb)) := by rw [cell_of_row w b 1 _ _ _ hb]; rfl
  have hkey := keyOf_int_mk Tryz.underlying3 hk0
  go_enter Tryz.func45, Tryz.ntmps45
  go_wp2_with (at_builtin; refine wpList_append_mine _ rfl _ _ 129 rfl 134 i0 (.agg #[.int .i64 0, .int .i64 0, .int .i64 0]) 3 24 Tryz.underlying129 hi hz0 hz1 hz2 rfl (by decide) _ _ _ rfl (hrow.alloc _) ⟨w.heap.size, 0, none⟩ 1 1 (evC (k0, k1, k2)) rfl rfl ?c1 ?c2 (by decide) ?c3 ?c4 ?_)
  case c1 => intro j u hj; exact hj
  case c2 => intro u hu; simp [evC] at hu; rcases hu with rfl | rfl | rfl <;> rfl
  case c3 => unfold maxLen; omega
  case c4 => omega
  intro g' cap' w1 hown1 hgrow1 hgg
  have hKe : Keeps S w w1 := ((Keeps.refl S w).alloc _).grown hgrow1 (fun k e _ => hg k e)
  have hb1 : w1.heap[b]? = some (.cells #[.slice ao l.length cp, .map (some mb)] 132 (0, 0)) := by
    rw [hgrow1.block b (by simp; omega) (fun e => row_ne hrow (by decide) hb e.symm), Below.heap_alloc _ _ _ hblt]
    exact hb
  have c10 : w1.cell? ⟨b, 0, none⟩ = some (.slice ao l.length cp) := by rw [cell_of_row w1 b 0 _ _ _ hb1]; rfl
  have c11 : w1.cell? ⟨b, 1, none⟩ = some (.map (some mb)) := by rw [cell_of_row w1 b 1 _ _ _ hb1]; rfl
  have f10 : w1.frozen? ⟨b, 0, none⟩ = false := two_frozen hb1 _
  have hmb : mb ≠ b := fun e => by obtain ⟨es, clock, h, _⟩ := hown; rw [e, hb] at h; cases h
  have hown1' : w1.ownsMap Tryz.prog 3 (plainElem Tryz.prog 3) mb l.length D := by
    refine (hown.alloc _).kept hgrow1 (fun e => ?_)
    obtain ⟨es, clock, h, _⟩ := hown
    exact row_no_map hrow h e.symm
  have hown2 : (w1.setCell ⟨b, 0, none⟩ (.slice (some ⟨g', 0, none⟩) (l.length + 1) cap')).ownsMap Tryz.prog 3 (plainElem Tryz.prog 3) mb l.length D := by
    obtain ⟨es, clock, h, r⟩ := hown1'
    exact ⟨es, clock, by rw [Below.heap_setCell _ _ _ _ hmb]; exact h, r⟩
  have hb2 := two_setCell hb1 (.slice (some ⟨g', 0, none⟩) (l.length + 1) cap')
  have hKe2 : Keeps S w (w1.setCell ⟨b, 0, none⟩ (.slice (some ⟨g', 0, none⟩) (l.length + 1) cap')) := hKe.setCell _ (fun _ => hS) _
  have hrow2 : (w1.setCell ⟨b, 0, none⟩ (.slice (some ⟨g', 0, none⟩) (l.length + 1) cap')).ownsRow 0 134 3 (.slice (some ⟨g', 0, none⟩) (l.length + 1) cap') (l.length + 1) (flat l ++ evC (k0, k1, k2)) :=
    row_setCell hown1 (fun e => row_ne hown1 (by decide) hb1 e) _
  have hg' : S g' ∨ w.heap.size ≤ g' := hgg.elim (fun h => .inl (hg g' h)) (fun h => .inr (by omega))
  have hgmb : (.slice (some ⟨g', 0, none⟩) (l.length + 1) cap' : Value).ownBlock ≠ some mb := by
    obtain ⟨es, clock, h, _⟩ := hown2
    exact row_no_map hrow2 h
  clear hb hrow hown hgrow1 hb1 hown1 hown1' c0 c1 hgg
  go_wp2_with (first | (at_lookup; refine wpList_lookup_own_int _ rfl _ _ 130 rfl 3 3 .i64 lawInt Tryz.underlying130 Tryz.underlying3 (zeroInt _) mb l.length D rfl hown2 _ _ rfl hkey ?_; intro c hat hwc) | (at_mapUpdate; refine wpList_mapUpdate_own _ rfl _ _ _ 130 rfl 3 3 lawInt Tryz.underlying130 _ mb l.length D rfl hown2 (by unfold maxLen; omega) _ _ _ rfl rfl hkey _ [] (plainElem_int Tryz.underlying3 (wrap64_wf _)) ?_; intro w3 hown3 hgrow3))
  go_end0
  refine ⟨rfl, ?_, hKe2.grown hgrow3 (fun k e _ => by cases e; exact hm)⟩
  obtain ⟨hc2, hce⟩ := hc.snoc (k0, k1, k2) hk0 hat
  have hce' : c = (cntE l k0 : Nat) := hce
  have hcl := cntE_le l k0
  have hwr : wrap64 (c + 1) = c + 1 := IntWalk.wrap64_in _ ⟨by clear hce; omega, by clear hce; omega⟩
  rw [hwr] at hown3
  refine ⟨.inl hS, .slice (some ⟨g', 0, none⟩) (l.length + 1) cap', mb, _, ?_, ?_, ?_, .inl hm, ?_, hc2⟩
  · rw [hgrow3.block b (Array.getElem?_eq_some_iff.1 hb2).1 (fun e => hmb (by simpa using e.symm))]
    exact hb2
  · rw [List.length_append, flat_append, flat_one]
    exact hrow2.kept hgrow3 (.inr hgmb)
  · intro g e
    cases e
    exact hg'
  · rw [List.length_append]
    exact hown3
end Go.Proofs.YtmoajobnhiopiaaGreatDoor.tp
namespace Go.Proofs.YtmoajobnhiopiaaGreatDoor.ar
open Go Go.RowKit Go.Shelf Go.Proofs.YtmoajobnhiopiaaGreatDoor.tp Go.Proofs.YtmoajobnhiopiaaGreatDoor.mk Go.Proofs.YtmoajobnhiopiaaGreatDoor.rg
attribute [local go_sem] Oper.semAt_some
def wordsAt (w : World) (v : Value) (l : List Int) : Prop :=
  (l = [] ∧ ∃ ao cap, v = .slice ao 0 cap) ∨ (l ≠ [] ∧ ∃ b off cap, v = .slice (some ⟨b, off, none⟩) l.length cap ∧ b < w.heap.size ∧ ∀ (i : Nat) (x : Int), l[i]? = some x → w.cell? ⟨b, off + i, none⟩ = some (.int .u64 x))
def qAt (w : World) (S : Nat → Prop) (q : Option Addr) (l : List Ev) : Prop := (q = none ∧ l = []) ∨ ∃ b, q = some ⟨b, 0, none⟩ ∧ tapeAt w S b l
theorem qAt.keep {w w' : World} {S T : Nat → Prop} {q : Option Addr} {l : List Ev} (h : qAt w S q l) (hk : Keeps T w w') (hST : ∀ k, k < w.heap.size → S k → ¬ T k) : qAt w' S q l := by
  rcases h with h | ⟨b, hq, hT⟩
  · exact .inl h
  · exact .inr ⟨b, hq, hT.keep hk hST⟩
theorem qAt.mono {w : World} {S T : Nat → Prop} {q : Option Addr} {l : List Ev} (h : qAt w S q l) (hST : ∀ k, k < w.heap.size → S k → T k) : qAt w T q l := by
  rcases h with h | ⟨b, hq, hT⟩
  · exact .inl h
  · exact .inr ⟨b, hq, hT.mono hST⟩
theorem note_none (k a b : Int) (w : World) : Calls Tryz.prog 45 #[.pointer none, .int .i64 k, .int .i64 a, .int .i64 b] w fun e w' => e = .returned (.tuple #[]) ∧ w' = w := by
  go_enter Tryz.func45, Tryz.ntmps45
  go_wp2
  refine bodyPost_ret (results_none rfl _ _ _) rfl ?_
  exact ⟨rfl, rfl⟩
theorem keeps_putObj (w : World) (r : Nat) (o : Obj) : Keeps (fun k => k = r) w (w.putObj r o) :=
  ⟨rfl, rfl, rfl, by simp, fun k _ hk => World.putObj_heap_other hk⟩
end Go.Proofs.YtmoajobnhiopiaaGreatDoor.ar
namespace Go.Proofs.YtmoajobnhiopiaaGreatDoor.ar
open Go Go.RowKit Go.Shelf Go.Proofs.YtmoajobnhiopiaaGreatDoor.tp Go.Proofs.YtmoajobnhiopiaaGreatDoor.mk Go.Proofs.YtmoajobnhiopiaaGreatDoor.rg
attribute [local go_sem] Oper.semAt_some
theorem or_zero {a : Int} (h : IsU a) : bits .or .u64 a 0 = a := by rw [bits_or, show bv 0 = 0#64 from by decide, BitVec.or_zero, nu_bv h]
theorem mask_and {a : Int} (c : Bool) (h : IsU a) : bits .and .u64 (maskI c) a = if c then a else 0 := by
  rw [bits_and, bv_maskI]
  cases c
  · show nu (0#64 &&& bv a) = 0
    rw [BitVec.zero_and]; decide
  · show nu (BitVec.allOnes 64 &&& bv a) = a
    rw [BitVec.allOnes_and, nu_bv h]
end Go.Proofs.YtmoajobnhiopiaaGreatDoor.ar
set_option linter.unusedSimpArgs false
set_option linter.unusedVariables false
namespace Go.Proofs.YtmoajobnhiopiaaGreatDoor.so
open Go Go.RowKit Go.Shelf Go.Proofs.YtmoajobnhiopiaaGreatDoor.mk Go.Proofs.YtmoajobnhiopiaaGreatDoor.nw Go.Proofs.YtmoajobnhiopiaaGreatDoor.tp Go.Proofs.YtmoajobnhiopiaaGreatDoor.rg Go.Proofs.YtmoajobnhiopiaaGreatDoor.ar
open List renaming getElem_toArray → ga, getElem_cons_zero → gb, getElem_cons_succ → gc, setIfInBounds_toArray → gd, set_cons_zero → ge, set_cons_succ → gf
theorem results_cell1 {fn : Func} {p : Tmp} {ty : TypeId} (h : fn.results = #[.cell p ty]) (tmps : Array Value) (P : Program) (w : World) :
    (results fn tmps).run P w = ((asAddr (tmps.getD p undef)).run P w).andThen fun a w1 => (loadVar ty a).run P w1 := by
  simp only [results, h]
  simp [Sem.run_bind, Result.andThen]
theorem results_rec {fn : Func} {p : Tmp} (h : fn.results = #[.cell p 158]) (tmps : Array Value) (w : World) (g : Nat) (t : TypeId) (x y : Value) (fr : Nat × Nat)
    (hp : tmps.getD p undef = .pointer (some ⟨g, 0, none⟩)) (hg : w.heap[g]? = some (.cells #[x, y] t fr)) : (results fn tmps).run Tryz.prog w = .ok (.agg #[x, y]) w := by
  rw [results_cell1 h, hp]
  have e := run_loadVar_row (P := Tryz.prog) w g t 158 #[x, y] fr _ hg Tryz.underlying158 rfl (by kernel_rfl)
  simp [asAddr, e, Result.andThen]
theorem cells_set {w : World} {b : Nat} {cs : Array Value} {t : TypeId} {fr : Nat × Nat} (h : w.heap[b]? = some (.cells cs t fr)) (i : Nat) (u : Value) : (w.setCell ⟨b, i, none⟩ u).heap[b]? = some (.cells (cs.setIfInBounds i u) t fr) := by
  obtain ⟨hlt, hk⟩ := Array.getElem?_eq_some_iff.1 h
  show (w.heap.modify b _)[b]? = _
  rw [Array.getElem?_eq_getElem (by rw [Array.size_modify]; exact hlt), Array.getElem_modify_self, hk]
  simp
theorem two_set {w : World} {b : Nat} {u v x y : Value} {t : TypeId} {fr : Nat × Nat} (h : w.heap[b]? = some (.cells #[u, v] t fr)) : ((w.setCell ⟨b, 0, none⟩ x).setCell ⟨b, 1, none⟩ y).heap[b]? = some (.cells #[x, y] t fr) :=
  cells_set (cells_set h 0 x) 1 y
set_option maxRecDepth 100000 in
theorem sclean_calls (a b : Int) (ha : IsU a) (hb : IsU b) (w : World) : Calls Tryz.prog 145 #[.agg #[.int .u64 a, .int .u64 b]] w fun e w' => e = .returned (.agg #[.int .u64 (cleanR (a, b)).1, .int .u64 (cleanR (a, b)).2]) ∧ Keeps (fun _ => False) w w' := by
  go_enter Tryz.func145, Tryz.ntmps145
  go_wp2_with fail
  obtain ⟨w1, hw1⟩ : ∃ w1, (w.alloc (.cells #[.int .u64 a, .int .u64 b] 158)).alloc (.cells #[.int .u64 0, .int .u64 0] 158) = w1 := ⟨_, rfl⟩
  have hk1 : Keeps (fun _ => False) w w1 := by rw [← hw1]; exact ((Keeps.refl _ w).alloc _).alloc _
  have hg0 : w1.heap[w.heap.size]? = some (.cells #[.int .u64 a, .int .u64 b] 158 (0, 0)) := by rw [← hw1, Below.heap_alloc _ _ _ (by simp)]; exact heap_alloc_new w _
  have hg1 : w1.heap[w.heap.size + 1]? = some (.cells #[.int .u64 0, .int .u64 0] 158 (0, 0)) := by
    rw [← hw1]
    have := heap_alloc_new (w.alloc (.cells #[.int .u64 a, .int .u64 b] 158)) (.cells #[.int .u64 0, .int .u64 0] 158)
    simpa using this
  rw [hw1]
  clear hw1
  have c0 : w1.cell? ⟨w.heap.size, 0, none⟩ = some (.int .u64 a) := by rw [cell_of_row _ _ _ _ _ _ hg0]; rfl
  have c1 : w1.cell? ⟨w.heap.size, 1, none⟩ = some (.int .u64 b) := by rw [cell_of_row _ _ _ _ _ _ hg0]; rfl
  have d0 : w1.cell? ⟨w.heap.size + 1, 0, none⟩ = some (.int .u64 0) := by rw [cell_of_row _ _ _ _ _ _ hg1]; rfl
  have d1 : w1.cell? ⟨w.heap.size + 1, 1, none⟩ = some (.int .u64 0) := by rw [cell_of_row _ _ _ _ _ _ hg1]; rfl
  have e0 := two_frozen hg1 0
  have e1 := two_frozen hg1 1
  have hlt : w.heap.size < w1.heap.size := (Array.getElem?_eq_some_iff.1 hg0).1
  have hne : ¬ w.heap.size = w.heap.size + 1 := by omega
  have kx : ∀ u v, Keeps (fun i => i = w.heap.size + 1) w1 ((w1.setCell ⟨w.heap.size + 1, 0, none⟩ u).setCell ⟨w.heap.size + 1, 1, none⟩ v) := fun u v => ((Keeps.refl (fun i => i = w.heap.size + 1) w1).setCell ⟨w.heap.size + 1, 0, none⟩ (fun _ => rfl) u).setCell ⟨w.heap.size + 1, 1, none⟩ (fun _ => rfl) v
  have hm := mask_and (a % 2 == 1) hb
  have hm' : bits .and .u64 b (maskI (a % 2 == 1)) = (cleanR (a, b)).2 := by
    rw [bits_and, BitVec.and_comm, ← bits_and, hm]
    unfold cleanR
    simp only [beq_iff_eq]
  have hm1 : (cleanR (a, b)).1 = a % 2 := rfl
  have Hg1 := Lib.hid hg1
  have Hk1 := Lib.hid hk1
  clear hm hg0 hg1 hk1
  refine wp_region_late (fun W => W.cell? ⟨w.heap.size, 0, none⟩ = some (.int .u64 a) ∧ W.cell? ⟨w.heap.size, 1, none⟩ = some (.int .u64 b)) [] (by kernel_rfl) ?_
  have hS : w1.drew.cell? ⟨w.heap.size, 0, none⟩ = some (.int .u64 a) ∧ w1.drew.cell? ⟨w.heap.size, 1, none⟩ = some (.int .u64 b) := ⟨c0, c1⟩
  refine tkL 0 (.pointer (some ⟨w.heap.size, 0, none⟩)) rfl (by kernel_rfl) (fun _ _ _ h => (h : False).elim) (by kernel_rfl) ‹_› ?_ ?_
  · intro w hSw
    obtain ⟨s0, s1⟩ := hSw
    go_simp
  try simp only [Act.put, gd, ge, gf]
  refine tkL 1 (.int .u64 a) rfl (by kernel_rfl) (fun _ _ _ h => (h : False).elim) (by kernel_rfl) ‹_› ?_ ?_
  · intro w hSw
    obtain ⟨s0, s1⟩ := hSw
    go_simp
  try simp only [Act.put, gd, ge, gf]
  refine tkL 3 (.pointer (some ⟨w.heap.size, 1, none⟩)) rfl (by kernel_rfl) (fun _ _ _ h => (h : False).elim) (by kernel_rfl) ‹_› ?_ ?_
  · intro w hSw
    obtain ⟨s0, s1⟩ := hSw
    go_simp
  try simp only [Act.put, gd, ge, gf]
  refine tkL 4 (.int .u64 b) rfl (by kernel_rfl) (fun _ _ _ h => (h : False).elim) (by kernel_rfl) ‹_› ?_ ?_
  · intro w hSw
    obtain ⟨s0, s1⟩ := hSw
    go_simp
  try simp only [Act.put, gd, ge, gf]
  refine tkL 5 (.pointer (some ⟨w.heap.size, 0, none⟩)) rfl (by kernel_rfl) (fun _ _ _ h => (h : False).elim) (by kernel_rfl) ‹_› ?_ ?_
  · intro w hSw
    obtain ⟨s0, s1⟩ := hSw
    go_simp
  try simp only [Act.put, gd, ge, gf]
  refine tkL 6 (.int .u64 a) rfl (by kernel_rfl) (fun _ _ _ h => (h : False).elim) (by kernel_rfl) ‹_› ?_ ?_
  · intro w hSw
    obtain ⟨s0, s1⟩ := hSw
    go_simp
  try simp only [Act.put, gd, ge, gf]
  refine wpAnyL_next (i := 2) (by kernel_rfl) rfl (fun K hK => ?_)
  go_simp
  refine (bit_calls a ha _).mono ?_; rintro e w3 ⟨rfl, rfl⟩
  go_wp2_with fail
  refine hK.out _ _ ⟨c0, c1⟩ (fun hHeld => ?_)
  clear hK K
  try simp only [Act.put, gd, ge, gf]
  refine wpAnyL_next (i := 7) (by kernel_rfl) rfl (fun K hK => ?_)
  go_simp
  refine (of_calls a ha _).mono ?_; rintro e w3 ⟨rfl, rfl⟩
  go_wp2_with fail
  refine hK.out _ _ ⟨c0, c1⟩ (fun hHeld => ?_)
  clear hK K
  try simp only [Act.put, gd, ge, gf]
  refine tkL 8 (.int .u64 (cleanR (a, b)).2) rfl (by kernel_rfl) (fun _ _ _ h => (h : False).elim) (by kernel_rfl) ‹_› ?_ ?_
  · intro w hSw
    obtain ⟨s0, s1⟩ := hSw
    go_simp
  try simp only [Act.put, gd, ge, gf]
  refine tkL 9 (.agg #[.int .u64 (cleanR (a, b)).1, .int .u64 (cleanR (a, b)).2]) rfl (by kernel_rfl) (fun _ _ _ h => (h : False).elim) (by kernel_rfl) ‹_› ?_ ?_
  · intro w hSw
    obtain ⟨s0, s1⟩ := hSw
    go_simp
  try simp only [Act.put, gd, ge, gf]
  refine wpAnyL_next (i := 10) (by kernel_rfl) rfl (fun K hK => ?_)
  go_simp
  refine hK.out _ _ ⟨((kx _ _).cell (p := ⟨w.heap.size, 0, none⟩) hlt hne).trans c0, ((kx _ _).cell (p := ⟨w.heap.size, 1, none⟩) hlt hne).trans c1⟩ (fun hHeld => ?_)
  clear hK K
  try simp only [Act.put, gd, ge, gf]
  refine wpAnyL_done (by kernel_rfl) ?_ _
  refine NoPanic.normal ?_
  have hret : (w1.setCell ⟨w.heap.size + 1, 0, none⟩ (.int .u64 (a % 2))).setCell ⟨w.heap.size + 1, 1, none⟩ (.int .u64 (cleanR (a, b)).2) = (w1.setCell ⟨w.heap.size + 1, 0, none⟩ (.int .u64 (a % 2))).setCell ⟨w.heap.size + 1, 1, none⟩ (.int .u64 (cleanR (a, b)).2) := rfl
  go_wp2_with fail
  refine bodyPost_ret (results_rec rfl _ _ _ _ _ _ _ rfl (two_set Hg1.out)) rfl ⟨rfl, (Hk1.out.trans (kx _ _) (fun i hi h => by omega)).drew⟩
end Go.Proofs.YtmoajobnhiopiaaGreatDoor.so
set_option linter.unusedSimpArgs false
set_option linter.unusedVariables false
namespace Go.Proofs.YtmoajobnhiopiaaGreatDoor.so
open Go Go.RowKit Go.Shelf Go.Proofs.YtmoajobnhiopiaaGreatDoor.mk Go.Proofs.YtmoajobnhiopiaaGreatDoor.nw Go.Proofs.YtmoajobnhiopiaaGreatDoor.tp Go.Proofs.YtmoajobnhiopiaaGreatDoor.rg Go.Proofs.YtmoajobnhiopiaaGreatDoor.ar
open List renaming getElem_toArray → ga, getElem_cons_zero → gb, getElem_cons_succ → gc, setIfInBounds_toArray → gd, set_cons_zero → ge, set_cons_succ → gf
theorem mask_mask_and (p q : Bool) : bits .and .u64 (maskI p) (maskI q) = maskI (p && q) := by cases p <;> cases q <;> decide
theorem mask_mask_or (p q : Bool) : bits .or .u64 (maskI p) (maskI q) = maskI (p || q) := by cases p <;> cases q <;> decide
theorem recok {a b : Int} (ha : IsU a) (hb : IsU b) : RecOk (a, b) := ⟨ha, hb⟩
set_option maxRecDepth 100000 in
set_option maxHeartbeats 1000000 in
theorem sless_calls (a b c d : Int) (ha : IsU a) (hb : IsU b) (hc : IsU c) (hd : IsU d) (w : World) : Calls Tryz.prog 162 #[.agg #[.int .u64 a, .int .u64 b], .agg #[.int .u64 c, .int .u64 d]] w fun e w' => e = .returned (.int .u64 (maskI (lessR (a, b) (c, d)))) ∧ Keeps (fun _ => False) w w' := by
  have ha1 : IsU (cleanR (a, b)).1 := (cleanR_ok (recok ha hb)).1
  have hb1 : IsU (cleanR (a, b)).2 := (cleanR_ok (recok ha hb)).2
  have hc1 : IsU (cleanR (c, d)).1 := (cleanR_ok (recok hc hd)).1
  have hd1 : IsU (cleanR (c, d)).2 := (cleanR_ok (recok hc hd)).2
  have hpt := less_parts (recok ha hb) (recok hc hd)
  go_enter Tryz.func162, Tryz.ntmps162
  go_wp2_with fail
  obtain ⟨w1, hw1⟩ : ∃ w1, (w.alloc (.cells #[.int .u64 a, .int .u64 b] 158)).alloc (.cells #[.int .u64 c, .int .u64 d] 158) = w1 := ⟨_, rfl⟩
  have hk1 : Keeps (fun _ => False) w w1 := by rw [← hw1]; exact ((Keeps.refl _ w).alloc _).alloc _
  have hg0 : w1.heap[w.heap.size]? = some (.cells #[.int .u64 a, .int .u64 b] 158 (0, 0)) := by rw [← hw1, Below.heap_alloc _ _ _ (by simp)]; exact heap_alloc_new w _
  have hg1 : w1.heap[w.heap.size + 1]? = some (.cells #[.int .u64 c, .int .u64 d] 158 (0, 0)) := by
    rw [← hw1]
    have := heap_alloc_new (w.alloc (.cells #[.int .u64 a, .int .u64 b] 158)) (.cells #[.int .u64 c, .int .u64 d] 158)
    simpa using this
  rw [hw1]
  clear hw1
  have c0 : w1.cell? ⟨w.heap.size, 0, none⟩ = some (.int .u64 a) := by rw [cell_of_row _ _ _ _ _ _ hg0]; rfl
  have c1 : w1.cell? ⟨w.heap.size, 1, none⟩ = some (.int .u64 b) := by rw [cell_of_row _ _ _ _ _ _ hg0]; rfl
  have c2 : w1.cell? ⟨w.heap.size + 1, 0, none⟩ = some (.int .u64 c) := by rw [cell_of_row _ _ _ _ _ _ hg1]; rfl
  have c3 : w1.cell? ⟨w.heap.size + 1, 1, none⟩ = some (.int .u64 d) := by rw [cell_of_row _ _ _ _ _ _ hg1]; rfl
  have hl0 : w.heap.size < w1.heap.size := (Array.getElem?_eq_some_iff.1 hg0).1
  have hl1 : w.heap.size + 1 < w1.heap.size := (Array.getElem?_eq_some_iff.1 hg1).1
  have Hg0 := Lib.hid hg0
  have Hg1 := Lib.hid hg1
  have Hk1 := Lib.hid hk1
  have Hpt := Lib.hid hpt
  clear hg0 hg1 hk1 hpt
  refine wp_region_late (fun W => W.cell? ⟨w.heap.size, 0, none⟩ = some (.int .u64 a) ∧ W.cell? ⟨w.heap.size, 1, none⟩ = some (.int .u64 b) ∧ W.cell? ⟨w.heap.size + 1, 0, none⟩ = some (.int .u64 c) ∧ W.cell? ⟨w.heap.size + 1, 1, none⟩ = some (.int .u64 d)) [4] (by kernel_rfl) ?_
  have hS : w1.drew.cell? ⟨w.heap.size, 0, none⟩ = some (.int .u64 a) ∧ w1.drew.cell? ⟨w.heap.size, 1, none⟩ = some (.int .u64 b) ∧ w1.drew.cell? ⟨w.heap.size + 1, 0, none⟩ = some (.int .u64 c) ∧ w1.drew.cell? ⟨w.heap.size + 1, 1, none⟩ = some (.int .u64 d) := ⟨c0, c1, c2, c3⟩
  refine tkL 0 (.agg #[.int .u64 a, .int .u64 b]) rfl (by kernel_rfl) (fun _ _ _ h => (h : False).elim) (by kernel_rfl) ‹_› ?_ ?_
  · intro w hSw
    obtain ⟨s0, s1, s2, s3⟩ := hSw
    go_simp
  try simp only [Act.put, gd, ge, gf]
  refine tkL 2 (.agg #[.int .u64 c, .int .u64 d]) rfl (by kernel_rfl) (fun _ _ _ h => (h : False).elim) (by kernel_rfl) ‹_› ?_ ?_
  · intro w hSw
    obtain ⟨s0, s1, s2, s3⟩ := hSw
    go_simp
  try simp only [Act.put, gd, ge, gf]
  refine wpAnyL_next (i := 1) (by kernel_rfl) rfl (fun K hK => ?_)
  go_simp
  refine (sclean_calls a b ha hb _).mono ?_; rintro e w2 ⟨rfl, hk2'⟩
  have hk2 : Keeps (fun _ => False) w1 w2 := ((Keeps.refl _ w1).drewN 1).trans hk2' (fun _ _ h => h)
  clear hk2'
  go_wp2_with fail
  refine hK.out _ _ ⟨(hk2.cell (p := ⟨w.heap.size, 0, none⟩) hl0 (fun h => h)).trans c0, (hk2.cell (p := ⟨w.heap.size, 1, none⟩) hl0 (fun h => h)).trans c1, (hk2.cell (p := ⟨w.heap.size + 1, 0, none⟩) hl1 (fun h => h)).trans c2, (hk2.cell (p := ⟨w.heap.size + 1, 1, none⟩) hl1 (fun h => h)).trans c3⟩ (fun hHeld => ?_)
  clear hK K
  try simp only [Act.put, gd, ge, gf]
  refine wpAnyL_next (i := 3) (by kernel_rfl) rfl (fun K hK => ?_)
  go_simp
  refine (sclean_calls c d hc hd _).mono ?_; rintro e w3 ⟨rfl, hk3'⟩
  have hk3 : Keeps (fun _ => False) w1 w3 := hk2.trans hk3' (fun _ _ h => h)
  clear hk3'
  go_wp2_with fail
  refine hK.out _ _ ⟨(hk3.cell (p := ⟨w.heap.size, 0, none⟩) hl0 (fun h => h)).trans c0, (hk3.cell (p := ⟨w.heap.size, 1, none⟩) hl0 (fun h => h)).trans c1, (hk3.cell (p := ⟨w.heap.size + 1, 0, none⟩) hl1 (fun h => h)).trans c2, (hk3.cell (p := ⟨w.heap.size + 1, 1, none⟩) hl1 (fun h => h)).trans c3⟩ (fun hHeld => ?_)
  clear hK K
  try simp only [Act.put, gd, ge, gf]
  have hg0' : w3.heap[w.heap.size]? = _ := (hk3.block _ hl0 (fun h => h)).trans Hg0.out
  have hg1' : w3.heap[w.heap.size + 1]? = _ := (hk3.block _ hl1 (fun h => h)).trans Hg1.out
  have p0 : w3.cell? ⟨w.heap.size, 0, none⟩ = some (.int .u64 a) := by rw [cell_of_row _ _ _ _ _ _ hg0']; rfl
  have p1 : w3.cell? ⟨w.heap.size, 1, none⟩ = some (.int .u64 b) := by rw [cell_of_row _ _ _ _ _ _ hg0']; rfl
  have p2 : w3.cell? ⟨w.heap.size + 1, 0, none⟩ = some (.int .u64 c) := by rw [cell_of_row _ _ _ _ _ _ hg1']; rfl
  have p3 : w3.cell? ⟨w.heap.size + 1, 1, none⟩ = some (.int .u64 d) := by rw [cell_of_row _ _ _ _ _ _ hg1']; rfl
  have q0 := two_frozen hg0' 0
  have q1 := two_frozen hg0' 1
  have q2 := two_frozen hg1' 0
  have q3 := two_frozen hg1' 1
  have Hq0 := Lib.hid hg0'
  have Hq1 := Lib.hid hg1'
  clear hg0' hg1' c0 c1 c2 c3
  refine wpAnyL_late (i := 4) (by kernel_rfl) rfl (by kernel_rfl) (fun K hK => ?_)
  go_simp
  clear p0 p1 q0 q1
  refine hK.out _ _ (fun _ => ?_)
  clear hK K
  try simp only [Act.put, gd, ge, gf]
  refine wpAnyL_late (i := 5) (by kernel_rfl) rfl (by kernel_rfl) (fun K hK => ?_)
  go_simp
  refine hK.out _ _ (fun _ => ?_)
  clear hK K
  try simp only [Act.put, gd, ge, gf]
  refine wpAnyL_done (by kernel_rfl) ?_ _
  refine NoPanic.normal ?_
  go_wp2_with fail
  obtain ⟨w4, hw4⟩ : ∃ w4, (((w3.setCell ⟨w.heap.size, 0, none⟩ (.int .u64 (cleanR (a, b)).1)).setCell ⟨w.heap.size, 1, none⟩ (.int .u64 (cleanR (a, b)).2)).setCell ⟨w.heap.size + 1, 0, none⟩ (.int .u64 (cleanR (c, d)).1)).setCell ⟨w.heap.size + 1, 1, none⟩ (.int .u64 (cleanR (c, d)).2) = w4 := ⟨_, rfl⟩
  rw [hw4]
  have kxy : Keeps (fun i => i = w.heap.size + 1) ((w3.setCell ⟨w.heap.size, 0, none⟩ (.int .u64 (cleanR (a, b)).1)).setCell ⟨w.heap.size, 1, none⟩ (.int .u64 (cleanR (a, b)).2)) w4 := by
    rw [← hw4]
    exact ((Keeps.refl (fun i => i = w.heap.size + 1) _).setCell ⟨w.heap.size + 1, 0, none⟩ (fun _ => rfl) _).setCell ⟨w.heap.size + 1, 1, none⟩ (fun _ => rfl) _
  have kx : Keeps (fun i => i = w.heap.size) w3 ((w3.setCell ⟨w.heap.size, 0, none⟩ (.int .u64 (cleanR (a, b)).1)).setCell ⟨w.heap.size, 1, none⟩ (.int .u64 (cleanR (a, b)).2)) := ((Keeps.refl (fun i => i = w.heap.size) w3).setCell ⟨w.heap.size, 0, none⟩ (fun _ => rfl) _).setCell ⟨w.heap.size, 1, none⟩ (fun _ => rfl) _
  have hz3 := hk3.size
  have r0 := (kxy.block w.heap.size (by have := kx.size; omega) (by omega)).trans (two_set (x := .int .u64 (cleanR (a, b)).1) (y := .int .u64 (cleanR (a, b)).2) Hq0.out)
  have r1 : w4.heap[w.heap.size + 1]? = some (.cells #[.int .u64 (cleanR (c, d)).1, .int .u64 (cleanR (c, d)).2] 158 (0, 0)) := by
    rw [← hw4]
    exact two_set ((kx.block (w.heap.size + 1) (by omega) (by omega)).trans Hq1.out)
  have Hk4 := Lib.hid (show Keeps (fun _ => False) w w4 from ((Hk1.out.trans hk3 (fun _ _ h => h)).trans kx (fun i hi h => by omega)).trans kxy (fun i hi h => by omega))
  have c0 : w4.cell? ⟨w.heap.size, 0, none⟩ = some (.int .u64 (cleanR (a, b)).1) := by rw [cell_of_row _ _ _ _ _ _ r0]; rfl
  have c1 : w4.cell? ⟨w.heap.size, 1, none⟩ = some (.int .u64 (cleanR (a, b)).2) := by rw [cell_of_row _ _ _ _ _ _ r0]; rfl
  have c2 : w4.cell? ⟨w.heap.size + 1, 0, none⟩ = some (.int .u64 (cleanR (c, d)).1) := by rw [cell_of_row _ _ _ _ _ _ r1]; rfl
  have c3 : w4.cell? ⟨w.heap.size + 1, 1, none⟩ = some (.int .u64 (cleanR (c, d)).2) := by rw [cell_of_row _ _ _ _ _ _ r1]; rfl
  have hand := mask_mask_and ((cleanR (a, b)).1 == (cleanR (c, d)).1) (decide ((cleanR (a, b)).2 < (cleanR (c, d)).2))
  have hor : bits .or .u64 (maskI (decide ((cleanR (c, d)).1 < (cleanR (a, b)).1))) (maskI ((cleanR (a, b)).1 == (cleanR (c, d)).1 && decide ((cleanR (a, b)).2 < (cleanR (c, d)).2))) = maskI (lessR (a, b) (c, d)) := by
    rw [mask_mask_or, Hpt.out]
  clear hw4 kxy kx r0 r1 hk2 hk3 hz3 p2 p3 q2 q3
  refine wp_region_late (fun W => W.cell? ⟨w.heap.size, 0, none⟩ = some (.int .u64 (cleanR (a, b)).1) ∧ W.cell? ⟨w.heap.size, 1, none⟩ = some (.int .u64 (cleanR (a, b)).2) ∧ W.cell? ⟨w.heap.size + 1, 0, none⟩ = some (.int .u64 (cleanR (c, d)).1) ∧ W.cell? ⟨w.heap.size + 1, 1, none⟩ = some (.int .u64 (cleanR (c, d)).2)) [] (by kernel_rfl) ?_
  have hS : w4.drew.cell? ⟨w.heap.size, 0, none⟩ = some (.int .u64 (cleanR (a, b)).1) ∧ w4.drew.cell? ⟨w.heap.size, 1, none⟩ = some (.int .u64 (cleanR (a, b)).2) ∧ w4.drew.cell? ⟨w.heap.size + 1, 0, none⟩ = some (.int .u64 (cleanR (c, d)).1) ∧ w4.drew.cell? ⟨w.heap.size + 1, 1, none⟩ = some (.int .u64 (cleanR (c, d)).2) := ⟨c0, c1, c2, c3⟩
  refine tkL 0 (.pointer (some ⟨w.heap.size + 1, 0, none⟩)) rfl (by kernel_rfl) (fun _ _ _ h => (h : False).elim) (by kernel_rfl) ‹_› ?_ ?_
  · intro w hSw
    obtain ⟨s0, s1, s2, s3⟩ := hSw
    go_simp
  try simp only [Act.put, gd, ge, gf]
  refine tkL 1 (.int .u64 (cleanR (c, d)).1) rfl (by kernel_rfl) (fun _ _ _ h => (h : False).elim) (by kernel_rfl) ‹_› ?_ ?_
  · intro w hSw
    obtain ⟨s0, s1, s2, s3⟩ := hSw
    go_simp
  try simp only [Act.put, gd, ge, gf]
  refine tkL 2 (.pointer (some ⟨w.heap.size, 0, none⟩)) rfl (by kernel_rfl) (fun _ _ _ h => (h : False).elim) (by kernel_rfl) ‹_› ?_ ?_
  · intro w hSw
    obtain ⟨s0, s1, s2, s3⟩ := hSw
    go_simp
  try simp only [Act.put, gd, ge, gf]
  refine tkL 3 (.int .u64 (cleanR (a, b)).1) rfl (by kernel_rfl) (fun _ _ _ h => (h : False).elim) (by kernel_rfl) ‹_› ?_ ?_
  · intro w hSw
    obtain ⟨s0, s1, s2, s3⟩ := hSw
    go_simp
  try simp only [Act.put, gd, ge, gf]
  refine tkL 5 (.pointer (some ⟨w.heap.size, 0, none⟩)) rfl (by kernel_rfl) (fun _ _ _ h => (h : False).elim) (by kernel_rfl) ‹_› ?_ ?_
  · intro w hSw
    obtain ⟨s0, s1, s2, s3⟩ := hSw
    go_simp
  try simp only [Act.put, gd, ge, gf]
  refine tkL 6 (.int .u64 (cleanR (a, b)).1) rfl (by kernel_rfl) (fun _ _ _ h => (h : False).elim) (by kernel_rfl) ‹_› ?_ ?_
  · intro w hSw
    obtain ⟨s0, s1, s2, s3⟩ := hSw
    go_simp
  try simp only [Act.put, gd, ge, gf]
  refine tkL 7 (.pointer (some ⟨w.heap.size + 1, 0, none⟩)) rfl (by kernel_rfl) (fun _ _ _ h => (h : False).elim) (by kernel_rfl) ‹_› ?_ ?_
  · intro w hSw
    obtain ⟨s0, s1, s2, s3⟩ := hSw
    go_simp
  try simp only [Act.put, gd, ge, gf]
  refine tkL 8 (.int .u64 (cleanR (c, d)).1) rfl (by kernel_rfl) (fun _ _ _ h => (h : False).elim) (by kernel_rfl) ‹_› ?_ ?_
  · intro w hSw
    obtain ⟨s0, s1, s2, s3⟩ := hSw
    go_simp
  try simp only [Act.put, gd, ge, gf]
  refine tkL 10 (.pointer (some ⟨w.heap.size, 1, none⟩)) rfl (by kernel_rfl) (fun _ _ _ h => (h : False).elim) (by kernel_rfl) ‹_› ?_ ?_
  · intro w hSw
    obtain ⟨s0, s1, s2, s3⟩ := hSw
    go_simp
  try simp only [Act.put, gd, ge, gf]
  refine tkL 11 (.int .u64 (cleanR (a, b)).2) rfl (by kernel_rfl) (fun _ _ _ h => (h : False).elim) (by kernel_rfl) ‹_› ?_ ?_
  · intro w hSw
    obtain ⟨s0, s1, s2, s3⟩ := hSw
    go_simp
  try simp only [Act.put, gd, ge, gf]
  refine tkL 12 (.pointer (some ⟨w.heap.size + 1, 1, none⟩)) rfl (by kernel_rfl) (fun _ _ _ h => (h : False).elim) (by kernel_rfl) ‹_› ?_ ?_
  · intro w hSw
    obtain ⟨s0, s1, s2, s3⟩ := hSw
    go_simp
  try simp only [Act.put, gd, ge, gf]
  refine tkL 13 (.int .u64 (cleanR (c, d)).2) rfl (by kernel_rfl) (fun _ _ _ h => (h : False).elim) (by kernel_rfl) ‹_› ?_ ?_
  · intro w hSw
    obtain ⟨s0, s1, s2, s3⟩ := hSw
    go_simp
  try simp only [Act.put, gd, ge, gf]
  refine wpAnyL_next (i := 4) (by kernel_rfl) rfl (fun K hK => ?_)
  go_simp
  refine (less_calls (cleanR (c, d)).1 (cleanR (a, b)).1 hc1 ha1 _).mono ?_; rintro e w5 ⟨rfl, rfl⟩
  go_wp2_with fail
  refine hK.out _ _ ⟨c0, c1, c2, c3⟩ (fun hHeld => ?_)
  clear hK K
  try simp only [Act.put, gd, ge, gf]
  refine wpAnyL_next (i := 9) (by kernel_rfl) rfl (fun K hK => ?_)
  go_simp
  refine (equal_calls (cleanR (a, b)).1 (cleanR (c, d)).1 ha1 hc1 _).mono ?_; rintro e w5 ⟨rfl, rfl⟩
  go_wp2_with fail
  refine hK.out _ _ ⟨c0, c1, c2, c3⟩ (fun hHeld => ?_)
  clear hK K
  try simp only [Act.put, gd, ge, gf]
  refine wpAnyL_next (i := 14) (by kernel_rfl) rfl (fun K hK => ?_)
  go_simp
  refine (less_calls (cleanR (a, b)).2 (cleanR (c, d)).2 hb1 hd1 _).mono ?_; rintro e w5 ⟨rfl, rfl⟩
  go_wp2_with fail
  refine hK.out _ _ ⟨c0, c1, c2, c3⟩ (fun hHeld => ?_)
  clear hK K
  try simp only [Act.put, gd, ge, gf]
  refine tkL 15 (.int .u64 (maskI ((cleanR (a, b)).1 == (cleanR (c, d)).1 && decide ((cleanR (a, b)).2 < (cleanR (c, d)).2)))) rfl (by kernel_rfl) (fun _ _ _ h => (h : False).elim) (by kernel_rfl) ‹_› ?_ ?_
  · intro w hSw
    obtain ⟨s0, s1, s2, s3⟩ := hSw
    go_simp
  try simp only [Act.put, gd, ge, gf]
  refine tkL 16 (.int .u64 (maskI (lessR (a, b) (c, d)))) rfl (by kernel_rfl) (fun _ _ _ h => (h : False).elim) (by kernel_rfl) ‹_› ?_ ?_
  · intro w hSw
    obtain ⟨s0, s1, s2, s3⟩ := hSw
    go_simp
  try simp only [Act.put, gd, ge, gf]
  refine wpAnyL_next (i := 17) (by kernel_rfl) rfl (fun K hK => ?_)
  go_simp
  refine hK.out _ _ ⟨c0, c1, c2, c3⟩ (fun hHeld => ?_)
  clear hK K
  try simp only [Act.put, gd, ge, gf]
  refine wpAnyL_done (by kernel_rfl) ?_ _
  refine NoPanic.normal ?_
  go_wp2_with fail
  go_ret
  exact ⟨rfl, Hk4.out.drew⟩
end Go.Proofs.YtmoajobnhiopiaaGreatDoor.so
set_option linter.unusedSimpArgs false
set_option linter.unusedVariables false
namespace Go.Proofs.YtmoajobnhiopiaaGreatDoor.so
open Go Go.RowKit Go.Shelf Go.Proofs.YtmoajobnhiopiaaGreatDoor.mk Go.Proofs.YtmoajobnhiopiaaGreatDoor.nw Go.Proofs.YtmoajobnhiopiaaGreatDoor.tp Go.Proofs.YtmoajobnhiopiaaGreatDoor.rg Go.Proofs.YtmoajobnhiopiaaGreatDoor.ar
open List renaming getElem_toArray → ga, getElem_cons_zero → gb, getElem_cons_succ → gc, setIfInBounds_toArray → gd, set_cons_zero → ge, set_cons_succ → gf
theorem four_sets (rs : List Rec) {x y : Nat} (hx : x < rs.length) (hy : y < rs.length) (hne : x ≠ y) (p q : Rec) :
    ((((rflat rs).set (x * 2) (.int .u64 p.1)).set (y * 2) (.int .u64 q.1)).set (x * 2 + 1) (.int .u64 p.2)).set (y * 2 + 1) (.int .u64 q.2) = rflat ((rs.set x p).set y q) := by
  rw [rflat_set _ y q (by rw [List.length_set]; exact hy), rflat_set _ x p hx]
  congr 1
  rw [List.set_comm _ _ (show y * 2 ≠ x * 2 + 1 by omega)]
set_option maxRecDepth 100000 in
set_option maxHeartbeats 2000000 in
theorem exch_calls (g x y n cap base : Nat) (rs : List Rec) (r s : Rec) (w : World) (h : w.ownsRow base 158 2 (.slice (some ⟨g, 0, none⟩) n cap) n (rflat rs)) (hn : rs.length = n)
    (hx : rs[x]? = some r) (hy : rs[y]? = some s) (hne : x ≠ y) (hr : RecOk r) (hs : RecOk s) :
    Calls Tryz.prog 149 #[.pointer (some ⟨g, x * 2, none⟩), .pointer (some ⟨g, y * 2, none⟩)] w fun e w' => e = .returned (.tuple #[]) ∧
      w'.ownsRow base 158 2 (.slice (some ⟨g, 0, none⟩) n cap) n (rflat ((rs.set x (loR r s)).set y (hiR r s))) ∧ Keeps (fun i => i = g) w w' := by
  have hxl := (List.getElem?_eq_some_iff.1 hx).1
  have hyl := (List.getElem?_eq_some_iff.1 hy).1
  have gx := rflat_get rs x r hx
  have gy := rflat_get rs y s hy
  have c0 := (h.cellAt (x * 2) (by omega)).trans gx.1
  have c1 := (h.cellAt (x * 2 + 1) (by omega)).trans gx.2
  have c2 := (h.cellAt (y * 2) (by omega)).trans gy.1
  have c3 := (h.cellAt (y * 2 + 1) (by omega)).trans gy.2
  have hg := (h.lt g rfl).2
  have H := Lib.hid h
  have Hgx := Lib.hid gx
  have Hgy := Lib.hid gy
  clear h hx hy gx gy
  go_enter Tryz.func149, Tryz.ntmps149
  go_wp2_with fail
  refine wp_region_late (fun W => W.cell? ⟨g, x * 2, none⟩ = some (.int .u64 r.1) ∧ W.cell? ⟨g, x * 2 + 1, none⟩ = some (.int .u64 r.2) ∧ W.cell? ⟨g, y * 2, none⟩ = some (.int .u64 s.1) ∧ W.cell? ⟨g, y * 2 + 1, none⟩ = some (.int .u64 s.2)) [] (by kernel_rfl) ?_
  have hS : w.drew.cell? ⟨g, x * 2, none⟩ = some (.int .u64 r.1) ∧ w.drew.cell? ⟨g, x * 2 + 1, none⟩ = some (.int .u64 r.2) ∧ w.drew.cell? ⟨g, y * 2, none⟩ = some (.int .u64 s.1) ∧ w.drew.cell? ⟨g, y * 2 + 1, none⟩ = some (.int .u64 s.2) := ⟨c0, c1, c2, c3⟩
  refine tkA 0 (.pointer (some ⟨g, y * 2, none⟩)) rfl (by kernel_rfl) (fun _ _ _ h => (h : False).elim) (by kernel_rfl) (fun _ => ‹_›) ?_ ?_
  · intro w _; go_simp
  try simp only [Act.put, gd, ge, gf]
  refine tkA 1 (.pointer (some ⟨g, y * 2, none⟩)) rfl (by kernel_rfl) (fun _ _ _ h => (h : False).elim) (by kernel_rfl) (fun _ => ‹_›) ?_ ?_
  · intro w _; go_simp
  try simp only [Act.put, gd, ge, gf]
  refine tkL 2 (.agg #[.int .u64 s.1, .int .u64 s.2]) rfl (by kernel_rfl) (fun _ _ _ h => (h : False).elim) (by kernel_rfl) ‹_› ?_ ?_
  · intro w hSw
    obtain ⟨s0, s1, s2, s3⟩ := hSw
    go_simp
  try simp only [Act.put, gd, ge, gf]
  refine tkA 3 (.pointer (some ⟨g, x * 2, none⟩)) rfl (by kernel_rfl) (fun _ _ _ h => (h : False).elim) (by kernel_rfl) (fun _ => ‹_›) ?_ ?_
  · intro w _; go_simp
  try simp only [Act.put, gd, ge, gf]
  refine tkA 4 (.pointer (some ⟨g, x * 2, none⟩)) rfl (by kernel_rfl) (fun _ _ _ h => (h : False).elim) (by kernel_rfl) (fun _ => ‹_›) ?_ ?_
  · intro w _; go_simp
  try simp only [Act.put, gd, ge, gf]
  refine tkL 5 (.agg #[.int .u64 r.1, .int .u64 r.2]) rfl (by kernel_rfl) (fun _ _ _ h => (h : False).elim) (by kernel_rfl) ‹_› ?_ ?_
  · intro w hSw
    obtain ⟨s0, s1, s2, s3⟩ := hSw
    go_simp
  try simp only [Act.put, gd, ge, gf]
  refine wpAnyL_next (i := 6) (by kernel_rfl) rfl (fun K hK => ?_)
  go_simp
  refine (sless_calls s.1 s.2 r.1 r.2 hs.1 hs.2 hr.1 hr.2 _).mono ?_; rintro e w1 ⟨rfl, hk1'⟩
  have hk1 : Keeps (fun _ => False) w w1 := ((Keeps.refl _ w).drewN 1).trans hk1' (fun _ _ h => h)
  clear hk1'
  go_wp2_with fail
  refine hK.out _ _ ⟨(hk1.cell (p := ⟨g, x * 2, none⟩) hg (fun h => h)).trans c0, (hk1.cell (p := ⟨g, x * 2 + 1, none⟩) hg (fun h => h)).trans c1, (hk1.cell (p := ⟨g, y * 2, none⟩) hg (fun h => h)).trans c2, (hk1.cell (p := ⟨g, y * 2 + 1, none⟩) hg (fun h => h)).trans c3⟩ (fun hHeld => ?_)
  clear hK K
  try simp only [Act.put, gd, ge, gf]
  refine wpAnyL_next (i := 7) (by kernel_rfl) rfl (fun K hK => ?_)
  go_simp
  refine hK.out _ _ ⟨(hk1.cell (p := ⟨g, x * 2, none⟩) hg (fun h => h)).trans c0, (hk1.cell (p := ⟨g, x * 2 + 1, none⟩) hg (fun h => h)).trans c1, (hk1.cell (p := ⟨g, y * 2, none⟩) hg (fun h => h)).trans c2, (hk1.cell (p := ⟨g, y * 2 + 1, none⟩) hg (fun h => h)).trans c3⟩ (fun hHeld => ?_)
  clear hK K
  try simp only [Act.put, gd, ge, gf]
  refine wpAnyL_done (by kernel_rfl) ?_ _
  refine NoPanic.normal ?_
  go_wp2_with fail
  have hr1 : w1.ownsRow base 158 2 (.slice (some ⟨g, 0, none⟩) n cap) n (rflat rs) := by
    refine ⟨H.out.1, ?_⟩
    rcases H.out.2 with hh | ⟨g', c, cur, he, h1, h2, h3⟩
    · exact .inl hh
    · exact .inr ⟨g', c, cur, he, h1, (hk1.block _ (Array.getElem?_eq_some_iff.1 h2).1 (fun h => h)).trans h2, h3⟩
  clear hS c0 c1 c2 c3
  have c0 := (hr1.cellAt (x * 2) (by omega)).trans Hgx.out.1
  have c1 := (hr1.cellAt (y * 2) (by omega)).trans Hgy.out.1
  have e0 := hr1.frozenAt (x * 2)
  have e2 := hr1.frozenAt (y * 2)
  have Hr1 := Lib.hid hr1
  have hg1 := Nat.lt_of_lt_of_le hg hk1.size
  have Hk1 := Lib.hid hk1
  clear hr1 hk1
  have hne2 : ¬ x * 2 = y * 2 := by omega
  refine wp_region_late (fun W => W.cell? ⟨g, x * 2, none⟩ = some (.int .u64 r.1) ∧ W.cell? ⟨g, y * 2, none⟩ = some (.int .u64 s.1)) [17] (by kernel_rfl) ?_
  have hS : w1.drew.cell? ⟨g, x * 2, none⟩ = some (.int .u64 r.1) ∧ w1.drew.cell? ⟨g, y * 2, none⟩ = some (.int .u64 s.1) := ⟨c0, c1⟩
  refine tkA 0 (.pointer (some ⟨g, x * 2, none⟩)) rfl (by kernel_rfl) (fun _ _ _ h => (h : False).elim) (by kernel_rfl) (fun _ => ‹_›) ?_ ?_
  · intro w _; go_simp
  try simp only [Act.put, gd, ge, gf]
  refine tkA 1 (.pointer (some ⟨g, y * 2, none⟩)) rfl (by kernel_rfl) (fun _ _ _ h => (h : False).elim) (by kernel_rfl) (fun _ => ‹_›) ?_ ?_
  · intro w _; go_simp
  try simp only [Act.put, gd, ge, gf]
  refine tkA 2 (.int .u64 (maskI (lessR s r))) rfl (by kernel_rfl) (fun _ _ _ h => (h : False).elim) (by kernel_rfl) (fun _ => ‹_›) ?_ ?_
  · intro w _; go_simp
  try simp only [Act.put, gd, ge, gf]
  refine tkA 3 (.pointer (some ⟨g, x * 2, none⟩)) rfl (by kernel_rfl) (fun _ _ _ h => (h : False).elim) (by kernel_rfl) (fun _ => ‹_›) ?_ ?_
  · intro w _; go_simp
  try simp only [Act.put, gd, ge, gf]
  refine tkA 4 (.pointer (some ⟨g, x * 2, none⟩)) rfl (by kernel_rfl) (fun _ _ _ h => (h : False).elim) (by kernel_rfl) (fun _ => ‹_›) ?_ ?_
  · intro w _; go_simp
  try simp only [Act.put, gd, ge, gf]
  refine tkA 5 (.pointer (some ⟨g, x * 2, none⟩)) rfl (by kernel_rfl) (fun _ _ _ h => (h : False).elim) (by kernel_rfl) (fun _ => ‹_›) ?_ ?_
  · intro w _; go_simp
  try simp only [Act.put, gd, ge, gf]
  refine tkL 6 (.int .u64 r.1) rfl (by kernel_rfl) (fun _ _ _ h => (h : False).elim) (by kernel_rfl) ‹_› ?_ ?_
  · intro w hSw
    obtain ⟨s0, s1⟩ := hSw
    go_simp
  try simp only [Act.put, gd, ge, gf]
  refine tkA 7 (.pointer (some ⟨g, y * 2, none⟩)) rfl (by kernel_rfl) (fun _ _ _ h => (h : False).elim) (by kernel_rfl) (fun _ => ‹_›) ?_ ?_
  · intro w _; go_simp
  try simp only [Act.put, gd, ge, gf]
  refine tkA 8 (.pointer (some ⟨g, y * 2, none⟩)) rfl (by kernel_rfl) (fun _ _ _ h => (h : False).elim) (by kernel_rfl) (fun _ => ‹_›) ?_ ?_
  · intro w _; go_simp
  try simp only [Act.put, gd, ge, gf]
  refine tkA 9 (.pointer (some ⟨g, y * 2, none⟩)) rfl (by kernel_rfl) (fun _ _ _ h => (h : False).elim) (by kernel_rfl) (fun _ => ‹_›) ?_ ?_
  · intro w _; go_simp
  try simp only [Act.put, gd, ge, gf]
  refine tkL 10 (.int .u64 s.1) rfl (by kernel_rfl) (fun _ _ _ h => (h : False).elim) (by kernel_rfl) ‹_› ?_ ?_
  · intro w hSw
    obtain ⟨s0, s1⟩ := hSw
    go_simp
  try simp only [Act.put, gd, ge, gf]
  refine wpAnyL_next (i := 11) (by kernel_rfl) rfl (fun K hK => ?_)
  go_simp
  refine (swap_calls (maskI (lessR s r)) r.1 s.1 _).mono ?_; rintro e w5 ⟨rfl, rfl⟩
  go_wp2_with fail
  refine hK.out _ _ ⟨c0, c1⟩ (fun hHeld => ?_)
  clear hK K
  try simp only [Act.put, gd, ge, gf]
  refine tkA 12 (.tuple #[.int .u64 (selI (maskI (lessR s r)) s.1 r.1), .int .u64 (selI (maskI (lessR s r)) r.1 s.1)]) rfl (by kernel_rfl) (fun _ _ _ h => (h : False).elim) (by kernel_rfl) (fun _ => ‹_›) ?_ ?_
  · intro w _; go_simp
  try simp only [Act.put, gd, ge, gf]
  refine tkA 13 (.int .u64 (selI (maskI (lessR s r)) s.1 r.1)) rfl (by kernel_rfl) (fun _ _ _ h => (h : False).elim) (by kernel_rfl) (fun _ => ‹_›) ?_ ?_
  · intro w _; go_simp
  try simp only [Act.put, gd, ge, gf]
  refine tkA 14 (.int .u64 (selI (maskI (lessR s r)) r.1 s.1)) rfl (by kernel_rfl) (fun _ _ _ h => (h : False).elim) (by kernel_rfl) (fun _ => ‹_›) ?_ ?_
  · intro w _; go_simp
  try simp only [Act.put, gd, ge, gf]
  refine tkA 15 (.pointer (some ⟨g, x * 2, none⟩)) rfl (by kernel_rfl) (fun _ _ _ h => (h : False).elim) (by kernel_rfl) (fun _ => ‹_›) ?_ ?_
  · intro w _; go_simp
  try simp only [Act.put, gd, ge, gf]
  refine tkA 16 (.pointer (some ⟨g, x * 2, none⟩)) rfl (by kernel_rfl) (fun _ _ _ h => (h : False).elim) (by kernel_rfl) (fun _ => ‹_›) ?_ ?_
  · intro w _; go_simp
  try simp only [Act.put, gd, ge, gf]
  refine wpAnyL_late (i := 17) (by kernel_rfl) rfl (by kernel_rfl) (fun K hK => ?_)
  go_simp
  refine hK.out _ _ (fun _ => ?_)
  clear hK K
  try simp only [Act.put, gd, ge, gf]
  refine wpAnyL_after (i := 18) (oi := _) (v := .pointer (some ⟨g, y * 2, none⟩)) rfl (by kernel_rfl) (by kernel_rfl) (by kernel_rfl) (by kernel_rfl) (by kernel_rfl) (fun _ _ _ h => (h : False).elim) (Or.inl ⟨by kernel_rfl, ?_⟩) ?_
  · intro w _; go_simp
  try simp only [Act.put, gd, ge, gf]
  refine wpAnyL_after (i := 19) (oi := _) (v := .pointer (some ⟨g, y * 2, none⟩)) rfl (by kernel_rfl) (by kernel_rfl) (by kernel_rfl) (by kernel_rfl) (by kernel_rfl) (fun _ _ _ h => (h : False).elim) (Or.inl ⟨by kernel_rfl, ?_⟩) ?_
  · intro w _; go_simp
  try simp only [Act.put, gd, ge, gf]
  refine wpAnyL_late (i := 20) (by kernel_rfl) rfl (by kernel_rfl) (fun K hK => ?_)
  go_simp
  refine hK.out _ _ (fun _ => ?_)
  clear hK K
  try simp only [Act.put, gd, ge, gf]
  refine wpAnyL_done (by kernel_rfl) ?_ _
  refine NoPanic.normal ?_
  go_wp2_with fail
  clear hS c0 c1 e0 e2
  obtain ⟨w2, hw2⟩ : ∃ w2, (w1.setCell ⟨g, x * 2, none⟩ (.int .u64 (selI (maskI (lessR s r)) s.1 r.1))).setCell ⟨g, y * 2, none⟩ (.int .u64 (selI (maskI (lessR s r)) r.1 s.1)) = w2 := ⟨_, rfl⟩
  rw [hw2]
  have hr2 := ((Hr1.out.stored (x * 2) (.int .u64 (selI (maskI (lessR s r)) s.1 r.1))).1.stored (y * 2) (.int .u64 (selI (maskI (lessR s r)) r.1 s.1))).1
  rw [hw2] at hr2
  have hk2 : Keeps (fun i => i = g) w w2 := by
    rw [← hw2]
    exact ((show Keeps (fun i => i = g) w w1 from Hk1.out.mono (fun _ _ h => h.elim)).setCell ⟨g, x * 2, none⟩ (fun _ => rfl) _).setCell ⟨g, y * 2, none⟩ (fun _ => rfl) _
  clear hw2
  have c0 : w2.cell? ⟨g, x * 2 + 1, none⟩ = some (.int .u64 r.2) := (hr2.cellAt (x * 2 + 1) (by omega)).trans (by rw [List.getElem?_set_ne (by omega), List.getElem?_set_ne (by omega)]; exact Hgx.out.2)
  have c1 : w2.cell? ⟨g, y * 2 + 1, none⟩ = some (.int .u64 s.2) := (hr2.cellAt (y * 2 + 1) (by omega)).trans (by rw [List.getElem?_set_ne (by omega), List.getElem?_set_ne (by omega)]; exact Hgy.out.2)
  have e0 := hr2.frozenAt (x * 2 + 1)
  have e2 := hr2.frozenAt (y * 2 + 1)
  have hr3 := ((hr2.stored (x * 2 + 1) (.int .u64 (selI (maskI (lessR s r)) s.2 r.2))).1.stored (y * 2 + 1) (.int .u64 (selI (maskI (lessR s r)) r.2 s.2))).1
  have hsel : ∀ (a b : Int) (ha : IsU a) (hb : IsU b), selI (maskI (lessR s r)) a b = if lessR s r then a else b := fun a b ha hb => selI_mask ha hb _
  have e4 : (.int .u64 (selI (maskI (lessR s r)) s.1 r.1) : Value) = .int .u64 (loR r s).1 := by rw [hsel _ _ hs.1 hr.1]; unfold loR; split <;> rfl
  have e5 : (.int .u64 (selI (maskI (lessR s r)) r.1 s.1) : Value) = .int .u64 (hiR r s).1 := by rw [hsel _ _ hr.1 hs.1]; unfold hiR; split <;> rfl
  have e6 : (.int .u64 (selI (maskI (lessR s r)) s.2 r.2) : Value) = .int .u64 (loR r s).2 := by rw [hsel _ _ hs.2 hr.2]; unfold loR; split <;> rfl
  have e7 : (.int .u64 (selI (maskI (lessR s r)) r.2 s.2) : Value) = .int .u64 (hiR r s).2 := by rw [hsel _ _ hr.2 hs.2]; unfold hiR; split <;> rfl
  have Hr3 := Lib.hid (show ((w2.setCell ⟨g, x * 2 + 1, none⟩ (.int .u64 (selI (maskI (lessR s r)) s.2 r.2))).setCell ⟨g, y * 2 + 1, none⟩ (.int .u64 (selI (maskI (lessR s r)) r.2 s.2))).ownsRow base 158 2 (.slice (some ⟨g, 0, none⟩) n cap) n (rflat ((rs.set x (loR r s)).set y (hiR r s))) by
    rw [← four_sets rs hxl hyl hne, ← e4, ← e5, ← e6, ← e7]
    exact hr3)
  have Hk3 := Lib.hid ((hk2.setCell ⟨g, x * 2 + 1, none⟩ (fun _ => rfl) (.int .u64 (selI (maskI (lessR s r)) s.2 r.2))).setCell ⟨g, y * 2 + 1, none⟩ (fun _ => rfl) (.int .u64 (selI (maskI (lessR s r)) r.2 s.2)))
  clear hr2 hr3 hk2 hsel e4 e5 e6 e7
  have hne3 : ¬ x * 2 + 1 = y * 2 + 1 := by omega
  refine wp_region_late (fun W => W.cell? ⟨g, x * 2 + 1, none⟩ = some (.int .u64 r.2) ∧ W.cell? ⟨g, y * 2 + 1, none⟩ = some (.int .u64 s.2)) [17] (by kernel_rfl) ?_
  have hS : w2.drew.cell? ⟨g, x * 2 + 1, none⟩ = some (.int .u64 r.2) ∧ w2.drew.cell? ⟨g, y * 2 + 1, none⟩ = some (.int .u64 s.2) := ⟨c0, c1⟩
  refine tkA 0 (.pointer (some ⟨g, x * 2, none⟩)) rfl (by kernel_rfl) (fun _ _ _ h => (h : False).elim) (by kernel_rfl) (fun _ => ‹_›) ?_ ?_
  · intro w _; go_simp
  try simp only [Act.put, gd, ge, gf]
  refine tkA 1 (.pointer (some ⟨g, y * 2, none⟩)) rfl (by kernel_rfl) (fun _ _ _ h => (h : False).elim) (by kernel_rfl) (fun _ => ‹_›) ?_ ?_
  · intro w _; go_simp
  try simp only [Act.put, gd, ge, gf]
  refine tkA 2 (.int .u64 (maskI (lessR s r))) rfl (by kernel_rfl) (fun _ _ _ h => (h : False).elim) (by kernel_rfl) (fun _ => ‹_›) ?_ ?_
  · intro w _; go_simp
  try simp only [Act.put, gd, ge, gf]
  refine tkA 3 (.pointer (some ⟨g, x * 2, none⟩)) rfl (by kernel_rfl) (fun _ _ _ h => (h : False).elim) (by kernel_rfl) (fun _ => ‹_›) ?_ ?_
  · intro w _; go_simp
  try simp only [Act.put, gd, ge, gf]
  refine tkA 4 (.pointer (some ⟨g, x * 2, none⟩)) rfl (by kernel_rfl) (fun _ _ _ h => (h : False).elim) (by kernel_rfl) (fun _ => ‹_›) ?_ ?_
  · intro w _; go_simp
  try simp only [Act.put, gd, ge, gf]
  refine tkA 5 (.pointer (some ⟨g, x * 2 + 1, none⟩)) rfl (by kernel_rfl) (fun _ _ _ h => (h : False).elim) (by kernel_rfl) (fun _ => ‹_›) ?_ ?_
  · intro w _; go_simp
  try simp only [Act.put, gd, ge, gf]
  refine tkL 6 (.int .u64 r.2) rfl (by kernel_rfl) (fun _ _ _ h => (h : False).elim) (by kernel_rfl) ‹_› ?_ ?_
  · intro w hSw
    obtain ⟨s0, s1⟩ := hSw
    go_simp
  try simp only [Act.put, gd, ge, gf]
  refine tkA 7 (.pointer (some ⟨g, y * 2, none⟩)) rfl (by kernel_rfl) (fun _ _ _ h => (h : False).elim) (by kernel_rfl) (fun _ => ‹_›) ?_ ?_
  · intro w _; go_simp
  try simp only [Act.put, gd, ge, gf]
  refine tkA 8 (.pointer (some ⟨g, y * 2, none⟩)) rfl (by kernel_rfl) (fun _ _ _ h => (h : False).elim) (by kernel_rfl) (fun _ => ‹_›) ?_ ?_
  · intro w _; go_simp
  try simp only [Act.put, gd, ge, gf]
  refine tkA 9 (.pointer (some ⟨g, y * 2 + 1, none⟩)) rfl (by kernel_rfl) (fun _ _ _ h => (h : False).elim) (by kernel_rfl) (fun _ => ‹_›) ?_ ?_
  · intro w _; go_simp
  try simp only [Act.put, gd, ge, gf]
  refine tkL 10 (.int .u64 s.2) rfl (by kernel_rfl) (fun _ _ _ h => (h : False).elim) (by kernel_rfl) ‹_› ?_ ?_
  · intro w hSw
    obtain ⟨s0, s1⟩ := hSw
    go_simp
  try simp only [Act.put, gd, ge, gf]
  refine wpAnyL_next (i := 11) (by kernel_rfl) rfl (fun K hK => ?_)
  go_simp
  refine (swap_calls (maskI (lessR s r)) r.2 s.2 _).mono ?_; rintro e w5 ⟨rfl, rfl⟩
  go_wp2_with fail
  refine hK.out _ _ ⟨c0, c1⟩ (fun hHeld => ?_)
  clear hK K
  try simp only [Act.put, gd, ge, gf]
  refine tkA 12 (.tuple #[.int .u64 (selI (maskI (lessR s r)) s.2 r.2), .int .u64 (selI (maskI (lessR s r)) r.2 s.2)]) rfl (by kernel_rfl) (fun _ _ _ h => (h : False).elim) (by kernel_rfl) (fun _ => ‹_›) ?_ ?_
  · intro w _; go_simp
  try simp only [Act.put, gd, ge, gf]
  refine tkA 13 (.int .u64 (selI (maskI (lessR s r)) s.2 r.2)) rfl (by kernel_rfl) (fun _ _ _ h => (h : False).elim) (by kernel_rfl) (fun _ => ‹_›) ?_ ?_
  · intro w _; go_simp
  try simp only [Act.put, gd, ge, gf]
  refine tkA 14 (.int .u64 (selI (maskI (lessR s r)) r.2 s.2)) rfl (by kernel_rfl) (fun _ _ _ h => (h : False).elim) (by kernel_rfl) (fun _ => ‹_›) ?_ ?_
  · intro w _; go_simp
  try simp only [Act.put, gd, ge, gf]
  refine tkA 15 (.pointer (some ⟨g, x * 2, none⟩)) rfl (by kernel_rfl) (fun _ _ _ h => (h : False).elim) (by kernel_rfl) (fun _ => ‹_›) ?_ ?_
  · intro w _; go_simp
  try simp only [Act.put, gd, ge, gf]
  refine tkA 16 (.pointer (some ⟨g, x * 2 + 1, none⟩)) rfl (by kernel_rfl) (fun _ _ _ h => (h : False).elim) (by kernel_rfl) (fun _ => ‹_›) ?_ ?_
  · intro w _; go_simp
  try simp only [Act.put, gd, ge, gf]
  refine wpAnyL_late (i := 17) (by kernel_rfl) rfl (by kernel_rfl) (fun K hK => ?_)
  go_simp
  refine hK.out _ _ (fun _ => ?_)
  clear hK K
  try simp only [Act.put, gd, ge, gf]
  refine wpAnyL_after (i := 18) (oi := _) (v := .pointer (some ⟨g, y * 2, none⟩)) rfl (by kernel_rfl) (by kernel_rfl) (by kernel_rfl) (by kernel_rfl) (by kernel_rfl) (fun _ _ _ h => (h : False).elim) (Or.inl ⟨by kernel_rfl, ?_⟩) ?_
  · intro w _; go_simp
  try simp only [Act.put, gd, ge, gf]
  refine wpAnyL_after (i := 19) (oi := _) (v := .pointer (some ⟨g, y * 2 + 1, none⟩)) rfl (by kernel_rfl) (by kernel_rfl) (by kernel_rfl) (by kernel_rfl) (by kernel_rfl) (fun _ _ _ h => (h : False).elim) (Or.inl ⟨by kernel_rfl, ?_⟩) ?_
  · intro w _; go_simp
  try simp only [Act.put, gd, ge, gf]
  refine wpAnyL_late (i := 20) (by kernel_rfl) rfl (by kernel_rfl) (fun K hK => ?_)
  go_simp
  refine hK.out _ _ (fun _ => ?_)
  clear hK K
  try simp only [Act.put, gd, ge, gf]
  refine wpAnyL_done (by kernel_rfl) ?_ _
  refine NoPanic.normal ?_
  go_wp2_with fail
  go_end0
  exact ⟨rfl, Hr3.out, Hk3.out.drewN 2⟩
end Go.Proofs.YtmoajobnhiopiaaGreatDoor.so
namespace Go.Proofs.YtmoajobnhiopiaaGreatDoor.nw
open Go Go.RowKit Go.Shelf Go.Proofs.YtmoajobnhiopiaaGreatDoor.tp Go.Proofs.YtmoajobnhiopiaaGreatDoor.rg
attribute [local go_sem] Oper.semAt_some
def isN (n : Nat) : Bool := (List.range 13).any fun r => n == 2 ^ r
def isB (n : Int) : Bool := (List.range 13).any fun r => n == ((2 ^ r : Nat) : Int)
theorem isB_nat (n : Nat) : isB (n : Int) = isN n := by
  unfold isB isN
  congr 1
  funext r
  rw [Bool.eq_iff_iff, beq_iff_eq, beq_iff_eq]
  omega
theorem isB_iff {n : Int} : isB n = true ↔ ∃ r : Nat, r ≤ 12 ∧ n = ((2 ^ r : Nat) : Int) := by
  unfold isB
  rw [List.any_eq_true]
  constructor
  · rintro ⟨r, hr, h⟩
    rw [List.mem_range] at hr
    exact ⟨r, by omega, by simpa using h⟩
  · rintro ⟨r, hr, h⟩
    exact ⟨r, by rw [List.mem_range]; omega, by simpa using h⟩
theorem isB_bounds {n : Int} (h : isB n = true) : 1 ≤ n ∧ n ≤ 4096 := by
  obtain ⟨r, hr, rfl⟩ := isB_iff.1 h
  have h0 := Nat.two_pow_pos r
  have : 2 ^ r ≤ 2 ^ 12 := Nat.pow_le_pow_right (by omega) hr
  omega
theorem and_table : (List.range 4097).all (fun m => m == 0 || (((m &&& (m - 1)) == 0) == isN m)) = true := by decide +kernel
theorem and_isN {m : Nat} (h1 : 1 ≤ m) (h2 : m ≤ 4096) : ((m &&& (m - 1)) == 0) = isN m := by
  have := List.all_eq_true.1 and_table m (by rw [List.mem_range]; omega)
  rw [Bool.or_eq_true] at this
  rcases this with h | h
  · rw [beq_iff_eq] at h; omega
  · exact beq_iff_eq.1 h
theorem wraps_i64_63 (n : Int) (h₀ : 0 ≤ n) (h₁ : n < 2 ^ 63) : IntKind.i64.wrap n = n := by rw [IntKind.wrap_i64]; omega
theorem and_i64 {a b : Nat} (ha : a < 9223372036854775808) (hb : b < 9223372036854775808) : bits .and .i64 a b = ((a &&& b : Nat) : Int) := (bits_nat .i64 63 (by decide) wraps_i64_63 a b ha hb).1
theorem xor_i64 {a b : Nat} (ha : a < 9223372036854775808) (hb : b < 9223372036854775808) : bits .xor .i64 a b = ((a ^^^ b : Nat) : Int) := by
  have e : bits .xor .i64 (a : Int) (b : Int) = IntKind.i64.wrap (((BitVec.ofInt 64 (a : Int)) ^^^ (BitVec.ofInt 64 (b : Int))).toNat : Int) := rfl
  rw [e, BitVec.toNat_xor, BitVec.toNat_ofInt, BitVec.toNat_ofInt]
  have h1 : ((a : Int) % ((2 ^ 64 : Nat) : Int)).toNat = a := by omega
  have h2 : ((b : Int) % ((2 ^ 64 : Nat) : Int)).toNat = b := by omega
  rw [h1, h2]
  have h3 : a ^^^ b < 2 ^ 63 := Nat.xor_lt_two_pow ha hb
  exact wraps_i64_63 _ (by omega) (by omega)
theorem is_calls (n : Int) (hn : wf64 n = true) (w : World) : Calls Tryz.prog 161 #[.int .i64 n] w fun e w' => e = .returned (.bool (isB n)) ∧ w' = w := by
  by_cases h : 1 ≤ n ∧ n ≤ 4096
  · obtain ⟨h1, h2⟩ := h
    obtain ⟨m, rfl⟩ := Int.eq_ofNat_of_zero_le (show 0 ≤ n by omega)
    have hx : (bits .and .i64 (m : Int) ((m : Int) - 1) == 0) = isB (m : Int) := by
      rw [isB_nat, ← and_isN (by omega) (by omega), show ((m : Int) - 1) = ((m - 1 : Nat) : Int) by omega, and_i64 (by omega) (by omega), Bool.eq_iff_iff, beq_iff_eq, beq_iff_eq]
      omega
    clear hn
    go_enter Tryz.func161, Tryz.ntmps161
    go_wp2
    go_ret
    exact ⟨rfl, rfl⟩
  · have hb : isB n = false := by
      cases hB : isB n
      · rfl
      · exact absurd (isB_bounds hB) h
    rw [hb]
    by_cases h1 : 1 ≤ n
    · have h2 : 4096 < n := by omega
      clear h hb hn
      go_enter Tryz.func161, Tryz.ntmps161
      go_wp2
      go_ret
      exact ⟨rfl, rfl⟩
    · have h2 : n < 1 := by omega
      clear h hb hn h1
      go_enter Tryz.func161, Tryz.ntmps161
      go_wp2
      go_ret
      exact ⟨rfl, rfl⟩
theorem netall_calls (n : Int) (w : World) : Calls Tryz.prog 148 #[.int .i64 n] w fun e w' =>
    e = .returned (.func (.func 160) #[] #[.pointer (some ⟨w.heap.size, 0, none⟩)]) ∧ w' = w.alloc (.cells #[.int .i64 n] 3) := by
  go_enter Tryz.func148, Tryz.ntmps148
  go_wp2
  go_ret
  exact ⟨rfl, rfl⟩
end Go.Proofs.YtmoajobnhiopiaaGreatDoor.nw
namespace Go.Proofs.YtmoajobnhiopiaaGreatDoor.nw
open Go Go.RowKit Go.Shelf Go.Proofs.YtmoajobnhiopiaaGreatDoor.tp Go.Proofs.YtmoajobnhiopiaaGreatDoor.rg
attribute [local go_sem] Oper.semAt_some
def from_ (k j n t : Nat) : List (Nat × Nat) := (List.range' t (n - t)).flatMap fun i => if bt i j then [] else [cmpr k j i]
theorem from_zero (k j n : Nat) : from_ k j n 0 = comps k j n := by
  unfold from_ comps
  rw [Nat.sub_zero, List.range_eq_range']
theorem from_end (k j n : Nat) : from_ k j n n = [] := by
  unfold from_
  rw [Nat.sub_self]; rfl
theorem from_step {k j n t : Nat} (h : t < n) : from_ k j n t = (if bt t j then [] else [cmpr k j t]) ++ from_ k j n (t + 1) := by
  unfold from_
  rw [show n - t = (n - (t + 1)) + 1 by omega, List.range'_succ, List.flatMap_cons]
theorem testBit_bt (x q : Nat) : x.testBit q = bt x (2 ^ q) := by
  rw [Nat.testBit_eq_decide_div_mod_eq]
  unfold bt
  rw [Bool.eq_iff_iff, decide_eq_true_eq, beq_iff_eq]
theorem and_pow (x q : Nat) : x &&& 2 ^ q = if bt x (2 ^ q) then 2 ^ q else 0 := by
  rw [← testBit_bt]
  apply Nat.eq_of_testBit_eq
  intro i
  rw [Nat.testBit_and, Nat.testBit_two_pow]
  by_cases h : q = i
  · subst h
    cases x.testBit q <;> simp
  · cases x.testBit q
    · simp [h]
    · simp only [if_true]
      rw [Nat.testBit_two_pow]
      simp [h]
theorem xor_one (y : Nat) : y ^^^ 1 = if y % 2 = 1 then y - 1 else y + 1 := by
  have h1 : (y ^^^ 1) / 2 = y / 2 := by
    have := Nat.xor_div_two_pow (a := y) (b := 1) (n := 1)
    rw [Nat.pow_one] at this
    rw [this, show 1 / 2 = 0 by decide, Nat.xor_zero]
  have h2 : (y ^^^ 1) % 2 = (y % 2) ^^^ 1 := by
    have := Nat.xor_mod_two_pow (a := y) (b := 1) (n := 1)
    rw [Nat.pow_one] at this
    exact this
  rcases Nat.mod_two_eq_zero_or_one y with h | h
  · rw [h] at h2
    rw [if_neg (by omega)]
    have : (0 ^^^ 1 : Nat) = 1 := by decide
    omega
  · rw [h] at h2
    rw [if_pos h]
    have : (1 ^^^ 1 : Nat) = 0 := by decide
    omega
theorem xor_pow (x q : Nat) : x ^^^ 2 ^ q = if bt x (2 ^ q) then x - 2 ^ q else x + 2 ^ q := by
  have h0 := Nat.two_pow_pos q
  have h1 : (x ^^^ 2 ^ q) / 2 ^ q = x / 2 ^ q ^^^ 1 := by
    have := Nat.xor_div_two_pow (a := x) (b := 2 ^ q) (n := q)
    rw [Nat.div_self h0] at this
    exact this
  have h2 : (x ^^^ 2 ^ q) % 2 ^ q = x % 2 ^ q := by
    have := Nat.xor_mod_two_pow (a := x) (b := 2 ^ q) (n := q)
    rw [Nat.mod_self, Nat.xor_zero] at this
    exact this
  have e1 := Nat.div_add_mod (x ^^^ 2 ^ q) (2 ^ q)
  have e2 := Nat.div_add_mod x (2 ^ q)
  have e3 := Nat.mod_lt x h0
  rw [h1, h2, xor_one] at e1
  unfold bt
  generalize x ^^^ 2 ^ q = z at e1 ⊢
  by_cases hb : x / 2 ^ q % 2 = 1
  · rw [if_pos hb] at e1
    rw [if_pos (by simpa using hb)]
    have : 2 ^ q * (x / 2 ^ q) = 2 ^ q * (x / 2 ^ q - 1) + 2 ^ q := by
      rw [← Nat.mul_succ, Nat.succ_eq_add_one, Nat.sub_add_cancel (Nat.pos_of_ne_zero (fun h => by rw [h] at hb; cases hb))]
    omega
  · rw [if_neg hb] at e1
    rw [if_neg (by simpa using hb)]
    rw [Nat.mul_add, Nat.mul_one] at e1
    omega
theorem wpIn_scope {n : Nat} {P : Program} {c : Code} {Q : Exit → Act → World → Prop} {a : Act} {w : World} (h : c.wpIn Fence.wide n P (Exit.noGoto Q) a w) : (Code.scope c).wpIn Fence.wide n P Q a w := wpIn_wide.2 (wp_scope_straight (wpIn_wide.1 h))
theorem nl_prefix {n r : Nat} : ∀ {p : Nat}, p ≤ r → ∃ X, nl n p ++ X = nl n r := by
  induction r with
  | zero => intro p hp; obtain rfl : p = 0 := by omega
            exact ⟨[], List.append_nil _⟩
  | succ r ih =>
    intro p hp
    rcases Nat.lt_or_eq_of_le hp with h | rfl
    · obtain ⟨X, hX⟩ := ih (show p ≤ r by omega)
      exact ⟨X ++ rl (2 ^ (r + 1)) n (r + 1), by rw [← List.append_assoc, hX]; rfl⟩
    · exact ⟨[], List.append_nil _⟩
theorem half_pow (q : Nat) : 2 ^ (q + 1) / 2 = 2 ^ q := by rw [Nat.pow_succ]; omega
set_option maxRecDepth 100000 in
set_option maxHeartbeats 4000000 in
theorem all1 (n r N l Bn : Nat) (hr : r ≤ 12) (hN : N = 2 ^ r) (J : List (Nat × Nat) → World → Prop) (Z : World → Prop)
    (hbox : ∀ D W, J D W → W.cell? ⟨Bn, 0, none⟩ = some (.int .i64 (N : Int)))
    (halloc : ∀ D W (a b : Int), J D W → J D (W.alloc (.cells #[.int .i64 a, .int .i64 b] 224)))
    (hY : ∀ (D : List (Nat × Nat)) (a b : Nat) (E : List (Nat × Nat)) W, J D W → D ++ (a, b) :: E = nl N r →
      YieldAt Fence.wide (n - 1) Tryz.prog l #[.agg #[.int .i64 a, .int .i64 b]] W fun e W' => (e = .returned (.bool true) ∧ J (D ++ [(a, b)]) W') ∨ (e = .returned (.bool false) ∧ Z W'))
    (W : World) (h0 : J [] W) :
    CallsIn Fence.wide n Tryz.prog 160 #[.func (.yield l) #[] #[], .pointer (some ⟨Bn, 0, none⟩)] W fun e W' => (∃ v, e = .returned v) ∧ (J (nl N r) W' ∨ Z W') := by
  have q0 := hbox _ W h0
  have hN1 : 1 ≤ N := by rw [hN]; exact Nat.two_pow_pos r
  have hN2 : N ≤ 4096 := by rw [hN]; exact Nat.pow_le_pow_right (show 0 < 2 by omega) hr
  have hB : isB (N : Int) = true := isB_iff.2 ⟨r, hr, by rw [hN]⟩
  have hwf : wf64 (N : Int) = true := WalkArith.wf_i64 (by omega)
  have Hpow := Lib.hid (show ∀ p, p ≤ r → 2 ^ p ≤ N from fun p hp => by rw [hN]; exact Nat.pow_le_pow_right (by omega) hp)
  have Hdvd := Lib.hid (show ∀ p, p ≤ r → 2 ^ p ∣ N from fun p hp => by rw [hN]; exact Nat.pow_dvd_pow 2 hp)
  have his := fun W => is_calls (N : Int) hwf W
  rw [hB] at his
  have HN := Lib.hid hN
  clear hB hwf hN
  refine callsIn_of_wp Tryz.func160 rfl trivial ?_ rfl
  simp only [Tryz.ntmps160, List.size_toArray, List.length_cons, List.length_nil, Nat.reduceAdd, Nat.reduceSub, Array.replicate_succ, Array.replicate_zero, List.push_toArray, List.append_toArray, List.nil_append, List.cons_append]
  refine wpIn_scope ?_
  gi_wp2_with fail
  refine ⟨trivial, (fun h => by cases h), ?_⟩
  refine (callsIn_wide.2 (his W)).mono ?_
  rintro e W2 ⟨rfl, rfl⟩
  gi_wp2_with fail
  refine wpIn_label ?_
  gi_wp2_with fail
  clear his
  gi_loopw [3] (fun k wr => ∃ p K : Nat, p ≤ r ∧ K = 2 ^ (p + 1) ∧ k = .int .i64 K ∧ J (nl N p) wr) (fun k _ => 2 * N - (intOf k).toNat)
  case atStart => exact ⟨0, 2, Nat.zero_le _, rfl, rfl, h0⟩
  case round =>
    clear q0 h0
    obtain ⟨p, K, hp, hK, rfl, hJ⟩ := hrel
    have q1 := hbox _ wr hJ
    by_cases hlt : p < r
    · have hKN : K ≤ N := by rw [hK]; exact Hpow.out _ hlt
      have hK2 : 2 ≤ K := by rw [hK, Nat.pow_succ]; have := Nat.two_pow_pos p; omega
      have HK := Lib.hid hK
      have HS := Lib.hid (show nl N p ++ rl K N (p + 1) = nl N (p + 1) by rw [hK]; rfl)
      clear hK
      obtain ⟨wo, rfl⟩ : ∃ wo : World, wo = wr := ⟨_, rfl⟩
      gi_wp2_with fail
      gi_loopw [4] (fun j wr => ∃ (q j0 : Nat) (D : List (Nat × Nat)), q ≤ p + 1 ∧ j0 = 2 ^ q / 2 ∧ j = .int .i64 j0 ∧ D ++ rl K N q = nl N (p + 1) ∧ J D wr) (fun j _ => (intOf j).toNat)
      case atStart => exact ⟨p + 1, K / 2, nl N p, Nat.le_refl _, by rw [HK.out], rfl, HS.out, hJ⟩
      case round =>
        clear q1 hJ
        obtain ⟨q, j, D, hq, hj, rfl, hD, hJ⟩ := hrel
        have q1 := hbox _ wr hJ
        cases q with
        | zero =>
          have hj0 : j = 0 := by rw [hj]
          subst hj0
          have HD := Lib.hid (show D = nl N (p + 1) by rw [← hD]; show D = D ++ []; rw [List.append_nil])
          clear hj hD
          gi_wp2
          go_roundw
          case rel => exact ⟨p + 1, K * 2, by omega, by rw [HK.out, ← Nat.pow_succ], by go_num, by rw [← HD.out]; exact hJ⟩
          case measure => simp [intOf]; omega
        | succ q =>
          rw [half_pow] at hj
          have hj1 : 1 ≤ j := by rw [hj]; exact Nat.two_pow_pos q
          have hjN : j ≤ N := by rw [hj]; exact Hpow.out q (by omega)
          have HJ := Lib.hid hj
          have HD := Lib.hid (show D ++ from_ K j N 0 ++ rl K N q = nl N (p + 1) by rw [from_zero, hj, ← hD, List.append_assoc]; rfl)
          clear hj hD
          have hjd : decide (0 < j) = true := decide_eq_true hj1
          obtain ⟨wi, rfl⟩ : ∃ wi : World, wi = wr := ⟨_, rfl⟩
          gi_wp2_with fail
          gi_loopw [22] (fun i wr => ∃ (t : Nat) (D : List (Nat × Nat)), t ≤ N ∧ i = .int .i64 t ∧ D ++ from_ K j N t ++ rl K N q = nl N (p + 1) ∧ J D wr) (fun i _ => N - (intOf i).toNat)
          case atStart => exact ⟨0, D, Nat.zero_le _, rfl, HD.out, hJ⟩
          case round =>
            clear q1 hJ
            obtain ⟨t, D, ht, rfl, hD, hJ⟩ := hrel
            have q1 := hbox _ wr hJ
            by_cases hlt2 : t < N
            · have hxv := xor_i64 (show t < 9223372036854775808 by omega) (show j < 9223372036854775808 by omega)
              have hav := and_i64 (show t < 9223372036854775808 by omega) (show K < 9223372036854775808 by omega)
              rw [HJ.out, xor_pow, ← HJ.out] at hxv
              rw [HK.out, and_pow, ← HK.out] at hav
              rw [from_step hlt2] at hD
              by_cases hb : bt t j = true
              · have hjt : j ≤ t := by rw [HJ.out] at hb ⊢; exact bt_le hb
                rw [if_pos hb] at hxv
                rw [if_pos hb, List.nil_append] at hD
                have HDt := Lib.hid hD
                have hlo : ((t - j : Nat) : Int) < (t : Int) := by omega
                clear hb hD hav
                gi_wp2
                go_roundw
                case rel => exact ⟨t + 1, D, by omega, by go_num, HDt.out, halloc _ _ _ _ hJ⟩
                case measure => simp [intOf]; omega
              · have hb' : bt t j = false := by simpa using hb
                rw [if_neg hb] at hxv
                rw [if_neg hb] at hD
                obtain ⟨X, hX⟩ := nl_prefix (n := N) (show p + 1 ≤ r by omega)
                have HX := Lib.hid hX
                have hlo : ¬ ((t + j : Nat) : Int) < (t : Int) := by omega
                clear hb hb' hX
                by_cases hk : bt t K = true
                · rw [if_pos hk] at hav
                  have hne : ((K : Int) != 0) = true := by rw [bne_iff_ne]; omega
                  have hE : D ++ (t + j, t) :: (from_ K j N (t + 1) ++ rl K N q ++ X) = nl N r := by rw [← HX.out, ← hD]; simp [cmpr, hk]
                  have HDt := Lib.hid (show (D ++ [(t + j, t)]) ++ from_ K j N (t + 1) ++ rl K N q = nl N (p + 1) by rw [← hD]; simp [cmpr, hk])
                  clear hD hk
                  have hYc := hY D (t + j) (t) _ (wr.alloc (.cells #[.int .i64 ((t + j : Nat) : Int), .int .i64 ((t : Nat) : Int)] 224)) (halloc _ _ _ _ hJ) hE
                  clear hE
                  simp only [Int.natCast_add] at hYc
                  obtain ⟨fn, tmps, assign, body, hy, hR⟩ := hYc
                  clear q1
                  gi_wp2_with fail
                  refine ⟨(fun h => by cases h), hR.mono ?_⟩
                  rintro e W3 (⟨rfl, hJ3⟩ | ⟨rfl, hZ⟩)
                  · clear hy hR
                    gi_wp2
                    go_roundw
                    case rel => exact ⟨t + 1, D ++ [(t + j, t)], by omega, by go_num, HDt.out, hJ3⟩
                    case measure => simp [intOf]; omega
                  · clear hy hR
                    gi_wp2
                    rw [Exit.noGoto_normal]
                    go_end0
                    exact ⟨⟨_, rfl⟩, .inr hZ⟩
                · rw [if_neg hk] at hav
                  have hE : D ++ (t, t + j) :: (from_ K j N (t + 1) ++ rl K N q ++ X) = nl N r := by rw [← HX.out, ← hD]; simp [cmpr, hk]
                  have HDt := Lib.hid (show (D ++ [(t, t + j)]) ++ from_ K j N (t + 1) ++ rl K N q = nl N (p + 1) by rw [← hD]; simp [cmpr, hk])
                  clear hD hk
                  have hYc := hY D (t) (t + j) _ (wr.alloc (.cells #[.int .i64 ((t : Nat) : Int), .int .i64 ((t + j : Nat) : Int)] 224)) (halloc _ _ _ _ hJ) hE
                  clear hE
                  simp only [Int.natCast_add] at hYc
                  obtain ⟨fn, tmps, assign, body, hy, hR⟩ := hYc
                  clear q1
                  gi_wp2_with fail
                  refine ⟨(fun h => by cases h), hR.mono ?_⟩
                  rintro e W3 (⟨rfl, hJ3⟩ | ⟨rfl, hZ⟩)
                  · clear hy hR
                    gi_wp2
                    go_roundw
                    case rel => exact ⟨t + 1, D ++ [(t, t + j)], by omega, by go_num, HDt.out, hJ3⟩
                    case measure => simp [intOf]; omega
                  · clear hy hR
                    gi_wp2
                    rw [Exit.noGoto_normal]
                    go_end0
                    exact ⟨⟨_, rfl⟩, .inr hZ⟩
            · obtain rfl : t = N := by omega
              rw [from_end, List.append_nil] at hD
              have HDt := Lib.hid hD
              clear hD
              gi_wp2
              go_roundw
              case rel => exact ⟨q, j / 2, D, by omega, by rw [HJ.out], rfl, HDt.out, hJ⟩
              case measure => simp [intOf]; omega
    · obtain rfl : p = r := by omega
      have hKN : N < K := by rw [hK, Nat.pow_succ, ← HN.out]; omega
      clear hK
      gi_wp2
      rw [Exit.noGoto_normal]
      go_end0
      exact ⟨⟨_, rfl⟩, .inl hJ⟩
theorem all1_none (n l Bn : Nat) (nv : Int) (hwf : wf64 nv = true) (hB : isB nv = false) (W : World) (q0 : W.cell? ⟨Bn, 0, none⟩ = some (.int .i64 nv)) :
    CallsIn Fence.wide n Tryz.prog 160 #[.func (.yield l) #[] #[], .pointer (some ⟨Bn, 0, none⟩)] W fun e W' => (∃ v, e = .returned v) ∧ W' = W := by
  have his := fun W => is_calls nv hwf W
  rw [hB] at his
  clear hB hwf
  refine callsIn_of_wp Tryz.func160 rfl trivial ?_ rfl
  simp only [Tryz.ntmps160, List.size_toArray, List.length_cons, List.length_nil, Nat.reduceAdd, Nat.reduceSub, Array.replicate_succ, Array.replicate_zero, List.push_toArray, List.append_toArray, List.nil_append, List.cons_append]
  refine wpIn_scope ?_
  gi_wp2_with fail
  refine ⟨trivial, (fun h => by cases h), ?_⟩
  refine (callsIn_wide.2 (his W)).mono ?_
  rintro e W2 ⟨rfl, rfl⟩
  gi_wp2_with fail
  rw [Exit.noGoto_ret]
  refine bodyPost_ret (results_none rfl _ _ _) rfl ?_
  exact ⟨⟨_, rfl⟩, rfl⟩
end Go.Proofs.YtmoajobnhiopiaaGreatDoor.nw
namespace Go.Proofs.YtmoajobnhiopiaaGreatDoor.rg
open Go Go.RowKit Go.Shelf
theorem range_law2 {P : Program} {n : Nat} {g : Operand} {ps : Array Tmp} {assign body : Code} {Q : Exit → Act → World → Prop} {a : Act} {w : World}
    {gf : Nat} {lb : Array Value} (hg : a.eval g = .func (.func gf) #[] lb) (eg : ∀ args w, (callFunc gf args).run P w = .ok (.enter gf args) w)
    (encs : Nat → Array Value) (hps : ∀ x, (encs x).size = ps.size) (N : Nat) (I : Nat → World → Prop)
    (hput : ∀ k W o, I k W → W.heap[w.heap.size + 1]? ≠ none → I k (W.putObj (w.heap.size + 1) o))
    (h0 : ∀ r, I 0 ((w.alloc (.deferred (some []))).alloc (.loop r)))
    (hiter : ∀ (Bk : World → Prop), (∀ W W', Bk W → Two w W W' → Bk W') → (∀ W, Bk W → w.heap.size + 1 < W.heap.size) → ∀ W1, I 0 W1 → Bk W1 →
      (∀ k W, I k W → Bk W → k < N → YieldAt Fence.wide (n - 1 - 1) P (w.heap.size + 1) (encs k) W fun e W' => e = .returned (.bool true) ∧ I (k + 1) W' ∧ Bk W') →
      CallsIn Fence.wide (n - 1) P gf (#[.func (.yield (w.heap.size + 1)) #[] #[]] ++ lb) W1 fun e W' => (∃ v, e = .returned v) ∧ I N W' ∧ Bk W')
    (A : Nat → Act → World → Prop)
    (hassign : ∀ (k : Nat) (W : World) (K : Act → World → Prop), I k W → k < N → w.heap.size + 1 < W.heap.size → (∀ a' W', A k a' W' → I k W' → Two w W W' → K a' W') →
      assign.wpIn (Fence.wide.inRound (w.heap.size + 1)) (n - 1 - 1) P (Exit.then K (fun _ _ _ => False)) { tmps := (ps.zip (encs k)).foldl (fun t (p, v) => t.setIfInBounds p v) a.tmps, defers := [] } W)
    (hAput : ∀ k a' W o, A k a' W → W.heap[w.heap.size + 1]? ≠ none → A k a' (W.putObj (w.heap.size + 1) o))
    (hbody : ∀ (k : Nat) (a' : Act) (W : World), A k a' W → I k W → k < N → w.heap.size + 1 < W.heap.size → body.wpIn (Fence.wide.inRound (w.heap.size + 1)) (n - 1 - 1) P (GoesOn w I k W) a' W)
    (hdone : ∀ (W : World), I N W → W.heap[w.heap.size]? = some (.deferred (some [])) → Q .normal { a with defers := { target := .collected w.heap.size, args := #[] } :: a.defers } W) :
    (Code.rangeFunc g ps assign body).wpIn Fence.wide n P Q a w := by
  refine wpIn_rangeFunc ?_
  intro fn hfn
  obtain ⟨rec, hrec⟩ : ∃ rec : LoopState → Option Code → Loop, rec = fun st pe => { state := st, pending := pe, fn, tmps := a.tmps, params := ps, assign, body, defers := w.heap.size } := ⟨_, rfl⟩
  have hsz1 : (w.alloc (.deferred (some []))).heap.size = w.heap.size + 1 := by simp
  have hloop : ((w.alloc (.deferred (some []))).alloc (.loop (rec .ready none))).heap[w.heap.size + 1]? = some (.loop (rec .ready none)) := by
    have := World.alloc_heap_new (w.alloc (.deferred (some []))) (.loop (rec .ready none))
    rwa [hsz1] at this
  have hdef : ((w.alloc (.deferred (some []))).alloc (.loop (rec .ready none))).heap[w.heap.size]? = some (.deferred (some [])) :=
    (Below.heap_alloc _ _ _ (by omega)).trans (World.alloc_heap_new w _)
  let Bk : World → Prop := fun W => W.heap[w.heap.size]? = some (.deferred (some [])) ∧ W.heap[w.heap.size + 1]? = some (.loop (rec .ready none))
  have hBk : ∀ W W', Bk W → Two w W W' → Bk W' := fun W W' h t => ⟨t.1.trans h.1, t.2.trans h.2⟩
  have hsz : ∀ W, Bk W → w.heap.size + 1 < W.heap.size := fun W h => (Array.getElem?_eq_some_iff.1 h.2).1
  refine ⟨w.heap.size + 1, [{ target := .collected w.heap.size, args := #[] }], (w.alloc (.deferred (some []))).alloc (.loop (rec .ready none)), { target := .fn (.func gf) lb, args := #[.func (.yield (w.heap.size + 1)) #[] #[]] }, (w.alloc (.deferred (some []))).alloc (.loop (rec .ready none)), gf,
    #[.func (.yield (w.heap.size + 1)) #[] #[]] ++ lb, (w.alloc (.deferred (some []))).alloc (.loop (rec .ready none)), ?_, ?_, fun _ _ => trivial, ?_, (fun h => by cases h), ?_⟩
  · rw [hrec]; exact run_enterLoop_outer _ _ _ _ _
  · simp only [resolve, hg, hrec]
    simp [go_sem]
  · simp [invoke, go_sem, eg, hrec]
  · refine (hiter Bk hBk hsz _ (h0 _) ⟨hdef, hloop⟩ ?_).mono ?_
    · intro k W hI hb hk
      have hy := run_yield (P := P) (args := encs k) hb.2 (by rw [hrec]; exact hps k)
      rw [hrec] at hy
      refine ⟨fn, _, assign, body, hy, roundIn_of_wpIn hfn (hassign k W _ hI hk (hsz W hb) ?_)⟩
      intro a' W' hA hI' ht'
      have hb' := hBk _ _ hb ht'
      refine ⟨_, run_beginRound hb'.2 (by rw [hrec]), ?_⟩
      have hlt := hsz W' hb'
      have hl2 : (W'.putObj (w.heap.size + 1) (.loop { rec .ready none with state := .busy })).heap[w.heap.size + 1]? = some (.loop { rec .ready none with state := .busy }) := World.putObj_heap_same hlt
      have hd2 : (W'.putObj (w.heap.size + 1) (.loop { rec .ready none with state := .busy })).heap[w.heap.size]? = some (.deferred (some [])) := (World.putObj_heap_other (by omega)).trans hb'.1
      have hI2 := hput k W' (.loop { rec .ready none with state := .busy }) hI' (by rw [hb'.2]; simp)
      have hA2 := hAput k a' W' (.loop { rec .ready none with state := .busy }) hA (by rw [hb'.2]; simp)
      refine wpIn_mono (hbody k a' _ hA2 hI2 hk (by simpa using hlt)) ?_
      rintro e a3 W3 hp
      cases e with
      | normal =>
        obtain ⟨ht, hi3⟩ := hp
        have hl3 := ht.2.trans hl2
        have hd3 := ht.1.trans hd2
        have hr := run_endRound (P := P) (none : Option Code) hl3
        refine ⟨_, _, hr, rfl, hput _ _ _ hi3 (by rw [hl3]; simp), (World.putObj_heap_other (by omega)).trans hd3, ?_⟩
        have := World.putObj_heap_same (o := .loop (rec .ready none)) (Array.getElem?_eq_some_iff.1 hl3).1
        rw [hrec] at this ⊢
        exact this
      | ret => exact hp.elim
      | exit id => exact hp.elim
      | goto t => exact hp.elim
      | panic ch => exact hp.elim
      | outgrown => exact hp.elim
    · rintro e W2 ⟨⟨v, rfl⟩, hI, hb⟩
      refine ⟨none, _, ?_, hdone _ (hput _ _ (.loop { rec .ready none with state := .exhausted }) hI (by rw [hb.2]; simp)) ((World.putObj_heap_other (by omega)).trans hb.1)⟩
      have := run_endLoop (P := P) hb.2 (by rw [hrec]; simp)
      rw [hrec] at this ⊢
      exact this
end Go.Proofs.YtmoajobnhiopiaaGreatDoor.rg
namespace Go.Proofs.YtmoajobnhiopiaaGreatDoor.nw
open Go Go.RowKit Go.Shelf Go.Proofs.YtmoajobnhiopiaaGreatDoor.tp Go.Proofs.YtmoajobnhiopiaaGreatDoor.rg
theorem keeps_putObj (w : World) (r : Nat) (o : Obj) : Keeps (fun k => k = r) w (w.putObj r o) :=
  ⟨rfl, rfl, rfl, by simp, fun k _ hk => World.putObj_heap_other hk⟩
def Loops (w : World) (W W' : World) : Prop := Keeps (fun i => i = w.heap.size ∨ i = w.heap.size + 1) W W'
structure At (w : World) (a₁ : Nat → Int → Int → Act) (x y : Nat) (a' : Act) (W : World) (g : Nat) : Prop where
  act : a' = a₁ g x y
  c0 : W.cell? ⟨g, 0, none⟩ = some (.int .i64 x)
  c1 : W.cell? ⟨g, 1, none⟩ = some (.int .i64 y)
  lo : w.heap.size + 2 ≤ g
  hi : g < W.heap.size
def GoesAll (w : World) (I : Nat → World → Prop) (k : Nat) (W : World) : Exit → Act → World → Prop
  | .normal, _, W' => Two w W W' ∧ w.heap.size + 2 ≤ W'.heap.size ∧ I (k + 1) W'
  | _, _, _ => False
def cat (L : List (Nat × Nat)) (k : Nat) : Nat × Nat := L.getD k (0, 0)
def IsNet (nv : Int) (L : List (Nat × Nat)) : Prop := (∃ r N : Nat, r ≤ 12 ∧ N = 2 ^ r ∧ nv = (N : Int) ∧ L = nl N r) ∨ (isB nv = false ∧ wf64 nv = true ∧ L = [])
end Go.Proofs.YtmoajobnhiopiaaGreatDoor.nw
namespace Go.Proofs.YtmoajobnhiopiaaGreatDoor.nw
open Go Go.RowKit Go.Shelf Go.Proofs.YtmoajobnhiopiaaGreatDoor.tp Go.Proofs.YtmoajobnhiopiaaGreatDoor.rg
attribute [local go_sem] Oper.semAt_some
theorem comps_len (k j n : Nat) : (comps k j n).length ≤ n := by
  unfold comps
  rw [List.length_flatMap]
  have : ∀ L : List Nat, (L.map fun i => (if bt i j then [] else [cmpr k j i] : List (Nat × Nat)).length).sum ≤ L.length := by
    intro L
    induction L with
    | nil => simp
    | cons i L ih =>
      simp only [List.map_cons, List.sum_cons, List.length_cons]
      have h1 : (if bt i j then [] else [cmpr k j i] : List (Nat × Nat)).length ≤ 1 := by split <;> simp
      omega
  have h := this (List.range n)
  rwa [List.length_range] at h
theorem rl_len (k n : Nat) : ∀ q, (rl k n q).length ≤ q * n
  | 0 => by simp [rl]
  | q + 1 => by
    show (comps k (2 ^ q) n ++ rl k n q).length ≤ _
    rw [List.length_append, Nat.add_mul, Nat.one_mul]
    have := comps_len k (2 ^ q) n
    have := rl_len k n q
    omega
theorem nl_len (n : Nat) : ∀ r, r ≤ 12 → (nl n r).length ≤ r * 12 * n
  | 0, _ => by simp [nl]
  | r + 1, h => by
    show (nl n r ++ rl (2 ^ (r + 1)) n (r + 1)).length ≤ _
    have h1 := nl_len n r (by omega)
    have h2 := rl_len (2 ^ (r + 1)) n (r + 1)
    have h3 : (r + 1) * n ≤ 12 * n := Nat.mul_le_mul_right n h
    have e : (r + 1) * 12 * n = r * 12 * n + 12 * n := by rw [Nat.add_mul, Nat.add_mul, Nat.one_mul]
    rw [List.length_append]
    omega
theorem nl_bound {r N : Nat} (hr : r ≤ 12) (hN : N = 2 ^ r) : (nl N r).length ≤ 589824 := by
  have h1 := nl_len N r hr
  have h2 : N ≤ 4096 := by rw [hN]; exact Nat.pow_le_pow_right (show 0 < 2 by omega) hr
  have h3 : r * 12 * N ≤ 12 * 12 * 4096 := Nat.mul_le_mul (Nat.mul_le_mul_right 12 hr) h2
  omega
theorem infoC : (Tryz.prog.info? 224).map (fun i => (i.zero, i.size, i.bytes)) = some (some (.agg #[.int .i64 0, .int .i64 0]), 2, 16) := by kernel_rfl
end Go.Proofs.YtmoajobnhiopiaaGreatDoor.nw
namespace Go.Proofs.YtmoajobnhiopiaaGreatDoor.ar
open Go Go.RowKit Go.Shelf Go.Proofs.YtmoajobnhiopiaaGreatDoor.tp Go.Proofs.YtmoajobnhiopiaaGreatDoor.mk Go.Proofs.YtmoajobnhiopiaaGreatDoor.rg
attribute [local go_sem] Oper.semAt_some
theorem row_set {w : World} {b j : Nat} {cs : Array Value} {t : TypeId} {fr : Nat × Nat} (h : w.heap[b]? = some (.cells cs t fr)) (u : Value) : (w.setCell ⟨b, j, none⟩ u).heap[b]? = some (.cells (cs.setIfInBounds j u) t fr) := by
  simp [World.setCell, Array.getElem?_modify, h]
def halfI (i x : Int) (k j : Nat) (y : Int) : Int := if j < k ∧ i = (j : Int) then x else y
def RowK (b off : Nat) (l : List Int) (i x : Int) (k : Nat) (W : World) : Prop :=
  l ≠ [] → ∃ cs t, W.heap[b]? = some (.cells cs t (0, 0)) ∧ ∀ (j : Nat) (y : Int), l[j]? = some y → cs[off + j]? = some (.int .u64 (halfI i x k j y))
theorem RowK.set {b off : Nat} {l : List Int} {i x : Int} {k : Nat} {W : World} (h : RowK b off l i x k W) {y : Int} (hy : l[k]? = some y) : RowK b off l i x (k + 1) (W.setCell ⟨b, off + k, none⟩ (.int .u64 (if i = (k : Int) then x else y))) := by
  intro hne
  obtain ⟨cs, t, hr, hc⟩ := h hne
  have hcy := hc k y hy
  have hlt := (Array.getElem?_eq_some_iff.1 hcy).1
  refine ⟨_, _, row_set hr _, fun j z hz => ?_⟩
  by_cases hj : j = k
  · subst hj
    rw [hy] at hz
    injection hz with hz
    subst hz
    rw [Array.getElem?_setIfInBounds, if_pos rfl, if_pos hlt]
    unfold halfI
    by_cases h : i = (j : Int)
    · rw [if_pos h, if_pos ⟨by omega, h⟩]
    · rw [if_neg h, if_neg (fun hh => h hh.2)]
  · rw [Array.getElem?_setIfInBounds, if_neg (by omega), hc j z hz]
    unfold halfI
    by_cases h : j < k
    · by_cases h2 : i = (j : Int)
      · rw [if_pos ⟨h, h2⟩, if_pos ⟨by omega, h2⟩]
      · rw [if_neg (fun hh => h2 hh.2), if_neg (fun hh => h2 hh.2)]
    · rw [if_neg (fun hh => h hh.1), if_neg (fun hh => by omega)]
theorem RowK.drew {b off : Nat} {l : List Int} {i x : Int} {k : Nat} {W : World} (h : RowK b off l i x k W) : RowK b off l i x k W.drew := h
theorem RowK.words {b off : Nat} {l : List Int} {i x : Int} {W : World} {ao : Option Addr} {cap : Nat} (hi : IsU i) (hvs : (l.length = 0 ∧ ∃ ao' cap', Value.slice ao l.length cap = .slice ao' 0 cap') ∨ ∃ cap', Value.slice ao l.length cap = .slice (some ⟨b, off, none⟩) l.length cap')
    (hbb : l ≠ [] → b < W.heap.size ∧ (Value.slice ao l.length cap).ownBlock = some b) (h : RowK b off l i x l.length W) :
    wordsAt W (.slice ao l.length cap) (l.set i.toNat x) := by
  by_cases hne : l = []
  · subst hne
    exact .inl ⟨rfl, ao, cap, rfl⟩
  · obtain ⟨cs, t, hr, hc⟩ := h hne
    have hvs' : ∃ cap', Value.slice ao l.length cap = .slice (some ⟨b, off, none⟩) l.length cap' := by
      rcases hvs with ⟨h0, _⟩ | h
      · exact absurd (List.eq_nil_of_length_eq_zero h0) hne
      · exact h
    obtain ⟨cap', he⟩ := hvs'
    refine .inr ⟨fun e => hne (by simpa using congrArg List.length e), b, off, cap', by rw [List.length_set]; exact he, (hbb hne).1, fun j z hz => ?_⟩
    rw [List.getElem?_set] at hz
    rw [cell_of_row _ _ _ _ _ _ hr]
    by_cases hj : i.toNat = j
    · rw [if_pos hj] at hz
      split at hz
      · rename_i hlt
        rw [hc j _ (List.getElem?_eq_getElem (by omega))]
        injection hz with hz
        unfold halfI
        rw [if_pos (by unfold IsU at hi; omega), hz]
      · cases hz
    · rw [if_neg hj] at hz
      rw [hc j z hz]
      unfold halfI
      rw [if_neg (by unfold IsU at hi; omega)]
theorem RowK.keep {b off : Nat} {l : List Int} {i x : Int} {k : Nat} {W W' : World} (h : RowK b off l i x k W) (hs : l ≠ [] → W'.heap[b]? = W.heap[b]?) : RowK b off l i x k W' := by
  intro hne
  obtain ⟨cs, t, hr, hc⟩ := h hne
  exact ⟨cs, t, (hs hne).trans hr, hc⟩
end Go.Proofs.YtmoajobnhiopiaaGreatDoor.ar
namespace Go.Proofs.YtmoajobnhiopiaaGreatDoor.tp
open Go Go.RowKit Go.Maps
def ptrAt (w : World) (S : Nat → Prop) (p : Value) (l : List Ev) : Prop := (p = .pointer none ∧ l = []) ∨ ∃ b, p = .pointer (some ⟨b, 0, none⟩) ∧ tapeAt w S b l
theorem ptrAt.drewN {w : World} {S : Nat → Prop} {p : Value} {l : List Ev} (h : ptrAt w S p l) (n : Nat) : ptrAt (w.drewN n) S p l := h
end Go.Proofs.YtmoajobnhiopiaaGreatDoor.tp
