/- Arguments of the top laws, opened: a point, four points, a list of points; the package variables. -/
import Derived.Test.YtmoajobnhiopiaaGreatDoorSrvO
import Derived.Test.YtmoajobnhiopiaaGreatDoorRows
import Derived.ProofKit
import Derived.OpenShut
import Derived.Deep.Slices
import Derived.Deep.Strs
import Derived.SizedLaws
import Derived.ChangeSame
import Derived.JoinedOf
import Derived.WideKeyArgs
import Derived.Lib.SmallJoins
import Derived.Lib.LaidTab
set_option linter.unusedSimpArgs false
set_option linter.unusedVariables false
set_option maxRecDepth 100000
namespace Go.Proofs.YtmoajobnhiopiaaGreatDoor.to
open Go Go.RowKit Go.ChangeShapes Go.WideShapes Go.ChangeAt Go.Deep Go.Proofs.YtmoajobnhiopiaaGreatDoor.mk Go.Proofs.YtmoajobnhiopiaaGreatDoor.tp Go.Proofs.YtmoajobnhiopiaaGreatDoor.lm Go.Proofs.YtmoajobnhiopiaaGreatDoor.gm Go.Proofs.YtmoajobnhiopiaaGreatDoor.po

theorem own : ownKnob Tryz.prog.godebug = none := by kernel_rfl
theorem laidOut : laidOutB Tryz.prog = true := by kernel_rfl
theorem cellsPt : Tryz.prog.cellsOf 35 = 2 := by kernel_rfl
theorem cellsI : Tryz.prog.cellsOf 2 = 1 := by kernel_rfl
theorem cells4 : Tryz.prog.cellsOf 48 = 8 := by kernel_rfl
theorem wf_isS {n : Int} (h : (Lit.int .i64 n).wf = true) : IsS n := by
  have := bounds_i64 h
  unfold IsS
  omega
theorem list_of' {α : Type} {Q : Nat → α → Prop} : ∀ n : Nat, (∀ i, i < n → ∃ e, Q i e) → ∃ l : List α, l.length = n ∧ ∀ i e, l[i]? = some e → Q i e
  | 0, _ => ⟨[], rfl, fun i e h => by simp at h⟩
  | n + 1, h => by
    obtain ⟨l, hl, hq⟩ := list_of' n (fun i hi => h i (by omega))
    obtain ⟨x, hx⟩ := h n (by omega)
    refine ⟨l ++ [x], by simp [hl], fun i e he => ?_⟩
    by_cases hi : i < l.length
    · rw [List.getElem?_append_left hi] at he
      exact hq i e he
    · rw [List.getElem?_append_right (by omega)] at he
      have h0 : i - l.length = 0 := by
        by_cases h1 : i - l.length = 0
        · exact h1
        · rw [List.getElem?_eq_none (by simp; omega)] at he; cases he
      rw [h0] at he
      simp at he
      subst he
      have : i = n := by omega
      rw [this]; exact hx
theorem pt_cs {H : Type} {enc : TypeId × Value → H} {W : World} {fuel : Nat} {cs : List Value} {x : DataW H × List MemPlace} (hf : DataW.trod enc Tryz.prog W 0 (fun _ => true) true fuel 35 cs = some x) :
    ∃ r : Int × Int, Pt r ∧ cs = [.int .i64 r.1, .int .i64 r.2] := by
  obtain ⟨y0, y1, n, _, hl, h0, h1⟩ := trod_struct2 Tryz.underlying35 hf
  rw [cellsPt] at hl
  match cs, hl with
  | [c0, c1], _ =>
    have e0 : DataW.trod enc Tryz.prog W 0 (fun _ => true) true n 2 [c0] = some y0 := by simpa [cellsI] using h0
    have e1 : DataW.trod enc Tryz.prog W 0 (fun _ => true) true n 2 [c1] = some y1 := by simpa [cellsI] using h1
    obtain ⟨a0, q0, _, w0⟩ := DataW.trod_int Tryz.underlying2 e0
    obtain ⟨a1, q1, _, w1⟩ := DataW.trod_int Tryz.underlying2 e1
    simp at q0 q1
    exact ⟨(a0, a1), ⟨wf_isS w0, wf_isS w1⟩, by rw [q0, q1]⟩
theorem open_pt {H : Type} {enc : TypeId × Value → H} {W : World} {r : Reach} {b0 : Nat} {v : Value} {d : DataW H} {p : List MemPlace} (hv : Value.okWide Tryz.prog W r b0 35 v) (h : DataW.Trod enc Tryz.prog W 0 (fun _ => true) true 35 v d p) :
    ∃ x y : Int, IsS x ∧ IsS y ∧ v = .agg #[.int .i64 x, .int .i64 y] := by
  obtain ⟨cs, rfl, hsz⟩ := okWide_struct Tryz.underlying35 hv
  obtain ⟨fuel, hf⟩ := h
  obtain ⟨r, hr, hc⟩ := pt_cs hf
  refine ⟨r.1, r.2, hr.1, hr.2, ?_⟩
  have : (Value.agg cs).cells = cs := rfl
  rw [this] at hc
  have hcs : cs = #[.int .i64 r.1, .int .i64 r.2] := by rw [← Array.toList_inj]; exact hc
  rw [hcs]
theorem open_pts {H : Type} {enc : TypeId × Value → H} {W : World} {fuel : Nat} {a0 : Option Addr} {len cap : Nat} {x : DataW H × List MemPlace}
    (h : DataW.trod enc Tryz.prog W 0 (fun _ => true) true fuel 38 (Value.slice a0 len cap).cells.toList = some x) :
    ∃ l : List (Int × Int), (ptsAt W (.slice a0 len cap) l ∧ ∀ n c, Value.slice a0 len cap = .slice none n c → n = 0 ∧ c = 0) ∧ Pts l ∧ len = l.length ∧ l.length ≤ 9223372036854775807 := by
  rcases open_slice Tryz.underlying38 h with ⟨hcs, _⟩ | ⟨a, len', cap', m, n, D, Pl, hcs, _, hl, hm, hmm, _, hi⟩
  · simp [Value.cells] at hcs
    obtain ⟨rfl, rfl, rfl⟩ := hcs
    exact ⟨[], ⟨.inl ⟨rfl, _, _, rfl⟩, fun n c e => by cases e; exact ⟨rfl, rfl⟩⟩, fun e he => by simp at he, rfl, by simp⟩
  · simp [Value.cells] at hcs
    obtain ⟨rfl, rfl, rfl⟩ := hcs
    simp only [if_true] at hmm
    subst hmm
    have each : ∀ i, i < len → ∃ e : Int × Int, Pt e ∧ W.cell? (a.add (i * 2)) = some (.int .i64 e.1) ∧ W.cell? ((a.add (i * 2)).add 1) = some (.int .i64 e.2) := by
      intro i hil
      obtain ⟨cs', hc, ht⟩ := hi i (by omega)
      rw [cellsPt] at hc
      obtain ⟨_, _, hat⟩ := World.cells?_some hc
      obtain ⟨e, he, rfl⟩ := pt_cs ht
      refine ⟨e, he, ?_, hat 1 (by omega)⟩
      have := hat 0 (by omega)
      simpa [Addr.add] using this
    obtain ⟨l, hll, hq⟩ := list_of' len each
    have hok : Pts l := fun e he => by
      obtain ⟨i, hi'⟩ := List.getElem?_of_mem he
      exact (hq i e hi').1
    refine ⟨l, ⟨?_, fun n c e => by cases e⟩, hok, hll.symm, by unfold maxLen at hm; omega⟩
    subst hll
    by_cases hne : l = []
    · subst hne; exact .inl ⟨rfl, _, _, rfl⟩
    · have hlp : 0 < l.length := List.length_pos_iff.2 hne
      have h00 := (hq 0 l[0] (by simp [hlp])).2.1
      have hsp := World.cell?_spot h00
      have hlt := World.block_lt_of_cell? W _ h00
      obtain ⟨b, off, spot⟩ := a
      have hspot : spot = none := by simpa [Addr.add] using hsp
      subst hspot
      refine .inr ⟨b, off, _, rfl, by simpa [Addr.add] using hlt, fun i hi => ?_⟩
      have hpt : pt l i = l[i] := by unfold pt; rw [List.getD_eq_getElem?_getD, List.getElem?_eq_getElem hi]; rfl
      rw [hpt]
      obtain ⟨_, q1, q2⟩ := hq i l[i] (List.getElem?_eq_getElem hi)
      have add_at : ∀ (o k : Nat), (⟨b, o, none⟩ : Addr).add k = ⟨b, o + k, none⟩ := by intro o k; unfold Addr.add; split <;> simp_all
      rw [add_at] at q1 q2
      rw [add_at] at q2
      exact ⟨q1, q2⟩
theorem okWide_array {w : World} {r : Reach} {base : Nat} {t e : TypeId} {n : Nat} {v : Value} (ht : Tryz.prog.underlying t = some (.array n e)) (h : Value.okWide Tryz.prog w r base t v) : ∃ cs, v = .agg cs ∧ cs.size = Tryz.prog.cellsOf t := by
  simp only [Value.okWide, ht] at h
  obtain ⟨cs, h1, h2, _⟩ := h
  exact ⟨cs, h1, h2⟩
theorem open_four {H : Type} {enc : TypeId × Value → H} {W : World} {r : Reach} {b0 : Nat} {v : Value} {d : DataW H} {p : List MemPlace} (hv : Value.okWide Tryz.prog W r b0 48 v) (h : DataW.Trod enc Tryz.prog W 0 (fun _ => true) true 48 v d p) :
    ∃ a b c e : Int × Int, Pt a ∧ Pt b ∧ Pt c ∧ Pt e ∧ v = .agg #[.int .i64 a.1, .int .i64 a.2, .int .i64 b.1, .int .i64 b.2, .int .i64 c.1, .int .i64 c.2, .int .i64 e.1, .int .i64 e.2] := by
  obtain ⟨cs, rfl, hsz⟩ := okWide_array Tryz.underlying48 hv
  rw [cells4] at hsz
  obtain ⟨fuel, hf⟩ := h
  have hcs : (Value.agg cs).cells = cs := rfl
  rw [hcs] at hf
  obtain ⟨l⟩ := cs
  have hl : l.length = 8 := hsz
  cases fuel with
  | zero => simp [DataW.trod] at hf
  | succ fuel =>
    simp only [DataW.trod, Tryz.underlying48, cellsPt] at hf
    split at hf
    · obtain ⟨xs, hm, hx⟩ := Option.map_eq_some_iff.1 hf
      have each : ∀ i, i < 4 → ∃ e : Int × Int, Pt e ∧ (l.drop (i * 2)).take 2 = [.int .i64 e.1, .int .i64 e.2] := by
        intro i hi
        obtain ⟨b, hb, hf'⟩ := Lib.mapM_at hm i i (by simp [hi])
        obtain ⟨e, he, hce⟩ := pt_cs hf'
        exact ⟨e, he, hce⟩
      match l, hl with
      | [u0, u1, u2, u3, u4, u5, u6, u7], _ =>
        obtain ⟨a, ha, qa⟩ := each 0 (by omega)
        obtain ⟨b, hb, qb⟩ := each 1 (by omega)
        obtain ⟨c, hc, qc⟩ := each 2 (by omega)
        obtain ⟨e, he, qe⟩ := each 3 (by omega)
        simp at qa qb qc qe
        exact ⟨a, b, c, e, ha, hb, hc, he, by rw [qa.1, qa.2, qb.1, qb.2, qc.1, qc.2, qe.1, qe.2]⟩
    · cases hf
theorem gWords : Tryz.prog.globalNamed "geofence/mask.words" = some 0 := by kernel_rfl
theorem gWordsT : (Tryz.prog.globals[0]?).map (·.type) = some 138 := by kernel_rfl
theorem gFixed : Tryz.prog.globalNamed "geofence/header.fixed" = some 1 := by kernel_rfl
theorem gFixedT : (Tryz.prog.globals[1]?).map (·.type) = some 209 := by kernel_rfl
theorem cellsW2 : Tryz.prog.cellsOf 138 = 2 := by kernel_rfl
theorem cellsU1 : Tryz.prog.cellsOf 43 = 1 := by kernel_rfl
theorem cellsF6 : Tryz.prog.cellsOf 209 = 6 := by kernel_rfl
theorem cellsI1 : Tryz.prog.cellsOf 3 = 1 := by kernel_rfl
theorem laid_tail {P : Program} {W : World} {x : String × DataW Unit} {rest : List (String × DataW Unit)} (h : laidMet P (x :: rest) W) : laidMet P rest W := by
  obtain ⟨n, d⟩ := x
  obtain ⟨ps, ⟨g, t, cs, fuel, p, q, _, _, _, _, h2, rfl⟩, hn, hc⟩ := h
  exact ⟨q, h2, (List.nodup_append.1 hn).2.1, fun k off hm => hc k off (List.mem_append_right _ hm)⟩
theorem gl_of {W : World} (h : laidMetH Tryz.prog [("geofence/mask.words", Rows.laid_geofence_mask_words), ("geofence/header.fixed", Rows.laid_geofence_header_fixed)] W) : Gl W := by
  have t0 : Lib.TabIs Tryz.prog W "geofence/mask.words" .u64 [9223372036854775808, 18446744073709551615] :=
    Lib.tabIs_of_head gWords gWordsT Tryz.underlying138 Tryz.underlying43 cellsU1 cellsW2 h
  have t1 : Lib.TabIs Tryz.prog W "geofence/header.fixed" .i64 [0, 3, 4, 1, 1, 0] :=
    Lib.tabIs_of_head (rest := []) gFixed gFixedT Tryz.underlying209 Tryz.underlying3 cellsI1 cellsF6 (laid_tail h)
  exact ⟨t0.cell gWords 0 (by decide), t0.cell gWords 1 (by decide), t1.cell gFixed 0 (by decide), t1.cell gFixed 1 (by decide), t1.cell gFixed 2 (by decide), t1.cell gFixed 3 (by decide), t1.cell gFixed 4 (by decide), t1.cell gFixed 5 (by decide)⟩
def putWords : Obj → Obj
  | .cells _ t frozen => .cells #[.int .u64 9223372036854775808, .int .u64 18446744073709551615] t frozen
  | o => o
def putFixed : Obj → Obj
  | .cells _ t frozen => .cells #[.int .i64 0, .int .i64 3, .int .i64 4, .int .i64 1, .int .i64 1, .int .i64 0] t frozen
  | o => o
noncomputable def laidWorld (os : Os) : World :=
  { World.holding Tryz.prog os ⟨#[], #[], []⟩ with heap := ((World.holding Tryz.prog os ⟨#[], #[], []⟩).heap.modify 0 putWords).modify 1 putFixed }
end Go.Proofs.YtmoajobnhiopiaaGreatDoor.to
