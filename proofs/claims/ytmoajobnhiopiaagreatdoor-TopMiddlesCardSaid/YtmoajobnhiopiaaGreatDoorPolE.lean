/- The edges of a polygon: the iterator, by walking its text. -/
import Derived.Test.YtmoajobnhiopiaaGreatDoorPolR
import Derived.Stop.RegionWithIn
set_option linter.unusedSimpArgs false
set_option linter.unusedVariables false
namespace Go.Proofs.YtmoajobnhiopiaaGreatDoor.po
open Go Go.RowKit Go.Shelf Go.Maps Go.Proofs.YtmoajobnhiopiaaGreatDoor.mk Go.Proofs.YtmoajobnhiopiaaGreatDoor.tp Go.Proofs.YtmoajobnhiopiaaGreatDoor.rg Go.Proofs.YtmoajobnhiopiaaGreatDoor.lm Go.Proofs.YtmoajobnhiopiaaGreatDoor.gm Go.Proofs.YtmoajobnhiopiaaGreatDoor.nb

theorem edges_calls (v : Value) (ao : Option Addr) (n c : Nat) (w : World) : Calls Tryz.prog 44 #[.slice ao n c] w fun e w' =>
    e = .returned (.func (.func 74) #[] #[.pointer (some ⟨w.heap.size, 0, none⟩)]) ∧ w' = w.alloc (.cells #[.slice ao n c] 38) := by
  go_enter Tryz.func44, Tryz.ntmps44
  go_wp2
  go_ret
  exact ⟨rfl, rfl⟩
/-- What is yielded in round i. -/
def edgeV (l : List (Int × Int)) (i : Nat) : Value := .agg #[.int .i64 i, .int .i64 ((i + 1) % l.length : Nat), .int .i64 (pt l i).1, .int .i64 (pt l i).2, .int .i64 (pt l ((i + 1) % l.length)).1, .int .i64 (pt l ((i + 1) % l.length)).2]
set_option maxRecDepth 100000 in
set_option maxHeartbeats 4000000 in
theorem edges1 (n L Bv b off cap : Nat) (l : List (Int × Int)) (h3 : 3 ≤ l.length) (h64 : l.length ≤ 64) (J : Nat → World → Prop)
    (hbox : ∀ k W, J k W → W.cell? ⟨Bv, 0, none⟩ = some (.slice (some ⟨b, off, none⟩) l.length cap) ∧ ∀ i, i < l.length → W.cell? ⟨b, off + i * 2, none⟩ = some (.int .i64 (pt l i).1) ∧ W.cell? ⟨b, off + i * 2 + 1, none⟩ = some (.int .i64 (pt l i).2))
    (hdrew : ∀ k W, J k W → J k W.drew)
    (hY : ∀ (k : Nat) W, J k W → k < l.length → YieldAt Fence.wide (n - 1) Tryz.prog L #[edgeV l k] W fun e W' => e = .returned (.bool true) ∧ J (k + 1) W')
    (W : World) (h0 : J 0 W) :
    CallsIn Fence.wide n Tryz.prog 74 #[.func (.yield L) #[] #[], .pointer (some ⟨Bv, 0, none⟩)] W fun e W' => (∃ v, e = .returned v) ∧ J l.length W' := by
  have q0 := (hbox 0 W h0).1
  have hn3 : ¬ (l.length : Int) < 3 := by omega
  have hn64 : ¬ (l.length : Int) > 64 := by omega
  refine callsIn_of_wp Tryz.func74 rfl trivial ?_ rfl
  simp only [Tryz.ntmps74, List.size_toArray, List.length_cons, List.length_nil, Nat.reduceAdd, Nat.reduceSub, Array.replicate_succ, Array.replicate_zero, List.push_toArray, List.append_toArray, List.nil_append, List.cons_append]
  gi_wp2
  gi_loopw [4, 5, 16] (fun _ _ i wr => ∃ k : Nat, k ≤ l.length ∧ i = .int .i64 k ∧ J k wr) (fun _ _ i _ => l.length - (intOf i).toNat)
  case atStart => exact ⟨0, Nat.zero_le _, rfl, h0⟩
  case round =>
    obtain ⟨k, hk, rfl, hJ⟩ := hrel
    clear q0
    have hk0 : (0 : Int) ≤ (k : Int) := by omega
    by_cases hlt : k < l.length
    · have hlt' : (k : Int) < (l.length : Int) := by omega
      obtain ⟨q, hq⟩ : ∃ q, (k + 1) % l.length = q := ⟨_, rfl⟩
      have hql : q < l.length := by rw [← hq]; exact mod_next hlt
      have hqlI : (q : Int) < (l.length : Int) := by omega
      have hq0 : (0 : Int) ≤ (q : Int) := by omega
      obtain ⟨i1, hi1⟩ : ∃ i1, k + 1 = i1 := ⟨_, rfl⟩
      have hi1I : (k : Int) + 1 = (i1 : Int) := by omega
      have hqt : (i1 : Int).tmod (l.length : Int) = (q : Int) := by
        rw [Int.tmod_eq_emod_of_nonneg (by omega), ← hi1I]
        exact_mod_cast hq
      have hiw : IntKind.i64.wrap (i1 : Int) = (i1 : Int) := by rw [IntKind.wrap_i64]; omega
      have hqw : IntKind.i64.wrap (q : Int) = (q : Int) := by rw [IntKind.wrap_i64]; omega
      have hlz : ¬ (l.length : Int) = 0 := by omega
      have hlz' : ((l.length : Int) == 0) = false := beq_eq_false_iff_ne.2 hlz
      have hln : ¬ l.length = 0 := by omega
      have hlne : ¬ l = [] := fun h => hln (by rw [h]; rfl)
      have hd := hdrew k wr hJ
      have hb := hbox k _ hd
      have q0 := hb.1
      have c0 := (hb.2 k hlt).1
      have c1 := (hb.2 k hlt).2
      have c2 := (hb.2 q hql).1
      have c3 := (hb.2 q hql).2
      obtain ⟨fn, tmps, asg, bo, hy, hR⟩ := hY k _ hd hlt
      unfold edgeV at hy
      rw [hq] at hy
      have HQ := Lib.hid hq
      have HD := Lib.hid hd
      have HI1 := Lib.hid hi1
      clear hq hd hb hJ hi1
      gi_wp2_with fail
      gi_region_with (refine ⟨(fun h => by cases h), hR.mono ?_⟩; rintro e W3 ⟨rfl, hJ3⟩)
      all_goals
        clear q0 c0 c1 c2 c3 hy hR
        gi_wp2
        go_roundw
        case rel => exact ⟨k + 1, by omega, by go_num, by assumption⟩
        case measure => simp [intOf]; omega
    · obtain rfl : k = l.length := by omega
      gi_wp2
      go_end0
      exact ⟨⟨_, rfl⟩, hJ⟩
end Go.Proofs.YtmoajobnhiopiaaGreatDoor.po
