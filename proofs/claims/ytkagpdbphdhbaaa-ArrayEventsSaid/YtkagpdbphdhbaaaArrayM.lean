/- The reference's Write, and the law ArrayWrites. -/
import Derived.Test.YtkagpdbphdhbaaaArrayL
namespace Go.Proofs.Ytkagpdbphdhbaaa.ar
open Go Go.RowKit Go.Maps Go.Proofs.Ytkagpdbphdhbaaa.tp Go.Proofs.Ytkagpdbphdhbaaa.mk

theorem words_src {w : World} {ao : Option Addr} {n c : Nat} {l : List Int} (h : wordsAt w (.slice ao n c) l) : ∀ ad, ao = some ad → ∀ j u, (wflat l)[j]? = some u → w.cell? (ad.add j) = some u := by
  intro ad e j u hj
  rcases h with ⟨rfl, _⟩ | ⟨_, b, off, cap, e', _, hc⟩
  · simp [wflat] at hj
  · cases e'; cases e
    unfold wflat at hj
    rw [List.getElem?_map] at hj
    cases hx : l[j]? with
    | none => rw [hx] at hj; cases hj
    | some x =>
      rw [hx] at hj
      cases hj
      have hadd : (⟨b, off, none⟩ : Addr).add j = ⟨b, off + j, none⟩ := by unfold Addr.add; split <;> simp_all
      rw [hadd]
      exact hc j x hx

theorem set_row {w : World} {g cap : Nat} {cur : Array Value} {t : TypeId} {l : List Int} {k : Nat} {x : Int} (hg : w.heap[g]? = some (.cells cur t (0, 0))) (hv : wordsAt w (.slice (some ⟨g, 0, none⟩) l.length cap) l) (hk : k < l.length) :
    wordsAt (w.setCell ⟨g, k, none⟩ (.int .u64 x)) (.slice (some ⟨g, 0, none⟩) l.length cap) (l.set k x) := by
  rcases hv with ⟨rfl, _⟩ | ⟨hne, b, off, cap', e, hb, hc⟩
  · simp at hk
  · cases e
    have hg' := row_set (j := k) hg (.int .u64 x)
    refine .inr ⟨fun e => hne (by simpa using congrArg List.length e), g, 0, cap, by rw [List.length_set], (Array.getElem?_eq_some_iff.1 hg').1, fun j z hz => ?_⟩
    have hj : j < l.length := by have := (List.getElem?_eq_some_iff.1 hz).1; simpa using this
    have hcj := hc j _ (List.getElem?_eq_getElem hj)
    rw [cell_of_row _ _ _ _ _ _ hg] at hcj
    have hlt := (Array.getElem?_eq_some_iff.1 hcj).1
    rw [cell_of_row _ _ _ _ _ _ hg', Array.getElem?_setIfInBounds]
    rw [List.getElem?_set] at hz
    by_cases h : k = j
    · subst h
      rw [if_pos rfl, if_pos hk] at hz
      injection hz with hz
      rw [if_pos (by omega), if_pos (by omega), hz]
    · rw [if_neg h] at hz
      rw [if_neg (by omega)]
      rw [List.getElem?_eq_getElem hj] at hz
      injection hz with hz
      rw [← hz]; exact hcj

theorem rwrite_calls (ao : Option Addr) (cap : Nat) (l : List Int) (i x : Int) (w : World) (h : wordsAt w (.slice ao l.length cap) l) (hn : ao = none → l.length = 0 ∧ cap = 0) (hl : l.length ≤ 1099511627776) (hi : IsU i) :
    Calls Try.prog 21 #[.slice ao l.length cap, .int .u64 i, .int .u64 x] w fun e w' => ∃ v, e = .returned v ∧ wordsAt w' v (l.set i.toNat x) ∧ Keeps (fun _ => False) w w' := by
  obtain ⟨i0, hi0, hz0, hz1, hz2⟩ := info_parts infoU
  have ha : Keeps (fun _ => False) w (w.alloc (.cells #[] 24)) := (Keeps.refl _ w).alloc _
  have hrow := World.ownsRow_made w (base := w.heap.size) (e := 24) (size := 1) #[] 0 (Nat.le_refl _) (by simp) rfl
  have hs := words_src (h.kept ha)
  obtain ⟨k, rfl⟩ : ∃ k : Nat, i = k := ⟨i.toNat, by unfold IsU at hi; omega⟩
  go_enter Try.func21, Try.ntmps21
  go_wp2_with (at_builtin; refine wpList_append_src _ rfl _ _ 22 rfl w.heap.size 24 i0 (.int .u64 0) 1 8 Try.underlying22 hi0 hz0 hz1 hz2 rfl (by decide) _ _ _ rfl hrow ao l.length cap (wflat l) rfl hn (by rw [wflat_length]; omega) hs (wflat_one l) (by unfold maxLen; omega) (by omega) (by simp) ?_)
  intro v2 w2 hown2 hgrow2
  have hk2 : Keeps (fun _ => False) w w2 := ha.grown hgrow2 (fun k e hk => by cases e; exact absurd hk (Nat.lt_irrefl _))
  have hown : w2.ownsRow w.heap.size 24 1 v2 l.length (wflat l) := by simpa using hown2
  have hv2 := (words_of_row hown).1
  clear hs hrow hown2 hgrow2 h ha
  by_cases hlt : k < l.length
  · have hlt' : (k : Int) < (l.length : Int) := by omega
    rcases hown.2 with ⟨rfl, h0⟩ | ⟨g, cap2, cur, rfl, hge, hg, hle, hcap, hcur, htake⟩
    · omega
    · have hcell : w2.cell? ⟨g, k, none⟩ = some (.int .u64 l[k]) := by
        rcases words_cases hv2 with ⟨rfl, _⟩ | ⟨_, b, off, cap, e, hc⟩
        · simp at hlt
        · cases e
          have := hc k _ (List.getElem?_eq_getElem hlt)
          simpa using this
      have hfz := two_frozen hg k
      have Hset := Lib.hid (set_row (x := x) hg hv2 hlt)
      have Hg := Lib.hid hg
      clear hg hcur htake hown hv2
      go_wp2
      go_ret
      refine ⟨_, rfl, Hset.out, (hk2.setCell ⟨g, k, none⟩ (fun hlt => ?_) _)⟩
      show False
      have : g < w.heap.size := hlt
      omega
  · have hge : ¬ ((k : Int) < (l.length : Int)) := by omega
    have Hv := Lib.hid (show wordsAt w2 v2 (l.set k x) by
      rw [List.set_eq_of_length_le (by omega)]; exact hv2)
    clear hown hv2
    go_wp2
    go_ret
    exact ⟨_, rfl, Hv.out, hk2⟩

theorem write_nil (v : Value) (l : List Int) (i x : Int) (w : World) (hv : wordsAt w v l) (hr : rowAt w v) (hl : l.length ≤ 549755813888) (hw : Words l) (hi : IsU i) (hx : IsU x) :
    Calls Try.prog 20 #[.pointer none, v, .int .u64 i, .int .u64 x] w fun e w' => e = .returned (.tuple #[]) ∧ wordsAt w' v (l.set i.toNat x) ∧ Keeps (fun k => v.ownBlock = some k) w w' :=
  (write_calls none [] (fun _ => False) v l i x w (.inl ⟨rfl, rfl⟩) (by simp) hv hr hl (fun _ _ h => h) hw hi hx).mono fun _ _ h => ⟨h.1, h.2.1, h.2.2.2.2.mono (fun _ _ h => h.elim (fun h => h.elim) id)⟩

theorem words_set {l : List Int} (hw : Words l) {x : Int} (hx : IsU x) (k : Nat) : Words (l.set k x) := by
  intro y hy
  rcases List.mem_or_eq_of_mem_set hy with h | h
  · exact hw y h
  · rw [h]; exact hx
/-- A list of words as an argument. -/
def argW (w : World) (v : Value) (l : List Int) : Prop := wordsAt w v l ∧ ∀ n c, v = .slice none n c → n = 0 ∧ c = 0

set_option maxHeartbeats 2000000 in
theorem writes_law (v : Value) (l : List Int) (i x : Int) (w : World) (ha : argW w v l) (hw : Words l) (hi : IsU i) (hx : IsU x) : Calls Try.prog 6 #[v, .int .u64 i, .int .u64 x] w (Yes w) := by
  obtain ⟨hv, hn⟩ := ha
  obtain ⟨ao, cap, hva⟩ := words_shape hv
  subst hva
  by_cases hl : l.length ≤ 500
  · have hl' : ¬ (l.length : Int) > 500 := by omega
    go_enter Try.func6, Try.ntmps6
    go_wp2_with fail
    refine (uclone_any _ l _ (by omega) hv).mono ?_; rintro e w1 ⟨v1, rfl, hr1, hk1⟩
    obtain ⟨hv1, hra1, hge1⟩ := words_of_row hr1
    obtain ⟨ao1, cap1, hva1⟩ := words_shape hv1
    subst hva1
    clear hr1
    go_wp2_with fail
    refine (write_nil _ l i x _ hv1 hra1 (by omega) hw hi hx).mono ?_; rintro e w2 ⟨rfl, hv2, hk2⟩
    have hK2 : Keeps (fun _ => False) w w2 := hk1.trans hk2 (fun i hi h => by have := hge1 i h; omega)
    clear hv1 hra1 hk1 hk2 hge1
    go_wp2_with fail
    refine (alive_calls _).mono ?_; rintro e w3 ⟨rfl, hk3⟩
    have hK3 := hK2.trans hk3 (fun _ _ h => h)
    have hv3 := hv2.kept hk3
    clear hK2 hk3 hv2
    go_wp2_with fail
    refine (rwrite_calls ao cap l i x _ (hv.kept hK3) (fun e => by have := hn l.length cap (by rw [e]); exact this) (by omega) hi).mono ?_; rintro e w4 ⟨v4, rfl, hv4, hk4⟩
    have hK4 := hK3.trans hk4 (fun _ _ h => h)
    have hv3' := hv3.kept hk4
    clear hK3 hk4 hv3
    go_wp2_with fail
    have cc := uequal_any _ v4 _ _ w4 (by rw [List.length_set]; omega) hv3' hv4
    rw [decide_eq_true rfl] at cc
    refine cc.mono ?_; clear cc; rintro e w5 ⟨rfl, n, rfl⟩
    have hv5 := hv3'.drewN n
    have hK5 := hK4.trans (keeps_drewN _ n) (fun _ _ h => h)
    generalize w4.drewN n = w5 at hv5 hK5 ⊢
    clear hv3' hv4 hK4
    by_cases hlt : i < l.length
    · have hge : ¬ (i ≥ (l.length : Int)) := by omega
      go_wp2_with fail
      have cc := read_nil _ _ i _ hv5 (by rw [List.length_set]; omega) (words_set hw hx _) hi
      rw [show readI (l.set i.toNat x) i = x by
        have h0 := hi.1
        unfold readI
        rw [List.length_set, if_pos ⟨h0, hlt⟩, List.getD_eq_getElem?_getD, List.getElem?_set, if_pos rfl, if_pos (by omega)]
        rfl] at cc
      refine cc.mono ?_; clear cc; rintro e w6 ⟨rfl, hk6⟩
      go_wp2_with fail
      go_ret
      exact ⟨rfl, hK5.trans hk6 (fun _ _ h => h)⟩
    · have hge : i ≥ (l.length : Int) := by omega
      go_wp2_with fail
      go_ret
      exact ⟨rfl, hK5⟩
  · have hl' : (l.length : Int) > 500 := by omega
    go_enter Try.func6, Try.ntmps6
    go_wp2_with fail
    refine (alive_calls _).mono ?_; rintro e w3 ⟨rfl, hk3⟩
    go_wp2
    go_ret
    exact ⟨rfl, hk3⟩
end Go.Proofs.Ytkagpdbphdhbaaa.ar
