import Derived.Test.YtmoajobnhiopiaaGreatDoorTsA5
import Derived.Test.YtmoajobnhiopiaaGreatDoorRows
import Derived.ProofKit
import Derived.OpenShut
import Derived.Deep.Slices
import Derived.Deep.Strs
import Derived.SizedLaws
import Derived.ChangeSame
import Derived.JoinedOf
import Derived.WideKeyArgs
import Derived.Lib.SmallJoins
import Derived.Lib.LaidTab
import Derived.Test.YtmoajobnhiopiaaGreatDoorCards
import Derived.Test.YtmoajobnhiopiaaGreatDoorTie
import Derived.WalkKit
import Derived.Deep.DeepHandedRow
set_option linter.unusedSimpArgs false
set_option linter.unusedVariables false
namespace Go.Proofs.YtmoajobnhiopiaaGreatDoor.sv
open Go Go.RowKit Go.Shelf Go.Maps Go.Proofs.YtmoajobnhiopiaaGreatDoor.mk Go.Proofs.YtmoajobnhiopiaaGreatDoor.tp Go.Proofs.YtmoajobnhiopiaaGreatDoor.rg Go.Proofs.YtmoajobnhiopiaaGreatDoor.lm Go.Proofs.YtmoajobnhiopiaaGreatDoor.gm Go.Proofs.YtmoajobnhiopiaaGreatDoor.po
open List renaming getElem_toArray → ga, getElem_cons_zero → gb, getElem_cons_succ → gc, setIfInBounds_toArray → gd, set_cons_zero → ge, set_cons_succ → gf
theorem any_take_snoc (bs : List Int) (k j : Nat) (h : j < k) (h1 : ((regsB bs k).take j).any wrongR = false) (h2 : wrongR (regB (bt bs (2 + j))) = false) : ((regsB bs k).take (j + 1)).any wrongR = false := by
  rw [regsB_take _ _ _ h, List.any_append, h1]
  simp [h2]
theorem any_of_one (bs : List Int) (k j : Nat) (h : j < k) (h2 : wrongR (regB (bt bs (2 + j))) = true) : (regsB bs k).any wrongR = true := by
  refine List.any_eq_true.2 ⟨regB (bt bs (2 + j)), ?_, h2⟩
  exact List.mem_map.2 ⟨j, List.mem_range.2 h, rfl⟩
set_option maxRecDepth 100000 in
set_option maxHeartbeats 4000000 in
theorem rparse_empty (ao : Option Addr) (cap : Nat) (w : World) : Calls Tryz.prog 10 #[.slice ao 0 cap] w (Parsed w noHd 0 4) := by
  go_enter Tryz.func10, Tryz.ntmps10
  go_upto_region 1 with fail
  obtain ⟨w1, hw1⟩ : ∃ w1, w.alloc (.cells #[.int .i64 0, .int .i64 0, .slice none 0 0, .int .i64 0] 27) = w1 := ⟨_, rfl⟩
  have hk1 : Keeps (fun _ => False) w w1 := by rw [← hw1]; exact (Keeps.refl _ w).alloc _
  have hg0 : w1.heap[w.heap.size]? = some (.cells #[.int .i64 0, .int .i64 0, .slice none 0 0, .int .i64 0] 27 (0, 0)) := by rw [← hw1]; exact heap_alloc_new w _
  rw [hw1]
  clear hw1
  have e0 := cells_at hg0 0
  have e1 := cells_at hg0 1
  have e2 := cells_at hg0 2
  have e3 := cells_at hg0 3
  have f0 := two_frozen hg0 0
  have f1 := two_frozen hg0 1
  have f2 := two_frozen hg0 2
  have f3 := two_frozen hg0 3
  have G0 := Lib.hid hg0
  clear hg0
  go_wp2_with fail
  exact bodyPost_ret (results_hdr rfl _ _ _ _ _ _ _ _ _ rfl (cells_four G0.out)) rfl ⟨⟨_, rfl, noHd_at _, hdFresh_nil _ _ _ _ _ _⟩, keeps_four hk1 (Nat.le_refl _) _ _ _ _⟩
set_option maxRecDepth 100000 in
set_option maxHeartbeats 4000000 in
theorem rparse_op (b off n cap : Nat) (bs : List Int) (x : Int) (hxb : IsB x) (h15 : x < 1 ∨ 5 < x) (hE : parE bs = 5) (hx : bt bs 0 = x) (hn : 1 ≤ n) (w : World) (hb : b < w.heap.size) (hc : w.cell? ⟨b, off, none⟩ = some (.int .u8 x)) :
    Calls Tryz.prog 10 #[.slice (some ⟨b, off, none⟩) n cap] w (Parsed w (parH bs) (parN bs) (parE bs)) := by
  have HE := Lib.hid hE
  have HX := Lib.hid hx
  clear hE hx
  obtain ⟨hx0, hx1⟩ := hxb
  have h1 : ¬ x = 1 := by omega
  have hwx : IntKind.i64.wrap x = x := by rw [IntKind.wrap_i64]; omega
  have hn0 : (0 : Int) < (n : Int) := by omega
  have hnq : ((n : Int) == 0) = false := by simp; omega
  have cA : ∀ o1, (w.alloc o1).cell? ⟨b, off, none⟩ = some (.int .u8 x) := fun o1 => (((Keeps.refl (fun _ => False) w).alloc o1).cell (p := ⟨b, off, none⟩) hb (fun h => h)).trans hc
  go_enter Tryz.func10, Tryz.ntmps10
  go_upto_region 4 with fail
  obtain ⟨w1, hw1⟩ : ∃ w1, (w.alloc (.cells #[.int .i64 0, .int .i64 0, .slice none 0 0, .int .i64 0] 27)).alloc (.cells #[.int .i64 x, .int .i64 0, .slice none 0 0, .int .i64 0] 27) = w1 := ⟨_, rfl⟩
  have hk1 : Keeps (fun _ => False) w w1 := by rw [← hw1]; exact ((Keeps.refl _ w).alloc _).alloc _
  have hg0 : w1.heap[w.heap.size]? = some (.cells #[.int .i64 0, .int .i64 0, .slice none 0 0, .int .i64 0] 27 (0, 0)) := by rw [← hw1]; exact (heap2 w _ _).1
  have hg1 : w1.heap[w.heap.size + 1]? = some (.cells #[.int .i64 x, .int .i64 0, .slice none 0 0, .int .i64 0] 27 (0, 0)) := by rw [← hw1]; exact (heap2 w _ _).2
  rw [hw1]
  clear hw1 cA
  have d0 := cells_at hg1 0
  have d1 := cells_at hg1 1
  have d2 := cells_at hg1 2
  have d3 := cells_at hg1 3
  have e0 := cells_at hg0 0
  have e1 := cells_at hg0 1
  have e2 := cells_at hg0 2
  have e3 := cells_at hg0 3
  have f0 := two_frozen hg0 0
  have f1 := two_frozen hg0 1
  have f2 := two_frozen hg0 2
  have f3 := two_frozen hg0 3
  have G0 := Lib.hid hg0
  have G1 := Lib.hid hg1
  clear hg0 hg1
  by_cases hlo : x < 1
  · have hd1 : decide (x < 1) = true := decide_eq_true hlo
    clear h15
    go_wp2_with fail
    exact bodyPost_ret (results_hdr rfl _ _ _ _ _ _ _ _ _ rfl (cells_four G0.out)) rfl (parsed_bad (n := 5) HE.out (by decide) rfl (keeps_four hk1 (Nat.le_refl _) _ _ _ _))
  · have hd1 : decide (x < 1) = false := decide_eq_false hlo
    have hd2 : decide (5 < x) = true := decide_eq_true (by omega)
    clear h15
    go_wp2_with fail
    exact bodyPost_ret (results_hdr rfl _ _ _ _ _ _ _ _ _ rfl (cells_four G0.out)) rfl (parsed_bad (n := 5) HE.out (by decide) rfl (keeps_four hk1 (Nat.le_refl _) _ _ _ _))
set_option maxRecDepth 100000 in
set_option maxHeartbeats 4000000 in
theorem rparse_p1 (b off n cap : Nat) (bs : List Int) (hE : parE bs = 0) (hx : bt bs 0 = 1) (hn : 1 ≤ n) (w : World) (hb : b < w.heap.size) (hc : w.cell? ⟨b, off, none⟩ = some (.int .u8 1)) :
    Calls Tryz.prog 10 #[.slice (some ⟨b, off, none⟩) n cap] w (Parsed w (parH bs) (parN bs) (parE bs)) := by
  have HE := Lib.hid hE
  have HX := Lib.hid hx
  clear hE hx
  have hn0 : (0 : Int) < (n : Int) := by omega
  have hnq : ((n : Int) == 0) = false := by simp; omega
  have cA : ∀ o1, (w.alloc o1).cell? ⟨b, off, none⟩ = some (.int .u8 1) := fun o1 => (((Keeps.refl (fun _ => False) w).alloc o1).cell (p := ⟨b, off, none⟩) hb (fun h => h)).trans hc
  go_enter Tryz.func10, Tryz.ntmps10
  go_upto_region 4 with fail
  obtain ⟨w1, hw1⟩ : ∃ w1, (w.alloc (.cells #[.int .i64 0, .int .i64 0, .slice none 0 0, .int .i64 0] 27)).alloc (.cells #[.int .i64 1, .int .i64 0, .slice none 0 0, .int .i64 0] 27) = w1 := ⟨_, rfl⟩
  have hk1 : Keeps (fun _ => False) w w1 := by rw [← hw1]; exact ((Keeps.refl _ w).alloc _).alloc _
  have hg0 : w1.heap[w.heap.size]? = some (.cells #[.int .i64 0, .int .i64 0, .slice none 0 0, .int .i64 0] 27 (0, 0)) := by rw [← hw1]; exact (heap2 w _ _).1
  have hg1 : w1.heap[w.heap.size + 1]? = some (.cells #[.int .i64 1, .int .i64 0, .slice none 0 0, .int .i64 0] 27 (0, 0)) := by rw [← hw1]; exact (heap2 w _ _).2
  rw [hw1]
  clear hw1 cA
  have d0 := cells_at hg1 0
  have d1 := cells_at hg1 1
  have d2 := cells_at hg1 2
  have d3 := cells_at hg1 3
  have e0 := cells_at hg0 0
  have e1 := cells_at hg0 1
  have e2 := cells_at hg0 2
  have e3 := cells_at hg0 3
  have f0 := two_frozen hg0 0
  have f1 := two_frozen hg0 1
  have f2 := two_frozen hg0 2
  have f3 := two_frozen hg0 3
  have G0 := Lib.hid hg0
  have G1 := Lib.hid hg1
  clear hg0 hg1
  go_wp2_with fail
  refine bodyPost_ret (results_hdr rfl _ _ _ _ _ _ _ _ _ rfl (cells_four G0.out)) rfl ?_
  refine ⟨⟨.agg #[.int .i64 1, .int .i64 0, .slice none 0 0, .int .i64 0], ?_, ?_, hdFresh_nil _ _ _ _ _ _⟩, keeps_four hk1 (Nat.le_refl _) _ _ _ _⟩
  · rw [HE.out, show (parN bs : Int) = 1 by unfold parN; rw [if_neg (by rw [HE.out]; decide), HX.out, if_pos (by decide)]; rfl]; rfl
  · rw [show parH bs = ⟨1, 0, [], 0⟩ by unfold parH; rw [if_neg (by rw [HE.out]; decide), HX.out, if_neg (by decide), if_neg (by decide), if_neg (by decide)]]
    exact ⟨none, 0, rfl, .inl ⟨rfl, none, 0, rfl⟩, fun _ => ⟨rfl, rfl⟩⟩
set_option maxRecDepth 100000 in
set_option maxHeartbeats 4000000 in
theorem rparse_p2 (b off n cap : Nat) (bs : List Int) (hE : parE bs = 0) (hx : bt bs 0 = 2) (hn : 1 ≤ n) (w : World) (hb : b < w.heap.size) (hc : w.cell? ⟨b, off, none⟩ = some (.int .u8 2)) :
    Calls Tryz.prog 10 #[.slice (some ⟨b, off, none⟩) n cap] w (Parsed w (parH bs) (parN bs) (parE bs)) := by
  have HE := Lib.hid hE
  have HX := Lib.hid hx
  clear hE hx
  have hn0 : (0 : Int) < (n : Int) := by omega
  have hnq : ((n : Int) == 0) = false := by simp; omega
  have cA : ∀ o1, (w.alloc o1).cell? ⟨b, off, none⟩ = some (.int .u8 2) := fun o1 => (((Keeps.refl (fun _ => False) w).alloc o1).cell (p := ⟨b, off, none⟩) hb (fun h => h)).trans hc
  go_enter Tryz.func10, Tryz.ntmps10
  go_upto_region 4 with fail
  obtain ⟨w1, hw1⟩ : ∃ w1, (w.alloc (.cells #[.int .i64 0, .int .i64 0, .slice none 0 0, .int .i64 0] 27)).alloc (.cells #[.int .i64 2, .int .i64 0, .slice none 0 0, .int .i64 0] 27) = w1 := ⟨_, rfl⟩
  have hk1 : Keeps (fun _ => False) w w1 := by rw [← hw1]; exact ((Keeps.refl _ w).alloc _).alloc _
  have hg0 : w1.heap[w.heap.size]? = some (.cells #[.int .i64 0, .int .i64 0, .slice none 0 0, .int .i64 0] 27 (0, 0)) := by rw [← hw1]; exact (heap2 w _ _).1
  have hg1 : w1.heap[w.heap.size + 1]? = some (.cells #[.int .i64 2, .int .i64 0, .slice none 0 0, .int .i64 0] 27 (0, 0)) := by rw [← hw1]; exact (heap2 w _ _).2
  rw [hw1]
  clear hw1 cA
  have d0 := cells_at hg1 0
  have d1 := cells_at hg1 1
  have d2 := cells_at hg1 2
  have d3 := cells_at hg1 3
  have e0 := cells_at hg0 0
  have e1 := cells_at hg0 1
  have e2 := cells_at hg0 2
  have e3 := cells_at hg0 3
  have f0 := two_frozen hg0 0
  have f1 := two_frozen hg0 1
  have f2 := two_frozen hg0 2
  have f3 := two_frozen hg0 3
  have G0 := Lib.hid hg0
  have G1 := Lib.hid hg1
  clear hg0 hg1
  go_wp2_with fail
  refine bodyPost_ret (results_hdr rfl _ _ _ _ _ _ _ _ _ rfl (cells_four G0.out)) rfl ?_
  refine ⟨⟨.agg #[.int .i64 2, .int .i64 0, .slice none 0 0, .int .i64 0], ?_, ?_, hdFresh_nil _ _ _ _ _ _⟩, keeps_four hk1 (Nat.le_refl _) _ _ _ _⟩
  · rw [HE.out, show (parN bs : Int) = 1 by unfold parN; rw [if_neg (by rw [HE.out]; decide), HX.out, if_pos (by decide)]; rfl]; rfl
  · rw [show parH bs = ⟨2, 0, [], 0⟩ by unfold parH; rw [if_neg (by rw [HE.out]; decide), HX.out, if_neg (by decide), if_neg (by decide), if_neg (by decide)]]
    exact ⟨none, 0, rfl, .inl ⟨rfl, none, 0, rfl⟩, fun _ => ⟨rfl, rfl⟩⟩
set_option maxRecDepth 100000 in
set_option maxHeartbeats 4000000 in
theorem rparse_c3 (b off n cap : Nat) (bs : List Int) (hE : parE bs = 4) (hx : bt bs 0 = 3) (hn : 1 ≤ n ∧ n < 2) (w : World) (hb : b < w.heap.size) (hc : w.cell? ⟨b, off, none⟩ = some (.int .u8 3)) :
    Calls Tryz.prog 10 #[.slice (some ⟨b, off, none⟩) n cap] w (Parsed w (parH bs) (parN bs) (parE bs)) := by
  have HE := Lib.hid hE
  have HX := Lib.hid hx
  clear hE hx
  obtain ⟨hn, hn9⟩ := hn
  have hn2 : (n : Int) < 2 := by omega
  have hd2 : decide ((n : Int) < 2) = true := decide_eq_true hn2
  have hn0 : (0 : Int) < (n : Int) := by omega
  have hnq : ((n : Int) == 0) = false := by simp; omega
  have cA : ∀ o1, (w.alloc o1).cell? ⟨b, off, none⟩ = some (.int .u8 3) := fun o1 => (((Keeps.refl (fun _ => False) w).alloc o1).cell (p := ⟨b, off, none⟩) hb (fun h => h)).trans hc
  go_enter Tryz.func10, Tryz.ntmps10
  go_upto_region 4 with fail
  obtain ⟨w1, hw1⟩ : ∃ w1, (w.alloc (.cells #[.int .i64 0, .int .i64 0, .slice none 0 0, .int .i64 0] 27)).alloc (.cells #[.int .i64 3, .int .i64 0, .slice none 0 0, .int .i64 0] 27) = w1 := ⟨_, rfl⟩
  have hk1 : Keeps (fun _ => False) w w1 := by rw [← hw1]; exact ((Keeps.refl _ w).alloc _).alloc _
  have hg0 : w1.heap[w.heap.size]? = some (.cells #[.int .i64 0, .int .i64 0, .slice none 0 0, .int .i64 0] 27 (0, 0)) := by rw [← hw1]; exact (heap2 w _ _).1
  have hg1 : w1.heap[w.heap.size + 1]? = some (.cells #[.int .i64 3, .int .i64 0, .slice none 0 0, .int .i64 0] 27 (0, 0)) := by rw [← hw1]; exact (heap2 w _ _).2
  rw [hw1]
  clear hw1 cA
  have d0 := cells_at hg1 0
  have d1 := cells_at hg1 1
  have d2 := cells_at hg1 2
  have d3 := cells_at hg1 3
  have e0 := cells_at hg0 0
  have e1 := cells_at hg0 1
  have e2 := cells_at hg0 2
  have e3 := cells_at hg0 3
  have f0 := two_frozen hg0 0
  have f1 := two_frozen hg0 1
  have f2 := two_frozen hg0 2
  have f3 := two_frozen hg0 3
  have G0 := Lib.hid hg0
  have G1 := Lib.hid hg1
  clear hg0 hg1
  go_wp2_with fail
  exact bodyPost_ret (results_hdr rfl _ _ _ _ _ _ _ _ _ rfl (cells_four G0.out)) rfl (parsed_bad (n := 4) HE.out (by decide) rfl (keeps_four hk1 (Nat.le_refl _) _ _ _ _))
set_option maxRecDepth 100000 in
set_option maxHeartbeats 4000000 in
theorem rparse_c4 (b off n cap : Nat) (bs : List Int) (hE : parE bs = 4) (hx : bt bs 0 = 4) (hn : 1 ≤ n ∧ n < 2) (w : World) (hb : b < w.heap.size) (hc : w.cell? ⟨b, off, none⟩ = some (.int .u8 4)) :
    Calls Tryz.prog 10 #[.slice (some ⟨b, off, none⟩) n cap] w (Parsed w (parH bs) (parN bs) (parE bs)) := by
  have HE := Lib.hid hE
  have HX := Lib.hid hx
  clear hE hx
  obtain ⟨hn, hn9⟩ := hn
  have hn2 : (n : Int) < 2 := by omega
  have hd2 : decide ((n : Int) < 2) = true := decide_eq_true hn2
  have hn0 : (0 : Int) < (n : Int) := by omega
  have hnq : ((n : Int) == 0) = false := by simp; omega
  have cA : ∀ o1, (w.alloc o1).cell? ⟨b, off, none⟩ = some (.int .u8 4) := fun o1 => (((Keeps.refl (fun _ => False) w).alloc o1).cell (p := ⟨b, off, none⟩) hb (fun h => h)).trans hc
  go_enter Tryz.func10, Tryz.ntmps10
  go_upto_region 4 with fail
  obtain ⟨w1, hw1⟩ : ∃ w1, (w.alloc (.cells #[.int .i64 0, .int .i64 0, .slice none 0 0, .int .i64 0] 27)).alloc (.cells #[.int .i64 4, .int .i64 0, .slice none 0 0, .int .i64 0] 27) = w1 := ⟨_, rfl⟩
  have hk1 : Keeps (fun _ => False) w w1 := by rw [← hw1]; exact ((Keeps.refl _ w).alloc _).alloc _
  have hg0 : w1.heap[w.heap.size]? = some (.cells #[.int .i64 0, .int .i64 0, .slice none 0 0, .int .i64 0] 27 (0, 0)) := by rw [← hw1]; exact (heap2 w _ _).1
  have hg1 : w1.heap[w.heap.size + 1]? = some (.cells #[.int .i64 4, .int .i64 0, .slice none 0 0, .int .i64 0] 27 (0, 0)) := by rw [← hw1]; exact (heap2 w _ _).2
  rw [hw1]
  clear hw1 cA
  have d0 := cells_at hg1 0
  have d1 := cells_at hg1 1
  have d2 := cells_at hg1 2
  have d3 := cells_at hg1 3
  have e0 := cells_at hg0 0
  have e1 := cells_at hg0 1
  have e2 := cells_at hg0 2
  have e3 := cells_at hg0 3
  have f0 := two_frozen hg0 0
  have f1 := two_frozen hg0 1
  have f2 := two_frozen hg0 2
  have f3 := two_frozen hg0 3
  have G0 := Lib.hid hg0
  have G1 := Lib.hid hg1
  clear hg0 hg1
  go_wp2_with fail
  exact bodyPost_ret (results_hdr rfl _ _ _ _ _ _ _ _ _ rfl (cells_four G0.out)) rfl (parsed_bad (n := 4) HE.out (by decide) rfl (keeps_four hk1 (Nat.le_refl _) _ _ _ _))
set_option maxRecDepth 100000 in
set_option maxHeartbeats 4000000 in
theorem rparse_c5 (b off n cap : Nat) (bs : List Int) (hE : parE bs = 4) (hx : bt bs 0 = 5) (hn : 1 ≤ n ∧ n < 2) (w : World) (hb : b < w.heap.size) (hc : w.cell? ⟨b, off, none⟩ = some (.int .u8 5)) :
    Calls Tryz.prog 10 #[.slice (some ⟨b, off, none⟩) n cap] w (Parsed w (parH bs) (parN bs) (parE bs)) := by
  have HE := Lib.hid hE
  have HX := Lib.hid hx
  clear hE hx
  obtain ⟨hn, hn9⟩ := hn
  have hn2 : (n : Int) < 2 := by omega
  have hd2 : decide ((n : Int) < 2) = true := decide_eq_true hn2
  have hn0 : (0 : Int) < (n : Int) := by omega
  have hnq : ((n : Int) == 0) = false := by simp; omega
  have cA : ∀ o1, (w.alloc o1).cell? ⟨b, off, none⟩ = some (.int .u8 5) := fun o1 => (((Keeps.refl (fun _ => False) w).alloc o1).cell (p := ⟨b, off, none⟩) hb (fun h => h)).trans hc
  go_enter Tryz.func10, Tryz.ntmps10
  go_upto_region 4 with fail
  obtain ⟨w1, hw1⟩ : ∃ w1, (w.alloc (.cells #[.int .i64 0, .int .i64 0, .slice none 0 0, .int .i64 0] 27)).alloc (.cells #[.int .i64 5, .int .i64 0, .slice none 0 0, .int .i64 0] 27) = w1 := ⟨_, rfl⟩
  have hk1 : Keeps (fun _ => False) w w1 := by rw [← hw1]; exact ((Keeps.refl _ w).alloc _).alloc _
  have hg0 : w1.heap[w.heap.size]? = some (.cells #[.int .i64 0, .int .i64 0, .slice none 0 0, .int .i64 0] 27 (0, 0)) := by rw [← hw1]; exact (heap2 w _ _).1
  have hg1 : w1.heap[w.heap.size + 1]? = some (.cells #[.int .i64 5, .int .i64 0, .slice none 0 0, .int .i64 0] 27 (0, 0)) := by rw [← hw1]; exact (heap2 w _ _).2
  rw [hw1]
  clear hw1 cA
  have d0 := cells_at hg1 0
  have d1 := cells_at hg1 1
  have d2 := cells_at hg1 2
  have d3 := cells_at hg1 3
  have e0 := cells_at hg0 0
  have e1 := cells_at hg0 1
  have e2 := cells_at hg0 2
  have e3 := cells_at hg0 3
  have f0 := two_frozen hg0 0
  have f1 := two_frozen hg0 1
  have f2 := two_frozen hg0 2
  have f3 := two_frozen hg0 3
  have G0 := Lib.hid hg0
  have G1 := Lib.hid hg1
  clear hg0 hg1
  go_wp2_with fail
  exact bodyPost_ret (results_hdr rfl _ _ _ _ _ _ _ _ _ rfl (cells_four G0.out)) rfl (parsed_bad (n := 4) HE.out (by decide) rfl (keeps_four hk1 (Nat.le_refl _) _ _ _ _))
set_option maxRecDepth 100000 in
set_option maxHeartbeats 4000000 in
theorem rparse_l3 (b off n cap : Nat) (bs : List Int) (y : Int) (hyb : IsB y) (hy : bt bs 1 = y) (hlo : y < 3) (hE : parE bs = 6) (hx : bt bs 0 = 3) (hn : 2 ≤ n) (w : World) (hb : b < w.heap.size) (hc : w.cell? ⟨b, off, none⟩ = some (.int .u8 3)) (hc1 : w.cell? ⟨b, off + 1, none⟩ = some (.int .u8 y)) :
    Calls Tryz.prog 10 #[.slice (some ⟨b, off, none⟩) n cap] w (Parsed w (parH bs) (parN bs) (parE bs)) := by
  have HE := Lib.hid hE
  have HX := Lib.hid hx
  clear hE hx
  have HY := Lib.hid hy
  obtain ⟨hy0, hy1⟩ := hyb
  have hwy : IntKind.i64.wrap y = y := by rw [IntKind.wrap_i64]; omega
  clear hy
  have hdl : decide (y < 3) = true := decide_eq_true hlo
  have hn0 : (0 : Int) < (n : Int) := by omega
  have hnq : ((n : Int) == 0) = false := by simp; omega
  have hn2 : ¬ (n : Int) < 2 := by omega
  have hnz : (1 : Int) < (n : Int) := by omega
  have hd2 : decide ((n : Int) < 2) = false := decide_eq_false hn2
  have cA : ∀ o1, (w.alloc o1).cell? ⟨b, off, none⟩ = some (.int .u8 3) := fun o1 => (((Keeps.refl (fun _ => False) w).alloc o1).cell (p := ⟨b, off, none⟩) hb (fun h => h)).trans hc
  go_enter Tryz.func10, Tryz.ntmps10
  go_upto_region 4 with fail
  obtain ⟨w1, hw1⟩ : ∃ w1, (w.alloc (.cells #[.int .i64 0, .int .i64 0, .slice none 0 0, .int .i64 0] 27)).alloc (.cells #[.int .i64 3, .int .i64 0, .slice none 0 0, .int .i64 0] 27) = w1 := ⟨_, rfl⟩
  have hk1 : Keeps (fun _ => False) w w1 := by rw [← hw1]; exact ((Keeps.refl _ w).alloc _).alloc _
  have hg0 : w1.heap[w.heap.size]? = some (.cells #[.int .i64 0, .int .i64 0, .slice none 0 0, .int .i64 0] 27 (0, 0)) := by rw [← hw1]; exact (heap2 w _ _).1
  have hg1 : w1.heap[w.heap.size + 1]? = some (.cells #[.int .i64 3, .int .i64 0, .slice none 0 0, .int .i64 0] 27 (0, 0)) := by rw [← hw1]; exact (heap2 w _ _).2
  rw [hw1]
  clear hw1 cA
  have c1 := (hk1.cell (p := ⟨b, off + 1, none⟩) hb (fun h => h)).trans hc1
  have d0 := cells_at hg1 0
  have d1 := cells_at hg1 1
  have d2 := cells_at hg1 2
  have d3 := cells_at hg1 3
  have e0 := cells_at hg0 0
  have e1 := cells_at hg0 1
  have e2 := cells_at hg0 2
  have e3 := cells_at hg0 3
  have f0 := two_frozen hg0 0
  have f1 := two_frozen hg0 1
  have f2 := two_frozen hg0 2
  have f3 := two_frozen hg0 3
  have G0 := Lib.hid hg0
  have G1 := Lib.hid hg1
  clear hg0 hg1
  go_wp2_with fail
  exact bodyPost_ret (results_hdr rfl _ _ _ _ _ _ _ _ _ rfl (cells_four G0.out)) rfl (parsed_bad (n := 6) HE.out (by decide) rfl (keeps_four hk1 (Nat.le_refl _) _ _ _ _))
set_option maxRecDepth 100000 in
set_option maxHeartbeats 4000000 in
theorem rparse_g3 (b off n cap : Nat) (bs : List Int) (y : Int) (hyb : IsB y) (hy : bt bs 1 = y) (hlo : 64 < y) (hE : parE bs = 6) (hx : bt bs 0 = 3) (hn : 2 ≤ n) (w : World) (hb : b < w.heap.size) (hc : w.cell? ⟨b, off, none⟩ = some (.int .u8 3)) (hc1 : w.cell? ⟨b, off + 1, none⟩ = some (.int .u8 y)) :
    Calls Tryz.prog 10 #[.slice (some ⟨b, off, none⟩) n cap] w (Parsed w (parH bs) (parN bs) (parE bs)) := by
  have HE := Lib.hid hE
  have HX := Lib.hid hx
  clear hE hx
  have HY := Lib.hid hy
  obtain ⟨hy0, hy1⟩ := hyb
  have hwy : IntKind.i64.wrap y = y := by rw [IntKind.wrap_i64]; omega
  clear hy
  have hll : ¬ y < 3 := by omega
  have hdl : decide (y < 3) = false := decide_eq_false hll
  have hdg : decide (64 < y) = true := decide_eq_true hlo
  have hn0 : (0 : Int) < (n : Int) := by omega
  have hnq : ((n : Int) == 0) = false := by simp; omega
  have hn2 : ¬ (n : Int) < 2 := by omega
  have hnz : (1 : Int) < (n : Int) := by omega
  have hd2 : decide ((n : Int) < 2) = false := decide_eq_false hn2
  have cA : ∀ o1, (w.alloc o1).cell? ⟨b, off, none⟩ = some (.int .u8 3) := fun o1 => (((Keeps.refl (fun _ => False) w).alloc o1).cell (p := ⟨b, off, none⟩) hb (fun h => h)).trans hc
  go_enter Tryz.func10, Tryz.ntmps10
  go_upto_region 4 with fail
  obtain ⟨w1, hw1⟩ : ∃ w1, (w.alloc (.cells #[.int .i64 0, .int .i64 0, .slice none 0 0, .int .i64 0] 27)).alloc (.cells #[.int .i64 3, .int .i64 0, .slice none 0 0, .int .i64 0] 27) = w1 := ⟨_, rfl⟩
  have hk1 : Keeps (fun _ => False) w w1 := by rw [← hw1]; exact ((Keeps.refl _ w).alloc _).alloc _
  have hg0 : w1.heap[w.heap.size]? = some (.cells #[.int .i64 0, .int .i64 0, .slice none 0 0, .int .i64 0] 27 (0, 0)) := by rw [← hw1]; exact (heap2 w _ _).1
  have hg1 : w1.heap[w.heap.size + 1]? = some (.cells #[.int .i64 3, .int .i64 0, .slice none 0 0, .int .i64 0] 27 (0, 0)) := by rw [← hw1]; exact (heap2 w _ _).2
  rw [hw1]
  clear hw1 cA
  have c1 := (hk1.cell (p := ⟨b, off + 1, none⟩) hb (fun h => h)).trans hc1
  have d0 := cells_at hg1 0
  have d1 := cells_at hg1 1
  have d2 := cells_at hg1 2
  have d3 := cells_at hg1 3
  have e0 := cells_at hg0 0
  have e1 := cells_at hg0 1
  have e2 := cells_at hg0 2
  have e3 := cells_at hg0 3
  have f0 := two_frozen hg0 0
  have f1 := two_frozen hg0 1
  have f2 := two_frozen hg0 2
  have f3 := two_frozen hg0 3
  have G0 := Lib.hid hg0
  have G1 := Lib.hid hg1
  clear hg0 hg1
  go_wp2_with fail
  exact bodyPost_ret (results_hdr rfl _ _ _ _ _ _ _ _ _ rfl (cells_four G0.out)) rfl (parsed_bad (n := 6) HE.out (by decide) rfl (keeps_four hk1 (Nat.le_refl _) _ _ _ _))
set_option maxRecDepth 100000 in
set_option maxHeartbeats 4000000 in
theorem rparse_l4 (b off n cap : Nat) (bs : List Int) (y : Int) (hyb : IsB y) (hy : bt bs 1 = y) (hlo : y < 1) (hE : parE bs = 6) (hx : bt bs 0 = 4) (hn : 2 ≤ n) (w : World) (hb : b < w.heap.size) (hc : w.cell? ⟨b, off, none⟩ = some (.int .u8 4)) (hc1 : w.cell? ⟨b, off + 1, none⟩ = some (.int .u8 y)) :
    Calls Tryz.prog 10 #[.slice (some ⟨b, off, none⟩) n cap] w (Parsed w (parH bs) (parN bs) (parE bs)) := by
  have HE := Lib.hid hE
  have HX := Lib.hid hx
  clear hE hx
  have HY := Lib.hid hy
  obtain ⟨hy0, hy1⟩ := hyb
  have hwy : IntKind.i64.wrap y = y := by rw [IntKind.wrap_i64]; omega
  clear hy
  have hdl : decide (y < 1) = true := decide_eq_true hlo
  have hn0 : (0 : Int) < (n : Int) := by omega
  have hnq : ((n : Int) == 0) = false := by simp; omega
  have hn2 : ¬ (n : Int) < 2 := by omega
  have hnz : (1 : Int) < (n : Int) := by omega
  have hd2 : decide ((n : Int) < 2) = false := decide_eq_false hn2
  have cA : ∀ o1, (w.alloc o1).cell? ⟨b, off, none⟩ = some (.int .u8 4) := fun o1 => (((Keeps.refl (fun _ => False) w).alloc o1).cell (p := ⟨b, off, none⟩) hb (fun h => h)).trans hc
  go_enter Tryz.func10, Tryz.ntmps10
  go_upto_region 4 with fail
  obtain ⟨w1, hw1⟩ : ∃ w1, (w.alloc (.cells #[.int .i64 0, .int .i64 0, .slice none 0 0, .int .i64 0] 27)).alloc (.cells #[.int .i64 4, .int .i64 0, .slice none 0 0, .int .i64 0] 27) = w1 := ⟨_, rfl⟩
  have hk1 : Keeps (fun _ => False) w w1 := by rw [← hw1]; exact ((Keeps.refl _ w).alloc _).alloc _
  have hg0 : w1.heap[w.heap.size]? = some (.cells #[.int .i64 0, .int .i64 0, .slice none 0 0, .int .i64 0] 27 (0, 0)) := by rw [← hw1]; exact (heap2 w _ _).1
  have hg1 : w1.heap[w.heap.size + 1]? = some (.cells #[.int .i64 4, .int .i64 0, .slice none 0 0, .int .i64 0] 27 (0, 0)) := by rw [← hw1]; exact (heap2 w _ _).2
  rw [hw1]
  clear hw1 cA
  have c1 := (hk1.cell (p := ⟨b, off + 1, none⟩) hb (fun h => h)).trans hc1
  have d0 := cells_at hg1 0
  have d1 := cells_at hg1 1
  have d2 := cells_at hg1 2
  have d3 := cells_at hg1 3
  have e0 := cells_at hg0 0
  have e1 := cells_at hg0 1
  have e2 := cells_at hg0 2
  have e3 := cells_at hg0 3
  have f0 := two_frozen hg0 0
  have f1 := two_frozen hg0 1
  have f2 := two_frozen hg0 2
  have f3 := two_frozen hg0 3
  have G0 := Lib.hid hg0
  have G1 := Lib.hid hg1
  clear hg0 hg1
  go_wp2_with fail
  exact bodyPost_ret (results_hdr rfl _ _ _ _ _ _ _ _ _ rfl (cells_four G0.out)) rfl (parsed_bad (n := 6) HE.out (by decide) rfl (keeps_four hk1 (Nat.le_refl _) _ _ _ _))
set_option maxRecDepth 100000 in
set_option maxHeartbeats 4000000 in
theorem rparse_g4 (b off n cap : Nat) (bs : List Int) (y : Int) (hyb : IsB y) (hy : bt bs 1 = y) (hlo : 64 < y) (hE : parE bs = 6) (hx : bt bs 0 = 4) (hn : 2 ≤ n) (w : World) (hb : b < w.heap.size) (hc : w.cell? ⟨b, off, none⟩ = some (.int .u8 4)) (hc1 : w.cell? ⟨b, off + 1, none⟩ = some (.int .u8 y)) :
    Calls Tryz.prog 10 #[.slice (some ⟨b, off, none⟩) n cap] w (Parsed w (parH bs) (parN bs) (parE bs)) := by
  have HE := Lib.hid hE
  have HX := Lib.hid hx
  clear hE hx
  have HY := Lib.hid hy
  obtain ⟨hy0, hy1⟩ := hyb
  have hwy : IntKind.i64.wrap y = y := by rw [IntKind.wrap_i64]; omega
  clear hy
  have hll : ¬ y < 1 := by omega
  have hdl : decide (y < 1) = false := decide_eq_false hll
  have hdg : decide (64 < y) = true := decide_eq_true hlo
  have hn0 : (0 : Int) < (n : Int) := by omega
  have hnq : ((n : Int) == 0) = false := by simp; omega
  have hn2 : ¬ (n : Int) < 2 := by omega
  have hnz : (1 : Int) < (n : Int) := by omega
  have hd2 : decide ((n : Int) < 2) = false := decide_eq_false hn2
  have cA : ∀ o1, (w.alloc o1).cell? ⟨b, off, none⟩ = some (.int .u8 4) := fun o1 => (((Keeps.refl (fun _ => False) w).alloc o1).cell (p := ⟨b, off, none⟩) hb (fun h => h)).trans hc
  go_enter Tryz.func10, Tryz.ntmps10
  go_upto_region 4 with fail
  obtain ⟨w1, hw1⟩ : ∃ w1, (w.alloc (.cells #[.int .i64 0, .int .i64 0, .slice none 0 0, .int .i64 0] 27)).alloc (.cells #[.int .i64 4, .int .i64 0, .slice none 0 0, .int .i64 0] 27) = w1 := ⟨_, rfl⟩
  have hk1 : Keeps (fun _ => False) w w1 := by rw [← hw1]; exact ((Keeps.refl _ w).alloc _).alloc _
  have hg0 : w1.heap[w.heap.size]? = some (.cells #[.int .i64 0, .int .i64 0, .slice none 0 0, .int .i64 0] 27 (0, 0)) := by rw [← hw1]; exact (heap2 w _ _).1
  have hg1 : w1.heap[w.heap.size + 1]? = some (.cells #[.int .i64 4, .int .i64 0, .slice none 0 0, .int .i64 0] 27 (0, 0)) := by rw [← hw1]; exact (heap2 w _ _).2
  rw [hw1]
  clear hw1 cA
  have c1 := (hk1.cell (p := ⟨b, off + 1, none⟩) hb (fun h => h)).trans hc1
  have d0 := cells_at hg1 0
  have d1 := cells_at hg1 1
  have d2 := cells_at hg1 2
  have d3 := cells_at hg1 3
  have e0 := cells_at hg0 0
  have e1 := cells_at hg0 1
  have e2 := cells_at hg0 2
  have e3 := cells_at hg0 3
  have f0 := two_frozen hg0 0
  have f1 := two_frozen hg0 1
  have f2 := two_frozen hg0 2
  have f3 := two_frozen hg0 3
  have G0 := Lib.hid hg0
  have G1 := Lib.hid hg1
  clear hg0 hg1
  go_wp2_with fail
  exact bodyPost_ret (results_hdr rfl _ _ _ _ _ _ _ _ _ rfl (cells_four G0.out)) rfl (parsed_bad (n := 6) HE.out (by decide) rfl (keeps_four hk1 (Nat.le_refl _) _ _ _ _))
set_option maxRecDepth 100000 in
set_option maxHeartbeats 4000000 in
theorem rparse_l5 (b off n cap : Nat) (bs : List Int) (y : Int) (hyb : IsB y) (hy : bt bs 1 = y) (hlo : y < 1) (hE : parE bs = 6) (hx : bt bs 0 = 5) (hn : 2 ≤ n) (w : World) (hb : b < w.heap.size) (hc : w.cell? ⟨b, off, none⟩ = some (.int .u8 5)) (hc1 : w.cell? ⟨b, off + 1, none⟩ = some (.int .u8 y)) :
    Calls Tryz.prog 10 #[.slice (some ⟨b, off, none⟩) n cap] w (Parsed w (parH bs) (parN bs) (parE bs)) := by
  have HE := Lib.hid hE
  have HX := Lib.hid hx
  clear hE hx
  have HY := Lib.hid hy
  obtain ⟨hy0, hy1⟩ := hyb
  have hwy : IntKind.i64.wrap y = y := by rw [IntKind.wrap_i64]; omega
  clear hy
  have hdl : decide (y < 1) = true := decide_eq_true hlo
  have hn0 : (0 : Int) < (n : Int) := by omega
  have hnq : ((n : Int) == 0) = false := by simp; omega
  have hn2 : ¬ (n : Int) < 2 := by omega
  have hnz : (1 : Int) < (n : Int) := by omega
  have hd2 : decide ((n : Int) < 2) = false := decide_eq_false hn2
  have cA : ∀ o1, (w.alloc o1).cell? ⟨b, off, none⟩ = some (.int .u8 5) := fun o1 => (((Keeps.refl (fun _ => False) w).alloc o1).cell (p := ⟨b, off, none⟩) hb (fun h => h)).trans hc
  go_enter Tryz.func10, Tryz.ntmps10
  go_upto_region 4 with fail
  obtain ⟨w1, hw1⟩ : ∃ w1, (w.alloc (.cells #[.int .i64 0, .int .i64 0, .slice none 0 0, .int .i64 0] 27)).alloc (.cells #[.int .i64 5, .int .i64 0, .slice none 0 0, .int .i64 0] 27) = w1 := ⟨_, rfl⟩
  have hk1 : Keeps (fun _ => False) w w1 := by rw [← hw1]; exact ((Keeps.refl _ w).alloc _).alloc _
  have hg0 : w1.heap[w.heap.size]? = some (.cells #[.int .i64 0, .int .i64 0, .slice none 0 0, .int .i64 0] 27 (0, 0)) := by rw [← hw1]; exact (heap2 w _ _).1
  have hg1 : w1.heap[w.heap.size + 1]? = some (.cells #[.int .i64 5, .int .i64 0, .slice none 0 0, .int .i64 0] 27 (0, 0)) := by rw [← hw1]; exact (heap2 w _ _).2
  rw [hw1]
  clear hw1 cA
  have c1 := (hk1.cell (p := ⟨b, off + 1, none⟩) hb (fun h => h)).trans hc1
  have d0 := cells_at hg1 0
  have d1 := cells_at hg1 1
  have d2 := cells_at hg1 2
  have d3 := cells_at hg1 3
  have e0 := cells_at hg0 0
  have e1 := cells_at hg0 1
  have e2 := cells_at hg0 2
  have e3 := cells_at hg0 3
  have f0 := two_frozen hg0 0
  have f1 := two_frozen hg0 1
  have f2 := two_frozen hg0 2
  have f3 := two_frozen hg0 3
  have G0 := Lib.hid hg0
  have G1 := Lib.hid hg1
  clear hg0 hg1
  go_wp2_with fail
  exact bodyPost_ret (results_hdr rfl _ _ _ _ _ _ _ _ _ rfl (cells_four G0.out)) rfl (parsed_bad (n := 6) HE.out (by decide) rfl (keeps_four hk1 (Nat.le_refl _) _ _ _ _))
set_option maxRecDepth 100000 in
set_option maxHeartbeats 4000000 in
theorem rparse_g5 (b off n cap : Nat) (bs : List Int) (y : Int) (hyb : IsB y) (hy : bt bs 1 = y) (hlo : 64 < y) (hE : parE bs = 6) (hx : bt bs 0 = 5) (hn : 2 ≤ n) (w : World) (hb : b < w.heap.size) (hc : w.cell? ⟨b, off, none⟩ = some (.int .u8 5)) (hc1 : w.cell? ⟨b, off + 1, none⟩ = some (.int .u8 y)) :
    Calls Tryz.prog 10 #[.slice (some ⟨b, off, none⟩) n cap] w (Parsed w (parH bs) (parN bs) (parE bs)) := by
  have HE := Lib.hid hE
  have HX := Lib.hid hx
  clear hE hx
  have HY := Lib.hid hy
  obtain ⟨hy0, hy1⟩ := hyb
  have hwy : IntKind.i64.wrap y = y := by rw [IntKind.wrap_i64]; omega
  clear hy
  have hll : ¬ y < 1 := by omega
  have hdl : decide (y < 1) = false := decide_eq_false hll
  have hdg : decide (64 < y) = true := decide_eq_true hlo
  have hn0 : (0 : Int) < (n : Int) := by omega
  have hnq : ((n : Int) == 0) = false := by simp; omega
  have hn2 : ¬ (n : Int) < 2 := by omega
  have hnz : (1 : Int) < (n : Int) := by omega
  have hd2 : decide ((n : Int) < 2) = false := decide_eq_false hn2
  have cA : ∀ o1, (w.alloc o1).cell? ⟨b, off, none⟩ = some (.int .u8 5) := fun o1 => (((Keeps.refl (fun _ => False) w).alloc o1).cell (p := ⟨b, off, none⟩) hb (fun h => h)).trans hc
  go_enter Tryz.func10, Tryz.ntmps10
  go_upto_region 4 with fail
  obtain ⟨w1, hw1⟩ : ∃ w1, (w.alloc (.cells #[.int .i64 0, .int .i64 0, .slice none 0 0, .int .i64 0] 27)).alloc (.cells #[.int .i64 5, .int .i64 0, .slice none 0 0, .int .i64 0] 27) = w1 := ⟨_, rfl⟩
  have hk1 : Keeps (fun _ => False) w w1 := by rw [← hw1]; exact ((Keeps.refl _ w).alloc _).alloc _
  have hg0 : w1.heap[w.heap.size]? = some (.cells #[.int .i64 0, .int .i64 0, .slice none 0 0, .int .i64 0] 27 (0, 0)) := by rw [← hw1]; exact (heap2 w _ _).1
  have hg1 : w1.heap[w.heap.size + 1]? = some (.cells #[.int .i64 5, .int .i64 0, .slice none 0 0, .int .i64 0] 27 (0, 0)) := by rw [← hw1]; exact (heap2 w _ _).2
  rw [hw1]
  clear hw1 cA
  have c1 := (hk1.cell (p := ⟨b, off + 1, none⟩) hb (fun h => h)).trans hc1
  have d0 := cells_at hg1 0
  have d1 := cells_at hg1 1
  have d2 := cells_at hg1 2
  have d3 := cells_at hg1 3
  have e0 := cells_at hg0 0
  have e1 := cells_at hg0 1
  have e2 := cells_at hg0 2
  have e3 := cells_at hg0 3
  have f0 := two_frozen hg0 0
  have f1 := two_frozen hg0 1
  have f2 := two_frozen hg0 2
  have f3 := two_frozen hg0 3
  have G0 := Lib.hid hg0
  have G1 := Lib.hid hg1
  clear hg0 hg1
  go_wp2_with fail
  exact bodyPost_ret (results_hdr rfl _ _ _ _ _ _ _ _ _ rfl (cells_four G0.out)) rfl (parsed_bad (n := 6) HE.out (by decide) rfl (keeps_four hk1 (Nat.le_refl _) _ _ _ _))
set_option maxRecDepth 100000 in
set_option maxHeartbeats 4000000 in
theorem rparse_p3 (b off n cap : Nat) (bs : List Int) (y : Int) (hyb : IsB y) (hy : bt bs 1 = y) (hlo : 3 ≤ y) (hhi : y ≤ 64) (hE : parE bs = 0) (hx : bt bs 0 = 3) (hn : 2 ≤ n) (w : World) (hb : b < w.heap.size) (hc : w.cell? ⟨b, off, none⟩ = some (.int .u8 3)) (hc1 : w.cell? ⟨b, off + 1, none⟩ = some (.int .u8 y)) :
    Calls Tryz.prog 10 #[.slice (some ⟨b, off, none⟩) n cap] w (Parsed w (parH bs) (parN bs) (parE bs)) := by
  have HE := Lib.hid hE
  have HX := Lib.hid hx
  clear hE hx
  have HY := Lib.hid hy
  obtain ⟨hy0, hy1⟩ := hyb
  have hwy : IntKind.i64.wrap y = y := by rw [IntKind.wrap_i64]; omega
  clear hy
  have hll : ¬ y < 3 := by omega
  have hgg : ¬ 64 < y := by omega
  have hdl : decide (y < 3) = false := decide_eq_false hll
  have hdg : decide (64 < y) = false := decide_eq_false hgg
  have hn0 : (0 : Int) < (n : Int) := by omega
  have hnq : ((n : Int) == 0) = false := by simp; omega
  have hn2 : ¬ (n : Int) < 2 := by omega
  have hnz : (1 : Int) < (n : Int) := by omega
  have hd2 : decide ((n : Int) < 2) = false := decide_eq_false hn2
  have cA : ∀ o1, (w.alloc o1).cell? ⟨b, off, none⟩ = some (.int .u8 3) := fun o1 => (((Keeps.refl (fun _ => False) w).alloc o1).cell (p := ⟨b, off, none⟩) hb (fun h => h)).trans hc
  go_enter Tryz.func10, Tryz.ntmps10
  go_upto_region 4 with fail
  obtain ⟨w1, hw1⟩ : ∃ w1, (w.alloc (.cells #[.int .i64 0, .int .i64 0, .slice none 0 0, .int .i64 0] 27)).alloc (.cells #[.int .i64 3, .int .i64 0, .slice none 0 0, .int .i64 0] 27) = w1 := ⟨_, rfl⟩
  have hk1 : Keeps (fun _ => False) w w1 := by rw [← hw1]; exact ((Keeps.refl _ w).alloc _).alloc _
  have hg0 : w1.heap[w.heap.size]? = some (.cells #[.int .i64 0, .int .i64 0, .slice none 0 0, .int .i64 0] 27 (0, 0)) := by rw [← hw1]; exact (heap2 w _ _).1
  have hg1 : w1.heap[w.heap.size + 1]? = some (.cells #[.int .i64 3, .int .i64 0, .slice none 0 0, .int .i64 0] 27 (0, 0)) := by rw [← hw1]; exact (heap2 w _ _).2
  rw [hw1]
  clear hw1 cA
  have c1 := (hk1.cell (p := ⟨b, off + 1, none⟩) hb (fun h => h)).trans hc1
  have d0 := cells_at hg1 0
  have d1 := cells_at hg1 1
  have d2 := cells_at hg1 2
  have d3 := cells_at hg1 3
  have e0 := cells_at hg0 0
  have e1 := cells_at hg0 1
  have e2 := cells_at hg0 2
  have e3 := cells_at hg0 3
  have f0 := two_frozen hg0 0
  have f1 := two_frozen hg0 1
  have f2 := two_frozen hg0 2
  have f3 := two_frozen hg0 3
  have G0 := Lib.hid hg0
  have G1 := Lib.hid hg1
  have k1 := two_frozen hg1 1
  clear hg0 hg1
  go_wp2_with fail
  have G0' := Lib.hid ((Below.heap_setCell w1 ⟨w.heap.size + 1, 1, none⟩ (.int .i64 y) w.heap.size (by show w.heap.size ≠ w.heap.size + 1; omega)).trans G0.out)
  refine bodyPost_ret (results_hdr rfl _ _ _ _ _ _ _ _ _ rfl (cells_four G0'.out)) rfl ?_
  refine ⟨⟨.agg #[.int .i64 3, .int .i64 y, .slice none 0 0, .int .i64 0], ?_, ?_, hdFresh_nil _ _ _ _ _ _⟩, keeps_four (hk1.setCell ⟨w.heap.size + 1, 1, none⟩ (fun h => by have : w.heap.size + 1 < w.heap.size := h; omega) _) (Nat.le_refl _) _ _ _ _⟩
  · rw [HE.out, show (parN bs : Int) = 2 by unfold parN; rw [if_neg (by rw [HE.out]; decide), HX.out, if_neg (by decide), if_pos rfl]; rfl]; rfl
  · rw [show parH bs = ⟨3, y, [], 0⟩ by unfold parH; rw [if_neg (by rw [HE.out]; decide), HX.out, if_pos rfl, HY.out, if_neg (by decide), if_neg (by decide)]]
    exact ⟨none, 0, rfl, .inl ⟨rfl, none, 0, rfl⟩, fun _ => ⟨rfl, rfl⟩⟩
set_option maxRecDepth 100000 in
set_option maxHeartbeats 4000000 in
theorem rparse_t4 (b off n cap : Nat) (bs : List Int) (y : Int) (hyb : IsB y) (hy : bt bs 1 = y) (hlo : 1 ≤ y) (hhi : y ≤ 64) (hsh : (n : Int) < 2 + y) (hE : parE bs = 4) (hx : bt bs 0 = 4) (hn : 2 ≤ n) (w : World) (hb : b < w.heap.size) (hc : w.cell? ⟨b, off, none⟩ = some (.int .u8 4)) (hc1 : w.cell? ⟨b, off + 1, none⟩ = some (.int .u8 y)) :
    Calls Tryz.prog 10 #[.slice (some ⟨b, off, none⟩) n cap] w (Parsed w (parH bs) (parN bs) (parE bs)) := by
  have HE := Lib.hid hE
  have HX := Lib.hid hx
  clear hE hx
  have HY := Lib.hid hy
  obtain ⟨hy0, hy1⟩ := hyb
  have hwy : IntKind.i64.wrap y = y := by rw [IntKind.wrap_i64]; omega
  clear hy
  have hll : ¬ y < 1 := by omega
  have hgg : ¬ 64 < y := by omega
  have hdl : decide (y < 1) = false := decide_eq_false hll
  have hdg : decide (64 < y) = false := decide_eq_false hgg
  have hds : decide ((n : Int) < 2 + y) = true := decide_eq_true hsh
  have hn0 : (0 : Int) < (n : Int) := by omega
  have hnq : ((n : Int) == 0) = false := by simp; omega
  have hn2 : ¬ (n : Int) < 2 := by omega
  have hnz : (1 : Int) < (n : Int) := by omega
  have hd2 : decide ((n : Int) < 2) = false := decide_eq_false hn2
  have cA : ∀ o1, (w.alloc o1).cell? ⟨b, off, none⟩ = some (.int .u8 4) := fun o1 => (((Keeps.refl (fun _ => False) w).alloc o1).cell (p := ⟨b, off, none⟩) hb (fun h => h)).trans hc
  go_enter Tryz.func10, Tryz.ntmps10
  go_upto_region 4 with fail
  obtain ⟨w1, hw1⟩ : ∃ w1, (w.alloc (.cells #[.int .i64 0, .int .i64 0, .slice none 0 0, .int .i64 0] 27)).alloc (.cells #[.int .i64 4, .int .i64 0, .slice none 0 0, .int .i64 0] 27) = w1 := ⟨_, rfl⟩
  have hk1 : Keeps (fun _ => False) w w1 := by rw [← hw1]; exact ((Keeps.refl _ w).alloc _).alloc _
  have hg0 : w1.heap[w.heap.size]? = some (.cells #[.int .i64 0, .int .i64 0, .slice none 0 0, .int .i64 0] 27 (0, 0)) := by rw [← hw1]; exact (heap2 w _ _).1
  have hg1 : w1.heap[w.heap.size + 1]? = some (.cells #[.int .i64 4, .int .i64 0, .slice none 0 0, .int .i64 0] 27 (0, 0)) := by rw [← hw1]; exact (heap2 w _ _).2
  rw [hw1]
  clear hw1 cA
  have c1 := (hk1.cell (p := ⟨b, off + 1, none⟩) hb (fun h => h)).trans hc1
  have d0 := cells_at hg1 0
  have d1 := cells_at hg1 1
  have d2 := cells_at hg1 2
  have d3 := cells_at hg1 3
  have e0 := cells_at hg0 0
  have e1 := cells_at hg0 1
  have e2 := cells_at hg0 2
  have e3 := cells_at hg0 3
  have f0 := two_frozen hg0 0
  have f1 := two_frozen hg0 1
  have f2 := two_frozen hg0 2
  have f3 := two_frozen hg0 3
  have G0 := Lib.hid hg0
  have G1 := Lib.hid hg1
  clear hg0 hg1
  go_wp2_with fail
  exact bodyPost_ret (results_hdr rfl _ _ _ _ _ _ _ _ _ rfl (cells_four G0.out)) rfl (parsed_bad (n := 4) HE.out (by decide) rfl (keeps_four hk1 (Nat.le_refl _) _ _ _ _))
set_option maxRecDepth 100000 in
set_option maxHeartbeats 4000000 in
theorem rparse_t5 (b off n cap : Nat) (bs : List Int) (y : Int) (hyb : IsB y) (hy : bt bs 1 = y) (hlo : 1 ≤ y) (hhi : y ≤ 64) (hsh : (n : Int) < 2 + y) (hE : parE bs = 4) (hx : bt bs 0 = 5) (hn : 2 ≤ n) (w : World) (hb : b < w.heap.size) (hc : w.cell? ⟨b, off, none⟩ = some (.int .u8 5)) (hc1 : w.cell? ⟨b, off + 1, none⟩ = some (.int .u8 y)) :
    Calls Tryz.prog 10 #[.slice (some ⟨b, off, none⟩) n cap] w (Parsed w (parH bs) (parN bs) (parE bs)) := by
  have HE := Lib.hid hE
  have HX := Lib.hid hx
  clear hE hx
  have HY := Lib.hid hy
  obtain ⟨hy0, hy1⟩ := hyb
  have hwy : IntKind.i64.wrap y = y := by rw [IntKind.wrap_i64]; omega
  clear hy
  have hll : ¬ y < 1 := by omega
  have hgg : ¬ 64 < y := by omega
  have hdl : decide (y < 1) = false := decide_eq_false hll
  have hdg : decide (64 < y) = false := decide_eq_false hgg
  have hds : decide ((n : Int) < 2 + y) = true := decide_eq_true hsh
  have hn0 : (0 : Int) < (n : Int) := by omega
  have hnq : ((n : Int) == 0) = false := by simp; omega
  have hn2 : ¬ (n : Int) < 2 := by omega
  have hnz : (1 : Int) < (n : Int) := by omega
  have hd2 : decide ((n : Int) < 2) = false := decide_eq_false hn2
  have cA : ∀ o1, (w.alloc o1).cell? ⟨b, off, none⟩ = some (.int .u8 5) := fun o1 => (((Keeps.refl (fun _ => False) w).alloc o1).cell (p := ⟨b, off, none⟩) hb (fun h => h)).trans hc
  go_enter Tryz.func10, Tryz.ntmps10
  go_upto_region 4 with fail
  obtain ⟨w1, hw1⟩ : ∃ w1, (w.alloc (.cells #[.int .i64 0, .int .i64 0, .slice none 0 0, .int .i64 0] 27)).alloc (.cells #[.int .i64 5, .int .i64 0, .slice none 0 0, .int .i64 0] 27) = w1 := ⟨_, rfl⟩
  have hk1 : Keeps (fun _ => False) w w1 := by rw [← hw1]; exact ((Keeps.refl _ w).alloc _).alloc _
  have hg0 : w1.heap[w.heap.size]? = some (.cells #[.int .i64 0, .int .i64 0, .slice none 0 0, .int .i64 0] 27 (0, 0)) := by rw [← hw1]; exact (heap2 w _ _).1
  have hg1 : w1.heap[w.heap.size + 1]? = some (.cells #[.int .i64 5, .int .i64 0, .slice none 0 0, .int .i64 0] 27 (0, 0)) := by rw [← hw1]; exact (heap2 w _ _).2
  rw [hw1]
  clear hw1 cA
  have c1 := (hk1.cell (p := ⟨b, off + 1, none⟩) hb (fun h => h)).trans hc1
  have d0 := cells_at hg1 0
  have d1 := cells_at hg1 1
  have d2 := cells_at hg1 2
  have d3 := cells_at hg1 3
  have e0 := cells_at hg0 0
  have e1 := cells_at hg0 1
  have e2 := cells_at hg0 2
  have e3 := cells_at hg0 3
  have f0 := two_frozen hg0 0
  have f1 := two_frozen hg0 1
  have f2 := two_frozen hg0 2
  have f3 := two_frozen hg0 3
  have G0 := Lib.hid hg0
  have G1 := Lib.hid hg1
  clear hg0 hg1
  go_wp2_with fail
  exact bodyPost_ret (results_hdr rfl _ _ _ _ _ _ _ _ _ rfl (cells_four G0.out)) rfl (parsed_bad (n := 4) HE.out (by decide) rfl (keeps_four hk1 (Nat.le_refl _) _ _ _ _))
set_option maxRecDepth 100000 in
set_option maxHeartbeats 4000000 in
theorem rparse_s4 (b off n cap : Nat) (bs : List Int) (hB : ∀ x ∈ bs, IsB x) (hn : n = bs.length) (hcap : n ≤ cap) (hk : 1 ≤ bt bs 1 ∧ bt bs 1 ≤ 64) (hl : 2 + parK bs ≤ n) (h0 : bt bs 0 = 4) (w : World) (hb : b < w.heap.size) (hc : ∀ i, i < n → w.cell? ⟨b, off + i, none⟩ = some (.int .u8 (bt bs i))) :
    Calls Tryz.prog 10 #[.slice (some ⟨b, off, none⟩) n cap] w (Parsed w (parH bs) (parN bs) (parE bs)) := by
  obtain ⟨K, hK⟩ : ∃ K, parK bs = K := ⟨_, rfl⟩
  have hbk : bt bs 1 = (K : Int) := by rw [← hK]; unfold parK; omega
  rw [hK] at hl
  rw [hbk] at hk
  have cc0 := hc 0 (by omega)
  have cc1 := hc 1 (by omega)
  rw [h0, Nat.add_zero] at cc0
  rw [hbk] at cc1
  obtain ⟨i0, hi, hz0, hz1, hz2⟩ := info_parts infoR
  have HE := Lib.hid (parE_rs (bs := bs) (by rw [h0]; omega) (by rw [hbk]; omega) (by rw [hK, ← hn]; exact hl))
  have HB := Lib.hid hB
  have HN := Lib.hid hn
  have HC := Lib.hid hc
  have HK := Lib.hid hK
  have H0 := Lib.hid h0
  clear hB hn hK hbk h0
  obtain ⟨hk1', hk2'⟩ := hk
  have hKI : (0 : Int) ≤ (K : Int) := by omega
  have hwk : IntKind.i64.wrap (K : Int) = K := by rw [IntKind.wrap_i64]; omega
  have hnq : ((n : Int) == 0) = false := by simp; omega
  have hn0 : (0 : Int) < (n : Int) := by omega
  have hnz : (1 : Int) < (n : Int) := by omega
  have hd2 : decide ((n : Int) < 2) = false := decide_eq_false (by omega)
  have hd3 : decide ((n : Int) < 2 + (K : Int)) = false := decide_eq_false (by omega)
  have hd4 : decide ((K : Int) < 1) = false := decide_eq_false (by omega)
  have hd5 : decide (64 < (K : Int)) = false := decide_eq_false (by omega)
  have hc := cc0
  have cA : ∀ o1, (w.alloc o1).cell? ⟨b, off, none⟩ = some (.int .u8 4) := fun o1 => (((Keeps.refl (fun _ => False) w).alloc o1).cell (p := ⟨b, off, none⟩) hb (fun h => h)).trans hc
  go_enter Tryz.func10, Tryz.ntmps10
  go_upto_region 4 with fail
  obtain ⟨w1, hw1⟩ : ∃ w1, (w.alloc (.cells #[.int .i64 0, .int .i64 0, .slice none 0 0, .int .i64 0] 27)).alloc (.cells #[.int .i64 4, .int .i64 0, .slice none 0 0, .int .i64 0] 27) = w1 := ⟨_, rfl⟩
  have hk1 : Keeps (fun _ => False) w w1 := by rw [← hw1]; exact ((Keeps.refl _ w).alloc _).alloc _
  have hg0 : w1.heap[w.heap.size]? = some (.cells #[.int .i64 0, .int .i64 0, .slice none 0 0, .int .i64 0] 27 (0, 0)) := by rw [← hw1]; exact (heap2 w _ _).1
  have hg1 : w1.heap[w.heap.size + 1]? = some (.cells #[.int .i64 4, .int .i64 0, .slice none 0 0, .int .i64 0] 27 (0, 0)) := by rw [← hw1]; exact (heap2 w _ _).2
  rw [hw1]
  clear hw1 cA
  have c1 := (hk1.cell (p := ⟨b, off + 1, none⟩) hb (fun h => h)).trans cc1
  have d0 := cells_at hg1 0
  have G0 := Lib.hid hg0
  have G1 := Lib.hid hg1
  clear hg0 hg1 cc0 cc1 hc
  go_wp2_with fail
  go_loopw [7, 8] (fun i _ wr => ∃ k : Nat, k ≤ K ∧ i = .int .i64 k ∧ ∃ v : Value, wr.heap[w.heap.size + 1]? = some (.cells #[.int .i64 4, .int .i64 0, v, .int .i64 0] 27 (0, 0)) ∧ RowKit.Hid (wr.heap[w.heap.size]? = some (.cells #[.int .i64 0, .int .i64 0, .slice none 0 0, .int .i64 0] 27 (0, 0))) ∧ wr.ownsRow (w.heap.size + 2) 40 3 v k (rcl ((regsB bs K).take k)) ∧ RowKit.Hid (Keeps (fun _ => False) w wr) ∧ RowKit.Hid (((regsB bs K).take k).any wrongR = false)) (fun i _ _ => K - (intOf i).toNat)
  case atStart => exact ⟨0, Nat.zero_le _, rfl, _, G1.out, G0, ⟨rfl, .inl ⟨rfl, rfl⟩⟩, Lib.hid hk1, Lib.hid rfl⟩
  case round =>
    clear c1 d0 G0 G1 hk1
    obtain ⟨k, hk, rfl, v, hg1, G0, hr, HW, HANY⟩ := hrel
    obtain ⟨ao5, cap5, rfl⟩ := shape_own hr
    have hwlt : w.heap.size + 1 < wr.heap.size := (Array.getElem?_eq_some_iff.1 hg1).1
    have G1 := Lib.hid hg1
    have HR := Lib.hid hr
    clear hg1 hr
    by_cases hkl : k < K
    · have hkI : (k : Int) < (K : Int) := by omega
      have hk0 : (0 : Int) ≤ (k : Int) := by omega
      have cb := (HW.out.cell (p := ⟨b, off + (2 + k), none⟩) hb (fun h => h)).trans (HC.out (2 + k) (by omega))
      have hbb := bt_ok HB.out (2 + k)
      obtain ⟨c, hc⟩ : ∃ c, bt bs (2 + k) = c := ⟨_, rfl⟩
      rw [hc] at cb hbb
      have HCC := Lib.hid hc
      obtain ⟨hb0, hb1⟩ := hbb
      obtain ⟨d, hd⟩ : ∃ d, decide (128 ≤ c) = d := ⟨_, rfl⟩
      obtain ⟨m, hm⟩ : ∃ m, c % 128 = m := ⟨_, rfl⟩
      have htm : c.tmod 128 = m := by rw [Int.tmod_eq_emod_of_nonneg hb0]; exact hm
      have hw2 : IntKind.i64.wrap (2 + (k : Int)) = 2 + (k : Int) := by rw [IntKind.wrap_i64]; omega
      have hw3 : IntKind.i64.wrap m = m := by rw [IntKind.wrap_i64]; omega
      have hw4 : IntKind.u8.wrap (c % 128) = m := by rw [← hm, IntKind.wrap_u8]; omega
      have ht2 : (2 + (k : Int)).toNat = 2 + k := by omega
      have hi2 : 2 + (k : Int) < (n : Int) := by omega
      have hj2 : (0 : Int) ≤ 2 + (k : Int) := by omega
      have HD := Lib.hid hd
      have HM := Lib.hid hm
      clear hc
      go_wp2_with fail
      refine wp_region_late (fun W => W.cell? ⟨b, off + (2 + k), none⟩ = some (.int .u8 c)) [15] (by kernel_rfl) ?_
      have hS : wr.drew.cell? ⟨b, off + (2 + k), none⟩ = some (.int .u8 c) := cb
      have HG0d := Lib.hid (show wr.drew.heap[w.heap.size]? = some (.cells #[.int .i64 0, .int .i64 0, .slice none 0 0, .int .i64 0] 27 (0, 0)) from G0.out)
      have HG1d := Lib.hid (show wr.drew.heap[w.heap.size + 1]? = some (.cells #[.int .i64 4, .int .i64 0, .slice ao5 k cap5, .int .i64 0] 27 (0, 0)) from G1.out)
      have HWd := Lib.hid (show Keeps (fun _ => False) w wr.drew from HW.out.drewN 1)
      have HRd := Lib.hid (show wr.drew.ownsRow (w.heap.size + 2) 40 3 (.slice ao5 k cap5) k (rcl ((regsB bs K).take k)) from HR.out)
      have hwld : w.heap.size + 1 < wr.drew.heap.size := hwlt
      have hbd : b < wr.drew.heap.size := by omega
      clear cb G0 G1 HW HR hwlt
      generalize wr.drew = wd at hS HG0d HG1d HWd HRd hwld hbd ⊢
      refine tkA 0 (.slice (some ⟨b, off, none⟩) n cap) rfl (by kernel_rfl) (fun _ _ _ h => (h : False).elim) (by kernel_rfl) (fun _ => ‹_›) ?_ ?_
      · intro w _; go_simp
      try simp only [ga, gb, gc, Act.put, gd, ge, gf]
      refine tkA 1 (.int .i64 k) rfl (by kernel_rfl) (fun _ _ _ h => (h : False).elim) (by kernel_rfl) (fun _ => ‹_›) ?_ ?_
      · intro w _; go_simp
      try simp only [ga, gb, gc, Act.put, gd, ge, gf]
      refine tkA 2 (.int .i64 (2 + k)) rfl (by kernel_rfl) (fun _ _ _ h => (h : False).elim) (by kernel_rfl) (fun _ => ‹_›) ?_ ?_
      · intro w _; go_simp
      try simp only [ga, gb, gc, Act.put, gd, ge, gf]
      refine tkA 3 (.pointer (some ⟨b, off + (2 + k), none⟩)) rfl (by kernel_rfl) (fun _ _ _ h => (h : False).elim) (by kernel_rfl) (fun _ => ‹_›) ?_ ?_
      · intro w _; go_simp
      try simp only [ga, gb, gc, Act.put, gd, ge, gf]
      refine tkL 4 (.int .u8 c) rfl (by kernel_rfl) (fun _ _ _ h => (h : False).elim) (by kernel_rfl) ‹_› ?_ ?_
      · intro w hSw
        skip
        go_simp
      try simp only [ga, gb, gc, Act.put, gd, ge, gf]
      refine tkA 5 (.bool d) rfl (by kernel_rfl) (fun _ _ _ h => (h : False).elim) (by kernel_rfl) (fun _ => ‹_›) ?_ ?_
      · intro w _; go_simp
      try simp only [ga, gb, gc, Act.put, gd, ge, gf]
      refine tkA 6 (.slice (some ⟨b, off, none⟩) n cap) rfl (by kernel_rfl) (fun _ _ _ h => (h : False).elim) (by kernel_rfl) (fun _ => ‹_›) ?_ ?_
      · intro w _; go_simp
      try simp only [ga, gb, gc, Act.put, gd, ge, gf]
      refine tkA 7 (.int .i64 k) rfl (by kernel_rfl) (fun _ _ _ h => (h : False).elim) (by kernel_rfl) (fun _ => ‹_›) ?_ ?_
      · intro w _; go_simp
      try simp only [ga, gb, gc, Act.put, gd, ge, gf]
      refine tkA 8 (.int .i64 (2 + k)) rfl (by kernel_rfl) (fun _ _ _ h => (h : False).elim) (by kernel_rfl) (fun _ => ‹_›) ?_ ?_
      · intro w _; go_simp
      try simp only [ga, gb, gc, Act.put, gd, ge, gf]
      refine tkA 9 (.pointer (some ⟨b, off + (2 + k), none⟩)) rfl (by kernel_rfl) (fun _ _ _ h => (h : False).elim) (by kernel_rfl) (fun _ => ‹_›) ?_ ?_
      · intro w _; go_simp
      try simp only [ga, gb, gc, Act.put, gd, ge, gf]
      refine tkL 10 (.int .u8 c) rfl (by kernel_rfl) (fun _ _ _ h => (h : False).elim) (by kernel_rfl) ‹_› ?_ ?_
      · intro w hSw
        skip
        go_simp
      try simp only [ga, gb, gc, Act.put, gd, ge, gf]
      refine tkA 11 (.int .u8 m) rfl (by kernel_rfl) (fun _ _ _ h => (h : False).elim) (by kernel_rfl) (fun _ => ‹_›) ?_ ?_
      · intro w _; go_simp
      try simp only [ga, gb, gc, Act.put, gd, ge, gf]
      refine tkA 12 (.int .i64 m) rfl (by kernel_rfl) (fun _ _ _ h => (h : False).elim) (by kernel_rfl) (fun _ => ‹_›) ?_ ?_
      · intro w _; go_simp
      try simp only [ga, gb, gc, Act.put, gd, ge, gf]
      refine tkA 13 (.agg #[.bool d, .int .i64 m, .slice none 0 0]) rfl (by kernel_rfl) (fun _ _ _ h => (h : False).elim) (by kernel_rfl) (fun _ => ‹_›) ?_ ?_
      · intro w _; go_simp
      try simp only [ga, gb, gc, Act.put, gd, ge, gf]
      refine wpAnyL_next (i := 14) (by kernel_rfl) rfl (fun K hK => ?_)
      go_simp
      refine hK.out _ _ ((((Keeps.refl (fun _ => False) wd).alloc _).cell (p := ⟨b, off + (2 + k), none⟩) hbd (fun h => h)).trans hS) (fun hHeld => ?_)
      clear hK K
      try simp only [ga, gb, gc, Act.put, gd, ge, gf]
      refine wpAnyL_late (i := 15) (by kernel_rfl) rfl (by kernel_rfl) (fun K hK => ?_)
      go_simp
      refine hK.out _ _ (fun _ => ?_)
      clear hK K
      try simp only [ga, gb, gc, Act.put, gd, ge, gf]
      refine wpAnyL_done (by kernel_rfl) ?_ _
      refine NoPanic.normal ?_
      clear hS
      obtain ⟨wa, hwa⟩ : ∃ wa, wd.alloc (.cells #[.bool d, .int .i64 m, .slice none 0 0] 40) = wa := ⟨_, rfl⟩
      obtain ⟨g8, hg8⟩ : ∃ g, wd.heap.size = g := ⟨_, rfl⟩
      have hga := heap_alloc_new wd (.cells #[.bool d, .int .i64 m, .slice none 0 0] 40)
      have hka : Keeps (fun _ => False) wd wa := by rw [← hwa]; exact (Keeps.refl _ wd).alloc _
      rw [hwa, hg8] at hga
      rw [hwa]
      try rw [hg8]
      have HG0a := Lib.hid ((hka.block _ (by omega) (fun h => h)).trans HG0d.out)
      have HG1a := Lib.hid ((hka.block _ hwld (fun h => h)).trans HG1d.out)
      have HWa := Lib.hid (knil HWd.out hka)
      have HRa := Lib.hid (rowW_nil HRd.out hka)
      have hwla : w.heap.size + 1 < wa.heap.size := by have := hka.size; omega
      have HRB := Lib.hid (show regB (bt bs (2 + k)) = (d, m, []) by rw [HCC.out]; unfold regB; rw [HD.out, HM.out])
      have c0 := cells_at hga 0
      have c1 := cells_at hga 1
      have c2 := cells_at hga 2
      clear hwa hga hka hg8 HG0d HG1d HWd HRd hwld hbd htm hd hm hw4
      go_wp2_with fail
      refine (rsize16_calls m _).mono ?_; rintro e wz ⟨rfl, hwz⟩
      rw [hwz]
      clear hwz wz
      obtain ⟨s, hs⟩ : ∃ s, sizeR m = s := ⟨_, rfl⟩
      rw [hs]
      have HS := Lib.hid hs
      clear hs
      by_cases hz : s = 0
      · have hsz : (s == 0) = true := by simp [hz]
        have HZ := Lib.hid hz
        clear hz
        have e0 := cells_at HG0a.out 0
        have e1 := cells_at HG0a.out 1
        have e2 := cells_at HG0a.out 2
        have e3 := cells_at HG0a.out 3
        have f0 := two_frozen HG0a.out 0
        have f1 := two_frozen HG0a.out 1
        have f2 := two_frozen HG0a.out 2
        have f3 := two_frozen HG0a.out 3
        go_wp2_with fail
        refine bodyPost_ret (results_hdr rfl _ _ _ _ _ _ _ _ _ rfl (cells_four HG0a.out)) rfl (parsed_bad (n := 7) ?_ (by decide) rfl (keeps_four HWa.out (Nat.le_refl _) _ _ _ _))
        rw [HE.out, HK.out, if_pos (any_of_one bs K k hkl (by rw [HRB.out]; show (sizeR m == 0) = true; rw [HS.out, HZ.out]; rfl))]
      · have hsz : (s == 0) = false := by simp [hz]
        have HZ := Lib.hid hsz
        clear hz
        have d2 := cells_at HG1a.out 2
        have f2 := two_frozen HG1a.out 2
        go_wp2_with (at_builtin; refine wpList_append_own _ rfl _ _ 25 rfl (w.heap.size + 2) 40 i0 (.agg #[.bool false, .int .i64 0, .slice none 0 0]) 3 40 Tryz.underlying25 hi hz0 hz1 hz2 rfl (by decide) _ _ _ rfl (HRa.out.alloc _) ⟨wa.heap.size, 0, none⟩ 1 1 [.bool d, .int .i64 m, .slice none 0 0] rfl rfl ?c1 ?c2 ?c3 ?c4 ?c5 ?_)
        case c1 =>
          intro j u hj
          have hadd : (⟨wa.heap.size, 0, none⟩ : Addr).add j = ⟨wa.heap.size, 0 + j, none⟩ := by unfold Addr.add; split <;> simp_all
          rw [hadd, cell_of_row _ _ _ _ _ _ (heap_alloc_new wa _), Nat.zero_add]
          simpa using hj
        case c2 => first | (intro u hu; simp at hu; rcases hu with rfl | rfl | rfl <;> rfl) | rfl
        case c3 => unfold maxLen; omega
        case c4 => omega
        case c5 => first | omega | (simp; omega)
        intro v2 w2 hown2 hgrow2 _
        have hK2 : Keeps (fun _ => False) w w2 := (HWa.out.alloc _).grown hgrow2 (fun g hg hlt => by have := HRa.out.lt g hg; omega)
        have hKr : Keeps (fun j => some j = (Value.slice ao5 k cap5).ownBlock) wa w2 := ((Keeps.refl _ wa).alloc _).grown hgrow2 (fun g hg _ => hg.symm)
        have hnb : ∀ j, j < w.heap.size + 2 → ¬ some j = (Value.slice ao5 k cap5).ownBlock := fun j hj h => by have := HRa.out.lt j h.symm; omega
        have G1 := Lib.hid ((hKr.block _ hwla (hnb _ (by omega))).trans HG1a.out)
        have G0 := Lib.hid ((hKr.block _ (by omega) (hnb _ (by omega))).trans HG0a.out)
        obtain ⟨ao6, cap6, rfl⟩ := shape_own hown2
        have hown3 : w2.ownsRow (w.heap.size + 2) 40 3 (.slice ao6 (k + 1) cap6) (k + 1) (rcl ((regsB bs K).take (k + 1))) := by rw [regsB_take _ _ _ hkl, rcl_snoc, HRB.out]; exact hown2
        have HO := Lib.hid hown3
        have HK2 := Lib.hid hK2
        have HANY2 := Lib.hid (any_take_snoc bs K k hkl HANY.out (by rw [HRB.out]; show (sizeR m == 0) = false; rw [HS.out]; exact HZ.out))
        clear d2 f2 c0 c1 c2 hown2 hown3 hgrow2 hK2 hKr hnb HWa HRa HG0a HG1a
        have d2 := cells_at G1.out 2
        have f2 := two_frozen G1.out 2
        go_wp2_with fail
        go_roundw
        case rel => exact ⟨k + 1, by omega, by go_num, _, cells_put G1.out 2 _, Lib.hid ((Below.heap_setCell _ _ _ _ (by show w.heap.size ≠ w.heap.size + 1; omega)).trans G0.out), row_set HO.out (by omega) _, Lib.hid (HK2.out.setCell ⟨w.heap.size + 1, 2, none⟩ (fun h => by have : w.heap.size + 1 < w.heap.size := h; omega) _), HANY2⟩
        case measure => simp [intOf]; omega
    · obtain rfl : k = K := by omega
      have hta : (regsB bs k).take k = regsB bs k := List.take_of_length_le (by rw [regsB_length]; omega)
      rw [hta] at HR HANY
      have d0 := cells_at G1.out 0
      have d1 := cells_at G1.out 1
      have d2 := cells_at G1.out 2
      have d3 := cells_at G1.out 3
      have e0 := cells_at G0.out 0
      have e1 := cells_at G0.out 1
      have e2 := cells_at G0.out 2
      have e3 := cells_at G0.out 3
      have f0 := two_frozen G0.out 0
      have f1 := two_frozen G0.out 1
      have f2 := two_frozen G0.out 2
      have f3 := two_frozen G0.out 3
      clear hta
      go_wp2_with fail
      refine bodyPost_ret (results_hdr rfl _ _ _ _ _ _ _ _ _ rfl (cells_four G0.out)) rfl ?_
      have hE : parE bs = 0 := by rw [HE.out, HK.out, if_neg (by rw [HANY.out]; decide), if_pos H0.out]
      refine ⟨⟨.agg #[.int .i64 4, .int .i64 0, .slice ao5 k cap5, .int .i64 0], ?_, ?_, hdFresh_row HR.out _ _ _⟩, keeps_four HW.out (Nat.le_refl _) _ _ _ _⟩
      · rw [hE, show (parN bs : Int) = 2 + k by unfold parN; rw [if_neg (by rw [hE]; decide), H0.out, if_neg (by decide), if_neg (by decide), if_pos rfl, HK.out]; omega]; rfl
      · rw [show parH bs = ⟨4, 0, regsB bs k, 0⟩ by unfold parH; rw [if_neg (by rw [hE]; decide), H0.out, if_neg (by decide), if_pos (by decide), if_neg (by decide), HK.out]]
        refine ⟨ao5, cap5, by simp only [regsB_length], ?_, fun h => ?_⟩
        · rw [regsB_length]; exact regsAt_row (row_set (row_set (row_set (row_set HR.out (by omega) _) (by omega) _) (by omega) _) (by omega) _) (regsB_length _ _).symm (regsB_empty _ _)
        · have := congrArg List.length h
          rw [regsB_length] at this
          simp at this
          omega
set_option maxRecDepth 100000 in
set_option maxHeartbeats 4000000 in
theorem rparse_s5 (b off n cap : Nat) (bs : List Int) (hB : ∀ x ∈ bs, IsB x) (hn : n = bs.length) (hcap : n ≤ cap) (hk : 1 ≤ bt bs 1 ∧ bt bs 1 ≤ 64) (hl : 2 + parK bs ≤ n) (h0 : bt bs 0 = 5) (w : World) (hb : b < w.heap.size) (hc : ∀ i, i < n → w.cell? ⟨b, off + i, none⟩ = some (.int .u8 (bt bs i))) :
    Calls Tryz.prog 10 #[.slice (some ⟨b, off, none⟩) n cap] w (Parsed w (parH bs) (parN bs) (parE bs)) := by
  obtain ⟨K, hK⟩ : ∃ K, parK bs = K := ⟨_, rfl⟩
  have hbk : bt bs 1 = (K : Int) := by rw [← hK]; unfold parK; omega
  rw [hK] at hl
  rw [hbk] at hk
  have cc0 := hc 0 (by omega)
  have cc1 := hc 1 (by omega)
  rw [h0, Nat.add_zero] at cc0
  rw [hbk] at cc1
  obtain ⟨i0, hi, hz0, hz1, hz2⟩ := info_parts infoR
  have HE := Lib.hid (parE_rs (bs := bs) (by rw [h0]; omega) (by rw [hbk]; omega) (by rw [hK, ← hn]; exact hl))
  have HB := Lib.hid hB
  have HN := Lib.hid hn
  have HC := Lib.hid hc
  have HK := Lib.hid hK
  have H0 := Lib.hid h0
  clear hB hn hK hbk h0
  obtain ⟨hk1', hk2'⟩ := hk
  have hKI : (0 : Int) ≤ (K : Int) := by omega
  have hwk : IntKind.i64.wrap (K : Int) = K := by rw [IntKind.wrap_i64]; omega
  have hnq : ((n : Int) == 0) = false := by simp; omega
  have hn0 : (0 : Int) < (n : Int) := by omega
  have hnz : (1 : Int) < (n : Int) := by omega
  have hd2 : decide ((n : Int) < 2) = false := decide_eq_false (by omega)
  have hd3 : decide ((n : Int) < 2 + (K : Int)) = false := decide_eq_false (by omega)
  have hd4 : decide ((K : Int) < 1) = false := decide_eq_false (by omega)
  have hd5 : decide (64 < (K : Int)) = false := decide_eq_false (by omega)
  have hc := cc0
  have cA : ∀ o1, (w.alloc o1).cell? ⟨b, off, none⟩ = some (.int .u8 5) := fun o1 => (((Keeps.refl (fun _ => False) w).alloc o1).cell (p := ⟨b, off, none⟩) hb (fun h => h)).trans hc
  go_enter Tryz.func10, Tryz.ntmps10
  go_upto_region 4 with fail
  obtain ⟨w1, hw1⟩ : ∃ w1, (w.alloc (.cells #[.int .i64 0, .int .i64 0, .slice none 0 0, .int .i64 0] 27)).alloc (.cells #[.int .i64 5, .int .i64 0, .slice none 0 0, .int .i64 0] 27) = w1 := ⟨_, rfl⟩
  have hk1 : Keeps (fun _ => False) w w1 := by rw [← hw1]; exact ((Keeps.refl _ w).alloc _).alloc _
  have hg0 : w1.heap[w.heap.size]? = some (.cells #[.int .i64 0, .int .i64 0, .slice none 0 0, .int .i64 0] 27 (0, 0)) := by rw [← hw1]; exact (heap2 w _ _).1
  have hg1 : w1.heap[w.heap.size + 1]? = some (.cells #[.int .i64 5, .int .i64 0, .slice none 0 0, .int .i64 0] 27 (0, 0)) := by rw [← hw1]; exact (heap2 w _ _).2
  rw [hw1]
  clear hw1 cA
  have c1 := (hk1.cell (p := ⟨b, off + 1, none⟩) hb (fun h => h)).trans cc1
  have d0 := cells_at hg1 0
  have G0 := Lib.hid hg0
  have G1 := Lib.hid hg1
  clear hg0 hg1 cc0 cc1 hc
  go_wp2_with fail
  go_loopw [7, 8] (fun i _ wr => ∃ k : Nat, k ≤ K ∧ i = .int .i64 k ∧ ∃ v : Value, wr.heap[w.heap.size + 1]? = some (.cells #[.int .i64 5, .int .i64 0, v, .int .i64 0] 27 (0, 0)) ∧ RowKit.Hid (wr.heap[w.heap.size]? = some (.cells #[.int .i64 0, .int .i64 0, .slice none 0 0, .int .i64 0] 27 (0, 0))) ∧ wr.ownsRow (w.heap.size + 2) 40 3 v k (rcl ((regsB bs K).take k)) ∧ RowKit.Hid (Keeps (fun _ => False) w wr) ∧ RowKit.Hid (((regsB bs K).take k).any wrongR = false)) (fun i _ _ => K - (intOf i).toNat)
  case atStart => exact ⟨0, Nat.zero_le _, rfl, _, G1.out, G0, ⟨rfl, .inl ⟨rfl, rfl⟩⟩, Lib.hid hk1, Lib.hid rfl⟩
  case round =>
    clear c1 d0 G0 G1 hk1
    obtain ⟨k, hk, rfl, v, hg1, G0, hr, HW, HANY⟩ := hrel
    obtain ⟨ao5, cap5, rfl⟩ := shape_own hr
    have hwlt : w.heap.size + 1 < wr.heap.size := (Array.getElem?_eq_some_iff.1 hg1).1
    have G1 := Lib.hid hg1
    have HR := Lib.hid hr
    clear hg1 hr
    by_cases hkl : k < K
    · have hkI : (k : Int) < (K : Int) := by omega
      have hk0 : (0 : Int) ≤ (k : Int) := by omega
      have cb := (HW.out.cell (p := ⟨b, off + (2 + k), none⟩) hb (fun h => h)).trans (HC.out (2 + k) (by omega))
      have hbb := bt_ok HB.out (2 + k)
      obtain ⟨c, hc⟩ : ∃ c, bt bs (2 + k) = c := ⟨_, rfl⟩
      rw [hc] at cb hbb
      have HCC := Lib.hid hc
      obtain ⟨hb0, hb1⟩ := hbb
      obtain ⟨d, hd⟩ : ∃ d, decide (128 ≤ c) = d := ⟨_, rfl⟩
      obtain ⟨m, hm⟩ : ∃ m, c % 128 = m := ⟨_, rfl⟩
      have htm : c.tmod 128 = m := by rw [Int.tmod_eq_emod_of_nonneg hb0]; exact hm
      have hw2 : IntKind.i64.wrap (2 + (k : Int)) = 2 + (k : Int) := by rw [IntKind.wrap_i64]; omega
      have hw3 : IntKind.i64.wrap m = m := by rw [IntKind.wrap_i64]; omega
      have hw4 : IntKind.u8.wrap (c % 128) = m := by rw [← hm, IntKind.wrap_u8]; omega
      have ht2 : (2 + (k : Int)).toNat = 2 + k := by omega
      have hi2 : 2 + (k : Int) < (n : Int) := by omega
      have hj2 : (0 : Int) ≤ 2 + (k : Int) := by omega
      have HD := Lib.hid hd
      have HM := Lib.hid hm
      clear hc
      go_wp2_with fail
      refine wp_region_late (fun W => W.cell? ⟨b, off + (2 + k), none⟩ = some (.int .u8 c)) [15] (by kernel_rfl) ?_
      have hS : wr.drew.cell? ⟨b, off + (2 + k), none⟩ = some (.int .u8 c) := cb
      have HG0d := Lib.hid (show wr.drew.heap[w.heap.size]? = some (.cells #[.int .i64 0, .int .i64 0, .slice none 0 0, .int .i64 0] 27 (0, 0)) from G0.out)
      have HG1d := Lib.hid (show wr.drew.heap[w.heap.size + 1]? = some (.cells #[.int .i64 5, .int .i64 0, .slice ao5 k cap5, .int .i64 0] 27 (0, 0)) from G1.out)
      have HWd := Lib.hid (show Keeps (fun _ => False) w wr.drew from HW.out.drewN 1)
      have HRd := Lib.hid (show wr.drew.ownsRow (w.heap.size + 2) 40 3 (.slice ao5 k cap5) k (rcl ((regsB bs K).take k)) from HR.out)
      have hwld : w.heap.size + 1 < wr.drew.heap.size := hwlt
      have hbd : b < wr.drew.heap.size := by omega
      clear cb G0 G1 HW HR hwlt
      generalize wr.drew = wd at hS HG0d HG1d HWd HRd hwld hbd ⊢
      refine tkA 0 (.slice (some ⟨b, off, none⟩) n cap) rfl (by kernel_rfl) (fun _ _ _ h => (h : False).elim) (by kernel_rfl) (fun _ => ‹_›) ?_ ?_
      · intro w _; go_simp
      try simp only [ga, gb, gc, Act.put, gd, ge, gf]
      refine tkA 1 (.int .i64 k) rfl (by kernel_rfl) (fun _ _ _ h => (h : False).elim) (by kernel_rfl) (fun _ => ‹_›) ?_ ?_
      · intro w _; go_simp
      try simp only [ga, gb, gc, Act.put, gd, ge, gf]
      refine tkA 2 (.int .i64 (2 + k)) rfl (by kernel_rfl) (fun _ _ _ h => (h : False).elim) (by kernel_rfl) (fun _ => ‹_›) ?_ ?_
      · intro w _; go_simp
      try simp only [ga, gb, gc, Act.put, gd, ge, gf]
      refine tkA 3 (.pointer (some ⟨b, off + (2 + k), none⟩)) rfl (by kernel_rfl) (fun _ _ _ h => (h : False).elim) (by kernel_rfl) (fun _ => ‹_›) ?_ ?_
      · intro w _; go_simp
      try simp only [ga, gb, gc, Act.put, gd, ge, gf]
      refine tkL 4 (.int .u8 c) rfl (by kernel_rfl) (fun _ _ _ h => (h : False).elim) (by kernel_rfl) ‹_› ?_ ?_
      · intro w hSw
        skip
        go_simp
      try simp only [ga, gb, gc, Act.put, gd, ge, gf]
      refine tkA 5 (.bool d) rfl (by kernel_rfl) (fun _ _ _ h => (h : False).elim) (by kernel_rfl) (fun _ => ‹_›) ?_ ?_
      · intro w _; go_simp
      try simp only [ga, gb, gc, Act.put, gd, ge, gf]
      refine tkA 6 (.slice (some ⟨b, off, none⟩) n cap) rfl (by kernel_rfl) (fun _ _ _ h => (h : False).elim) (by kernel_rfl) (fun _ => ‹_›) ?_ ?_
      · intro w _; go_simp
      try simp only [ga, gb, gc, Act.put, gd, ge, gf]
      refine tkA 7 (.int .i64 k) rfl (by kernel_rfl) (fun _ _ _ h => (h : False).elim) (by kernel_rfl) (fun _ => ‹_›) ?_ ?_
      · intro w _; go_simp
      try simp only [ga, gb, gc, Act.put, gd, ge, gf]
      refine tkA 8 (.int .i64 (2 + k)) rfl (by kernel_rfl) (fun _ _ _ h => (h : False).elim) (by kernel_rfl) (fun _ => ‹_›) ?_ ?_
      · intro w _; go_simp
      try simp only [ga, gb, gc, Act.put, gd, ge, gf]
      refine tkA 9 (.pointer (some ⟨b, off + (2 + k), none⟩)) rfl (by kernel_rfl) (fun _ _ _ h => (h : False).elim) (by kernel_rfl) (fun _ => ‹_›) ?_ ?_
      · intro w _; go_simp
      try simp only [ga, gb, gc, Act.put, gd, ge, gf]
      refine tkL 10 (.int .u8 c) rfl (by kernel_rfl) (fun _ _ _ h => (h : False).elim) (by kernel_rfl) ‹_› ?_ ?_
      · intro w hSw
        skip
        go_simp
      try simp only [ga, gb, gc, Act.put, gd, ge, gf]
      refine tkA 11 (.int .u8 m) rfl (by kernel_rfl) (fun _ _ _ h => (h : False).elim) (by kernel_rfl) (fun _ => ‹_›) ?_ ?_
      · intro w _; go_simp
      try simp only [ga, gb, gc, Act.put, gd, ge, gf]
      refine tkA 12 (.int .i64 m) rfl (by kernel_rfl) (fun _ _ _ h => (h : False).elim) (by kernel_rfl) (fun _ => ‹_›) ?_ ?_
      · intro w _; go_simp
      try simp only [ga, gb, gc, Act.put, gd, ge, gf]
      refine tkA 13 (.agg #[.bool d, .int .i64 m, .slice none 0 0]) rfl (by kernel_rfl) (fun _ _ _ h => (h : False).elim) (by kernel_rfl) (fun _ => ‹_›) ?_ ?_
      · intro w _; go_simp
      try simp only [ga, gb, gc, Act.put, gd, ge, gf]
      refine wpAnyL_next (i := 14) (by kernel_rfl) rfl (fun K hK => ?_)
      go_simp
      refine hK.out _ _ ((((Keeps.refl (fun _ => False) wd).alloc _).cell (p := ⟨b, off + (2 + k), none⟩) hbd (fun h => h)).trans hS) (fun hHeld => ?_)
      clear hK K
      try simp only [ga, gb, gc, Act.put, gd, ge, gf]
      refine wpAnyL_late (i := 15) (by kernel_rfl) rfl (by kernel_rfl) (fun K hK => ?_)
      go_simp
      refine hK.out _ _ (fun _ => ?_)
      clear hK K
      try simp only [ga, gb, gc, Act.put, gd, ge, gf]
      refine wpAnyL_done (by kernel_rfl) ?_ _
      refine NoPanic.normal ?_
      clear hS
      obtain ⟨wa, hwa⟩ : ∃ wa, wd.alloc (.cells #[.bool d, .int .i64 m, .slice none 0 0] 40) = wa := ⟨_, rfl⟩
      obtain ⟨g8, hg8⟩ : ∃ g, wd.heap.size = g := ⟨_, rfl⟩
      have hga := heap_alloc_new wd (.cells #[.bool d, .int .i64 m, .slice none 0 0] 40)
      have hka : Keeps (fun _ => False) wd wa := by rw [← hwa]; exact (Keeps.refl _ wd).alloc _
      rw [hwa, hg8] at hga
      rw [hwa]
      try rw [hg8]
      have HG0a := Lib.hid ((hka.block _ (by omega) (fun h => h)).trans HG0d.out)
      have HG1a := Lib.hid ((hka.block _ hwld (fun h => h)).trans HG1d.out)
      have HWa := Lib.hid (knil HWd.out hka)
      have HRa := Lib.hid (rowW_nil HRd.out hka)
      have hwla : w.heap.size + 1 < wa.heap.size := by have := hka.size; omega
      have HRB := Lib.hid (show regB (bt bs (2 + k)) = (d, m, []) by rw [HCC.out]; unfold regB; rw [HD.out, HM.out])
      have c0 := cells_at hga 0
      have c1 := cells_at hga 1
      have c2 := cells_at hga 2
      clear hwa hga hka hg8 HG0d HG1d HWd HRd hwld hbd htm hd hm hw4
      go_wp2_with fail
      refine (rsize16_calls m _).mono ?_; rintro e wz ⟨rfl, hwz⟩
      rw [hwz]
      clear hwz wz
      obtain ⟨s, hs⟩ : ∃ s, sizeR m = s := ⟨_, rfl⟩
      rw [hs]
      have HS := Lib.hid hs
      clear hs
      by_cases hz : s = 0
      · have hsz : (s == 0) = true := by simp [hz]
        have HZ := Lib.hid hz
        clear hz
        have e0 := cells_at HG0a.out 0
        have e1 := cells_at HG0a.out 1
        have e2 := cells_at HG0a.out 2
        have e3 := cells_at HG0a.out 3
        have f0 := two_frozen HG0a.out 0
        have f1 := two_frozen HG0a.out 1
        have f2 := two_frozen HG0a.out 2
        have f3 := two_frozen HG0a.out 3
        go_wp2_with fail
        refine bodyPost_ret (results_hdr rfl _ _ _ _ _ _ _ _ _ rfl (cells_four HG0a.out)) rfl (parsed_bad (n := 7) ?_ (by decide) rfl (keeps_four HWa.out (Nat.le_refl _) _ _ _ _))
        rw [HE.out, HK.out, if_pos (any_of_one bs K k hkl (by rw [HRB.out]; show (sizeR m == 0) = true; rw [HS.out, HZ.out]; rfl))]
      · have hsz : (s == 0) = false := by simp [hz]
        have HZ := Lib.hid hsz
        clear hz
        have d2 := cells_at HG1a.out 2
        have f2 := two_frozen HG1a.out 2
        go_wp2_with (at_builtin; refine wpList_append_own _ rfl _ _ 25 rfl (w.heap.size + 2) 40 i0 (.agg #[.bool false, .int .i64 0, .slice none 0 0]) 3 40 Tryz.underlying25 hi hz0 hz1 hz2 rfl (by decide) _ _ _ rfl (HRa.out.alloc _) ⟨wa.heap.size, 0, none⟩ 1 1 [.bool d, .int .i64 m, .slice none 0 0] rfl rfl ?c1 ?c2 ?c3 ?c4 ?c5 ?_)
        case c1 =>
          intro j u hj
          have hadd : (⟨wa.heap.size, 0, none⟩ : Addr).add j = ⟨wa.heap.size, 0 + j, none⟩ := by unfold Addr.add; split <;> simp_all
          rw [hadd, cell_of_row _ _ _ _ _ _ (heap_alloc_new wa _), Nat.zero_add]
          simpa using hj
        case c2 => first | (intro u hu; simp at hu; rcases hu with rfl | rfl | rfl <;> rfl) | rfl
        case c3 => unfold maxLen; omega
        case c4 => omega
        case c5 => first | omega | (simp; omega)
        intro v2 w2 hown2 hgrow2 _
        have hK2 : Keeps (fun _ => False) w w2 := (HWa.out.alloc _).grown hgrow2 (fun g hg hlt => by have := HRa.out.lt g hg; omega)
        have hKr : Keeps (fun j => some j = (Value.slice ao5 k cap5).ownBlock) wa w2 := ((Keeps.refl _ wa).alloc _).grown hgrow2 (fun g hg _ => hg.symm)
        have hnb : ∀ j, j < w.heap.size + 2 → ¬ some j = (Value.slice ao5 k cap5).ownBlock := fun j hj h => by have := HRa.out.lt j h.symm; omega
        have G1 := Lib.hid ((hKr.block _ hwla (hnb _ (by omega))).trans HG1a.out)
        have G0 := Lib.hid ((hKr.block _ (by omega) (hnb _ (by omega))).trans HG0a.out)
        obtain ⟨ao6, cap6, rfl⟩ := shape_own hown2
        have hown3 : w2.ownsRow (w.heap.size + 2) 40 3 (.slice ao6 (k + 1) cap6) (k + 1) (rcl ((regsB bs K).take (k + 1))) := by rw [regsB_take _ _ _ hkl, rcl_snoc, HRB.out]; exact hown2
        have HO := Lib.hid hown3
        have HK2 := Lib.hid hK2
        have HANY2 := Lib.hid (any_take_snoc bs K k hkl HANY.out (by rw [HRB.out]; show (sizeR m == 0) = false; rw [HS.out]; exact HZ.out))
        clear d2 f2 c0 c1 c2 hown2 hown3 hgrow2 hK2 hKr hnb HWa HRa HG0a HG1a
        have d2 := cells_at G1.out 2
        have f2 := two_frozen G1.out 2
        go_wp2_with fail
        go_roundw
        case rel => exact ⟨k + 1, by omega, by go_num, _, cells_put G1.out 2 _, Lib.hid ((Below.heap_setCell _ _ _ _ (by show w.heap.size ≠ w.heap.size + 1; omega)).trans G0.out), row_set HO.out (by omega) _, Lib.hid (HK2.out.setCell ⟨w.heap.size + 1, 2, none⟩ (fun h => by have : w.heap.size + 1 < w.heap.size := h; omega) _), HANY2⟩
        case measure => simp [intOf]; omega
    · obtain rfl : k = K := by omega
      have hta : (regsB bs k).take k = regsB bs k := List.take_of_length_le (by rw [regsB_length]; omega)
      rw [hta] at HR HANY
      have d0 := cells_at G1.out 0
      have d1 := cells_at G1.out 1
      have d2 := cells_at G1.out 2
      have d3 := cells_at G1.out 3
      have e0 := cells_at G0.out 0
      have e1 := cells_at G0.out 1
      have e2 := cells_at G0.out 2
      have e3 := cells_at G0.out 3
      have f0 := two_frozen G0.out 0
      have f1 := two_frozen G0.out 1
      have f2 := two_frozen G0.out 2
      have f3 := two_frozen G0.out 3
      clear hta
      by_cases hl4 : n < 4 + k
      · have hlI : (n : Int) < 4 + (k : Int) := by omega
        have hlJ : decide ((n : Int) < 4 + (k : Int)) = true := decide_eq_true hlI
        go_wp2_with fail
        refine bodyPost_ret (results_hdr rfl _ _ _ _ _ _ _ _ _ rfl (cells_four G0.out)) rfl (parsed_bad (n := 4) ?_ (by decide) rfl ?_)
        · rw [HE.out, HK.out, if_neg (by rw [HANY.out]; decide), H0.out, if_neg (by decide), if_pos (by rw [← HN.out]; omega)]
        · exact keeps_four HW.out (Nat.le_refl _) _ _ _ _
      · have hlI : ¬ (n : Int) < 4 + (k : Int) := by omega
        have hlJ : decide ((n : Int) < 4 + (k : Int)) = false := decide_eq_false hlI
        obtain ⟨p0, hp0⟩ : ∃ p0, bt bs (2 + k) = p0 := ⟨_, rfl⟩
        obtain ⟨p1, hp1⟩ : ∃ p1, bt bs (3 + k) = p1 := ⟨_, rfl⟩
        have hb0 : IsB p0 := by rw [← hp0]; exact bt_ok HB.out _
        have hb1 : IsB p1 := by rw [← hp1]; exact bt_ok HB.out _
        have cp0 := (HW.out.cell (p := ⟨b, off + (2 + k), none⟩) hb (fun h => h)).trans (HC.out (2 + k) (by omega))
        have cp1 := (HW.out.cell (p := ⟨b, off + (3 + k), none⟩) hb (fun h => h)).trans (HC.out (3 + k) (by omega))
        rw [hp0] at cp0
        rw [hp1] at cp1
        have hpn : ptsN bs = p0 + 256 * p1 := by unfold ptsN; rw [HK.out, hp0, hp1]
        have HPN := Lib.hid hpn
        unfold IsB at hb0 hb1
        obtain ⟨ha0, ha1⟩ := hb0
        obtain ⟨hb0, hb1⟩ := hb1
        have hw2 : IntKind.i64.wrap (2 + (k : Int)) = 2 + (k : Int) := by rw [IntKind.wrap_i64]; omega
        have hw3 : IntKind.i64.wrap (3 + (k : Int)) = 3 + (k : Int) := by rw [IntKind.wrap_i64]; omega
        have hw4 : IntKind.i64.wrap p0 = p0 := by rw [IntKind.wrap_i64]; omega
        have hw5 : IntKind.i64.wrap p1 = p1 := by rw [IntKind.wrap_i64]; omega
        have hw6 : IntKind.i64.wrap (256 * p1) = 256 * p1 := by rw [IntKind.wrap_i64]; omega
        have hw7 : IntKind.i64.wrap (p0 + 256 * p1) = p0 + 256 * p1 := by rw [IntKind.wrap_i64]; omega
        have ht2 : (2 + (k : Int)).toNat = 2 + k := by omega
        have ht3 : (3 + (k : Int)).toNat = 3 + k := by omega
        have hi2 : 2 + (k : Int) < (n : Int) := by omega
        have hi3 : 3 + (k : Int) < (n : Int) := by omega
        have hj2 : (0 : Int) ≤ 2 + (k : Int) := by omega
        have hj3 : (0 : Int) ≤ 3 + (k : Int) := by omega
        clear hp0 hp1 hpn
        go_wp2_with fail
        refine wp_region_late (fun W => W.cell? ⟨b, off + (2 + k), none⟩ = some (.int .u8 p0) ∧ W.cell? ⟨b, off + (3 + k), none⟩ = some (.int .u8 p1)) [15] (by kernel_rfl) ?_
        have hS : wr.drew.cell? ⟨b, off + (2 + k), none⟩ = some (.int .u8 p0) ∧ wr.drew.cell? ⟨b, off + (3 + k), none⟩ = some (.int .u8 p1) := ⟨cp0, cp1⟩
        have HG0d := Lib.hid (show wr.drew.heap[w.heap.size]? = some (.cells #[.int .i64 0, .int .i64 0, .slice none 0 0, .int .i64 0] 27 (0, 0)) from G0.out)
        have HG1d := Lib.hid (show wr.drew.heap[w.heap.size + 1]? = some (.cells #[.int .i64 5, .int .i64 0, .slice ao5 k cap5, .int .i64 0] 27 (0, 0)) from G1.out)
        have HWd := Lib.hid (show Keeps (fun _ => False) w wr.drew from HW.out.drewN 1)
        have HRd := Lib.hid (show wr.drew.ownsRow (w.heap.size + 2) 40 3 (.slice ao5 k cap5) k (rcl (regsB bs k)) from HR.out)
        clear d0 d1 d2 d3 e0 e1 e2 e3 f0 f1 f2 f3 G0 G1 HW HR cp0 cp1 hwlt
        generalize wr.drew = wd at hS HG0d HG1d HWd HRd ⊢
        have d3 := cells_at HG1d.out 3
        have f3 := two_frozen HG1d.out 3
        refine tkA 0 (.slice (some ⟨b, off, none⟩) n cap) rfl (by kernel_rfl) (fun _ _ _ h => (h : False).elim) (by kernel_rfl) (fun _ => ‹_›) ?_ ?_
        · intro w _; go_simp
        try simp only [ga, gb, gc, Act.put, gd, ge, gf]
        refine tkA 1 (.int .i64 k) rfl (by kernel_rfl) (fun _ _ _ h => (h : False).elim) (by kernel_rfl) (fun _ => ‹_›) ?_ ?_
        · intro w _; go_simp
        try simp only [ga, gb, gc, Act.put, gd, ge, gf]
        refine tkA 2 (.int .i64 (2 + k)) rfl (by kernel_rfl) (fun _ _ _ h => (h : False).elim) (by kernel_rfl) (fun _ => ‹_›) ?_ ?_
        · intro w _; go_simp
        try simp only [ga, gb, gc, Act.put, gd, ge, gf]
        refine tkA 3 (.pointer (some ⟨b, off + (2 + k), none⟩)) rfl (by kernel_rfl) (fun _ _ _ h => (h : False).elim) (by kernel_rfl) (fun _ => ‹_›) ?_ ?_
        · intro w _; go_simp
        try simp only [ga, gb, gc, Act.put, gd, ge, gf]
        refine tkL 4 (.int .u8 p0) rfl (by kernel_rfl) (fun _ _ _ h => (h : False).elim) (by kernel_rfl) ‹_› ?_ ?_
        · intro w hSw
          obtain ⟨s0, s1⟩ := hSw
          go_simp
        try simp only [ga, gb, gc, Act.put, gd, ge, gf]
        refine tkA 5 (.int .i64 p0) rfl (by kernel_rfl) (fun _ _ _ h => (h : False).elim) (by kernel_rfl) (fun _ => ‹_›) ?_ ?_
        · intro w _; go_simp
        try simp only [ga, gb, gc, Act.put, gd, ge, gf]
        refine tkA 6 (.slice (some ⟨b, off, none⟩) n cap) rfl (by kernel_rfl) (fun _ _ _ h => (h : False).elim) (by kernel_rfl) (fun _ => ‹_›) ?_ ?_
        · intro w _; go_simp
        try simp only [ga, gb, gc, Act.put, gd, ge, gf]
        refine tkA 7 (.int .i64 k) rfl (by kernel_rfl) (fun _ _ _ h => (h : False).elim) (by kernel_rfl) (fun _ => ‹_›) ?_ ?_
        · intro w _; go_simp
        try simp only [ga, gb, gc, Act.put, gd, ge, gf]
        refine tkA 8 (.int .i64 (3 + k)) rfl (by kernel_rfl) (fun _ _ _ h => (h : False).elim) (by kernel_rfl) (fun _ => ‹_›) ?_ ?_
        · intro w _; go_simp
        try simp only [ga, gb, gc, Act.put, gd, ge, gf]
        refine tkA 9 (.pointer (some ⟨b, off + (3 + k), none⟩)) rfl (by kernel_rfl) (fun _ _ _ h => (h : False).elim) (by kernel_rfl) (fun _ => ‹_›) ?_ ?_
        · intro w _; go_simp
        try simp only [ga, gb, gc, Act.put, gd, ge, gf]
        refine tkL 10 (.int .u8 p1) rfl (by kernel_rfl) (fun _ _ _ h => (h : False).elim) (by kernel_rfl) ‹_› ?_ ?_
        · intro w hSw
          obtain ⟨s0, s1⟩ := hSw
          go_simp
        try simp only [ga, gb, gc, Act.put, gd, ge, gf]
        refine tkA 11 (.int .i64 p1) rfl (by kernel_rfl) (fun _ _ _ h => (h : False).elim) (by kernel_rfl) (fun _ => ‹_›) ?_ ?_
        · intro w _; go_simp
        try simp only [ga, gb, gc, Act.put, gd, ge, gf]
        refine tkA 12 (.int .i64 (256 * p1)) rfl (by kernel_rfl) (fun _ _ _ h => (h : False).elim) (by kernel_rfl) (fun _ => ‹_›) ?_ ?_
        · intro w _; go_simp
        try simp only [ga, gb, gc, Act.put, gd, ge, gf]
        refine tkA 13 (.int .i64 (p0 + 256 * p1)) rfl (by kernel_rfl) (fun _ _ _ h => (h : False).elim) (by kernel_rfl) (fun _ => ‹_›) ?_ ?_
        · intro w _; go_simp
        try simp only [ga, gb, gc, Act.put, gd, ge, gf]
        refine tkA 14 (.pointer (some ⟨w.heap.size + 1, 3, none⟩)) rfl (by kernel_rfl) (fun _ _ _ h => (h : False).elim) (by kernel_rfl) (fun _ => ‹_›) ?_ ?_
        · intro w _; go_simp
        try simp only [ga, gb, gc, Act.put, gd, ge, gf]
        refine wpAnyL_late (i := 15) (by kernel_rfl) rfl (by kernel_rfl) (fun K hK => ?_)
        go_simp
        refine hK.out _ _ (fun _ => ?_)
        clear hK K
        try simp only [ga, gb, gc, Act.put, gd, ge, gf]
        refine wpAnyL_done (by kernel_rfl) ?_ _
        refine NoPanic.normal ?_
        clear hS
        obtain ⟨w3, hw3'⟩ : ∃ w3, wd.setCell ⟨w.heap.size + 1, 3, none⟩ (.int .i64 (p0 + 256 * p1)) = w3 := ⟨_, rfl⟩
        have g1 : w3.heap[w.heap.size + 1]? = some (.cells #[.int .i64 5, .int .i64 0, .slice ao5 k cap5, .int .i64 (p0 + 256 * p1)] 27 (0, 0)) := by rw [← hw3']; exact cells_put HG1d.out 3 _
        have g0 : w3.heap[w.heap.size]? = some (.cells #[.int .i64 0, .int .i64 0, .slice none 0 0, .int .i64 0] 27 (0, 0)) := by rw [← hw3']; exact (Below.heap_setCell _ _ _ _ (by show w.heap.size ≠ w.heap.size + 1; omega)).trans HG0d.out
        have HW3 := Lib.hid (show Keeps (fun _ => False) w w3 by rw [← hw3']; exact HWd.out.setCell ⟨w.heap.size + 1, 3, none⟩ (fun h => by have : w.heap.size + 1 < w.heap.size := h; omega) _)
        have HR3 := Lib.hid (show w3.ownsRow (w.heap.size + 2) 40 3 (.slice ao5 k cap5) k (rcl (regsB bs k)) by rw [← hw3']; exact row_set HRd.out (by omega) _)
        rw [hw3']
        clear hw3' d3 f3 HG1d HG0d HWd HRd
        have hq0 : 0 ≤ p0 + 256 * p1 := by omega
        have hql : p0 + 256 * p1 ≤ 65535 := by omega
        clear ha0 ha1 hb0 hb1 hw4 hw5 hw6 hw7
        obtain ⟨q, hq⟩ : ∃ q, p0 + 256 * p1 = q := ⟨_, rfl⟩
        rw [hq] at g1 HPN hq0 hql ⊢
        clear hq
        have d0 := cells_at g1 0
        have d1 := cells_at g1 1
        have d2 := cells_at g1 2
        have d3 := cells_at g1 3
        have e0 := cells_at g0 0
        have e1 := cells_at g0 1
        have e2 := cells_at g0 2
        have e3 := cells_at g0 3
        have f0 := two_frozen g0 0
        have f1 := two_frozen g0 1
        have f2 := two_frozen g0 2
        have f3 := two_frozen g0 3
        have G0 := Lib.hid g0
        have G1 := Lib.hid g1
        have hE5 := Lib.hid (show parE bs = if 1 ≤ q ∧ q ≤ 4096 then 0 else 6 by rw [HE.out, HK.out, if_neg (by rw [HANY.out]; decide), H0.out, if_neg (by decide), if_neg (by rw [← HN.out]; omega), HPN.out])
        clear g0 g1
        by_cases hq1 : q < 1
        · have HEE := Lib.hid (show parE bs = 6 by rw [hE5.out, if_neg (by omega)])
          have hqd1 : decide (q < 1) = true := decide_eq_true hq1
          clear hq1
          go_wp2_with fail
          exact bodyPost_ret (results_hdr rfl _ _ _ _ _ _ _ _ _ rfl (cells_four G0.out)) rfl (parsed_bad (n := 6) HEE.out (by decide) rfl (keeps_four HW3.out (Nat.le_refl _) _ _ _ _))
        by_cases hq2 : 4096 < q
        · have HEE := Lib.hid (show parE bs = 6 by rw [hE5.out, if_neg (by omega)])
          have hqd1 : decide (q < 1) = false := decide_eq_false hq1
          have hqd2 : decide (4096 < q) = true := decide_eq_true hq2
          clear hq1 hq2
          go_wp2_with fail
          exact bodyPost_ret (results_hdr rfl _ _ _ _ _ _ _ _ _ rfl (cells_four G0.out)) rfl (parsed_bad (n := 6) HEE.out (by decide) rfl (keeps_four HW3.out (Nat.le_refl _) _ _ _ _))
        have hE : parE bs = 0 := by rw [hE5.out, if_pos ⟨by omega, by omega⟩]
        have HEE := Lib.hid hE
        have hw7 : IntKind.i64.wrap (4 + (k : Int)) = 4 + (k : Int) := by rw [IntKind.wrap_i64]; omega
        have hqd1 : decide (q < 1) = false := decide_eq_false hq1
        have hqd2 : decide (4096 < q) = false := decide_eq_false hq2
        clear hq1 hq2 hE
        go_wp2_with fail
        refine bodyPost_ret (results_hdr rfl _ _ _ _ _ _ _ _ _ rfl (cells_four G0.out)) rfl ?_
        have hE := HEE.out
        refine ⟨⟨.agg #[.int .i64 5, .int .i64 0, .slice ao5 k cap5, .int .i64 q], ?_, ?_, hdFresh_row HR3.out _ _ _⟩, keeps_four HW3.out (Nat.le_refl _) _ _ _ _⟩
        · rw [hE, show (parN bs : Int) = 4 + k by unfold parN; rw [if_neg (by rw [hE]; decide), H0.out, if_neg (by decide), if_neg (by decide), if_neg (by decide), HK.out]; omega]; rfl
        · rw [show parH bs = ⟨5, 0, regsB bs k, q⟩ by unfold parH; rw [if_neg (by rw [hE]; decide), H0.out, if_neg (by decide), if_pos (by decide), if_pos rfl, HK.out, HPN.out]]
          refine ⟨ao5, cap5, by simp only [regsB_length], ?_, fun h => ?_⟩
          · rw [regsB_length]; exact regsAt_row (row_set (row_set (row_set (row_set HR3.out (by omega) _) (by omega) _) (by omega) _) (by omega) _) (regsB_length _ _).symm (regsB_empty _ _)
          · have := congrArg List.length h
            rw [regsB_length] at this
            simp at this
            omega
theorem rparse_calls (v : Value) (bs : List Int) (w : World) (hv : byAt w v bs) : Calls Tryz.prog 10 #[v] w (Parsed w (parH bs) (parN bs) (parE bs)) := by
  obtain ⟨hB, hv⟩ := hv
  rcases hv with ⟨rfl, ao, cap, rfl⟩ | ⟨b, off, cap, rfl, hcap, hb, hc⟩
  · exact rparse_empty ao cap w
  by_cases hl1 : bs.length < 1
  · rw [List.eq_nil_of_length_eq_zero (show bs.length = 0 by omega)]
    exact rparse_empty _ cap w
  have c0 := hc 0 (by omega)
  rw [Nat.add_zero] at c0
  have hx := bt_ok hB 0
  by_cases h15 : bt bs 0 < 1 ∨ 5 < bt bs 0
  · exact rparse_op b off _ cap bs (bt bs 0) hx h15 (by unfold parE; rw [if_neg hl1, if_pos h15]) rfl (by omega) w hb c0
  by_cases h2 : bt bs 0 < 3
  · have hE : parE bs = 0 := by unfold parE; rw [if_neg hl1, if_neg h15, if_pos h2]
    rcases (show bt bs 0 = 1 ∨ bt bs 0 = 2 by omega) with h | h
    · rw [h] at c0; exact rparse_p1 b off _ cap bs hE h (by omega) w hb c0
    · rw [h] at c0; exact rparse_p2 b off _ cap bs hE h (by omega) w hb c0
  by_cases hl2 : bs.length < 2
  · have hE : parE bs = 4 := by unfold parE; rw [if_neg hl1, if_neg h15, if_neg h2, if_pos hl2]
    rcases (show bt bs 0 = 3 ∨ bt bs 0 = 4 ∨ bt bs 0 = 5 by omega) with h | h | h
    · rw [h] at c0; exact rparse_c3 b off _ cap bs hE h (by omega) w hb c0
    · rw [h] at c0; exact rparse_c4 b off _ cap bs hE h (by omega) w hb c0
    · rw [h] at c0; exact rparse_c5 b off _ cap bs hE h (by omega) w hb c0
  have c1 := hc 1 (by omega)
  have hy := bt_ok hB 1
  by_cases h3 : bt bs 0 = 3
  · rw [h3] at c0
    by_cases hk1 : bt bs 1 < 3
    · exact rparse_l3 b off _ cap bs _ hy rfl hk1 (by unfold parE; rw [if_neg hl1, if_neg h15, if_neg h2, if_neg hl2, if_pos h3, if_pos (.inl hk1)]) h3 (by omega) w hb c0 c1
    by_cases hk2 : 64 < bt bs 1
    · exact rparse_g3 b off _ cap bs _ hy rfl hk2 (by unfold parE; rw [if_neg hl1, if_neg h15, if_neg h2, if_neg hl2, if_pos h3, if_pos (.inr hk2)]) h3 (by omega) w hb c0 c1
    exact rparse_p3 b off _ cap bs _ hy rfl (by omega) (by omega) (by unfold parE; rw [if_neg hl1, if_neg h15, if_neg h2, if_neg hl2, if_pos h3, if_neg (by omega)]) h3 (by omega) w hb c0 c1
  have h45 : bt bs 0 = 4 ∨ bt bs 0 = 5 := by omega
  by_cases hk1 : bt bs 1 < 1
  · have hE : parE bs = 6 := by unfold parE; rw [if_neg hl1, if_neg h15, if_neg h2, if_neg hl2, if_neg h3, if_pos (.inl hk1)]
    rcases h45 with h | h
    · rw [h] at c0; exact rparse_l4 b off _ cap bs _ hy rfl hk1 hE h (by omega) w hb c0 c1
    · rw [h] at c0; exact rparse_l5 b off _ cap bs _ hy rfl hk1 hE h (by omega) w hb c0 c1
  by_cases hk2 : 64 < bt bs 1
  · have hE : parE bs = 6 := by unfold parE; rw [if_neg hl1, if_neg h15, if_neg h2, if_neg hl2, if_neg h3, if_pos (.inr hk2)]
    rcases h45 with h | h
    · rw [h] at c0; exact rparse_g4 b off _ cap bs _ hy rfl hk2 hE h (by omega) w hb c0 c1
    · rw [h] at c0; exact rparse_g5 b off _ cap bs _ hy rfl hk2 hE h (by omega) w hb c0 c1
  by_cases hsh : bs.length < 2 + parK bs
  · have hE : parE bs = 4 := by unfold parE; rw [if_neg hl1, if_neg h15, if_neg h2, if_neg hl2, if_neg h3, if_neg (by omega), if_pos hsh]
    have hs' : (bs.length : Int) < 2 + bt bs 1 := by unfold parK at hsh; omega
    rcases h45 with h | h
    · rw [h] at c0; exact rparse_t4 b off _ cap bs _ hy rfl (by omega) (by omega) hs' hE h (by omega) w hb c0 c1
    · rw [h] at c0; exact rparse_t5 b off _ cap bs _ hy rfl (by omega) (by omega) hs' hE h (by omega) w hb c0 c1
  rcases h45 with h | h
  · exact rparse_s4 b off _ cap bs hB rfl hcap ⟨by omega, by omega⟩ (by omega) h w hb hc
  · exact rparse_s5 b off _ cap bs hB rfl hcap ⟨by omega, by omega⟩ (by omega) h w hb hc
end Go.Proofs.YtmoajobnhiopiaaGreatDoor.sv
set_option linter.unusedSimpArgs false
set_option linter.unusedVariables false
namespace Go.Proofs.YtmoajobnhiopiaaGreatDoor.sv
open Go Go.RowKit Go.Shelf Go.Maps Go.Proofs.YtmoajobnhiopiaaGreatDoor.mk Go.Proofs.YtmoajobnhiopiaaGreatDoor.tp Go.Proofs.YtmoajobnhiopiaaGreatDoor.rg Go.Proofs.YtmoajobnhiopiaaGreatDoor.lm Go.Proofs.YtmoajobnhiopiaaGreatDoor.gm Go.Proofs.YtmoajobnhiopiaaGreatDoor.po
open List renaming getElem_toArray → ga, getElem_cons_zero → gb, getElem_cons_succ → gc, setIfInBounds_toArray → gd, set_cons_zero → ge, set_cons_succ → gf
set_option maxRecDepth 100000 in
set_option maxHeartbeats 4000000 in
theorem rpoints_calls (xo xv xp : Int) (ao : Option Addr) (n cap : Nat) (l : List Reg) (hn : l.length = n) (h64 : n ≤ 64) (w : World) (hr : regsAt w (.slice ao n cap) l) :
    Calls Tryz.prog 63 #[.agg #[.int .i64 xo, .int .i64 xv, .slice ao n cap, .int .i64 xp]] w fun e w' => e = .returned (.int .i64 (totR l)) ∧ Keeps (fun _ => False) w w' := by
  have HR := Lib.hid hr
  have HN := Lib.hid hn
  clear hr hn
  go_enter Tryz.func63, Tryz.ntmps63
  go_upto_region 1 with fail
  obtain ⟨w1, hw1⟩ : ∃ w1, w.alloc (.cells #[.int .i64 xo, .int .i64 xv, .slice ao n cap, .int .i64 xp] 27) = w1 := ⟨_, rfl⟩
  obtain ⟨g1, hg1⟩ : ∃ g, w.heap.size = g := ⟨_, rfl⟩
  have hg := heap_alloc_new w (.cells #[.int .i64 xo, .int .i64 xv, .slice ao n cap, .int .i64 xp] 27)
  have hk1 : Keeps (fun _ => False) w w1 := by rw [← hw1]; exact (Keeps.refl _ w).alloc _
  rw [hw1, hg1] at hg
  rw [hw1]
  try rw [hg1]
  have hl1 : g1 < w1.heap.size := (Array.getElem?_eq_some_iff.1 hg).1
  have HGB := Lib.hid hg
  clear hw1 hg1 hg
  go_wp2_with fail
  go_loopw [3, 4] (fun s i wr => ∃ k : Nat, k ≤ n ∧ i = .int .i64 k ∧ s = .int .i64 (totR (l.take k)) ∧ RowKit.Hid (Keeps (fun _ => False) w1 wr)) (fun _ i _ => n - (intOf i).toNat)
  case atStart => exact ⟨0, Nat.zero_le _, rfl, rfl, Lib.hid (Keeps.refl _ _)⟩
  case round =>
    obtain ⟨k, hk, rfl, rfl, HW⟩ := hrel
    have hkw := knil hk1 HW.out
    have hg := (HW.out.block _ hl1 (fun h => h)).trans HGB.out
    have c0 := cells_at hg 0
    have c1 := cells_at hg 1
    have c2 := cells_at hg 2
    have c3 := cells_at hg 3
    clear hg
    by_cases hkl : k < n
    · have hkI : (k : Int) < (n : Int) := by omega
      have hk0 : (0 : Int) ≤ (k : Int) := by omega
      have hkL : k < l.length := by rw [HN.out]; exact hkl
      obtain ⟨br, orr, har, hr1⟩ : ∃ br orr, ao = some ⟨br, orr, none⟩ ∧ regC wr br (orr + k * 3) (rg l k) := by
        rcases HR.out.kept hkw with ⟨h0, _⟩ | ⟨b, o, c, he, hb, hc⟩
        · rw [h0] at hkL; cases hkL
        · injection he with h1 h2 h3
          exact ⟨b, o, h1, hc k hkL⟩
      subst har
      obtain ⟨e0, e1, an, ln, cn, e2, hpn⟩ := hr1
      have hB1 := totR_bound (l.take k)
      have hB2 := sizeR_bound (rg l k).2.1
      have hlt : (l.take k).length ≤ 64 := by rw [List.length_take]; omega
      have hT : totR (l.take (k + 1)) = totR (l.take k) + sizeR (rg l k).2.1 := totR_step hkL
      clear hpn
      go_wp2_with fail
      refine (rsize16_calls _ _).mono ?_; rintro e wz ⟨rfl, hwz⟩
      rw [hwz]
      clear hwz e0 e1 e2 c0 c1 c2 c3
      go_wp2_with fail
      go_roundw
      case rel => exact ⟨k + 1, by omega, by go_num, by rw [hT], HW⟩
      case measure => simp [intOf]; omega
    · obtain rfl : n = k := by omega
      have hta : l.take n = l := List.take_of_length_le (by rw [HN.out]; exact Nat.le_refl _)
      rw [hta]
      go_wp2_with fail
      go_ret
      exact ⟨rfl, hkw⟩
set_option maxRecDepth 100000 in
set_option maxHeartbeats 4000000 in
theorem rpayload_1 (ao : Option Addr) (n cap : Nat) (w : World) : Calls Tryz.prog 35 #[.agg #[.int .i64 1, .int .i64 0, .slice ao n cap, .int .i64 0]] w fun e w' => e = .returned (.int .i64 (48)) ∧ Keeps (fun _ => False) w w' := by
  go_enter Tryz.func35, Tryz.ntmps35
  go_upto_region 1 with fail
  obtain ⟨w1, hw1⟩ : ∃ w1, w.alloc (.cells #[.int .i64 1, .int .i64 0, .slice ao n cap, .int .i64 0] 27) = w1 := ⟨_, rfl⟩
  obtain ⟨g1, hg1⟩ : ∃ g, w.heap.size = g := ⟨_, rfl⟩
  have hg := heap_alloc_new w (.cells #[.int .i64 1, .int .i64 0, .slice ao n cap, .int .i64 0] 27)
  have hk1 : Keeps (fun _ => False) w w1 := by rw [← hw1]; exact (Keeps.refl _ w).alloc _
  rw [hw1, hg1] at hg
  rw [hw1]
  try rw [hg1]
  have hl1 : g1 < w1.heap.size := (Array.getElem?_eq_some_iff.1 hg).1
  have HGB := Lib.hid hg
  have c0 := cells_at hg 0
  have c1 := cells_at hg 1
  have c2 := cells_at hg 2
  have c3 := cells_at hg 3
  clear hw1 hg1 hg
  go_wp2_with fail
  go_ret
  exact ⟨rfl, hk1⟩
set_option maxRecDepth 100000 in
set_option maxHeartbeats 4000000 in
theorem rpayload_2 (ao : Option Addr) (n cap : Nat) (w : World) : Calls Tryz.prog 35 #[.agg #[.int .i64 2, .int .i64 0, .slice ao n cap, .int .i64 0]] w fun e w' => e = .returned (.int .i64 (64)) ∧ Keeps (fun _ => False) w w' := by
  go_enter Tryz.func35, Tryz.ntmps35
  go_upto_region 1 with fail
  obtain ⟨w1, hw1⟩ : ∃ w1, w.alloc (.cells #[.int .i64 2, .int .i64 0, .slice ao n cap, .int .i64 0] 27) = w1 := ⟨_, rfl⟩
  obtain ⟨g1, hg1⟩ : ∃ g, w.heap.size = g := ⟨_, rfl⟩
  have hg := heap_alloc_new w (.cells #[.int .i64 2, .int .i64 0, .slice ao n cap, .int .i64 0] 27)
  have hk1 : Keeps (fun _ => False) w w1 := by rw [← hw1]; exact (Keeps.refl _ w).alloc _
  rw [hw1, hg1] at hg
  rw [hw1]
  try rw [hg1]
  have hl1 : g1 < w1.heap.size := (Array.getElem?_eq_some_iff.1 hg).1
  have HGB := Lib.hid hg
  have c0 := cells_at hg 0
  have c1 := cells_at hg 1
  have c2 := cells_at hg 2
  have c3 := cells_at hg 3
  clear hw1 hg1 hg
  go_wp2_with fail
  go_ret
  exact ⟨rfl, hk1⟩
set_option maxRecDepth 100000 in
set_option maxHeartbeats 4000000 in
theorem rpayload_3 (ao : Option Addr) (n cap : Nat) (vt : Int) (hv3 : 3 ≤ vt) (hv64 : vt ≤ 64) (w : World) : Calls Tryz.prog 35 #[.agg #[.int .i64 3, .int .i64 vt, .slice ao n cap, .int .i64 0]] w fun e w' => e = .returned (.int .i64 (16 * (vt + 1))) ∧ Keeps (fun _ => False) w w' := by
  have hw2 : IntKind.i64.wrap (vt + 1) = vt + 1 := by rw [IntKind.wrap_i64]; omega
  have hw3 : IntKind.i64.wrap (16 * (vt + 1)) = 16 * (vt + 1) := by rw [IntKind.wrap_i64]; omega
  go_enter Tryz.func35, Tryz.ntmps35
  go_upto_region 1 with fail
  obtain ⟨w1, hw1⟩ : ∃ w1, w.alloc (.cells #[.int .i64 3, .int .i64 vt, .slice ao n cap, .int .i64 0] 27) = w1 := ⟨_, rfl⟩
  obtain ⟨g1, hg1⟩ : ∃ g, w.heap.size = g := ⟨_, rfl⟩
  have hg := heap_alloc_new w (.cells #[.int .i64 3, .int .i64 vt, .slice ao n cap, .int .i64 0] 27)
  have hk1 : Keeps (fun _ => False) w w1 := by rw [← hw1]; exact (Keeps.refl _ w).alloc _
  rw [hw1, hg1] at hg
  rw [hw1]
  try rw [hg1]
  have hl1 : g1 < w1.heap.size := (Array.getElem?_eq_some_iff.1 hg).1
  have HGB := Lib.hid hg
  have c0 := cells_at hg 0
  have c1 := cells_at hg 1
  have c2 := cells_at hg 2
  have c3 := cells_at hg 3
  clear hw1 hg1 hg
  go_wp2_with fail
  go_ret
  exact ⟨rfl, hk1⟩
set_option maxRecDepth 100000 in
set_option maxHeartbeats 4000000 in
theorem rpayload_4 (ao : Option Addr) (n cap : Nat) (l : List Reg) (hn : l.length = n) (h64 : n ≤ 64) (w : World) (hr : regsAt w (.slice ao n cap) l) : Calls Tryz.prog 35 #[.agg #[.int .i64 4, .int .i64 0, .slice ao n cap, .int .i64 0]] w fun e w' => e = .returned (.int .i64 (16 * (totR l + 1))) ∧ Keeps (fun _ => False) w w' := by
  have hB := totR_bound l
  have hPT := fun W (hk : Keeps (fun _ => False) w W) => rpoints_calls 4 0 0 ao n cap l hn h64 W (hr.kept hk)
  have HPT := Lib.hid hPT
  rw [hn] at hB
  clear hPT hr hn
  have hw2 : IntKind.i64.wrap (totR l + 1) = totR l + 1 := by rw [IntKind.wrap_i64]; omega
  have hw3 : IntKind.i64.wrap (16 * (totR l + 1)) = 16 * (totR l + 1) := by rw [IntKind.wrap_i64]; omega
  go_enter Tryz.func35, Tryz.ntmps35
  go_upto_region 1 with fail
  obtain ⟨w1, hw1⟩ : ∃ w1, w.alloc (.cells #[.int .i64 4, .int .i64 0, .slice ao n cap, .int .i64 0] 27) = w1 := ⟨_, rfl⟩
  obtain ⟨g1, hg1⟩ : ∃ g, w.heap.size = g := ⟨_, rfl⟩
  have hg := heap_alloc_new w (.cells #[.int .i64 4, .int .i64 0, .slice ao n cap, .int .i64 0] 27)
  have hk1 : Keeps (fun _ => False) w w1 := by rw [← hw1]; exact (Keeps.refl _ w).alloc _
  rw [hw1, hg1] at hg
  rw [hw1]
  try rw [hg1]
  have hl1 : g1 < w1.heap.size := (Array.getElem?_eq_some_iff.1 hg).1
  have HGB := Lib.hid hg
  have c0 := cells_at hg 0
  have c1 := cells_at hg 1
  have c2 := cells_at hg 2
  have c3 := cells_at hg 3
  clear hw1 hg1 hg
  go_wp2_with fail
  refine (HPT.out w1 hk1).mono ?_; rintro e w2 ⟨rfl, hk2⟩
  go_wp2_with fail
  go_ret
  exact ⟨rfl, knil hk1 hk2⟩
set_option maxRecDepth 100000 in
set_option maxHeartbeats 4000000 in
theorem rpayload_5 (ao : Option Addr) (n cap : Nat) (l : List Reg) (pts : Int) (hn : l.length = n) (h64 : n ≤ 64) (hp1 : 1 ≤ pts) (hp2 : pts ≤ 4096) (w : World) (hr : regsAt w (.slice ao n cap) l) : Calls Tryz.prog 35 #[.agg #[.int .i64 5, .int .i64 0, .slice ao n cap, .int .i64 pts]] w fun e w' => e = .returned (.int .i64 (16 * totR l + 24 * pts)) ∧ Keeps (fun _ => False) w w' := by
  have hB := totR_bound l
  have hPT := fun W (hk : Keeps (fun _ => False) w W) => rpoints_calls 5 0 pts ao n cap l hn h64 W (hr.kept hk)
  have HPT := Lib.hid hPT
  rw [hn] at hB
  clear hPT hr hn
  have hw2 : IntKind.i64.wrap (16 * totR l) = 16 * totR l := by rw [IntKind.wrap_i64]; omega
  have hw3 : IntKind.i64.wrap (24 * pts) = 24 * pts := by rw [IntKind.wrap_i64]; omega
  have hw4 : IntKind.i64.wrap (16 * totR l + 24 * pts) = 16 * totR l + 24 * pts := by rw [IntKind.wrap_i64]; omega
  go_enter Tryz.func35, Tryz.ntmps35
  go_upto_region 1 with fail
  obtain ⟨w1, hw1⟩ : ∃ w1, w.alloc (.cells #[.int .i64 5, .int .i64 0, .slice ao n cap, .int .i64 pts] 27) = w1 := ⟨_, rfl⟩
  obtain ⟨g1, hg1⟩ : ∃ g, w.heap.size = g := ⟨_, rfl⟩
  have hg := heap_alloc_new w (.cells #[.int .i64 5, .int .i64 0, .slice ao n cap, .int .i64 pts] 27)
  have hk1 : Keeps (fun _ => False) w w1 := by rw [← hw1]; exact (Keeps.refl _ w).alloc _
  rw [hw1, hg1] at hg
  rw [hw1]
  try rw [hg1]
  have hl1 : g1 < w1.heap.size := (Array.getElem?_eq_some_iff.1 hg).1
  have HGB := Lib.hid hg
  have c0 := cells_at hg 0
  have c1 := cells_at hg 1
  have c2 := cells_at hg 2
  have c3 := cells_at hg 3
  clear hw1 hg1 hg
  go_wp2_with fail
  refine wp_region_late (fun W => W.cell? ⟨g1, 0, none⟩ = some (.int .i64 5) ∧ W.cell? ⟨g1, 1, none⟩ = some (.int .i64 0) ∧ W.cell? ⟨g1, 2, none⟩ = some (.slice ao n cap) ∧ W.cell? ⟨g1, 3, none⟩ = some (.int .i64 pts)) [] (by kernel_rfl) ?_
  have hS : w1.drew.cell? ⟨g1, 0, none⟩ = some (.int .i64 5) ∧ w1.drew.cell? ⟨g1, 1, none⟩ = some (.int .i64 0) ∧ w1.drew.cell? ⟨g1, 2, none⟩ = some (.slice ao n cap) ∧ w1.drew.cell? ⟨g1, 3, none⟩ = some (.int .i64 pts) := ⟨c0, c1, c2, c3⟩
  have hkd : Keeps (fun _ => False) w1 w1.drew := (Keeps.refl _ w1).drewN 1
  have hl1 : g1 < w1.drew.heap.size := hl1
  clear c0 c1 c2 c3
  generalize w1.drew = wd at hS hkd hl1 ⊢
  refine tkL 0 (.agg #[.int .i64 5, .int .i64 0, .slice ao n cap, .int .i64 pts]) rfl (by kernel_rfl) (fun _ _ _ h => (h : False).elim) (by kernel_rfl) ‹_› ?_ ?_
  · intro w hSw
    obtain ⟨s0, s1, s2, s3⟩ := hSw
    go_simp
  try simp only [ga, gb, gc, Act.put, gd, ge, gf]
  refine tkA 3 (.pointer (some ⟨g1, 3, none⟩)) rfl (by kernel_rfl) (fun _ _ _ h => (h : False).elim) (by kernel_rfl) (fun _ => ‹_›) ?_ ?_
  · intro w _; go_simp
  try simp only [ga, gb, gc, Act.put, gd, ge, gf]
  refine tkL 4 (.int .i64 pts) rfl (by kernel_rfl) (fun _ _ _ h => (h : False).elim) (by kernel_rfl) ‹_› ?_ ?_
  · intro w hSw
    obtain ⟨s0, s1, s2, s3⟩ := hSw
    go_simp
  try simp only [ga, gb, gc, Act.put, gd, ge, gf]
  refine tkA 5 (.int .i64 (24 * pts)) rfl (by kernel_rfl) (fun _ _ _ h => (h : False).elim) (by kernel_rfl) (fun _ => ‹_›) ?_ ?_
  · intro w _; go_simp
  try simp only [ga, gb, gc, Act.put, gd, ge, gf]
  refine wpAnyL_next (i := 1) (by kernel_rfl) rfl (fun K hK => ?_)
  go_simp
  refine (HPT.out wd (knil hk1 hkd)).mono ?_; rintro e w2 ⟨rfl, hk2⟩
  go_wp2_with fail
  refine hK.out _ _ ⟨(hk2.cell (p := ⟨g1, 0, none⟩) hl1 (fun h => h)).trans hS.1, (hk2.cell (p := ⟨g1, 1, none⟩) hl1 (fun h => h)).trans hS.2.1, (hk2.cell (p := ⟨g1, 2, none⟩) hl1 (fun h => h)).trans hS.2.2.1, (hk2.cell (p := ⟨g1, 3, none⟩) hl1 (fun h => h)).trans hS.2.2.2⟩ (fun hHeld => ?_)
  clear hK K
  try simp only [ga, gb, gc, Act.put, gd, ge, gf]
  refine tkA 2 (.int .i64 (16 * totR l)) rfl (by kernel_rfl) (fun _ _ _ h => (h : False).elim) (by kernel_rfl) (fun _ => ‹_›) ?_ ?_
  · intro w _; go_simp
  try simp only [ga, gb, gc, Act.put, gd, ge, gf]
  refine tkA 6 (.int .i64 (16 * totR l + 24 * pts)) rfl (by kernel_rfl) (fun _ _ _ h => (h : False).elim) (by kernel_rfl) (fun _ => ‹_›) ?_ ?_
  · intro w _; go_simp
  try simp only [ga, gb, gc, Act.put, gd, ge, gf]
  refine tkA 7 (.int .i64 (16 * totR l + 24 * pts)) rfl (by kernel_rfl) (fun _ _ _ h => (h : False).elim) (by kernel_rfl) (fun _ => ‹_›) ?_ ?_
  · intro w _; go_simp
  try simp only [ga, gb, gc, Act.put, gd, ge, gf]
  refine wpAnyL_done (by kernel_rfl) ?_ _
  refine NoPanic.normal ?_
  clear hS
  go_wp2_with fail
  go_ret
  exact ⟨rfl, knil (knil hk1 hkd) hk2⟩
theorem rpayload_calls (v : Value) (h : Hd) (ho : HdOk h) (w : World) (hv : HdAt w v h) : Calls Tryz.prog 35 #[v] w fun e w' => e = .returned (.int .i64 (payH h)) ∧ Keeps (fun _ => False) w w' := by
  obtain ⟨ao, cap, rfl, hr, hnil⟩ := hv
  obtain ⟨op, vt, rs, pts⟩ := h
  rcases ho with ⟨h1 | h1, h2, h3, h4⟩ | ⟨h1, ⟨h2, h2'⟩, h3, h4⟩ | ⟨⟨h1, h4⟩ | ⟨h1, h4, h4'⟩, h2, ⟨h3, h3'⟩, h5, h6⟩
  · simp only at h1 h2 h3 h4; subst h1; subst h2; subst h4; exact rpayload_1 ao _ cap w
  · simp only at h1 h2 h3 h4; subst h1; subst h2; subst h4; exact rpayload_2 ao _ cap w
  · simp only at h1 h2 h2' h3 h4; subst h1; subst h4; exact rpayload_3 ao _ cap vt h2 h2' w
  · simp only at h1 h2 h3 h3' h4; subst h1; subst h2; subst h4; exact rpayload_4 ao _ cap rs rfl h3' w hr
  · simp only at h1 h2 h3 h3' h4 h4'; subst h1; subst h2; exact rpayload_5 ao _ cap rs pts rfl h3' h4 h4' w hr
end Go.Proofs.YtmoajobnhiopiaaGreatDoor.sv
set_option linter.unusedSimpArgs false
set_option linter.unusedVariables false
namespace Go.Proofs.YtmoajobnhiopiaaGreatDoor.sv
open Go Go.RowKit Go.Shelf Go.Maps Go.Proofs.YtmoajobnhiopiaaGreatDoor.mk Go.Proofs.YtmoajobnhiopiaaGreatDoor.tp Go.Proofs.YtmoajobnhiopiaaGreatDoor.rg Go.Proofs.YtmoajobnhiopiaaGreatDoor.lm Go.Proofs.YtmoajobnhiopiaaGreatDoor.gm Go.Proofs.YtmoajobnhiopiaaGreatDoor.po
def Grew (w : World) (v v' : Value) (w' : World) : Prop := Keeps (fun j => some j = v.ownBlock) w w' ∧ (v'.ownBlock = v.ownBlock ∨ ∃ j, v'.ownBlock = some j ∧ w.heap.size ≤ j)
theorem Grew.refl (w : World) (v : Value) : Grew w v v w := ⟨Keeps.refl _ _, .inl rfl⟩
theorem Grew.trans {w w1 w2 : World} {v v1 v2 : Value} (h : Grew w v v1 w1) (k : Grew w1 v1 v2 w2) : Grew w v v2 w2 := by
  have hs := h.1.size
  refine ⟨h.1.trans k.1 (fun i hi hh => ?_), ?_⟩
  · rcases h.2 with h2 | ⟨j, h2, hj⟩
    · rw [hh, h2]
    · rw [h2] at hh; injection hh with hh; omega
  · rcases k.2 with k2 | ⟨j, k2, hj⟩
    · rw [k2]; exact h.2
    · exact .inr ⟨j, k2, Nat.le_trans hs hj⟩
end Go.Proofs.YtmoajobnhiopiaaGreatDoor.sv
set_option linter.unusedSimpArgs false
set_option linter.unusedVariables false
namespace Go.Proofs.YtmoajobnhiopiaaGreatDoor.sv
open Go Go.RowKit Go.Shelf Go.Maps Go.Proofs.YtmoajobnhiopiaaGreatDoor.mk Go.Proofs.YtmoajobnhiopiaaGreatDoor.tp Go.Proofs.YtmoajobnhiopiaaGreatDoor.rg Go.Proofs.YtmoajobnhiopiaaGreatDoor.lm Go.Proofs.YtmoajobnhiopiaaGreatDoor.gm Go.Proofs.YtmoajobnhiopiaaGreatDoor.po
open List renaming getElem_toArray → ga, getElem_cons_zero → gb, getElem_cons_succ → gc, setIfInBounds_toArray → gd, set_cons_zero → ge, set_cons_succ → gf
set_option maxRecDepth 100000 in
theorem rcounts_4 (xv p0 : Int) (ao : Option Addr) (n cap : Nat) (w : World) : Calls Tryz.prog 56 #[.agg #[.int .i64 4, .int .i64 xv, .slice ao n cap, .int .i64 p0]] w fun e w' => e = .returned (.tuple #[.int .i64 (1), .int .i64 (0)]) ∧ Keeps (fun _ => False) w w' := by
  obtain ⟨w1, hw1⟩ : ∃ w1, w.alloc (.cells #[.int .i64 4, .int .i64 xv, .slice ao n cap, .int .i64 p0] 27) = w1 := ⟨_, rfl⟩
  have hg := heap_alloc_new w (.cells #[.int .i64 4, .int .i64 xv, .slice ao n cap, .int .i64 p0] 27)
  have hk1 : Keeps (fun _ => False) w w1 := by rw [← hw1]; exact (Keeps.refl _ w).alloc _
  rw [hw1] at hg
  have c0 := cells_at hg 0
  have c1 := cells_at hg 1
  have c2 := cells_at hg 2
  have c3 := cells_at hg 3
  go_enter Tryz.func56, Tryz.ntmps56
  go_upto_region 1 with fail
  try rw [hw1]
  clear hw1 hg
  go_wp2_with fail
  refine bodyPost_ret (results_two rfl _ _ _) rfl ⟨rfl, hk1⟩
set_option maxRecDepth 100000 in
theorem rcounts_5 (xv pts : Int) (ao : Option Addr) (n cap : Nat) (w : World) : Calls Tryz.prog 56 #[.agg #[.int .i64 5, .int .i64 xv, .slice ao n cap, .int .i64 pts]] w fun e w' => e = .returned (.tuple #[.int .i64 (0), .int .i64 (pts)]) ∧ Keeps (fun _ => False) w w' := by
  obtain ⟨w1, hw1⟩ : ∃ w1, w.alloc (.cells #[.int .i64 5, .int .i64 xv, .slice ao n cap, .int .i64 pts] 27) = w1 := ⟨_, rfl⟩
  have hg := heap_alloc_new w (.cells #[.int .i64 5, .int .i64 xv, .slice ao n cap, .int .i64 pts] 27)
  have hk1 : Keeps (fun _ => False) w w1 := by rw [← hw1]; exact (Keeps.refl _ w).alloc _
  rw [hw1] at hg
  have c0 := cells_at hg 0
  have c1 := cells_at hg 1
  have c2 := cells_at hg 2
  have c3 := cells_at hg 3
  go_enter Tryz.func56, Tryz.ntmps56
  go_upto_region 1 with fail
  try rw [hw1]
  clear hw1 hg
  go_wp2_with fail
  refine wp_region_late (fun W => W.cell? ⟨w.heap.size, 3, none⟩ = some (.int .i64 pts)) [] (by kernel_rfl) ?_
  have hS : w1.drew.cell? ⟨w.heap.size, 3, none⟩ = some (.int .i64 pts) := c3
  refine tkA 0 (.pointer (some ⟨w.heap.size, 3, none⟩)) rfl (by kernel_rfl) (fun _ _ _ h => (h : False).elim) (by kernel_rfl) (fun _ => ‹_›) ?_ ?_
  · intro w _; go_simp
  try simp only [ga, gb, gc, Act.put, gd, ge, gf]
  refine tkL 1 (.int .i64 pts) rfl (by kernel_rfl) (fun _ _ _ h => (h : False).elim) (by kernel_rfl) ‹_› ?_ ?_
  · intro w hSw
    skip
    go_simp
  try simp only [ga, gb, gc, Act.put, gd, ge, gf]
  refine tkA 2 (.int .i64 0) rfl (by kernel_rfl) (fun _ _ _ h => (h : False).elim) (by kernel_rfl) (fun _ => ‹_›) ?_ ?_
  · intro w _; go_simp
  try simp only [ga, gb, gc, Act.put, gd, ge, gf]
  refine tkA 3 (.int .i64 pts) rfl (by kernel_rfl) (fun _ _ _ h => (h : False).elim) (by kernel_rfl) (fun _ => ‹_›) ?_ ?_
  · intro w _; go_simp
  try simp only [ga, gb, gc, Act.put, gd, ge, gf]
  refine wpAnyL_done (by kernel_rfl) ?_ _
  refine NoPanic.normal ?_
  go_wp2_with fail
  refine bodyPost_ret (results_two rfl _ _ _) rfl ⟨rfl, hk1.drewN 1⟩
theorem Grew.nil {w1 wA wr : World} {v v' : Value} (hk : Keeps (fun _ => False) w1 wA) (hv : ∀ j, v.ownBlock = some j → w1.heap.size ≤ j) (h : Grew wA v v' wr) : Keeps (fun _ => False) w1 wr :=
  (hk.trans h.1 (fun i hi hh => by have := hv i hh.symm; omega) : Keeps (fun _ => False) w1 wr)
end Go.Proofs.YtmoajobnhiopiaaGreatDoor.sv
set_option linter.unusedSimpArgs false
set_option linter.unusedVariables false
namespace Go.Proofs.YtmoajobnhiopiaaGreatDoor.sv
open Go Go.RowKit Go.Shelf Go.Maps Go.Proofs.YtmoajobnhiopiaaGreatDoor.mk Go.Proofs.YtmoajobnhiopiaaGreatDoor.tp Go.Proofs.YtmoajobnhiopiaaGreatDoor.rg Go.Proofs.YtmoajobnhiopiaaGreatDoor.lm Go.Proofs.YtmoajobnhiopiaaGreatDoor.gm Go.Proofs.YtmoajobnhiopiaaGreatDoor.po
theorem le8_length (x : Int) : (le8 x).length = 8 := by unfold le8; simp
def SizedR (l : List Reg) : Prop := ∀ r ∈ l, (r.2.2.length : Int) = sizeR r.2.1
structure EncOk (op : Int) (l : List Reg) (ps : List (Int × Int)) (qs : List Qry) : Prop where
  op : op = 4 ∧ ps.length = 1 ∧ qs = [] ∨ op = 5 ∧ ps = [] ∧ 1 ≤ qs.length ∧ qs.length ≤ 4096
  len : 1 ≤ l.length ∧ l.length ≤ 64
  size : SizedR l
  right : l.any wrongR = false
  pts : RegsOk l
  pt : Pts ps
  qs : QsOk qs
end Go.Proofs.YtmoajobnhiopiaaGreatDoor.sv
set_option linter.unusedSimpArgs false
set_option linter.unusedVariables false
namespace Go.Proofs.YtmoajobnhiopiaaGreatDoor.sv
open Go Go.RowKit Go.Shelf Go.Maps Go.Proofs.YtmoajobnhiopiaaGreatDoor.mk Go.Proofs.YtmoajobnhiopiaaGreatDoor.tp Go.Proofs.YtmoajobnhiopiaaGreatDoor.rg Go.Proofs.YtmoajobnhiopiaaGreatDoor.lm Go.Proofs.YtmoajobnhiopiaaGreatDoor.gm Go.Proofs.YtmoajobnhiopiaaGreatDoor.po
theorem infoP2 : (Tryz.prog.info? 35).map (fun i => (i.zero, i.size, i.bytes)) = some (some (.agg #[.int .i64 0, .int .i64 0]), 2, 16) := by kernel_rfl
theorem pfl_snoc (l : List (Int × Int)) (p : Int × Int) : pfl (l ++ [p]) = pfl l ++ [.int .i64 p.1, .int .i64 p.2] := by
  induction l with
  | nil => rfl
  | cons c L ih =>
    show Value.int .i64 c.1 :: .int .i64 c.2 :: pfl (L ++ [p]) = _
    rw [ih]
    rfl
theorem pt_map (f : Int × Int → Int × Int) {l : List (Int × Int)} {i : Nat} (h : i < l.length) : pt (l.map f) i = f (pt l i) := by
  unfold pt
  rw [List.getD_eq_getElem?_getD, List.getD_eq_getElem?_getD, List.getElem?_map, List.getElem?_eq_getElem h]
  rfl
def PNew (w : World) (n : Nat) (l : List (Int × Int)) (v : Value) (w' : World) : Prop := ∃ a c, v = .slice a n c ∧ ptsAt w' (.slice a n c) l ∧ ∀ j, (Value.slice a n c).ownBlock = some j → w.heap.size ≤ j ∧ j < w'.heap.size
end Go.Proofs.YtmoajobnhiopiaaGreatDoor.sv
set_option linter.unusedSimpArgs false
set_option linter.unusedVariables false
namespace Go.Proofs.YtmoajobnhiopiaaGreatDoor.sv
open Go Go.RowKit Go.Shelf Go.Maps Go.Proofs.YtmoajobnhiopiaaGreatDoor.mk Go.Proofs.YtmoajobnhiopiaaGreatDoor.tp Go.Proofs.YtmoajobnhiopiaaGreatDoor.rg Go.Proofs.YtmoajobnhiopiaaGreatDoor.lm Go.Proofs.YtmoajobnhiopiaaGreatDoor.gm Go.Proofs.YtmoajobnhiopiaaGreatDoor.po
set_option maxRecDepth 100000 in
set_option maxHeartbeats 4000000 in
theorem rclassify_calls (v : Value) (bs : List Int) (w : World) (hv : byAt w v bs) : Calls Tryz.prog 13 #[v] w fun e w' => e = .returned (.int .i64 (clsE bs)) ∧ Keeps (fun _ => False) w w' := by
  have HV := Lib.hid hv
  obtain ⟨ao, cp, rfl⟩ : ∃ ao cp, v = .slice ao bs.length cp := by
    rcases hv.2 with ⟨rfl, ao, cap, rfl⟩ | ⟨b, off, cap, rfl, _⟩
    · exact ⟨ao, cap, rfl⟩
    · exact ⟨_, _, rfl⟩
  clear hv
  by_cases hE : parE bs = 0
  · have ho := hdOk_parse hE
    have hpb := payH_bound ho
    have hnb := parN_le hE
    have HO := Lib.hid ho
    obtain ⟨n, hn⟩ : ∃ n, bs.length = n := ⟨_, rfl⟩
    obtain ⟨m, hm⟩ : ∃ m, parN bs = m := ⟨_, rfl⟩
    obtain ⟨p, hp⟩ : ∃ p, payH (parH bs) = p := ⟨_, rfl⟩
    have hcl : clsE bs = if (n : Int) = m + p then 0 else 8 := by
      unfold clsE
      rw [hn, hm, hp, hE]
      by_cases h : (n : Int) = m + p
      · rw [if_neg (fun hh => hh.2 h), if_pos h]
      · rw [if_pos ⟨rfl, h⟩, if_neg h]
    have HCL := Lib.hid hcl
    have HPC := Lib.hid (rparse_calls _ bs w HV.out)
    rw [hp] at hpb
    rw [hn, hm] at hnb
    have HN := Lib.hid hn
    have HM := Lib.hid hm
    have HP := Lib.hid hp
    have HE := Lib.hid hE
    rw [hn] at HPC ⊢
    rw [hcl]
    clear hcl hn hm hp ho HCL hE
    obtain ⟨hp0, hp1⟩ := hpb
    obtain ⟨hn0, hn1, hn2⟩ := hnb
    go_enter Tryz.func13, Tryz.ntmps13
    go_wp2_with fail
    refine HPC.out.mono ?_; rintro e w1 ⟨⟨hv, rfl, hh, _⟩, hk1⟩
    rw [HE.out, HM.out]
    have ho := HO.out
    have hp := HP.out
    generalize parH bs = h at hh ho hp
    have HO := Lib.hid ho
    have HP := Lib.hid hp
    have HH := Lib.hid hh
    obtain ⟨ah, ch, hv', hr, hz⟩ := hh
    rw [hv'] at HH ⊢
    have hw : IntKind.i64.wrap ((m : Int) + p) = m + p := by rw [IntKind.wrap_i64]; omega
    clear hv' hr hz ho hp
    obtain ⟨kk, hkk⟩ : ∃ kk, h.rs.length = kk := ⟨_, rfl⟩
    rw [hkk] at HH ⊢
    obtain ⟨xo, hxo⟩ : ∃ xo, h.op = xo := ⟨_, rfl⟩
    obtain ⟨xv, hxv⟩ : ∃ xv, h.vt = xv := ⟨_, rfl⟩
    obtain ⟨xp, hxp⟩ : ∃ xp, h.pts = xp := ⟨_, rfl⟩
    rw [hxo, hxv, hxp] at HH ⊢
    clear hkk hxo hxv hxp
    go_upto_region 2 with fail
    obtain ⟨w2, hw2⟩ : ∃ w2, w1.alloc (.cells #[.int .i64 xo, .int .i64 xv, .slice ah kk ch, .int .i64 xp] 27) = w2 := ⟨_, rfl⟩
    have hg := heap_alloc_new w1 (.cells #[.int .i64 xo, .int .i64 xv, .slice ah kk ch, .int .i64 xp] 27)
    have hk2 : Keeps (fun _ => False) w1 w2 := by rw [← hw2]; exact (Keeps.refl _ w1).alloc _
    rw [hw2] at hg ⊢
    clear hw2
    have c0 := cells_at hg 0
    have c1 := cells_at hg 1
    have c2 := cells_at hg 2
    have c3 := cells_at hg 3
    have hk12 := knil hk1 hk2
    clear hg
    have hnm : decide (¬ ((n : Int) = m + p)) = !decide ((n : Int) = m + p) := by by_cases h : (n : Int) = m + p <;> simp [h]
    go_wp2_with fail
    refine (rpayload_calls _ h HO.out w2 (HH.out.kept hk2)).mono ?_; rintro e w3 ⟨rfl, hk3⟩
    rw [HP.out]
    have hk13 := knil hk12 hk3
    clear c0 c1 c2 c3
    by_cases hq : (n : Int) = m + p
    · have hq1 : ((n : Int) != m + p) = false := by simp [hq]
      have hq2 : ((n : Int) == m + p) = true := by simp [hq]
      have HQ := Lib.hid hq
      clear hq
      go_wp2_with fail
      go_ret
      exact ⟨rfl, hk13⟩
    · have hq1 : ((n : Int) != m + p) = true := by simp [hq]
      have hq2 : ((n : Int) == m + p) = false := by simp [hq]
      have HQ := Lib.hid hq
      clear hq
      go_wp2_with fail
      go_ret
      exact ⟨rfl, hk13⟩
  · have hcl : clsE bs = parE bs := by unfold clsE; rw [if_neg (fun h => hE h.1)]
    have HPC := Lib.hid (rparse_calls _ bs w HV.out)
    rw [hcl]
    generalize bs.length = n at HPC HV ⊢
    generalize parE bs = q at HPC hE ⊢
    generalize parN bs = m at HPC ⊢
    generalize parH bs = h at HPC ⊢
    clear hcl
    have hq1 : (q == 0) = false := by simp [hE]
    have hq2 : (q != 0) = true := by simp [hE]
    go_enter Tryz.func13, Tryz.ntmps13
    go_wp2_with fail
    refine HPC.out.mono ?_; rintro e w1 ⟨⟨hv, rfl, hh, _⟩, hk1⟩
    obtain ⟨ah, ch, rfl, hr, hz⟩ := hh
    clear hr hz
    go_wp2_with fail
    go_ret
    exact ⟨rfl, hk1.alloc _⟩
set_option maxRecDepth 100000 in
set_option maxHeartbeats 4000000 in
theorem wordat_calls (b off n cap at0 : Nat) (bs : List Int) (h8 : at0 + 8 ≤ n) (h6k : n ≤ 6000) (hcap : n ≤ cap) (w : World) (hc : ∀ i, i < n → w.cell? ⟨b, off + i, none⟩ = some (.int .u8 (bt bs i))) :
    Calls Tryz.prog 57 #[.slice (some ⟨b, off, none⟩) n cap, .int .i64 at0] w fun e w' => (∃ u, e = .returned (.int .u64 u)) ∧ w' = w := by
  have HC := Lib.hid hc
  clear hc
  go_enter Tryz.func57, Tryz.ntmps57
  go_wp2_with fail
  go_loopw [5, 6] (fun x i wr => ∃ z : Int, -1 ≤ z ∧ z ≤ 7 ∧ i = .int .i64 z ∧ ∃ u, x = .int .u64 u ∧ wr = w) (fun _ i _ => (intOf i + 1).toNat)
  case atStart => exact ⟨7, by omega, by omega, rfl, 0, rfl, rfl⟩
  case round =>
    obtain ⟨z, hz1, hz7, rfl, u, rfl, hwr⟩ := hrel
    rw [hwr]
    clear hwr wr
    by_cases hz : 0 ≤ z
    · obtain ⟨k, rfl⟩ := Int.eq_ofNat_of_zero_le hz
      have hd : decide ((0 : Int) ≤ (k : Int)) = true := decide_eq_true hz
      have hw1 : IntKind.i64.wrap ((at0 : Int) + (k : Int)) = (at0 : Int) + (k : Int) := by rw [IntKind.wrap_i64]; omega
      have ht : ((at0 : Int) + (k : Int)).toNat = at0 + k := by omega
      have hj : (0 : Int) ≤ (at0 : Int) + (k : Int) := by omega
      have hl : (at0 : Int) + (k : Int) < (n : Int) := by omega
      have c0 := HC.out (at0 + k) (by omega)
      obtain ⟨c, hcc⟩ : ∃ c, bt bs (at0 + k) = c := ⟨_, rfl⟩
      rw [hcc] at c0
      clear hcc
      go_wp2_with fail
      go_roundw
      case rel => exact ⟨(k : Int) - 1, by omega, by omega, by go_num, _, rfl, trivial⟩
      case measure => simp [intOf] <;> omega
    · have hd : decide ((0 : Int) ≤ z) = false := decide_eq_false hz
      go_wp2_with fail
      go_ret
      exact ⟨⟨_, rfl⟩, rfl⟩
set_option maxRecDepth 100000 in
set_option maxHeartbeats 4000000 in
theorem rpts_calls (b off n cap at0 cnt st : Nat) (bs : List Int) (hst : st ≤ 24) (hcn : cnt ≤ 6000) (h16 : ∀ k, k < cnt → at0 + k * st + 16 ≤ n) (h6k : n ≤ 6000) (hcap : n ≤ cap) (w : World) (hb : b < w.heap.size) (hc : ∀ i, i < n → w.cell? ⟨b, off + i, none⟩ = some (.int .u8 (bt bs i))) :
    Calls Tryz.prog 55 #[.slice (some ⟨b, off, none⟩) n cap, .int .i64 at0, .int .i64 cnt, .int .i64 st] w fun e w' => (∃ v l, e = .returned v ∧ l.length = cnt ∧ PNew w cnt l v w') ∧ Keeps (fun _ => False) w w' := by
  obtain ⟨i0, hi, hz0, hz1, hz2⟩ := info_parts infoP2
  have HC := Lib.hid hc
  have H16 := Lib.hid h16
  clear hc h16
  go_enter Tryz.func55, Tryz.ntmps55
  go_wp2_with fail
  go_loopw [9, 10] (fun s i wr => ∃ k : Nat, k ≤ cnt ∧ i = .int .i64 k ∧ ∃ a c, s = .slice a k c ∧ ∃ L : List (Int × Int), RowKit.Hid (L.length = k) ∧ RowKit.Hid (wr.ownsRow w.heap.size 35 2 (.slice a k c) k (pfl L)) ∧ RowKit.Hid (Keeps (fun _ => False) w wr)) (fun _ i _ => cnt - (intOf i).toNat)
  case atStart => exact ⟨0, Nat.zero_le _, rfl, _, _, rfl, [], Lib.hid rfl, Lib.hid (World.ownsRow_nil w _ _ _), Lib.hid (Keeps.refl _ _)⟩
  case round =>
    obtain ⟨k, hk, rfl, a, c, rfl, L, HL, HRW, HW⟩ := hrel
    by_cases hkl : k < cnt
    · have hkI : (k : Int) < (cnt : Int) := by omega
      have hk0 : (0 : Int) ≤ (k : Int) := by omega
      have hq16 := H16.out k hkl
      obtain ⟨q, hq⟩ : ∃ q, k * st = q := ⟨_, rfl⟩
      have hqI : (k : Int) * (st : Int) = (q : Int) := by rw [← hq]; simp
      rw [hq] at hq16
      have hw1 : IntKind.i64.wrap (q : Int) = (q : Int) := by rw [IntKind.wrap_i64]; omega
      have hw2 : IntKind.i64.wrap ((at0 : Int) + (q : Int)) = ((at0 + q : Nat) : Int) := by rw [IntKind.wrap_i64]; omega
      have hw3 : IntKind.i64.wrap (((at0 + q : Nat) : Int) + 8) = ((at0 + q + 8 : Nat) : Int) := by rw [IntKind.wrap_i64]; omega
      have hcr : ∀ i, i < n → wr.cell? ⟨b, off + i, none⟩ = some (.int .u8 (bt bs i)) := fun i hi => (HW.out.cell (p := ⟨b, off + i, none⟩) hb (fun h => h)).trans (HC.out i hi)
      have HW1 := Lib.hid (wordat_calls b off n cap (at0 + q) bs (by omega) h6k hcap wr hcr)
      have HW2 := Lib.hid (wordat_calls b off n cap (at0 + q + 8) bs (by omega) h6k hcap wr hcr)
      have hsz := HW.out.size
      clear hcr hq
      go_wp2_with fail
      refine HW1.out.mono ?_; rintro e wx ⟨⟨u1, rfl⟩, hwx⟩
      rw [hwx]
      clear hwx wx
      obtain ⟨x, hx⟩ : ∃ x, IntKind.i64.wrap u1 = x := ⟨_, rfl⟩
      go_wp2_with fail
      refine HW2.out.mono ?_; rintro e wx ⟨⟨u2, rfl⟩, hwx⟩
      rw [hwx]
      clear hwx wx
      obtain ⟨y, hy⟩ : ∃ y, IntKind.i64.wrap u2 = y := ⟨_, rfl⟩
      go_wp2_with (at_builtin; refine wpList_append_at rfl _ _ 38 rfl w.heap.size 35 i0 (.agg #[.int .i64 0, .int .i64 0]) 2 16 Tryz.underlying38 hi hz0 hz1 hz2 rfl (by decide) _ _ _ rfl (HRW.out.alloc _) (some ⟨wr.heap.size, 0, none⟩) 1 1 [.int .i64 x, .int .i64 y] rfl (fun h => by cases h) rfl ?c1 ?c2 ?c3 ?c4 ?c5 ?_)
      case c1 =>
        intro ad had j u hj
        injection had with had
        subst had
        have hadd : (⟨wr.heap.size, 0, none⟩ : Addr).add j = ⟨wr.heap.size, 0 + j, none⟩ := by unfold Addr.add; split <;> simp_all
        rw [hadd, cell_of_row _ _ _ _ _ _ (heap_alloc_new wr _), Nat.zero_add]
        simpa using hj
      case c2 => first | (intro u hu; simp at hu; rcases hu with rfl | rfl <;> rfl) | rfl
      case c3 => unfold maxLen; omega
      case c4 => omega
      case c5 => first | omega | (simp; omega)
      intro v5 w5 hown5 hgrow5 hat5
      obtain ⟨a5, c5', rfl⟩ := shape_own hown5
      have HW5 := Lib.hid ((HW.out.alloc _).grown hgrow5 (fun g hg hlt => by have := HRW.out.lt g hg; omega) : Keeps (fun _ => False) w w5)
      have HROW5 := Lib.hid (show w5.ownsRow w.heap.size 35 2 (.slice a5 (k + 1) c5') (k + 1) (pfl (L ++ [(x, y)])) by rw [pfl_snoc]; exact hown5)
      clear hown5 hgrow5 hat5 HRW HW
      go_wp2_with fail
      go_roundw
      case rel => exact ⟨k + 1, by omega, by go_num, _, _, rfl, L ++ [(x, y)], Lib.hid (by rw [List.length_append, HL.out]; rfl), HROW5, HW5⟩
      case measure => simp [intOf]; omega
    · obtain rfl : cnt = k := by omega
      go_wp2_with fail
      go_ret
      exact ⟨⟨_, L, rfl, HL.out, _, _, rfl, ptsAt_row HRW.out HL.out.symm, HRW.out.lt⟩, HW.out⟩
set_option maxRecDepth 100000 in
theorem rcounts_1 (vt p0 : Int) (ao : Option Addr) (n cap : Nat) (w : World) : Calls Tryz.prog 56 #[.agg #[.int .i64 1, .int .i64 vt, .slice ao n cap, .int .i64 p0]] w fun e w' => e = .returned (.tuple #[.int .i64 (3), .int .i64 (0)]) ∧ Keeps (fun _ => False) w w' := by
  obtain ⟨w1, hw1⟩ : ∃ w1, w.alloc (.cells #[.int .i64 1, .int .i64 vt, .slice ao n cap, .int .i64 p0] 27) = w1 := ⟨_, rfl⟩
  have hg := heap_alloc_new w (.cells #[.int .i64 1, .int .i64 vt, .slice ao n cap, .int .i64 p0] 27)
  have hk1 : Keeps (fun _ => False) w w1 := by rw [← hw1]; exact (Keeps.refl _ w).alloc _
  rw [hw1] at hg
  have c0 := cells_at hg 0
  have c1 := cells_at hg 1
  have c2 := cells_at hg 2
  have c3 := cells_at hg 3
  go_enter Tryz.func56, Tryz.ntmps56
  go_upto_region 1 with fail
  try rw [hw1]
  clear hw1 hg
  go_wp2_with fail
  refine bodyPost_ret (results_two rfl _ _ _) rfl ⟨rfl, hk1⟩
set_option maxRecDepth 100000 in
theorem rcounts_2 (vt p0 : Int) (ao : Option Addr) (n cap : Nat) (w : World) : Calls Tryz.prog 56 #[.agg #[.int .i64 2, .int .i64 vt, .slice ao n cap, .int .i64 p0]] w fun e w' => e = .returned (.tuple #[.int .i64 (4), .int .i64 (0)]) ∧ Keeps (fun _ => False) w w' := by
  obtain ⟨w1, hw1⟩ : ∃ w1, w.alloc (.cells #[.int .i64 2, .int .i64 vt, .slice ao n cap, .int .i64 p0] 27) = w1 := ⟨_, rfl⟩
  have hg := heap_alloc_new w (.cells #[.int .i64 2, .int .i64 vt, .slice ao n cap, .int .i64 p0] 27)
  have hk1 : Keeps (fun _ => False) w w1 := by rw [← hw1]; exact (Keeps.refl _ w).alloc _
  rw [hw1] at hg
  have c0 := cells_at hg 0
  have c1 := cells_at hg 1
  have c2 := cells_at hg 2
  have c3 := cells_at hg 3
  go_enter Tryz.func56, Tryz.ntmps56
  go_upto_region 1 with fail
  try rw [hw1]
  clear hw1 hg
  go_wp2_with fail
  refine bodyPost_ret (results_two rfl _ _ _) rfl ⟨rfl, hk1⟩
set_option maxRecDepth 100000 in
theorem rcounts_3 (vt p0 : Int) (hv3 : 3 ≤ vt) (hv64 : vt ≤ 64) (ao : Option Addr) (n cap : Nat) (w : World) : Calls Tryz.prog 56 #[.agg #[.int .i64 3, .int .i64 vt, .slice ao n cap, .int .i64 p0]] w fun e w' => e = .returned (.tuple #[.int .i64 (vt + 1), .int .i64 (0)]) ∧ Keeps (fun _ => False) w w' := by
  obtain ⟨w1, hw1⟩ : ∃ w1, w.alloc (.cells #[.int .i64 3, .int .i64 vt, .slice ao n cap, .int .i64 p0] 27) = w1 := ⟨_, rfl⟩
  have hg := heap_alloc_new w (.cells #[.int .i64 3, .int .i64 vt, .slice ao n cap, .int .i64 p0] 27)
  have hk1 : Keeps (fun _ => False) w w1 := by rw [← hw1]; exact (Keeps.refl _ w).alloc _
  rw [hw1] at hg
  have c0 := cells_at hg 0
  have c1 := cells_at hg 1
  have c2 := cells_at hg 2
  have c3 := cells_at hg 3
  have hwv : IntKind.i64.wrap (vt + 1) = vt + 1 := by rw [IntKind.wrap_i64]; omega
  go_enter Tryz.func56, Tryz.ntmps56
  go_upto_region 1 with fail
  try rw [hw1]
  clear hw1 hg
  go_wp2_with fail
  refine bodyPost_ret (results_two rfl _ _ _) rfl ⟨rfl, hk1⟩
theorem rcounts_calls (v : Value) (h : Hd) (ho : HdOk h) (w : World) (hv : HdAt w v h) : Calls Tryz.prog 56 #[v] w fun e w' => e = .returned (.tuple #[.int .i64 (cntP h), .int .i64 (cntQ h)]) ∧ Keeps (fun _ => False) w w' := by
  obtain ⟨ao, cap, rfl, hr, hnil⟩ := hv
  obtain ⟨op, vt, rs, pts⟩ := h
  rcases ho with ⟨h1 | h1, h2, h3, h4⟩ | ⟨h1, ⟨h2, h2'⟩, h3, h4⟩ | ⟨⟨h1, h4⟩ | ⟨h1, h4, h4'⟩, h2, ⟨h3, h3'⟩, h5, h6⟩
  · simp only at h1 h2 h3 h4; subst h1; exact rcounts_1 vt pts ao _ cap w
  · simp only at h1 h2 h3 h4; subst h1; exact rcounts_2 vt pts ao _ cap w
  · simp only at h1 h2 h2' h3 h4; subst h1; exact rcounts_3 vt pts h2 h2' ao _ cap w
  · simp only at h1 h2 h3 h3' h4; subst h1; exact rcounts_4 vt pts ao _ cap w
  · simp only at h1 h2 h3 h3' h4 h4'; subst h1; exact rcounts_5 vt pts ao _ cap w
end Go.Proofs.YtmoajobnhiopiaaGreatDoor.sv
set_option linter.unusedSimpArgs false
set_option linter.unusedVariables false
namespace Go.Proofs.YtmoajobnhiopiaaGreatDoor.sv
open Go Go.RowKit Go.Shelf Go.Maps Go.Proofs.YtmoajobnhiopiaaGreatDoor.mk Go.Proofs.YtmoajobnhiopiaaGreatDoor.tp Go.Proofs.YtmoajobnhiopiaaGreatDoor.rg Go.Proofs.YtmoajobnhiopiaaGreatDoor.lm Go.Proofs.YtmoajobnhiopiaaGreatDoor.gm Go.Proofs.YtmoajobnhiopiaaGreatDoor.po
open List renaming getElem_toArray → ga, getElem_cons_zero → gb, getElem_cons_succ → gc, setIfInBounds_toArray → gd, set_cons_zero → ge, set_cons_succ → gf
theorem results_req18 {fn : Func} {p q : Tmp} (h : fn.results = #[.cell p 62, .tmp q]) (tmps : Array Value) (w : World) (g : Nat) (t : TypeId) (a b c d e f k : Value) (fr : Nat × Nat)
    (hp : tmps.getD p undef = .pointer (some ⟨g, 0, none⟩)) (hg : w.heap[g]? = some (.cells #[a, b, c, d, e, f, k] t fr)) : (results fn tmps).run Tryz.prog w = .ok (.tuple #[.agg #[a, b, c, d, e, f, k], tmps.getD q undef]) w := by
  have e' := run_loadVar_row (P := Tryz.prog) w g t 62 #[a, b, c, d, e, f, k] fr _ hg Tryz.underlying62 rfl (by kernel_rfl)
  rw [Array.getD_eq_getD_getElem?] at hp
  simp only [results, h]
  simp [Sem.run_bind, Result.andThen, hp, asAddr, e']
theorem infoQ2 : (Tryz.prog.info? 45).map (fun i => (i.zero, i.size, i.bytes)) = some (some (.agg #[.int .i64 0, .int .i64 0, .int .u64 0]), 3, 24) := by kernel_rfl
def RDec (w : World) (en : Ending) (w' : World) : Prop := (∃ h0 h1 ah nh ch h3 ar nr cr ap np cp aq nq cq x, en = .returned (.tuple #[.agg #[.int .i64 h0, .int .i64 h1, .slice ah nh ch, .int .i64 h3, .slice ar nr cr, .slice ap np cp, .slice aq nq cq], .int .i64 x]) ∧ ∃ l, regsAt w' (.slice ar nr cr) l) ∧ Keeps (fun _ => False) w w'
theorem kput7 (w : World) (g : Nat) (x0 x1 x2 x3 x4 x5 x6 : Value) : Keeps (fun j => j = g) w (((((((w.setCell ⟨g, 0, none⟩ x0).setCell ⟨g, 1, none⟩ x1).setCell ⟨g, 2, none⟩ x2).setCell ⟨g, 3, none⟩ x3).setCell ⟨g, 4, none⟩ x4).setCell ⟨g, 5, none⟩ x5).setCell ⟨g, 6, none⟩ x6) :=
  (((((((Keeps.refl (fun j => j = g) w).setCell ⟨g, 0, none⟩ (fun _ => rfl) _).setCell ⟨g, 1, none⟩ (fun _ => rfl) _).setCell ⟨g, 2, none⟩ (fun _ => rfl) _).setCell ⟨g, 3, none⟩ (fun _ => rfl) _).setCell ⟨g, 4, none⟩ (fun _ => rfl) _).setCell ⟨g, 5, none⟩ (fun _ => rfl) _).setCell ⟨g, 6, none⟩ (fun _ => rfl) _
theorem regsAt_nil (w : World) : regsAt w (.slice none 0 0) [] := .inl ⟨rfl, none, 0, rfl⟩
theorem rdec_ret {w w' : World} {h0 h1 h3 x : Int} {ah ar ap aq : Option Addr} {nh ch nr cr np cp nq cq : Nat} {l : List Reg} (h : regsAt w' (.slice ar nr cr) l) (hk : Keeps (fun _ => False) w w') :
    RDec w (.returned (.tuple #[.agg #[.int .i64 h0, .int .i64 h1, .slice ah nh ch, .int .i64 h3, .slice ar nr cr, .slice ap np cp, .slice aq nq cq], .int .i64 x])) w' :=
  ⟨⟨h0, h1, ah, nh, ch, h3, ar, nr, cr, ap, np, cp, aq, nq, cq, x, rfl, l, h⟩, hk⟩
set_option maxRecDepth 100000 in
set_option maxHeartbeats 8000000 in
theorem rdecode_bad (ao : Option Addr) (n cap : Nat) (x : Int) (hx : x ≠ 0) (w : World) (hC : ∀ W, Keeps (fun _ => False) w W → Calls Tryz.prog 13 #[.slice ao n cap] W fun e w' => e = .returned (.int .i64 x) ∧ Keeps (fun _ => False) W w') : Calls Tryz.prog 31 #[.slice ao n cap] w (RDec w) := by
  have HC := Lib.hid hC
  clear hC
  have hx1 : (x == 0) = false := by simp [hx]
  have hx2 : (x != 0) = true := by simp [hx]
  clear hx
  go_enter Tryz.func31, Tryz.ntmps31
  go_upto_region 1 with fail
  obtain ⟨w0, hw0⟩ : ∃ w0, w.alloc (.cells #[.int .i64 0, .int .i64 0, .slice none 0 0, .int .i64 0, .slice none 0 0, .slice none 0 0, .slice none 0 0] 62) = w0 := ⟨_, rfl⟩
  have hg0 := heap_alloc_new w (.cells #[.int .i64 0, .int .i64 0, .slice none 0 0, .int .i64 0, .slice none 0 0, .slice none 0 0, .slice none 0 0] 62)
  have hk0 : Keeps (fun _ => False) w w0 := by rw [← hw0]; exact (Keeps.refl _ w).alloc _
  rw [hw0] at hg0 ⊢
  clear hw0
  have hl0 : w.heap.size < w0.heap.size := (Array.getElem?_eq_some_iff.1 hg0).1
  have HG0 := Lib.hid hg0
  clear hg0
  go_wp2_with fail
  refine (HC.out w0 hk0).mono ?_; rintro e w1 ⟨rfl, hk1⟩
  have hk01 := knil hk0 hk1
  have hg0 := (hk1.block _ hl0 (fun h => h)).trans HG0.out
  have c0 := cells_at hg0 0
  have c1 := cells_at hg0 1
  have c2 := cells_at hg0 2
  have c3 := cells_at hg0 3
  have c4 := cells_at hg0 4
  have c5 := cells_at hg0 5
  have c6 := cells_at hg0 6
  have f0 := two_frozen hg0 0
  have f1 := two_frozen hg0 1
  have f2 := two_frozen hg0 2
  have f3 := two_frozen hg0 3
  have f4 := two_frozen hg0 4
  have f5 := two_frozen hg0 5
  have f6 := two_frozen hg0 6
  have HG1 := Lib.hid hg0
  clear hg0 HG0
  go_wp2_with fail
  refine bodyPost_ret (results_req18 rfl _ _ _ _ _ _ _ _ _ _ _ _ rfl (cells_seven HG1.out)) rfl (rdec_ret (regsAt_nil _) (keeps_seven hk01 (Nat.le_refl _) _ _ _ _ _ _ _))
set_option maxRecDepth 100000 in
set_option maxHeartbeats 8000000 in
theorem rdecode_good (v : Value) (bs : List Int) (h6k : bs.length ≤ 6000) (w : World) (hv : byAt w v bs) (hE : clsE bs = 0) : Calls Tryz.prog 31 #[v] w (RDec w) := by
  obtain ⟨i0, hi, hz0, hz1, hz2⟩ := info_parts infoR
  obtain ⟨i1, hi1, hy0, hy1, hy2⟩ := info_parts infoQ2
  obtain ⟨hpE, hlen⟩ := clsE_zero hE
  have ho := hdOk_parse hpE
  obtain ⟨hpay, hp0, hp1, hq0, hq1, hpp⟩ := payH_parts ho
  have hB := totR_bound (parH bs).rs
  have hnl := parN_le hpE
  rw [hpay] at hlen hpp
  have HC := Lib.hid (fun W (hk : Keeps (fun _ => False) w W) => rclassify_calls v bs W (hv.kept hk))
  have HPC := Lib.hid (fun W (hk : Keeps (fun _ => False) w W) => rparse_calls v bs W (hv.kept hk))
  rw [hE] at HC
  rw [hpE] at HPC
  obtain ⟨b, off, cap, rfl, hcap, hb, hc⟩ : ∃ b off cap, v = .slice (some ⟨b, off, none⟩) bs.length cap ∧ bs.length ≤ cap ∧ b < w.heap.size ∧ ∀ i, i < bs.length → w.cell? ⟨b, off + i, none⟩ = some (.int .u8 (bt bs i)) := by
    rcases hv.2 with ⟨rfl, _⟩ | h
    · simp at hnl; omega
    · exact h
  generalize parN bs = at0 at HPC hlen hnl
  generalize parH bs = h at HPC ho hlen hp0 hp1 hq0 hq1 hB hpp
  generalize bs.length = n at HC HPC hlen hnl hcap hc h6k
  obtain ⟨T, hT⟩ : ∃ T : Nat, totR h.rs = T := ⟨(totR h.rs).toNat, by omega⟩
  obtain ⟨NP, hNP⟩ : ∃ N : Nat, cntP h = N := ⟨(cntP h).toNat, by omega⟩
  obtain ⟨NQ, hNQ⟩ : ∃ N : Nat, cntQ h = N := ⟨(cntQ h).toNat, by omega⟩
  rw [hT, hNP, hNQ] at hlen hpp
  rw [hNP] at hp0 hp1
  rw [hNQ] at hq0 hq1
  have HCT := Lib.hid (fun v w (hv : HdAt w v h) => rcounts_calls v h ho w hv)
  rw [hNP, hNQ] at HCT
  have hbl2 : at0 + 16 * T + 16 * NP + 24 * NQ ≤ n := by omega
  have HTT := Lib.hid hT
  have HCB := Lib.hid hc
  obtain ⟨K, hK⟩ : ∃ K, h.rs.length = K := ⟨_, rfl⟩
  have hK64 : K ≤ 64 := by
    rcases ho with ⟨_, _, h3, _⟩ | ⟨_, _, h3, _⟩ | ⟨_, _, ⟨_, h3⟩, _⟩
    · rw [h3] at hK; simp at hK; omega
    · rw [h3] at hK; simp at hK; omega
    · omega
  have HK := Lib.hid hK
  clear hE hpE ho hv hc hNP hNQ hpay hT hB hK hlen hnl hpp
  go_enter Tryz.func31, Tryz.ntmps31
  go_upto_region 1 with fail
  obtain ⟨w0, hw0⟩ : ∃ w0, w.alloc (.cells #[.int .i64 0, .int .i64 0, .slice none 0 0, .int .i64 0, .slice none 0 0, .slice none 0 0, .slice none 0 0] 62) = w0 := ⟨_, rfl⟩
  have hg0 := heap_alloc_new w (.cells #[.int .i64 0, .int .i64 0, .slice none 0 0, .int .i64 0, .slice none 0 0, .slice none 0 0, .slice none 0 0] 62)
  have hk0 : Keeps (fun _ => False) w w0 := by rw [← hw0]; exact (Keeps.refl _ w).alloc _
  rw [hw0] at hg0 ⊢
  clear hw0
  have hl0 : w.heap.size < w0.heap.size := (Array.getElem?_eq_some_iff.1 hg0).1
  have HG0 := Lib.hid hg0
  clear hg0
  go_wp2_with fail
  refine (HC.out w0 hk0).mono ?_; rintro e w1 ⟨rfl, hk1⟩
  have hk01 := knil hk0 hk1
  go_wp2_with fail
  refine (HPC.out w1 hk01).mono ?_; rintro e w2 ⟨⟨hv, rfl, hh, hfr⟩, hk2⟩
  have hk02 := knil hk01 hk2
  have HHD := Lib.hid hh
  obtain ⟨ah, ch, rfl, hr, hz⟩ := hh
  rw [HK.out] at hr HHD ⊢
  have HRS := Lib.hid hr
  clear hr hz hfr
  obtain ⟨xo, hxo⟩ : ∃ xo, h.op = xo := ⟨_, rfl⟩
  obtain ⟨xv, hxv⟩ : ∃ xv, h.vt = xv := ⟨_, rfl⟩
  obtain ⟨xp, hxp⟩ : ∃ xp, h.pts = xp := ⟨_, rfl⟩
  rw [hxo, hxv, hxp] at HHD ⊢
  clear hxo hxv hxp
  go_upto_region 6 with fail
  obtain ⟨w3, hw3⟩ : ∃ w3, (w2.alloc (.cells #[.int .i64 xo, .int .i64 xv, .slice ah K ch, .int .i64 xp] 27)).alloc (.cells #[.int .i64 xo, .int .i64 xv, .slice ah K ch, .int .i64 xp, .slice none 0 0, .slice none 0 0, .slice none 0 0] 62) = w3 := ⟨_, rfl⟩
  obtain ⟨q, hq⟩ : ∃ q, w2.heap.size = q := ⟨_, rfl⟩
  have hg := heap2 w2 (.cells #[.int .i64 xo, .int .i64 xv, .slice ah K ch, .int .i64 xp] 27) (.cells #[.int .i64 xo, .int .i64 xv, .slice ah K ch, .int .i64 xp, .slice none 0 0, .slice none 0 0, .slice none 0 0] 62)
  have hk3 : Keeps (fun _ => False) w2 w3 := by rw [← hw3]; exact ((Keeps.refl _ w2).alloc _).alloc _
  rw [hw3, hq] at hg
  have hsz3 : w3.heap.size = q + 2 := by rw [← hw3, ← hq]; simp
  have hqq : w0.heap.size ≤ q := by rw [← hq]; exact (knil hk1 hk2).size
  have HQ2 := Lib.hid hq
  rw [hw3]
  try rw [hq]
  clear hw3 hq
  obtain ⟨g0, g1⟩ := hg
  have hk03 := knil hk02 hk3
  have hbq : b < q := by rw [← HQ2.out]; exact Nat.lt_of_lt_of_le hb hk02.size
  have HB3 := Lib.hid (fun i (hi : i < n) => (hk03.cell (p := ⟨b, off + i, none⟩) hb (fun h => h)).trans (HCB.out i hi))
  have HRC := Lib.hid (fun k (hk : k < K) => show ∃ bh oh, ah = some ⟨bh, oh, none⟩ ∧ bh < q ∧ regC w3 bh (oh + k * 3) (rg h.rs k) by
    rcases HRS.out with ⟨h0, _⟩ | ⟨bh, oh, cc, he, hbh, hcc⟩
    · rw [← HK.out, h0] at hk; simp at hk
    · injection he with h1 h2 h3
      refine ⟨bh, oh, h1, by rw [← HQ2.out]; exact hbh, ?_⟩
      exact (hcc k (by rw [HK.out]; exact hk)).kept hbh hk3)
  have HTL := Lib.hid (totR_take h.rs)
  have HH3 := Lib.hid (HHD.out.kept hk3)
  have G0 := Lib.hid g0
  have G1 := Lib.hid g1
  have HK3 := Lib.hid hk03
  clear g0 g1
  go_wp2_with fail
  go_loopw [6, 9, 10, 11] (fun at1 i _ _ wr => ∃ k : Nat, k ≤ K ∧ i = .int .i64 k ∧ ∃ A : Nat, at1 = .int .i64 A ∧ RowKit.Hid ((A : Int) = at0 + 16 * totR (h.rs.take k)) ∧ ∃ ar cr, wr.heap[q + 1]? = some (.cells #[.int .i64 xo, .int .i64 xv, .slice ah K ch, .int .i64 xp, .slice ar k cr, .slice none 0 0, .slice none 0 0] 62 (0, 0)) ∧ ∃ L, RowKit.Hid (RowsAt wr (q + 2) (.slice ar k cr) L k) ∧ RowKit.Hid (Keeps (fun j => j = q + 1) w3 wr)) (fun _ i _ _ _ => K - (intOf i).toNat)
  case atStart => exact ⟨0, Nat.zero_le _, rfl, at0, rfl, Lib.hid (by rw [List.take_zero]; simp [totR]), _, _, G1.out, [], Lib.hid (RowsAt.nil _ _), Lib.hid (Keeps.refl _ _)⟩
  case round =>
    clear G1
    obtain ⟨k, hk, rfl, A, rfl, HA, ar, cr, hg1, L, HR, HW⟩ := hrel
    have hsr := HW.out.size
    have hgr := (HW.out.block q (by omega) (by omega)).trans G0.out
    have HG1 := Lib.hid hg1
    have hbn : ¬ b = q + 1 := by omega
    have HBR := Lib.hid (fun i (hi : i < n) => (HW.out.cell (p := ⟨b, off + i, none⟩) (show b < w3.heap.size by omega) hbn).trans (HB3.out i hi))
    clear hg1
    by_cases hkl : k < K
    · have hkI : (k : Int) < (K : Int) := by omega
      have hk0 : (0 : Int) ≤ (k : Int) := by omega
      obtain ⟨bh, oh, rfl, hbh, hrc⟩ := HRC.out k hkl
      obtain ⟨e0, e1, an, ln, cn, e2⟩ := regC_off (by omega) hrc HW.out (by show ¬ (bh = q + 1); omega)
      obtain ⟨dn, hdn⟩ : ∃ x, (rg h.rs k).1 = x := ⟨_, rfl⟩
      obtain ⟨m, hm⟩ : ∃ x, (rg h.rs k).2.1 = x := ⟨_, rfl⟩
      rw [hdn] at e0
      rw [hm] at e1
      have HM := Lib.hid hm
      have c2 := cells_at hgr 2
      clear hrc hdn hm hgr
      go_upto_region 10 with fail
      obtain ⟨wa, hwa⟩ : ∃ wa, wr.alloc (.cells #[.bool dn, .int .i64 m, .slice an ln cn] 40) = wa := ⟨_, rfl⟩
      obtain ⟨g8, hg8⟩ : ∃ g, wr.heap.size = g := ⟨_, rfl⟩
      have hga := heap_alloc_new wr (.cells #[.bool dn, .int .i64 m, .slice an ln cn] 40)
      have hka : Keeps (fun _ => False) wr wa := by rw [← hwa]; exact (Keeps.refl _ wr).alloc _
      rw [hwa, hg8] at hga
      rw [hwa]
      try rw [hg8]
      have hl8 : g8 < wa.heap.size := (Array.getElem?_eq_some_iff.1 hga).1
      have HGA := Lib.hid hga
      have HG8 := Lib.hid hg8
      have HKA := Lib.hid hka
      have c1 := cells_at hga 1
      have hbr : b < wr.heap.size := by omega
      have HBA := Lib.hid (fun i (hi : i < n) => (hka.cell (p := ⟨b, off + i, none⟩) hbr (fun h => h)).trans (HBR.out i hi))
      clear hwa hg8 hga hka e0 e1 e2 c2
      go_wp2_with fail
      refine (rsize16_calls m _).mono ?_; rintro e wz ⟨rfl, hwz⟩
      rw [hwz]
      clear hwz wz
      have hsb := sizeR_bound m
      obtain ⟨s, hs⟩ : ∃ s : Nat, sizeR m = s := ⟨(sizeR m).toNat, by omega⟩
      rw [hs] at hsb ⊢
      have htk1 : totR (h.rs.take (k + 1)) = totR (h.rs.take k) + (s : Int) := by rw [totR_step (by rw [HK.out]; exact hkl), HM.out, hs]
      have htT : A + 16 * s + 16 * NP + 24 * NQ ≤ n := by
        have h1 := HTL.out (k + 1)
        have h2 := HA.out
        rw [htk1, HTT.out] at h1
        omega
      have HA2 := Lib.hid (show ((A + 16 * s : Nat) : Int) = at0 + 16 * totR (h.rs.take (k + 1)) by rw [htk1]; have := HA.out; omega)
      have HTP := Lib.hid (rpts_calls b off n cap A s 16 bs (by omega) (by omega) (fun j hj => by omega) h6k hcap wa (by have := HKA.out.size; omega) HBA.out)
      clear c1 hs htk1
      go_wp2_with fail
      refine HTP.out.mono ?_; rintro e w5 ⟨⟨v, pl, rfl, hpl, ap, cp, rfl, hpv, hpb⟩, hk5⟩
      have H5 := Lib.hid ((hk5.block _ hl8 (fun h => h)).trans HGA.out)
      have HPV := Lib.hid hpv
      have HPB := Lib.hid hpb
      have c2' := cells_at H5.out 2
      have f2 := two_frozen H5.out 2
      clear hpv hpb HTP
      go_upto_region 12 with fail
      obtain ⟨w6, hw6⟩ : ∃ w6, w5.setCell ⟨g8, 2, none⟩ (.slice ap s cp) = w6 := ⟨_, rfl⟩
      have H6 := Lib.hid (show w6.heap[g8]? = some (.cells #[.bool dn, .int .i64 m, .slice ap s cp] 40 (0, 0)) by rw [← hw6]; exact cells_put H5.out 2 _)
      have hks : Keeps (fun j => j = g8) w5 w6 := by rw [← hw6]; exact (Keeps.refl (fun j => j = g8) w5).setCell ⟨g8, 2, none⟩ (fun _ => rfl) _
      have hkr6 : Keeps (fun _ => False) wr w6 := (knil HKA.out hk5).trans hks (fun i hi h => by have := HG8.out; omega)
      have HP6 := Lib.hid (pts_off HPV.out hks (fun j hj he => by have := (HPB.out j hj).1; omega))
      have hls := hks.size
      obtain ⟨hrn, LL, hL, hrow, hL4⟩ := HR.out.off hkr6 (fun _ _ _ h => h)
      have hs6 : q + 2 ≤ w6.heap.size := by have := hkr6.size; omega
      have HG6 := Lib.hid ((hkr6.block (q + 1) (by omega) (fun h => h)).trans HG1.out)
      rw [hw6]
      clear hw6 c2' f2
      have HROW := Lib.hid hrow
      have HL := Lib.hid hL
      have HL4 := Lib.hid hL4
      have HRN := Lib.hid hrn
      have HK6 := Lib.hid hkr6
      have c0 := cells_at H6.out 0
      have c1 := cells_at H6.out 1
      have c2 := cells_at H6.out 2
      have d4 := cells_at HG6.out 4
      clear hrow hL hL4 hrn hks
      go_wp2_with (at_builtin; refine wpList_append_at rfl _ _ 25 rfl (q + 2) 40 i0 (.agg #[.bool false, .int .i64 0, .slice none 0 0]) 3 40 Tryz.underlying25 hi hz0 hz1 hz2 rfl (by decide) _ _ _ rfl (HROW.out.alloc _) (some ⟨w6.heap.size, 0, none⟩) 1 1 [.bool dn, .int .i64 m, .slice ap s cp] rfl (fun h => by cases h) rfl ?c1 ?c2 ?c3 ?c4 ?c5 ?_)
      case c1 =>
        intro ad had j u hj
        injection had with had
        subst had
        have hadd : (⟨w6.heap.size, 0, none⟩ : Addr).add j = ⟨w6.heap.size, 0 + j, none⟩ := by unfold Addr.add; split <;> simp_all
        rw [hadd, cell_of_row _ _ _ _ _ _ (heap_alloc_new w6 _), Nat.zero_add]
        simpa using hj
      case c2 => first | (intro u hu; simp at hu; rcases hu with rfl | rfl | rfl <;> rfl) | rfl
      case c3 => unfold maxLen; omega
      case c4 => omega
      case c5 => first | omega | (simp; omega)
      intro v5 w7 hown5 hgrow5 hat5
      obtain ⟨a5, c5', rfl⟩ := shape_own hown5
      have hkde : Keeps (fun j => some j = (Value.slice ar k cr).ownBlock) w6 w7 := ((Keeps.refl _ w6).alloc _).grown hgrow5 (fun g hg _ => hg.symm)
      have hvr : ∀ j, (Value.slice ar k cr).ownBlock = some j → q + 2 ≤ j ∧ j < wr.heap.size := fun j hj => by
        obtain ⟨_, L', _, hrow', _⟩ := HR.out
        exact hrow'.lt j hj
      have HRS7 := Lib.hid (show RowsAt w7 (q + 2) (.slice a5 (k + 1) c5') (L ++ [(dn, m, pl)]) (k + 1) by
        refine RowsAt.snoc (r := (dn, m, pl)) HRN.out HL.out HL4.out hown5 hkde ?_ ⟨_, _, _, rfl⟩ HP6.out (fun j hj => ?_)
        · rcases hat5 with h1 | h1
          · exact .inl h1
          · exact .inr ⟨_, h1, by simp⟩
        · have h1 := HPB.out j hj
          have h2 := HKA.out.size
          refine ⟨by omega, by omega, fun he => ?_⟩
          have := hvr j he
          omega)
      have HG7 := Lib.hid ((hkde.block (q + 1) (by omega) (fun h => by have := hvr _ h.symm; omega)).trans HG6.out)
      have HW7 := Lib.hid (show Keeps (fun j => j = q + 1) w3 w7 from (HW.out.trans HK6.out (fun i hi h => h.elim)).trans hkde (fun i hi h => by have := hvr i h.symm; omega))
      clear hown5 hgrow5 hat5 hkde hvr c0 c1 c2 d4
      have d4 := cells_at HG7.out 4
      have f4 := two_frozen HG7.out 4
      have hw16 : IntKind.i64.wrap (16 * (s : Int)) = 16 * (s : Int) := by rw [IntKind.wrap_i64]; omega
      have hwat : IntKind.i64.wrap ((A : Int) + 16 * (s : Int)) = ((A + 16 * s : Nat) : Int) := by rw [IntKind.wrap_i64]; omega
      go_wp2_with fail
      go_roundw
      case rel => exact ⟨k + 1, by omega, by go_num, A + 16 * s, rfl, HA2, _, _, cells_put HG7.out 4 _, L ++ [(dn, m, pl)], Lib.hid (HRS7.out.off ((Keeps.refl (fun j => j = q + 1) w7).setCell ⟨q + 1, 4, none⟩ (fun _ => rfl) _) (fun j hj _ h => by omega)), Lib.hid (HW7.out.setCell ⟨q + 1, 4, none⟩ (fun _ => rfl) _)⟩
      case measure => simp [intOf]; omega
    · obtain rfl : k = K := by omega
      have hA := HA.out
      rw [List.take_of_length_le (by rw [HK.out]; exact Nat.le_refl _), HTT.out] at hA
      have hAT : A = at0 + 16 * T := by omega
      have hAN : A + 16 * NP + 24 * NQ ≤ n := by omega
      clear hAT hA
      have hk2r : Keeps (fun _ => False) w2 wr := hk3.trans HW.out (fun i hi h => by have := HQ2.out; omega)
      have HHR := Lib.hid (HHD.out.kept hk2r)
      have c0 := cells_at hgr 0
      have c1 := cells_at hgr 1
      have c2 := cells_at hgr 2
      have c3 := cells_at hgr 3
      have HB := Lib.hid hgr
      clear hgr
      have hkwr : Keeps (fun _ => False) w wr := knil hk02 hk2r
      have hg1l : q + 1 < wr.heap.size := by omega
      go_wp2_with fail
      refine (HCT.out _ wr HHR.out).mono ?_; rintro e w4 ⟨rfl, hk4⟩
      have HB4 := Lib.hid (fun i (hi : i < n) => (hk4.cell (p := ⟨b, off + i, none⟩) (show b < wr.heap.size by omega) (fun h => h)).trans (HBR.out i hi))
      have HG4 := Lib.hid ((hk4.block (q + 1) hg1l (fun h => h)).trans HG1.out)
      have hs4 := hk4.size
      have HTP := Lib.hid (rpts_calls b off n cap A NP 16 bs (by omega) (by omega) (fun j hj => by omega) h6k hcap w4 (by omega) HB4.out)
      clear c0 c1 c2 c3
      go_wp2_with fail
      refine HTP.out.mono ?_; rintro e w5 ⟨⟨v, pl, rfl, hpl, ap, cp, rfl, hpv, hpb⟩, hk5⟩
      have HG5 := Lib.hid ((hk5.block (q + 1) (by omega) (fun h => h)).trans HG4.out)
      have d5 := cells_at HG5.out 5
      have f5 := two_frozen HG5.out 5
      have hs5 := hk5.size
      clear hpv hpb HTP
      go_upto_region 16 with fail
      obtain ⟨w6, hw6⟩ : ∃ w6, w5.setCell ⟨q + 1, 5, none⟩ (.slice ap NP cp) = w6 := ⟨_, rfl⟩
      have HG6 := Lib.hid (show w6.heap[q + 1]? = some (.cells #[.int .i64 xo, .int .i64 xv, .slice ah k ch, .int .i64 xp, .slice ar k cr, .slice ap NP cp, .slice none 0 0] 62 (0, 0)) by rw [← hw6]; exact cells_put HG5.out 5 _)
      have hk6 : Keeps (fun j => j = q + 1) w5 w6 := by rw [← hw6]; exact (Keeps.refl (fun j => j = q + 1) w5).setCell ⟨q + 1, 5, none⟩ (fun _ => rfl) _
      have hkr6 : Keeps (fun j => j = q + 1) wr w6 := ((knil hk4 hk5).mono (fun _ _ h => h.elim)).trans hk6 (fun _ _ h => h)
      have hs6 := hkr6.size
      rw [hw6]
      clear hw6 d5 f5
      have HB6 := Lib.hid (fun i (hi : i < n) => (hkr6.cell (p := ⟨b, off + i, none⟩) (show b < wr.heap.size by omega) hbn).trans (HBR.out i hi))
      have HTQ := Lib.hid (rpts_calls b off n cap A NQ 24 bs (by omega) (by omega) (fun j hj => by omega) h6k hcap w6 (by omega) HB6.out)
      have HK36 := Lib.hid (HW.out.trans hkr6 (fun _ _ h => h))
      have HR6 := Lib.hid (HR.out.off hkr6 (fun j hj _ h => by omega))
      clear hk6 hkr6
      go_wp2_with fail
      refine HTQ.out.mono ?_; rintro e w7 ⟨⟨v, ql, rfl, hql, al, cl, rfl, hqv, hqb⟩, hk7⟩
      have HG7 := Lib.hid ((hk7.block (q + 1) (by omega) (fun h => h)).trans HG6.out)
      have HK37 := Lib.hid (HK36.out.trans hk7 (fun _ _ h => h.elim))
      have HR7 := Lib.hid (HR6.out.off hk7 (fun _ _ _ h => h))
      have HQV := Lib.hid hqv
      have HQB := Lib.hid hqb
      have HQL := Lib.hid hql
      have hs7 := hk7.size
      have HB7 := Lib.hid (fun i (hi : i < n) => (hk7.cell (p := ⟨b, off + i, none⟩) (show b < w6.heap.size by omega) (fun h => h)).trans (HB6.out i hi))
      clear hqv hqb HTQ hql
      go_wp2_with fail
      go_loopw [15] (fun i wx => ∃ j : Nat, j ≤ NQ ∧ i = .int .i64 j ∧ ∃ aq cq, wx.heap[q + 1]? = some (.cells #[.int .i64 xo, .int .i64 xv, .slice ah k ch, .int .i64 xp, .slice ar k cr, .slice ap NP cp, .slice aq j cq] 62 (0, 0)) ∧ ∃ xs, RowKit.Hid (wx.ownsRow w7.heap.size 45 3 (.slice aq j cq) j xs) ∧ RowKit.Hid (Keeps (fun j => j = q + 1) w7 wx)) (fun i _ => NQ - (intOf i).toNat)
      case atStart => exact ⟨0, Nat.zero_le _, rfl, _, _, HG7.out, _, Lib.hid (World.ownsRow_nil _ _ _ _), Lib.hid (Keeps.refl _ _)⟩
      case round =>
        obtain ⟨j, hj, rfl, aq, cq, hgx, xs, HX, HWX⟩ := hrel
        have HGX := Lib.hid hgx
        have hsx := HWX.out.size
        clear hgx
        by_cases hjl : j < NQ
        · have hjI : (j : Int) < (NQ : Int) := by omega
          have hj0 : (0 : Int) ≤ (j : Int) := by omega
          obtain ⟨bl, ol, hal, hbl, hcl⟩ : ∃ bl ol, al = some ⟨bl, ol, none⟩ ∧ bl < w7.heap.size ∧ ∀ i, i < NQ → w7.cell? ⟨bl, ol + i * 2, none⟩ = some (.int .i64 (pt ql i).1) ∧ w7.cell? ⟨bl, ol + i * 2 + 1, none⟩ = some (.int .i64 (pt ql i).2) := by
            rcases HQV.out with ⟨h0, _⟩ | ⟨bb, o', cc, he, hb, hc⟩
            · have := HQL.out; rw [h0] at this; simp at this; omega
            · injection he with h1 h2 h3
              exact ⟨bb, o', h1, hb, fun i hi => hc i (by rw [HQL.out]; exact hi)⟩
          subst hal
          have hblq : ¬ bl = q + 1 := by have := (HQB.out bl rfl).1; omega
          obtain ⟨x, hx⟩ : ∃ x, (pt ql j).1 = x := ⟨_, rfl⟩
          obtain ⟨y, hy⟩ : ∃ y, (pt ql j).2 = y := ⟨_, rfl⟩
          have e0 := (HWX.out.cell (p := ⟨bl, ol + j * 2, none⟩) hbl hblq).trans (hcl j hjl).1
          have e1 := (HWX.out.cell (p := ⟨bl, ol + j * 2 + 1, none⟩) hbl hblq).trans (hcl j hjl).2
          rw [hx] at e0
          rw [hy] at e1
          have c6 := cells_at HGX.out 6
          have hw1 : IntKind.i64.wrap (24 * (j : Int)) = 24 * (j : Int) := by rw [IntKind.wrap_i64]; omega
          have hw2 : IntKind.i64.wrap ((A : Int) + 24 * (j : Int)) = (A : Int) + 24 * (j : Int) := by rw [IntKind.wrap_i64]; omega
          have hw3 : IntKind.i64.wrap ((A : Int) + 24 * (j : Int) + 16) = ((A + 24 * j + 16 : Nat) : Int) := by rw [IntKind.wrap_i64]; omega
          have hblx : bl < wr.heap.size := by omega
          have hgxl : q + 1 < wr.heap.size := by omega
          have HBX := Lib.hid (fun i (hi : i < n) => (HWX.out.cell (p := ⟨b, off + i, none⟩) (show b < w7.heap.size by omega) hbn).trans (HB7.out i hi))
          clear hcl hx hy
          go_wp2_with fail
          refine wp_region_late (fun W => W.cell? ⟨q + 1, 6, none⟩ = some (.slice aq j cq) ∧ W.cell? ⟨bl, ol + j * 2, none⟩ = some (.int .i64 x) ∧ W.cell? ⟨bl, ol + j * 2 + 1, none⟩ = some (.int .i64 y)) [17] (by kernel_rfl) ?_
          have hS : wr.drew.cell? ⟨q + 1, 6, none⟩ = some (.slice aq j cq) ∧ wr.drew.cell? ⟨bl, ol + j * 2, none⟩ = some (.int .i64 x) ∧ wr.drew.cell? ⟨bl, ol + j * 2 + 1, none⟩ = some (.int .i64 y) := ⟨c6, e0, e1⟩
          have HGD := Lib.hid (show wr.drew.heap[q + 1]? = some (.cells #[.int .i64 xo, .int .i64 xv, .slice ah k ch, .int .i64 xp, .slice ar k cr, .slice ap NP cp, .slice aq j cq] 62 (0, 0)) from HGX.out)
          have HXD := Lib.hid (show wr.drew.ownsRow w7.heap.size 45 3 (.slice aq j cq) j xs from HX.out)
          have HWD := Lib.hid (show Keeps (fun j => j = q + 1) w7 wr.drew from HWX.out.drewN 1)
          have HBD := Lib.hid (show ∀ i, i < n → wr.drew.cell? ⟨b, off + i, none⟩ = some (.int .u8 (bt bs i)) from HBX.out)
          have hbld : bl < wr.drew.heap.size := hblx
          have hgxd : q + 1 < wr.drew.heap.size := hgxl
          have hsxd : w7.heap.size ≤ wr.drew.heap.size := hsx
          have hnb : ¬ some bl = (Value.slice aq j cq).ownBlock := fun h => by have := (HXD.out.lt bl h.symm).1; omega
          have hng : ¬ some (q + 1) = (Value.slice aq j cq).ownBlock := fun h => by have := (HXD.out.lt (q + 1) h.symm).1; omega
          clear c6 e0 e1 HGX HX HWX HBX hblx hgxl hsx
          generalize wr.drew = wd at hS HGD HXD HWD HBD hbld hgxd hsxd ⊢
          refine tkA 0 (.pointer (some ⟨q + 1, 6, none⟩)) rfl (by kernel_rfl) (fun _ _ _ h => (h : False).elim) (by kernel_rfl) (fun _ => ‹_›) ?_ ?_
          · intro w _; go_simp
          try simp only [ga, gb, gc, Act.put, gd, ge, gf]
          refine tkL 1 (.slice aq j cq) rfl (by kernel_rfl) (fun _ _ _ h => (h : False).elim) (by kernel_rfl) ‹_› ?_ ?_
          · intro w hSw
            obtain ⟨s0, s1, s2⟩ := hSw
            go_simp
          try simp only [ga, gb, gc, Act.put, gd, ge, gf]
          refine tkA 2 (.slice (some ⟨bl, ol, none⟩) NQ cl) rfl (by kernel_rfl) (fun _ _ _ h => (h : False).elim) (by kernel_rfl) (fun _ => ‹_›) ?_ ?_
          · intro w _; go_simp
          try simp only [ga, gb, gc, Act.put, gd, ge, gf]
          refine tkA 3 (.int .i64 j) rfl (by kernel_rfl) (fun _ _ _ h => (h : False).elim) (by kernel_rfl) (fun _ => ‹_›) ?_ ?_
          · intro w _; go_simp
          try simp only [ga, gb, gc, Act.put, gd, ge, gf]
          refine tkA 4 (.pointer (some ⟨bl, ol + j * 2, none⟩)) rfl (by kernel_rfl) (fun _ _ _ h => (h : False).elim) (by kernel_rfl) (fun _ => ‹_›) ?_ ?_
          · intro w _; go_simp
          try simp only [ga, gb, gc, Act.put, gd, ge, gf]
          refine tkL 5 (.agg #[.int .i64 x, .int .i64 y]) rfl (by kernel_rfl) (fun _ _ _ h => (h : False).elim) (by kernel_rfl) ‹_› ?_ ?_
          · intro w hSw
            obtain ⟨s0, s1, s2⟩ := hSw
            go_simp
          try simp only [ga, gb, gc, Act.put, gd, ge, gf]
          refine tkA 6 (.slice (some ⟨b, off, none⟩) n cap) rfl (by kernel_rfl) (fun _ _ _ h => (h : False).elim) (by kernel_rfl) (fun _ => ‹_›) ?_ ?_
          · intro w _; go_simp
          try simp only [ga, gb, gc, Act.put, gd, ge, gf]
          refine tkA 7 (.int .i64 A) rfl (by kernel_rfl) (fun _ _ _ h => (h : False).elim) (by kernel_rfl) (fun _ => ‹_›) ?_ ?_
          · intro w _; go_simp
          try simp only [ga, gb, gc, Act.put, gd, ge, gf]
          refine tkA 8 (.int .i64 j) rfl (by kernel_rfl) (fun _ _ _ h => (h : False).elim) (by kernel_rfl) (fun _ => ‹_›) ?_ ?_
          · intro w _; go_simp
          try simp only [ga, gb, gc, Act.put, gd, ge, gf]
          refine tkA 9 (.int .i64 (24 * j)) rfl (by kernel_rfl) (fun _ _ _ h => (h : False).elim) (by kernel_rfl) (fun _ => ‹_›) ?_ ?_
          · intro w _; go_simp
          try simp only [ga, gb, gc, Act.put, gd, ge, gf]
          refine tkA 10 (.int .i64 (A + 24 * j)) rfl (by kernel_rfl) (fun _ _ _ h => (h : False).elim) (by kernel_rfl) (fun _ => ‹_›) ?_ ?_
          · intro w _; go_simp
          try simp only [ga, gb, gc, Act.put, gd, ge, gf]
          refine tkA 11 (.int .i64 (A + 24 * j + 16 : Nat)) rfl (by kernel_rfl) (fun _ _ _ h => (h : False).elim) (by kernel_rfl) (fun _ => ‹_›) ?_ ?_
          · intro w _; go_simp
          try simp only [ga, gb, gc, Act.put, gd, ge, gf]
          refine wpAnyL_next (i := 12) (by kernel_rfl) rfl (fun K hK => ?_)
          go_simp
          refine (wordat_calls b off n cap (A + 24 * j + 16) bs (by omega) h6k hcap wd HBD.out).mono ?_; rintro e wz ⟨⟨id, rfl⟩, hwz⟩
          rw [hwz]
          clear hwz wz
          go_wp2_with fail
          refine hK.out _ _ hS (fun hHeld => ?_)
          clear hK K
          try simp only [ga, gb, gc, Act.put, gd, ge, gf]
          refine tkA 13 (.agg #[.int .i64 x, .int .i64 y, .int .u64 id]) rfl (by kernel_rfl) (fun _ _ _ h => (h : False).elim) (by kernel_rfl) (fun _ => ‹_›) ?_ ?_
          · intro w _; go_simp
          try simp only [ga, gb, gc, Act.put, gd, ge, gf]
          refine wpAnyL_next (i := 14) (by kernel_rfl) rfl (fun K hK => ?_)
          go_simp
          go_wp2_with fail
          obtain ⟨y1, hye1⟩ : ∃ y1, wd.alloc (.cells #[.int .i64 x, .int .i64 y, .int .u64 id] 45) = y1 := ⟨_, rfl⟩
          obtain ⟨gy, hgy⟩ : ∃ gy, wd.heap.size = gy := ⟨_, rfl⟩
          have hky : Keeps (fun _ => False) wd y1 := by rw [← hye1]; exact (Keeps.refl _ _).alloc _
          have hgc : y1.heap[gy]? = some (.cells #[.int .i64 x, .int .i64 y, .int .u64 id] 45 (0, 0)) := by rw [← hye1, ← hgy]; exact heap_alloc_new _ _
          have hry : y1.ownsRow w7.heap.size 45 3 (.slice aq j cq) j xs := by rw [← hye1]; exact HXD.out.alloc _
          have hsy : y1.heap.size = gy + 1 := by rw [← hye1, ← hgy]; simp
          rw [hye1]
          try rw [hgy]
          have hSy : y1.cell? ⟨q + 1, 6, none⟩ = some (.slice aq j cq) ∧ y1.cell? ⟨bl, ol + j * 2, none⟩ = some (.int .i64 x) ∧ y1.cell? ⟨bl, ol + j * 2 + 1, none⟩ = some (.int .i64 y) := ⟨((hky).cell (p := ⟨q + 1, 6, none⟩) hgxd (fun h => h)).trans hS.1, ((hky).cell (p := ⟨bl, ol + j * 2, none⟩) hbld (fun h => h)).trans hS.2.1, ((hky).cell (p := ⟨bl, ol + j * 2 + 1, none⟩) hbld (fun h => h)).trans hS.2.2⟩
          refine hK.out _ _ hSy (fun hHeld => ?_)
          clear hK K
          try simp only [ga, gb, gc, Act.put, gd, ge, gf]
          refine wpAnyL_next (i := 15) (by kernel_rfl) rfl (fun K hK => ?_)
          rw [if_pos (by rfl)]
          refine wp_append_atW (.tmp 80) (.tmp 93) 33 rfl w7.heap.size 45 i1 (.agg #[.int .i64 0, .int .i64 0, .int .u64 0]) 3 24 Tryz.underlying33 hi1 hy0 hy1 hy2 rfl (by decide) (.slice aq j cq) j xs rfl hry (some ⟨gy, 0, none⟩) 1 1 [.int .i64 x, .int .i64 y, .int .u64 id] rfl (fun h => by cases h) rfl ?_ ?_ (by unfold maxLen; omega) (by omega) (by omega) ?_
          · intro ad had j u hj
            injection had with had
            subst had
            have hadd : (⟨gy, 0, none⟩ : Addr).add j = ⟨gy, 0 + j, none⟩ := by unfold Addr.add; split <;> simp_all
            rw [hadd, cell_of_row _ _ _ _ _ _ hgc, Nat.zero_add]
            simpa using hj
          · intro u hu; simp at hu; rcases hu with rfl | rfl | rfl <;> rfl
          intro v6 w9 r6 hg6 hat6
          obtain ⟨ao6, c6, rfl⟩ := shape_own r6
          have hk9 : Keeps (fun i => some i = (Value.slice aq j cq).ownBlock) y1 w9 := (Keeps.refl (fun i => some i = (Value.slice aq j cq).ownBlock) y1).grown hg6 (fun j h1 _ => h1.symm)
          have hS9 : w9.cell? ⟨q + 1, 6, none⟩ = some (.slice aq j cq) ∧ w9.cell? ⟨bl, ol + j * 2, none⟩ = some (.int .i64 x) ∧ w9.cell? ⟨bl, ol + j * 2 + 1, none⟩ = some (.int .i64 y) := ⟨((hk9).cell (p := ⟨q + 1, 6, none⟩) (show q + 1 < y1.heap.size by omega) hng).trans hSy.1, ((hk9).cell (p := ⟨bl, ol + j * 2, none⟩) (show bl < y1.heap.size by omega) hnb).trans hSy.2.1, ((hk9).cell (p := ⟨bl, ol + j * 2 + 1, none⟩) (show bl < y1.heap.size by omega) hnb).trans hSy.2.2⟩
          have HG9 := Lib.hid ((hk9.block (q + 1) (by omega) hng).trans ((hky.block (q + 1) hgxd (fun h => h)).trans HGD.out))
          have d6 := cells_at HG9.out 6
          have g6 := two_frozen HG9.out 6
          refine hK.out _ _ hS9 (fun hHeld => ?_)
          clear hK K
          try simp only [ga, gb, gc, Act.put, gd, ge, gf]
          refine tkA 16 (.pointer (some ⟨q + 1, 6, none⟩)) rfl (by kernel_rfl) (fun _ _ _ h => (h : False).elim) (by kernel_rfl) (fun _ => ‹_›) ?_ ?_
          · intro w _; go_simp
          try simp only [ga, gb, gc, Act.put, gd, ge, gf]
          refine wpAnyL_late (i := 17) (by kernel_rfl) rfl (by kernel_rfl) (fun K hK => ?_)
          go_simp
          refine hK.out _ _ (fun _ => ?_)
          clear hK K
          try simp only [ga, gb, gc, Act.put, gd, ge, gf]
          refine wpAnyL_done (by kernel_rfl) ?_ _
          refine NoPanic.normal ?_
          clear hS hSy hS9
          have HK9 := Lib.hid (show Keeps (fun j => j = q + 1) w7 w9 from (HWD.out.trans hky (fun _ _ h => h.elim)).trans hk9 (fun i hi h => by have := (hry.lt i h.symm).1; omega))
          have HR6 := Lib.hid r6
          clear hk9 hky r6 hry hg6 hat6 d6 g6
          go_wp2_with fail
          go_roundw
          case rel => exact ⟨j + 1, by omega, by go_num, _, _, cells_put HG9.out 6 _, _, Lib.hid (row_set HR6.out (by omega) _), Lib.hid (HK9.out.setCell ⟨q + 1, 6, none⟩ (fun _ => rfl) _)⟩
          case measure => simp [intOf]; omega
        · obtain rfl : j = NQ := by omega
          have hl0x : w.heap.size < w7.heap.size := by omega
          have hzq : ¬ w.heap.size = q + 1 := by omega
          have hk0x : Keeps (fun j => j = q + 1) w0 wr := (((knil hk1 hk2).mono (fun _ _ h => h.elim)).trans (hk3.mono (fun _ _ h => h.elim)) (fun _ _ h => h)).trans (HK37.out.trans HWX.out (fun _ _ h => h)) (fun _ _ h => h)
          have HZX := Lib.hid ((hk0x.block w.heap.size hl0 hzq).trans HG0.out)
          have c0 := cells_at HGX.out 0
          have c1 := cells_at HGX.out 1
          have c2 := cells_at HGX.out 2
          have c3 := cells_at HGX.out 3
          have c4 := cells_at HGX.out 4
          have c5 := cells_at HGX.out 5
          have c6 := cells_at HGX.out 6
          have z0 := cells_at HZX.out 0
          have z1 := cells_at HZX.out 1
          have z2 := cells_at HZX.out 2
          have z3 := cells_at HZX.out 3
          have z4 := cells_at HZX.out 4
          have z5 := cells_at HZX.out 5
          have z6 := cells_at HZX.out 6
          have f0 := two_frozen HZX.out 0
          have f1 := two_frozen HZX.out 1
          have f2 := two_frozen HZX.out 2
          have f3 := two_frozen HZX.out 3
          have f4 := two_frozen HZX.out 4
          have f5 := two_frozen HZX.out 5
          have f6 := two_frozen HZX.out 6
          have hkwx : Keeps (fun _ => False) w wr := hk0.trans hk0x (fun i hi h => by have := hk0.size; omega)
          have HRX := Lib.hid (HR7.out.off HWX.out (fun i hi _ h => by omega))
          go_wp2_with fail
          refine bodyPost_ret (results_req18 rfl _ _ _ _ _ _ _ _ _ _ _ _ rfl (cells_seven HZX.out)) rfl (rdec_ret (RowsAt.regs (HRX.out.off (kput7 wr w.heap.size _ _ _ _ _ _ _) (fun i hi _ h => by omega))) (keeps_seven hkwx (Nat.le_refl _) _ _ _ _ _ _ _))
theorem rdecode_calls (v : Value) (bs : List Int) (h6k : bs.length ≤ 6000) (w : World) (hv : byAt w v bs) : Calls Tryz.prog 31 #[v] w (RDec w) := by
  by_cases hE : clsE bs = 0
  · exact rdecode_good v bs h6k w hv hE
  · have hC := fun W (hk : Keeps (fun _ => False) w W) => rclassify_calls v bs W (hv.kept hk)
    obtain ⟨ao, cap, rfl⟩ : ∃ ao cap, v = .slice ao bs.length cap := by
      rcases hv.2 with ⟨rfl, ao, cap, rfl⟩ | ⟨b, off, cap, rfl, _⟩
      · exact ⟨ao, cap, rfl⟩
      · exact ⟨_, _, rfl⟩
    exact rdecode_bad ao _ cap _ hE w hC
end Go.Proofs.YtmoajobnhiopiaaGreatDoor.sv
set_option linter.unusedSimpArgs false
set_option linter.unusedVariables false
namespace Go.Proofs.YtmoajobnhiopiaaGreatDoor.sv
open Go Go.RowKit Go.Shelf Go.Maps Go.Proofs.YtmoajobnhiopiaaGreatDoor.mk Go.Proofs.YtmoajobnhiopiaaGreatDoor.tp Go.Proofs.YtmoajobnhiopiaaGreatDoor.rg Go.Proofs.YtmoajobnhiopiaaGreatDoor.lm Go.Proofs.YtmoajobnhiopiaaGreatDoor.gm Go.Proofs.YtmoajobnhiopiaaGreatDoor.po
def Told (w : World) (e : Ending) (w' : World) : Prop := (∃ r : Int, e = .returned (.int .i64 r) ∧ (r = 0 ∨ r = 1)) ∧ Keeps (fun _ => False) w w'
set_option maxRecDepth 100000 in
set_option maxHeartbeats 4000000 in
theorem large19_calls (h0 h1 h3 : Int) (ah ar ap aq : Option Addr) (nh ch nr cr np cp nq cq : Nat) (l : List Reg) (w : World) (h : regsAt w (.slice ar nr cr) l) : Calls Tryz.prog 58 #[.agg #[.int .i64 h0, .int .i64 h1, .slice ah nh ch, .int .i64 h3, .slice ar nr cr, .slice ap np cp, .slice aq nq cq]] w (Told w) := by
  have HLA := Lib.hid (fun W (hk : Keeps (fun _ => False) w W) => large_calls _ l W (h.kept hk))
  clear h
  go_enter Tryz.func58, Tryz.ntmps58
  go_upto_region 1 with fail
  obtain ⟨w1, hw1⟩ : ∃ w1, w.alloc (.cells #[.int .i64 h0, .int .i64 h1, .slice ah nh ch, .int .i64 h3, .slice ar nr cr, .slice ap np cp, .slice aq nq cq] 103) = w1 := ⟨_, rfl⟩
  obtain ⟨g1, hg1⟩ : ∃ g, w.heap.size = g := ⟨_, rfl⟩
  have hg := heap_alloc_new w (.cells #[.int .i64 h0, .int .i64 h1, .slice ah nh ch, .int .i64 h3, .slice ar nr cr, .slice ap np cp, .slice aq nq cq] 103)
  have hk1 : Keeps (fun _ => False) w w1 := by rw [← hw1]; exact (Keeps.refl _ w).alloc _
  rw [hw1, hg1] at hg
  rw [hw1]
  try rw [hg1]
  have hl1 : g1 < w1.heap.size := (Array.getElem?_eq_some_iff.1 hg).1
  have HGB := Lib.hid hg
  have c0 := cells_at hg 0
  have c1 := cells_at hg 1
  have c2 := cells_at hg 2
  have c3 := cells_at hg 3
  have c4 := cells_at hg 4
  have c5 := cells_at hg 5
  have c6 := cells_at hg 6
  clear hw1 hg1 hg
  go_wp2_with fail
  refine (HLA.out w1 hk1).mono ?_; rintro e w2 ⟨⟨r, rfl, hr⟩, hk2⟩
  have hkw := knil hk1 hk2
  have hg := (hk2.block _ hl1 (fun h => h)).trans HGB.out
  clear c0 c1 c2 c3 c4 c5 c6
  have c0 := cells_at hg 0
  have c1 := cells_at hg 1
  have c2 := cells_at hg 2
  have c3 := cells_at hg 3
  have c4 := cells_at hg 4
  have c5 := cells_at hg 5
  have c6 := cells_at hg 6
  clear hg
  rcases hr with ⟨rfl, _⟩ | rfl
  · by_cases h1 : 100 < nh
    · have hd1 : decide ((100 : Int) < (nh : Int)) = true := decide_eq_true (by omega)
      clear h1
      go_wp2_with fail
      go_ret
      exact ⟨⟨1, rfl, .inr rfl⟩, hkw⟩
    · have hd1 : decide ((100 : Int) < (nh : Int)) = false := decide_eq_false (by omega)
      clear h1
      by_cases h2 : 100 < np
      · have hd2 : decide ((100 : Int) < (np : Int)) = true := decide_eq_true (by omega)
        clear h2
        go_wp2_with fail
        go_ret
        exact ⟨⟨1, rfl, .inr rfl⟩, hkw⟩
      · have hd2 : decide ((100 : Int) < (np : Int)) = false := decide_eq_false (by omega)
        clear h2
        by_cases h3 : 1000 < nq
        · have hd3 : decide ((1000 : Int) < (nq : Int)) = true := decide_eq_true (by omega)
          clear h3
          go_wp2_with fail
          go_ret
          exact ⟨⟨1, rfl, .inr rfl⟩, hkw⟩
        · have hd3 : decide ((1000 : Int) < (nq : Int)) = false := decide_eq_false (by omega)
          clear h3
          go_wp2_with fail
          go_ret
          exact ⟨⟨0, rfl, .inl rfl⟩, hkw⟩
  · go_wp2_with fail
    go_ret
    exact ⟨⟨1, rfl, .inr rfl⟩, hkw⟩
set_option maxRecDepth 100000 in
set_option maxHeartbeats 4000000 in
theorem skip21_calls (h0 h1 h3 : Int) (ah ar ap aq : Option Addr) (nh ch nr cr np cp nq cq : Nat) (l : List Reg) (w : World) (h : regsAt w (.slice ar nr cr) l) : Calls Tryz.prog 32 #[.agg #[.int .i64 h0, .int .i64 h1, .slice ah nh ch, .int .i64 h3, .slice ar nr cr, .slice ap np cp, .slice aq nq cq]] w (Told w) := by
  have HLA := Lib.hid (fun W (hk : Keeps (fun _ => False) w W) => large19_calls h0 h1 h3 ah ar ap aq nh ch nr cr np cp nq cq l W (h.kept hk))
  have HSK := Lib.hid (fun W (hk : Keeps (fun _ => False) w W) => skip20_calls _ l aq nq cq W (h.kept hk))
  clear h
  go_enter Tryz.func32, Tryz.ntmps32
  go_upto_region 1 with fail
  obtain ⟨w1, hw1⟩ : ∃ w1, w.alloc (.cells #[.int .i64 h0, .int .i64 h1, .slice ah nh ch, .int .i64 h3, .slice ar nr cr, .slice ap np cp, .slice aq nq cq] 66) = w1 := ⟨_, rfl⟩
  obtain ⟨g1, hg1⟩ : ∃ g, w.heap.size = g := ⟨_, rfl⟩
  have hg := heap_alloc_new w (.cells #[.int .i64 h0, .int .i64 h1, .slice ah nh ch, .int .i64 h3, .slice ar nr cr, .slice ap np cp, .slice aq nq cq] 66)
  have hk1 : Keeps (fun _ => False) w w1 := by rw [← hw1]; exact (Keeps.refl _ w).alloc _
  rw [hw1, hg1] at hg
  rw [hw1]
  try rw [hg1]
  have hl1 : g1 < w1.heap.size := (Array.getElem?_eq_some_iff.1 hg).1
  have HGB := Lib.hid hg
  have c0 := cells_at hg 0
  have c1 := cells_at hg 1
  have c2 := cells_at hg 2
  have c3 := cells_at hg 3
  have c4 := cells_at hg 4
  have c5 := cells_at hg 5
  have c6 := cells_at hg 6
  clear hw1 hg1 hg
  go_wp2_with fail
  refine (HLA.out w1 hk1).mono ?_; rintro e w2 ⟨⟨r, rfl, hr⟩, hk2⟩
  have hkw := knil hk1 hk2
  have hg := (hk2.block _ hl1 (fun h => h)).trans HGB.out
  clear c0 c1 c2 c3 c4 c5 c6
  have c0 := cells_at hg 0
  have c1 := cells_at hg 1
  have c2 := cells_at hg 2
  have c3 := cells_at hg 3
  have c4 := cells_at hg 4
  have c5 := cells_at hg 5
  have c6 := cells_at hg 6
  clear hg
  rcases hr with rfl | rfl
  · go_wp2_with fail
    refine (HSK.out w2 hkw).mono ?_; rintro e w3 ⟨⟨r, rfl, hr⟩, hk3⟩
    have hkw3 := knil hkw hk3
    rcases hr with ⟨rfl, _⟩ | rfl
    · go_wp2_with fail
      go_ret
      exact ⟨⟨0, rfl, .inl rfl⟩, hkw3⟩
    · go_wp2_with fail
      go_ret
      exact ⟨⟨1, rfl, .inr rfl⟩, hkw3⟩
  · go_wp2_with fail
    go_ret
    exact ⟨⟨1, rfl, .inr rfl⟩, hkw⟩
def SkB (w : World) (n : Nat) (e : Ending) (w' : World) : Prop := (∃ r : Int, e = .returned (.int .i64 r) ∧ (r = 0 ∧ n ≤ 6000 ∨ r = 1)) ∧ Keeps (fun _ => False) w w'
set_option maxRecDepth 100000 in
set_option maxHeartbeats 4000000 in
theorem skipbytes_calls (v : Value) (bs : List Int) (w : World) (hv : byAt w v bs) : Calls Tryz.prog 8 #[v] w (SkB w bs.length) := by
  have HD := Lib.hid (fun (h6k : bs.length ≤ 6000) => rdecode_calls v bs h6k w hv)
  obtain ⟨ao, cap, rfl⟩ : ∃ ao cap, v = .slice ao bs.length cap := by
    rcases hv.2 with ⟨rfl, ao, cap, rfl⟩ | ⟨b, off, cap, rfl, _⟩
    · exact ⟨ao, cap, rfl⟩
    · exact ⟨_, _, rfl⟩
  clear hv
  generalize bs.length = n at HD ⊢
  by_cases h6 : 6000 < n
  · have hd : decide ((6000 : Int) < (n : Int)) = true := decide_eq_true (by omega)
    clear h6 HD
    go_enter Tryz.func8, Tryz.ntmps8
    go_wp2_with fail
    go_ret
    exact ⟨⟨1, rfl, .inr rfl⟩, Keeps.refl _ _⟩
  · have hd : decide ((6000 : Int) < (n : Int)) = false := decide_eq_false (by omega)
    have H6 := Lib.hid (show n ≤ 6000 by omega)
    have HDC := Lib.hid (HD.out H6.out)
    clear h6 HD
    go_enter Tryz.func8, Tryz.ntmps8
    go_wp2_with fail
    refine HDC.out.mono ?_; rintro e w0 ⟨⟨h0, h1, ah, nh, ch, h3, ar, nr, cr, ap, np, cp, aq, nq, cq, x, rfl, l, hr⟩, hk0⟩
    have HR := Lib.hid hr
    clear hr
    go_upto_region 4 with fail
    obtain ⟨w1, hw1⟩ : ∃ w1, w0.alloc (.cells #[.int .i64 h0, .int .i64 h1, .slice ah nh ch, .int .i64 h3, .slice ar nr cr, .slice ap np cp, .slice aq nq cq] 62) = w1 := ⟨_, rfl⟩
    obtain ⟨g1, hg1⟩ : ∃ g, w0.heap.size = g := ⟨_, rfl⟩
    have hg := heap_alloc_new w0 (.cells #[.int .i64 h0, .int .i64 h1, .slice ah nh ch, .int .i64 h3, .slice ar nr cr, .slice ap np cp, .slice aq nq cq] 62)
    have hk1 : Keeps (fun _ => False) w0 w1 := by rw [← hw1]; exact (Keeps.refl _ w0).alloc _
    rw [hw1, hg1] at hg
    rw [hw1]
    try rw [hg1]
    have hkw := knil hk0 hk1
    have c0 := cells_at hg 0
    have c1 := cells_at hg 1
    have c2 := cells_at hg 2
    have c3 := cells_at hg 3
    have c4 := cells_at hg 4
    have c5 := cells_at hg 5
    have c6 := cells_at hg 6
    clear hw1 hg1 hg
    by_cases hx : x = 0
    · have hx1 : (x != 0) = false := by simp [hx]
      have HSK := Lib.hid (skip21_calls h0 h1 h3 ah ar ap aq nh ch nr cr np cp nq cq l w1 (HR.out.kept hk1))
      clear hx
      go_wp2_with fail
      refine HSK.out.mono ?_; rintro e w2 ⟨⟨r, rfl, hr⟩, hk2⟩
      go_wp2_with fail
      go_ret
      refine ⟨⟨r, rfl, ?_⟩, knil hkw hk2⟩
      rcases hr with h | h
      · exact .inl ⟨h, H6.out⟩
      · exact .inr h
    · have hx1 : (x != 0) = true := by simp [hx]
      clear hx
      go_wp2_with fail
      go_ret
      exact ⟨⟨0, rfl, .inl ⟨rfl, H6.out⟩⟩, hkw⟩
def bfl (l : List Int) : List Value := l.map (Value.int .u8)
theorem bfl_length (l : List Int) : (bfl l).length = l.length := by unfold bfl; simp
theorem bfl_one (l : List Int) : ∀ u ∈ bfl l, u.oneCell' = true := by
  intro u hu
  unfold bfl at hu
  obtain ⟨x, _, rfl⟩ := List.mem_map.1 hu
  rfl
theorem bfl_get {l : List Int} {i : Nat} (h : i < l.length) : (bfl l)[i]? = some (.int .u8 (bt l i)) := by
  unfold bfl bt
  rw [List.getElem?_map, List.getElem?_eq_getElem h]
  rfl
def BCloneOf (w : World) (l : List Int) (e : Ending) (w' : World) : Prop := (∃ v, e = .returned v ∧ w'.ownsRow w.heap.size 5 1 v l.length (bfl l)) ∧ Keeps (fun _ => False) w w'
theorem bclone_nil (c : Nat) (w : World) : Calls Tryz.prog 11 #[.slice none 0 c] w (BCloneOf w []) := by
  have hnil : ∀ w, (binOp .eql 22 (.slice none 0 c) (.slice none 0 0)).run Tryz.prog w = .ok (.bool true) w := fun w => Lib.run_eql_slice_nil w 22 5 none 0 c 0 0 Tryz.underlying22
  go_enter Tryz.func11, Tryz.ntmps11
  go_wp2
  go_ret
  exact ⟨⟨.slice none 0 0, rfl, World.ownsRow_nil _ _ _ _⟩, Keeps.refl _ _⟩
set_option maxRecDepth 100000 in
theorem bclone_some (ad : Addr) (n cap : Nat) (l : List Int) (w : World) (hl : n ≤ 1099511627776) (hn : (bfl l).length = n * 1) (h : ∀ j u, (bfl l)[j]? = some u → w.cell? (ad.add j) = some u) : Calls Tryz.prog 11 #[.slice (some ad) n cap] w (BCloneOf w l) := by
  have hnil : ∀ w, (binOp .eql 22 (.slice (some ad) n cap) (.slice none 0 0)).run Tryz.prog w = .ok (.bool false) w := fun w => Lib.run_eql_slice_nil w 22 5 (some ad) n cap 0 0 Tryz.underlying22
  obtain ⟨i0, hi, hz0, hz1, hz2⟩ := info_parts infoB
  have Hn := Lib.hid hn
  clear hn
  have hrow := World.ownsRow_made w (base := w.heap.size) (e := 5) (size := 1) #[] 0 (Nat.le_refl _) (by simp) rfl
  go_enter Tryz.func11, Tryz.ntmps11
  go_wp2_with (at_builtin; refine wpList_append_own _ rfl _ _ 22 rfl w.heap.size 5 i0 (.int .u8 0) 1 1 Tryz.underlying22 hi hz0 hz1 hz2 rfl (by decide) _ _ _ rfl hrow ad n cap (bfl l) rfl Hn.out ?c1 ?c2 ?c3 ?c4 ?c5 ?_)
  case c1 =>
    intro j u hj
    have hc := h j u hj
    have hlt := World.block_lt_of_cell? w _ hc
    rw [World.cell?_of_block (w := w) (Below.heap_alloc w _ _ hlt)]
    exact hc
  case c2 => exact bfl_one l
  case c3 => unfold maxLen; omega
  case c4 => omega
  case c5 => simp
  intro v' w1 hown1 hgrow1 _
  go_wp2
  go_ret
  have hn : n = l.length := by
    have h1 := Hn.out
    rw [bfl_length] at h1
    omega
  subst hn
  exact ⟨⟨v', rfl, by simpa using hown1⟩, ((Keeps.refl _ w).alloc _).grown hgrow1 (fun k e hk => by cases e; exact absurd hk (Nat.lt_irrefl _))⟩
theorem bclone_calls (v : Value) (bs : List Int) (w : World) (hl : bs.length ≤ 1099511627776) (h : byAt w v bs) : Calls Tryz.prog 11 #[v] w (BCloneOf w bs) := by
  rcases h.2 with ⟨rfl, ao, cap, rfl⟩ | ⟨b, off, cap, rfl, hcap, hb, hc⟩
  · cases ao with
    | none => exact bclone_nil cap w
    | some ad => exact bclone_some ad 0 cap [] w (by omega) rfl (fun j u hj => by simp [bfl] at hj)
  · refine bclone_some _ _ cap bs w hl (by rw [bfl_length]; omega) (fun j u hj => ?_)
    have hj' : j < bs.length := by
      have := (List.getElem?_eq_some_iff.1 hj).1
      rwa [bfl_length] at this
    rw [bfl_get hj'] at hj
    cases hj
    have hadd : (⟨b, off, none⟩ : Addr).add j = ⟨b, off + j, none⟩ := by unfold Addr.add; split <;> simp_all
    rw [hadd]
    exact hc j hj'
end Go.Proofs.YtmoajobnhiopiaaGreatDoor.sv
set_option linter.unusedSimpArgs false
set_option linter.unusedVariables false
namespace Go.Proofs.YtmoajobnhiopiaaGreatDoor.sv
open Go Go.RowKit Go.Shelf Go.Maps Go.Proofs.YtmoajobnhiopiaaGreatDoor.mk Go.Proofs.YtmoajobnhiopiaaGreatDoor.tp Go.Proofs.YtmoajobnhiopiaaGreatDoor.rg Go.Proofs.YtmoajobnhiopiaaGreatDoor.lm Go.Proofs.YtmoajobnhiopiaaGreatDoor.gm Go.Proofs.YtmoajobnhiopiaaGreatDoor.po
theorem regsB_same {bs cs : List Int} {k : Nat} (h : ∀ i, i < k → bt cs (2 + i) = bt bs (2 + i)) : regsB cs k = regsB bs k := by
  unfold regsB
  exact List.map_congr_left (fun i hi => by rw [h i (List.mem_range.1 hi)])
theorem parH_of {bs : List Int} (hE : parE bs = 0) : parH bs = ⟨bt bs 0, if bt bs 0 = 3 then bt bs 1 else 0, if 4 ≤ bt bs 0 then regsB bs (parK bs) else [], if bt bs 0 = 5 then ptsN bs else 0⟩ := by
  unfold parH
  rw [if_neg (fun h : parE bs ≠ 0 => h hE)]
theorem parN_of {bs : List Int} (hE : parE bs = 0) : parN bs = if bt bs 0 < 3 then 1 else if bt bs 0 = 3 then 2 else if bt bs 0 = 4 then 2 + parK bs else 4 + parK bs := by
  unfold parN
  rw [if_neg (fun h : parE bs ≠ 0 => h hE)]
theorem head_same {bs cs : List Int} (hE : parE bs = 0) (hl : cs.length = bs.length) (h : ∀ i, i < parN bs → bt cs i = bt bs i) : parE cs = 0 ∧ parH cs = parH bs ∧ parN cs = parN bs := by
  have hn := parN_le hE
  have hN := parN_of hE
  have h0 := h 0 (by omega)
  obtain ⟨hl1, h12 | ⟨h3, hl2, hv⟩ | ⟨hop, hk, hw⟩⟩ := parE_zero hE
  · have hc : parE cs = 0 := by
      unfold parE
      rw [h0, hl, if_neg (by omega), if_neg (by omega), if_pos (by omega)]
    have e3 : ¬ bt bs 0 = 3 := by omega
    have e4 : ¬ 4 ≤ bt bs 0 := by omega
    have e5 : ¬ bt bs 0 = 5 := by omega
    have e2 : bt bs 0 < 3 := by omega
    refine ⟨hc, ?_, ?_⟩
    · rw [parH_of hc, parH_of hE, h0]
      simp only [e3, e4, e5, if_false]
    · rw [parN_of hc, parN_of hE, h0]
      simp only [e2, if_true]
  · have hN2 : parN bs = 2 := by rw [hN, if_neg (by omega), if_pos h3]
    have h1 := h 1 (by omega)
    have hc : parE cs = 0 := by
      unfold parE
      rw [h0, hl, h1, if_neg (by omega), if_neg (by omega), if_neg (by omega), if_neg (by omega), if_pos h3, if_neg (by omega)]
    have e4 : ¬ 4 ≤ bt bs 0 := by omega
    have e5 : ¬ bt bs 0 = 5 := by omega
    have e2 : ¬ bt bs 0 < 3 := by omega
    refine ⟨hc, ?_, ?_⟩
    · rw [parH_of hc, parH_of hE, h0, h1]
      simp only [e4, e5, if_false]
    · rw [parN_of hc, parN_of hE, h0]
      simp only [e2, h3, if_false, if_true]
  · have h45 : bt bs 0 = 4 ∨ bt bs 0 = 5 := by
      rcases hop with ⟨h, _⟩ | ⟨h, _⟩
      · exact .inl h
      · exact .inr h
    have hNk : 2 + parK bs ≤ parN bs := by
      rw [hN, if_neg (by omega), if_neg (by omega)]
      split <;> omega
    have h1 := h 1 (by omega)
    have hK : parK cs = parK bs := by unfold parK; rw [h1]
    have hR : regsB cs (parK bs) = regsB bs (parK bs) := regsB_same (fun i hi => h (2 + i) (by omega))
    have e3 : ¬ bt bs 0 = 3 := by omega
    have e2 : ¬ bt bs 0 < 3 := by omega
    rcases hop with ⟨h4, hl2⟩ | ⟨h5, hl4, hp⟩
    · have hc : parE cs = 0 := by
        rw [parE_rs (.inl (by rw [h0]; exact h4)) (by rw [h1]; exact hk) (by rw [hK, hl]; exact hl2), hK, hR, if_neg (by rw [hw]; decide), h0, if_pos h4]
      have e5 : ¬ bt bs 0 = 5 := by omega
      refine ⟨hc, ?_, ?_⟩
      · rw [parH_of hc, parH_of hE, h0, hK, hR, h1]
        simp only [e5, if_false]
      · rw [parN_of hc, parN_of hE, h0, hK]
    · have hN4 : parN bs = 4 + parK bs := by rw [hN, if_neg (by omega), if_neg (by omega), if_neg (by omega)]
      have hP : ptsN cs = ptsN bs := by
        unfold ptsN
        rw [hK, h (2 + parK bs) (by omega), h (3 + parK bs) (by omega)]
      have hc : parE cs = 0 := by
        rw [parE_rs (.inr (by rw [h0]; exact h5)) (by rw [h1]; exact hk) (by rw [hK, hl]; omega), hK, hR, if_neg (by rw [hw]; decide), h0, if_neg (by omega), hl, if_neg (by omega), hP, if_pos hp]
      refine ⟨hc, ?_, ?_⟩
      · rw [parH_of hc, parH_of hE, h0, hK, hR, hP, h1]
      · rw [parN_of hc, parN_of hE, h0, hK]
theorem cls_same {bs cs : List Int} (hE : parE bs = 0) (hl : cs.length = bs.length) (h : ∀ i, i < parN bs → bt cs i = bt bs i) : clsE cs = clsE bs := by
  obtain ⟨h1, h2, h3⟩ := head_same hE hl h
  unfold clsE
  rw [h1, h2, h3, hl, hE]
def rspN (h : Hd) : Nat := 2 + (if h.op = 5 then 2 else 0) + 9 * h.pts.toNat
theorem flat9 (l : List (Int × Int)) : (l.flatMap fun r => IntKind.u8.wrap r.1 :: le8 r.2).length = 9 * l.length := by
  induction l with
  | nil => rfl
  | cons r l ih =>
    rw [List.flatMap_cons, List.length_append, ih, List.length_cons, List.length_cons, le8_length]
    omega
theorem servI_zero {bs : List Int} (hB : ∀ x ∈ bs, IsB x) (hE : clsE bs = 0) : (servI bs).length = rspN (parH bs) ∧ bt (servI bs) 0 = 0 := by
  have ho := hdOk_parse (clsE_zero hE).1
  obtain ⟨_, _, hl, _⟩ := ans_ok ho (req_fits hE) (req_qs hB)
  unfold servI
  rw [if_neg (fun h => h hE)]
  generalize parH bs = h at hl ⊢
  generalize ansL h (reqR bs) (reqQ bs) = l at hl ⊢
  unfold respI rspN
  refine ⟨?_, ?_⟩
  · rw [List.length_append, List.length_append, flat9, ← hl, Int.toNat_natCast]
    split <;> rfl
  · rfl
theorem servI_err {bs : List Int} (hE : clsE bs ≠ 0) : servI bs = [clsE bs] := by
  unfold servI
  rw [if_pos hE]
end Go.Proofs.YtmoajobnhiopiaaGreatDoor.sv
set_option linter.unusedSimpArgs false
set_option linter.unusedVariables false
namespace Go.Proofs.YtmoajobnhiopiaaGreatDoor.sv
open Go Go.RowKit Go.Shelf Go.Maps Go.Proofs.YtmoajobnhiopiaaGreatDoor.mk Go.Proofs.YtmoajobnhiopiaaGreatDoor.tp Go.Proofs.YtmoajobnhiopiaaGreatDoor.rg Go.Proofs.YtmoajobnhiopiaaGreatDoor.lm Go.Proofs.YtmoajobnhiopiaaGreatDoor.gm Go.Proofs.YtmoajobnhiopiaaGreatDoor.po
theorem servI_nil : servI [] = [4] := by kernel_rfl
theorem servI_one : servI (1 :: bsA) = [0, 2] := by kernel_rfl
theorem by_nil {w : World} : byAt w (.slice none 0 0) [] := ⟨(fun x hx => by cases hx), .inl ⟨rfl, _, _, rfl⟩⟩
theorem by_bsA {w : World} {b : Nat} (h0 : w.cell? ⟨b, 0, none⟩ = some (.int .u8 1)) (h : BytesAt w b 1 bsA) : byAt w (.slice (some ⟨b, 0, none⟩) 49 49) (1 :: bsA) := by
  refine ⟨fun x hx => ?_, .inr ⟨b, 0, 49, rfl, by decide, h.1, fun i hi => ?_⟩⟩
  · rcases List.mem_cons.1 hx with rfl | hx
    · unfold IsB; decide
    · exact h.2.1 x hx
  · cases i with
    | zero => exact h0
    | succ i =>
      have h1 := h.2.2 i (by simpa using hi)
      rw [show 0 + (i + 1) = 1 + i by omega]
      exact h1
set_option maxRecDepth 100000 in
set_option maxHeartbeats 4000000 in
theorem servesG_calls (w : World) (hG : Gl w) : Calls Tryz.prog 9 #[] w fun e w' => e = .returned (.bool true) ∧ Keeps (fun _ => False) w w' := by
  have HG := Lib.hid hG
  clear hG
  go_enter Tryz.func9, Tryz.ntmps9
  have hmk := bsA_made
  go_upto_region 2 with fail
  have hg := heap_alloc_new w (.cells (Array.replicate 49 (Value.int .u8 0)) 5)
  obtain ⟨w1, hw1⟩ : ∃ w1, w.alloc (.cells (Array.replicate 49 (Value.int .u8 0)) 5) = w1 := ⟨_, rfl⟩
  have hk1 : Keeps (fun _ => False) w w1 := by rw [← hw1]; exact (Keeps.refl _ w).alloc _
  rw [hw1] at hg ⊢
  clear hw1 hmk
  have HG1 := Lib.hid hg
  have c0 : w1.cell? ⟨w.heap.size, 0, none⟩ = some (.int .u8 0) := cells_at hg 0
  have c17 : w1.cell? ⟨w.heap.size, 17, none⟩ = some (.int .u8 0) := cells_at hg 17
  have c41 : w1.cell? ⟨w.heap.size, 41, none⟩ = some (.int .u8 0) := cells_at hg 41
  have f0 := two_frozen hg 0
  have f17 := two_frozen hg 17
  have f41 := two_frozen hg 41
  clear hg
  go_upto_region 3 with fail
  obtain ⟨w2, hw2⟩ : ∃ w2, ((w1.setCell ⟨w.heap.size, 0, none⟩ (.int .u8 1)).setCell ⟨w.heap.size, 17, none⟩ (.int .u8 1)).setCell ⟨w.heap.size, 41, none⟩ (.int .u8 1) = w2 := ⟨_, rfl⟩
  have hn : ∀ i, (⟨w.heap.size, i, none⟩ : Addr).block < w.heap.size → False := fun i h => absurd h (Nat.lt_irrefl _)
  have hk2 : Keeps (fun _ => False) w w2 := by rw [← hw2]; exact ((hk1.setCell ⟨w.heap.size, 0, none⟩ (hn 0) _).setCell ⟨w.heap.size, 17, none⟩ (hn 17) _).setCell ⟨w.heap.size, 41, none⟩ (hn 41) _
  have hA := bsA_at (w := w2) (b := w.heap.size) (by rw [← hw2]; exact cells_put (cells_put (cells_put HG1.out 0 _) 17 _) 41 _)
  have HA := Lib.hid hA
  rw [hw2]
  clear hA hw2 c0 c17 c41 f0 f17 f41
  go_wp2_with fail
  have hsn := fun W (hk : Keeps (fun _ => False) w W) => serve_calls (.slice none 0 0) [] W (HG.out.kept hk) by_nil
  rw [servI_nil] at hsn
  have HSN := Lib.hid hsn
  clear hsn
  refine (HSN.out w2 hk2).mono ?_; rintro e w3 ⟨⟨v, rfl, hv⟩, hk3⟩
  obtain ⟨z0, z1, rfl⟩ : ∃ a c, v = .slice a 1 c := by
    rcases hv.2 with ⟨h, _⟩ | ⟨b, o, c, h, _⟩ <;> first | exact ⟨_, _, h⟩ | cases h
  clear hv
  have hk23 := knil hk2 hk3
  go_wp2_with fail
  have hs1 := serve_calls _ (1 :: bsA) w3 (HG.out.kept hk23) ((by_bsA HA.out.1 HA.out.2).kept hk3)
  rw [servI_one] at hs1
  refine hs1.mono ?_; rintro e w4 ⟨⟨v, rfl, hv⟩, hk4⟩
  obtain ⟨z0, z1, rfl⟩ : ∃ a c, v = .slice a 2 c := by
    rcases hv.2 with ⟨h, _⟩ | ⟨b, o, c, h, _⟩ <;> first | exact ⟨_, _, h⟩ | cases h
  have hk24 := knil hk23 hk4
  have HG4 := Lib.hid hv
  clear hv hs1
  go_wp2_with fail
  have hk5 : Keeps (fun _ => False) w4 (w4.alloc (.cells #[.int .u8 0, .int .u8 2] 5)) := (Keeps.refl _ w4).alloc _
  have hx := (HG4.out.kept hk5).bytes
  have hy := bytesAt_cells (bs := [0, 2]) (heap_alloc_new w4 (.cells #[.int .u8 0, .int .u8 2] 5)) (by unfold IsB; decide) rfl 2
  refine (equal_calls _ _ [0, 2] [0, 2] _ hx hy).mono ?_; rintro e w5 ⟨rfl, hw5⟩
  have hk25 : Keeps (fun _ => False) w w5 := by rw [hw5]; exact knil hk24 hk5
  clear hw5 hx hy
  rw [show decide (([0, 2] : List Int) = [0, 2]) = true from rfl]
  go_wp2_with fail
  refine (HSN.out w5 hk25).mono ?_; rintro e w6 ⟨⟨v, rfl, hv⟩, hk6⟩
  obtain ⟨z0, z1, rfl⟩ : ∃ a c, v = .slice a 1 c := by
    rcases hv.2 with ⟨h, _⟩ | ⟨b, o, c, h, _⟩ <;> first | exact ⟨_, _, h⟩ | cases h
  have hk26 := knil hk25 hk6
  have HG6 := Lib.hid hv
  clear hv
  go_wp2_with fail
  have hk7 : Keeps (fun _ => False) w6 (w6.alloc (.cells #[.int .u8 4] 5)) := (Keeps.refl _ w6).alloc _
  have hx := (HG6.out.kept hk7).bytes
  have hy := bytesAt_cells (bs := [4]) (heap_alloc_new w6 (.cells #[.int .u8 4] 5)) (by unfold IsB; decide) rfl 1
  refine (equal_calls _ _ [4] [4] _ hx hy).mono ?_; rintro e w8 ⟨rfl, hw8⟩
  have hk28 : Keeps (fun _ => False) w w8 := by rw [hw8]; exact knil hk26 hk7
  clear hw8 hx hy
  rw [show decide (([4] : List Int) = [4]) = true from rfl]
  go_wp2_with fail
  go_ret
  exact ⟨rfl, hk28⟩
end Go.Proofs.YtmoajobnhiopiaaGreatDoor.sv
set_option linter.unusedSimpArgs false
set_option linter.unusedVariables false
namespace Go.Proofs.YtmoajobnhiopiaaGreatDoor.sv
open Go Go.RowKit Go.Shelf Go.Maps Go.Proofs.YtmoajobnhiopiaaGreatDoor.mk Go.Proofs.YtmoajobnhiopiaaGreatDoor.tp Go.Proofs.YtmoajobnhiopiaaGreatDoor.rg Go.Proofs.YtmoajobnhiopiaaGreatDoor.lm Go.Proofs.YtmoajobnhiopiaaGreatDoor.gm Go.Proofs.YtmoajobnhiopiaaGreatDoor.po
theorem byAt.shape {w : World} {v : Value} {l : List Int} (h : byAt w v l) : ∃ ao cap, v = .slice ao l.length cap := by
  rcases h.2 with ⟨rfl, ao, cap, rfl⟩ | ⟨b, off, cap, rfl, _⟩
  · exact ⟨ao, cap, rfl⟩
  · exact ⟨_, _, rfl⟩
theorem byAt.first {w : World} {ao : Option Addr} {n cap : Nat} {l : List Int} (h : byAt w (.slice ao n cap) l) (h1 : 1 ≤ l.length) : ∃ b off, ao = some ⟨b, off, none⟩ ∧ w.cell? ⟨b, off, none⟩ = some (.int .u8 (bt l 0)) := by
  rcases h.2 with ⟨rfl, _⟩ | ⟨b, off, cap, he, _, _, hc⟩
  · simp at h1
  · injection he with h2 h3 h4
    exact ⟨b, off, h2, hc 0 h1⟩
theorem by_one {w : World} {g : Nat} {x : Int} (hx : IsB x) (h : w.heap[g]? = some (.cells #[.int .u8 x] 5 (0, 0))) : byAt w (.slice (some ⟨g, 0, none⟩) 1 1) [x] := by
  refine ⟨fun y hy => by rw [List.mem_singleton.1 hy]; exact hx, .inr ⟨g, 0, 1, rfl, Nat.le_refl _, (Array.getElem?_eq_some_iff.1 h).1, fun i hi => ?_⟩⟩
  have hi : i < 1 := hi
  obtain rfl : i = 0 := by omega
  exact cells_at h 0
theorem by_brow {w : World} {base n : Nat} {v : Value} {l : List Int} (hB : ∀ x ∈ l, IsB x) (hn : l.length = n) (h : w.ownsRow base 5 1 v n (bfl l)) : byAt w v l := by
  subst hn
  refine ⟨hB, ?_⟩
  rcases h.2 with ⟨rfl, h0⟩ | ⟨g, cap, cur, rfl, hb, hg, hle, hcap, hcur, htake⟩
  · exact .inl ⟨List.eq_nil_of_length_eq_zero h0, none, 0, rfl⟩
  · refine .inr ⟨g, 0, cap, rfl, hle, (Array.getElem?_eq_some_iff.1 hg).1, fun i hi => ?_⟩
    have h1 := h.cellAt i (by omega)
    rw [Nat.zero_add]
    exact h1.trans (bfl_get hi)
def BRow (base : Nat) (w : World) (ac : Option Addr) (n cc : Nat) (f : Nat → Int) : Prop := (∀ i, IsB (f i)) ∧ ∃ g cur, ac = some ⟨g, 0, none⟩ ∧ base ≤ g ∧ w.heap[g]? = some (.cells cur 5 (0, 0)) ∧ n ≤ cc ∧ ∀ i, i < n → cur[i]? = some (.int .u8 (f i))
theorem brow_of {w : World} {base n cc : Nat} {ac : Option Addr} {l : List Int} (hB : ∀ x ∈ l, IsB x) (hn : l.length = n) (h1 : 1 ≤ n) (h : w.ownsRow base 5 1 (.slice ac n cc) n (bfl l)) : BRow base w ac n cc (bt l) := by
  subst hn
  refine ⟨bt_ok hB, ?_⟩
  rcases h.2 with ⟨_, h0⟩ | ⟨g, cap, cur, he, hb, hg, hle, hcap, hcur, htake⟩
  · omega
  · injection he with h2 h3 h4
    refine ⟨g, cur, h2, hb, hg, by omega, fun i hi => ?_⟩
    have h8 := bfl_get hi
    rw [← htake, List.getElem?_take, if_pos (by omega)] at h8
    simpa using h8
theorem brow_by {w : World} {base n cc : Nat} {ac : Option Addr} {f : Nat → Int} (h : BRow base w ac n cc f) : byAt w (.slice ac n cc) ((List.range n).map f) := by
  obtain ⟨hB, g, cur, rfl, hb, hg, hle, hc⟩ := h
  refine ⟨fun x hx => ?_, .inr ⟨g, 0, cc, by simp, by simpa using hle, (Array.getElem?_eq_some_iff.1 hg).1, fun i hi => ?_⟩⟩
  · obtain ⟨i, _, rfl⟩ := List.mem_map.1 hx
    exact hB i
  · have hi' : i < n := by simpa using hi
    rw [Nat.zero_add, cells_at hg i, hc i hi']
    congr 2
    unfold bt
    rw [List.getElem?_map, List.getElem?_range hi']
    rfl
theorem bt_range {n i : Nat} (f : Nat → Int) (h : i < n) : bt ((List.range n).map f) i = f i := by
  unfold bt
  rw [List.getElem?_map, List.getElem?_range h]
  rfl
theorem brow_put {w : World} {base n cc g : Nat} {cur : Array Value} {f : Nat → Int} (hB : ∀ i, IsB (f i)) (hb : base ≤ g) (hg : w.heap[g]? = some (.cells cur 5 (0, 0))) (hle : n ≤ cc) (hc : ∀ i, i < n → cur[i]? = some (.int .u8 (f i))) (j : Nat) (z : Int) (hz : IsB z) :
    BRow base (w.setCell ⟨g, j, none⟩ (.int .u8 z)) (some ⟨g, 0, none⟩) n cc (fun i => if i = j then z else f i) := by
  refine ⟨fun i => ?_, g, _, rfl, hb, cells_put hg j _, hle, fun i hi => ?_⟩
  · show IsB (if i = j then z else f i)
    split
    · exact hz
    · exact hB i
  · have h1 := hc i hi
    show (cur.setIfInBounds j (.int .u8 z))[i]? = some (.int .u8 (if i = j then z else f i))
    rw [Array.getElem?_setIfInBounds]
    by_cases h : j = i
    · subst h
      have : j < cur.size := (Array.getElem?_eq_some_iff.1 h1).1
      simp [this]
    · rw [if_neg h, h1, if_neg (fun e : i = j => h e.symm)]
set_option maxRecDepth 100000 in
set_option maxHeartbeats 8000000 in
theorem classifier_calls (v : Value) (bs : List Int) (y : Int) (hyb : IsB y) (w : World) (hG : Gl w) (hv : byAt w v bs) : Calls Tryz.prog 3 #[v, .int .u8 y] w fun e w' => e = .returned (.bool true) ∧ Keeps (fun _ => False) w w' := by
  have HG := Lib.hid hG
  have HBS := Lib.hid hv.1
  have HSB := Lib.hid (skipbytes_calls v bs w hv)
  have HPC := Lib.hid (fun W (hk : Keeps (fun _ => False) w W) => rparse_calls v bs W (hv.kept hk))
  have HCL := Lib.hid (fun W (hk : Keeps (fun _ => False) w W) (hl : bs.length ≤ 1099511627776) => bclone_calls v bs W hl (hv.kept hk))
  have HSV := Lib.hid (fun W (hk : Keeps (fun _ => False) w W) => serve_calls v bs W (hG.kept hk) (hv.kept hk))
  have HCF := Lib.hid (fun W (hk : Keeps (fun _ => False) w W) => rclassify_calls v bs W (hv.kept hk))
  obtain ⟨ao, cap, rfl⟩ := hv.shape
  obtain ⟨n, hn⟩ : ∃ n, bs.length = n := ⟨_, rfl⟩
  have HN := Lib.hid hn
  rw [hn] at HSB HPC HCL HSV HCF ⊢
  clear hG hv hn
  obtain ⟨hy0, hy1⟩ := hyb
  go_enter Tryz.func3, Tryz.ntmps3
  go_wp2_with fail
  refine HSB.out.mono ?_; rintro e w1 ⟨⟨r, rfl, hr⟩, hk1⟩
  rcases hr with ⟨rfl, h6k⟩ | rfl
  rotate_left
  · go_wp2_with fail
    refine (servesG_calls w1 (HG.out.kept hk1)).mono ?_; rintro e w8 ⟨rfl, hk8⟩
    have hkw8 := knil hk1 hk8
    go_wp2_with fail
    go_ret
    exact ⟨rfl, hkw8⟩
  go_wp2_with fail
  refine (HPC.out w1 hk1).mono ?_; rintro e w2 ⟨⟨hv, rfl, hh, _⟩, hk2⟩
  obtain ⟨ah, ch, rfl, hr, hz⟩ := hh
  clear hr hz
  have hkw2 := knil hk1 hk2
  obtain ⟨xo, hxo⟩ : ∃ xo, (parH bs).op = xo := ⟨_, rfl⟩
  obtain ⟨xv, hxv⟩ : ∃ xv, (parH bs).vt = xv := ⟨_, rfl⟩
  obtain ⟨xp, hxp⟩ : ∃ xp, (parH bs).pts = xp := ⟨_, rfl⟩
  obtain ⟨K, hK⟩ : ∃ K, (parH bs).rs.length = K := ⟨_, rfl⟩
  obtain ⟨N, hN⟩ : ∃ N, parN bs = N := ⟨_, rfl⟩
  obtain ⟨E, hE⟩ : ∃ E, parE bs = E := ⟨_, rfl⟩
  rw [hxo, hxv, hxp, hK, hN, hE]
  have HNN := Lib.hid hN
  have HEE := Lib.hid hE
  clear hxo hxv hxp hK hN hE
  go_upto_region 4 with fail
  obtain ⟨w3, hw3⟩ : ∃ w3, w2.alloc (.cells #[.int .i64 xo, .int .i64 xv, .slice ah K ch, .int .i64 xp] 27) = w3 := ⟨_, rfl⟩
  have hk3 : Keeps (fun _ => False) w2 w3 := by rw [← hw3]; exact (Keeps.refl _ w2).alloc _
  have hkw3 := knil hkw2 hk3
  rw [hw3]
  clear hw3
  go_wp2_with fail
  refine (HCL.out w3 hkw3 (by omega)).mono ?_; rintro e w4 ⟨⟨vc, rfl, hrow⟩, hk4⟩
  rw [HN.out] at hrow
  obtain ⟨ac, cc, rfl⟩ := shape_own hrow
  have hkw4 := knil hkw3 hk4
  have HROW := Lib.hid hrow
  clear hrow
  by_cases hE0 : E = 0
  rotate_left
  · have hEb : (E == 0) = false := by simp [hE0]
    obtain ⟨cs, hcs⟩ : ∃ cs, cs = bs := ⟨_, rfl⟩
    have HBY := Lib.hid (show byAt w4 (.slice ac n cc) cs by rw [hcs]; exact by_brow HBS.out HN.out HROW.out)
    have HSCE := Lib.hid (show servI cs = servI bs by rw [hcs])
    obtain ⟨f, hf⟩ : ∃ f, clsE bs = f := ⟨_, rfl⟩
    have HF := Lib.hid hf
    have HF0 := Lib.hid (show f ≠ 0 from fun h => hE0 (by rw [← HEE.out]; exact (clsE_zero (hf.trans h)).1))
    clear hE0 hcs hf
    go_wp2_with fail
    refine (HSV.out w4 hkw4).mono ?_; rintro e w5 ⟨⟨vx, rfl, hx⟩, hk5⟩
    have hkw5 := knil hkw4 hk5
    obtain ⟨ax, cx, rfl⟩ := hx.shape
    have HX := Lib.hid hx
    have HSC := Lib.hid (serve_calls _ cs w5 (HG.out.kept hkw5) (HBY.out.kept hk5))
    clear hx
    go_wp2_with fail
    refine HSC.out.mono ?_; rintro e w6 ⟨⟨vy, rfl, hy⟩, hk6⟩
    have hkw6 := knil hkw5 hk6
    obtain ⟨ay, cy, rfl⟩ := hy.shape
    have HY := Lib.hid hy
    clear hy HSC
    go_wp2_with fail
    refine (HCF.out w6 hkw6).mono ?_; rintro e w7 ⟨rfl, hk7⟩
    have hkw7 := knil hkw6 hk7
    rw [HF.out]
    have hfb : (f != 0) = true := by simp [HF0.out]
    have hfr := clsE_range bs
    rw [HF.out] at hfr
    have hf0 := HF0.out
    have hwf : IntKind.u8.wrap f = f := by rw [IntKind.wrap_u8]; omega
    have hfB : IsB f := by unfold IsB; omega
    have HFB := Lib.hid hfB
    clear hfr hf0 hfB
    go_wp2_with fail
    refine (servesG_calls w7 (HG.out.kept hkw7)).mono ?_; rintro e w8 ⟨rfl, hk8⟩
    have hkw8 := knil hkw7 hk8
    have HXY := Lib.hid (And.intro ((HX.out.kept hk6).kept (knil hk7 hk8)) (HY.out.kept (knil hk7 hk8)))
    obtain ⟨nx, hnx⟩ : ∃ m, (servI bs).length = m := ⟨_, rfl⟩
    obtain ⟨ny, hny⟩ : ∃ m, (servI cs).length = m := ⟨_, rfl⟩
    rw [hnx, hny] at HXY
    try rw [hnx]
    try rw [hny]
    obtain ⟨w9, hw9⟩ : ∃ w9, w8.alloc (.cells #[.int .u8 f] 5) = w9 := ⟨_, rfl⟩
    obtain ⟨g9, hg9⟩ : ∃ g, w8.heap.size = g := ⟨_, rfl⟩
    have hg := heap_alloc_new w8 (.cells #[.int .u8 f] 5)
    have hk9 : Keeps (fun _ => False) w8 w9 := by rw [← hw9]; exact (Keeps.refl _ w8).alloc _
    rw [hw9, hg9] at hg
    have HEQ := Lib.hid (equal_calls _ _ (servI bs) [f] w9 (HXY.out.1.kept hk9).bytes (by_one HFB.out hg).bytes)
    have hd1 : decide (servI bs = [f]) = true := decide_eq_true (by rw [servI_err (by rw [HF.out]; exact HF0.out), HF.out])
    rw [hd1] at HEQ
    have HEQ2 := Lib.hid (fun W (hk : Keeps (fun _ => False) w9 W) => equal_calls _ _ (servI bs) (servI cs) W ((HXY.out.1.kept hk9).kept hk).bytes ((HXY.out.2.kept hk9).kept hk).bytes)
    have hd2 : decide (servI bs = servI cs) = true := decide_eq_true HSCE.out.symm
    rw [hd2] at HEQ2
    clear hd1 hd2 hg
    go_wp2_with fail
    try rw [hw9]
    try rw [hg9]
    refine HEQ.out.mono ?_; rintro e wz ⟨rfl, hwz⟩
    rw [hwz]
    clear hwz wz
    go_wp2_with fail
    refine (HEQ2.out w9 (Keeps.refl _ _)).mono ?_; rintro e wz ⟨rfl, hwz⟩
    rw [hwz]
    clear hwz wz
    go_wp2_with fail
    go_ret
    exact ⟨rfl, knil hkw8 hk9⟩
  subst hE0
  have hnl := parN_le HEE.out
  rw [HN.out, HNN.out] at hnl
  obtain ⟨hN1, _, hN2⟩ := hnl
  have HBR := Lib.hid (brow_of HBS.out HN.out (by omega) HROW.out)
  go_wp2_with fail
  go_loopw [9] (fun i wr => ∃ j : Nat, N ≤ j ∧ j ≤ n ∧ i = .int .i64 j ∧ ∃ f : Nat → Int, RowKit.Hid (BRow w3.heap.size wr ac n cc f) ∧ RowKit.Hid (∀ i, i < N → f i = bt bs i) ∧ RowKit.Hid (Keeps (fun _ => False) w3 wr)) (fun i _ => n - (intOf i).toNat)
  case atStart => exact ⟨N, Nat.le_refl _, hN1, rfl, _, HBR, Lib.hid (fun _ _ => rfl), Lib.hid hk4⟩
  case round =>
    obtain ⟨j, hNj, hj, rfl, f, HBW, HAG, HW⟩ := hrel
    by_cases hjl : j < n
    · have hjI : (j : Int) < (n : Int) := by omega
      have hj0 : (0 : Int) ≤ (j : Int) := by omega
      obtain ⟨hB, g, cur, rfl, hgb, hg, hle, hc⟩ := HBW.out
      have c0 := (cells_at hg j).trans (hc j hjl)
      have f0 := two_frozen hg j
      obtain ⟨c, hcj⟩ : ∃ c, f j = c := ⟨_, rfl⟩
      rw [hcj] at c0
      obtain ⟨z1, hz1⟩ : ∃ z1, IntKind.u8.wrap (c * y) = z1 := ⟨_, rfl⟩
      obtain ⟨z, hz⟩ : ∃ z, IntKind.u8.wrap (z1 + y) = z := ⟨_, rfl⟩
      have hzB : IsB z := by rw [← hz, IntKind.wrap_u8]; unfold IsB; omega
      have HZB := Lib.hid hzB
      have HPUT := Lib.hid (brow_put (n := n) (cc := cc) hB hgb hg hle hc j z hzB)
      clear hB hg hc hcj hzB
      go_wp2_with fail
      go_roundw
      case rel => exact ⟨j + 1, by omega, by omega, by go_num, _, HPUT, Lib.hid (fun i hi => by show (if i = j then z else f i) = bt bs i; rw [if_neg (by omega)]; exact HAG.out i hi), Lib.hid (HW.out.setCell ⟨g, j, none⟩ (fun h => by have : g < w3.heap.size := h; omega) _)⟩
      case measure => simp [intOf]; omega
    · obtain rfl : j = n := by omega
      obtain ⟨cs, hcs⟩ : ∃ cs, cs = (List.range j).map f := ⟨_, rfl⟩
      have hcl : cs.length = bs.length := by rw [hcs, HN.out]; simp
      have hag : ∀ i, i < parN bs → bt cs i = bt bs i := fun i hi => by rw [HNN.out] at hi; rw [hcs, bt_range f (by omega)]; exact HAG.out i hi
      have HBY := Lib.hid (show byAt wr (.slice ac j cc) cs by rw [hcs]; exact brow_by HBW.out)
      have HCE := Lib.hid (cls_same HEE.out hcl hag)
      have HHE := Lib.hid (head_same HEE.out hcl hag).2.1
      have hkwr := knil hkw3 HW.out
      obtain ⟨f, hf⟩ : ∃ f, clsE bs = f := ⟨_, rfl⟩
      have HF := Lib.hid hf
      clear hcs hcl hag hf
      go_wp2_with fail
      refine (HSV.out wr hkwr).mono ?_; rintro e w5 ⟨⟨vx, rfl, hx⟩, hk5⟩
      have hkw5 := knil hkwr hk5
      obtain ⟨ax, cx, rfl⟩ := hx.shape
      have HX := Lib.hid hx
      have HSC := Lib.hid (serve_calls _ cs w5 (HG.out.kept hkw5) (HBY.out.kept hk5))
      clear hx
      go_wp2_with fail
      refine HSC.out.mono ?_; rintro e w6 ⟨⟨vy, rfl, hy⟩, hk6⟩
      have hkw6 := knil hkw5 hk6
      obtain ⟨ay, cy, rfl⟩ := hy.shape
      have HY := Lib.hid hy
      clear hy HSC
      go_wp2_with fail
      refine (HCF.out w6 hkw6).mono ?_; rintro e w7 ⟨rfl, hk7⟩
      have hkw7 := knil hkw6 hk7
      by_cases hf0 : f = 0
      · subst hf0
        rw [HF.out]
        go_wp2_with fail
        refine (servesG_calls w7 (HG.out.kept hkw7)).mono ?_; rintro e w8 ⟨rfl, hk8⟩
        have hkw8 := knil hkw7 hk8
        have hxx := (HX.out.kept hk6).kept (knil hk7 hk8)
        have hyy := HY.out.kept (knil hk7 hk8)
        obtain ⟨hlx, hx0⟩ := servI_zero HBS.out HF.out
        obtain ⟨hly, hy0⟩ := servI_zero HBY.out.1 (HCE.out.trans HF.out)
        rw [HHE.out] at hly
        have hM2 : 2 ≤ rspN (parH bs) := by unfold rspN; omega
        generalize rspN (parH bs) = M at hlx hly hM2
        generalize servI bs = lx at hlx hx0 hxx ⊢
        generalize servI cs = ly at hly hy0 hyy ⊢
        obtain ⟨bx, ox, hax, hcx⟩ := hxx.first (by omega)
        obtain ⟨by0, oy, hay, hcy⟩ := hyy.first (by omega)
        subst hax
        subst hay
        rw [hx0] at hcx
        rw [hy0] at hcy
        rw [hlx, hly]
        have hMI : (2 : Int) ≤ (M : Int) := by omega
        have hM0 : (0 : Int) < (M : Int) := by omega
        have hMd : decide ((2 : Int) ≤ (M : Int)) = true := decide_eq_true hMI
        clear hlx hly hx0 hy0 hxx hyy
        go_wp2_with fail
        go_ret
        exact ⟨rfl, hkw8⟩
      · have HF0 := Lib.hid hf0
        have HSCE := Lib.hid (show servI cs = servI bs by rw [servI_err (bs := bs) (by rw [HF.out]; exact HF0.out), servI_err (bs := cs) (by rw [HCE.out, HF.out]; exact HF0.out), HCE.out])
        clear hf0
        rw [HF.out]
        have hfb : (f != 0) = true := by simp [HF0.out]
        have hfr := clsE_range bs
        rw [HF.out] at hfr
        have hf0 := HF0.out
        have hwf : IntKind.u8.wrap f = f := by rw [IntKind.wrap_u8]; omega
        have hfB : IsB f := by unfold IsB; omega
        have HFB := Lib.hid hfB
        clear hfr hf0 hfB
        go_wp2_with fail
        refine (servesG_calls w7 (HG.out.kept hkw7)).mono ?_; rintro e w8 ⟨rfl, hk8⟩
        have hkw8 := knil hkw7 hk8
        have HXY := Lib.hid (And.intro ((HX.out.kept hk6).kept (knil hk7 hk8)) (HY.out.kept (knil hk7 hk8)))
        obtain ⟨nx, hnx⟩ : ∃ m, (servI bs).length = m := ⟨_, rfl⟩
        obtain ⟨ny, hny⟩ : ∃ m, (servI cs).length = m := ⟨_, rfl⟩
        rw [hnx, hny] at HXY
        try rw [hnx]
        try rw [hny]
        obtain ⟨w9, hw9⟩ : ∃ w9, w8.alloc (.cells #[.int .u8 f] 5) = w9 := ⟨_, rfl⟩
        obtain ⟨g9, hg9⟩ : ∃ g, w8.heap.size = g := ⟨_, rfl⟩
        have hg := heap_alloc_new w8 (.cells #[.int .u8 f] 5)
        have hk9 : Keeps (fun _ => False) w8 w9 := by rw [← hw9]; exact (Keeps.refl _ w8).alloc _
        rw [hw9, hg9] at hg
        have HEQ := Lib.hid (equal_calls _ _ (servI bs) [f] w9 (HXY.out.1.kept hk9).bytes (by_one HFB.out hg).bytes)
        have hd1 : decide (servI bs = [f]) = true := decide_eq_true (by rw [servI_err (by rw [HF.out]; exact HF0.out), HF.out])
        rw [hd1] at HEQ
        have HEQ2 := Lib.hid (fun W (hk : Keeps (fun _ => False) w9 W) => equal_calls _ _ (servI bs) (servI cs) W ((HXY.out.1.kept hk9).kept hk).bytes ((HXY.out.2.kept hk9).kept hk).bytes)
        have hd2 : decide (servI bs = servI cs) = true := decide_eq_true HSCE.out.symm
        rw [hd2] at HEQ2
        clear hd1 hd2 hg
        go_wp2_with fail
        try rw [hw9]
        try rw [hg9]
        refine HEQ.out.mono ?_; rintro e wz ⟨rfl, hwz⟩
        rw [hwz]
        clear hwz wz
        go_wp2_with fail
        refine (HEQ2.out w9 (Keeps.refl _ _)).mono ?_; rintro e wz ⟨rfl, hwz⟩
        rw [hwz]
        clear hwz wz
        go_wp2_with fail
        go_ret
        exact ⟨rfl, knil hkw8 hk9⟩
end Go.Proofs.YtmoajobnhiopiaaGreatDoor.sv
set_option linter.unusedSimpArgs false
set_option linter.unusedVariables false
set_option maxRecDepth 100000
namespace Go.Proofs.YtmoajobnhiopiaaGreatDoor.to
open Go Go.RowKit Go.ChangeShapes Go.WideShapes Go.ChangeAt Go.Deep Go.Proofs.YtmoajobnhiopiaaGreatDoor.mk Go.Proofs.YtmoajobnhiopiaaGreatDoor.tp Go.Proofs.YtmoajobnhiopiaaGreatDoor.lm Go.Proofs.YtmoajobnhiopiaaGreatDoor.gm Go.Proofs.YtmoajobnhiopiaaGreatDoor.po
theorem own : ownKnob Tryz.prog.godebug = none := by kernel_rfl
theorem laidOut : laidOutB Tryz.prog = true := by kernel_rfl
theorem gWords : Tryz.prog.globalNamed "geofence/mask.words" = some 0 := by kernel_rfl
theorem gWordsT : (Tryz.prog.globals[0]?).map (·.type) = some 138 := by kernel_rfl
theorem gFixed : Tryz.prog.globalNamed "geofence/header.fixed" = some 1 := by kernel_rfl
theorem gFixedT : (Tryz.prog.globals[1]?).map (·.type) = some 209 := by kernel_rfl
theorem cellsW2 : Tryz.prog.cellsOf 138 = 2 := by kernel_rfl
theorem cellsU1 : Tryz.prog.cellsOf 43 = 1 := by kernel_rfl
theorem cellsF6 : Tryz.prog.cellsOf 209 = 6 := by kernel_rfl
theorem cellsI1 : Tryz.prog.cellsOf 3 = 1 := by kernel_rfl
theorem laid_tail {P : Program} {W : World} {x : String × DataW Unit} {rest : List (String × DataW Unit)} (h : laidMet P (x :: rest) W) : laidMet P rest W := by
  obtain ⟨n, d⟩ := x
  obtain ⟨ps, ⟨g, t, cs, fuel, p, q, _, _, _, _, h2, rfl⟩, hn, hc⟩ := h
  exact ⟨q, h2, (List.nodup_append.1 hn).2.1, fun k off hm => hc k off (List.mem_append_right _ hm)⟩
theorem gl_of {W : World} (h : laidMetH Tryz.prog [("geofence/mask.words", Rows.laid_geofence_mask_words), ("geofence/header.fixed", Rows.laid_geofence_header_fixed)] W) : Gl W := by
  have t0 : Lib.TabIs Tryz.prog W "geofence/mask.words" .u64 [9223372036854775808, 18446744073709551615] :=
    Lib.tabIs_of_head gWords gWordsT Tryz.underlying138 Tryz.underlying43 cellsU1 cellsW2 h
  have t1 : Lib.TabIs Tryz.prog W "geofence/header.fixed" .i64 [0, 3, 4, 1, 1, 0] :=
    Lib.tabIs_of_head (rest := []) gFixed gFixedT Tryz.underlying209 Tryz.underlying3 cellsI1 cellsF6 (laid_tail h)
  exact ⟨t0.cell gWords 0 (by decide), t0.cell gWords 1 (by decide), t1.cell gFixed 0 (by decide), t1.cell gFixed 1 (by decide), t1.cell gFixed 2 (by decide), t1.cell gFixed 3 (by decide), t1.cell gFixed 4 (by decide), t1.cell gFixed 5 (by decide)⟩
def putWords : Obj → Obj
  | .cells _ t frozen => .cells #[.int .u64 9223372036854775808, .int .u64 18446744073709551615] t frozen
  | o => o
def putFixed : Obj → Obj
  | .cells _ t frozen => .cells #[.int .i64 0, .int .i64 3, .int .i64 4, .int .i64 1, .int .i64 1, .int .i64 0] t frozen
  | o => o
noncomputable def laidWorld (os : Os) : World :=
  { World.holding Tryz.prog os ⟨#[], #[], []⟩ with heap := ((World.holding Tryz.prog os ⟨#[], #[], []⟩).heap.modify 0 putWords).modify 1 putFixed }
end Go.Proofs.YtmoajobnhiopiaaGreatDoor.to
set_option linter.unusedSimpArgs false
set_option linter.unusedVariables false
namespace Go.Proofs.YtmoajobnhiopiaaGreatDoor.sv
open Go Go.RowKit Go.Shelf Go.Maps Go.Proofs.YtmoajobnhiopiaaGreatDoor.mk Go.Proofs.YtmoajobnhiopiaaGreatDoor.tp Go.Proofs.YtmoajobnhiopiaaGreatDoor.rg Go.Proofs.YtmoajobnhiopiaaGreatDoor.lm Go.Proofs.YtmoajobnhiopiaaGreatDoor.gm Go.Proofs.YtmoajobnhiopiaaGreatDoor.po
def onR (f : Int × Int → Int × Int) (r : Reg) : Reg := (r.1, r.2.1, r.2.2.map f)
def onQ (f : Int × Int → Int × Int) (q : Qry) : Qry := (f q.1, q.2)
structure Same (f : Int × Int → Int × Int) (s : Int) : Prop where
  sgn : s = 1 ∨ s = -1
  dets : ∀ a b c, sgnI (det (f a) (f b) (f c)) = s * sgnI (det a b c)
  incs : ∀ a b c d, sgnI (inc (f a) (f b) (f c) (f d)) = s * sgnI (inc a b c d)
section
variable {f : Int × Int → Int × Int} {s : Int}
theorem Same.one (h : Same f s) (x y : Int) : (s * x) * (s * y) = x * y := by
  rcases h.sgn with rfl | rfl <;> grind
theorem Same.eq (h : Same f s) (x y : Int) : (s * x == s * y) = (x == y) := by
  rcases h.sgn with rfl | rfl
  · rw [Int.one_mul, Int.one_mul]
  · rw [Bool.eq_iff_iff]
    simp only [beq_iff_eq]
    omega
theorem Same.zero (h : Same f s) (x : Int) : (s * x == 0) = (x == 0) := by
  have := h.eq x 0
  rwa [Int.mul_zero] at this
theorem Same.poly (h : Same f s) {l : List (Int × Int)} (hl : 3 ≤ l.length) : polyS (l.map f) = s * polyS l := by
  unfold polyS
  rw [pt_map f (show 0 < l.length by omega), pt_map f (show 1 < l.length by omega), pt_map f (show 2 < l.length by omega), h.dets]
theorem Same.edge (h : Same f s) {l : List (Int × Int)} {i : Nat} (hi : i < l.length) (p : Int × Int) : sgnI (edgeD (l.map f) i (f p)) = s * sgnI (edgeD l i p) := by
  unfold edgeD
  rw [List.length_map, pt_map f hi, pt_map f (Nat.mod_lt _ (by omega)), h.dets]
theorem Same.sides (h : Same f s) {l : List (Int × Int)} (hl : 3 ≤ l.length) (p : Int × Int) : sides (l.map f) (l.map f).length (f p) = sides l l.length p := by
  unfold gm.sides
  rw [List.length_map]
  apply List.map_congr_left
  intro i hi
  rw [h.poly hl, h.edge (List.mem_range.1 hi), h.one]
theorem Same.val (h : Same f s) {l : List (Int × Int)} (hl : 3 ≤ l.length) : valB (l.map f) (l.map f).length = valB l l.length := by
  unfold valB
  rw [List.length_map, h.poly hl, h.zero]
  congr 1
  have e : ∀ i ∈ List.range l.length, rowB (l.map f) i l.length = rowB l i l.length := by
    intro i hi
    unfold rowB
    have e2 : ∀ j ∈ List.range l.length, okI (l.map f) i j = okI l i j := by
      intro j hj
      unfold okI
      rw [List.length_map, pt_map f (List.mem_range.1 hj), h.edge (List.mem_range.1 hi), h.poly hl, h.eq]
    rw [Bool.eq_iff_iff, List.all_eq_true, List.all_eq_true]
    exact ⟨fun k j hj => by rw [← e2 j hj]; exact k j hj, fun k j hj => by rw [e2 j hj]; exact k j hj⟩
  rw [Bool.eq_iff_iff, List.all_eq_true, List.all_eq_true]
  exact ⟨fun k i hi => by rw [← e i hi]; exact k i hi, fun k i hi => by rw [e i hi]; exact k i hi⟩
def Three (r : Reg) : Prop := 3 ≤ r.2.2.length
theorem Same.valR (h : Same f s) {r : Reg} (hr : Three r) : sv.valR (onR f r) = sv.valR r := by
  unfold sv.valR onR
  simp only
  rw [h.poly hr, h.zero, h.val hr]
theorem Same.locR (h : Same f s) {r : Reg} (hr : Three r) (p : Int × Int) : sv.locR (onR f r) (f p) = sv.locR r p := by
  unfold Three at hr
  unfold sv.locR onR
  simp only
  rw [h.poly hr, h.sides hr, pt_map f (show 0 < r.2.2.length by omega), pt_map f (show 1 < r.2.2.length by omega), pt_map f (show 2 < r.2.2.length by omega), h.incs, h.one]
theorem any_map_eq {α : Type} (g : α → α) {p q : α → Bool} : ∀ {l : List α}, (∀ x ∈ l, p (g x) = q x) → (l.map g).any p = l.any q := by
  intro l
  induction l with
  | nil => intro _; rfl
  | cons x l ih =>
    intro h
    rw [List.map_cons, List.any_cons, List.any_cons, h x List.mem_cons_self, ih (fun y hy => h y (List.mem_cons_of_mem _ hy))]
theorem all_map_eq {α : Type} (g : α → α) {p q : α → Bool} : ∀ {l : List α}, (∀ x ∈ l, p (g x) = q x) → (l.map g).all p = l.all q := by
  intro l
  induction l with
  | nil => intro _; rfl
  | cons x l ih =>
    intro h
    rw [List.map_cons, List.all_cons, List.all_cons, h x List.mem_cons_self, ih (fun y hy => h y (List.mem_cons_of_mem _ hy))]
theorem Same.valF (h : Same f s) {l : List Reg} (hl : ∀ r ∈ l, Three r) : sv.valF (l.map (onR f)) = sv.valF l := all_map_eq _ (fun r hr => h.valR (hl r hr))
theorem Same.memF (h : Same f s) {l : List Reg} (hl : ∀ r ∈ l, Three r) (p : Int × Int) : sv.memF (l.map (onR f)) (f p) = sv.memF l p := by
  unfold sv.memF inA inD
  rw [any_map_eq (onR f) (q := fun r => !r.1 && decide (0 ≤ sv.locR r p)) (fun r hr => by rw [h.locR (hl r hr)]; rfl), any_map_eq (onR f) (q := fun r => r.1 && decide (0 ≤ sv.locR r p)) (fun r hr => by rw [h.locR (hl r hr)]; rfl)]
theorem Same.fenI (h : Same f s) {l : List Reg} (hl : ∀ r ∈ l, Three r) (p : Int × Int) : sv.fenI (l.map (onR f)) (f p) = sv.fenI l p := by
  unfold sv.fenI
  rw [h.valF hl, h.memF hl]
end
theorem on_wrong (f : Int × Int → Int × Int) (l : List Reg) : (l.map (onR f)).any wrongR = l.any wrongR := any_map_eq _ (fun r _ => rfl)
theorem EncOk.on {op : Int} {l : List Reg} {ps : List (Int × Int)} {qs : List Qry} (h : EncOk op l ps qs) (f : Int × Int → Int × Int) (h1 : RegsOk (l.map (onR f))) (h2 : Pts (ps.map f)) (h3 : QsOk (qs.map (onQ f))) : EncOk op (l.map (onR f)) (ps.map f) (qs.map (onQ f)) := by
  refine ⟨?_, by rw [List.length_map]; exact h.len, ?_, by rw [on_wrong]; exact h.right, h1, h2, h3⟩
  · rcases h.op with ⟨k1, k2, rfl⟩ | ⟨k1, rfl, k2, k3⟩
    · exact .inl ⟨k1, by rw [List.length_map]; exact k2, rfl⟩
    · exact .inr ⟨k1, rfl, by rw [List.length_map]; exact ⟨k2, k3⟩⟩
  · intro r hr
    obtain ⟨x, hx, rfl⟩ := List.mem_map.1 hr
    show ((x.2.2.map f).length : Int) = sizeR x.2.1
    rw [List.length_map]
    exact h.size x hx
end Go.Proofs.YtmoajobnhiopiaaGreatDoor.sv
set_option linter.unusedSimpArgs false
set_option linter.unusedVariables false
set_option maxRecDepth 100000
namespace Go.Proofs.YtmoajobnhiopiaaGreatDoor.to
open Go Go.RowKit Go.ChangeShapes Go.WideShapes Go.ChangeAt Go.Deep Go.Proofs.YtmoajobnhiopiaaGreatDoor.mk Go.Proofs.YtmoajobnhiopiaaGreatDoor.tp Go.Proofs.YtmoajobnhiopiaaGreatDoor.lm Go.Proofs.YtmoajobnhiopiaaGreatDoor.gm Go.Proofs.YtmoajobnhiopiaaGreatDoor.po Go.Proofs.YtmoajobnhiopiaaGreatDoor.sv
theorem add_plain' (b o k : Nat) : (⟨b, o, none⟩ : Addr).add k = ⟨b, o + k, none⟩ := by unfold Addr.add; split <;> simp_all
end Go.Proofs.YtmoajobnhiopiaaGreatDoor.to
set_option linter.unusedSimpArgs false
set_option linter.unusedVariables false
set_option maxRecDepth 100000
namespace Go.Proofs.YtmoajobnhiopiaaGreatDoor.to
open Go Go.RowKit Go.ChangeShapes Go.WideShapes Go.ChangeAt Go.Deep Go.Proofs.YtmoajobnhiopiaaGreatDoor.mk Go.Proofs.YtmoajobnhiopiaaGreatDoor.tp Go.Proofs.YtmoajobnhiopiaaGreatDoor.lm Go.Proofs.YtmoajobnhiopiaaGreatDoor.gm Go.Proofs.YtmoajobnhiopiaaGreatDoor.po Go.Proofs.YtmoajobnhiopiaaGreatDoor.sv
theorem cellsU8 : Tryz.prog.cellsOf 5 = 1 := by kernel_rfl
theorem wf_isB {n : Int} (h : (Lit.int .u8 n).wf = true) : IsB n := by
  simp [Lit.wf, IntKind.min, IntKind.max, IntKind.signed, IntKind.bits] at h
  unfold IsB
  omega
theorem open_bytes {H : Type} {enc : TypeId × Value → H} {W : World} {fuel : Nat} {a0 : Option Addr} {len cap : Nat} {x : DataW H × List MemPlace}
    (h : DataW.trod enc Tryz.prog W 0 (fun _ => true) true fuel 22 (Value.slice a0 len cap).cells.toList = some x) : ∃ l : List Int, byAt W (.slice a0 len cap) l := by
  rcases open_ints Tryz.underlying22 Tryz.underlying5 cellsU8 h with ⟨hcs, _⟩ | ⟨a, len', cap', zs, hcs, _, hl, hm, hz, _, hc, hw⟩
  · simp [Value.cells] at hcs
    obtain ⟨rfl, rfl, rfl⟩ := hcs
    exact ⟨[], by_nil⟩
  · simp [Value.cells] at hcs
    obtain ⟨rfl, rfl, rfl⟩ := hcs
    simp only [if_true] at hz
    have hlt : (zs.take len).length = len := by rw [List.length_take]; omega
    refine ⟨zs.take len, fun y hy => wf_isB (hw y (List.mem_of_mem_take hy)), ?_⟩
    by_cases h0 : len = 0
    · subst h0
      exact .inl ⟨by simp, _, _, rfl⟩
    · have h00 := hc 0 (by omega)
      have hsp := World.cell?_spot h00
      have hbl := World.block_lt_of_cell? W _ h00
      obtain ⟨b, off, spot⟩ := a
      have hspot : spot = none := by simpa [Addr.add] using hsp
      subst hspot
      refine .inr ⟨b, off, cap, by rw [hlt], by omega, by simpa [Addr.add] using hbl, fun i hi => ?_⟩
      have h1 := hc i (by omega)
      rw [add_plain'] at h1
      rw [h1]
      congr 2
      unfold bt
      rw [List.getElem?_take, if_pos (by omega), List.getD_eq_getElem?_getD]
end Go.Proofs.YtmoajobnhiopiaaGreatDoor.to
set_option linter.unusedSimpArgs false
set_option linter.unusedVariables false
set_option maxRecDepth 100000
namespace Go.Proofs.YtmoajobnhiopiaaGreatDoor.to
open Go Go.RowKit Go.ChangeShapes Go.WideShapes Go.ChangeAt Go.Deep Go.Proofs.YtmoajobnhiopiaaGreatDoor.mk Go.Proofs.YtmoajobnhiopiaaGreatDoor.tp Go.Proofs.YtmoajobnhiopiaaGreatDoor.lm Go.Proofs.YtmoajobnhiopiaaGreatDoor.gm Go.Proofs.YtmoajobnhiopiaaGreatDoor.po Go.Proofs.YtmoajobnhiopiaaGreatDoor.sv
theorem laid_met_topClassifier (os : Os) : laidMet Tryz.prog Rows.topClassifierRow.laid ((laidWorld os).forCall (fun _ _ => 0) ⟨#[], #[.slice none 0 0, .int .u8 0], []⟩).memory :=
  laidMet_of_run' 8 (by kernel_rfl) (by kernel_rfl)
theorem reads_topClassifier (os : Os) {H : Type} (enc : TypeId × Value → H) : ∃ places, DataW.whole enc Tryz.prog ((laidWorld os).forCall (fun _ _ => 0) ⟨#[], #[.slice none 0 0, .int .u8 0], []⟩).memory Tryz.f3.params.toList Rows.topClassifierSpec.vars false #[Value.slice none 0 0, .int .u8 0].toList 8 = some ([.nil, .lit (.int .u8 0)], [], places) :=
  ⟨[], by kernel_rfl⟩
theorem contract_topClassifier (H : Type) (enc : TypeId × Value → H) (W : World) (base : Nat) (args : Array Value) (ds gs : List (DataW H)) (before : List MemPlace)
    (hval : ∀ (j : Nat) t v, Tryz.f3.params[j]? = some t → args[j]? = some v → Value.okWide Tryz.prog W .any base t v)
    (hW : DataW.Whole enc Tryz.prog Tryz.f3.params.toList Rows.topClassifierSpec.vars false W args.toList ds gs before) (hL : laidMetH Tryz.prog Rows.topClassifierRow.laid W) :
    Calls Tryz.prog 3 args W fun e W' => ∃ v, e = .returned v ∧ Rows.topClassifierSpec.post enc Tryz.prog Tryz.f3 false true false false W args v W' := by
  have hW' := hW
  obtain ⟨p, q, hA0, hV, rfl, hfz, hnd⟩ := hW
  have hA : DataW.TrodAll enc Tryz.prog W 0 (fun _ => true) true Tryz.f3.params.toList args.toList ds p := hA0
  rw [Tryz.params3] at hA hval
  obtain ⟨v0, vs0, d0, ds0, p0, q0, hargs, rfl, rfl, h0, r0⟩ := trodAll_cons hA
  obtain ⟨v1, vs1, d1, ds1, p1, q1, rfl, rfl, rfl, h1, r1⟩ := trodAll_cons r0
  obtain ⟨rfl, rfl, rfl⟩ := trodAll_nil r1
  obtain rfl : args = #[v0, v1] := by cases args; simp_all
  obtain ⟨rfl, rfl⟩ := trodVars_none hV
  clear hA0
  simp only [List.append_nil] at hW'
  have hG := gl_of hL
  have hlt0 : ∀ x ∈ p0, x.block < W.heap.size := fun x hx => by simpa using hW'.lt x (by simp [hx])
  have hk0 : ∀ (W' : World), Below W.heap.size W W' → DataW.Trod enc Tryz.prog W' 0 (fun b => decide (b < W.heap.size)) true 22 v0 d0 p0 := fun W' hn => Below.trod laidOut (by kernel_rfl) (of_decide_eq_true (by kernel_rfl)) h0 hn hlt0
  have hlt1 : ∀ x ∈ p1, x.block < W.heap.size := fun x hx => by simpa using hW'.lt x (by simp [hx])
  have hk1 : ∀ (W' : World), Below W.heap.size W W' → DataW.Trod enc Tryz.prog W' 0 (fun b => decide (b < W.heap.size)) true 5 v1 d1 p1 := fun W' hn => Below.trod laidOut (by kernel_rfl) (of_decide_eq_true (by kernel_rfl)) h1 hn hlt1
  obtain ⟨a0, len0, cap0, rfl⟩ := okWide_slice Tryz.underlying22 (hval 0 22 v0 rfl rfl)
  obtain ⟨fuel0, hf0⟩ := h0
  obtain ⟨l0, ha0⟩ := open_bytes hf0
  obtain ⟨x1, rfl, rfl, rfl, wx1⟩ := open_int Tryz.underlying5 (hval 1 5 v1 rfl rfl) h1
  refine (classifier_calls _ l0 x1 (wf_isB wx1) W hG ha0).mono fun e W' he => ?_
  have hb : Below W.heap.size W W' := he.2.below (Nat.le_refl _) (fun _ _ h => h.elim)
  obtain ⟨he1, _⟩ := he
  subst he1
  refine ⟨_, rfl, _, _, _, [] ++ [], (p0 ++ ([] ++ [])), [], hW', ?_, ?_, rfl, hb.frame _, fun h => by cases h⟩
  · exact trodAll_cons_mk (shut_bool Tryz.underlying4 _) trodAll_mk0
  · exact (trodAll_cons_mk (hk0 _ hb) (trodAll_cons_mk (hk1 _ hb) trodAll_mk0))
theorem lifted_topClassifier (os : Os) (started : os.Started) (H : Type) (enc : TypeId × Value → H) (F : Stop.Interp) :
    ReturnsInHanded {} Tryz.checked os 3 .any ((OpenSpec.ofChange Rows.topClassifierSpec).preRow enc Tryz.prog Tryz.f3 Rows.topClassifierRow.domain false Rows.topClassifierRow.laid) (((OpenSpec.ofChange Rows.topClassifierSpec).at F).post enc Tryz.prog Tryz.f3 false true false false) := by
  obtain ⟨places, hx⟩ := reads_topClassifier os enc
  refine returnsInHanded_of_row (C := Tryz.checked) (s := OpenSpec.ofChange Rows.topClassifierSpec) own started (by kernel_rfl) Tryz.func3
    (witness_row_at (enc := enc) (C := Tryz.checked) false (laidWorld os) #[.slice none 0 0, .int .u8 0] rfl (by kernel_rfl) (by kernel_rfl) (by kernel_rfl)
      (OpenSpec.preRow_of_cond 8 hx (by kernel_rfl) (fun k hk => by cases hk) (by kernel_rfl) (laid_met_topClassifier os))) ?_
  intro W base args ds gs before hval hW _ _ _ hL _ _
  exact contract_topClassifier H enc W base args ds gs before hval hW hL
theorem said_topClassifier : Rows.TopClassifierSaid :=
  OpenClaim.holds_of_cond 3 Tryz.f3 rfl rfl rfl rfl rfl rfl rfl ⟨rfl, rfl, rfl, rfl, rfl⟩ rfl rfl rfl rfl rfl (by kernel_rfl) Tryz.func3 (by kernel_rfl)
    (of_decide_eq_true (by kernel_rfl)) (by unfold Func.isWrapper; first | (rw [if_pos (by decide +kernel)]; kernel_rfl) | (rw [if_neg (by decide +kernel)]; exact ⟨rfl, rfl⟩))
    (fun os started H enc _ F => by rw [OpenClaim.pre_eq_preRow]; exact lifted_topClassifier os started H enc F)
theorem plain_topClassifier (f : FuncId) (fn : Func) (hf : Tryz.pinned.checked.prog.funcNamed "geofence/geofencetop.TopClassifier" = some f) (hfn : Tryz.pinned.checked.prog.funcs[f]? = some fn) :
    false = Tryz.pinned.checked.prog.looks [] ∧ ∀ (j : Nat) t, fn.params[j]? = some t → Tryz.pinned.checked.prog.wantsStandIn t = false := by
  obtain rfl : f = 3 := Option.some.inj ((show Tryz.prog.funcNamed "geofence/geofencetop.TopClassifier" = some 3 by kernel_rfl).symm.trans hf) |>.symm
  obtain rfl : fn = Tryz.f3 := (Option.some.inj (Tryz.func3.symm.trans hfn)).symm
  refine ⟨by kernel_rfl, fun j t ht => ?_⟩
  rw [Tryz.params3] at ht
  have hm := Array.mem_of_getElem? ht
  have hw : ∀ t ∈ #[22, 5], Tryz.prog.wantsStandIn t = false := by
    intro t ht
    simp only [List.mem_toArray, List.mem_cons, List.not_mem_nil, or_false] at ht
    rcases ht with rfl | rfl <;> kernel_rfl
  exact hw t hm
theorem card_topClassifier : Rows.TopClassifierCardSaid :=
  Claim7.holds_tied_plain_at .later [] _ _ _ _ said_topClassifier (fun _ h => by cases h) (by kernel_rfl) (fun _ h => by cases h) topClassifier_row_tie rfl ⟨rfl, rfl⟩ (by kernel_rfl) rfl plain_topClassifier (by kernel_rfl)
end Go.Proofs.YtmoajobnhiopiaaGreatDoor.to
