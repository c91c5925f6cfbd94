/- small, Norm, Product, Turn and Orient of package plane. -/
import Derived.Test.YtgdnkpngojbjpaaPlane
namespace Go.Proofs.Ytgdnkpngojbjpaa.pl
open Go Go.RowKit Go.Proofs.Ytgdnkpngojbjpaa.tp Go.Proofs.Ytgdnkpngojbjpaa.fl Go.Proofs.Ytgdnkpngojbjpaa.mk

/-- Points in memory, one behind the other. -/
def ptsAt (w : World) (b : Nat) (l : List (Int × Int)) : Prop := ∀ (i : Nat) (p : Int × Int), l[i]? = some p → w.cell? ⟨b, i * 2, none⟩ = some (.int .i64 p.1) ∧ w.cell? ⟨b, i * 2 + 1, none⟩ = some (.int .i64 p.2)
def allSmall (l : List (Int × Int)) : Bool := l.all fun p => smallB p.1 p.2
/-- What small answers. -/
def smallE (l : List (Int × Int)) : Int := if allSmall l then 0 else 3
theorem all_step {l : List (Int × Int)} {k : Nat} {p : Int × Int} (hp : l[k]? = some p) : allSmall (l.take (k + 1)) = (allSmall (l.take k) && smallB p.1 p.2) := by
  unfold allSmall
  rw [List.take_add_one, hp, List.all_append]
  simp
theorem not_all {l : List (Int × Int)} {k : Nat} {p : Int × Int} (hp : l[k]? = some p) (h : smallB p.1 p.2 = false) : allSmall l = false := by
  unfold allSmall
  rw [List.all_eq_false]
  exact ⟨p, List.mem_of_getElem? hp, by simp [h]⟩
set_option maxHeartbeats 1000000 in
theorem small_calls (b cap : Nat) (l : List (Int × Int)) (hl : l.length ≤ 1000) (w : World) (hb : b < w.heap.size) (h : ptsAt w b l) :
    Calls Try.prog 23 #[.slice (some ⟨b, 0, none⟩) l.length cap] w fun e w' => e = .returned (.int .i64 (smallE l)) ∧ Keeps (fun _ => False) w w' := by
  have Hp := Lib.hid h
  clear h
  go_enter Try.func23, Try.ntmps23
  go_wp2
  go_loopw [7] (fun i wr => ∃ k : Nat, k ≤ l.length ∧ i = .int .i64 k ∧ allSmall (l.take k) = true ∧ Keeps (fun _ => False) w wr) (fun i _ => l.length - (intOf i).toNat)
  case atStart => exact ⟨0, Nat.zero_le _, rfl, rfl, Keeps.refl _ _⟩
  case round =>
    obtain ⟨k, hk, rfl, hall, hK⟩ := hrel
    by_cases hlt : k < l.length
    · have hlt' : (k : Int) < (l.length : Int) := by omega
      obtain ⟨⟨x, y⟩, hp⟩ : ∃ p, l[k]? = some p := ⟨l[k], by simp [hlt]⟩
      obtain ⟨c0, c1⟩ := Hp.out k _ hp
      have p0 : wr.cell? ⟨b, k * 2, none⟩ = some (.int .i64 x) := (hK.cell (p := ⟨b, k * 2, none⟩) hb (fun h => h)).trans c0
      have p1 : wr.cell? ⟨b, k * 2 + 1, none⟩ = some (.int .i64 y) := (hK.cell (p := ⟨b, k * 2 + 1, none⟩) hb (fun h => h)).trans c1
      have Hs := Lib.hid (all_step hp)
      have Hn := Lib.hid (not_all hp)
      have Ha := Lib.hid hall
      clear hall hp c0 c1
      go_wp2_with fail
      refine (isSmall_calls x y _).mono ?_; rintro e w2 ⟨rfl, hk2⟩
      have hK2 := (hK.alloc _).trans hk2 (fun _ _ h => h)
      cases hsm : smallB x y
      · have hf := Lib.hid (show smallE l = 3 by unfold smallE; rw [Hn.out hsm]; rfl)
        go_wp2
        go_ret
        exact ⟨by rw [hf.out]; rfl, hK2⟩
      · have ht := Lib.hid (show allSmall (l.take (k + 1)) = true by rw [Hs.out, Ha.out, hsm]; rfl)
        go_wp2
        go_roundw
        case rel => exact ⟨k + 1, by omega, by go_num, ht.out, hK2⟩
        case measure => simp [intOf]; omega
    · obtain rfl : k = l.length := by omega
      rw [List.take_length] at hall
      have hf := Lib.hid (show smallE l = 0 by unfold smallE; rw [hall]; rfl)
      clear hall
      go_wp2
      go_ret
      exact ⟨by rw [hf.out]; rfl, hK⟩

theorem one_pt (w : World) (x y : Int) : ptsAt (w.alloc (.cells #[.int .i64 x, .int .i64 y] 23)) w.heap.size [(x, y)] := by
  intro i p hp
  have hi : i = 0 := by have := (List.getElem?_eq_some_iff.1 hp).1; simp at this; omega
  subst hi
  simp at hp
  subst hp
  exact ⟨by rw [cell_of_row _ _ _ _ _ _ (heap_alloc_new w _)]; rfl, by rw [cell_of_row _ _ _ _ _ _ (heap_alloc_new w _)]; rfl⟩
theorem one_pt2 (w : World) (o : Obj) (x y : Int) : ptsAt ((w.alloc o).alloc (.cells #[.int .i64 x, .int .i64 y] 23)) (w.heap.size + 1) [(x, y)] := by
  have h := one_pt (w.alloc o) x y
  have e : (w.alloc o).heap.size = w.heap.size + 1 := by simp
  rwa [e] at h
theorem small_one (x y : Int) : smallE [(x, y)] = if smallB x y then 0 else 3 := by
  unfold smallE allSmall
  simp
set_option maxHeartbeats 1000000 in
theorem norm_not (x y : Int) (h : smallB x y = false) (w : World) : Calls Try.prog 15 #[Value.agg #[Value.int IntKind.i64 x, Value.int IntKind.i64 y]] w fun e w' => e = .returned (.tuple #[.float .f64 0, .int .i64 3]) ∧ Keeps (fun _ => False) w w' := by
  have Hs := Lib.hid (show smallE [(x, y)] = 3 by rw [small_one, h]; rfl)
  go_enter Try.func15, Try.ntmps15
  go_wp2_with fail
  have cc := small_calls (w.heap.size + 1) 1 [(x, y)] (by simp) _ (by simp) (one_pt2 w (.cells #[.int .i64 x, .int .i64 y] 23) x y)
  rw [Hs.out] at cc
  refine cc.mono ?_; clear cc; rintro e w1 ⟨rfl, hk1⟩
  have hK := (((Keeps.refl (fun _ => False) w).alloc _).alloc _).trans hk1 (fun _ _ h => h)
  go_wp2
  go_ret2
  exact ⟨rfl, hK⟩

theorem small_bounds {x y : Int} (h : smallB x y = true) : (-16777216 ≤ x ∧ x ≤ 16777216) ∧ -16777216 ≤ y ∧ y ≤ 16777216 := by
  unfold smallB at h
  have := of_decide_eq_true h
  exact ⟨⟨this.1, this.2.1⟩, this.2.2⟩
theorem mul_bound {a b A B : Int} (ha : -A ≤ a ∧ a ≤ A) (hb : -B ≤ b ∧ b ≤ B) : -(A * B) ≤ a * b ∧ a * b ≤ A * B := by
  have hA : 0 ≤ A := by omega
  have hB : 0 ≤ B := by omega
  have h : (a * b).natAbs ≤ A.natAbs * B.natAbs := by
    rw [Int.natAbs_mul]
    exact Nat.mul_le_mul (by omega) (by omega)
  have h2 : ((A.natAbs * B.natAbs : Nat) : Int) = A * B := by rw [Int.natCast_mul]; congr 1 <;> omega
  omega
theorem in53_small {z : Int} (h : -16777216 ≤ z ∧ z ≤ 16777216) : In53 z := by unfold In53; omega
set_option maxHeartbeats 1000000 in
theorem norm_int (x y : Int) (h : smallB x y = true) (w : World) : Calls Try.prog 15 #[Value.agg #[Value.int IntKind.i64 x, Value.int IntKind.i64 y]] w fun e w' => (∃ r, e = .returned (.tuple #[.float .f64 r, .int .i64 0]) ∧ F r (x * x + y * y)) ∧ Keeps (fun _ => False) w w' := by
  have Hs := Lib.hid (show smallE [(x, y)] = 0 by rw [small_one, h]; rfl)
  obtain ⟨hx, hy⟩ := small_bounds h
  have Fx := F.nearest (in53_small hx)
  have Fy := F.nearest (in53_small hy)
  have hny : -16777216 ≤ -y ∧ -y ≤ 16777216 := by omega
  obtain ⟨re, im, hm, hre, him⟩ := F.cmul Fx Fy Fx (F_neg Fy) (by have := mul_bound hx hx; unfold In53; omega) (by have := mul_bound hy hny; unfold In53; omega) (by have := mul_bound hx hx; have := mul_bound hy hny; unfold In53; omega)
    (by have := mul_bound hx hny; unfold In53; omega) (by have := mul_bound hy hx; unfold In53; omega) (by have := mul_bound hx hny; have := mul_bound hy hx; unfold In53; omega)
  have hmul := fun w => run_complex_mul (P := Try.prog) w 42 _ _ _ _ re im hm
  rw [show x * x - y * -y = x * x + y * y by rw [Int.mul_neg]; omega] at hre
  have Hre := Lib.hid hre
  have hcx := fun w => complex_calls x y w
  generalize FloatKind.f64.nearest x = bx at hmul hcx
  generalize FloatKind.f64.nearest y = by' at hmul hcx
  clear Fx Fy hny hm hre him hx hy h
  go_enter Try.func15, Try.ntmps15
  go_wp2_with fail
  have cc := small_calls (w.heap.size + 1) 1 [(x, y)] (by simp) _ (by simp) (one_pt2 w (.cells #[.int .i64 x, .int .i64 y] 23) x y)
  rw [Hs.out] at cc
  have hb : ((w.alloc (.cells #[.int .i64 x, .int .i64 y] 23)).alloc (.cells #[.int .i64 x, .int .i64 y] 23)).heap[w.heap.size]? = some (.cells #[.int .i64 x, .int .i64 y] 23 (0, 0)) := by
    rw [Below.heap_alloc _ _ _ (by simp)]; exact heap_alloc_new w _
  refine cc.mono ?_; clear cc; rintro e w1 ⟨rfl, hk1⟩
  have hb1 := (hk1.block w.heap.size (by simp; omega) (fun h => h)).trans hb
  have c0 : w1.cell? ⟨w.heap.size, 0, none⟩ = some (.int .i64 x) := by rw [cell_of_row _ _ _ _ _ _ hb1]; rfl
  have c1 : w1.cell? ⟨w.heap.size, 1, none⟩ = some (.int .i64 y) := by rw [cell_of_row _ _ _ _ _ _ hb1]; rfl
  have hK := (((Keeps.refl (fun _ => False) w).alloc _).alloc _).trans hk1 (fun _ _ h => h)
  clear hb hb1 hk1
  go_wp2_with fail
  refine (hcx _).mono ?_; rintro e w2 ⟨rfl, hk2⟩
  have hK2 := hK.trans hk2 (fun _ _ h => h)
  go_wp2_with fail
  refine (conj_calls _ _ _).mono ?_; rintro e w3 ⟨rfl, rfl⟩
  go_wp2
  go_ret2
  exact ⟨⟨_, rfl, Hre.out⟩, hK2⟩
end Go.Proofs.Ytgdnkpngojbjpaa.pl
