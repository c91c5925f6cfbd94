/- Orientations and circles over the integers: plain laws, no program in sight. -/
import Derived.Test.YtmoajobnhiopiaaGreatDoorLimb
set_option linter.unusedSimpArgs false
set_option linter.unusedVariables false
namespace Go.Proofs.YtmoajobnhiopiaaGreatDoor.gm
open Go Go.Proofs.YtmoajobnhiopiaaGreatDoor.mk Go.Proofs.YtmoajobnhiopiaaGreatDoor.lm

/-- The cross product of two vectors. -/
def cr (u v : Int × Int) : Int := u.1 * v.2 - u.2 * v.1
/-- The vector from a point to another one. -/
def vec (a b : Int × Int) : Int × Int := (b.1 - a.1, b.2 - a.2)
/-- The orientation's determinant. -/
def det (a b c : Int × Int) : Int := cr (vec a b) (vec a c)
/-- The square of a length. -/
def nrm (u : Int × Int) : Int := u.1 * u.1 + u.2 * u.2
/-- The circle's determinant. -/
def inc (a b c d : Int × Int) : Int := nrm (vec d a) * cr (vec d b) (vec d c) + nrm (vec d b) * cr (vec d c) (vec d a) + nrm (vec d c) * cr (vec d a) (vec d b)
/-- A point of the plane. -/
def Pt (p : Int × Int) : Prop := IsS p.1 ∧ IsS p.2
theorem sgnI_cases (x : Int) : (x < 0 ∧ sgnI x = -1) ∨ (x = 0 ∧ sgnI x = 0) ∨ (0 < x ∧ sgnI x = 1) := by
  unfold sgnI
  by_cases h : x < 0
  · exact .inl ⟨h, if_pos h⟩
  · rw [if_neg h]
    by_cases h0 : x = 0
    · exact .inr (.inl ⟨h0, if_pos h0⟩)
    · exact .inr (.inr ⟨by omega, if_neg h0⟩)
theorem sgnI_mul (x y : Int) : sgnI (x * y) = sgnI x * sgnI y := by
  rcases sgnI_cases x with ⟨h, e⟩ | ⟨h, e⟩ | ⟨h, e⟩ <;> rcases sgnI_cases y with ⟨k, f⟩ | ⟨k, f⟩ | ⟨k, f⟩ <;> rw [e, f]
  · rw [show sgnI (x * y) = 1 from by have := Int.mul_pos_of_neg_of_neg h k; unfold sgnI; rw [if_neg (by omega), if_neg (by omega)]]; rfl
  · subst k; rw [Int.mul_zero]; rfl
  · rw [show sgnI (x * y) = -1 from by have := Int.mul_neg_of_neg_of_pos h k; unfold sgnI; rw [if_pos (by omega)]]; rfl
  · subst h; rw [Int.zero_mul]; rfl
  · subst h; rw [Int.zero_mul]; rfl
  · subst h; rw [Int.zero_mul]; rfl
  · rw [show sgnI (x * y) = -1 from by have := Int.mul_neg_of_pos_of_neg h k; unfold sgnI; rw [if_pos (by omega)]]; rfl
  · subst k; rw [Int.mul_zero]; rfl
  · rw [show sgnI (x * y) = 1 from by have := Int.mul_pos h k; unfold sgnI; rw [if_neg (by omega), if_neg (by omega)]]; rfl
theorem sgnI_neg (x : Int) : sgnI (-x) = - sgnI x := by
  rcases sgnI_cases x with ⟨h, e⟩ | ⟨h, e⟩ | ⟨h, e⟩ <;> rcases sgnI_cases (-x) with ⟨k, f⟩ | ⟨k, f⟩ | ⟨k, f⟩ <;> rw [e, f] <;> omega
theorem sgnI_bound (x : Int) : -1 ≤ sgnI x ∧ sgnI x ≤ 1 := by
  rcases sgnI_cases x with ⟨h, e⟩ | ⟨h, e⟩ | ⟨h, e⟩ <;> rw [e] <;> omega
theorem sgnI_sgnI (x : Int) : sgnI (sgnI x) = sgnI x := by
  rcases sgnI_cases x with ⟨h, e⟩ | ⟨h, e⟩ | ⟨h, e⟩ <;> rw [e] <;> rfl
theorem det_turn (a b c : Int × Int) : det b c a = det a b c := by unfold det cr vec; grind
theorem det_ref (a b c : Int × Int) : (b.1 * c.2 - b.2 * c.1) - (a.1 * c.2 - a.2 * c.1) + (a.1 * b.2 - a.2 * b.1) = det a b c := by unfold det cr vec; grind
/-! ### triangles -/
theorem det_to (a b p : Int × Int) : det a b p = cr (vec p a) (vec p b) := by unfold det cr vec; grind
theorem sq_nonneg (a : Int) : 0 ≤ a * a := by
  rcases Int.le_total 0 a with h | h
  · exact Int.mul_nonneg h h
  · have := Int.mul_nonneg (show 0 ≤ -a by omega) (show 0 ≤ -a by omega)
    rwa [Int.neg_mul_neg] at this
theorem nrm_nonneg (u : Int × Int) : 0 ≤ nrm u := by
  unfold nrm
  have := sq_nonneg u.1
  have := sq_nonneg u.2
  omega
theorem nrm_pos {u v : Int × Int} (h : cr u v ≠ 0) : 0 < nrm u := by
  have h1 : 0 ≤ u.1 * u.1 := sq_nonneg u.1
  have h2 : 0 ≤ u.2 * u.2 := sq_nonneg u.2
  unfold nrm
  by_cases h0 : u.1 = 0
  · by_cases h3 : u.2 = 0
    · exact absurd (by unfold cr; rw [h0, h3]; simp) h
    · have : 0 < u.2 * u.2 := by
        rcases Int.lt_or_gt_of_ne h3 with h | h
        · exact Int.mul_pos_of_neg_of_neg h h
        · exact Int.mul_pos h h
      omega
  · have : 0 < u.1 * u.1 := by
      rcases Int.lt_or_gt_of_ne h0 with h | h
      · exact Int.mul_pos_of_neg_of_neg h h
      · exact Int.mul_pos h h
    omega
theorem inc_pos {a b c p : Int × Int} {s : Int} (h0 : 0 ≤ s * det a b p) (h1 : 0 ≤ s * det b c p) (h2 : 0 ≤ s * det c a p) :
    0 ≤ s * inc a b c p ∧ (0 < s * det a b p → 0 < s * det b c p → 0 < s * det c a p → 0 < s * inc a b c p) := by
  rw [det_to] at h0 h1 h2
  rw [det_to a b p, det_to b c p, det_to c a p]
  have e : s * inc a b c p = nrm (vec p a) * (s * cr (vec p b) (vec p c)) + nrm (vec p b) * (s * cr (vec p c) (vec p a)) + nrm (vec p c) * (s * cr (vec p a) (vec p b)) := by unfold inc; grind
  have k0 := Int.mul_nonneg (nrm_nonneg (vec p a)) h1
  have k1 := Int.mul_nonneg (nrm_nonneg (vec p b)) h2
  have k2 := Int.mul_nonneg (nrm_nonneg (vec p c)) h0
  rw [e]
  refine ⟨by omega, fun p0 p1 p2 => ?_⟩
  have hne : cr (vec p a) (vec p b) ≠ 0 := fun h => by rw [h, Int.mul_zero] at p0; omega
  have := Int.mul_pos (nrm_pos hne) p1
  omega
theorem sgn_nonneg {s x : Int} : 0 ≤ sgnI s * sgnI x ↔ 0 ≤ sgnI s * x := by
  rcases sgnI_cases s with ⟨h, e⟩ | ⟨h, e⟩ | ⟨h, e⟩ <;> rcases sgnI_cases x with ⟨k, f⟩ | ⟨k, f⟩ | ⟨k, f⟩ <;> rw [e, f] <;> omega
theorem sgn_pos {s x : Int} : 0 < sgnI s * sgnI x ↔ 0 < sgnI s * x := by
  rcases sgnI_cases s with ⟨h, e⟩ | ⟨h, e⟩ | ⟨h, e⟩ <;> rcases sgnI_cases x with ⟨k, f⟩ | ⟨k, f⟩ | ⟨k, f⟩ <;> rw [e, f] <;> omega
/-- The position by three sides. -/
def locI (l : List Int) : Int := if l.any (fun x => decide (x < 0)) then -1 else if l.any (fun x => x == 0) then 0 else 1
theorem locI_neg {l : List Int} : 0 ≤ locI l ↔ ∀ x ∈ l, 0 ≤ x := by
  unfold locI
  by_cases h : l.any (fun x => decide (x < 0)) = true
  · rw [if_pos h]
    rw [List.any_eq_true] at h
    obtain ⟨x, hx, h⟩ := h
    have h' : x < 0 := by simpa using h
    exact ⟨fun h => by omega, fun h => by have := h x hx; omega⟩
  · rw [if_neg h]
    refine ⟨fun _ x hx => ?_, fun _ => by split <;> omega⟩
    exact Int.not_lt.1 (fun h' => h (List.any_eq_true.2 ⟨x, hx, by simpa using h'⟩))
theorem locI_pos {l : List Int} : 1 ≤ locI l ↔ ∀ x ∈ l, 0 < x := by
  constructor
  · intro h x hx
    have h0 := locI_neg.1 (show 0 ≤ locI l by omega) x hx
    rcases Int.lt_or_eq_of_le h0 with h1 | h1
    · exact h1
    · exfalso
      unfold locI at h
      by_cases hn : l.any (fun x => decide (x < 0)) = true
      · rw [if_pos hn] at h; omega
      · rw [if_neg hn, if_pos (List.any_eq_true.2 ⟨x, hx, by simp [← h1]⟩)] at h
        omega
  · intro h
    unfold locI
    rw [if_neg, if_neg]
    · omega
    · rw [List.any_eq_true]; rintro ⟨x, hx, h0⟩; have h1 := h x hx; have h2 : x = 0 := eq_of_beq h0; omega
    · rw [List.any_eq_true]; rintro ⟨x, hx, h0⟩; have h1 := h x hx; have h2 : x < 0 := of_decide_eq_true h0; omega
/-- What the law on triangles says. -/
theorem triangle_law (a b c p : Int × Int) (s : Int) :
    let L := locI [sgnI s * sgnI (det a b p), sgnI s * sgnI (det b c p), sgnI s * sgnI (det c a p)]
    let D := sgnI (inc a b c p) * sgnI s
    (L < 0 ∨ 0 ≤ D) ∧ (L < 1 ∨ D = 1) := by
  intro L D
  have hD := Int.mul_comm (sgnI (inc a b c p)) (sgnI s)
  have hb := sgnI_bound (s * inc a b c p)
  rw [sgnI_mul] at hb
  constructor
  · by_cases h : L < 0
    · exact .inl h
    · refine .inr ?_
      have h' := locI_neg.1 (show 0 ≤ L by omega)
      have h0 := sgn_nonneg.1 (h' _ (by simp : sgnI s * sgnI (det a b p) ∈ _))
      have h1 := sgn_nonneg.1 (h' _ (by simp : sgnI s * sgnI (det b c p) ∈ _))
      have h2 := sgn_nonneg.1 (h' _ (by simp : sgnI s * sgnI (det c a p) ∈ _))
      have := sgn_nonneg.2 (inc_pos h0 h1 h2).1
      show 0 ≤ sgnI (inc a b c p) * sgnI s
      omega
  · by_cases h : L < 1
    · exact .inl h
    · refine .inr ?_
      have h' := locI_pos.1 (show 1 ≤ L by omega)
      have h0 := sgn_pos.1 (h' _ (by simp : sgnI s * sgnI (det a b p) ∈ _))
      have h1 := sgn_pos.1 (h' _ (by simp : sgnI s * sgnI (det b c p) ∈ _))
      have h2 := sgn_pos.1 (h' _ (by simp : sgnI s * sgnI (det c a p) ∈ _))
      have := sgn_pos.2 ((inc_pos (by omega) (by omega) (by omega)).2 h0 h1 h2)
      show sgnI (inc a b c p) * sgnI s = 1
      omega
/-! ### middles -/
/-- The side of an edge of a list of vertices. -/
def pt (v : List (Int × Int)) (i : Nat) : Int × Int := v.getD i (0, 0)
def edgeD (v : List (Int × Int)) (i : Nat) (p : Int × Int) : Int := det (pt v i) (pt v ((i + 1) % v.length)) p
def polyS (v : List (Int × Int)) : Int := sgnI (det (pt v 0) (pt v 1) (pt v 2))
def sides (v : List (Int × Int)) (k : Nat) (p : Int × Int) : List Int := (List.range k).map (fun i => polyS v * sgnI (edgeD v i p))
theorem det_mid (a b p q m : Int × Int) (h1 : 2 * m.1 = p.1 + q.1) (h2 : 2 * m.2 = p.2 + q.2) : 2 * det a b m = det a b p + det a b q := by
  unfold det cr vec
  grind
theorem sgn_mid {s x y z : Int} (h : 2 * z = x + y) (hx : 0 ≤ sgnI s * sgnI x) (hy : 0 ≤ sgnI s * sgnI y) : 0 ≤ sgnI s * sgnI z := by
  rw [sgn_nonneg] at hx hy ⊢
  have : 2 * (sgnI s * z) = sgnI s * x + sgnI s * y := by rw [← Int.mul_add, ← h]; grind
  omega
theorem middle_law (v : List (Int × Int)) (p q m : Int × Int) (h1 : 2 * m.1 = p.1 + q.1) (h2 : 2 * m.2 = p.2 + q.2) (hp : 0 ≤ locI (sides v v.length p)) (hq : 0 ≤ locI (sides v v.length q)) : 0 ≤ locI (sides v v.length m) := by
  rw [locI_neg] at *
  intro x hx
  unfold sides at hx
  rw [List.mem_map] at hx
  obtain ⟨i, hi, rfl⟩ := hx
  exact sgn_mid (det_mid _ _ p q m h1 h2) (hp _ (List.mem_map.2 ⟨i, hi, rfl⟩)) (hq _ (List.mem_map.2 ⟨i, hi, rfl⟩))
/-! ### translations and exchanges -/
theorem det_move (a b c d : Int × Int) : det (a.1 + d.1, a.2 + d.2) (b.1 + d.1, b.2 + d.2) (c.1 + d.1, c.2 + d.2) = det a b c := by unfold det cr vec; grind
theorem inc_move (a b c p d : Int × Int) : inc (a.1 + d.1, a.2 + d.2) (b.1 + d.1, b.2 + d.2) (c.1 + d.1, c.2 + d.2) (p.1 + d.1, p.2 + d.2) = inc a b c p := by
  unfold inc
  have e : ∀ u v : Int × Int, vec (u.1 + d.1, u.2 + d.2) (v.1 + d.1, v.2 + d.2) = vec u v := fun u v => by unfold vec; simp; omega
  rw [e, e, e]
theorem det_swap (a b c : Int × Int) : det a.swap b.swap c.swap = - det a b c := by unfold det cr vec; simp only [Prod.fst_swap, Prod.snd_swap]; omega
theorem inc_swap (a b c d : Int × Int) : inc a.swap b.swap c.swap d.swap = - inc a b c d := by
  unfold inc
  have e : ∀ u v : Int × Int, vec u.swap v.swap = (vec u v).swap := fun u v => rfl
  have f : ∀ u v : Int × Int, cr u.swap v.swap = - cr u v := fun u v => by unfold cr; simp only [Prod.fst_swap, Prod.snd_swap]; omega
  have g : ∀ u : Int × Int, nrm u.swap = nrm u := fun u => by unfold nrm; simp only [Prod.fst_swap, Prod.snd_swap]; omega
  rw [e, e, e, f, f, f, g, g, g]
  grind
/-! ### widths -/
/-- An integer within a bound. -/
def In (n : Int) (x : Int) : Prop := -n ≤ x ∧ x ≤ n
theorem In.sub {m n x y : Int} (h : In m x) (k : In n y) : In (m + n) (x - y) := by unfold In at *; omega
theorem In.add {m n x y : Int} (h : In m x) (k : In n y) : In (m + n) (x + y) := by unfold In at *; omega
theorem In.mul {m n x y : Int} (h : In m x) (k : In n y) : In (m * n) (x * y) := by
  unfold In at *
  have e : ∀ a b : Int, -m ≤ a → a ≤ m → -n ≤ b → b ≤ n → a * b ≤ m * n := by
    intro a b h1 h2 h3 h4
    rcases Int.le_total 0 a with ha | ha
    · calc a * b ≤ a * n := Int.mul_le_mul_of_nonneg_left h4 ha
        _ ≤ m * n := Int.mul_le_mul_of_nonneg_right h2 (by omega)
    · have : a * b = (-a) * (-b) := by grind
      rw [this]
      calc (-a) * (-b) ≤ (-a) * n := Int.mul_le_mul_of_nonneg_left (by omega) (by omega)
        _ ≤ m * n := Int.mul_le_mul_of_nonneg_right (by omega) (by omega)
  refine ⟨?_, e x y h.1 h.2 k.1 k.2⟩
  have := e (-x) y (by omega) (by omega) k.1 k.2
  rw [Int.neg_mul] at this
  omega
theorem In.fit {n : Nat} {m x : Int} (h : In m x) (hm : 2 * m < pw n) : Fit n x := by unfold In Fit at *; omega
theorem in_diff {a b : Int} (ha : IsS a) (hb : IsS b) : In 18446744073709551615 (a - b) := by unfold IsS In at *; omega
theorem in_vec {a b : Int × Int} (ha : Pt a) (hb : Pt b) : In 18446744073709551615 (vec a b).1 ∧ In 18446744073709551615 (vec a b).2 := ⟨in_diff hb.1 ha.1, in_diff hb.2 ha.2⟩
/-- The bound of a product of two differences, twice. -/
def B2 : Int := 18446744073709551615 * 18446744073709551615 + 18446744073709551615 * 18446744073709551615
theorem in_cr {u v : Int × Int} (hu : In 18446744073709551615 u.1 ∧ In 18446744073709551615 u.2) (hv : In 18446744073709551615 v.1 ∧ In 18446744073709551615 v.2) : In B2 (cr u v) := (hu.1.mul hv.2).sub (hu.2.mul hv.1)
theorem in_nrm {u : Int × Int} (hu : In 18446744073709551615 u.1 ∧ In 18446744073709551615 u.2) : In B2 (nrm u) := (hu.1.mul hu.1).add (hu.2.mul hu.2)
theorem in_det {a b c : Int × Int} (ha : Pt a) (hb : Pt b) (hc : Pt c) : In B2 (det a b c) := in_cr (in_vec ha hb) (in_vec ha hc)
theorem fit_det {a b c : Int × Int} (ha : Pt a) (hb : Pt b) (hc : Pt c) : Fit 3 (det a b c) := (in_det ha hb hc).fit (by decide)
theorem fit_inc {a b c d : Int × Int} (ha : Pt a) (hb : Pt b) (hc : Pt c) (hd : Pt d) : Fit 5 (inc a b c d) := by
  have va := in_vec hd ha
  have vb := in_vec hd hb
  have vc := in_vec hd hc
  exact ((((in_nrm va).mul (in_cr vb vc)).add ((in_nrm vb).mul (in_cr vc va))).add ((in_nrm vc).mul (in_cr va vb))).fit (by decide)
end Go.Proofs.YtmoajobnhiopiaaGreatDoor.gm
