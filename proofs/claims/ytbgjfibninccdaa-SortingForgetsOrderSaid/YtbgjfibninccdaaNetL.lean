/- The bitonic network as a list of comparators; what it makes of a list. No program here. -/
import Derived.Test.YtbgjfibninccdaaNet
namespace Go.Proofs.Ytbgjfibninccdaa.nw

/-- The comparator of index i in a round, if it has one. -/
def cmpr (k j i : Nat) : Nat × Nat := if bt i k then (i + j, i) else (i, i + j)
def comps (k j n : Nat) : List (Nat × Nat) := (List.range n).flatMap fun i => if bt i j then [] else [cmpr k j i]
/-- The comparators of a stage: j = 2^(q-1) down to 1. -/
def rl (k n : Nat) : Nat → List (Nat × Nat)
  | 0 => []
  | q + 1 => comps k (2 ^ q) n ++ rl k n q
/-- The comparators of stages 1 to r. -/
def nl (n : Nat) : Nat → List (Nat × Nat)
  | 0 => []
  | r + 1 => nl n r ++ rl (2 ^ (r + 1)) n (r + 1)
/-- A comparator puts two elements of a list in order. -/
def cx (l : List Int) (c : Nat × Nat) : List Int := (l.set c.1 (min (l.getD c.1 0) (l.getD c.2 0))).set c.2 (max (l.getD c.1 0) (l.getD c.2 0))
theorem cx_length (l : List Int) (c : Nat × Nat) : (cx l c).length = l.length := by simp [cx]
theorem fold_length (L : List (Nat × Nat)) : ∀ l : List Int, (L.foldl cx l).length = l.length := by
  induction L with
  | nil => intro l; rfl
  | cons c L ih => intro l; rw [List.foldl_cons, ih, cx_length]

/-! ### bits -/
theorem bt_le {x q : Nat} (h : bt x (2 ^ q) = true) : 2 ^ q ≤ x := by
  rcases Nat.lt_or_ge x (2 ^ q) with hl | hl
  · unfold bt at h
    rw [Nat.div_eq_of_lt hl] at h
    cases h
  · exact hl
theorem bt_sub {x q : Nat} (h : bt x (2 ^ q) = true) : bt (x - 2 ^ q) (2 ^ q) = false := by
  have hle := bt_le h
  have h0 := Nat.two_pow_pos q
  unfold bt at h ⊢
  have e : x / 2 ^ q = (x - 2 ^ q) / 2 ^ q + 1 := by
    conv => lhs; rw [show x = (x - 2 ^ q) + 2 ^ q by omega]
    exact Nat.add_div_right _ h0
  rw [beq_iff_eq] at h
  rw [beq_eq_false_iff_ne]
  omega
theorem bt_add {x q : Nat} (h : bt x (2 ^ q) = false) : bt (x + 2 ^ q) (2 ^ q) = true := by
  have h0 := Nat.two_pow_pos q
  unfold bt at h ⊢
  rw [Nat.add_div_right _ h0]
  rw [beq_eq_false_iff_ne] at h
  rw [beq_iff_eq]
  omega
theorem bt_lt {x q n : Nat} (h : bt x (2 ^ q) = false) (hx : x < n) (hn : 2 ^ (q + 1) ∣ n) : x + 2 ^ q < n := by
  obtain ⟨m, rfl⟩ := hn
  have h0 := Nat.two_pow_pos q
  unfold bt at h
  rw [beq_eq_false_iff_ne] at h
  have h1 : x / 2 ^ q < 2 * m := by
    rw [Nat.div_lt_iff_lt_mul h0]
    rw [Nat.pow_succ] at hx
    rw [Nat.mul_comm 2 m, Nat.mul_assoc, Nat.mul_comm 2]
    rwa [Nat.mul_comm (2 ^ q * 2) m] at hx
  have h2 : x / 2 ^ q + 1 < 2 * m := by omega
  have h3 : (x + 2 ^ q) / 2 ^ q < 2 * m := by rw [Nat.add_div_right _ h0]; exact h2
  rw [Nat.div_lt_iff_lt_mul h0] at h3
  rw [Nat.pow_succ, Nat.mul_assoc, Nat.mul_comm (2 ^ q)]
  exact h3

/-! ### a round of comparators -/
theorem getD_cx {l : List Int} {a b x : Nat} (ha : a < l.length) (hb : b < l.length) : (cx l (a, b)).getD x 0 = if x = b then max (l.getD a 0) (l.getD b 0) else if x = a then min (l.getD a 0) (l.getD b 0) else l.getD x 0 := by
  show ((l.set a _).set b _).getD x 0 = _
  simp only [List.getD_eq_getElem?_getD, List.getElem?_set]
  by_cases h1 : b = x
  · subst h1
    rw [if_pos rfl, if_pos rfl, if_pos (by simpa using hb)]
    rfl
  · rw [if_neg h1, if_neg (show ¬ x = b from fun h => h1 h.symm)]
    by_cases h2 : a = x
    · subst h2
      rw [if_pos rfl, if_pos rfl, if_pos ha]
      rfl
    · rw [if_neg h2, if_neg (show ¬ x = a from fun h => h2 h.symm)]
/-- The comparators of the first t indices have put their pairs in order. -/
theorem comps_upto {k q n : Nat} (hn : 2 ^ (q + 1) ∣ n) (l : List Int) (hl : l.length = n) : ∀ t, t ≤ n → ∀ x, x < n →
    ((((List.range t).flatMap fun i => if bt i (2 ^ q) then [] else [cmpr k (2 ^ q) i]).foldl cx l).getD x 0) = if (if bt x (2 ^ q) then x - 2 ^ q else x) < t then RI k (2 ^ q) (fun i => l.getD i 0) x else l.getD x 0 := by
  intro t
  induction t with
  | zero => intro _ x _; simp
  | succ t ih =>
    intro ht x hx
    have h0 := Nat.two_pow_pos q
    rw [List.range_succ, List.flatMap_append, List.foldl_append]
    have hlen := fold_length ((List.range t).flatMap fun i => if bt i (2 ^ q) then [] else [cmpr k (2 ^ q) i]) l
    have ih' := ih (by omega)
    generalize ((List.range t).flatMap fun i => if bt i (2 ^ q) then [] else [cmpr k (2 ^ q) i]).foldl cx l = m at hlen ih' ⊢
    by_cases hb : bt t (2 ^ q) = true
    · have e : ((([t] : List Nat).flatMap fun i => if bt i (2 ^ q) then [] else [cmpr k (2 ^ q) i]).foldl cx m) = m := by simp [hb]
      rw [e, ih' x hx]
      have hne : (if bt x (2 ^ q) then x - 2 ^ q else x) ≠ t := by
        intro h
        by_cases hbx : bt x (2 ^ q) = true
        · rw [if_pos hbx] at h
          have := bt_sub hbx
          rw [h, hb] at this
          cases this
        · rw [if_neg hbx] at h
          rw [h] at hbx
          exact hbx hb
      by_cases h1 : (if bt x (2 ^ q) then x - 2 ^ q else x) < t
      · rw [if_pos h1, if_pos (by omega)]
      · rw [if_neg h1, if_neg (by omega)]
    · have hb' : bt t (2 ^ q) = false := by simpa using hb
      have htn := bt_lt hb' (by omega) hn
      have e : ((([t] : List Nat).flatMap fun i => if bt i (2 ^ q) then [] else [cmpr k (2 ^ q) i]).foldl cx m) = cx m (cmpr k (2 ^ q) t) := by simp [hb']
      rw [e]
      have m1 : m.getD t 0 = l.getD t 0 := by rw [ih' t (by omega), if_neg (by rw [hb']; simp)]
      have m2 : m.getD (t + 2 ^ q) 0 = l.getD (t + 2 ^ q) 0 := by
        rw [ih' _ htn, if_neg]
        rw [bt_add hb', if_pos rfl]; omega
      have hx1 : ∀ y, (if bt y (2 ^ q) then y - 2 ^ q else y) = t → y = t ∨ y = t + 2 ^ q := by
        intro y hy
        by_cases hby : bt y (2 ^ q) = true
        · rw [if_pos hby] at hy
          have := bt_le hby
          right; omega
        · rw [if_neg hby] at hy; exact .inl hy
      have lowt : (if bt t (2 ^ q) then t - 2 ^ q else t) = t := by rw [hb']; simp
      have lowt' : (if bt (t + 2 ^ q) (2 ^ q) then t + 2 ^ q - 2 ^ q else t + 2 ^ q) = t := by rw [bt_add hb', if_pos rfl]; omega
      have r1 : RI k (2 ^ q) (fun i => l.getD i 0) t = if bt t k then max (l.getD t 0) (l.getD (t + 2 ^ q) 0) else min (l.getD t 0) (l.getD (t + 2 ^ q) 0) := by
        unfold RI R; rw [hb']; rfl
      have r2 : RI k (2 ^ q) (fun i => l.getD i 0) (t + 2 ^ q) = if bt t k then min (l.getD t 0) (l.getD (t + 2 ^ q) 0) else max (l.getD t 0) (l.getD (t + 2 ^ q) 0) := by
        unfold RI R; rw [bt_add hb', if_pos rfl, show t + 2 ^ q - 2 ^ q = t by omega]
      have hother : x ≠ t → x ≠ t + 2 ^ q → (if (if bt x (2 ^ q) then x - 2 ^ q else x) < t + 1 then RI k (2 ^ q) (fun i => l.getD i 0) x else l.getD x 0) = m.getD x 0 := by
        intro n1 n2
        have hne : (if bt x (2 ^ q) then x - 2 ^ q else x) ≠ t := fun h => by rcases hx1 x h with h | h; exact n1 h; exact n2 h
        rw [ih' x hx]
        by_cases h1 : (if bt x (2 ^ q) then x - 2 ^ q else x) < t
        · rw [if_pos h1, if_pos (by omega)]
        · rw [if_neg h1, if_neg (by omega)]
      unfold cmpr
      by_cases hk : bt t k = true
      · rw [if_pos hk, getD_cx (by omega) (by omega), m1, m2]
        rw [if_pos hk] at r1 r2
        by_cases n1 : x = t
        · subst n1
          rw [if_pos rfl, lowt, if_pos (by omega), r1, Int.max_comm]
        · rw [if_neg n1]
          by_cases n2 : x = t + 2 ^ q
          · subst n2
            rw [if_pos rfl, lowt', if_pos (by omega), r2, Int.min_comm]
          · rw [if_neg n2, hother n1 n2]
      · rw [if_neg hk, getD_cx (by omega) (by omega), m1, m2]
        rw [if_neg hk] at r1 r2
        by_cases n2 : x = t + 2 ^ q
        · subst n2
          rw [if_pos rfl, lowt', if_pos (by omega), r2]
        · rw [if_neg n2]
          by_cases n1 : x = t
          · subst n1
            rw [if_pos rfl, lowt, if_pos (by omega), r1]
          · rw [if_neg n1, hother n1 n2]
theorem comps_R {k q n : Nat} (hn : 2 ^ (q + 1) ∣ n) (l : List Int) (hl : l.length = n) {x : Nat} (hx : x < n) : ((comps k (2 ^ q) n).foldl cx l).getD x 0 = RI k (2 ^ q) (fun i => l.getD i 0) x := by
  have := comps_upto (k := k) hn l hl n (Nat.le_refl _) x hx
  rw [if_pos (by split <;> omega)] at this
  exact this
/-- A round's answer at indices below n asks only for elements below n. -/
theorem RI_cong {k q n : Nat} (hn : 2 ^ (q + 1) ∣ n) {f g : Nat → Int} (h : ∀ x, x < n → f x = g x) {x : Nat} (hx : x < n) : RI k (2 ^ q) f x = RI k (2 ^ q) g x := by
  unfold RI R
  by_cases hb : bt x (2 ^ q) = true
  · rw [if_pos hb, if_pos hb, h x hx, h (x - 2 ^ q) (by omega)]
  · rw [if_neg hb, if_neg hb, h x hx, h (x + 2 ^ q) (bt_lt (by simpa using hb) hx hn)]
theorem rounds_cong {k n : Nat} : ∀ (q : Nat), 2 ^ q ∣ n → ∀ {f g : Nat → Int}, (∀ x, x < n → f x = g x) → ∀ {x : Nat}, x < n → rounds (RI k) q f x = rounds (RI k) q g x
  | 0, _, _, _, h, x, hx => h x hx
  | q + 1, hn, _, _, h, _, hx => rounds_cong q (Nat.dvd_trans (Nat.pow_dvd_pow 2 (Nat.le_succ q)) hn) (fun _ hy => RI_cong hn h hy) hx
theorem rl_R {k n : Nat} : ∀ (q : Nat), 2 ^ q ∣ n → ∀ (l : List Int), l.length = n → ∀ {x : Nat}, x < n → ((rl k n q).foldl cx l).getD x 0 = rounds (RI k) q (fun i => l.getD i 0) x
  | 0, _, _, _, _, _ => rfl
  | q + 1, hn, l, hl, x, hx => by
    show ((comps k (2 ^ q) n ++ rl k n q).foldl cx l).getD x 0 = rounds (RI k) q (RI k (2 ^ q) fun i => l.getD i 0) x
    have hn' : 2 ^ q ∣ n := Nat.dvd_trans (Nat.pow_dvd_pow 2 (Nat.le_succ q)) hn
    rw [List.foldl_append, rl_R q hn' _ (by rw [fold_length, hl]) hx]
    exact rounds_cong q hn' (fun y hy => comps_R hn l hl hy) hx
theorem nl_R {n : Nat} : ∀ (r : Nat), 2 ^ r ∣ n → ∀ (l : List Int), l.length = n → ∀ {x : Nat}, x < n → ((nl n r).foldl cx l).getD x 0 = net RI r (fun i => l.getD i 0) x
  | 0, _, _, _, _, _ => rfl
  | r + 1, hn, l, hl, x, hx => by
    show ((nl n r ++ rl (2 ^ (r + 1)) n (r + 1)).foldl cx l).getD x 0 = rounds (RI (2 ^ (r + 1))) (r + 1) (net RI r fun i => l.getD i 0) x
    have hn' : 2 ^ r ∣ n := Nat.dvd_trans (Nat.pow_dvd_pow 2 (Nat.le_succ r)) hn
    rw [List.foldl_append, rl_R (r + 1) hn _ (by rw [fold_length, hl]) hx]
    exact rounds_cong (r + 1) hn (fun y hy => nl_R r hn' l hl hy) hx

/-- The network's list of comparators sorts a list of 2^r integers. -/
theorem nl_sorts {r : Nat} {l : List Int} (hl : l.length = 2 ^ r) : ((nl (2 ^ r) r).foldl cx l).Pairwise (· ≤ ·) := by
  rw [List.pairwise_iff_getElem]
  intro i j hi hj hij
  have hlen := fold_length (nl (2 ^ r) r) l
  have g : ∀ x (hx : x < ((nl (2 ^ r) r).foldl cx l).length), ((nl (2 ^ r) r).foldl cx l)[x] = net RI r (fun i => l.getD i 0) x := by
    intro x hx
    have := nl_R r (Nat.dvd_refl _) l hl (x := x) (by omega)
    rw [List.getD_eq_getElem?_getD, List.getElem?_eq_getElem hx] at this
    exact this
  rw [g i hi, g j hj]
  exact net_mono r _ (by omega) (by omega)

/-! ### where the comparators lie -/
theorem comps_mem {k q n : Nat} (hn : 2 ^ (q + 1) ∣ n) {c : Nat × Nat} (h : c ∈ comps k (2 ^ q) n) : c.1 < n ∧ c.2 < n ∧ c.1 ≠ c.2 := by
  unfold comps at h
  obtain ⟨i, hi, hc⟩ := List.mem_flatMap.1 h
  rw [List.mem_range] at hi
  have h0 := Nat.two_pow_pos q
  by_cases hb : bt i (2 ^ q) = true
  · rw [if_pos hb] at hc; simp at hc
  · rw [if_neg hb] at hc
    have := bt_lt (by simpa using hb) hi hn
    rw [List.mem_singleton] at hc
    rw [hc]
    unfold cmpr
    split
    · exact ⟨this, hi, by show i + 2 ^ q ≠ i; omega⟩
    · exact ⟨hi, this, by show i ≠ i + 2 ^ q; omega⟩
theorem rl_mem {k n : Nat} : ∀ (q : Nat), 2 ^ q ∣ n → ∀ {c : Nat × Nat}, c ∈ rl k n q → c.1 < n ∧ c.2 < n ∧ c.1 ≠ c.2
  | 0, _, c, h => by simp [rl] at h
  | q + 1, hn, c, h => by
    rcases List.mem_append.1 h with h | h
    · exact comps_mem hn h
    · exact rl_mem q (Nat.dvd_trans (Nat.pow_dvd_pow 2 (Nat.le_succ q)) hn) h
theorem nl_mem {n : Nat} : ∀ (r : Nat), 2 ^ r ∣ n → ∀ {c : Nat × Nat}, c ∈ nl n r → c.1 < n ∧ c.2 < n ∧ c.1 ≠ c.2
  | 0, _, c, h => by simp [nl] at h
  | r + 1, hn, c, h => by
    rcases List.mem_append.1 h with h | h
    · exact nl_mem r (Nat.dvd_trans (Nat.pow_dvd_pow 2 (Nat.le_succ r)) hn) h
    · exact rl_mem (r + 1) hn h
theorem cx_perm {l : List Int} {c : Nat × Nat} (h1 : c.1 < l.length) (h2 : c.2 < l.length) : (cx l c).Perm l := by
  have g1 : l.getD c.1 0 = l[c.1] := by rw [List.getD_eq_getElem?_getD, List.getElem?_eq_getElem h1]; rfl
  have g2 : l.getD c.2 0 = l[c.2] := by rw [List.getD_eq_getElem?_getD, List.getElem?_eq_getElem h2]; rfl
  unfold cx
  rw [g1, g2]
  by_cases h : l[c.1] ≤ l[c.2]
  · rw [Int.min_eq_left h, Int.max_eq_right h, List.set_getElem_self, List.set_getElem_self]
  · rw [Int.min_eq_right (by omega), Int.max_eq_left (by omega)]
    exact List.set_set_perm h1 h2
theorem fold_perm : ∀ (L : List (Nat × Nat)) (l : List Int), (∀ c ∈ L, c.1 < l.length ∧ c.2 < l.length) → (L.foldl cx l).Perm l
  | [], l, _ => List.Perm.refl l
  | c :: L, l, h => by
    have hc := h c (by simp)
    exact (fold_perm L (cx l c) (fun d hd => by rw [cx_length]; exact h d (by simp [hd]))).trans (cx_perm hc.1 hc.2)
theorem nl_perm {r : Nat} {l : List Int} (hl : l.length = 2 ^ r) : ((nl (2 ^ r) r).foldl cx l).Perm l :=
  fold_perm _ l fun c hc => by have := nl_mem r (Nat.dvd_refl _) hc; rw [hl]; exact ⟨this.1, this.2.1⟩
/-- Two sorted lists with the same elements are one. -/
theorem sorted_unique {l m : List Int} (hl : l.Pairwise (· ≤ ·)) (hm : m.Pairwise (· ≤ ·)) (h : l.Perm m) : l = m :=
  h.eq_of_pairwise (fun _ _ _ _ h1 h2 => Int.le_antisymm h1 h2) hl hm
end Go.Proofs.Ytbgjfibninccdaa.nw
