/- The bitonic network sorts: a round as a function of vectors of Bool, then of integers. No program here. -/
namespace Go.Proofs.Ytbgjfibninccdaa.nw

/-- The bit of i that has the value v. -/
def bt (i v : Nat) : Bool := i / v % 2 == 1
/-- One round: the elements whose numbers differ by j are put in order, downwards where the bit k is set. -/
def R {α : Type} (lo hi : α → α → α) (k j : Nat) (f : Nat → α) (i : Nat) : α :=
  if bt i j then (if bt (i - j) k then lo (f (i - j)) (f i) else hi (f (i - j)) (f i)) else (if bt i k then hi (f i) (f (i + j)) else lo (f i) (f (i + j)))
/-- The rounds of a stage: j = 2^(q-1) down to 1. -/
def rounds {α : Type} (S : Nat → (Nat → α) → Nat → α) : Nat → (Nat → α) → Nat → α
  | 0, f => f
  | q + 1, f => rounds S q (S (2 ^ q) f)
/-- A round upwards, on Bool. -/
def RA (j : Nat) (f : Nat → Bool) (i : Nat) : Bool := if bt i j then f (i - j) || f i else f i && f (i + j)
def RB (k j : Nat) (f : Nat → Bool) : Nat → Bool := R and or k j f

theorem bt_low {q c t : Nat} (ht : t < 2 ^ q) : bt (c * 2 ^ (q + 1) + t) (2 ^ q) = false := by
  unfold bt
  have h0 := Nat.two_pow_pos q
  have e : (c * 2 ^ (q + 1) + t) / 2 ^ q = c * 2 := by
    rw [Nat.pow_succ, show c * (2 ^ q * 2) = 2 ^ q * (c * 2) by rw [Nat.mul_comm (2 ^ q) 2, ← Nat.mul_assoc, Nat.mul_comm], Nat.mul_add_div h0, Nat.div_eq_of_lt ht, Nat.add_zero]
  rw [e, Nat.mul_mod_left]
  rfl
theorem bt_high {q c t : Nat} (ht : t < 2 ^ q) : bt (c * 2 ^ (q + 1) + 2 ^ q + t) (2 ^ q) = true := by
  unfold bt
  have h0 := Nat.two_pow_pos q
  have e : (c * 2 ^ (q + 1) + 2 ^ q + t) / 2 ^ q = c * 2 + 1 := by
    rw [Nat.pow_succ, show c * (2 ^ q * 2) + 2 ^ q + t = 2 ^ q * (c * 2 + 1) + t by rw [Nat.mul_add, Nat.mul_one, Nat.mul_comm (2 ^ q) (c * 2), Nat.mul_assoc, Nat.mul_comm 2 (2 ^ q)], Nat.mul_add_div h0, Nat.div_eq_of_lt ht, Nat.add_zero]
  rw [e]
  have : (c * 2 + 1) % 2 = 1 := by omega
  rw [this]
  rfl
theorem bt_block {p c t : Nat} (ht : t < 2 ^ p) : bt (c * 2 ^ p + t) (2 ^ p) = (c % 2 == 1) := by
  unfold bt
  rw [Nat.mul_comm, Nat.mul_add_div (Nat.two_pow_pos p), Nat.div_eq_of_lt ht, Nat.add_zero]

/-- Where a block is false but for an interval, or true but for one. -/
def Bit (f : Nat → Bool) (o m : Nat) : Prop := ∃ (s : Bool) (a b : Nat), ∀ t, t < m → f (o + t) = (s ^^ decide (a ≤ t ∧ t < b))
def Con (f : Nat → Bool) (o m : Nat) (v : Bool) : Prop := ∀ t, t < m → f (o + t) = v
def Asc (f : Nat → Bool) (o m : Nat) : Prop := ∃ c, ∀ t, t < m → f (o + t) = decide (c ≤ t)

theorem RA_low {q c t : Nat} (f : Nat → Bool) (ht : t < 2 ^ q) : RA (2 ^ q) f (c * 2 ^ (q + 1) + t) = (f (c * 2 ^ (q + 1) + t) && f (c * 2 ^ (q + 1) + 2 ^ q + t)) := by
  unfold RA
  rw [bt_low ht]
  simp only [Bool.false_eq_true, if_false]
  congr 2
  omega
theorem RA_high {q c t : Nat} (f : Nat → Bool) (ht : t < 2 ^ q) : RA (2 ^ q) f (c * 2 ^ (q + 1) + 2 ^ q + t) = (f (c * 2 ^ (q + 1) + t) || f (c * 2 ^ (q + 1) + 2 ^ q + t)) := by
  unfold RA
  rw [bt_high ht]
  simp only [if_true]
  congr 2
  omega

theorem split {q c : Nat} {f : Nat → Bool} (h : Bit f (c * 2 ^ (q + 1)) (2 ^ (q + 1))) :
    Bit (RA (2 ^ q) f) (c * 2 ^ (q + 1)) (2 ^ q) ∧ Bit (RA (2 ^ q) f) (c * 2 ^ (q + 1) + 2 ^ q) (2 ^ q) ∧ (Con (RA (2 ^ q) f) (c * 2 ^ (q + 1)) (2 ^ q) false ∨ Con (RA (2 ^ q) f) (c * 2 ^ (q + 1) + 2 ^ q) (2 ^ q) true) := by
  obtain ⟨s, a, b, h⟩ := h
  have hm : 2 ^ (q + 1) = 2 ^ q + 2 ^ q := by rw [Nat.pow_succ]; omega
  have f1 : ∀ t, t < 2 ^ q → f (c * 2 ^ (q + 1) + t) = (s ^^ decide (a ≤ t ∧ t < b)) := fun t ht => h t (by omega)
  have f2 : ∀ t, t < 2 ^ q → f (c * 2 ^ (q + 1) + 2 ^ q + t) = (s ^^ decide (a ≤ 2 ^ q + t ∧ 2 ^ q + t < b)) := fun t ht => by rw [Nat.add_assoc]; exact h (2 ^ q + t) (by omega)
  have g1 : ∀ t, t < 2 ^ q → RA (2 ^ q) f (c * 2 ^ (q + 1) + t) = ((s ^^ decide (a ≤ t ∧ t < b)) && (s ^^ decide (a ≤ 2 ^ q + t ∧ 2 ^ q + t < b))) := fun t ht => by rw [RA_low f ht, f1 t ht, f2 t ht]
  have g2 : ∀ t, t < 2 ^ q → RA (2 ^ q) f (c * 2 ^ (q + 1) + 2 ^ q + t) = ((s ^^ decide (a ≤ t ∧ t < b)) || (s ^^ decide (a ≤ 2 ^ q + t ∧ 2 ^ q + t < b))) := fun t ht => by rw [RA_high f ht, f1 t ht, f2 t ht]
  clear h f1 f2 hm
  generalize 2 ^ q = m at g1 g2 ⊢
  -- of both halves: the meet is an interval, the join an interval or its complement
  have meet : ∀ t, t < m → (decide (a ≤ t ∧ t < b) && decide (a ≤ m + t ∧ m + t < b)) = decide (a ≤ t ∧ t < b - m) := by
    intro t ht; rw [Bool.eq_iff_iff]; simp only [Bool.and_eq_true, decide_eq_true_eq]; omega
  have join : ∃ (s' : Bool) (a' b' : Nat), ∀ t, t < m → (decide (a ≤ t ∧ t < b) || decide (a ≤ m + t ∧ m + t < b)) = (s' ^^ decide (a' ≤ t ∧ t < b')) := by
    by_cases h1 : b ≤ m
    · exact ⟨false, a, b, fun t ht => by rw [Bool.eq_iff_iff]; simp only [Bool.or_eq_true, decide_eq_true_eq, Bool.false_xor]; omega⟩
    · by_cases h2 : m ≤ a
      · exact ⟨false, a - m, b - m, fun t ht => by rw [Bool.eq_iff_iff]; simp only [Bool.or_eq_true, decide_eq_true_eq, Bool.false_xor]; omega⟩
      · refine ⟨true, b - m, a, fun t ht => ?_⟩
        rw [Bool.eq_iff_iff]; simp only [Bool.or_eq_true, decide_eq_true_eq, Bool.true_xor, Bool.not_eq_true', decide_eq_false_iff_not]; omega
  have key : (∀ t, t < m → (decide (a ≤ t ∧ t < b) && decide (a ≤ m + t ∧ m + t < b)) = false) ∨ (∀ t, t < m → (decide (a ≤ t ∧ t < b) || decide (a ≤ m + t ∧ m + t < b)) = true) := by
    by_cases h1 : m ≤ a ∨ b - m ≤ a
    · left; intro t ht; rw [meet t ht]; rw [decide_eq_false_iff_not]; omega
    · right; intro t ht; simp only [Bool.or_eq_true, decide_eq_true_eq]; omega
  obtain ⟨s', a', b', join⟩ := join
  cases s with
  | false =>
    simp only [Bool.false_xor] at g1 g2
    refine ⟨⟨false, a, b - m, fun t ht => by rw [g1 t ht, meet t ht, Bool.false_xor]⟩, ⟨s', a', b', fun t ht => by rw [g2 t ht, join t ht]⟩, ?_⟩
    rcases key with k | k
    · exact .inl fun t ht => by rw [g1 t ht, k t ht]
    · exact .inr fun t ht => by rw [g2 t ht, k t ht]
  | true =>
    simp only [Bool.true_xor] at g1 g2
    refine ⟨⟨!s', a', b', fun t ht => by rw [g1 t ht, ← Bool.not_or, join t ht, Bool.not_xor]⟩, ⟨true, a, b - m, fun t ht => by rw [g2 t ht, ← Bool.not_and, meet t ht, Bool.true_xor]⟩, ?_⟩
    rcases key with k | k
    · exact .inr fun t ht => by rw [g2 t ht, ← Bool.not_and, k t ht]; rfl
    · exact .inl fun t ht => by rw [g1 t ht, ← Bool.not_or, k t ht]; rfl

theorem half1 (c q : Nat) : c * 2 ^ (q + 1) = (c * 2) * 2 ^ q := by rw [Nat.pow_succ, Nat.mul_comm (2 ^ q) 2, Nat.mul_assoc]
theorem half2 (c q : Nat) : c * 2 ^ (q + 1) + 2 ^ q = (c * 2 + 1) * 2 ^ q := by rw [half1, Nat.add_mul, Nat.one_mul]
theorem rounds_con (q : Nat) : ∀ (f : Nat → Bool) (c : Nat) (v : Bool), Con f (c * 2 ^ q) (2 ^ q) v → Con (rounds RA q f) (c * 2 ^ q) (2 ^ q) v := by
  induction q with
  | zero => exact fun f c v h => h
  | succ q ih =>
    intro f c v h t ht
    have hm : 2 ^ (q + 1) = 2 ^ q + 2 ^ q := by rw [Nat.pow_succ]; omega
    have g1 : ∀ t, t < 2 ^ q → RA (2 ^ q) f (c * 2 ^ (q + 1) + t) = v := fun t ht => by
      rw [RA_low f ht, h t (by omega), Nat.add_assoc, h (2 ^ q + t) (by omega), Bool.and_self]
    have g2 : ∀ t, t < 2 ^ q → RA (2 ^ q) f (c * 2 ^ (q + 1) + 2 ^ q + t) = v := fun t ht => by
      rw [RA_high f ht, h t (by omega), Nat.add_assoc, h (2 ^ q + t) (by omega), Bool.or_self]
    show rounds RA q (RA (2 ^ q) f) _ = v
    by_cases hl : t < 2 ^ q
    · have := ih (RA (2 ^ q) f) (c * 2) v (by rw [← half1]; exact g1) t hl
      rwa [← half1] at this
    · have := ih (RA (2 ^ q) f) (c * 2 + 1) v (by rw [← half2]; exact g2) (t - 2 ^ q) (by omega)
      rwa [← half2, Nat.add_assoc, show 2 ^ q + (t - 2 ^ q) = t by omega] at this
theorem merge (q : Nat) : ∀ (f : Nat → Bool) (c : Nat), Bit f (c * 2 ^ q) (2 ^ q) → Asc (rounds RA q f) (c * 2 ^ q) (2 ^ q) := by
  induction q with
  | zero =>
    intro f c _
    refine ⟨if f (c * 2 ^ 0) then 0 else 1, fun t ht => ?_⟩
    have h0 : t = 0 := by simp at ht; exact ht
    subst h0
    show f (c * 2 ^ 0 + 0) = _
    rw [Nat.add_zero]
    cases f (c * 2 ^ 0) <;> rfl
  | succ q ih =>
    intro f c h
    obtain ⟨b1, b2, key⟩ := split h
    have hm : 2 ^ (q + 1) = 2 ^ q + 2 ^ q := by rw [Nat.pow_succ]; omega
    obtain ⟨c1, h1⟩ := ih (RA (2 ^ q) f) (c * 2) (by rw [← half1]; exact b1)
    obtain ⟨c2, h2⟩ := ih (RA (2 ^ q) f) (c * 2 + 1) (by rw [← half2]; exact b2)
    rw [← half1] at h1
    rw [← half2] at h2
    have h2' : ∀ t, 2 ^ q ≤ t → t < 2 ^ (q + 1) → rounds RA q (RA (2 ^ q) f) (c * 2 ^ (q + 1) + t) = decide (c2 ≤ t - 2 ^ q) := fun t h ht => by
      have := h2 (t - 2 ^ q) (by omega)
      rwa [Nat.add_assoc, show 2 ^ q + (t - 2 ^ q) = t by omega] at this
    rcases key with k | k
    · have k1 := rounds_con q (RA (2 ^ q) f) (c * 2) false (by rw [← half1]; exact k)
      rw [← half1] at k1
      refine ⟨2 ^ q + c2, fun t ht => ?_⟩
      show rounds RA q (RA (2 ^ q) f) _ = _
      by_cases hl : t < 2 ^ q
      · rw [k1 t hl]; symm; rw [decide_eq_false_iff_not]; omega
      · rw [h2' t (by omega) ht, decide_eq_decide]; omega
    · have k2 := rounds_con q (RA (2 ^ q) f) (c * 2 + 1) true (by rw [← half2]; exact k)
      rw [← half2] at k2
      refine ⟨min c1 (2 ^ q), fun t ht => ?_⟩
      show rounds RA q (RA (2 ^ q) f) _ = _
      by_cases hl : t < 2 ^ q
      · rw [h1 t hl, decide_eq_decide]; omega
      · have := k2 (t - 2 ^ q) (by omega)
        rw [Nat.add_assoc, show 2 ^ q + (t - 2 ^ q) = t by omega] at this
        rw [this]; symm; rw [decide_eq_true_eq]; omega

/-- In a block with one direction d, the rounds of a stage are the rounds upwards of the vector turned by d. -/
theorem rounds_dir (k : Nat) (d : Bool) (q : Nat) : ∀ (f f' : Nat → Bool) (c : Nat), (∀ t, t < 2 ^ q → bt (c * 2 ^ q + t) k = d) → (∀ t, t < 2 ^ q → f' (c * 2 ^ q + t) = (d ^^ f (c * 2 ^ q + t))) →
    ∀ t, t < 2 ^ q → rounds RA q f' (c * 2 ^ q + t) = (d ^^ rounds (RB k) q f (c * 2 ^ q + t)) := by
  induction q with
  | zero => exact fun f f' c _ h t ht => h t ht
  | succ q ih =>
    intro f f' c hb h t ht
    have hm : 2 ^ (q + 1) = 2 ^ q + 2 ^ q := by rw [Nat.pow_succ]; omega
    have hbm : ∀ t, t < 2 ^ q → bt (c * 2 ^ (q + 1) + 2 ^ q + t) k = d := fun t ht => by rw [Nat.add_assoc]; exact hb _ (by omega)
    have hm2 : ∀ t, t < 2 ^ q → f' (c * 2 ^ (q + 1) + 2 ^ q + t) = (d ^^ f (c * 2 ^ (q + 1) + 2 ^ q + t)) := fun t ht => by rw [Nat.add_assoc]; exact h _ (by omega)
    have g1 : ∀ t, t < 2 ^ q → RA (2 ^ q) f' (c * 2 ^ (q + 1) + t) = (d ^^ RB k (2 ^ q) f (c * 2 ^ (q + 1) + t)) := fun t ht => by
      rw [RA_low f' ht, h t (by omega), hm2 t ht]
      unfold RB R
      rw [bt_low ht, hb t (by omega), show c * 2 ^ (q + 1) + t + 2 ^ q = c * 2 ^ (q + 1) + 2 ^ q + t by omega]
      generalize f (c * 2 ^ (q + 1) + t) = x
      generalize f (c * 2 ^ (q + 1) + 2 ^ q + t) = y
      cases d <;> cases x <;> cases y <;> rfl
    have g2 : ∀ t, t < 2 ^ q → RA (2 ^ q) f' (c * 2 ^ (q + 1) + 2 ^ q + t) = (d ^^ RB k (2 ^ q) f (c * 2 ^ (q + 1) + 2 ^ q + t)) := fun t ht => by
      rw [RA_high f' ht, h t (by omega), hm2 t ht]
      unfold RB R
      rw [bt_high ht, show c * 2 ^ (q + 1) + 2 ^ q + t - 2 ^ q = c * 2 ^ (q + 1) + t by omega, hb t (by omega)]
      generalize f (c * 2 ^ (q + 1) + t) = x
      generalize f (c * 2 ^ (q + 1) + 2 ^ q + t) = y
      cases d <;> cases x <;> cases y <;> rfl
    show rounds RA q (RA (2 ^ q) f') _ = (d ^^ rounds (RB k) q (RB k (2 ^ q) f) _)
    by_cases hl : t < 2 ^ q
    · have := ih (RB k (2 ^ q) f) (RA (2 ^ q) f') (c * 2) (by rw [← half1]; exact fun t ht => hb t (by omega)) (by rw [← half1]; exact g1) t hl
      rwa [← half1] at this
    · have := ih (RB k (2 ^ q) f) (RA (2 ^ q) f') (c * 2 + 1) (by rw [← half2]; exact hbm) (by rw [← half2]; exact g2) (t - 2 ^ q) (by omega)
      rwa [← half2, Nat.add_assoc, show 2 ^ q + (t - 2 ^ q) = t by omega] at this

/-- The whole network for 2^r elements: stages 1 to r. -/
def net {α : Type} (S : Nat → Nat → (Nat → α) → Nat → α) : Nat → (Nat → α) → Nat → α
  | 0, f => f
  | r + 1, f => rounds (S (2 ^ (r + 1))) (r + 1) (net S r f)
/-- Sorted, upwards or (d) downwards. -/
def Srt (d : Bool) (f : Nat → Bool) (o m : Nat) : Prop := ∃ c, ∀ t, t < m → (d ^^ f (o + t)) = decide (c ≤ t)
theorem stage {p : Nat} {f : Nat → Bool} (h : ∀ c, Srt (c % 2 == 1) f (c * 2 ^ p) (2 ^ p)) (c : Nat) : Srt (c % 2 == 1) (rounds (RB (2 ^ (p + 1))) (p + 1) f) (c * 2 ^ (p + 1)) (2 ^ (p + 1)) := by
  obtain ⟨c1, h1⟩ := h (c * 2)
  obtain ⟨c2, h2⟩ := h (c * 2 + 1)
  rw [show (c * 2 % 2 == 1) = false by rw [Nat.mul_mod_left]; rfl, ← half1] at h1
  rw [show ((c * 2 + 1) % 2 == 1) = true by rw [show (c * 2 + 1) % 2 = 1 by omega]; rfl, ← half2] at h2
  have hm : 2 ^ (p + 1) = 2 ^ p + 2 ^ p := by rw [Nat.pow_succ]; omega
  have hf : ∀ t, t < 2 ^ (p + 1) → f (c * 2 ^ (p + 1) + t) = decide (min c1 (2 ^ p) ≤ t ∧ t < 2 ^ p + c2) := by
    intro t ht
    by_cases hl : t < 2 ^ p
    · have := h1 t hl
      rw [Bool.false_xor] at this
      rw [this, decide_eq_decide]; omega
    · have := h2 (t - 2 ^ p) (by omega)
      rw [Bool.true_xor, Nat.add_assoc, show 2 ^ p + (t - 2 ^ p) = t by omega] at this
      rw [← Bool.not_not (f (c * 2 ^ (p + 1) + t)), this, ← decide_not, decide_eq_decide]; omega
  have hb : Bit (fun x => (c % 2 == 1) ^^ f x) (c * 2 ^ (p + 1)) (2 ^ (p + 1)) := ⟨c % 2 == 1, min c1 (2 ^ p), 2 ^ p + c2, fun t ht => by show ((c % 2 == 1) ^^ f (c * 2 ^ (p + 1) + t)) = _; rw [hf t ht]⟩
  obtain ⟨c0, h0⟩ := merge (p + 1) _ c hb
  exact ⟨c0, fun t ht => by rw [← h0 t ht]; exact (rounds_dir (2 ^ (p + 1)) (c % 2 == 1) (p + 1) f _ c (fun t ht => bt_block ht) (fun t _ => rfl) t ht).symm⟩
theorem net_sorts (f : Nat → Bool) : ∀ (r c : Nat), Srt (c % 2 == 1) (net RB r f) (c * 2 ^ r) (2 ^ r)
  | 0, c => ⟨if (c % 2 == 1) ^^ f (c * 2 ^ 0) then 0 else 1, fun t ht => by
      have h0 : t = 0 := by simp at ht; exact ht
      subst h0
      rw [Nat.add_zero]
      show ((c % 2 == 1) ^^ f (c * 2 ^ 0)) = _
      cases ((c % 2 == 1) ^^ f (c * 2 ^ 0)) <;> rfl⟩
  | r + 1, c => stage (net_sorts f r) c

/-! ### integers: by the 0-1 principle -/
def RI (k j : Nat) (f : Nat → Int) : Nat → Int := R min max k j f
theorem th_R (t : Int) (k j : Nat) (f : Nat → Int) : (fun i => decide (t ≤ RI k j f i)) = RB k j (fun i => decide (t ≤ f i)) := by
  have e1 : ∀ x y : Int, decide (t ≤ min x y) = (decide (t ≤ x) && decide (t ≤ y)) := fun x y => by rw [Bool.eq_iff_iff]; simp only [Bool.and_eq_true, decide_eq_true_eq]; omega
  have e2 : ∀ x y : Int, decide (t ≤ max x y) = (decide (t ≤ x) || decide (t ≤ y)) := fun x y => by rw [Bool.eq_iff_iff]; simp only [Bool.or_eq_true, decide_eq_true_eq]; omega
  funext i
  unfold RI RB R
  split <;> split <;> first | exact e1 _ _ | exact e2 _ _
theorem th_rounds (t : Int) (k : Nat) : ∀ (q : Nat) (f : Nat → Int), (fun i => decide (t ≤ rounds (RI k) q f i)) = rounds (RB k) q (fun i => decide (t ≤ f i))
  | 0, _ => rfl
  | q + 1, f => by
    show (fun i => decide (t ≤ rounds (RI k) q (RI k (2 ^ q) f) i)) = rounds (RB k) q (RB k (2 ^ q) fun i => decide (t ≤ f i))
    rw [th_rounds t k q, th_R]
theorem th_net (t : Int) (f : Nat → Int) : ∀ r, (fun i => decide (t ≤ net RI r f i)) = net RB r (fun i => decide (t ≤ f i))
  | 0 => rfl
  | r + 1 => by
    show (fun i => decide (t ≤ rounds (RI (2 ^ (r + 1))) (r + 1) (net RI r f) i)) = rounds (RB (2 ^ (r + 1))) (r + 1) (net RB r fun i => decide (t ≤ f i))
    rw [th_rounds, th_net t f r]
/-- The network sorts. -/
theorem net_mono (r : Nat) (f : Nat → Int) {i j : Nat} (hij : i ≤ j) (hj : j < 2 ^ r) : net RI r f i ≤ net RI r f j := by
  obtain ⟨c, hc⟩ := net_sorts (fun x => decide (net RI r f i ≤ f x)) r 0
  rw [← th_net] at hc
  have h1 := hc i (by omega)
  have h2 := hc j hj
  simp only [Nat.zero_mul, Nat.zero_add, Nat.zero_mod, show ((0 : Nat) == 1) = false from rfl, Bool.false_xor] at h1 h2
  rw [decide_eq_true (Int.le_refl _)] at h1
  have := of_decide_eq_true h1.symm
  rw [decide_eq_true (show c ≤ j by omega)] at h2
  exact of_decide_eq_true h2
end Go.Proofs.Ytbgjfibninccdaa.nw
