/- Numbers with a sign and digits of 16 bits: plain laws, no program in sight. -/
import Derived.Test.YtmoajobnhiopiaaGreatDoorGeo
set_option linter.unusedSimpArgs false
set_option linter.unusedVariables false
namespace Go.Proofs.YtmoajobnhiopiaaGreatDoor.nb
open Go Go.Proofs.YtmoajobnhiopiaaGreatDoor.mk Go.Proofs.YtmoajobnhiopiaaGreatDoor.lm Go.Proofs.YtmoajobnhiopiaaGreatDoor.gm

/-- The number of a list of digits. -/
def dv : List Int → Int
  | [] => 0
  | d :: l => d + 65536 * dv l
/-- A list of digits. -/
def Digs (l : List Int) : Prop := ∀ d ∈ l, 0 ≤ d ∧ d < 65536
/-- 65536 to a power. -/
def pd (i : Nat) : Int := 65536 ^ i
theorem pd_pos (i : Nat) : 0 < pd i := Int.pow_pos (by decide)
theorem pd_zero : pd 0 = 1 := rfl
theorem pd_succ (i : Nat) : pd (i + 1) = pd i * 65536 := Int.pow_succ ..
theorem pd_add (i j : Nat) : pd (i + j) = pd i * pd j := Int.pow_add ..
theorem pd_mono {i j : Nat} (h : i ≤ j) : pd i ≤ pd j := by
  obtain ⟨k, rfl⟩ : ∃ k, j = i + k := ⟨j - i, by omega⟩
  rw [pd_add]
  have := pd_pos k
  have := Int.mul_le_mul_of_nonneg_left (show (1 : Int) ≤ pd k by omega) (Int.le_of_lt (pd_pos i))
  omega
theorem dv_append (l m : List Int) : dv (l ++ m) = dv l + pd l.length * dv m := by
  induction l with
  | nil => simp [dv, pd_zero]
  | cons u l ih => simp only [List.cons_append, dv, ih, List.length_cons, pd_succ]; grind
theorem dv_snoc (l : List Int) (d : Int) : dv (l ++ [d]) = dv l + d * pd l.length := by
  rw [dv_append]
  simp only [dv]
  grind
theorem dv_zeros (n : Nat) : dv (List.replicate n 0) = 0 := by
  induction n with
  | zero => rfl
  | succ n ih => simp [List.replicate_succ, dv, ih]
theorem dv_set (l : List Int) : ∀ (i : Nat) (u v : Int), l[i]? = some u → dv (l.set i v) = dv l + (v - u) * pd i := by
  induction l with
  | nil => intro i u v h; simp at h
  | cons w l ih =>
    intro i u v h
    cases i with
    | zero => simp at h; subst h; simp [dv, pd_zero]; omega
    | succ i =>
      have h' : l[i]? = some u := by simpa using h
      simp only [List.set_cons_succ, dv, ih i u v h', pd_succ]
      grind
theorem dv_nonneg {l : List Int} (h : Digs l) : 0 ≤ dv l := by
  induction l with
  | nil => exact Int.le_refl _
  | cons d l ih =>
    have := ih (fun x hx => h x (List.mem_cons_of_mem _ hx))
    have := h d List.mem_cons_self
    simp only [dv]
    omega
theorem dv_lt {l : List Int} (h : Digs l) : dv l < pd l.length := by
  induction l with
  | nil => decide
  | cons d l ih =>
    have := ih (fun x hx => h x (List.mem_cons_of_mem _ hx))
    have := h d List.mem_cons_self
    simp only [dv, List.length_cons, pd_succ]
    omega
theorem Digs.snoc {l : List Int} {d : Int} (h : Digs l) (hd : 0 ≤ d ∧ d < 65536) : Digs (l ++ [d]) := by
  intro x hx
  rcases List.mem_append.1 hx with hx | hx
  · exact h x hx
  · rw [List.mem_singleton] at hx; rw [hx]; exact hd
theorem Digs.take {l : List Int} (h : Digs l) (k : Nat) : Digs (l.take k) := fun x hx => h x (List.mem_of_mem_take hx)
theorem Digs.set {l : List Int} (h : Digs l) {i : Nat} {d : Int} (hd : 0 ≤ d ∧ d < 65536) : Digs (l.set i d) := by
  intro x hx
  rcases List.mem_or_eq_of_mem_set hx with h' | h'
  · exact h x h'
  · rw [h']; exact hd
/-- Digit number i, or 0. -/
def dg (l : List Int) (i : Nat) : Int := (l[i]?).getD 0
theorem dg_some {l : List Int} {i : Nat} {d : Int} (h : l[i]? = some d) : dg l i = d := by unfold dg; rw [h]; rfl
theorem dg_none {l : List Int} {i : Nat} (h : l.length ≤ i) : dg l i = 0 := by unfold dg; rw [List.getElem?_eq_none h]; rfl
theorem dg_ok {l : List Int} (h : Digs l) (i : Nat) : 0 ≤ dg l i ∧ dg l i < 65536 := by
  unfold dg
  cases hi : l[i]? with
  | none => simp
  | some d => exact h d (List.mem_of_getElem? hi)
/-- The number of the first i digits. -/
def dt (l : List Int) (i : Nat) : Int := dv (l.take i)
theorem dt_zero (l : List Int) : dt l 0 = 0 := by simp [dt, dv]
theorem dt_succ (l : List Int) (i : Nat) : dt l (i + 1) = dt l i + dg l i * pd i := by
  unfold dt
  by_cases h : i < l.length
  · rw [List.take_add_one, List.getElem?_eq_getElem h]
    show dv (l.take i ++ [l[i]]) = _
    rw [dv_snoc, List.length_take, dg_some (List.getElem?_eq_getElem h), show min i l.length = i by omega]
  · rw [List.take_of_length_le (by omega), List.take_of_length_le (by omega), dg_none (by omega)]
    omega
theorem dt_all {l : List Int} {i : Nat} (h : l.length ≤ i) : dt l i = dv l := by unfold dt; rw [List.take_of_length_le h]
/-- Digits without leading zeros. -/
def Norm (l : List Int) : Prop := Digs l ∧ ∀ k, l.length = k + 1 → dg l k ≠ 0
theorem Norm.nil : Norm [] := ⟨fun _ h => (List.not_mem_nil h).elim, fun k h => by simp at h⟩
theorem norm_low {l : List Int} (h : Norm l) {k : Nat} (hk : l.length = k + 1) : pd k ≤ dv l := by
  have h1 := dt_succ l k
  rw [dt_all (by omega)] at h1
  have h2 : 0 ≤ dt l k := dv_nonneg (h.1.take k)
  have h3 := h.2 k hk
  have h4 := dg_ok h.1 k
  have h5 := Int.mul_le_mul_of_nonneg_right (show (1 : Int) ≤ dg l k by omega) (Int.le_of_lt (pd_pos k))
  omega
theorem norm_zero {l : List Int} (h : Norm l) : l = [] ↔ dv l = 0 := by
  constructor
  · rintro rfl; rfl
  · intro h0
    cases hl : l.length with
    | zero => exact List.eq_nil_of_length_eq_zero hl
    | succ k =>
      have := norm_low h hl
      have := pd_pos k
      omega
theorem norm_short {a b : List Int} (ha : Norm a) (hb : Norm b) (h : a.length < b.length) : dv a < dv b := by
  obtain ⟨k, hk⟩ : ∃ k, b.length = k + 1 := ⟨b.length - 1, by omega⟩
  have h1 := dv_lt ha.1
  have h2 := norm_low hb hk
  have h3 := pd_mono (show a.length ≤ k by omega)
  omega
/-- From digit i on they are the same, and digit i - 1 differs: the numbers compare as these digits. -/
theorem cmp_high {a b : List Int} (ha : Digs a) (hb : Digs b) (hlen : a.length = b.length) (i : Nat) (hi : i < a.length) (hs : ∀ j, i < j → dg a j = dg b j) (hlt : dg a i < dg b i) : dv a < dv b := by
  have key : ∀ n, i < n → n ≤ a.length → dt a n < dt b n := by
    intro n
    induction n with
    | zero => intro h; omega
    | succ n ih =>
      intro h hn
      rw [dt_succ, dt_succ]
      by_cases hin : i < n
      · have := ih hin (by omega)
        rw [hs n hin]
        omega
      · obtain rfl : n = i := by omega
        have h1 := dv_lt (ha.take n)
        have h2 : 0 ≤ dt b n := dv_nonneg (hb.take n)
        rw [List.length_take, show min n a.length = n by omega] at h1
        have h3 : dt a n < pd n := h1
        have h4 := Int.mul_le_mul_of_nonneg_right (show dg a n + 1 ≤ dg b n by omega) (Int.le_of_lt (pd_pos n))
        rw [Int.add_mul] at h4
        omega
  have := key a.length hi (Nat.le_refl _)
  rwa [dt_all (Nat.le_refl _), dt_all (by omega)] at this
theorem cmp_same {a b : List Int} (hlen : a.length = b.length) (hs : ∀ j, dg a j = dg b j) : dv a = dv b := by
  have key : ∀ n, dt a n = dt b n := by
    intro n
    induction n with
    | zero => rw [dt_zero, dt_zero]
    | succ n ih => rw [dt_succ, dt_succ, ih, hs n]
  have := key a.length
  rwa [dt_all (Nat.le_refl _), dt_all (by omega)] at this
/-- A signed number. -/
def Rep (s : Int) (l : List Int) (x : Int) : Prop := s = sgnI x ∧ Norm l ∧ dv l = sgnI x * x
theorem Rep.zero : Rep 0 [] 0 := ⟨rfl, Norm.nil, rfl⟩
theorem Rep.neg {s : Int} {l : List Int} {x : Int} (h : Rep s l x) : Rep (-s) l (-x) := by
  obtain ⟨h1, h2, h3⟩ := h
  exact ⟨by rw [sgnI_neg, h1], h2, by rw [sgnI_neg, h3]; grind⟩
theorem rep_cases {s : Int} {l : List Int} {x : Int} (h : Rep s l x) : (s = -1 ∧ x < 0 ∧ dv l = -x) ∨ (s = 0 ∧ x = 0 ∧ dv l = 0) ∨ (s = 1 ∧ 0 < x ∧ dv l = x) := by
  obtain ⟨h1, h2, h3⟩ := h
  rcases sgnI_cases x with ⟨k, e⟩ | ⟨k, e⟩ | ⟨k, e⟩ <;> rw [e] at h1 h3
  · exact .inl ⟨h1, k, by omega⟩
  · exact .inr (.inl ⟨h1, k, by omega⟩)
  · exact .inr (.inr ⟨h1, k, by omega⟩)
theorem rep_make {s : Int} {l : List Int} {x : Int} (hl : Norm l) (hs : s = 1 ∨ s = -1) (hne : l ≠ []) (hx : x = s * dv l) : Rep s l x := by
  have h0 : 0 < dv l := by
    have := dv_nonneg hl.1
    have : dv l ≠ 0 := fun h => hne ((norm_zero hl).2 h)
    omega
  subst hx
  rcases hs with rfl | rfl
  · have : sgnI (1 * dv l) = 1 := by unfold sgnI; rw [if_neg (by omega), if_neg (by omega)]
    exact ⟨this.symm, hl, by rw [this]; omega⟩
  · have : sgnI (-1 * dv l) = -1 := by unfold sgnI; rw [if_pos (by omega)]
    exact ⟨this.symm, hl, by rw [this]; omega⟩
/-! ### sums -/
theorem addD_step {a b out : List Int} {c : Int} {i : Nat} (ha : Digs a) (hb : Digs b) (hlen : out.length = i) (ho : Digs out) (hc : 0 ≤ c ∧ c ≤ 1) (h : dv out + c * pd i = dt a i + dt b i) :
    Digs (out ++ [(dg a i + dg b i + c) % 65536]) ∧ (0 ≤ (dg a i + dg b i + c) / 65536 ∧ (dg a i + dg b i + c) / 65536 ≤ 1) ∧ dv (out ++ [(dg a i + dg b i + c) % 65536]) + (dg a i + dg b i + c) / 65536 * pd (i + 1) = dt a (i + 1) + dt b (i + 1) := by
  have h1 := dg_ok ha i
  have h2 := dg_ok hb i
  refine ⟨ho.snoc (by omega), by omega, ?_⟩
  rw [dv_snoc, hlen, dt_succ, dt_succ, pd_succ]
  generalize hs : dg a i + dg b i + c = s
  have e : s = 65536 * (s / 65536) + s % 65536 := by omega
  generalize s / 65536 = q at *
  generalize s % 65536 = r at *
  have : dg a i * pd i + dg b i * pd i + c * pd i = (65536 * q + r) * pd i := by rw [← e, ← hs]; grind
  grind
theorem subD_step {a b out : List Int} {c : Int} {i : Nat} (ha : Digs a) (hb : Digs b) (hlen : out.length = i) (ho : Digs out) (hc : 0 ≤ c ∧ c ≤ 1) (h : dv out - c * pd i = dt a i - dt b i) :
    (dg a i - dg b i - c < 0 → Digs (out ++ [dg a i - dg b i - c + 65536]) ∧ dv (out ++ [dg a i - dg b i - c + 65536]) - 1 * pd (i + 1) = dt a (i + 1) - dt b (i + 1)) ∧
    (¬ dg a i - dg b i - c < 0 → Digs (out ++ [dg a i - dg b i - c]) ∧ dv (out ++ [dg a i - dg b i - c]) - 0 * pd (i + 1) = dt a (i + 1) - dt b (i + 1)) := by
  have h1 := dg_ok ha i
  have h2 := dg_ok hb i
  constructor
  · intro hn
    refine ⟨ho.snoc (by omega), ?_⟩
    rw [dv_snoc, hlen, dt_succ, dt_succ, pd_succ]
    grind
  · intro hn
    refine ⟨ho.snoc (by omega), ?_⟩
    rw [dv_snoc, hlen, dt_succ, dt_succ]
    grind
theorem subD_end {a b out : List Int} {c : Int} (ha : Norm a) (hb : Norm b) (hlen : out.length = a.length) (ho : Digs out) (hc : 0 ≤ c ∧ c ≤ 1) (hle : dv b ≤ dv a) (h : dv out - c * pd a.length = dt a a.length - dt b a.length) : dv out = dv a - dv b := by
  have hl : b.length ≤ a.length := Nat.le_of_not_lt (fun h => by have := norm_short ha hb h; omega)
  rw [dt_all (Nat.le_refl _), dt_all hl] at h
  have h1 := dv_lt ho
  rw [hlen] at h1
  rcases (show c = 0 ∨ c = 1 by omega) with rfl | rfl <;> omega
/-! ### products -/
/-- In row i, before column j. -/
def MulD (a b : List Int) (i j : Nat) (out : List Int) (c : Int) : Prop :=
  out.length = a.length + b.length ∧ Digs out ∧ (0 ≤ c ∧ c < 65536) ∧ (∀ k, i + b.length ≤ k → dg out k = 0) ∧ dv out + c * pd (i + j) = dt a i * dv b + dg a i * pd i * dt b j
theorem mulD_start (a b : List Int) : MulD a b 0 0 (List.replicate (a.length + b.length) 0) 0 := by
  refine ⟨by simp, fun d hd => ?_, by omega, fun k hk => ?_, ?_⟩
  · rw [List.mem_replicate] at hd; rw [hd.2]; omega
  · unfold dg; rw [List.getElem?_replicate]; split <;> rfl
  · rw [dv_zeros, dt_zero, dt_zero]; simp
theorem dg_set {l : List Int} {i k : Nat} {v : Int} (h : i ≠ k) : dg (l.set i v) k = dg l k := by unfold dg; rw [List.getElem?_set_ne h]
theorem mulD_num {a b o c : Int} (ha : 0 ≤ a ∧ a < 65536) (hb : 0 ≤ b ∧ b < 65536) (ho : 0 ≤ o ∧ o < 65536) (hc : 0 ≤ c ∧ c < 65536) : 0 ≤ a * b ∧ a * b ≤ 4294836225 ∧ 0 ≤ o + a * b + c ∧ o + a * b + c < 4294967296 := by
  have h0 : 0 ≤ a * b := Int.mul_nonneg ha.1 hb.1
  have h1 : a * b ≤ 65535 * 65535 := Int.mul_le_mul (by omega) (by omega) hb.1 (by omega)
  omega
theorem mulD_step {a b out : List Int} {i j : Nat} {c : Int} (ha : Digs a) (hb : Digs b) (hi : i < a.length) (hj : j < b.length) (h : MulD a b i j out c) :
    MulD a b i (j + 1) (out.set (i + j) ((dg out (i + j) + dg a i * dg b j + c) % 65536)) ((dg out (i + j) + dg a i * dg b j + c) / 65536) := by
  obtain ⟨h1, h2, h3, h4, h5⟩ := h
  have n := mulD_num (dg_ok ha i) (dg_ok hb j) (dg_ok h2 (i + j)) h3
  have hget : out[i + j]? = some (dg out (i + j)) := by
    unfold dg
    rw [List.getElem?_eq_getElem (by omega)]
    rfl
  refine ⟨by rw [List.length_set, h1], h2.set (by omega), by omega, fun k hk => ?_, ?_⟩
  · rw [dg_set (by omega), h4 k hk]
  · rw [dv_set out _ _ _ hget, dt_succ, ← Nat.add_assoc, pd_succ (i + j)]
    generalize hs : dg out (i + j) + dg a i * dg b j + c = s at *
    have e : s = 65536 * (s / 65536) + s % 65536 := by omega
    generalize s / 65536 = q at *
    generalize s % 65536 = r at *
    rw [pd_add] at *
    grind
theorem mulD_row {a b out : List Int} {i : Nat} {c : Int} (ha : Digs a) (hi : i < a.length) (h : MulD a b i b.length out c) : MulD a b (i + 1) 0 (out.set (i + b.length) (dg out (i + b.length) + c)) 0 := by
  obtain ⟨h1, h2, h3, h4, h5⟩ := h
  have hz := h4 (i + b.length) (Nat.le_refl _)
  have hget : out[i + b.length]? = some (dg out (i + b.length)) := by
    unfold dg
    rw [List.getElem?_eq_getElem (by omega)]
    rfl
  refine ⟨by rw [List.length_set, h1], h2.set (by omega), by omega, fun k hk => ?_, ?_⟩
  · rw [dg_set (by omega), h4 k (by omega)]
  · rw [dv_set out _ _ _ hget, dt_succ, dt_zero, pd_add]
    rw [dt_all (Nat.le_refl _), pd_add] at h5
    grind
theorem mulD_end {a b out : List Int} (h : MulD a b a.length 0 out 0) : Digs out ∧ dv out = dv a * dv b := by
  obtain ⟨h1, h2, h3, h4, h5⟩ := h
  rw [dt_all (Nat.le_refl _), dt_zero] at h5
  exact ⟨h2, by grind⟩
theorem rep_mul {s t x y : Int} {l m : List Int} (h : Rep s l x) (k : Rep t m y) : s * t * (dv l * dv m) = x * y ∧ (dv l * dv m ≠ 0 → s * t = 1 ∨ s * t = -1) := by
  rcases rep_cases h with ⟨rfl, _, e⟩ | ⟨rfl, _, e⟩ | ⟨rfl, _, e⟩ <;> rcases rep_cases k with ⟨rfl, _, f⟩ | ⟨rfl, _, f⟩ | ⟨rfl, _, f⟩ <;> rw [e, f] <;> constructor <;> first | grind | (intro _; first | exact .inl rfl | exact .inr rfl) | (intro h; simp at h)
theorem trim_step {l : List Int} {k : Nat} (h : dt l (k + 1) = dv l) (hz : dg l k = 0) : dt l k = dv l := by
  rw [dt_succ, hz] at h
  omega
theorem trim_norm {l : List Int} {k : Nat} (hl : Digs l) (hk : k ≤ l.length) (h : dt l k = dv l) (hn : ∀ j, k = j + 1 → dg l j ≠ 0) : Norm (l.take k) ∧ dv (l.take k) = dv l := by
  refine ⟨⟨hl.take k, fun j hj => ?_⟩, h⟩
  rw [List.length_take] at hj
  unfold dg
  rw [List.getElem?_take, if_pos (by omega)]
  exact hn j (by omega)
end Go.Proofs.YtmoajobnhiopiaaGreatDoor.nb
