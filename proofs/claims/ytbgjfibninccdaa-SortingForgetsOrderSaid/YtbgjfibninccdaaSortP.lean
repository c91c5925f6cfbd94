/- Records, cleaned, as keys: a live record's key is its ID, a dead one's is above all. No program here. -/
import Derived.Test.YtbgjfibninccdaaMask
import Derived.Test.YtbgjfibninccdaaNetL
set_option linter.unusedSimpArgs false
set_option linter.unusedVariables false
namespace Go.Proofs.Ytbgjfibninccdaa.so
open Go Go.Proofs.Ytbgjfibninccdaa.mk Go.Proofs.Ytbgjfibninccdaa.nw

abbrev Rec := Int × Int
def RecOk (r : Rec) : Prop := IsU r.1 ∧ IsU r.2
def cleanR (r : Rec) : Rec := (r.1 % 2, if r.1 % 2 = 1 then r.2 else 0)
def keyR (r : Rec) : Int := if r.1 % 2 = 1 then r.2 else 18446744073709551616
/-- The cleaned record of a key. -/
def unkey (k : Int) : Rec := if k < 18446744073709551616 then (1, k) else (0, 0)
theorem unkey_key {r : Rec} (h : RecOk r) : unkey (keyR r) = cleanR r := by
  obtain ⟨a, b⟩ := r
  have hb : IsU b := h.2
  unfold IsU at hb
  show unkey (keyR (a, b)) = (a % 2, if a % 2 = 1 then b else 0)
  unfold keyR unkey
  simp only
  by_cases h1 : a % 2 = 1
  · rw [if_pos h1, if_pos h1, if_pos (by omega), h1]
  · have h0 : a % 2 = 0 := by omega
    rw [if_neg h1, if_neg h1, if_neg (by omega), h0]
theorem cleanR_ok {r : Rec} (h : RecOk r) : RecOk (cleanR r) := by
  unfold RecOk IsU cleanR at *
  refine ⟨by omega, ?_⟩
  simp only
  split
  · exact h.2
  · omega
theorem cleanR_idem (r : Rec) : cleanR (cleanR r) = cleanR r := by
  unfold cleanR
  simp only
  rcases Int.emod_two_eq r.1 with h | h <;> rw [h] <;> simp
theorem keyR_clean (r : Rec) : keyR (cleanR r) = keyR r := by
  unfold keyR cleanR
  simp only
  rcases Int.emod_two_eq r.1 with h | h <;> rw [h] <;> simp
theorem key_unkey {k : Int} (h0 : 0 ≤ k) (h1 : k ≤ 18446744073709551616) : keyR (unkey k) = k := by
  unfold unkey keyR
  by_cases h : k < 18446744073709551616
  · rw [if_pos h]; rfl
  · rw [if_neg h]; show (18446744073709551616 : Int) = k; omega
/-- A key of a record. -/
def IsK (k : Int) : Prop := 0 ≤ k ∧ k ≤ 18446744073709551616
theorem keyR_isK {r : Rec} (h : RecOk r) : IsK (keyR r) := by
  unfold RecOk IsU at h
  unfold keyR IsK
  split <;> omega
theorem unkey_ok {k : Int} (h : IsK k) : RecOk (unkey k) := by
  unfold IsK at h
  unfold unkey RecOk IsU
  split <;> simp only <;> omega
theorem clean_unkey {k : Int} (h : IsK k) : cleanR (unkey k) = unkey k := by
  rw [← unkey_key (unkey_ok h), key_unkey h.1 h.2]
/-- Whether a record precedes another one. -/
def lessR (x y : Rec) : Bool := decide (keyR x < keyR y)
/-- What a comparator leaves at its low and its high place. -/
def loR (r s : Rec) : Rec := if lessR s r then s else r
def hiR (r s : Rec) : Rec := if lessR s r then r else s
theorem lo_hi_key {a b : Int} (ha : IsK a) (hb : IsK b) : loR (unkey a) (unkey b) = unkey (min a b) ∧ hiR (unkey a) (unkey b) = unkey (max a b) := by
  unfold loR hiR lessR
  rw [key_unkey ha.1 ha.2, key_unkey hb.1 hb.2]
  by_cases h : b < a
  · rw [decide_eq_true h]
    exact ⟨congrArg unkey (by omega), congrArg unkey (by omega)⟩
  · rw [decide_eq_false h]
    exact ⟨congrArg unkey (by omega), congrArg unkey (by omega)⟩
theorem less_parts {x y : Rec} (hx : RecOk x) (hy : RecOk y) : (decide ((cleanR y).1 < (cleanR x).1) || ((cleanR x).1 == (cleanR y).1 && decide ((cleanR x).2 < (cleanR y).2))) = lessR x y := by
  obtain ⟨a, b⟩ := x
  obtain ⟨c, d⟩ := y
  have hb : IsU b := hx.2
  have hd : IsU d := hy.2
  unfold IsU at hb hd
  unfold lessR cleanR keyR
  simp only
  rcases Int.emod_two_eq a with h | h <;> rcases Int.emod_two_eq c with h' | h' <;> rw [h, h'] <;> simp <;> omega

/-! ### lists of records in memory -/
def rflat (l : List Rec) : List Value := l.flatMap fun r => [.int .u64 r.1, .int .u64 r.2]
theorem rflat_length (l : List Rec) : (rflat l).length = l.length * 2 := by
  induction l with
  | nil => rfl
  | cons c L ih =>
    show ([Value.int .u64 c.1, .int .u64 c.2] ++ rflat L).length = _
    rw [List.length_append, ih]
    show 2 + L.length * 2 = (L.length + 1) * 2
    omega
theorem rflat_append (l m : List Rec) : rflat (l ++ m) = rflat l ++ rflat m := by unfold rflat; rw [List.flatMap_append]
theorem rflat_get (L : List Rec) : ∀ (i : Nat) (c : Rec), L[i]? = some c → (rflat L)[i * 2]? = some (.int .u64 c.1) ∧ (rflat L)[i * 2 + 1]? = some (.int .u64 c.2) := by
  induction L with
  | nil => intro i c h; simp at h
  | cons d L ih =>
    intro i c h
    have e : rflat (d :: L) = [Value.int .u64 d.1, .int .u64 d.2] ++ rflat L := rfl
    rw [e]
    cases i with
    | zero => simp at h; subst h; simp
    | succ i =>
      obtain ⟨h1, h2⟩ := ih i c (by simpa using h)
      have e2 : ([Value.int .u64 d.1, .int .u64 d.2] : List Value).length = 2 := rfl
      refine ⟨?_, ?_⟩
      · rw [List.getElem?_append_right (by rw [e2]; omega), e2, show (i + 1) * 2 - 2 = i * 2 from by omega]; exact h1
      · rw [List.getElem?_append_right (by rw [e2]; omega), e2, show (i + 1) * 2 + 1 - 2 = i * 2 + 1 from by omega]; exact h2
theorem rflat_set (L : List Rec) : ∀ (i : Nat) (c : Rec), i < L.length → rflat (L.set i c) = ((rflat L).set (i * 2) (.int .u64 c.1)).set (i * 2 + 1) (.int .u64 c.2) := by
  induction L with
  | nil => intro i c h; simp at h
  | cons d L ih =>
    intro i c h
    have e : ∀ d L, rflat (d :: L) = Value.int .u64 d.1 :: .int .u64 d.2 :: rflat L := fun _ _ => rfl
    cases i with
    | zero => rfl
    | succ i =>
      rw [List.set_cons_succ, e, e, ih i c (by simpa using h), show (i + 1) * 2 = (i * 2 + 1) + 1 by omega]
      rfl
/-- The keys behind a comparator. -/
theorem unkey_cx {ks : List Int} {x y : Nat} {a b : Int} (ha : ks[x]? = some a) (hb : ks[y]? = some b) : (cx ks (x, y)).map unkey = ((ks.map unkey).set x (unkey (min a b))).set y (unkey (max a b)) := by
  have g1 : ks.getD x 0 = a := by rw [List.getD_eq_getElem?_getD, ha]; rfl
  have g2 : ks.getD y 0 = b := by rw [List.getD_eq_getElem?_getD, hb]; rfl
  unfold cx
  simp only [g1, g2, List.map_set]
end Go.Proofs.Ytbgjfibninccdaa.so
