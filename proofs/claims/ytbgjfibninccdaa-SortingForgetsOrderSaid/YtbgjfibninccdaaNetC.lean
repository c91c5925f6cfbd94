/- network.Comparators: slices.Collect and slices.AppendSeq over All's iterator. -/
import Derived.Test.YtbgjfibninccdaaNetY
import Derived.RangeFuncBox
namespace Go.Proofs.Ytbgjfibninccdaa.nw
open Go Go.RowKit Go.Shelf Go.Proofs.Ytbgjfibninccdaa.tp Go.Proofs.Ytbgjfibninccdaa.rg

attribute [local go_sem] Oper.semAt_some

/-- The cells of a list of comparators. -/
def flatC (L : List (Nat × Nat)) : List Value := L.flatMap fun c => [.int .i64 (c.1 : Int), .int .i64 (c.2 : Int)]
theorem flatC_snoc {L : List (Nat × Nat)} {k : Nat} {c : Nat × Nat} (h : L[k]? = some c) : flatC (L.take (k + 1)) = flatC (L.take k) ++ [.int .i64 (c.1 : Int), .int .i64 (c.2 : Int)] := by
  unfold flatC
  rw [List.take_add_one, h, List.flatMap_append]
  simp
theorem comps_len (k j n : Nat) : (comps k j n).length ≤ n := by
  unfold comps
  rw [List.length_flatMap]
  have : ∀ L : List Nat, (L.map fun i => (if bt i j then [] else [cmpr k j i] : List (Nat × Nat)).length).sum ≤ L.length := by
    intro L
    induction L with
    | nil => simp
    | cons i L ih =>
      simp only [List.map_cons, List.sum_cons, List.length_cons]
      have h1 : (if bt i j then [] else [cmpr k j i] : List (Nat × Nat)).length ≤ 1 := by split <;> simp
      omega
  have h := this (List.range n)
  rwa [List.length_range] at h
theorem rl_len (k n : Nat) : ∀ q, (rl k n q).length ≤ q * n
  | 0 => by simp [rl]
  | q + 1 => by
    show (comps k (2 ^ q) n ++ rl k n q).length ≤ _
    rw [List.length_append, Nat.add_mul, Nat.one_mul]
    have := comps_len k (2 ^ q) n
    have := rl_len k n q
    omega
theorem nl_len (n : Nat) : ∀ r, r ≤ 12 → (nl n r).length ≤ r * 12 * n
  | 0, _ => by simp [nl]
  | r + 1, h => by
    show (nl n r ++ rl (2 ^ (r + 1)) n (r + 1)).length ≤ _
    have h1 := nl_len n r (by omega)
    have h2 := rl_len (2 ^ (r + 1)) n (r + 1)
    have h3 : (r + 1) * n ≤ 12 * n := Nat.mul_le_mul_right n h
    have e : (r + 1) * 12 * n = r * 12 * n + 12 * n := by rw [Nat.add_mul, Nat.add_mul, Nat.one_mul]
    rw [List.length_append]
    omega
theorem nl_bound {r N : Nat} (hr : r ≤ 12) (hN : N = 2 ^ r) : (nl N r).length ≤ 589824 := by
  have h1 := nl_len N r hr
  have h2 : N ≤ 4096 := by rw [hN]; exact Nat.pow_le_pow_right (show 0 < 2 by omega) hr
  have h3 : r * 12 * N ≤ 12 * 12 * 4096 := Nat.mul_le_mul (Nat.mul_le_mul_right 12 hr) h2
  omega
theorem net_bound {nv : Int} {L : List (Nat × Nat)} (h : IsNet nv L) : L.length ≤ 589824 := by
  rcases h with ⟨r, N, hr, hN, _, rfl⟩ | ⟨_, _, rfl⟩
  · exact nl_bound hr hN
  · simp
theorem infoC : (Try.prog.info? 62).map (fun i => (i.zero, i.size, i.bytes)) = some (some (.agg #[.int .i64 0, .int .i64 0]), 2, 16) := by kernel_rfl

theorem row_base {W : World} {b b' : Nat} {e : TypeId} {size : Nat} {v : Value} {n : Nat} {xs : List Value} (h : W.ownsRow b e size v n xs) (hb : b' ≤ b) : W.ownsRow b' e size v n xs := by
  refine ⟨h.1, ?_⟩
  rcases h.2 with h | ⟨g, cap, cur, rfl, h1, h2⟩
  · exact .inl h
  · exact .inr ⟨g, cap, cur, rfl, Nat.le_trans hb h1, h2⟩
end Go.Proofs.Ytbgjfibninccdaa.nw
