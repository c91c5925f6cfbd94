/- What each function of package mask returns, by walking its text. -/
import Derived.Test.YtbgjfibninccdaaMask
import Derived.Test.YtbgjfibninccdaaChecked
import Derived.ProofKit
import Derived.Outline
import Derived.WalkSpells
import Derived.WalkLawsBesides
import Derived.Deep.QuietTactic
import Derived.BigQuiet
import Derived.Deep.RegionWith
namespace Go.Proofs.Ytbgjfibninccdaa.mk
open Go Go.RowKit

theorem ret_u64 {a b : Int} (h : a = b) : Ending.returned (.int .u64 a) = .returned (.int .u64 b) := by rw [h]

theorem of_calls (a : Int) (ha : IsU a) (w : World) : Calls Try.prog 32 #[.int .u64 a] w fun e w' => e = .returned (.int .u64 (maskI (a % 2 == 1))) ∧ w' = w := by
  go_enter Try.func32, Try.ntmps32
  go_wp2
  go_ret
  exact ⟨ret_u64 (of_num ha), rfl⟩
theorem bit_calls (a : Int) (ha : IsU a) (w : World) : Calls Try.prog 31 #[.int .u64 a] w fun e w' => e = .returned (.int .u64 (a % 2)) ∧ w' = w := by
  go_enter Try.func31, Try.ntmps31
  go_wp2
  go_ret
  exact ⟨ret_u64 (bit_num ha), rfl⟩
theorem swap_calls (m a b : Int) (w : World) : Calls Try.prog 50 #[.int .u64 m, .int .u64 a, .int .u64 b] w fun e w' => e = .returned (.tuple #[.int .u64 (selI m b a), .int .u64 (selI m a b)]) ∧ w' = w := by
  go_enter Try.func50, Try.ntmps50
  go_wp2
  go_ret2
  refine ⟨?_, rfl⟩
  rw [← sel_num m a b, ← swp_num m a b]
  rfl
theorem zero_calls (a : Int) (ha : IsU a) (w : World) : Calls Try.prog 46 #[.int .u64 a] w fun e w' => e = .returned (.int .u64 (maskI (a == 0))) ∧ w' = w := by
  go_enter Try.func46, Try.ntmps46
  go_wp2
  go_ret
  exact ⟨ret_u64 (zero_num ha), rfl⟩
theorem equal_calls (a b : Int) (ha : IsU a) (hb : IsU b) (w : World) : Calls Try.prog 34 #[.int .u64 a, .int .u64 b] w fun e w' => e = .returned (.int .u64 (maskI (a == b))) ∧ w' = w := by
  have hx := bits_isU .xor (.inr (.inr rfl)) a b
  go_enter Try.func34, Try.ntmps34
  go_wp2_with (go_at_call 46; refine (zero_calls _ hx _).mono ?_; rintro e w' ⟨rfl, rfl⟩)
  go_ret
  exact ⟨ret_u64 (by rw [xor_num_zero ha hb]), rfl⟩
theorem less_calls (a b : Int) (ha : IsU a) (hb : IsU b) (w : World) : Calls Try.prog 33 #[.int .u64 a, .int .u64 b] w fun e w' => e = .returned (.int .u64 (maskI (decide (a < b)))) ∧ w' = w := by
  go_enter Try.func33, Try.ntmps33
  go_wp2
  go_ret
  exact ⟨ret_u64 (less_num ha hb), rfl⟩
end Go.Proofs.Ytbgjfibninccdaa.mk
