/- What each function of package mask returns, by walking its text. -/
import Derived.Test.YtacbnlkbbaiedaaMask
import Derived.Test.YtacbnlkbbaiedaaChecked
import Derived.ProofKit
import Derived.Outline
import Derived.WalkSpells
import Derived.WalkLawsBesides
import Derived.Deep.QuietTactic
import Derived.BigQuiet
import Derived.Deep.RegionWith
namespace Go.Proofs.Ytacbnlkbbaiedaa.mk
open Go Go.RowKit

theorem ret_u64 {a b : Int} (h : a = b) : Ending.returned (.int .u64 a) = .returned (.int .u64 b) := by rw [h]

theorem of_calls (a : Int) (ha : IsU a) (w : World) : Calls Try.prog 32 #[.int .u64 a] w fun e w' => e = .returned (.int .u64 (maskI (a % 2 == 1))) ∧ w' = w := by
  go_enter Try.func32, Try.ntmps32
  go_wp2
  go_ret
  exact ⟨ret_u64 (of_num ha), rfl⟩
theorem swap_calls (m a b : Int) (w : World) : Calls Try.prog 27 #[.int .u64 m, .int .u64 a, .int .u64 b] w fun e w' => e = .returned (.tuple #[.int .u64 (selI m b a), .int .u64 (selI m a b)]) ∧ w' = w := by
  go_enter Try.func27, Try.ntmps27
  go_wp2
  go_ret2
  refine ⟨?_, rfl⟩
  rw [← sel_num m a b, ← swp_num m a b]
  rfl
theorem less_calls (a b : Int) (ha : IsU a) (hb : IsU b) (w : World) : Calls Try.prog 28 #[.int .u64 a, .int .u64 b] w fun e w' => e = .returned (.int .u64 (maskI (decide (a < b)))) ∧ w' = w := by
  go_enter Try.func28, Try.ntmps28
  go_wp2
  go_ret
  exact ⟨ret_u64 (less_num ha hb), rfl⟩
end Go.Proofs.Ytacbnlkbbaiedaa.mk
