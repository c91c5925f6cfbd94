/- What each function of package mask returns, by walking its text. -/
import Derived.Test.YtmoajobnhiopiaaGreatDoorMask
import Derived.Test.YtmoajobnhiopiaaGreatDoorChecked
import Derived.ProofKit
import Derived.Outline
import Derived.WalkSpells
import Derived.WalkLawsBesides
import Derived.Deep.QuietTactic
import Derived.BigQuiet
import Derived.Deep.RegionWith
namespace Go.Proofs.YtmoajobnhiopiaaGreatDoor.mk
open Go Go.RowKit

theorem ret_u64 {a b : Int} (h : a = b) : Ending.returned (.int .u64 a) = .returned (.int .u64 b) := by rw [h]

theorem of_calls (a : Int) (ha : IsU a) (w : World) : Calls Tryz.prog 49 #[.int .u64 a] w fun e w' => e = .returned (.int .u64 (maskI (a % 2 == 1))) ∧ w' = w := by
  go_enter Tryz.func49, Tryz.ntmps49
  go_wp2
  go_ret
  exact ⟨ret_u64 (of_num ha), rfl⟩
theorem bit_calls (a : Int) (ha : IsU a) (w : World) : Calls Tryz.prog 124 #[.int .u64 a] w fun e w' => e = .returned (.int .u64 (a % 2)) ∧ w' = w := by
  go_enter Tryz.func124, Tryz.ntmps124
  go_wp2
  go_ret
  exact ⟨ret_u64 (bit_num ha), rfl⟩
theorem select_calls (m a b : Int) (w : World) : Calls Tryz.prog 78 #[.int .u64 m, .int .u64 a, .int .u64 b] w fun e w' => e = .returned (.int .u64 (selI m a b)) ∧ w' = w := by
  go_enter Tryz.func78, Tryz.ntmps78
  go_wp2
  go_ret
  exact ⟨ret_u64 (sel_num m a b), rfl⟩
theorem swap_calls (m a b : Int) (w : World) : Calls Tryz.prog 163 #[.int .u64 m, .int .u64 a, .int .u64 b] w fun e w' => e = .returned (.tuple #[.int .u64 (selI m b a), .int .u64 (selI m a b)]) ∧ w' = w := by
  go_enter Tryz.func163, Tryz.ntmps163
  go_wp2
  go_ret2
  refine ⟨?_, rfl⟩
  rw [← sel_num m a b, ← swp_num m a b]
  rfl
theorem zero_calls (a : Int) (ha : IsU a) (w : World) : Calls Tryz.prog 43 #[.int .u64 a] w fun e w' => e = .returned (.int .u64 (maskI (a == 0))) ∧ w' = w := by
  go_enter Tryz.func43, Tryz.ntmps43
  go_wp2
  go_ret
  exact ⟨ret_u64 (zero_num ha), rfl⟩
theorem equal_calls (a b : Int) (ha : IsU a) (hb : IsU b) (w : World) : Calls Tryz.prog 46 #[.int .u64 a, .int .u64 b] w fun e w' => e = .returned (.int .u64 (maskI (a == b))) ∧ w' = w := by
  have hx := bits_isU .xor (.inr (.inr rfl)) a b
  go_enter Tryz.func46, Tryz.ntmps46
  go_wp2_with (go_at_call 43; refine (zero_calls _ hx _).mono ?_; rintro e w' ⟨rfl, rfl⟩)
  go_ret
  exact ⟨ret_u64 (by rw [xor_num_zero ha hb]), rfl⟩
theorem less_calls (a b : Int) (ha : IsU a) (hb : IsU b) (w : World) : Calls Tryz.prog 167 #[.int .u64 a, .int .u64 b] w fun e w' => e = .returned (.int .u64 (maskI (decide (a < b)))) ∧ w' = w := by
  go_enter Tryz.func167, Tryz.ntmps167
  go_wp2
  go_ret
  exact ⟨ret_u64 (less_num ha hb), rfl⟩
theorem negative_calls (a : Int) (ha : IsS a) (w : World) : Calls Tryz.prog 50 #[.int .i64 a] w fun e w' => e = .returned (.int .u64 (maskI (decide (a < 0)))) ∧ w' = w := by
  go_enter Tryz.func50, Tryz.ntmps50
  go_wp2
  go_ret
  exact ⟨ret_u64 (neg_num ha), rfl⟩
theorem sign_calls (n z : Int) (hn : IsU n) (hz : IsU z) (w : World) (hw : w.cell? ⟨0, 1, none⟩ = some (.int .u64 18446744073709551615)) : Calls Tryz.prog 51 #[.int .u64 n, .int .u64 z] w fun e w' => e = .returned (.int .i64 (signI n z)) ∧ ∃ n, w' = w.drewN n := by
  go_enter Tryz.func51, Tryz.ntmps51
  go_wp2_with fail
  go_quiet ((first | (go_at_call 78; exact Calls.quiet_of_same (select_calls _ _ _ _)) | (go_at_call_of 49 (Value.int IntKind.u64 n); exact Calls.quiet_of_same (of_calls n hn _)) | (go_at_call 49; exact Calls.quiet_of_same (of_calls z hz _))))
  go_wp2
  go_ret
  exact ⟨congrArg (fun k => Ending.returned (.int .i64 k)) (sign_num n z), _, rfl⟩
end Go.Proofs.YtmoajobnhiopiaaGreatDoor.mk
