/- What each function of package mask returns, by walking its text. -/
import Derived.Test.YtinbcgdnljkclaaDoorMask
import Derived.Test.YtinbcgdnljkclaaDoorCards
import Derived.ProofKit
import Derived.Outline
import Derived.WalkSpells
import Derived.WalkLawsBesides
import Derived.Deep.QuietTactic
import Derived.BigQuiet
import Derived.Deep.RegionWith
namespace Go.Proofs.YtinbcgdnljkclaaDoor.mk
open Go Go.RowKit

theorem ret_u64 {a b : Int} (h : a = b) : Ending.returned (.int .u64 a) = .returned (.int .u64 b) := by rw [h]

theorem of_calls (a : Int) (ha : IsU a) (w : World) : Calls Tryd.prog 10 #[.int .u64 a] w fun e w' => e = .returned (.int .u64 (maskI (a % 2 == 1))) ∧ w' = w := by
  go_enter Tryd.func10, Tryd.ntmps10
  go_wp2
  go_ret
  exact ⟨ret_u64 (of_num ha), rfl⟩
theorem bit_calls (a : Int) (ha : IsU a) (w : World) : Calls Tryd.prog 12 #[.int .u64 a] w fun e w' => e = .returned (.int .u64 (a % 2)) ∧ w' = w := by
  go_enter Tryd.func12, Tryd.ntmps12
  go_wp2
  go_ret
  exact ⟨ret_u64 (bit_num ha), rfl⟩
theorem select_calls (m a b : Int) (w : World) : Calls Tryd.prog 21 #[.int .u64 m, .int .u64 a, .int .u64 b] w fun e w' => e = .returned (.int .u64 (selI m a b)) ∧ w' = w := by
  go_enter Tryd.func21, Tryd.ntmps21
  go_wp2
  go_ret
  exact ⟨ret_u64 (sel_num m a b), rfl⟩
theorem swap_calls (m a b : Int) (w : World) : Calls Tryd.prog 20 #[.int .u64 m, .int .u64 a, .int .u64 b] w fun e w' => e = .returned (.tuple #[.int .u64 (selI m b a), .int .u64 (selI m a b)]) ∧ w' = w := by
  go_enter Tryd.func20, Tryd.ntmps20
  go_wp2
  go_ret2
  refine ⟨?_, rfl⟩
  rw [← sel_num m a b, ← swp_num m a b]
  rfl
theorem zero_calls (a : Int) (ha : IsU a) (w : World) : Calls Tryd.prog 15 #[.int .u64 a] w fun e w' => e = .returned (.int .u64 (maskI (a == 0))) ∧ w' = w := by
  go_enter Tryd.func15, Tryd.ntmps15
  go_wp2
  go_ret
  exact ⟨ret_u64 (zero_num ha), rfl⟩
theorem equal_calls (a b : Int) (ha : IsU a) (hb : IsU b) (w : World) : Calls Tryd.prog 16 #[.int .u64 a, .int .u64 b] w fun e w' => e = .returned (.int .u64 (maskI (a == b))) ∧ w' = w := by
  have hx := bits_isU .xor (.inr (.inr rfl)) a b
  go_enter Tryd.func16, Tryd.ntmps16
  go_wp2_with (go_at_call 15; refine (zero_calls _ hx _).mono ?_; rintro e w' ⟨rfl, rfl⟩)
  go_ret
  exact ⟨ret_u64 (by rw [xor_num_zero ha hb]), rfl⟩
theorem less_calls (a b : Int) (ha : IsU a) (hb : IsU b) (w : World) : Calls Tryd.prog 17 #[.int .u64 a, .int .u64 b] w fun e w' => e = .returned (.int .u64 (maskI (decide (a < b)))) ∧ w' = w := by
  go_enter Tryd.func17, Tryd.ntmps17
  go_wp2
  go_ret
  exact ⟨ret_u64 (less_num ha hb), rfl⟩
theorem negative_calls (a : Int) (ha : IsS a) (w : World) : Calls Tryd.prog 14 #[.int .i64 a] w fun e w' => e = .returned (.int .u64 (maskI (decide (a < 0)))) ∧ w' = w := by
  go_enter Tryd.func14, Tryd.ntmps14
  go_wp2
  go_ret
  exact ⟨ret_u64 (neg_num ha), rfl⟩
theorem lessSigned_calls (a b : Int) (ha : IsS a) (hb : IsS b) (w : World) (hw : w.cell? ⟨0, 0, none⟩ = some (.int .u64 9223372036854775808)) : Calls Tryd.prog 13 #[.int .i64 a, .int .i64 b] w fun e w' => e = .returned (.int .u64 (maskI (decide (a < b)))) ∧ w' = w := by
  go_enter Tryd.func13, Tryd.ntmps13
  go_wp2_with fail
  rw [flip_num ha, flip_num hb]
  refine (less_calls _ _ (flip_isU ha) (flip_isU hb) _).mono ?_
  rintro e w' ⟨rfl, rfl⟩
  go_wp2
  go_ret
  exact ⟨ret_u64 (congrArg maskI (by simp)), rfl⟩
theorem sign_calls (n z : Int) (hn : IsU n) (hz : IsU z) (w : World) (hw : w.cell? ⟨0, 1, none⟩ = some (.int .u64 18446744073709551615)) : Calls Tryd.prog 18 #[.int .u64 n, .int .u64 z] w fun e w' => e = .returned (.int .i64 (signI n z)) ∧ ∃ n, w' = w.drewN n := by
  go_enter Tryd.func18, Tryd.ntmps18
  go_wp2_with fail
  go_quiet ((first | (go_at_call 21; exact Calls.quiet_of_same (select_calls _ _ _ _)) | (go_at_call_of 10 (Value.int IntKind.u64 n); exact Calls.quiet_of_same (of_calls n hn _)) | (go_at_call 10; exact Calls.quiet_of_same (of_calls z hz _))))
  go_wp2
  go_ret
  exact ⟨congrArg (fun k => Ending.returned (.int .i64 k)) (sign_num n z), _, rfl⟩
end Go.Proofs.YtinbcgdnljkclaaDoor.mk
