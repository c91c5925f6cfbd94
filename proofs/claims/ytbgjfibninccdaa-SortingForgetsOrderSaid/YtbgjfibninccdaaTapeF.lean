/- tape.First and tape.Events: what they return, by walking their text. -/
import Derived.Test.YtbgjfibninccdaaTapeR
namespace Go.Proofs.Ytbgjfibninccdaa.tp
open Go Go.RowKit Go.Maps

/-- Events -/
theorem events_calls (p : Value) (S : Nat → Prop) (l : List Ev) (w : World) (hl : l.length ≤ 1099511627776) (h : ptrAt w S p l) :
    Calls Try.prog 25 #[p] w (CloneOf w l) := by
  go_enter Try.func25, Try.ntmps25
  go_wp2_with fail
  refine (all_any p S l _ h).mono ?_; rintro e w' ⟨v, n, rfl, hev, hg, rfl⟩
  go_wp2_with fail
  refine (clone_any v l _ hl (by exact hev)).mono ?_; rintro e w' ⟨v', rfl, hr, hk⟩
  go_wp2_with fail
  go_ret
  exact ⟨v', rfl, hr, ⟨hk.os, hk.tape, hk.output, hk.size, hk.block⟩⟩

end Go.Proofs.Ytbgjfibninccdaa.tp
