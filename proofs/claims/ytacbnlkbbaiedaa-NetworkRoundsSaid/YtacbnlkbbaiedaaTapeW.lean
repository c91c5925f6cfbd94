/- What each function of package tape returns and leaves, by walking its text: New, Note. -/
import Derived.Test.YtacbnlkbbaiedaaTape
import Derived.ProofKit
import Derived.Outline
import Derived.WalkSpells
import Derived.WalkLawsBesides
import Derived.Lib.Hide
import Derived.ArgAppend
namespace Go.Proofs.Ytacbnlkbbaiedaa.tp
open Go Go.RowKit Go.Maps

theorem lawInt : Keyed Try.prog 3 := int_keyed Try.underlying3
theorem zeroInt (w : World) : (zeroValue 3).run Try.prog w = .ok (.int .i64 0) w := by kernel_rfl

end Go.Proofs.Ytacbnlkbbaiedaa.tp
