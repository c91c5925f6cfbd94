/- What the functions of package tape that only read return, by walking their text: all, Len, Count, Events, Equal, First; slices.Clone and slices.Equal at events. -/
import Derived.Test.YtacbnlkbbaiedaaTapeW
import Derived.Deep.QuietTactic
import Derived.BigQuiet
import Derived.Deep.RegionWith
import Derived.LoopTactic
namespace Go.Proofs.Ytacbnlkbbaiedaa.tp
open Go Go.RowKit Go.Maps

/-- A value that reads as l comes back; blocks of it lie in S; the call has only drawn. -/
def GivesEv (w : World) (S : Nat → Prop) (l : List Ev) (e : Ending) (w' : World) : Prop :=
  ∃ v n, e = .returned v ∧ evAt w v l ∧ (∀ g, v.ownBlock = some g → S g) ∧ w' = w.drewN n

end Go.Proofs.Ytacbnlkbbaiedaa.tp
