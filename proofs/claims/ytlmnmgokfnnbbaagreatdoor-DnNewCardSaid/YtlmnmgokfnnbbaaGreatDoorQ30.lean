/- The parts RefS of one proof, one behind the other. -/
import Derived.Test.YtlmnmgokfnnbbaaGreatDoorQ20
import Derived.Test.YtlmnmgokfnnbbaaGreatDoorQ09
import Derived.LoopTactic

/- Walks over the reference's layer 7 (charset): Octets, Points. -/
section
set_option linter.unusedSimpArgs false
set_option linter.unusedVariables false
namespace Go.Proofs.YtlmnmgokfnnbbaaGreatDoor
open Go.RowKit Go.Cr
/-! ### Points -/
def RetPt (o : Option (List Nat)) (w : World) (e : Ending) (w' : World) : Prop := Below w.heap.size w w' ∧ ((o = none ∧ e = .returned (.tuple #[.slice none 0 0, .bool false])) ∨ ∃ cs v, o = some cs ∧ e = .returned (.tuple #[v, .bool true]) ∧ IsU .i64 w' v cs)
end Go.Proofs.YtlmnmgokfnnbbaaGreatDoor
end
