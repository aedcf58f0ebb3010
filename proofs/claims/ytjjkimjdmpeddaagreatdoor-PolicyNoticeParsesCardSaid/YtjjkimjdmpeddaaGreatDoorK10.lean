/- The parts MapW of one proof, one behind the other. -/
import Derived.Test.YtjjkimjdmpeddaaGreatDoorK09
import Derived.Maps.RangeWalk
import Derived.Maps.OwnOps

/- Maps in memory: the operations in a walk. No program in sight. -/
section
set_option linter.unusedSimpArgs false
set_option linter.unusedVariables false
namespace Go.Cr
open Go.RowKit
variable {d : TypeDesc} {κ : Type} [DecidableEq κ]
section
variable {P : Program} (w : World) {ops : Array Oper} {rest : List Oper} {o : Oper} {a : Act} {Q : Exit → Act → World → Prop}
theorem wpList_makeM (hg : o.guard = none) (t : TypeId) (hop : o.op = Op.makeMap t none) (K : KeyOf d κ)
    (hK : HasM K (w.alloc (.map #[] 0)) w.heap.size (fun _ => none) → wpList P ops Q rest (a.put o.dst (.map (some w.heap.size))) (w.alloc (.map #[] 0))) : wpList P ops Q (o :: rest) a w := by
  refine wpList_plain hg fun K' hK' => ?_
  have hrun := run_makeMap (P := P) t w
  unfold Oper.wp
  simp [execOp, hop, hrun, Result.andThen]
  exact hK' _ _ (hK (HasM.new K w))
end
end Go.Cr
end
