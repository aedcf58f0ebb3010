/- The parts MapW of one proof, one behind the other. -/
import Derived.Test.YtlmnmgokfnnbbaaGreatDoorQ16
import Derived.Maps.RangeWalk
import Derived.Maps.OwnOps

/- Maps in memory: the operations in a walk. No program in sight. -/
section
set_option linter.unusedSimpArgs false
set_option linter.unusedVariables false
namespace Go.Cr
open Go.RowKit
variable {d : TypeDesc} {κ : Type} [DecidableEq κ]
section
variable {P : Program} (w : World) {ops : Array Oper} {rest : List Oper} {o : Oper} {a : Act} {Q : Exit → Act → World → Prop}
theorem wpList_makeM (hg : o.guard = none) (t : TypeId) (hop : o.op = Op.makeMap t none) (K : KeyOf d κ)
    (hK : HasM K (w.alloc (.map #[] 0)) w.heap.size (fun _ => none) → wpList P ops Q rest (a.put o.dst (.map (some w.heap.size))) (w.alloc (.map #[] 0))) : wpList P ops Q (o :: rest) a w := by
  refine wpList_plain hg fun K' hK' => ?_
  have hrun := run_makeMap (P := P) t w
  unfold Oper.wp
  simp [execOp, hop, hrun, Result.andThen]
  exact hK' _ _ (hK (HasM.new K w))
theorem wpList_insM (hg : o.guard = none) (t : TypeId) (m x v : Operand) (hop : o.op = Op.insert t m x v) (K : KeyOf d κ) {kt et : TypeId} (hm : P.underlying t = some (.map kt et)) (hk : P.underlying kt = some d) (g : Nat) (F : κ → Option Value) (hH : HasM K w g F) (k : κ) (u : Value)
    (em : a.eval m = .map (some g)) (ex : a.eval x = K.val k) (ev : a.eval v = u) (hF : F k = none)
    (hK : ∀ w', HasM K w' g (fun n => if n = k then some u else F n) → w'.heap.size = w.heap.size → (∀ r, r ≠ g → w'.heap[r]? = w.heap[r]?) → (∀ B W0, B ≤ g → Below B W0 w → Below B W0 w') → wpList P ops Q rest (a.put o.dst undef) w') : wpList P ops Q (o :: rest) a w := by
  refine wpList_plain hg fun K' hK' => ?_
  obtain ⟨w', hrun, h1, h2, h3, h4⟩ := hH.insert hm hk k u hF
  unfold Oper.wp
  simp [execOp, hop, em, ex, ev, hrun, Result.andThen]
  exact hK' _ _ (hK w' h1 h2 h3 h4)
theorem wpList_rangeM (hg : o.guard = none) (t : TypeId) (m : Operand) (hop : o.op = Op.range t m) (K : KeyOf d κ) {kt et : TypeId} (hm : P.underlying t = some (.map kt et)) (g : Nat) (F : κ → Option Value) (hH : HasM K w g F) (em : a.eval m = .map (some g))
    (hK : ∀ w', RangeM K w' g w.heap.size F [] → w'.heap.size = w.heap.size + 1 → (∀ B W0, B ≤ w.heap.size → Below B W0 w → Below B W0 w') → wpList P ops Q rest (a.put o.dst (.pointer (some ⟨w.heap.size, 0, none⟩))) w') : wpList P ops Q (o :: rest) a w := by
  refine wpList_plain hg fun K' hK' => ?_
  obtain ⟨w', hrun, h1, h2, h3⟩ := hH.range (P := P) hm
  unfold Oper.wp
  simp [execOp, hop, em, hrun, Result.andThen]
  exact hK' _ _ (hK w' h1 h2 h3)
theorem wpList_nextM (hg : o.guard = none) (it : Operand) (hop : o.op = Op.next it false) (K : KeyOf d κ) (g r : Nat) (F : κ → Option Value) (pre : List κ) (hR : RangeM K w g r F pre) (hit : a.eval it = .pointer (some ⟨r, 0, none⟩))
    (hDone : (∀ k v, F k = some v → k ∈ pre) → wpList P ops Q rest (a.put o.dst (.tuple #[.bool false])) w)
    (hMore : ∀ k v w', F k = some v → RangeM K w' g r F (pre ++ [k]) → (Instr.entry (.pointer (some ⟨r, 0, none⟩))).run P w' = .ok (.tuple #[K.val k, v]) w' → leftM w' g r < leftM w g r → w'.heap.size = w.heap.size → (∀ B W0, B ≤ r → Below B W0 w → Below B W0 w') →
      wpList P ops Q rest (a.put o.dst (.tuple #[.bool true, K.val k, v])) w') : wpList P ops Q (o :: rest) a w := by
  refine wpList_plain hg fun K' hK' => ?_
  unfold Oper.wp
  rcases hR.next (P := P) o.type with ⟨h0, hrun⟩ | ⟨k, v, w', hk, hrun, h1, h2, h3, h4, h5⟩
  · simp [execOp, hop, hit, hrun, Result.andThen]
    exact hK' _ _ (hDone h0)
  · simp [execOp, hop, hit, hrun, Result.andThen]
    exact hK' _ _ (hMore k v w' hk h1 h2 h3 h4 h5)
end
end Go.Cr
end
