/- A slice of one struct that the call has just made. No program in sight. -/
import Derived.Test.YtecbphbnacbepaaKitC
set_option linter.unusedSimpArgs false
set_option linter.unusedVariables false
namespace Go.Cr
open Go.RowKit
theorem isR_new (w : World) (t : TypeId) (arr : Array Value) : IsR (w.alloc (.cells arr t)) (.slice (some ⟨w.heap.size, 0, none⟩) 1 1) arr.size 1 arr.toList := by
  refine ⟨_, 1, rfl, Nat.le_refl _, by decide, by simp, fun _ => ⟨w.heap.size, 0, rfl, by simp, fun j x hj => ?_⟩⟩
  rw [Nat.zero_add, World.cell?_alloc_new]
  simpa using hj
theorem isR_at {w : World} {t : TypeId} {arr : Array Value} {k n : Nat} (hk : arr.size = k) (hn : n = w.heap.size) : IsR (w.alloc (.cells arr t)) (.slice (some ⟨n, 0, none⟩) 1 1) k 1 arr.toList := by
  subst hk hn; exact isR_new w t arr
theorem isB_at {w : World} {t : TypeId} {z : UInt8} {y : Int} {n : Nat} (hy : bi z = y) (hn : n = w.heap.size) : IsB (w.alloc (.cells #[.int .u8 y] t)) (.slice (some ⟨n, 0, none⟩) 1 1) [z] := by
  subst hn; exact isB_new w t z y hy
end Go.Cr
