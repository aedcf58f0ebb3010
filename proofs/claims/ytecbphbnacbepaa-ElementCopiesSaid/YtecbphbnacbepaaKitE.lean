/- Slices of slices of bytes; append of zeros onto nil. No program in sight. -/
import Derived.Test.YtecbphbnacbepaaKitD
set_option linter.unusedSimpArgs false
set_option linter.unusedVariables false
namespace Go.Cr
open Go.RowKit

/-- v is a slice of slices of bytes. -/
def IsBs (w : World) (v : Value) (ls : List (List UInt8)) : Prop :=
  ∃ vs : List Value, IsR w v 1 ls.length vs ∧ ∀ j, j < ls.length → IsB w (vs.getD j undef) (ls.getD j [])
theorem IsBs.below {w w' : World} {v : Value} {ls : List (List UInt8)} (h : IsBs w v ls) (hb : Below w.heap.size w w') : IsBs w' v ls := by
  obtain ⟨vs, h1, h2⟩ := h
  exact ⟨vs, h1.below hb, fun j hj => (h2 j hj).below hb⟩
theorem IsBs.alloc {w : World} {v : Value} {ls : List (List UInt8)} (h : IsBs w v ls) (o : Obj) : IsBs (w.alloc o) v ls := h.below ((Below.refl _ _).alloc (Nat.le_refl _) o)
section
variable {P : Program} {w : World} {v : Value} {ls : List (List UInt8)} {t e : TypeId}
theorem IsBs.len (h : IsBs w v ls) (ht : P.underlying t = some (.slice e)) : ∀ (ty : TypeId) (W : World), (Builtin.len_ #[t] ty #[v]).run P W = .ok (.int .i64 ls.length) W := by
  obtain ⟨vs, h1, _⟩ := h; exact h1.len ht
theorem IsBs.maxl (h : IsBs w v ls) : (ls.length : Int) ≤ 9223372036854775807 := by obtain ⟨vs, h1, _⟩ := h; exact h1.maxl
theorem IsBs.at_ (h : IsBs w v ls) (ht : P.underlying t = some (.slice e)) (hs : ∀ W, (sizeOf e).run P W = .ok 1 W) (kd : IntKind) {i : Int} (h0 : 0 ≤ i) (h1 : i < ls.length) :
    ∃ b o u, (∀ W : World, (Instr.indexAt t v (.int kd i)).run P W = .ok (.pointer (some ⟨b, o, none⟩)) W) ∧ b < w.heap.size ∧ w.cell? ⟨b, o, none⟩ = some u ∧ IsB w u (ls.getD i.toNat []) := by
  obtain ⟨vs, hv, hj⟩ := h
  obtain ⟨b, o, hi, hb, hc⟩ := hv.at_ ht hs kd h0 h1
  have hlt : i.toNat < vs.length := by obtain ⟨_, _, _, _, _, hl, _⟩ := hv; omega
  refine ⟨b, o, vs.getD i.toNat undef, hi, hb, ?_, hj i.toNat (by omega)⟩
  have := hc 0 (vs.getD i.toNat undef) (by simp [hlt])
  simpa using this
theorem IsBs.nil_ (w : World) : IsBs w (.slice none 0 0) [] := ⟨[], ⟨none, 0, rfl, Nat.le_refl _, by decide, rfl, fun h => absurd h (by simp)⟩, fun j hj => absurd hj (by simp)⟩

/-- append(nil, make([]byte, n)...): how the translation has slices.Grow. -/
theorem run_append_zeros (w : World) (ti : TypeId) {i : TypeInfo} {z : Value} (ht : P.underlying t = some (.slice e)) (hti : P.underlying ti = some (.int .i64)) (hi : P.info? e = some i) (hz : i.zero = some z) (hsize : i.size = 1) (hby : i.bytes = 1) (hzs : z.cells.size = 1)
    (n : Nat) (h0 : 0 < n) (hn : n ≤ 1000000) :
    ∃ cap cur, (∀ ty, (Builtin.append_ #[t, ti] ty #[.slice none 0 0, .int .i64 (n : Int)]).run P w = .ok (.slice (some ⟨w.heap.size, 0, none⟩) n cap) (w.drew.alloc (.cells cur e))) ∧ n ≤ cap ∧ cap ≤ maxLen ∧ cur.size = cap * 1 := by
  have hn0 : n ≠ 0 := by omega
  have h1 : IntKind.i64.wrap (n : Int) = n := IntWalk.i64_in _ (by omega)
  have h2 : ¬ ((n : Int) < 0) := by omega
  have h3 : ¬ (281474976710656 < (n : Int)) := by omega
  have h63' : ¬ (9223372036854775807 < (n : Int)) := by omega
  have h48' : ¬ (281474976710656 < Builtin.nextslicecap n 0) := by rw [nextslicecap_zero h0]; omega
  refine ⟨grownCap w n 0 e, Builtin.zeroCells z.cells n ++ Builtin.zeroCells z.cells (grownCap w n 0 e - n), ?_, grownCap_ge _ _ _ _, grownCap_le_maxLen _ _ _ _ (by unfold maxLen; omega), ?_⟩
  · intro ty; simp [Builtin.append_, run_underlying ht, run_underlying hti, sizeOf, typeInfo, zeroValue, hi, hz, hsize, hby, hn0, h1, h2, h3, h63', h48', asInt, asIntOf, Question.forced, run_firstCells_none, newRow, grownCap]
  · have := grownCap_ge w n 0 e
    simp [size_zeroCells, hzs]; omega
end
end Go.Cr
