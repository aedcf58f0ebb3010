/- Own parts that are written into: what stays as it was. No program in sight. -/
import Derived.Test.YtecbphbnacbepaaSorted
set_option linter.unusedSimpArgs false
set_option linter.unusedVariables false
namespace Go.Proofs.Ytecbphbnacbepaa
open Go.RowKit Go.Cr

/-- Behind a store of a byte, anywhere, bytes are still owned, as many as before. -/
theorem OwB.store {w : World} {b : Nat} {v : Value} {l : List UInt8} (h : OwB w b 5 v l) (g k : Nat) (y : Int) (h0 : 0 ≤ y) (h1 : y < 256) :
    ∃ l', l'.length = l.length ∧ OwB (w.setCell ⟨g, k, none⟩ (.int .u8 y)) b 5 v l' := by
  rcases h.2 with ⟨hv, h2⟩ | ⟨g', cap, cur, hv, hb, hh, hn, hm, hs, htk⟩
  · exact ⟨l, rfl, h.1, .inl ⟨hv, h2⟩⟩
  · by_cases hg : g = g'
    · subst hg
      refine ⟨l.set k (UInt8.ofNat y.toNat), by simp, by simp [bCells_len], .inr ⟨g, cap, cur.setIfInBounds k (.int .u8 y), by simpa using hv, hb, heap_setCell_same w g k cur _ _ hh, by simpa using hn, hm, by simpa using hs, ?_⟩⟩
      have hy : bi (UInt8.ofNat y.toNat) = y := by rw [bi_ofNat]; omega
      rw [Array.toList_setIfInBounds, List.length_set, List.take_set, htk]
      simp [bCells, List.map_set, hy]
    · refine ⟨l, rfl, h.1, .inr ⟨g', cap, cur, hv, hb, ?_, hn, hm, hs, htk⟩⟩
      rw [Below.heap_setCell _ _ _ _ (Ne.symm hg)]
      exact hh

/-- The parts' values: bytes of blocks from a up to b. -/
def OwV (w : World) (a b : Nat) (vs : List Value) : Prop := ∀ v ∈ vs, (∃ l : List UInt8, l.length = lenOfV v ∧ OwB w a 5 v l) ∧ ∀ g, v.ownBlock = some g → g < b
theorem OwE.toV {w : World} {a : Nat} {vs : List Value} {ls : List (List UInt8)} (h : OwE w a vs ls) : OwV w a w.heap.size vs := by
  intro v hv
  obtain ⟨j, hj, rfl⟩ := List.mem_iff_getElem.1 hv
  have h1 := h.2 j (by rw [← h.1]; exact hj)
  have h2 : vs.getD j undef = vs[j] := by simp [List.getD, hj]
  rw [h2] at h1
  exact ⟨⟨_, (lenOfV_own h1).symm, h1⟩, fun g hg => (h1.lt g hg).2⟩
theorem OwV.store {w : World} {a b : Nat} {vs : List Value} (h : OwV w a b vs) (g k : Nat) (y : Int) (h0 : 0 ≤ y) (h1 : y < 256) : OwV (w.setCell ⟨g, k, none⟩ (.int .u8 y)) a b vs := by
  intro v hv
  obtain ⟨⟨l, hl, ho⟩, hb⟩ := h v hv
  obtain ⟨l', hl', ho'⟩ := OwB.store ho g k y h0 h1
  exact ⟨⟨l', by omega, ho'⟩, hb⟩
theorem OwV.below {w w' : World} {a b : Nat} {vs : List Value} (h : OwV w a b vs) (hb : Below w.heap.size w w') : OwV w' a b vs := fun v hv => by
  obtain ⟨⟨l, hl, ho⟩, hg⟩ := h v hv
  exact ⟨⟨l, hl, ho.below hb⟩, hg⟩

theorem OwV.of_ {w : World} {a b : Nat} {vs : List Value} {ls : List (List UInt8)} (h : OwE w a vs ls) (hb : ∀ v ∈ vs, ∀ g, v.ownBlock = some g → g < b) : OwV w a b vs := fun v hv => ⟨(h.toV v hv).1, hb v hv⟩

/-- Outside the blocks from a up to b nothing has turned. -/
structure Apart (a b : Nat) (w0 w : World) : Prop where
  os : w.os = w0.os
  tape : w.tape = w0.tape
  output : w.output = w0.output
  size : w.heap.size = w0.heap.size
  heap : ∀ j, j < a ∨ b ≤ j → w.heap[j]? = w0.heap[j]?
theorem Apart.refl (a b : Nat) (w : World) : Apart a b w w := ⟨rfl, rfl, rfl, rfl, fun _ _ => rfl⟩
theorem Apart.drewN {a b : Nat} {w0 w : World} (h : Apart a b w0 w) (q : Nat) : Apart a b w0 (w.drewN q) := ⟨h.os, h.tape, h.output, h.size, h.heap⟩
theorem Apart.store {a b : Nat} {w0 w : World} (h : Apart a b w0 w) {g : Nat} (k : Nat) (u : Value) (ha : a ≤ g) (hb : g < b) : Apart a b w0 (w.setCell ⟨g, k, none⟩ u) :=
  ⟨h.os, h.tape, h.output, by simpa [World.setCell] using h.size, fun j hj => by
    rw [Below.heap_setCell _ _ _ _ (show j ≠ g by omega)]; exact h.heap j hj⟩
theorem Apart.below {a b : Nat} {w0 w : World} (h : Apart a b w0 w) : Below a w0 w := ⟨h.os, h.tape, h.output, Nat.le_of_eq h.size.symm, fun j hj => h.heap j (.inl hj)⟩
theorem Apart.row {a b : Nat} {w0 w : World} (h : Apart a b w0 w) {base : Nat} {e : TypeId} {size : Nat} {v : Value} {n : Nat} {xs : List Value} (ho : w0.ownsRow base e size v n xs) (hb : b ≤ base) : w.ownsRow base e size v n xs := by
  refine ⟨ho.1, ?_⟩
  rcases ho.2 with h0 | ⟨g, cap, cur, hv, hg, hh, h1, h2, h3, h4⟩
  · exact .inl h0
  · exact .inr ⟨g, cap, cur, hv, hg, by rw [h.heap g (.inr (by omega))]; exact hh, h1, h2, h3, h4⟩
theorem Apart.els {a b : Nat} {w0 w : World} (h : Apart a b w0 w) {base : Nat} {vs : List Value} {ls : List (List UInt8)} (ho : OwE w0 base vs ls) (hb : b ≤ base) : OwE w base vs ls := ⟨ho.1, fun j hj => h.row (ho.2 j hj) hb⟩
/-- A row of parts is none of the blocks of its parts. -/
theorem row_store {w : World} {base a n : Nat} {o v : Value} {vs : List Value} {l : List UInt8} (ho : w.ownsRow base 30 1 o n vs) (hv : OwB w a 5 v l) {g : Nat} (hg : v.ownBlock = some g) (k : Nat) (u : Value) : (w.setCell ⟨g, k, none⟩ u).ownsRow base 30 1 o n vs := by
  refine ownsRow_setCell_other ho (fun he => ?_) u
  rcases ho.2 with ⟨rfl, _⟩ | ⟨g', cap', cur', rfl, _, hh', _⟩
  · cases he
  · simp only [Value.ownBlock, Option.some.injEq] at he
    subst he
    rcases hv.2 with ⟨rfl, _⟩ | ⟨g2, cap2, cur2, rfl, _, hh2, _⟩
    · cases hg
    · simp only [Value.ownBlock, Option.some.injEq] at hg
      subst hg
      rw [hh2] at hh'
      injection hh' with hh'
      injection hh' with _ e _
      exact absurd e (by decide)
end Go.Proofs.Ytecbphbnacbepaa
