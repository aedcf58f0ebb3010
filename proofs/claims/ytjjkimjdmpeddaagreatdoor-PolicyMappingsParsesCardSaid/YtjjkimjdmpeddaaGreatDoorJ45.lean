/- The parts OpenM of one proof, one behind the other. -/
import Derived.Test.YtjjkimjdmpeddaaGreatDoorJ20
import Derived.Test.YtjjkimjdmpeddaaGreatDoorJ44

/- The arguments of the laws of chapter 17, opened: mappings. -/
section
set_option linter.unusedSimpArgs false
set_option linter.unusedVariables false
namespace Go.Proofs.YtjjkimjdmpeddaaGreatDoor
open Go.ChangeShapes Go.WideShapes Go.ChangeAt Go.RowKit Go.Cr Go.Deep

/-- Each length at most M. -/
def BdM (M : Nat) (ms : List Mp) : Prop := ∀ m ∈ ms, m.1.size ≤ M ∧ m.2.size ≤ M
section
variable {H : Type} {enc : TypeId × Value → H} {W : World} {base : Nat} {held : Bool} {d : DataW H} {p : List MemPlace} {v : Value}
set_option maxRecDepth 100000 in
theorem trod_mp (n : Nat) (cs : List Value) (d : DataW H) (pl : List MemPlace) (h : DataW.trod enc Tryz.prog W 0 (fun _ => true) held n 68 cs = some (d, pl)) :
    ∃ (s : ByteArray) (u : Value) (x : ByteArray), cs = [.string s, u] ∧ u = .string x ∧ ∀ B, (∀ n ∈ d.weights Tryz.prog 68, n ≤ B) → s.size ≤ B ∧ x.size ≤ B := by
  obtain ⟨y0, y1, m, hx, hcl, h0, h1⟩ := trod_struct2 Tryz.underlying68 h
  have hC : Tryz.prog.cellsOf 68 = 2 := by kernel_rfl
  have c0 : Tryz.prog.cellsOf 9 = 1 := by kernel_rfl
  match cs, hcl.trans hC with
  | [a, b], _ =>
    simp only [c0] at h0 h1
    obtain ⟨s, hs, hy0, hz⟩ := DataW.trod_string (by kernel_rfl : Tryz.prog.underlying 9 = some .string) h0
    have e0 : a = .string s := by simpa using hs
    subst e0
    obtain ⟨s1, hs1, hy1, hz1⟩ := DataW.trod_string (by kernel_rfl : Tryz.prog.underlying 9 = some .string) h1
    have e1 : b = .string s1 := by simpa using hs1
    subst e1
    simp only [Prod.mk.injEq] at hx
    refine ⟨s, _, s1, rfl, rfl, fun B hB => ?_⟩
    rw [hx.1] at hB
    simp only [DataW.weights, DataW.weightsEach, Tryz.underlying68, List.map, List.mem_append] at hB
    refine ⟨hB s.size (.inl ?_), hB s1.size (.inr (.inl ?_))⟩
    · rw [hy0]; simp [DataW.weights]
    · rw [hy1]; simp [DataW.weights]
set_option maxRecDepth 100000 in
theorem open_maps (hval : Value.okWide Tryz.prog W .any base 48 v) (h : DataW.Trod enc Tryz.prog W 0 (fun _ => true) held 48 v d p) :
    ∃ ms, IsMs W v ms ∧ ∀ B, (∀ n ∈ d.weights Tryz.prog 48, n ≤ B) → BdM B ms := by
  obtain ⟨a0, len0, cap0, rfl⟩ := okWide_slice ulMs hval
  obtain ⟨fuel, hf⟩ := h
  obtain ⟨A, cap, ms, hcs, ⟨xs, hR, hx⟩, hZ⟩ := open_rows2 (K := fun _ u (x : ByteArray) => u = .string x) (Z := fun x B => x.size ≤ B) ulMs (by kernel_rfl) (of_decide_eq_true (by kernel_rfl)) hf trod_mp
  simp [Value.cells] at hcs
  obtain ⟨rfl, rfl, rfl⟩ := hcs
  have hl : xs.length = ms.length * 2 := by obtain ⟨_, _, _, _, _, h, _⟩ := hR; exact h
  obtain rfl := mCells_of hl fun j hj => by obtain ⟨u, h1, rfl⟩ := hx j hj; exact h1
  exact ⟨ms, hR, fun B hB => (hZ B hB).2⟩
end
end Go.Proofs.YtjjkimjdmpeddaaGreatDoor
end
