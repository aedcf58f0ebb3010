/- The parts OpenB of one proof, one behind the other. -/
import Derived.Test.YtjjkimjdmpeddaaGreatDoorJ20

/- The arguments of the laws of chapter 17, opened: bytes. -/
section
set_option linter.unusedSimpArgs false
set_option linter.unusedVariables false
namespace Go.Proofs.YtjjkimjdmpeddaaGreatDoor
open Go.ChangeShapes Go.WideShapes Go.ChangeAt Go.RowKit Go.Cr Go.Deep
section
variable {H : Type} {enc : TypeId × Value → H} {W : World} {base : Nat} {held : Bool} {d : DataW H} {p : List MemPlace} {v : Value}
set_option maxRecDepth 100000 in
theorem open_bytes (hval : Value.okWide Tryz.prog W .any base 32 v) (h : DataW.Trod enc Tryz.prog W 0 (fun _ => true) held 32 v d p) : ∃ l, IsB W v l := by
  obtain ⟨a0, len0, cap0, rfl⟩ := okWide_slice ulB hval
  obtain ⟨fuel, hf⟩ := h
  rcases open_ints ulB ulU8p (by kernel_rfl) hf with ⟨hcs, _⟩ | ⟨x, l, c, zs, hcs, _, hl, hm, hz, _, hcell, hwz⟩
  · simp [Value.cells] at hcs
    obtain ⟨rfl, rfl, rfl⟩ := hcs
    exact ⟨[], IsB.nil_ W none 0 (Nat.zero_le _)⟩
  · simp [Value.cells] at hcs
    obtain ⟨rfl, rfl, rfl⟩ := hcs
    obtain ⟨l', h1, _⟩ := isB_rowN hl hm (by simpa using hz) hcell hwz
    exact ⟨l', h1⟩
end
end Go.Proofs.YtjjkimjdmpeddaaGreatDoor
end
