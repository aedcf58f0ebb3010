/- The parts RefU of one proof, one behind the other. -/
import Derived.Test.YtlmnmgokfnnbbaaGreatDoorQ30
import Derived.LoopTactic
import Derived.Test.YtlmnmgokfnnbbaaGreatDoorQ01
import Derived.Deep.RegionHeld3
import Derived.StillTailTactics

/- Walks over the reference's layer 7 (charset): Valid, Encode. -/
section
set_option linter.unusedSimpArgs false
set_option linter.unusedVariables false
namespace Go.Proofs.YtlmnmgokfnnbbaaGreatDoor
open Go.RowKit Go.Cr
def RetPtY (cs : List Nat) (w : World) (e : Ending) (w' : World) : Prop := ∃ A k, e = .returned (.tuple #[.slice A cs.length k, .bool true]) ∧ IsU .i64 w' (.slice A cs.length k) cs ∧ Below w.heap.size w w'
theorem RetPt.yes {cs : List Nat} {w : World} {e : Ending} {w' : World} (h : RetPt (some cs) w e w') : RetPtY cs w e w' := by
  obtain ⟨hb, ⟨h, _⟩ | ⟨cs', v, h, he, hv⟩⟩ := h
  · cases h
  · injection h with h; subst h
    obtain ⟨A, k, rfl⟩ := isU_slice hv
    exact ⟨A, k, he, hv, hb⟩
theorem RetPt.no {w : World} {e : Ending} {w' : World} (h : RetPt none w e w') : RetB (.tuple #[.slice none 0 0, .bool false]) w e w' := by
  obtain ⟨hb, ⟨_, he⟩ | ⟨cs', v, h, _⟩⟩ := h
  · exact ⟨he, hb⟩
  · cases h

end Go.Proofs.YtlmnmgokfnnbbaaGreatDoor
end
