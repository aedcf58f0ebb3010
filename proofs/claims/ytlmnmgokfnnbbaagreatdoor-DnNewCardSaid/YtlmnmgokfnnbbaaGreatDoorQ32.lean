/- The parts RefW, RefX of one proof, one behind the other. -/
import Derived.Test.YtlmnmgokfnnbbaaGreatDoorQ31
import Derived.Test.YtlmnmgokfnnbbaaGreatDoorQ21
import Derived.StillTailTactics
import Derived.Test.YtlmnmgokfnnbbaaGreatDoorQ25

/- Walk over the reference's layer 7 (charset): Encode. -/
section
set_option linter.unusedSimpArgs false
set_option linter.unusedVariables false
namespace Go.Proofs.YtlmnmgokfnnbbaaGreatDoor
open Go.RowKit Go.Cr
theorem flatMap_len (f : Nat → List UInt8) : ∀ cs : List Nat, (∀ c ∈ cs, (f c).length ≤ 4) → (cs.flatMap f).length ≤ 4 * cs.length := by
  intro cs
  induction cs with
  | nil => intro _; simp
  | cons c t ih =>
    intro h
    have h1 := h c (by simp)
    have h2 := ih (fun c hc => h c (by simp [hc]))
    simp only [List.flatMap_cons, List.length_append, List.length_cons]
    omega
def RetEeY (c : List UInt8) (w : World) (e : Ending) (w' : World) : Prop := ∃ A k, e = .returned (.tuple #[.slice A c.length k, .int .i64 0]) ∧ IsB w' (.slice A c.length k) c ∧ Below w.heap.size w w'

def RetEe (o : Option (List UInt8)) (w : World) (e : Ending) (w' : World) : Prop := match o with
  | none => RetB (.tuple #[.slice none 0 0, .int .i64 8]) w e w'
  | some c => RetEeY c w e w'
end Go.Proofs.YtlmnmgokfnnbbaaGreatDoor
end

/- Walk over the reference's layer 7 (charset): Decode. -/
section
set_option linter.unusedSimpArgs false
set_option linter.unusedVariables false
namespace Go.Proofs.YtlmnmgokfnnbbaaGreatDoor
open Go.RowKit Go.Cr
def RetEu (o : Option (List UInt8)) (w : World) (e : Ending) (w' : World) : Prop := ∃ (A : Option Addr) (n kk : Nat) (ec : Int), e = .returned (.tuple #[.slice A n kk, .int .i64 ec]) ∧ Below w.heap.size w w' ∧ ((o = none ∧ ec = 8) ∨ ∃ x, o = some x ∧ ec = 0 ∧ IsB w' (.slice A n kk) x)
theorem RetEe.uni {o : Option (List UInt8)} {w : World} {e : Ending} {w' : World} (h : RetEe o w e w') : RetEu o w e w' := by
  cases o with
  | none => exact ⟨none, 0, 0, 8, h.1, h.2, .inl ⟨rfl, rfl⟩⟩
  | some c =>
    obtain ⟨A, k, he, hv, hb⟩ := h
    exact ⟨A, _, k, 0, he, hb, .inr ⟨c, rfl, rfl, hv⟩⟩
theorem backR_len (n : Nat) (c : List UInt8) (hn : n ≤ 4) : (backR n c).length ≤ 4 * c.length := by
  unfold backR
  split
  · omega
  · rename_i h0
    have h1 := flatMap_len (fun x : Nat => octsR x) (units n (c.take (c.length / n * n))) (fun x _ => octsR_len _)
    have h2 : ∀ l : List UInt8, (units n l).length ≤ l.length := fun l => by
      induction l using len_ind with
      | h l ih =>
        by_cases hl : l = []
        · subst hl; simp [units_nil]
        · have hp := List.length_pos_iff.2 hl
          rw [units_step (by omega) l hl, List.length_cons]
          have := ih (l.drop n) (by simp; omega)
          simp at this
          omega
    have h3 := h2 (c.take (c.length / n * n))
    have h4 : (c.take (c.length / n * n)).length ≤ c.length := by rw [List.length_take]; omega
    omega
end Go.Proofs.YtlmnmgokfnnbbaaGreatDoor
end
