/- The parts Region of one proof, one behind the other. -/
import Derived.Test.YtejmkefdcjachaaGreatDoorJ01
import Derived.Deep.RegionHeld3

/- A region that draws its order, taken operation by operation: also those whose guard is false. -/
section
set_option linter.unusedSimpArgs false
set_option linter.unusedVariables false
namespace Go.Cr
open Go.RowKit
variable {P : Program} {ops : Array Oper} {Q : Exit → Act → World → Prop} {md : Region.Mode} {S : World → Prop}

/-- Take number i first, whose guard is false. -/
theorem take_skip {i : Nat} {d : Option Tmp} {fuel : Nat} {listed : Array Bool} {a : Act} {w : World}
    (hs : Region.noSelect ops = true) (hf : Region.free md ops listed i = true) (hr : (Region.ready md ops listed).contains i = true)
    (hQ : ∀ c a w, Q (.panic c) (a.put d undef) w → Q (.panic c) a w) (hS : S w)
    (ho : ∀ o, ops[i]? = some o → o.dst = d ∧ Region.wanted o (yielded ops a.tmps) = false) (hi : (ops[i]?).isSome = true)
    (h : wpAnyH P md ops Q S fuel (listed.setIfInBounds i true) (a.put d undef) w) : wpAnyH P md ops Q S (fuel + 1) listed a w := by
  obtain ⟨o, hoi⟩ := Option.isSome_iff_exists.1 hi
  obtain ⟨rfl, hw⟩ := ho o hoi
  exact wpAnyH_take hoi hs hf hr hQ (Or.inr ⟨hw, rfl⟩) hS h
/-- Take number i first. -/
theorem take_want {i : Nat} {d : Option Tmp} (v : Value) {fuel : Nat} {listed : Array Bool} {a : Act} {w : World}
    (hs : Region.noSelect ops = true) (hf : Region.free md ops listed i = true) (hr : (Region.ready md ops listed).contains i = true)
    (hQ : ∀ c a w, Q (.panic c) (a.put d v) w → Q (.panic c) a w) (hS : S w)
    (ho : ∀ o, ops[i]? = some o → o.dst = d ∧ Region.wanted o (yielded ops a.tmps) = true ∧ ∀ w, S w → (execOp a.eval o).run P w = .ok (.value v) w) (hi : (ops[i]?).isSome = true)
    (h : wpAnyH P md ops Q S fuel (listed.setIfInBounds i true) (a.put d v) w) : wpAnyH P md ops Q S (fuel + 1) listed a w := by
  obtain ⟨o, hoi⟩ := Option.isSome_iff_exists.1 hi
  obtain ⟨rfl, hw, hy⟩ := ho o hoi
  exact wpAnyH_take hoi hs hf hr hQ (Or.inl ⟨hw, hy⟩) hS h
/-- Number i alone may come up: it is run, and S is shown anew. -/
theorem take_run {i : Nat} {fuel : Nat} {listed : Array Bool} {a : Act} {w : World} (hr : Region.ready md ops listed = [i]) (hi : (ops[i]?).isSome = true)
    (h : ∀ o, ops[i]? = some o → ∀ K' : Act → World → Prop, Shut (∀ a w, S w → (S w → wpAnyH P md ops Q S fuel (listed.setIfInBounds i true) a w) → K' a w) → if Region.wanted o (yielded ops a.tmps) = true then Oper.wp P o a w K' Q else K' (a.put o.dst undef) w) :
    wpAnyH P md ops Q S (fuel + 1) listed a w := by
  obtain ⟨o, hoi⟩ := Option.isSome_iff_exists.1 hi
  exact wpAnyH_ready hr (by simp) (AllReadyH.cons hoi (h o hoi) AllReadyH.nil)
end Go.Cr
end
