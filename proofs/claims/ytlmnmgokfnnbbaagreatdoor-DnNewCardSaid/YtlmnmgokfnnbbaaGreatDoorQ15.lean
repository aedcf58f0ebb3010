/- The parts RegInv of one proof, one behind the other. -/
import Derived.Test.YtlmnmgokfnnbbaaGreatDoorQ01
import Derived.Deep.RegionHeld3

/- A region that draws its order, by an invariant that every operation that may come up keeps. -/
section
set_option linter.unusedSimpArgs false
set_option linter.unusedVariables false
namespace Go.Cr
open Go.RowKit
variable {P : Program} {ops : Array Oper} {Q : Exit → Act → World → Prop} {md : Region.Mode}
def unl (listed : Array Bool) : Nat := (listed.toList.filter (fun b => !b)).length
theorem unl_set {listed : Array Bool} {i : Nat} (h : listed.getD i true = false) : unl (listed.setIfInBounds i true) < unl listed := by
  obtain ⟨l⟩ := listed
  unfold unl
  simp only [Array.getD_eq_getD_getElem?, List.getElem?_toArray, List.setIfInBounds_toArray] at h ⊢
  induction l generalizing i with
  | nil => simp at h
  | cons b t ih =>
    cases i with
    | zero => simp at h; subst h; simp
    | succ i =>
      have := ih (i := i) (by simpa using h)
      simp only [List.set_cons_succ, List.filter_cons]
      split <;> simp <;> omega

theorem wpAny_inv (I : Array Bool → Act → World → Prop)
    (hstep : ∀ listed a w, I listed a w → ∀ i ∈ Region.ready md ops listed, wpOp P ops Q i (fun a' w' => I (listed.setIfInBounds i true) a' w') a w)
    (hend : ∀ listed a w, I listed a w → Region.ready md ops listed = [] → Q .normal a w) :
    ∀ (fuel : Nat) (listed : Array Bool) (a : Act) (w : World), unl listed ≤ fuel → I listed a w → wpAny P md ops Q fuel listed a w := by
  intro fuel
  induction fuel with
  | zero =>
    intro listed a w hu hI
    have hr : Region.ready md ops listed = [] := by
      cases h : Region.ready md ops listed with
      | nil => rfl
      | cons i t =>
        have hm : i ∈ Region.ready md ops listed := by rw [h]; simp
        have := unl_set (mem_ready.1 hm).1
        omega
    exact ⟨hr, hend _ _ _ hI hr⟩
  | succ fuel ih =>
    intro listed a w hu hI
    refine ⟨fun hr => hend _ _ _ hI hr, fun i hi => ?_⟩
    have hlt := unl_set (mem_ready.1 hi).1
    exact wpOp_mono (fun a' w' h => ih _ _ _ (by omega) h) (hstep _ _ _ hI i hi)

theorem wp_region_inv {id : Nat} {a : Act} {w : World} (hm : P.follows .mixedOrders = true) (I : Array Bool → Act → World → Prop)
    (hstep : ∀ listed a w, I listed a w → ∀ i ∈ Region.ready .any ops listed, wpOp P ops Q i (fun a' w' => I (listed.setIfInBounds i true) a' w') a w)
    (hend : ∀ listed a w, I listed a w → Region.ready .any ops listed = [] → Q .normal a w)
    (h0 : I (Array.replicate ops.size false) a w.drew) : (Code.region id ops true).wp P Q a w :=
  wp_region_any hm (wpAny_inv I hstep hend _ _ _ _ (by unfold unl; have := List.length_filter_le (fun b : Bool => !b) (Array.replicate ops.size false).toList; simp) h0)

theorem wpOp_val {i : Nat} {o : Oper} {a : Act} {w w' : World} {K : Act → World → Prop} {v : Value} (ho : ops[i]? = some o) (hg : o.guard = none) (he : (execOp a.eval o).run P w = .ok (.value v) w') (hK : K (a.put o.dst v) w') : wpOp P ops Q i K a w := by
  unfold wpOp
  rw [ho]
  simp only [Region.wanted, hg, if_true]
  exact .inl (by unfold Oper.wp; rw [he]; exact hK)
theorem wpOp_skip {i : Nat} {o : Oper} {a : Act} {w w' : World} {K : Act → World → Prop} (ho : ops[i]? = some o) (hg : o.guard = none) (he : (execOp a.eval o).run P w = .ok .skip w') (hK : K (a.put o.dst undef) w') : wpOp P ops Q i K a w := by
  unfold wpOp
  rw [ho]
  simp only [Region.wanted, hg, if_true]
  exact .inl (by unfold Oper.wp; rw [he]; exact hK)
theorem wpOp_enter {i : Nat} {o : Oper} {a : Act} {w w' : World} {K : Act → World → Prop} {f : FuncId} {args : Array Value} {R : Ending → World → Prop} (ho : ops[i]? = some o) (hg : o.guard = none) (he : (execOp a.eval o).run P w = .ok (.enter f args) w') (hC : Calls P f args w' R)
    (hK : ∀ e w'', R e w'' → ∃ v, e = .returned v ∧ K (a.put o.dst v) w'') : wpOp P ops Q i K a w := by
  unfold wpOp
  rw [ho]
  simp only [Region.wanted, hg, if_true]
  refine .inl ?_
  unfold Oper.wp
  rw [he]
  refine hC.mono fun e w'' h => ?_
  obtain ⟨v, rfl, h'⟩ := hK e w'' h
  exact h'

def Dn (ops : Array Oper) (listed : Array Bool) : Prop := ∀ i o, listed.getD i false = true → ops[i]? = some o → ∀ e ∈ o.after, Region.binds .any e = true → listed.getD e.on false = true
theorem Dn.none_ (ops : Array Oper) (n : Nat) : Dn ops (Array.replicate n false) := by
  intro i o h
  simp only [Array.getD_eq_getD_getElem?, Array.getElem?_replicate] at h
  split at h <;> simp at h
theorem Dn.set_ {ops : Array Oper} {listed : Array Bool} (h : Dn ops listed) {i : Nat} (hi : i ∈ Region.ready .any ops listed) : Dn ops (listed.setIfInBounds i true) := by
  obtain ⟨hun, o, ho, haf⟩ := mem_ready.1 hi
  have hlt : i < listed.size := by
    rcases Nat.lt_or_ge i listed.size with h | h
    · exact h
    · simp only [Array.getD_eq_getD_getElem?, Array.getElem?_eq_none h] at hun; simp at hun
  have hgd : ∀ j, (listed.setIfInBounds i true).getD j false = if j = i then true else listed.getD j false := by
    intro j
    simp only [Array.getD_eq_getD_getElem?, Array.getElem?_setIfInBounds]
    by_cases h : i = j
    · subst h; simp [hlt]
    · simp [h, Ne.symm h]
  intro j o' hj ho' e he hb
  rw [hgd] at hj ⊢
  split
  · rfl
  · by_cases hji : j = i
    · subst hji
      rw [ho] at ho'
      injection ho' with ho'
      subst ho'
      exact haf e he hb
    · rw [if_neg hji] at hj
      exact h j o' hj ho' e he hb
theorem wp_region_dn {id : Nat} {a : Act} {w : World} (hm : P.follows .mixedOrders = true) (I : Array Bool → Act → World → Prop)
    (hstep : ∀ listed a w, Dn ops listed → I listed a w → ∀ i ∈ Region.ready .any ops listed, wpOp P ops Q i (fun a' w' => I (listed.setIfInBounds i true) a' w') a w)
    (hend : ∀ listed a w, Dn ops listed → I listed a w → Region.ready .any ops listed = [] → Q .normal a w)
    (h0 : I (Array.replicate ops.size false) a w.drew) : (Code.region id ops true).wp P Q a w :=
  wp_region_inv hm (fun L a w => Dn ops L ∧ I L a w)
    (fun listed a w ⟨hd, hI⟩ i hi => wpOp_mono (fun a' w' h => ⟨hd.set_ hi, h⟩) (hstep listed a w hd hI i hi))
    (fun listed a w ⟨hd, hI⟩ hr => hend listed a w hd hI hr)
    ⟨Dn.none_ _ _, h0⟩
theorem all_listed {listed : Array Bool} (hd : ∀ (i : Nat) (o : Oper), ops[i]? = some o → ∀ e ∈ o.after, e.on < i) (hs : ops.size ≤ listed.size) (hr : Region.ready .any ops listed = []) : ∀ i, i < ops.size → listed.getD i false = true := by
  intro i
  induction i using Nat.strongRecOn with
  | ind i ih =>
    intro hi
    cases hc : listed.getD i false with
    | true => rfl
    | false =>
      exfalso
      have hm : i ∈ Region.ready .any ops listed := by
        refine mem_ready.2 ⟨?_, ops[i], Array.getElem?_eq_getElem hi, fun e he _ => ih e.on (hd i _ (Array.getElem?_eq_getElem hi) e he) (by have := hd i _ (Array.getElem?_eq_getElem hi) e he; omega)⟩
        have hl : i < listed.size := by omega
        simp only [Array.getD_eq_getD_getElem?, Array.getElem?_eq_getElem hl, Option.getD_some] at hc ⊢
        exact hc
      rw [hr] at hm
      cases hm
theorem all_listedB {listed : Array Bool} (hc : ((List.range ops.size).all fun i => ((ops[i]?).map fun o => o.after.all fun e => decide (e.on < i)).getD true) = true) (hs : ops.size ≤ listed.size) (hr : Region.ready .any ops listed = []) : ∀ i, i < ops.size → listed.getD i false = true := by
  refine all_listed (fun i o ho e he => ?_) hs hr
  have hi : i < ops.size := (Array.getElem?_eq_some_iff.1 ho).1
  have := List.all_eq_true.1 hc i (List.mem_range.2 hi)
  rw [ho] at this
  simp only [Option.map_some, Option.getD_some, Array.all_eq_true_iff_forall_mem] at this
  exact of_decide_eq_true (this e he)
end Go.Cr
end
