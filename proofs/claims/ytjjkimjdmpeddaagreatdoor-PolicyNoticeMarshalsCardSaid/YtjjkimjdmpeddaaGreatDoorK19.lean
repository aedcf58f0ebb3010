/- The parts Region, RegInv, RegLast of one proof, one behind the other. -/
import Derived.Test.YtjjkimjdmpeddaaGreatDoorK01
import Derived.Deep.RegionHeld3

/- A region that draws its order, taken operation by operation: also those whose guard is false. -/
section
set_option linter.unusedSimpArgs false
set_option linter.unusedVariables false
namespace Go.Cr
open Go.RowKit
variable {P : Program} {ops : Array Oper} {Q : Exit → Act → World → Prop} {md : Region.Mode} {S : World → Prop}
theorem take_want {i : Nat} {d : Option Tmp} (v : Value) {fuel : Nat} {listed : Array Bool} {a : Act} {w : World}
    (hs : Region.noSelect ops = true) (hf : Region.free md ops listed i = true) (hr : (Region.ready md ops listed).contains i = true)
    (hQ : ∀ c a w, Q (.panic c) (a.put d v) w → Q (.panic c) a w) (hS : S w)
    (ho : ∀ o, ops[i]? = some o → o.dst = d ∧ Region.wanted o (yielded ops a.tmps) = true ∧ ∀ w, S w → (execOp a.eval o).run P w = .ok (.value v) w) (hi : (ops[i]?).isSome = true)
    (h : wpAnyH P md ops Q S fuel (listed.setIfInBounds i true) (a.put d v) w) : wpAnyH P md ops Q S (fuel + 1) listed a w := by
  obtain ⟨o, hoi⟩ := Option.isSome_iff_exists.1 hi
  obtain ⟨rfl, hw, hy⟩ := ho o hoi
  exact wpAnyH_take hoi hs hf hr hQ (Or.inl ⟨hw, hy⟩) hS h
theorem take_run {i : Nat} {fuel : Nat} {listed : Array Bool} {a : Act} {w : World} (hr : Region.ready md ops listed = [i]) (hi : (ops[i]?).isSome = true)
    (h : ∀ o, ops[i]? = some o → ∀ K' : Act → World → Prop, Shut (∀ a w, S w → (S w → wpAnyH P md ops Q S fuel (listed.setIfInBounds i true) a w) → K' a w) → if Region.wanted o (yielded ops a.tmps) = true then Oper.wp P o a w K' Q else K' (a.put o.dst undef) w) :
    wpAnyH P md ops Q S (fuel + 1) listed a w := by
  obtain ⟨o, hoi⟩ := Option.isSome_iff_exists.1 hi
  exact wpAnyH_ready hr (by simp) (AllReadyH.cons hoi (h o hoi) AllReadyH.nil)
end Go.Cr
end

/- A region that draws its order, by an invariant that every operation that may come up keeps. -/
section
set_option linter.unusedSimpArgs false
set_option linter.unusedVariables false
namespace Go.Cr
open Go.RowKit
variable {P : Program} {ops : Array Oper} {Q : Exit → Act → World → Prop} {md : Region.Mode}
def unl (listed : Array Bool) : Nat := (listed.toList.filter (fun b => !b)).length
theorem unl_set {listed : Array Bool} {i : Nat} (h : listed.getD i true = false) : unl (listed.setIfInBounds i true) < unl listed := by
  obtain ⟨l⟩ := listed
  unfold unl
  simp only [Array.getD_eq_getD_getElem?, List.getElem?_toArray, List.setIfInBounds_toArray] at h ⊢
  induction l generalizing i with
  | nil => simp at h
  | cons b t ih =>
    cases i with
    | zero => simp at h; subst h; simp
    | succ i =>
      have := ih (i := i) (by simpa using h)
      simp only [List.set_cons_succ, List.filter_cons]
      split <;> simp <;> omega

theorem wpAny_inv (I : Array Bool → Act → World → Prop)
    (hstep : ∀ listed a w, I listed a w → ∀ i ∈ Region.ready md ops listed, wpOp P ops Q i (fun a' w' => I (listed.setIfInBounds i true) a' w') a w)
    (hend : ∀ listed a w, I listed a w → Region.ready md ops listed = [] → Q .normal a w) :
    ∀ (fuel : Nat) (listed : Array Bool) (a : Act) (w : World), unl listed ≤ fuel → I listed a w → wpAny P md ops Q fuel listed a w := by
  intro fuel
  induction fuel with
  | zero =>
    intro listed a w hu hI
    have hr : Region.ready md ops listed = [] := by
      cases h : Region.ready md ops listed with
      | nil => rfl
      | cons i t =>
        have hm : i ∈ Region.ready md ops listed := by rw [h]; simp
        have := unl_set (mem_ready.1 hm).1
        omega
    exact ⟨hr, hend _ _ _ hI hr⟩
  | succ fuel ih =>
    intro listed a w hu hI
    refine ⟨fun hr => hend _ _ _ hI hr, fun i hi => ?_⟩
    have hlt := unl_set (mem_ready.1 hi).1
    exact wpOp_mono (fun a' w' h => ih _ _ _ (by omega) h) (hstep _ _ _ hI i hi)

theorem wp_region_inv {id : Nat} {a : Act} {w : World} (hm : P.follows .mixedOrders = true) (I : Array Bool → Act → World → Prop)
    (hstep : ∀ listed a w, I listed a w → ∀ i ∈ Region.ready .any ops listed, wpOp P ops Q i (fun a' w' => I (listed.setIfInBounds i true) a' w') a w)
    (hend : ∀ listed a w, I listed a w → Region.ready .any ops listed = [] → Q .normal a w)
    (h0 : I (Array.replicate ops.size false) a w.drew) : (Code.region id ops true).wp P Q a w :=
  wp_region_any hm (wpAny_inv I hstep hend _ _ _ _ (by unfold unl; have := List.length_filter_le (fun b : Bool => !b) (Array.replicate ops.size false).toList; simp) h0)

theorem wpOp_val {i : Nat} {o : Oper} {a : Act} {w w' : World} {K : Act → World → Prop} {v : Value} (ho : ops[i]? = some o) (hg : o.guard = none) (he : (execOp a.eval o).run P w = .ok (.value v) w') (hK : K (a.put o.dst v) w') : wpOp P ops Q i K a w := by
  unfold wpOp
  rw [ho]
  simp only [Region.wanted, hg, if_true]
  exact .inl (by unfold Oper.wp; rw [he]; exact hK)
theorem wpOp_skip {i : Nat} {o : Oper} {a : Act} {w w' : World} {K : Act → World → Prop} (ho : ops[i]? = some o) (hg : o.guard = none) (he : (execOp a.eval o).run P w = .ok .skip w') (hK : K (a.put o.dst undef) w') : wpOp P ops Q i K a w := by
  unfold wpOp
  rw [ho]
  simp only [Region.wanted, hg, if_true]
  exact .inl (by unfold Oper.wp; rw [he]; exact hK)
theorem wpOp_enter {i : Nat} {o : Oper} {a : Act} {w w' : World} {K : Act → World → Prop} {f : FuncId} {args : Array Value} {R : Ending → World → Prop} (ho : ops[i]? = some o) (hg : o.guard = none) (he : (execOp a.eval o).run P w = .ok (.enter f args) w') (hC : Calls P f args w' R)
    (hK : ∀ e w'', R e w'' → ∃ v, e = .returned v ∧ K (a.put o.dst v) w'') : wpOp P ops Q i K a w := by
  unfold wpOp
  rw [ho]
  simp only [Region.wanted, hg, if_true]
  refine .inl ?_
  unfold Oper.wp
  rw [he]
  refine hC.mono fun e w'' h => ?_
  obtain ⟨v, rfl, h'⟩ := hK e w'' h
  exact h'

def Dn (ops : Array Oper) (listed : Array Bool) : Prop := ∀ i o, listed.getD i false = true → ops[i]? = some o → ∀ e ∈ o.after, Region.binds .any e = true → listed.getD e.on false = true
theorem Dn.none_ (ops : Array Oper) (n : Nat) : Dn ops (Array.replicate n false) := by
  intro i o h
  simp only [Array.getD_eq_getD_getElem?, Array.getElem?_replicate] at h
  split at h <;> simp at h
theorem Dn.set_ {ops : Array Oper} {listed : Array Bool} (h : Dn ops listed) {i : Nat} (hi : i ∈ Region.ready .any ops listed) : Dn ops (listed.setIfInBounds i true) := by
  obtain ⟨hun, o, ho, haf⟩ := mem_ready.1 hi
  have hlt : i < listed.size := by
    rcases Nat.lt_or_ge i listed.size with h | h
    · exact h
    · simp only [Array.getD_eq_getD_getElem?, Array.getElem?_eq_none h] at hun; simp at hun
  have hgd : ∀ j, (listed.setIfInBounds i true).getD j false = if j = i then true else listed.getD j false := by
    intro j
    simp only [Array.getD_eq_getD_getElem?, Array.getElem?_setIfInBounds]
    by_cases h : i = j
    · subst h; simp [hlt]
    · simp [h, Ne.symm h]
  intro j o' hj ho' e he hb
  rw [hgd] at hj ⊢
  split
  · rfl
  · by_cases hji : j = i
    · subst hji
      rw [ho] at ho'
      injection ho' with ho'
      subst ho'
      exact haf e he hb
    · rw [if_neg hji] at hj
      exact h j o' hj ho' e he hb
theorem wp_region_dn {id : Nat} {a : Act} {w : World} (hm : P.follows .mixedOrders = true) (I : Array Bool → Act → World → Prop)
    (hstep : ∀ listed a w, Dn ops listed → I listed a w → ∀ i ∈ Region.ready .any ops listed, wpOp P ops Q i (fun a' w' => I (listed.setIfInBounds i true) a' w') a w)
    (hend : ∀ listed a w, Dn ops listed → I listed a w → Region.ready .any ops listed = [] → Q .normal a w)
    (h0 : I (Array.replicate ops.size false) a w.drew) : (Code.region id ops true).wp P Q a w :=
  wp_region_inv hm (fun L a w => Dn ops L ∧ I L a w)
    (fun listed a w ⟨hd, hI⟩ i hi => wpOp_mono (fun a' w' h => ⟨hd.set_ hi, h⟩) (hstep listed a w hd hI i hi))
    (fun listed a w ⟨hd, hI⟩ hr => hend listed a w hd hI hr)
    ⟨Dn.none_ _ _, h0⟩
theorem all_listed {listed : Array Bool} (hd : ∀ (i : Nat) (o : Oper), ops[i]? = some o → ∀ e ∈ o.after, e.on < i) (hs : ops.size ≤ listed.size) (hr : Region.ready .any ops listed = []) : ∀ i, i < ops.size → listed.getD i false = true := by
  intro i
  induction i using Nat.strongRecOn with
  | ind i ih =>
    intro hi
    cases hc : listed.getD i false with
    | true => rfl
    | false =>
      exfalso
      have hm : i ∈ Region.ready .any ops listed := by
        refine mem_ready.2 ⟨?_, ops[i], Array.getElem?_eq_getElem hi, fun e he _ => ih e.on (hd i _ (Array.getElem?_eq_getElem hi) e he) (by have := hd i _ (Array.getElem?_eq_getElem hi) e he; omega)⟩
        have hl : i < listed.size := by omega
        simp only [Array.getD_eq_getD_getElem?, Array.getElem?_eq_getElem hl, Option.getD_some] at hc ⊢
        exact hc
      rw [hr] at hm
      cases hm
theorem all_listedB {listed : Array Bool} (hc : ((List.range ops.size).all fun i => ((ops[i]?).map fun o => o.after.all fun e => decide (e.on < i)).getD true) = true) (hs : ops.size ≤ listed.size) (hr : Region.ready .any ops listed = []) : ∀ i, i < ops.size → listed.getD i false = true := by
  refine all_listed (fun i o ho e he => ?_) hs hr
  have hi : i < ops.size := (Array.getElem?_eq_some_iff.1 ho).1
  have := List.all_eq_true.1 hc i (List.mem_range.2 hi)
  rw [ho] at this
  simp only [Option.map_some, Option.getD_some, Array.all_eq_true_iff_forall_mem] at this
  exact of_decide_eq_true (this e he)
end Go.Cr
end

/- A region that draws its order, whose last operation waits for all the others: the others first, by what is held of the world till then. No program in sight. -/
section
set_option linter.unusedSimpArgs false
set_option linter.unusedVariables false
namespace Go.Cr
open Go.RowKit
variable {P : Program} {Q : Exit → Act → World → Prop}
def lastQ (P : Program) (ops : Array Oper) (z : Nat) (Q : Exit → Act → World → Prop) : Exit → Act → World → Prop
  | .normal, a, w => wpOp P ops Q z (fun a w => Q .normal a w) a w
  | .exit i, a, w => Q (.exit i) a w
  | .goto l, a, w => Q (.goto l) a w
  | .ret, a, w => Q .ret a w
  | .panic c, a, w => Q (.panic c) a w
  | .outgrown, a, w => Q .outgrown a w
theorem lastQ_of {ops : Array Oper} {z : Nat} {a : Act} {w : World} (h : wpOp P ops Q z (fun a w => Q .normal a w) a w) : lastQ P ops z Q .normal a w := h
theorem oper_wp_post {o : Oper} {a : Act} {w : World} {K K' : Act → World → Prop} {Q' : Exit → Act → World → Prop} (h : ∀ a w, K' a w → K a w) (hp : ∀ c a w, Q' (.panic c) a w → Q (.panic c) a w) (hl : LetsOut Q' → LetsOut Q)
    (hh : o.wp P a w K' Q') : o.wp P a w K Q := by
  unfold Oper.wp at *
  generalize (execOp a.eval o).run P w = r at *
  cases r with
  | ok n w' =>
    cases n <;> simp only [Oper.upon] at hh ⊢ <;>
      first
        | exact h _ _ hh
        | exact Calls.mono hh (fun e w'' he => by cases e <;> first | exact h _ _ he | exact hp _ _ _ he | exact hl he)
        | exact Rows.mono hh (fun _ _ he => h _ _ he)
  | halt x w' => cases x <;> simp only [Oper.upon] at hh ⊢ <;> first | exact hp _ _ _ hh | exact hh
def lastOK (ops' : Array Oper) (z : Oper) : Bool :=
  z.guard.isNone && ops'.all (fun o => o.guard.isNone) &&
  ((List.range ops'.size).all fun i => (z.after.any fun e => Region.binds .any e && e.on == i) || ((List.range ops'.size).any fun j => ((ops'[j]?).map fun o => o.after.any fun e => Region.binds .any e && e.on == i).getD false && decide (i < j))) &&
  ((List.range ops'.size).all fun i => ((ops'[i]?).map fun o => o.after.all fun e => decide (e.on < i)).getD true) &&
  z.after.all (fun e => decide (e.on < ops'.size))
theorem push_get {ops' : Array Oper} {z : Oper} {i : Nat} (h : i < ops'.size) : (ops'.push z)[i]? = ops'[i]? := by
  rw [Array.getElem?_push]; rw [if_neg (by omega)]
theorem push_last {ops' : Array Oper} {z : Oper} : (ops'.push z)[ops'.size]? = some z := by simp
theorem list_push {L : Array Bool} {i : Nat} (d : Bool) (h : i < L.size) : (L.push false).getD i d = L.getD i d := by
  simp only [Array.getD_eq_getD_getElem?, Array.getElem?_push]
  rw [if_neg (by omega)]
theorem last_all {ops' : Array Oper} {z : Oper} (hok : lastOK ops' z = true) {L : Array Bool} (hs : L.size = ops'.size) (hd : Dn ops' L) (hz : ∀ e ∈ z.after, Region.binds .any e = true → L.getD e.on false = true) : ∀ i, i < ops'.size → L.getD i false = true := by
  unfold lastOK at hok
  simp only [Bool.and_eq_true] at hok
  obtain ⟨⟨⟨_, h3⟩, _⟩, _⟩ := hok
  have key : ∀ k, ∀ i, i < ops'.size → ops'.size - i ≤ k → L.getD i false = true := by
    intro k
    induction k with
    | zero => intro i hi hk; omega
    | succ k ih =>
      intro i hi hk
      have h := List.all_eq_true.1 h3 i (List.mem_range.2 hi)
      simp only [Bool.or_eq_true] at h
      rcases h with h | h
      · obtain ⟨ie, hie, h⟩ := Array.any_eq_true.1 h
        simp only [Bool.and_eq_true, beq_iff_eq] at h
        have := hz _ (Array.getElem_mem hie) h.1
        rwa [h.2] at this
      · obtain ⟨j, hj, h⟩ := List.any_eq_true.1 h
        have hjn := List.mem_range.1 hj
        simp only [Bool.and_eq_true, decide_eq_true_eq] at h
        have hjl := ih j hjn (by omega)
        rw [Array.getElem?_eq_getElem hjn] at h
        simp only [Option.map_some, Option.getD_some] at h
        obtain ⟨ie, hie, h2⟩ := Array.any_eq_true.1 h.1
        simp only [Bool.and_eq_true, beq_iff_eq] at h2
        have := hd j _ hjl (Array.getElem?_eq_getElem hjn) _ (Array.getElem_mem hie) h2.1
        rwa [h2.2] at this
  exact fun i hi => key ops'.size i hi (by omega)
theorem wpAny_last {ops' : Array Oper} {z : Oper} (hok : lastOK ops' z = true) : ∀ (fuel : Nat) (L : Array Bool) (a : Act) (w : World), L.size = ops'.size → Dn ops' L →
    wpAny P .any ops' (lastQ P (ops'.push z) ops'.size Q) fuel L a w → wpAny P .any (ops'.push z) Q (fuel + 1) (L.push false) a w := by
  have hok' := hok
  unfold lastOK at hok'
  simp only [Bool.and_eq_true] at hok'
  obtain ⟨⟨⟨⟨hg0, hg⟩, _⟩, hbk⟩, hbz⟩ := hok'
  have hgd : ∀ (i : Nat) (o : Oper), ops'[i]? = some o → o.guard = none := fun i o ho => by
    have hi := (Array.getElem?_eq_some_iff.1 ho).1
    have := Array.all_eq_true.1 hg i hi
    rw [Array.getElem?_eq_getElem hi] at ho
    injection ho with ho
    rw [ho] at this
    simpa using this
  -- what may come up
  have hmem : ∀ (L : Array Bool), L.size = ops'.size → ∀ i, i ∈ Region.ready .any (ops'.push z) (L.push false) → (i < ops'.size ∧ i ∈ Region.ready .any ops' L) ∨ (i = ops'.size ∧ ∀ e ∈ z.after, Region.binds .any e = true → L.getD e.on false = true) := by
    intro L hs i hi
    obtain ⟨h1, o, ho, haf⟩ := mem_ready.1 hi
    have hin : i < (ops'.push z).size := (Array.getElem?_eq_some_iff.1 ho).1
    rw [Array.size_push] at hin
    by_cases hlt : i < ops'.size
    · left
      refine ⟨hlt, mem_ready.2 ⟨by rwa [list_push _ (by omega)] at h1, o, by rwa [push_get hlt] at ho, fun e he hb => ?_⟩⟩
      have h2 := haf e he hb
      have hon : e.on < i := by
        have := List.all_eq_true.1 hbk i (List.mem_range.2 hlt)
        rw [push_get hlt] at ho
        rw [ho] at this
        simp only [Option.map_some, Option.getD_some, Array.all_eq_true_iff_forall_mem] at this
        exact of_decide_eq_true (this e he)
      rwa [list_push _ (by omega)] at h2
    · right
      obtain rfl : i = ops'.size := by omega
      rw [push_last] at ho
      injection ho with ho
      subst ho
      refine ⟨rfl, fun e he hb => ?_⟩
      have h2 := haf e he hb
      have hon := of_decide_eq_true (Array.all_eq_true_iff_forall_mem.1 hbz e he)
      rwa [list_push _ (by omega)] at h2
  have hall : ∀ (L : Array Bool), L.size = ops'.size → (∀ i, i < ops'.size → L.getD i false = true) → Region.ready .any ops' L = [] := by
    intro L hs h
    cases hr : Region.ready .any ops' L with
    | nil => rfl
    | cons i t =>
      have hm : i ∈ Region.ready .any ops' L := by rw [hr]; simp
      obtain ⟨h1, o, ho, _⟩ := mem_ready.1 hm
      have hi := (Array.getElem?_eq_some_iff.1 ho).1
      have h2 := h i hi
      have hl : i < L.size := by omega
      simp only [Array.getD_eq_getD_getElem?, Array.getElem?_eq_getElem hl, Option.getD_some] at h1 h2
      rw [h1] at h2; cases h2
  have hnone : ∀ (L : Array Bool), L.size = ops'.size → (∀ i, i < ops'.size → L.getD i false = true) → Region.ready .any (ops'.push z) ((L.push false).setIfInBounds ops'.size true) = [] := by
    intro L hs h
    cases hr : Region.ready .any (ops'.push z) ((L.push false).setIfInBounds ops'.size true) with
    | nil => rfl
    | cons i t =>
      have hm : i ∈ Region.ready .any (ops'.push z) ((L.push false).setIfInBounds ops'.size true) := by rw [hr]; simp
      obtain ⟨h1, o, ho, _⟩ := mem_ready.1 hm
      have hi := (Array.getElem?_eq_some_iff.1 ho).1
      rw [Array.size_push] at hi
      have h3 : ((L.push false).setIfInBounds ops'.size true).getD i true = true := by
        simp only [Array.getD_eq_getD_getElem?, Array.getElem?_setIfInBounds, Array.size_push]
        by_cases hz : ops'.size = i
        · rw [if_pos hz, if_pos (by omega)]; rfl
        · rw [if_neg hz, Array.getElem?_push, if_neg (by omega)]
          have h2 := h i (by omega)
          have hl : i < L.size := by omega
          simp only [Array.getD_eq_getD_getElem?, Array.getElem?_eq_getElem hl, Option.getD_some] at h2 ⊢
          exact h2
      rw [h3] at h1; cases h1
  have hlastop : ∀ (fuel : Nat) (L : Array Bool) (a : Act) (w : World), L.size = ops'.size → (∀ i, i < ops'.size → L.getD i false = true) → lastQ P (ops'.push z) ops'.size Q .normal a w →
      wpOp P (ops'.push z) Q ops'.size (wpAny P .any (ops'.push z) Q fuel ((L.push false).setIfInBounds ops'.size true)) a w := by
    intro fuel L a w hs h hq
    refine wpOp_mono (fun a' w' hq' => ?_) hq
    have hn := hnone L hs h
    cases fuel with
    | zero => exact ⟨hn, hq'⟩
    | succ f => exact ⟨fun _ => hq', fun i hi => by rw [hn] at hi; cases hi⟩
  have hzr : ∀ (L : Array Bool), L.size = ops'.size → Region.ready .any ops' L = [] → ∀ i, i < ops'.size → L.getD i false = true := fun L hs hr => all_listedB hbk (by omega) hr
  intro fuel
  induction fuel with
  | zero =>
    intro L a w hs hd h
    have hl := hzr L hs h.1
    refine ⟨fun hr => ?_, fun i hi => ?_⟩
    · exfalso
      have hm : ops'.size ∈ Region.ready .any (ops'.push z) (L.push false) := by
        refine mem_ready.2 ⟨by simp [Array.getD_eq_getD_getElem?, ← hs], z, push_last, fun e he hb => ?_⟩
        have hon := of_decide_eq_true (Array.all_eq_true_iff_forall_mem.1 hbz e he)
        rw [list_push _ (by omega)]
        exact hl _ hon
      rw [hr] at hm; cases hm
    · rcases hmem L hs i hi with ⟨_, h2⟩ | ⟨rfl, _⟩
      · rw [h.1] at h2; cases h2
      · exact hlastop 0 L a w hs hl h.2
  | succ fuel ih =>
    intro L a w hs hd h
    refine ⟨fun hr => ?_, fun i hi => ?_⟩
    · exfalso
      have hr' : Region.ready .any ops' L = [] := by
        cases hc : Region.ready .any ops' L with
        | nil => rfl
        | cons i t =>
          have hm : i ∈ Region.ready .any ops' L := by rw [hc]; simp
          obtain ⟨h1, o, ho, haf⟩ := mem_ready.1 hm
          have hi := (Array.getElem?_eq_some_iff.1 ho).1
          have hm2 : i ∈ Region.ready .any (ops'.push z) (L.push false) := by
            refine mem_ready.2 ⟨by rwa [list_push _ (by omega)], o, by rwa [push_get hi], fun e he hb => ?_⟩
            have hon : e.on < i := by
              have := List.all_eq_true.1 hbk i (List.mem_range.2 hi)
              rw [ho] at this
              simp only [Option.map_some, Option.getD_some, Array.all_eq_true_iff_forall_mem] at this
              exact of_decide_eq_true (this e he)
            rw [list_push _ (by omega)]
            exact haf e he hb
          rw [hr] at hm2; cases hm2
      have hl := hzr L hs hr'
      have hm : ops'.size ∈ Region.ready .any (ops'.push z) (L.push false) := by
        refine mem_ready.2 ⟨by simp [Array.getD_eq_getD_getElem?, ← hs], z, push_last, fun e he hb => ?_⟩
        have hon := of_decide_eq_true (Array.all_eq_true_iff_forall_mem.1 hbz e he)
        rw [list_push _ (by omega)]
        exact hl _ hon
      rw [hr] at hm; cases hm
    · rcases hmem L hs i hi with ⟨hlt, h2⟩ | ⟨rfl, hz⟩
      · have h3 := h.2 i h2
        have hps : (L.push false).setIfInBounds i true = (L.setIfInBounds i true).push false := by
          apply Array.ext_getElem?
          intro j
          simp only [Array.getElem?_setIfInBounds, Array.getElem?_push, Array.size_push, Array.size_setIfInBounds]
          by_cases hij : i = j
          · subst hij
            rw [if_pos rfl, if_pos (by omega), if_neg (by omega), if_pos rfl, if_pos (by omega)]
          · rw [if_neg hij, if_neg hij]
        rw [hps]
        have hd2 := hd.set_ h2
        unfold wpOp at h3 ⊢
        rw [push_get hlt]
        rw [Array.getElem?_eq_getElem hlt] at h3 ⊢
        have hgn := hgd i _ (Array.getElem?_eq_getElem hlt)
        have hw1 : Region.wanted ops'[i] (yielded ops' a.tmps) = true := by unfold Region.wanted; rw [hgn]
        have hw2 : Region.wanted ops'[i] (yielded (ops'.push z) a.tmps) = true := by unfold Region.wanted; rw [hgn]
        simp only [hw1, hw2, if_true] at h3 ⊢
        rcases h3 with h3 | ⟨h3, a', w', h4⟩
        · exact .inl (oper_wp_post (fun a w hh => ih _ _ _ (by simp [hs]) hd2 hh) (fun c a w hh => hh) (fun ⟨a', w', hh⟩ => ⟨a', w', hh⟩) h3)
        · exact .inr ⟨h3, a', w', h4⟩
      · have hl := last_all hok hs hd hz
        exact hlastop (fuel + 1) L a w hs hl (h.1 (hall L hs hl))
theorem wp_region_lastH {id : Nat} {a : Act} {w : World} {ops' : Array Oper} {z : Oper} (S : World → Prop) (hm : P.follows .mixedOrders = true) (hok : lastOK ops' z = true) (hS : S w.drew)
    (h : S w.drew → wpAnyH P .any ops' (lastQ P (ops'.push z) ops'.size Q) S ops'.size (Array.replicate ops'.size false) a w.drew) : (Code.region id (ops'.push z) true).wp P Q a w := by
  refine wp_region_any hm ?_
  have h1 := wpAny_last (Q := Q) (P := P) hok ops'.size (Array.replicate ops'.size false) a w.drew (by simp) (Dn.none_ _ _) (wpAny_of_held _ _ _ _ (h hS))
  have e : (Array.replicate ops'.size false).push false = Array.replicate (ops'.push z).size false := by rw [Array.size_push]; exact Array.replicate_succ.symm
  rw [e, ← Array.size_push z] at h1
  exact h1
theorem wp_region_lastP {id : Nat} {a : Act} {w : World} {ops : Array Oper} {z : Oper} (S : World → Prop) (hz : ops.back? = some z) (hm : P.follows .mixedOrders = true) (hok : lastOK ops.pop z = true) (hS : S w.drew)
    (h : S w.drew → wpAnyH P .any ops.pop (lastQ P ops ops.pop.size Q) S ops.pop.size (Array.replicate ops.pop.size false) a w.drew) : (Code.region id ops true).wp P Q a w := by
  have e : ops.pop.push z = ops := by
    have h1 : 0 < ops.size := by
      rcases Nat.eq_zero_or_pos ops.size with h0 | h0
      · simp [Array.back?, h0] at hz
      · exact h0
    apply Array.ext_getElem?
    intro i
    rw [Array.getElem?_push, Array.size_pop]
    split
    · rename_i hi
      subst hi
      simpa [Array.back?] using hz.symm
    · rename_i hi
      rw [Array.getElem?_pop]
      split
      · rfl
      · rw [Array.getElem?_eq_none (by omega)]
  have h2 := wp_region_lastH (id := id) (a := a) (w := w) (ops' := ops.pop) (z := z) (Q := Q) (P := P) S hm hok hS (by rw [e]; exact h)
  rwa [e] at h2
end Go.Cr
end
