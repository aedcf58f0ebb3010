/- The parts FormsI of one proof, one behind the other. -/
import Derived.Test.YtlmnmgokfnnbbaaGreatDoorQ15
import Derived.Test.YtlmnmgokfnnbbaaGreatDoorQ16
import Derived.Test.YtlmnmgokfnnbbaaGreatDoorQ01

/- The map literal of the kinds of character strings: its invariant. -/
section
set_option linter.unusedSimpArgs false
set_option linter.unusedVariables false
namespace Go.Proofs.YtlmnmgokfnnbbaaGreatDoor
open Go.RowKit Go.Cr
def fn (i : Nat) : Value := .func (.func i) #[] #[]
def form (f : Value) (n : Int) : Value := .agg #[f, .int .i64 n]
def exF (f20 f26 : Value) (gm : Nat) (f22 : Value) : Nat → Option (Nat × Value)
  | 0 => some (6, .map (some gm))
  | 1 => some (7, form (fn 188) 0)
  | 3 => some (8, fn 184)
  | 4 => some (9, form (fn 184) 1)
  | 6 => some (10, f20)
  | 7 => some (11, form f20 1)
  | 9 => some (12, f22)
  | 10 => some (13, form f22 1)
  | 12 => some (14, f26)
  | 13 => some (15, form f26 1)
  | 15 => some (16, form (fn 188) 4)
  | 17 => some (17, form (fn 189) 2)
  | 19 => some (18, .map (some gm))
  | 20 => some (0, .map (some gm))
  | _ => none
def insF (f20 f26 f22 : Value) : List (Nat × Int × Value) :=
  [(2, 12, form (fn 188) 0), (5, 19, form (fn 184) 1), (8, 20, form f20 1), (11, 22, form f22 1), (14, 26, form f26 1), (16, 28, form (fn 188) 4), (18, 30, form (fn 189) 2)]
def mapF (f20 f26 f22 : Value) (L : Nat → Bool) (k : Int) : Option Value := (insF f20 f26 f22).findSome? fun p => if k = p.2.1 ∧ L p.1 = true then some p.2.2 else none

structure FI (f19 t2 f20 f26 : Value) (W0 : World) (gm : Nat) (f22 : Value) (listed : Array Bool) (a : Act) (w : World) : Prop where
  sz : listed.size = 21
  bel : Below W0.heap.size W0 w
  dfr : a.defers = []
  tsz : a.tmps.size = 19
  s1 : a.tmps[1]? = some f19
  s2 : a.tmps[2]? = some t2
  s3 : a.tmps[3]? = some f20
  ex : ∀ j s v, listed.getD j false = true → exF f20 f26 gm f22 j = some (s, v) → a.tmps[s]? = some v
  map_ : listed.getD 0 false = true → W0.heap.size ≤ gm ∧ HasM intKey w gm (mapF f20 f26 f22 fun j => listed.getD j false)

theorem getD_set (listed : Array Bool) (i j : Nat) (hi : i < listed.size) : (listed.setIfInBounds i true).getD j false = if j = i then true else listed.getD j false := by
  simp only [Array.getD_eq_getD_getElem?, Array.getElem?_setIfInBounds]
  by_cases h : i = j
  · subst h; simp [hi]
  · simp [h, Ne.symm h]

theorem exF_inj {f20 f26 f22 : Value} {gm i j s : Nat} {v v' : Value} (h : exF f20 f26 gm f22 i = some (s, v)) (h' : exF f20 f26 gm f22 j = some (s, v')) : i = j := by
  unfold exF at h h'
  split at h <;> split at h' <;> (first | (cases h; done) | (cases h'; done) | (have h1 := (Prod.mk.inj (Option.some.inj h)).1; have h2 := (Prod.mk.inj (Option.some.inj h')).1; omega) | rfl)

theorem exF_slot {f20 f26 f22 : Value} {gm i s : Nat} {v : Value} (h : exF f20 f26 gm f22 i = some (s, v)) : s < 19 ∧ s ≠ 1 ∧ s ≠ 2 ∧ s ≠ 3 := by
  unfold exF at h
  split at h <;> (first | (cases h; done) | (have h1 := (Prod.mk.inj (Option.some.inj h)).1; omega))

theorem findSome_same {α β : Type} {f g : α → Option β} : ∀ {l : List α}, (∀ p ∈ l, f p = g p) → l.findSome? f = l.findSome? g := by
  intro l
  induction l with
  | nil => intro _; rfl
  | cons x t ih =>
    intro h
    simp only [List.findSome?_cons, h x (by simp), ih (fun p hp => h p (by simp [hp]))]
theorem put_get {a : Act} {s t : Nat} {v : Value} : (a.put (some s) v).tmps[t]? = if t = s ∧ s < a.tmps.size then some v else a.tmps[t]? := by
  simp only [Act.put, Array.getElem?_setIfInBounds]
  by_cases h : s = t
  · subst h
    by_cases hs : s < a.tmps.size
    · simp [hs]
    · simp [hs]
  · simp [h, Ne.symm h]

theorem FI.val {f19 t2 f20 f26 : Value} {W0 w w' : World} {gm : Nat} {f22 : Value} {listed : Array Bool} {a : Act} (h : FI f19 t2 f20 f26 W0 gm f22 listed a w) {i s : Nat} {v : Value} (hi : i < 21) (he : exF f20 f26 gm f22 i = some (s, v)) (h0 : i ≠ 0)
    (hb : Below W0.heap.size W0 w') (hm : listed.getD 0 false = true → w'.heap[gm]? = w.heap[gm]?) : FI f19 t2 f20 f26 W0 gm f22 (listed.setIfInBounds i true) (a.put (some s) v) w' := by
  have hs := exF_slot he
  have hgd := fun j => getD_set listed i j (by rw [h.sz]; exact hi)
  refine ⟨by simp [h.sz], hb, h.dfr, by simp [Act.put, h.tsz], ?_, ?_, ?_, fun j s' v' hj hx => ?_, fun hj => ?_⟩
  · rw [put_get, if_neg (by omega)]; exact h.s1
  · rw [put_get, if_neg (by omega)]; exact h.s2
  · rw [put_get, if_neg (by omega)]; exact h.s3
  · rw [put_get]
    rw [hgd] at hj
    by_cases hji : j = i
    · subst hji
      rw [he] at hx
      injection hx with hx; injection hx with h1 h2
      subst h1 h2
      rw [if_pos ⟨rfl, by rw [h.tsz]; exact hs.1⟩]
    · rw [if_neg hji] at hj
      have hne : ¬ (s' = s) := fun e => by subst e; exact hji (exF_inj hx he)
      rw [if_neg (by omega)]
      exact h.ex j s' v' hj hx
  · rw [hgd, if_neg (Ne.symm h0)] at hj
    obtain ⟨h1, h2⟩ := h.map_ hj
    refine ⟨h1, ?_⟩
    have e : (mapF f20 f26 f22 fun j => (listed.setIfInBounds i true).getD j false) = mapF f20 f26 f22 fun j => listed.getD j false := by
      funext k
      have hno : ∀ p ∈ insF f20 f26 f22, p.1 ≠ i := by
        intro p hp e
        simp only [insF, List.mem_cons, List.mem_nil_iff, or_false] at hp
        rcases hp with rfl | rfl | rfl | rfl | rfl | rfl | rfl <;> (simp only at e; subst e; simp [exF] at he)
      unfold mapF
      refine findSome_same (fun p hp => ?_)
      have e2 : (listed.setIfInBounds i true).getD p.1 false = listed.getD p.1 false := by rw [hgd, if_neg (hno p hp)]
      simp only [e2]
    rw [e]
    exact h2.keep (hm hj)

theorem FI.ins {f19 t2 f20 f26 : Value} {W0 w w' : World} {gm : Nat} {f22 : Value} {listed : Array Bool} {a : Act} (h : FI f19 t2 f20 f26 W0 gm f22 listed a w) {i : Nat} {k : Int} {v : Value} (hi : i < 21) (hin : (i, k, v) ∈ insF f20 f26 f22) (h0 : listed.getD 0 false = true)
    (hb : Below W0.heap.size W0 w') (hm : HasM intKey w' gm (fun n => if n = k then some v else mapF f20 f26 f22 (fun j => listed.getD j false) n)) : FI f19 t2 f20 f26 W0 gm f22 (listed.setIfInBounds i true) (a.put none undef) w' := by
  have hgd := fun j => getD_set listed i j (by rw [h.sz]; exact hi)
  have hx0 : exF f20 f26 gm f22 i = none := by
    simp only [insF, List.mem_cons, List.mem_nil_iff, or_false, Prod.mk.injEq] at hin
    rcases hin with ⟨rfl, _⟩ | ⟨rfl, _⟩ | ⟨rfl, _⟩ | ⟨rfl, _⟩ | ⟨rfl, _⟩ | ⟨rfl, _⟩ | ⟨rfl, _⟩ <;> rfl
  refine ⟨by simp [h.sz], hb, h.dfr, h.tsz, h.s1, h.s2, h.s3, fun j s' v' hj hx => ?_, fun _ => ⟨(h.map_ h0).1, ?_⟩⟩
  · rw [hgd] at hj
    by_cases hji : j = i
    · subst hji; rw [hx0] at hx; cases hx
    · rw [if_neg hji] at hj
      exact h.ex j s' v' hj hx
  · have e : (mapF f20 f26 f22 fun j => (listed.setIfInBounds i true).getD j false) = fun n => if n = k then some v else mapF f20 f26 f22 (fun j => listed.getD j false) n := by
      funext n
      simp only [insF, List.mem_cons, List.mem_nil_iff, or_false, Prod.mk.injEq] at hin
      unfold mapF
      simp only [insF, List.findSome?_cons, List.findSome?_nil, hgd]
      rcases hin with ⟨rfl, rfl, rfl⟩ | ⟨rfl, rfl, rfl⟩ | ⟨rfl, rfl, rfl⟩ | ⟨rfl, rfl, rfl⟩ | ⟨rfl, rfl, rfl⟩ | ⟨rfl, rfl, rfl⟩ | ⟨rfl, rfl, rfl⟩ <;>
      · by_cases hn : n = 12
        · subst hn; simp
        · by_cases hn : n = 19
          · subst hn; simp
          · by_cases hn : n = 20
            · subst hn; simp
            · by_cases hn : n = 22
              · subst hn; simp
              · by_cases hn : n = 26
                · subst hn; simp
                · by_cases hn : n = 28
                  · subst hn; simp
                  · by_cases hn : n = 30
                    · subst hn; simp
                    · simp [*]
    rw [e]
    exact hm
theorem mapF_none {f20 f26 f22 : Value} {L : Nat → Bool} {i : Nat} {k : Int} {v : Value} (hin : (i, k, v) ∈ insF f20 f26 f22) (hL : L i = false) : mapF f20 f26 f22 L k = none := by
  simp only [insF, List.mem_cons, List.mem_nil_iff, or_false, Prod.mk.injEq] at hin
  unfold mapF
  simp only [insF, List.findSome?_cons, List.findSome?_nil]
  rcases hin with ⟨rfl, rfl, rfl⟩ | ⟨rfl, rfl, rfl⟩ | ⟨rfl, rfl, rfl⟩ | ⟨rfl, rfl, rfl⟩ | ⟨rfl, rfl, rfl⟩ | ⟨rfl, rfl, rfl⟩ | ⟨rfl, rfl, rfl⟩ <;> simp [hL]

theorem FI.make {f19 t2 f20 f26 : Value} {W0 w : World} {gm : Nat} {f22 : Value} {listed : Array Bool} {a : Act} (h : FI f19 t2 f20 f26 W0 gm f22 listed a w) (h0 : listed.getD 0 false = false) (hno : ∀ j s v, listed.getD j false = true → exF f20 f26 gm f22 j = some (s, v) → j ≠ 19 ∧ j ≠ 20)
    (hin : ∀ j, (∃ p ∈ insF f20 f26 f22, p.1 = j) → listed.getD j false = false) : FI f19 t2 f20 f26 W0 w.heap.size f22 (listed.setIfInBounds 0 true) (a.put (some 6) (.map (some w.heap.size))) (w.alloc (.map #[] 0)) := by
  have hgd := fun j => getD_set listed 0 j (by rw [h.sz]; omega)
  refine ⟨by simp [h.sz], h.bel.alloc h.bel.size _, h.dfr, by simp [Act.put, h.tsz], ?_, ?_, ?_, fun j s' v' hj hx => ?_, fun _ => ⟨h.bel.size, ?_⟩⟩
  · rw [put_get, if_neg (by omega)]; exact h.s1
  · rw [put_get, if_neg (by omega)]; exact h.s2
  · rw [put_get, if_neg (by omega)]; exact h.s3
  · rw [put_get]
    rw [hgd] at hj
    by_cases hji : j = 0
    · subst hji
      injection hx with hx; injection hx with h1 h2
      subst h1 h2
      rw [if_pos ⟨rfl, by rw [h.tsz]; omega⟩]
    · rw [if_neg hji] at hj
      have hne : ¬ (s' = 6) := fun e => by subst e; exact hji (exF_inj hx (v' := .map (some w.heap.size)) (j := 0) rfl)
      rw [if_neg (by omega)]
      have hx' : exF f20 f26 gm f22 j = some (s', v') ∨ j = 19 ∨ j = 20 := by
        unfold exF at hx ⊢
        split at hx <;> first | exact absurd rfl hji | exact .inl hx | exact .inr (.inl rfl) | exact .inr (.inr rfl)
      rcases hx' with hx' | hx' | hx'
      · exact h.ex j s' v' hj hx'
      · subst hx'; exact absurd rfl (hno 19 18 (.map (some gm)) hj rfl).1
      · subst hx'; exact absurd rfl (hno 20 0 (.map (some gm)) hj rfl).2
  · have e : (mapF f20 f26 f22 fun j => (listed.setIfInBounds 0 true).getD j false) = fun _ => none := by
      funext n
      unfold mapF
      have hz : ∀ p ∈ insF f20 f26 f22, (if n = p.2.1 ∧ (fun j => (listed.setIfInBounds 0 true).getD j false) p.1 = true then some p.2.2 else none) = (none : Option Value) := by
        intro p hp
        have hp0 : p.1 ≠ 0 := by
          intro e
          simp only [insF, List.mem_cons, List.mem_nil_iff, or_false] at hp
          rcases hp with rfl | rfl | rfl | rfl | rfl | rfl | rfl <;> cases e
        have e2 : (listed.setIfInBounds 0 true).getD p.1 false = false := by rw [hgd, if_neg hp0]; exact hin _ ⟨p, hp, rfl⟩
        simp [e2]
      rw [findSome_same hz]
      simp [insF]
    rw [e]
    exact HasM.new intKey w

theorem FI.call {f19 t2 f20 f26 : Value} {W0 w w' : World} {gm : Nat} {f22 g22 : Value} {listed : Array Bool} {a : Act} (h : FI f19 t2 f20 f26 W0 gm f22 listed a w) (h10 : listed.getD 10 false = false) (h11 : listed.getD 11 false = false)
    (hb : Below W0.heap.size W0 w') (hm : listed.getD 0 false = true → w'.heap[gm]? = w.heap[gm]?) : FI f19 t2 f20 f26 W0 gm g22 (listed.setIfInBounds 9 true) (a.put (some 12) g22) w' := by
  have hgd := fun j => getD_set listed 9 j (by rw [h.sz]; omega)
  refine ⟨by simp [h.sz], hb, h.dfr, by simp [Act.put, h.tsz], ?_, ?_, ?_, fun j s' v' hj hx => ?_, fun hj => ?_⟩
  · rw [put_get, if_neg (by omega)]; exact h.s1
  · rw [put_get, if_neg (by omega)]; exact h.s2
  · rw [put_get, if_neg (by omega)]; exact h.s3
  · rw [put_get]
    rw [hgd] at hj
    by_cases hji : j = 9
    · subst hji
      injection hx with hx; injection hx with h1 h2
      subst h1 h2
      rw [if_pos ⟨rfl, by rw [h.tsz]; omega⟩]
    · rw [if_neg hji] at hj
      have hne : ¬ (s' = 12) := fun e => by subst e; exact hji (exF_inj hx (v' := g22) (j := 9) rfl)
      rw [if_neg (by omega)]
      have hx' : exF f20 f26 gm f22 j = some (s', v') ∨ j = 10 := by
        unfold exF at hx ⊢
        split at hx <;> first | exact absurd rfl hji | exact .inl hx | exact .inr rfl
      rcases hx' with hx' | hx'
      · exact h.ex j s' v' hj hx'
      · subst hx'; rw [h10] at hj; cases hj
  · rw [hgd, if_neg (by omega)] at hj
    obtain ⟨h1, h2⟩ := h.map_ hj
    refine ⟨h1, ?_⟩
    have e : (mapF f20 f26 g22 fun j => (listed.setIfInBounds 9 true).getD j false) = mapF f20 f26 f22 fun j => listed.getD j false := by
      funext n
      unfold mapF
      simp only [insF, List.findSome?_cons, List.findSome?_nil, hgd]
      simp [h11]
    rw [e]
    exact h2.keep (hm hj)
end Go.Proofs.YtlmnmgokfnnbbaaGreatDoor
end
