/- Own rows of own parts, and the library's sort on them. -/
import Derived.Test.YtecbphbnacbepaaCmp
import Derived.Test.YtecbphbnacbepaaSpecJ
import Derived.Test.YtecbphbnacbepaaCat
import Derived.Test.YtecbphbnacbepaaShelfB
import Derived.Sort.OwnSorted
set_option linter.unusedSimpArgs false
set_option linter.unusedVariables false
namespace Go.Proofs.Ytecbphbnacbepaa
open Go.RowKit Go.Cr

section
variable {α : Type} [Inhabited α] (enc : α → Value)
theorem holds_own {w : World} {g : Nat} {cur : Array Value} {e : TypeId} {xs : List α} (hb : w.heap[g]? = some (.cells cur e (0, 0))) (ht : cur.toList.take xs.length = xs.map enc) : Sort.Holds enc w g 0 xs.toArray := by
  intro j hj
  have hj' : j < xs.length := by simpa using hj
  refine ⟨?_, by simp [World.frozen?, hb]⟩
  have h1 : (cur.toList.take xs.length)[j]? = (xs.map enc)[j]? := by rw [ht]
  rw [List.getElem?_take_of_lt hj'] at h1
  simp only [World.cell?, hb, Nat.zero_add]
  simp only [Option.isSome_none, Bool.false_eq_true, if_false]
  rw [← Array.getElem?_toList, h1]
  simp [hj']
theorem heap_sortedE {w : World} {g n : Nat} {os : Array Obj} {cur : Array Value} {e : TypeId} {fr : Nat × Nat} (d : Array α) (hb : w.heap[g]? = some (.cells cur e fr)) :
    (sortWorld enc w g 0 n d os).heap[g]? = some (.cells (Sort.putCells enc 0 d cur) e fr) := by
  have hg : g < w.heap.size := (Array.getElem?_eq_some_iff.1 hb).1
  unfold sortWorld
  rw [Sort.heap_grow_old _ _ (by simpa using hg)]
  simp [Sort.putRow, Sort.mapBlock, Sort.ahead, Array.getElem?_modify, hb, Sort.onCells]
theorem grownBy_sortedE {w : World} {g n : Nat} {os : Array Obj} (d : Array α) : w.grownBy (sortWorld enc w g 0 n d os) (some g) := by
  unfold sortWorld
  refine ⟨rfl, rfl, rfl, by simp, fun k hk hne => ?_⟩
  rw [Sort.heap_grow_old _ _ (by simpa using hk)]
  have : g ≠ k := fun e => hne (by rw [e])
  simp [Sort.putRow, Sort.mapBlock, Sort.ahead, Array.getElem?_modify, this]
theorem take_putCellsE (cur : Array Value) (ts : List α) (h : ts.length ≤ cur.size) : (Sort.putCells enc 0 ts.toArray cur).toList.take ts.length = ts.map enc := by
  apply List.ext_getElem?
  intro j
  by_cases hj : j < ts.length
  · rw [List.getElem?_take_of_lt hj, Array.getElem?_toList]
    simp [Sort.putCells, hj, show j < cur.size by omega]
  · rw [List.getElem?_take_eq_none (by omega), List.getElem?_eq_none (by simp; omega)]
end

/-- The parts' values, each owned. -/
def OwE (w : World) (base : Nat) (vs : List Value) (ls : List (List UInt8)) : Prop := vs.length = ls.length ∧ ∀ j, j < ls.length → OwB w base 5 (vs.getD j undef) (ls.getD j [])
theorem OwE.nil_ (w : World) (base : Nat) : OwE w base [] [] := ⟨rfl, fun j hj => absurd hj (by simp)⟩
theorem OwE.below {w w' : World} {base : Nat} {vs : List Value} {ls : List (List UInt8)} (h : OwE w base vs ls) (hb : Below w.heap.size w w') : OwE w' base vs ls := ⟨h.1, fun j hj => (h.2 j hj).below hb⟩
theorem OwE.alloc {w : World} {base : Nat} {vs : List Value} {ls : List (List UInt8)} (h : OwE w base vs ls) (o : Obj) : OwE (w.alloc o) base vs ls := ⟨h.1, fun j hj => (h.2 j hj).alloc o⟩
theorem OwE.snoc {w : World} {base : Nat} {vs : List Value} {r : List (List UInt8)} {u : Value} {l : List UInt8} (h : OwE w base vs r) (hu : OwB w base 5 u l) : OwE w base (vs ++ [u]) (r ++ [l]) := by
  refine ⟨by simp [h.1], fun j hj => ?_⟩
  have hj' : j < r.length + 1 := by simpa using hj
  rcases Nat.lt_or_ge j r.length with h1 | h1
  · have := h.2 j h1
    simpa [List.getD, List.getElem?_append_left h1, List.getElem?_append_left (show j < vs.length by rw [h.1]; exact h1)] using this
  · obtain rfl : j = r.length := by omega
    have h2 : (vs ++ [u])[r.length]? = some u := by rw [← h.1]; simp
    simpa [List.getD, h2] using hu
/-- A part's block is none of the row's. -/
theorem OwB.keepNe {w w' : World} {base b2 n : Nat} {v o : Value} {l : List UInt8} {vs : List Value} (h : OwB w base 5 v l) (ho : w.ownsRow b2 30 1 o n vs) (hg : w.grownBy w' o.ownBlock) : OwB w' base 5 v l := by
  refine ⟨h.1, ?_⟩
  rcases h.2 with h0 | ⟨g, cap, cur, hv, hb, hh, h1, h2, h3, h4⟩
  · exact .inl h0
  · refine .inr ⟨g, cap, cur, hv, hb, ?_, h1, h2, h3, h4⟩
    have hlt : g < w.heap.size := (Array.getElem?_eq_some_iff.1 hh).1
    rw [hg.block g hlt ?_]
    · exact hh
    · intro he
      rcases ho.2 with ⟨rfl, _⟩ | ⟨g', cap', cur', rfl, _, hh', _⟩
      · cases he
      · simp only [Value.ownBlock, Option.some.injEq] at he
        subst he
        rw [hh] at hh'
        injection hh' with hh'
        injection hh' with _ e _
        exact absurd e (by decide)
theorem OwE.keepNe {w w' : World} {base b2 n : Nat} {o : Value} {ls : List (List UInt8)} {us vs : List Value} (h : OwE w base us ls) (ho : w.ownsRow b2 30 1 o n vs) (hg : w.grownBy w' o.ownBlock) : OwE w' base us ls :=
  ⟨h.1, fun j hj => OwB.keepNe (h.2 j hj) ho hg⟩

/-! ### The sort -/
def prt (vs : List Value) (j : Nat) : Value := vs.getD j (.slice none 0 0)
def cfOf (ls : List (List UInt8)) (i j : Nat) : Int := cmpL (ls.getD i []) (ls.getD j [])
theorem swo_cf (ls : List (List UInt8)) : Sort.SWO (ltOf (cfOf ls)) where
  irrefl x := decide_eq_false (cmpL_irrefl _)
  trans x y z h1 h2 := decide_eq_true (cmpL_trans (of_decide_eq_true h1) (of_decide_eq_true h2))
  ntrans x y z h1 h2 := by
    have e1 := of_decide_eq_false h1
    have e2 := of_decide_eq_false h2
    refine decide_eq_false fun h => ?_
    unfold cfOf at *
    rcases cmpL_vals (ls.getD y []) (ls.getD x []) with a | a | a
    · exact e2 (cmpL_trans (by omega) h)
    · rw [cmpL_zero a] at e2; exact e2 h
    · have := cmpL_anti (ls.getD x []) (ls.getD y []); omega
/-- No later one is less than an earlier one. -/
def NonDesc (ls : List (List UInt8)) : Prop := ∀ i j, i < j → j < ls.length → ¬ cmpL (ls.getD j []) (ls.getD i []) < 0
/-- What the sort leaves. -/
def RetSort (o : Value) (base b2 : Nat) (ls : List (List UInt8)) (w : World) (e : Ending) (w' : World) : Prop :=
  e = .returned (.tuple #[]) ∧ ∃ vs' ls', w'.ownsRow base 30 1 o ls.length vs' ∧ OwE w' b2 vs' ls' ∧ ls'.length = ls.length ∧ NonDesc ls' ∧ (∀ x, x ∈ ls' ↔ x ∈ ls) ∧ w.grownBy w' o.ownBlock

theorem OwB.one {w : World} {base : Nat} {v : Value} {l : List UInt8} (h : OwB w base 5 v l) : v.cells = #[v] ∧ v.oneCell' = true := by
  rcases h.2 with ⟨rfl, _⟩ | ⟨g, cap, cur, rfl, _⟩ <;> exact ⟨rfl, rfl⟩

set_option maxRecDepth 100000 in
theorem sort_own (o : Value) (base b2 : Nat) (vs : List Value) (ls : List (List UInt8)) (w : World) (hrow : w.ownsRow base 30 1 o ls.length vs) (hel : OwE w b2 vs ls) (hn : ls.length ≤ 1000000) :
    Calls Try.prog 41 #[o, .func (.func 42) #[] #[]] w (RetSort o base b2 ls w) := by
  by_cases h0 : ls.length = 0
  · obtain ⟨p, cap, rfl⟩ : ∃ p cap, o = .slice p 0 cap := by
      rcases hrow.2 with ⟨rfl, _⟩ | ⟨g, cap, cur, rfl, _⟩
      · exact ⟨none, 0, rfl⟩
      · rw [h0]; exact ⟨_, _, rfl⟩
    have hc := AnyF.slices_SortFunc_none (P := Try.prog) (ρ := Try.sortL_ren) { Try.sortL with } p cap (.func (.func 42) #[] #[]) w
    change Calls Try.prog 41 _ _ _ at hc
    refine hc.mono fun e w' ⟨he, hw⟩ => ?_
    subst hw
    exact ⟨he, vs, ls, hrow, hel, rfl, fun i j hij hj => absurd hj (by omega), fun _ => Iff.rfl, World.grownBy.refl _ _⟩
  · rcases hrow.2 with ⟨_, hz⟩ | ⟨g, cap, cur, ho, hb, hh, hnc, hcm, hcs, htk⟩
    · exact absurd hz h0
    subst ho
    have hlt : g < w.heap.size := (Array.getElem?_eq_some_iff.1 hh).1
    have hvl : vs.length = ls.length := hel.1
    have hmap : (List.range ls.length).map (prt vs) = vs := by
      apply List.ext_getElem?
      intro j
      by_cases hj : j < ls.length
      · simp [prt, hj, show j < vs.length by omega, List.getD]
      · simp [hj, show vs.length ≤ j by omega]
    have hH : Sort.Holds (prt vs) w g 0 (List.range ls.length).toArray := holds_own (prt vs) hh (by rw [List.length_range, hmap]; simpa using htk)
    have hsize : (List.range ls.length).toArray.size = ls.length := by simp
    have hgr : ∀ m os (dk : Array Nat), w.grownBy (sortWorld (prt vs) w g 0 m dk os) (Value.slice (some ⟨g, 0, none⟩) ls.length cap).ownBlock := fun m os dk => grownBy_sortedE (prt vs) dk
    have hprt : ∀ (W : World), OwE W b2 vs ls → ∀ x, IsB W (prt vs x) (ls.getD x []) := by
      intro W hW x
      rcases Nat.lt_or_ge x ls.length with hx | hx
      · have h1 := (hW.2 x hx).isB
        have h2 : prt vs x = vs.getD x undef := by unfold prt; simp [List.getD, show x < vs.length by omega]
        rw [h2]; exact h1
      · have h2 : prt vs x = .slice none 0 0 := by unfold prt; simp [List.getD, show vs.length ≤ x by omega]
        have h3 : ls.getD x [] = [] := by simp [List.getD, hx]
        rw [h2, h3]; exact IsB.none_ _
    have hcmp : CmpLays1 Try.prog 42 #[] (prt vs) (cfOf ls) g 0 (List.range ls.length).toArray.size w := by
      refine CmpReads.lays (fun m os dk _ x y => ?_)
      have hW := OwE.keepNe hel hrow (hgr m os dk)
      exact (pCompare _ _ _ _ _ (hprt _ hW x) (hprt _ hW y)).mono fun e w' ⟨he, hw⟩ => ⟨he, 0, by rw [hw]; rfl⟩
    have hone : OneCell (prt vs) := fun x => by
      rcases Nat.lt_or_ge x ls.length with hx | hx
      · have h2 : prt vs x = vs.getD x undef := by unfold prt; simp [List.getD, show x < vs.length by omega]
        rw [h2]; exact (OwB.one (hel.2 x hx)).2
      · have h2 : prt vs x = .slice none 0 0 := by unfold prt; simp [List.getD, show vs.length ≤ x by omega]
        rw [h2]; rfl
    have hc := Any.slices_SortFunc Try.sortL (prt vs) hone (cfOf ls) (swo_cf ls) 42 #[] g 0 cap (List.range ls.length).toArray w (enters_of Try.func42 (by kernel_rfl) rfl) hcmp hH hlt (by rw [hsize]; omega)
    change Calls Try.prog 41 _ _ _ at hc
    rw [hsize] at hc
    refine hc.mono fun e w' ⟨he, d', n, os, hp, hs, hw⟩ => ?_
    subst hw
    have hds : d'.size = ls.length := by rw [hp.1, hsize]
    have hperm : d'.toList.Perm (List.range ls.length) := by
      have e0 := hp.2.2
      have e1 : d'.extract 0 ls.length = d' := by rw [← hds]; exact Array.extract_size
      have e2 : (List.range ls.length).toArray.extract 0 ls.length = (List.range ls.length).toArray := by
        have h := Array.extract_size (xs := (List.range ls.length).toArray)
        rwa [hsize] at h
      rw [e1, e2] at e0
      simpa using e0
    have hmem : ∀ j ∈ d'.toList, j < ls.length := fun j hj => List.mem_range.1 (hperm.mem_iff.1 hj)
    have hat : ∀ j (hj : j < ls.length), ∃ x, d'[j]! = x ∧ d'.toList[j]? = some x ∧ x < ls.length := fun j hj => by
      have h1 : d'.toList[j]? = some d'[j]! := by rw [Array.getElem?_toList, getElem!_pos d' j (by omega)]; simp [show j < d'.size by omega]
      exact ⟨_, rfl, h1, hmem _ (List.mem_of_getElem? h1)⟩
    have hls : ∀ j (hj : j < ls.length), (d'.toList.map fun x => ls.getD x []).getD j [] = ls.getD d'[j]! [] := fun j hj => by
      obtain ⟨x, h1, h2, h3⟩ := hat j hj
      simp only [List.getD, List.getElem?_map, h2, h1, Option.map_some, Option.getD_some]
    have hvs : ∀ j (hj : j < ls.length), (d'.toList.map (prt vs)).getD j undef = vs.getD d'[j]! undef := fun j hj => by
      obtain ⟨x, h1, h2, h3⟩ := hat j hj
      simp only [List.getD, List.getElem?_map, h2, h1, Option.map_some, Option.getD_some, prt]
      simp [show x < vs.length by omega]
    have hW := OwE.keepNe hel hrow (hgr n os d')
    refine ⟨he, d'.toList.map (prt vs), d'.toList.map fun x => ls.getD x [], ?_, ⟨by simp, fun j hj => ?_⟩, by simp [hds], fun i j hij hj => ?_, fun x => ?_, hgr n os d'⟩
    · refine ⟨by simp [hds], .inr ⟨g, cap, _, rfl, hb, heap_sortedE (prt vs) d' hh, hnc, hcm, by simp [Sort.putCells, hcs], ?_⟩⟩
      have := take_putCellsE (prt vs) cur d'.toList (by simp [hds, hcs]; omega)
      simpa [hds] using this
    · have hj' : j < ls.length := by simpa [hds] using hj
      rw [hls j hj', hvs j hj']
      obtain ⟨x, h1, h2, h3⟩ := hat j hj'
      rw [h1]; exact hW.2 x h3
    · have hj' : j < ls.length := by simpa [hds] using hj
      rw [hls j hj', hls i (by omega)]
      exact of_decide_eq_false (hs i j (Nat.zero_le _) hij hj')
    · constructor
      · intro hx
        obtain ⟨j, hj, rfl⟩ := List.mem_map.1 hx
        exact getD_mem (hmem j hj)
      · intro hx
        obtain ⟨j, hj, rfl⟩ := List.mem_iff_getElem.1 hx
        refine List.mem_map.2 ⟨j, hperm.mem_iff.2 (List.mem_range.2 hj), by simp [List.getD, hj]⟩
end Go.Proofs.Ytecbphbnacbepaa
