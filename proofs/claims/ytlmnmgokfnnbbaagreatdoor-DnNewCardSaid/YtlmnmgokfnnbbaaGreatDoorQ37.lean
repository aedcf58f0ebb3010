/- The parts SortKit, Comp, CompB, Sorted of one proof, one behind the other. -/
import Derived.Test.YtlmnmgokfnnbbaaGreatDoorQ05
import Derived.Test.YtlmnmgokfnnbbaaGreatDoorQ01
import Derived.Test.YtlmnmgokfnnbbaaGreatDoorQ36
import Derived.Sort.OwnSorted
import Derived.Lib.SliceRun
import Derived.BigQuiet

/- Own rows of own parts, and the library's sort on them. -/
section
set_option linter.unusedSimpArgs false
set_option linter.unusedVariables false
namespace Go.Proofs.YtlmnmgokfnnbbaaGreatDoor
open Go.RowKit Go.Cr
section
variable {α : Type} [Inhabited α] (enc : α → Value)
theorem holds_own {w : World} {g : Nat} {cur : Array Value} {e : TypeId} {xs : List α} (hb : w.heap[g]? = some (.cells cur e (0, 0))) (ht : cur.toList.take xs.length = xs.map enc) : Sort.Holds enc w g 0 xs.toArray := by
  intro j hj
  have hj' : j < xs.length := by simpa using hj
  refine ⟨?_, by simp [World.frozen?, hb]⟩
  have h1 : (cur.toList.take xs.length)[j]? = (xs.map enc)[j]? := by rw [ht]
  rw [List.getElem?_take_of_lt hj'] at h1
  simp only [World.cell?, hb, Nat.zero_add]
  simp only [Option.isSome_none, Bool.false_eq_true, if_false]
  rw [← Array.getElem?_toList, h1]
  simp [hj']
theorem heap_sortedE {w : World} {g n : Nat} {os : Array Obj} {cur : Array Value} {e : TypeId} {fr : Nat × Nat} (d : Array α) (hb : w.heap[g]? = some (.cells cur e fr)) :
    (sortWorld enc w g 0 n d os).heap[g]? = some (.cells (Sort.putCells enc 0 d cur) e fr) := by
  have hg : g < w.heap.size := (Array.getElem?_eq_some_iff.1 hb).1
  unfold sortWorld
  rw [Sort.heap_grow_old _ _ (by simpa using hg)]
  simp [Sort.putRow, Sort.mapBlock, Sort.ahead, Array.getElem?_modify, hb, Sort.onCells]
theorem grownBy_sortedE {w : World} {g n : Nat} {os : Array Obj} (d : Array α) : w.grownBy (sortWorld enc w g 0 n d os) (some g) := by
  unfold sortWorld
  refine ⟨rfl, rfl, rfl, by simp, fun k hk hne => ?_⟩
  rw [Sort.heap_grow_old _ _ (by simpa using hk)]
  have : g ≠ k := fun e => hne (by rw [e])
  simp [Sort.putRow, Sort.mapBlock, Sort.ahead, Array.getElem?_modify, this]
theorem take_putCellsE (cur : Array Value) (ts : List α) (h : ts.length ≤ cur.size) : (Sort.putCells enc 0 ts.toArray cur).toList.take ts.length = ts.map enc := by
  apply List.ext_getElem?
  intro j
  by_cases hj : j < ts.length
  · rw [List.getElem?_take_of_lt hj, Array.getElem?_toList]
    simp [Sort.putCells, hj, show j < cur.size by omega]
  · rw [List.getElem?_take_eq_none (by omega), List.getElem?_eq_none (by simp; omega)]
end
def OwE (w : World) (base : Nat) (vs : List Value) (ls : List (List UInt8)) : Prop := vs.length = ls.length ∧ ∀ j, j < ls.length → OwB w base 5 (vs.getD j undef) (ls.getD j [])
theorem OwE.nil_ (w : World) (base : Nat) : OwE w base [] [] := ⟨rfl, fun j hj => absurd hj (by simp)⟩
theorem OwE.below {w w' : World} {base : Nat} {vs : List Value} {ls : List (List UInt8)} (h : OwE w base vs ls) (hb : Below w.heap.size w w') : OwE w' base vs ls := ⟨h.1, fun j hj => (h.2 j hj).below hb⟩
theorem OwE.alloc {w : World} {base : Nat} {vs : List Value} {ls : List (List UInt8)} (h : OwE w base vs ls) (o : Obj) : OwE (w.alloc o) base vs ls := ⟨h.1, fun j hj => (h.2 j hj).alloc o⟩
theorem OwE.snoc {w : World} {base : Nat} {vs : List Value} {r : List (List UInt8)} {u : Value} {l : List UInt8} (h : OwE w base vs r) (hu : OwB w base 5 u l) : OwE w base (vs ++ [u]) (r ++ [l]) := by
  refine ⟨by simp [h.1], fun j hj => ?_⟩
  have hj' : j < r.length + 1 := by simpa using hj
  rcases Nat.lt_or_ge j r.length with h1 | h1
  · have := h.2 j h1
    simpa [List.getD, List.getElem?_append_left h1, List.getElem?_append_left (show j < vs.length by rw [h.1]; exact h1)] using this
  · obtain rfl : j = r.length := by omega
    have h2 : (vs ++ [u])[r.length]? = some u := by rw [← h.1]; simp
    simpa [List.getD, h2] using hu
theorem OwB.keepNe {w w' : World} {base b2 n : Nat} {v o : Value} {l : List UInt8} {vs : List Value} (h : OwB w base 5 v l) (ho : w.ownsRow b2 33 1 o n vs) (hg : w.grownBy w' o.ownBlock) : OwB w' base 5 v l := by
  refine ⟨h.1, ?_⟩
  rcases h.2 with h0 | ⟨g, cap, cur, hv, hb, hh, h1, h2, h3, h4⟩
  · exact .inl h0
  · refine .inr ⟨g, cap, cur, hv, hb, ?_, h1, h2, h3, h4⟩
    have hlt : g < w.heap.size := (Array.getElem?_eq_some_iff.1 hh).1
    rw [hg.block g hlt ?_]
    · exact hh
    · intro he
      rcases ho.2 with ⟨rfl, _⟩ | ⟨g', cap', cur', rfl, _, hh', _⟩
      · cases he
      · simp only [Value.ownBlock, Option.some.injEq] at he
        subst he
        rw [hh] at hh'
        injection hh' with hh'
        injection hh' with _ e _
        exact absurd e (by decide)
theorem OwE.keepNe {w w' : World} {base b2 n : Nat} {o : Value} {ls : List (List UInt8)} {us vs : List Value} (h : OwE w base us ls) (ho : w.ownsRow b2 33 1 o n vs) (hg : w.grownBy w' o.ownBlock) : OwE w' base us ls :=
  ⟨h.1, fun j hj => OwB.keepNe (h.2 j hj) ho hg⟩

/-! ### The sort -/
def prt (vs : List Value) (j : Nat) : Value := vs.getD j (.slice none 0 0)
def cfOf (ls : List (List UInt8)) (i j : Nat) : Int := cmpL (ls.getD i []) (ls.getD j [])
theorem swo_cf (ls : List (List UInt8)) : Sort.SWO (ltOf (cfOf ls)) where
  irrefl x := decide_eq_false (cmpL_irrefl _)
  trans x y z h1 h2 := decide_eq_true (cmpL_trans (of_decide_eq_true h1) (of_decide_eq_true h2))
  ntrans x y z h1 h2 := by
    have e1 := of_decide_eq_false h1
    have e2 := of_decide_eq_false h2
    refine decide_eq_false fun h => ?_
    unfold cfOf at *
    rcases cmpL_vals (ls.getD y []) (ls.getD x []) with a | a | a
    · exact e2 (cmpL_trans (by omega) h)
    · rw [cmpL_zero a] at e2; exact e2 h
    · have := cmpL_anti (ls.getD x []) (ls.getD y []); omega
def NonDesc (ls : List (List UInt8)) : Prop := ∀ i j, i < j → j < ls.length → ¬ cmpL (ls.getD j []) (ls.getD i []) < 0
def RetSort (o : Value) (base b2 : Nat) (ls : List (List UInt8)) (w : World) (e : Ending) (w' : World) : Prop :=
  e = .returned (.tuple #[]) ∧ ∃ vs' ls', w'.ownsRow base 33 1 o ls.length vs' ∧ OwE w' b2 vs' ls' ∧ ls'.length = ls.length ∧ NonDesc ls' ∧ (∀ x, x ∈ ls' ↔ x ∈ ls) ∧ w.grownBy w' o.ownBlock

theorem OwB.one {w : World} {base : Nat} {v : Value} {l : List UInt8} (h : OwB w base 5 v l) : v.cells = #[v] ∧ v.oneCell' = true := by
  rcases h.2 with ⟨rfl, _⟩ | ⟨g, cap, cur, rfl, _⟩ <;> exact ⟨rfl, rfl⟩

set_option maxRecDepth 100000 in
theorem sort_own (o : Value) (base b2 : Nat) (vs : List Value) (ls : List (List UInt8)) (w : World) (hrow : w.ownsRow base 33 1 o ls.length vs) (hel : OwE w b2 vs ls) (hn : ls.length ≤ 1000000) :
    Calls Tryz.prog 101 #[o, .func (.func 93) #[] #[]] w (RetSort o base b2 ls w) := by
  by_cases h0 : ls.length = 0
  · obtain ⟨p, cap, rfl⟩ : ∃ p cap, o = .slice p 0 cap := by
      rcases hrow.2 with ⟨rfl, _⟩ | ⟨g, cap, cur, rfl, _⟩
      · exact ⟨none, 0, rfl⟩
      · rw [h0]; exact ⟨_, _, rfl⟩
    have hc := AnyF.slices_SortFunc_none (P := Tryz.prog) (ρ := Tryz.sortL_ren) { Tryz.sortL with } p cap (.func (.func 93) #[] #[]) w
    change Calls Tryz.prog 101 _ _ _ at hc
    refine hc.mono fun e w' ⟨he, hw⟩ => ?_
    subst hw
    exact ⟨he, vs, ls, hrow, hel, rfl, fun i j hij hj => absurd hj (by omega), fun _ => Iff.rfl, World.grownBy.refl _ _⟩
  · rcases hrow.2 with ⟨_, hz⟩ | ⟨g, cap, cur, ho, hb, hh, hnc, hcm, hcs, htk⟩
    · exact absurd hz h0
    subst ho
    have hlt : g < w.heap.size := (Array.getElem?_eq_some_iff.1 hh).1
    have hvl : vs.length = ls.length := hel.1
    have hmap : (List.range ls.length).map (prt vs) = vs := by
      apply List.ext_getElem?
      intro j
      by_cases hj : j < ls.length
      · simp [prt, hj, show j < vs.length by omega, List.getD]
      · simp [hj, show vs.length ≤ j by omega]
    have hH : Sort.Holds (prt vs) w g 0 (List.range ls.length).toArray := holds_own (prt vs) hh (by rw [List.length_range, hmap]; simpa using htk)
    have hsize : (List.range ls.length).toArray.size = ls.length := by simp
    have hgr : ∀ m os (dk : Array Nat), w.grownBy (sortWorld (prt vs) w g 0 m dk os) (Value.slice (some ⟨g, 0, none⟩) ls.length cap).ownBlock := fun m os dk => grownBy_sortedE (prt vs) dk
    have hprt : ∀ (W : World), OwE W b2 vs ls → ∀ x, IsB W (prt vs x) (ls.getD x []) := by
      intro W hW x
      rcases Nat.lt_or_ge x ls.length with hx | hx
      · have h1 := (hW.2 x hx).isB
        have h2 : prt vs x = vs.getD x undef := by unfold prt; simp [List.getD, show x < vs.length by omega]
        rw [h2]; exact h1
      · have h2 : prt vs x = .slice none 0 0 := by unfold prt; simp [List.getD, show vs.length ≤ x by omega]
        have h3 : ls.getD x [] = [] := by simp [List.getD, hx]
        rw [h2, h3]; exact IsB.none_ _
    have hcmp : CmpLays1 Tryz.prog 93 #[] (prt vs) (cfOf ls) g 0 (List.range ls.length).toArray.size w := by
      refine CmpReads.lays (fun m os dk _ x y => ?_)
      have hW := OwE.keepNe hel hrow (hgr m os dk)
      exact (pCompare _ _ _ _ _ (hprt _ hW x) (hprt _ hW y)).mono fun e w' ⟨he, hw⟩ => ⟨he, 0, by rw [hw]; rfl⟩
    have hone : OneCell (prt vs) := fun x => by
      rcases Nat.lt_or_ge x ls.length with hx | hx
      · have h2 : prt vs x = vs.getD x undef := by unfold prt; simp [List.getD, show x < vs.length by omega]
        rw [h2]; exact (OwB.one (hel.2 x hx)).2
      · have h2 : prt vs x = .slice none 0 0 := by unfold prt; simp [List.getD, show vs.length ≤ x by omega]
        rw [h2]; rfl
    have hc := Any.slices_SortFunc Tryz.sortL (prt vs) hone (cfOf ls) (swo_cf ls) 93 #[] g 0 cap (List.range ls.length).toArray w (enters_of Tryz.func93 (by kernel_rfl) rfl) hcmp hH hlt (by rw [hsize]; omega)
    change Calls Tryz.prog 101 _ _ _ at hc
    rw [hsize] at hc
    refine hc.mono fun e w' ⟨he, d', n, os, hp, hs, hw⟩ => ?_
    subst hw
    have hds : d'.size = ls.length := by rw [hp.1, hsize]
    have hperm : d'.toList.Perm (List.range ls.length) := by
      have e0 := hp.2.2
      have e1 : d'.extract 0 ls.length = d' := by rw [← hds]; exact Array.extract_size
      have e2 : (List.range ls.length).toArray.extract 0 ls.length = (List.range ls.length).toArray := by
        have h := Array.extract_size (xs := (List.range ls.length).toArray)
        rwa [hsize] at h
      rw [e1, e2] at e0
      simpa using e0
    have hmem : ∀ j ∈ d'.toList, j < ls.length := fun j hj => List.mem_range.1 (hperm.mem_iff.1 hj)
    have hat : ∀ j (hj : j < ls.length), ∃ x, d'[j]! = x ∧ d'.toList[j]? = some x ∧ x < ls.length := fun j hj => by
      have h1 : d'.toList[j]? = some d'[j]! := by rw [Array.getElem?_toList, getElem!_pos d' j (by omega)]; simp [show j < d'.size by omega]
      exact ⟨_, rfl, h1, hmem _ (List.mem_of_getElem? h1)⟩
    have hls : ∀ j (hj : j < ls.length), (d'.toList.map fun x => ls.getD x []).getD j [] = ls.getD d'[j]! [] := fun j hj => by
      obtain ⟨x, h1, h2, h3⟩ := hat j hj
      simp only [List.getD, List.getElem?_map, h2, h1, Option.map_some, Option.getD_some]
    have hvs : ∀ j (hj : j < ls.length), (d'.toList.map (prt vs)).getD j undef = vs.getD d'[j]! undef := fun j hj => by
      obtain ⟨x, h1, h2, h3⟩ := hat j hj
      simp only [List.getD, List.getElem?_map, h2, h1, Option.map_some, Option.getD_some, prt]
      simp [show x < vs.length by omega]
    have hW := OwE.keepNe hel hrow (hgr n os d')
    refine ⟨he, d'.toList.map (prt vs), d'.toList.map fun x => ls.getD x [], ?_, ⟨by simp, fun j hj => ?_⟩, by simp [hds], fun i j hij hj => ?_, fun x => ?_, hgr n os d'⟩
    · refine ⟨by simp [hds], .inr ⟨g, cap, _, rfl, hb, heap_sortedE (prt vs) d' hh, hnc, hcm, by simp [Sort.putCells, hcs], ?_⟩⟩
      have := take_putCellsE (prt vs) cur d'.toList (by simp [hds, hcs]; omega)
      simpa [hds] using this
    · have hj' : j < ls.length := by simpa [hds] using hj
      rw [hls j hj', hvs j hj']
      obtain ⟨x, h1, h2, h3⟩ := hat j hj'
      rw [h1]; exact hW.2 x h3
    · have hj' : j < ls.length := by simpa [hds] using hj
      rw [hls j hj', hls i (by omega)]
      exact of_decide_eq_false (hs i j (Nat.zero_le _) hij hj')
    · constructor
      · intro hx
        obtain ⟨j, hj, rfl⟩ := List.mem_map.1 hx
        exact getD_mem (hmem j hj)
      · intro hx
        obtain ⟨j, hj, rfl⟩ := List.mem_iff_getElem.1 hx
        refine List.mem_map.2 ⟨j, hperm.mem_iff.2 (List.mem_range.2 hj), by simp [List.getD, hj]⟩
end Go.Proofs.YtlmnmgokfnnbbaaGreatDoor
end

/- Walks over Clone and over CompactFunc on an own row. -/
section
set_option linter.unusedSimpArgs false
set_option linter.unusedVariables false
namespace Go.Proofs.YtlmnmgokfnnbbaaGreatDoor
open Go.RowKit Go.Cr
def RetComp (o : Value) (base b2 : Nat) (ls : List (List UInt8)) (w : World) (e : Ending) (w' : World) : Prop :=
  ∃ o' r vs', e = .returned o' ∧ SortOf ls r ∧ w'.ownsRow base 33 1 o' r.length vs' ∧ OwE w' b2 vs' r ∧ w.grownBy w' o.ownBlock

theorem nonDesc_last {ls : List (List UInt8)} (h : NonDesc ls) {k : Nat} (hk : k + 1 < ls.length) : cmpL (ls.getD (k + 1) []) (ls.getD k []) = 0 ∨ cmpL (ls.getD k []) (ls.getD (k + 1) []) < 0 := by
  have h1 := h k (k + 1) (by omega) hk
  have h2 := cmpL_anti (ls.getD k []) (ls.getD (k + 1) [])
  rcases cmpL_vals (ls.getD k []) (ls.getD (k + 1) []) with e | e | e <;> omega
theorem asc_of_adj {ls : List (List UInt8)} (h : ∀ j, j + 1 < ls.length → cmpL (ls.getD j []) (ls.getD (j + 1) []) < 0) : Asc ls := (ascB_iff ls).1 (ascB_at.2 h)

structure SameW (w wr : World) : Prop where
  heap : wr.heap = w.heap
  os : wr.os = w.os
  tape : wr.tape = w.tape
  output : wr.output = w.output
theorem SameW.refl (w : World) : SameW w w := ⟨rfl, rfl, rfl, rfl⟩
theorem SameW.drewN {w wr : World} (h : SameW w wr) (q : Nat) : SameW w (wr.drewN q) := ⟨h.heap, h.os, h.tape, h.output⟩
theorem SameW.grown {w wr : World} (h : SameW w wr) (o : Option Nat) : w.grownBy wr o := ⟨h.os, h.tape, h.output, by rw [h.heap]; exact Nat.le_refl _, fun j _ _ => by rw [h.heap]⟩
theorem SameW.row {w wr : World} (h : SameW w wr) {base : Nat} {e : TypeId} {size : Nat} {v : Value} {n : Nat} {xs : List Value} (ho : w.ownsRow base e size v n xs) : wr.ownsRow base e size v n xs := by
  unfold World.ownsRow at *; rw [h.heap]; exact ho
theorem SameW.els {w wr : World} (h : SameW w wr) {b : Nat} {vs : List Value} {ls : List (List UInt8)} (he : OwE w b vs ls) : OwE wr b vs ls := ⟨he.1, fun j hj => h.row (he.2 j hj)⟩
def C1Rel (ls : List (List UInt8)) (w : World) (i : Value) (wr : World) : Prop :=
  ∃ k : Nat, 1 ≤ k ∧ k ≤ ls.length ∧ i = .int .i64 k ∧ (∀ j, j + 1 < k → cmpL (ls.getD j []) (ls.getD (j + 1) []) < 0) ∧ SameW w wr
structure C2 (base b2 g cap : Nat) (vs : List Value) (ls : List (List UInt8)) (w : World) (d m : Nat) (wr : World) : Prop where
  row : ∃ cur, wr.ownsRow base 33 1 (.slice (some ⟨g, 0, none⟩) ls.length cap) ls.length cur ∧ (∀ j, d - 1 ≤ j → j < ls.length → cur.getD j undef = vs.getD j undef) ∧
    ∃ c, OwE wr b2 (cur.take m) c ∧ c.length = m ∧ Asc c ∧ (∀ x, x ∈ c ↔ x ∈ ls.take d) ∧ c.getLastD [] = ls.getD (d - 1) []
  gr : w.grownBy wr (some g)
def C2Rel (base b2 g cap : Nat) (vs : List Value) (ls : List (List UInt8)) (w : World) (k0 : Nat) (i k : Value) (wr : World) : Prop :=
  ∃ kk m : Nat, k = .int .i64 kk ∧ i = .int .i64 m ∧ 1 ≤ kk ∧ k0 + kk ≤ ls.length ∧ 1 ≤ m ∧ m < k0 + kk ∧ C2 base b2 g cap vs ls w (k0 + kk) m wr

theorem mem_take_succ {ls : List (List UInt8)} {d : Nat} (hd : d < ls.length) (x : List UInt8) : x ∈ ls.take (d + 1) ↔ x ∈ ls.take d ∨ x = ls.getD d [] := by
  have e : ls.getD d [] = ls[d] := by simp [List.getD, hd]
  rw [List.take_succ_eq_append_getElem hd, List.mem_append, List.mem_singleton, e]
theorem take_getD {vs : List Value} {m j : Nat} (hj : j < m) : (vs.take m).getD j undef = vs.getD j undef := by simp [List.getD, List.getElem?_take, hj]
theorem OwE.take {w : World} {b : Nat} {vs : List Value} {ls : List (List UInt8)} (h : OwE w b vs ls) (m : Nat) : OwE w b (vs.take m) (ls.take m) := by
  refine ⟨by simp [h.1], fun j hj => ?_⟩
  have hj' : j < m ∧ j < ls.length := by have h1 : j < min m ls.length := by simpa using hj
                                         omega
  rw [take_getD hj'.1, show (ls.take m).getD j [] = ls.getD j [] by simp [List.getD, List.getElem?_take, hj'.1]]
  exact h.2 j hj'.2
theorem C2.start {base b2 g cap : Nat} {vs : List Value} {ls : List (List UInt8)} {w wr : World} {k0 : Nat} (hsw : SameW w wr) (hrow : w.ownsRow base 33 1 (.slice (some ⟨g, 0, none⟩) ls.length cap) ls.length vs) (hel : OwE w b2 vs ls)
    (h1 : 1 ≤ k0) (h2 : k0 < ls.length) (hall : ∀ j, j + 1 < k0 → cmpL (ls.getD j []) (ls.getD (j + 1) []) < 0) (heq : cmpL (ls.getD k0 []) (ls.getD (k0 - 1) []) = 0) :
    C2 base b2 g cap vs ls w (k0 + 1) k0 wr := by
  have e := cmpL_zero heq
  have hlt : (ls.take k0).length = k0 := by simp; omega
  refine ⟨⟨vs, hsw.row hrow, fun j _ _ => rfl, ls.take k0, ?_, hlt, asc_of_adj (fun j hj => ?_), fun x => ?_, ?_⟩, hsw.grown _⟩
  · exact OwE.take (hsw.els hel) k0
  · rw [hlt] at hj
    have a1 : (ls.take k0).getD j [] = ls.getD j [] := by simp [List.getD, List.getElem?_take, show j < k0 by omega]
    have a2 : (ls.take k0).getD (j + 1) [] = ls.getD (j + 1) [] := by simp [List.getD, List.getElem?_take, show j + 1 < k0 by omega]
    rw [a1, a2]; exact hall j hj
  · rw [mem_take_succ h2, e]
    constructor
    · exact .inl
    · rintro (h | h)
      · exact h
      · rw [h]
        have : (ls.take k0).getD (k0 - 1) [] = ls.getD (k0 - 1) [] := by simp [List.getD, List.getElem?_take, show k0 - 1 < k0 by omega]
        rw [← this]; exact getD_mem (by omega)
  · rw [getLastD_at _ (by omega), hlt]
    simp only [Nat.add_sub_cancel]
    rw [e]
    simp [List.getD, List.getElem?_take, show k0 - 1 < k0 by omega]
theorem C2.same {base b2 g cap : Nat} {vs : List Value} {ls : List (List UInt8)} {w : World} {d m q : Nat} {wr : World} (h : C2 base b2 g cap vs ls w d m wr) (h1 : 1 ≤ d) (h2 : d < ls.length) (hm : 1 ≤ m) (heq : cmpL (ls.getD d []) (ls.getD (d - 1) []) = 0) :
    C2 base b2 g cap vs ls w (d + 1) m (wr.drewN q) := by
  have e := cmpL_zero heq
  obtain ⟨⟨cur, a1, a2, c, a3, a4, a5, a6, a7⟩, hg⟩ := h
  refine ⟨⟨cur, a1, fun j hj hjl => a2 j (by omega) hjl, c, a3, a4, a5, fun x => ?_, ?_⟩, ⟨hg.os, hg.tape, hg.output, hg.size, hg.block⟩⟩
  · rw [mem_take_succ h2, a6, e]
    constructor
    · exact .inl
    · rintro (h | h)
      · exact h
      · rw [h, ← a7, ← a6 _]
        rw [getLastD_at _ (by omega)]; exact getD_mem (by omega)
  · rw [a7]; simp only [Nat.add_sub_cancel]; rw [e]
theorem C2.other {base b2 g cap : Nat} {vs : List Value} {ls : List (List UInt8)} {w : World} {d m q : Nat} {wr : World} (h : C2 base b2 g cap vs ls w d m wr) (hel : OwE wr b2 vs ls) (h1 : 1 ≤ d) (h2 : d < ls.length) (hm : m < d) (hlt : cmpL (ls.getD (d - 1) []) (ls.getD d []) < 0) (hm0 : 1 ≤ m) :
    C2 base b2 g cap vs ls w (d + 1) (m + 1) ((wr.setCell ⟨g, m, none⟩ (vs.getD d undef)).drewN q) := by
  obtain ⟨⟨cur, a1, a2, c, a3, a4, a5, a6, a7⟩, hg⟩ := h
  have hst := (World.ownsRow.stored a1 m (vs.getD d undef)).1
  have hgw : wr.grownBy ((wr.setCell ⟨g, m, none⟩ (vs.getD d undef)).drewN q) (some g) := ⟨rfl, rfl, rfl, by simp [World.setCell], fun j hj hne => Below.heap_setCell _ _ _ _ (fun (e : j = g) => hne (by rw [e]))⟩
  have hcl : cur.length = ls.length := by have := a1.1; omega
  have htk : (cur.set m (vs.getD d undef)).take (m + 1) = cur.take m ++ [vs.getD d undef] := by
    rw [List.take_succ_eq_append_getElem (by rw [List.length_set]; omega)]
    rw [List.take_set_of_le (Nat.le_refl m)]
    simp
  refine ⟨⟨cur.set m (vs.getD d undef), hst, fun j hj hjl => ?_, c ++ [ls.getD d []], ?_, by simp [a4], a5.snoc (fun y hy => ?_), fun x => ?_, ?_⟩, ?_⟩
  · have : m ≠ j := by omega
    have h3 := a2 j (by omega) hjl
    rw [← h3]
    simp [List.getD, List.getElem?_set, this]
  · rw [htk]
    exact OwE.snoc (OwE.keepNe a3 a1 hgw) (OwB.keepNe (hel.2 d h2) a1 hgw)
  · rcases a5.last y hy with e | e
    · rw [e, a7]; exact hlt
    · exact cmpL_trans e (by rw [a7]; exact hlt)
  · rw [mem_take_succ h2, List.mem_append, a6]; simp
  · simp
  · exact ⟨hg.os, hg.tape, hg.output, by simpa [World.setCell] using hg.size, fun j hj hne => by
      have hne' : j ≠ g := fun e => hne (by rw [e])
      exact (Below.heap_setCell _ _ _ _ hne').trans (hg.block j hj hne)⟩
end Go.Proofs.YtlmnmgokfnnbbaaGreatDoor
end

/- Walk over CompactFunc on an own row of own parts. -/
section
set_option linter.unusedSimpArgs false
set_option linter.unusedVariables false
namespace Go.Proofs.YtlmnmgokfnnbbaaGreatDoor
open Go.RowKit Go.Cr
section
variable {P : Program} {t e : TypeId} {g off n cap : Nat}
theorem row_len (ht : P.underlying t = some (.slice e)) : ∀ (ty : TypeId) (W : World), (Builtin.len_ #[t] ty #[.slice (some ⟨g, off, none⟩) n cap]).run P W = .ok (.int .i64 n) W := by
  intro ty W; simp [Builtin.len_, run_underlying ht, Builtin.lenOf]; rfl
theorem row_idx (ht : P.underlying t = some (.slice e)) (hs : ∀ W, (sizeOf e).run P W = .ok 1 W) {i : Int} {j : Nat} (h0 : 0 ≤ i) (h1 : i < n) (hj : off + i.toNat = j) :
    ∀ W : World, (Instr.indexAt t (.slice (some ⟨g, off, none⟩) n cap) (.int .i64 i)).run P W = .ok (.pointer (some ⟨g, j, none⟩)) W := by
  intro W
  subst hj
  have hi : (0 ≤ i ∧ i < (n : Int)) := ⟨h0, h1⟩
  simp only [Instr.indexAt, asIntOf, Sem.run_bind, Sem.run_pure, Result.andThen, run_underlying ht, if_pos hi, hs, Nat.mul_one]
  by_cases hz : i.toNat = 0
  · simp [hz, Addr.add]
  · simp [Addr.add, hz]
theorem row_lo (ht : P.underlying t = some (.slice e)) (hs : ∀ W, (sizeOf e).run P W = .ok 1 W) {lo : Int} (h0 : 0 ≤ lo) (h1 : lo < n) (h2 : n ≤ cap) :
    ∀ W : World, (Instr.slice t (.slice (some ⟨g, off, none⟩) n cap) (some (.int .i64 lo)) none none).run P W = .ok (.slice (some ⟨g, off + lo.toNat, none⟩) (n - lo.toNat) (cap - lo.toNat)) W := by
  intro W
  have hi : (0 ≤ lo ∧ lo ≤ (n : Int)) := ⟨h0, by omega⟩
  simp only [Instr.slice, Instr.sliceBounds, Instr.sliceBound, asIntOf, Sem.run_bind, Sem.run_pure, Result.andThen, run_underlying ht, if_pos hi, hs, Nat.mul_one]
  rw [if_neg (by omega)]
  by_cases hz : lo.toNat = 0
  · simp [hz, Addr.add]
  · simp [Addr.add, hz]
theorem row_hi (ht : P.underlying t = some (.slice e)) (hs : ∀ W, (sizeOf e).run P W = .ok 1 W) {hi : Int} (h0 : 0 ≤ hi) (h1 : hi ≤ cap) (h2 : 0 < cap) :
    ∀ W : World, (Instr.slice t (.slice (some ⟨g, off, none⟩) n cap) none (some (.int .i64 hi)) none).run P W = .ok (.slice (some ⟨g, off, none⟩) hi.toNat cap) W := by
  intro W
  have hi1 : (0 ≤ hi ∧ hi ≤ (cap : Int)) := ⟨h0, h1⟩
  simp only [Instr.slice, Instr.sliceBounds, Instr.sliceBound, asIntOf, Sem.run_bind, Sem.run_pure, Result.andThen, run_underlying ht, if_pos hi1, hs, Nat.mul_one]
  simp [Addr.add]
end
theorem setCells_size (b : Nat) : ∀ (vs : List Value) (o : Nat) (w : World), (w.setCells b o vs).heap.size = w.heap.size
  | [], _, _ => rfl
  | v :: r, o, w => by rw [World.setCells, setCells_size b r]; simp [World.setCell]
theorem setCells_tape (b : Nat) : ∀ (vs : List Value) (o : Nat) (w : World), (w.setCells b o vs).tape = w.tape
  | [], _, _ => rfl
  | v :: r, o, w => by rw [World.setCells, setCells_tape b r]; rfl
theorem setCells_os (b : Nat) : ∀ (vs : List Value) (o : Nat) (w : World), (w.setCells b o vs).os = w.os
  | [], _, _ => rfl
  | v :: r, o, w => by rw [World.setCells, setCells_os b r]; rfl
theorem setCells_output (b : Nat) : ∀ (vs : List Value) (o : Nat) (w : World), (w.setCells b o vs).output = w.output
  | [], _, _ => rfl
  | v :: r, o, w => by rw [World.setCells, setCells_output b r]; rfl
theorem setCells_heap (b : Nat) : ∀ (vs : List Value) (o : Nat) (w : World) (j : Nat), j ≠ b → (w.setCells b o vs).heap[j]? = w.heap[j]?
  | [], _, _, _, _ => rfl
  | v :: r, o, w, j, h => by rw [World.setCells, setCells_heap b r (o + 1) _ j h]; exact Below.heap_setCell _ _ _ _ h
theorem setCells_own (g : Nat) (t : TypeId) : ∀ (zs : List Value) (o : Nat) (w : World) (cur : Array Value), w.heap[g]? = some (.cells cur t (0, 0)) →
    ∃ cur', (w.setCells g o zs).heap[g]? = some (.cells cur' t (0, 0)) ∧ cur'.size = cur.size ∧ ∀ m, m ≤ o → cur'.toList.take m = cur.toList.take m
  | [], _, _, cur, h => ⟨cur, h, rfl, fun _ _ => rfl⟩
  | z :: zs, o, w, cur, h => by
    obtain ⟨cur', h1, h2, h3⟩ := setCells_own g t zs (o + 1) (w.setCell ⟨g, o, none⟩ z) _ (heap_setCell_same w g o cur t z h)
    refine ⟨cur', h1, by simpa using h2, fun m hm => ?_⟩
    rw [h3 m (by omega), Array.toList_setIfInBounds, List.take_set_of_le hm]
theorem C2.clear {base b2 g cap : Nat} {vs : List Value} {ls : List (List UInt8)} {w : World} {m : Nat} {wr : World} (h : C2 base b2 g cap vs ls w ls.length m wr) (hm : m < ls.length) (hm1 : 1 ≤ m) (hlt : g < w.heap.size) (zs : List Value) :
    RetComp (.slice (some ⟨g, 0, none⟩) ls.length cap) base b2 ls w (.returned (.slice (some ⟨g, 0, none⟩) m cap)) (wr.setCells g m zs) := by
  obtain ⟨⟨cur, a1, a2, c, a3, a4, a5, a6, a7⟩, hg⟩ := h
  have hgz : wr.grownBy (wr.setCells g m zs) (some g) := ⟨setCells_os _ _ _ _, setCells_tape _ _ _ _, setCells_output _ _ _ _, by rw [setCells_size]; exact Nat.le_refl _, fun j hj hne => setCells_heap _ _ _ _ _ (fun (e : j = g) => hne (by rw [e]))⟩
  have hcl : cur.length = ls.length := by have := a1.1; omega
  refine ⟨_, c, cur.take m, rfl, ⟨a5, fun x => by rw [a6, List.take_length]⟩, ?_, OwE.keepNe a3 a1 hgz, World.grownBy.trans hg hgz⟩
  rcases a1.2 with ⟨h0, _⟩ | ⟨g', cap', cur', h0, hbs, hh, h1, h2, h3, h4⟩
  · cases h0
  · injection h0 with h00 _ h02
    injection h00 with h00
    injection h00 with h00
    subst h02
    subst h00
    obtain ⟨cur2, e1, e2, e3⟩ := setCells_own g _ zs m wr cur' hh
    rw [a4]
    refine ⟨by simp; omega, .inr ⟨g, cap, cur2, rfl, hbs, e1, by omega, h2, by rw [e2]; exact h3, ?_⟩⟩
    rw [Nat.mul_one, e3 m (Nat.le_refl m), ← h4, List.take_take, Nat.mul_one, Nat.min_eq_left (by omega)]

set_option maxRecDepth 100000 in
set_option maxHeartbeats 8000000 in
theorem compact_own (g cap base b2 : Nat) (vs : List Value) (ls : List (List UInt8)) (w : World) (hrow : w.ownsRow base 33 1 (.slice (some ⟨g, 0, none⟩) ls.length cap) ls.length vs) (hel : OwE w b2 vs ls) (hs : NonDesc ls) (hn : ls.length ≤ 1000000) :
    Calls Tryz.prog 102 #[.slice (some ⟨g, 0, none⟩) ls.length cap, .func (.func 103) #[] #[]] w (RetComp (.slice (some ⟨g, 0, none⟩) ls.length cap) base b2 ls w) := by
  have hlt : g < w.heap.size := hrow.lt g rfl |>.2
  have hnc : ls.length ≤ cap := by
    rcases hrow.2 with ⟨h0, _⟩ | ⟨g', cap', cur', h0, _, _, h1, h2, _⟩
    · cases h0
    · injection h0 with _ _ h0; subst h0; exact h1
  have HROW := Lib.hid hrow
  have HEL := Lib.hid hel
  have HS := Lib.hid hs
  have hvl : vs.length = ls.length := hel.1
  have hend : Hid (∀ W, SameW w W → (∀ j, j + 1 < ls.length → cmpL (ls.getD j []) (ls.getD (j + 1) []) < 0) → RetComp (.slice (some ⟨g, 0, none⟩) ls.length cap) base b2 ls w (.returned (.slice (some ⟨g, 0, none⟩) ls.length cap)) W) := by
    intro W hW hall
    exact ⟨_, ls, vs, rfl, ⟨asc_of_adj hall, fun x => Iff.rfl⟩, hW.row hrow, hW.els hel, hW.grown _⟩
  have hclr : Hid (∀ m wr, C2 base b2 g cap vs ls w ls.length m wr → 1 ≤ m → m < ls.length → RetComp (.slice (some ⟨g, 0, none⟩) ls.length cap) base b2 ls w (.returned (.slice (some ⟨g, 0, none⟩) m cap)) (wr.setCells g m (List.replicate (ls.length - m) (.slice none 0 0)))) := fun m wr h h1 h2 => h.clear h2 h1 hlt _
  have hlen := row_len (P := Tryz.prog) (g := g) (off := 0) (n := ls.length) (cap := cap) ulBs
  have Hidx := Lib.hid (fun (i : Int) (j : Nat) h0 h1 hj => row_idx (P := Tryz.prog) (g := g) (off := 0) (n := ls.length) (cap := cap) (i := i) (j := j) ulBs szBs h0 h1 hj)
  have Hlo := Lib.hid (fun (lo : Int) h0 h1 => row_lo (P := Tryz.prog) (g := g) (off := 0) (n := ls.length) (cap := cap) (lo := lo) ulBs szBs h0 h1 hnc)
  have Hhi := Lib.hid (fun (hi : Int) h0 h1 h2 => row_hi (P := Tryz.prog) (g := g) (off := 0) (n := ls.length) (cap := cap) (hi := hi) ulBs szBs h0 h1 h2)
  clear hrow hel hs
  obtain ⟨o, ho⟩ : ∃ o, Value.slice (some ⟨g, 0, none⟩) ls.length cap = o := ⟨_, rfl⟩
  have HO := Lib.hid ho
  rw [ho] at hend hclr hlen Hidx Hlo Hhi ⊢
  clear ho
  go_enter Tryz.func102, Tryz.ntmps102
  by_cases h2 : (ls.length : Int) < 2
  · go_wp2
    refine bodyPost_ret (v := o) (by simp only [results, Tryz.results102]; go_simp) rfl (hend.out _ (SameW.refl _) (fun j hj => absurd hj (by omega)))
  · go_wp2
    go_loopw [5] (fun i wr => C1Rel ls w i wr) (fun i _ => ls.length - (intOf i).toNat)
    case atStart => exact ⟨1, by omega, by omega, rfl, fun j hj => absurd hj (by omega), SameW.refl _⟩
    case round =>
      obtain ⟨k, hk1, hkn, rfl, hall, hsw⟩ := hrel
      have HSW := Lib.hid hsw
      by_cases hlk : (k : Int) < ls.length
      · have hidx1 := Hidx.out (k : Int) k (by omega) hlk (by omega)
        have hidx2 := Hidx.out ((k : Int) - 1) (k - 1) (by omega) (by omega) (by omega)
        have hat : ∀ j, j < ls.length → wr.cell? ⟨g, j, none⟩ = some (vs.getD j undef) := fun j hj => by
          rw [World.ownsRow.cellAt (hsw.row HROW.out) j (by omega)]; simp [List.getD, show j < vs.length by omega]
        have c1 := hat k (by omega)
        have c2 := hat (k - 1) (by omega)
        have hsub : IntKind.i64.wrap ((k : Int) - 1) = (k : Int) - 1 := IntWalk.i64_in _ (by omega)
        have HC := Lib.hid (fun n => sorted_clo _ _ _ _ (wr.drewN n) (((hsw.els HEL.out).2 k (by omega)).isB.drewN n) (((hsw.els HEL.out).2 (k - 1) (by omega)).isB.drewN n))
        have hcase : cmpL (ls.getD k []) (ls.getD (k - 1) []) = 0 ∨ cmpL (ls.getD (k - 1) []) (ls.getD k []) < 0 := by
          have := nonDesc_last HS.out (k := k - 1) (by omega)
          rwa [show k - 1 + 1 = k by omega] at this
        have HALL := Lib.hid hall
        clear hat hall hsw
        rcases hcase with heq | hne
        · have HST := Lib.hid (fun q => C2.start (w := w) (HSW.out.drewN q) (base := base) (b2 := b2) (vs := vs) (g := g) (cap := cap) (by have := HROW.out; exact this) HEL.out hk1 (by omega) HALL.out heq)
          rw [show decide (cmpL (ls.getD k []) (ls.getD (k - 1) []) = 0) = true from decide_eq_true heq] at HC
          have hlo := Hlo.out (k : Int) (by omega) hlk
          obtain ⟨n2, hn2⟩ : ∃ n2, ls.length = k + n2 := ⟨ls.length - k, by omega⟩
          have hlen2 := row_len (P := Tryz.prog) (g := g) (off := 0 + (k : Int).toNat) (n := ls.length - (k : Int).toNat) (cap := cap - (k : Int).toNat) ulBs
          have Hidx2 := Lib.hid (fun (i : Int) (j : Nat) h0 h1 hj => row_idx (P := Tryz.prog) (g := g) (off := 0 + (k : Int).toNat) (n := ls.length - (k : Int).toNat) (cap := cap - (k : Int).toNat) (i := i) (j := j) ulBs szBs h0 h1 hj)
          rw [show ls.length - (k : Int).toNat = n2 by omega, show 0 + (k : Int).toNat = k by omega] at hlo hlen2 Hidx2
          generalize Value.slice (some ⟨g, k, none⟩) n2 (cap - (k : Int).toNat) = s2 at *
          generalize vs.getD k undef = uk at *
          generalize vs.getD (k - 1) undef = up at *
          go_wp2
          go_quiet (first | (go_at_call 103; exact Calls.quiet_of_same (HC.out _)))
          go_wp2
          clear c1 c2 hidx1 hidx2 HC heq
          go_loopw [5, 7] (fun i kk wr => C2Rel base b2 g cap vs ls w k i kk wr) (fun _ kk _ => ls.length - (intOf kk).toNat)
          case atStart => exact ⟨1, k, rfl, rfl, by omega, by omega, by omega, by omega, HST.out _⟩
          case round =>
            obtain ⟨kk, m, rfl, rfl, hkk1, hkk2, hm1, hm2, hc2⟩ := hrel
            have HC2' := Lib.hid hc2
            have helw := OwE.keepNe HEL.out HROW.out hc2.gr
            obtain ⟨cur, hcr, hcv, _⟩ := hc2.row
            have hcl : cur.length = ls.length := by have := hcr.1; omega
            have hcat : ∀ j, j < ls.length → wr.cell? ⟨g, j, none⟩ = some (cur.getD j undef) := fun j hj => by
              rw [World.ownsRow.cellAt hcr j (by omega)]; simp [List.getD, show j < cur.length by omega]
            have hfz : ∀ j, wr.frozen? ⟨g, j, none⟩ = false := fun j => World.ownsRow.frozenAt hcr j
            by_cases hlt2 : (kk : Int) < n2
            · have hd := hcv (k + kk) (by omega) (by omega)
              have hp := hcv (k + kk - 1) (by omega) (by omega)
              have c1 := hcat (k + kk) (by omega)
              have c2 := hcat (k + kk - 1) (by omega)
              have c3 := hcat m (by omega)
              have f3 := hfz m
              rw [hd] at c1
              rw [hp] at c2
              have hidx1 := Hidx2.out (kk : Int) (k + kk) (by omega) hlt2 (by omega)
              have hidx2 := Hidx2.out ((kk : Int) - 1) (k + kk - 1) (by omega) (by omega) (by omega)
              have hidx3 := Hidx.out (m : Int) m (by omega) (by omega) (by omega)
              have hsub2 : IntKind.i64.wrap ((kk : Int) - 1) = (kk : Int) - 1 := IntWalk.i64_in _ (by omega)
              have HC2 := Lib.hid (fun n => sorted_clo _ _ _ _ (wr.drewN n) ((helw.2 (k + kk) (by omega)).isB.drewN n) ((helw.2 (k + kk - 1) (by omega)).isB.drewN n))
              have hcase2 : cmpL (ls.getD (k + kk) []) (ls.getD (k + kk - 1) []) = 0 ∨ cmpL (ls.getD (k + kk - 1) []) (ls.getD (k + kk) []) < 0 := by
                have := nonDesc_last HS.out (k := k + kk - 1) (by omega)
                rwa [show k + kk - 1 + 1 = k + kk by omega] at this
              have HELW := Lib.hid helw
              clear hcat hfz hcr hcv hc2 hd hp helw
              rcases hcase2 with heq2 | hne2
              · have HNX := Lib.hid (fun q => C2.same (q := q) HC2'.out (by omega) (by omega) hm1 heq2)
                rw [show decide (cmpL (ls.getD (k + kk) []) (ls.getD (k + kk - 1) []) = 0) = true from decide_eq_true heq2] at HC2
                clear heq2
                generalize vs.getD (k + kk) undef = ud at *
                generalize vs.getD (k + kk - 1) undef = ue at *
                go_wp2
                go_quiet (first | (go_at_call 103; exact Calls.quiet_of_same (HC2.out _)))
                go_wp2
                go_roundw
                case rel => exact ⟨kk + 1, m, by go_num, rfl, by omega, by omega, by omega, by omega, HNX.out _⟩
                case measure => simp [intOf]; omega
              · have HNX := Lib.hid (fun q => C2.other (q := q) HC2'.out HELW.out (by omega) (by omega) hm2 hne2 hm1)
                have hnd : decide (cmpL (ls.getD (k + kk) []) (ls.getD (k + kk - 1) []) = 0) = false := decide_eq_false (fun e => by have := cmpL_anti (ls.getD (k + kk) []) (ls.getD (k + kk - 1) []); omega)
                rw [hnd] at HC2
                obtain ⟨uA, un, uc, hud⟩ : ∃ A n c, vs.getD (k + kk) undef = .slice A n c := by obtain ⟨A, c, h, _⟩ := (HELW.out.2 (k + kk) (by omega)).isB; exact ⟨_, _, _, h⟩
                clear hne2 hnd
                generalize vs.getD (k + kk) undef = ud at *
                subst hud
                generalize vs.getD (k + kk - 1) undef = ue at *
                go_wp2
                go_quiet (first | (go_at_call 103; exact Calls.quiet_of_same (HC2.out _)))
                go_wp2
                go_roundw
                case rel => exact ⟨kk + 1, m + 1, by go_num, by go_num, by omega, by omega, by omega, by omega, HNX.out _⟩
                case measure => simp [intOf]; omega
            · obtain rfl : kk = n2 := by omega
              rw [← hn2] at HC2'
              have hml : m < ls.length := by omega
              have hfin := hclr.out m wr HC2'.out hm1 hml
              have hlo3 := Hlo.out (m : Int) (by omega) (by omega)
              have hhi3 := Hhi.out (m : Int) (by omega) (by omega) (by omega)
              rw [Int.toNat_natCast, Nat.zero_add] at hlo3
              rw [Int.toNat_natCast] at hhi3
              have hzv : ∀ w, (zeroValue 33).run Tryz.prog w = .ok (.slice none 0 0) w := fun w => by kernel_rfl
              have hcl3 : ∀ ty, (Builtin.clear_ #[74] ty #[.slice (some ⟨g, m, none⟩) (ls.length - m) (cap - m)]).run Tryz.prog wr = .ok (.tuple #[]) (wr.setCells g m (List.replicate (ls.length - m) (.slice none 0 0))) := fun ty =>
                Go.Lib.run_clear_slice wr 74 33 ty _ ulBs hzv rfl rfl g m (ls.length - m) _ (by omega) (fun j hj => by rw [hcat (m + j) (by omega)]; rfl) (fun j _ => hfz _)
              have HFIN := Lib.hid hfin
              clear hfin hcat hfz hcr hcv hc2 helw HC2'
              generalize wr.setCells g m (List.replicate (ls.length - m) (.slice none 0 0)) = w3 at *
              generalize Value.slice (some ⟨g, m, none⟩) (ls.length - m) (cap - m) = s3 at *
              go_wp2
              refine bodyPost_ret (v := .slice (some ⟨g, 0, none⟩) m cap) (by simp only [results, Tryz.results102]; go_simp) rfl HFIN.out
        · rw [show decide (cmpL (ls.getD k []) (ls.getD (k - 1) []) = 0) = false from decide_eq_false (fun e => by have := cmpL_anti (ls.getD k []) (ls.getD (k - 1) []); omega)] at HC
          have hall2 : Hid (∀ j, j + 1 < k + 1 → cmpL (ls.getD j []) (ls.getD (j + 1) []) < 0) := fun j hj => by
            rcases Nat.lt_or_ge (j + 1) k with h | h
            · exact HALL.out j h
            · obtain rfl : j = k - 1 := by omega
              rw [show k - 1 + 1 = k by omega]; exact hne
          clear hne
          generalize vs.getD k undef = uk at *
          generalize vs.getD (k - 1) undef = up at *
          go_wp2
          go_quiet (first | (go_at_call 103; exact Calls.quiet_of_same (HC.out _)))
          go_wp2
          go_roundw
          case rel => exact ⟨k + 1, by omega, by omega, by go_num, hall2.out, HSW.out.drewN _⟩
          case measure => simp [intOf]; omega
      · obtain rfl : k = ls.length := by omega
        go_wp2
        refine bodyPost_ret (v := o) (by simp only [results, Tryz.results102]; go_simp) rfl (hend.out _ hsw hall)
end Go.Proofs.YtlmnmgokfnnbbaaGreatDoor
end

/- Walk over element.Sorted. -/
section
set_option linter.unusedSimpArgs false
set_option linter.unusedVariables false
namespace Go.Proofs.YtlmnmgokfnnbbaaGreatDoor
open Go.RowKit Go.Cr
set_option maxRecDepth 100000 in
set_option maxHeartbeats 2000000 in
theorem compact_any (o : Value) (base b2 : Nat) (vs : List Value) (ls : List (List UInt8)) (w : World) (hrow : w.ownsRow base 33 1 o ls.length vs) (hel : OwE w b2 vs ls) (hs : NonDesc ls) (hn : ls.length ≤ 1000000) :
    Calls Tryz.prog 102 #[o, .func (.func 103) #[] #[]] w (RetComp o base b2 ls w) := by
  rcases hrow.2 with ⟨rfl, h0⟩ | ⟨g, cap, cur, rfl, _⟩
  · have hl : ls = [] := List.eq_nil_of_length_eq_zero h0
    subst hl
    have hfin : Hid (RetComp (.slice none 0 0) base b2 [] w (.returned (.slice none 0 0)) w) := ⟨_, [], vs, rfl, ⟨trivial, fun x => Iff.rfl⟩, hrow, hel, World.grownBy.refl _ _⟩
    clear hrow hel hs
    go_enter Tryz.func102, Tryz.ntmps102
    go_wp2
    refine bodyPost_ret (v := .slice none 0 0) (by simp only [results, Tryz.results102]; go_simp) rfl hfin.out
  · exact compact_own g cap base b2 vs ls w hrow hel hs hn

theorem own_below {w w' : World} {base : Nat} {e : TypeId} {size : Nat} {v : Value} {n : Nat} {xs : List Value} (ho : w.ownsRow base e size v n xs) (hg : w.grownBy w' v.ownBlock) (hb : base ≤ w.heap.size) : Below base w w' :=
  ⟨hg.os, hg.tape, hg.output, hg.size, fun k hk => hg.block k (by omega) (fun h => by have := (ho.lt _ h.symm).1; omega)⟩

def PsoRel (ls : List (List UInt8)) (w : World) (out i : Value) (wr : World) : Prop :=
  ∃ (k : Nat) (vs : List Value), k ≤ ls.length ∧ i = .int .i64 k ∧ wr.ownsRow w.heap.size 33 1 out k vs ∧ OwE wr w.heap.size vs (ls.take k) ∧ Below w.heap.size w wr
def RetSd (ls : List (List UInt8)) (w : World) (e : Ending) (w' : World) : Prop :=
  ∃ o r vs, e = .returned o ∧ SortOf ls r ∧ w'.ownsRow w.heap.size 33 1 o r.length vs ∧ OwE w' w.heap.size vs r ∧ Below w.heap.size w w'

set_option maxRecDepth 100000 in
set_option maxHeartbeats 8000000 in
theorem pSorted (v : Value) (ls : List (List UInt8)) (w : World) (hv : IsBs w v ls) (hn : ls.length ≤ 100000) (hl : ls.flatten.length ≤ 900000) :
    Calls Tryz.prog 65 #[v] w (RetSd ls w) := by
  have h1 := hv.len ulBs
  have HA := Lib.hid hv
  have HL : Hid (∀ k, k < ls.length → (ls.getD k []).length ≤ 900000) := fun k hk => by
    have h2 := cat_le ls (k + 1)
    rw [cat_succ ls k hk, List.length_append] at h2
    omega
  clear hv hl
  go_enter Tryz.func65, Tryz.ntmps65
  go_wp2
  go_loopw [3, 8] (fun out i wr => PsoRel ls w out i wr) (fun _ i _ => ls.length - (intOf i).toNat)
  case atStart => exact ⟨0, [], by omega, rfl, World.ownsRow_nil _ _ _ _, by simpa using OwE.nil_ w w.heap.size, Below.refl _ _⟩
  case round =>
    obtain ⟨k, vs, hk, rfl, hrow, hel, hbel⟩ := hrel
    have HROW := Lib.hid hrow
    have HEL := Lib.hid hel
    clear hrow hel
    by_cases hlt : (k : Int) < ls.length
    · obtain ⟨bb, oo, u, hi, hbb, hc, hu⟩ := HA.out.at_ (P := Tryz.prog) ulBs szBs .i64 (i := k) (by omega) hlt
      simp only [Int.toNat_natCast] at hu
      have cu : wr.cell? ⟨bb, oo, none⟩ = some u := below_cell hbel hbb hc
      have HC : Hid (Calls Tryz.prog 91 #[u] wr (RetO 5 (ls.getD k []) wr)) := clone_any u _ wr (hu.below hbel) (by have := HL.out k (by omega); omega)
      have htk : ls.take (k + 1) = ls.take k ++ [ls.getD k []] := by rw [List.take_succ_eq_append_getElem (by omega)]; simp [List.getD, show k < ls.length by omega]
      have HTK := Lib.hid htk
      obtain ⟨i0, hi0, hz0, hz1, hz2⟩ := info_parts infoBs
      have hws := hbel.size
      clear hu hc htk
      generalize ls.getD k [] = p at *
      go_wp2_with (first | (go_at_call 91; (with_reducible refine HC.out.mono ?_); rintro e w1 ⟨v1, rfl, ho1, hb1⟩; obtain ⟨uA, un, uc, rfl⟩ : ∃ A n c, v1 = .slice A n c := (by obtain ⟨A, c, h, _⟩ := ho1.isB; exact ⟨_, _, _, h⟩); have HO1 := Lib.hid ho1; clear ho1; have hz1' := hb1.size) | (at_builtin; refine wpList_app _ rfl _ _ 74 rfl w.heap.size 33 i0 (.slice none 0 0) 1 24 ulBs hi0 hz0 hz1 hz2 rfl (by decide) _ k vs rfl ((ownsRow_below HROW.out hb1).alloc _) _ 1 [.slice uA un uc] rfl (isR_at rfl rfl) (by intro u hu; simp only [List.mem_singleton] at hu; subst hu; rfl) (by have : maxLen = 9223372036854775807 := rfl; omega) (by omega) ?k3 ?_))
      case k3 => simp; omega
      intro v2 w2 ho2 hg2 hb2
      have hel2 : OwE w2 w.heap.size (vs ++ [.slice uA un uc]) (ls.take k ++ [p]) := OwE.keepNe (((HEL.out.below hb1).alloc _).snoc ((HO1.out.more hws).alloc _)) ((ownsRow_below HROW.out hb1).alloc _) hg2
      rw [← HTK.out] at hel2
      have HE2 := Lib.hid hel2
      have HO2 := Lib.hid ho2
      have hbel2 : Below w.heap.size w w2 := ((below_t hbel hb1).alloc (by omega) _).trans hb2
      clear ho2 hel2 hg2
      go_wp2
      go_roundw
      case rel => exact ⟨k + 1, _, by omega, by go_num, by simpa using HO2.out, HE2.out, hbel2⟩
      case measure => simp [intOf]; omega
    · obtain rfl : k = ls.length := by omega
      have hel' := HEL.out
      rw [List.take_length] at hel'
      have HS : Hid (Calls Tryz.prog 101 #[u3, .func (.func 93) #[] #[]] wr (RetSort u3 w.heap.size w.heap.size ls wr)) := sort_own u3 w.heap.size w.heap.size vs ls wr HROW.out hel' (by omega)
      have hws := hbel.size
      clear hel'
      go_wp2_with (first | (go_at_call 101; (with_reducible refine HS.out.mono ?_); rintro e w1 ⟨rfl, vs1, ls1, hr1, he1, hl1, hnd, hmm, hg1⟩; have hb1 := own_below HROW.out hg1 hws; have HC := Lib.hid (compact_any u3 w.heap.size w.heap.size vs1 ls1 w1 (by rw [hl1]; exact hr1) he1 hnd (by omega)); have HR1 := Lib.hid hr1; have HM := Lib.hid hmm; clear hr1 he1 hnd hg1 hmm) | (go_at_call 102; (with_reducible refine HC.out.mono ?_); rintro e w2 ⟨o', r, vs2, rfl, hso, hir, he2, hg2⟩; have HF : Hid (RetSd ls w (.returned o') w2) := ⟨o', r, vs2, rfl, ⟨hso.1, fun x => (hso.2 x).trans (HM.out x)⟩, hir, he2, (hbel.trans hb1).trans (own_below HR1.out hg2 (by have := hb1.size; omega))⟩; clear hso hir he2 hg2))
      refine bodyPost_ret (v := o') (by simp only [results, Tryz.results65]; go_simp) rfl HF.out
end Go.Proofs.YtlmnmgokfnnbbaaGreatDoor
end
