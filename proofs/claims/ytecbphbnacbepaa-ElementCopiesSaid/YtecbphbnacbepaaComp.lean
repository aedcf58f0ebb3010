/- Walks over Clone and over CompactFunc on an own row. -/
import Derived.Test.YtecbphbnacbepaaSortKit
import Derived.Test.YtecbphbnacbepaaOrdB
import Derived.Lib.SliceRun
import Derived.BigQuiet
set_option linter.unusedSimpArgs false
set_option linter.unusedVariables false
namespace Go.Proofs.Ytecbphbnacbepaa
open Go.RowKit Go.Cr

set_option maxRecDepth 100000 in
set_option maxHeartbeats 2000000 in
theorem clone_any (v : Value) (l : List UInt8) (w : World) (hv : IsB w v l) (hl : l.length ≤ 1000000) : Calls Try.prog 40 #[v] w (RetO 5 l w) := by
  have HV := Lib.hid hv
  obtain ⟨A, c, rfl, h1, h2, h3⟩ := hv
  cases A with
  | none =>
    have h0 : l = [] := by
      rcases Nat.eq_zero_or_pos l.length with h | h
      · exact List.eq_nil_of_length_eq_zero h
      · obtain ⟨b, off, h', _⟩ := h3 h; cases h'
    subst h0
    have he := fun W => Go.Lib.run_eql_slice_nil (P := Try.prog) W 30 5 none 0 c 0 0 ulB
    clear h3
    go_enter Try.func40, Try.ntmps40
    go_wp2
    go_ret
    exact ⟨_, rfl, OwB.nil_ _ _ _, Below.refl _ _⟩
  | some a =>
    have he := fun W => Go.Lib.run_eql_slice_nil (P := Try.prog) W 30 5 (some a) l.length c 0 0 ulB
    have H0 : Hid (OwB (w.alloc (.cells #[] 5)) w.heap.size 5 (.slice (some ⟨w.heap.size, 0, none⟩) 0 0) []) := by
      have := World.ownsRow_lit (base := w.heap.size) (e := 5) (size := 1) w #[] 0 (Nat.le_refl _) (by decide) rfl
      show OwB _ _ _ _ _
      simpa [OwB, bCells] using this
    clear h3
    go_enter Try.func40, Try.ntmps40
    go_wp2_with (at_builtin; refine wpList_appB _ rfl _ _ 30 rfl w.heap.size 5 ulB infoB _ [] rfl H0.out _ l rfl (HV.out.alloc _) ?k1 ?k2 ?_)
    case k1 => simp; omega
    case k2 => simp
    intro v2 w2 ho2 _ hb2
    have HO2 := Lib.hid ho2
    clear ho2
    go_wp2
    go_ret
    exact ⟨_, rfl, by simpa using HO2.out, ((Below.refl _ _).alloc (Nat.le_refl _) _).trans hb2⟩

/-- What CompactFunc leaves. -/
def RetComp (o : Value) (base b2 : Nat) (ls : List (List UInt8)) (w : World) (e : Ending) (w' : World) : Prop :=
  ∃ o' r vs', e = .returned o' ∧ SortOf ls r ∧ w'.ownsRow base 30 1 o' r.length vs' ∧ OwE w' b2 vs' r ∧ w.grownBy w' o.ownBlock

theorem nonDesc_last {ls : List (List UInt8)} (h : NonDesc ls) {k : Nat} (hk : k + 1 < ls.length) : cmpL (ls.getD (k + 1) []) (ls.getD k []) = 0 ∨ cmpL (ls.getD k []) (ls.getD (k + 1) []) < 0 := by
  have h1 := h k (k + 1) (by omega) hk
  have h2 := cmpL_anti (ls.getD k []) (ls.getD (k + 1) [])
  rcases cmpL_vals (ls.getD k []) (ls.getD (k + 1) []) with e | e | e <;> omega
theorem asc_of_adj {ls : List (List UInt8)} (h : ∀ j, j + 1 < ls.length → cmpL (ls.getD j []) (ls.getD (j + 1) []) < 0) : Asc ls := (ascB_iff ls).1 (ascB_at.2 h)

/-- The same but for draws. -/
structure SameW (w wr : World) : Prop where
  heap : wr.heap = w.heap
  os : wr.os = w.os
  tape : wr.tape = w.tape
  output : wr.output = w.output
theorem SameW.refl (w : World) : SameW w w := ⟨rfl, rfl, rfl, rfl⟩
theorem SameW.drewN {w wr : World} (h : SameW w wr) (q : Nat) : SameW w (wr.drewN q) := ⟨h.heap, h.os, h.tape, h.output⟩
theorem SameW.grown {w wr : World} (h : SameW w wr) (o : Option Nat) : w.grownBy wr o := ⟨h.os, h.tape, h.output, by rw [h.heap]; exact Nat.le_refl _, fun j _ _ => by rw [h.heap]⟩
theorem SameW.row {w wr : World} (h : SameW w wr) {base : Nat} {e : TypeId} {size : Nat} {v : Value} {n : Nat} {xs : List Value} (ho : w.ownsRow base e size v n xs) : wr.ownsRow base e size v n xs := by
  unfold World.ownsRow at *; rw [h.heap]; exact ho
theorem SameW.els {w wr : World} (h : SameW w wr) {b : Nat} {vs : List Value} {ls : List (List UInt8)} (he : OwE w b vs ls) : OwE wr b vs ls := ⟨he.1, fun j hj => h.row (he.2 j hj)⟩
def C1Rel (ls : List (List UInt8)) (w : World) (i : Value) (wr : World) : Prop :=
  ∃ k : Nat, 1 ≤ k ∧ k ≤ ls.length ∧ i = .int .i64 k ∧ (∀ j, j + 1 < k → cmpL (ls.getD j []) (ls.getD (j + 1) []) < 0) ∧ SameW w wr
/-- The row in the inner loop: the first m cells are the list c; from d on it is as it was. -/
structure C2 (base b2 g cap : Nat) (vs : List Value) (ls : List (List UInt8)) (w : World) (d m : Nat) (wr : World) : Prop where
  row : ∃ cur, wr.ownsRow base 30 1 (.slice (some ⟨g, 0, none⟩) ls.length cap) ls.length cur ∧ (∀ j, d - 1 ≤ j → j < ls.length → cur.getD j undef = vs.getD j undef) ∧
    ∃ c, OwE wr b2 (cur.take m) c ∧ c.length = m ∧ Asc c ∧ (∀ x, x ∈ c ↔ x ∈ ls.take d) ∧ c.getLastD [] = ls.getD (d - 1) []
  gr : w.grownBy wr (some g)
def C2Rel (base b2 g cap : Nat) (vs : List Value) (ls : List (List UInt8)) (w : World) (k0 : Nat) (i k : Value) (wr : World) : Prop :=
  ∃ kk m : Nat, k = .int .i64 kk ∧ i = .int .i64 m ∧ 1 ≤ kk ∧ k0 + kk ≤ ls.length ∧ 1 ≤ m ∧ m < k0 + kk ∧ C2 base b2 g cap vs ls w (k0 + kk) m wr

theorem mem_take_succ {ls : List (List UInt8)} {d : Nat} (hd : d < ls.length) (x : List UInt8) : x ∈ ls.take (d + 1) ↔ x ∈ ls.take d ∨ x = ls.getD d [] := by
  have e : ls.getD d [] = ls[d] := by simp [List.getD, hd]
  rw [List.take_succ_eq_append_getElem hd, List.mem_append, List.mem_singleton, e]
theorem take_getD {vs : List Value} {m j : Nat} (hj : j < m) : (vs.take m).getD j undef = vs.getD j undef := by simp [List.getD, List.getElem?_take, hj]
theorem OwE.take {w : World} {b : Nat} {vs : List Value} {ls : List (List UInt8)} (h : OwE w b vs ls) (m : Nat) : OwE w b (vs.take m) (ls.take m) := by
  refine ⟨by simp [h.1], fun j hj => ?_⟩
  have hj' : j < m ∧ j < ls.length := by have h1 : j < min m ls.length := by simpa using hj
                                         omega
  rw [take_getD hj'.1, show (ls.take m).getD j [] = ls.getD j [] by simp [List.getD, List.getElem?_take, hj'.1]]
  exact h.2 j hj'.2
/-- The inner loop begins. -/
theorem C2.start {base b2 g cap : Nat} {vs : List Value} {ls : List (List UInt8)} {w wr : World} {k0 : Nat} (hsw : SameW w wr) (hrow : w.ownsRow base 30 1 (.slice (some ⟨g, 0, none⟩) ls.length cap) ls.length vs) (hel : OwE w b2 vs ls)
    (h1 : 1 ≤ k0) (h2 : k0 < ls.length) (hall : ∀ j, j + 1 < k0 → cmpL (ls.getD j []) (ls.getD (j + 1) []) < 0) (heq : cmpL (ls.getD k0 []) (ls.getD (k0 - 1) []) = 0) :
    C2 base b2 g cap vs ls w (k0 + 1) k0 wr := by
  have e := cmpL_zero heq
  have hlt : (ls.take k0).length = k0 := by simp; omega
  refine ⟨⟨vs, hsw.row hrow, fun j _ _ => rfl, ls.take k0, ?_, hlt, asc_of_adj (fun j hj => ?_), fun x => ?_, ?_⟩, hsw.grown _⟩
  · exact OwE.take (hsw.els hel) k0
  · rw [hlt] at hj
    have a1 : (ls.take k0).getD j [] = ls.getD j [] := by simp [List.getD, List.getElem?_take, show j < k0 by omega]
    have a2 : (ls.take k0).getD (j + 1) [] = ls.getD (j + 1) [] := by simp [List.getD, List.getElem?_take, show j + 1 < k0 by omega]
    rw [a1, a2]; exact hall j hj
  · rw [mem_take_succ h2, e]
    constructor
    · exact .inl
    · rintro (h | h)
      · exact h
      · rw [h]
        have : (ls.take k0).getD (k0 - 1) [] = ls.getD (k0 - 1) [] := by simp [List.getD, List.getElem?_take, show k0 - 1 < k0 by omega]
        rw [← this]; exact getD_mem (by omega)
  · rw [getLastD_at _ (by omega), hlt]
    simp only [Nat.add_sub_cancel]
    rw [e]
    simp [List.getD, List.getElem?_take, show k0 - 1 < k0 by omega]
/-- The next one is the same as the last. -/
theorem C2.same {base b2 g cap : Nat} {vs : List Value} {ls : List (List UInt8)} {w : World} {d m q : Nat} {wr : World} (h : C2 base b2 g cap vs ls w d m wr) (h1 : 1 ≤ d) (h2 : d < ls.length) (hm : 1 ≤ m) (heq : cmpL (ls.getD d []) (ls.getD (d - 1) []) = 0) :
    C2 base b2 g cap vs ls w (d + 1) m (wr.drewN q) := by
  have e := cmpL_zero heq
  obtain ⟨⟨cur, a1, a2, c, a3, a4, a5, a6, a7⟩, hg⟩ := h
  refine ⟨⟨cur, a1, fun j hj hjl => a2 j (by omega) hjl, c, a3, a4, a5, fun x => ?_, ?_⟩, ⟨hg.os, hg.tape, hg.output, hg.size, hg.block⟩⟩
  · rw [mem_take_succ h2, a6, e]
    constructor
    · exact .inl
    · rintro (h | h)
      · exact h
      · rw [h, ← a7, ← a6 _]
        rw [getLastD_at _ (by omega)]; exact getD_mem (by omega)
  · rw [a7]; simp only [Nat.add_sub_cancel]; rw [e]
/-- The next one is another: it is written behind the last. -/
theorem C2.other {base b2 g cap : Nat} {vs : List Value} {ls : List (List UInt8)} {w : World} {d m q : Nat} {wr : World} (h : C2 base b2 g cap vs ls w d m wr) (hel : OwE wr b2 vs ls) (h1 : 1 ≤ d) (h2 : d < ls.length) (hm : m < d) (hlt : cmpL (ls.getD (d - 1) []) (ls.getD d []) < 0) (hm0 : 1 ≤ m) :
    C2 base b2 g cap vs ls w (d + 1) (m + 1) ((wr.setCell ⟨g, m, none⟩ (vs.getD d undef)).drewN q) := by
  obtain ⟨⟨cur, a1, a2, c, a3, a4, a5, a6, a7⟩, hg⟩ := h
  have hst := (World.ownsRow.stored a1 m (vs.getD d undef)).1
  have hgw : wr.grownBy ((wr.setCell ⟨g, m, none⟩ (vs.getD d undef)).drewN q) (some g) := ⟨rfl, rfl, rfl, by simp [World.setCell], fun j hj hne => Below.heap_setCell _ _ _ _ (fun (e : j = g) => hne (by rw [e]))⟩
  have hcl : cur.length = ls.length := by have := a1.1; omega
  have htk : (cur.set m (vs.getD d undef)).take (m + 1) = cur.take m ++ [vs.getD d undef] := by
    rw [List.take_succ_eq_append_getElem (by rw [List.length_set]; omega)]
    rw [List.take_set_of_le (Nat.le_refl m)]
    simp
  refine ⟨⟨cur.set m (vs.getD d undef), hst, fun j hj hjl => ?_, c ++ [ls.getD d []], ?_, by simp [a4], a5.snoc (fun y hy => ?_), fun x => ?_, ?_⟩, ?_⟩
  · have : m ≠ j := by omega
    have h3 := a2 j (by omega) hjl
    rw [← h3]
    simp [List.getD, List.getElem?_set, this]
  · rw [htk]
    exact OwE.snoc (OwE.keepNe a3 a1 hgw) (OwB.keepNe (hel.2 d h2) a1 hgw)
  · rcases a5.last y hy with e | e
    · rw [e, a7]; exact hlt
    · exact cmpL_trans e (by rw [a7]; exact hlt)
  · rw [mem_take_succ h2, List.mem_append, a6]; simp
  · simp
  · exact ⟨hg.os, hg.tape, hg.output, by simpa [World.setCell] using hg.size, fun j hj hne => by
      have hne' : j ≠ g := fun e => hne (by rw [e])
      exact (Below.heap_setCell _ _ _ _ hne').trans (hg.block j hj hne)⟩
end Go.Proofs.Ytecbphbnacbepaa
