/- The parts OpenN of one proof, one behind the other. -/
import Derived.Test.YtjjkimjdmpeddaaGreatDoorK12
import Derived.Test.YtjjkimjdmpeddaaGreatDoorK36

/- The arguments of the laws of chapter 17, opened: a notice. -/
section
set_option linter.unusedSimpArgs false
set_option linter.unusedVariables false
namespace Go.Proofs.YtjjkimjdmpeddaaGreatDoor
open Go.ChangeShapes Go.WideShapes Go.ChangeAt Go.RowKit Go.Cr Go.Deep
section
variable {H : Type} {enc : TypeId × Value → H} {P : Program} {W : World} {held : Bool}
theorem trod_struct4 {t : TypeId} {f0 f1 f2 f3 : Field} {fuel : Nat} {cs : List Value} {x : DataW H × List MemPlace} (ht : P.underlying t = some (.struct #[f0, f1, f2, f3])) (h : DataW.trod enc P W 0 (fun _ => true) held fuel t cs = some x) :
    ∃ y0 y1 y2 y3 n, x.1 = .agg [y0.1, y1.1, y2.1, y3.1] ∧ cs.length = P.cellsOf t ∧ DataW.trod enc P W 0 (fun _ => true) held n f0.type ((cs.drop f0.offset).take (P.cellsOf f0.type)) = some y0 ∧
      DataW.trod enc P W 0 (fun _ => true) held n f1.type ((cs.drop f1.offset).take (P.cellsOf f1.type)) = some y1 ∧ DataW.trod enc P W 0 (fun _ => true) held n f2.type ((cs.drop f2.offset).take (P.cellsOf f2.type)) = some y2 ∧
      DataW.trod enc P W 0 (fun _ => true) held n f3.type ((cs.drop f3.offset).take (P.cellsOf f3.type)) = some y3 := by
  obtain ⟨xs, n, _, rfl, hl, hlen, hf⟩ := DataW.trod_struct ht h
  match xs, hlen with
  | [y0, y1, y2, y3], _ => exact ⟨y0, y1, y2, y3, n, by simp, hl, by simpa using hf 0 f0 rfl, by simpa using hf 1 f1 rfl, by simpa using hf 2 f2 rfl, by simpa using hf 3 f3 rfl⟩
end
section
variable {H : Type} {enc : TypeId × Value → H} {W : World} {base : Nat} {held : Bool} {d : DataW H} {p : List MemPlace} {v : Value}
set_option maxRecDepth 100000 in
theorem trod_bss (n : Nat) (cs : List Value) (d : DataW H) (pl : List MemPlace) (hf : DataW.trod enc Tryz.prog W 0 (fun _ => true) held n 28 cs = some (d, pl)) :
    ∃ A c ls, cs = [.slice A (List.length ls) c] ∧ IsBs W (.slice A ls.length c) ls ∧ ∀ B, (∀ n ∈ d.weights Tryz.prog 28, n ≤ B) → ∀ l ∈ ls, l.length ≤ B := by
  rcases open_int_rows ulBs ulB ulU8p (by kernel_rfl) (by kernel_rfl) hf with ⟨hcs, _⟩ | ⟨x, len0, cap0, A, L, C, Z, hcs, _, hl, hm, hx, hrow⟩
  · exact ⟨none, 0, [], hcs, IsBs.nil_ W, fun B _ l hl => by cases hl⟩
  · have hr : ∀ r, r < cap0 → ∃ l, IsB W (.slice (A r) (L r) (C r)) l ∧ l.length = L r := fun r hr => by
      obtain ⟨_, hLC, hCm, hZ, hwf, hn, hs⟩ := hrow r hr
      cases hA : A r with
      | none =>
        have := hn hA
        have h0 : L r = 0 := by omega
        rw [h0]
        exact ⟨[], IsB.nil_ W none _ hCm, rfl⟩
      | some a => exact isB_rowN hLC hCm hZ (fun i hi => (hs a hA).2 i (by omega)) hwf
    obtain ⟨f, hf⟩ := choose_lt (n := cap0) (p := fun r l => IsB W (.slice (A r) (L r) (C r)) l ∧ l.length = L r) hr
    refine ⟨some x, cap0, (List.range len0).map f, by simpa using hcs, ⟨(List.range len0).map fun r => .slice (A r) (L r) (C r), ⟨some x, cap0, by simp, by simpa using hl, hm, by simp, fun h0 => ?_⟩, fun j hj => ?_⟩, fun B hB l hl' => ?_⟩
    · have h0' : 0 < len0 := by simpa using h0
      obtain ⟨b, off, spot⟩ := x
      have hc := (hrow 0 (by omega)).1
      have hspot : spot = none := by simpa [Addr.add] using World.cell?_spot hc
      subst hspot
      refine ⟨b, off, rfl, ?_, fun j u hj => ?_⟩
      · rcases Nat.lt_or_ge b W.heap.size with h | h
        · exact h
        · have : (⟨b, off, none⟩ : Addr).add 0 = ⟨b, off, none⟩ := by simp [Addr.add]
          rw [this] at hc
          simp [World.cell?, Array.getElem?_eq_none h] at hc
      · have hjl : j < len0 := by have := (List.getElem?_eq_some_iff.1 hj).1; simpa using this
        have h1 := (hrow j (by omega)).1
        have h2 : (⟨b, off, none⟩ : Addr).add j = ⟨b, off + j, none⟩ := by simp [Addr.add]
        rw [h2] at h1
        rw [h1, ← hj]
        simp [hjl]
    · have hjl : j < len0 := by simpa using hj
      have := (hf j (by omega)).1
      simpa [List.getD, hjl] using this
    · simp only [List.mem_map, List.mem_range] at hl'
      obtain ⟨r, hrl, rfl⟩ := hl'
      have hlen := (hf r (by omega)).2
      obtain ⟨_, hLC, hCm, hZ, hwf, hn, hs⟩ := hrow r (by omega)
      rw [hlen]
      cases hA : A r with
      | none => have := hn hA; omega
      | some a =>
        refine Nat.le_trans ?_ (hB (L r + (C r - L r)) ?_)
        · omega
        · simp only [Prod.mk.injEq] at hx
          rw [hx.1]
          have hu8 : Tryz.prog.bytesOf 5 = 1 := by kernel_rfl
          have hin : (intRow .u8 (A r) (L r) (Z r) : DataW H) ∈ (List.range len0).map fun r => intRow .u8 (A r) (L r) (Z r) := List.mem_map.2 ⟨r, List.mem_range.2 hrl, rfl⟩
          have hw : L r + (C r - L r) ∈ (intRow .u8 (A r) (L r) (Z r) : DataW H).weights Tryz.prog 32 := by
            simp only [intRow, hA, DataW.weights, ulB, hu8]
            refine List.mem_cons.2 (.inl ?_)
            simp [lits, hZ]; omega
          simp only [DataW.weights, ulBs, List.mem_cons, List.mem_append]
          exact .inr (.inl (weights_inP hin hw))
set_option maxRecDepth 100000 in
theorem trod_tx (n : Nat) (cs : List Value) (d : DataW H) (pl : List MemPlace) (h : DataW.trod enc Tryz.prog W 0 (fun _ => true) held n 27 cs = some (d, pl)) :
    ∃ t : Tx, cs = [.int .i64 t.1, .string t.2] ∧ ∀ B, (∀ n ∈ d.weights Tryz.prog 27, n ≤ B) → t.2.size ≤ B := by
  obtain ⟨y0, y1, m, hx, hcl, h0, h1⟩ := trod_struct2 Tryz.underlying27 h
  have hC : Tryz.prog.cellsOf 27 = 2 := by kernel_rfl
  have c0 : Tryz.prog.cellsOf 3 = 1 := by kernel_rfl
  have c1 : Tryz.prog.cellsOf 9 = 1 := by kernel_rfl
  match cs, hcl.trans hC with
  | [a, b], _ =>
    simp only [c0, c1] at h0 h1
    obtain ⟨s, hs, hy1, hz⟩ := DataW.trod_string (by kernel_rfl : Tryz.prog.underlying 9 = some .string) h1
    have e1 : b = .string s := by simpa using hs
    subst e1
    obtain ⟨z, hz0, _⟩ := DataW.trod_int (by kernel_rfl : Tryz.prog.underlying 3 = some (.int .i64)) h0
    have e0 : a = .int .i64 z := by simpa using hz0
    subst e0
    simp only [Prod.mk.injEq] at hx
    refine ⟨(z, s), rfl, fun B hB => ?_⟩
    rw [hx.1] at hB
    simp only [DataW.weights, DataW.weightsEach, Tryz.underlying27, List.map, List.mem_append] at hB
    refine hB s.size (.inr (.inl ?_))
    rw [hy1]
    simp [DataW.weights]
set_option maxRecDepth 100000 in
theorem open_ntc (hval : Value.okWide Tryz.prog W .any base 30 v) (h : DataW.Trod enc Tryz.prog W 0 (fun _ => true) held 30 v d p) :
    ∃ n, IsN W v n ∧ ∀ B, (∀ n ∈ d.weights Tryz.prog 30, n ≤ B) → BdN B n := by
  obtain ⟨⟨cl⟩, rfl, hsz⟩ := okWide_struct Tryz.underlying30 hval
  obtain ⟨fuel, hf⟩ := h
  obtain ⟨y0, y1, y2, y3, m, hx, hcl, h0, h1, h2, h3⟩ := trod_struct4 Tryz.underlying30 hf
  have hC : Tryz.prog.cellsOf 30 = 6 := by kernel_rfl
  have cb : Tryz.prog.cellsOf 4 = 1 := by kernel_rfl
  have ct : Tryz.prog.cellsOf 27 = 2 := by kernel_rfl
  have cs : Tryz.prog.cellsOf 28 = 1 := by kernel_rfl
  match cl, hsz.trans hC with
  | [a, b, c, e, f, g], _ =>
    simp only [cb, ct, cs, Value.cells] at h0 h1 h2 h3
    obtain ⟨r, hr, _⟩ := DataW.trod_bool (by kernel_rfl : Tryz.prog.underlying 4 = some .bool) h0
    have e0 : a = .bool r := by simpa using hr
    subst e0
    obtain ⟨o, ho, hzo⟩ := trod_tx m _ _ _ h1
    have e1 : b = .int .i64 o.1 ∧ c = .string o.2 := by simpa using ho
    obtain ⟨rfl, rfl⟩ := e1
    obtain ⟨A, k, ls, hA, hI, hzl⟩ := trod_bss m _ _ _ h2
    have e2 : e = .slice A ls.length k := by simpa using hA
    subst e2
    obtain ⟨t, ht, hzt⟩ := trod_tx m _ _ _ h3
    have e3 : f = .int .i64 t.1 ∧ g = .string t.2 := by simpa using ht
    obtain ⟨rfl, rfl⟩ := e3
    refine ⟨⟨r, o, ls, t⟩, ⟨_, rfl, hI⟩, fun B hB => ?_⟩
    have hx2 : d = .agg [y0.1, y1.1, y2.1, y3.1] := hx
    rw [hx2] at hB
    simp only [DataW.weights, DataW.weightsEach, Tryz.underlying30, List.map, List.mem_append] at hB
    exact ⟨hzo B fun n hn => hB n (.inr (.inl hn)), hzt B fun n hn => hB n (.inr (.inr (.inr (.inl hn)))), hzl B fun n hn => hB n (.inr (.inr (.inl hn)))⟩
end
end Go.Proofs.YtjjkimjdmpeddaaGreatDoor
end
