/- The parts OpenD of one proof, one behind the other. -/
import Derived.Test.YtlmnmgokfnnbbaaGreatDoorQ11
import Derived.Test.YtlmnmgokfnnbbaaGreatDoorRows
import Derived.ShutString
import Derived.ChangeOld
import Derived.Deep.Slices
import Derived.Deep.Fields
import Derived.Deep.Matrix
import Derived.ChangeSame

/- The arguments of the laws of chapter 12, opened. -/
section
set_option linter.unusedSimpArgs false
set_option linter.unusedVariables false
namespace Go.Proofs.YtlmnmgokfnnbbaaGreatDoor
open Go.ChangeShapes Go.WideShapes Go.ChangeAt Go.RowKit Go.Cr Go.Deep
theorem ulAtO : Tryz.prog.underlying 29 = some (.slice 58) := by kernel_rfl
theorem ulU8p : Tryz.prog.underlying 5 = some (.int .u8) := by kernel_rfl
theorem isB_rowN {W : World} {x : Addr} {len cap : Nat} {zs : List Int} (hl : len ≤ cap) (hm : cap ≤ maxLen) (hz : zs.length = cap) (hcell : ∀ i, i < zs.length → W.cell? (x.add i) = some (.int .u8 (zs.getD i 0))) (hwz : ∀ n ∈ zs, (Lit.int .u8 n).wf = true) :
    ∃ l, IsB W (.slice (some x) len cap) l ∧ l.length = len := by
  have hlen : ((zs.take len).map fun n => UInt8.ofNat n.toNat).length = len := by simp; omega
  refine ⟨(zs.take len).map fun n => UInt8.ofNat n.toNat, ⟨some x, cap, by rw [hlen], by rw [hlen]; exact hl, hm, fun h0 => ?_⟩, hlen⟩
  rw [hlen] at h0
  obtain ⟨b, off, spot⟩ := x
  have hc := hcell 0 (by omega)
  have hspot : spot = none := by simpa [Addr.add] using World.cell?_spot hc
  subst hspot
  refine ⟨b, off, rfl, ?_, fun j hj => ?_⟩
  · rcases Nat.lt_or_ge b W.heap.size with h | h
    · exact h
    · have : (⟨b, off, none⟩ : Addr).add 0 = ⟨b, off, none⟩ := by simp [Addr.add]
      rw [this] at hc
      simp [World.cell?, Array.getElem?_eq_none h] at hc
  · rw [hlen] at hj
    have h1 := hcell j (by omega)
    have h2 : (⟨b, off, none⟩ : Addr).add j = ⟨b, off + j, none⟩ := by simp [Addr.add]
    rw [h2] at h1
    rw [h1]
    have hjz : j < zs.length := by omega
    have hw := hwz zs[j] (List.getElem_mem hjz)
    have h3 : 0 ≤ zs[j] ∧ zs[j] < 256 := by have e1 : IntKind.u8.min = 0 := rfl; have e2 : IntKind.u8.max = 255 := rfl; simp [Lit.wf] at hw; omega
    have h4 : zs.getD j 0 = zs[j] := by simp [List.getD, hjz]
    have h5 : bat ((zs.take len).map fun n => UInt8.ofNat n.toNat) j = zs[j] := by
      rw [bat_eq _ j (by rw [hlen]; exact hj)]
      simp only [List.getElem_map, List.getElem_take, bi_ofNat]
      omega
    rw [h4, h5]

theorem flat2_len (C : Nat → List Value) (n : Nat) (h : ∀ i, i < n → (C i).length = 2) : ((List.range n).flatMap C).length = n * 2 := by
  induction n with
  | zero => rfl
  | succ n ih => rw [List.range_succ, List.flatMap_append, List.length_append, ih fun i hi => h i (by omega)]; simp [h n (by omega)]; omega
theorem flat2_at (C : Nat → List Value) (n : Nat) (h : ∀ i, i < n → (C i).length = 2) (j : Nat) (hj : j < n) (r : Nat) (hr : r < 2) : ((List.range n).flatMap C)[j * 2 + r]? = (C j)[r]? := by
  induction n with
  | zero => omega
  | succ n ih =>
    have hl := flat2_len C n fun i hi => h i (by omega)
    rw [List.range_succ, List.flatMap_append]
    by_cases hjn : j < n
    · rw [List.getElem?_append_left (by omega)]
      exact ih (fun i hi => h i (by omega)) hjn
    · obtain rfl : j = n := by omega
      rw [List.getElem?_append_right (by omega), hl]
      simp
theorem flat2_take (C : Nat → List Value) (n : Nat) (h : ∀ i, i < n → (C i).length = 2) (j : Nat) (hj : j < n) : (((List.range n).flatMap C).drop (j * 2)).take 2 = C j := by
  apply List.ext_getElem?
  intro r
  by_cases hr : r < 2
  · rw [List.getElem?_take_of_lt hr, List.getElem?_drop, flat2_at C n h j hj r hr]
  · have := h j hj
    rw [List.getElem?_eq_none (by simp; omega), List.getElem?_eq_none (by omega)]
theorem isR_rows {W : World} {a : Addr} {len cap : Nat} {C : Nat → List Value} (hl : len ≤ cap) (hm : cap ≤ maxLen) (hC : ∀ i, i < cap → W.cells? 0 (a.add (i * 2)) 2 = some (C i)) :
    IsR W (.slice (some a) len cap) 2 len ((List.range len).flatMap C) ∧ ∀ j, j < len → (((List.range len).flatMap C).drop (j * 2)).take 2 = C j := by
  have h2 : ∀ i, i < len → (C i).length = 2 := fun i hi => (World.cells?_some (hC i (by omega))).2.1
  refine ⟨⟨some a, cap, rfl, hl, hm, flat2_len C len h2, fun h0 => ?_⟩, fun j hj => flat2_take C len h2 j hj⟩
  obtain ⟨b, off, spot⟩ := a
  have hc0 := (World.cells?_some (hC 0 (by omega))).2.2 0 (by omega)
  have hl0 := h2 0 h0
  obtain ⟨x0, hx0⟩ : ∃ x0, (C 0)[0]? = some x0 := ⟨(C 0)[0], by simp⟩
  rw [hx0] at hc0
  have hspot : spot = none := by simpa [Addr.add] using World.cell?_spot hc0
  subst hspot
  have e0 : ((⟨b, off, none⟩ : Addr).add (0 * 2)).add 0 = ⟨b, off, none⟩ := by simp [Addr.add]
  rw [e0] at hc0
  refine ⟨b, off, rfl, ?_, fun j x hj => ?_⟩
  · rcases Nat.lt_or_ge b W.heap.size with h | h
    · exact h
    · simp [World.cell?, Array.getElem?_eq_none h] at hc0
  · have hjl : j < len * 2 := by rw [← flat2_len C len h2]; exact (List.getElem?_eq_some_iff.1 hj).1
    have hk : j / 2 < len := by omega
    have hj2 : (j / 2) * 2 + j % 2 = j := by omega
    have h3 := flat2_at C len h2 (j / 2) hk (j % 2) (by omega)
    rw [hj2, hj] at h3
    have h4 := (World.cells?_some (hC (j / 2) (by omega))).2.2 (j % 2) (by omega)
    rw [← h3] at h4
    have e1 : ((⟨b, off, none⟩ : Addr).add (j / 2 * 2)).add (j % 2) = ⟨b, off + j, none⟩ := by
      have ea : ∀ o k : Nat, (⟨b, o, none⟩ : Addr).add k = ⟨b, o + k, none⟩ := fun o k => by simp [Addr.add]
      rw [ea, ea, Nat.add_assoc, hj2]
    rw [e1] at h4
    exact h4
theorem weights_inP {H : Type} {P : Program} {e : TypeId} {d : DataW H} {n : Nat} : ∀ {l : List (DataW H)}, d ∈ l → n ∈ d.weights P e → n ∈ DataW.weightsAll P e l
  | x :: r, hd, hn => by
    simp only [DataW.weightsAll, List.mem_append]
    rcases List.mem_cons.1 hd with rfl | h
    · exact .inl hn
    · exact .inr (weights_inP h hn)

section
variable {H : Type} {enc : TypeId × Value → H} {P : Program} {W : World} {held : Bool}
theorem open_rows2 {α : Type} [Inhabited α] {t e : TypeId} (ht : P.underlying t = some (.slice e)) (hc : P.cellsOf e = 2) (hbt : 1 ≤ P.bytesOf e) {K : World → Value → α → Prop} {Z : α → Nat → Prop} {fuel : Nat} {cs : List Value} {d : DataW H} {pl : List MemPlace}
    (h : DataW.trod enc P W 0 (fun _ => true) held fuel t cs = some (d, pl))
    (hel : ∀ n cs d pl, DataW.trod enc P W 0 (fun _ => true) held n e cs = some (d, pl) → ∃ (s : ByteArray) (u : Value) (x : α), cs = [.string s, u] ∧ K W u x ∧ ∀ B, (∀ n ∈ d.weights P e, n ≤ B) → s.size ≤ B ∧ Z x B) :
    ∃ (A : Option Addr) (cap : Nat) (qs : List (ByteArray × α)), cs = [.slice A qs.length cap] ∧ (∃ xs, IsR W (.slice A qs.length cap) 2 qs.length xs ∧ ∀ j (h : j < qs.length), ∃ u, (xs.drop (j * 2)).take 2 = [.string qs[j].1, u] ∧ K W u qs[j].2) ∧
      ∀ B, (∀ n ∈ d.weights P t, n ≤ B) → qs.length ≤ B ∧ ∀ q ∈ qs, q.1.size ≤ B ∧ Z q.2 B := by
  rcases open_slice ht h with ⟨hcs, _⟩ | ⟨a, len, cap, m, n, D, Pl, hcs, _, hl, hm, hm2, hx, hi⟩
  · exact ⟨none, 0, [], by simpa using hcs, ⟨[], ⟨none, 0, rfl, Nat.le_refl _, by decide, rfl, fun h => absurd h (by simp)⟩, fun j h => absurd h (by simp)⟩, fun B _ => ⟨Nat.zero_le _, fun q hq => by cases hq⟩⟩
  · obtain rfl : m = cap := by simpa using hm2
    rw [hc] at hi
    obtain ⟨f, hf⟩ := choose_lt (α := List Value × ByteArray × α) (n := m) (p := fun i x => W.cells? 0 (a.add (i * 2)) 2 = some x.1 ∧ ∃ u, x.1 = [.string x.2.1, u] ∧ K W u x.2.2 ∧ ∀ B, (∀ n ∈ (D i).weights P e, n ≤ B) → x.2.1.size ≤ B ∧ Z x.2.2 B) (fun i him => by
      obtain ⟨cs', h1, h2⟩ := hi i him
      obtain ⟨s, u, x, h3, h4, h5⟩ := hel _ _ _ _ h2
      exact ⟨(cs', s, x), h1, u, h3, h4, h5⟩)
    obtain ⟨h6, h7⟩ := isR_rows (C := fun i => (f i).1) hl hm (fun i him => (hf i him).1)
    refine ⟨some a, m, (List.range len).map fun i => (f i).2, by simpa using hcs, ⟨_, by simpa using h6, fun j hj => ?_⟩, fun B hB => ?_⟩
    · have hjl : j < len := by simpa using hj
      obtain ⟨_, u, h8, h9, _⟩ := hf j (by omega)
      refine ⟨u, ?_, ?_⟩
      · rw [h7 j hjl]; simpa using h8
      · simpa using h9
    · simp only [Prod.mk.injEq] at hx
      rw [hx.1] at hB
      simp only [DataW.weights, ht, List.mem_cons, List.mem_append] at hB
      refine ⟨?_, fun q hq => ?_⟩
      · have := hB _ (.inl rfl)
        simp only [List.length_map, List.length_range] at this ⊢
        exact Nat.le_trans (Nat.le_trans (Nat.le_add_right _ _) (Nat.le_mul_of_pos_right _ hbt)) this
      · obtain ⟨j, hj, rfl⟩ := List.mem_map.1 hq
        have hjl : j < len := List.mem_range.1 hj
        obtain ⟨_, u, _, _, h9⟩ := hf j (by omega)
        exact h9 B fun n hn => hB n (.inr (.inl (weights_inP (List.mem_map.2 ⟨j, hj, rfl⟩) hn)))
end
section
variable {H : Type} {enc : TypeId × Value → H} {W : World} {base : Nat} {held : Bool} {d : DataW H} {p : List MemPlace} {v : Value}
set_option maxRecDepth 100000 in
theorem trod_att (n : Nat) (cs : List Value) (d : DataW H) (pl : List MemPlace) (h : DataW.trod enc Tryz.prog W 0 (fun _ => true) held n 58 cs = some (d, pl)) :
    ∃ (s : ByteArray) (u : Value) (x : List UInt8), cs = [.string s, u] ∧ IsB W u x ∧ ∀ B, (∀ n ∈ d.weights Tryz.prog 58, n ≤ B) → s.size ≤ B ∧ x.length ≤ B := by
  obtain ⟨y0, y1, m, hx, hcl, h0, h1⟩ := trod_struct2 Tryz.underlying58 h
  have hC : Tryz.prog.cellsOf 58 = 2 := by kernel_rfl
  have c0 : Tryz.prog.cellsOf 9 = 1 := by kernel_rfl
  have c1 : Tryz.prog.cellsOf 33 = 1 := by kernel_rfl
  match cs, hcl.trans hC with
  | [a, b], _ =>
    simp only [c0, c1] at h0 h1
    obtain ⟨s, hs, hy0, hz⟩ := DataW.trod_string (by kernel_rfl : Tryz.prog.underlying 9 = some .string) h0
    have e0 : a = .string s := by simpa using hs
    subst e0
    simp only [Prod.mk.injEq] at hx
    have hS : ∀ B, (∀ n ∈ d.weights Tryz.prog 58, n ≤ B) → s.size ≤ B ∧ ∀ n ∈ y1.1.weights Tryz.prog 33, n ≤ B := fun B hB => by
      rw [hx.1] at hB
      simp only [DataW.weights, DataW.weightsEach, Tryz.underlying58, List.map, List.mem_append] at hB
      refine ⟨?_, fun n hn => hB n (.inr (.inl hn))⟩
      refine hB s.size (.inl ?_)
      rw [hy0]
      simp [DataW.weights]
    rcases open_ints ulB ulU8p (by kernel_rfl) h1 with ⟨hcs, _⟩ | ⟨x, ll, c, zs, hcs, _, hl, hm, hz1, hy1, hcell, hwz⟩
    · have e1 : b = .slice none 0 0 := by simpa using hcs
      subst e1
      exact ⟨s, _, [], rfl, IsB.nil_ W none 0 (Nat.zero_le _), fun B hB => ⟨(hS B hB).1, Nat.zero_le _⟩⟩
    · have e1 : b = .slice (some x) ll c := by simpa using hcs
      subst e1
      obtain ⟨l, hB, hll⟩ := isB_rowN hl hm (by simpa using hz1) hcell hwz
      refine ⟨s, _, l, rfl, hB, fun B hB => ⟨(hS B hB).1, ?_⟩⟩
      have hw := (hS B hB).2
      rw [hy1] at hw
      have hu8 : Tryz.prog.bytesOf 5 = 1 := by kernel_rfl
      simp only [DataW.weights, ulB, hu8, List.mem_cons] at hw
      have := hw _ (.inl rfl)
      simp only [if_true] at hz1
      simp [lits] at this
      omega
set_option maxRecDepth 100000 in
theorem open_atts (hval : Value.okWide Tryz.prog W .any base 29 v) (h : DataW.Trod enc Tryz.prog W 0 (fun _ => true) held 29 v d p) :
    ∃ r, IsQs W v r ∧ ∀ B, (∀ n ∈ d.weights Tryz.prog 29, n ≤ B) → BdR B r := by
  obtain ⟨a0, len0, cap0, rfl⟩ := okWide_slice ulAtO hval
  obtain ⟨fuel, hf⟩ := h
  obtain ⟨A, cap, qs, hcs, hQ, hZ⟩ := open_rows2 (K := IsB) (Z := fun l B => l.length ≤ B) ulAtO (by kernel_rfl) (of_decide_eq_true (by kernel_rfl)) hf trod_att
  simp [Value.cells] at hcs
  obtain ⟨rfl, rfl, rfl⟩ := hcs
  exact ⟨qs, hQ, fun B hB => (hZ B hB).2⟩
set_option maxRecDepth 100000 in
theorem open_bytes (hval : Value.okWide Tryz.prog W .any base 33 v) (h : DataW.Trod enc Tryz.prog W 0 (fun _ => true) held 33 v d p) : ∃ l, IsB W v l := by
  obtain ⟨a0, len0, cap0, rfl⟩ := okWide_slice ulB hval
  obtain ⟨fuel, hf⟩ := h
  rcases open_ints ulB ulU8p (by kernel_rfl) hf with ⟨hcs, _⟩ | ⟨x, l, c, zs, hcs, _, hl, hm, hz, _, hcell, hwz⟩
  · simp [Value.cells] at hcs
    obtain ⟨rfl, rfl, rfl⟩ := hcs
    exact ⟨[], IsB.nil_ W none 0 (Nat.zero_le _)⟩
  · simp [Value.cells] at hcs
    obtain ⟨rfl, rfl, rfl⟩ := hcs
    obtain ⟨l', h1, _⟩ := isB_rowN hl hm (by simpa using hz) hcell hwz
    exact ⟨l', h1⟩
end
end Go.Proofs.YtlmnmgokfnnbbaaGreatDoor
end
