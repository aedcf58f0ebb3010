/- What the laws' rows need besides the walks: arguments opened. -/
import Derived.Test.YtecbphbnacbepaaAwake
import Derived.WalkKit
import Derived.ProofKit
import Derived.OpenShut
import Derived.ShutString
import Derived.ChangeOld
import Derived.Below
import Derived.Deep.Slices
import Derived.Deep.Fields
import Derived.Deep.Matrix
import Derived.ChangeSame
set_option linter.unusedSimpArgs false
set_option linter.unusedVariables false
namespace Go.Proofs.Ytecbphbnacbepaa
open Go.ChangeShapes Go.WideShapes Go.ChangeAt Go.RowKit Go.Cr Go.Deep

theorem lw_own : ownKnob Try.prog.godebug = none := by kernel_rfl
theorem lw_laidOut : laidOutB Try.prog = true := by kernel_rfl
theorem blk_in {w : World} {t : TypeId} {cs : Array Value} {g : Nat} (hg : g = w.heap.size) : Blk (w.alloc (.cells cs t)) g t cs := by subst hg; exact Blk.new w t cs

/-- Bytes of a row of numbers. -/
theorem isB_row {W : World} {x : Addr} {len cap : Nat} {zs : List Int} (hl : len ≤ cap) (hm : cap ≤ maxLen) (hz : zs.length = cap) (hcell : ∀ i, i < zs.length → W.cell? (x.add i) = some (.int .u8 (zs.getD i 0))) (hwz : ∀ n ∈ zs, (Lit.int .u8 n).wf = true) :
    ∃ l, IsB W (.slice (some x) len cap) l := by
  have hlen : ((zs.take len).map fun n => UInt8.ofNat n.toNat).length = len := by simp; omega
  refine ⟨(zs.take len).map fun n => UInt8.ofNat n.toNat, some x, cap, by rw [hlen], by rw [hlen]; exact hl, hm, fun h0 => ?_⟩
  rw [hlen] at h0
  obtain ⟨b, off, spot⟩ := x
  have hc := hcell 0 (by omega)
  have hspot : spot = none := by simpa [Addr.add] using World.cell?_spot hc
  subst hspot
  refine ⟨b, off, rfl, ?_, fun j hj => ?_⟩
  · rcases Nat.lt_or_ge b W.heap.size with h | h
    · exact h
    · have : (⟨b, off, none⟩ : Addr).add 0 = ⟨b, off, none⟩ := by simp [Addr.add]
      rw [this] at hc
      simp [World.cell?, Array.getElem?_eq_none h] at hc
  · rw [hlen] at hj
    have h1 := hcell j (by omega)
    have h2 : (⟨b, off, none⟩ : Addr).add j = ⟨b, off + j, none⟩ := by simp [Addr.add]
    rw [h2] at h1
    rw [h1]
    have hjz : j < zs.length := by omega
    have hw := hwz zs[j] (List.getElem_mem hjz)
    have h3 : 0 ≤ zs[j] ∧ zs[j] < 256 := by have e1 : IntKind.u8.min = 0 := rfl; have e2 : IntKind.u8.max = 255 := rfl; simp [Lit.wf] at hw; omega
    have h4 : zs.getD j 0 = zs[j] := by simp [List.getD, hjz]
    have h5 : bat ((zs.take len).map fun n => UInt8.ofNat n.toNat) j = zs[j] := by
      rw [bat_eq _ j (by rw [hlen]; exact hj)]
      simp only [List.getElem_map, List.getElem_take, bi_ofNat]
      omega
    rw [h4, h5]

theorem weights_in {H : Type} {P : Program} {e : TypeId} {d : DataW H} {n : Nat} : ∀ {l : List (DataW H)}, d ∈ l → n ∈ d.weights P e → n ∈ DataW.weightsAll P e l
  | x :: r, hd, hn => by
    simp only [DataW.weightsAll, List.mem_append]
    rcases List.mem_cons.1 hd with rfl | h
    · exact .inl hn
    · exact .inr (weights_in h hn)

section
variable {H : Type} {enc : TypeId × Value → H} {W : World} {base : Nat} {held : Bool} {d : DataW H} {p : List MemPlace} {v : Value}
set_option maxRecDepth 100000 in
theorem open_bytes (hval : Value.okWide Try.prog W .any base 30 v) (h : DataW.Trod enc Try.prog W 0 (fun _ => true) held 30 v d p) : ∃ l, IsB W v l := by
  obtain ⟨a0, len0, cap0, rfl⟩ := okWide_slice ulB hval
  obtain ⟨fuel, hf⟩ := h
  rcases open_ints ulB ulU8 (by kernel_rfl) hf with ⟨hcs, _⟩ | ⟨x, l, c, zs, hcs, _, hl, hm, hz, _, hcell, hwz⟩
  · simp [Value.cells] at hcs
    obtain ⟨rfl, rfl, rfl⟩ := hcs
    exact ⟨[], IsB.none_ W⟩
  · simp [Value.cells] at hcs
    obtain ⟨rfl, rfl, rfl⟩ := hcs
    exact isB_row hl hm (by simpa using hz) hcell hwz
set_option maxRecDepth 100000 in
theorem open_bss (hval : Value.okWide Try.prog W .any base 38 v) (h : DataW.Trod enc Try.prog W 0 (fun _ => true) held 38 v d p) :
    ∃ ls, IsBs W v ls ∧ ∀ B, (∀ n ∈ d.weights Try.prog 38, n ≤ B) → ∀ l ∈ ls, l.length ≤ B := by
  obtain ⟨a0, len0, cap0, rfl⟩ := okWide_slice ulBs hval
  obtain ⟨fuel, hf⟩ := h
  rcases open_int_rows ulBs ulB ulU8 (by kernel_rfl) (by kernel_rfl) hf with ⟨hcs, _⟩ | ⟨x, len, cap, A, L, C, Z, hcs, _, hl, hm, hx, hrow⟩
  · simp [Value.cells] at hcs
    obtain ⟨rfl, rfl, rfl⟩ := hcs
    exact ⟨[], IsBs.nil_ W, fun B _ l hl => by cases hl⟩
  · simp [Value.cells] at hcs
    obtain ⟨rfl, rfl, rfl⟩ := hcs
    have hr : ∀ r, r < cap0 → ∃ l, IsB W (.slice (A r) (L r) (C r)) l := fun r hr => by
      obtain ⟨_, hLC, hCm, hZ, hwf, hn, hs⟩ := hrow r hr
      cases hA : A r with
      | none =>
        have := hn hA
        have h0 : L r = 0 := by omega
        rw [h0]
        exact ⟨[], IsB.nil_ W none _ hCm⟩
      | some a => exact isB_row hLC hCm hZ (fun i hi => (hs a hA).2 i (by omega)) hwf
    obtain ⟨f, hf⟩ := choose_lt (n := cap0) (p := fun r l => IsB W (.slice (A r) (L r) (C r)) l) hr
    refine ⟨(List.range len0).map f, ⟨(List.range len0).map fun r => .slice (A r) (L r) (C r), ⟨some x, cap0, by simp, by simpa using hl, hm, by simp, fun h0 => ?_⟩, fun j hj => ?_⟩, fun B hB l hl' => ?_⟩
    · have h0' : 0 < len0 := by simpa using h0
      obtain ⟨b, off, spot⟩ := x
      have hc := (hrow 0 (by omega)).1
      have hspot : spot = none := by simpa [Addr.add] using World.cell?_spot hc
      subst hspot
      refine ⟨b, off, rfl, ?_, fun j u hj => ?_⟩
      · rcases Nat.lt_or_ge b W.heap.size with h | h
        · exact h
        · have : (⟨b, off, none⟩ : Addr).add 0 = ⟨b, off, none⟩ := by simp [Addr.add]
          rw [this] at hc
          simp [World.cell?, Array.getElem?_eq_none h] at hc
      · have hjl : j < len0 := by have := (List.getElem?_eq_some_iff.1 hj).1; simpa using this
        have h1 := (hrow j (by omega)).1
        have h2 : (⟨b, off, none⟩ : Addr).add j = ⟨b, off + j, none⟩ := by simp [Addr.add]
        rw [h2] at h1
        rw [h1, ← hj]
        simp [hjl]
    · have hjl : j < len0 := by simpa using hj
      have := hf j (by omega)
      simpa [List.getD, hjl] using this
    · simp only [List.mem_map, List.mem_range] at hl'
      obtain ⟨r, hrl, rfl⟩ := hl'
      have hlen : (f r).length = L r := by have := (hf r (by omega)).len_eq; omega
      obtain ⟨_, hLC, hCm, hZ, hwf, hn, hs⟩ := hrow r (by omega)
      rw [hlen]
      cases hA : A r with
      | none => have := hn hA; omega
      | some a =>
        refine Nat.le_trans ?_ (hB (L r + (C r - L r)) ?_)
        · omega
        · simp only [Prod.mk.injEq] at hx
          rw [hx.1]
          have hu8 : Try.prog.bytesOf 5 = 1 := by kernel_rfl
          have hin : (intRow .u8 (A r) (L r) (Z r) : DataW H) ∈ (List.range len0).map fun r => intRow .u8 (A r) (L r) (Z r) := List.mem_map.2 ⟨r, List.mem_range.2 hrl, rfl⟩
          have hw : L r + (C r - L r) ∈ (intRow .u8 (A r) (L r) (Z r) : DataW H).weights Try.prog 30 := by
            simp only [intRow, hA, DataW.weights, ulB, hu8]
            refine List.mem_cons.2 (.inl ?_)
            simp [lits, hZ]; omega
          simp only [DataW.weights, ulBs, List.mem_cons, List.mem_append]
          exact .inr (.inl (weights_in hin hw))
theorem ulPair : Try.prog.underlying 23 = some (.array 2 3) := by kernel_rfl
set_option maxRecDepth 100000 in
theorem open_pair (hval : Value.okWide Try.prog W .any base 23 v) (h : DataW.Trod enc Try.prog W 0 (fun _ => true) held 23 v d p) : ∃ a b, v = .agg #[.int .i64 a, .int .i64 b] := by
  simp only [Value.okWide, ulPair] at hval
  obtain ⟨cs, rfl, hsz, _⟩ := hval
  obtain ⟨fuel, hf⟩ := h
  obtain ⟨xs, m, _, _, _, hx, hi⟩ := DataW.trod_array ulPair hf
  obtain ⟨l⟩ := cs
  have hC : Try.prog.cellsOf 23 = 2 := by kernel_rfl
  have h1 : Try.prog.cellsOf 3 = 1 := by kernel_rfl
  match l, hsz.trans hC, xs, hx with
  | [c0, c1], _, [y0, y1], _ =>
    have e0 := hi 0 (by decide)
    have e1 := hi 1 (by decide)
    simp only [h1] at e0 e1
    obtain ⟨a, ha, _⟩ := DataW.trod_int ulInt (x := y0) (by simpa [Value.cells] using e0)
    obtain ⟨b, hb, _⟩ := DataW.trod_int ulInt (x := y1) (by simpa [Value.cells] using e1)
    simp at ha hb
    exact ⟨a, b, by rw [ha, hb]⟩
end

def elsOf : Except Err (List Elem) → List Elem
  | .ok xs => xs
  | .error _ => []
def errOf {α : Type} : Except Err α → Err
  | .ok _ => (0, 0)
  | .error e => e
theorem RetL.get {r : Except Err (List Elem)} {w : World} {e : Ending} {w' : World} (h : RetL r w e w') :
    ∃ o, e = .returned (.tuple #[o, errV (errOf r)]) ∧ IsR w' o 6 (elsOf r).length (elCells (elsOf r)) ∧ Below w.heap.size w w' := by
  obtain ⟨hb, ⟨er, rfl, rfl⟩ | ⟨xs, o, rfl, rfl, h3⟩⟩ := h
  · exact ⟨_, rfl, ⟨none, 0, rfl, Nat.le_refl _, by decide, rfl, fun h => absurd h (by simp [elsOf])⟩, hb⟩
  · exact ⟨_, rfl, IsR.of_own h3, hb⟩

/-- What Wrap builds, and its code. -/
def wB (c : Int) (k : Bool) (n : Int) (l : List UInt8) : List UInt8 := if 0 ≤ c ∧ c ≤ 3 ∧ 0 ≤ n ∧ n < 31 then encO c k n l else []
def wC (c n : Int) : Int := if 0 ≤ c ∧ c ≤ 3 ∧ 0 ≤ n ∧ n < 31 then 0 else 9
theorem RetW.is_ {c : Int} {k : Bool} {n : Int} {l : List UInt8} {w : World} {e : Ending} {w' : World} (h : RetW c k n l w e w') :
    ∃ o, e = .returned (.tuple #[o, .int .i64 (wC c n)]) ∧ IsB w' o (wB c k n l) ∧ Below w.heap.size w w' := by
  unfold RetW at h
  unfold wC wB
  split at h
  · next hh =>
    obtain ⟨o, rfl, h1, h2⟩ := h
    rw [if_pos hh, if_pos hh]
    exact ⟨o, rfl, h1.isB, h2⟩
  · next hh =>
    obtain ⟨rfl, h2⟩ := h
    rw [if_neg hh, if_neg hh]
    exact ⟨_, rfl, IsB.none_ _, h2⟩
end Go.Proofs.Ytecbphbnacbepaa
