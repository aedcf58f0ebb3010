/- The parts OpenA of one proof, one behind the other. -/
import Derived.Test.YtejmkefdcjachaaGreatDoorJ39
import Derived.ShutString
import Derived.ChangeOld
import Derived.Deep.Slices
import Derived.Deep.Fields
import Derived.Deep.Matrix
import Derived.ChangeSame

/- The arguments of the laws of chapter 11, opened. -/
section
set_option linter.unusedSimpArgs false
set_option linter.unusedVariables false
namespace Go.Proofs.YtejmkefdcjachaaGreatDoor
open Go.ChangeShapes Go.WideShapes Go.ChangeAt Go.RowKit Go.Cr Go.Deep

/-- Bytes of a row of numbers. -/
theorem isB_row {W : World} {x : Addr} {len cap : Nat} {zs : List Int} (hl : len ≤ cap) (hm : cap ≤ maxLen) (hz : zs.length = cap) (hcell : ∀ i, i < zs.length → W.cell? (x.add i) = some (.int .u8 (zs.getD i 0))) (hwz : ∀ n ∈ zs, (Lit.int .u8 n).wf = true) :
    ∃ l, IsB W (.slice (some x) len cap) l := by
  have hlen : ((zs.take len).map fun n => UInt8.ofNat n.toNat).length = len := by simp; omega
  refine ⟨(zs.take len).map fun n => UInt8.ofNat n.toNat, some x, cap, by rw [hlen], by rw [hlen]; exact hl, hm, fun h0 => ?_⟩
  rw [hlen] at h0
  obtain ⟨b, off, spot⟩ := x
  have hc := hcell 0 (by omega)
  have hspot : spot = none := by simpa [Addr.add] using World.cell?_spot hc
  subst hspot
  refine ⟨b, off, rfl, ?_, fun j hj => ?_⟩
  · rcases Nat.lt_or_ge b W.heap.size with h | h
    · exact h
    · have : (⟨b, off, none⟩ : Addr).add 0 = ⟨b, off, none⟩ := by simp [Addr.add]
      rw [this] at hc
      simp [World.cell?, Array.getElem?_eq_none h] at hc
  · rw [hlen] at hj
    have h1 := hcell j (by omega)
    have h2 : (⟨b, off, none⟩ : Addr).add j = ⟨b, off + j, none⟩ := by simp [Addr.add]
    rw [h2] at h1
    rw [h1]
    have hjz : j < zs.length := by omega
    have hw := hwz zs[j] (List.getElem_mem hjz)
    have h3 : 0 ≤ zs[j] ∧ zs[j] < 256 := by have e1 : IntKind.u8.min = 0 := rfl; have e2 : IntKind.u8.max = 255 := rfl; simp [Lit.wf] at hw; omega
    have h4 : zs.getD j 0 = zs[j] := by simp [List.getD, hjz]
    have h5 : bat ((zs.take len).map fun n => UInt8.ofNat n.toNat) j = zs[j] := by
      rw [bat_eq _ j (by rw [hlen]; exact hj)]
      simp only [List.getElem_map, List.getElem_take, bi_ofNat]
      omega
    rw [h4, h5]

section
variable {H : Type} {enc : TypeId × Value → H} {W : World} {base : Nat} {held : Bool} {d : DataW H} {p : List MemPlace} {v : Value}
set_option maxRecDepth 100000 in
theorem open_bytes (hval : Value.okWide Tryz.prog W .any base 22 v) (h : DataW.Trod enc Tryz.prog W 0 (fun _ => true) held 22 v d p) : ∃ l, IsB W v l := by
  obtain ⟨a0, len0, cap0, rfl⟩ := okWide_slice ulB hval
  obtain ⟨fuel, hf⟩ := h
  rcases open_ints ulB ulU8 (by kernel_rfl) hf with ⟨hcs, _⟩ | ⟨x, l, c, zs, hcs, _, hl, hm, hz, _, hcell, hwz⟩
  · simp [Value.cells] at hcs
    obtain ⟨rfl, rfl, rfl⟩ := hcs
    exact ⟨[], isB_nil0 W⟩
  · simp [Value.cells] at hcs
    obtain ⟨rfl, rfl, rfl⟩ := hcs
    exact isB_row hl hm (by simpa using hz) hcell hwz
set_option maxRecDepth 100000 in
theorem open_attr (hval : Value.okWide Tryz.prog W .any base 37 v) (h : DataW.Trod enc Tryz.prog W 0 (fun _ => true) held 37 v d p) : ∃ s x l, v = .agg #[.string s, x] ∧ s.size ≤ maxLen ∧ IsB W x l := by
  obtain ⟨⟨cl⟩, rfl, hsz⟩ := okWide_struct Tryz.underlying37 hval
  obtain ⟨fuel, hf⟩ := h
  obtain ⟨y0, y1, n, _, hcl, h0, h1⟩ := trod_struct2 Tryz.underlying37 hf
  have hC : Tryz.prog.cellsOf 37 = 2 := by kernel_rfl
  have c0 : Tryz.prog.cellsOf 9 = 1 := by kernel_rfl
  have c1 : Tryz.prog.cellsOf 22 = 1 := by kernel_rfl
  match cl, hsz.trans hC with
  | [a, b], _ =>
    simp only [c0, c1, Value.cells] at h0 h1
    obtain ⟨s, hs, _, hz⟩ := DataW.trod_string (by kernel_rfl : Tryz.prog.underlying 9 = some .string) h0
    have e0 : a = .string s := by simpa using hs
    subst e0
    rcases open_ints ulB ulU8 (by kernel_rfl) h1 with ⟨hcs, _⟩ | ⟨x, ll, c, zs, hcs, _, hl, hm, hz1, _, hcell, hwz⟩
    · have e1 : b = .slice none 0 0 := by simpa using hcs
      subst e1
      exact ⟨s, _, [], rfl, hz, isB_nil0 W⟩
    · have e1 : b = .slice (some x) ll c := by simpa using hcs
      subst e1
      obtain ⟨l, hB⟩ := isB_row hl hm (by simpa using hz1) hcell hwz
      exact ⟨s, _, l, rfl, hz, hB⟩
end
end Go.Proofs.YtejmkefdcjachaaGreatDoor
end
