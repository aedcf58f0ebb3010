/- The parts OpenP, OpenB of one proof, one behind the other. -/
import Derived.Test.YtjjkimjdmpeddaaGreatDoorK11
import Derived.Test.YtjjkimjdmpeddaaGreatDoorRows
import Derived.ShutString
import Derived.ChangeOld
import Derived.Deep.Slices
import Derived.Deep.Fields
import Derived.Deep.Matrix
import Derived.ChangeSame

/- The arguments of the laws of chapter 17, opened: policies. -/
section
set_option linter.unusedSimpArgs false
set_option linter.unusedVariables false
namespace Go.Proofs.YtjjkimjdmpeddaaGreatDoor
open Go.ChangeShapes Go.WideShapes Go.ChangeAt Go.RowKit Go.Cr Go.Deep
theorem ulU8p : Tryz.prog.underlying 5 = some (.int .u8) := by kernel_rfl
theorem isB_rowN {W : World} {x : Addr} {len cap : Nat} {zs : List Int} (hl : len ≤ cap) (hm : cap ≤ maxLen) (hz : zs.length = cap) (hcell : ∀ i, i < zs.length → W.cell? (x.add i) = some (.int .u8 (zs.getD i 0))) (hwz : ∀ n ∈ zs, (Lit.int .u8 n).wf = true) :
    ∃ l, IsB W (.slice (some x) len cap) l ∧ l.length = len := by
  have hlen : ((zs.take len).map fun n => UInt8.ofNat n.toNat).length = len := by simp; omega
  refine ⟨(zs.take len).map fun n => UInt8.ofNat n.toNat, ⟨some x, cap, by rw [hlen], by rw [hlen]; exact hl, hm, fun h0 => ?_⟩, hlen⟩
  rw [hlen] at h0
  obtain ⟨b, off, spot⟩ := x
  have hc := hcell 0 (by omega)
  have hspot : spot = none := by simpa [Addr.add] using World.cell?_spot hc
  subst hspot
  refine ⟨b, off, rfl, ?_, fun j hj => ?_⟩
  · rcases Nat.lt_or_ge b W.heap.size with h | h
    · exact h
    · have : (⟨b, off, none⟩ : Addr).add 0 = ⟨b, off, none⟩ := by simp [Addr.add]
      rw [this] at hc
      simp [World.cell?, Array.getElem?_eq_none h] at hc
  · rw [hlen] at hj
    have h1 := hcell j (by omega)
    have h2 : (⟨b, off, none⟩ : Addr).add j = ⟨b, off + j, none⟩ := by simp [Addr.add]
    rw [h2] at h1
    rw [h1]
    have hjz : j < zs.length := by omega
    have hw := hwz zs[j] (List.getElem_mem hjz)
    have h3 : 0 ≤ zs[j] ∧ zs[j] < 256 := by have e1 : IntKind.u8.min = 0 := rfl; have e2 : IntKind.u8.max = 255 := rfl; simp [Lit.wf] at hw; omega
    have h4 : zs.getD j 0 = zs[j] := by simp [List.getD, hjz]
    have h5 : bat ((zs.take len).map fun n => UInt8.ofNat n.toNat) j = zs[j] := by
      rw [bat_eq _ j (by rw [hlen]; exact hj)]
      simp only [List.getElem_map, List.getElem_take, bi_ofNat]
      omega
    rw [h4, h5]

theorem weights_inP {H : Type} {P : Program} {e : TypeId} {d : DataW H} {n : Nat} : ∀ {l : List (DataW H)}, d ∈ l → n ∈ d.weights P e → n ∈ DataW.weightsAll P e l
  | x :: r, hd, hn => by
    simp only [DataW.weightsAll, List.mem_append]
    rcases List.mem_cons.1 hd with rfl | h
    · exact .inl hn
    · exact .inr (weights_inP h hn)

section
variable {H : Type} {enc : TypeId × Value → H} {P : Program} {W : World} {held : Bool}
end
section
variable {H : Type} {enc : TypeId × Value → H} {W : World} {base : Nat} {held : Bool} {d : DataW H} {p : List MemPlace} {v : Value}
end
end Go.Proofs.YtjjkimjdmpeddaaGreatDoor
end

/- The arguments of the laws of chapter 17, opened: bytes. -/
section
set_option linter.unusedSimpArgs false
set_option linter.unusedVariables false
namespace Go.Proofs.YtjjkimjdmpeddaaGreatDoor
open Go.ChangeShapes Go.WideShapes Go.ChangeAt Go.RowKit Go.Cr Go.Deep
section
variable {H : Type} {enc : TypeId × Value → H} {W : World} {base : Nat} {held : Bool} {d : DataW H} {p : List MemPlace} {v : Value}
set_option maxRecDepth 100000 in
theorem open_bytes (hval : Value.okWide Tryz.prog W .any base 32 v) (h : DataW.Trod enc Tryz.prog W 0 (fun _ => true) held 32 v d p) : ∃ l, IsB W v l := by
  obtain ⟨a0, len0, cap0, rfl⟩ := okWide_slice ulB hval
  obtain ⟨fuel, hf⟩ := h
  rcases open_ints ulB ulU8p (by kernel_rfl) hf with ⟨hcs, _⟩ | ⟨x, l, c, zs, hcs, _, hl, hm, hz, _, hcell, hwz⟩
  · simp [Value.cells] at hcs
    obtain ⟨rfl, rfl, rfl⟩ := hcs
    exact ⟨[], IsB.nil_ W none 0 (Nat.zero_le _)⟩
  · simp [Value.cells] at hcs
    obtain ⟨rfl, rfl, rfl⟩ := hcs
    obtain ⟨l', h1, _⟩ := isB_rowN hl hm (by simpa using hz) hcell hwz
    exact ⟨l', h1⟩
end
end Go.Proofs.YtjjkimjdmpeddaaGreatDoor
end
