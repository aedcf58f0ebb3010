/- The parts LawPolM, LawPolP, LawKitP of one proof, one behind the other. -/
import Derived.Test.YtjjkimjdmpeddaaGreatDoorK12
import Derived.Test.YtjjkimjdmpeddaaGreatDoorK38
import Derived.Test.YtjjkimjdmpeddaaGreatDoorK39
import Derived.Test.YtjjkimjdmpeddaaGreatDoorK26
import Derived.Test.YtjjkimjdmpeddaaGreatDoorK11
import Derived.Test.YtjjkimjdmpeddaaGreatDoorK15
import Derived.Deep.QuietTactic
import Derived.BigQuiet

/- PolicyMarshals: the walk. -/
section
set_option linter.unusedSimpArgs false
set_option linter.unusedVariables false
namespace Go.Proofs.YtjjkimjdmpeddaaGreatDoor
open Go.RowKit Go.Cr
def RetPPy (ms : List Pol) (w : World) (e : Ending) (w' : World) : Prop := ∃ A k, e = .returned (.tuple #[.slice A ms.length k, errV (0, 0)]) ∧ IsPs w' (.slice A ms.length k) ms ∧ Below w.heap.size w w'
def RetPPn (L : Nat) (w : World) (e : Ending) (w' : World) : Prop := ∃ ec eo : Int, 0 < ec ∧ 0 ≤ eo ∧ eo ≤ L ∧ e = .returned (.tuple #[.slice none 0 0, errV (ec, eo)]) ∧ Below w.heap.size w w'
theorem RetPPs.yes {ms : List Pol} {L : Nat} {w w' : World} {e : Ending} (h : RetPPs (some ms) L w e w') : RetPPy ms w e w' := by
  obtain ⟨hb, A, k, he, ho⟩ := h
  exact ⟨A, k, he, isPs_of ho.isL, hb⟩
theorem RetPPs.no {L : Nat} {w w' : World} {e : Ending} (h : RetPPs none L w e w') : RetPPn L w e w' := by
  obtain ⟨hb, ec, eo, h1, h2, h3, he⟩ := h
  exact ⟨ec, eo, h1, h2, h3, he, hb⟩
end Go.Proofs.YtjjkimjdmpeddaaGreatDoor
namespace Go.Proofs.YtjjkimjdmpeddaaGreatDoor.PolMDone
open Go.RowKit Go.Cr
end Go.Proofs.YtjjkimjdmpeddaaGreatDoor.PolMDone
end

/- PolicyParses: the walk. -/
section
set_option linter.unusedSimpArgs false
set_option linter.unusedVariables false
namespace Go.Proofs.YtjjkimjdmpeddaaGreatDoor
open Go.RowKit Go.Cr
def RetRPq (ms : List Pol) (w : World) (e : Ending) (w' : World) : Prop := ∃ A k, e = .returned (.tuple #[.slice A ms.length k, .bool true]) ∧ IsPs w' (.slice A ms.length k) ms ∧ Below w.heap.size w w'
theorem RetRPp.yes {ms : List Pol} {w w' : World} {e : Ending} (h : RetRPp (some ms) w e w') : RetRPq ms w e w' := by
  obtain ⟨hb, A, k, he, ho⟩ := h
  exact ⟨A, k, he, ho, hb⟩
theorem RetRPp.no {w w' : World} {e : Ending} (h : RetRPp none w e w') : RetB (.tuple #[.slice none 0 0, .bool false]) w e w' := ⟨h.2, h.1⟩
end Go.Proofs.YtjjkimjdmpeddaaGreatDoor
namespace Go.Proofs.YtjjkimjdmpeddaaGreatDoor.PolPDone
open Go.RowKit Go.Cr
end Go.Proofs.YtjjkimjdmpeddaaGreatDoor.PolPDone
end

/- What the laws of chapter 17 share: a store into own bytes; an octet replaced. -/
section
set_option linter.unusedSimpArgs false
set_option linter.unusedVariables false
namespace Go.Proofs.YtjjkimjdmpeddaaGreatDoor
open Go.RowKit Go.Cr
theorem OwB.put {w : World} {base g cap : Nat} {l : List UInt8} {n : Nat} (h : OwB w base 5 (.slice (some ⟨g, 0, none⟩) n cap) l) (i : Nat) (x : Int) (h0 : 0 ≤ x) (h1 : x < 256) :
    OwB (w.setCell ⟨g, i, none⟩ (.int .u8 x)) base 5 (.slice (some ⟨g, 0, none⟩) n cap) (l.set i (UInt8.ofNat x.toNat)) := by
  have hX : bi (UInt8.ofNat x.toNat) = x := by rw [bi_ofNat]; omega
  obtain ⟨h2, ⟨h3, _⟩ | ⟨g', cap', cur, hv, hb, hh, hn, hm, hs, htk⟩⟩ := h
  · cases h3
  · injection hv with e1 e2 e3
    injection e1 with e1
    injection e1 with e1
    subst e1 e2 e3
    refine ⟨by simp [bCells_len], .inr ⟨g, cap, cur.setIfInBounds i (.int .u8 x), by simp, hb, heap_setCell_same w g i cur _ _ hh, by simpa using hn, hm, by simpa using hs, ?_⟩⟩
    rw [Array.toList_setIfInBounds, List.length_set, List.take_set, htk]
    simp [bCells, List.map_set, hX]
theorem OwB.row {w : World} {base : Nat} {v : Value} {l : List UInt8} (h : OwB w base 5 v l) (hl : 0 < l.length) : ∃ g cap, v = .slice (some ⟨g, 0, none⟩) l.length cap ∧ base ≤ g ∧ g < w.heap.size ∧ (∀ i, i < l.length → w.cell? ⟨g, i, none⟩ = some (.int .u8 (bat l i))) ∧ ∀ i, w.frozen? ⟨g, i, none⟩ = false := by
  have hI := h.isB
  obtain ⟨h2, ⟨h3, h4⟩ | ⟨g, cap, cur, hv, hb, hh, hn, hm, hs, htk⟩⟩ := h
  · omega
  · subst hv
    obtain ⟨A, c, e, h5, h6, h7⟩ := hI
    injection e with e1 e2 e3
    obtain ⟨b, off, e4, hlt, hc⟩ := h7 hl
    rw [← e1] at e4
    injection e4 with e4
    injection e4 with e5 e6
    subst e5 e6
    exact ⟨g, cap, rfl, hb, hlt, fun i hi => by have := hc i hi; rwa [Nat.zero_add] at this, fun i => by simp [World.frozen?, hh]⟩
theorem wf_u16 {a : Int} (h : (Lit.int .u16 a).wf = true) : 0 ≤ a ∧ a < 65536 := by have e1 : IntKind.u16.min = 0 := rfl; have e2 : IntKind.u16.max = 65535 := rfl; simp [Lit.wf] at h; omega
theorem wf_u8 {a : Int} (h : (Lit.int .u8 a).wf = true) : 0 ≤ a ∧ a < 256 := by have e1 : IntKind.u8.min = 0 := rfl; have e2 : IntKind.u8.max = 255 := rfl; simp [Lit.wf] at h; omega
theorem set_self {c : List UInt8} {i : Nat} (h : i < c.length) {x : Int} (hx : x = bat c i) : c.set i (UInt8.ofNat x.toNat) = c := by
  rw [hx, bat_eq c i h]
  have : UInt8.ofNat (bi c[i]).toNat = c[i] := by simp [bi]
  rw [this, List.set_getElem_self]
theorem set_back {c : List UInt8} {i : Nat} (h : i < c.length) {x : Int} (h0 : 0 ≤ x ∧ x < 256) (he : c.set i (UInt8.ofNat x.toNat) = c) : x = bat c i := by
  have hX : bi (UInt8.ofNat x.toNat) = x := by rw [bi_ofNat]; omega
  have h5 : c[i] = (c.set i (UInt8.ofNat x.toNat))[i]'(by simpa using h) := by congr 1; exact he.symm
  rw [bat_eq c i h, h5, List.getElem_set_self, hX]
end Go.Proofs.YtjjkimjdmpeddaaGreatDoor
end
