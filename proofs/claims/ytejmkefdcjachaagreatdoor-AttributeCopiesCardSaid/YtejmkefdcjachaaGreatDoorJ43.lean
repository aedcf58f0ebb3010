/- The parts LawKit of one proof, one behind the other. -/
import Derived.Test.YtejmkefdcjachaaGreatDoorJ41
import Derived.Test.YtejmkefdcjachaaGreatDoorJ42
import Derived.Deep.RegionHeld3

/- What the laws of chapter 11 share: bounds, a store into own bytes, two blocks laid one behind the other. -/
section
set_option linter.unusedSimpArgs false
set_option linter.unusedVariables false
namespace Go.Proofs.YtejmkefdcjachaaGreatDoor
open Go.RowKit Go.Cr Go.ChangeShapes Go.WideShapes Go.ChangeAt

theorem withinOk (n : Int) (w : World) : Calls Tryz.prog 32 #[.agg #[.int .i64 0, .int .i64 0], .int .i64 n] w (RetB (.bool true) w) := by
  go_enter Tryz.func32, Tryz.ntmps32
  go_wp2_with fail
  go_ret
  exact ⟨rfl, by ((repeat' (first | (with_reducible exact Below.refl _ _) | (with_reducible assumption) | (with_reducible refine Below.setCell ?_ ?_ _) | (with_reducible refine Below.alloc ?_ ?_ _) | (with_reducible refine Below.drew ?_) | (with_reducible refine below_drewN ?_ _) | (with_reducible refine Below.step (by with_reducible assumption) ?_ ?_))) <;> (first | omega | (simp; done) | (simp; omega)))⟩
theorem withinErr (c o n : Int) (w : World) (hc : 0 < c) (h0 : 0 ≤ o) (hn : o ≤ n) : Calls Tryz.prog 32 #[.agg #[.int .i64 c, .int .i64 o], .int .i64 n] w (RetB (.bool true) w) := by
  have hc0 : ¬ (c = 0) := by omega
  go_enter Tryz.func32, Tryz.ntmps32
  go_wp2_with fail
  go_ret
  exact ⟨rfl, by ((repeat' (first | (with_reducible exact Below.refl _ _) | (with_reducible assumption) | (with_reducible refine Below.setCell ?_ ?_ _) | (with_reducible refine Below.alloc ?_ ?_ _) | (with_reducible refine Below.drew ?_) | (with_reducible refine below_drewN ?_ _) | (with_reducible refine Below.step (by with_reducible assumption) ?_ ?_))) <;> (first | omega | (simp; done) | (simp; omega)))⟩
def AtS (S : ByteArray) (l : List UInt8) (x : Value) (w : World) (e : Ending) (w' : World) : Prop := ∃ A k, e = .returned (.tuple #[.agg #[.string S, .slice A l.length k], x]) ∧ OwB w' w.heap.size 5 (.slice A l.length k) l ∧ Below w.heap.size w w'
theorem marLen {s : ByteArray} {l c : List UInt8} (h : marA s.data.toList l = some c) (hs : s.size ≤ 200) (hl : l.length ≤ 1000) : 2 ≤ c.length ∧ c.length ≤ 3000 := by
  obtain ⟨o, ho, _, rfl⟩ := marA_some h
  have h1 := oidE_len ho
  have h2 : s.data.toList.length = s.size := rfl
  have h3 := encO_len 0 16 true (encO 0 false 6 o ++ l)
  have h4 := encO_len 0 6 false o
  have h5 := lenOct_len o.length
  have h6 := lenOct_len (encO 0 false 6 o ++ l).length
  rw [List.length_append] at h3 h6
  omega
theorem marBnd {b s l : List UInt8} (h : marA s l = some b) (hb : b.length ≤ 3000) : (bStr s).size ≤ 100000 ∧ l.length ≤ 3000 := by
  obtain ⟨o, ho, _, rfl⟩ := marA_some h
  have h1 := oidD_len ((oid_iff _ _).2 ho)
  have h3 := encO_len 0 16 true (encO 0 false 6 o ++ l)
  have h4 := encO_len 0 6 false o
  rw [List.length_append] at h3
  have h5 : (bStr s).size = s.length := rfl
  omega
theorem twoOld {w2 w3 : World} {X : Array Value} {Y : Array Value} {t u : TypeId} (hb3 : Below ((w2.alloc (.cells X t)).alloc (.cells Y u)).heap.size ((w2.alloc (.cells X t)).alloc (.cells Y u)) w3) :
    Blk w3 w2.heap.size t X ∧ Blk w3 (w2.heap.size + 1) u Y ∧ w2.heap.size < w3.heap.size ∧ w2.heap.size + 1 < w3.heap.size := by
  have h : Blk ((w2.alloc (.cells X t)).alloc (.cells Y u)) (w2.alloc (.cells X t)).heap.size u Y := Blk.new _ _ _
  rw [show (w2.alloc (.cells X t)).heap.size = w2.heap.size + 1 by simp] at h
  exact ⟨((Blk.new w2 _ _).alloc _).call hb3, h.call hb3, (((Blk.new w2 _ _).alloc _).call hb3).lt, (h.call hb3).lt⟩
/-- A store into own bytes. -/
theorem OwB.put {w : World} {base g cap : Nat} {l : List UInt8} {n : Nat} (h : OwB w base 5 (.slice (some ⟨g, 0, none⟩) n cap) l) (i : Nat) (x : Int) (h0 : 0 ≤ x) (h1 : x < 256) :
    OwB (w.setCell ⟨g, i, none⟩ (.int .u8 x)) base 5 (.slice (some ⟨g, 0, none⟩) n cap) (l.set i (UInt8.ofNat x.toNat)) := by
  have hX : bi (UInt8.ofNat x.toNat) = x := by rw [bi_ofNat]; omega
  obtain ⟨h2, ⟨h3, _⟩ | ⟨g', cap', cur, hv, hb, hh, hn, hm, hs, htk⟩⟩ := h
  · cases h3
  · injection hv with e1 e2 e3
    injection e1 with e1
    injection e1 with e1
    subst e1 e2 e3
    refine ⟨by simp [bCells_len], .inr ⟨g, cap, cur.setIfInBounds i (.int .u8 x), by simp, hb, heap_setCell_same w g i cur _ _ hh, by simpa using hn, hm, by simpa using hs, ?_⟩⟩
    rw [Array.toList_setIfInBounds, List.length_set, List.take_set, htk]
    simp [bCells, List.map_set, hX]
theorem OwB.row {w : World} {base : Nat} {v : Value} {l : List UInt8} (h : OwB w base 5 v l) (hl : 0 < l.length) : ∃ g cap, v = .slice (some ⟨g, 0, none⟩) l.length cap ∧ base ≤ g ∧ g < w.heap.size ∧ (∀ i, i < l.length → w.cell? ⟨g, i, none⟩ = some (.int .u8 (bat l i))) ∧ ∀ i, w.frozen? ⟨g, i, none⟩ = false := by
  have hI := h.isB
  obtain ⟨h2, ⟨h3, h4⟩ | ⟨g, cap, cur, hv, hb, hh, hn, hm, hs, htk⟩⟩ := h
  · omega
  · subst hv
    obtain ⟨A, c, e, h5, h6, h7⟩ := hI
    injection e with e1 e2 e3
    obtain ⟨b, off, e4, hlt, hc⟩ := h7 hl
    rw [← e1] at e4
    injection e4 with e4
    injection e4 with e5 e6
    subst e5 e6
    exact ⟨g, cap, rfl, hb, hlt, fun i hi => by have := hc i hi; rwa [Nat.zero_add] at this, fun i => by simp [World.frozen?, hh]⟩
theorem Sit.set {w W : World} {s : ByteArray} {A : Option Addr} {l : List UInt8} {k g i : Nat} {u : Value} (h : Sit w W s A l k) (hg : w.heap.size < g) (hG : Glo w) (h0 : IsB w (.slice A l.length k) l) : Sit w (W.setCell ⟨g, i, none⟩ u) s A l k := by
  have hb : Below w.heap.size w (W.setCell ⟨g, i, none⟩ u) := h.bel.setCell (Nat.le_of_lt hg) _
  exact ⟨hG.below hb, h0.below hb, h.blk.far (by simp; omega) _, hb⟩
end Go.Proofs.YtejmkefdcjachaaGreatDoor
end
