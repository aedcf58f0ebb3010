/- The parts Sit of one proof, one behind the other. -/
import Derived.Test.YtejmkefdcjachaaGreatDoorJ34
import Derived.Test.YtejmkefdcjachaaGreatDoorJ38

/- What stays while a law of chapter 11 runs. -/
section
set_option linter.unusedSimpArgs false
set_option linter.unusedVariables false
namespace Go.Proofs.YtejmkefdcjachaaGreatDoor
open Go.RowKit Go.Cr

structure Sit (w W : World) (s : ByteArray) (A : Option Addr) (l : List UInt8) (k : Nat) : Prop where
  glo : Glo W
  isb : IsB W (.slice A l.length k) l
  blk : Blk W w.heap.size 37 #[.string s, .slice A l.length k]
  bel : Below w.heap.size w W
theorem Sit.new {w : World} {s : ByteArray} {A : Option Addr} {l : List UInt8} {k : Nat} (hG : Glo w) (h : IsB w (.slice A l.length k) l) : Sit w (w.alloc (.cells #[.string s, .slice A l.length k] 37)) s A l k :=
  ⟨hG.alloc _, h.alloc _, Blk.new _ _ _, (Below.refl _ _).alloc (Nat.le_refl _) _⟩
theorem Sit.lt {w W : World} {s : ByteArray} {A : Option Addr} {l : List UInt8} {k : Nat} (h : Sit w W s A l k) : w.heap.size < W.heap.size := h.blk.lt
theorem Sit.call {w W W' : World} {s : ByteArray} {A : Option Addr} {l : List UInt8} {k : Nat} (h : Sit w W s A l k) (hb : Below W.heap.size W W') : Sit w W' s A l k :=
  ⟨h.glo.below hb, h.isb.below hb, h.blk.call hb, h.bel.trans (hb.mono (Nat.le_of_lt h.lt))⟩
theorem Sit.drew {w W : World} {s : ByteArray} {A : Option Addr} {l : List UInt8} {k : Nat} (h : Sit w W s A l k) : Sit w W.drew s A l k := h.call (Below.refl _ _).drew
theorem Sit.drewN {w W : World} {s : ByteArray} {A : Option Addr} {l : List UInt8} {k : Nat} (h : Sit w W s A l k) (n : Nat) : Sit w (W.drewN n) s A l k := h.call (below_drewN (Below.refl _ _) n)
theorem Sit.alloc {w W : World} {s : ByteArray} {A : Option Addr} {l : List UInt8} {k : Nat} (h : Sit w W s A l k) (o : Obj) : Sit w (W.alloc o) s A l k := h.call ((Below.refl _ _).alloc (Nat.le_refl _) o)
theorem Sit.q0 {w W : World} {s : ByteArray} {A : Option Addr} {l : List UInt8} {k : Nat} (h : Sit w W s A l k) : W.cell? ⟨w.heap.size, 0, none⟩ = some (.string s) := h.blk.q 0
theorem Sit.q1 {w W : World} {s : ByteArray} {A : Option Addr} {l : List UInt8} {k : Nat} (h : Sit w W s A l k) : W.cell? ⟨w.heap.size, 1, none⟩ = some (.slice A l.length k) := h.blk.q 1
theorem Sit.all {w W : World} {s : ByteArray} {A : Option Addr} {l : List UInt8} {k : Nat} (h : Sit w W s A l k) : Sit w W s A l k ∧ W.cell? ⟨w.heap.size, 0, none⟩ = some (.string s) ∧ W.cell? ⟨w.heap.size, 1, none⟩ = some (.slice A l.length k) := ⟨h, h.q0, h.q1⟩
end Go.Proofs.YtejmkefdcjachaaGreatDoor
end
