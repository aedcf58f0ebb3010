/- The parts KitF of one proof, one behind the other. -/
import Derived.Test.YtlmnmgokfnnbbaaGreatDoorQ01
import Derived.Test.YtlmnmgokfnnbbaaGreatDoorQ06
import Derived.Lib.LaidTab

/- Rows of unsigned numbers; the library's package-level variables that the calls read, and that they last. -/
section
set_option linter.unusedSimpArgs false
set_option linter.unusedVariables false
namespace Go.Cr
open Go.RowKit
def uCells (k : IntKind) (ns : List Nat) : List Value := ns.map fun (a : Nat) => .int k (a : Int)
theorem uCells_app (k : IntKind) (a b : List Nat) : uCells k (a ++ b) = uCells k a ++ uCells k b := by simp [uCells]
theorem uCells_one (k : IntKind) (ns : List Nat) : ∀ u ∈ uCells k ns, u.oneCell' = true := by
  intro u hu; simp only [uCells, List.mem_map] at hu; obtain ⟨x, _, rfl⟩ := hu; rfl
theorem uCells_at (k : IntKind) (ns : List Nat) (j : Nat) (h : j < ns.length) : (uCells k ns)[j]? = some (.int k ((ns.getD j 0 : Nat) : Int)) := by
  simp [uCells, h]

def IsU (k : IntKind) (w : World) (v : Value) (ns : List Nat) : Prop := IsR w v 1 ns.length (uCells k ns)
theorem IsU.below {k : IntKind} {w w' : World} {v : Value} {ns : List Nat} (h : IsU k w v ns) (hb : Below w.heap.size w w') : IsU k w' v ns := IsR.below h hb
theorem IsU.alloc {k : IntKind} {w : World} {v : Value} {ns : List Nat} (h : IsU k w v ns) (o : Obj) : IsU k (w.alloc o) v ns := IsR.alloc h o
theorem IsU.maxl {k : IntKind} {w : World} {v : Value} {ns : List Nat} (h : IsU k w v ns) : (ns.length : Int) ≤ 9223372036854775807 := IsR.maxl h
theorem IsU.of_own {k : IntKind} {w : World} {base : Nat} {e : TypeId} {v : Value} {ns : List Nat} (h : w.ownsRow base e 1 v ns.length (uCells k ns)) : IsU k w v ns := IsR.of_own h
theorem isU_slice {k : IntKind} {w : World} {v : Value} {ns : List Nat} (h : IsU k w v ns) : ∃ A c, v = .slice A ns.length c := by
  obtain ⟨A, c, rfl, _⟩ := h; exact ⟨A, c, rfl⟩
section
variable {P : Program} {k : IntKind} {w : World} {v : Value} {ns : List Nat} {t e : TypeId}
theorem IsU.len (h : IsU k w v ns) (ht : P.underlying t = some (.slice e)) : ∀ (ty : TypeId) (W : World), (Builtin.len_ #[t] ty #[v]).run P W = .ok (.int .i64 ns.length) W := IsR.len h ht
theorem IsU.at_ (h : IsU k w v ns) (ht : P.underlying t = some (.slice e)) (hs : ∀ W, (sizeOf e).run P W = .ok 1 W) (kd : IntKind) {i : Int} (h0 : 0 ≤ i) (h1 : i < ns.length) :
    ∃ b o, (∀ W : World, (Instr.indexAt t v (.int kd i)).run P W = .ok (.pointer (some ⟨b, o, none⟩)) W) ∧ b < w.heap.size ∧ w.cell? ⟨b, o, none⟩ = some (.int k ((ns.getD i.toNat 0 : Nat) : Int)) := by
  obtain ⟨b, o, hi, hb, hc⟩ := IsR.at_ h ht hs kd h0 h1
  refine ⟨b, o, hi, hb, ?_⟩
  have := hc 0 _ (by rw [Nat.mul_one, Nat.add_zero]; exact uCells_at k ns i.toNat (by omega))
  simpa using this
theorem IsR.cutLo {n : Nat} {xs : List Value} (h : IsR w v 1 n xs) (ht : P.underlying t = some (.slice e)) (hs : ∀ W, (sizeOf e).run P W = .ok 1 W) (kd : IntKind) {lo : Int} (h0 : 0 ≤ lo) (h1 : lo ≤ n) :
    ∃ v', (∀ W : World, (Instr.slice t v (some (.int kd lo)) none none).run P W = .ok v' W) ∧ IsR w v' 1 (n - lo.toNat) (xs.drop lo.toNat) := by
  obtain ⟨A, c, rfl, h2, h3, h4, h5⟩ := h
  refine ⟨.slice (if c = lo.toNat then A else A.map (·.add lo.toNat)) (n - lo.toNat) (c - lo.toNat), fun W => ?_, ?_⟩
  · have hi : (0 ≤ lo ∧ lo ≤ (n : Int)) := ⟨h0, h1⟩
    simp only [Instr.slice, Instr.sliceBounds, Instr.sliceBound, asIntOf, Sem.run_bind, Sem.run_pure, Result.andThen, run_underlying ht, if_pos hi, hs, Nat.mul_one]
  · refine ⟨_, _, rfl, by omega, by unfold maxLen at *; omega, by simp [h4], fun hn => ?_⟩
    have hne : c ≠ lo.toNat := by clear h5; omega
    obtain ⟨b, off, rfl, hb, hc⟩ := h5 (by omega)
    rw [if_neg hne]
    by_cases hz : lo.toNat = 0
    · refine ⟨b, off, by simp [hz, Addr.add], hb, fun j x hj => ?_⟩
      rw [hz, List.drop_zero] at hj
      exact hc j x hj
    · refine ⟨b, off + lo.toNat, by simp [Addr.add, hz], hb, fun j x hj => ?_⟩
      rw [List.getElem?_drop] at hj
      rw [Nat.add_assoc]
      exact hc _ x hj
end
theorem cell_below {w w' : World} (hb : Below w.heap.size w w') {a : Addr} {v : Value} (hc : w.cell? a = some v) : w'.cell? a = some v := (hb.cell (World.block_lt_of_cell? w a hc)).trans hc
end Go.Cr
namespace Go.Proofs.YtlmnmgokfnnbbaaGreatDoor
open Go.RowKit Go.Cr
structure Glo (w : World) : Prop where
  maxlen : ∃ m, w.cell? ⟨0, 0, none⟩ = some (.int .i64 m)
  syn : ∃ t p, w.cell? ⟨3, 0, none⟩ = some (.iface t p)
  rng : ∃ t p, w.cell? ⟨4, 0, none⟩ = some (.iface t p)
  pow : Lib.TabIs Tryz.prog w "internal/strconv.uint64pow10" .u64 Lib.pow10Tab
  utf : Lib.Utf8Tabs 1 2 w

theorem gPow : Tryz.prog.globalNamed "internal/strconv.uint64pow10" = some 5 := by kernel_rfl
theorem Glo.below {w w' : World} (h : Glo w) (hb : Below w.heap.size w w') : Glo w' := by
  obtain ⟨⟨m, hm⟩, ⟨t, p, hs⟩, ⟨t', p', hr⟩, hp, hu1, hu2⟩ := h
  refine ⟨⟨m, cell_below hb hm⟩, ⟨t, p, cell_below hb hs⟩, ⟨t', p', cell_below hb hr⟩, ?_, fun c hc => cell_below hb (hu1 c hc), fun i hi => ⟨cell_below hb (hu2 i hi).1, cell_below hb (hu2 i hi).2⟩⟩
  unfold Lib.TabIs World.var? at hp ⊢
  rw [gPow] at hp ⊢
  simp only [Option.bind_some] at hp ⊢
  have hlt : 5 < w.heap.size := by
    rcases Nat.lt_or_ge 5 w.heap.size with h' | h'
    · exact h'
    · rw [Array.getElem?_eq_none h'] at hp; cases hp
  rw [hb.block _ hlt]
  exact hp
theorem Glo.alloc {w : World} (h : Glo w) (o : Obj) : Glo (w.alloc o) := h.below ((Below.refl _ _).alloc (Nat.le_refl _) o)
theorem Glo.drewN {w : World} (h : Glo w) (n : Nat) : Glo (w.drewN n) := h.below (below_drewN (Below.refl _ _) n)
end Go.Proofs.YtlmnmgokfnnbbaaGreatDoor
end
