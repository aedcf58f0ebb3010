/- Plain words for memory: a slice of bytes that reads as a list, and how it is kept. No program in sight. -/
import Derived.WalkKit
import Derived.WalkSpells
import Derived.WalkLawsBesides
import Derived.Lib.Hide
import Derived.Deep.Draws
import Derived.Laws.Rows
set_option linter.unusedSimpArgs false
set_option linter.unusedVariables false
namespace Go.Cr
open Go.RowKit
end Go.Cr
namespace Go.RowKit
theorem Below.step {B : Nat} {a W w1 : World} (hb : Below W.heap.size W w1) (h : Below B a W) (hB : B ≤ W.heap.size) : Below B a w1 := h.trans (hb.mono hB)
end Go.RowKit
namespace Go.Cr
open Go.RowKit

/-- A byte's number. -/
def bi (x : UInt8) : Int := (x.toNat : Int)
theorem bi_lt (x : UInt8) : bi x < 256 := by have := x.toNat_lt; unfold bi; omega
theorem bi_pos (x : UInt8) : 0 ≤ bi x := by unfold bi; omega
theorem bi_inj {x y : UInt8} (h : bi x = bi y) : x = y := UInt8.toNat_inj.1 (by unfold bi at h; omega)
/-- The number at a place. -/
def bat (l : List UInt8) (j : Nat) : Int := bi (l.getD j 0)
theorem bat_lt (l : List UInt8) (j : Nat) : bat l j < 256 := bi_lt _
theorem bat_pos (l : List UInt8) (j : Nat) : 0 ≤ bat l j := bi_pos _
theorem bat_cons_zero (x : UInt8) (t : List UInt8) : bat (x :: t) 0 = bi x := rfl
theorem bat_cons_succ (x : UInt8) (t : List UInt8) (j : Nat) : bat (x :: t) (j + 1) = bat t j := by simp [bat]
theorem bat_drop (l : List UInt8) (k j : Nat) : bat (l.drop k) j = bat l (k + j) := by simp [bat, List.getElem?_drop]
theorem bat_take (l : List UInt8) (k j : Nat) (h : j < k) : bat (l.take k) j = bat l j := by simp [bat, List.getElem?_take, h]
theorem bat_eq (l : List UInt8) (j : Nat) (h : j < l.length) : bat l j = bi l[j] := by simp [bat, h]

/-- The slice value v reads as the bytes l. -/
def IsB (w : World) (v : Value) (l : List UInt8) : Prop :=
  ∃ (A : Option Addr) (c : Nat), v = .slice A l.length c ∧ l.length ≤ c ∧ c ≤ maxLen ∧
    (0 < l.length → ∃ b off, A = some ⟨b, off, none⟩ ∧ b < w.heap.size ∧ ∀ j, j < l.length → w.cell? ⟨b, off + j, none⟩ = some (.int .u8 (bat l j)))

theorem IsB.nil_ (w : World) (A : Option Addr) (c : Nat) (hc : c ≤ maxLen) : IsB w (.slice A 0 c) [] := ⟨A, c, rfl, Nat.zero_le _, hc, fun h => absurd h (by simp)⟩
theorem IsB.none_ (w : World) : IsB w (.slice none 0 0) [] := IsB.nil_ w none 0 (by decide)

theorem IsB.keep {w w' : World} {v : Value} {l : List UInt8} (h : IsB w v l) (hs : w.heap.size ≤ w'.heap.size) (hk : ∀ b o, b < w.heap.size → w'.cell? ⟨b, o, none⟩ = w.cell? ⟨b, o, none⟩) : IsB w' v l := by
  obtain ⟨A, c, rfl, h1, h2, h3⟩ := h
  refine ⟨A, c, rfl, h1, h2, fun hne => ?_⟩
  obtain ⟨b, off, rfl, hb, hc⟩ := h3 hne
  exact ⟨b, off, rfl, Nat.lt_of_lt_of_le hb hs, fun j hj => (hk _ _ hb).trans (hc j hj)⟩

theorem IsB.below {w w' : World} {v : Value} {l : List UInt8} (h : IsB w v l) (hb : Below w.heap.size w w') : IsB w' v l :=
  h.keep hb.size fun _ _ hlt => hb.cell hlt

theorem IsB.alloc {w : World} {v : Value} {l : List UInt8} (h : IsB w v l) (o : Obj) : IsB (w.alloc o) v l :=
  h.below ((Below.refl _ _).alloc (Nat.le_refl _) o)

theorem IsB.drew {w : World} {v : Value} {l : List UInt8} (h : IsB w v l) : IsB w.drew v l := h
theorem IsB.drewN {w : World} {v : Value} {l : List UInt8} (h : IsB w v l) (n : Nat) : IsB (w.drewN n) v l := h

/-- Opened for a walk: empty, or at an address. -/
theorem IsB.open_ {w : World} {v : Value} {l : List UInt8} (h : IsB w v l) :
    (∃ A c, l = [] ∧ v = .slice A 0 c ∧ c ≤ 9223372036854775807) ∨
    (∃ b off c, v = .slice (some ⟨b, off, none⟩) l.length c ∧ 0 < l.length ∧ l.length ≤ c ∧ c ≤ 9223372036854775807 ∧ b < w.heap.size ∧
      w.cell? ⟨b, off, none⟩ = some (.int .u8 (bat l 0)) ∧ ∀ j, j < l.length → w.cell? ⟨b, off + j, none⟩ = some (.int .u8 (bat l j))) := by
  obtain ⟨A, c, rfl, h1, h2, h3⟩ := h
  unfold maxLen at h2
  rcases Nat.eq_zero_or_pos l.length with hl | hl
  · obtain rfl := List.eq_nil_of_length_eq_zero hl; exact .inl ⟨A, c, rfl, rfl, h2⟩
  · obtain ⟨b, off, rfl, hb, hc⟩ := h3 hl
    exact .inr ⟨b, off, c, rfl, hl, h1, h2, hb, hc 0 hl, hc⟩

theorem IsB.mk_ {w : World} {b off c : Nat} {l : List UInt8} (h1 : l.length ≤ c) (h2 : c ≤ 9223372036854775807) (hb : b < w.heap.size)
    (hc : ∀ j, j < l.length → w.cell? ⟨b, off + j, none⟩ = some (.int .u8 (bat l j))) : IsB w (.slice (some ⟨b, off, none⟩) l.length c) l :=
  ⟨_, c, rfl, h1, h2, fun _ => ⟨b, off, rfl, hb, hc⟩⟩

theorem IsB.maxl {w : World} {v : Value} {l : List UInt8} (h : IsB w v l) : (l.length : Int) ≤ 9223372036854775807 := by
  obtain ⟨A, c, _, h1, h2, _⟩ := h; unfold maxLen at h2; omega

theorem IsB.len_eq {w : World} {A : Option Addr} {n c : Nat} {l : List UInt8} (h : IsB w (.slice A n c) l) : n = l.length := by
  obtain ⟨A', c', hv, _⟩ := h; injection hv

/-- s[lo:hi] or s[lo:hi:mx]: whatever the address is spelled. -/
theorem IsB.sub {w : World} {A0 : Option Addr} {n0 c : Nat} {l : List UInt8} (h : IsB w (.slice A0 n0 c) l) {lo hi c' : Nat} {A : Option Addr} {n : Nat} (h1 : lo ≤ hi) (h2 : hi ≤ l.length) (h3 : hi - lo ≤ c') (h4 : c' ≤ maxLen)
    (hn : n = hi - lo) (hA : lo < hi → ∀ b off, A0 = some ⟨b, off, none⟩ → A = some ⟨b, off + lo, none⟩) : IsB w (.slice A n c') ((l.drop lo).take (hi - lo)) := by
  have hlen : ((l.drop lo).take (hi - lo)).length = hi - lo := by simp; omega
  subst hn
  refine ⟨A, c', by rw [hlen], by omega, h4, fun hne => ?_⟩
  have hlt : lo < hi := by omega
  obtain ⟨A', c'', hv, _, _, h5⟩ := h
  injection hv with e1 e2 e3
  subst e1
  obtain ⟨b, off, rfl, hb, hc⟩ := h5 (by omega)
  refine ⟨b, off + lo, hA hlt b off rfl, hb, fun j hj => ?_⟩
  rw [show off + lo + j = off + (lo + j) by omega, bat_take _ _ _ (by omega), bat_drop]
  exact hc _ (by omega)

/-- s[lo:] -/
theorem IsB.from_ {w : World} {A0 : Option Addr} {n0 c : Nat} {l : List UInt8} (h : IsB w (.slice A0 n0 c) l) {lo c' : Nat} {A : Option Addr} {n : Nat} (h2 : lo ≤ l.length) (h3 : l.length - lo ≤ c') (h4 : c' ≤ maxLen)
    (hn : n = l.length - lo) (hA : lo < l.length → ∀ b off, A0 = some ⟨b, off, none⟩ → A = some ⟨b, off + lo, none⟩) : IsB w (.slice A n c') (l.drop lo) := by
  have := h.sub (lo := lo) (hi := l.length) (c' := c') (A := A) (n := n) h2 (Nat.le_refl _) h3 h4 hn hA
  rwa [List.take_of_length_le (by simp)] at this

/-! ### The run equations of a slice that is kept behind a letter. -/
section
variable {P : Program} {w : World} {v : Value} {l : List UInt8} {t e : TypeId}
theorem IsB.len (h : IsB w v l) (ht : P.underlying t = some (.slice e)) : ∀ (ty : TypeId) (W : World), (Builtin.len_ #[t] ty #[v]).run P W = .ok (.int .i64 l.length) W := by
  obtain ⟨A, c, rfl, _⟩ := h
  intro ty W
  simp [Builtin.len_, run_underlying ht, goInt]

theorem IsB.at_ (h : IsB w v l) (ht : P.underlying t = some (.slice e)) (hs : ∀ W, (sizeOf e).run P W = .ok 1 W) (k : IntKind) {i : Int} (h0 : 0 ≤ i) (h1 : i < l.length) :
    ∃ b o, (∀ W : World, (Instr.indexAt t v (.int k i)).run P W = .ok (.pointer (some ⟨b, o, none⟩)) W) ∧ b < w.heap.size ∧ w.cell? ⟨b, o, none⟩ = some (.int .u8 (bat l i.toNat)) := by
  obtain ⟨A, c, rfl, h2, h3, h4⟩ := h
  obtain ⟨b, off, rfl, hb, hc⟩ := h4 (by omega)
  refine ⟨b, off + i.toNat, fun W => ?_, hb, hc _ (by omega)⟩
  have hi : (0 ≤ i ∧ i < (l.length : Int)) := ⟨h0, h1⟩
  simp only [Instr.indexAt, asIntOf, Sem.run_bind, Sem.run_pure, Result.andThen, run_underlying ht, if_pos hi, hs, Nat.mul_one]
  simp [Addr.add]

theorem IsB.cutLo (h : IsB w v l) (ht : P.underlying t = some (.slice e)) (hs : ∀ W, (sizeOf e).run P W = .ok 1 W) (k : IntKind) {lo : Int} (h0 : 0 ≤ lo) (h1 : lo ≤ l.length) :
    ∃ v', (∀ W : World, (Instr.slice t v (some (.int k lo)) none none).run P W = .ok v' W) ∧ IsB w v' (l.drop lo.toNat) := by
  obtain ⟨A, c, rfl, h2, h3, h4⟩ := h
  refine ⟨.slice (if c = lo.toNat then A else A.map (·.add lo.toNat)) (l.length - lo.toNat) (c - lo.toNat), fun W => ?_, ?_⟩
  · have hi : (0 ≤ lo ∧ lo ≤ (l.length : Int)) := ⟨h0, h1⟩
    simp only [Instr.slice, Instr.sliceBounds, Instr.sliceBound, asIntOf, Sem.run_bind, Sem.run_pure, Result.andThen, run_underlying ht, if_pos hi, hs, Nat.mul_one]
  · refine IsB.from_ (A0 := A) (n0 := l.length) (c := c) ⟨A, c, rfl, h2, h3, h4⟩ (by omega) (by omega) (by omega) rfl ?_
    rintro hlt b off rfl
    by_cases hz : lo.toNat = 0
    · simp [hz, Addr.add]
    · clear h4; rw [if_neg (by omega)]; simp [Addr.add, hz]

theorem IsB.cut (h : IsB w v l) (ht : P.underlying t = some (.slice e)) (hs : ∀ W, (sizeOf e).run P W = .ok 1 W) (k k' : IntKind) {lo hi : Int} (h0 : 0 ≤ lo) (h1 : lo ≤ hi) (h2' : hi ≤ l.length) :
    ∃ v', (∀ W : World, (Instr.slice t v (some (.int k lo)) (some (.int k' hi)) none).run P W = .ok v' W) ∧ IsB w v' ((l.drop lo.toNat).take (hi - lo).toNat) := by
  obtain ⟨A, c, rfl, h2, h3, h4⟩ := h
  refine ⟨.slice (if c = lo.toNat then A else A.map (·.add lo.toNat)) (hi.toNat - lo.toNat) (c - lo.toNat), fun W => ?_, ?_⟩
  · have hi1 : (0 ≤ hi ∧ hi ≤ (c : Int)) := ⟨by omega, by omega⟩
    have hi2 : (0 ≤ lo ∧ lo ≤ (hi.toNat : Int)) := ⟨h0, by omega⟩
    simp only [Instr.slice, Instr.sliceBounds, Instr.sliceBound, asIntOf, Sem.run_bind, Sem.run_pure, Result.andThen, run_underlying ht, if_pos hi1, if_pos hi2, hs, Nat.mul_one]
  · rw [show (hi - lo).toNat = hi.toNat - lo.toNat by omega]
    refine IsB.sub (A0 := A) (n0 := l.length) (c := c) ⟨A, c, rfl, h2, h3, h4⟩ (by omega) (by omega) (by omega) (by omega) rfl ?_
    rintro hlt b off rfl
    by_cases hz : lo.toNat = 0
    · simp [hz, Addr.add]
    · clear h4; rw [if_neg (by omega)]; simp [Addr.add, hz]

theorem IsB.cut3 (h : IsB w v l) (ht : P.underlying t = some (.slice e)) (hs : ∀ W, (sizeOf e).run P W = .ok 1 W) (k k' k'' : IntKind) {lo hi : Int} (h0 : 0 ≤ lo) (h1 : lo ≤ hi) (h2' : hi ≤ l.length) :
    ∃ v', (∀ W : World, (Instr.slice t v (some (.int k lo)) (some (.int k' hi)) (some (.int k'' hi))).run P W = .ok v' W) ∧ IsB w v' ((l.drop lo.toNat).take (hi - lo).toNat) := by
  obtain ⟨A, c, rfl, h2, h3, h4⟩ := h
  refine ⟨.slice (if hi.toNat = lo.toNat then A else A.map (·.add lo.toNat)) (hi.toNat - lo.toNat) (hi.toNat - lo.toNat), fun W => ?_, ?_⟩
  · have hi0 : (0 ≤ hi ∧ hi ≤ (c : Int)) := ⟨by omega, by omega⟩
    have hi1 : (0 ≤ hi ∧ hi ≤ (hi.toNat : Int)) := ⟨by omega, by omega⟩
    have hi2 : (0 ≤ lo ∧ lo ≤ (hi.toNat : Int)) := ⟨h0, by omega⟩
    simp only [Instr.slice, Instr.sliceBounds, Instr.sliceBound, asIntOf, Sem.run_bind, Sem.run_pure, Result.andThen, run_underlying ht, if_pos hi0, if_pos hi1, if_pos hi2, hs, Nat.mul_one]
  · rw [show (hi - lo).toNat = hi.toNat - lo.toNat by omega]
    refine IsB.sub (A0 := A) (n0 := l.length) (c := c) ⟨A, c, rfl, h2, h3, h4⟩ (by omega) (by omega) (by omega) (by unfold maxLen at *; omega) rfl ?_
    rintro hlt b off rfl
    clear h4
    rw [if_neg (by omega)]
    by_cases hz : lo.toNat = 0
    · simp [hz, Addr.add]
    · simp [Addr.add, hz]
end

/-- Behind a contract: old cells and marks read as they did. -/
theorem bcell {W w1 : World} (hb : Below W.heap.size W w1) : (∀ b o, b < W.heap.size → w1.cell? ⟨b, o, none⟩ = W.cell? ⟨b, o, none⟩) ∧ (∀ b o, b < W.heap.size → w1.frozen? ⟨b, o, none⟩ = W.frozen? ⟨b, o, none⟩) :=
  ⟨fun b o h => hb.cell (p := ⟨b, o, none⟩) h, fun b o h => hb.frozen (p := ⟨b, o, none⟩) h⟩

theorem below_drewN {B : Nat} {a w : World} (h : Below B a w) (n : Nat) : Below B a (w.drewN n) := ⟨h.os, h.tape, h.output, h.size, h.block⟩

theorem ret_int {k : IntKind} {a b : Int} (h : a = b) : Ending.returned (.int k a) = .returned (.int k b) := by rw [h]

theorem results_tmp4 {fn : Func} {t u v x : Tmp} (h : fn.results = #[.tmp t, .tmp u, .tmp v, .tmp x]) (tmps : Array Value) (P : Program) (w : World) :
    (results fn tmps).run P w = .ok (.tuple #[tmps.getD t undef, tmps.getD u undef, tmps.getD v undef, tmps.getD x undef]) w := by simp [results, h]

theorem pow256_mono {a b : Nat} (h : a ≤ b) : (256 : Int) ^ a ≤ 256 ^ b := by
  have e : ∀ n : Nat, (256 : Int) ^ n = ((256 ^ n : Nat) : Int) := fun n => by simp [Int.natCast_pow]
  rw [e, e]
  exact Int.ofNat_le.2 (Nat.pow_le_pow_right (by decide) h)

/-! Places of the call's own blocks, as the walk spells them. -/
section
variable (n : Nat)
@[go_sem] theorem lt_2 : n < n + 1 + 1 := by omega
@[go_sem] theorem lt_3 : n < n + 1 + 1 + 1 := by omega
@[go_sem] theorem lt_4 : n < n + 1 + 1 + 1 + 1 := by omega
@[go_sem] theorem lt_5 : n < n + 1 + 1 + 1 + 1 + 1 := by omega
@[go_sem] theorem lt_6 : n < n + 1 + 1 + 1 + 1 + 1 + 1 := by omega
@[go_sem] theorem lt_7 : n < n + 1 + 1 + 1 + 1 + 1 + 1 + 1 := by omega
end

/-- What a contract leaves where its results are plain values. -/
def RetB (v : Value) (w : World) (e : Ending) (w' : World) : Prop := e = .returned v ∧ Below w.heap.size w w'

theorem bodyPost_retB {P : Program} {fn : Func} {a : Act} {w w0 : World} {v v0 : Value} (h : (results fn a.tmps).run P w = .ok v w) (hd : a.defers = []) (hv : v = v0) (hb : Below w0.heap.size w0 w) :
    bodyPost P fn (RetB v0 w0) .ret a w := bodyPost_ret h hd ⟨by rw [hv], hb⟩

end Go.Cr
