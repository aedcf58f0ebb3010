/- The parts Kit, Spec, KitB, KitC, KitD, KitE, KitG, SpecE, SpecG, SpecH of one proof, one behind the other. -/
import Derived.WalkKit
import Derived.WalkSpells
import Derived.WalkLawsBesides
import Derived.Lib.Hide
import Derived.Deep.Draws
import Derived.Laws.Rows
import Derived.Maps.AppendAt

/- Plain words for memory: a slice of bytes that reads as a list, and how it is kept. No program in sight. -/
section
set_option linter.unusedSimpArgs false
set_option linter.unusedVariables false
namespace Go.Cr
open Go.RowKit
end Go.Cr
namespace Go.RowKit
theorem Below.step {B : Nat} {a W w1 : World} (hb : Below W.heap.size W w1) (h : Below B a W) (hB : B ≤ W.heap.size) : Below B a w1 := h.trans (hb.mono hB)
end Go.RowKit
namespace Go.Cr
open Go.RowKit

/-- A byte's number. -/
def bi (x : UInt8) : Int := (x.toNat : Int)
theorem bi_lt (x : UInt8) : bi x < 256 := by have := x.toNat_lt; unfold bi; omega
theorem bi_pos (x : UInt8) : 0 ≤ bi x := by unfold bi; omega
theorem bi_inj {x y : UInt8} (h : bi x = bi y) : x = y := UInt8.toNat_inj.1 (by unfold bi at h; omega)
/-- The number at a place. -/
def bat (l : List UInt8) (j : Nat) : Int := bi (l.getD j 0)
theorem bat_lt (l : List UInt8) (j : Nat) : bat l j < 256 := bi_lt _
theorem bat_pos (l : List UInt8) (j : Nat) : 0 ≤ bat l j := bi_pos _
theorem bat_cons_zero (x : UInt8) (t : List UInt8) : bat (x :: t) 0 = bi x := rfl
theorem bat_cons_succ (x : UInt8) (t : List UInt8) (j : Nat) : bat (x :: t) (j + 1) = bat t j := by simp [bat]
theorem bat_drop (l : List UInt8) (k j : Nat) : bat (l.drop k) j = bat l (k + j) := by simp [bat, List.getElem?_drop]
theorem bat_take (l : List UInt8) (k j : Nat) (h : j < k) : bat (l.take k) j = bat l j := by simp [bat, List.getElem?_take, h]
theorem bat_eq (l : List UInt8) (j : Nat) (h : j < l.length) : bat l j = bi l[j] := by simp [bat, h]

/-- The slice value v reads as the bytes l. -/
def IsB (w : World) (v : Value) (l : List UInt8) : Prop :=
  ∃ (A : Option Addr) (c : Nat), v = .slice A l.length c ∧ l.length ≤ c ∧ c ≤ maxLen ∧
    (0 < l.length → ∃ b off, A = some ⟨b, off, none⟩ ∧ b < w.heap.size ∧ ∀ j, j < l.length → w.cell? ⟨b, off + j, none⟩ = some (.int .u8 (bat l j)))

theorem IsB.nil_ (w : World) (A : Option Addr) (c : Nat) (hc : c ≤ maxLen) : IsB w (.slice A 0 c) [] := ⟨A, c, rfl, Nat.zero_le _, hc, fun h => absurd h (by simp)⟩
theorem IsB.none_ (w : World) : IsB w (.slice none 0 0) [] := IsB.nil_ w none 0 (by decide)

theorem IsB.keep {w w' : World} {v : Value} {l : List UInt8} (h : IsB w v l) (hs : w.heap.size ≤ w'.heap.size) (hk : ∀ b o, b < w.heap.size → w'.cell? ⟨b, o, none⟩ = w.cell? ⟨b, o, none⟩) : IsB w' v l := by
  obtain ⟨A, c, rfl, h1, h2, h3⟩ := h
  refine ⟨A, c, rfl, h1, h2, fun hne => ?_⟩
  obtain ⟨b, off, rfl, hb, hc⟩ := h3 hne
  exact ⟨b, off, rfl, Nat.lt_of_lt_of_le hb hs, fun j hj => (hk _ _ hb).trans (hc j hj)⟩

theorem IsB.below {w w' : World} {v : Value} {l : List UInt8} (h : IsB w v l) (hb : Below w.heap.size w w') : IsB w' v l :=
  h.keep hb.size fun _ _ hlt => hb.cell hlt

theorem IsB.alloc {w : World} {v : Value} {l : List UInt8} (h : IsB w v l) (o : Obj) : IsB (w.alloc o) v l :=
  h.below ((Below.refl _ _).alloc (Nat.le_refl _) o)

theorem IsB.drew {w : World} {v : Value} {l : List UInt8} (h : IsB w v l) : IsB w.drew v l := h
theorem IsB.drewN {w : World} {v : Value} {l : List UInt8} (h : IsB w v l) (n : Nat) : IsB (w.drewN n) v l := h

/-- Opened for a walk: empty, or at an address. -/
theorem IsB.open_ {w : World} {v : Value} {l : List UInt8} (h : IsB w v l) :
    (∃ A c, l = [] ∧ v = .slice A 0 c ∧ c ≤ 9223372036854775807) ∨
    (∃ b off c, v = .slice (some ⟨b, off, none⟩) l.length c ∧ 0 < l.length ∧ l.length ≤ c ∧ c ≤ 9223372036854775807 ∧ b < w.heap.size ∧
      w.cell? ⟨b, off, none⟩ = some (.int .u8 (bat l 0)) ∧ ∀ j, j < l.length → w.cell? ⟨b, off + j, none⟩ = some (.int .u8 (bat l j))) := by
  obtain ⟨A, c, rfl, h1, h2, h3⟩ := h
  unfold maxLen at h2
  rcases Nat.eq_zero_or_pos l.length with hl | hl
  · obtain rfl := List.eq_nil_of_length_eq_zero hl; exact .inl ⟨A, c, rfl, rfl, h2⟩
  · obtain ⟨b, off, rfl, hb, hc⟩ := h3 hl
    exact .inr ⟨b, off, c, rfl, hl, h1, h2, hb, hc 0 hl, hc⟩

theorem IsB.mk_ {w : World} {b off c : Nat} {l : List UInt8} (h1 : l.length ≤ c) (h2 : c ≤ 9223372036854775807) (hb : b < w.heap.size)
    (hc : ∀ j, j < l.length → w.cell? ⟨b, off + j, none⟩ = some (.int .u8 (bat l j))) : IsB w (.slice (some ⟨b, off, none⟩) l.length c) l :=
  ⟨_, c, rfl, h1, h2, fun _ => ⟨b, off, rfl, hb, hc⟩⟩

theorem IsB.maxl {w : World} {v : Value} {l : List UInt8} (h : IsB w v l) : (l.length : Int) ≤ 9223372036854775807 := by
  obtain ⟨A, c, _, h1, h2, _⟩ := h; unfold maxLen at h2; omega

theorem IsB.len_eq {w : World} {A : Option Addr} {n c : Nat} {l : List UInt8} (h : IsB w (.slice A n c) l) : n = l.length := by
  obtain ⟨A', c', hv, _⟩ := h; injection hv

/-- s[lo:hi] or s[lo:hi:mx]: whatever the address is spelled. -/
theorem IsB.sub {w : World} {A0 : Option Addr} {n0 c : Nat} {l : List UInt8} (h : IsB w (.slice A0 n0 c) l) {lo hi c' : Nat} {A : Option Addr} {n : Nat} (h1 : lo ≤ hi) (h2 : hi ≤ l.length) (h3 : hi - lo ≤ c') (h4 : c' ≤ maxLen)
    (hn : n = hi - lo) (hA : lo < hi → ∀ b off, A0 = some ⟨b, off, none⟩ → A = some ⟨b, off + lo, none⟩) : IsB w (.slice A n c') ((l.drop lo).take (hi - lo)) := by
  have hlen : ((l.drop lo).take (hi - lo)).length = hi - lo := by simp; omega
  subst hn
  refine ⟨A, c', by rw [hlen], by omega, h4, fun hne => ?_⟩
  have hlt : lo < hi := by omega
  obtain ⟨A', c'', hv, _, _, h5⟩ := h
  injection hv with e1 e2 e3
  subst e1
  obtain ⟨b, off, rfl, hb, hc⟩ := h5 (by omega)
  refine ⟨b, off + lo, hA hlt b off rfl, hb, fun j hj => ?_⟩
  rw [show off + lo + j = off + (lo + j) by omega, bat_take _ _ _ (by omega), bat_drop]
  exact hc _ (by omega)

/-- s[lo:] -/
theorem IsB.from_ {w : World} {A0 : Option Addr} {n0 c : Nat} {l : List UInt8} (h : IsB w (.slice A0 n0 c) l) {lo c' : Nat} {A : Option Addr} {n : Nat} (h2 : lo ≤ l.length) (h3 : l.length - lo ≤ c') (h4 : c' ≤ maxLen)
    (hn : n = l.length - lo) (hA : lo < l.length → ∀ b off, A0 = some ⟨b, off, none⟩ → A = some ⟨b, off + lo, none⟩) : IsB w (.slice A n c') (l.drop lo) := by
  have := h.sub (lo := lo) (hi := l.length) (c' := c') (A := A) (n := n) h2 (Nat.le_refl _) h3 h4 hn hA
  rwa [List.take_of_length_le (by simp)] at this

/-! ### The run equations of a slice that is kept behind a letter. -/
section
variable {P : Program} {w : World} {v : Value} {l : List UInt8} {t e : TypeId}
theorem IsB.len (h : IsB w v l) (ht : P.underlying t = some (.slice e)) : ∀ (ty : TypeId) (W : World), (Builtin.len_ #[t] ty #[v]).run P W = .ok (.int .i64 l.length) W := by
  obtain ⟨A, c, rfl, _⟩ := h
  intro ty W
  simp [Builtin.len_, run_underlying ht, goInt]

theorem IsB.at_ (h : IsB w v l) (ht : P.underlying t = some (.slice e)) (hs : ∀ W, (sizeOf e).run P W = .ok 1 W) (k : IntKind) {i : Int} (h0 : 0 ≤ i) (h1 : i < l.length) :
    ∃ b o, (∀ W : World, (Instr.indexAt t v (.int k i)).run P W = .ok (.pointer (some ⟨b, o, none⟩)) W) ∧ b < w.heap.size ∧ w.cell? ⟨b, o, none⟩ = some (.int .u8 (bat l i.toNat)) := by
  obtain ⟨A, c, rfl, h2, h3, h4⟩ := h
  obtain ⟨b, off, rfl, hb, hc⟩ := h4 (by omega)
  refine ⟨b, off + i.toNat, fun W => ?_, hb, hc _ (by omega)⟩
  have hi : (0 ≤ i ∧ i < (l.length : Int)) := ⟨h0, h1⟩
  simp only [Instr.indexAt, asIntOf, Sem.run_bind, Sem.run_pure, Result.andThen, run_underlying ht, if_pos hi, hs, Nat.mul_one]
  simp [Addr.add]

theorem IsB.cutLo (h : IsB w v l) (ht : P.underlying t = some (.slice e)) (hs : ∀ W, (sizeOf e).run P W = .ok 1 W) (k : IntKind) {lo : Int} (h0 : 0 ≤ lo) (h1 : lo ≤ l.length) :
    ∃ v', (∀ W : World, (Instr.slice t v (some (.int k lo)) none none).run P W = .ok v' W) ∧ IsB w v' (l.drop lo.toNat) := by
  obtain ⟨A, c, rfl, h2, h3, h4⟩ := h
  refine ⟨.slice (if c = lo.toNat then A else A.map (·.add lo.toNat)) (l.length - lo.toNat) (c - lo.toNat), fun W => ?_, ?_⟩
  · have hi : (0 ≤ lo ∧ lo ≤ (l.length : Int)) := ⟨h0, h1⟩
    simp only [Instr.slice, Instr.sliceBounds, Instr.sliceBound, asIntOf, Sem.run_bind, Sem.run_pure, Result.andThen, run_underlying ht, if_pos hi, hs, Nat.mul_one]
  · refine IsB.from_ (A0 := A) (n0 := l.length) (c := c) ⟨A, c, rfl, h2, h3, h4⟩ (by omega) (by omega) (by omega) rfl ?_
    rintro hlt b off rfl
    by_cases hz : lo.toNat = 0
    · simp [hz, Addr.add]
    · clear h4; rw [if_neg (by omega)]; simp [Addr.add, hz]

theorem IsB.cut (h : IsB w v l) (ht : P.underlying t = some (.slice e)) (hs : ∀ W, (sizeOf e).run P W = .ok 1 W) (k k' : IntKind) {lo hi : Int} (h0 : 0 ≤ lo) (h1 : lo ≤ hi) (h2' : hi ≤ l.length) :
    ∃ v', (∀ W : World, (Instr.slice t v (some (.int k lo)) (some (.int k' hi)) none).run P W = .ok v' W) ∧ IsB w v' ((l.drop lo.toNat).take (hi - lo).toNat) := by
  obtain ⟨A, c, rfl, h2, h3, h4⟩ := h
  refine ⟨.slice (if c = lo.toNat then A else A.map (·.add lo.toNat)) (hi.toNat - lo.toNat) (c - lo.toNat), fun W => ?_, ?_⟩
  · have hi1 : (0 ≤ hi ∧ hi ≤ (c : Int)) := ⟨by omega, by omega⟩
    have hi2 : (0 ≤ lo ∧ lo ≤ (hi.toNat : Int)) := ⟨h0, by omega⟩
    simp only [Instr.slice, Instr.sliceBounds, Instr.sliceBound, asIntOf, Sem.run_bind, Sem.run_pure, Result.andThen, run_underlying ht, if_pos hi1, if_pos hi2, hs, Nat.mul_one]
  · rw [show (hi - lo).toNat = hi.toNat - lo.toNat by omega]
    refine IsB.sub (A0 := A) (n0 := l.length) (c := c) ⟨A, c, rfl, h2, h3, h4⟩ (by omega) (by omega) (by omega) (by omega) rfl ?_
    rintro hlt b off rfl
    by_cases hz : lo.toNat = 0
    · simp [hz, Addr.add]
    · clear h4; rw [if_neg (by omega)]; simp [Addr.add, hz]

theorem IsB.cut3 (h : IsB w v l) (ht : P.underlying t = some (.slice e)) (hs : ∀ W, (sizeOf e).run P W = .ok 1 W) (k k' k'' : IntKind) {lo hi : Int} (h0 : 0 ≤ lo) (h1 : lo ≤ hi) (h2' : hi ≤ l.length) :
    ∃ v', (∀ W : World, (Instr.slice t v (some (.int k lo)) (some (.int k' hi)) (some (.int k'' hi))).run P W = .ok v' W) ∧ IsB w v' ((l.drop lo.toNat).take (hi - lo).toNat) := by
  obtain ⟨A, c, rfl, h2, h3, h4⟩ := h
  refine ⟨.slice (if hi.toNat = lo.toNat then A else A.map (·.add lo.toNat)) (hi.toNat - lo.toNat) (hi.toNat - lo.toNat), fun W => ?_, ?_⟩
  · have hi0 : (0 ≤ hi ∧ hi ≤ (c : Int)) := ⟨by omega, by omega⟩
    have hi1 : (0 ≤ hi ∧ hi ≤ (hi.toNat : Int)) := ⟨by omega, by omega⟩
    have hi2 : (0 ≤ lo ∧ lo ≤ (hi.toNat : Int)) := ⟨h0, by omega⟩
    simp only [Instr.slice, Instr.sliceBounds, Instr.sliceBound, asIntOf, Sem.run_bind, Sem.run_pure, Result.andThen, run_underlying ht, if_pos hi0, if_pos hi1, if_pos hi2, hs, Nat.mul_one]
  · rw [show (hi - lo).toNat = hi.toNat - lo.toNat by omega]
    refine IsB.sub (A0 := A) (n0 := l.length) (c := c) ⟨A, c, rfl, h2, h3, h4⟩ (by omega) (by omega) (by omega) (by unfold maxLen at *; omega) rfl ?_
    rintro hlt b off rfl
    clear h4
    rw [if_neg (by omega)]
    by_cases hz : lo.toNat = 0
    · simp [hz, Addr.add]
    · simp [Addr.add, hz]
end

/-- Behind a contract: old cells and marks read as they did. -/
theorem bcell {W w1 : World} (hb : Below W.heap.size W w1) : (∀ b o, b < W.heap.size → w1.cell? ⟨b, o, none⟩ = W.cell? ⟨b, o, none⟩) ∧ (∀ b o, b < W.heap.size → w1.frozen? ⟨b, o, none⟩ = W.frozen? ⟨b, o, none⟩) :=
  ⟨fun b o h => hb.cell (p := ⟨b, o, none⟩) h, fun b o h => hb.frozen (p := ⟨b, o, none⟩) h⟩

theorem below_drewN {B : Nat} {a w : World} (h : Below B a w) (n : Nat) : Below B a (w.drewN n) := ⟨h.os, h.tape, h.output, h.size, h.block⟩

theorem ret_int {k : IntKind} {a b : Int} (h : a = b) : Ending.returned (.int k a) = .returned (.int k b) := by rw [h]

theorem results_tmp4 {fn : Func} {t u v x : Tmp} (h : fn.results = #[.tmp t, .tmp u, .tmp v, .tmp x]) (tmps : Array Value) (P : Program) (w : World) :
    (results fn tmps).run P w = .ok (.tuple #[tmps.getD t undef, tmps.getD u undef, tmps.getD v undef, tmps.getD x undef]) w := by simp [results, h]

theorem pow256_mono {a b : Nat} (h : a ≤ b) : (256 : Int) ^ a ≤ 256 ^ b := by
  have e : ∀ n : Nat, (256 : Int) ^ n = ((256 ^ n : Nat) : Int) := fun n => by simp [Int.natCast_pow]
  rw [e, e]
  exact Int.ofNat_le.2 (Nat.pow_le_pow_right (by decide) h)

/-! Places of the call's own blocks, as the walk spells them. -/
section
variable (n : Nat)
@[go_sem] theorem lt_2 : n < n + 1 + 1 := by omega
@[go_sem] theorem lt_3 : n < n + 1 + 1 + 1 := by omega
@[go_sem] theorem lt_4 : n < n + 1 + 1 + 1 + 1 := by omega
@[go_sem] theorem lt_5 : n < n + 1 + 1 + 1 + 1 + 1 := by omega
@[go_sem] theorem lt_6 : n < n + 1 + 1 + 1 + 1 + 1 + 1 := by omega
@[go_sem] theorem lt_7 : n < n + 1 + 1 + 1 + 1 + 1 + 1 + 1 := by omega
end

/-- What a contract leaves where its results are plain values. -/
def RetB (v : Value) (w : World) (e : Ending) (w' : World) : Prop := e = .returned v ∧ Below w.heap.size w w'

theorem bodyPost_retB {P : Program} {fn : Func} {a : Act} {w w0 : World} {v v0 : Value} (h : (results fn a.tmps).run P w = .ok v w) (hd : a.defers = []) (hv : v = v0) (hb : Below w0.heap.size w0 w) :
    bodyPost P fn (RetB v0 w0) .ret a w := bodyPost_ret h hd ⟨by rw [hv], hb⟩

end Go.Cr
end

/- The plain functions that the layers compute, and their laws. No program in sight. -/
section
set_option linter.unusedSimpArgs false
set_option linter.unusedVariables false
namespace Go.Cr
open Go.RowKit

/-- Big-endian digits. -/
def be (l : List UInt8) : Int := l.foldl (fun a x => a * 256 + bi x) 0
theorem be_snoc (l : List UInt8) (x : UInt8) : be (l ++ [x]) = be l * 256 + bi x := by simp [be, List.foldl_append]
theorem be_take_succ (l : List UInt8) (k : Nat) (h : k < l.length) : be (l.take (k + 1)) = be (l.take k) * 256 + bat l k := by
  rw [List.take_succ_eq_append_getElem h, be_snoc, bat_eq l k h]
theorem be_bound (l : List UInt8) : 0 ≤ be l ∧ be l < 256 ^ l.length := by
  have h : ∀ (l : List UInt8) (a : Int) (m : Nat), 0 ≤ a → a < 256 ^ m → 0 ≤ l.foldl (fun a x => a * 256 + bi x) a ∧ l.foldl (fun a x => a * 256 + bi x) a < 256 ^ (m + l.length) := by
    intro l
    induction l with
    | nil => intro a m h0 h; simpa using ⟨h0, h⟩
    | cons x t ih =>
      intro a m h0 h
      have hx := bi_lt x
      have hx0 := bi_pos x
      simp only [List.foldl_cons, List.length_cons]
      have := ih (a * 256 + bi x) (m + 1) (by omega) (by rw [Int.pow_succ]; omega)
      rwa [show m + (t.length + 1) = m + 1 + t.length by omega]
  simpa [be] using h l 0 0 (by simp) (by simp)

abbrev Err := Int × Int

/-- An identifier octet. -/
def idOct (c : Int) (k : Bool) (n : Int) : Option Int := if 0 ≤ c ∧ c ≤ 3 ∧ 0 ≤ n ∧ n ≤ 30 then some (64 * c + n + if k then 32 else 0) else none

/-- Length octets, read: the length and how many octets, or an error. -/
def rdLen (l : List UInt8) : Except Err (Int × Int) :=
  if l.length = 0 then .error (1, 0)
  else if bat l 0 < 128 then .ok (bat l 0, 1)
  else if bat l 0 - 128 = 0 ∨ 4 < bat l 0 - 128 then .error (4, 0)
  else if (l.length : Int) ≤ bat l 0 - 128 then .error (1, l.length)
  else if bat l 1 = 0 ∨ be ((l.drop 1).take (bat l 0 - 128).toNat) < 128 ∨ 2147483647 < be ((l.drop 1).take (bat l 0 - 128).toNat) then .error (4, 0)
  else .ok (be ((l.drop 1).take (bat l 0 - 128).toNat), 1 + (bat l 0 - 128))

@[go_sem] def errV (e : Err) : Value := .agg #[.int .i64 e.1, .int .i64 e.2]
def lenV : Except Err (Int × Int) → Value
  | .ok (n, k) => .tuple #[.int .i64 n, .int .i64 k, errV (0, 0)]
  | .error e => .tuple #[.int .i64 0, .int .i64 0, errV e]

theorem rdLen_ok {l : List UInt8} {n k : Int} (h : rdLen l = .ok (n, k)) : 0 ≤ n ∧ n ≤ 2147483647 ∧ 1 ≤ k ∧ k ≤ 5 ∧ k ≤ l.length := by
  have h0 := bat_lt l 0
  have h1 := bat_pos l 0
  have hb := (be_bound ((l.drop 1).take (bat l 0 - 128).toNat)).1
  unfold rdLen at h
  split at h
  · cases h
  split at h
  · injection h with h; injection h with h2 h3; omega
  split at h
  · cases h
  split at h
  · cases h
  split at h
  · cases h
  · injection h with h; injection h with h2 h3; omega
theorem rdLen_err {l : List UInt8} {c o : Int} (h : rdLen l = .error (c, o)) : 0 < c ∧ c ≤ 4 ∧ 0 ≤ o ∧ o ≤ l.length := by
  unfold rdLen at h
  split at h
  · injection h with h; injection h with h2 h3; omega
  split at h
  · cases h
  split at h
  · injection h with h; injection h with h2 h3; omega
  split at h
  · injection h with h; injection h with h2 h3; omega
  split at h
  · injection h with h; injection h with h2 h3; omega
  · cases h

/-- A header: what the first octets of an element say. -/
structure Hdr where
  cls : Int
  num : Int
  con : Bool
  len : Int
  size : Int
@[go_sem] def Hdr.zero : Hdr := ⟨0, 0, false, 0, 0⟩
@[go_sem] def hdrV (h : Hdr) : Value := .agg #[.int .i64 h.cls, .int .i64 h.num, .bool h.con, .int .i64 h.len, .int .i64 h.size]
def rdHdr (l : List UInt8) : Except Err Hdr :=
  if l.length = 0 then .error (1, 0)
  else if bat l 0 % 32 = 31 then .error (3, 0)
  else match rdLen (l.drop 1) with
    | .error (c, o) => .error (c, o + 1)
    | .ok (n, k) => .ok ⟨bat l 0 / 64, bat l 0 % 32, decide (bat l 0 / 32 % 2 = 1), n, 1 + k⟩
def rhV : Except Err Hdr → Value
  | .ok h => .tuple #[hdrV h, errV (0, 0)]
  | .error e => .tuple #[hdrV Hdr.zero, errV e]
theorem rdHdr_ok {l : List UInt8} {h : Hdr} (e : rdHdr l = .ok h) : 0 ≤ h.len ∧ h.len ≤ 2147483647 ∧ 2 ≤ h.size ∧ h.size ≤ 6 ∧ h.size ≤ l.length ∧ 0 ≤ h.cls ∧ h.cls ≤ 3 ∧ 0 ≤ h.num ∧ h.num ≤ 30 := by
  have h0 := bat_lt l 0
  have h1 := bat_pos l 0
  unfold rdHdr at e
  split at e
  · cases e
  split at e
  · cases e
  split at e
  · cases e
  · rename_i n k hr
    injection e with e; subst e
    have := rdLen_ok hr
    simp only [List.length_drop] at this ⊢
    omega
theorem rdHdr_err {l : List UInt8} {c o : Int} (e : rdHdr l = .error (c, o)) : 0 < c ∧ c ≤ 4 ∧ 0 ≤ o ∧ o ≤ l.length := by
  unfold rdHdr at e
  split at e
  · injection e with e; injection e with h2 h3; omega
  split at e
  · injection e with e; injection e with h2 h3; omega
  split at e
  · rename_i hr
    injection e with e; injection e with h2 h3
    have := rdLen_err hr
    simp only [List.length_drop] at this
    omega
  · cases e

theorem ofInt_i64 (a : Nat) (ha : a < 9223372036854775808) : (BitVec.ofInt 64 (a : Int)).toNat = a := by
  rw [BitVec.ofInt_natCast, BitVec.toNat_ofNat]; exact Nat.mod_eq_of_lt (by omega)
theorem i64_or_nat (a b : Nat) (ha : a < 9223372036854775808) (hb : b < 9223372036854775808) : bits .or .i64 (a : Int) (b : Int) = ((a ||| b : Nat) : Int) := by
  have hx : a ||| b < 2 ^ 63 := Nat.or_lt_two_pow (by omega) (by omega)
  show IntKind.i64.wrap ((BitVec.ofInt 64 (a : Int) ||| BitVec.ofInt 64 (b : Int)).toNat : Int) = _
  rw [BitVec.toNat_or, ofInt_i64 a ha, ofInt_i64 b hb, IntKind.wrap_i64]
  omega
theorem or_add (a b j : Nat) (hb : b < 2 ^ j) : a * 2 ^ j ||| b = a * 2 ^ j + b := by
  rw [Nat.mul_comm, Nat.two_pow_add_eq_or_of_lt hb]
theorem i64_or_256 (n x : Int) (h0 : 0 ≤ n) (h1 : n < 1099511627776) (h2 : 0 ≤ x) (h3 : x < 256) : bits .or .i64 (n * 256) x = n * 256 + x := by
  obtain ⟨a, rfl⟩ := Int.eq_ofNat_of_zero_le h0
  obtain ⟨b, rfl⟩ := Int.eq_ofNat_of_zero_le h2
  have := i64_or_nat (a * 256) b (by omega) (by omega)
  rw [show ((a : Int) * 256) = ((a * 256 : Nat) : Int) by omega, this, or_add a b 8 (by omega)]
  omega
theorem i64_or_64 (c n : Int) (h0 : 0 ≤ c) (h1 : c ≤ 3) (h2 : 0 ≤ n) (h3 : n < 32) : bits .or .i64 (c * 64) n = c * 64 + n := by
  obtain ⟨a, rfl⟩ := Int.eq_ofNat_of_zero_le h0
  obtain ⟨b, rfl⟩ := Int.eq_ofNat_of_zero_le h2
  have := i64_or_nat (a * 64) b (by omega) (by omega)
  rw [show ((a : Int) * 64) = ((a * 64 : Nat) : Int) by omega, this, or_add a b 6 (by omega)]
  omega
theorem u8_or_32 (c n : Int) (h0 : 0 ≤ c) (h1 : c ≤ 3) (h2 : 0 ≤ n) (h3 : n < 32) : bits .or .u8 (c * 64 + n) 32 = c * 64 + n + 32 := by
  obtain ⟨a, rfl⟩ := Int.eq_ofNat_of_zero_le h0
  obtain ⟨b, rfl⟩ := Int.eq_ofNat_of_zero_le h2
  have ha : a < 4 := by omega
  have hb : b < 32 := by omega
  have key : ∀ a : Fin 4, ∀ b : Fin 32, bits .or .u8 ((a.val : Int) * 64 + (b.val : Int)) 32 = (a.val : Int) * 64 + (b.val : Int) + 32 := by decide +kernel
  exact key ⟨a, ha⟩ ⟨b, hb⟩
theorem u8_and_32 (n : Int) (h0 : 0 ≤ n) (h1 : n < 256) : bits .and .u8 n 32 = n / 32 % 2 * 32 := by
  obtain ⟨a, rfl⟩ := Int.eq_ofNat_of_zero_le h0
  have ha : a < 256 := by omega
  have key : ∀ a : Fin 256, bits .and .u8 (a.val : Int) 32 = (a.val : Int) / 32 % 2 * 32 := by decide +kernel
  exact key ⟨a, ha⟩
theorem u8_and_31 (n : Int) (h0 : 0 ≤ n) (h1 : n < 256) : bits .and .u8 n 31 = n % 32 := bits_mask .u8 8 (by decide) wraps_u8 5 (by decide) _ h0 h1
end Go.Cr
end

/- More plain words for memory: rows of the call's own, slices of structs. No program in sight. -/
section
set_option linter.unusedSimpArgs false
set_option linter.unusedVariables false
namespace Go.Cr
open Go.RowKit

theorem ownsRow_below {w w' : World} {base : Nat} {e : TypeId} {size : Nat} {v : Value} {n : Nat} {xs : List Value} (h : w.ownsRow base e size v n xs) (hb : Below w.heap.size w w') : w'.ownsRow base e size v n xs := by
  obtain ⟨h1, h2⟩ := h
  refine ⟨h1, ?_⟩
  rcases h2 with h2 | ⟨g, cap, cur, hv, hg, hh, r⟩
  · exact .inl h2
  · refine .inr ⟨g, cap, cur, hv, hg, ?_, r⟩
    rw [hb.block g ?_]
    · exact hh
    · rcases Nat.lt_or_ge g w.heap.size with hlt | hge
      · exact hlt
      · rw [Array.getElem?_eq_none hge] at hh; cases hh

theorem ownsRow_more {w : World} {base base' : Nat} {e : TypeId} {size : Nat} {v : Value} {n : Nat} {xs : List Value} (h : w.ownsRow base e size v n xs) (hb : base' ≤ base) : w.ownsRow base' e size v n xs := by
  obtain ⟨h1, h2⟩ := h
  refine ⟨h1, ?_⟩
  rcases h2 with h2 | ⟨g, cap, cur, hv, hg, r⟩
  · exact .inl h2
  · exact .inr ⟨g, cap, cur, hv, by omega, r⟩

/-- Block g is just these cells, none of them frozen. -/
def Blk (w : World) (g : Nat) (t : TypeId) (cs : Array Value) : Prop := w.heap[g]? = some (.cells cs t (0, 0))
section
variable {w w' : World} {g : Nat} {t : TypeId} {cs : Array Value}
theorem Blk.lt (h : Blk w g t cs) : g < w.heap.size := by
  rcases Nat.lt_or_ge g w.heap.size with hlt | hge
  · exact hlt
  · unfold Blk at h; rw [Array.getElem?_eq_none hge] at h; cases h
theorem Blk.q (h : Blk w g t cs) : ∀ o, w.cell? ⟨g, o, none⟩ = cs[o]? := fun o => by unfold Blk at h; simp [World.cell?, h]
theorem Blk.fz (h : Blk w g t cs) : ∀ o, w.frozen? ⟨g, o, none⟩ = false := fun o => by unfold Blk at h; simp [World.frozen?, h]
theorem Blk.new (w : World) (t : TypeId) (cs : Array Value) : Blk (w.alloc (.cells cs t)) w.heap.size t cs := heap_alloc_new w _
theorem Blk.drew (h : Blk w g t cs) : Blk w.drew g t cs := h
theorem Blk.below {B : Nat} (h : Blk w g t cs) (hb : Below B w w') (hg : g < B) : Blk w' g t cs := (hb.block g hg).trans h
theorem Blk.call (h : Blk w g t cs) (hb : Below w.heap.size w w') : Blk w' g t cs := h.below hb h.lt
theorem Blk.alloc (h : Blk w g t cs) (o : Obj) : Blk (w.alloc o) g t cs := (Below.heap_alloc w o g h.lt).trans h
theorem Blk.set_ (h : Blk w g t cs) (i : Nat) (u : Value) : Blk (w.setCell ⟨g, i, none⟩ u) g t (cs.setIfInBounds i u) := by
  unfold Blk at h ⊢
  simp [World.setCell, Array.getElem?_modify, h]
theorem Blk.far (h : Blk w g t cs) {p : Addr} (hp : g ≠ p.block) (u : Value) : Blk (w.setCell p u) g t cs := (Below.heap_setCell w p u g hp).trans h
theorem Blk.grown {row : Option Nat} (h : Blk w g t cs) (hb : w.grownBy w' row) (hg : some g ≠ row) : Blk w' g t cs := (hb.block g h.lt hg).trans h
end

/-- The slice value v has n elements of k cells each; its cells are xs. -/
def IsR (w : World) (v : Value) (k n : Nat) (xs : List Value) : Prop :=
  ∃ (A : Option Addr) (c : Nat), v = .slice A n c ∧ n ≤ c ∧ c ≤ maxLen ∧ xs.length = n * k ∧
    (0 < n → ∃ b off, A = some ⟨b, off, none⟩ ∧ b < w.heap.size ∧ ∀ j x, xs[j]? = some x → w.cell? ⟨b, off + j, none⟩ = some x)

theorem IsR.below {w w' : World} {v : Value} {k n : Nat} {xs : List Value} (h : IsR w v k n xs) (hb : Below w.heap.size w w') : IsR w' v k n xs := by
  obtain ⟨A, c, rfl, h1, h2, h3, h4⟩ := h
  refine ⟨A, c, rfl, h1, h2, h3, fun hn => ?_⟩
  obtain ⟨b, off, rfl, hlt, hc⟩ := h4 hn
  exact ⟨b, off, rfl, Nat.lt_of_lt_of_le hlt hb.size, fun j x hj => (hb.cell hlt).trans (hc j x hj)⟩
theorem IsR.alloc {w : World} {v : Value} {k n : Nat} {xs : List Value} (h : IsR w v k n xs) (o : Obj) : IsR (w.alloc o) v k n xs := h.below ((Below.refl _ _).alloc (Nat.le_refl _) o)
theorem IsR.drew {w : World} {v : Value} {k n : Nat} {xs : List Value} (h : IsR w v k n xs) : IsR w.drew v k n xs := h

theorem IsR.of_own {w : World} {base : Nat} {e : TypeId} {k : Nat} {v : Value} {n : Nat} {xs : List Value} (h : w.ownsRow base e k v n xs) : IsR w v k n xs := by
  have hlt := h.lt
  obtain ⟨h1, h2⟩ := h
  rcases h2 with ⟨rfl, rfl⟩ | ⟨g, cap, cur, rfl, hg, hh, hc1, hc2, hs, ht⟩
  · exact ⟨none, 0, rfl, Nat.le_refl _, by decide, h1, fun h => absurd h (by omega)⟩
  · refine ⟨_, cap, rfl, hc1, hc2, h1, fun _ => ⟨g, 0, rfl, (hlt g rfl).2, fun j x hj => ?_⟩⟩
    subst ht
    rw [List.getElem?_take] at hj
    split at hj
    · simp only [World.cell?, hh, Option.isSome_none, Bool.false_eq_true, if_false, Nat.zero_add]
      rw [← hj]; simp
    · cases hj

section
variable {P : Program} {w : World} {v : Value} {k n : Nat} {xs : List Value} {t e : TypeId}
theorem IsR.len (h : IsR w v k n xs) (ht : P.underlying t = some (.slice e)) : ∀ (ty : TypeId) (W : World), (Builtin.len_ #[t] ty #[v]).run P W = .ok (.int .i64 n) W := by
  obtain ⟨A, c, rfl, _⟩ := h
  intro ty W
  simp [Builtin.len_, run_underlying ht, goInt]
theorem IsR.maxl (h : IsR w v k n xs) : (n : Int) ≤ 9223372036854775807 := by
  obtain ⟨A, c, _, h1, h2, _⟩ := h; unfold maxLen at h2; omega
theorem IsR.at_ (h : IsR w v k n xs) (ht : P.underlying t = some (.slice e)) (hs : ∀ W, (sizeOf e).run P W = .ok k W) (kd : IntKind) {i : Int} (h0 : 0 ≤ i) (h1 : i < n) :
    ∃ b o, (∀ W : World, (Instr.indexAt t v (.int kd i)).run P W = .ok (.pointer (some ⟨b, o, none⟩)) W) ∧ b < w.heap.size ∧ ∀ j x, xs[i.toNat * k + j]? = some x → w.cell? ⟨b, o + j, none⟩ = some x := by
  obtain ⟨A, c, rfl, h2, h3, h4, h5⟩ := h
  obtain ⟨b, off, rfl, hb, hc⟩ := h5 (by omega)
  refine ⟨b, off + i.toNat * k, fun W => ?_, hb, fun j x hj => by rw [Nat.add_assoc]; exact hc _ _ hj⟩
  have hi : (0 ≤ i ∧ i < (n : Int)) := ⟨h0, h1⟩
  simp only [Instr.indexAt, asIntOf, Sem.run_bind, Sem.run_pure, Result.andThen, run_underlying ht, if_pos hi, hs]
  simp [Addr.add]
end
end Go.Cr
end

/- Bytes that the call itself owns; big-endian digits; comparing. No program in sight. -/
section
set_option linter.unusedSimpArgs false
set_option linter.unusedVariables false
namespace Go.Cr
open Go.RowKit

def bCells (l : List UInt8) : List Value := l.map fun x => .int .u8 (bi x)
theorem bCells_len (l : List UInt8) : (bCells l).length = l.length := by simp [bCells]
theorem bCells_app (a b : List UInt8) : bCells (a ++ b) = bCells a ++ bCells b := by simp [bCells]
theorem bCells_one (l : List UInt8) : ∀ u ∈ bCells l, u.oneCell' = true := by
  intro u hu; simp only [bCells, List.mem_map] at hu; obtain ⟨x, _, rfl⟩ := hu; rfl
theorem bCells_at (l : List UInt8) (j : Nat) (h : j < l.length) : (bCells l)[j]? = some (.int .u8 (bat l j)) := by
  simp [bCells, List.getElem?_eq_getElem h, bat]

theorem IsR.bytes {w : World} {v : Value} {l : List UInt8} (h : IsR w v 1 l.length (bCells l)) : IsB w v l := by
  obtain ⟨A, c, rfl, h1, h2, h3, h4⟩ := h
  refine ⟨A, c, rfl, h1, h2, fun hn => ?_⟩
  obtain ⟨b, off, rfl, hb, hc⟩ := h4 hn
  exact ⟨b, off, rfl, hb, fun j hj => hc j _ (bCells_at l j hj)⟩

/-- The call owns v, which has the bytes l. -/
def OwB (w : World) (base : Nat) (t : TypeId) (v : Value) (l : List UInt8) : Prop := w.ownsRow base t 1 v l.length (bCells l)
theorem OwB.isB {w : World} {base : Nat} {t : TypeId} {v : Value} {l : List UInt8} (h : OwB w base t v l) : IsB w v l := (IsR.of_own h).bytes
theorem OwB.below {w w' : World} {base : Nat} {t : TypeId} {v : Value} {l : List UInt8} (h : OwB w base t v l) (hb : Below w.heap.size w w') : OwB w' base t v l := ownsRow_below h hb
theorem OwB.alloc {w : World} {base : Nat} {t : TypeId} {v : Value} {l : List UInt8} (h : OwB w base t v l) (o : Obj) : OwB (w.alloc o) base t v l := World.ownsRow.alloc h o
theorem OwB.more {w : World} {base base' : Nat} {t : TypeId} {v : Value} {l : List UInt8} (h : OwB w base t v l) (hb : base' ≤ base) : OwB w base' t v l := ownsRow_more h hb
theorem OwB.nil_ (w : World) (base : Nat) (t : TypeId) : OwB w base t (.slice none 0 0) [] := World.ownsRow_nil w base t 1
theorem OwB.one (w : World) (t : TypeId) (x : UInt8) {base : Nat} (hb : base ≤ w.heap.size) : OwB (w.alloc (.cells #[.int .u8 (bi x)] t)) base t (.slice (some ⟨w.heap.size, 0, none⟩) 1 1) [x] := by
  have := World.ownsRow_lit (base := base) (e := t) (size := 1) w #[.int .u8 (bi x)] 1 hb (by decide) rfl
  simpa [OwB, bCells] using this
/-- What a call leaves that returns bytes of its own. -/
def RetO (t : TypeId) (l : List UInt8) (w : World) (e : Ending) (w' : World) : Prop := ∃ v, e = .returned v ∧ OwB w' w.heap.size t v l ∧ Below w.heap.size w w'

theorem IsB.isR {w : World} {v : Value} {l : List UInt8} (h : IsB w v l) : IsR w v 1 l.length (bCells l) := by
  obtain ⟨A, c, rfl, h1, h2, h3⟩ := h
  refine ⟨A, c, rfl, h1, h2, by simp [bCells_len], fun hn => ?_⟩
  obtain ⟨b, off, rfl, hb, hc⟩ := h3 hn
  refine ⟨b, off, rfl, hb, fun j x hj => ?_⟩
  have hlt : j < l.length := by have := (List.getElem?_eq_some_iff.1 hj).1; rwa [bCells_len] at this
  rw [bCells_at l j hlt] at hj
  rw [← hj]; exact hc j hlt
theorem isB_new (w : World) (t : TypeId) (z : UInt8) (y : Int) (hy : bi z = y) : IsB (w.alloc (.cells #[.int .u8 y] t)) (.slice (some ⟨w.heap.size, 0, none⟩) 1 1) [z] := by
  subst hy; exact (OwB.one w t z (Nat.zero_le _)).isB

/-! ### append onto a row of the call's own, whatever the source. -/
section
variable {P : Program} (w : World)
theorem run_app (base : Nat) (t ty e : TypeId) (i : TypeInfo) (z : Value) (size bytes : Nat) (ht : P.underlying t = some (.slice e)) (hi : P.info? e = some i) (hz : i.zero = some z)
    (hsize : i.size = size) (hby : i.bytes = bytes) (hzs : z.cells.size = size) (hsz : 0 < size)
    (v : Value) (n : Nat) (xs : List Value) (hown : w.ownsRow base e size v n xs) (x : Value) (m : Nat) (news : List Value) (hx : IsR w x size m news) (h1 : ∀ u ∈ news, u.oneCell' = true)
    (h63 : n + m ≤ maxLen) (hbytes : (n + m) * bytes ≤ 140737488355328) (hbase : base ≤ w.heap.size) :
    ∃ v' w', (Builtin.append_ #[t, t] ty #[v, x]).run P w = .ok v' w' ∧ w'.ownsRow base e size v' (n + m) (xs ++ news) ∧ w.grownBy w' v.ownBlock ∧ Below base w w' := by
  have hbel : ∀ w', w.grownBy w' v.ownBlock → Below base w w' := fun w' hg => ⟨hg.os, hg.tape, hg.output, hg.size, fun k hk => hg.block k (by omega) (fun hb => by have := (hown.lt _ hb.symm).1; omega)⟩
  obtain ⟨A, c, rfl, hc1, hc2, hl, hc⟩ := hx
  cases A with
  | none =>
    have hm : m = 0 := by
      rcases Nat.eq_zero_or_pos m with h | h
      · exact h
      · obtain ⟨_, _, h', _⟩ := hc h; cases h'
    subst hm
    obtain rfl : news = [] := List.eq_nil_of_length_eq_zero (by simpa using hl)
    refine ⟨v, w, ?_, by simpa using hown, World.grownBy.refl w _, Below.refl _ _⟩
    rcases hown.2 with ⟨rfl, rfl⟩ | ⟨g, cap, cur, rfl, _, _, hnc, _⟩
    · simp [Builtin.append_, run_underlying ht, sizeOf, typeInfo, hi, Builtin.lenOf, Builtin.firstCells]
    · simp [Builtin.append_, run_underlying ht, sizeOf, typeInfo, hi, Builtin.lenOf, Builtin.firstCells, hnc, storeCells]
  | some ad =>
    have hcells : ∀ j u, news[j]? = some u → w.cell? (ad.add j) = some u := by
      intro j u hj
      have hpos : 0 < m := by
        rcases Nat.eq_zero_or_pos m with h | h
        · subst h; have : news = [] := List.eq_nil_of_length_eq_zero (by simpa using hl); subst this; simp at hj
        · exact h
      obtain ⟨b, off, h', _, hcc⟩ := hc hpos
      injection h' with h'; subst h'
      have := hcc j u hj
      unfold Addr.add
      split
      · rename_i h0; subst h0; simpa using this
      · exact this
    obtain ⟨v', w', hr, h2, h3, _, _⟩ := run_append_own_at (P := P) w base t ty e i z size bytes ht hi hz hsize hby hzs hsz v n xs hown ad m c news hl hcells h1 h63 hbytes hbase
    exact ⟨v', w', hr, h2, h3, hbel _ h3⟩

theorem wpList_app {ops : Array Oper} {rest : List Oper} {o : Oper} {a : Act} {Q : Exit → Act → World → Prop} (hgd : o.guard = none) (s y : Operand) (t : TypeId)
    (ho : o.op = .call { callee := .builtin .append, args := #[s, y], argTypes := #[t, t] })
    (base : Nat) (e : TypeId) (i : TypeInfo) (z : Value) (size bytes : Nat) (ht : P.underlying t = some (.slice e)) (hi : P.info? e = some i) (hz : i.zero = some z)
    (hsize : i.size = size) (hby : i.bytes = bytes) (hzs : z.cells.size = size) (hsz : 0 < size)
    (v : Value) (n : Nat) (xs : List Value) (hs : a.eval s = v) (hown : w.ownsRow base e size v n xs) (x : Value) (m : Nat) (news : List Value) (hyx : a.eval y = x) (hx : IsR w x size m news) (h1 : ∀ u ∈ news, u.oneCell' = true)
    (h63 : n + m ≤ maxLen) (hbytes : (n + m) * bytes ≤ 140737488355328) (hbase : base ≤ w.heap.size)
    (h : ∀ v' w', w'.ownsRow base e size v' (n + m) (xs ++ news) → w.grownBy w' v.ownBlock → Below base w w' → wpList P ops Q rest (a.put o.dst v') w') : wpList P ops Q (o :: rest) a w :=
  wpList_plain hgd fun _ hK => by
    obtain ⟨v', w', hr, h2, h3, h4⟩ := run_app (P := P) w base t o.type e i z size bytes ht hi hz hsize hby hzs hsz v n xs hown x m news hx h1 h63 hbytes hbase
    unfold Oper.wp execOp
    simp only [ho, resolve, invoke, builtin, Sem.run_bind, Sem.run_pure, Result.andThen_ok, List.map_toArray, List.map_cons, List.map_nil, hs, hyx, hr]
    exact hK _ _ (h v' w' h2 h3 h4)

/-- append of bytes to bytes. -/
theorem wpList_appB {ops : Array Oper} {rest : List Oper} {o : Oper} {a : Act} {Q : Exit → Act → World → Prop} (hgd : o.guard = none) (s y : Operand) (t : TypeId)
    (ho : o.op = .call { callee := .builtin .append, args := #[s, y], argTypes := #[t, t] })
    (base : Nat) (e : TypeId) (ht : P.underlying t = some (.slice e)) (hinfo : (P.info? e).map (fun i => (i.zero, i.size, i.bytes)) = some (some (.int .u8 0), 1, 1))
    (v : Value) (l : List UInt8) (hs : a.eval s = v) (hown : OwB w base e v l) (x : Value) (l2 : List UInt8) (hyx : a.eval y = x) (hx : IsB w x l2)
    (hlen : l.length + l2.length ≤ 70368744177664) (hbase : base ≤ w.heap.size)
    (h : ∀ v' w', OwB w' base e v' (l ++ l2) → w.grownBy w' v.ownBlock → Below base w w' → wpList P ops Q rest (a.put o.dst v') w') : wpList P ops Q (o :: rest) a w := by
  obtain ⟨i0, hi, hz0, hz1, hz2⟩ := info_parts hinfo
  refine wpList_app w hgd s y t ho base e i0 _ 1 1 ht hi hz0 hz1 hz2 rfl (by decide) v l.length (bCells l) hs hown x l2.length (bCells l2) hyx hx.isR (bCells_one _) (by unfold maxLen; omega) (by omega) hbase ?_
  intro v' w' h2 h3 h4
  exact h v' w' (by rw [OwB, bCells_app, List.length_append]; exact h2) h3 h4
end

theorem bi_ofNat (n : Nat) : bi (UInt8.ofNat n) = ((n % 256 : Nat) : Int) := by simp [bi]

/-- Big-endian digits of a number, at most k + 1 of them. -/
def minF : Nat → Nat → List UInt8
  | 0, n => [UInt8.ofNat n]
  | k + 1, n => if n < 256 then [UInt8.ofNat n] else minF k (n / 256) ++ [UInt8.ofNat (n % 256)]
theorem minF_len (k n : Nat) : 0 < (minF k n).length ∧ (minF k n).length ≤ k + 1 := by
  induction k generalizing n with
  | zero => simp [minF]
  | succ k ih => simp only [minF]; split <;> simp; have := (ih (n / 256)).2; omega
theorem minF_be (k n : Nat) (h : n < 256 ^ (k + 1)) : be (minF k n) = n := by
  induction k generalizing n with
  | zero => simp [minF, be, bi_ofNat]; omega
  | succ k ih =>
    simp only [minF]
    split
    · rename_i hlt; simp [be, bi_ofNat]; omega
    · rw [be_snoc, ih (n / 256) (by rw [Nat.pow_succ] at h; omega), bi_ofNat]; omega
theorem minF_fuel (k j n : Nat) (h : n < 256 ^ (k + 1)) : minF (k + j) n = minF k n := by
  induction k generalizing n with
  | zero =>
    have hn : n < 256 := by simpa using h
    cases j with
    | zero => rfl
    | succ j => simp only [Nat.zero_add, minF]; rw [if_pos hn]
  | succ k ih =>
    rw [show k + 1 + j = (k + j) + 1 by omega]
    simp only [minF]
    split
    · rfl
    · rw [ih (n / 256) (by rw [Nat.pow_succ] at h; omega)]

/-- Lexicographic comparing. -/
def cmpL : List UInt8 → List UInt8 → Int
  | [], [] => 0
  | [], _ :: _ => -1
  | _ :: _, [] => 1
  | x :: a, y :: b => if bi x < bi y then -1 else if bi y < bi x then 1 else cmpL a b
theorem cmpL_drop (a b : List UInt8) : ∀ k, k ≤ a.length → k ≤ b.length → (∀ j, j < k → bat a j = bat b j) → cmpL (a.drop k) (b.drop k) = cmpL a b := by
  intro k
  induction k generalizing a b with
  | zero => intros; rfl
  | succ k ih =>
    intro ha hb hj
    match a, b with
    | [], _ => simp at ha
    | _ :: _, [] => simp at hb
    | x :: a, y :: b =>
      have h0 := hj 0 (by omega)
      simp only [bat_cons_zero] at h0
      simp only [List.drop_succ_cons, cmpL]
      rw [if_neg (by omega), if_neg (by omega)]
      exact ih a b (by simpa using ha) (by simpa using hb) (fun j h => by have := hj (j + 1) (by omega); simpa [bat_cons_succ] using this)
theorem cmpL_lt {a b : List UInt8} {k : Nat} (ha : k < a.length) (hb : k < b.length) (h : ∀ j, j < k → bat a j = bat b j) (hlt : bat a k < bat b k) : cmpL a b = -1 := by
  rw [← cmpL_drop a b k (by omega) (by omega) h, List.drop_eq_getElem_cons ha, List.drop_eq_getElem_cons hb]
  rw [bat_eq a k ha, bat_eq b k hb] at hlt
  simp only [cmpL]; rw [if_pos hlt]
theorem cmpL_gt {a b : List UInt8} {k : Nat} (ha : k < a.length) (hb : k < b.length) (h : ∀ j, j < k → bat a j = bat b j) (hlt : bat b k < bat a k) : cmpL a b = 1 := by
  rw [← cmpL_drop a b k (by omega) (by omega) h, List.drop_eq_getElem_cons ha, List.drop_eq_getElem_cons hb]
  rw [bat_eq a k ha, bat_eq b k hb] at hlt
  simp only [cmpL]; rw [if_neg (by omega), if_pos hlt]
theorem cmpL_end {a b : List UInt8} {k : Nat} (ha : k ≤ a.length) (hb : k ≤ b.length) (h : ∀ j, j < k → bat a j = bat b j) (hk : a.length ≤ k ∨ b.length ≤ k) :
    cmpL a b = if a.length < b.length then -1 else if b.length < a.length then 1 else 0 := by
  rw [← cmpL_drop a b k ha hb h]
  rcases hk with hk | hk
  · rw [List.drop_eq_nil_of_le hk]
    rcases Nat.lt_or_ge k b.length with h1 | h1
    · rw [List.drop_eq_getElem_cons h1, if_pos (by omega)]; rfl
    · rw [List.drop_eq_nil_of_le h1, if_neg (by omega), if_neg (by omega)]; rfl
  · rw [List.drop_eq_nil_of_le hk]
    rcases Nat.lt_or_ge k a.length with h1 | h1
    · rw [List.drop_eq_getElem_cons h1, if_neg (by omega), if_pos (by omega)]; rfl
    · rw [List.drop_eq_nil_of_le h1, if_neg (by omega), if_neg (by omega)]; rfl
end Go.Cr
end

/- A slice of one struct that the call has just made. No program in sight. -/
section
set_option linter.unusedSimpArgs false
set_option linter.unusedVariables false
namespace Go.Cr
open Go.RowKit
theorem isR_new (w : World) (t : TypeId) (arr : Array Value) : IsR (w.alloc (.cells arr t)) (.slice (some ⟨w.heap.size, 0, none⟩) 1 1) arr.size 1 arr.toList := by
  refine ⟨_, 1, rfl, Nat.le_refl _, by decide, by simp, fun _ => ⟨w.heap.size, 0, rfl, by simp, fun j x hj => ?_⟩⟩
  rw [Nat.zero_add, World.cell?_alloc_new]
  simpa using hj
theorem isR_at {w : World} {t : TypeId} {arr : Array Value} {k n : Nat} (hk : arr.size = k) (hn : n = w.heap.size) : IsR (w.alloc (.cells arr t)) (.slice (some ⟨n, 0, none⟩) 1 1) k 1 arr.toList := by
  subst hk hn; exact isR_new w t arr
theorem isB_at {w : World} {t : TypeId} {z : UInt8} {y : Int} {n : Nat} (hy : bi z = y) (hn : n = w.heap.size) : IsB (w.alloc (.cells #[.int .u8 y] t)) (.slice (some ⟨n, 0, none⟩) 1 1) [z] := by
  subst hn; exact isB_new w t z y hy
end Go.Cr
end

/- Slices of slices of bytes; append of zeros onto nil. No program in sight. -/
section
set_option linter.unusedSimpArgs false
set_option linter.unusedVariables false
namespace Go.Cr
open Go.RowKit

/-- v is a slice of slices of bytes. -/
def IsBs (w : World) (v : Value) (ls : List (List UInt8)) : Prop :=
  ∃ vs : List Value, IsR w v 1 ls.length vs ∧ ∀ j, j < ls.length → IsB w (vs.getD j undef) (ls.getD j [])
theorem IsBs.below {w w' : World} {v : Value} {ls : List (List UInt8)} (h : IsBs w v ls) (hb : Below w.heap.size w w') : IsBs w' v ls := by
  obtain ⟨vs, h1, h2⟩ := h
  exact ⟨vs, h1.below hb, fun j hj => (h2 j hj).below hb⟩
theorem IsBs.alloc {w : World} {v : Value} {ls : List (List UInt8)} (h : IsBs w v ls) (o : Obj) : IsBs (w.alloc o) v ls := h.below ((Below.refl _ _).alloc (Nat.le_refl _) o)
section
variable {P : Program} {w : World} {v : Value} {ls : List (List UInt8)} {t e : TypeId}
theorem IsBs.len (h : IsBs w v ls) (ht : P.underlying t = some (.slice e)) : ∀ (ty : TypeId) (W : World), (Builtin.len_ #[t] ty #[v]).run P W = .ok (.int .i64 ls.length) W := by
  obtain ⟨vs, h1, _⟩ := h; exact h1.len ht
theorem IsBs.maxl (h : IsBs w v ls) : (ls.length : Int) ≤ 9223372036854775807 := by obtain ⟨vs, h1, _⟩ := h; exact h1.maxl
theorem IsBs.at_ (h : IsBs w v ls) (ht : P.underlying t = some (.slice e)) (hs : ∀ W, (sizeOf e).run P W = .ok 1 W) (kd : IntKind) {i : Int} (h0 : 0 ≤ i) (h1 : i < ls.length) :
    ∃ b o u, (∀ W : World, (Instr.indexAt t v (.int kd i)).run P W = .ok (.pointer (some ⟨b, o, none⟩)) W) ∧ b < w.heap.size ∧ w.cell? ⟨b, o, none⟩ = some u ∧ IsB w u (ls.getD i.toNat []) := by
  obtain ⟨vs, hv, hj⟩ := h
  obtain ⟨b, o, hi, hb, hc⟩ := hv.at_ ht hs kd h0 h1
  have hlt : i.toNat < vs.length := by obtain ⟨_, _, _, _, _, hl, _⟩ := hv; omega
  refine ⟨b, o, vs.getD i.toNat undef, hi, hb, ?_, hj i.toNat (by omega)⟩
  have := hc 0 (vs.getD i.toNat undef) (by simp [hlt])
  simpa using this
theorem IsBs.nil_ (w : World) : IsBs w (.slice none 0 0) [] := ⟨[], ⟨none, 0, rfl, Nat.le_refl _, by decide, rfl, fun h => absurd h (by simp)⟩, fun j hj => absurd hj (by simp)⟩

/-- append(nil, make([]byte, n)...): how the translation has slices.Grow. -/
theorem run_append_zeros (w : World) (ti : TypeId) {i : TypeInfo} {z : Value} (ht : P.underlying t = some (.slice e)) (hti : P.underlying ti = some (.int .i64)) (hi : P.info? e = some i) (hz : i.zero = some z) (hsize : i.size = 1) (hby : i.bytes = 1) (hzs : z.cells.size = 1)
    (n : Nat) (h0 : 0 < n) (hn : n ≤ 1000000) :
    ∃ cap cur, (∀ ty, (Builtin.append_ #[t, ti] ty #[.slice none 0 0, .int .i64 (n : Int)]).run P w = .ok (.slice (some ⟨w.heap.size, 0, none⟩) n cap) (w.drew.alloc (.cells cur e))) ∧ n ≤ cap ∧ cap ≤ maxLen ∧ cur.size = cap * 1 := by
  have hn0 : n ≠ 0 := by omega
  have h1 : IntKind.i64.wrap (n : Int) = n := IntWalk.i64_in _ (by omega)
  have h2 : ¬ ((n : Int) < 0) := by omega
  have h3 : ¬ (281474976710656 < (n : Int)) := by omega
  have h63' : ¬ (9223372036854775807 < (n : Int)) := by omega
  have h48' : ¬ (281474976710656 < Builtin.nextslicecap n 0) := by rw [nextslicecap_zero h0]; omega
  refine ⟨grownCap w n 0 e, Builtin.zeroCells z.cells n ++ Builtin.zeroCells z.cells (grownCap w n 0 e - n), ?_, grownCap_ge _ _ _ _, grownCap_le_maxLen _ _ _ _ (by unfold maxLen; omega), ?_⟩
  · intro ty; simp [Builtin.append_, run_underlying ht, run_underlying hti, sizeOf, typeInfo, zeroValue, hi, hz, hsize, hby, hn0, h1, h2, h3, h63', h48', asInt, asIntOf, Question.forced, run_firstCells_none, newRow, grownCap]
  · have := grownCap_ge w n 0 e
    simp [size_zeroCells, hzs]; omega
end
end Go.Cr
end

/- Two rows of the call's own side by side. No program in sight. -/
section
set_option linter.unusedSimpArgs false
set_option linter.unusedVariables false
namespace Go.Cr
open Go.RowKit

theorem own_far {w w' : World} {base : Nat} {e : TypeId} {k : Nat} {v : Value} {n : Nat} {xs : List Value} {row : Option Nat} (h : w.ownsRow base e k v n xs) (hg : w.grownBy w' row) (hne : ∀ g, v.ownBlock = some g → some g ≠ row) : w'.ownsRow base e k v n xs := by
  have hlt := h.lt
  obtain ⟨h1, h2⟩ := h
  refine ⟨h1, ?_⟩
  rcases h2 with h2 | ⟨g, cap, cur, hv, hgb, hh, r⟩
  · exact .inl h2
  · refine .inr ⟨g, cap, cur, hv, hgb, ?_, r⟩
    subst hv
    have ho : (Value.slice (some ⟨g, 0, none⟩) n cap).ownBlock = some g := rfl
    rw [hg.block g (hlt g ho).2 (hne g ho)]
    exact hh
theorem blk_in {w : World} {t : TypeId} {cs : Array Value} {g : Nat} (hg : g = w.heap.size) : Blk (w.alloc (.cells cs t)) g t cs := by subst hg; exact Blk.new w t cs
/-- No block of the one is the other's. -/
def Apart (v1 v2 : Value) : Prop := ∀ g, v1.ownBlock = some g → v2.ownBlock ≠ some g
theorem Apart.symm {v1 v2 : Value} (h : Apart v1 v2) : Apart v2 v1 := fun g h2 h1 => h g h1 h2
theorem Apart.nil_ (v : Value) : Apart (.slice none 0 0) v := fun g h => by cases h
section
variable {P : Program} (w : World)
theorem run_app2 (base : Nat) (t ty e : TypeId) (i : TypeInfo) (z : Value) (size bytes : Nat) (ht : P.underlying t = some (.slice e)) (hi : P.info? e = some i) (hz : i.zero = some z)
    (hsize : i.size = size) (hby : i.bytes = bytes) (hzs : z.cells.size = size) (hsz : 0 < size)
    (v : Value) (n : Nat) (xs : List Value) (hown : w.ownsRow base e size v n xs) (x : Value) (m : Nat) (news : List Value) (hx : IsR w x size m news) (h1 : ∀ u ∈ news, u.oneCell' = true)
    (h63 : n + m ≤ maxLen) (hbytes : (n + m) * bytes ≤ 140737488355328) (hbase : base ≤ w.heap.size) :
    ∃ v' w', (Builtin.append_ #[t, t] ty #[v, x]).run P w = .ok v' w' ∧ w'.ownsRow base e size v' (n + m) (xs ++ news) ∧ w.grownBy w' v.ownBlock ∧ Below base w w' ∧ (v'.ownBlock = v.ownBlock ∨ v'.ownBlock = some w.heap.size) := by
  have hbel : ∀ w', w.grownBy w' v.ownBlock → Below base w w' := fun w' hg => ⟨hg.os, hg.tape, hg.output, hg.size, fun k hk => hg.block k (by omega) (fun hb => by have := (hown.lt _ hb.symm).1; omega)⟩
  obtain ⟨A, c, rfl, hc1, hc2, hl, hc⟩ := hx
  cases A with
  | none =>
    have hm : m = 0 := by
      rcases Nat.eq_zero_or_pos m with h | h
      · exact h
      · obtain ⟨_, _, h', _⟩ := hc h; cases h'
    subst hm
    obtain rfl : news = [] := List.eq_nil_of_length_eq_zero (by simpa using hl)
    refine ⟨v, w, ?_, by simpa using hown, World.grownBy.refl w _, Below.refl _ _, .inl rfl⟩
    rcases hown.2 with ⟨rfl, rfl⟩ | ⟨g, cap, cur, rfl, _, _, hnc, _⟩
    · simp [Builtin.append_, run_underlying ht, sizeOf, typeInfo, hi, Builtin.lenOf, Builtin.firstCells]
    · simp [Builtin.append_, run_underlying ht, sizeOf, typeInfo, hi, Builtin.lenOf, Builtin.firstCells, hnc, storeCells]
  | some ad =>
    have hcells : ∀ j u, news[j]? = some u → w.cell? (ad.add j) = some u := by
      intro j u hj
      have hpos : 0 < m := by
        rcases Nat.eq_zero_or_pos m with h | h
        · subst h; have : news = [] := List.eq_nil_of_length_eq_zero (by simpa using hl); subst this; simp at hj
        · exact h
      obtain ⟨b, off, h', _, hcc⟩ := hc hpos
      injection h' with h'; subst h'
      have := hcc j u hj
      unfold Addr.add
      split
      · rename_i h0; subst h0; simpa using this
      · exact this
    obtain ⟨v', w', hr, h2, h3, _, h5⟩ := run_append_own_at (P := P) w base t ty e i z size bytes ht hi hz hsize hby hzs hsz v n xs hown ad m c news hl hcells h1 h63 hbytes hbase
    exact ⟨v', w', hr, h2, h3, hbel _ h3, h5⟩
theorem wpList_app2 {ops : Array Oper} {rest : List Oper} {o : Oper} {a : Act} {Q : Exit → Act → World → Prop} (hgd : o.guard = none) (s y : Operand) (t : TypeId)
    (ho : o.op = .call { callee := .builtin .append, args := #[s, y], argTypes := #[t, t] })
    (base : Nat) (e : TypeId) (i : TypeInfo) (z : Value) (size bytes : Nat) (ht : P.underlying t = some (.slice e)) (hi : P.info? e = some i) (hz : i.zero = some z)
    (hsize : i.size = size) (hby : i.bytes = bytes) (hzs : z.cells.size = size) (hsz : 0 < size)
    (v : Value) (n : Nat) (xs : List Value) (hs : a.eval s = v) (hown : w.ownsRow base e size v n xs) (x : Value) (m : Nat) (news : List Value) (hyx : a.eval y = x) (hx : IsR w x size m news) (h1 : ∀ u ∈ news, u.oneCell' = true)
    (h63 : n + m ≤ maxLen) (hbytes : (n + m) * bytes ≤ 140737488355328) (hbase : base ≤ w.heap.size)
    (h : ∀ v' w', w'.ownsRow base e size v' (n + m) (xs ++ news) → w.grownBy w' v.ownBlock → Below base w w' → (v'.ownBlock = v.ownBlock ∨ v'.ownBlock = some w.heap.size) → wpList P ops Q rest (a.put o.dst v') w') : wpList P ops Q (o :: rest) a w :=
  wpList_plain hgd fun _ hK => by
    obtain ⟨v', w', hr, h2, h3, h4, h5⟩ := run_app2 (P := P) w base t o.type e i z size bytes ht hi hz hsize hby hzs hsz v n xs hown x m news hx h1 h63 hbytes hbase
    unfold Oper.wp execOp
    simp only [ho, resolve, invoke, builtin, Sem.run_bind, Sem.run_pure, Result.andThen_ok, List.map_toArray, List.map_cons, List.map_nil, hs, hyx, hr]
    exact hK _ _ (h v' w' h2 h3 h4 h5)
end
/-- The other row, behind an append: it lies as it lay, and the two are apart. -/
theorem apart_app {w w' : World} {base : Nat} {e : TypeId} {k : Nat} {v1 v1' v2 : Value} {n : Nat} {xs : List Value} (h2 : w.ownsRow base e k v2 n xs) (ha : Apart v1 v2) (hg : w.grownBy w' v1.ownBlock) (hat : v1'.ownBlock = v1.ownBlock ∨ v1'.ownBlock = some w.heap.size) :
    w'.ownsRow base e k v2 n xs ∧ Apart v1' v2 := by
  refine ⟨own_far h2 hg fun g hg' he => ha g he.symm hg', fun g h hg' => ?_⟩
  rcases hat with hat | hat
  · exact ha g (hat.symm.trans h) hg'
  · have := (h2.lt g hg').2
    rw [hat] at h
    injection h with h
    omega
end Go.Cr
end

/- The plain functions of layer 9 (element). No program in sight. -/
section
set_option linter.unusedSimpArgs false
set_option linter.unusedVariables false
namespace Go.Cr
open Go.RowKit

/-- An element in a slice. -/
structure Elem where
  cls : Int
  num : Int
  con : Bool
  start : Int
  body : Int
  stop : Int
  deriving DecidableEq
@[go_sem] def Elem.zero : Elem := ⟨0, 0, false, 0, 0, 0⟩
def Elem.cells (x : Elem) : List Value := [.int .i64 x.cls, .int .i64 x.num, .bool x.con, .int .i64 x.start, .int .i64 x.body, .int .i64 x.stop]
@[go_sem] def elV (x : Elem) : Value := .agg #[.int .i64 x.cls, .int .i64 x.num, .bool x.con, .int .i64 x.start, .int .i64 x.body, .int .i64 x.stop]
def Hdr.at_ (h : Hdr) (a : Int) : Elem := ⟨h.cls, h.num, h.con, a, a + h.size, a + h.size + h.len⟩
/-- The octets from a up to e. -/
def seg (l : List UInt8) (a e : Int) : List UInt8 := (l.drop a.toNat).take (e - a).toNat
theorem seg_len (l : List UInt8) (a e : Int) (h0 : 0 ≤ a) (h1 : a ≤ e) (h2 : e ≤ l.length) : ((seg l a e).length : Int) = e - a := by
  simp [seg]; omega
/-- The element at a, within the octets up to e. -/
def nextE (l : List UInt8) (a e : Int) : Except Err Elem :=
  match rdHdr (seg l a e) with
  | .error (c, o) => .error (c, o + a)
  | .ok h => if e - a - h.size < h.len then .error (1, e) else .ok (h.at_ a)
def elR : Except Err Elem → Value
  | .ok x => .tuple #[elV x, errV (0, 0)]
  | .error e => .tuple #[elV Elem.zero, errV e]
theorem nextE_ok {l : List UInt8} {a e : Int} {x : Elem} (h0 : 0 ≤ a) (h1 : a ≤ e) (h2 : e ≤ l.length) (h : nextE l a e = .ok x) :
    x.start = a ∧ a < x.body ∧ x.body ≤ x.stop ∧ x.stop ≤ e := by
  unfold nextE at h
  split at h
  · cases h
  · rename_i hd hr
    have hb := rdHdr_ok hr
    split at h
    · cases h
    · injection h with h; subst h
      refine ⟨rfl, ?_, ?_, ?_⟩ <;> simp only [Hdr.at_] <;> omega
theorem nextE_err {l : List UInt8} {a e c o : Int} (h0 : 0 ≤ a) (h1 : a ≤ e) (h2 : e ≤ l.length) (h : nextE l a e = .error (c, o)) : 0 < c ∧ c ≤ 4 ∧ 0 ≤ o ∧ o ≤ e := by
  have hl := seg_len l a e h0 h1 h2
  unfold nextE at h
  split at h
  · rename_i c' o' hr
    have hb := rdHdr_err hr
    injection h with h; injection h with h3 h4; omega
  · split at h
    · injection h with h; injection h with h3 h4; omega
    · cases h
/-- The element that the bytes consist of. -/
def oneE (l : List UInt8) : Except Err Elem :=
  match nextE l 0 l.length with
  | .error e => .error e
  | .ok x => if x.stop < l.length then .error (2, x.stop) else .ok x
theorem oneE_ok {l : List UInt8} {x : Elem} (h : oneE l = .ok x) : x.start = 0 ∧ 0 < x.body ∧ x.body ≤ x.stop ∧ x.stop = l.length := by
  unfold oneE at h
  split at h
  · cases h
  · rename_i hr
    have := nextE_ok (by omega) (by omega) (by omega) hr
    split at h
    · cases h
    · injection h with h; subst h; omega
theorem oneE_err {l : List UInt8} {c o : Int} (h : oneE l = .error (c, o)) : 0 < c ∧ c ≤ 4 ∧ 0 ≤ o ∧ o ≤ l.length := by
  unfold oneE at h
  split at h
  · rename_i hr
    injection h with h; subst h
    exact nextE_err (by omega) (by omega) (by omega) hr
  · rename_i hr
    have := nextE_ok (by omega) (by omega) (by omega) hr
    split at h
    · injection h with h; injection h with h3 h4; omega
    · cases h


def isE (x : Elem) (c : Int) (k : Bool) (n : Int) : Bool := (x.cls == c) && (x.con == k) && (x.num == n)
def listAcc (l : List UInt8) : Nat → List Elem → Int → Int → Except Err (List Elem)
  | 0, acc, _, _ => .ok acc
  | k + 1, acc, a, e => if a < e then match nextE l a e with
      | .error er => .error er
      | .ok x => listAcc l k (acc ++ [x]) x.stop e
    else .ok acc
/-- The elements of the octets from a up to e. -/
def listE (l : List UInt8) (a e : Int) : Except Err (List Elem) :=
  if a < 0 ∨ e < a ∨ (l.length : Int) < e then .error (9, 0) else listAcc l (e - a).toNat [] a e
def partsE (l : List UInt8) (c n : Int) : Except Err (List Elem) :=
  match oneE l with
  | .error e => .error e
  | .ok x => if isE x c true n then listE l x.body x.stop else .error (3, 0)

theorem listAcc_done (l : List UInt8) (k : Nat) (acc : List Elem) (a e : Int) (h : e ≤ a) : listAcc l k acc a e = .ok acc := by
  cases k with
  | zero => rfl
  | succ k => simp only [listAcc]; rw [if_neg (by omega)]

theorem listAcc_err {l : List UInt8} : ∀ (k : Nat) {acc : List Elem} {a e c o : Int}, 0 ≤ a → a ≤ e → e ≤ l.length → listAcc l k acc a e = .error (c, o) → 0 < c ∧ c ≤ 4 ∧ 0 ≤ o ∧ o ≤ e := by
  intro k
  induction k with
  | zero => intro acc a e c o _ _ _ h; cases h
  | succ k ih =>
    intro acc a e c o h0 h1 h2 h
    simp only [listAcc] at h
    split at h
    · split at h
      · rename_i hr; injection h with h; subst h; exact nextE_err h0 h1 h2 hr
      · rename_i hr
        have := nextE_ok h0 h1 h2 hr
        exact ih (by omega) (by omega) h2 h
    · cases h
theorem listE_err {l : List UInt8} {a e c o : Int} (h : listE l a e = .error (c, o)) : 0 < c ∧ c ≤ 9 ∧ 0 ≤ o ∧ o ≤ l.length := by
  unfold listE at h
  split at h
  · injection h with h; injection h with h1 h2; omega
  · have := listAcc_err _ (by omega) (by omega) (by omega) h; omega

end Go.Cr
end

/- The reference's way to an element. No program in sight. -/
section
set_option linter.unusedSimpArgs false
set_option linter.unusedVariables false
namespace Go.Cr
open Go.RowKit

/-- The header at the beginning, if its contents are there. -/
def nextH (l : List UInt8) : Except Err Hdr :=
  match rdHdr l with
  | .error e => .error e
  | .ok h => if (l.length : Int) - h.size < h.len then .error (1, l.length) else .ok h
theorem nextH_err {l : List UInt8} {c o : Int} (h : nextH l = .error (c, o)) : 0 < c ∧ c ≤ 4 ∧ 0 ≤ o ∧ o ≤ l.length := by
  unfold nextH at h
  split at h
  · rename_i hr; injection h with h; subst h; exact rdHdr_err hr
  · split at h
    · injection h with h; injection h with h1 h2; omega
    · cases h
theorem nextH_ok {l : List UInt8} {h : Hdr} (e : nextH l = .ok h) : 0 ≤ h.len ∧ 2 ≤ h.size ∧ h.size ≤ 6 ∧ h.size + h.len ≤ l.length := by
  unfold nextH at e
  split at e
  · cases e
  · rename_i hr
    have := rdHdr_ok hr
    split at e
    · cases e
    · injection e with e; subst e; omega
theorem nextE_H (l : List UInt8) (a e : Int) (h0 : 0 ≤ a) (h1 : a ≤ e) (h2 : e ≤ l.length) :
    nextE l a e = match nextH (seg l a e) with
      | .error (c, o) => .error (c, o + a)
      | .ok h => .ok (h.at_ a) := by
  have hl := seg_len l a e h0 h1 h2
  unfold nextE nextH
  cases rdHdr (seg l a e) with
  | error er => rfl
  | ok h =>
    simp only
    rw [hl]
    by_cases hc : e - a - h.size < h.len
    · rw [if_pos hc, if_pos hc]; simp only; congr 2; omega
    · rw [if_neg hc, if_neg hc]
theorem seg_all (l : List UInt8) : seg l 0 l.length = l := by simp [seg]
theorem oneE_H (l : List UInt8) :
    oneE l = match nextH l with
      | .error e => .error e
      | .ok h => if h.size + h.len < l.length then .error (2, h.size + h.len) else .ok ⟨h.cls, h.num, h.con, 0, h.size, l.length⟩ := by
  unfold oneE
  rw [nextE_H l 0 l.length (by omega) (by omega) (by omega), seg_all]
  cases hn : nextH l with
  | error er => obtain ⟨c, o⟩ := er; simp
  | ok h =>
    have := nextH_ok hn
    have hst : (h.at_ 0).stop = h.size + h.len := by simp only [Hdr.at_]; omega
    simp only [hst]
    by_cases hc : h.size + h.len < l.length
    · rw [if_pos hc, if_pos hc]
    · rw [if_neg hc, if_neg hc]; simp only [Hdr.at_]; congr 2 <;> omega
end Go.Cr
end

/- Elements of a part cover it, and each is found by itself. No program in sight. -/
section
set_option linter.unusedSimpArgs false
set_option linter.unusedVariables false
namespace Go.Cr
open Go.RowKit

theorem rdLen_take {l : List UInt8} {n k : Int} (m : Nat) (h : rdLen l = .ok (n, k)) (hm : k ≤ m) : rdLen (l.take m) = .ok (n, k) := by
  have hb := rdLen_ok h
  have h0 := bat_lt l 0
  have h1 := bat_pos l 0
  unfold rdLen at h ⊢
  have e0 : bat (l.take m) 0 = bat l 0 := bat_take _ _ _ (by omega)
  have hL : (l.take m).length = min m l.length := List.length_take
  rw [e0]
  split at h
  · cases h
  rw [if_neg (by omega)]
  split at h
  · rename_i c2; rw [if_pos c2]; exact h
  rename_i c2
  rw [if_neg c2]
  split at h
  · cases h
  rename_i c3
  rw [if_neg c3]
  split at h
  · cases h
  rename_i c4
  split at h
  · cases h
  rename_i c5
  injection h with h
  injection h with h2 h3
  rw [if_neg (by omega)]
  have e1 : bat (l.take m) 1 = bat l 1 := bat_take _ _ _ (by omega)
  have e2 : ((l.take m).drop 1).take (bat l 0 - 128).toNat = (l.drop 1).take (bat l 0 - 128).toNat := by
    rw [List.drop_take, List.take_take, Nat.min_eq_left (by omega)]
  rw [e1, e2, if_neg c5, h2, h3]
theorem rdHdr_take {l : List UInt8} {h : Hdr} (m : Nat) (e : rdHdr l = .ok h) (hm : h.size ≤ m) : rdHdr (l.take m) = .ok h := by
  have hb := rdHdr_ok e
  have e0 : bat (l.take m) 0 = bat l 0 := bat_take _ _ _ (by omega)
  have hL : (l.take m).length = min m l.length := List.length_take
  unfold rdHdr at e ⊢
  rw [e0]
  split at e
  · cases e
  rw [if_neg (by omega)]
  split at e
  · cases e
  rename_i c2
  rw [if_neg c2]
  split at e
  · cases e
  · rename_i n k hr
    injection e with e
    subst e
    have := rdLen_take (m - 1) hr (by simp only at hm; omega)
    rw [List.drop_take, this]
/-- An element that was found is found by itself. -/
theorem nextE_one {l : List UInt8} {a e : Int} {x : Elem} (h0 : 0 ≤ a) (h1 : a ≤ e) (h2 : e ≤ l.length) (h : nextE l a e = .ok x) :
    oneE (seg l x.start x.stop) = .ok ⟨x.cls, x.num, x.con, 0, x.body - x.start, x.stop - x.start⟩ := by
  have hbd := nextE_ok h0 h1 h2 h
  unfold nextE at h
  split at h
  · cases h
  rename_i hd hr
  split at h
  · cases h
  injection h with h
  subst h
  have hb := rdHdr_ok hr
  simp only [Hdr.at_] at hbd ⊢
  have hs : seg l a (a + hd.size + hd.len) = (seg l a e).take (a + hd.size + hd.len - a).toNat := by
    unfold seg
    rw [List.take_take, Nat.min_eq_left (by omega)]
  have hlen := seg_len l a (a + hd.size + hd.len) h0 (by omega) (by omega)
  have hr' := rdHdr_take (a + hd.size + hd.len - a).toNat hr (by omega)
  rw [← hs] at hr'
  generalize seg l a (a + hd.size + hd.len) = s at *
  rw [oneE_H]
  unfold nextH
  rw [hr']
  simp only
  rw [if_neg (by omega)]
  simp only
  rw [if_neg (by omega)]
  congr 2 <;> omega
/-- The elements cover the octets from a up to e. -/
def Cov (l : List UInt8) : Int → Int → List Elem → Prop
  | a, e, [] => a = e
  | a, e, x :: xs => nextE l a e = .ok x ∧ a < e ∧ Cov l x.stop e xs
theorem listAcc_cov {l : List UInt8} : ∀ (k : Nat) {acc : List Elem} {a e : Int} {xs : List Elem}, 0 ≤ a → a ≤ e → e ≤ l.length → e - a ≤ k → listAcc l k acc a e = .ok xs → ∃ ys, xs = acc ++ ys ∧ Cov l a e ys := by
  intro k
  induction k with
  | zero =>
    intro acc a e xs _ _ _ hk h
    simp only [listAcc] at h
    injection h with h
    exact ⟨[], by simp [h], by show a = e; omega⟩
  | succ k ih =>
    intro acc a e xs h0 h1 h2 hk h
    simp only [listAcc] at h
    split at h
    · rename_i hlt
      split at h
      · cases h
      · rename_i x hr
        have hb := nextE_ok h0 h1 h2 hr
        obtain ⟨ys, hys, hc⟩ := ih (by omega) (by omega) h2 (by omega) h
        exact ⟨x :: ys, by simp [hys], hr, hlt, hc⟩
    · injection h with h
      exact ⟨[], by simp [h], by show a = e; omega⟩
theorem listE_cov {l : List UInt8} {a e : Int} {xs : List Elem} (h : listE l a e = .ok xs) : 0 ≤ a ∧ a ≤ e ∧ e ≤ l.length ∧ Cov l a e xs := by
  unfold listE at h
  split at h
  · cases h
  · obtain ⟨ys, hys, hc⟩ := listAcc_cov _ (by omega) (by omega) (by omega) (by omega) h
    simp at hys
    subst hys
    exact ⟨by omega, by omega, by omega, hc⟩
theorem cov_cons {l : List UInt8} {a e : Int} {xs : List Elem} {k : Nat} (hk : k < xs.length) (h : Cov l a e (xs.drop k)) : nextE l a e = .ok xs[k] ∧ a < e ∧ Cov l xs[k].stop e (xs.drop (k + 1)) := by
  rw [List.drop_eq_getElem_cons hk] at h
  exact h
theorem cov_len {l : List UInt8} {a e : Int} {xs : List Elem} (h0 : 0 ≤ a) (h1 : a ≤ e) (h2 : e ≤ l.length) (h : Cov l a e xs) : (xs.length : Int) ≤ e - a := by
  induction xs generalizing a with
  | nil => simp; omega
  | cons x xs ih =>
    obtain ⟨hn, hlt, hc⟩ := h
    have hb := nextE_ok h0 h1 h2 hn
    have := ih (by omega) (by omega) hc
    simp; omega
end Go.Cr
end
