/- The parts Kit, Spec, KitB, KitC, KitD, KitE, KitG, SpecE, SpecG, SpecH, SpecF, SpecI, Tree, Node, Parts, Far, Rep, SpecJ of one proof, one behind the other. -/
import Derived.WalkKit
import Derived.WalkSpells
import Derived.WalkLawsBesides
import Derived.Lib.Hide
import Derived.Deep.Draws
import Derived.Laws.Rows
import Derived.Maps.AppendAt

/- Plain words for memory: a slice of bytes that reads as a list, and how it is kept. No program in sight. -/
section
set_option linter.unusedSimpArgs false
set_option linter.unusedVariables false
namespace Go.Cr
open Go.RowKit
end Go.Cr
namespace Go.RowKit
theorem Below.step {B : Nat} {a W w1 : World} (hb : Below W.heap.size W w1) (h : Below B a W) (hB : B ≤ W.heap.size) : Below B a w1 := h.trans (hb.mono hB)
end Go.RowKit
namespace Go.Cr
open Go.RowKit
def bi (x : UInt8) : Int := (x.toNat : Int)
theorem bi_lt (x : UInt8) : bi x < 256 := by have := x.toNat_lt; unfold bi; omega
theorem bi_pos (x : UInt8) : 0 ≤ bi x := by unfold bi; omega
theorem bi_inj {x y : UInt8} (h : bi x = bi y) : x = y := UInt8.toNat_inj.1 (by unfold bi at h; omega)
def bat (l : List UInt8) (j : Nat) : Int := bi (l.getD j 0)
theorem bat_lt (l : List UInt8) (j : Nat) : bat l j < 256 := bi_lt _
theorem bat_pos (l : List UInt8) (j : Nat) : 0 ≤ bat l j := bi_pos _
theorem bat_cons_zero (x : UInt8) (t : List UInt8) : bat (x :: t) 0 = bi x := rfl
theorem bat_cons_succ (x : UInt8) (t : List UInt8) (j : Nat) : bat (x :: t) (j + 1) = bat t j := by simp [bat]
theorem bat_drop (l : List UInt8) (k j : Nat) : bat (l.drop k) j = bat l (k + j) := by simp [bat, List.getElem?_drop]
theorem bat_take (l : List UInt8) (k j : Nat) (h : j < k) : bat (l.take k) j = bat l j := by simp [bat, List.getElem?_take, h]
theorem bat_eq (l : List UInt8) (j : Nat) (h : j < l.length) : bat l j = bi l[j] := by simp [bat, h]

def IsB (w : World) (v : Value) (l : List UInt8) : Prop :=
  ∃ (A : Option Addr) (c : Nat), v = .slice A l.length c ∧ l.length ≤ c ∧ c ≤ maxLen ∧
    (0 < l.length → ∃ b off, A = some ⟨b, off, none⟩ ∧ b < w.heap.size ∧ ∀ j, j < l.length → w.cell? ⟨b, off + j, none⟩ = some (.int .u8 (bat l j)))

theorem IsB.nil_ (w : World) (A : Option Addr) (c : Nat) (hc : c ≤ maxLen) : IsB w (.slice A 0 c) [] := ⟨A, c, rfl, Nat.zero_le _, hc, fun h => absurd h (by simp)⟩
theorem IsB.none_ (w : World) : IsB w (.slice none 0 0) [] := IsB.nil_ w none 0 (by decide)

theorem IsB.keep {w w' : World} {v : Value} {l : List UInt8} (h : IsB w v l) (hs : w.heap.size ≤ w'.heap.size) (hk : ∀ b o, b < w.heap.size → w'.cell? ⟨b, o, none⟩ = w.cell? ⟨b, o, none⟩) : IsB w' v l := by
  obtain ⟨A, c, rfl, h1, h2, h3⟩ := h
  refine ⟨A, c, rfl, h1, h2, fun hne => ?_⟩
  obtain ⟨b, off, rfl, hb, hc⟩ := h3 hne
  exact ⟨b, off, rfl, Nat.lt_of_lt_of_le hb hs, fun j hj => (hk _ _ hb).trans (hc j hj)⟩

theorem IsB.below {w w' : World} {v : Value} {l : List UInt8} (h : IsB w v l) (hb : Below w.heap.size w w') : IsB w' v l :=
  h.keep hb.size fun _ _ hlt => hb.cell hlt

theorem IsB.alloc {w : World} {v : Value} {l : List UInt8} (h : IsB w v l) (o : Obj) : IsB (w.alloc o) v l :=
  h.below ((Below.refl _ _).alloc (Nat.le_refl _) o)

theorem IsB.drew {w : World} {v : Value} {l : List UInt8} (h : IsB w v l) : IsB w.drew v l := h
theorem IsB.drewN {w : World} {v : Value} {l : List UInt8} (h : IsB w v l) (n : Nat) : IsB (w.drewN n) v l := h

theorem IsB.open_ {w : World} {v : Value} {l : List UInt8} (h : IsB w v l) :
    (∃ A c, l = [] ∧ v = .slice A 0 c ∧ c ≤ 9223372036854775807) ∨
    (∃ b off c, v = .slice (some ⟨b, off, none⟩) l.length c ∧ 0 < l.length ∧ l.length ≤ c ∧ c ≤ 9223372036854775807 ∧ b < w.heap.size ∧
      w.cell? ⟨b, off, none⟩ = some (.int .u8 (bat l 0)) ∧ ∀ j, j < l.length → w.cell? ⟨b, off + j, none⟩ = some (.int .u8 (bat l j))) := by
  obtain ⟨A, c, rfl, h1, h2, h3⟩ := h
  unfold maxLen at h2
  rcases Nat.eq_zero_or_pos l.length with hl | hl
  · obtain rfl := List.eq_nil_of_length_eq_zero hl; exact .inl ⟨A, c, rfl, rfl, h2⟩
  · obtain ⟨b, off, rfl, hb, hc⟩ := h3 hl
    exact .inr ⟨b, off, c, rfl, hl, h1, h2, hb, hc 0 hl, hc⟩

theorem IsB.maxl {w : World} {v : Value} {l : List UInt8} (h : IsB w v l) : (l.length : Int) ≤ 9223372036854775807 := by
  obtain ⟨A, c, _, h1, h2, _⟩ := h; unfold maxLen at h2; omega

theorem IsB.sub {w : World} {A0 : Option Addr} {n0 c : Nat} {l : List UInt8} (h : IsB w (.slice A0 n0 c) l) {lo hi c' : Nat} {A : Option Addr} {n : Nat} (h1 : lo ≤ hi) (h2 : hi ≤ l.length) (h3 : hi - lo ≤ c') (h4 : c' ≤ maxLen)
    (hn : n = hi - lo) (hA : lo < hi → ∀ b off, A0 = some ⟨b, off, none⟩ → A = some ⟨b, off + lo, none⟩) : IsB w (.slice A n c') ((l.drop lo).take (hi - lo)) := by
  have hlen : ((l.drop lo).take (hi - lo)).length = hi - lo := by simp; omega
  subst hn
  refine ⟨A, c', by rw [hlen], by omega, h4, fun hne => ?_⟩
  have hlt : lo < hi := by omega
  obtain ⟨A', c'', hv, _, _, h5⟩ := h
  injection hv with e1 e2 e3
  subst e1
  obtain ⟨b, off, rfl, hb, hc⟩ := h5 (by omega)
  refine ⟨b, off + lo, hA hlt b off rfl, hb, fun j hj => ?_⟩
  rw [show off + lo + j = off + (lo + j) by omega, bat_take _ _ _ (by omega), bat_drop]
  exact hc _ (by omega)

theorem IsB.from_ {w : World} {A0 : Option Addr} {n0 c : Nat} {l : List UInt8} (h : IsB w (.slice A0 n0 c) l) {lo c' : Nat} {A : Option Addr} {n : Nat} (h2 : lo ≤ l.length) (h3 : l.length - lo ≤ c') (h4 : c' ≤ maxLen)
    (hn : n = l.length - lo) (hA : lo < l.length → ∀ b off, A0 = some ⟨b, off, none⟩ → A = some ⟨b, off + lo, none⟩) : IsB w (.slice A n c') (l.drop lo) := by
  have := h.sub (lo := lo) (hi := l.length) (c' := c') (A := A) (n := n) h2 (Nat.le_refl _) h3 h4 hn hA
  rwa [List.take_of_length_le (by simp)] at this

/-! ### The run equations of a slice that is kept behind a letter. -/
section
variable {P : Program} {w : World} {v : Value} {l : List UInt8} {t e : TypeId}
theorem IsB.len (h : IsB w v l) (ht : P.underlying t = some (.slice e)) : ∀ (ty : TypeId) (W : World), (Builtin.len_ #[t] ty #[v]).run P W = .ok (.int .i64 l.length) W := by
  obtain ⟨A, c, rfl, _⟩ := h
  intro ty W
  simp [Builtin.len_, run_underlying ht, goInt]

theorem IsB.at_ (h : IsB w v l) (ht : P.underlying t = some (.slice e)) (hs : ∀ W, (sizeOf e).run P W = .ok 1 W) (k : IntKind) {i : Int} (h0 : 0 ≤ i) (h1 : i < l.length) :
    ∃ b o, (∀ W : World, (Instr.indexAt t v (.int k i)).run P W = .ok (.pointer (some ⟨b, o, none⟩)) W) ∧ b < w.heap.size ∧ w.cell? ⟨b, o, none⟩ = some (.int .u8 (bat l i.toNat)) := by
  obtain ⟨A, c, rfl, h2, h3, h4⟩ := h
  obtain ⟨b, off, rfl, hb, hc⟩ := h4 (by omega)
  refine ⟨b, off + i.toNat, fun W => ?_, hb, hc _ (by omega)⟩
  have hi : (0 ≤ i ∧ i < (l.length : Int)) := ⟨h0, h1⟩
  simp only [Instr.indexAt, asIntOf, Sem.run_bind, Sem.run_pure, Result.andThen, run_underlying ht, if_pos hi, hs, Nat.mul_one]
  simp [Addr.add]

theorem IsB.cutLo (h : IsB w v l) (ht : P.underlying t = some (.slice e)) (hs : ∀ W, (sizeOf e).run P W = .ok 1 W) (k : IntKind) {lo : Int} (h0 : 0 ≤ lo) (h1 : lo ≤ l.length) :
    ∃ v', (∀ W : World, (Instr.slice t v (some (.int k lo)) none none).run P W = .ok v' W) ∧ IsB w v' (l.drop lo.toNat) := by
  obtain ⟨A, c, rfl, h2, h3, h4⟩ := h
  refine ⟨.slice (if c = lo.toNat then A else A.map (·.add lo.toNat)) (l.length - lo.toNat) (c - lo.toNat), fun W => ?_, ?_⟩
  · have hi : (0 ≤ lo ∧ lo ≤ (l.length : Int)) := ⟨h0, h1⟩
    simp only [Instr.slice, Instr.sliceBounds, Instr.sliceBound, asIntOf, Sem.run_bind, Sem.run_pure, Result.andThen, run_underlying ht, if_pos hi, hs, Nat.mul_one]
  · refine IsB.from_ (A0 := A) (n0 := l.length) (c := c) ⟨A, c, rfl, h2, h3, h4⟩ (by omega) (by omega) (by omega) rfl ?_
    rintro hlt b off rfl
    by_cases hz : lo.toNat = 0
    · simp [hz, Addr.add]
    · clear h4; rw [if_neg (by omega)]; simp [Addr.add, hz]

theorem IsB.cut (h : IsB w v l) (ht : P.underlying t = some (.slice e)) (hs : ∀ W, (sizeOf e).run P W = .ok 1 W) (k k' : IntKind) {lo hi : Int} (h0 : 0 ≤ lo) (h1 : lo ≤ hi) (h2' : hi ≤ l.length) :
    ∃ v', (∀ W : World, (Instr.slice t v (some (.int k lo)) (some (.int k' hi)) none).run P W = .ok v' W) ∧ IsB w v' ((l.drop lo.toNat).take (hi - lo).toNat) := by
  obtain ⟨A, c, rfl, h2, h3, h4⟩ := h
  refine ⟨.slice (if c = lo.toNat then A else A.map (·.add lo.toNat)) (hi.toNat - lo.toNat) (c - lo.toNat), fun W => ?_, ?_⟩
  · have hi1 : (0 ≤ hi ∧ hi ≤ (c : Int)) := ⟨by omega, by omega⟩
    have hi2 : (0 ≤ lo ∧ lo ≤ (hi.toNat : Int)) := ⟨h0, by omega⟩
    simp only [Instr.slice, Instr.sliceBounds, Instr.sliceBound, asIntOf, Sem.run_bind, Sem.run_pure, Result.andThen, run_underlying ht, if_pos hi1, if_pos hi2, hs, Nat.mul_one]
  · rw [show (hi - lo).toNat = hi.toNat - lo.toNat by omega]
    refine IsB.sub (A0 := A) (n0 := l.length) (c := c) ⟨A, c, rfl, h2, h3, h4⟩ (by omega) (by omega) (by omega) (by omega) rfl ?_
    rintro hlt b off rfl
    by_cases hz : lo.toNat = 0
    · simp [hz, Addr.add]
    · clear h4; rw [if_neg (by omega)]; simp [Addr.add, hz]

theorem IsB.cut3 (h : IsB w v l) (ht : P.underlying t = some (.slice e)) (hs : ∀ W, (sizeOf e).run P W = .ok 1 W) (k k' k'' : IntKind) {lo hi : Int} (h0 : 0 ≤ lo) (h1 : lo ≤ hi) (h2' : hi ≤ l.length) :
    ∃ v', (∀ W : World, (Instr.slice t v (some (.int k lo)) (some (.int k' hi)) (some (.int k'' hi))).run P W = .ok v' W) ∧ IsB w v' ((l.drop lo.toNat).take (hi - lo).toNat) := by
  obtain ⟨A, c, rfl, h2, h3, h4⟩ := h
  refine ⟨.slice (if hi.toNat = lo.toNat then A else A.map (·.add lo.toNat)) (hi.toNat - lo.toNat) (hi.toNat - lo.toNat), fun W => ?_, ?_⟩
  · have hi0 : (0 ≤ hi ∧ hi ≤ (c : Int)) := ⟨by omega, by omega⟩
    have hi1 : (0 ≤ hi ∧ hi ≤ (hi.toNat : Int)) := ⟨by omega, by omega⟩
    have hi2 : (0 ≤ lo ∧ lo ≤ (hi.toNat : Int)) := ⟨h0, by omega⟩
    simp only [Instr.slice, Instr.sliceBounds, Instr.sliceBound, asIntOf, Sem.run_bind, Sem.run_pure, Result.andThen, run_underlying ht, if_pos hi0, if_pos hi1, if_pos hi2, hs, Nat.mul_one]
  · rw [show (hi - lo).toNat = hi.toNat - lo.toNat by omega]
    refine IsB.sub (A0 := A) (n0 := l.length) (c := c) ⟨A, c, rfl, h2, h3, h4⟩ (by omega) (by omega) (by omega) (by unfold maxLen at *; omega) rfl ?_
    rintro hlt b off rfl
    clear h4
    rw [if_neg (by omega)]
    by_cases hz : lo.toNat = 0
    · simp [hz, Addr.add]
    · simp [Addr.add, hz]
end
theorem bcell {W w1 : World} (hb : Below W.heap.size W w1) : (∀ b o, b < W.heap.size → w1.cell? ⟨b, o, none⟩ = W.cell? ⟨b, o, none⟩) ∧ (∀ b o, b < W.heap.size → w1.frozen? ⟨b, o, none⟩ = W.frozen? ⟨b, o, none⟩) :=
  ⟨fun b o h => hb.cell (p := ⟨b, o, none⟩) h, fun b o h => hb.frozen (p := ⟨b, o, none⟩) h⟩

theorem below_drewN {B : Nat} {a w : World} (h : Below B a w) (n : Nat) : Below B a (w.drewN n) := ⟨h.os, h.tape, h.output, h.size, h.block⟩

theorem results_tmp4 {fn : Func} {t u v x : Tmp} (h : fn.results = #[.tmp t, .tmp u, .tmp v, .tmp x]) (tmps : Array Value) (P : Program) (w : World) :
    (results fn tmps).run P w = .ok (.tuple #[tmps.getD t undef, tmps.getD u undef, tmps.getD v undef, tmps.getD x undef]) w := by simp [results, h]

theorem pow256_mono {a b : Nat} (h : a ≤ b) : (256 : Int) ^ a ≤ 256 ^ b := by
  have e : ∀ n : Nat, (256 : Int) ^ n = ((256 ^ n : Nat) : Int) := fun n => by simp [Int.natCast_pow]
  rw [e, e]
  exact Int.ofNat_le.2 (Nat.pow_le_pow_right (by decide) h)

/-! Places of the call's own blocks, as the walk spells them. -/
section
variable (n : Nat)
@[go_sem] theorem lt_2 : n < n + 1 + 1 := by omega
@[go_sem] theorem lt_3 : n < n + 1 + 1 + 1 := by omega
@[go_sem] theorem lt_4 : n < n + 1 + 1 + 1 + 1 := by omega
@[go_sem] theorem lt_5 : n < n + 1 + 1 + 1 + 1 + 1 := by omega
@[go_sem] theorem lt_6 : n < n + 1 + 1 + 1 + 1 + 1 + 1 := by omega
@[go_sem] theorem lt_7 : n < n + 1 + 1 + 1 + 1 + 1 + 1 + 1 := by omega
end
def RetB (v : Value) (w : World) (e : Ending) (w' : World) : Prop := e = .returned v ∧ Below w.heap.size w w'

theorem bodyPost_retB {P : Program} {fn : Func} {a : Act} {w w0 : World} {v v0 : Value} (h : (results fn a.tmps).run P w = .ok v w) (hd : a.defers = []) (hv : v = v0) (hb : Below w0.heap.size w0 w) :
    bodyPost P fn (RetB v0 w0) .ret a w := bodyPost_ret h hd ⟨by rw [hv], hb⟩

end Go.Cr
end

/- The plain functions that the layers compute, and their laws. No program in sight. -/
section
set_option linter.unusedSimpArgs false
set_option linter.unusedVariables false
namespace Go.Cr
open Go.RowKit
def be (l : List UInt8) : Int := l.foldl (fun a x => a * 256 + bi x) 0
theorem be_snoc (l : List UInt8) (x : UInt8) : be (l ++ [x]) = be l * 256 + bi x := by simp [be, List.foldl_append]
theorem be_take_succ (l : List UInt8) (k : Nat) (h : k < l.length) : be (l.take (k + 1)) = be (l.take k) * 256 + bat l k := by
  rw [List.take_succ_eq_append_getElem h, be_snoc, bat_eq l k h]
theorem be_bound (l : List UInt8) : 0 ≤ be l ∧ be l < 256 ^ l.length := by
  have h : ∀ (l : List UInt8) (a : Int) (m : Nat), 0 ≤ a → a < 256 ^ m → 0 ≤ l.foldl (fun a x => a * 256 + bi x) a ∧ l.foldl (fun a x => a * 256 + bi x) a < 256 ^ (m + l.length) := by
    intro l
    induction l with
    | nil => intro a m h0 h; simpa using ⟨h0, h⟩
    | cons x t ih =>
      intro a m h0 h
      have hx := bi_lt x
      have hx0 := bi_pos x
      simp only [List.foldl_cons, List.length_cons]
      have := ih (a * 256 + bi x) (m + 1) (by omega) (by rw [Int.pow_succ]; omega)
      rwa [show m + (t.length + 1) = m + 1 + t.length by omega]
  simpa [be] using h l 0 0 (by simp) (by simp)

abbrev Err := Int × Int

def rdLen (l : List UInt8) : Except Err (Int × Int) :=
  if l.length = 0 then .error (1, 0)
  else if bat l 0 < 128 then .ok (bat l 0, 1)
  else if bat l 0 - 128 = 0 ∨ 4 < bat l 0 - 128 then .error (4, 0)
  else if (l.length : Int) ≤ bat l 0 - 128 then .error (1, l.length)
  else if bat l 1 = 0 ∨ be ((l.drop 1).take (bat l 0 - 128).toNat) < 128 ∨ 2147483647 < be ((l.drop 1).take (bat l 0 - 128).toNat) then .error (4, 0)
  else .ok (be ((l.drop 1).take (bat l 0 - 128).toNat), 1 + (bat l 0 - 128))

@[go_sem] def errV (e : Err) : Value := .agg #[.int .i64 e.1, .int .i64 e.2]
def lenV : Except Err (Int × Int) → Value
  | .ok (n, k) => .tuple #[.int .i64 n, .int .i64 k, errV (0, 0)]
  | .error e => .tuple #[.int .i64 0, .int .i64 0, errV e]

theorem rdLen_ok {l : List UInt8} {n k : Int} (h : rdLen l = .ok (n, k)) : 0 ≤ n ∧ n ≤ 2147483647 ∧ 1 ≤ k ∧ k ≤ 5 ∧ k ≤ l.length := by
  have h0 := bat_lt l 0
  have h1 := bat_pos l 0
  have hb := (be_bound ((l.drop 1).take (bat l 0 - 128).toNat)).1
  unfold rdLen at h
  split at h
  · cases h
  split at h
  · injection h with h; injection h with h2 h3; omega
  split at h
  · cases h
  split at h
  · cases h
  split at h
  · cases h
  · injection h with h; injection h with h2 h3; omega
theorem rdLen_err {l : List UInt8} {c o : Int} (h : rdLen l = .error (c, o)) : 0 < c ∧ c ≤ 4 ∧ 0 ≤ o ∧ o ≤ l.length := by
  unfold rdLen at h
  split at h
  · injection h with h; injection h with h2 h3; omega
  split at h
  · cases h
  split at h
  · injection h with h; injection h with h2 h3; omega
  split at h
  · injection h with h; injection h with h2 h3; omega
  split at h
  · injection h with h; injection h with h2 h3; omega
  · cases h

structure Hdr where
  cls : Int
  num : Int
  con : Bool
  len : Int
  size : Int
@[go_sem] def Hdr.zero : Hdr := ⟨0, 0, false, 0, 0⟩
@[go_sem] def hdrV (h : Hdr) : Value := .agg #[.int .i64 h.cls, .int .i64 h.num, .bool h.con, .int .i64 h.len, .int .i64 h.size]
def rdHdr (l : List UInt8) : Except Err Hdr :=
  if l.length = 0 then .error (1, 0)
  else if bat l 0 % 32 = 31 then .error (3, 0)
  else match rdLen (l.drop 1) with
    | .error (c, o) => .error (c, o + 1)
    | .ok (n, k) => .ok ⟨bat l 0 / 64, bat l 0 % 32, decide (bat l 0 / 32 % 2 = 1), n, 1 + k⟩
def rhV : Except Err Hdr → Value
  | .ok h => .tuple #[hdrV h, errV (0, 0)]
  | .error e => .tuple #[hdrV Hdr.zero, errV e]
theorem rdHdr_ok {l : List UInt8} {h : Hdr} (e : rdHdr l = .ok h) : 0 ≤ h.len ∧ h.len ≤ 2147483647 ∧ 2 ≤ h.size ∧ h.size ≤ 6 ∧ h.size ≤ l.length ∧ 0 ≤ h.cls ∧ h.cls ≤ 3 ∧ 0 ≤ h.num ∧ h.num ≤ 30 := by
  have h0 := bat_lt l 0
  have h1 := bat_pos l 0
  unfold rdHdr at e
  split at e
  · cases e
  split at e
  · cases e
  split at e
  · cases e
  · rename_i n k hr
    injection e with e; subst e
    have := rdLen_ok hr
    simp only [List.length_drop] at this ⊢
    omega
theorem rdHdr_err {l : List UInt8} {c o : Int} (e : rdHdr l = .error (c, o)) : 0 < c ∧ c ≤ 4 ∧ 0 ≤ o ∧ o ≤ l.length := by
  unfold rdHdr at e
  split at e
  · injection e with e; injection e with h2 h3; omega
  split at e
  · injection e with e; injection e with h2 h3; omega
  split at e
  · rename_i hr
    injection e with e; injection e with h2 h3
    have := rdLen_err hr
    simp only [List.length_drop] at this
    omega
  · cases e

theorem ofInt_i64 (a : Nat) (ha : a < 9223372036854775808) : (BitVec.ofInt 64 (a : Int)).toNat = a := by
  rw [BitVec.ofInt_natCast, BitVec.toNat_ofNat]; exact Nat.mod_eq_of_lt (by omega)
theorem i64_or_nat (a b : Nat) (ha : a < 9223372036854775808) (hb : b < 9223372036854775808) : bits .or .i64 (a : Int) (b : Int) = ((a ||| b : Nat) : Int) := by
  have hx : a ||| b < 2 ^ 63 := Nat.or_lt_two_pow (by omega) (by omega)
  show IntKind.i64.wrap ((BitVec.ofInt 64 (a : Int) ||| BitVec.ofInt 64 (b : Int)).toNat : Int) = _
  rw [BitVec.toNat_or, ofInt_i64 a ha, ofInt_i64 b hb, IntKind.wrap_i64]
  omega
theorem or_add (a b j : Nat) (hb : b < 2 ^ j) : a * 2 ^ j ||| b = a * 2 ^ j + b := by
  rw [Nat.mul_comm, Nat.two_pow_add_eq_or_of_lt hb]
theorem i64_or_256 (n x : Int) (h0 : 0 ≤ n) (h1 : n < 1099511627776) (h2 : 0 ≤ x) (h3 : x < 256) : bits .or .i64 (n * 256) x = n * 256 + x := by
  obtain ⟨a, rfl⟩ := Int.eq_ofNat_of_zero_le h0
  obtain ⟨b, rfl⟩ := Int.eq_ofNat_of_zero_le h2
  have := i64_or_nat (a * 256) b (by omega) (by omega)
  rw [show ((a : Int) * 256) = ((a * 256 : Nat) : Int) by omega, this, or_add a b 8 (by omega)]
  omega
theorem i64_or_64 (c n : Int) (h0 : 0 ≤ c) (h1 : c ≤ 3) (h2 : 0 ≤ n) (h3 : n < 32) : bits .or .i64 (c * 64) n = c * 64 + n := by
  obtain ⟨a, rfl⟩ := Int.eq_ofNat_of_zero_le h0
  obtain ⟨b, rfl⟩ := Int.eq_ofNat_of_zero_le h2
  have := i64_or_nat (a * 64) b (by omega) (by omega)
  rw [show ((a : Int) * 64) = ((a * 64 : Nat) : Int) by omega, this, or_add a b 6 (by omega)]
  omega
theorem u8_or_32 (c n : Int) (h0 : 0 ≤ c) (h1 : c ≤ 3) (h2 : 0 ≤ n) (h3 : n < 32) : bits .or .u8 (c * 64 + n) 32 = c * 64 + n + 32 := by
  obtain ⟨a, rfl⟩ := Int.eq_ofNat_of_zero_le h0
  obtain ⟨b, rfl⟩ := Int.eq_ofNat_of_zero_le h2
  have ha : a < 4 := by omega
  have hb : b < 32 := by omega
  have key : ∀ a : Fin 4, ∀ b : Fin 32, bits .or .u8 ((a.val : Int) * 64 + (b.val : Int)) 32 = (a.val : Int) * 64 + (b.val : Int) + 32 := by decide +kernel
  exact key ⟨a, ha⟩ ⟨b, hb⟩
theorem u8_and_32 (n : Int) (h0 : 0 ≤ n) (h1 : n < 256) : bits .and .u8 n 32 = n / 32 % 2 * 32 := by
  obtain ⟨a, rfl⟩ := Int.eq_ofNat_of_zero_le h0
  have ha : a < 256 := by omega
  have key : ∀ a : Fin 256, bits .and .u8 (a.val : Int) 32 = (a.val : Int) / 32 % 2 * 32 := by decide +kernel
  exact key ⟨a, ha⟩
theorem u8_and_31 (n : Int) (h0 : 0 ≤ n) (h1 : n < 256) : bits .and .u8 n 31 = n % 32 := bits_mask .u8 8 (by decide) wraps_u8 5 (by decide) _ h0 h1
end Go.Cr
end

/- More plain words for memory: rows of the call's own, slices of structs. No program in sight. -/
section
set_option linter.unusedSimpArgs false
set_option linter.unusedVariables false
namespace Go.Cr
open Go.RowKit
theorem ownsRow_below {w w' : World} {base : Nat} {e : TypeId} {size : Nat} {v : Value} {n : Nat} {xs : List Value} (h : w.ownsRow base e size v n xs) (hb : Below w.heap.size w w') : w'.ownsRow base e size v n xs := by
  obtain ⟨h1, h2⟩ := h
  refine ⟨h1, ?_⟩
  rcases h2 with h2 | ⟨g, cap, cur, hv, hg, hh, r⟩
  · exact .inl h2
  · refine .inr ⟨g, cap, cur, hv, hg, ?_, r⟩
    rw [hb.block g ?_]
    · exact hh
    · rcases Nat.lt_or_ge g w.heap.size with hlt | hge
      · exact hlt
      · rw [Array.getElem?_eq_none hge] at hh; cases hh

theorem ownsRow_more {w : World} {base base' : Nat} {e : TypeId} {size : Nat} {v : Value} {n : Nat} {xs : List Value} (h : w.ownsRow base e size v n xs) (hb : base' ≤ base) : w.ownsRow base' e size v n xs := by
  obtain ⟨h1, h2⟩ := h
  refine ⟨h1, ?_⟩
  rcases h2 with h2 | ⟨g, cap, cur, hv, hg, r⟩
  · exact .inl h2
  · exact .inr ⟨g, cap, cur, hv, by omega, r⟩

def Blk (w : World) (g : Nat) (t : TypeId) (cs : Array Value) : Prop := w.heap[g]? = some (.cells cs t (0, 0))
section
variable {w w' : World} {g : Nat} {t : TypeId} {cs : Array Value}
theorem Blk.lt (h : Blk w g t cs) : g < w.heap.size := by
  rcases Nat.lt_or_ge g w.heap.size with hlt | hge
  · exact hlt
  · unfold Blk at h; rw [Array.getElem?_eq_none hge] at h; cases h
theorem Blk.q (h : Blk w g t cs) : ∀ o, w.cell? ⟨g, o, none⟩ = cs[o]? := fun o => by unfold Blk at h; simp [World.cell?, h]
theorem Blk.fz (h : Blk w g t cs) : ∀ o, w.frozen? ⟨g, o, none⟩ = false := fun o => by unfold Blk at h; simp [World.frozen?, h]
theorem Blk.new (w : World) (t : TypeId) (cs : Array Value) : Blk (w.alloc (.cells cs t)) w.heap.size t cs := heap_alloc_new w _
theorem Blk.drew (h : Blk w g t cs) : Blk w.drew g t cs := h
theorem Blk.below {B : Nat} (h : Blk w g t cs) (hb : Below B w w') (hg : g < B) : Blk w' g t cs := (hb.block g hg).trans h
theorem Blk.call (h : Blk w g t cs) (hb : Below w.heap.size w w') : Blk w' g t cs := h.below hb h.lt
theorem Blk.alloc (h : Blk w g t cs) (o : Obj) : Blk (w.alloc o) g t cs := (Below.heap_alloc w o g h.lt).trans h
theorem Blk.set_ (h : Blk w g t cs) (i : Nat) (u : Value) : Blk (w.setCell ⟨g, i, none⟩ u) g t (cs.setIfInBounds i u) := by
  unfold Blk at h ⊢
  simp [World.setCell, Array.getElem?_modify, h]
theorem Blk.far (h : Blk w g t cs) {p : Addr} (hp : g ≠ p.block) (u : Value) : Blk (w.setCell p u) g t cs := (Below.heap_setCell w p u g hp).trans h
theorem Blk.grown {row : Option Nat} (h : Blk w g t cs) (hb : w.grownBy w' row) (hg : some g ≠ row) : Blk w' g t cs := (hb.block g h.lt hg).trans h
end
def IsR (w : World) (v : Value) (k n : Nat) (xs : List Value) : Prop :=
  ∃ (A : Option Addr) (c : Nat), v = .slice A n c ∧ n ≤ c ∧ c ≤ maxLen ∧ xs.length = n * k ∧
    (0 < n → ∃ b off, A = some ⟨b, off, none⟩ ∧ b < w.heap.size ∧ ∀ j x, xs[j]? = some x → w.cell? ⟨b, off + j, none⟩ = some x)

theorem IsR.below {w w' : World} {v : Value} {k n : Nat} {xs : List Value} (h : IsR w v k n xs) (hb : Below w.heap.size w w') : IsR w' v k n xs := by
  obtain ⟨A, c, rfl, h1, h2, h3, h4⟩ := h
  refine ⟨A, c, rfl, h1, h2, h3, fun hn => ?_⟩
  obtain ⟨b, off, rfl, hlt, hc⟩ := h4 hn
  exact ⟨b, off, rfl, Nat.lt_of_lt_of_le hlt hb.size, fun j x hj => (hb.cell hlt).trans (hc j x hj)⟩
theorem IsR.alloc {w : World} {v : Value} {k n : Nat} {xs : List Value} (h : IsR w v k n xs) (o : Obj) : IsR (w.alloc o) v k n xs := h.below ((Below.refl _ _).alloc (Nat.le_refl _) o)
theorem IsR.drew {w : World} {v : Value} {k n : Nat} {xs : List Value} (h : IsR w v k n xs) : IsR w.drew v k n xs := h

theorem IsR.of_own {w : World} {base : Nat} {e : TypeId} {k : Nat} {v : Value} {n : Nat} {xs : List Value} (h : w.ownsRow base e k v n xs) : IsR w v k n xs := by
  have hlt := h.lt
  obtain ⟨h1, h2⟩ := h
  rcases h2 with ⟨rfl, rfl⟩ | ⟨g, cap, cur, rfl, hg, hh, hc1, hc2, hs, ht⟩
  · exact ⟨none, 0, rfl, Nat.le_refl _, by decide, h1, fun h => absurd h (by omega)⟩
  · refine ⟨_, cap, rfl, hc1, hc2, h1, fun _ => ⟨g, 0, rfl, (hlt g rfl).2, fun j x hj => ?_⟩⟩
    subst ht
    rw [List.getElem?_take] at hj
    split at hj
    · simp only [World.cell?, hh, Option.isSome_none, Bool.false_eq_true, if_false, Nat.zero_add]
      rw [← hj]; simp
    · cases hj

section
variable {P : Program} {w : World} {v : Value} {k n : Nat} {xs : List Value} {t e : TypeId}
theorem IsR.len (h : IsR w v k n xs) (ht : P.underlying t = some (.slice e)) : ∀ (ty : TypeId) (W : World), (Builtin.len_ #[t] ty #[v]).run P W = .ok (.int .i64 n) W := by
  obtain ⟨A, c, rfl, _⟩ := h
  intro ty W
  simp [Builtin.len_, run_underlying ht, goInt]
theorem IsR.maxl (h : IsR w v k n xs) : (n : Int) ≤ 9223372036854775807 := by
  obtain ⟨A, c, _, h1, h2, _⟩ := h; unfold maxLen at h2; omega
theorem IsR.at_ (h : IsR w v k n xs) (ht : P.underlying t = some (.slice e)) (hs : ∀ W, (sizeOf e).run P W = .ok k W) (kd : IntKind) {i : Int} (h0 : 0 ≤ i) (h1 : i < n) :
    ∃ b o, (∀ W : World, (Instr.indexAt t v (.int kd i)).run P W = .ok (.pointer (some ⟨b, o, none⟩)) W) ∧ b < w.heap.size ∧ ∀ j x, xs[i.toNat * k + j]? = some x → w.cell? ⟨b, o + j, none⟩ = some x := by
  obtain ⟨A, c, rfl, h2, h3, h4, h5⟩ := h
  obtain ⟨b, off, rfl, hb, hc⟩ := h5 (by omega)
  refine ⟨b, off + i.toNat * k, fun W => ?_, hb, fun j x hj => by rw [Nat.add_assoc]; exact hc _ _ hj⟩
  have hi : (0 ≤ i ∧ i < (n : Int)) := ⟨h0, h1⟩
  simp only [Instr.indexAt, asIntOf, Sem.run_bind, Sem.run_pure, Result.andThen, run_underlying ht, if_pos hi, hs]
  simp [Addr.add]
end
end Go.Cr
end

/- Bytes that the call itself owns; big-endian digits; comparing. No program in sight. -/
section
set_option linter.unusedSimpArgs false
set_option linter.unusedVariables false
namespace Go.Cr
open Go.RowKit
def bCells (l : List UInt8) : List Value := l.map fun x => .int .u8 (bi x)
theorem bCells_len (l : List UInt8) : (bCells l).length = l.length := by simp [bCells]
theorem bCells_app (a b : List UInt8) : bCells (a ++ b) = bCells a ++ bCells b := by simp [bCells]
theorem bCells_one (l : List UInt8) : ∀ u ∈ bCells l, u.oneCell' = true := by
  intro u hu; simp only [bCells, List.mem_map] at hu; obtain ⟨x, _, rfl⟩ := hu; rfl
theorem bCells_at (l : List UInt8) (j : Nat) (h : j < l.length) : (bCells l)[j]? = some (.int .u8 (bat l j)) := by
  simp [bCells, List.getElem?_eq_getElem h, bat]

theorem IsR.bytes {w : World} {v : Value} {l : List UInt8} (h : IsR w v 1 l.length (bCells l)) : IsB w v l := by
  obtain ⟨A, c, rfl, h1, h2, h3, h4⟩ := h
  refine ⟨A, c, rfl, h1, h2, fun hn => ?_⟩
  obtain ⟨b, off, rfl, hb, hc⟩ := h4 hn
  exact ⟨b, off, rfl, hb, fun j hj => hc j _ (bCells_at l j hj)⟩

def OwB (w : World) (base : Nat) (t : TypeId) (v : Value) (l : List UInt8) : Prop := w.ownsRow base t 1 v l.length (bCells l)
theorem OwB.isB {w : World} {base : Nat} {t : TypeId} {v : Value} {l : List UInt8} (h : OwB w base t v l) : IsB w v l := (IsR.of_own h).bytes
theorem OwB.below {w w' : World} {base : Nat} {t : TypeId} {v : Value} {l : List UInt8} (h : OwB w base t v l) (hb : Below w.heap.size w w') : OwB w' base t v l := ownsRow_below h hb
theorem OwB.alloc {w : World} {base : Nat} {t : TypeId} {v : Value} {l : List UInt8} (h : OwB w base t v l) (o : Obj) : OwB (w.alloc o) base t v l := World.ownsRow.alloc h o
theorem OwB.more {w : World} {base base' : Nat} {t : TypeId} {v : Value} {l : List UInt8} (h : OwB w base t v l) (hb : base' ≤ base) : OwB w base' t v l := ownsRow_more h hb
theorem OwB.nil_ (w : World) (base : Nat) (t : TypeId) : OwB w base t (.slice none 0 0) [] := World.ownsRow_nil w base t 1
theorem OwB.one (w : World) (t : TypeId) (x : UInt8) {base : Nat} (hb : base ≤ w.heap.size) : OwB (w.alloc (.cells #[.int .u8 (bi x)] t)) base t (.slice (some ⟨w.heap.size, 0, none⟩) 1 1) [x] := by
  have := World.ownsRow_lit (base := base) (e := t) (size := 1) w #[.int .u8 (bi x)] 1 hb (by decide) rfl
  simpa [OwB, bCells] using this
def RetO (t : TypeId) (l : List UInt8) (w : World) (e : Ending) (w' : World) : Prop := ∃ v, e = .returned v ∧ OwB w' w.heap.size t v l ∧ Below w.heap.size w w'

theorem IsB.isR {w : World} {v : Value} {l : List UInt8} (h : IsB w v l) : IsR w v 1 l.length (bCells l) := by
  obtain ⟨A, c, rfl, h1, h2, h3⟩ := h
  refine ⟨A, c, rfl, h1, h2, by simp [bCells_len], fun hn => ?_⟩
  obtain ⟨b, off, rfl, hb, hc⟩ := h3 hn
  refine ⟨b, off, rfl, hb, fun j x hj => ?_⟩
  have hlt : j < l.length := by have := (List.getElem?_eq_some_iff.1 hj).1; rwa [bCells_len] at this
  rw [bCells_at l j hlt] at hj
  rw [← hj]; exact hc j hlt
theorem isB_new (w : World) (t : TypeId) (z : UInt8) (y : Int) (hy : bi z = y) : IsB (w.alloc (.cells #[.int .u8 y] t)) (.slice (some ⟨w.heap.size, 0, none⟩) 1 1) [z] := by
  subst hy; exact (OwB.one w t z (Nat.zero_le _)).isB

/-! ### append onto a row of the call's own, whatever the source. -/
section
variable {P : Program} (w : World)
theorem run_app (base : Nat) (t ty e : TypeId) (i : TypeInfo) (z : Value) (size bytes : Nat) (ht : P.underlying t = some (.slice e)) (hi : P.info? e = some i) (hz : i.zero = some z)
    (hsize : i.size = size) (hby : i.bytes = bytes) (hzs : z.cells.size = size) (hsz : 0 < size)
    (v : Value) (n : Nat) (xs : List Value) (hown : w.ownsRow base e size v n xs) (x : Value) (m : Nat) (news : List Value) (hx : IsR w x size m news) (h1 : ∀ u ∈ news, u.oneCell' = true)
    (h63 : n + m ≤ maxLen) (hbytes : (n + m) * bytes ≤ 140737488355328) (hbase : base ≤ w.heap.size) :
    ∃ v' w', (Builtin.append_ #[t, t] ty #[v, x]).run P w = .ok v' w' ∧ w'.ownsRow base e size v' (n + m) (xs ++ news) ∧ w.grownBy w' v.ownBlock ∧ Below base w w' := by
  have hbel : ∀ w', w.grownBy w' v.ownBlock → Below base w w' := fun w' hg => ⟨hg.os, hg.tape, hg.output, hg.size, fun k hk => hg.block k (by omega) (fun hb => by have := (hown.lt _ hb.symm).1; omega)⟩
  obtain ⟨A, c, rfl, hc1, hc2, hl, hc⟩ := hx
  cases A with
  | none =>
    have hm : m = 0 := by
      rcases Nat.eq_zero_or_pos m with h | h
      · exact h
      · obtain ⟨_, _, h', _⟩ := hc h; cases h'
    subst hm
    obtain rfl : news = [] := List.eq_nil_of_length_eq_zero (by simpa using hl)
    refine ⟨v, w, ?_, by simpa using hown, World.grownBy.refl w _, Below.refl _ _⟩
    rcases hown.2 with ⟨rfl, rfl⟩ | ⟨g, cap, cur, rfl, _, _, hnc, _⟩
    · simp [Builtin.append_, run_underlying ht, sizeOf, typeInfo, hi, Builtin.lenOf, Builtin.firstCells]
    · simp [Builtin.append_, run_underlying ht, sizeOf, typeInfo, hi, Builtin.lenOf, Builtin.firstCells, hnc, storeCells]
  | some ad =>
    have hcells : ∀ j u, news[j]? = some u → w.cell? (ad.add j) = some u := by
      intro j u hj
      have hpos : 0 < m := by
        rcases Nat.eq_zero_or_pos m with h | h
        · subst h; have : news = [] := List.eq_nil_of_length_eq_zero (by simpa using hl); subst this; simp at hj
        · exact h
      obtain ⟨b, off, h', _, hcc⟩ := hc hpos
      injection h' with h'; subst h'
      have := hcc j u hj
      unfold Addr.add
      split
      · rename_i h0; subst h0; simpa using this
      · exact this
    obtain ⟨v', w', hr, h2, h3, _, _⟩ := run_append_own_at (P := P) w base t ty e i z size bytes ht hi hz hsize hby hzs hsz v n xs hown ad m c news hl hcells h1 h63 hbytes hbase
    exact ⟨v', w', hr, h2, h3, hbel _ h3⟩

theorem wpList_app {ops : Array Oper} {rest : List Oper} {o : Oper} {a : Act} {Q : Exit → Act → World → Prop} (hgd : o.guard = none) (s y : Operand) (t : TypeId)
    (ho : o.op = .call { callee := .builtin .append, args := #[s, y], argTypes := #[t, t] })
    (base : Nat) (e : TypeId) (i : TypeInfo) (z : Value) (size bytes : Nat) (ht : P.underlying t = some (.slice e)) (hi : P.info? e = some i) (hz : i.zero = some z)
    (hsize : i.size = size) (hby : i.bytes = bytes) (hzs : z.cells.size = size) (hsz : 0 < size)
    (v : Value) (n : Nat) (xs : List Value) (hs : a.eval s = v) (hown : w.ownsRow base e size v n xs) (x : Value) (m : Nat) (news : List Value) (hyx : a.eval y = x) (hx : IsR w x size m news) (h1 : ∀ u ∈ news, u.oneCell' = true)
    (h63 : n + m ≤ maxLen) (hbytes : (n + m) * bytes ≤ 140737488355328) (hbase : base ≤ w.heap.size)
    (h : ∀ v' w', w'.ownsRow base e size v' (n + m) (xs ++ news) → w.grownBy w' v.ownBlock → Below base w w' → wpList P ops Q rest (a.put o.dst v') w') : wpList P ops Q (o :: rest) a w :=
  wpList_plain hgd fun _ hK => by
    obtain ⟨v', w', hr, h2, h3, h4⟩ := run_app (P := P) w base t o.type e i z size bytes ht hi hz hsize hby hzs hsz v n xs hown x m news hx h1 h63 hbytes hbase
    unfold Oper.wp execOp
    simp only [ho, resolve, invoke, builtin, Sem.run_bind, Sem.run_pure, Result.andThen_ok, List.map_toArray, List.map_cons, List.map_nil, hs, hyx, hr]
    exact hK _ _ (h v' w' h2 h3 h4)

theorem wpList_appB {ops : Array Oper} {rest : List Oper} {o : Oper} {a : Act} {Q : Exit → Act → World → Prop} (hgd : o.guard = none) (s y : Operand) (t : TypeId)
    (ho : o.op = .call { callee := .builtin .append, args := #[s, y], argTypes := #[t, t] })
    (base : Nat) (e : TypeId) (ht : P.underlying t = some (.slice e)) (hinfo : (P.info? e).map (fun i => (i.zero, i.size, i.bytes)) = some (some (.int .u8 0), 1, 1))
    (v : Value) (l : List UInt8) (hs : a.eval s = v) (hown : OwB w base e v l) (x : Value) (l2 : List UInt8) (hyx : a.eval y = x) (hx : IsB w x l2)
    (hlen : l.length + l2.length ≤ 70368744177664) (hbase : base ≤ w.heap.size)
    (h : ∀ v' w', OwB w' base e v' (l ++ l2) → w.grownBy w' v.ownBlock → Below base w w' → wpList P ops Q rest (a.put o.dst v') w') : wpList P ops Q (o :: rest) a w := by
  obtain ⟨i0, hi, hz0, hz1, hz2⟩ := info_parts hinfo
  refine wpList_app w hgd s y t ho base e i0 _ 1 1 ht hi hz0 hz1 hz2 rfl (by decide) v l.length (bCells l) hs hown x l2.length (bCells l2) hyx hx.isR (bCells_one _) (by unfold maxLen; omega) (by omega) hbase ?_
  intro v' w' h2 h3 h4
  exact h v' w' (by rw [OwB, bCells_app, List.length_append]; exact h2) h3 h4
end
theorem bi_ofNat (n : Nat) : bi (UInt8.ofNat n) = ((n % 256 : Nat) : Int) := by simp [bi]

def minF : Nat → Nat → List UInt8
  | 0, n => [UInt8.ofNat n]
  | k + 1, n => if n < 256 then [UInt8.ofNat n] else minF k (n / 256) ++ [UInt8.ofNat (n % 256)]
theorem minF_len (k n : Nat) : 0 < (minF k n).length ∧ (minF k n).length ≤ k + 1 := by
  induction k generalizing n with
  | zero => simp [minF]
  | succ k ih => simp only [minF]; split <;> simp; have := (ih (n / 256)).2; omega
theorem minF_be (k n : Nat) (h : n < 256 ^ (k + 1)) : be (minF k n) = n := by
  induction k generalizing n with
  | zero => simp [minF, be, bi_ofNat]; omega
  | succ k ih =>
    simp only [minF]
    split
    · rename_i hlt; simp [be, bi_ofNat]; omega
    · rw [be_snoc, ih (n / 256) (by rw [Nat.pow_succ] at h; omega), bi_ofNat]; omega
theorem minF_fuel (k j n : Nat) (h : n < 256 ^ (k + 1)) : minF (k + j) n = minF k n := by
  induction k generalizing n with
  | zero =>
    have hn : n < 256 := by simpa using h
    cases j with
    | zero => rfl
    | succ j => simp only [Nat.zero_add, minF]; rw [if_pos hn]
  | succ k ih =>
    rw [show k + 1 + j = (k + j) + 1 by omega]
    simp only [minF]
    split
    · rfl
    · rw [ih (n / 256) (by rw [Nat.pow_succ] at h; omega)]

def cmpL : List UInt8 → List UInt8 → Int
  | [], [] => 0
  | [], _ :: _ => -1
  | _ :: _, [] => 1
  | x :: a, y :: b => if bi x < bi y then -1 else if bi y < bi x then 1 else cmpL a b
theorem cmpL_drop (a b : List UInt8) : ∀ k, k ≤ a.length → k ≤ b.length → (∀ j, j < k → bat a j = bat b j) → cmpL (a.drop k) (b.drop k) = cmpL a b := by
  intro k
  induction k generalizing a b with
  | zero => intros; rfl
  | succ k ih =>
    intro ha hb hj
    match a, b with
    | [], _ => simp at ha
    | _ :: _, [] => simp at hb
    | x :: a, y :: b =>
      have h0 := hj 0 (by omega)
      simp only [bat_cons_zero] at h0
      simp only [List.drop_succ_cons, cmpL]
      rw [if_neg (by omega), if_neg (by omega)]
      exact ih a b (by simpa using ha) (by simpa using hb) (fun j h => by have := hj (j + 1) (by omega); simpa [bat_cons_succ] using this)
theorem cmpL_lt {a b : List UInt8} {k : Nat} (ha : k < a.length) (hb : k < b.length) (h : ∀ j, j < k → bat a j = bat b j) (hlt : bat a k < bat b k) : cmpL a b = -1 := by
  rw [← cmpL_drop a b k (by omega) (by omega) h, List.drop_eq_getElem_cons ha, List.drop_eq_getElem_cons hb]
  rw [bat_eq a k ha, bat_eq b k hb] at hlt
  simp only [cmpL]; rw [if_pos hlt]
theorem cmpL_gt {a b : List UInt8} {k : Nat} (ha : k < a.length) (hb : k < b.length) (h : ∀ j, j < k → bat a j = bat b j) (hlt : bat b k < bat a k) : cmpL a b = 1 := by
  rw [← cmpL_drop a b k (by omega) (by omega) h, List.drop_eq_getElem_cons ha, List.drop_eq_getElem_cons hb]
  rw [bat_eq a k ha, bat_eq b k hb] at hlt
  simp only [cmpL]; rw [if_neg (by omega), if_pos hlt]
theorem cmpL_end {a b : List UInt8} {k : Nat} (ha : k ≤ a.length) (hb : k ≤ b.length) (h : ∀ j, j < k → bat a j = bat b j) (hk : a.length ≤ k ∨ b.length ≤ k) :
    cmpL a b = if a.length < b.length then -1 else if b.length < a.length then 1 else 0 := by
  rw [← cmpL_drop a b k ha hb h]
  rcases hk with hk | hk
  · rw [List.drop_eq_nil_of_le hk]
    rcases Nat.lt_or_ge k b.length with h1 | h1
    · rw [List.drop_eq_getElem_cons h1, if_pos (by omega)]; rfl
    · rw [List.drop_eq_nil_of_le h1, if_neg (by omega), if_neg (by omega)]; rfl
  · rw [List.drop_eq_nil_of_le hk]
    rcases Nat.lt_or_ge k a.length with h1 | h1
    · rw [List.drop_eq_getElem_cons h1, if_neg (by omega), if_pos (by omega)]; rfl
    · rw [List.drop_eq_nil_of_le h1, if_neg (by omega), if_neg (by omega)]; rfl
end Go.Cr
end

/- A slice of one struct that the call has just made. No program in sight. -/
section
set_option linter.unusedSimpArgs false
set_option linter.unusedVariables false
namespace Go.Cr
open Go.RowKit
theorem isR_new (w : World) (t : TypeId) (arr : Array Value) : IsR (w.alloc (.cells arr t)) (.slice (some ⟨w.heap.size, 0, none⟩) 1 1) arr.size 1 arr.toList := by
  refine ⟨_, 1, rfl, Nat.le_refl _, by decide, by simp, fun _ => ⟨w.heap.size, 0, rfl, by simp, fun j x hj => ?_⟩⟩
  rw [Nat.zero_add, World.cell?_alloc_new]
  simpa using hj
theorem isR_at {w : World} {t : TypeId} {arr : Array Value} {k n : Nat} (hk : arr.size = k) (hn : n = w.heap.size) : IsR (w.alloc (.cells arr t)) (.slice (some ⟨n, 0, none⟩) 1 1) k 1 arr.toList := by
  subst hk hn; exact isR_new w t arr
end Go.Cr
end

/- Slices of slices of bytes; append of zeros onto nil. No program in sight. -/
section
set_option linter.unusedSimpArgs false
set_option linter.unusedVariables false
namespace Go.Cr
open Go.RowKit
def IsBs (w : World) (v : Value) (ls : List (List UInt8)) : Prop :=
  ∃ vs : List Value, IsR w v 1 ls.length vs ∧ ∀ j, j < ls.length → IsB w (vs.getD j undef) (ls.getD j [])
theorem IsBs.below {w w' : World} {v : Value} {ls : List (List UInt8)} (h : IsBs w v ls) (hb : Below w.heap.size w w') : IsBs w' v ls := by
  obtain ⟨vs, h1, h2⟩ := h
  exact ⟨vs, h1.below hb, fun j hj => (h2 j hj).below hb⟩
theorem IsBs.alloc {w : World} {v : Value} {ls : List (List UInt8)} (h : IsBs w v ls) (o : Obj) : IsBs (w.alloc o) v ls := h.below ((Below.refl _ _).alloc (Nat.le_refl _) o)
section
variable {P : Program} {w : World} {v : Value} {ls : List (List UInt8)} {t e : TypeId}
theorem IsBs.len (h : IsBs w v ls) (ht : P.underlying t = some (.slice e)) : ∀ (ty : TypeId) (W : World), (Builtin.len_ #[t] ty #[v]).run P W = .ok (.int .i64 ls.length) W := by
  obtain ⟨vs, h1, _⟩ := h; exact h1.len ht
theorem IsBs.maxl (h : IsBs w v ls) : (ls.length : Int) ≤ 9223372036854775807 := by obtain ⟨vs, h1, _⟩ := h; exact h1.maxl
theorem IsBs.at_ (h : IsBs w v ls) (ht : P.underlying t = some (.slice e)) (hs : ∀ W, (sizeOf e).run P W = .ok 1 W) (kd : IntKind) {i : Int} (h0 : 0 ≤ i) (h1 : i < ls.length) :
    ∃ b o u, (∀ W : World, (Instr.indexAt t v (.int kd i)).run P W = .ok (.pointer (some ⟨b, o, none⟩)) W) ∧ b < w.heap.size ∧ w.cell? ⟨b, o, none⟩ = some u ∧ IsB w u (ls.getD i.toNat []) := by
  obtain ⟨vs, hv, hj⟩ := h
  obtain ⟨b, o, hi, hb, hc⟩ := hv.at_ ht hs kd h0 h1
  have hlt : i.toNat < vs.length := by obtain ⟨_, _, _, _, _, hl, _⟩ := hv; omega
  refine ⟨b, o, vs.getD i.toNat undef, hi, hb, ?_, hj i.toNat (by omega)⟩
  have := hc 0 (vs.getD i.toNat undef) (by simp [hlt])
  simpa using this
theorem IsBs.nil_ (w : World) : IsBs w (.slice none 0 0) [] := ⟨[], ⟨none, 0, rfl, Nat.le_refl _, by decide, rfl, fun h => absurd h (by simp)⟩, fun j hj => absurd hj (by simp)⟩

theorem run_append_zeros (w : World) (ti : TypeId) {i : TypeInfo} {z : Value} (ht : P.underlying t = some (.slice e)) (hti : P.underlying ti = some (.int .i64)) (hi : P.info? e = some i) (hz : i.zero = some z) (hsize : i.size = 1) (hby : i.bytes = 1) (hzs : z.cells.size = 1)
    (n : Nat) (h0 : 0 < n) (hn : n ≤ 1000000) :
    ∃ cap cur, (∀ ty, (Builtin.append_ #[t, ti] ty #[.slice none 0 0, .int .i64 (n : Int)]).run P w = .ok (.slice (some ⟨w.heap.size, 0, none⟩) n cap) (w.drew.alloc (.cells cur e))) ∧ n ≤ cap ∧ cap ≤ maxLen ∧ cur.size = cap * 1 := by
  have hn0 : n ≠ 0 := by omega
  have h1 : IntKind.i64.wrap (n : Int) = n := IntWalk.i64_in _ (by omega)
  have h2 : ¬ ((n : Int) < 0) := by omega
  have h3 : ¬ (281474976710656 < (n : Int)) := by omega
  have h63' : ¬ (9223372036854775807 < (n : Int)) := by omega
  have h48' : ¬ (281474976710656 < Builtin.nextslicecap n 0) := by rw [nextslicecap_zero h0]; omega
  refine ⟨grownCap w n 0 e, Builtin.zeroCells z.cells n ++ Builtin.zeroCells z.cells (grownCap w n 0 e - n), ?_, grownCap_ge _ _ _ _, grownCap_le_maxLen _ _ _ _ (by unfold maxLen; omega), ?_⟩
  · intro ty; simp [Builtin.append_, run_underlying ht, run_underlying hti, sizeOf, typeInfo, zeroValue, hi, hz, hsize, hby, hn0, h1, h2, h3, h63', h48', asInt, asIntOf, Question.forced, run_firstCells_none, newRow, grownCap]
  · have := grownCap_ge w n 0 e
    simp [size_zeroCells, hzs]; omega
end
end Go.Cr
end

/- Two rows of the call's own side by side. No program in sight. -/
section
set_option linter.unusedSimpArgs false
set_option linter.unusedVariables false
namespace Go.Cr
open Go.RowKit
theorem own_far {w w' : World} {base : Nat} {e : TypeId} {k : Nat} {v : Value} {n : Nat} {xs : List Value} {row : Option Nat} (h : w.ownsRow base e k v n xs) (hg : w.grownBy w' row) (hne : ∀ g, v.ownBlock = some g → some g ≠ row) : w'.ownsRow base e k v n xs := by
  have hlt := h.lt
  obtain ⟨h1, h2⟩ := h
  refine ⟨h1, ?_⟩
  rcases h2 with h2 | ⟨g, cap, cur, hv, hgb, hh, r⟩
  · exact .inl h2
  · refine .inr ⟨g, cap, cur, hv, hgb, ?_, r⟩
    subst hv
    have ho : (Value.slice (some ⟨g, 0, none⟩) n cap).ownBlock = some g := rfl
    rw [hg.block g (hlt g ho).2 (hne g ho)]
    exact hh
theorem blk_in {w : World} {t : TypeId} {cs : Array Value} {g : Nat} (hg : g = w.heap.size) : Blk (w.alloc (.cells cs t)) g t cs := by subst hg; exact Blk.new w t cs
def Apart (v1 v2 : Value) : Prop := ∀ g, v1.ownBlock = some g → v2.ownBlock ≠ some g
theorem Apart.symm {v1 v2 : Value} (h : Apart v1 v2) : Apart v2 v1 := fun g h2 h1 => h g h1 h2
theorem Apart.nil_ (v : Value) : Apart (.slice none 0 0) v := fun g h => by cases h
section
variable {P : Program} (w : World)
theorem run_app2 (base : Nat) (t ty e : TypeId) (i : TypeInfo) (z : Value) (size bytes : Nat) (ht : P.underlying t = some (.slice e)) (hi : P.info? e = some i) (hz : i.zero = some z)
    (hsize : i.size = size) (hby : i.bytes = bytes) (hzs : z.cells.size = size) (hsz : 0 < size)
    (v : Value) (n : Nat) (xs : List Value) (hown : w.ownsRow base e size v n xs) (x : Value) (m : Nat) (news : List Value) (hx : IsR w x size m news) (h1 : ∀ u ∈ news, u.oneCell' = true)
    (h63 : n + m ≤ maxLen) (hbytes : (n + m) * bytes ≤ 140737488355328) (hbase : base ≤ w.heap.size) :
    ∃ v' w', (Builtin.append_ #[t, t] ty #[v, x]).run P w = .ok v' w' ∧ w'.ownsRow base e size v' (n + m) (xs ++ news) ∧ w.grownBy w' v.ownBlock ∧ Below base w w' ∧ (v'.ownBlock = v.ownBlock ∨ v'.ownBlock = some w.heap.size) := by
  have hbel : ∀ w', w.grownBy w' v.ownBlock → Below base w w' := fun w' hg => ⟨hg.os, hg.tape, hg.output, hg.size, fun k hk => hg.block k (by omega) (fun hb => by have := (hown.lt _ hb.symm).1; omega)⟩
  obtain ⟨A, c, rfl, hc1, hc2, hl, hc⟩ := hx
  cases A with
  | none =>
    have hm : m = 0 := by
      rcases Nat.eq_zero_or_pos m with h | h
      · exact h
      · obtain ⟨_, _, h', _⟩ := hc h; cases h'
    subst hm
    obtain rfl : news = [] := List.eq_nil_of_length_eq_zero (by simpa using hl)
    refine ⟨v, w, ?_, by simpa using hown, World.grownBy.refl w _, Below.refl _ _, .inl rfl⟩
    rcases hown.2 with ⟨rfl, rfl⟩ | ⟨g, cap, cur, rfl, _, _, hnc, _⟩
    · simp [Builtin.append_, run_underlying ht, sizeOf, typeInfo, hi, Builtin.lenOf, Builtin.firstCells]
    · simp [Builtin.append_, run_underlying ht, sizeOf, typeInfo, hi, Builtin.lenOf, Builtin.firstCells, hnc, storeCells]
  | some ad =>
    have hcells : ∀ j u, news[j]? = some u → w.cell? (ad.add j) = some u := by
      intro j u hj
      have hpos : 0 < m := by
        rcases Nat.eq_zero_or_pos m with h | h
        · subst h; have : news = [] := List.eq_nil_of_length_eq_zero (by simpa using hl); subst this; simp at hj
        · exact h
      obtain ⟨b, off, h', _, hcc⟩ := hc hpos
      injection h' with h'; subst h'
      have := hcc j u hj
      unfold Addr.add
      split
      · rename_i h0; subst h0; simpa using this
      · exact this
    obtain ⟨v', w', hr, h2, h3, _, h5⟩ := run_append_own_at (P := P) w base t ty e i z size bytes ht hi hz hsize hby hzs hsz v n xs hown ad m c news hl hcells h1 h63 hbytes hbase
    exact ⟨v', w', hr, h2, h3, hbel _ h3, h5⟩
theorem wpList_app2 {ops : Array Oper} {rest : List Oper} {o : Oper} {a : Act} {Q : Exit → Act → World → Prop} (hgd : o.guard = none) (s y : Operand) (t : TypeId)
    (ho : o.op = .call { callee := .builtin .append, args := #[s, y], argTypes := #[t, t] })
    (base : Nat) (e : TypeId) (i : TypeInfo) (z : Value) (size bytes : Nat) (ht : P.underlying t = some (.slice e)) (hi : P.info? e = some i) (hz : i.zero = some z)
    (hsize : i.size = size) (hby : i.bytes = bytes) (hzs : z.cells.size = size) (hsz : 0 < size)
    (v : Value) (n : Nat) (xs : List Value) (hs : a.eval s = v) (hown : w.ownsRow base e size v n xs) (x : Value) (m : Nat) (news : List Value) (hyx : a.eval y = x) (hx : IsR w x size m news) (h1 : ∀ u ∈ news, u.oneCell' = true)
    (h63 : n + m ≤ maxLen) (hbytes : (n + m) * bytes ≤ 140737488355328) (hbase : base ≤ w.heap.size)
    (h : ∀ v' w', w'.ownsRow base e size v' (n + m) (xs ++ news) → w.grownBy w' v.ownBlock → Below base w w' → (v'.ownBlock = v.ownBlock ∨ v'.ownBlock = some w.heap.size) → wpList P ops Q rest (a.put o.dst v') w') : wpList P ops Q (o :: rest) a w :=
  wpList_plain hgd fun _ hK => by
    obtain ⟨v', w', hr, h2, h3, h4, h5⟩ := run_app2 (P := P) w base t o.type e i z size bytes ht hi hz hsize hby hzs hsz v n xs hown x m news hx h1 h63 hbytes hbase
    unfold Oper.wp execOp
    simp only [ho, resolve, invoke, builtin, Sem.run_bind, Sem.run_pure, Result.andThen_ok, List.map_toArray, List.map_cons, List.map_nil, hs, hyx, hr]
    exact hK _ _ (h v' w' h2 h3 h4 h5)
end
theorem apart_app {w w' : World} {base : Nat} {e : TypeId} {k : Nat} {v1 v1' v2 : Value} {n : Nat} {xs : List Value} (h2 : w.ownsRow base e k v2 n xs) (ha : Apart v1 v2) (hg : w.grownBy w' v1.ownBlock) (hat : v1'.ownBlock = v1.ownBlock ∨ v1'.ownBlock = some w.heap.size) :
    w'.ownsRow base e k v2 n xs ∧ Apart v1' v2 := by
  refine ⟨own_far h2 hg fun g hg' he => ha g he.symm hg', fun g h hg' => ?_⟩
  rcases hat with hat | hat
  · exact ha g (hat.symm.trans h) hg'
  · have := (h2.lt g hg').2
    rw [hat] at h
    injection h with h
    omega
end Go.Cr
end

/- The plain functions of layer 9 (element). No program in sight. -/
section
set_option linter.unusedSimpArgs false
set_option linter.unusedVariables false
namespace Go.Cr
open Go.RowKit
structure Elem where
  cls : Int
  num : Int
  con : Bool
  start : Int
  body : Int
  stop : Int
  deriving DecidableEq
@[go_sem] def Elem.zero : Elem := ⟨0, 0, false, 0, 0, 0⟩
def Elem.cells (x : Elem) : List Value := [.int .i64 x.cls, .int .i64 x.num, .bool x.con, .int .i64 x.start, .int .i64 x.body, .int .i64 x.stop]
@[go_sem] def elV (x : Elem) : Value := .agg #[.int .i64 x.cls, .int .i64 x.num, .bool x.con, .int .i64 x.start, .int .i64 x.body, .int .i64 x.stop]
def Hdr.at_ (h : Hdr) (a : Int) : Elem := ⟨h.cls, h.num, h.con, a, a + h.size, a + h.size + h.len⟩
def seg (l : List UInt8) (a e : Int) : List UInt8 := (l.drop a.toNat).take (e - a).toNat
theorem seg_len (l : List UInt8) (a e : Int) (h0 : 0 ≤ a) (h1 : a ≤ e) (h2 : e ≤ l.length) : ((seg l a e).length : Int) = e - a := by
  simp [seg]; omega
def nextE (l : List UInt8) (a e : Int) : Except Err Elem :=
  match rdHdr (seg l a e) with
  | .error (c, o) => .error (c, o + a)
  | .ok h => if e - a - h.size < h.len then .error (1, e) else .ok (h.at_ a)
def elR : Except Err Elem → Value
  | .ok x => .tuple #[elV x, errV (0, 0)]
  | .error e => .tuple #[elV Elem.zero, errV e]
theorem nextE_ok {l : List UInt8} {a e : Int} {x : Elem} (h0 : 0 ≤ a) (h1 : a ≤ e) (h2 : e ≤ l.length) (h : nextE l a e = .ok x) :
    x.start = a ∧ a < x.body ∧ x.body ≤ x.stop ∧ x.stop ≤ e := by
  unfold nextE at h
  split at h
  · cases h
  · rename_i hd hr
    have hb := rdHdr_ok hr
    split at h
    · cases h
    · injection h with h; subst h
      refine ⟨rfl, ?_, ?_, ?_⟩ <;> simp only [Hdr.at_] <;> omega
theorem nextE_err {l : List UInt8} {a e c o : Int} (h0 : 0 ≤ a) (h1 : a ≤ e) (h2 : e ≤ l.length) (h : nextE l a e = .error (c, o)) : 0 < c ∧ c ≤ 4 ∧ 0 ≤ o ∧ o ≤ e := by
  have hl := seg_len l a e h0 h1 h2
  unfold nextE at h
  split at h
  · rename_i c' o' hr
    have hb := rdHdr_err hr
    injection h with h; injection h with h3 h4; omega
  · split at h
    · injection h with h; injection h with h3 h4; omega
    · cases h
def oneE (l : List UInt8) : Except Err Elem :=
  match nextE l 0 l.length with
  | .error e => .error e
  | .ok x => if x.stop < l.length then .error (2, x.stop) else .ok x
theorem oneE_ok {l : List UInt8} {x : Elem} (h : oneE l = .ok x) : x.start = 0 ∧ 0 < x.body ∧ x.body ≤ x.stop ∧ x.stop = l.length := by
  unfold oneE at h
  split at h
  · cases h
  · rename_i hr
    have := nextE_ok (by omega) (by omega) (by omega) hr
    split at h
    · cases h
    · injection h with h; subst h; omega
theorem oneE_err {l : List UInt8} {c o : Int} (h : oneE l = .error (c, o)) : 0 < c ∧ c ≤ 4 ∧ 0 ≤ o ∧ o ≤ l.length := by
  unfold oneE at h
  split at h
  · rename_i hr
    injection h with h; subst h
    exact nextE_err (by omega) (by omega) (by omega) hr
  · rename_i hr
    have := nextE_ok (by omega) (by omega) (by omega) hr
    split at h
    · injection h with h; injection h with h3 h4; omega
    · cases h


def isE (x : Elem) (c : Int) (k : Bool) (n : Int) : Bool := (x.cls == c) && (x.con == k) && (x.num == n)
def listAcc (l : List UInt8) : Nat → List Elem → Int → Int → Except Err (List Elem)
  | 0, acc, _, _ => .ok acc
  | k + 1, acc, a, e => if a < e then match nextE l a e with
      | .error er => .error er
      | .ok x => listAcc l k (acc ++ [x]) x.stop e
    else .ok acc
def listE (l : List UInt8) (a e : Int) : Except Err (List Elem) :=
  if a < 0 ∨ e < a ∨ (l.length : Int) < e then .error (9, 0) else listAcc l (e - a).toNat [] a e
def partsE (l : List UInt8) (c n : Int) : Except Err (List Elem) :=
  match oneE l with
  | .error e => .error e
  | .ok x => if isE x c true n then listE l x.body x.stop else .error (3, 0)

theorem listAcc_done (l : List UInt8) (k : Nat) (acc : List Elem) (a e : Int) (h : e ≤ a) : listAcc l k acc a e = .ok acc := by
  cases k with
  | zero => rfl
  | succ k => simp only [listAcc]; rw [if_neg (by omega)]

theorem listAcc_err {l : List UInt8} : ∀ (k : Nat) {acc : List Elem} {a e c o : Int}, 0 ≤ a → a ≤ e → e ≤ l.length → listAcc l k acc a e = .error (c, o) → 0 < c ∧ c ≤ 4 ∧ 0 ≤ o ∧ o ≤ e := by
  intro k
  induction k with
  | zero => intro acc a e c o _ _ _ h; cases h
  | succ k ih =>
    intro acc a e c o h0 h1 h2 h
    simp only [listAcc] at h
    split at h
    · split at h
      · rename_i hr; injection h with h; subst h; exact nextE_err h0 h1 h2 hr
      · rename_i hr
        have := nextE_ok h0 h1 h2 hr
        exact ih (by omega) (by omega) h2 h
    · cases h
end Go.Cr
end

/- The reference's way to an element. No program in sight. -/
section
set_option linter.unusedSimpArgs false
set_option linter.unusedVariables false
namespace Go.Cr
open Go.RowKit
def nextH (l : List UInt8) : Except Err Hdr :=
  match rdHdr l with
  | .error e => .error e
  | .ok h => if (l.length : Int) - h.size < h.len then .error (1, l.length) else .ok h
theorem nextH_err {l : List UInt8} {c o : Int} (h : nextH l = .error (c, o)) : 0 < c ∧ c ≤ 4 ∧ 0 ≤ o ∧ o ≤ l.length := by
  unfold nextH at h
  split at h
  · rename_i hr; injection h with h; subst h; exact rdHdr_err hr
  · split at h
    · injection h with h; injection h with h1 h2; omega
    · cases h
theorem nextH_ok {l : List UInt8} {h : Hdr} (e : nextH l = .ok h) : 0 ≤ h.len ∧ 2 ≤ h.size ∧ h.size ≤ 6 ∧ h.size + h.len ≤ l.length := by
  unfold nextH at e
  split at e
  · cases e
  · rename_i hr
    have := rdHdr_ok hr
    split at e
    · cases e
    · injection e with e; subst e; omega
theorem nextE_H (l : List UInt8) (a e : Int) (h0 : 0 ≤ a) (h1 : a ≤ e) (h2 : e ≤ l.length) :
    nextE l a e = match nextH (seg l a e) with
      | .error (c, o) => .error (c, o + a)
      | .ok h => .ok (h.at_ a) := by
  have hl := seg_len l a e h0 h1 h2
  unfold nextE nextH
  cases rdHdr (seg l a e) with
  | error er => rfl
  | ok h =>
    simp only
    rw [hl]
    by_cases hc : e - a - h.size < h.len
    · rw [if_pos hc, if_pos hc]; simp only; congr 2; omega
    · rw [if_neg hc, if_neg hc]
theorem seg_all (l : List UInt8) : seg l 0 l.length = l := by simp [seg]
theorem oneE_H (l : List UInt8) :
    oneE l = match nextH l with
      | .error e => .error e
      | .ok h => if h.size + h.len < l.length then .error (2, h.size + h.len) else .ok ⟨h.cls, h.num, h.con, 0, h.size, l.length⟩ := by
  unfold oneE
  rw [nextE_H l 0 l.length (by omega) (by omega) (by omega), seg_all]
  cases hn : nextH l with
  | error er => obtain ⟨c, o⟩ := er; simp
  | ok h =>
    have := nextH_ok hn
    have hst : (h.at_ 0).stop = h.size + h.len := by simp only [Hdr.at_]; omega
    simp only [hst]
    by_cases hc : h.size + h.len < l.length
    · rw [if_pos hc, if_pos hc]
    · rw [if_neg hc, if_neg hc]; simp only [Hdr.at_]; congr 2 <;> omega
end Go.Cr
end

/- Elements of a part cover it, and each is found by itself. No program in sight. -/
section
set_option linter.unusedSimpArgs false
set_option linter.unusedVariables false
namespace Go.Cr
open Go.RowKit
theorem rdLen_take {l : List UInt8} {n k : Int} (m : Nat) (h : rdLen l = .ok (n, k)) (hm : k ≤ m) : rdLen (l.take m) = .ok (n, k) := by
  have hb := rdLen_ok h
  have h0 := bat_lt l 0
  have h1 := bat_pos l 0
  unfold rdLen at h ⊢
  have e0 : bat (l.take m) 0 = bat l 0 := bat_take _ _ _ (by omega)
  have hL : (l.take m).length = min m l.length := List.length_take
  rw [e0]
  split at h
  · cases h
  rw [if_neg (by omega)]
  split at h
  · rename_i c2; rw [if_pos c2]; exact h
  rename_i c2
  rw [if_neg c2]
  split at h
  · cases h
  rename_i c3
  rw [if_neg c3]
  split at h
  · cases h
  rename_i c4
  split at h
  · cases h
  rename_i c5
  injection h with h
  injection h with h2 h3
  rw [if_neg (by omega)]
  have e1 : bat (l.take m) 1 = bat l 1 := bat_take _ _ _ (by omega)
  have e2 : ((l.take m).drop 1).take (bat l 0 - 128).toNat = (l.drop 1).take (bat l 0 - 128).toNat := by
    rw [List.drop_take, List.take_take, Nat.min_eq_left (by omega)]
  rw [e1, e2, if_neg c5, h2, h3]
theorem rdHdr_take {l : List UInt8} {h : Hdr} (m : Nat) (e : rdHdr l = .ok h) (hm : h.size ≤ m) : rdHdr (l.take m) = .ok h := by
  have hb := rdHdr_ok e
  have e0 : bat (l.take m) 0 = bat l 0 := bat_take _ _ _ (by omega)
  have hL : (l.take m).length = min m l.length := List.length_take
  unfold rdHdr at e ⊢
  rw [e0]
  split at e
  · cases e
  rw [if_neg (by omega)]
  split at e
  · cases e
  rename_i c2
  rw [if_neg c2]
  split at e
  · cases e
  · rename_i n k hr
    injection e with e
    subst e
    have := rdLen_take (m - 1) hr (by simp only at hm; omega)
    rw [List.drop_take, this]
theorem nextE_one {l : List UInt8} {a e : Int} {x : Elem} (h0 : 0 ≤ a) (h1 : a ≤ e) (h2 : e ≤ l.length) (h : nextE l a e = .ok x) :
    oneE (seg l x.start x.stop) = .ok ⟨x.cls, x.num, x.con, 0, x.body - x.start, x.stop - x.start⟩ := by
  have hbd := nextE_ok h0 h1 h2 h
  unfold nextE at h
  split at h
  · cases h
  rename_i hd hr
  split at h
  · cases h
  injection h with h
  subst h
  have hb := rdHdr_ok hr
  simp only [Hdr.at_] at hbd ⊢
  have hs : seg l a (a + hd.size + hd.len) = (seg l a e).take (a + hd.size + hd.len - a).toNat := by
    unfold seg
    rw [List.take_take, Nat.min_eq_left (by omega)]
  have hlen := seg_len l a (a + hd.size + hd.len) h0 (by omega) (by omega)
  have hr' := rdHdr_take (a + hd.size + hd.len - a).toNat hr (by omega)
  rw [← hs] at hr'
  generalize seg l a (a + hd.size + hd.len) = s at *
  rw [oneE_H]
  unfold nextH
  rw [hr']
  simp only
  rw [if_neg (by omega)]
  simp only
  rw [if_neg (by omega)]
  congr 2 <;> omega
def Cov (l : List UInt8) : Int → Int → List Elem → Prop
  | a, e, [] => a = e
  | a, e, x :: xs => nextE l a e = .ok x ∧ a < e ∧ Cov l x.stop e xs
theorem listAcc_cov {l : List UInt8} : ∀ (k : Nat) {acc : List Elem} {a e : Int} {xs : List Elem}, 0 ≤ a → a ≤ e → e ≤ l.length → e - a ≤ k → listAcc l k acc a e = .ok xs → ∃ ys, xs = acc ++ ys ∧ Cov l a e ys := by
  intro k
  induction k with
  | zero =>
    intro acc a e xs _ _ _ hk h
    simp only [listAcc] at h
    injection h with h
    exact ⟨[], by simp [h], by show a = e; omega⟩
  | succ k ih =>
    intro acc a e xs h0 h1 h2 hk h
    simp only [listAcc] at h
    split at h
    · rename_i hlt
      split at h
      · cases h
      · rename_i x hr
        have hb := nextE_ok h0 h1 h2 hr
        obtain ⟨ys, hys, hc⟩ := ih (by omega) (by omega) h2 (by omega) h
        exact ⟨x :: ys, by simp [hys], hr, hlt, hc⟩
    · injection h with h
      exact ⟨[], by simp [h], by show a = e; omega⟩
theorem listE_cov {l : List UInt8} {a e : Int} {xs : List Elem} (h : listE l a e = .ok xs) : 0 ≤ a ∧ a ≤ e ∧ e ≤ l.length ∧ Cov l a e xs := by
  unfold listE at h
  split at h
  · cases h
  · obtain ⟨ys, hys, hc⟩ := listAcc_cov _ (by omega) (by omega) (by omega) (by omega) h
    simp at hys
    subst hys
    exact ⟨by omega, by omega, by omega, hc⟩
end Go.Cr
end

/- Length octets: written, and read back. No program in sight. -/
section
set_option linter.unusedSimpArgs false
set_option linter.unusedVariables false
namespace Go.Cr
theorem cmpL_self (a : List UInt8) : cmpL a a = 0 := by
  induction a with
  | nil => rfl
  | cons x t ih => simp only [cmpL]; rw [if_neg (by omega), if_neg (by omega)]; exact ih
theorem cmpL_zero {a b : List UInt8} (h : cmpL a b = 0) : a = b := by
  induction a generalizing b with
  | nil => cases b with
    | nil => rfl
    | cons y b => simp [cmpL] at h
  | cons x a ih => cases b with
    | nil => simp [cmpL] at h
    | cons y b =>
      simp only [cmpL] at h
      split at h
      · omega
      · split at h
        · omega
        · rw [ih h, bi_inj (x := x) (y := y) (by omega)]

def lenOct (n : Nat) : List UInt8 := if n < 128 then minF 7 n else UInt8.ofNat (128 + (minF 7 n).length) :: minF 7 n

theorem be_nonneg (l : List UInt8) : 0 ≤ be l := (be_bound l).1
theorem be_cons_ge (x : UInt8) (t : List UInt8) : bi x ≤ be (x :: t) := by
  have h : ∀ (t : List UInt8) (a : Int), 0 ≤ a → a ≤ t.foldl (fun a x => a * 256 + bi x) a := by
    intro t
    induction t with
    | nil => intro a _; simp
    | cons y t ih =>
      intro a h0
      have := bi_pos y
      have := ih (a * 256 + bi y) (by omega)
      simp only [List.foldl_cons]; omega
  have := h t (bi x) (bi_pos x)
  simpa [be] using this

theorem snoc_of_pos {l : List UInt8} (h : 0 < l.length) : ∃ d x, l = d ++ [x] :=
  ⟨l.dropLast, l.getLast (by intro e; subst e; simp at h), (List.dropLast_concat_getLast (by intro e; subst e; simp at h)).symm⟩

theorem minF_be_id (k : Nat) : ∀ (d : List UInt8), 0 < d.length → d.length ≤ k + 1 → (bat d 0 ≠ 0 ∨ d.length = 1) → minF k (be d).toNat = d := by
  induction k with
  | zero =>
    intro d h0 h1 _
    match d, h0, h1 with
    | [x], _, _ => simp [minF, be, bi]
  | succ k ih =>
    intro d h0 h1 hz
    obtain ⟨d', x, rfl⟩ := snoc_of_pos h0
    have hx1 := bi_lt x
    have hx0 := bi_pos x
    have hd0 := be_nonneg d'
    rw [be_snoc]
    simp only [minF]
    by_cases hd : d'.length = 0
    · obtain rfl := List.eq_nil_of_length_eq_zero hd
      have : be ([] : List UInt8) = 0 := rfl
      rw [this, if_pos (by omega)]
      simp [bi]
    · have hb : 1 ≤ be d' := by
        cases d' with
        | nil => simp at hd
        | cons y t =>
          have := be_cons_ge y t
          rcases hz with hz | hz
          · simp only [List.cons_append, bat_cons_zero] at hz; have := bi_pos y; omega
          · simp at hz
      rw [if_neg (by omega)]
      obtain ⟨M, hM⟩ : ∃ M : Nat, be d' = M := ⟨(be d').toNat, by omega⟩
      obtain ⟨X, hX⟩ : ∃ X : Nat, bi x = X := ⟨(bi x).toNat, by omega⟩
      have e1 : (be d' * 256 + bi x).toNat / 256 = (be d').toNat := by rw [hM, hX]; omega
      have e2 : UInt8.ofNat ((be d' * 256 + bi x).toNat % 256) = x := by
        apply bi_inj; rw [bi_ofNat, hM, hX]; omega
      rw [e1, e2, ih d' (by omega) (by simp at h1; omega) ?_]
      rcases hz with hz | hz
      · left
        cases d' with
        | nil => simp at hd
        | cons y t => simpa [bat_cons_zero] using hz
      · exact absurd (by simp at hz; simp [hz]) hd

theorem minF_head (k n : Nat) (h : n < 256 ^ (k + 1)) (hn : 0 < n) : bat (minF k n) 0 ≠ 0 := by
  induction k generalizing n with
  | zero => have : n < 256 := by simpa using h
            simp [minF, bat, bi]; omega
  | succ k ih =>
    simp only [minF]
    split
    · simp [bat, bi]; omega
    · have h1 := ih (n / 256) (by rw [Nat.pow_succ] at h; omega) (by omega)
      have h2 := (minF_len k (n / 256)).1
      generalize minF k (n / 256) = m at *
      cases m with
      | nil => simp at h2
      | cons y t => simpa [bat_cons_zero] using h1

theorem lenOct_long {l : List UInt8} {k : Nat} (h0 : bat l 0 = 128 + k) (hk1 : 1 ≤ k) (hk4 : k ≤ 4) (hl : k < l.length) :
    lenOct (be ((l.drop 1).take k)).toNat = l.take (1 + k) ↔ ¬ (bat l 1 = 0 ∨ be ((l.drop 1).take k) < 128) := by
  cases l with
  | nil => simp at hl
  | cons x t =>
    simp only [bat_cons_zero, List.drop_succ_cons, List.drop_zero, List.length_cons] at *
    have hs1 : bat (x :: t) 1 = bat t 0 := bat_cons_succ x t 0
    rw [hs1]
    have htl : (t.take k).length = k := by simp; omega
    have hb0 : bat (t.take k) 0 = bat t 0 := bat_take _ _ _ (by omega)
    have hbe := be_bound (t.take k)
    rw [htl] at hbe
    have hpw : (256 : Int) ^ k ≤ 256 ^ 4 := pow256_mono hk4
    obtain ⟨N, hN⟩ : ∃ N : Nat, be (t.take k) = N := ⟨(be (t.take k)).toNat, by have := hbe.1; omega⟩
    have hNlt : N < 256 ^ 4 := by have := hbe.2; rw [hN] at this; have h4 : (256 : Int) ^ 4 = ((256 ^ 4 : Nat) : Int) := by decide
                                  omega
    have hNlt8 : N < 256 ^ (7 + 1) := Nat.lt_of_lt_of_le hNlt (by decide)
    rw [hN]
    rw [show ((N : Int)).toNat = N by omega, show 1 + k = k + 1 by omega, List.take_succ_cons]
    unfold lenOct
    constructor
    · intro h hc
      split at h
      · rename_i hlt
        have h1 : (minF 7 N).length = 1 := by simp only [minF]; rw [if_pos (by omega)]; rfl
        have := congrArg List.length h
        simp only [List.length_cons, htl, h1] at this
        omega
      · rename_i hge
        rcases hc with hc | hc
        · injection h with _ h
          have := minF_head 7 N hNlt8 (by omega)
          rw [h, hb0] at this
          exact this hc
        · omega
    · intro h
      have h1 : bat t 0 ≠ 0 := fun e => h (.inl e)
      have h2 : ¬ N < 128 := fun e => h (.inr (by omega))
      rw [if_neg h2]
      have h3 := minF_be_id 7 (t.take k) (by omega) (by omega) (.inl (by rw [hb0]; exact h1))
      rw [hN, show ((N : Int)).toNat = N by omega] at h3
      rw [h3, htl]
      congr 1
      apply bi_inj
      rw [bi_ofNat]; omega

theorem lenOct_len (n : Nat) : 0 < (lenOct n).length ∧ (lenOct n).length ≤ 9 := by
  have := minF_len 7 n
  unfold lenOct
  split
  · omega
  · simp only [List.length_cons]; omega
def idB (c : Int) (k : Bool) (n : Int) : UInt8 := UInt8.ofNat (c * 64 + n + if k then 32 else 0).toNat
theorem idB_bi (c : Int) (k : Bool) (n : Int) (h : 0 ≤ c) (h1 : c ≤ 3) (h2 : 0 ≤ n) (h3 : n < 31) : bi (idB c k n) = c * 64 + n + if k then 32 else 0 := by
  unfold idB; rw [bi_ofNat]; split <;> omega
def encO (c : Int) (k : Bool) (n : Int) (l : List UInt8) : List UInt8 := idB c k n :: (lenOct l.length ++ l)
end Go.Cr
end

/- What is written is read back; elements one behind another are found. No program in sight. -/
section
set_option linter.unusedSimpArgs false
set_option linter.unusedVariables false
namespace Go.Cr
open Go.RowKit
theorem bat_app (l r : List UInt8) (j : Nat) (hj : j < l.length) : bat (l ++ r) j = bat l j := by simp [bat, List.getElem?_append_left hj]

theorem rdLen_app {l : List UInt8} {n k : Int} (r : List UInt8) (h : rdLen l = .ok (n, k)) : rdLen (l ++ r) = .ok (n, k) := by
  have hb := rdLen_ok h
  have h0 := bat_lt l 0
  have h1 := bat_pos l 0
  have hba : ∀ j, j < l.length → bat (l ++ r) j = bat l j := fun j hj => bat_app l r j hj
  unfold rdLen at h ⊢
  have hL : (l ++ r).length = l.length + r.length := List.length_append
  rw [hba 0 (by omega)]
  split at h
  · cases h
  rw [if_neg (by omega)]
  split at h
  · rename_i c2; rw [if_pos c2]; exact h
  rename_i c2
  rw [if_neg c2]
  split at h
  · cases h
  rename_i c3
  rw [if_neg c3]
  split at h
  · cases h
  rename_i c4
  split at h
  · cases h
  rename_i c5
  injection h with h
  injection h with h2 h3
  rw [if_neg (by omega)]
  have e2 : ((l ++ r).drop 1).take (bat l 0 - 128).toNat = (l.drop 1).take (bat l 0 - 128).toNat := by
    rw [List.drop_append_of_le_length (by omega), List.take_append_of_le_length (by rw [List.length_drop]; omega)]
  rw [hba 1 (by omega), e2, if_neg c5, h2, h3]
theorem rdHdr_app {l : List UInt8} {h : Hdr} (r : List UInt8) (e : rdHdr l = .ok h) : rdHdr (l ++ r) = .ok h := by
  have hb := rdHdr_ok e
  have hba : bat (l ++ r) 0 = bat l 0 := bat_app l r 0 (by omega)
  have hL : (l ++ r).length = l.length + r.length := List.length_append
  unfold rdHdr at e ⊢
  rw [hba]
  split at e
  · cases e
  rw [if_neg (by omega)]
  split at e
  · cases e
  rename_i c2
  rw [if_neg c2]
  split at e
  · cases e
  · rename_i n k hr
    injection e with e
    subst e
    rw [List.drop_append_of_le_length (by omega), rdLen_app r hr]
theorem rdLen_enc (n : Nat) (r : List UInt8) (hn : n ≤ 2147483647) : rdLen (lenOct n ++ r) = .ok (n, (lenOct n).length) := by
  unfold lenOct
  by_cases h : n < 128
  · rw [if_pos h]
    have h1 : minF 7 n = [UInt8.ofNat n] := by simp only [minF]; rw [if_pos (by omega)]
    rw [h1]
    have hb : bat ([UInt8.ofNat n] ++ r) 0 = n := by rw [List.cons_append, bat_cons_zero, bi_ofNat]; omega
    unfold rdLen
    rw [hb, if_neg (by simp), if_pos (by omega)]
    rfl
  · rw [if_neg h]
    have h1 : minF 7 n = minF 3 n := minF_fuel 3 4 n (by have : (256 : Nat) ^ (3 + 1) = 4294967296 := by decide
                                                         omega)
    have h2 := minF_len 3 n
    have h3 := minF_be 3 n (by have : (256 : Nat) ^ (3 + 1) = 4294967296 := by decide
                               omega)
    have h4 := minF_head 3 n (by have : (256 : Nat) ^ (3 + 1) = 4294967296 := by decide
                                 omega) (by omega)
    rw [h1]
    generalize minF 3 n = m at *
    have hb : bat (UInt8.ofNat (128 + m.length) :: m ++ r) 0 = 128 + m.length := by rw [List.cons_append, bat_cons_zero, bi_ofNat]; omega
    have hb1 : bat (UInt8.ofNat (128 + m.length) :: m ++ r) 1 = bat m 0 := by
      rw [List.cons_append, bat_cons_succ]; exact bat_app m r 0 (by omega)
    have hbe : (((UInt8.ofNat (128 + m.length) :: m ++ r)).drop 1).take (128 + (m.length : Int) - 128).toNat = m := by
      rw [List.cons_append, List.drop_succ_cons, List.drop_zero, show (128 + (m.length : Int) - 128).toNat = m.length by omega, List.take_left]
    have hL : (UInt8.ofNat (128 + m.length) :: m ++ r).length = 1 + m.length + r.length := by simp; omega
    unfold rdLen
    rw [hb, hb1, hbe, h3, if_neg (by omega), if_neg (by omega), if_neg (by omega), if_neg (by omega), if_neg (by omega)]
    simp only [List.length_cons]
    congr 2; omega
theorem rdHdr_enc (c n : Int) (k : Bool) (l r : List UInt8) (h : 0 ≤ c) (h1 : c ≤ 3) (h2 : 0 ≤ n) (h3 : n < 31) (hl : l.length ≤ 2147483647) :
    rdHdr (encO c k n l ++ r) = .ok ⟨c, n, k, l.length, 1 + (lenOct l.length).length⟩ := by
  have hb : bat (encO c k n l ++ r) 0 = c * 64 + n + if k then 32 else 0 := by
    unfold encO; rw [List.cons_append, bat_cons_zero, idB_bi c k n h h1 h2 h3]
  have hd : (encO c k n l ++ r).drop 1 = lenOct l.length ++ (l ++ r) := by
    unfold encO; rw [List.cons_append, List.drop_succ_cons, List.drop_zero, List.append_assoc]
  unfold rdHdr
  rw [hb, hd, rdLen_enc _ _ hl, if_neg (by unfold encO; simp)]
  cases k with
  | true =>
    simp only [if_true]
    rw [if_neg (by omega)]
    congr 2
    · omega
    · omega
    · exact decide_eq_true (by omega)
  | false =>
    simp only [Bool.false_eq_true, if_false]
    rw [if_neg (by omega)]
    congr 2
    · omega
    · omega
    · exact decide_eq_false (by omega)
theorem encO_len (c n : Int) (k : Bool) (l : List UInt8) : (encO c k n l).length = 1 + (lenOct l.length).length + l.length := by unfold encO; simp; omega
theorem oneE_enc (c n : Int) (k : Bool) (l : List UInt8) (h : 0 ≤ c) (h1 : c ≤ 3) (h2 : 0 ≤ n) (h3 : n < 31) (hl : l.length ≤ 2147483647) :
    oneE (encO c k n l) = .ok ⟨c, n, k, 0, 1 + (lenOct l.length).length, (encO c k n l).length⟩ := by
  have hh := rdHdr_enc c n k l [] h h1 h2 h3 hl
  rw [List.append_nil] at hh
  have hL := encO_len c n k l
  rw [oneE_H]
  unfold nextH
  rw [hh]
  simp only
  rw [if_neg (by omega)]
  simp only
  rw [if_neg (by omega)]
theorem oneE_hdr {p : List UInt8} {x : Elem} (h : oneE p = .ok x) : ∃ hd, rdHdr p = .ok hd ∧ hd.size + hd.len = p.length := by
  rw [oneE_H] at h
  split at h
  · cases h
  · rename_i hd hn
    have hb := nextH_ok hn
    unfold nextH at hn
    split at hn
    · cases hn
    · rename_i hd' hr
      split at hn
      · cases hn
      · injection hn with hn
        subst hn
        split at h
        · cases h
        · exact ⟨hd', hr, by omega⟩
theorem listAcc_parts {L : List UInt8} {e : Int} (h2 : e ≤ L.length) : ∀ (ls : List (List UInt8)) (k : Nat) (acc : List Elem) (a : Int), (∀ p ∈ ls, ∃ x, oneE p = .ok x) → 0 ≤ a → a ≤ e → seg L a e = ls.flatten → e - a ≤ k →
    ∃ ys, listAcc L k acc a e = .ok (acc ++ ys) ∧ ys.length = ls.length := by
  intro ls
  induction ls with
  | nil =>
    intro k acc a _ h0 h1 hs hk
    have hl := seg_len L a e h0 h1 h2
    rw [hs] at hl
    simp at hl
    exact ⟨[], by rw [listAcc_done _ _ _ _ _ (by omega)]; simp, rfl⟩
  | cons p ls ih =>
    intro k acc a hall h0 h1 hs hk
    obtain ⟨x, hx⟩ := hall p (by simp)
    obtain ⟨hd, hr, hsz⟩ := oneE_hdr hx
    have hb := rdHdr_ok hr
    have hl := seg_len L a e h0 h1 h2
    rw [hs, List.flatten_cons, List.length_append] at hl
    obtain ⟨k, rfl⟩ : ∃ k', k = k' + 1 := ⟨k - 1, by omega⟩
    have hn : nextE L a e = .ok (hd.at_ a) := by
      unfold nextE
      rw [hs, List.flatten_cons, rdHdr_app _ hr]
      simp only
      rw [if_neg (by omega)]
    have hst : (hd.at_ a).stop = a + p.length := by simp only [Hdr.at_]; omega
    have hs' : seg L (a + p.length) e = ls.flatten := by
      have : seg L (a + p.length) e = (seg L a e).drop p.length := by
        unfold seg
        rw [List.drop_take, List.drop_drop]
        congr 1
        · omega
        · congr 1; omega
      rw [this, hs, List.flatten_cons, List.drop_left]
    obtain ⟨ys, hy, hyl⟩ := ih k (acc ++ [hd.at_ a]) (a + p.length) (fun q hq => hall q (by simp [hq])) (by omega) (by omega) hs' (by omega)
    refine ⟨hd.at_ a :: ys, ?_, by simp [hyl]⟩
    simp only [listAcc]
    rw [if_pos (by omega), hn]
    simp only
    rw [hst, hy]
    simp
theorem listE_enc (c n : Int) (k : Bool) (ls : List (List UInt8)) (hall : ∀ p ∈ ls, ∃ x, oneE p = .ok x) :
    ∃ ys, listE (encO c k n ls.flatten) (1 + (lenOct ls.flatten.length).length) (encO c k n ls.flatten).length = .ok ys ∧ ys.length = ls.length := by
  have hL := encO_len c n k ls.flatten
  have hs : seg (encO c k n ls.flatten) (1 + (lenOct ls.flatten.length).length) (encO c k n ls.flatten).length = ls.flatten := by
    have e1 : (1 + ((lenOct ls.flatten.length).length : Int)).toNat = (lenOct ls.flatten.length).length + 1 := by omega
    have e2 : (((encO c k n ls.flatten).length : Int) - (1 + (lenOct ls.flatten.length).length)).toNat = ls.flatten.length := by omega
    unfold seg
    rw [e1, e2]
    unfold encO
    rw [List.drop_succ_cons, List.drop_left, List.take_length]
  obtain ⟨ys, h1, h2⟩ := listAcc_parts (L := encO c k n ls.flatten) (e := (encO c k n ls.flatten).length) (by omega) ls _ [] (1 + (lenOct ls.flatten.length).length) hall (by omega) (by omega) hs (Int.self_le_toNat _)
  refine ⟨ys, ?_, h2⟩
  unfold listE
  rw [if_neg (by omega), h1]
  rfl
end Go.Cr
end

/- Trees of elements, plain: reading to a depth, what is read is what would be written, parts of an element. No program in sight. -/
section
set_option linter.unusedSimpArgs false
set_option linter.unusedVariables false
namespace Go.Cr
open Go.RowKit
theorem rdLen_canon {l : List UInt8} {n k : Int} (h : rdLen l = .ok (n, k)) : lenOct n.toNat = l.take k.toNat := by
  have h0 := bat_lt l 0
  have h1 := bat_pos l 0
  unfold rdLen at h
  split at h
  · cases h
  rename_i c1
  split at h
  · rename_i c2
    injection h with h; injection h with h2 h3
    obtain ⟨x, t, rfl⟩ : ∃ x t, l = x :: t := by
      cases l with
      | nil => exact absurd rfl c1
      | cons x t => exact ⟨x, t, rfl⟩
    · rw [bat_cons_zero] at h2 c2 h0 h1
      rw [← h2, ← h3, show (1 : Int).toNat = 1 from rfl, List.take_succ_cons, List.take_zero]
      unfold lenOct
      rw [if_pos (by omega), show minF 7 (bi x).toNat = [UInt8.ofNat (bi x).toNat] by simp only [minF]; rw [if_pos (by omega)]]
      congr 1
      simp [bi]
  split at h
  · cases h
  split at h
  · cases h
  split at h
  · cases h
  rename_i c2 c3 c4 c5
  injection h with h; injection h with h2 h3
  obtain ⟨m, hm⟩ : ∃ m : Nat, bat l 0 - 128 = m := ⟨(bat l 0 - 128).toNat, by omega⟩
  have := (lenOct_long (l := l) (k := m) (by omega) (by omega) (by omega) (by omega)).2 (by
    rw [hm, Int.toNat_natCast] at c5
    exact fun e => c5 (by rcases e with e | e; exact .inl e; exact .inr (.inl e)))
  rw [← h2, ← h3, hm, Int.toNat_natCast, this]
  rw [show (1 + (m : Int)).toNat = 1 + m by omega]

def cont (l : List UInt8) (h : Hdr) : List UInt8 := (l.drop h.size.toNat).take h.len.toNat
theorem cont_len {l : List UInt8} {h : Hdr} (e : nextH l = .ok h) : ((cont l h).length : Int) = h.len := by
  have := nextH_ok e
  unfold cont
  simp
  omega
theorem nextH_hdr {l : List UInt8} {h : Hdr} (e : nextH l = .ok h) : rdHdr l = .ok h ∧ h.size + h.len ≤ l.length := by
  have hb := nextH_ok e
  unfold nextH at e
  split at e
  · cases e
  · rename_i hr
    split at e
    · cases e
    · injection e with e; subst e; exact ⟨hr, hb.2.2.2⟩
theorem idB_read (x : UInt8) (h : bi x % 32 ≠ 31) : idB (bi x / 64) (decide (bi x / 32 % 2 = 1)) (bi x % 32) = x := by
  have h0 := bi_pos x
  have h1 := bi_lt x
  apply bi_inj
  rw [idB_bi _ _ _ (by omega) (by omega) (by omega) (by omega)]
  by_cases hc : bi x / 32 % 2 = 1
  · simp only [hc, decide_true, if_true]; omega
  · simp only [hc, decide_false, Bool.false_eq_true, if_false]; omega
theorem rdHdr_canon {l : List UInt8} {h : Hdr} (e : rdHdr l = .ok h) : idB h.cls h.con h.num :: lenOct h.len.toNat = l.take h.size.toNat := by
  unfold rdHdr at e
  split at e
  · cases e
  rename_i c1
  split at e
  · cases e
  rename_i c2
  split at e
  · cases e
  rename_i n k hr
  injection e with e
  subst e
  have hb := rdLen_ok hr
  match l, c1 with
  | x :: t, _ =>
    have hx : bat (x :: t) 0 = bi x := bat_cons_zero x t
    rw [hx] at c2
    have hi := idB_read x c2
    rw [← hx] at hi
    simp only [List.drop_succ_cons, List.drop_zero] at hr
    rw [hi, rdLen_canon hr, show (1 + k).toNat = k.toNat + 1 by omega, List.take_succ_cons]
theorem nextH_canon {l : List UInt8} {h : Hdr} (e : nextH l = .ok h) : encO h.cls h.con h.num (cont l h) = l.take (h.size + h.len).toNat := by
  obtain ⟨hr, hle⟩ := nextH_hdr e
  have hb := nextH_ok e
  have hc := cont_len e
  unfold encO
  rw [← List.cons_append, show (cont l h).length = h.len.toNat by omega, rdHdr_canon hr]
  unfold cont
  rw [show (h.size + h.len).toNat = h.size.toNat + h.len.toNat by omega, List.take_add]
theorem nextH_app {l : List UInt8} {h : Hdr} (r : List UInt8) (e : nextH l = .ok h) : nextH (l ++ r) = .ok h ∧ cont (l ++ r) h = cont l h := by
  obtain ⟨hr, hle⟩ := nextH_hdr e
  have hb := nextH_ok e
  constructor
  · unfold nextH
    rw [rdHdr_app r hr]
    simp only [List.length_append]
    rw [if_neg (by omega)]
  · unfold cont
    rw [List.drop_append_of_le_length (by omega), List.take_append_of_le_length (by simp; omega)]
theorem nextH_take {l : List UInt8} {h : Hdr} (m : Nat) (e : nextH l = .ok h) (hm : h.size + h.len ≤ m) : nextH (l.take m) = .ok h ∧ cont (l.take m) h = cont l h := by
  obtain ⟨hr, hle⟩ := nextH_hdr e
  have hb := nextH_ok e
  constructor
  · unfold nextH
    rw [rdHdr_take m hr (by omega)]
    simp only [List.length_take]
    rw [if_neg (by omega)]
  · unfold cont
    rw [List.drop_take, List.take_take, Nat.min_eq_left (by omega)]
theorem nextH_enc (c n : Int) (k : Bool) (l r : List UInt8) (h : 0 ≤ c) (h1 : c ≤ 3) (h2 : 0 ≤ n) (h3 : n < 31) (hl : l.length ≤ 2147483647) :
    nextH (encO c k n l ++ r) = .ok ⟨c, n, k, l.length, 1 + (lenOct l.length).length⟩ := by
  have hL := encO_len c n k l
  unfold nextH
  rw [rdHdr_enc c n k l r h h1 h2 h3 hl]
  simp only [List.length_append]
  rw [if_neg (by omega)]
theorem cont_enc (c n : Int) (k : Bool) (l r : List UInt8) : cont (encO c k n l ++ r) ⟨c, n, k, l.length, 1 + (lenOct l.length).length⟩ = l := by
  unfold cont encO
  simp only
  rw [show (1 + ((lenOct l.length).length : Int)).toNat = (lenOct l.length).length + 1 by omega, Int.toNat_natCast, List.cons_append, List.drop_succ_cons, List.append_assoc, List.drop_left, List.take_left]

/-! ### Reading to a depth. -/
def scanL (rd : List UInt8 → Option Nat) : Nat → List UInt8 → Option (List (List UInt8))
  | 0, l => if l = [] then some [] else none
  | k + 1, l => if l = [] then some [] else match rd l with
    | none => none
    | some n => (scanL rd k (l.drop n)).map (l.take n :: ·)
def readT : Nat → List UInt8 → Option Nat
  | 0, _ => none
  | d + 1, l => match nextH l with
    | .error _ => none
    | .ok h => if h.con = false then some (h.size + h.len).toNat else match scanL (readT d) h.len.toNat (cont l h) with
      | none => none
      | some _ => some (h.size + h.len).toNat
def treeOK (d : Nat) (l : List UInt8) : Prop := readT d l = some l.length
instance (d : Nat) (l : List UInt8) : Decidable (treeOK d l) := inferInstanceAs (Decidable (_ = _))

theorem readT_bound {d : Nat} {l : List UInt8} {n : Nat} (h : readT d l = some n) : 2 ≤ n ∧ n ≤ l.length := by
  cases d with
  | zero => cases h
  | succ d =>
    simp only [readT] at h
    split at h
    · cases h
    · rename_i hd hn
      have := nextH_ok hn
      split at h
      · cases h; omega
      · split at h
        · cases h
        · cases h; omega
theorem scanL_flat {rd : List UInt8 → Option Nat} : ∀ (k : Nat) {l : List UInt8} {ks : List (List UInt8)}, scanL rd k l = some ks → ks.flatten = l := by
  intro k
  induction k with
  | zero =>
    intro l ks h
    simp only [scanL] at h
    split at h
    · cases h; simp [*]
    · cases h
  | succ k ih =>
    intro l ks h
    simp only [scanL] at h
    split at h
    · cases h; simp [*]
    · split at h
      · cases h
      · rename_i n hn
        cases hs : scanL rd k (l.drop n) with
        | none => rw [hs] at h; cases h
        | some ks' =>
          rw [hs] at h
          cases h
          rw [List.flatten_cons, ih hs, List.take_append_drop]
theorem scanL_fuel {rd : List UInt8 → Option Nat} (hrd : ∀ l n, rd l = some n → 0 < n) : ∀ (k : Nat) (l : List UInt8) (j : Nat), l.length ≤ k → scanL rd (k + j) l = scanL rd k l := by
  intro k
  induction k with
  | zero =>
    intro l j hl
    obtain rfl := List.eq_nil_of_length_eq_zero (by omega : l.length = 0)
    cases j <;> simp [scanL]
  | succ k ih =>
    intro l j hl
    rw [show k + 1 + j = (k + j) + 1 by omega]
    simp only [scanL]
    split
    · rfl
    · cases hr : rd l with
      | none => rfl
      | some n =>
        have := hrd l n hr
        simp only
        rw [ih (l.drop n) j (by simp; omega)]
theorem scanL_mono {rd rd' : List UInt8 → Option Nat} (h : ∀ l n, rd l = some n → rd' l = some n) : ∀ (k : Nat) {l : List UInt8} {ks : List (List UInt8)}, scanL rd k l = some ks → scanL rd' k l = some ks := by
  intro k
  induction k with
  | zero => intro l ks e; exact e
  | succ k ih =>
    intro l ks e
    simp only [scanL] at e ⊢
    split at e
    · rename_i hl; rw [if_pos hl]; exact e
    · rename_i hl
      rw [if_neg hl]
      split at e
      · cases e
      · rename_i n hn
        rw [h l n hn]
        simp only
        cases hs : scanL rd k (l.drop n) with
        | none => rw [hs] at e; cases e
        | some ks' => rw [hs] at e; rw [ih hs]; exact e
theorem readT_mono {d : Nat} : ∀ {d' : Nat} {l : List UInt8} {n : Nat}, d ≤ d' → readT d l = some n → readT d' l = some n := by
  induction d with
  | zero => intro d' l n _ h; cases h
  | succ d ih =>
    intro d' l n hd h
    obtain ⟨d', rfl⟩ : ∃ e, d' = e + 1 := ⟨d' - 1, by omega⟩
    simp only [readT] at h ⊢
    split at h
    · cases h
    · rename_i hh hn
      split at h
      · rename_i hc; simp only [hc, if_true]; exact h
      · rename_i hc
        simp only [hc]
        split at h
        · cases h
        · rename_i ks hs
          rw [scanL_mono (fun l n => ih (d' := d') (by omega)) _ hs]
          simpa using h
theorem readT_app {d : Nat} {l : List UInt8} {n : Nat} (r : List UInt8) (h : readT d l = some n) : readT d (l ++ r) = some n := by
  cases d with
  | zero => cases h
  | succ d =>
    simp only [readT] at h ⊢
    split at h
    · cases h
    · rename_i hh hn
      obtain ⟨h1, h2⟩ := nextH_app r hn
      rw [h1]
      simp only [h2]
      exact h
theorem treeOK_mono {d d' : Nat} {l : List UInt8} (hd : d ≤ d') (h : treeOK d l) : treeOK d' l := readT_mono hd h

theorem scanL_of {d : Nat} : ∀ (ks : List (List UInt8)) (k : Nat), (∀ p ∈ ks, treeOK d p) → ks.flatten.length ≤ k → scanL (readT d) k ks.flatten = some ks := by
  intro ks
  induction ks with
  | nil => intro k _ _; cases k <;> simp [scanL]
  | cons p t ih =>
    intro k h hk
    have hp := h p (by simp)
    have hb := readT_bound hp
    rw [List.flatten_cons, List.length_append] at hk
    obtain ⟨k, rfl⟩ : ∃ k', k = k' + 1 := ⟨k - 1, by omega⟩
    have hne : p ++ t.flatten ≠ [] := by intro e; have := congrArg List.length e; simp at this; rw [this.1] at hb; simp at hb
    simp only [List.flatten_cons, scanL, hne, if_false]
    rw [readT_app _ hp]
    simp only [List.drop_left, List.take_left]
    rw [ih k (fun x hx => h x (by simp [hx])) (by omega)]
    rfl

theorem treeOK_hdr {d : Nat} {l : List UInt8} (h : treeOK d l) : ∃ hd, nextH l = .ok hd ∧ hd.size + hd.len = l.length ∧ encO hd.cls hd.con hd.num (cont l hd) = l := by
  unfold treeOK at h
  have hb := readT_bound h
  cases d with
  | zero => cases h
  | succ d =>
    simp only [readT] at h
    split at h
    · cases h
    · rename_i hd hn
      have hk := nextH_ok hn
      have hsz : (hd.size + hd.len).toNat = l.length := by
        split at h
        · injection h
        · split at h
          · cases h
          · injection h
      refine ⟨hd, hn, by omega, ?_⟩
      rw [nextH_canon hn, hsz, List.take_length]
theorem treeOK_one {d : Nat} {l : List UInt8} (h : treeOK d l) : ∃ x, oneE l = .ok x := by
  obtain ⟨hd, hn, hs, _⟩ := treeOK_hdr h
  rw [oneE_H, hn]
  simp only
  rw [if_neg (by omega)]
  exact ⟨_, rfl⟩

theorem treeOK_con {d : Nat} (c n : Int) (ks : List (List UInt8)) (h : 0 ≤ c) (h1 : c ≤ 3) (h2 : 0 ≤ n) (h3 : n < 31) (hl : ks.flatten.length ≤ 2147483647) (hk : ∀ p ∈ ks, treeOK d p) : treeOK (d + 1) (encO c true n ks.flatten) := by
  have e1 := nextH_enc c n true ks.flatten [] h h1 h2 h3 hl
  have e2 := cont_enc c n true ks.flatten []
  have hL := encO_len c n true ks.flatten
  rw [List.append_nil] at e1 e2
  unfold treeOK
  simp only [readT, e1, e2]
  rw [if_neg (by simp), scanL_of ks _ hk (by omega)]
  simp only
  congr 1
  omega
theorem treeOK_prim {d : Nat} (c n : Int) (l : List UInt8) (h : 0 ≤ c) (h1 : c ≤ 3) (h2 : 0 ≤ n) (h3 : n < 31) (hl : l.length ≤ 2147483647) : treeOK (d + 1) (encO c false n l) := by
  have e1 := nextH_enc c n false l [] h h1 h2 h3 hl
  have hL := encO_len c n false l
  rw [List.append_nil] at e1
  unfold treeOK
  simp only [readT, e1, if_true]
  congr 1
  omega
def kidsT (d : Nat) (l : List UInt8) : List (List UInt8) := match nextH l with
  | .error _ => []
  | .ok h => if h.con = false then [] else (scanL (readT d) h.len.toNat (cont l h)).getD []
theorem kidsT_con {d : Nat} (c n : Int) (ks : List (List UInt8)) (h : 0 ≤ c) (h1 : c ≤ 3) (h2 : 0 ≤ n) (h3 : n < 31) (hl : ks.flatten.length ≤ 2147483647) (hk : ∀ p ∈ ks, treeOK d p) : kidsT d (encO c true n ks.flatten) = ks := by
  have e1 := nextH_enc c n true ks.flatten [] h h1 h2 h3 hl
  have e2 := cont_enc c n true ks.flatten []
  rw [List.append_nil] at e1 e2
  unfold kidsT
  simp only [e1, e2]
  rw [if_neg (by simp), scanL_of ks _ hk (by omega)]
  rfl

/-! ### Parts of an element. -/
theorem cov_segs {l : List UInt8} {e : Int} : ∀ {xs : List Elem} {a : Int}, 0 ≤ a → a ≤ e → e ≤ l.length → Cov l a e xs → (xs.map fun x => seg l x.start x.stop).flatten = seg l a e ∧ ∀ x ∈ xs, a ≤ x.start ∧ x.start < x.body ∧ x.body ≤ x.stop ∧ x.stop ≤ e ∧ oneE (seg l x.start x.stop) = .ok ⟨x.cls, x.num, x.con, 0, x.body - x.start, x.stop - x.start⟩ := by
  intro xs
  induction xs with
  | nil =>
    intro a _ _ _ h
    have : a = e := h
    subst this
    simp [seg]
  | cons x t ih =>
    intro a h0 h1 h2 h
    obtain ⟨hn, hlt, hc⟩ := h
    have hb := nextE_ok h0 h1 h2 hn
    obtain ⟨i1, i2⟩ := ih (by omega) (by omega) h2 hc
    refine ⟨?_, ?_⟩
    · rw [List.map_cons, List.flatten_cons, i1, hb.1]
      unfold seg
      rw [show (e - a).toNat = (x.stop - a).toNat + (e - x.stop).toNat by omega, List.take_add, List.drop_drop, show a.toNat + (x.stop - a).toNat = x.stop.toNat by omega]
    · intro y hy
      simp only [List.mem_cons] at hy
      rcases hy with rfl | hy
      · exact ⟨by omega, by omega, by omega, by omega, nextE_one h0 h1 h2 hn⟩
      · have := i2 y hy
        exact ⟨by omega, by omega, by omega, by omega, this.2.2.2.2⟩
theorem oneE_canon {l : List UInt8} {x : Elem} (h : oneE l = .ok x) : encO x.cls x.con x.num (seg l x.body x.stop) = l ∧ x.start = 0 ∧ x.stop = l.length ∧ 0 ≤ x.cls ∧ x.cls ≤ 3 ∧ 0 ≤ x.num ∧ x.num < 31 := by
  rw [oneE_H] at h
  split at h
  · cases h
  · rename_i hd hn
    have hb := nextH_ok hn
    have hr := rdHdr_ok (nextH_hdr hn).1
    split at h
    · cases h
    · injection h with h
      subst h
      simp only
      have hsz : hd.size + hd.len = l.length := by omega
      have := nextH_canon hn
      rw [hsz, Int.toNat_natCast, List.take_length] at this
      refine ⟨?_, by trivial, by trivial, hr.2.2.2.2.2.1, hr.2.2.2.2.2.2.1, hr.2.2.2.2.2.2.2.1, by omega⟩
      have e : seg l hd.size l.length = cont l hd := by
        unfold seg cont
        congr 1
        omega
      rw [e, this]
def segsE (l : List UInt8) (xs : List Elem) : List (List UInt8) := xs.map fun x => seg l x.start x.stop
theorem partsE_ok {l : List UInt8} {c n : Int} {xs : List Elem} (h : partsE l c n = .ok xs) :
    l = encO c true n (segsE l xs).flatten ∧ 0 ≤ c ∧ c ≤ 3 ∧ 0 ≤ n ∧ n < 31 ∧
      ∀ x ∈ xs, 0 ≤ x.start ∧ x.start < x.body ∧ x.body ≤ x.stop ∧ x.stop ≤ l.length ∧ oneE (seg l x.start x.stop) = .ok ⟨x.cls, x.num, x.con, 0, x.body - x.start, x.stop - x.start⟩ := by
  unfold partsE at h
  split at h
  · cases h
  · rename_i x hx
    have hc := oneE_canon hx
    have hb := oneE_ok hx
    split at h
    · rename_i his
      unfold isE at his
      simp only [Bool.and_eq_true, beq_iff_eq] at his
      obtain ⟨⟨i1, i2⟩, i3⟩ := his
      obtain ⟨h0, h1, h2, hcov⟩ := listE_cov h
      obtain ⟨s1, s2⟩ := cov_segs h0 h1 h2 hcov
      obtain ⟨c1, c2, c3, c4, c5, c6, c7⟩ := hc
      refine ⟨?_, by omega, by omega, by omega, by omega, fun y hy => ?_⟩
      · unfold segsE
        rw [s1, ← i1, ← i3]
        rw [i2] at c1
        exact c1.symm
      · have := s2 y hy
        exact ⟨by omega, by omega, by omega, by omega, this.2.2.2.2⟩
    · cases h
theorem partsE_enc (c n : Int) (ls : List (List UInt8)) (h : 0 ≤ c) (h1 : c ≤ 3) (h2 : 0 ≤ n) (h3 : n < 31) (hl : ls.flatten.length ≤ 2147483647) (hall : ∀ p ∈ ls, ∃ x, oneE p = .ok x) :
    ∃ xs, partsE (encO c true n ls.flatten) c n = .ok xs ∧ segsE (encO c true n ls.flatten) xs = ls := by
  obtain ⟨ys, hy, hyl⟩ := listE_enc c n true ls hall
  have h1' := oneE_enc c n true ls.flatten h h1 h2 h3 hl
  have hp : partsE (encO c true n ls.flatten) c n = .ok ys := by
    unfold partsE
    rw [h1']
    simp only [isE, beq_self_eq_true, Bool.and_self, if_true]
    exact hy
  refine ⟨ys, hp, ?_⟩
  obtain ⟨p1, _, _, _, _, p2⟩ := partsE_ok hp
  -- both are cut of the same octets, element by element
  have key : ∀ (as bs : List (List UInt8)), (∀ p ∈ as, ∃ x, oneE p = .ok x) → (∀ p ∈ bs, ∃ x, oneE p = .ok x) → as.flatten = bs.flatten → as = bs := by
    intro as
    induction as with
    | nil =>
      intro bs _ hb e
      cases bs with
      | nil => rfl
      | cons q t =>
        obtain ⟨x, hx⟩ := hb q (by simp)
        have := oneE_ok hx
        have e' := congrArg List.length e
        simp only [List.flatten_nil, List.flatten_cons, List.length_nil, List.length_append] at e'
        omega
    | cons p t ih =>
      intro bs ha hb e
      cases bs with
      | nil =>
        obtain ⟨x, hx⟩ := ha p (by simp)
        have := oneE_ok hx
        have e' := congrArg List.length e
        simp only [List.flatten_nil, List.flatten_cons, List.length_nil, List.length_append] at e'
        omega
      | cons q t' =>
        obtain ⟨x, hx⟩ := ha p (by simp)
        obtain ⟨y, hy'⟩ := hb q (by simp)
        obtain ⟨d1, r1, z1⟩ := oneE_hdr hx
        obtain ⟨d2, r2, z2⟩ := oneE_hdr hy'
        rw [List.flatten_cons, List.flatten_cons] at e
        have e1 := rdHdr_app t.flatten r1
        rw [e, rdHdr_app t'.flatten r2] at e1
        injection e1 with e1
        subst e1
        have hlen : p.length = q.length := by omega
        obtain ⟨e2, e3⟩ := List.append_inj e hlen
        rw [e2, ih t' (fun z hz => ha z (by simp [hz])) (fun z hz => hb z (by simp [hz])) e3]
  have hinj : (segsE (encO c true n ls.flatten) ys).flatten = ls.flatten := by
    have e1 := cont_enc c n true ls.flatten []
    have e2 := cont_enc c n true (segsE (encO c true n ls.flatten) ys).flatten []
    have hlen : (segsE (encO c true n ls.flatten) ys).flatten.length = ls.flatten.length := by
      have hn1 := nextH_enc c n true ls.flatten [] h h1 h2 h3 hl
      have hle : (segsE (encO c true n ls.flatten) ys).flatten.length ≤ 2147483647 := by
        have hL1 := encO_len c n true ls.flatten
        have hL2 := encO_len c n true (segsE (encO c true n ls.flatten) ys).flatten
        rw [← p1] at hL2
        have := lenOct_len (segsE (encO c true n ls.flatten) ys).flatten.length
        have := lenOct_len ls.flatten.length
        have b2 := oneE_ok h1'
        -- the length octets are those of the same header
        have hr := rdHdr_ok (nextH_hdr hn1).1
        have hx := oneE_canon h1'
        by_cases hbig : (segsE (encO c true n ls.flatten) ys).flatten.length ≤ 2147483647
        · exact hbig
        · exfalso
          have hfl : (segsE (encO c true n ls.flatten) ys).flatten.length ≤ ls.flatten.length := by
            unfold partsE at hp
            rw [h1'] at hp
            simp only [isE, beq_self_eq_true, Bool.and_self, if_true] at hp
            obtain ⟨g0, g1, g2, gc⟩ := listE_cov hp
            obtain ⟨s1, _⟩ := cov_segs g0 g1 g2 gc
            have hsl := seg_len _ _ _ g0 g1 g2
            rw [← s1] at hsl
            unfold segsE
            omega
          omega
      have hn2 := nextH_enc c n true (segsE (encO c true n ls.flatten) ys).flatten [] h h1 h2 h3 hle
      rw [← p1, hn1] at hn2
      injection hn2 with hn2
      injection hn2 with _ _ _ hn2 _
      omega
    rw [← p1, hlen, e1] at e2
    exact e2.symm
  exact key _ _ (fun p hp => by
    unfold segsE at hp
    simp only [List.mem_map] at hp
    obtain ⟨x, hx, rfl⟩ := hp
    exact ⟨_, (p2 x hx).2.2.2.2⟩) hall hinj
theorem encO_inj {c n c' n' : Int} {k k' : Bool} {l l' : List UInt8} (h : 0 ≤ c) (h1 : c ≤ 3) (h2 : 0 ≤ n) (h3 : n < 31) (h' : 0 ≤ c') (h1' : c' ≤ 3) (h2' : 0 ≤ n') (h3' : n' < 31) (hl : l.length ≤ 2147483647) (hl' : l'.length ≤ 2147483647)
    (e : encO c k n l = encO c' k' n' l') : c = c' ∧ k = k' ∧ n = n' ∧ l = l' := by
  have a := nextH_enc c n k l [] h h1 h2 h3 hl
  have b := nextH_enc c' n' k' l' [] h' h1' h2' h3' hl'
  have a2 := cont_enc c n k l []
  have b2 := cont_enc c' n' k' l' []
  rw [e, b] at a
  injection a with a
  rw [e, ← a, b2] at a2
  injection a with i1 i2 i3 i4 i5
  exact ⟨i1.symm, i3.symm, i2.symm, a2.symm⟩
end Go.Cr
end

/- Nodes in memory. No program in sight. -/
section
set_option linter.unusedSimpArgs false
set_option linter.unusedVariables false
namespace Go.Cr
open Go.RowKit
def IsRS (S : Nat → Prop) (w : World) (v : Value) (k n : Nat) (xs : List Value) : Prop :=
  ∃ (A : Option Addr) (c : Nat), v = .slice A n c ∧ n ≤ c ∧ c ≤ maxLen ∧ xs.length = n * k ∧
    (0 < n → ∃ b off, A = some ⟨b, off, none⟩ ∧ b < w.heap.size ∧ S b ∧ ∀ j x, xs[j]? = some x → w.cell? ⟨b, off + j, none⟩ = some x)
section
variable {S S' : Nat → Prop} {w w' : World} {v : Value} {k n : Nat} {xs : List Value}
theorem IsRS.isR (h : IsRS S w v k n xs) : IsR w v k n xs := by
  obtain ⟨A, c, h1, h2, h3, h4, h5⟩ := h
  refine ⟨A, c, h1, h2, h3, h4, fun hn => ?_⟩
  obtain ⟨b, off, e, hb, _, hc⟩ := h5 hn
  exact ⟨b, off, e, hb, hc⟩
theorem IsRS.weak (h : IsRS S w v k n xs) (hs : ∀ b, b < w.heap.size → S b → S' b) : IsRS S' w v k n xs := by
  obtain ⟨A, c, h1, h2, h3, h4, h5⟩ := h
  refine ⟨A, c, h1, h2, h3, h4, fun hn => ?_⟩
  obtain ⟨b, off, e, hb, hS, hc⟩ := h5 hn
  exact ⟨b, off, e, hb, hs b hb hS, hc⟩
theorem IsRS.keep (h : IsRS S w v k n xs) (hsz : w.heap.size ≤ w'.heap.size) (hk : ∀ b, b < w.heap.size → S b → w'.heap[b]? = w.heap[b]?) : IsRS S w' v k n xs := by
  obtain ⟨A, c, h1, h2, h3, h4, h5⟩ := h
  refine ⟨A, c, h1, h2, h3, h4, fun hn => ?_⟩
  obtain ⟨b, off, e, hb, hS, hc⟩ := h5 hn
  exact ⟨b, off, e, by omega, hS, fun j x hj => (World.cell?_of_block (hk b hb hS)).trans (hc j x hj)⟩
theorem IsRS.of_own {base : Nat} {e : TypeId} (h : w.ownsRow base e k v n xs) : IsRS (fun b => base ≤ b) w v k n xs := by
  have hlt := h.lt
  obtain ⟨A, c, rfl, h2, h3, h4, h5⟩ := IsR.of_own h
  refine ⟨A, c, rfl, h2, h3, h4, fun hn => ?_⟩
  obtain ⟨b, off, rfl, hb, hc⟩ := h5 hn
  refine ⟨b, off, rfl, hb, ?_, hc⟩
  rcases h.2 with ⟨hv, _⟩ | ⟨g, cap, cur, hv, hg, _⟩
  · injection hv with hv _ _; cases hv
  · injection hv with hv _ _
    injection hv with hv
    injection hv with hv _ _
    omega
theorem IsRS.nil_ (S : Nat → Prop) (w : World) (k : Nat) : IsRS S w (.slice none 0 0) k 0 [] := ⟨none, 0, rfl, Nat.le_refl _, by decide, by simp, fun h => absurd h (by omega)⟩
end
def IsNode (S : Nat → Prop) : Nat → World → List Value → List UInt8 → Prop
  | 0, _, _, _ => False
  | d + 1, w, cs, l => ∃ (h : Hdr) (v4 v5 : Value) (ks : List (List UInt8)) (xs : List Value), nextH l = .ok h ∧ h.size + h.len = l.length ∧ cs = [.int .i64 h.cls, .int .i64 h.num, .bool h.con, v4, v5] ∧
      IsRS S w v4 1 (if h.con then [] else cont l h).length (bCells (if h.con then [] else cont l h)) ∧ IsRS S w v5 5 ks.length xs ∧
      (if h.con then ks.flatten = cont l h else ks = []) ∧ ∀ j (hj : j < ks.length), treeOK d ks[j] ∧ IsNode S d w ((xs.drop (j * 5)).take 5) ks[j]
theorem IsNode.weak {S S' : Nat → Prop} : ∀ {d : Nat} {w : World} {cs : List Value} {l : List UInt8}, IsNode S d w cs l → (∀ b, b < w.heap.size → S b → S' b) → IsNode S' d w cs l := by
  intro d
  induction d with
  | zero => intro w cs l h _; exact h
  | succ d ih =>
    intro w cs l h hs
    obtain ⟨hd, v4, v5, ks, xs, h1, h2, h3, h4, h5, h6, h7⟩ := h
    exact ⟨hd, v4, v5, ks, xs, h1, h2, h3, h4.weak hs, h5.weak hs, h6, fun j hj => ⟨(h7 j hj).1, ih (h7 j hj).2 hs⟩⟩
theorem IsNode.keep {S : Nat → Prop} : ∀ {d : Nat} {w w' : World} {cs : List Value} {l : List UInt8}, IsNode S d w cs l → w.heap.size ≤ w'.heap.size → (∀ b, b < w.heap.size → S b → w'.heap[b]? = w.heap[b]?) → IsNode S d w' cs l := by
  intro d
  induction d with
  | zero => intro w w' cs l h _ _; exact h
  | succ d ih =>
    intro w w' cs l h hsz hk
    obtain ⟨hd, v4, v5, ks, xs, h1, h2, h3, h4, h5, h6, h7⟩ := h
    exact ⟨hd, v4, v5, ks, xs, h1, h2, h3, h4.keep hsz hk, h5.keep hsz hk, h6, fun j hj => ⟨(h7 j hj).1, ih (h7 j hj).2 hsz hk⟩⟩
theorem IsNode.below {S : Nat → Prop} {d : Nat} {w w' : World} {cs : List Value} {l : List UInt8} (h : IsNode S d w cs l) (hb : Below w.heap.size w w') : IsNode S d w' cs l :=
  h.keep hb.size fun b hlt _ => hb.block b hlt
theorem IsNode.shape {S : Nat → Prop} {d : Nat} {w : World} {cs : List Value} {l : List UInt8} (h : IsNode S d w cs l) :
    ∃ (c1 c2 : Int) (c3 : Bool) (a4 a5 : Option Addr) (n4 k4 n5 k5 : Nat), cs = [.int .i64 c1, .int .i64 c2, .bool c3, .slice a4 n4 k4, .slice a5 n5 k5] := by
  cases d with
  | zero => exact h.elim
  | succ d =>
    obtain ⟨hd, v4, v5, ks, xs, h1, h2, h3, ⟨A4, c4, rfl, _⟩, ⟨A5, c5, rfl, _⟩, _⟩ := h
    exact ⟨_, _, _, _, _, _, _, _, _, h3⟩

def IsNodes (S : Nat → Prop) (d : Nat) (w : World) (xs : List Value) (ks : List (List UInt8)) : Prop := xs.length = ks.length * 5 ∧ ∀ j (hj : j < ks.length), treeOK d ks[j] ∧ IsNode S d w ((xs.drop (j * 5)).take 5) ks[j]
theorem IsNodes.nil_ (S : Nat → Prop) (d : Nat) (w : World) : IsNodes S d w [] [] := ⟨rfl, fun j hj => absurd hj (by simp)⟩
theorem IsNodes.snoc {S : Nat → Prop} {d : Nat} {w : World} {xs cs : List Value} {ks : List (List UInt8)} {p : List UInt8} (h : IsNodes S d w xs ks) (hp : IsNode S d w cs p) (ht : treeOK d p) (hl : cs.length = 5) : IsNodes S d w (xs ++ cs) (ks ++ [p]) := by
  obtain ⟨h1, h2⟩ := h
  refine ⟨by simp [h1, hl]; omega, fun j hj => ?_⟩
  simp only [List.length_append, List.length_cons, List.length_nil] at hj
  by_cases hlt : j < ks.length
  · rw [List.getElem_append_left hlt]
    refine ⟨(h2 j hlt).1, ?_⟩
    have e : ((xs ++ cs).drop (j * 5)).take 5 = (xs.drop (j * 5)).take 5 := by
      rw [List.drop_append_of_le_length (by omega), List.take_append_of_le_length (by simp; omega)]
    rw [e]
    exact (h2 j hlt).2
  · have hjk : j = ks.length := by omega
    subst hjk
    rw [List.getElem_append_right (Nat.le_refl _)]
    have e : ((xs ++ cs).drop (ks.length * 5)).take 5 = cs := by
      rw [← h1, List.drop_left, List.take_of_length_le (by omega)]
    rw [e]
    simpa using ⟨ht, hp⟩
theorem IsNodes.weak {S S' : Nat → Prop} {d : Nat} {w : World} {xs : List Value} {ks : List (List UInt8)} (h : IsNodes S d w xs ks) (hs : ∀ b, b < w.heap.size → S b → S' b) : IsNodes S' d w xs ks :=
  ⟨h.1, fun j hj => ⟨(h.2 j hj).1, (h.2 j hj).2.weak hs⟩⟩
theorem IsNodes.keep {S : Nat → Prop} {d : Nat} {w w' : World} {xs : List Value} {ks : List (List UInt8)} (h : IsNodes S d w xs ks) (hsz : w.heap.size ≤ w'.heap.size) (hk : ∀ b, b < w.heap.size → S b → w'.heap[b]? = w.heap[b]?) : IsNodes S d w' xs ks :=
  ⟨h.1, fun j hj => ⟨(h.2 j hj).1, (h.2 j hj).2.keep hsz hk⟩⟩
theorem IsNodes.below {S : Nat → Prop} {d : Nat} {w w' : World} {xs : List Value} {ks : List (List UInt8)} (h : IsNodes S d w xs ks) (hb : Below w.heap.size w w') : IsNodes S d w' xs ks := h.keep hb.size fun b hlt _ => hb.block b hlt
def But (base : Nat) (row : Option Nat) (b : Nat) : Prop := base ≤ b ∧ some b ≠ row
theorem IsNodes.grown {d base : Nat} {w w' : World} {xs : List Value} {ks : List (List UInt8)} {v v' : Value} (h : IsNodes (But base v.ownBlock) d w xs ks) (hg : w.grownBy w' v.ownBlock) (hat : v'.ownBlock = v.ownBlock ∨ v'.ownBlock = some w.heap.size) : IsNodes (But base v'.ownBlock) d w' xs ks := by
  have h1 : IsNodes (But base v.ownBlock) d w' xs ks := h.keep hg.size fun b hlt hS => hg.block b hlt hS.2
  have h2 : IsNodes (fun b => But base v.ownBlock b ∧ b < w.heap.size) d w xs ks := h.weak fun b hlt hS => ⟨hS, hlt⟩
  have h3 : IsNodes (fun b => But base v.ownBlock b ∧ b < w.heap.size) d w' xs ks := h2.keep hg.size fun b hlt hS => hg.block b hlt hS.1.2
  refine h3.weak fun b hlt hS => ⟨hS.1.1, fun e => ?_⟩
  rcases hat with hat | hat
  · exact hS.1.2 (e.trans hat)
  · rw [hat] at e; injection e with e; omega
theorem IsNode.tree {S : Nat → Prop} {d : Nat} {w : World} {cs : List Value} {l : List UInt8} (h : IsNode S d w cs l) : treeOK d l := by
  cases d with
  | zero => exact h.elim
  | succ d =>
    obtain ⟨hd, v4, v5, ks, xs, h1, h2, h3, h4, h5, h6, h7⟩ := h
    have hk := nextH_ok h1
    unfold treeOK
    cases hc : hd.con with
    | false =>
      simp only [readT, h1, hc, if_true]
      congr 1
      omega
    | true =>
      rw [hc, if_pos rfl] at h6
      have hl := cont_len h1
      simp only [readT, h1, hc, Bool.true_eq_false, if_false]
      rw [← h6, scanL_of ks _ (fun p hp => by
        obtain ⟨j, hj, rfl⟩ := List.getElem_of_mem hp
        exact (h7 j hj).1) (by rw [h6]; omega)]
      simp only
      congr 1
      omega
end Go.Cr
end

/- Rows of owned byte slices: a slice of slices that grows by append. No program in sight. -/
section
set_option linter.unusedSimpArgs false
set_option linter.unusedVariables false
namespace Go.Cr
open Go.RowKit
def PartsIn (S : Nat → Prop) (w : World) (xs : List Value) (ls : List (List UInt8)) : Prop := xs.length = ls.length ∧ ∀ j (hj : j < ls.length), IsRS S w (xs.getD j undef) 1 ls[j].length (bCells ls[j])
theorem PartsIn.nil_ (S : Nat → Prop) (w : World) : PartsIn S w [] [] := ⟨rfl, fun j hj => absurd hj (by simp)⟩
theorem PartsIn.snoc {S : Nat → Prop} {w : World} {xs : List Value} {ls : List (List UInt8)} {u : Value} {l : List UInt8} (h : PartsIn S w xs ls) (hu : IsRS S w u 1 l.length (bCells l)) : PartsIn S w (xs ++ [u]) (ls ++ [l]) := by
  obtain ⟨h1, h2⟩ := h
  refine ⟨by simp [h1], fun j hj => ?_⟩
  simp only [List.length_append, List.length_cons, List.length_nil] at hj
  by_cases hlt : j < ls.length
  · rw [List.getElem_append_left hlt]
    have e : (xs ++ [u]).getD j undef = xs.getD j undef := by simp only [List.getD_eq_getElem?_getD, List.getElem?_append_left (show j < xs.length by omega)]
    rw [e]
    exact h2 j hlt
  · have hjk : j = ls.length := by omega
    subst hjk
    rw [List.getElem_append_right (Nat.le_refl _)]
    have e : (xs ++ [u]).getD ls.length undef = u := by simp [← h1]
    rw [e]
    simpa using hu
theorem PartsIn.weak {S S' : Nat → Prop} {w : World} {xs : List Value} {ls : List (List UInt8)} (h : PartsIn S w xs ls) (hs : ∀ b, b < w.heap.size → S b → S' b) : PartsIn S' w xs ls := ⟨h.1, fun j hj => (h.2 j hj).weak hs⟩
theorem PartsIn.keep {S : Nat → Prop} {w w' : World} {xs : List Value} {ls : List (List UInt8)} (h : PartsIn S w xs ls) (hsz : w.heap.size ≤ w'.heap.size) (hk : ∀ b, b < w.heap.size → S b → w'.heap[b]? = w.heap[b]?) : PartsIn S w' xs ls := ⟨h.1, fun j hj => (h.2 j hj).keep hsz hk⟩
theorem PartsIn.below {S : Nat → Prop} {w w' : World} {xs : List Value} {ls : List (List UInt8)} (h : PartsIn S w xs ls) (hb : Below w.heap.size w w') : PartsIn S w' xs ls := h.keep hb.size fun b hlt _ => hb.block b hlt
theorem PartsIn.grown {base : Nat} {w w' : World} {xs : List Value} {ls : List (List UInt8)} {v v' : Value} (h : PartsIn (But base v.ownBlock) w xs ls) (hg : w.grownBy w' v.ownBlock) (hat : v'.ownBlock = v.ownBlock ∨ v'.ownBlock = some w.heap.size) : PartsIn (But base v'.ownBlock) w' xs ls := by
  have h2 : PartsIn (fun b => But base v.ownBlock b ∧ b < w.heap.size) w xs ls := h.weak fun b hlt hS => ⟨hS, hlt⟩
  have h3 : PartsIn (fun b => But base v.ownBlock b ∧ b < w.heap.size) w' xs ls := h2.keep hg.size fun b hlt hS => hg.block b hlt hS.1.2
  refine h3.weak fun b hlt hS => ⟨hS.1.1, fun e => ?_⟩
  rcases hat with hat | hat
  · exact hS.1.2 (e.trans hat)
  · rw [hat] at e; injection e with e; omega
def OwP (w : World) (base : Nat) (e : TypeId) (v : Value) (ls : List (List UInt8)) : Prop := ∃ xs, w.ownsRow base e 1 v ls.length xs ∧ PartsIn (But base v.ownBlock) w xs ls
theorem OwP.nil_ (w : World) (base : Nat) (e : TypeId) : OwP w base e (.slice none 0 0) [] := ⟨[], World.ownsRow_nil _ _ _ _, PartsIn.nil_ _ _⟩
theorem OwP.below {w w' : World} {base : Nat} {e : TypeId} {v : Value} {ls : List (List UInt8)} (h : OwP w base e v ls) (hb : Below w.heap.size w w') : OwP w' base e v ls := by
  obtain ⟨xs, h1, h2⟩ := h
  exact ⟨xs, ownsRow_below h1 hb, h2.below hb⟩
theorem OwP.alloc {w : World} {base : Nat} {e : TypeId} {v : Value} {ls : List (List UInt8)} (h : OwP w base e v ls) (o : Obj) : OwP (w.alloc o) base e v ls := h.below ((Below.refl _ _).alloc (Nat.le_refl _) o)
theorem OwP.isBs {w : World} {base : Nat} {e : TypeId} {v : Value} {ls : List (List UInt8)} (h : OwP w base e v ls) : IsBs w v ls := by
  obtain ⟨xs, h1, h2⟩ := h
  refine ⟨xs, IsR.of_own h1, fun j hj => ?_⟩
  have := (h2.2 j hj).isR.bytes
  simpa [hj] using this
theorem OwP.slice {w : World} {base : Nat} {e : TypeId} {v : Value} {ls : List (List UInt8)} (h : OwP w base e v ls) : ∃ A c, v = .slice A ls.length c := by
  obtain ⟨xs, h1, _⟩ := h
  obtain ⟨A, c, h, _⟩ := IsR.of_own h1
  exact ⟨A, c, h⟩
theorem part_new {w W : World} {base : Nat} {t e : TypeId} {u v : Value} {l : List UInt8} {n : Nat} {xs : List Value} (h : OwB w W.heap.size t u l) (hb : base ≤ W.heap.size) (hv : W.ownsRow base e 1 v n xs) : IsRS (But base v.ownBlock) w u 1 l.length (bCells l) :=
  (IsRS.of_own h).weak fun b _ hS => ⟨by omega, fun he => by have := (hv.lt _ he.symm).2; omega⟩
section
variable {P : Program} (w : World)
theorem run_appP (base : Nat) (t ty e : TypeId) (ht : P.underlying t = some (.slice e)) (hinfo : (P.info? e).map (fun i => (i.zero, i.size, i.bytes)) = some (some (.slice none 0 0), 1, 24))
    (v : Value) (ls : List (List UInt8)) (hown : OwP w base e v ls) (x u : Value) (l : List UInt8) (hx : IsR w x 1 1 [u]) (hu : IsRS (But base v.ownBlock) w u 1 l.length (bCells l)) (hn : ls.length ≤ 1000000) (hbase : base ≤ w.heap.size) :
    ∃ v' w', (Builtin.append_ #[t, t] ty #[v, x]).run P w = .ok v' w' ∧ OwP w' base e v' (ls ++ [l]) ∧ Below base w w' ∧ w.grownBy w' v.ownBlock := by
  obtain ⟨i0, hi, hz0, hz1, hz2⟩ := info_parts hinfo
  obtain ⟨xs, h1, h2⟩ := hown
  have hone : ∀ y ∈ [u], y.oneCell' = true := by
    intro y hy
    simp at hy; subst hy
    obtain ⟨A, c, rfl, _⟩ := hu
    rfl
  obtain ⟨v', w', hr, g1, g2, g3, g4⟩ := run_app2 (P := P) w base t ty e i0 _ 1 24 ht hi hz0 hz1 hz2 rfl (by decide) v ls.length xs h1 x 1 [u] hx hone (by unfold maxLen; omega) (by omega) hbase
  refine ⟨v', w', hr, ⟨xs ++ [u], by rw [List.length_append]; exact g1, ?_⟩, g3, g2⟩
  exact (h2.snoc hu).grown g2 g4
theorem wpList_appP {ops : Array Oper} {rest : List Oper} {o : Oper} {a : Act} {Q : Exit → Act → World → Prop} (hgd : o.guard = none) (s y : Operand) (t : TypeId)
    (ho : o.op = .call { callee := .builtin .append, args := #[s, y], argTypes := #[t, t] })
    (base : Nat) (e : TypeId) (ht : P.underlying t = some (.slice e)) (hinfo : (P.info? e).map (fun i => (i.zero, i.size, i.bytes)) = some (some (.slice none 0 0), 1, 24))
    (v : Value) (ls : List (List UInt8)) (hs : a.eval s = v) (hown : OwP w base e v ls) (x u : Value) (l : List UInt8) (hyx : a.eval y = x) (hx : IsR w x 1 1 [u]) (hu : IsRS (But base v.ownBlock) w u 1 l.length (bCells l)) (hn : ls.length ≤ 1000000) (hbase : base ≤ w.heap.size)
    (h : ∀ v' w', OwP w' base e v' (ls ++ [l]) → Below base w w' → w.grownBy w' v.ownBlock → wpList P ops Q rest (a.put o.dst v') w') : wpList P ops Q (o :: rest) a w :=
  wpList_plain hgd fun _ hK => by
    obtain ⟨v', w', hr, h2, h3, h4⟩ := run_appP (P := P) w base t o.type e ht hinfo v ls hown x u l hx hu hn hbase
    unfold Oper.wp execOp
    simp only [ho, resolve, invoke, builtin, Sem.run_bind, Sem.run_pure, Result.andThen_ok, List.map_toArray, List.map_cons, List.map_nil, hs, hyx, hr]
    exact hK _ _ (h v' w' h2 h3 h4)
end
end Go.Cr
end

/- What a function that writes into blocks of some types alone leaves: relations between worlds. No program in sight. -/
section
set_option linter.unusedSimpArgs false
set_option linter.unusedVariables false
namespace Go.Cr
open Go.RowKit
structure Far (base : Nat) (Tp : TypeId → Prop) (B : Nat) (w w' : World) : Prop where
  os : w'.os = w.os
  tape : w'.tape = w.tape
  output : w'.output = w.output
  size : w.heap.size ≤ w'.heap.size
  block : ∀ k, k < B → (k < base ∨ ∀ cs t fz, w.heap[k]? = some (.cells cs t fz) → ¬ Tp t) → w'.heap[k]? = w.heap[k]?
section
variable {base B : Nat} {Tp : TypeId → Prop} {a w w' : World}
theorem Far.of_below (h : Below B w w') : Far base Tp B w w' := ⟨h.os, h.tape, h.output, h.size, fun k hk _ => h.block k hk⟩
theorem Far.trans (h : Far base Tp B a w) (k : Far base Tp B w w') : Far base Tp B a w' :=
  ⟨k.os.trans h.os, k.tape.trans h.tape, k.output.trans h.output, Nat.le_trans h.size k.size, fun i hi hr => by
    have h1 := h.block i hi hr
    have h2 := k.block i hi (by rw [h1]; exact hr)
    exact h2.trans h1⟩
theorem Far.mono {B' : Nat} (h : Far base Tp B w w') (hB : B' ≤ B) : Far base Tp B' w w' := ⟨h.os, h.tape, h.output, h.size, fun k hk hr => h.block k (Nat.lt_of_lt_of_le hk hB) hr⟩
theorem Far.refl (base : Nat) (Tp : TypeId → Prop) (B : Nat) (w : World) : Far base Tp B w w := Far.of_below (Below.refl B w)
theorem Far.step (h : Far base Tp B a w) (hb : Below w.heap.size w w') (hB : B ≤ w.heap.size) : Far base Tp B a w' := h.trans (Far.of_below (hb.mono hB))
theorem Far.far (h : Far base Tp B a w) (hb : Far base Tp w.heap.size w w') (hB : B ≤ w.heap.size) : Far base Tp B a w' := h.trans (hb.mono hB)
theorem Far.alloc (h : Far base Tp B a w) (hB : B ≤ w.heap.size) (o : Obj) : Far base Tp B a (w.alloc o) := h.step ((Below.refl _ w).alloc (Nat.le_refl _) o) hB
theorem Far.drew (h : Far base Tp B a w) : Far base Tp B a w.drew := h.trans (Far.of_below ((Below.refl _ w).drew))
theorem Far.setCell (h : Far base Tp B a w) {p : Addr} (hp : B ≤ p.block) (u : Value) : Far base Tp B a (w.setCell p u) := h.trans (Far.of_below ((Below.refl _ w).setCell hp u))
theorem Far.grown {b0 : Nat} {e : TypeId} {k : Nat} {v : Value} {n : Nat} {xs : List Value} (h : Far base Tp B a w) (hg : w.grownBy w' v.ownBlock) (hB : B ≤ w.heap.size) (ho : w.ownsRow b0 e k v n xs) (hb : base ≤ b0) (ht : Tp e) : Far base Tp B a w' :=
  h.trans ⟨hg.os, hg.tape, hg.output, hg.size, fun i hi hr => hg.block i (by omega) (fun he => by
    obtain ⟨_, ⟨rfl, _⟩ | ⟨g, cap, cur, rfl, hgb, hh, _⟩⟩ := ho
    · cases he
    · have : i = g := by injection he
      subst this
      rcases hr with hr | hr
      · omega
      · exact hr _ _ _ hh ht)⟩
theorem Far.below {B' : Nat} (h : Far base Tp B w w') (hB : B' ≤ B) (hb : B' ≤ base) : Below B' w w' := ⟨h.os, h.tape, h.output, h.size, fun k hk => h.block k (by omega) (.inl (by omega))⟩
theorem Far.cell (h : Far base Tp B w w') {b o : Nat} (hB : b < B) (hb : b < base) : w'.cell? ⟨b, o, none⟩ = w.cell? ⟨b, o, none⟩ := World.cell?_of_block (w := w) (h.block b hB (.inl hb))
end
structure Only (c B : Nat) (w w' : World) : Prop where
  os : w'.os = w.os
  tape : w'.tape = w.tape
  output : w'.output = w.output
  size : w.heap.size ≤ w'.heap.size
  block : ∀ k, k < B → k ≠ c → w'.heap[k]? = w.heap[k]?
theorem Only.of_below {c B : Nat} {w w' : World} (h : Below B w w') : Only c B w w' := ⟨h.os, h.tape, h.output, h.size, fun k hk _ => h.block k hk⟩
theorem Only.set {c B : Nat} {a w : World} (h : Only c B a w) {p : Addr} (hp : p.block = c) (u : Value) : Only c B a (w.setCell p u) :=
  ⟨h.os, h.tape, h.output, (by simpa [World.setCell] using h.size), fun k hk hn => (Below.heap_setCell _ _ _ _ (fun e => hn (by rw [e, hp]))).trans (h.block k hk hn)⟩
theorem Only.below {c B B' : Nat} {w w' : World} (h : Only c B w w') (hB : B' ≤ B) (hc : B' ≤ c) : Below B' w w' := ⟨h.os, h.tape, h.output, h.size, fun k hk => h.block k (by omega) (by omega)⟩
theorem Blk.only {c g : Nat} {w w' : World} {t : TypeId} {cs : Array Value} (h : Blk w g t cs) (hf : Only c w.heap.size w w') (hg : g ≠ c) : Blk w' g t cs := (hf.block g h.lt hg).trans h
def Old (B : Nat) (P : World → Prop) (w : World) : Prop := ∃ w0, P w0 ∧ w0.heap.size ≤ B ∧ Below w0.heap.size w0 w
theorem Old.out {B : Nat} {P : World → Prop} {w : World} (h : Old B P w) (hP : ∀ a b, P a → Below a.heap.size a b → P b) : P w := by
  obtain ⟨w0, h1, _, h3⟩ := h
  exact hP _ _ h1 h3
theorem Old.more {B B' : Nat} {P : World → Prop} {w : World} (h : Old B P w) (hB : B ≤ B') : Old B' P w := by
  obtain ⟨w0, h1, h2, h3⟩ := h
  exact ⟨w0, h1, by omega, h3⟩
theorem Old.below {B : Nat} {P : World → Prop} {w w' : World} (h : Old B P w) (hb : Below w.heap.size w w') : Old B P w' := by
  obtain ⟨w0, h1, h2, h3⟩ := h
  exact ⟨w0, h1, h2, h3.trans (hb.mono h3.size)⟩
theorem Old.far {B base : Nat} {Tp : TypeId → Prop} {P : World → Prop} {w w' : World} (h : Old B P w) (hf : Far base Tp w.heap.size w w') (hb : B ≤ base) : Old B P w' := by
  obtain ⟨w0, h1, h2, h3⟩ := h
  exact ⟨w0, h1, h2, h3.trans (hf.below h3.size (by omega))⟩
theorem Old.only {B c : Nat} {P : World → Prop} {w w' : World} (h : Old B P w) (hf : Only c w.heap.size w w') (hb : B ≤ c) : Old B P w' := by
  obtain ⟨w0, h1, h2, h3⟩ := h
  exact ⟨w0, h1, h2, h3.trans (hf.below h3.size (by omega))⟩
theorem Old.map {B : Nat} {P Q : World → Prop} {w : World} (h : Old B P w) (f : ∀ a, P a → Q a) : Old B Q w := by
  obtain ⟨w0, h1, h2, h3⟩ := h
  exact ⟨w0, f _ h1, h2, h3⟩
theorem Old.and {B : Nat} {P Q : World → Prop} {w : World} (h : Old B P w) (k : Old B Q w) (hP : ∀ a b, P a → Below a.heap.size a b → P b) (hQ : ∀ a b, Q a → Below a.heap.size a b → Q b) : Old B (fun a => P a ∧ Q a) w := by
  obtain ⟨w0, h1, h2, h3⟩ := h
  obtain ⟨w1, k1, k2, k3⟩ := k
  rcases Nat.le_total w0.heap.size w1.heap.size with hs | hs
  · exact ⟨w1, ⟨hP _ _ h1 ⟨k3.os.symm.trans h3.os, k3.tape.symm.trans h3.tape, k3.output.symm.trans h3.output, hs, fun i hi => (k3.block i (by omega)).symm.trans (h3.block i hi)⟩, k1⟩, k2, k3⟩
  · exact ⟨w0, ⟨h1, hQ _ _ k1 ⟨h3.os.symm.trans k3.os, h3.tape.symm.trans k3.tape, h3.output.symm.trans k3.output, hs, fun i hi => (h3.block i (by omega)).symm.trans (k3.block i hi)⟩⟩, h2, h3⟩
theorem Only.refl (c B : Nat) (w : World) : Only c B w w := Only.of_below (Below.refl B w)
end Go.Cr
end

/- Rows of things that lie in rows themselves: how a thing is read in cells, owned rows of things that grow by append. No program in sight. -/
section
set_option linter.unusedSimpArgs false
set_option linter.unusedVariables false
namespace Go.Cr
open Go.RowKit
structure Rep (α : Type) where
  k : Nat
  R : (Nat → Prop) → World → List Value → α → Prop
  kpos : 0 < k
  len : ∀ {S : Nat → Prop} {w : World} {cs : List Value} {a : α}, R S w cs a → cs.length = k
  one : ∀ {S : Nat → Prop} {w : World} {cs : List Value} {a : α}, R S w cs a → ∀ u ∈ cs, u.oneCell' = true
  weak : ∀ {S S' : Nat → Prop} {w : World} {cs : List Value} {a : α}, R S w cs a → (∀ b, b < w.heap.size → S b → S' b) → R S' w cs a
  keep : ∀ {S : Nat → Prop} {w w' : World} {cs : List Value} {a : α}, R S w cs a → w.heap.size ≤ w'.heap.size → (∀ b, b < w.heap.size → S b → w'.heap[b]? = w.heap[b]?) → R S w' cs a
section
variable {α : Type} (r : Rep α)
def RowIn (S : Nat → Prop) (w : World) (xs : List Value) (l : List α) : Prop := xs.length = l.length * r.k ∧ ∀ j (h : j < l.length), r.R S w ((xs.drop (j * r.k)).take r.k) l[j]
def IsL (S : Nat → Prop) (w : World) (v : Value) (l : List α) : Prop := ∃ xs, IsRS S w v r.k l.length xs ∧ RowIn r S w xs l
def OwL (X : Nat → Prop) (w : World) (base : Nat) (e : TypeId) (v : Value) (l : List α) : Prop := ∃ xs, w.ownsRow base e r.k v l.length xs ∧ (∀ g, v.ownBlock = some g → X g) ∧ RowIn r (fun b => But base v.ownBlock b ∧ X b) w xs l
end
section
variable {α : Type} {r : Rep α} {S S' X X' : Nat → Prop} {w w' : World} {v : Value} {l : List α} {xs : List Value} {base : Nat} {e : TypeId}
theorem RowIn.nil_ : RowIn r S w [] [] := ⟨by simp, fun j hj => absurd hj (by simp)⟩
theorem RowIn.snoc {cs : List Value} {a : α} (h : RowIn r S w xs l) (hp : r.R S w cs a) : RowIn r S w (xs ++ cs) (l ++ [a]) := by
  obtain ⟨h1, h2⟩ := h
  have hl := r.len hp
  refine ⟨by simp [h1, hl, Nat.add_mul], fun j hj => ?_⟩
  simp only [List.length_append, List.length_cons, List.length_nil] at hj
  by_cases hlt : j < l.length
  · rw [List.getElem_append_left hlt]
    have hm : j * r.k + r.k ≤ l.length * r.k := by
      have := Nat.mul_le_mul_right r.k (show j + 1 ≤ l.length by omega)
      rw [Nat.add_mul, Nat.one_mul] at this
      exact this
    have e : ((xs ++ cs).drop (j * r.k)).take r.k = (xs.drop (j * r.k)).take r.k := by
      rw [List.drop_append_of_le_length (by omega), List.take_append_of_le_length (by simp; omega)]
    rw [e]
    exact h2 j hlt
  · have hjk : j = l.length := by omega
    subst hjk
    rw [List.getElem_append_right (Nat.le_refl _)]
    have e : ((xs ++ cs).drop (l.length * r.k)).take r.k = cs := by
      rw [← h1, List.drop_left, List.take_of_length_le (by omega)]
    rw [e]
    simpa using hp
theorem RowIn.weak (h : RowIn r S w xs l) (hs : ∀ b, b < w.heap.size → S b → S' b) : RowIn r S' w xs l := ⟨h.1, fun j hj => r.weak (h.2 j hj) hs⟩
theorem RowIn.keep (h : RowIn r S w xs l) (hsz : w.heap.size ≤ w'.heap.size) (hk : ∀ b, b < w.heap.size → S b → w'.heap[b]? = w.heap[b]?) : RowIn r S w' xs l := ⟨h.1, fun j hj => r.keep (h.2 j hj) hsz hk⟩
theorem RowIn.grown {v' : Value} (h : RowIn r (fun b => But base v.ownBlock b ∧ X b) w xs l) (hg : w.grownBy w' v.ownBlock) (hat : v'.ownBlock = v.ownBlock ∨ v'.ownBlock = some w.heap.size) : RowIn r (fun b => But base v'.ownBlock b ∧ X b) w' xs l := by
  have h2 : RowIn r (fun b => (But base v.ownBlock b ∧ X b) ∧ b < w.heap.size) w xs l := h.weak fun b hlt hS => ⟨hS, hlt⟩
  have h3 : RowIn r (fun b => (But base v.ownBlock b ∧ X b) ∧ b < w.heap.size) w' xs l := h2.keep hg.size fun b hlt hS => hg.block b hlt hS.1.1.2
  refine h3.weak fun b hlt hS => ⟨⟨hS.1.1.1, fun e => ?_⟩, hS.1.2⟩
  rcases hat with hat | hat
  · exact hS.1.1.2 (e.trans hat)
  · rw [hat] at e; injection e with e; omega
theorem IsL.weak (h : IsL r S w v l) (hs : ∀ b, b < w.heap.size → S b → S' b) : IsL r S' w v l := by
  obtain ⟨xs, h1, h2⟩ := h
  exact ⟨xs, h1.weak hs, h2.weak hs⟩
theorem IsL.keep (h : IsL r S w v l) (hsz : w.heap.size ≤ w'.heap.size) (hk : ∀ b, b < w.heap.size → S b → w'.heap[b]? = w.heap[b]?) : IsL r S w' v l := by
  obtain ⟨xs, h1, h2⟩ := h
  exact ⟨xs, h1.keep hsz hk, h2.keep hsz hk⟩
theorem IsL.below (h : IsL r S w v l) (hb : Below w.heap.size w w') : IsL r S w' v l := h.keep hb.size fun b hlt _ => hb.block b hlt
theorem IsL.alloc (h : IsL r S w v l) (o : Obj) : IsL r S (w.alloc o) v l := h.below ((Below.refl _ _).alloc (Nat.le_refl _) o)
theorem IsL.nil_ : IsL r S w (.slice none 0 0) [] := ⟨[], IsRS.nil_ _ _ _, RowIn.nil_⟩
theorem IsL.slice (h : IsL r S w v l) : ∃ A c, v = .slice A l.length c := by
  obtain ⟨xs, ⟨A, c, rfl, _⟩, _⟩ := h
  exact ⟨A, c, rfl⟩
theorem IsL.maxl (h : IsL r S w v l) : (l.length : Int) ≤ 9223372036854775807 := by obtain ⟨xs, h1, _⟩ := h; exact h1.isR.maxl
theorem IsL.len {P : Program} {t e : TypeId} (h : IsL r S w v l) (ht : P.underlying t = some (.slice e)) : ∀ (ty : TypeId) (W : World), (Builtin.len_ #[t] ty #[v]).run P W = .ok (.int .i64 l.length) W := by
  obtain ⟨xs, h1, _⟩ := h; exact h1.isR.len ht
theorem IsL.at_ {P : Program} {t e : TypeId} (h : IsL r S w v l) (ht : P.underlying t = some (.slice e)) (hs : ∀ W, (sizeOf e).run P W = .ok r.k W) (kd : IntKind) (i : Nat) (h1 : i < l.length) :
    ∃ b o cs, (∀ W : World, (Instr.indexAt t v (.int kd (i : Int))).run P W = .ok (.pointer (some ⟨b, o, none⟩)) W) ∧ b < w.heap.size ∧ S b ∧ r.R S w cs l[i] ∧ ∀ j x, cs[j]? = some x → w.cell? ⟨b, o + j, none⟩ = some x := by
  obtain ⟨xs, ⟨A, c, rfl, h2, h3, h4, h5⟩, hl, hr⟩ := h
  obtain ⟨b, off, rfl, hb, hS, hc⟩ := h5 (by omega)
  have hR := hr i h1
  refine ⟨b, off + i * r.k, (xs.drop (i * r.k)).take r.k, fun W => ?_, hb, hS, hR, fun j x hj => ?_⟩
  · have hi : (0 ≤ (i : Int) ∧ (i : Int) < (l.length : Int)) := ⟨by omega, by omega⟩
    simp only [Instr.indexAt, asIntOf, Sem.run_bind, Sem.run_pure, Result.andThen, run_underlying ht, if_pos hi, hs]
    simp [Addr.add]
  · have hjk : j < r.k := by
      have h7 := (List.getElem?_eq_some_iff.1 hj).1
      have h8 := r.len hR
      omega
    rw [List.getElem?_take_of_lt hjk, List.getElem?_drop] at hj
    rw [Nat.add_assoc]
    exact hc _ _ hj
theorem OwL.nil_ (X : Nat → Prop) (w : World) (base : Nat) (e : TypeId) : OwL r X w base e (.slice none 0 0) [] := ⟨[], World.ownsRow_nil _ _ _ _, (fun g h => by cases h), RowIn.nil_⟩
theorem OwL.keep (h : OwL r X w base e v l) (hsz : w.heap.size ≤ w'.heap.size) (hk : ∀ b, b < w.heap.size → base ≤ b → X b → w'.heap[b]? = w.heap[b]?) : OwL r X w' base e v l := by
  obtain ⟨xs, h1, hX, h2⟩ := h
  refine ⟨xs, ?_, hX, h2.keep hsz fun b hlt hS => hk b hlt hS.1.1 hS.2⟩
  have hlt := h1.lt
  obtain ⟨h3, h4⟩ := h1
  refine ⟨h3, ?_⟩
  rcases h4 with h4 | ⟨g, cap, cur, hv, hgb, hh, q⟩
  · exact .inl h4
  · subst hv
    refine .inr ⟨g, cap, cur, rfl, hgb, ?_, q⟩
    rw [hk g (hlt g rfl).2 hgb (hX g rfl)]
    exact hh
theorem OwL.below (h : OwL r X w base e v l) (hb : Below w.heap.size w w') : OwL r X w' base e v l := h.keep hb.size fun b hlt _ _ => hb.block b hlt
theorem OwL.alloc (h : OwL r X w base e v l) (o : Obj) : OwL r X (w.alloc o) base e v l := h.below ((Below.refl _ _).alloc (Nat.le_refl _) o)
theorem OwL.only {c : Nat} (h : OwL r X w base e v l) (hf : Only c w.heap.size w w') (hc : ∀ b, base ≤ b → X b → b ≠ c) : OwL r X w' base e v l := h.keep hf.size fun b hlt hb hx => hf.block b hlt (hc b hb hx)
theorem OwL.weak (h : OwL r X w base e v l) (hx : ∀ b, b < w.heap.size → base ≤ b → X b → X' b) : OwL r X' w base e v l := by
  obtain ⟨xs, h1, hX, h2⟩ := h
  exact ⟨xs, h1, fun g hg => hx g (h1.lt g hg).2 (h1.lt g hg).1 (hX g hg), h2.weak fun b hlt hS => ⟨hS.1, hx b hlt hS.1.1 hS.2⟩⟩
theorem OwL.isL (h : OwL r X w base e v l) : IsL r (fun b => base ≤ b ∧ X b) w v l := by
  obtain ⟨xs, h1, hX, h2⟩ := h
  refine ⟨xs, ?_, h2.weak fun b _ hS => ⟨hS.1.1, hS.2⟩⟩
  obtain ⟨A, c, rfl, q1, q2, q3, q4⟩ := IsRS.of_own h1
  refine ⟨A, c, rfl, q1, q2, q3, fun h0 => ?_⟩
  obtain ⟨b, off, rfl, hb, hS, hc⟩ := q4 h0
  refine ⟨b, off, rfl, hb, ⟨hS, hX b ?_⟩, hc⟩
  rcases h1.2 with ⟨hv, _⟩ | ⟨g, cap, cur, hv, _⟩
  · cases hv
  · injection hv with hv
    injection hv with hv
    injection hv with hv
    subst hv
    rfl
theorem OwL.slice (h : OwL r X w base e v l) : ∃ A c, v = .slice A l.length c := h.isL.slice
theorem OwL.notNew (h : OwL r X w base e v l) {g : Nat} (hg : w.heap.size ≤ g) : some g ≠ v.ownBlock := by
  obtain ⟨xs, h1, _⟩ := h
  intro he
  have := (h1.lt _ he.symm).2
  omega
theorem OwL.more {base' : Nat} (h : OwL r X w base e v l) (hb : base' ≤ base) : OwL r X w base' e v l := by
  obtain ⟨xs, h1, hX, h2⟩ := h
  exact ⟨xs, ownsRow_more h1 hb, hX, h2.weak fun b _ hS => ⟨⟨Nat.le_trans hb hS.1.1, hS.1.2⟩, hS.2⟩⟩
theorem run_appL {P : Program} (w : World) (base : Nat) (t ty e : TypeId) (ht : P.underlying t = some (.slice e)) {i : TypeInfo} {z : Value} {bytes : Nat} (hi : P.info? e = some i) (hz : i.zero = some z) (hsize : i.size = r.k) (hby : i.bytes = bytes) (hzs : z.cells.size = r.k) (hb64 : bytes ≤ 64)
    (v : Value) (l : List α) (hown : OwL r X w base e v l) (x : Value) (cs : List Value) (a : α) (hx : IsR w x r.k 1 cs) (ha : r.R (fun b => But base v.ownBlock b ∧ X b) w cs a) (hn : l.length ≤ 1000000) (hbase : base ≤ w.heap.size) (hnew : X w.heap.size) :
    ∃ v' w', (Builtin.append_ #[t, t] ty #[v, x]).run P w = .ok v' w' ∧ OwL r X w' base e v' (l ++ [a]) ∧ Below base w w' ∧ w.grownBy w' v.ownBlock ∧ (v'.ownBlock = v.ownBlock ∨ v'.ownBlock = some w.heap.size) := by
  obtain ⟨xs, h1, hX, h2⟩ := hown
  have hbb : (l.length + 1) * bytes ≤ 140737488355328 := by
    have := Nat.mul_le_mul (show l.length + 1 ≤ 1000001 by omega) hb64
    omega
  obtain ⟨v', w', hr, g1, g2, g3, g4⟩ := run_app2 (P := P) w base t ty e i z r.k bytes ht hi hz hsize hby hzs r.kpos v l.length xs h1 x 1 cs hx (r.one ha) (by unfold maxLen; omega) hbb hbase
  refine ⟨v', w', hr, ⟨xs ++ cs, by rw [List.length_append]; exact g1, fun g hg => ?_, ?_⟩, g3, g2, g4⟩
  · rcases g4 with g4 | g4
    · exact hX g (g4.symm.trans hg)
    · rw [g4] at hg
      injection hg with hg
      subst hg
      exact hnew
  · exact (h2.snoc ha).grown g2 g4
theorem wpList_appL {P : Program} (w : World) {ops : Array Oper} {rest : List Oper} {o : Oper} {a : Act} {Q : Exit → Act → World → Prop} (hgd : o.guard = none) (s y : Operand) (t : TypeId)
    (ho : o.op = .call { callee := .builtin .append, args := #[s, y], argTypes := #[t, t] })
    (base : Nat) (e : TypeId) (ht : P.underlying t = some (.slice e)) {i : TypeInfo} {z : Value} {bytes : Nat} (hi : P.info? e = some i) (hz : i.zero = some z) (hsize : i.size = r.k) (hby : i.bytes = bytes) (hzs : z.cells.size = r.k) (hb64 : bytes ≤ 64)
    (v : Value) (l : List α) (hs : a.eval s = v) (hown : OwL r X w base e v l) (x : Value) (cs : List Value) (b : α) (hyx : a.eval y = x) (hx : IsR w x r.k 1 cs) (hb : r.R (fun b => But base v.ownBlock b ∧ X b) w cs b) (hn : l.length ≤ 1000000) (hbase : base ≤ w.heap.size) (hnew : X w.heap.size)
    (h : ∀ v' w', OwL r X w' base e v' (l ++ [b]) → Below base w w' → w.grownBy w' v.ownBlock → wpList P ops Q rest (a.put o.dst v') w') : wpList P ops Q (o :: rest) a w :=
  wpList_plain hgd fun _ hK => by
    obtain ⟨v', w', hr, h2, h3, h4, _⟩ := run_appL (P := P) w base t o.type e ht hi hz hsize hby hzs hb64 v l hown x cs b hx hb hn hbase hnew
    unfold Oper.wp execOp
    simp only [ho, resolve, invoke, builtin, Sem.run_bind, Sem.run_pure, Result.andThen_ok, List.map_toArray, List.map_cons, List.map_nil, hs, hyx, hr]
    exact hK _ _ (h v' w' h2 h3 h4)
end
theorem one_slice {S : Nat → Prop} {w : World} {v : Value} {k n : Nat} {xs : List Value} (h : IsRS S w v k n xs) : v.oneCell' = true := by
  obtain ⟨A, c, rfl, _⟩ := h
  rfl
def repL {α : Type} (r : Rep α) : Rep (List α) where
  k := 1
  R := fun S w cs l => ∃ v, cs = [v] ∧ IsL r S w v l
  kpos := by decide
  len := fun ⟨v, h, _⟩ => by subst h; rfl
  one := fun ⟨v, h, xs, h2, _⟩ u hu => by subst h; simp at hu; subst hu; exact one_slice h2
  weak := fun ⟨v, h, h2⟩ hs => ⟨v, h, h2.weak hs⟩
  keep := fun ⟨v, h, h2⟩ hsz hk => ⟨v, h, h2.keep hsz hk⟩
def repA : Rep (ByteArray × List UInt8) where
  k := 2
  R := fun S w cs a => ∃ v, cs = [.string a.1, v] ∧ IsRS S w v 1 a.2.length (bCells a.2)
  kpos := by decide
  len := fun ⟨v, h, _⟩ => by subst h; rfl
  one := fun ⟨v, h, h2⟩ u hu => by
    subst h; simp at hu
    rcases hu with rfl | rfl
    · rfl
    · exact one_slice h2
  weak := fun ⟨v, h, h2⟩ hs => ⟨v, h, h2.weak hs⟩
  keep := fun ⟨v, h, h2⟩ hsz hk => ⟨v, h, h2.keep hsz hk⟩
end Go.Cr
end

/- The order of lists of bytes; sorted lists of different parts. No program in sight. -/
section
set_option linter.unusedSimpArgs false
set_option linter.unusedVariables false
namespace Go.Cr
theorem cmpL_vals (a b : List UInt8) : cmpL a b = -1 ∨ cmpL a b = 0 ∨ cmpL a b = 1 := by
  induction a generalizing b with
  | nil => cases b <;> simp [cmpL]
  | cons x a ih => cases b with
    | nil => simp [cmpL]
    | cons y b => simp only [cmpL]; split
                  · simp
                  · split
                    · simp
                    · exact ih b
theorem cmpL_anti (a b : List UInt8) : cmpL b a = - cmpL a b := by
  induction a generalizing b with
  | nil => cases b <;> simp [cmpL]
  | cons x a ih => cases b with
    | nil => simp [cmpL]
    | cons y b =>
      simp only [cmpL]
      rcases Int.lt_trichotomy (bi x) (bi y) with h | h | h
      · rw [if_neg (by omega), if_pos h, if_pos h]; rfl
      · rw [if_neg (by omega), if_neg (by omega), if_neg (by omega), if_neg (by omega)]; exact ih b
      · rw [if_pos h, if_neg (by omega), if_pos h]
theorem cmpL_trans {a b c : List UInt8} (h1 : cmpL a b < 0) (h2 : cmpL b c < 0) : cmpL a c < 0 := by
  induction a generalizing b c with
  | nil => cases c with
    | nil => cases b <;> simp [cmpL] at h1 h2
    | cons z c => simp [cmpL]
  | cons x a ih => cases b with
    | nil => simp [cmpL] at h1
    | cons y b => cases c with
      | nil => simp [cmpL] at h2
      | cons z c =>
        simp only [cmpL] at h1 h2 ⊢
        rcases Int.lt_trichotomy (bi x) (bi y) with h | h | h
        · rcases Int.lt_trichotomy (bi y) (bi z) with g | g | g
          · rw [if_pos (by omega)]; omega
          · rw [if_pos (by omega)]; omega
          · rw [if_neg (by omega), if_pos g] at h2; omega
        · rw [if_neg (by omega), if_neg (by omega)] at h1
          rcases Int.lt_trichotomy (bi y) (bi z) with g | g | g
          · rw [if_pos (by omega)]; omega
          · rw [if_neg (by omega), if_neg (by omega)] at h2
            rw [if_neg (by omega), if_neg (by omega)]
            exact ih h1 h2
          · rw [if_neg (by omega), if_pos g] at h2; omega
        · rw [if_neg (by omega), if_pos h] at h1; omega
theorem cmpL_irrefl (a : List UInt8) : ¬ cmpL a a < 0 := by rw [cmpL_self]; omega

def Asc : List (List UInt8) → Prop
  | [] => True
  | [_] => True
  | a :: b :: t => cmpL a b < 0 ∧ Asc (b :: t)
theorem Asc.tail {x : List UInt8} {t : List (List UInt8)} (h : Asc (x :: t)) : Asc t := by
  cases t with
  | nil => trivial
  | cons y t => exact h.2
theorem Asc.lt {x : List UInt8} {t : List (List UInt8)} (h : Asc (x :: t)) : ∀ y ∈ t, cmpL x y < 0 := by
  induction t generalizing x with
  | nil => intro y hy; cases hy
  | cons z t ih =>
    intro y hy
    rcases List.mem_cons.1 hy with rfl | hy
    · exact h.1
    · exact cmpL_trans h.1 (ih h.2 y hy)
theorem Asc.snoc {r : List (List UInt8)} {x : List UInt8} (h : Asc r) (hx : ∀ y ∈ r, cmpL y x < 0) : Asc (r ++ [x]) := by
  induction r with
  | nil => trivial
  | cons a r ih =>
    cases r with
    | nil => exact ⟨hx a (by simp), trivial⟩
    | cons b r => exact ⟨h.1, ih h.2 (fun y hy => hx y (List.mem_cons_of_mem _ hy))⟩
def SortOf (ls r : List (List UInt8)) : Prop := Asc r ∧ ∀ x, x ∈ r ↔ x ∈ ls
theorem Asc.uniq : ∀ {r r' : List (List UInt8)}, Asc r → Asc r' → (∀ x, x ∈ r ↔ x ∈ r') → r = r' := by
  intro r
  induction r with
  | nil =>
    intro r' _ _ h
    cases r' with
    | nil => rfl
    | cons y u => have := (h y).2 (by simp); cases this
  | cons x t ih =>
    intro r' h1 h2 h
    cases r' with
    | nil => have := (h x).1 (by simp); cases this
    | cons y u =>
      have hxy : x = y := by
        rcases List.mem_cons.1 ((h x).1 (by simp)) with e | e
        · exact e
        · rcases List.mem_cons.1 ((h y).2 (by simp)) with e' | e'
          · exact e'.symm
          · exact absurd (cmpL_trans (h1.lt y e') (h2.lt x e)) (cmpL_irrefl x)
      subst hxy
      rw [ih h1.tail h2.tail (fun z => ?_)]
      constructor
      · intro hz
        rcases List.mem_cons.1 ((h z).1 (List.mem_cons_of_mem _ hz)) with e | e
        · subst e; exact absurd (h1.lt z hz) (cmpL_irrefl z)
        · exact e
      · intro hz
        rcases List.mem_cons.1 ((h z).2 (List.mem_cons_of_mem _ hz)) with e | e
        · subst e; exact absurd (h2.lt z hz) (cmpL_irrefl z)
        · exact e
theorem SortOf.uniq {ls r r' : List (List UInt8)} (h : SortOf ls r) (h' : SortOf ls r') : r = r' := h.1.uniq h'.1 fun x => (h.2 x).trans (h'.2 x).symm

def ascB : List (List UInt8) → Bool
  | [] => true
  | [_] => true
  | a :: b :: t => decide (cmpL a b < 0) && ascB (b :: t)
theorem ascB_iff (r : List (List UInt8)) : ascB r = true ↔ Asc r := by
  induction r with
  | nil => simp [ascB, Asc]
  | cons a r ih => cases r with
    | nil => simp [ascB, Asc]
    | cons b r => simp only [ascB, Asc, Bool.and_eq_true, decide_eq_true_eq]; rw [ih]
theorem ascB_at {ls : List (List UInt8)} : ascB ls = true ↔ ∀ k, k + 1 < ls.length → cmpL (ls.getD k []) (ls.getD (k + 1) []) < 0 := by
  induction ls with
  | nil => simp [ascB]
  | cons a r ih => cases r with
    | nil => simp [ascB]
    | cons b r =>
      simp only [ascB, Bool.and_eq_true, decide_eq_true_eq, ih]
      constructor
      · rintro ⟨h1, h2⟩ k hk
        cases k with
        | zero => exact h1
        | succ k => have := h2 k (by simpa using hk); simpa using this
      · intro h
        exact ⟨h 0 (by simp), fun k hk => by have := h (k + 1) (by simpa using hk); simpa using this⟩
theorem getD_mem {ls : List (List UInt8)} {k : Nat} (h : k < ls.length) : ls.getD k [] ∈ ls := by
  have : ls.getD k [] = ls[k] := by simp [List.getD, h]
  rw [this]; exact List.getElem_mem h

/-! ### Choosing the next: the reference's way. -/
def Behind (r : List (List UInt8)) (p : List UInt8) : Prop := r = [] ∨ 0 < cmpL p (r.getLastD [])
theorem Asc.last {r : List (List UInt8)} (h : Asc r) : ∀ y ∈ r, y = r.getLastD [] ∨ cmpL y (r.getLastD []) < 0 := by
  induction r with
  | nil => intro y hy; cases hy
  | cons a r ih => cases r with
    | nil => intro y hy; simp at hy; subst hy; left; rfl
    | cons b r =>
      intro y hy
      have hl : (a :: b :: r).getLastD [] = (b :: r).getLastD [] := by simp [List.getLastD]
      rw [hl]
      rcases List.mem_cons.1 hy with rfl | hy
      · rcases ih h.2 b (by simp) with e | e
        · right; rw [← e]; exact h.1
        · right; exact cmpL_trans h.1 e
      · exact ih h.2 y hy
theorem Behind.all {r : List (List UInt8)} {p : List UInt8} (h : Asc r) (hb : Behind r p) : ∀ y ∈ r, cmpL y p < 0 := by
  intro y hy
  rcases hb with rfl | hb
  · cases hy
  · have h1 : cmpL (r.getLastD []) p < 0 := by have := cmpL_anti p (r.getLastD []); omega
    rcases h.last y hy with e | e
    · rw [e]; exact h1
    · exact cmpL_trans e h1
def Beg (ls r : List (List UInt8)) : Prop := Asc r ∧ (∀ x ∈ r, x ∈ ls) ∧ ∀ p ∈ ls, p ∈ r ∨ Behind r p
theorem Beg.nil (ls : List (List UInt8)) : Beg ls [] := ⟨trivial, (fun x hx => by cases hx), fun p _ => .inr (.inl rfl)⟩
theorem Beg.done {ls r : List (List UInt8)} (h : Beg ls r) (hn : ∀ p ∈ ls, ¬ Behind r p) : SortOf ls r :=
  ⟨h.1, fun x => ⟨h.2.1 x, fun hx => (h.2.2 x hx).resolve_right (hn x hx)⟩⟩
theorem Beg.next {ls r : List (List UInt8)} {x : List UInt8} (h : Beg ls r) (hx : x ∈ ls) (hb : Behind r x) (hmin : ∀ p ∈ ls, Behind r p → ¬ cmpL p x < 0) : Beg ls (r ++ [x]) := by
  refine ⟨h.1.snoc (hb.all h.1), fun y hy => ?_, fun p hp => ?_⟩
  · rcases List.mem_append.1 hy with e | e
    · exact h.2.1 y e
    · simp at e; subst e; exact hx
  · rcases h.2.2 p hp with e | e
    · exact .inl (List.mem_append_left _ e)
    · have h1 := hmin p hp e
      rcases cmpL_vals p x with h2 | h2 | h2
      · omega
      · left; rw [cmpL_zero h2]; simp
      · right; right; simp; omega
theorem getLastD_at (r : List (List UInt8)) (h : 0 < r.length) : r.getLastD [] = r.getD (r.length - 1) [] := by
  cases r with
  | nil => simp at h
  | cons a r => simp [List.getLastD, List.getLast_eq_getElem, List.getD]
end Go.Cr
end
