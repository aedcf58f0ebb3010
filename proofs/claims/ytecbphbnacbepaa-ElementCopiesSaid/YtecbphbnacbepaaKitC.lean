/- Bytes that the call itself owns; big-endian digits; comparing. No program in sight. -/
import Derived.Test.YtecbphbnacbepaaSpec
import Derived.Test.YtecbphbnacbepaaKitB
import Derived.Maps.AppendAt
set_option linter.unusedSimpArgs false
set_option linter.unusedVariables false
namespace Go.Cr
open Go.RowKit

def bCells (l : List UInt8) : List Value := l.map fun x => .int .u8 (bi x)
theorem bCells_len (l : List UInt8) : (bCells l).length = l.length := by simp [bCells]
theorem bCells_app (a b : List UInt8) : bCells (a ++ b) = bCells a ++ bCells b := by simp [bCells]
theorem bCells_one (l : List UInt8) : ∀ u ∈ bCells l, u.oneCell' = true := by
  intro u hu; simp only [bCells, List.mem_map] at hu; obtain ⟨x, _, rfl⟩ := hu; rfl
theorem bCells_at (l : List UInt8) (j : Nat) (h : j < l.length) : (bCells l)[j]? = some (.int .u8 (bat l j)) := by
  simp [bCells, List.getElem?_eq_getElem h, bat]

theorem IsR.bytes {w : World} {v : Value} {l : List UInt8} (h : IsR w v 1 l.length (bCells l)) : IsB w v l := by
  obtain ⟨A, c, rfl, h1, h2, h3, h4⟩ := h
  refine ⟨A, c, rfl, h1, h2, fun hn => ?_⟩
  obtain ⟨b, off, rfl, hb, hc⟩ := h4 hn
  exact ⟨b, off, rfl, hb, fun j hj => hc j _ (bCells_at l j hj)⟩

/-- The call owns v, which has the bytes l. -/
def OwB (w : World) (base : Nat) (t : TypeId) (v : Value) (l : List UInt8) : Prop := w.ownsRow base t 1 v l.length (bCells l)
theorem OwB.isB {w : World} {base : Nat} {t : TypeId} {v : Value} {l : List UInt8} (h : OwB w base t v l) : IsB w v l := (IsR.of_own h).bytes
theorem OwB.below {w w' : World} {base : Nat} {t : TypeId} {v : Value} {l : List UInt8} (h : OwB w base t v l) (hb : Below w.heap.size w w') : OwB w' base t v l := ownsRow_below h hb
theorem OwB.alloc {w : World} {base : Nat} {t : TypeId} {v : Value} {l : List UInt8} (h : OwB w base t v l) (o : Obj) : OwB (w.alloc o) base t v l := World.ownsRow.alloc h o
theorem OwB.more {w : World} {base base' : Nat} {t : TypeId} {v : Value} {l : List UInt8} (h : OwB w base t v l) (hb : base' ≤ base) : OwB w base' t v l := ownsRow_more h hb
theorem OwB.nil_ (w : World) (base : Nat) (t : TypeId) : OwB w base t (.slice none 0 0) [] := World.ownsRow_nil w base t 1
theorem OwB.one (w : World) (t : TypeId) (x : UInt8) {base : Nat} (hb : base ≤ w.heap.size) : OwB (w.alloc (.cells #[.int .u8 (bi x)] t)) base t (.slice (some ⟨w.heap.size, 0, none⟩) 1 1) [x] := by
  have := World.ownsRow_lit (base := base) (e := t) (size := 1) w #[.int .u8 (bi x)] 1 hb (by decide) rfl
  simpa [OwB, bCells] using this
/-- What a call leaves that returns bytes of its own. -/
def RetO (t : TypeId) (l : List UInt8) (w : World) (e : Ending) (w' : World) : Prop := ∃ v, e = .returned v ∧ OwB w' w.heap.size t v l ∧ Below w.heap.size w w'

theorem IsB.isR {w : World} {v : Value} {l : List UInt8} (h : IsB w v l) : IsR w v 1 l.length (bCells l) := by
  obtain ⟨A, c, rfl, h1, h2, h3⟩ := h
  refine ⟨A, c, rfl, h1, h2, by simp [bCells_len], fun hn => ?_⟩
  obtain ⟨b, off, rfl, hb, hc⟩ := h3 hn
  refine ⟨b, off, rfl, hb, fun j x hj => ?_⟩
  have hlt : j < l.length := by have := (List.getElem?_eq_some_iff.1 hj).1; rwa [bCells_len] at this
  rw [bCells_at l j hlt] at hj
  rw [← hj]; exact hc j hlt
theorem isB_new (w : World) (t : TypeId) (z : UInt8) (y : Int) (hy : bi z = y) : IsB (w.alloc (.cells #[.int .u8 y] t)) (.slice (some ⟨w.heap.size, 0, none⟩) 1 1) [z] := by
  subst hy; exact (OwB.one w t z (Nat.zero_le _)).isB

/-! ### append onto a row of the call's own, whatever the source. -/
section
variable {P : Program} (w : World)
theorem run_app (base : Nat) (t ty e : TypeId) (i : TypeInfo) (z : Value) (size bytes : Nat) (ht : P.underlying t = some (.slice e)) (hi : P.info? e = some i) (hz : i.zero = some z)
    (hsize : i.size = size) (hby : i.bytes = bytes) (hzs : z.cells.size = size) (hsz : 0 < size)
    (v : Value) (n : Nat) (xs : List Value) (hown : w.ownsRow base e size v n xs) (x : Value) (m : Nat) (news : List Value) (hx : IsR w x size m news) (h1 : ∀ u ∈ news, u.oneCell' = true)
    (h63 : n + m ≤ maxLen) (hbytes : (n + m) * bytes ≤ 140737488355328) (hbase : base ≤ w.heap.size) :
    ∃ v' w', (Builtin.append_ #[t, t] ty #[v, x]).run P w = .ok v' w' ∧ w'.ownsRow base e size v' (n + m) (xs ++ news) ∧ w.grownBy w' v.ownBlock ∧ Below base w w' := by
  have hbel : ∀ w', w.grownBy w' v.ownBlock → Below base w w' := fun w' hg => ⟨hg.os, hg.tape, hg.output, hg.size, fun k hk => hg.block k (by omega) (fun hb => by have := (hown.lt _ hb.symm).1; omega)⟩
  obtain ⟨A, c, rfl, hc1, hc2, hl, hc⟩ := hx
  cases A with
  | none =>
    have hm : m = 0 := by
      rcases Nat.eq_zero_or_pos m with h | h
      · exact h
      · obtain ⟨_, _, h', _⟩ := hc h; cases h'
    subst hm
    obtain rfl : news = [] := List.eq_nil_of_length_eq_zero (by simpa using hl)
    refine ⟨v, w, ?_, by simpa using hown, World.grownBy.refl w _, Below.refl _ _⟩
    rcases hown.2 with ⟨rfl, rfl⟩ | ⟨g, cap, cur, rfl, _, _, hnc, _⟩
    · simp [Builtin.append_, run_underlying ht, sizeOf, typeInfo, hi, Builtin.lenOf, Builtin.firstCells]
    · simp [Builtin.append_, run_underlying ht, sizeOf, typeInfo, hi, Builtin.lenOf, Builtin.firstCells, hnc, storeCells]
  | some ad =>
    have hcells : ∀ j u, news[j]? = some u → w.cell? (ad.add j) = some u := by
      intro j u hj
      have hpos : 0 < m := by
        rcases Nat.eq_zero_or_pos m with h | h
        · subst h; have : news = [] := List.eq_nil_of_length_eq_zero (by simpa using hl); subst this; simp at hj
        · exact h
      obtain ⟨b, off, h', _, hcc⟩ := hc hpos
      injection h' with h'; subst h'
      have := hcc j u hj
      unfold Addr.add
      split
      · rename_i h0; subst h0; simpa using this
      · exact this
    obtain ⟨v', w', hr, h2, h3, _, _⟩ := run_append_own_at (P := P) w base t ty e i z size bytes ht hi hz hsize hby hzs hsz v n xs hown ad m c news hl hcells h1 h63 hbytes hbase
    exact ⟨v', w', hr, h2, h3, hbel _ h3⟩

theorem wpList_app {ops : Array Oper} {rest : List Oper} {o : Oper} {a : Act} {Q : Exit → Act → World → Prop} (hgd : o.guard = none) (s y : Operand) (t : TypeId)
    (ho : o.op = .call { callee := .builtin .append, args := #[s, y], argTypes := #[t, t] })
    (base : Nat) (e : TypeId) (i : TypeInfo) (z : Value) (size bytes : Nat) (ht : P.underlying t = some (.slice e)) (hi : P.info? e = some i) (hz : i.zero = some z)
    (hsize : i.size = size) (hby : i.bytes = bytes) (hzs : z.cells.size = size) (hsz : 0 < size)
    (v : Value) (n : Nat) (xs : List Value) (hs : a.eval s = v) (hown : w.ownsRow base e size v n xs) (x : Value) (m : Nat) (news : List Value) (hyx : a.eval y = x) (hx : IsR w x size m news) (h1 : ∀ u ∈ news, u.oneCell' = true)
    (h63 : n + m ≤ maxLen) (hbytes : (n + m) * bytes ≤ 140737488355328) (hbase : base ≤ w.heap.size)
    (h : ∀ v' w', w'.ownsRow base e size v' (n + m) (xs ++ news) → w.grownBy w' v.ownBlock → Below base w w' → wpList P ops Q rest (a.put o.dst v') w') : wpList P ops Q (o :: rest) a w :=
  wpList_plain hgd fun _ hK => by
    obtain ⟨v', w', hr, h2, h3, h4⟩ := run_app (P := P) w base t o.type e i z size bytes ht hi hz hsize hby hzs hsz v n xs hown x m news hx h1 h63 hbytes hbase
    unfold Oper.wp execOp
    simp only [ho, resolve, invoke, builtin, Sem.run_bind, Sem.run_pure, Result.andThen_ok, List.map_toArray, List.map_cons, List.map_nil, hs, hyx, hr]
    exact hK _ _ (h v' w' h2 h3 h4)

/-- append of bytes to bytes. -/
theorem wpList_appB {ops : Array Oper} {rest : List Oper} {o : Oper} {a : Act} {Q : Exit → Act → World → Prop} (hgd : o.guard = none) (s y : Operand) (t : TypeId)
    (ho : o.op = .call { callee := .builtin .append, args := #[s, y], argTypes := #[t, t] })
    (base : Nat) (e : TypeId) (ht : P.underlying t = some (.slice e)) (hinfo : (P.info? e).map (fun i => (i.zero, i.size, i.bytes)) = some (some (.int .u8 0), 1, 1))
    (v : Value) (l : List UInt8) (hs : a.eval s = v) (hown : OwB w base e v l) (x : Value) (l2 : List UInt8) (hyx : a.eval y = x) (hx : IsB w x l2)
    (hlen : l.length + l2.length ≤ 70368744177664) (hbase : base ≤ w.heap.size)
    (h : ∀ v' w', OwB w' base e v' (l ++ l2) → w.grownBy w' v.ownBlock → Below base w w' → wpList P ops Q rest (a.put o.dst v') w') : wpList P ops Q (o :: rest) a w := by
  obtain ⟨i0, hi, hz0, hz1, hz2⟩ := info_parts hinfo
  refine wpList_app w hgd s y t ho base e i0 _ 1 1 ht hi hz0 hz1 hz2 rfl (by decide) v l.length (bCells l) hs hown x l2.length (bCells l2) hyx hx.isR (bCells_one _) (by unfold maxLen; omega) (by omega) hbase ?_
  intro v' w' h2 h3 h4
  exact h v' w' (by rw [OwB, bCells_app, List.length_append]; exact h2) h3 h4
end

theorem bi_ofNat (n : Nat) : bi (UInt8.ofNat n) = ((n % 256 : Nat) : Int) := by simp [bi]

/-- Big-endian digits of a number, at most k + 1 of them. -/
def minF : Nat → Nat → List UInt8
  | 0, n => [UInt8.ofNat n]
  | k + 1, n => if n < 256 then [UInt8.ofNat n] else minF k (n / 256) ++ [UInt8.ofNat (n % 256)]
theorem minF_len (k n : Nat) : 0 < (minF k n).length ∧ (minF k n).length ≤ k + 1 := by
  induction k generalizing n with
  | zero => simp [minF]
  | succ k ih => simp only [minF]; split <;> simp; have := (ih (n / 256)).2; omega
theorem minF_be (k n : Nat) (h : n < 256 ^ (k + 1)) : be (minF k n) = n := by
  induction k generalizing n with
  | zero => simp [minF, be, bi_ofNat]; omega
  | succ k ih =>
    simp only [minF]
    split
    · rename_i hlt; simp [be, bi_ofNat]; omega
    · rw [be_snoc, ih (n / 256) (by rw [Nat.pow_succ] at h; omega), bi_ofNat]; omega
theorem minF_fuel (k j n : Nat) (h : n < 256 ^ (k + 1)) : minF (k + j) n = minF k n := by
  induction k generalizing n with
  | zero =>
    have hn : n < 256 := by simpa using h
    cases j with
    | zero => rfl
    | succ j => simp only [Nat.zero_add, minF]; rw [if_pos hn]
  | succ k ih =>
    rw [show k + 1 + j = (k + j) + 1 by omega]
    simp only [minF]
    split
    · rfl
    · rw [ih (n / 256) (by rw [Nat.pow_succ] at h; omega)]

/-- Lexicographic comparing. -/
def cmpL : List UInt8 → List UInt8 → Int
  | [], [] => 0
  | [], _ :: _ => -1
  | _ :: _, [] => 1
  | x :: a, y :: b => if bi x < bi y then -1 else if bi y < bi x then 1 else cmpL a b
theorem cmpL_drop (a b : List UInt8) : ∀ k, k ≤ a.length → k ≤ b.length → (∀ j, j < k → bat a j = bat b j) → cmpL (a.drop k) (b.drop k) = cmpL a b := by
  intro k
  induction k generalizing a b with
  | zero => intros; rfl
  | succ k ih =>
    intro ha hb hj
    match a, b with
    | [], _ => simp at ha
    | _ :: _, [] => simp at hb
    | x :: a, y :: b =>
      have h0 := hj 0 (by omega)
      simp only [bat_cons_zero] at h0
      simp only [List.drop_succ_cons, cmpL]
      rw [if_neg (by omega), if_neg (by omega)]
      exact ih a b (by simpa using ha) (by simpa using hb) (fun j h => by have := hj (j + 1) (by omega); simpa [bat_cons_succ] using this)
theorem cmpL_lt {a b : List UInt8} {k : Nat} (ha : k < a.length) (hb : k < b.length) (h : ∀ j, j < k → bat a j = bat b j) (hlt : bat a k < bat b k) : cmpL a b = -1 := by
  rw [← cmpL_drop a b k (by omega) (by omega) h, List.drop_eq_getElem_cons ha, List.drop_eq_getElem_cons hb]
  rw [bat_eq a k ha, bat_eq b k hb] at hlt
  simp only [cmpL]; rw [if_pos hlt]
theorem cmpL_gt {a b : List UInt8} {k : Nat} (ha : k < a.length) (hb : k < b.length) (h : ∀ j, j < k → bat a j = bat b j) (hlt : bat b k < bat a k) : cmpL a b = 1 := by
  rw [← cmpL_drop a b k (by omega) (by omega) h, List.drop_eq_getElem_cons ha, List.drop_eq_getElem_cons hb]
  rw [bat_eq a k ha, bat_eq b k hb] at hlt
  simp only [cmpL]; rw [if_neg (by omega), if_pos hlt]
theorem cmpL_end {a b : List UInt8} {k : Nat} (ha : k ≤ a.length) (hb : k ≤ b.length) (h : ∀ j, j < k → bat a j = bat b j) (hk : a.length ≤ k ∨ b.length ≤ k) :
    cmpL a b = if a.length < b.length then -1 else if b.length < a.length then 1 else 0 := by
  rw [← cmpL_drop a b k ha hb h]
  rcases hk with hk | hk
  · rw [List.drop_eq_nil_of_le hk]
    rcases Nat.lt_or_ge k b.length with h1 | h1
    · rw [List.drop_eq_getElem_cons h1, if_pos (by omega)]; rfl
    · rw [List.drop_eq_nil_of_le h1, if_neg (by omega), if_neg (by omega)]; rfl
  · rw [List.drop_eq_nil_of_le hk]
    rcases Nat.lt_or_ge k a.length with h1 | h1
    · rw [List.drop_eq_getElem_cons h1, if_neg (by omega), if_pos (by omega)]; rfl
    · rw [List.drop_eq_nil_of_le h1, if_neg (by omega), if_neg (by omega)]; rfl
end Go.Cr
