/- The parts KitD, KitE, KitG, SpecE of one proof, one behind the other. -/
import Derived.Test.YtjjkimjdmpeddaaGreatDoorJ01

/- A slice of one struct that the call has just made. No program in sight. -/
section
set_option linter.unusedSimpArgs false
set_option linter.unusedVariables false
namespace Go.Cr
open Go.RowKit
theorem isR_new (w : World) (t : TypeId) (arr : Array Value) : IsR (w.alloc (.cells arr t)) (.slice (some ⟨w.heap.size, 0, none⟩) 1 1) arr.size 1 arr.toList := by
  refine ⟨_, 1, rfl, Nat.le_refl _, by decide, by simp, fun _ => ⟨w.heap.size, 0, rfl, by simp, fun j x hj => ?_⟩⟩
  rw [Nat.zero_add, World.cell?_alloc_new]
  simpa using hj
theorem isR_at {w : World} {t : TypeId} {arr : Array Value} {k n : Nat} (hk : arr.size = k) (hn : n = w.heap.size) : IsR (w.alloc (.cells arr t)) (.slice (some ⟨n, 0, none⟩) 1 1) k 1 arr.toList := by
  subst hk hn; exact isR_new w t arr
theorem isB_at {w : World} {t : TypeId} {z : UInt8} {y : Int} {n : Nat} (hy : bi z = y) (hn : n = w.heap.size) : IsB (w.alloc (.cells #[.int .u8 y] t)) (.slice (some ⟨n, 0, none⟩) 1 1) [z] := by
  subst hn; exact isB_new w t z y hy
end Go.Cr
end

/- Slices of slices of bytes; append of zeros onto nil. No program in sight. -/
section
set_option linter.unusedSimpArgs false
set_option linter.unusedVariables false
namespace Go.Cr
open Go.RowKit

/-- v is a slice of slices of bytes. -/
def IsBs (w : World) (v : Value) (ls : List (List UInt8)) : Prop :=
  ∃ vs : List Value, IsR w v 1 ls.length vs ∧ ∀ j, j < ls.length → IsB w (vs.getD j undef) (ls.getD j [])
theorem IsBs.below {w w' : World} {v : Value} {ls : List (List UInt8)} (h : IsBs w v ls) (hb : Below w.heap.size w w') : IsBs w' v ls := by
  obtain ⟨vs, h1, h2⟩ := h
  exact ⟨vs, h1.below hb, fun j hj => (h2 j hj).below hb⟩
theorem IsBs.alloc {w : World} {v : Value} {ls : List (List UInt8)} (h : IsBs w v ls) (o : Obj) : IsBs (w.alloc o) v ls := h.below ((Below.refl _ _).alloc (Nat.le_refl _) o)
section
variable {P : Program} {w : World} {v : Value} {ls : List (List UInt8)} {t e : TypeId}
theorem IsBs.len (h : IsBs w v ls) (ht : P.underlying t = some (.slice e)) : ∀ (ty : TypeId) (W : World), (Builtin.len_ #[t] ty #[v]).run P W = .ok (.int .i64 ls.length) W := by
  obtain ⟨vs, h1, _⟩ := h; exact h1.len ht
theorem IsBs.maxl (h : IsBs w v ls) : (ls.length : Int) ≤ 9223372036854775807 := by obtain ⟨vs, h1, _⟩ := h; exact h1.maxl
theorem IsBs.at_ (h : IsBs w v ls) (ht : P.underlying t = some (.slice e)) (hs : ∀ W, (sizeOf e).run P W = .ok 1 W) (kd : IntKind) {i : Int} (h0 : 0 ≤ i) (h1 : i < ls.length) :
    ∃ b o u, (∀ W : World, (Instr.indexAt t v (.int kd i)).run P W = .ok (.pointer (some ⟨b, o, none⟩)) W) ∧ b < w.heap.size ∧ w.cell? ⟨b, o, none⟩ = some u ∧ IsB w u (ls.getD i.toNat []) := by
  obtain ⟨vs, hv, hj⟩ := h
  obtain ⟨b, o, hi, hb, hc⟩ := hv.at_ ht hs kd h0 h1
  have hlt : i.toNat < vs.length := by obtain ⟨_, _, _, _, _, hl, _⟩ := hv; omega
  refine ⟨b, o, vs.getD i.toNat undef, hi, hb, ?_, hj i.toNat (by omega)⟩
  have := hc 0 (vs.getD i.toNat undef) (by simp [hlt])
  simpa using this
theorem IsBs.nil_ (w : World) : IsBs w (.slice none 0 0) [] := ⟨[], ⟨none, 0, rfl, Nat.le_refl _, by decide, rfl, fun h => absurd h (by simp)⟩, fun j hj => absurd hj (by simp)⟩

/-- append(nil, make([]byte, n)...): how the translation has slices.Grow. -/
theorem run_append_zeros (w : World) (ti : TypeId) {i : TypeInfo} {z : Value} (ht : P.underlying t = some (.slice e)) (hti : P.underlying ti = some (.int .i64)) (hi : P.info? e = some i) (hz : i.zero = some z) (hsize : i.size = 1) (hby : i.bytes = 1) (hzs : z.cells.size = 1)
    (n : Nat) (h0 : 0 < n) (hn : n ≤ 1000000) :
    ∃ cap cur, (∀ ty, (Builtin.append_ #[t, ti] ty #[.slice none 0 0, .int .i64 (n : Int)]).run P w = .ok (.slice (some ⟨w.heap.size, 0, none⟩) n cap) (w.drew.alloc (.cells cur e))) ∧ n ≤ cap ∧ cap ≤ maxLen ∧ cur.size = cap * 1 := by
  have hn0 : n ≠ 0 := by omega
  have h1 : IntKind.i64.wrap (n : Int) = n := IntWalk.i64_in _ (by omega)
  have h2 : ¬ ((n : Int) < 0) := by omega
  have h3 : ¬ (281474976710656 < (n : Int)) := by omega
  have h63' : ¬ (9223372036854775807 < (n : Int)) := by omega
  have h48' : ¬ (281474976710656 < Builtin.nextslicecap n 0) := by rw [nextslicecap_zero h0]; omega
  refine ⟨grownCap w n 0 e, Builtin.zeroCells z.cells n ++ Builtin.zeroCells z.cells (grownCap w n 0 e - n), ?_, grownCap_ge _ _ _ _, grownCap_le_maxLen _ _ _ _ (by unfold maxLen; omega), ?_⟩
  · intro ty; simp [Builtin.append_, run_underlying ht, run_underlying hti, sizeOf, typeInfo, zeroValue, hi, hz, hsize, hby, hn0, h1, h2, h3, h63', h48', asInt, asIntOf, Question.forced, run_firstCells_none, newRow, grownCap]
  · have := grownCap_ge w n 0 e
    simp [size_zeroCells, hzs]; omega
end
end Go.Cr
end

/- Two rows of the call's own side by side. No program in sight. -/
section
set_option linter.unusedSimpArgs false
set_option linter.unusedVariables false
namespace Go.Cr
open Go.RowKit

theorem own_far {w w' : World} {base : Nat} {e : TypeId} {k : Nat} {v : Value} {n : Nat} {xs : List Value} {row : Option Nat} (h : w.ownsRow base e k v n xs) (hg : w.grownBy w' row) (hne : ∀ g, v.ownBlock = some g → some g ≠ row) : w'.ownsRow base e k v n xs := by
  have hlt := h.lt
  obtain ⟨h1, h2⟩ := h
  refine ⟨h1, ?_⟩
  rcases h2 with h2 | ⟨g, cap, cur, hv, hgb, hh, r⟩
  · exact .inl h2
  · refine .inr ⟨g, cap, cur, hv, hgb, ?_, r⟩
    subst hv
    have ho : (Value.slice (some ⟨g, 0, none⟩) n cap).ownBlock = some g := rfl
    rw [hg.block g (hlt g ho).2 (hne g ho)]
    exact hh
theorem blk_in {w : World} {t : TypeId} {cs : Array Value} {g : Nat} (hg : g = w.heap.size) : Blk (w.alloc (.cells cs t)) g t cs := by subst hg; exact Blk.new w t cs
/-- No block of the one is the other's. -/
def Apart (v1 v2 : Value) : Prop := ∀ g, v1.ownBlock = some g → v2.ownBlock ≠ some g
theorem Apart.symm {v1 v2 : Value} (h : Apart v1 v2) : Apart v2 v1 := fun g h2 h1 => h g h1 h2
theorem Apart.nil_ (v : Value) : Apart (.slice none 0 0) v := fun g h => by cases h
section
variable {P : Program} (w : World)
theorem run_app2 (base : Nat) (t ty e : TypeId) (i : TypeInfo) (z : Value) (size bytes : Nat) (ht : P.underlying t = some (.slice e)) (hi : P.info? e = some i) (hz : i.zero = some z)
    (hsize : i.size = size) (hby : i.bytes = bytes) (hzs : z.cells.size = size) (hsz : 0 < size)
    (v : Value) (n : Nat) (xs : List Value) (hown : w.ownsRow base e size v n xs) (x : Value) (m : Nat) (news : List Value) (hx : IsR w x size m news) (h1 : ∀ u ∈ news, u.oneCell' = true)
    (h63 : n + m ≤ maxLen) (hbytes : (n + m) * bytes ≤ 140737488355328) (hbase : base ≤ w.heap.size) :
    ∃ v' w', (Builtin.append_ #[t, t] ty #[v, x]).run P w = .ok v' w' ∧ w'.ownsRow base e size v' (n + m) (xs ++ news) ∧ w.grownBy w' v.ownBlock ∧ Below base w w' ∧ (v'.ownBlock = v.ownBlock ∨ v'.ownBlock = some w.heap.size) := by
  have hbel : ∀ w', w.grownBy w' v.ownBlock → Below base w w' := fun w' hg => ⟨hg.os, hg.tape, hg.output, hg.size, fun k hk => hg.block k (by omega) (fun hb => by have := (hown.lt _ hb.symm).1; omega)⟩
  obtain ⟨A, c, rfl, hc1, hc2, hl, hc⟩ := hx
  cases A with
  | none =>
    have hm : m = 0 := by
      rcases Nat.eq_zero_or_pos m with h | h
      · exact h
      · obtain ⟨_, _, h', _⟩ := hc h; cases h'
    subst hm
    obtain rfl : news = [] := List.eq_nil_of_length_eq_zero (by simpa using hl)
    refine ⟨v, w, ?_, by simpa using hown, World.grownBy.refl w _, Below.refl _ _, .inl rfl⟩
    rcases hown.2 with ⟨rfl, rfl⟩ | ⟨g, cap, cur, rfl, _, _, hnc, _⟩
    · simp [Builtin.append_, run_underlying ht, sizeOf, typeInfo, hi, Builtin.lenOf, Builtin.firstCells]
    · simp [Builtin.append_, run_underlying ht, sizeOf, typeInfo, hi, Builtin.lenOf, Builtin.firstCells, hnc, storeCells]
  | some ad =>
    have hcells : ∀ j u, news[j]? = some u → w.cell? (ad.add j) = some u := by
      intro j u hj
      have hpos : 0 < m := by
        rcases Nat.eq_zero_or_pos m with h | h
        · subst h; have : news = [] := List.eq_nil_of_length_eq_zero (by simpa using hl); subst this; simp at hj
        · exact h
      obtain ⟨b, off, h', _, hcc⟩ := hc hpos
      injection h' with h'; subst h'
      have := hcc j u hj
      unfold Addr.add
      split
      · rename_i h0; subst h0; simpa using this
      · exact this
    obtain ⟨v', w', hr, h2, h3, _, h5⟩ := run_append_own_at (P := P) w base t ty e i z size bytes ht hi hz hsize hby hzs hsz v n xs hown ad m c news hl hcells h1 h63 hbytes hbase
    exact ⟨v', w', hr, h2, h3, hbel _ h3, h5⟩
theorem wpList_app2 {ops : Array Oper} {rest : List Oper} {o : Oper} {a : Act} {Q : Exit → Act → World → Prop} (hgd : o.guard = none) (s y : Operand) (t : TypeId)
    (ho : o.op = .call { callee := .builtin .append, args := #[s, y], argTypes := #[t, t] })
    (base : Nat) (e : TypeId) (i : TypeInfo) (z : Value) (size bytes : Nat) (ht : P.underlying t = some (.slice e)) (hi : P.info? e = some i) (hz : i.zero = some z)
    (hsize : i.size = size) (hby : i.bytes = bytes) (hzs : z.cells.size = size) (hsz : 0 < size)
    (v : Value) (n : Nat) (xs : List Value) (hs : a.eval s = v) (hown : w.ownsRow base e size v n xs) (x : Value) (m : Nat) (news : List Value) (hyx : a.eval y = x) (hx : IsR w x size m news) (h1 : ∀ u ∈ news, u.oneCell' = true)
    (h63 : n + m ≤ maxLen) (hbytes : (n + m) * bytes ≤ 140737488355328) (hbase : base ≤ w.heap.size)
    (h : ∀ v' w', w'.ownsRow base e size v' (n + m) (xs ++ news) → w.grownBy w' v.ownBlock → Below base w w' → (v'.ownBlock = v.ownBlock ∨ v'.ownBlock = some w.heap.size) → wpList P ops Q rest (a.put o.dst v') w') : wpList P ops Q (o :: rest) a w :=
  wpList_plain hgd fun _ hK => by
    obtain ⟨v', w', hr, h2, h3, h4, h5⟩ := run_app2 (P := P) w base t o.type e i z size bytes ht hi hz hsize hby hzs hsz v n xs hown x m news hx h1 h63 hbytes hbase
    unfold Oper.wp execOp
    simp only [ho, resolve, invoke, builtin, Sem.run_bind, Sem.run_pure, Result.andThen_ok, List.map_toArray, List.map_cons, List.map_nil, hs, hyx, hr]
    exact hK _ _ (h v' w' h2 h3 h4 h5)
end
/-- The other row, behind an append: it lies as it lay, and the two are apart. -/
theorem apart_app {w w' : World} {base : Nat} {e : TypeId} {k : Nat} {v1 v1' v2 : Value} {n : Nat} {xs : List Value} (h2 : w.ownsRow base e k v2 n xs) (ha : Apart v1 v2) (hg : w.grownBy w' v1.ownBlock) (hat : v1'.ownBlock = v1.ownBlock ∨ v1'.ownBlock = some w.heap.size) :
    w'.ownsRow base e k v2 n xs ∧ Apart v1' v2 := by
  refine ⟨own_far h2 hg fun g hg' he => ha g he.symm hg', fun g h hg' => ?_⟩
  rcases hat with hat | hat
  · exact ha g (hat.symm.trans h) hg'
  · have := (h2.lt g hg').2
    rw [hat] at h
    injection h with h
    omega
end Go.Cr
end

/- The plain functions of layer 9 (element). No program in sight. -/
section
set_option linter.unusedSimpArgs false
set_option linter.unusedVariables false
namespace Go.Cr
open Go.RowKit

/-- An element in a slice. -/
structure Elem where
  cls : Int
  num : Int
  con : Bool
  start : Int
  body : Int
  stop : Int
  deriving DecidableEq
@[go_sem] def Elem.zero : Elem := ⟨0, 0, false, 0, 0, 0⟩
def Elem.cells (x : Elem) : List Value := [.int .i64 x.cls, .int .i64 x.num, .bool x.con, .int .i64 x.start, .int .i64 x.body, .int .i64 x.stop]
@[go_sem] def elV (x : Elem) : Value := .agg #[.int .i64 x.cls, .int .i64 x.num, .bool x.con, .int .i64 x.start, .int .i64 x.body, .int .i64 x.stop]
def Hdr.at_ (h : Hdr) (a : Int) : Elem := ⟨h.cls, h.num, h.con, a, a + h.size, a + h.size + h.len⟩
/-- The octets from a up to e. -/
def seg (l : List UInt8) (a e : Int) : List UInt8 := (l.drop a.toNat).take (e - a).toNat
theorem seg_len (l : List UInt8) (a e : Int) (h0 : 0 ≤ a) (h1 : a ≤ e) (h2 : e ≤ l.length) : ((seg l a e).length : Int) = e - a := by
  simp [seg]; omega
/-- The element at a, within the octets up to e. -/
def nextE (l : List UInt8) (a e : Int) : Except Err Elem :=
  match rdHdr (seg l a e) with
  | .error (c, o) => .error (c, o + a)
  | .ok h => if e - a - h.size < h.len then .error (1, e) else .ok (h.at_ a)
def elR : Except Err Elem → Value
  | .ok x => .tuple #[elV x, errV (0, 0)]
  | .error e => .tuple #[elV Elem.zero, errV e]
theorem nextE_ok {l : List UInt8} {a e : Int} {x : Elem} (h0 : 0 ≤ a) (h1 : a ≤ e) (h2 : e ≤ l.length) (h : nextE l a e = .ok x) :
    x.start = a ∧ a < x.body ∧ x.body ≤ x.stop ∧ x.stop ≤ e := by
  unfold nextE at h
  split at h
  · cases h
  · rename_i hd hr
    have hb := rdHdr_ok hr
    split at h
    · cases h
    · injection h with h; subst h
      refine ⟨rfl, ?_, ?_, ?_⟩ <;> simp only [Hdr.at_] <;> omega
theorem nextE_err {l : List UInt8} {a e c o : Int} (h0 : 0 ≤ a) (h1 : a ≤ e) (h2 : e ≤ l.length) (h : nextE l a e = .error (c, o)) : 0 < c ∧ c ≤ 4 ∧ 0 ≤ o ∧ o ≤ e := by
  have hl := seg_len l a e h0 h1 h2
  unfold nextE at h
  split at h
  · rename_i c' o' hr
    have hb := rdHdr_err hr
    injection h with h; injection h with h3 h4; omega
  · split at h
    · injection h with h; injection h with h3 h4; omega
    · cases h
/-- The element that the bytes consist of. -/
def oneE (l : List UInt8) : Except Err Elem :=
  match nextE l 0 l.length with
  | .error e => .error e
  | .ok x => if x.stop < l.length then .error (2, x.stop) else .ok x
theorem oneE_ok {l : List UInt8} {x : Elem} (h : oneE l = .ok x) : x.start = 0 ∧ 0 < x.body ∧ x.body ≤ x.stop ∧ x.stop = l.length := by
  unfold oneE at h
  split at h
  · cases h
  · rename_i hr
    have := nextE_ok (by omega) (by omega) (by omega) hr
    split at h
    · cases h
    · injection h with h; subst h; omega
theorem oneE_err {l : List UInt8} {c o : Int} (h : oneE l = .error (c, o)) : 0 < c ∧ c ≤ 4 ∧ 0 ≤ o ∧ o ≤ l.length := by
  unfold oneE at h
  split at h
  · rename_i hr
    injection h with h; subst h
    exact nextE_err (by omega) (by omega) (by omega) hr
  · rename_i hr
    have := nextE_ok (by omega) (by omega) (by omega) hr
    split at h
    · injection h with h; injection h with h3 h4; omega
    · cases h


def isE (x : Elem) (c : Int) (k : Bool) (n : Int) : Bool := (x.cls == c) && (x.con == k) && (x.num == n)
def listAcc (l : List UInt8) : Nat → List Elem → Int → Int → Except Err (List Elem)
  | 0, acc, _, _ => .ok acc
  | k + 1, acc, a, e => if a < e then match nextE l a e with
      | .error er => .error er
      | .ok x => listAcc l k (acc ++ [x]) x.stop e
    else .ok acc
/-- The elements of the octets from a up to e. -/
def listE (l : List UInt8) (a e : Int) : Except Err (List Elem) :=
  if a < 0 ∨ e < a ∨ (l.length : Int) < e then .error (9, 0) else listAcc l (e - a).toNat [] a e
def partsE (l : List UInt8) (c n : Int) : Except Err (List Elem) :=
  match oneE l with
  | .error e => .error e
  | .ok x => if isE x c true n then listE l x.body x.stop else .error (3, 0)

theorem listAcc_done (l : List UInt8) (k : Nat) (acc : List Elem) (a e : Int) (h : e ≤ a) : listAcc l k acc a e = .ok acc := by
  cases k with
  | zero => rfl
  | succ k => simp only [listAcc]; rw [if_neg (by omega)]

theorem listAcc_err {l : List UInt8} : ∀ (k : Nat) {acc : List Elem} {a e c o : Int}, 0 ≤ a → a ≤ e → e ≤ l.length → listAcc l k acc a e = .error (c, o) → 0 < c ∧ c ≤ 4 ∧ 0 ≤ o ∧ o ≤ e := by
  intro k
  induction k with
  | zero => intro acc a e c o _ _ _ h; cases h
  | succ k ih =>
    intro acc a e c o h0 h1 h2 h
    simp only [listAcc] at h
    split at h
    · split at h
      · rename_i hr; injection h with h; subst h; exact nextE_err h0 h1 h2 hr
      · rename_i hr
        have := nextE_ok h0 h1 h2 hr
        exact ih (by omega) (by omega) h2 h
    · cases h
theorem listE_err {l : List UInt8} {a e c o : Int} (h : listE l a e = .error (c, o)) : 0 < c ∧ c ≤ 9 ∧ 0 ≤ o ∧ o ≤ l.length := by
  unfold listE at h
  split at h
  · injection h with h; injection h with h1 h2; omega
  · have := listAcc_err _ (by omega) (by omega) (by omega) h; omega

end Go.Cr
end
