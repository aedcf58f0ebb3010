/- The parts KitD, KitE, KitG, SpecF of one proof, one behind the other. -/
import Derived.Test.YtejmkefdcjachaaGreatDoorJ01

/- A slice of one struct that the call has just made. No program in sight. -/
section
set_option linter.unusedSimpArgs false
set_option linter.unusedVariables false
namespace Go.Cr
open Go.RowKit
theorem isR_new (w : World) (t : TypeId) (arr : Array Value) : IsR (w.alloc (.cells arr t)) (.slice (some ⟨w.heap.size, 0, none⟩) 1 1) arr.size 1 arr.toList := by
  refine ⟨_, 1, rfl, Nat.le_refl _, by decide, by simp, fun _ => ⟨w.heap.size, 0, rfl, by simp, fun j x hj => ?_⟩⟩
  rw [Nat.zero_add, World.cell?_alloc_new]
  simpa using hj
theorem isR_at {w : World} {t : TypeId} {arr : Array Value} {k n : Nat} (hk : arr.size = k) (hn : n = w.heap.size) : IsR (w.alloc (.cells arr t)) (.slice (some ⟨n, 0, none⟩) 1 1) k 1 arr.toList := by
  subst hk hn; exact isR_new w t arr
theorem isB_at {w : World} {t : TypeId} {z : UInt8} {y : Int} {n : Nat} (hy : bi z = y) (hn : n = w.heap.size) : IsB (w.alloc (.cells #[.int .u8 y] t)) (.slice (some ⟨n, 0, none⟩) 1 1) [z] := by
  subst hn; exact isB_new w t z y hy
end Go.Cr
end

/- Slices of slices of bytes; append of zeros onto nil. No program in sight. -/
section
set_option linter.unusedSimpArgs false
set_option linter.unusedVariables false
namespace Go.Cr
open Go.RowKit

/-- v is a slice of slices of bytes. -/
def IsBs (w : World) (v : Value) (ls : List (List UInt8)) : Prop :=
  ∃ vs : List Value, IsR w v 1 ls.length vs ∧ ∀ j, j < ls.length → IsB w (vs.getD j undef) (ls.getD j [])
theorem IsBs.below {w w' : World} {v : Value} {ls : List (List UInt8)} (h : IsBs w v ls) (hb : Below w.heap.size w w') : IsBs w' v ls := by
  obtain ⟨vs, h1, h2⟩ := h
  exact ⟨vs, h1.below hb, fun j hj => (h2 j hj).below hb⟩
theorem IsBs.alloc {w : World} {v : Value} {ls : List (List UInt8)} (h : IsBs w v ls) (o : Obj) : IsBs (w.alloc o) v ls := h.below ((Below.refl _ _).alloc (Nat.le_refl _) o)
section
variable {P : Program} {w : World} {v : Value} {ls : List (List UInt8)} {t e : TypeId}
theorem IsBs.len (h : IsBs w v ls) (ht : P.underlying t = some (.slice e)) : ∀ (ty : TypeId) (W : World), (Builtin.len_ #[t] ty #[v]).run P W = .ok (.int .i64 ls.length) W := by
  obtain ⟨vs, h1, _⟩ := h; exact h1.len ht
theorem IsBs.maxl (h : IsBs w v ls) : (ls.length : Int) ≤ 9223372036854775807 := by obtain ⟨vs, h1, _⟩ := h; exact h1.maxl
theorem IsBs.at_ (h : IsBs w v ls) (ht : P.underlying t = some (.slice e)) (hs : ∀ W, (sizeOf e).run P W = .ok 1 W) (kd : IntKind) {i : Int} (h0 : 0 ≤ i) (h1 : i < ls.length) :
    ∃ b o u, (∀ W : World, (Instr.indexAt t v (.int kd i)).run P W = .ok (.pointer (some ⟨b, o, none⟩)) W) ∧ b < w.heap.size ∧ w.cell? ⟨b, o, none⟩ = some u ∧ IsB w u (ls.getD i.toNat []) := by
  obtain ⟨vs, hv, hj⟩ := h
  obtain ⟨b, o, hi, hb, hc⟩ := hv.at_ ht hs kd h0 h1
  have hlt : i.toNat < vs.length := by obtain ⟨_, _, _, _, _, hl, _⟩ := hv; omega
  refine ⟨b, o, vs.getD i.toNat undef, hi, hb, ?_, hj i.toNat (by omega)⟩
  have := hc 0 (vs.getD i.toNat undef) (by simp [hlt])
  simpa using this
theorem IsBs.nil_ (w : World) : IsBs w (.slice none 0 0) [] := ⟨[], ⟨none, 0, rfl, Nat.le_refl _, by decide, rfl, fun h => absurd h (by simp)⟩, fun j hj => absurd hj (by simp)⟩

/-- append(nil, make([]byte, n)...): how the translation has slices.Grow. -/
theorem run_append_zeros (w : World) (ti : TypeId) {i : TypeInfo} {z : Value} (ht : P.underlying t = some (.slice e)) (hti : P.underlying ti = some (.int .i64)) (hi : P.info? e = some i) (hz : i.zero = some z) (hsize : i.size = 1) (hby : i.bytes = 1) (hzs : z.cells.size = 1)
    (n : Nat) (h0 : 0 < n) (hn : n ≤ 1000000) :
    ∃ cap cur, (∀ ty, (Builtin.append_ #[t, ti] ty #[.slice none 0 0, .int .i64 (n : Int)]).run P w = .ok (.slice (some ⟨w.heap.size, 0, none⟩) n cap) (w.drew.alloc (.cells cur e))) ∧ n ≤ cap ∧ cap ≤ maxLen ∧ cur.size = cap * 1 := by
  have hn0 : n ≠ 0 := by omega
  have h1 : IntKind.i64.wrap (n : Int) = n := IntWalk.i64_in _ (by omega)
  have h2 : ¬ ((n : Int) < 0) := by omega
  have h3 : ¬ (281474976710656 < (n : Int)) := by omega
  have h63' : ¬ (9223372036854775807 < (n : Int)) := by omega
  have h48' : ¬ (281474976710656 < Builtin.nextslicecap n 0) := by rw [nextslicecap_zero h0]; omega
  refine ⟨grownCap w n 0 e, Builtin.zeroCells z.cells n ++ Builtin.zeroCells z.cells (grownCap w n 0 e - n), ?_, grownCap_ge _ _ _ _, grownCap_le_maxLen _ _ _ _ (by unfold maxLen; omega), ?_⟩
  · intro ty; simp [Builtin.append_, run_underlying ht, run_underlying hti, sizeOf, typeInfo, zeroValue, hi, hz, hsize, hby, hn0, h1, h2, h3, h63', h48', asInt, asIntOf, Question.forced, run_firstCells_none, newRow, grownCap]
  · have := grownCap_ge w n 0 e
    simp [size_zeroCells, hzs]; omega
end
end Go.Cr
end

/- Two rows of the call's own side by side. No program in sight. -/
section
set_option linter.unusedSimpArgs false
set_option linter.unusedVariables false
namespace Go.Cr
open Go.RowKit

theorem own_far {w w' : World} {base : Nat} {e : TypeId} {k : Nat} {v : Value} {n : Nat} {xs : List Value} {row : Option Nat} (h : w.ownsRow base e k v n xs) (hg : w.grownBy w' row) (hne : ∀ g, v.ownBlock = some g → some g ≠ row) : w'.ownsRow base e k v n xs := by
  have hlt := h.lt
  obtain ⟨h1, h2⟩ := h
  refine ⟨h1, ?_⟩
  rcases h2 with h2 | ⟨g, cap, cur, hv, hgb, hh, r⟩
  · exact .inl h2
  · refine .inr ⟨g, cap, cur, hv, hgb, ?_, r⟩
    subst hv
    have ho : (Value.slice (some ⟨g, 0, none⟩) n cap).ownBlock = some g := rfl
    rw [hg.block g (hlt g ho).2 (hne g ho)]
    exact hh
theorem blk_in {w : World} {t : TypeId} {cs : Array Value} {g : Nat} (hg : g = w.heap.size) : Blk (w.alloc (.cells cs t)) g t cs := by subst hg; exact Blk.new w t cs
/-- No block of the one is the other's. -/
def Apart (v1 v2 : Value) : Prop := ∀ g, v1.ownBlock = some g → v2.ownBlock ≠ some g
theorem Apart.symm {v1 v2 : Value} (h : Apart v1 v2) : Apart v2 v1 := fun g h2 h1 => h g h1 h2
theorem Apart.nil_ (v : Value) : Apart (.slice none 0 0) v := fun g h => by cases h
section
variable {P : Program} (w : World)
theorem run_app2 (base : Nat) (t ty e : TypeId) (i : TypeInfo) (z : Value) (size bytes : Nat) (ht : P.underlying t = some (.slice e)) (hi : P.info? e = some i) (hz : i.zero = some z)
    (hsize : i.size = size) (hby : i.bytes = bytes) (hzs : z.cells.size = size) (hsz : 0 < size)
    (v : Value) (n : Nat) (xs : List Value) (hown : w.ownsRow base e size v n xs) (x : Value) (m : Nat) (news : List Value) (hx : IsR w x size m news) (h1 : ∀ u ∈ news, u.oneCell' = true)
    (h63 : n + m ≤ maxLen) (hbytes : (n + m) * bytes ≤ 140737488355328) (hbase : base ≤ w.heap.size) :
    ∃ v' w', (Builtin.append_ #[t, t] ty #[v, x]).run P w = .ok v' w' ∧ w'.ownsRow base e size v' (n + m) (xs ++ news) ∧ w.grownBy w' v.ownBlock ∧ Below base w w' ∧ (v'.ownBlock = v.ownBlock ∨ v'.ownBlock = some w.heap.size) := by
  have hbel : ∀ w', w.grownBy w' v.ownBlock → Below base w w' := fun w' hg => ⟨hg.os, hg.tape, hg.output, hg.size, fun k hk => hg.block k (by omega) (fun hb => by have := (hown.lt _ hb.symm).1; omega)⟩
  obtain ⟨A, c, rfl, hc1, hc2, hl, hc⟩ := hx
  cases A with
  | none =>
    have hm : m = 0 := by
      rcases Nat.eq_zero_or_pos m with h | h
      · exact h
      · obtain ⟨_, _, h', _⟩ := hc h; cases h'
    subst hm
    obtain rfl : news = [] := List.eq_nil_of_length_eq_zero (by simpa using hl)
    refine ⟨v, w, ?_, by simpa using hown, World.grownBy.refl w _, Below.refl _ _, .inl rfl⟩
    rcases hown.2 with ⟨rfl, rfl⟩ | ⟨g, cap, cur, rfl, _, _, hnc, _⟩
    · simp [Builtin.append_, run_underlying ht, sizeOf, typeInfo, hi, Builtin.lenOf, Builtin.firstCells]
    · simp [Builtin.append_, run_underlying ht, sizeOf, typeInfo, hi, Builtin.lenOf, Builtin.firstCells, hnc, storeCells]
  | some ad =>
    have hcells : ∀ j u, news[j]? = some u → w.cell? (ad.add j) = some u := by
      intro j u hj
      have hpos : 0 < m := by
        rcases Nat.eq_zero_or_pos m with h | h
        · subst h; have : news = [] := List.eq_nil_of_length_eq_zero (by simpa using hl); subst this; simp at hj
        · exact h
      obtain ⟨b, off, h', _, hcc⟩ := hc hpos
      injection h' with h'; subst h'
      have := hcc j u hj
      unfold Addr.add
      split
      · rename_i h0; subst h0; simpa using this
      · exact this
    obtain ⟨v', w', hr, h2, h3, _, h5⟩ := run_append_own_at (P := P) w base t ty e i z size bytes ht hi hz hsize hby hzs hsz v n xs hown ad m c news hl hcells h1 h63 hbytes hbase
    exact ⟨v', w', hr, h2, h3, hbel _ h3, h5⟩
theorem wpList_app2 {ops : Array Oper} {rest : List Oper} {o : Oper} {a : Act} {Q : Exit → Act → World → Prop} (hgd : o.guard = none) (s y : Operand) (t : TypeId)
    (ho : o.op = .call { callee := .builtin .append, args := #[s, y], argTypes := #[t, t] })
    (base : Nat) (e : TypeId) (i : TypeInfo) (z : Value) (size bytes : Nat) (ht : P.underlying t = some (.slice e)) (hi : P.info? e = some i) (hz : i.zero = some z)
    (hsize : i.size = size) (hby : i.bytes = bytes) (hzs : z.cells.size = size) (hsz : 0 < size)
    (v : Value) (n : Nat) (xs : List Value) (hs : a.eval s = v) (hown : w.ownsRow base e size v n xs) (x : Value) (m : Nat) (news : List Value) (hyx : a.eval y = x) (hx : IsR w x size m news) (h1 : ∀ u ∈ news, u.oneCell' = true)
    (h63 : n + m ≤ maxLen) (hbytes : (n + m) * bytes ≤ 140737488355328) (hbase : base ≤ w.heap.size)
    (h : ∀ v' w', w'.ownsRow base e size v' (n + m) (xs ++ news) → w.grownBy w' v.ownBlock → Below base w w' → (v'.ownBlock = v.ownBlock ∨ v'.ownBlock = some w.heap.size) → wpList P ops Q rest (a.put o.dst v') w') : wpList P ops Q (o :: rest) a w :=
  wpList_plain hgd fun _ hK => by
    obtain ⟨v', w', hr, h2, h3, h4, h5⟩ := run_app2 (P := P) w base t o.type e i z size bytes ht hi hz hsize hby hzs hsz v n xs hown x m news hx h1 h63 hbytes hbase
    unfold Oper.wp execOp
    simp only [ho, resolve, invoke, builtin, Sem.run_bind, Sem.run_pure, Result.andThen_ok, List.map_toArray, List.map_cons, List.map_nil, hs, hyx, hr]
    exact hK _ _ (h v' w' h2 h3 h4 h5)
end
/-- The other row, behind an append: it lies as it lay, and the two are apart. -/
theorem apart_app {w w' : World} {base : Nat} {e : TypeId} {k : Nat} {v1 v1' v2 : Value} {n : Nat} {xs : List Value} (h2 : w.ownsRow base e k v2 n xs) (ha : Apart v1 v2) (hg : w.grownBy w' v1.ownBlock) (hat : v1'.ownBlock = v1.ownBlock ∨ v1'.ownBlock = some w.heap.size) :
    w'.ownsRow base e k v2 n xs ∧ Apart v1' v2 := by
  refine ⟨own_far h2 hg fun g hg' he => ha g he.symm hg', fun g h hg' => ?_⟩
  rcases hat with hat | hat
  · exact ha g (hat.symm.trans h) hg'
  · have := (h2.lt g hg').2
    rw [hat] at h
    injection h with h
    omega
end Go.Cr
end

/- Length octets: written, and read back. No program in sight. -/
section
set_option linter.unusedSimpArgs false
set_option linter.unusedVariables false
namespace Go.Cr

theorem cmpL_self (a : List UInt8) : cmpL a a = 0 := by
  induction a with
  | nil => rfl
  | cons x t ih => simp only [cmpL]; rw [if_neg (by omega), if_neg (by omega)]; exact ih
theorem cmpL_zero {a b : List UInt8} (h : cmpL a b = 0) : a = b := by
  induction a generalizing b with
  | nil => cases b with
    | nil => rfl
    | cons y b => simp [cmpL] at h
  | cons x a ih => cases b with
    | nil => simp [cmpL] at h
    | cons y b =>
      simp only [cmpL] at h
      split at h
      · omega
      · split at h
        · omega
        · rw [ih h, bi_inj (x := x) (y := y) (by omega)]

/-- Length octets. -/
def lenOct (n : Nat) : List UInt8 := if n < 128 then minF 7 n else UInt8.ofNat (128 + (minF 7 n).length) :: minF 7 n

theorem be_nonneg (l : List UInt8) : 0 ≤ be l := (be_bound l).1
theorem be_cons_ge (x : UInt8) (t : List UInt8) : bi x ≤ be (x :: t) := by
  have h : ∀ (t : List UInt8) (a : Int), 0 ≤ a → a ≤ t.foldl (fun a x => a * 256 + bi x) a := by
    intro t
    induction t with
    | nil => intro a _; simp
    | cons y t ih =>
      intro a h0
      have := bi_pos y
      have := ih (a * 256 + bi y) (by omega)
      simp only [List.foldl_cons]; omega
  have := h t (bi x) (bi_pos x)
  simpa [be] using this

theorem snoc_of_pos {l : List UInt8} (h : 0 < l.length) : ∃ d x, l = d ++ [x] :=
  ⟨l.dropLast, l.getLast (by intro e; subst e; simp at h), (List.dropLast_concat_getLast (by intro e; subst e; simp at h)).symm⟩

theorem minF_be_id (k : Nat) : ∀ (d : List UInt8), 0 < d.length → d.length ≤ k + 1 → (bat d 0 ≠ 0 ∨ d.length = 1) → minF k (be d).toNat = d := by
  induction k with
  | zero =>
    intro d h0 h1 _
    match d, h0, h1 with
    | [x], _, _ => simp [minF, be, bi]
  | succ k ih =>
    intro d h0 h1 hz
    obtain ⟨d', x, rfl⟩ := snoc_of_pos h0
    have hx1 := bi_lt x
    have hx0 := bi_pos x
    have hd0 := be_nonneg d'
    rw [be_snoc]
    simp only [minF]
    by_cases hd : d'.length = 0
    · obtain rfl := List.eq_nil_of_length_eq_zero hd
      have : be ([] : List UInt8) = 0 := rfl
      rw [this, if_pos (by omega)]
      simp [bi]
    · have hb : 1 ≤ be d' := by
        cases d' with
        | nil => simp at hd
        | cons y t =>
          have := be_cons_ge y t
          rcases hz with hz | hz
          · simp only [List.cons_append, bat_cons_zero] at hz; have := bi_pos y; omega
          · simp at hz
      rw [if_neg (by omega)]
      obtain ⟨M, hM⟩ : ∃ M : Nat, be d' = M := ⟨(be d').toNat, by omega⟩
      obtain ⟨X, hX⟩ : ∃ X : Nat, bi x = X := ⟨(bi x).toNat, by omega⟩
      have e1 : (be d' * 256 + bi x).toNat / 256 = (be d').toNat := by rw [hM, hX]; omega
      have e2 : UInt8.ofNat ((be d' * 256 + bi x).toNat % 256) = x := by
        apply bi_inj; rw [bi_ofNat, hM, hX]; omega
      rw [e1, e2, ih d' (by omega) (by simp at h1; omega) ?_]
      rcases hz with hz | hz
      · left
        cases d' with
        | nil => simp at hd
        | cons y t => simpa [bat_cons_zero] using hz
      · exact absurd (by simp at hz; simp [hz]) hd

theorem minF_head (k n : Nat) (h : n < 256 ^ (k + 1)) (hn : 0 < n) : bat (minF k n) 0 ≠ 0 := by
  induction k generalizing n with
  | zero => have : n < 256 := by simpa using h
            simp [minF, bat, bi]; omega
  | succ k ih =>
    simp only [minF]
    split
    · simp [bat, bi]; omega
    · have h1 := ih (n / 256) (by rw [Nat.pow_succ] at h; omega) (by omega)
      have h2 := (minF_len k (n / 256)).1
      generalize minF k (n / 256) = m at *
      cases m with
      | nil => simp at h2
      | cons y t => simpa [bat_cons_zero] using h1

/-- Whether length octets in the long form are those of their number. -/
theorem lenOct_long {l : List UInt8} {k : Nat} (h0 : bat l 0 = 128 + k) (hk1 : 1 ≤ k) (hk4 : k ≤ 4) (hl : k < l.length) :
    lenOct (be ((l.drop 1).take k)).toNat = l.take (1 + k) ↔ ¬ (bat l 1 = 0 ∨ be ((l.drop 1).take k) < 128) := by
  cases l with
  | nil => simp at hl
  | cons x t =>
    simp only [bat_cons_zero, List.drop_succ_cons, List.drop_zero, List.length_cons] at *
    have hs1 : bat (x :: t) 1 = bat t 0 := bat_cons_succ x t 0
    rw [hs1]
    have htl : (t.take k).length = k := by simp; omega
    have hb0 : bat (t.take k) 0 = bat t 0 := bat_take _ _ _ (by omega)
    have hbe := be_bound (t.take k)
    rw [htl] at hbe
    have hpw : (256 : Int) ^ k ≤ 256 ^ 4 := pow256_mono hk4
    obtain ⟨N, hN⟩ : ∃ N : Nat, be (t.take k) = N := ⟨(be (t.take k)).toNat, by have := hbe.1; omega⟩
    have hNlt : N < 256 ^ 4 := by have := hbe.2; rw [hN] at this; have h4 : (256 : Int) ^ 4 = ((256 ^ 4 : Nat) : Int) := by decide
                                  omega
    have hNlt8 : N < 256 ^ (7 + 1) := Nat.lt_of_lt_of_le hNlt (by decide)
    rw [hN]
    rw [show ((N : Int)).toNat = N by omega, show 1 + k = k + 1 by omega, List.take_succ_cons]
    unfold lenOct
    constructor
    · intro h hc
      split at h
      · rename_i hlt
        have h1 : (minF 7 N).length = 1 := by simp only [minF]; rw [if_pos (by omega)]; rfl
        have := congrArg List.length h
        simp only [List.length_cons, htl, h1] at this
        omega
      · rename_i hge
        rcases hc with hc | hc
        · injection h with _ h
          have := minF_head 7 N hNlt8 (by omega)
          rw [h, hb0] at this
          exact this hc
        · omega
    · intro h
      have h1 : bat t 0 ≠ 0 := fun e => h (.inl e)
      have h2 : ¬ N < 128 := fun e => h (.inr (by omega))
      rw [if_neg h2]
      have h3 := minF_be_id 7 (t.take k) (by omega) (by omega) (.inl (by rw [hb0]; exact h1))
      rw [hN, show ((N : Int)).toNat = N by omega] at h3
      rw [h3, htl]
      congr 1
      apply bi_inj
      rw [bi_ofNat]; omega

theorem lenOct_len (n : Nat) : 0 < (lenOct n).length ∧ (lenOct n).length ≤ 9 := by
  have := minF_len 7 n
  unfold lenOct
  split
  · omega
  · simp only [List.length_cons]; omega
/-- The identifier octet of a tag. -/
def idB (c : Int) (k : Bool) (n : Int) : UInt8 := UInt8.ofNat (c * 64 + n + if k then 32 else 0).toNat
theorem idB_bi (c : Int) (k : Bool) (n : Int) (h : 0 ≤ c) (h1 : c ≤ 3) (h2 : 0 ≤ n) (h3 : n < 31) : bi (idB c k n) = c * 64 + n + if k then 32 else 0 := by
  unfold idB; rw [bi_ofNat]; split <;> omega
/-- The element of a tag and its content. -/
def encO (c : Int) (k : Bool) (n : Int) (l : List UInt8) : List UInt8 := idB c k n :: (lenOct l.length ++ l)
end Go.Cr
end
