/- The parts SpecE, SpecG, SpecH, SpecI of one proof, one behind the other. -/
import Derived.Test.YtejmkefdcjachaaGreatDoorJ01
import Derived.Test.YtejmkefdcjachaaGreatDoorJ02

/- The plain functions of layer 9 (element). No program in sight. -/
section
set_option linter.unusedSimpArgs false
set_option linter.unusedVariables false
namespace Go.Cr
open Go.RowKit

/-- An element in a slice. -/
structure Elem where
  cls : Int
  num : Int
  con : Bool
  start : Int
  body : Int
  stop : Int
  deriving DecidableEq
@[go_sem] def Elem.zero : Elem := ⟨0, 0, false, 0, 0, 0⟩
def Elem.cells (x : Elem) : List Value := [.int .i64 x.cls, .int .i64 x.num, .bool x.con, .int .i64 x.start, .int .i64 x.body, .int .i64 x.stop]
@[go_sem] def elV (x : Elem) : Value := .agg #[.int .i64 x.cls, .int .i64 x.num, .bool x.con, .int .i64 x.start, .int .i64 x.body, .int .i64 x.stop]
def Hdr.at_ (h : Hdr) (a : Int) : Elem := ⟨h.cls, h.num, h.con, a, a + h.size, a + h.size + h.len⟩
/-- The octets from a up to e. -/
def seg (l : List UInt8) (a e : Int) : List UInt8 := (l.drop a.toNat).take (e - a).toNat
theorem seg_len (l : List UInt8) (a e : Int) (h0 : 0 ≤ a) (h1 : a ≤ e) (h2 : e ≤ l.length) : ((seg l a e).length : Int) = e - a := by
  simp [seg]; omega
/-- The element at a, within the octets up to e. -/
def nextE (l : List UInt8) (a e : Int) : Except Err Elem :=
  match rdHdr (seg l a e) with
  | .error (c, o) => .error (c, o + a)
  | .ok h => if e - a - h.size < h.len then .error (1, e) else .ok (h.at_ a)
def elR : Except Err Elem → Value
  | .ok x => .tuple #[elV x, errV (0, 0)]
  | .error e => .tuple #[elV Elem.zero, errV e]
theorem nextE_ok {l : List UInt8} {a e : Int} {x : Elem} (h0 : 0 ≤ a) (h1 : a ≤ e) (h2 : e ≤ l.length) (h : nextE l a e = .ok x) :
    x.start = a ∧ a < x.body ∧ x.body ≤ x.stop ∧ x.stop ≤ e := by
  unfold nextE at h
  split at h
  · cases h
  · rename_i hd hr
    have hb := rdHdr_ok hr
    split at h
    · cases h
    · injection h with h; subst h
      refine ⟨rfl, ?_, ?_, ?_⟩ <;> simp only [Hdr.at_] <;> omega
theorem nextE_err {l : List UInt8} {a e c o : Int} (h0 : 0 ≤ a) (h1 : a ≤ e) (h2 : e ≤ l.length) (h : nextE l a e = .error (c, o)) : 0 < c ∧ c ≤ 4 ∧ 0 ≤ o ∧ o ≤ e := by
  have hl := seg_len l a e h0 h1 h2
  unfold nextE at h
  split at h
  · rename_i c' o' hr
    have hb := rdHdr_err hr
    injection h with h; injection h with h3 h4; omega
  · split at h
    · injection h with h; injection h with h3 h4; omega
    · cases h
/-- The element that the bytes consist of. -/
def oneE (l : List UInt8) : Except Err Elem :=
  match nextE l 0 l.length with
  | .error e => .error e
  | .ok x => if x.stop < l.length then .error (2, x.stop) else .ok x
theorem oneE_ok {l : List UInt8} {x : Elem} (h : oneE l = .ok x) : x.start = 0 ∧ 0 < x.body ∧ x.body ≤ x.stop ∧ x.stop = l.length := by
  unfold oneE at h
  split at h
  · cases h
  · rename_i hr
    have := nextE_ok (by omega) (by omega) (by omega) hr
    split at h
    · cases h
    · injection h with h; subst h; omega
theorem oneE_err {l : List UInt8} {c o : Int} (h : oneE l = .error (c, o)) : 0 < c ∧ c ≤ 4 ∧ 0 ≤ o ∧ o ≤ l.length := by
  unfold oneE at h
  split at h
  · rename_i hr
    injection h with h; subst h
    exact nextE_err (by omega) (by omega) (by omega) hr
  · rename_i hr
    have := nextE_ok (by omega) (by omega) (by omega) hr
    split at h
    · injection h with h; injection h with h3 h4; omega
    · cases h


def isE (x : Elem) (c : Int) (k : Bool) (n : Int) : Bool := (x.cls == c) && (x.con == k) && (x.num == n)
def listAcc (l : List UInt8) : Nat → List Elem → Int → Int → Except Err (List Elem)
  | 0, acc, _, _ => .ok acc
  | k + 1, acc, a, e => if a < e then match nextE l a e with
      | .error er => .error er
      | .ok x => listAcc l k (acc ++ [x]) x.stop e
    else .ok acc
/-- The elements of the octets from a up to e. -/
def listE (l : List UInt8) (a e : Int) : Except Err (List Elem) :=
  if a < 0 ∨ e < a ∨ (l.length : Int) < e then .error (9, 0) else listAcc l (e - a).toNat [] a e
def partsE (l : List UInt8) (c n : Int) : Except Err (List Elem) :=
  match oneE l with
  | .error e => .error e
  | .ok x => if isE x c true n then listE l x.body x.stop else .error (3, 0)

theorem listAcc_done (l : List UInt8) (k : Nat) (acc : List Elem) (a e : Int) (h : e ≤ a) : listAcc l k acc a e = .ok acc := by
  cases k with
  | zero => rfl
  | succ k => simp only [listAcc]; rw [if_neg (by omega)]

theorem listAcc_err {l : List UInt8} : ∀ (k : Nat) {acc : List Elem} {a e c o : Int}, 0 ≤ a → a ≤ e → e ≤ l.length → listAcc l k acc a e = .error (c, o) → 0 < c ∧ c ≤ 4 ∧ 0 ≤ o ∧ o ≤ e := by
  intro k
  induction k with
  | zero => intro acc a e c o _ _ _ h; cases h
  | succ k ih =>
    intro acc a e c o h0 h1 h2 h
    simp only [listAcc] at h
    split at h
    · split at h
      · rename_i hr; injection h with h; subst h; exact nextE_err h0 h1 h2 hr
      · rename_i hr
        have := nextE_ok h0 h1 h2 hr
        exact ih (by omega) (by omega) h2 h
    · cases h
theorem listE_err {l : List UInt8} {a e c o : Int} (h : listE l a e = .error (c, o)) : 0 < c ∧ c ≤ 9 ∧ 0 ≤ o ∧ o ≤ l.length := by
  unfold listE at h
  split at h
  · injection h with h; injection h with h1 h2; omega
  · have := listAcc_err _ (by omega) (by omega) (by omega) h; omega

end Go.Cr
end

/- The reference's way to an element. No program in sight. -/
section
set_option linter.unusedSimpArgs false
set_option linter.unusedVariables false
namespace Go.Cr
open Go.RowKit

/-- The header at the beginning, if its contents are there. -/
def nextH (l : List UInt8) : Except Err Hdr :=
  match rdHdr l with
  | .error e => .error e
  | .ok h => if (l.length : Int) - h.size < h.len then .error (1, l.length) else .ok h
theorem nextH_err {l : List UInt8} {c o : Int} (h : nextH l = .error (c, o)) : 0 < c ∧ c ≤ 4 ∧ 0 ≤ o ∧ o ≤ l.length := by
  unfold nextH at h
  split at h
  · rename_i hr; injection h with h; subst h; exact rdHdr_err hr
  · split at h
    · injection h with h; injection h with h1 h2; omega
    · cases h
theorem nextH_ok {l : List UInt8} {h : Hdr} (e : nextH l = .ok h) : 0 ≤ h.len ∧ 2 ≤ h.size ∧ h.size ≤ 6 ∧ h.size + h.len ≤ l.length := by
  unfold nextH at e
  split at e
  · cases e
  · rename_i hr
    have := rdHdr_ok hr
    split at e
    · cases e
    · injection e with e; subst e; omega
theorem nextE_H (l : List UInt8) (a e : Int) (h0 : 0 ≤ a) (h1 : a ≤ e) (h2 : e ≤ l.length) :
    nextE l a e = match nextH (seg l a e) with
      | .error (c, o) => .error (c, o + a)
      | .ok h => .ok (h.at_ a) := by
  have hl := seg_len l a e h0 h1 h2
  unfold nextE nextH
  cases rdHdr (seg l a e) with
  | error er => rfl
  | ok h =>
    simp only
    rw [hl]
    by_cases hc : e - a - h.size < h.len
    · rw [if_pos hc, if_pos hc]; simp only; congr 2; omega
    · rw [if_neg hc, if_neg hc]
theorem seg_all (l : List UInt8) : seg l 0 l.length = l := by simp [seg]
theorem oneE_H (l : List UInt8) :
    oneE l = match nextH l with
      | .error e => .error e
      | .ok h => if h.size + h.len < l.length then .error (2, h.size + h.len) else .ok ⟨h.cls, h.num, h.con, 0, h.size, l.length⟩ := by
  unfold oneE
  rw [nextE_H l 0 l.length (by omega) (by omega) (by omega), seg_all]
  cases hn : nextH l with
  | error er => obtain ⟨c, o⟩ := er; simp
  | ok h =>
    have := nextH_ok hn
    have hst : (h.at_ 0).stop = h.size + h.len := by simp only [Hdr.at_]; omega
    simp only [hst]
    by_cases hc : h.size + h.len < l.length
    · rw [if_pos hc, if_pos hc]
    · rw [if_neg hc, if_neg hc]; simp only [Hdr.at_]; congr 2 <;> omega
end Go.Cr
end

/- Elements of a part cover it, and each is found by itself. No program in sight. -/
section
set_option linter.unusedSimpArgs false
set_option linter.unusedVariables false
namespace Go.Cr
open Go.RowKit

theorem rdLen_take {l : List UInt8} {n k : Int} (m : Nat) (h : rdLen l = .ok (n, k)) (hm : k ≤ m) : rdLen (l.take m) = .ok (n, k) := by
  have hb := rdLen_ok h
  have h0 := bat_lt l 0
  have h1 := bat_pos l 0
  unfold rdLen at h ⊢
  have e0 : bat (l.take m) 0 = bat l 0 := bat_take _ _ _ (by omega)
  have hL : (l.take m).length = min m l.length := List.length_take
  rw [e0]
  split at h
  · cases h
  rw [if_neg (by omega)]
  split at h
  · rename_i c2; rw [if_pos c2]; exact h
  rename_i c2
  rw [if_neg c2]
  split at h
  · cases h
  rename_i c3
  rw [if_neg c3]
  split at h
  · cases h
  rename_i c4
  split at h
  · cases h
  rename_i c5
  injection h with h
  injection h with h2 h3
  rw [if_neg (by omega)]
  have e1 : bat (l.take m) 1 = bat l 1 := bat_take _ _ _ (by omega)
  have e2 : ((l.take m).drop 1).take (bat l 0 - 128).toNat = (l.drop 1).take (bat l 0 - 128).toNat := by
    rw [List.drop_take, List.take_take, Nat.min_eq_left (by omega)]
  rw [e1, e2, if_neg c5, h2, h3]
theorem rdHdr_take {l : List UInt8} {h : Hdr} (m : Nat) (e : rdHdr l = .ok h) (hm : h.size ≤ m) : rdHdr (l.take m) = .ok h := by
  have hb := rdHdr_ok e
  have e0 : bat (l.take m) 0 = bat l 0 := bat_take _ _ _ (by omega)
  have hL : (l.take m).length = min m l.length := List.length_take
  unfold rdHdr at e ⊢
  rw [e0]
  split at e
  · cases e
  rw [if_neg (by omega)]
  split at e
  · cases e
  rename_i c2
  rw [if_neg c2]
  split at e
  · cases e
  · rename_i n k hr
    injection e with e
    subst e
    have := rdLen_take (m - 1) hr (by simp only at hm; omega)
    rw [List.drop_take, this]
/-- An element that was found is found by itself. -/
theorem nextE_one {l : List UInt8} {a e : Int} {x : Elem} (h0 : 0 ≤ a) (h1 : a ≤ e) (h2 : e ≤ l.length) (h : nextE l a e = .ok x) :
    oneE (seg l x.start x.stop) = .ok ⟨x.cls, x.num, x.con, 0, x.body - x.start, x.stop - x.start⟩ := by
  have hbd := nextE_ok h0 h1 h2 h
  unfold nextE at h
  split at h
  · cases h
  rename_i hd hr
  split at h
  · cases h
  injection h with h
  subst h
  have hb := rdHdr_ok hr
  simp only [Hdr.at_] at hbd ⊢
  have hs : seg l a (a + hd.size + hd.len) = (seg l a e).take (a + hd.size + hd.len - a).toNat := by
    unfold seg
    rw [List.take_take, Nat.min_eq_left (by omega)]
  have hlen := seg_len l a (a + hd.size + hd.len) h0 (by omega) (by omega)
  have hr' := rdHdr_take (a + hd.size + hd.len - a).toNat hr (by omega)
  rw [← hs] at hr'
  generalize seg l a (a + hd.size + hd.len) = s at *
  rw [oneE_H]
  unfold nextH
  rw [hr']
  simp only
  rw [if_neg (by omega)]
  simp only
  rw [if_neg (by omega)]
  congr 2 <;> omega
/-- The elements cover the octets from a up to e. -/
def Cov (l : List UInt8) : Int → Int → List Elem → Prop
  | a, e, [] => a = e
  | a, e, x :: xs => nextE l a e = .ok x ∧ a < e ∧ Cov l x.stop e xs
theorem listAcc_cov {l : List UInt8} : ∀ (k : Nat) {acc : List Elem} {a e : Int} {xs : List Elem}, 0 ≤ a → a ≤ e → e ≤ l.length → e - a ≤ k → listAcc l k acc a e = .ok xs → ∃ ys, xs = acc ++ ys ∧ Cov l a e ys := by
  intro k
  induction k with
  | zero =>
    intro acc a e xs _ _ _ hk h
    simp only [listAcc] at h
    injection h with h
    exact ⟨[], by simp [h], by show a = e; omega⟩
  | succ k ih =>
    intro acc a e xs h0 h1 h2 hk h
    simp only [listAcc] at h
    split at h
    · rename_i hlt
      split at h
      · cases h
      · rename_i x hr
        have hb := nextE_ok h0 h1 h2 hr
        obtain ⟨ys, hys, hc⟩ := ih (by omega) (by omega) h2 (by omega) h
        exact ⟨x :: ys, by simp [hys], hr, hlt, hc⟩
    · injection h with h
      exact ⟨[], by simp [h], by show a = e; omega⟩
theorem listE_cov {l : List UInt8} {a e : Int} {xs : List Elem} (h : listE l a e = .ok xs) : 0 ≤ a ∧ a ≤ e ∧ e ≤ l.length ∧ Cov l a e xs := by
  unfold listE at h
  split at h
  · cases h
  · obtain ⟨ys, hys, hc⟩ := listAcc_cov _ (by omega) (by omega) (by omega) (by omega) h
    simp at hys
    subst hys
    exact ⟨by omega, by omega, by omega, hc⟩
theorem cov_cons {l : List UInt8} {a e : Int} {xs : List Elem} {k : Nat} (hk : k < xs.length) (h : Cov l a e (xs.drop k)) : nextE l a e = .ok xs[k] ∧ a < e ∧ Cov l xs[k].stop e (xs.drop (k + 1)) := by
  rw [List.drop_eq_getElem_cons hk] at h
  exact h
theorem cov_len {l : List UInt8} {a e : Int} {xs : List Elem} (h0 : 0 ≤ a) (h1 : a ≤ e) (h2 : e ≤ l.length) (h : Cov l a e xs) : (xs.length : Int) ≤ e - a := by
  induction xs generalizing a with
  | nil => simp; omega
  | cons x xs ih =>
    obtain ⟨hn, hlt, hc⟩ := h
    have hb := nextE_ok h0 h1 h2 hn
    have := ih (by omega) (by omega) hc
    simp; omega
end Go.Cr
end

/- What is written is read back; elements one behind another are found. No program in sight. -/
section
set_option linter.unusedSimpArgs false
set_option linter.unusedVariables false
namespace Go.Cr
open Go.RowKit

theorem bat_app (l r : List UInt8) (j : Nat) (hj : j < l.length) : bat (l ++ r) j = bat l j := by simp [bat, List.getElem?_append_left hj]

theorem rdLen_app {l : List UInt8} {n k : Int} (r : List UInt8) (h : rdLen l = .ok (n, k)) : rdLen (l ++ r) = .ok (n, k) := by
  have hb := rdLen_ok h
  have h0 := bat_lt l 0
  have h1 := bat_pos l 0
  have hba : ∀ j, j < l.length → bat (l ++ r) j = bat l j := fun j hj => bat_app l r j hj
  unfold rdLen at h ⊢
  have hL : (l ++ r).length = l.length + r.length := List.length_append
  rw [hba 0 (by omega)]
  split at h
  · cases h
  rw [if_neg (by omega)]
  split at h
  · rename_i c2; rw [if_pos c2]; exact h
  rename_i c2
  rw [if_neg c2]
  split at h
  · cases h
  rename_i c3
  rw [if_neg c3]
  split at h
  · cases h
  rename_i c4
  split at h
  · cases h
  rename_i c5
  injection h with h
  injection h with h2 h3
  rw [if_neg (by omega)]
  have e2 : ((l ++ r).drop 1).take (bat l 0 - 128).toNat = (l.drop 1).take (bat l 0 - 128).toNat := by
    rw [List.drop_append_of_le_length (by omega), List.take_append_of_le_length (by rw [List.length_drop]; omega)]
  rw [hba 1 (by omega), e2, if_neg c5, h2, h3]
theorem rdHdr_app {l : List UInt8} {h : Hdr} (r : List UInt8) (e : rdHdr l = .ok h) : rdHdr (l ++ r) = .ok h := by
  have hb := rdHdr_ok e
  have hba : bat (l ++ r) 0 = bat l 0 := bat_app l r 0 (by omega)
  have hL : (l ++ r).length = l.length + r.length := List.length_append
  unfold rdHdr at e ⊢
  rw [hba]
  split at e
  · cases e
  rw [if_neg (by omega)]
  split at e
  · cases e
  rename_i c2
  rw [if_neg c2]
  split at e
  · cases e
  · rename_i n k hr
    injection e with e
    subst e
    rw [List.drop_append_of_le_length (by omega), rdLen_app r hr]
theorem rdLen_enc (n : Nat) (r : List UInt8) (hn : n ≤ 2147483647) : rdLen (lenOct n ++ r) = .ok (n, (lenOct n).length) := by
  unfold lenOct
  by_cases h : n < 128
  · rw [if_pos h]
    have h1 : minF 7 n = [UInt8.ofNat n] := by simp only [minF]; rw [if_pos (by omega)]
    rw [h1]
    have hb : bat ([UInt8.ofNat n] ++ r) 0 = n := by rw [List.cons_append, bat_cons_zero, bi_ofNat]; omega
    unfold rdLen
    rw [hb, if_neg (by simp), if_pos (by omega)]
    rfl
  · rw [if_neg h]
    have h1 : minF 7 n = minF 3 n := minF_fuel 3 4 n (by have : (256 : Nat) ^ (3 + 1) = 4294967296 := by decide
                                                         omega)
    have h2 := minF_len 3 n
    have h3 := minF_be 3 n (by have : (256 : Nat) ^ (3 + 1) = 4294967296 := by decide
                               omega)
    have h4 := minF_head 3 n (by have : (256 : Nat) ^ (3 + 1) = 4294967296 := by decide
                                 omega) (by omega)
    rw [h1]
    generalize minF 3 n = m at *
    have hb : bat (UInt8.ofNat (128 + m.length) :: m ++ r) 0 = 128 + m.length := by rw [List.cons_append, bat_cons_zero, bi_ofNat]; omega
    have hb1 : bat (UInt8.ofNat (128 + m.length) :: m ++ r) 1 = bat m 0 := by
      rw [List.cons_append, bat_cons_succ]; exact bat_app m r 0 (by omega)
    have hbe : (((UInt8.ofNat (128 + m.length) :: m ++ r)).drop 1).take (128 + (m.length : Int) - 128).toNat = m := by
      rw [List.cons_append, List.drop_succ_cons, List.drop_zero, show (128 + (m.length : Int) - 128).toNat = m.length by omega, List.take_left]
    have hL : (UInt8.ofNat (128 + m.length) :: m ++ r).length = 1 + m.length + r.length := by simp; omega
    unfold rdLen
    rw [hb, hb1, hbe, h3, if_neg (by omega), if_neg (by omega), if_neg (by omega), if_neg (by omega), if_neg (by omega)]
    simp only [List.length_cons]
    congr 2; omega
theorem rdHdr_enc (c n : Int) (k : Bool) (l r : List UInt8) (h : 0 ≤ c) (h1 : c ≤ 3) (h2 : 0 ≤ n) (h3 : n < 31) (hl : l.length ≤ 2147483647) :
    rdHdr (encO c k n l ++ r) = .ok ⟨c, n, k, l.length, 1 + (lenOct l.length).length⟩ := by
  have hb : bat (encO c k n l ++ r) 0 = c * 64 + n + if k then 32 else 0 := by
    unfold encO; rw [List.cons_append, bat_cons_zero, idB_bi c k n h h1 h2 h3]
  have hd : (encO c k n l ++ r).drop 1 = lenOct l.length ++ (l ++ r) := by
    unfold encO; rw [List.cons_append, List.drop_succ_cons, List.drop_zero, List.append_assoc]
  unfold rdHdr
  rw [hb, hd, rdLen_enc _ _ hl, if_neg (by unfold encO; simp)]
  cases k with
  | true =>
    simp only [if_true]
    rw [if_neg (by omega)]
    congr 2
    · omega
    · omega
    · exact decide_eq_true (by omega)
  | false =>
    simp only [Bool.false_eq_true, if_false]
    rw [if_neg (by omega)]
    congr 2
    · omega
    · omega
    · exact decide_eq_false (by omega)
theorem encO_len (c n : Int) (k : Bool) (l : List UInt8) : (encO c k n l).length = 1 + (lenOct l.length).length + l.length := by unfold encO; simp; omega
theorem oneE_enc (c n : Int) (k : Bool) (l : List UInt8) (h : 0 ≤ c) (h1 : c ≤ 3) (h2 : 0 ≤ n) (h3 : n < 31) (hl : l.length ≤ 2147483647) :
    oneE (encO c k n l) = .ok ⟨c, n, k, 0, 1 + (lenOct l.length).length, (encO c k n l).length⟩ := by
  have hh := rdHdr_enc c n k l [] h h1 h2 h3 hl
  rw [List.append_nil] at hh
  have hL := encO_len c n k l
  rw [oneE_H]
  unfold nextH
  rw [hh]
  simp only
  rw [if_neg (by omega)]
  simp only
  rw [if_neg (by omega)]
theorem oneE_hdr {p : List UInt8} {x : Elem} (h : oneE p = .ok x) : ∃ hd, rdHdr p = .ok hd ∧ hd.size + hd.len = p.length := by
  rw [oneE_H] at h
  split at h
  · cases h
  · rename_i hd hn
    have hb := nextH_ok hn
    unfold nextH at hn
    split at hn
    · cases hn
    · rename_i hd' hr
      split at hn
      · cases hn
      · injection hn with hn
        subst hn
        split at h
        · cases h
        · exact ⟨hd', hr, by omega⟩
theorem listAcc_parts {L : List UInt8} {e : Int} (h2 : e ≤ L.length) : ∀ (ls : List (List UInt8)) (k : Nat) (acc : List Elem) (a : Int), (∀ p ∈ ls, ∃ x, oneE p = .ok x) → 0 ≤ a → a ≤ e → seg L a e = ls.flatten → e - a ≤ k →
    ∃ ys, listAcc L k acc a e = .ok (acc ++ ys) ∧ ys.length = ls.length := by
  intro ls
  induction ls with
  | nil =>
    intro k acc a _ h0 h1 hs hk
    have hl := seg_len L a e h0 h1 h2
    rw [hs] at hl
    simp at hl
    exact ⟨[], by rw [listAcc_done _ _ _ _ _ (by omega)]; simp, rfl⟩
  | cons p ls ih =>
    intro k acc a hall h0 h1 hs hk
    obtain ⟨x, hx⟩ := hall p (by simp)
    obtain ⟨hd, hr, hsz⟩ := oneE_hdr hx
    have hb := rdHdr_ok hr
    have hl := seg_len L a e h0 h1 h2
    rw [hs, List.flatten_cons, List.length_append] at hl
    obtain ⟨k, rfl⟩ : ∃ k', k = k' + 1 := ⟨k - 1, by omega⟩
    have hn : nextE L a e = .ok (hd.at_ a) := by
      unfold nextE
      rw [hs, List.flatten_cons, rdHdr_app _ hr]
      simp only
      rw [if_neg (by omega)]
    have hst : (hd.at_ a).stop = a + p.length := by simp only [Hdr.at_]; omega
    have hs' : seg L (a + p.length) e = ls.flatten := by
      have : seg L (a + p.length) e = (seg L a e).drop p.length := by
        unfold seg
        rw [List.drop_take, List.drop_drop]
        congr 1
        · omega
        · congr 1; omega
      rw [this, hs, List.flatten_cons, List.drop_left]
    obtain ⟨ys, hy, hyl⟩ := ih k (acc ++ [hd.at_ a]) (a + p.length) (fun q hq => hall q (by simp [hq])) (by omega) (by omega) hs' (by omega)
    refine ⟨hd.at_ a :: ys, ?_, by simp [hyl]⟩
    simp only [listAcc]
    rw [if_pos (by omega), hn]
    simp only
    rw [hst, hy]
    simp
/-- What a constructed element of parts holds. -/
theorem listE_enc (c n : Int) (k : Bool) (ls : List (List UInt8)) (hall : ∀ p ∈ ls, ∃ x, oneE p = .ok x) :
    ∃ ys, listE (encO c k n ls.flatten) (1 + (lenOct ls.flatten.length).length) (encO c k n ls.flatten).length = .ok ys ∧ ys.length = ls.length := by
  have hL := encO_len c n k ls.flatten
  have hs : seg (encO c k n ls.flatten) (1 + (lenOct ls.flatten.length).length) (encO c k n ls.flatten).length = ls.flatten := by
    have e1 : (1 + ((lenOct ls.flatten.length).length : Int)).toNat = (lenOct ls.flatten.length).length + 1 := by omega
    have e2 : (((encO c k n ls.flatten).length : Int) - (1 + (lenOct ls.flatten.length).length)).toNat = ls.flatten.length := by omega
    unfold seg
    rw [e1, e2]
    unfold encO
    rw [List.drop_succ_cons, List.drop_left, List.take_length]
  obtain ⟨ys, h1, h2⟩ := listAcc_parts (L := encO c k n ls.flatten) (e := (encO c k n ls.flatten).length) (by omega) ls _ [] (1 + (lenOct ls.flatten.length).length) hall (by omega) (by omega) hs (Int.self_le_toNat _)
  refine ⟨ys, ?_, h2⟩
  unfold listE
  rw [if_neg (by omega), h1]
  rfl
end Go.Cr
end
