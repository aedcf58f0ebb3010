/- The plain functions of layer 9 (element). No program in sight. -/
import Derived.Test.YtecbphbnacbepaaSpec
set_option linter.unusedSimpArgs false
set_option linter.unusedVariables false
namespace Go.Cr
open Go.RowKit

/-- An element in a slice. -/
structure Elem where
  cls : Int
  num : Int
  con : Bool
  start : Int
  body : Int
  stop : Int
  deriving DecidableEq
@[go_sem] def Elem.zero : Elem := ⟨0, 0, false, 0, 0, 0⟩
def Elem.cells (x : Elem) : List Value := [.int .i64 x.cls, .int .i64 x.num, .bool x.con, .int .i64 x.start, .int .i64 x.body, .int .i64 x.stop]
@[go_sem] def elV (x : Elem) : Value := .agg #[.int .i64 x.cls, .int .i64 x.num, .bool x.con, .int .i64 x.start, .int .i64 x.body, .int .i64 x.stop]
def Hdr.at_ (h : Hdr) (a : Int) : Elem := ⟨h.cls, h.num, h.con, a, a + h.size, a + h.size + h.len⟩
/-- The octets from a up to e. -/
def seg (l : List UInt8) (a e : Int) : List UInt8 := (l.drop a.toNat).take (e - a).toNat
theorem seg_len (l : List UInt8) (a e : Int) (h0 : 0 ≤ a) (h1 : a ≤ e) (h2 : e ≤ l.length) : ((seg l a e).length : Int) = e - a := by
  simp [seg]; omega
/-- The element at a, within the octets up to e. -/
def nextE (l : List UInt8) (a e : Int) : Except Err Elem :=
  match rdHdr (seg l a e) with
  | .error (c, o) => .error (c, o + a)
  | .ok h => if e - a - h.size < h.len then .error (1, e) else .ok (h.at_ a)
def elR : Except Err Elem → Value
  | .ok x => .tuple #[elV x, errV (0, 0)]
  | .error e => .tuple #[elV Elem.zero, errV e]
theorem nextE_ok {l : List UInt8} {a e : Int} {x : Elem} (h0 : 0 ≤ a) (h1 : a ≤ e) (h2 : e ≤ l.length) (h : nextE l a e = .ok x) :
    x.start = a ∧ a < x.body ∧ x.body ≤ x.stop ∧ x.stop ≤ e := by
  unfold nextE at h
  split at h
  · cases h
  · rename_i hd hr
    have hb := rdHdr_ok hr
    split at h
    · cases h
    · injection h with h; subst h
      refine ⟨rfl, ?_, ?_, ?_⟩ <;> simp only [Hdr.at_] <;> omega
theorem nextE_err {l : List UInt8} {a e c o : Int} (h0 : 0 ≤ a) (h1 : a ≤ e) (h2 : e ≤ l.length) (h : nextE l a e = .error (c, o)) : 0 < c ∧ c ≤ 4 ∧ 0 ≤ o ∧ o ≤ e := by
  have hl := seg_len l a e h0 h1 h2
  unfold nextE at h
  split at h
  · rename_i c' o' hr
    have hb := rdHdr_err hr
    injection h with h; injection h with h3 h4; omega
  · split at h
    · injection h with h; injection h with h3 h4; omega
    · cases h
/-- The element that the bytes consist of. -/
def oneE (l : List UInt8) : Except Err Elem :=
  match nextE l 0 l.length with
  | .error e => .error e
  | .ok x => if x.stop < l.length then .error (2, x.stop) else .ok x
theorem oneE_ok {l : List UInt8} {x : Elem} (h : oneE l = .ok x) : x.start = 0 ∧ 0 < x.body ∧ x.body ≤ x.stop ∧ x.stop = l.length := by
  unfold oneE at h
  split at h
  · cases h
  · rename_i hr
    have := nextE_ok (by omega) (by omega) (by omega) hr
    split at h
    · cases h
    · injection h with h; subst h; omega
theorem oneE_err {l : List UInt8} {c o : Int} (h : oneE l = .error (c, o)) : 0 < c ∧ c ≤ 4 ∧ 0 ≤ o ∧ o ≤ l.length := by
  unfold oneE at h
  split at h
  · rename_i hr
    injection h with h; subst h
    exact nextE_err (by omega) (by omega) (by omega) hr
  · rename_i hr
    have := nextE_ok (by omega) (by omega) (by omega) hr
    split at h
    · injection h with h; injection h with h3 h4; omega
    · cases h


def isE (x : Elem) (c : Int) (k : Bool) (n : Int) : Bool := (x.cls == c) && (x.con == k) && (x.num == n)
def listAcc (l : List UInt8) : Nat → List Elem → Int → Int → Except Err (List Elem)
  | 0, acc, _, _ => .ok acc
  | k + 1, acc, a, e => if a < e then match nextE l a e with
      | .error er => .error er
      | .ok x => listAcc l k (acc ++ [x]) x.stop e
    else .ok acc
/-- The elements of the octets from a up to e. -/
def listE (l : List UInt8) (a e : Int) : Except Err (List Elem) :=
  if a < 0 ∨ e < a ∨ (l.length : Int) < e then .error (9, 0) else listAcc l (e - a).toNat [] a e
def partsE (l : List UInt8) (c n : Int) : Except Err (List Elem) :=
  match oneE l with
  | .error e => .error e
  | .ok x => if isE x c true n then listE l x.body x.stop else .error (3, 0)

theorem listAcc_done (l : List UInt8) (k : Nat) (acc : List Elem) (a e : Int) (h : e ≤ a) : listAcc l k acc a e = .ok acc := by
  cases k with
  | zero => rfl
  | succ k => simp only [listAcc]; rw [if_neg (by omega)]

theorem listAcc_err {l : List UInt8} : ∀ (k : Nat) {acc : List Elem} {a e c o : Int}, 0 ≤ a → a ≤ e → e ≤ l.length → listAcc l k acc a e = .error (c, o) → 0 < c ∧ c ≤ 4 ∧ 0 ≤ o ∧ o ≤ e := by
  intro k
  induction k with
  | zero => intro acc a e c o _ _ _ h; cases h
  | succ k ih =>
    intro acc a e c o h0 h1 h2 h
    simp only [listAcc] at h
    split at h
    · split at h
      · rename_i hr; injection h with h; subst h; exact nextE_err h0 h1 h2 hr
      · rename_i hr
        have := nextE_ok h0 h1 h2 hr
        exact ih (by omega) (by omega) h2 h
    · cases h
theorem listE_err {l : List UInt8} {a e c o : Int} (h : listE l a e = .error (c, o)) : 0 < c ∧ c ≤ 9 ∧ 0 ≤ o ∧ o ≤ l.length := by
  unfold listE at h
  split at h
  · injection h with h; injection h with h1 h2; omega
  · have := listAcc_err _ (by omega) (by omega) (by omega) h; omega

end Go.Cr
