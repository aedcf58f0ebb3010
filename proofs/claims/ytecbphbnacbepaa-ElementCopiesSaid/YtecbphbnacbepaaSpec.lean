/- The plain functions that the layers compute, and their laws. No program in sight. -/
import Derived.Test.YtecbphbnacbepaaKit
set_option linter.unusedSimpArgs false
set_option linter.unusedVariables false
namespace Go.Cr
open Go.RowKit

/-- Big-endian digits. -/
def be (l : List UInt8) : Int := l.foldl (fun a x => a * 256 + bi x) 0
theorem be_snoc (l : List UInt8) (x : UInt8) : be (l ++ [x]) = be l * 256 + bi x := by simp [be, List.foldl_append]
theorem be_take_succ (l : List UInt8) (k : Nat) (h : k < l.length) : be (l.take (k + 1)) = be (l.take k) * 256 + bat l k := by
  rw [List.take_succ_eq_append_getElem h, be_snoc, bat_eq l k h]
theorem be_bound (l : List UInt8) : 0 ≤ be l ∧ be l < 256 ^ l.length := by
  have h : ∀ (l : List UInt8) (a : Int) (m : Nat), 0 ≤ a → a < 256 ^ m → 0 ≤ l.foldl (fun a x => a * 256 + bi x) a ∧ l.foldl (fun a x => a * 256 + bi x) a < 256 ^ (m + l.length) := by
    intro l
    induction l with
    | nil => intro a m h0 h; simpa using ⟨h0, h⟩
    | cons x t ih =>
      intro a m h0 h
      have hx := bi_lt x
      have hx0 := bi_pos x
      simp only [List.foldl_cons, List.length_cons]
      have := ih (a * 256 + bi x) (m + 1) (by omega) (by rw [Int.pow_succ]; omega)
      rwa [show m + (t.length + 1) = m + 1 + t.length by omega]
  simpa [be] using h l 0 0 (by simp) (by simp)

abbrev Err := Int × Int

/-- An identifier octet. -/
def idOct (c : Int) (k : Bool) (n : Int) : Option Int := if 0 ≤ c ∧ c ≤ 3 ∧ 0 ≤ n ∧ n ≤ 30 then some (64 * c + n + if k then 32 else 0) else none

/-- Length octets, read: the length and how many octets, or an error. -/
def rdLen (l : List UInt8) : Except Err (Int × Int) :=
  if l.length = 0 then .error (1, 0)
  else if bat l 0 < 128 then .ok (bat l 0, 1)
  else if bat l 0 - 128 = 0 ∨ 4 < bat l 0 - 128 then .error (4, 0)
  else if (l.length : Int) ≤ bat l 0 - 128 then .error (1, l.length)
  else if bat l 1 = 0 ∨ be ((l.drop 1).take (bat l 0 - 128).toNat) < 128 ∨ 2147483647 < be ((l.drop 1).take (bat l 0 - 128).toNat) then .error (4, 0)
  else .ok (be ((l.drop 1).take (bat l 0 - 128).toNat), 1 + (bat l 0 - 128))

@[go_sem] def errV (e : Err) : Value := .agg #[.int .i64 e.1, .int .i64 e.2]
def lenV : Except Err (Int × Int) → Value
  | .ok (n, k) => .tuple #[.int .i64 n, .int .i64 k, errV (0, 0)]
  | .error e => .tuple #[.int .i64 0, .int .i64 0, errV e]

theorem rdLen_ok {l : List UInt8} {n k : Int} (h : rdLen l = .ok (n, k)) : 0 ≤ n ∧ n ≤ 2147483647 ∧ 1 ≤ k ∧ k ≤ 5 ∧ k ≤ l.length := by
  have h0 := bat_lt l 0
  have h1 := bat_pos l 0
  have hb := (be_bound ((l.drop 1).take (bat l 0 - 128).toNat)).1
  unfold rdLen at h
  split at h
  · cases h
  split at h
  · injection h with h; injection h with h2 h3; omega
  split at h
  · cases h
  split at h
  · cases h
  split at h
  · cases h
  · injection h with h; injection h with h2 h3; omega
theorem rdLen_err {l : List UInt8} {c o : Int} (h : rdLen l = .error (c, o)) : 0 < c ∧ c ≤ 4 ∧ 0 ≤ o ∧ o ≤ l.length := by
  unfold rdLen at h
  split at h
  · injection h with h; injection h with h2 h3; omega
  split at h
  · cases h
  split at h
  · injection h with h; injection h with h2 h3; omega
  split at h
  · injection h with h; injection h with h2 h3; omega
  split at h
  · injection h with h; injection h with h2 h3; omega
  · cases h

/-- A header: what the first octets of an element say. -/
structure Hdr where
  cls : Int
  num : Int
  con : Bool
  len : Int
  size : Int
@[go_sem] def Hdr.zero : Hdr := ⟨0, 0, false, 0, 0⟩
@[go_sem] def hdrV (h : Hdr) : Value := .agg #[.int .i64 h.cls, .int .i64 h.num, .bool h.con, .int .i64 h.len, .int .i64 h.size]
def rdHdr (l : List UInt8) : Except Err Hdr :=
  if l.length = 0 then .error (1, 0)
  else if bat l 0 % 32 = 31 then .error (3, 0)
  else match rdLen (l.drop 1) with
    | .error (c, o) => .error (c, o + 1)
    | .ok (n, k) => .ok ⟨bat l 0 / 64, bat l 0 % 32, decide (bat l 0 / 32 % 2 = 1), n, 1 + k⟩
def rhV : Except Err Hdr → Value
  | .ok h => .tuple #[hdrV h, errV (0, 0)]
  | .error e => .tuple #[hdrV Hdr.zero, errV e]
theorem rdHdr_ok {l : List UInt8} {h : Hdr} (e : rdHdr l = .ok h) : 0 ≤ h.len ∧ h.len ≤ 2147483647 ∧ 2 ≤ h.size ∧ h.size ≤ 6 ∧ h.size ≤ l.length ∧ 0 ≤ h.cls ∧ h.cls ≤ 3 ∧ 0 ≤ h.num ∧ h.num ≤ 30 := by
  have h0 := bat_lt l 0
  have h1 := bat_pos l 0
  unfold rdHdr at e
  split at e
  · cases e
  split at e
  · cases e
  split at e
  · cases e
  · rename_i n k hr
    injection e with e; subst e
    have := rdLen_ok hr
    simp only [List.length_drop] at this ⊢
    omega
theorem rdHdr_err {l : List UInt8} {c o : Int} (e : rdHdr l = .error (c, o)) : 0 < c ∧ c ≤ 4 ∧ 0 ≤ o ∧ o ≤ l.length := by
  unfold rdHdr at e
  split at e
  · injection e with e; injection e with h2 h3; omega
  split at e
  · injection e with e; injection e with h2 h3; omega
  split at e
  · rename_i hr
    injection e with e; injection e with h2 h3
    have := rdLen_err hr
    simp only [List.length_drop] at this
    omega
  · cases e

theorem ofInt_i64 (a : Nat) (ha : a < 9223372036854775808) : (BitVec.ofInt 64 (a : Int)).toNat = a := by
  rw [BitVec.ofInt_natCast, BitVec.toNat_ofNat]; exact Nat.mod_eq_of_lt (by omega)
theorem i64_or_nat (a b : Nat) (ha : a < 9223372036854775808) (hb : b < 9223372036854775808) : bits .or .i64 (a : Int) (b : Int) = ((a ||| b : Nat) : Int) := by
  have hx : a ||| b < 2 ^ 63 := Nat.or_lt_two_pow (by omega) (by omega)
  show IntKind.i64.wrap ((BitVec.ofInt 64 (a : Int) ||| BitVec.ofInt 64 (b : Int)).toNat : Int) = _
  rw [BitVec.toNat_or, ofInt_i64 a ha, ofInt_i64 b hb, IntKind.wrap_i64]
  omega
theorem or_add (a b j : Nat) (hb : b < 2 ^ j) : a * 2 ^ j ||| b = a * 2 ^ j + b := by
  rw [Nat.mul_comm, Nat.two_pow_add_eq_or_of_lt hb]
theorem i64_or_256 (n x : Int) (h0 : 0 ≤ n) (h1 : n < 1099511627776) (h2 : 0 ≤ x) (h3 : x < 256) : bits .or .i64 (n * 256) x = n * 256 + x := by
  obtain ⟨a, rfl⟩ := Int.eq_ofNat_of_zero_le h0
  obtain ⟨b, rfl⟩ := Int.eq_ofNat_of_zero_le h2
  have := i64_or_nat (a * 256) b (by omega) (by omega)
  rw [show ((a : Int) * 256) = ((a * 256 : Nat) : Int) by omega, this, or_add a b 8 (by omega)]
  omega
theorem i64_or_64 (c n : Int) (h0 : 0 ≤ c) (h1 : c ≤ 3) (h2 : 0 ≤ n) (h3 : n < 32) : bits .or .i64 (c * 64) n = c * 64 + n := by
  obtain ⟨a, rfl⟩ := Int.eq_ofNat_of_zero_le h0
  obtain ⟨b, rfl⟩ := Int.eq_ofNat_of_zero_le h2
  have := i64_or_nat (a * 64) b (by omega) (by omega)
  rw [show ((a : Int) * 64) = ((a * 64 : Nat) : Int) by omega, this, or_add a b 6 (by omega)]
  omega
theorem u8_or_32 (c n : Int) (h0 : 0 ≤ c) (h1 : c ≤ 3) (h2 : 0 ≤ n) (h3 : n < 32) : bits .or .u8 (c * 64 + n) 32 = c * 64 + n + 32 := by
  obtain ⟨a, rfl⟩ := Int.eq_ofNat_of_zero_le h0
  obtain ⟨b, rfl⟩ := Int.eq_ofNat_of_zero_le h2
  have ha : a < 4 := by omega
  have hb : b < 32 := by omega
  have key : ∀ a : Fin 4, ∀ b : Fin 32, bits .or .u8 ((a.val : Int) * 64 + (b.val : Int)) 32 = (a.val : Int) * 64 + (b.val : Int) + 32 := by decide +kernel
  exact key ⟨a, ha⟩ ⟨b, hb⟩
theorem u8_and_32 (n : Int) (h0 : 0 ≤ n) (h1 : n < 256) : bits .and .u8 n 32 = n / 32 % 2 * 32 := by
  obtain ⟨a, rfl⟩ := Int.eq_ofNat_of_zero_le h0
  have ha : a < 256 := by omega
  have key : ∀ a : Fin 256, bits .and .u8 (a.val : Int) 32 = (a.val : Int) / 32 % 2 * 32 := by decide +kernel
  exact key ⟨a, ha⟩
theorem u8_and_31 (n : Int) (h0 : 0 ≤ n) (h1 : n < 256) : bits .and .u8 n 31 = n % 32 := bits_mask .u8 8 (by decide) wraps_u8 5 (by decide) _ h0 h1
end Go.Cr
