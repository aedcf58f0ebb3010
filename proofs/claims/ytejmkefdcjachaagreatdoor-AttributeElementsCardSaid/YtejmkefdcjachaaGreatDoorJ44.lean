/- The parts Pt of one proof, one behind the other. -/
import Derived.Test.YtejmkefdcjachaaGreatDoorJ10

/- Code points, as the reference finds them. No program in sight. -/
section
set_option linter.unusedSimpArgs false
set_option linter.unusedVariables false
namespace Go.Cr
open Go.Lib

/-- The octets of a code point; none if it has none. -/
def octsR (c : Int) : List UInt8 := if okc c then enc1 c.toNat else []
theorem octsR_len (c : Int) : (octsR c).length ≤ 4 := by
  unfold octsR
  split
  · rename_i h
    have h0 := okc_iff.1 h
    have := (enc1_len (c := c.toNat) (by rw [show ((c.toNat : Nat) : Int) = c by omega]; exact h)).2
    exact this
  · simp
theorem octsR_ok {c : Nat} (h : okc c = true) : octsR c = enc1 c := by unfold octsR; rw [if_pos h]; simp
/-- What the first octet says: how many follow, and its part of the number. -/
def leadR (x : Nat) : Option (Nat × Nat) := if 240 ≤ x ∧ x < 248 then some (3, x - 240) else if 224 ≤ x ∧ x < 240 then some (2, x - 224) else if 192 ≤ x ∧ x < 224 then some (1, x - 192) else if 128 ≤ x then none else some (0, x)
def contR : Nat → List UInt8 → Option Nat
  | x, [] => some x
  | x, y :: t => if y.toNat < 128 ∨ 192 ≤ y.toNat then none else contR (x * 64 + y.toNat - 128) t
/-- The first code point, and how many octets follow the first one. -/
def headR (l : List UInt8) : Option (Nat × Nat) := match leadR (l.getD 0 0).toNat with
  | none => none
  | some (n, x) => if l.length ≤ n then none else match contR x ((l.drop 1).take n) with
    | none => none
    | some c => if octsR c = l.take (n + 1) then some (c, n) else none

theorem cont_ok {x y : Nat} (h : y < 64) (t : List UInt8) : contR x (UInt8.ofNat (128 + y) :: t) = contR (x * 64 + y) t := by
  simp only [contR, ofNat_toNat (show 128 + y < 256 by omega)]
  rw [if_neg (by omega), show x * 64 + (128 + y) - 128 = x * 64 + y by omega]

theorem headR_of {l : List UInt8} {n x c : Nat} (h1 : leadR (l.getD 0 0).toNat = some (n, x)) (h2 : n < l.length) (h3 : contR x ((l.drop 1).take n) = some c) (h4 : octsR c = l.take (n + 1)) : headR l = some (c, n) := by
  unfold headR
  rw [h1]
  simp only
  rw [if_neg (by omega), h3]
  simp only
  rw [if_pos h4]
theorem headR_enc {c : Nat} (h : okc c = true) (t : List UInt8) : headR (enc1 c ++ t) = some (c, (enc1 c).length - 1) := by
  have ho := octsR_ok h
  rcases enc_cases h with h | ⟨h0, h⟩ | ⟨h0, h, hs⟩ | ⟨h0, h⟩
  · rw [enc1_one h] at ho ⊢
    refine headR_of (x := c) ?_ (by simp) rfl (by rw [ho]; rfl)
    show leadR (UInt8.ofNat c).toNat = some (0, c)
    rw [ofNat_toNat (show c < 256 by omega)]
    unfold leadR
    rw [if_neg (by omega), if_neg (by omega), if_neg (by omega), if_neg (by omega)]
  · rw [enc1_two h0 h] at ho ⊢
    refine headR_of (x := c / 64) ?_ (by simp) ?_ (by rw [ho]; rfl)
    · show leadR (UInt8.ofNat (192 + c / 64)).toNat = some (1, c / 64)
      rw [ofNat_toNat (show 192 + c / 64 < 256 by omega)]
      unfold leadR
      rw [if_neg (by omega), if_neg (by omega), if_pos (by omega), show 192 + c / 64 - 192 = c / 64 by omega]
    · show contR (c / 64) [UInt8.ofNat (128 + c % 64)] = some c
      rw [cont_ok (show c % 64 < 64 by omega), show c / 64 * 64 + c % 64 = c by omega]
      rfl
  · rw [enc1_three h0 h hs] at ho ⊢
    refine headR_of (x := c / 4096) ?_ (by simp) ?_ (by rw [ho]; rfl)
    · show leadR (UInt8.ofNat (224 + c / 4096)).toNat = some (2, c / 4096)
      rw [ofNat_toNat (show 224 + c / 4096 < 256 by omega)]
      unfold leadR
      rw [if_neg (by omega), if_pos (by omega), show 224 + c / 4096 - 224 = c / 4096 by omega]
    · show contR (c / 4096) [UInt8.ofNat (128 + c / 64 % 64), UInt8.ofNat (128 + c % 64)] = some c
      rw [cont_ok (show c / 64 % 64 < 64 by omega), cont_ok (show c % 64 < 64 by omega), show (c / 4096 * 64 + c / 64 % 64) * 64 + c % 64 = c by omega]
      rfl
  · rw [enc1_four h0 h] at ho ⊢
    refine headR_of (x := c / 262144) ?_ (by simp) ?_ (by rw [ho]; rfl)
    · show leadR (UInt8.ofNat (240 + c / 262144)).toNat = some (3, c / 262144)
      rw [ofNat_toNat (show 240 + c / 262144 < 256 by omega)]
      unfold leadR
      rw [if_pos (by omega), show 240 + c / 262144 - 240 = c / 262144 by omega]
    · show contR (c / 262144) [UInt8.ofNat (128 + c / 4096 % 64), UInt8.ofNat (128 + c / 64 % 64), UInt8.ofNat (128 + c % 64)] = some c
      rw [cont_ok (show c / 4096 % 64 < 64 by omega), cont_ok (show c / 64 % 64 < 64 by omega), cont_ok (show c % 64 < 64 by omega), show ((c / 262144 * 64 + c / 4096 % 64) * 64 + c / 64 % 64) * 64 + c % 64 = c by omega]
      rfl

theorem headR_some {l : List UInt8} {c n : Nat} (h : headR l = some (c, n)) : n < l.length ∧ okc c = true ∧ enc1 c = l.take (n + 1) := by
  unfold headR at h
  split at h
  · cases h
  · split at h
    · cases h
    · rename_i hn
      split at h
      · cases h
      · split at h
        · rename_i he
          simp only [Option.some.injEq, Prod.mk.injEq] at h
          obtain ⟨rfl, rfl⟩ := h
          refine ⟨by omega, ?_, ?_⟩
          · unfold octsR at he
            split at he
            · rename_i hk; exact hk
            · have := congrArg List.length he
              simp at this
              omega
          · unfold octsR at he
            split at he
            · simpa using he
            · have := congrArg List.length he
              simp at this
              omega
        · cases h
/-- The reference's step. -/
theorem pts_ref (l : List UInt8) (hl : l ≠ []) : pts l = match headR l with
    | none => none
    | some (c, n) => (pts (l.drop (n + 1))).map (fun t => c :: t) := by
  cases hh : headR l with
  | none =>
    simp only
    cases hp : pts l with
    | none => rfl
    | some cs =>
      exfalso
      obtain ⟨h1, h2⟩ := pts_enc l cs hp
      cases cs with
      | nil => exact hl (by rw [← h2]; rfl)
      | cons c t =>
        rw [← h2, List.flatMap_cons, headR_enc (h1 c (by simp))] at hh
        cases hh
  | some p =>
    obtain ⟨c, n⟩ := p
    obtain ⟨h1, h2, h3⟩ := headR_some hh
    simp only
    have hlt : l = enc1 c ++ l.drop (n + 1) := by rw [h3, List.take_append_drop]
    have hlen : (enc1 c).length = n + 1 := by rw [h3, List.length_take]; omega
    have hd : decodeL l = (c, n + 1) := by rw [hlt, dec_enc h2, hlen]
    rw [pts_step l hl, hd]
    simp only
    rw [if_neg (by have := enc1_not_bad h2; rw [hlen] at this; exact this)]

/-! ### The reference's way back from contents octets -/
/-- All whole units' octets. -/
def backR (w : Nat) (c : List UInt8) : List UInt8 := if w = 0 then c else (units w (c.take (c.length / w * w))).flatMap (fun x : Nat => octsR x)
theorem decT_back {k : Int} {w : Nat} {c : List UInt8} (hw : widthK k = some w) : (∀ s, decT k c = some s → s = backR w c ∧ encT k (backR w c) = some c) ∧ (encT k (backR w c) = some c → decT k c = some (backR w c)) := by
  refine ⟨fun s h => ?_, fun h => decT_iff.2 h⟩
  have h2 := decT_iff.1 h
  suffices hs : s = backR w c by exact ⟨hs, by rw [← hs]; exact h2⟩
  unfold decT at h
  rw [hw] at h
  cases w with
  | zero =>
    simp only at h
    split at h
    · injection h with h; rw [← h]; rfl
    · cases h
  | succ w =>
    simp only at h
    split at h
    · rename_i hv
      obtain ⟨hm, ha⟩ := hv
      injection h with h
      unfold backR
      rw [if_neg (by omega)]
      have : c.length / (w + 1) * (w + 1) = c.length := by
        have := Nat.div_add_mod c.length (w + 1)
        rw [hm, Nat.add_zero, Nat.mul_comm] at this
        exact this
      rw [this, List.take_length, ← h]
      rw [List.all_eq_true] at ha
      have key : ∀ us : List Nat, (∀ x ∈ us, hasK k (x : Int) = true) → us.flatMap enc1 = us.flatMap (fun x : Nat => octsR x) := by
        intro us
        induction us with
        | nil => intro _; simp
        | cons u t ih =>
          intro h
          have h1 : octsR (u : Int) = enc1 u := octsR_ok (hasK_okc (h u (by simp)))
          have h2 := ih (fun x hx => h x (by simp [hx]))
          rw [List.flatMap_cons, List.flatMap_cons, h2, h1]
      exact key _ ha
    · cases h
/-- One unit more. -/
theorem units_app {w : Nat} (hw : 0 < w) (a b : List UInt8) (h : a.length % w = 0) : units w (a ++ b) = units w a ++ units w b := by
  induction a using len_ind with
  | h l ih =>
    by_cases hl : l = []
    · subst hl; rfl
    · have hpos := List.length_pos_iff.2 hl
      have hle : w ≤ l.length := Nat.le_of_dvd hpos (Nat.dvd_of_mod_eq_zero h)
      rw [units_step hw (l ++ b) (by simp [hl]), units_step hw l hl, List.take_append_of_le_length hle, List.drop_append_of_le_length hle]
      rw [ih _ (by simp; omega) (by rw [List.length_drop, ← Nat.mod_eq_sub_mod hle]; exact h)]
      rfl
theorem units_one {w : Nat} (hw : 0 < w) (a : List UInt8) (h : a.length = w) : units w a = [unitN a] := by
  have hne : a ≠ [] := fun e => by rw [e] at h; simp at h; omega
  rw [units_step hw a hne, List.take_of_length_le (by omega), List.drop_eq_nil_of_le (by omega), units_nil]
end Go.Cr
end
