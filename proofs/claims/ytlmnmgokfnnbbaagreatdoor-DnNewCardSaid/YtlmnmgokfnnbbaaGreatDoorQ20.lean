/- The parts Utf, Pt of one proof, one behind the other. -/
import Derived.Lib.MapLaws
import Derived.Lib.ValidLaws

/- UTF-8 as lists of code points, and the kinds of character strings. No program in sight. -/
section
set_option linter.unusedSimpArgs false
set_option linter.unusedVariables false
namespace Go.Cr
open Go.Lib
/-! ### Code points -/
def ptsF : Nat → List UInt8 → Option (List Nat)
  | 0, _ => some []
  | n + 1, l => if l = [] then some [] else if (decodeL l).1 = 65533 ∧ (decodeL l).2 = 1 then none else (ptsF n (l.drop (decodeL l).2)).map (fun t => (decodeL l).1 :: t)
def pts (l : List UInt8) : Option (List Nat) := ptsF l.length l
theorem ptsF_nil (n : Nat) : ptsF n [] = some [] := by cases n <;> simp [ptsF]
theorem ptsF_fuel : ∀ (n m : Nat) (l : List UInt8), l.length ≤ n → l.length ≤ m → ptsF n l = ptsF m l := by
  intro n
  induction n with
  | zero =>
    intro m l h _
    obtain rfl := List.eq_nil_of_length_eq_zero (by omega : l.length = 0)
    rw [ptsF_nil, ptsF_nil]
  | succ n ih =>
    intro m l h1 h2
    by_cases hl : l = []
    · subst hl; rw [ptsF_nil, ptsF_nil]
    · have hw := decodeL_width l
      have hpos := List.length_pos_iff.2 hl
      obtain ⟨m, rfl⟩ : ∃ k, m = k + 1 := ⟨m - 1, by omega⟩
      simp only [ptsF, if_neg hl]
      rw [ih m (l.drop (decodeL l).2) (by simp; omega) (by simp; omega)]
theorem pts_nil : pts [] = some [] := rfl
theorem pts_step (l : List UInt8) (hl : l ≠ []) : pts l = if (decodeL l).1 = 65533 ∧ (decodeL l).2 = 1 then none else (pts (l.drop (decodeL l).2)).map (fun t => (decodeL l).1 :: t) := by
  have hw := decodeL_width l
  have hpos := List.length_pos_iff.2 hl
  obtain ⟨m, hm⟩ : ∃ k, l.length = k + 1 := ⟨l.length - 1, by omega⟩
  unfold pts
  rw [hm]
  simp only [ptsF, if_neg hl]
  rw [ptsF_fuel m (l.drop (decodeL l).2).length _ (by simp; omega) (Nat.le_refl _)]
theorem len_ind {p : List UInt8 → Prop} (h : ∀ l, (∀ t : List UInt8, t.length < l.length → p t) → p l) (l : List UInt8) : p l := by
  have : ∀ n (l : List UInt8), l.length < n → p l := by
    intro n
    induction n with
    | zero => intro l h; omega
    | succ n ih => intro l hl; exact h l (fun t ht => ih t (by omega))
  exact this (l.length + 1) l (by omega)
theorem validD_pts (l : List UInt8) : validD l = (pts l).isSome := by
  induction l using len_ind with
  | h l ih =>
    by_cases hl : l = []
    · subst hl; rfl
    · have hw := decodeL_width l
      have hpos := List.length_pos_iff.2 hl
      rw [validD_step l hl, pts_step l hl]
      split
      · rfl
      · rw [ih _ (by simp; omega)]
        cases pts (l.drop (decodeL l).2) <;> rfl

def okc (c : Int) : Bool := (decide (0 ≤ c) && decide (c < 55296)) || (decide (57344 ≤ c) && decide (c ≤ 1114111))
theorem okc_iff {c : Int} : okc c = true ↔ (0 ≤ c ∧ c < 55296) ∨ (57344 ≤ c ∧ c ≤ 1114111) := by simp [okc]
def enc1 (c : Nat) : List UInt8 := encodeRune (c : Int)

set_option maxHeartbeats 2000000 in
theorem dec_ok (l : List UInt8) (hv : ¬ ((decodeL l).1 = 65533 ∧ (decodeL l).2 = 1)) : okc ((decodeL l).1 : Int) = true := by
  rw [okc_iff]
  rw [decodeL_N] at hv ⊢
  have h0 := (l.getD 0 0).toNat_lt
  generalize (l.getD 0 0).toNat = b0 at *
  generalize (l.getD 1 0).toNat = b1 at *
  generalize (l.getD 2 0).toNat = b2 at *
  generalize (l.getD 3 0).toNat = b3 at *
  unfold decodeN at hv ⊢
  repeat' split
  all_goals (simp_all; try omega)

theorem enc1_one {c : Nat} (h : c ≤ 127) : enc1 c = [UInt8.ofNat c] := by
  simp only [enc1, encodeRune, encodeRuneZ_one (r := (c : Int)) (by omega) (by omega), List.map_cons, List.map_nil]
  rfl
theorem u8z (x : Nat) : ((x : Int)).toNat.toUInt8 = UInt8.ofNat x := by simp
theorem enc1_two {c : Nat} (h0 : 128 ≤ c) (h : c ≤ 2047) : enc1 c = [UInt8.ofNat (192 + c / 64), UInt8.ofNat (128 + c % 64)] := by
  simp only [enc1, encodeRune, encodeRuneZ_two (r := (c : Int)) (by omega) (by omega), List.map_cons, List.map_nil]
  rw [show (192 + (c : Int) / 64) = ((192 + c / 64 : Nat) : Int) by omega, show (128 + (c : Int) % 64) = ((128 + c % 64 : Nat) : Int) by omega, u8z, u8z]
theorem enc1_three {c : Nat} (h0 : 2048 ≤ c) (h : c ≤ 65535) (hs : c < 55296 ∨ 57344 ≤ c) : enc1 c = [UInt8.ofNat (224 + c / 4096), UInt8.ofNat (128 + c / 64 % 64), UInt8.ofNat (128 + c % 64)] := by
  simp only [enc1, encodeRune, encodeRuneZ_three (r := (c : Int)) (by omega), List.map_cons, List.map_nil]
  rw [show (224 + (c : Int) / 4096) = ((224 + c / 4096 : Nat) : Int) by omega, show (128 + (c : Int) / 64 % 64) = ((128 + c / 64 % 64 : Nat) : Int) by omega, show (128 + (c : Int) % 64) = ((128 + c % 64 : Nat) : Int) by omega, u8z, u8z, u8z]
theorem enc1_four {c : Nat} (h0 : 65536 ≤ c) (h : c ≤ 1114111) : enc1 c = [UInt8.ofNat (240 + c / 262144), UInt8.ofNat (128 + c / 4096 % 64), UInt8.ofNat (128 + c / 64 % 64), UInt8.ofNat (128 + c % 64)] := by
  simp only [enc1, encodeRune, encodeRuneZ_four (r := (c : Int)) (by omega) (by omega), List.map_cons, List.map_nil]
  rw [show (240 + (c : Int) / 262144) = ((240 + c / 262144 : Nat) : Int) by omega, show (128 + (c : Int) / 4096 % 64) = ((128 + c / 4096 % 64 : Nat) : Int) by omega, show (128 + (c : Int) / 64 % 64) = ((128 + c / 64 % 64 : Nat) : Int) by omega, show (128 + (c : Int) % 64) = ((128 + c % 64 : Nat) : Int) by omega, u8z, u8z, u8z, u8z]
theorem ofNat_toNat {n : Nat} (h : n < 256) : (UInt8.ofNat n).toNat = n := by simp; omega

theorem enc_cases {c : Nat} (h : okc c = true) : (c ≤ 127) ∨ (128 ≤ c ∧ c ≤ 2047) ∨ (2048 ≤ c ∧ c ≤ 65535 ∧ (c < 55296 ∨ 57344 ≤ c)) ∨ (65536 ≤ c ∧ c ≤ 1114111) := by
  rw [okc_iff] at h; omega
theorem enc1_len {c : Nat} (h : okc c = true) : 1 ≤ (enc1 c).length ∧ (enc1 c).length ≤ 4 := by
  rcases enc_cases h with h | ⟨h0, h⟩ | ⟨h0, h, hs⟩ | ⟨h0, h⟩
  · rw [enc1_one h]; simp
  · rw [enc1_two h0 h]; simp
  · rw [enc1_three h0 h hs]; simp
  · rw [enc1_four h0 h]; simp

set_option maxHeartbeats 2000000 in
theorem dec_enc {c : Nat} (h : okc c = true) (t : List UInt8) : decodeL (enc1 c ++ t) = (c, (enc1 c).length) := by
  rw [decodeL_N]
  rcases enc_cases h with h | ⟨h0, h⟩ | ⟨h0, h, hs⟩ | ⟨h0, h⟩
  · rw [enc1_one h]
    simp only [List.cons_append, List.nil_append, List.getD_cons_zero, ofNat_toNat (show c < 256 by omega)]
    unfold decodeN
    rw [if_pos (by omega)]; rfl
  · rw [enc1_two h0 h]
    simp only [List.cons_append, List.nil_append, List.getD_cons_zero, List.getD_cons_succ, List.length_cons, ofNat_toNat (show 192 + c / 64 < 256 by omega), ofNat_toNat (show 128 + c % 64 < 256 by omega)]
    unfold decodeN
    rw [if_neg (by omega), if_pos (by omega), if_pos (by omega)]
    apply Prod.ext
    · simp only; omega
    · rfl
  · rw [enc1_three h0 h hs]
    simp only [List.cons_append, List.nil_append, List.getD_cons_zero, List.getD_cons_succ, List.length_cons, ofNat_toNat (show 224 + c / 4096 < 256 by omega), ofNat_toNat (show 128 + c / 64 % 64 < 256 by omega), ofNat_toNat (show 128 + c % 64 < 256 by omega)]
    unfold decodeN
    rw [if_neg (by omega), if_neg (by omega), if_pos (by omega), if_pos (by omega)]
    apply Prod.ext
    · simp only; omega
    · rfl
  · rw [enc1_four h0 h]
    simp only [List.cons_append, List.nil_append, List.getD_cons_zero, List.getD_cons_succ, List.length_cons, ofNat_toNat (show 240 + c / 262144 < 256 by omega), ofNat_toNat (show 128 + c / 4096 % 64 < 256 by omega), ofNat_toNat (show 128 + c / 64 % 64 < 256 by omega), ofNat_toNat (show 128 + c % 64 < 256 by omega)]
    unfold decodeN
    rw [if_neg (by omega), if_neg (by omega), if_neg (by omega), if_pos (by omega), if_pos (by omega)]
    apply Prod.ext
    · simp only; omega
    · rfl

theorem enc1_not_bad {c : Nat} (h : okc c = true) : ¬ (c = 65533 ∧ (enc1 c).length = 1) := by
  rintro ⟨rfl, h1⟩
  rw [enc1_three (by omega) (by omega) (by omega)] at h1
  simp at h1

theorem pts_of : ∀ (cs : List Nat), (∀ c ∈ cs, okc (c : Int) = true) → pts (cs.flatMap enc1) = some cs := by
  intro cs
  induction cs with
  | nil => intro _; rfl
  | cons c t ih =>
    intro h
    have hc := h c (by simp)
    have hl := enc1_len hc
    have hne : (c :: t).flatMap enc1 ≠ [] := by
      intro e
      have := congrArg List.length e
      simp at this
      have := this.1
      rw [this] at hl
      simp at hl
    rw [pts_step _ hne, List.flatMap_cons, dec_enc hc, if_neg (enc1_not_bad hc)]
    simp only [List.drop_left, ih (fun c h' => h c (by simp [h'])), Option.map_some]
theorem pts_enc (l : List UInt8) : ∀ cs, pts l = some cs → (∀ c ∈ cs, okc (c : Int) = true) ∧ cs.flatMap enc1 = l := by
  induction l using len_ind with
  | h l ih =>
    intro cs h
    by_cases hl : l = []
    · subst hl
      rw [pts_nil] at h
      injection h with h; subst h
      simp
    · have hw := decodeL_width l
      have hpos := List.length_pos_iff.2 hl
      rw [pts_step l hl] at h
      split at h
      · cases h
      · rename_i hv
        cases hr : pts (l.drop (decodeL l).2) with
        | none => rw [hr] at h; cases h
        | some t =>
          rw [hr] at h
          simp only [Option.map_some, Option.some.injEq] at h
          subst h
          obtain ⟨h1, h2⟩ := ih _ (by simp; omega) t hr
          refine ⟨fun c hc => ?_, ?_⟩
          · rcases List.mem_cons.1 hc with rfl | hc
            · exact dec_ok l hv
            · exact h1 c hc
          · rw [List.flatMap_cons, h2]
            show encodeRune ((decodeL l).1 : Int) ++ _ = _
            rw [encode_decode l hl hv, List.take_append_drop]
/-! ### The kinds -/
def widthK (k : Int) : Option Nat := if k = 12 then some 0 else if k = 19 ∨ k = 20 ∨ k = 22 ∨ k = 26 then some 1 else if k = 28 then some 4 else if k = 30 then some 2 else none
def printC (c : Int) : Bool := (decide (97 ≤ c) && decide (c ≤ 122)) || (decide (65 ≤ c) && decide (c ≤ 90)) || (decide (48 ≤ c) && decide (c ≤ 57)) || [32, 39, 40, 41, 43, 44, 45, 46, 47, 58, 61, 63].contains c
def visC (c : Int) : Bool := decide (32 ≤ c) && decide (c ≤ 126)
def teleC (c : Int) : Bool := visC c || (decide (160 ≤ c) && decide (c ≤ 255))
def hasK (k c : Int) : Bool := if k = 12 ∨ k = 28 then okc c else if k = 19 then printC c else if k = 20 then teleC c else if k = 22 then decide (0 ≤ c) && decide (c ≤ 127) else if k = 26 then visC c else if k = 30 then okc c && decide (c ≤ 65535) else false
theorem hasK_okc {k c : Int} (h : hasK k c = true) : okc c = true := by
  unfold hasK at h
  rw [okc_iff]
  split at h
  · exact okc_iff.1 h
  split at h
  · simp only [printC, Bool.or_eq_true, Bool.and_eq_true, decide_eq_true_eq, List.contains_eq_mem, List.mem_cons, List.mem_nil_iff, or_false] at h; omega
  split at h
  · simp only [teleC, visC, Bool.or_eq_true, Bool.and_eq_true, decide_eq_true_eq] at h; omega
  split at h
  · simp only [Bool.and_eq_true, decide_eq_true_eq] at h; omega
  split at h
  · simp only [visC, Bool.and_eq_true, decide_eq_true_eq] at h; omega
  split at h
  · simp only [Bool.and_eq_true, decide_eq_true_eq] at h; exact okc_iff.1 h.1
  · cases h
theorem hasK_small {k c : Int} (h : hasK k c = true) (hw : widthK k = some 1) : 0 ≤ c ∧ c ≤ 255 := by
  have h12 : ¬ (k = 12) := fun e => by subst e; cases hw
  have h28 : ¬ (k = 28) := fun e => by subst e; cases hw
  have h30 : ¬ (k = 30) := fun e => by subst e; cases hw
  unfold hasK at h
  rw [if_neg (by omega), if_neg h30] at h
  split at h
  · simp only [printC, Bool.or_eq_true, Bool.and_eq_true, decide_eq_true_eq, List.contains_eq_mem, List.mem_cons, List.mem_nil_iff, or_false] at h; omega
  split at h
  · simp only [teleC, visC, Bool.or_eq_true, Bool.and_eq_true, decide_eq_true_eq] at h; omega
  split at h
  · simp only [Bool.and_eq_true, decide_eq_true_eq] at h; omega
  split at h
  · simp only [visC, Bool.and_eq_true, decide_eq_true_eq] at h; omega
  · cases h

def validT (k : Int) (s : List UInt8) : Bool := (widthK k).isSome && match pts s with | some cs => cs.all (fun c => hasK k c) | none => false
def beW : Nat → Nat → List UInt8
  | 0, _ => []
  | w + 1, c => beW w (c / 256) ++ [UInt8.ofNat (c % 256)]
def encT (k : Int) (s : List UInt8) : Option (List UInt8) :=
  if validT k s then (match widthK k with | some 0 => some s | some w => some (((pts s).getD []).flatMap (beW w)) | none => none) else none
theorem beW_len : ∀ w c, (beW w c).length = w
  | 0, _ => rfl
  | w + 1, c => by simp [beW, beW_len w]

/-! ### Back from octets -/
def unitN (l : List UInt8) : Nat := l.foldl (fun a x => a * 256 + x.toNat) 0
theorem unitN_snoc (l : List UInt8) (x : UInt8) : unitN (l ++ [x]) = unitN l * 256 + x.toNat := by simp [unitN]
theorem rev_ind {p : List UInt8 → Prop} (h0 : p []) (h1 : ∀ t x, p t → p (t ++ [x])) (l : List UInt8) : p l := by
  have : ∀ r : List UInt8, p r.reverse := by
    intro r
    induction r with
    | nil => exact h0
    | cons x t ih => rw [List.reverse_cons]; exact h1 _ _ ih
  have := this l.reverse
  rwa [List.reverse_reverse] at this
theorem unitN_lt (l : List UInt8) : unitN l < 256 ^ l.length := by
  induction l using rev_ind with
  | h0 => simp [unitN]
  | h1 t x ih =>
    rw [unitN_snoc, List.length_append, List.length_singleton, Nat.pow_succ]
    have := x.toNat_lt
    omega
theorem beW_unitN (l : List UInt8) : beW l.length (unitN l) = l := by
  induction l using rev_ind with
  | h0 => rfl
  | h1 t x ih =>
    rw [unitN_snoc, List.length_append, List.length_singleton]
    have := x.toNat_lt
    simp only [beW]
    rw [show (unitN t * 256 + x.toNat) / 256 = unitN t by omega, show (unitN t * 256 + x.toNat) % 256 = x.toNat by omega, ih]
    simp
theorem unitN_beW : ∀ w c, c < 256 ^ w → unitN (beW w c) = c := by
  intro w
  induction w with
  | zero => intro c h; simp at h; subst h; rfl
  | succ w ih =>
    intro c h
    simp only [beW, unitN_snoc]
    rw [ih (c / 256) (by rw [Nat.pow_succ] at h; omega)]
    simp
    omega
def unitsF (w : Nat) : Nat → List UInt8 → List Nat
  | 0, _ => []
  | n + 1, l => if l = [] then [] else unitN (l.take w) :: unitsF w n (l.drop w)
def units (w : Nat) (l : List UInt8) : List Nat := unitsF w l.length l
theorem unitsF_nil (w n : Nat) : unitsF w n [] = [] := by cases n <;> simp [unitsF]
theorem unitsF_fuel (w : Nat) (hw : 0 < w) : ∀ (n m : Nat) (l : List UInt8), l.length ≤ n → l.length ≤ m → unitsF w n l = unitsF w m l := by
  intro n
  induction n with
  | zero =>
    intro m l h _
    obtain rfl := List.eq_nil_of_length_eq_zero (by omega : l.length = 0)
    rw [unitsF_nil, unitsF_nil]
  | succ n ih =>
    intro m l h1 h2
    by_cases hl : l = []
    · subst hl; rw [unitsF_nil, unitsF_nil]
    · have hpos := List.length_pos_iff.2 hl
      obtain ⟨m, rfl⟩ : ∃ k, m = k + 1 := ⟨m - 1, by omega⟩
      simp only [unitsF, if_neg hl]
      rw [ih m (l.drop w) (by simp; omega) (by simp; omega)]
theorem units_nil (w : Nat) : units w [] = [] := rfl
theorem units_step {w : Nat} (hw : 0 < w) (l : List UInt8) (hl : l ≠ []) : units w l = unitN (l.take w) :: units w (l.drop w) := by
  have hpos := List.length_pos_iff.2 hl
  obtain ⟨m, hm⟩ : ∃ k, l.length = k + 1 := ⟨l.length - 1, by omega⟩
  unfold units
  rw [hm]
  simp only [unitsF, if_neg hl]
  rw [unitsF_fuel w hw m (l.drop w).length _ (by simp; omega) (Nat.le_refl _)]
theorem units_flat {w : Nat} (hw : 0 < w) (l : List UInt8) : l.length % w = 0 → (units w l).flatMap (beW w) = l := by
  induction l using len_ind with
  | h l ih =>
    intro hm
    by_cases hl : l = []
    · subst hl; rfl
    · have hpos := List.length_pos_iff.2 hl
      have hle : w ≤ l.length := Nat.le_of_dvd hpos (Nat.dvd_of_mod_eq_zero hm)
      rw [units_step hw l hl, List.flatMap_cons, ih _ (by simp; omega) (by rw [List.length_drop, ← Nat.mod_eq_sub_mod hle]; exact hm)]
      have := beW_unitN (l.take w)
      rw [List.length_take, Nat.min_eq_left hle] at this
      rw [this, List.take_append_drop]
theorem units_of {w : Nat} (hw : 0 < w) : ∀ cs : List Nat, (∀ c ∈ cs, c < 256 ^ w) → units w (cs.flatMap (beW w)) = cs := by
  intro cs
  induction cs with
  | nil => intro _; rfl
  | cons c t ih =>
    intro h
    have hl := beW_len w c
    have hne : (c :: t).flatMap (beW w) ≠ [] := by
      intro e
      have := congrArg List.length e
      simp only [List.flatMap_cons, List.length_append, hl, List.length_nil] at this
      omega
    rw [units_step hw _ hne, List.flatMap_cons]
    have h1 : (beW w c ++ t.flatMap (beW w)).take w = beW w c := by rw [List.take_append_of_le_length (by omega), List.take_of_length_le (by omega)]
    have h2 : (beW w c ++ t.flatMap (beW w)).drop w = t.flatMap (beW w) := by
      rw [List.drop_append_of_le_length (by omega), List.drop_eq_nil_of_le (by omega), List.nil_append]
    rw [h1, h2, unitN_beW w c (h c (by simp)), ih (fun c hc => h c (by simp [hc]))]
theorem flat_beW_len (w : Nat) (cs : List Nat) : (cs.flatMap (beW w)).length = cs.length * w := by
  induction cs with
  | nil => simp
  | cons c t ih => simp only [List.flatMap_cons, List.length_append, beW_len, ih, List.length_cons, Nat.succ_mul]; omega

def decT (k : Int) (c : List UInt8) : Option (List UInt8) :=
  match widthK k with
  | none => none
  | some 0 => if validT k c then some c else none
  | some w => if c.length % w = 0 ∧ (units w c).all (fun x => hasK k x) = true then some ((units w c).flatMap enc1) else none
theorem widthK_small {k : Int} {w : Nat} (h : widthK k = some w) : w = 0 ∨ w = 1 ∨ w = 2 ∨ w = 4 := by
  unfold widthK at h
  split at h
  · injection h with h; omega
  split at h
  · injection h with h; omega
  split at h
  · injection h with h; omega
  split at h
  · injection h with h; omega
  · cases h
theorem hasK_lt {k : Int} {w : Nat} {c : Nat} (hw : widthK k = some (w + 1)) (h : hasK k c = true) : c < 256 ^ (w + 1) := by
  have ho := hasK_okc h
  rw [okc_iff] at ho
  rcases widthK_small hw with h1 | h1 | h1 | h1
  · omega
  · obtain rfl : w = 0 := by omega
    have := hasK_small h hw
    omega
  · obtain rfl : w = 1 := by omega
    have hk : k = 30 := by
      unfold widthK at hw
      split at hw
      · injection hw with hw; omega
      split at hw
      · injection hw with hw; omega
      split at hw
      · injection hw with hw; omega
      split at hw
      · assumption
      · cases hw
    subst hk
    simp only [hasK] at h
    simp at h
    omega
  · obtain rfl : w = 3 := by omega
    omega
theorem validT_iff {k : Int} {s : List UInt8} : validT k s = true ↔ (widthK k).isSome = true ∧ ∃ cs, pts s = some cs ∧ ∀ c ∈ cs, hasK k (c : Int) = true := by
  unfold validT
  rw [Bool.and_eq_true]
  cases hp : pts s with
  | none => simp
  | some cs => simp [List.all_eq_true]
theorem decT_enc {k : Int} {c s : List UInt8} (h : decT k c = some s) : encT k s = some c := by
  unfold decT at h
  unfold encT
  cases hw : widthK k with
  | none => rw [hw] at h; cases h
  | some w =>
    rw [hw] at h
    cases w with
    | zero =>
      simp only at h ⊢
      split at h
      · rename_i hv
        injection h with h; subst h
        rw [if_pos hv]
      · cases h
    | succ w =>
      simp only at h ⊢
      split at h
      · rename_i hv
        obtain ⟨hm, ha⟩ := hv
        injection h with h; subst h
        rw [List.all_eq_true] at ha
        have hp := pts_of (units (w + 1) c) (fun x hx => hasK_okc (ha x hx))
        rw [if_pos (validT_iff.2 ⟨by rw [hw]; rfl, _, hp, ha⟩), hp]
        simp only [Option.getD_some]
        rw [units_flat (by omega) c hm]
      · cases h
theorem encT_dec {k : Int} {c s : List UInt8} (h : encT k s = some c) : decT k c = some s := by
  unfold encT at h
  unfold decT
  split at h
  · rename_i hv
    obtain ⟨_, cs, hp, ha⟩ := validT_iff.1 hv
    cases hw : widthK k with
    | none => rw [hw] at h; cases h
    | some w =>
      rw [hw] at h
      cases w with
      | zero =>
        simp only at h ⊢
        injection h with h; subst h
        rw [if_pos hv]
      | succ w =>
        simp only [hp, Option.getD_some] at h ⊢
        injection h with h; subst h
        have hu := units_of (w := w + 1) (by omega) cs (fun c hc => hasK_lt hw (ha c hc))
        rw [if_pos ⟨by rw [flat_beW_len]; simp, by rw [hu, List.all_eq_true]; exact ha⟩, hu, (pts_enc s cs hp).2]
  · cases h
theorem decT_iff {k : Int} {c s : List UInt8} : decT k c = some s ↔ encT k s = some c := ⟨decT_enc, encT_dec⟩
theorem encT_isSome (k : Int) (s : List UInt8) : (encT k s).isSome = validT k s := by
  unfold encT
  split
  · rename_i hv
    obtain ⟨hw, _⟩ := validT_iff.1 hv
    rw [hv]
    cases hw' : widthK k with
    | none => rw [hw'] at hw; cases hw
    | some w => cases w <;> rfl
  · rename_i hv
    simp at hv
    rw [hv]; rfl
theorem encT_valid {k : Int} {s c : List UInt8} (h : encT k s = some c) : validT k s = true := by rw [← encT_isSome, h]; rfl
end Go.Cr
end

/- Code points, as the reference finds them. No program in sight. -/
section
set_option linter.unusedSimpArgs false
set_option linter.unusedVariables false
namespace Go.Cr
open Go.Lib
def octsR (c : Int) : List UInt8 := if okc c then enc1 c.toNat else []
theorem octsR_len (c : Int) : (octsR c).length ≤ 4 := by
  unfold octsR
  split
  · rename_i h
    have h0 := okc_iff.1 h
    have := (enc1_len (c := c.toNat) (by rw [show ((c.toNat : Nat) : Int) = c by omega]; exact h)).2
    exact this
  · simp
theorem octsR_ok {c : Nat} (h : okc c = true) : octsR c = enc1 c := by unfold octsR; rw [if_pos h]; simp
/-! ### The reference's way back from contents octets -/
def backR (w : Nat) (c : List UInt8) : List UInt8 := if w = 0 then c else (units w (c.take (c.length / w * w))).flatMap (fun x : Nat => octsR x)
theorem decT_back {k : Int} {w : Nat} {c : List UInt8} (hw : widthK k = some w) : (∀ s, decT k c = some s → s = backR w c ∧ encT k (backR w c) = some c) ∧ (encT k (backR w c) = some c → decT k c = some (backR w c)) := by
  refine ⟨fun s h => ?_, fun h => decT_iff.2 h⟩
  have h2 := decT_iff.1 h
  suffices hs : s = backR w c by exact ⟨hs, by rw [← hs]; exact h2⟩
  unfold decT at h
  rw [hw] at h
  cases w with
  | zero =>
    simp only at h
    split at h
    · injection h with h; rw [← h]; rfl
    · cases h
  | succ w =>
    simp only at h
    split at h
    · rename_i hv
      obtain ⟨hm, ha⟩ := hv
      injection h with h
      unfold backR
      rw [if_neg (by omega)]
      have : c.length / (w + 1) * (w + 1) = c.length := by
        have := Nat.div_add_mod c.length (w + 1)
        rw [hm, Nat.add_zero, Nat.mul_comm] at this
        exact this
      rw [this, List.take_length, ← h]
      rw [List.all_eq_true] at ha
      have key : ∀ us : List Nat, (∀ x ∈ us, hasK k (x : Int) = true) → us.flatMap enc1 = us.flatMap (fun x : Nat => octsR x) := by
        intro us
        induction us with
        | nil => intro _; simp
        | cons u t ih =>
          intro h
          have h1 : octsR (u : Int) = enc1 u := octsR_ok (hasK_okc (h u (by simp)))
          have h2 := ih (fun x hx => h x (by simp [hx]))
          rw [List.flatMap_cons, List.flatMap_cons, h2, h1]
      exact key _ ha
    · cases h
end Go.Cr
end
