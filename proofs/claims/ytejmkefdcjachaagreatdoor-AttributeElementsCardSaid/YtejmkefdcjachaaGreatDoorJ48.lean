/- The parts RefT of one proof, one behind the other. -/
import Derived.Test.YtejmkefdcjachaaGreatDoorJ47

/- Walks over the reference's layer 7 (charset): width, has, Valid. -/
section
set_option linter.unusedSimpArgs false
set_option linter.unusedVariables false
namespace Go.Proofs.YtejmkefdcjachaaGreatDoor
open Go.RowKit Go.Cr

/-- The width as the reference has it: -1 where there is no such kind. -/
def widR (k : Int) : Int := match widthK k with
  | some n => (n : Int)
  | none => -1
theorem widR_neg {k : Int} : widR k < 0 ↔ widthK k = none := by
  unfold widR
  cases widthK k with
  | none => simp
  | some n => simp
theorem kinds (k : Int) : (k = 12 ∨ k = 28 ∨ k = 30 ∨ k = 19 ∨ k = 20 ∨ k = 22 ∨ k = 26) ∨ (k ≠ 12 ∧ k ≠ 28 ∧ k ≠ 30 ∧ k ≠ 19 ∧ k ≠ 20 ∧ k ≠ 22 ∧ k ≠ 26) := by omega
set_option maxRecDepth 100000 in
set_option maxHeartbeats 4000000 in
theorem width_any (k : Int) (w : World) : Calls Tryz.prog 70 #[.int .i64 k] w fun e w' => e = .returned (.int .i64 (widR k)) ∧ w' = w := by
  rcases kinds k with (rfl | rfl | rfl | rfl | rfl | rfl | rfl) | ⟨n1, n2, n3, n4, n5, n6, n7⟩
  all_goals try
    go_enter Tryz.func70, Tryz.ntmps70
    go_wp2_with fail
    go_ret
    exact ⟨rfl, rfl⟩
  have hv : widR k = -1 := by
    unfold widR widthK
    rw [if_neg n1, if_neg (by omega), if_neg n2, if_neg n3]
  rw [hv]
  have e1 : (k == 12) = false := beq_eq_false_iff_ne.2 n1
  have e2 : (k == 28) = false := beq_eq_false_iff_ne.2 n2
  have e3 : (k == 30) = false := beq_eq_false_iff_ne.2 n3
  have e4 : (k == 19) = false := beq_eq_false_iff_ne.2 n4
  have e5 : (k == 20) = false := beq_eq_false_iff_ne.2 n5
  have e6 : (k == 22) = false := beq_eq_false_iff_ne.2 n6
  have e7 : (k == 26) = false := beq_eq_false_iff_ne.2 n7
  clear n1 n2 n3 n4 n5 n6 n7 hv
  go_enter Tryz.func70, Tryz.ntmps70
  go_wp2_with fail
  go_ret
  exact ⟨rfl, rfl⟩

theorem octsR_pos (c : Int) : decide (0 < (octsR c).length) = okc c := by
  unfold octsR
  split
  · rename_i h
    have h0 := okc_iff.1 h
    have hh := (enc1_len (c := c.toNat) (by rw [show ((c.toNat : Nat) : Int) = c by omega]; exact h)).1
    rw [h]
    exact decide_eq_true (by omega)
  · rename_i h
    simp at h
    rw [h]
    rfl
/-- The octets' number alone. -/
def RetLn (n : Nat) (w : World) (e : Ending) (w' : World) : Prop := ∃ A k, e = .returned (.slice A n k) ∧ Below w.heap.size w w'
theorem octets_len (c : Nat) (w : World) (h1 : c < 1099511627776) : Calls Tryz.prog 71 #[.int .i64 (c : Int)] w (RetLn (octsR (c : Int)).length w) :=
  (octets_any c w h1).mono fun e w' ⟨v, he, ho, hb⟩ => by
    obtain ⟨A, k, rfl⟩ := isB_slice ho.isB
    exact ⟨A, k, he, hb⟩
set_option maxRecDepth 100000 in
set_option maxHeartbeats 4000000 in
theorem has_oct (k : Int) (c : Nat) (w : World) (h1 : c < 1099511627776) (hk : k = 12 ∨ k = 28) : Calls Tryz.prog 73 #[.int .i64 k, .int .i64 (c : Int)] w (RetB (.bool (okc c)) w) := by
  have HO : Hid (∀ W, Calls Tryz.prog 71 #[.int .i64 (c : Int)] W (RetLn (octsR (c : Int)).length W)) := fun W => octets_len c W h1
  have HP := Lib.hid (octsR_pos (c : Int))
  generalize (octsR (c : Int)).length = n at *
  generalize okc (c : Int) = B at *
  rcases hk with rfl | rfl
  all_goals
    go_enter Tryz.func73, Tryz.ntmps73
    go_wp2_with (((go_at_call 71); (with_reducible refine (HO.out _).mono ?_); rintro e w1 ⟨A1, k1, rfl, hbw1⟩))
    go_ret
    exact ⟨by rw [← HP.out]; rfl, hbw1⟩
set_option maxRecDepth 100000 in
set_option maxHeartbeats 4000000 in
theorem has_30 (c : Nat) (w : World) (h1 : c < 1099511627776) : Calls Tryz.prog 73 #[.int .i64 30, .int .i64 (c : Int)] w (RetB (.bool (hasK 30 c)) w) := by
  have HO : Hid (∀ W, Calls Tryz.prog 71 #[.int .i64 (c : Int)] W (RetLn (octsR (c : Int)).length W)) := fun W => octets_len c W h1
  have hp := octsR_pos (c : Int)
  have hv : hasK 30 (c : Int) = (okc (c : Int) && decide ((c : Int) ≤ 65535)) := rfl
  rw [hv]
  generalize (octsR (c : Int)).length = n at *
  generalize okc (c : Int) = B at *
  have HP := Lib.hid hp
  clear hp hv h1
  by_cases hn : 0 < n
  · have hB : B = true := by rw [← HP.out]; simp; omega
    subst hB
    have hnI : decide (0 < n) = true := decide_eq_true hn
    clear HP hn
    by_cases hc : (c : Int) ≤ 65535
    · rw [decide_eq_true hc]
      have hc2 : (c : Int) < 65536 := by omega
      clear hc
      go_enter Tryz.func73, Tryz.ntmps73
      go_wp2_with (((go_at_call 71); (with_reducible refine (HO.out _).mono ?_); rintro e w1 ⟨A1, k1, rfl, hbw1⟩))
      go_ret
      exact ⟨rfl, hbw1⟩
    · rw [decide_eq_false hc]
      have hc' : decide ((c : Int) < 65536) = false := decide_eq_false (by omega)
      clear hc
      go_enter Tryz.func73, Tryz.ntmps73
      go_wp2_with (((go_at_call 71); (with_reducible refine (HO.out _).mono ?_); rintro e w1 ⟨A1, k1, rfl, hbw1⟩))
      go_ret
      exact ⟨rfl, hbw1⟩
  · have hB : B = false := by rw [← HP.out]; simp; omega
    subst hB
    obtain rfl : n = 0 := by omega
    clear HP
    go_enter Tryz.func73, Tryz.ntmps73
    go_wp2_with (((go_at_call 71); (with_reducible refine (HO.out _).mono ?_); rintro e w1 ⟨A1, k1, rfl, hbw1⟩))
    go_ret
    exact ⟨rfl, hbw1⟩
set_option maxRecDepth 100000 in
set_option maxHeartbeats 4000000 in
theorem has_22 (c : Nat) (w : World) : Calls Tryz.prog 73 #[.int .i64 22, .int .i64 (c : Int)] w (RetB (.bool (hasK 22 c)) w) := by
  have hv : hasK 22 (c : Int) = (decide (0 ≤ (c : Int)) && decide ((c : Int) ≤ 127)) := rfl
  rw [hv]
  by_cases h : (c : Int) ≤ 127
  · rw [decide_eq_true h, decide_eq_true (by omega)]
    have h2 : (c : Int) < 128 := by omega
    clear h hv
    go_enter Tryz.func73, Tryz.ntmps73
    go_wp2_with fail
    (refine bodyPost_retB (v := .bool true) (by (simp only [results, Tryz.results73]; try go_simp)) rfl rfl ?_; ((repeat' (first | (with_reducible exact Below.refl _ _) | (with_reducible assumption) | (with_reducible refine Below.setCell ?_ ?_ _) | (with_reducible refine Below.alloc ?_ ?_ _) | (with_reducible refine Below.drew ?_) | (with_reducible refine below_drewN ?_ _) | (with_reducible refine Below.step (by with_reducible assumption) ?_ ?_))) <;> (first | omega | (simp; done) | (simp; omega))))
  · rw [decide_eq_false h, decide_eq_true (by omega)]
    have h' : (128 : Int) ≤ c := by omega
    clear h
    go_enter Tryz.func73, Tryz.ntmps73
    go_wp2_with fail
    (refine bodyPost_retB (v := .bool false) (by (simp only [results, Tryz.results73]; try go_simp)) rfl rfl ?_; ((repeat' (first | (with_reducible exact Below.refl _ _) | (with_reducible assumption) | (with_reducible refine Below.setCell ?_ ?_ _) | (with_reducible refine Below.alloc ?_ ?_ _) | (with_reducible refine Below.drew ?_) | (with_reducible refine below_drewN ?_ _) | (with_reducible refine Below.step (by with_reducible assumption) ?_ ?_))) <;> (first | omega | (simp; done) | (simp; omega))))
set_option maxRecDepth 100000 in
set_option maxHeartbeats 4000000 in
theorem has_26 (c : Nat) (w : World) : Calls Tryz.prog 73 #[.int .i64 26, .int .i64 (c : Int)] w (RetB (.bool (hasK 26 c)) w) := by
  have hv : hasK 26 (c : Int) = (decide (32 ≤ (c : Int)) && decide ((c : Int) ≤ 126)) := rfl
  rw [hv]
  rcases (show (c : Int) < 32 ∨ (32 ≤ (c : Int) ∧ (c : Int) ≤ 126) ∨ 127 ≤ (c : Int) by omega) with h | ⟨h, h'⟩ | h
  · rw [decide_eq_false (by omega : ¬ (32 ≤ (c : Int))), Bool.false_and]
    go_enter Tryz.func73, Tryz.ntmps73
    go_wp2_with fail
    (refine bodyPost_retB (v := .bool false) (by (simp only [results, Tryz.results73]; try go_simp)) rfl rfl ?_; ((repeat' (first | (with_reducible exact Below.refl _ _) | (with_reducible assumption) | (with_reducible refine Below.setCell ?_ ?_ _) | (with_reducible refine Below.alloc ?_ ?_ _) | (with_reducible refine Below.drew ?_) | (with_reducible refine below_drewN ?_ _) | (with_reducible refine Below.step (by with_reducible assumption) ?_ ?_))) <;> (first | omega | (simp; done) | (simp; omega))))
  · rw [decide_eq_true h, decide_eq_true h']
    have h2 : (c : Int) < 127 := by omega
    clear h' hv
    go_enter Tryz.func73, Tryz.ntmps73
    go_wp2_with fail
    (refine bodyPost_retB (v := .bool true) (by (simp only [results, Tryz.results73]; try go_simp)) rfl rfl ?_; ((repeat' (first | (with_reducible exact Below.refl _ _) | (with_reducible assumption) | (with_reducible refine Below.setCell ?_ ?_ _) | (with_reducible refine Below.alloc ?_ ?_ _) | (with_reducible refine Below.drew ?_) | (with_reducible refine below_drewN ?_ _) | (with_reducible refine Below.step (by with_reducible assumption) ?_ ?_))) <;> (first | omega | (simp; done) | (simp; omega))))
  · rw [decide_eq_false (by omega : ¬ ((c : Int) ≤ 126)), Bool.and_false]
    go_enter Tryz.func73, Tryz.ntmps73
    go_wp2_with fail
    (refine bodyPost_retB (v := .bool false) (by (simp only [results, Tryz.results73]; try go_simp)) rfl rfl ?_; ((repeat' (first | (with_reducible exact Below.refl _ _) | (with_reducible assumption) | (with_reducible refine Below.setCell ?_ ?_ _) | (with_reducible refine Below.alloc ?_ ?_ _) | (with_reducible refine Below.drew ?_) | (with_reducible refine below_drewN ?_ _) | (with_reducible refine Below.step (by with_reducible assumption) ?_ ?_))) <;> (first | omega | (simp; done) | (simp; omega))))
set_option maxRecDepth 100000 in
set_option maxHeartbeats 4000000 in
theorem has_20 (c : Nat) (w : World) : Calls Tryz.prog 73 #[.int .i64 20, .int .i64 (c : Int)] w (RetB (.bool (hasK 20 c)) w) := by
  have hv : hasK 20 (c : Int) = ((decide (32 ≤ (c : Int)) && decide ((c : Int) ≤ 126)) || (decide (160 ≤ (c : Int)) && decide ((c : Int) ≤ 255))) := rfl
  rcases (show (c : Int) < 32 ∨ (32 ≤ (c : Int) ∧ (c : Int) ≤ 126) ∨ (127 ≤ (c : Int) ∧ (c : Int) < 160) ∨ (160 ≤ (c : Int) ∧ (c : Int) ≤ 255) ∨ 256 ≤ (c : Int) by omega) with h | ⟨h, h'⟩ | ⟨h, h'⟩ | ⟨h, h'⟩ | h
  · have : hasK 20 (c : Int) = false := by rw [hv]; simp; omega
    rw [this]
    clear hv this
    go_enter Tryz.func73, Tryz.ntmps73
    go_wp2_with fail
    (refine bodyPost_retB (v := .bool false) (by (simp only [results, Tryz.results73]; try go_simp)) rfl rfl ?_; ((repeat' (first | (with_reducible exact Below.refl _ _) | (with_reducible assumption) | (with_reducible refine Below.setCell ?_ ?_ _) | (with_reducible refine Below.alloc ?_ ?_ _) | (with_reducible refine Below.drew ?_) | (with_reducible refine below_drewN ?_ _) | (with_reducible refine Below.step (by with_reducible assumption) ?_ ?_))) <;> (first | omega | (simp; done) | (simp; omega))))
  · have : hasK 20 (c : Int) = true := by rw [hv]; simp; omega
    rw [this]
    clear hv this
    go_enter Tryz.func73, Tryz.ntmps73
    go_wp2_with fail
    (refine bodyPost_retB (v := .bool true) (by (simp only [results, Tryz.results73]; try go_simp)) rfl rfl ?_; ((repeat' (first | (with_reducible exact Below.refl _ _) | (with_reducible assumption) | (with_reducible refine Below.setCell ?_ ?_ _) | (with_reducible refine Below.alloc ?_ ?_ _) | (with_reducible refine Below.drew ?_) | (with_reducible refine below_drewN ?_ _) | (with_reducible refine Below.step (by with_reducible assumption) ?_ ?_))) <;> (first | omega | (simp; done) | (simp; omega))))
  · have : hasK 20 (c : Int) = false := by rw [hv]; simp; omega
    rw [this]
    clear hv this
    go_enter Tryz.func73, Tryz.ntmps73
    go_wp2_with fail
    (refine bodyPost_retB (v := .bool false) (by (simp only [results, Tryz.results73]; try go_simp)) rfl rfl ?_; ((repeat' (first | (with_reducible exact Below.refl _ _) | (with_reducible assumption) | (with_reducible refine Below.setCell ?_ ?_ _) | (with_reducible refine Below.alloc ?_ ?_ _) | (with_reducible refine Below.drew ?_) | (with_reducible refine below_drewN ?_ _) | (with_reducible refine Below.step (by with_reducible assumption) ?_ ?_))) <;> (first | omega | (simp; done) | (simp; omega))))
  · have : hasK 20 (c : Int) = true := by rw [hv]; simp; omega
    rw [this]
    have h3 : decide ((c : Int) < 127) = false := decide_eq_false (by omega)
    have h4 : (32 : Int) ≤ c := by omega
    have h5 : (c : Int) < 256 := by omega
    clear hv this h'
    go_enter Tryz.func73, Tryz.ntmps73
    go_wp2_with fail
    (refine bodyPost_retB (v := .bool true) (by (simp only [results, Tryz.results73]; try go_simp)) rfl rfl ?_; ((repeat' (first | (with_reducible exact Below.refl _ _) | (with_reducible assumption) | (with_reducible refine Below.setCell ?_ ?_ _) | (with_reducible refine Below.alloc ?_ ?_ _) | (with_reducible refine Below.drew ?_) | (with_reducible refine below_drewN ?_ _) | (with_reducible refine Below.step (by with_reducible assumption) ?_ ?_))) <;> (first | omega | (simp; done) | (simp; omega))))
  · have : hasK 20 (c : Int) = false := by rw [hv]; simp; omega
    rw [this]
    have h3 : (127 : Int) ≤ c := by omega
    clear hv this
    go_enter Tryz.func73, Tryz.ntmps73
    go_wp2_with fail
    (refine bodyPost_retB (v := .bool false) (by (simp only [results, Tryz.results73]; try go_simp)) rfl rfl ?_; ((repeat' (first | (with_reducible exact Below.refl _ _) | (with_reducible assumption) | (with_reducible refine Below.setCell ?_ ?_ _) | (with_reducible refine Below.alloc ?_ ?_ _) | (with_reducible refine Below.drew ?_) | (with_reducible refine below_drewN ?_ _) | (with_reducible refine Below.step (by with_reducible assumption) ?_ ?_))) <;> (first | omega | (simp; done) | (simp; omega))))
def othL : List Int := [32, 39, 40, 41, 43, 44, 45, 46, 47, 58, 61, 63]
def OtRel (c : Int) (ix : Value) : Prop := ∃ j : Nat, j ≤ 12 ∧ ix = .int .i64 (j : Int) ∧ ∀ m, m < j → othL[m]? ≠ some c
theorem oth_at : ∀ j : Fin 12, othL[j.val]? = some ((((⟨#[32, 39, 40, 41, 43, 44, 45, 46, 47, 58, 61, 63]⟩ : ByteArray)[j.val]'(by have := j.isLt; exact this)).toNat : Nat) : Int) := by decide
set_option maxRecDepth 100000 in
set_option maxHeartbeats 4000000 in
theorem has_19 (c : Nat) (w : World) : Calls Tryz.prog 73 #[.int .i64 19, .int .i64 (c : Int)] w (RetB (.bool (hasK 19 c)) w) := by
  have HP : Hid (hasK 19 (c : Int) = (((decide (97 ≤ (c : Int)) && decide ((c : Int) ≤ 122)) || (decide (65 ≤ (c : Int)) && decide ((c : Int) ≤ 90)) || (decide (48 ≤ (c : Int)) && decide ((c : Int) ≤ 57))) || othL.contains (c : Int))) := rfl
  by_cases hin : (97 ≤ (c : Int) ∧ (c : Int) ≤ 122) ∨ (65 ≤ (c : Int) ∧ (c : Int) ≤ 90) ∨ (48 ≤ (c : Int) ∧ (c : Int) ≤ 57)
  · have hv : hasK 19 (c : Int) = true := by rw [HP.out]; simp; omega
    rw [hv]
    clear hv HP
    rcases hin with ⟨k1, k2⟩ | ⟨k1, k2⟩ | ⟨k1, k2⟩
    · have k3 : (58 : Int) ≤ c := by omega
      have k4 : (91 : Int) ≤ c := by omega
      go_enter Tryz.func73, Tryz.ntmps73
      go_wp2_with fail
      (refine bodyPost_retB (v := .bool true) (by (simp only [results, Tryz.results73]; try go_simp)) rfl rfl ?_; ((repeat' (first | (with_reducible exact Below.refl _ _) | (with_reducible assumption) | (with_reducible refine Below.setCell ?_ ?_ _) | (with_reducible refine Below.alloc ?_ ?_ _) | (with_reducible refine Below.drew ?_) | (with_reducible refine below_drewN ?_ _) | (with_reducible refine Below.step (by with_reducible assumption) ?_ ?_))) <;> (first | omega | (simp; done) | (simp; omega))))
    · have k3 : (58 : Int) ≤ c := by omega
      go_enter Tryz.func73, Tryz.ntmps73
      go_wp2_with fail
      (refine bodyPost_retB (v := .bool true) (by (simp only [results, Tryz.results73]; try go_simp)) rfl rfl ?_; ((repeat' (first | (with_reducible exact Below.refl _ _) | (with_reducible assumption) | (with_reducible refine Below.setCell ?_ ?_ _) | (with_reducible refine Below.alloc ?_ ?_ _) | (with_reducible refine Below.drew ?_) | (with_reducible refine below_drewN ?_ _) | (with_reducible refine Below.step (by with_reducible assumption) ?_ ?_))) <;> (first | omega | (simp; done) | (simp; omega))))
    · go_enter Tryz.func73, Tryz.ntmps73
      go_wp2_with fail
      (refine bodyPost_retB (v := .bool true) (by (simp only [results, Tryz.results73]; try go_simp)) rfl rfl ?_; ((repeat' (first | (with_reducible exact Below.refl _ _) | (with_reducible assumption) | (with_reducible refine Below.setCell ?_ ?_ _) | (with_reducible refine Below.alloc ?_ ?_ _) | (with_reducible refine Below.drew ?_) | (with_reducible refine below_drewN ?_ _) | (with_reducible refine Below.step (by with_reducible assumption) ?_ ?_))) <;> (first | omega | (simp; done) | (simp; omega))))
  · have hv : hasK 19 (c : Int) = othL.contains (c : Int) := by
      rw [HP.out]
      have : ((decide (97 ≤ (c : Int)) && decide ((c : Int) ≤ 122)) || (decide (65 ≤ (c : Int)) && decide ((c : Int) ≤ 90)) || (decide (48 ≤ (c : Int)) && decide ((c : Int) ≤ 57))) = false := by
        rw [Bool.eq_false_iff]
        intro h
        simp only [Bool.or_eq_true, Bool.and_eq_true, decide_eq_true_eq] at h
        omega
      rw [this, Bool.false_or]
    obtain ⟨B, hB⟩ : ∃ B, othL.contains (c : Int) = B := ⟨_, rfl⟩
    rw [hv, hB]
    have HB := Lib.hid hB
    clear hv HP hB
    rcases (show (c : Int) < 48 ∨ (57 < (c : Int) ∧ (c : Int) < 65) ∨ (90 < (c : Int) ∧ (c : Int) < 97) ∨ 122 < (c : Int) by omega) with k1 | ⟨k1, k2⟩ | ⟨k1, k2⟩ | k1
    all_goals
      clear hin
      go_enter Tryz.func73, Tryz.ntmps73
      go_wp2_with fail
      go_loop [6] (fun ix => OtRel (c : Int) ix) (fun ix => 13 - (intOf ix).toNat)
      case atStart => exact ⟨0, by omega, rfl, fun m h => by omega⟩
      case round =>
        obtain ⟨j, hj, rfl, hno⟩ := hrel
        have HNO := Lib.hid hno
        clear hno
        by_cases hlt : j < 12
        · have hat := oth_at ⟨j, hlt⟩
          simp only at hat
          have hjI : (j : Int) < 12 := by omega
          have hjs : j < (⟨#[32, 39, 40, 41, 43, 44, 45, 46, 47, 58, 61, 63]⟩ : ByteArray).size := hlt
          obtain ⟨y, hy⟩ : ∃ y : Nat, ((⟨#[32, 39, 40, 41, 43, 44, 45, 46, 47, 58, 61, 63]⟩ : ByteArray)[j]'hjs).toNat = y := ⟨_, rfl⟩
          have hyI : ((((⟨#[32, 39, 40, 41, 43, 44, 45, 46, 47, 58, 61, 63]⟩ : ByteArray)[j]'hjs).toNat : Nat) : Int) = (y : Int) := by rw [hy]
          have hat2 : othL[j]? = some (y : Int) := by rw [← hyI]; exact hat
          have hyb : (y : Int) < 256 := by rw [← hyI]; have := ((⟨#[32, 39, 40, 41, 43, 44, 45, 46, 47, 58, 61, 63]⟩ : ByteArray)[j]'hjs).toNat_lt; omega
          have HAT := Lib.hid hat2
          clear hat hat2 hy
          by_cases hyc : (y : Int) = c
          · have hBt : B = true := by
              rw [← HB.out, List.contains_eq_mem, decide_eq_true_eq, ← hyc]
              exact List.mem_of_getElem? HAT.out
            have he : ((y : Int) == (c : Int)) = true := by rw [hyc]; exact beq_self_eq_true _
            have HBT := Lib.hid hBt
            clear HB HNO hBt HAT hyc
            go_wp2_with fail
            go_ret
            exact ⟨by rw [HBT.out]; rfl, by ((repeat' (first | (with_reducible exact Below.refl _ _) | (with_reducible assumption) | (with_reducible refine Below.setCell ?_ ?_ _) | (with_reducible refine Below.alloc ?_ ?_ _) | (with_reducible refine Below.drew ?_) | (with_reducible refine below_drewN ?_ _) | (with_reducible refine Below.step (by with_reducible assumption) ?_ ?_))) <;> (first | omega | (simp; done) | (simp; omega)))⟩
          · have he : ((y : Int) == (c : Int)) = false := beq_eq_false_iff_ne.2 hyc
            have HYC := Lib.hid hyc
            clear hyc
            go_wp2_with fail
            go_round
            case rel =>
              refine ⟨j + 1, by omega, by go_num, fun m hm => ?_⟩
              by_cases hmj : m < j
              · exact HNO.out m hmj
              · obtain rfl : m = j := by omega
                rw [HAT.out]
                exact fun e => HYC.out (Option.some.inj e)
            case measure => (simp [intOf]; try omega)
        · obtain rfl : j = 12 := by omega
          have hBf : B = false := by
            rw [← HB.out, List.contains_eq_mem, decide_eq_false_iff_not]
            intro hm
            obtain ⟨m, hm⟩ := List.getElem?_of_mem hm
            have : m < 12 := by
              rcases Nat.lt_or_ge m 12 with h | h
              · exact h
              · rw [List.getElem?_eq_none (by exact h)] at hm; cases hm
            exact HNO.out m this hm
          have HBF := Lib.hid hBf
          clear HB HNO hBf
          go_wp2_with fail
          go_ret
          exact ⟨by rw [HBF.out]; rfl, by ((repeat' (first | (with_reducible exact Below.refl _ _) | (with_reducible assumption) | (with_reducible refine Below.setCell ?_ ?_ _) | (with_reducible refine Below.alloc ?_ ?_ _) | (with_reducible refine Below.drew ?_) | (with_reducible refine below_drewN ?_ _) | (with_reducible refine Below.step (by with_reducible assumption) ?_ ?_))) <;> (first | omega | (simp; done) | (simp; omega)))⟩
theorem has_any (k : Int) (c : Nat) (w : World) (h1 : c < 1099511627776) (hk : (widthK k).isSome = true) : Calls Tryz.prog 73 #[.int .i64 k, .int .i64 (c : Int)] w (RetB (.bool (hasK k c)) w) := by
  rcases kinds k with (rfl | rfl | rfl | rfl | rfl | rfl | rfl) | ⟨n1, n2, n3, n4, n5, n6, n7⟩
  · exact has_oct 12 c w h1 (.inl rfl)
  · exact has_oct 28 c w h1 (.inr rfl)
  · exact has_30 c w h1
  · exact has_19 c w
  · exact has_20 c w
  · exact has_22 c w
  · exact has_26 c w
  · unfold widthK at hk
    rw [if_neg n1, if_neg (by omega), if_neg n2, if_neg n3] at hk
    cases hk
end Go.Proofs.YtejmkefdcjachaaGreatDoor
end
