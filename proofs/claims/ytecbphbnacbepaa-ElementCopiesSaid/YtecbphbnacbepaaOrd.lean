/- Walks over the loops that compare parts. -/
import Derived.Test.YtecbphbnacbepaaCmp
import Derived.Test.YtecbphbnacbepaaSpecJ
import Derived.Test.YtecbphbnacbepaaCat
import Derived.BigQuiet
set_option linter.unusedSimpArgs false
set_option linter.unusedVariables false
namespace Go.Proofs.Ytecbphbnacbepaa
open Go.RowKit Go.Cr

set_option maxRecDepth 100000 in
set_option maxHeartbeats 2000000 in
theorem slices_same (a b : Value) (ls : List (List UInt8)) (w : World) (ha : IsBs w a ls) (hb : IsBs w b ls) :
    Calls Try.prog 27 #[a, b] w (RetB (.bool true) w) := by
  have h1 := ha.len ulBs
  have h2 := hb.len ulBs
  have hmx := ha.maxl
  have HA := Lib.hid ha
  have HB := Lib.hid hb
  clear ha hb
  go_enter Try.func27, Try.ntmps27
  go_wp2
  go_loopw [5] (fun i wr => EsRel ls.length w i wr) (fun i _ => ls.length - (intOf i).toNat)
  case atStart => exact ⟨0, by omega, rfl, Below.refl _ _⟩
  case round =>
    obtain ⟨k, hk, rfl, hbel⟩ := hrel
    by_cases hlt : (k : Int) < ls.length
    · obtain ⟨b1, o1, u1, hi1, hb1, hc1, hu1⟩ := (HA.out.below hbel).at_ (P := Try.prog) ulBs szBs .i64 (i := k) (by omega) hlt
      obtain ⟨b2, o2, u2, hi2, hb2, hc2, hu2⟩ := (HB.out.below hbel).at_ (P := Try.prog) ulBs szBs .i64 (i := k) (by omega) hlt
      simp only [Int.toNat_natCast] at hu1 hu2
      have HC := Lib.hid (fun n => bytes_s u1 u2 _ (wr.drewN n) (hu1.drewN n) (hu2.drewN n))
      clear hu1 hu2
      go_wp2
      go_quiet (first | (go_at_call 20; exact Calls.quiet_of_same (HC.out _)))
      go_wp2
      go_roundw
      case rel => exact ⟨k + 1, by omega, by go_num, by ((repeat' (first | (with_reducible exact Below.refl _ _) | (with_reducible assumption) | (with_reducible refine Below.setCell ?_ ?_ _) | (with_reducible refine Below.alloc ?_ ?_ _) | (with_reducible refine Below.drew ?_) | (with_reducible refine below_drewN ?_ _) | (with_reducible refine Below.step (by with_reducible assumption) ?_ ?_))) <;> (first | omega | (simp; done) | (simp; omega)))⟩
      case measure => simp [intOf]; omega
    · obtain rfl : k = ls.length := by omega
      go_wp2
      (refine bodyPost_retB (v := .bool true) (by (simp only [results, Try.results27]; try go_simp)) rfl rfl ?_; ((repeat' (first | (with_reducible exact Below.refl _ _) | (with_reducible assumption) | (with_reducible refine Below.setCell ?_ ?_ _) | (with_reducible refine Below.alloc ?_ ?_ _) | (with_reducible refine Below.drew ?_) | (with_reducible refine below_drewN ?_ _) | (with_reducible refine Below.step (by with_reducible assumption) ?_ ?_))) <;> (first | omega | (simp; done) | (simp; omega))))

def OrRel (ls : List (List UInt8)) (w : World) (d : Int) (i : Value) (wr : World) : Prop :=
  ∃ k : Nat, (k : Int) ≤ max d ls.length ∧ d ≤ k ∧ i = .int .i64 k ∧ (∀ j, j + 1 < k → cmpL (ls.getD j []) (ls.getD (j + 1) []) < 0) ∧ Below w.heap.size w wr

set_option maxRecDepth 100000 in
set_option maxHeartbeats 2000000 in
theorem rOrdered (v : Value) (ls : List (List UInt8)) (w : World) (hv : IsBs w v ls) : Calls Try.prog 31 #[v] w (RetB (.bool (ascB ls)) w) := by
  have h1 := hv.len ulBs
  have hmx := hv.maxl
  have HA := Lib.hid hv
  clear hv
  go_enter Try.func31, Try.ntmps31
  go_wp2
  go_loopw [3] (fun i wr => OrRel ls w 1 i wr) (fun i _ => ls.length - (intOf i).toNat)
  case atStart => exact ⟨1, by omega, by omega, rfl, fun j hj => absurd hj (by omega), Below.refl _ _⟩
  case round =>
    obtain ⟨k, hk, hk1, rfl, hall, hbel⟩ := hrel
    have HL := Lib.hid hall
    clear hall
    by_cases hlt : (k : Int) < ls.length
    · obtain ⟨b1, o1, u1, hi1, hb1, hc1, hu1⟩ := (HA.out.below hbel).at_ (P := Try.prog) ulBs szBs .i64 (i := (k : Int) - 1) (by omega) (by omega)
      obtain ⟨b2, o2, u2, hi2, hb2, hc2, hu2⟩ := (HA.out.below hbel).at_ (P := Try.prog) ulBs szBs .i64 (i := k) (by omega) hlt
      simp only [Int.toNat_natCast] at hu2
      rw [show ((k : Int) - 1).toNat = k - 1 by omega] at hu1
      have HC := Lib.hid (fun n => rCompare_d u1 u2 _ _ (wr.drewN n) (hu1.drewN n) (hu2.drewN n))
      have hsub : IntKind.i64.wrap ((k : Int) - 1) = (k : Int) - 1 := IntWalk.i64_in _ (by omega)
      clear hu1 hu2
      have hvals := cmpL_vals (ls.getD (k - 1) []) (ls.getD k [])
      have HE : Hid (∀ c : Int, cmpL (ls.getD (k - 1) []) (ls.getD k []) = c → (c < 0 → ∀ j, j + 1 < k + 1 → cmpL (ls.getD j []) (ls.getD (j + 1) []) < 0) ∧ (¬ c < 0 → ascB ls = false)) := by
        intro c hc
        refine ⟨fun h0 j hj => ?_, fun h0 => ?_⟩
        · rcases Nat.lt_or_ge (j + 1) k with h | h
          · exact HL.out j h
          · obtain rfl : j = k - 1 := by omega
            rw [show k - 1 + 1 = k by omega, hc]; exact h0
        · cases hb : ascB ls with
          | false => rfl
          | true =>
            have := ascB_at.1 hb (k - 1) (by omega)
            rw [show k - 1 + 1 = k by omega, hc] at this
            exact absurd this h0
      generalize cmpL (ls.getD (k - 1) []) (ls.getD k []) = c at *
      have HE2 := Lib.hid (HE.out c rfl)
      clear HE
      rcases hvals with rfl | rfl | rfl
      · go_wp2
        go_quiet (first | (go_at_call 29; exact Calls.quiet_of (HC.out _)))
        go_wp2
        go_roundw
        case rel => exact ⟨k + 1, by omega, by omega, by go_num, HE2.out.1 (by omega), by ((repeat' (first | (with_reducible exact Below.refl _ _) | (with_reducible assumption) | (with_reducible refine Below.setCell ?_ ?_ _) | (with_reducible refine Below.alloc ?_ ?_ _) | (with_reducible refine Below.drew ?_) | (with_reducible refine below_drewN ?_ _) | (with_reducible refine Below.step (by with_reducible assumption) ?_ ?_))) <;> (first | omega | (simp; done) | (simp; omega)))⟩
        case measure => simp [intOf]; omega
      · rw [HE2.out.2 (by omega)]
        go_wp2
        go_quiet (first | (go_at_call 29; exact Calls.quiet_of (HC.out _)))
        go_wp2
        (refine bodyPost_retB (v := .bool false) (by (simp only [results, Try.results31]; try go_simp)) rfl rfl ?_; ((repeat' (first | (with_reducible exact Below.refl _ _) | (with_reducible assumption) | (with_reducible refine Below.setCell ?_ ?_ _) | (with_reducible refine Below.alloc ?_ ?_ _) | (with_reducible refine Below.drew ?_) | (with_reducible refine below_drewN ?_ _) | (with_reducible refine Below.step (by with_reducible assumption) ?_ ?_))) <;> (first | omega | (simp; done) | (simp; omega))))
      · rw [HE2.out.2 (by omega)]
        go_wp2
        go_quiet (first | (go_at_call 29; exact Calls.quiet_of (HC.out _)))
        go_wp2
        (refine bodyPost_retB (v := .bool false) (by (simp only [results, Try.results31]; try go_simp)) rfl rfl ?_; ((repeat' (first | (with_reducible exact Below.refl _ _) | (with_reducible assumption) | (with_reducible refine Below.setCell ?_ ?_ _) | (with_reducible refine Below.alloc ?_ ?_ _) | (with_reducible refine Below.drew ?_) | (with_reducible refine below_drewN ?_ _) | (with_reducible refine Below.step (by with_reducible assumption) ?_ ?_))) <;> (first | omega | (simp; done) | (simp; omega))))
    · have hb : ascB ls = true := ascB_at.2 fun j hj => HL.out j (by omega)
      rw [hb]
      go_wp2
      (refine bodyPost_retB (v := .bool true) (by (simp only [results, Try.results31]; try go_simp)) rfl rfl ?_; ((repeat' (first | (with_reducible exact Below.refl _ _) | (with_reducible assumption) | (with_reducible refine Below.setCell ?_ ?_ _) | (with_reducible refine Below.alloc ?_ ?_ _) | (with_reducible refine Below.drew ?_) | (with_reducible refine below_drewN ?_ _) | (with_reducible refine Below.step (by with_reducible assumption) ?_ ?_))) <;> (first | omega | (simp; done) | (simp; omega))))
end Go.Proofs.Ytecbphbnacbepaa
