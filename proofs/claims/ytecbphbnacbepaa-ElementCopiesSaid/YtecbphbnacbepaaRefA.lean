/- Walks over the references of layers 1 and 2: Minimal, Compare, Uint, identifiers, Length. -/
import Derived.Test.YtecbphbnacbepaaTlvB
import Derived.Test.YtecbphbnacbepaaKitC
import Derived.Deep.QuietTactic
import Derived.BigQuiet
set_option linter.unusedSimpArgs false
set_option linter.unusedVariables false
namespace Go.Proofs.Ytecbphbnacbepaa
open Go.RowKit Go.Cr

theorem infoB : (Try.prog.info? 5).map (fun i => (i.zero, i.size, i.bytes)) = some (some (.int .u8 0), 1, 1) := by kernel_rfl

set_option maxRecDepth 100000 in
theorem rReadId_bad (n : Int) (w : World) (h0 : 0 ≤ n) (h1 : n < 256) (h : n % 32 = 31) :
    Calls Try.prog 62 #[.int .u8 n] w fun e w' => e = .returned (.tuple #[.int .i64 0, .bool false, .int .i64 0, .int .i64 3]) ∧ w = w' := by
  go_enter Try.func62, Try.ntmps62
  go_wp2
  exact bodyPost_ret (results_tmp4 rfl _ _ _) rfl ⟨rfl, rfl⟩
set_option maxRecDepth 100000 in
theorem rReadId_good (n : Int) (w : World) (h0 : 0 ≤ n) (h1 : n < 256) (h : n % 32 ≠ 31) :
    Calls Try.prog 62 #[.int .u8 n] w fun e w' => e = .returned (.tuple #[.int .i64 (n / 64), .bool (decide (n / 32 % 2 = 1)), .int .i64 (n % 32), .int .i64 0]) ∧ w = w' := by
  have h5 : (n % 32 == 31) = false := by simp [h]
  go_enter Try.func62, Try.ntmps62
  go_wp2
  refine bodyPost_ret (results_tmp4 rfl _ _ _) rfl ⟨?_, rfl⟩
  simp
  rw [Bool.eq_iff_iff]; simp

theorem OwB.oneN (w : World) (t : TypeId) (n : Nat) (hn : (n : Int) < 256) : OwB (w.alloc (.cells #[.int .u8 (n : Int)] t)) w.heap.size t (.slice (some ⟨w.heap.size, 0, none⟩) 1 1) [UInt8.ofNat n] := by
  have := OwB.one w t (UInt8.ofNat n) (Nat.le_refl _)
  rwa [bi_ofNat, show n % 256 = n by omega] at this

set_option maxRecDepth 100000 in
theorem rMinimal (k : Nat) : ∀ (n : Nat) (w : World), n < 256 ^ (k + 1) → k ≤ 7 → Calls Try.prog 65 #[.int .u64 n] w (RetO 5 (minF k n) w) := by
  induction k with
  | zero =>
    intro n w hn _
    have hn : (n : Int) < 256 := by have : n < 256 := by simpa using hn
                                    omega
    go_enter Try.func65, Try.ntmps65
    go_wp2_with fail
    go_ret
    refine ⟨_, rfl, OwB.oneN w _ n hn, ?_⟩
    ((repeat' (first | (with_reducible exact Below.refl _ _) | (with_reducible assumption) | (with_reducible refine Below.setCell ?_ ?_ _) | (with_reducible refine Below.alloc ?_ ?_ _) | (with_reducible refine Below.drew ?_) | (with_reducible refine below_drewN ?_ _) | (with_reducible refine Below.step (by with_reducible assumption) ?_ ?_))) <;> (first | omega | (simp; done) | (simp; omega)))
  | succ k ih =>
    intro n w hn hk
    by_cases hlt : (n : Int) < 256
    · have HM : Hid (minF (k + 1) n = [UInt8.ofNat n]) := by show minF (k + 1) n = _; simp only [minF]; rw [if_pos (by omega)]
      clear ih hn
      go_enter Try.func65, Try.ntmps65
      go_wp2_with fail
      go_ret
      rw [HM.out]
      refine ⟨_, rfl, OwB.oneN w _ n hlt, ?_⟩
      ((repeat' (first | (with_reducible exact Below.refl _ _) | (with_reducible assumption) | (with_reducible refine Below.setCell ?_ ?_ _) | (with_reducible refine Below.alloc ?_ ?_ _) | (with_reducible refine Below.drew ?_) | (with_reducible refine below_drewN ?_ _) | (with_reducible refine Below.step (by with_reducible assumption) ?_ ?_))) <;> (first | omega | (simp; done) | (simp; omega)))
    · have IH := Lib.hid (ih (n / 256) · (by rw [Nat.pow_succ] at hn; omega) (by omega))
      have HM : Hid (minF (k + 1) n = minF k (n / 256) ++ [UInt8.ofNat (n % 256)]) := by show minF (k + 1) n = _; simp only [minF]; rw [if_neg (by omega)]
      have hlen := minF_len k (n / 256)
      obtain ⟨hlen1, hlen2⟩ := hlen
      generalize minF k (n / 256) = m at *
      clear ih
      have hb : (n : Int) < 18446744073709551616 := by
        have : 256 ^ (k + 1 + 1) ≤ 256 ^ 8 := Nat.pow_le_pow_right (by decide) (by omega)
        omega
      rw [show ((n / 256 : Nat) : Int) = (n : Int) / 256 by omega] at IH
      have hbi : bi (UInt8.ofNat (n % 256)) = (n : Int) % 256 := by rw [bi_ofNat]; omega
      have HBI := Lib.hid hbi
      clear hbi
      generalize UInt8.ofNat (n % 256) = z at *
      go_enter Try.func65, Try.ntmps65
      go_wp2_with (first | (go_at_call 65; (with_reducible refine (IH.out _).mono ?_); rintro e w1 ⟨v1, rfl, ho, hb1⟩; have HO := Lib.hid ho; clear ho) | (at_builtin; refine wpList_appB _ rfl _ _ 30 rfl w.heap.size 5 ulB infoB _ _ rfl (HO.out.alloc _) _ _ rfl (isB_new _ _ _ _ HBI.out) ?k1 ?k2 ?_))
      case k1 => simp; omega
      case k2 => have := hb1.size; simp; omega
      intro v2 w2 ho2 _ hb2
      have HO2 := Lib.hid ho2
      clear ho2
      go_wp2
      go_ret
      rw [HM.out]
      exact ⟨_, rfl, HO2.out, ((hb1.alloc hb1.size _).trans hb2)⟩

/-! ### Compare -/
def CRel (a b : List UInt8) (i : Value) : Prop := ∃ k : Nat, k ≤ a.length ∧ k ≤ b.length ∧ i = .int .i64 k ∧ ∀ j, j < k → bat a j = bat b j

set_option maxRecDepth 100000 in
set_option maxHeartbeats 2000000 in
theorem rCompare (v1 v2 : Value) (a b : List UInt8) (w : World) (h1 : IsB w v1 a) (h2 : IsB w v2 b) :
    Calls Try.prog 29 #[v1, v2] w (RetB (.int .i64 (cmpL a b)) w) := by
  have hl1 := h1.len ulB
  have hl2 := h2.len ulB
  have hm1 := h1.maxl
  have hm2 := h2.maxl
  have H1 := Lib.hid h1
  have H2 := Lib.hid h2
  clear h1 h2
  go_enter Try.func29, Try.ntmps29
  go_wp2
  go_loopw [5] (fun i wr => CRel a b i ∧ ∃ n, wr = w.drewN n) (fun i _ => a.length - (intOf i).toNat)
  case atStart => exact ⟨⟨0, by omega, by omega, rfl, fun j h => by omega⟩, 0, rfl⟩
  case round =>
    obtain ⟨⟨k, hk1, hk2, rfl, heq⟩, n, rfl⟩ := hrel
    have HE := Lib.hid heq
    clear heq
    by_cases hka : k < a.length
    · by_cases hkb : k < b.length
      · obtain ⟨b1, o1, hi1, hw1, hc1⟩ := H1.out.at_ (P := Try.prog) ulB szB .i64 (i := k) (by omega) (by omega)
        obtain ⟨b2, o2, hi2, hw2, hc2⟩ := H2.out.at_ (P := Try.prog) ulB szB .i64 (i := k) (by omega) (by omega)
        simp only [Int.toNat_natCast] at hc1 hc2
        rcases Int.lt_trichotomy (bat a k) (bat b k) with hlt | heq | hgt
        · have HV : Hid ((.int .i64 (cmpL a b) : Value) = .int .i64 (-1)) := by show (_ : Value) = _; rw [cmpL_lt hka hkb HE.out hlt]
          go_wp2
          go_quiet (fail)
          go_wp2
          (refine bodyPost_retB (by (simp only [results, Try.results29]; try go_simp)) rfl HV.out.symm ?_; ((repeat' (first | (with_reducible exact Below.refl _ _) | (with_reducible assumption) | (with_reducible refine Below.setCell ?_ ?_ _) | (with_reducible refine Below.alloc ?_ ?_ _) | (with_reducible refine Below.drew ?_) | (with_reducible refine below_drewN ?_ _) | (with_reducible refine Below.step (by with_reducible assumption) ?_ ?_))) <;> (first | omega | (simp; done) | (simp; omega))))
        · have hs : ∀ j, j < k + 1 → bat a j = bat b j := by
            intro j hj
            rcases Nat.lt_or_ge j k with h | h
            · exact HE.out j h
            · obtain rfl : j = k := by omega
              exact heq
          have HS := Lib.hid hs
          have hn1 : bat a k ≤ bat b k := by omega
          have hn2 : bat b k ≤ bat a k := by omega
          clear hs heq
          go_wp2
          go_quiet (fail)
          go_wp2
          go_quiet (fail)
          go_wp2
          go_roundw
          case rel => exact ⟨⟨k + 1, by omega, by omega, by go_num, HS.out⟩, _, rfl⟩
          case measure => simp [intOf]; omega
        · have HV : Hid ((.int .i64 (cmpL a b) : Value) = .int .i64 1) := by show (_ : Value) = _; rw [cmpL_gt hka hkb HE.out hgt]
          go_wp2
          go_quiet (fail)
          go_wp2
          go_quiet (fail)
          go_wp2
          (refine bodyPost_retB (by (simp only [results, Try.results29]; try go_simp)) rfl HV.out.symm ?_; ((repeat' (first | (with_reducible exact Below.refl _ _) | (with_reducible assumption) | (with_reducible refine Below.setCell ?_ ?_ _) | (with_reducible refine Below.alloc ?_ ?_ _) | (with_reducible refine Below.drew ?_) | (with_reducible refine below_drewN ?_ _) | (with_reducible refine Below.step (by with_reducible assumption) ?_ ?_))) <;> (first | omega | (simp; done) | (simp; omega))))
      · have he := cmpL_end hk1 hk2 HE.out (.inr (by omega))
        have hbk : b.length = k := by omega
        rcases Nat.lt_trichotomy a.length b.length with h1 | h1 | h1
        · omega
        · omega
        · have HV : Hid ((.int .i64 (cmpL a b) : Value) = .int .i64 1) := by show (_ : Value) = _; rw [he, if_neg (by omega), if_pos (by omega)]
          clear he hbk
          go_wp2
          (refine bodyPost_retB (by (simp only [results, Try.results29]; try go_simp)) rfl HV.out.symm ?_; ((repeat' (first | (with_reducible exact Below.refl _ _) | (with_reducible assumption) | (with_reducible refine Below.setCell ?_ ?_ _) | (with_reducible refine Below.alloc ?_ ?_ _) | (with_reducible refine Below.drew ?_) | (with_reducible refine below_drewN ?_ _) | (with_reducible refine Below.step (by with_reducible assumption) ?_ ?_))) <;> (first | omega | (simp; done) | (simp; omega))))
    · have he := cmpL_end hk1 hk2 HE.out (.inl (by omega))
      have hbk : a.length = k := by omega
      rcases Nat.lt_trichotomy a.length b.length with h1 | h1 | h1
      · have HV : Hid ((.int .i64 (cmpL a b) : Value) = .int .i64 (-1)) := by show (_ : Value) = _; rw [he, if_pos (by omega)]
        clear he hbk
        go_wp2
        (refine bodyPost_retB (by (simp only [results, Try.results29]; try go_simp)) rfl HV.out.symm ?_; ((repeat' (first | (with_reducible exact Below.refl _ _) | (with_reducible assumption) | (with_reducible refine Below.setCell ?_ ?_ _) | (with_reducible refine Below.alloc ?_ ?_ _) | (with_reducible refine Below.drew ?_) | (with_reducible refine below_drewN ?_ _) | (with_reducible refine Below.step (by with_reducible assumption) ?_ ?_))) <;> (first | omega | (simp; done) | (simp; omega))))
      · have HV : Hid ((.int .i64 (cmpL a b) : Value) = .int .i64 0) := by show (_ : Value) = _; rw [he, if_neg (by omega), if_neg (by omega)]
        have h1a : (a.length : Int) ≤ b.length := by omega
        have h1b : (b.length : Int) ≤ a.length := by omega
        clear he hbk h1
        go_wp2
        (refine bodyPost_retB (by (simp only [results, Try.results29]; try go_simp)) rfl HV.out.symm ?_; ((repeat' (first | (with_reducible exact Below.refl _ _) | (with_reducible assumption) | (with_reducible refine Below.setCell ?_ ?_ _) | (with_reducible refine Below.alloc ?_ ?_ _) | (with_reducible refine Below.drew ?_) | (with_reducible refine below_drewN ?_ _) | (with_reducible refine Below.step (by with_reducible assumption) ?_ ?_))) <;> (first | omega | (simp; done) | (simp; omega))))
      · omega
end Go.Proofs.Ytecbphbnacbepaa
