/- Walks over the references of layers 1 and 2: Uint, Length, ReadLength. -/
import Derived.Test.YtecbphbnacbepaaRefA
set_option linter.unusedSimpArgs false
set_option linter.unusedVariables false
namespace Go.Proofs.Ytecbphbnacbepaa
open Go.RowKit Go.Cr

/-- How many elements a slice has. -/
def vlen : Value → Nat | .slice _ n _ => n | _ => 0
theorem vlen_isB {w : World} {v : Value} {l : List UInt8} (h : IsB w v l) : vlen v = l.length := by obtain ⟨A, c, rfl, _⟩ := h; rfl
/-- Without the zeros at the beginning. -/
def strip : List UInt8 → List UInt8
  | [] => []
  | x :: t => if bi x = 0 then strip t else x :: t
theorem strip_drop (d : List UInt8) (h : 0 < d.length) (hz : bat d 0 = 0) : strip (d.drop 1) = strip d := by
  cases d with
  | nil => simp at h
  | cons x t => simp only [bat_cons_zero] at hz; simp [strip, hz]

theorem be_strip (l : List UInt8) : be (strip l) = be l := by
  induction l with
  | nil => rfl
  | cons x t ih =>
    simp only [strip]
    split
    · rename_i h; rw [ih]; simp [be, h]
    · rfl
theorem strip_len (l : List UInt8) : (strip l).length ≤ l.length := by
  induction l with
  | nil => simp [strip]
  | cons x t ih => simp only [strip]; split <;> simp; omega

set_option maxRecDepth 100000 in
set_option maxHeartbeats 2000000 in
theorem rUint (v : Value) (l : List UInt8) (w : World) (hv : IsB w v l) (hl : l.length ≤ 8) :
    Calls Try.prog 80 #[v] w fun e w' => e = .returned (.tuple #[.int .u64 (be l), .bool true]) ∧ w = w' := by
  go_enter Try.func80, Try.ntmps80
  go_wp2
  go_loop [0] (fun u => ∃ d, IsB w u d ∧ strip d = strip l ∧ d.length ≤ 8) (fun u => vlen u)
  case atStart => exact ⟨l, hv, rfl, hl⟩
  case round =>
    obtain ⟨d, hd, hs, hl8⟩ := hrel
    have HD := Lib.hid hd
    have HS := Lib.hid hs
    clear hs hd
    have hlen := HD.out.len ulB
    by_cases h0 : 0 < d.length
    · obtain ⟨b, o, hi, hw, hc⟩ := HD.out.at_ (P := Try.prog) ulB szB .i64 (i := 0) (by omega) (by omega)
      simp only [Int.toNat_zero] at hc
      by_cases hz : bat d 0 = 0
      · obtain ⟨v1, hcut, hv1⟩ := HD.out.cutLo (P := Try.prog) ulB szB .i64 (lo := 1) (by omega) (by omega)
        have hq : (bat d 0 == 0) = true := by simp [hz]
        have h0' : (0 : Int) < d.length := by omega
        have HS1 : Hid (strip (d.drop 1) = strip l) := by show strip (d.drop 1) = _; rw [strip_drop d h0 hz, HS.out]
        have HM : Hid (vlen v1 < vlen u0) := by show vlen v1 < vlen u0; rw [vlen_isB hv1, vlen_isB HD.out]; simp; omega
        have HV1 := Lib.hid hv1
        clear hz hv1
        go_wp2
        go_round
        case rel => exact ⟨d.drop 1, HV1.out, HS1.out, by simp; omega⟩
        case measure => exact HM.out
      · have hq : (bat d 0 == 0) = false := by simp [hz]
        have h0' : (0 : Int) < d.length := by omega
        clear hz
        go_wp2
        go_loop [4, 5] (fun n i => ∃ k : Nat, k ≤ d.length ∧ i = .int .i64 k ∧ n = .int .u64 (be (d.take k))) (fun _ i => d.length - (intOf i).toNat)
        case atStart => exact ⟨0, Nat.zero_le _, rfl, rfl⟩
        case round =>
          obtain ⟨k, hk, rfl, rfl⟩ := hrel
          by_cases hkd : k < d.length
          · obtain ⟨b', o', hi', hw', hc'⟩ := HD.out.at_ (P := Try.prog) ulB szB .i64 (i := k) (by omega) (by omega)
            simp only [Int.toNat_natCast] at hc'
            have hbb := be_bound (d.take k)
            have hln : (d.take k).length = k := by simp; omega
            rw [hln] at hbb
            have hpw : (256 : Int) ^ k ≤ 256 ^ 7 := pow256_mono (by omega)
            have HB' := Lib.hid (be_take_succ d k hkd)
            have hN0 := hbb.1
            have hN1 : be (d.take k) < 72057594037927936 := by have := hbb.2; omega
            have hX0 := bat_pos d k
            have hX1 := bat_lt d k
            clear hbb hln hpw
            generalize be (d.take k) = N at *
            have hkd' : (k : Int) < d.length := by omega
            go_wp2
            go_round
            case rel => exact ⟨k + 1, by omega, by go_num, by rw [HB'.out]⟩
            case measure => simp [intOf]; omega
          · have hfin : be (d.take k) = be l := by rw [List.take_of_length_le (by omega), ← be_strip d, HS.out, be_strip]
            rw [hfin]
            have hkd' : (d.length : Int) ≤ k := by omega
            go_wp2
            go_ret2
            exact ⟨rfl, rfl⟩
    · have h0' : (d.length : Int) ≤ 0 := by omega
      go_wp2
      all_goals
        go_loop [4, 5] (fun n i => ∃ k : Nat, k ≤ d.length ∧ i = .int .i64 k ∧ n = .int .u64 (be (d.take k))) (fun _ i => d.length - (intOf i).toNat)
        case atStart => exact ⟨0, Nat.zero_le _, rfl, rfl⟩
        case round =>
          obtain ⟨k, hk, rfl, rfl⟩ := hrel
          by_cases hkd : k < d.length
          · obtain ⟨b', o', hi', hw', hc'⟩ := HD.out.at_ (P := Try.prog) ulB szB .i64 (i := k) (by omega) (by omega)
            simp only [Int.toNat_natCast] at hc'
            have hbb := be_bound (d.take k)
            have hln : (d.take k).length = k := by simp; omega
            rw [hln] at hbb
            have hpw : (256 : Int) ^ k ≤ 256 ^ 7 := pow256_mono (by omega)
            have HB' := Lib.hid (be_take_succ d k hkd)
            have hN0 := hbb.1
            have hN1 : be (d.take k) < 72057594037927936 := by have := hbb.2; omega
            have hX0 := bat_pos d k
            have hX1 := bat_lt d k
            clear hbb hln hpw
            generalize be (d.take k) = N at *
            have hkd' : (k : Int) < d.length := by omega
            go_wp2
            go_round
            case rel => exact ⟨k + 1, by omega, by go_num, by rw [HB'.out]⟩
            case measure => simp [intOf]; omega
          · have hfin : be (d.take k) = be l := by rw [List.take_of_length_le (by omega), ← be_strip d, HS.out, be_strip]
            rw [hfin]
            have hkd' : (d.length : Int) ≤ k := by omega
            go_wp2
            go_ret2
            exact ⟨rfl, rfl⟩
end Go.Proofs.Ytecbphbnacbepaa
