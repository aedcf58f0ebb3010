/- Walks over layer 2 (tlv): identifier octets, length octets, headers. -/
import Derived.Test.YtecbphbnacbepaaRows
import Derived.Test.YtecbphbnacbepaaSpec
import Derived.RegionTactic
import Derived.WalkMore
set_option linter.unusedSimpArgs false
set_option linter.unusedVariables false
namespace Go.Proofs.Ytecbphbnacbepaa
open Go.RowKit Go.Cr

theorem ident_bad (c n : Int) (k : Bool) (w : World) (h : c < 0 ∨ 3 < c ∨ n < 0 ∨ 31 ≤ n) :
    Calls Try.prog 32 #[.int .i64 c, .bool k, .int .i64 n] w fun e w' => e = .returned (.tuple #[.int .u8 0, .int .i64 9]) ∧ w = w' := by
  go_enter Try.func32, Try.ntmps32
  go_wp2
  all_goals first | (exfalso; omega) | (go_ret2; exact ⟨rfl, rfl⟩)

theorem ident_good (c n : Int) (k : Bool) (w : World) (h : 0 ≤ c) (h1 : c ≤ 3) (h2 : 0 ≤ n) (h3 : n < 31) :
    Calls Try.prog 32 #[.int .i64 c, .bool k, .int .i64 n] w fun e w' => e = .returned (.tuple #[.int .u8 (c * 64 + n + if k then 32 else 0), .int .i64 0]) ∧ w = w' := by
  have e1 := i64_or_64 c n h h1 h2 (by omega)
  have e2 := u8_or_32 c n h h1 h2 (by omega)
  cases k
  · go_enter Try.func32, Try.ntmps32
    go_wp2
    go_ret2
    exact ⟨by simp, rfl⟩
  · go_enter Try.func32, Try.ntmps32
    go_wp2
    go_ret2
    exact ⟨by simp, rfl⟩

theorem readId_bad (n : Int) (w : World) (h0 : 0 ≤ n) (h1 : n < 256) (h : n % 32 = 31) :
    Calls Try.prog 60 #[.int .u8 n] w fun e w' => e = .returned (.tuple #[.int .i64 0, .bool false, .int .i64 0, .int .i64 3]) ∧ w = w' := by
  have h3 := u8_and_31 n h0 h1
  go_enter Try.func60, Try.ntmps60
  go_wp2
  exact bodyPost_ret (results_tmp4 rfl _ _ _) rfl ⟨rfl, rfl⟩
theorem readId_good (n : Int) (w : World) (h0 : 0 ≤ n) (h1 : n < 256) (h : n % 32 ≠ 31) :
    Calls Try.prog 60 #[.int .u8 n] w fun e w' => e = .returned (.tuple #[.int .i64 (n / 64), .bool (decide (n / 32 % 2 = 1)), .int .i64 (n % 32), .int .i64 0]) ∧ w = w' := by
  have h3 := u8_and_31 n h0 h1
  have h4 := u8_and_32 n h0 h1
  have h5 : (n % 32 == 31) = false := by simp [h]
  go_enter Try.func60, Try.ntmps60
  go_wp2
  refine bodyPost_ret (results_tmp4 rfl _ _ _) rfl ⟨?_, rfl⟩
  simp
  rw [Bool.eq_iff_iff]; simp; omega

theorem fail_any (c o : Int) (w : World) :
    Calls Try.prog 79 #[.int .i64 c, .int .i64 o] w fun e w' => e = .returned (.tuple #[.int .i64 0, .int .i64 0, .agg #[.int .i64 c, .int .i64 o]]) ∧ Below w.heap.size w w' := by
  go_enter Try.func79, Try.ntmps79
  go_wp2
  exact bodyPost_ret (by simp [results, Try.results79, go_sem]) rfl ⟨rfl, (Below.refl _ _).alloc (Nat.le_refl _) _⟩

theorem readLen_nil (A : Option Addr) (c : Nat) (w : World) : Calls Try.prog 61 #[.slice A 0 c] w (RetB (lenV (rdLen [])) w) := by
  go_enter Try.func61, Try.ntmps61
  go_wp2
  go_step3
  go_wp2_with (first | (go_at_call 79; refine (fail_any _ _ _).mono ?_; rintro e w1 ⟨rfl, hb⟩; obtain ⟨hc, hf⟩ := bcell hb; have hz := hb.size; simp at hz))
  rw [Exit.noGoto_ret]
  refine bodyPost_retB (v := .tuple #[.int .i64 0, .int .i64 0, errV (1, 0)]) (by simp [results, errV, Try.results61, hc, go_sem]) rfl (by simp [lenV, rdLen]) ?_
  ((repeat' (first | (with_reducible exact Below.refl _ _) | (with_reducible assumption) | (with_reducible refine Below.setCell ?_ ?_ _) | (with_reducible refine Below.alloc ?_ ?_ _) | (with_reducible refine Below.drew ?_) | (with_reducible refine below_drewN ?_ _) | (with_reducible refine Below.step (by with_reducible assumption) ?_ ?_))) <;> (first | omega | (simp; done) | (simp; omega)))

set_option maxRecDepth 100000 in
set_option maxHeartbeats 1000000 in
theorem readLen_pos (b off c : Nat) (l : List UInt8) (w : World) (hl : 0 < l.length) (hle : l.length ≤ c) (hcm : c ≤ 9223372036854775807) (hlt : b < w.heap.size) (h0 : w.cell? ⟨b, off, none⟩ = some (.int .u8 (bat l 0)))
    (hcell : ∀ j, j < l.length → w.cell? ⟨b, off + j, none⟩ = some (.int .u8 (bat l j))) :
    Calls Try.prog 61 #[.slice (some ⟨b, off, none⟩) l.length c] w (RetB (lenV (rdLen l)) w) := by
  have hx1 := bat_lt l 0
  have hx0 := bat_pos l 0
  have hlb : ((l.length : Int) == 0) = false := beq_eq_false_iff_ne.2 (by omega)
  have HC := Lib.hid hcell
  clear hcell
  by_cases c1 : bat l 0 < 128
  · have hv : lenV (rdLen l) = .tuple #[.int .i64 (bat l 0), .int .i64 1, errV (0, 0)] := by
      unfold rdLen; (repeat (first | rw [if_pos (by omega)] | rw [if_neg (by omega)])); rfl
    have HV := Lib.hid hv
    clear hv
    go_enter Try.func61, Try.ntmps61
    go_wp2
    go_step3
    go_wp2
    rw [Exit.noGoto_ret]
    refine bodyPost_retB ?_ rfl HV.out.symm ?_
    · simp [results, errV, Try.results61, go_sem]
    · ((repeat' (first | (with_reducible exact Below.refl _ _) | (with_reducible assumption) | (with_reducible refine Below.setCell ?_ ?_ _) | (with_reducible refine Below.alloc ?_ ?_ _) | (with_reducible refine Below.drew ?_) | (with_reducible refine below_drewN ?_ _) | (with_reducible refine Below.step (by with_reducible assumption) ?_ ?_))) <;> (first | omega | (simp; done) | (simp; omega)))
  by_cases c2 : bat l 0 - 128 = 0 ∨ 4 < bat l 0 - 128
  · have hk : ((bat l 0 - 128 == 0) = true) ∨ ((bat l 0 - 128 == 0) = false ∧ 4 < bat l 0 - 128) := by
      by_cases h : bat l 0 - 128 = 0
      · exact .inl (by simp [h])
      · exact .inr ⟨by simp [h], by omega⟩
    have hv : lenV (rdLen l) = .tuple #[.int .i64 0, .int .i64 0, errV (4, 0)] := by
      unfold rdLen; (repeat (first | rw [if_pos (by omega)] | rw [if_neg (by omega)])); rfl
    have HV := Lib.hid hv
    clear hv c2
    rcases hk with hk | ⟨hk, hk4⟩ <;>
    · go_enter Try.func61, Try.ntmps61
      go_wp2
      go_step3
      go_wp2_with (first | (go_at_call 79; refine (fail_any _ _ _).mono ?_; rintro e w1 ⟨rfl, hb⟩; obtain ⟨hc, hf⟩ := bcell hb; have hz := hb.size; simp at hz))
      rw [Exit.noGoto_ret]
      refine bodyPost_retB ?_ rfl HV.out.symm ?_
      · simp [results, errV, Try.results61, hc, go_sem]
      · ((repeat' (first | (with_reducible exact Below.refl _ _) | (with_reducible assumption) | (with_reducible refine Below.setCell ?_ ?_ _) | (with_reducible refine Below.alloc ?_ ?_ _) | (with_reducible refine Below.drew ?_) | (with_reducible refine below_drewN ?_ _) | (with_reducible refine Below.step (by with_reducible assumption) ?_ ?_))) <;> (first | omega | (simp; done) | (simp; omega)))
  have c3 : ¬ bat l 0 - 128 = 0 := by omega
  have c4 : ¬ 4 < bat l 0 - 128 := by omega
  have hk : (bat l 0 - 128 == 0) = false := by simp [c3]
  clear c2
  by_cases c5 : (l.length : Int) ≤ bat l 0 - 128
  · have hv : lenV (rdLen l) = .tuple #[.int .i64 0, .int .i64 0, errV (1, l.length)] := by
      unfold rdLen; (repeat (first | rw [if_pos (by omega)] | rw [if_neg (by omega)])); rfl
    have HV := Lib.hid hv
    clear hv
    go_enter Try.func61, Try.ntmps61
    go_wp2
    go_step3
    go_wp2_with (first | (go_at_call 79; refine (fail_any _ _ _).mono ?_; rintro e w1 ⟨rfl, hb⟩; obtain ⟨hc, hf⟩ := bcell hb; have hz := hb.size; simp at hz))
    rw [Exit.noGoto_ret]
    refine bodyPost_retB ?_ rfl HV.out.symm ?_
    · simp [results, errV, Try.results61, hc, go_sem]
    · ((repeat' (first | (with_reducible exact Below.refl _ _) | (with_reducible assumption) | (with_reducible refine Below.setCell ?_ ?_ _) | (with_reducible refine Below.alloc ?_ ?_ _) | (with_reducible refine Below.drew ?_) | (with_reducible refine below_drewN ?_ _) | (with_reducible refine Below.step (by with_reducible assumption) ?_ ?_))) <;> (first | omega | (simp; done) | (simp; omega)))
  have h1 : w.cell? ⟨b, off + 1, none⟩ = some (.int .u8 (bat l 1)) := HC.out 1 (by omega)
  have hy1 := bat_lt l 1
  have hy0 := bat_pos l 1
  obtain ⟨K, hK⟩ : ∃ K : Nat, bat l 0 - 128 = K := ⟨(bat l 0 - 128).toNat, by omega⟩
  have hKn : (bat l 0 - 128).toNat = K := by omega
  have HK := Lib.hid hK
  have hK1 : bat l 0 - 128 ≤ K := by omega
  have hK2 : (K : Int) ≤ bat l 0 - 128 := by omega
  have hT : (1 + (bat l 0 - 128)) = 1 + (K : Int) := by omega
  have HV : Hid (lenV (rdLen l) = if bat l 1 = 0 ∨ be ((l.drop 1).take K) < 128 ∨ 2147483647 < be ((l.drop 1).take K) then .tuple #[.int .i64 0, .int .i64 0, errV (4, 0)] else .tuple #[.int .i64 (be ((l.drop 1).take K)), .int .i64 (1 + (bat l 0 - 128)), errV (0, 0)]) := by
    show lenV (rdLen l) = _
    unfold rdLen
    rw [hKn]
    (repeat (first | rw [if_pos (by omega)] | rw [if_neg (by omega)]))
    split <;> rfl
  clear hK hKn hT
  go_enter Try.func61, Try.ntmps61
  go_wp2
  go_step3
  go_wp2
  go_step3
  go_wp2
  go_loop [7, 8] (fun n i => ∃ k : Nat, k ≤ K ∧ i = .int .i64 (k + 1 : Nat) ∧ n = .int .i64 (be ((l.drop 1).take k))) (fun _ i => K + 1 - (intOf i).toNat)
  case atStart => exact ⟨0, Nat.zero_le _, rfl, rfl⟩
  case round =>
    obtain ⟨k, hk', rfl, rfl⟩ := hrel
    by_cases hkk : k < K
    · have hbe := be_bound ((l.drop 1).take k)
      have hlen : ((l.drop 1).take k).length = k := by simp; omega
      have hc1 : w.cell? ⟨b, off + (k + 1), none⟩ = some (.int .u8 (bat l (k + 1))) := HC.out _ (by omega)
      have hz1 := bat_lt l (k + 1)
      have hz0 := bat_pos l (k + 1)
      have hs := be_take_succ (l.drop 1) k (by simp; omega)
      rw [bat_drop, Nat.add_comm 1 k] at hs
      have HS := Lib.hid hs
      rw [hlen] at hbe
      have hpow : (256 : Int) ^ k ≤ 256 ^ 3 := pow256_mono (by omega)
      have hN0 := hbe.1
      have hN1 : be ((l.drop 1).take k) < 16777216 := by have := hbe.2; omega
      clear hbe hlen hs hpow
      generalize be ((l.drop 1).take k) = N at *
      have hor := i64_or_256 N (bat l (k + 1)) hN0 (by omega) hz0 hz1
      go_wp2
      go_round
      case rel => exact ⟨k + 1, by omega, by go_num, by rw [HS.out]⟩
      case measure => simp [intOf]; omega
    · obtain rfl : k = K := by omega
      have hbe := be_bound ((l.drop 1).take k)
      have hN0 := hbe.1
      have hlen : ((l.drop 1).take k).length = k := by simp; omega
      rw [hlen] at hbe
      have hpow : (256 : Int) ^ k ≤ 256 ^ 4 := pow256_mono (by omega)
      have hN1 : be ((l.drop 1).take k) < 4294967296 := by have := hbe.2; omega
      clear hbe hlen hpow
      generalize be ((l.drop 1).take k) = N at *
      by_cases hbad : bat l 1 = 0 ∨ N < 128 ∨ 2147483647 < N
      · have HW : Hid (lenV (rdLen l) = .tuple #[.int .i64 0, .int .i64 0, errV (4, 0)]) := by
          have := HV.out
          rwa [if_pos hbad] at this
        clear HV
        have HV := HW
        clear HW
        have hq : (bat l 1 == 0) = true ∨ ((bat l 1 == 0) = false ∧ N < 128) ∨ ((bat l 1 == 0) = false ∧ 128 ≤ N ∧ 2147483647 < N) := by
          by_cases h : bat l 1 = 0
          · exact .inl (by simp [h])
          · have : (bat l 1 == 0) = false := by simp [h]
            by_cases h' : N < 128
            · exact .inr (.inl ⟨this, h'⟩)
            · exact .inr (.inr ⟨this, by omega, by omega⟩)
        clear hbad
        rcases hq with hq | ⟨hq, hq1⟩ | ⟨hq, hq1, hq2⟩ <;>
        · go_wp2_with (first | (go_at_call 79; refine (fail_any _ _ _).mono ?_; rintro e w1 ⟨rfl, hb⟩; obtain ⟨hc, hf⟩ := bcell hb; have hz := hb.size; simp at hz))
          rw [Exit.noGoto_ret]
          refine bodyPost_retB ?_ rfl HV.out.symm ?_
          · simp [results, errV, Try.results61, hc, go_sem]
          · ((repeat' (first | (with_reducible exact Below.refl _ _) | (with_reducible assumption) | (with_reducible refine Below.setCell ?_ ?_ _) | (with_reducible refine Below.alloc ?_ ?_ _) | (with_reducible refine Below.drew ?_) | (with_reducible refine below_drewN ?_ _) | (with_reducible refine Below.step (by with_reducible assumption) ?_ ?_))) <;> (first | omega | (simp; done) | (simp; omega)))
      · have HW : Hid (lenV (rdLen l) = .tuple #[.int .i64 N, .int .i64 (1 + (bat l 0 - 128)), errV (0, 0)]) := by
          have := HV.out
          rwa [if_neg hbad] at this
        clear HV
        have HV := HW
        clear HW
        have hq : (bat l 1 == 0) = false := by simp; omega
        have hq1 : 128 ≤ N := by omega
        have hq2 : N ≤ 2147483647 := by omega
        clear hbad
        go_wp2
        refine bodyPost_retB ?_ rfl HV.out.symm ?_
        · simp [results, errV, Try.results61, go_sem]
        · ((repeat' (first | (with_reducible exact Below.refl _ _) | (with_reducible assumption) | (with_reducible refine Below.setCell ?_ ?_ _) | (with_reducible refine Below.alloc ?_ ?_ _) | (with_reducible refine Below.drew ?_) | (with_reducible refine below_drewN ?_ _) | (with_reducible refine Below.step (by with_reducible assumption) ?_ ?_))) <;> (first | omega | (simp; done) | (simp; omega)))

/-- Length octets, whatever the bytes. -/
theorem readLen_any (v : Value) (l : List UInt8) (w : World) (hv : IsB w v l) : Calls Try.prog 61 #[v] w (RetB (lenV (rdLen l)) w) := by
  rcases hv.open_ with ⟨A, c, rfl, rfl, _⟩ | ⟨b, off, c, rfl, h1, h2, h3, h4, h5, h6⟩
  · exact readLen_nil A c w
  · exact readLen_pos b off c l w h1 h2 h3 h4 h5 h6
end Go.Proofs.Ytecbphbnacbepaa
