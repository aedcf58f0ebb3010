/- The parts Tlv, TlvB, Elem, ElemB of one proof, one behind the other. -/
import Derived.Test.YtlmnmgokfnnbbaaGreatDoorProg
import Derived.Test.YtlmnmgokfnnbbaaGreatDoorM01
import Derived.RegionTactic
import Derived.WalkMore

/- Walks over layer 2 (tlv): identifier octets, length octets, headers. -/
section
set_option linter.unusedSimpArgs false
set_option linter.unusedVariables false
namespace Go.Proofs.YtlmnmgokfnnbbaaGreatDoor
open Go.RowKit Go.Cr
theorem ident_bad (c n : Int) (k : Bool) (w : World) (h : c < 0 ∨ 3 < c ∨ n < 0 ∨ 31 ≤ n) :
    Calls Tryz.prog 152 #[.int .i64 c, .bool k, .int .i64 n] w fun e w' => e = .returned (.tuple #[.int .u8 0, .int .i64 9]) ∧ w = w' := by
  go_enter Tryz.func152, Tryz.ntmps152
  go_wp2
  all_goals first | (exfalso; omega) | (go_ret2; exact ⟨rfl, rfl⟩)

theorem ident_good (c n : Int) (k : Bool) (w : World) (h : 0 ≤ c) (h1 : c ≤ 3) (h2 : 0 ≤ n) (h3 : n < 31) :
    Calls Tryz.prog 152 #[.int .i64 c, .bool k, .int .i64 n] w fun e w' => e = .returned (.tuple #[.int .u8 (c * 64 + n + if k then 32 else 0), .int .i64 0]) ∧ w = w' := by
  have e1 := i64_or_64 c n h h1 h2 (by omega)
  have e2 := u8_or_32 c n h h1 h2 (by omega)
  cases k
  · go_enter Tryz.func152, Tryz.ntmps152
    go_wp2
    go_ret2
    exact ⟨by simp, rfl⟩
  · go_enter Tryz.func152, Tryz.ntmps152
    go_wp2
    go_ret2
    exact ⟨by simp, rfl⟩

theorem readId_bad (n : Int) (w : World) (h0 : 0 ≤ n) (h1 : n < 256) (h : n % 32 = 31) :
    Calls Tryz.prog 198 #[.int .u8 n] w fun e w' => e = .returned (.tuple #[.int .i64 0, .bool false, .int .i64 0, .int .i64 3]) ∧ w = w' := by
  have h3 := u8_and_31 n h0 h1
  go_enter Tryz.func198, Tryz.ntmps198
  go_wp2
  exact bodyPost_ret (results_tmp4 rfl _ _ _) rfl ⟨rfl, rfl⟩
theorem readId_good (n : Int) (w : World) (h0 : 0 ≤ n) (h1 : n < 256) (h : n % 32 ≠ 31) :
    Calls Tryz.prog 198 #[.int .u8 n] w fun e w' => e = .returned (.tuple #[.int .i64 (n / 64), .bool (decide (n / 32 % 2 = 1)), .int .i64 (n % 32), .int .i64 0]) ∧ w = w' := by
  have h3 := u8_and_31 n h0 h1
  have h4 := u8_and_32 n h0 h1
  have h5 : (n % 32 == 31) = false := by simp [h]
  go_enter Tryz.func198, Tryz.ntmps198
  go_wp2
  refine bodyPost_ret (results_tmp4 rfl _ _ _) rfl ⟨?_, rfl⟩
  simp
  rw [Bool.eq_iff_iff]; simp; omega

theorem fail_any (c o : Int) (w : World) :
    Calls Tryz.prog 229 #[.int .i64 c, .int .i64 o] w fun e w' => e = .returned (.tuple #[.int .i64 0, .int .i64 0, .agg #[.int .i64 c, .int .i64 o]]) ∧ Below w.heap.size w w' := by
  go_enter Tryz.func229, Tryz.ntmps229
  go_wp2
  exact bodyPost_ret (by simp [results, Tryz.results229, go_sem]) rfl ⟨rfl, (Below.refl _ _).alloc (Nat.le_refl _) _⟩

theorem readLen_nil (A : Option Addr) (c : Nat) (w : World) : Calls Tryz.prog 199 #[.slice A 0 c] w (RetB (lenV (rdLen [])) w) := by
  go_enter Tryz.func199, Tryz.ntmps199
  go_wp2
  go_step3
  go_wp2_with (first | (go_at_call 229; refine (fail_any _ _ _).mono ?_; rintro e w1 ⟨rfl, hb⟩; obtain ⟨hc, hf⟩ := bcell hb; have hz := hb.size; simp at hz))
  rw [Exit.noGoto_ret]
  refine bodyPost_retB (v := .tuple #[.int .i64 0, .int .i64 0, errV (1, 0)]) (by simp [results, errV, Tryz.results199, hc, go_sem]) rfl (by simp [lenV, rdLen]) ?_
  ((repeat' (first | (with_reducible exact Below.refl _ _) | (with_reducible assumption) | (with_reducible refine Below.setCell ?_ ?_ _) | (with_reducible refine Below.alloc ?_ ?_ _) | (with_reducible refine Below.drew ?_) | (with_reducible refine below_drewN ?_ _) | (with_reducible refine Below.step (by with_reducible assumption) ?_ ?_))) <;> (first | omega | (simp; done) | (simp; omega)))

set_option maxRecDepth 100000 in
set_option maxHeartbeats 1000000 in
theorem readLen_pos (b off c : Nat) (l : List UInt8) (w : World) (hl : 0 < l.length) (hle : l.length ≤ c) (hcm : c ≤ 9223372036854775807) (hlt : b < w.heap.size) (h0 : w.cell? ⟨b, off, none⟩ = some (.int .u8 (bat l 0)))
    (hcell : ∀ j, j < l.length → w.cell? ⟨b, off + j, none⟩ = some (.int .u8 (bat l j))) :
    Calls Tryz.prog 199 #[.slice (some ⟨b, off, none⟩) l.length c] w (RetB (lenV (rdLen l)) w) := by
  have hx1 := bat_lt l 0
  have hx0 := bat_pos l 0
  have hlb : ((l.length : Int) == 0) = false := beq_eq_false_iff_ne.2 (by omega)
  have HC := Lib.hid hcell
  clear hcell
  by_cases c1 : bat l 0 < 128
  · have hv : lenV (rdLen l) = .tuple #[.int .i64 (bat l 0), .int .i64 1, errV (0, 0)] := by
      unfold rdLen; (repeat (first | rw [if_pos (by omega)] | rw [if_neg (by omega)])); rfl
    have HV := Lib.hid hv
    clear hv
    go_enter Tryz.func199, Tryz.ntmps199
    go_wp2
    go_step3
    go_wp2
    rw [Exit.noGoto_ret]
    refine bodyPost_retB ?_ rfl HV.out.symm ?_
    · simp [results, errV, Tryz.results199, go_sem]
    · ((repeat' (first | (with_reducible exact Below.refl _ _) | (with_reducible assumption) | (with_reducible refine Below.setCell ?_ ?_ _) | (with_reducible refine Below.alloc ?_ ?_ _) | (with_reducible refine Below.drew ?_) | (with_reducible refine below_drewN ?_ _) | (with_reducible refine Below.step (by with_reducible assumption) ?_ ?_))) <;> (first | omega | (simp; done) | (simp; omega)))
  by_cases c2 : bat l 0 - 128 = 0 ∨ 4 < bat l 0 - 128
  · have hk : ((bat l 0 - 128 == 0) = true) ∨ ((bat l 0 - 128 == 0) = false ∧ 4 < bat l 0 - 128) := by
      by_cases h : bat l 0 - 128 = 0
      · exact .inl (by simp [h])
      · exact .inr ⟨by simp [h], by omega⟩
    have hv : lenV (rdLen l) = .tuple #[.int .i64 0, .int .i64 0, errV (4, 0)] := by
      unfold rdLen; (repeat (first | rw [if_pos (by omega)] | rw [if_neg (by omega)])); rfl
    have HV := Lib.hid hv
    clear hv c2
    rcases hk with hk | ⟨hk, hk4⟩ <;>
    · go_enter Tryz.func199, Tryz.ntmps199
      go_wp2
      go_step3
      go_wp2_with (first | (go_at_call 229; refine (fail_any _ _ _).mono ?_; rintro e w1 ⟨rfl, hb⟩; obtain ⟨hc, hf⟩ := bcell hb; have hz := hb.size; simp at hz))
      rw [Exit.noGoto_ret]
      refine bodyPost_retB ?_ rfl HV.out.symm ?_
      · simp [results, errV, Tryz.results199, hc, go_sem]
      · ((repeat' (first | (with_reducible exact Below.refl _ _) | (with_reducible assumption) | (with_reducible refine Below.setCell ?_ ?_ _) | (with_reducible refine Below.alloc ?_ ?_ _) | (with_reducible refine Below.drew ?_) | (with_reducible refine below_drewN ?_ _) | (with_reducible refine Below.step (by with_reducible assumption) ?_ ?_))) <;> (first | omega | (simp; done) | (simp; omega)))
  have c3 : ¬ bat l 0 - 128 = 0 := by omega
  have c4 : ¬ 4 < bat l 0 - 128 := by omega
  have hk : (bat l 0 - 128 == 0) = false := by simp [c3]
  clear c2
  by_cases c5 : (l.length : Int) ≤ bat l 0 - 128
  · have hv : lenV (rdLen l) = .tuple #[.int .i64 0, .int .i64 0, errV (1, l.length)] := by
      unfold rdLen; (repeat (first | rw [if_pos (by omega)] | rw [if_neg (by omega)])); rfl
    have HV := Lib.hid hv
    clear hv
    go_enter Tryz.func199, Tryz.ntmps199
    go_wp2
    go_step3
    go_wp2_with (first | (go_at_call 229; refine (fail_any _ _ _).mono ?_; rintro e w1 ⟨rfl, hb⟩; obtain ⟨hc, hf⟩ := bcell hb; have hz := hb.size; simp at hz))
    rw [Exit.noGoto_ret]
    refine bodyPost_retB ?_ rfl HV.out.symm ?_
    · simp [results, errV, Tryz.results199, hc, go_sem]
    · ((repeat' (first | (with_reducible exact Below.refl _ _) | (with_reducible assumption) | (with_reducible refine Below.setCell ?_ ?_ _) | (with_reducible refine Below.alloc ?_ ?_ _) | (with_reducible refine Below.drew ?_) | (with_reducible refine below_drewN ?_ _) | (with_reducible refine Below.step (by with_reducible assumption) ?_ ?_))) <;> (first | omega | (simp; done) | (simp; omega)))
  have h1 : w.cell? ⟨b, off + 1, none⟩ = some (.int .u8 (bat l 1)) := HC.out 1 (by omega)
  have hy1 := bat_lt l 1
  have hy0 := bat_pos l 1
  obtain ⟨K, hK⟩ : ∃ K : Nat, bat l 0 - 128 = K := ⟨(bat l 0 - 128).toNat, by omega⟩
  have hKn : (bat l 0 - 128).toNat = K := by omega
  have HK := Lib.hid hK
  have hK1 : bat l 0 - 128 ≤ K := by omega
  have hK2 : (K : Int) ≤ bat l 0 - 128 := by omega
  have hT : (1 + (bat l 0 - 128)) = 1 + (K : Int) := by omega
  have HV : Hid (lenV (rdLen l) = if bat l 1 = 0 ∨ be ((l.drop 1).take K) < 128 ∨ 2147483647 < be ((l.drop 1).take K) then .tuple #[.int .i64 0, .int .i64 0, errV (4, 0)] else .tuple #[.int .i64 (be ((l.drop 1).take K)), .int .i64 (1 + (bat l 0 - 128)), errV (0, 0)]) := by
    show lenV (rdLen l) = _
    unfold rdLen
    rw [hKn]
    (repeat (first | rw [if_pos (by omega)] | rw [if_neg (by omega)]))
    split <;> rfl
  clear hK hKn hT
  go_enter Tryz.func199, Tryz.ntmps199
  go_wp2
  go_step3
  go_wp2
  go_step3
  go_wp2
  go_loop [7, 8] (fun n i => ∃ k : Nat, k ≤ K ∧ i = .int .i64 (k + 1 : Nat) ∧ n = .int .i64 (be ((l.drop 1).take k))) (fun _ i => K + 1 - (intOf i).toNat)
  case atStart => exact ⟨0, Nat.zero_le _, rfl, rfl⟩
  case round =>
    obtain ⟨k, hk', rfl, rfl⟩ := hrel
    by_cases hkk : k < K
    · have hbe := be_bound ((l.drop 1).take k)
      have hlen : ((l.drop 1).take k).length = k := by simp; omega
      have hc1 : w.cell? ⟨b, off + (k + 1), none⟩ = some (.int .u8 (bat l (k + 1))) := HC.out _ (by omega)
      have hz1 := bat_lt l (k + 1)
      have hz0 := bat_pos l (k + 1)
      have hs := be_take_succ (l.drop 1) k (by simp; omega)
      rw [bat_drop, Nat.add_comm 1 k] at hs
      have HS := Lib.hid hs
      rw [hlen] at hbe
      have hpow : (256 : Int) ^ k ≤ 256 ^ 3 := pow256_mono (by omega)
      have hN0 := hbe.1
      have hN1 : be ((l.drop 1).take k) < 16777216 := by have := hbe.2; omega
      clear hbe hlen hs hpow
      generalize be ((l.drop 1).take k) = N at *
      have hor := i64_or_256 N (bat l (k + 1)) hN0 (by omega) hz0 hz1
      go_wp2
      go_round
      case rel => exact ⟨k + 1, by omega, by go_num, by rw [HS.out]⟩
      case measure => simp [intOf]; omega
    · obtain rfl : k = K := by omega
      have hbe := be_bound ((l.drop 1).take k)
      have hN0 := hbe.1
      have hlen : ((l.drop 1).take k).length = k := by simp; omega
      rw [hlen] at hbe
      have hpow : (256 : Int) ^ k ≤ 256 ^ 4 := pow256_mono (by omega)
      have hN1 : be ((l.drop 1).take k) < 4294967296 := by have := hbe.2; omega
      clear hbe hlen hpow
      generalize be ((l.drop 1).take k) = N at *
      by_cases hbad : bat l 1 = 0 ∨ N < 128 ∨ 2147483647 < N
      · have HW : Hid (lenV (rdLen l) = .tuple #[.int .i64 0, .int .i64 0, errV (4, 0)]) := by
          have := HV.out
          rwa [if_pos hbad] at this
        clear HV
        have HV := HW
        clear HW
        have hq : (bat l 1 == 0) = true ∨ ((bat l 1 == 0) = false ∧ N < 128) ∨ ((bat l 1 == 0) = false ∧ 128 ≤ N ∧ 2147483647 < N) := by
          by_cases h : bat l 1 = 0
          · exact .inl (by simp [h])
          · have : (bat l 1 == 0) = false := by simp [h]
            by_cases h' : N < 128
            · exact .inr (.inl ⟨this, h'⟩)
            · exact .inr (.inr ⟨this, by omega, by omega⟩)
        clear hbad
        rcases hq with hq | ⟨hq, hq1⟩ | ⟨hq, hq1, hq2⟩ <;>
        · go_wp2_with (first | (go_at_call 229; refine (fail_any _ _ _).mono ?_; rintro e w1 ⟨rfl, hb⟩; obtain ⟨hc, hf⟩ := bcell hb; have hz := hb.size; simp at hz))
          rw [Exit.noGoto_ret]
          refine bodyPost_retB ?_ rfl HV.out.symm ?_
          · simp [results, errV, Tryz.results199, hc, go_sem]
          · ((repeat' (first | (with_reducible exact Below.refl _ _) | (with_reducible assumption) | (with_reducible refine Below.setCell ?_ ?_ _) | (with_reducible refine Below.alloc ?_ ?_ _) | (with_reducible refine Below.drew ?_) | (with_reducible refine below_drewN ?_ _) | (with_reducible refine Below.step (by with_reducible assumption) ?_ ?_))) <;> (first | omega | (simp; done) | (simp; omega)))
      · have HW : Hid (lenV (rdLen l) = .tuple #[.int .i64 N, .int .i64 (1 + (bat l 0 - 128)), errV (0, 0)]) := by
          have := HV.out
          rwa [if_neg hbad] at this
        clear HV
        have HV := HW
        clear HW
        have hq : (bat l 1 == 0) = false := by simp; omega
        have hq1 : 128 ≤ N := by omega
        have hq2 : N ≤ 2147483647 := by omega
        clear hbad
        go_wp2
        refine bodyPost_retB ?_ rfl HV.out.symm ?_
        · simp [results, errV, Tryz.results199, go_sem]
        · ((repeat' (first | (with_reducible exact Below.refl _ _) | (with_reducible assumption) | (with_reducible refine Below.setCell ?_ ?_ _) | (with_reducible refine Below.alloc ?_ ?_ _) | (with_reducible refine Below.drew ?_) | (with_reducible refine below_drewN ?_ _) | (with_reducible refine Below.step (by with_reducible assumption) ?_ ?_))) <;> (first | omega | (simp; done) | (simp; omega)))

theorem readLen_any (v : Value) (l : List UInt8) (w : World) (hv : IsB w v l) : Calls Tryz.prog 199 #[v] w (RetB (lenV (rdLen l)) w) := by
  rcases hv.open_ with ⟨A, c, rfl, rfl, _⟩ | ⟨b, off, c, rfl, h1, h2, h3, h4, h5, h6⟩
  · exact readLen_nil A c w
  · exact readLen_pos b off c l w h1 h2 h3 h4 h5 h6
end Go.Proofs.YtlmnmgokfnnbbaaGreatDoor
end

/- Walk over tlv.ReadHeader. -/
section
set_option linter.unusedSimpArgs false
set_option linter.unusedVariables false
namespace Go.Proofs.YtlmnmgokfnnbbaaGreatDoor
open Go.RowKit Go.Cr
theorem ulB : Tryz.prog.underlying 33 = some (.slice 5) := by kernel_rfl
theorem szB (W : World) : (sizeOf 5).run Tryz.prog W = .ok 1 W := by kernel_rfl

set_option maxRecDepth 100000 in
set_option maxHeartbeats 2000000 in
theorem readHdr_any (v : Value) (l : List UInt8) (w : World) (hw : IsB w v l) : Calls Tryz.prog 159 #[v] w (RetB (rhV (rdHdr l)) w) := by
  have hlen := hw.len ulB
  by_cases hl : l.length = 0
  · have HV : Hid (rhV (rdHdr l) = .tuple #[hdrV Hdr.zero, errV (1, 0)]) := by show rhV (rdHdr l) = _; simp [rdHdr, rhV, hl]
    have hlb : ((l.length : Int) == 0) = true := beq_iff_eq.2 (by omega)
    clear hl
    go_enter Tryz.func159, Tryz.ntmps159
    go_wp2
    refine bodyPost_retB ?_ rfl HV.out.symm ?_
    · simp [results, errV, hdrV, Hdr.zero, Tryz.results159, go_sem]
    · ((repeat' (first | (with_reducible exact Below.refl _ _) | (with_reducible assumption) | (with_reducible refine Below.setCell ?_ ?_ _) | (with_reducible refine Below.alloc ?_ ?_ _) | (with_reducible refine Below.drew ?_) | (with_reducible refine below_drewN ?_ _) | (with_reducible refine Below.step (by with_reducible assumption) ?_ ?_))) <;> (first | omega | (simp; done) | (simp; omega)))
  have hx1 := bat_lt l 0
  have hx0 := bat_pos l 0
  have hlb : ((l.length : Int) == 0) = false := beq_eq_false_iff_ne.2 (by omega)
  obtain ⟨b, o, hix, hbw, hcl⟩ := hw.at_ (P := Tryz.prog) ulB szB .i64 (i := 0) (by omega) (by omega)
  simp only [Int.toNat_zero] at hcl
  by_cases c1 : bat l 0 % 32 = 31
  · have HV : Hid (rhV (rdHdr l) = .tuple #[hdrV Hdr.zero, errV (3, 0)]) := by show rhV (rdHdr l) = _; unfold rdHdr; (repeat (first | rw [if_pos (by omega)] | rw [if_neg (by omega)])); rfl
    have HC := Lib.hid (readId_bad (bat l 0) · hx0 hx1 c1)
    clear hw c1
    go_enter Tryz.func159, Tryz.ntmps159
    go_wp2_with (first | (go_at_call 198; refine (HC.out _).mono ?_; rintro e w1 ⟨rfl, rfl⟩))
    refine bodyPost_retB ?_ rfl HV.out.symm ?_
    · simp [results, errV, hdrV, Hdr.zero, Tryz.results159, go_sem]
    · ((repeat' (first | (with_reducible exact Below.refl _ _) | (with_reducible assumption) | (with_reducible refine Below.setCell ?_ ?_ _) | (with_reducible refine Below.alloc ?_ ?_ _) | (with_reducible refine Below.drew ?_) | (with_reducible refine below_drewN ?_ _) | (with_reducible refine Below.step (by with_reducible assumption) ?_ ?_))) <;> (first | omega | (simp; done) | (simp; omega)))
  have HC := Lib.hid (readId_good (bat l 0) · hx0 hx1 c1)
  obtain ⟨v1, hcut, hv1⟩ := hw.cutLo (P := Tryz.prog) ulB szB .i64 (lo := 1) (by omega) (by omega)
  have hv1 : IsB w v1 (l.drop 1) := hv1
  cases hr : rdLen (l.drop 1) with
  | error e =>
    obtain ⟨ec, eo⟩ := e
    have hbd := rdLen_err hr
    have HV : Hid (rhV (rdHdr l) = .tuple #[hdrV Hdr.zero, errV (ec, eo + 1)]) := by show rhV (rdHdr l) = _; unfold rdHdr; (repeat (first | rw [if_pos (by omega)] | rw [if_neg (by omega)])); rw [hr]; rfl
    have HR : Hid (∀ W, IsB W v1 (l.drop 1) → Calls Tryz.prog 199 #[v1] W (RetB (.tuple #[.int .i64 0, .int .i64 0, .agg #[.int .i64 ec, .int .i64 eo]]) W)) := by
      intro W h
      have := readLen_any v1 _ W h
      rwa [hr] at this
    simp only [List.length_drop] at hbd
    obtain ⟨hb1, hb2, hb3, hb4⟩ := hbd
    have hb5 : eo + 1 ≤ 9223372036854775807 := by have := hw.maxl; omega
    clear hb4
    have hn : (ec == 0) = false := beq_eq_false_iff_ne.2 (by omega)
    have hn' : (ec != 0) = true := by simp; omega
    have HB := Lib.hid hv1
    clear hw hr c1 hv1
    go_enter Tryz.func159, Tryz.ntmps159
    go_wp2_with (first | (go_at_call 198; refine (HC.out _).mono ?_; rintro e w1 ⟨rfl, rfl⟩) | (go_at_call 199; (with_reducible refine (HR.out _ ((HB.out.alloc _).alloc _)).mono ?_); rintro e w1 ⟨rfl, hbw1⟩; obtain ⟨hcw1, hfw1⟩ := bcell hbw1; have hzw1 := hbw1.size; (try simp at hzw1); have hyw1 : w.heap.size < w1.heap.size := (by omega); (try have hyaw1 : w.heap.size + 1 < w1.heap.size := (by omega)); (try have hybw1 : w.heap.size + 2 < w1.heap.size := (by omega)); (try have hycw1 : w.heap.size + 3 < w1.heap.size := (by omega)); (try have hydw1 : w.heap.size + 4 < w1.heap.size := (by omega)); clear hzw1); have q0w1 := fun o => hcw1 (w.heap.size) o (by simp [go_sem]; try omega); simp [go_sem] at q0w1; have r0w1 := fun o => hfw1 (w.heap.size) o (by simp [go_sem]; try omega); simp [go_sem] at r0w1; have q1w1 := fun o => hcw1 (w.heap.size + 1) o (by simp [go_sem]; try omega); simp [go_sem] at q1w1; have r1w1 := fun o => hfw1 (w.heap.size + 1) o (by simp [go_sem]; try omega); simp [go_sem] at r1w1)
    go_region
    go_wp2
    (refine bodyPost_retB (by (simp only [results, Tryz.results159]; try go_simp)) rfl HV.out.symm ?_; ((repeat' (first | (with_reducible exact Below.refl _ _) | (with_reducible assumption) | (with_reducible refine Below.setCell ?_ ?_ _) | (with_reducible refine Below.alloc ?_ ?_ _) | (with_reducible refine Below.drew ?_) | (with_reducible refine below_drewN ?_ _) | (with_reducible refine Below.step (by with_reducible assumption) ?_ ?_))) <;> (first | omega | (simp; done) | (simp; omega))))
  | ok r =>
    obtain ⟨n, k⟩ := r
    have hbd := rdLen_ok hr
    have HV : Hid (rhV (rdHdr l) = .tuple #[hdrV ⟨bat l 0 / 64, bat l 0 % 32, decide (bat l 0 / 32 % 2 = 1), n, 1 + k⟩, errV (0, 0)]) := by show rhV (rdHdr l) = _; unfold rdHdr; (repeat (first | rw [if_pos (by omega)] | rw [if_neg (by omega)])); rw [hr]; rfl
    have HR : Hid (∀ W, IsB W v1 (l.drop 1) → Calls Tryz.prog 199 #[v1] W (RetB (.tuple #[.int .i64 n, .int .i64 k, .agg #[.int .i64 0, .int .i64 0]]) W)) := by
      intro W h
      have := readLen_any v1 _ W h
      rwa [hr] at this
    obtain ⟨hb1, hb2, hb3, hb4, hb5⟩ := hbd
    have HB := Lib.hid hv1
    clear hw hr c1 hv1
    go_enter Tryz.func159, Tryz.ntmps159
    go_wp2_with (first | (go_at_call 198; refine (HC.out _).mono ?_; rintro e w1 ⟨rfl, rfl⟩) | (go_at_call 199; (with_reducible refine (HR.out _ ((HB.out.alloc _).alloc _)).mono ?_); rintro e w1 ⟨rfl, hbw1⟩; obtain ⟨hcw1, hfw1⟩ := bcell hbw1; have hzw1 := hbw1.size; (try simp at hzw1); have hyw1 : w.heap.size < w1.heap.size := (by omega); (try have hyaw1 : w.heap.size + 1 < w1.heap.size := (by omega)); (try have hybw1 : w.heap.size + 2 < w1.heap.size := (by omega)); (try have hycw1 : w.heap.size + 3 < w1.heap.size := (by omega)); (try have hydw1 : w.heap.size + 4 < w1.heap.size := (by omega)); clear hzw1); have q0w1 := fun o => hcw1 (w.heap.size) o (by simp [go_sem]; try omega); simp [go_sem] at q0w1; have r0w1 := fun o => hfw1 (w.heap.size) o (by simp [go_sem]; try omega); simp [go_sem] at r0w1; have q1w1 := fun o => hcw1 (w.heap.size + 1) o (by simp [go_sem]; try omega); simp [go_sem] at q1w1; have r1w1 := fun o => hfw1 (w.heap.size + 1) o (by simp [go_sem]; try omega); simp [go_sem] at r1w1)
    (refine bodyPost_retB (by (simp only [results, Tryz.results159]; try go_simp)) rfl HV.out.symm ?_; ((repeat' (first | (with_reducible exact Below.refl _ _) | (with_reducible assumption) | (with_reducible refine Below.setCell ?_ ?_ _) | (with_reducible refine Below.alloc ?_ ?_ _) | (with_reducible refine Below.drew ?_) | (with_reducible refine below_drewN ?_ _) | (with_reducible refine Below.step (by with_reducible assumption) ?_ ?_))) <;> (first | omega | (simp; done) | (simp; omega))))
end Go.Proofs.YtlmnmgokfnnbbaaGreatDoor
end

/- Walks over layer 9 (element): next, One. -/
section
set_option linter.unusedSimpArgs false
set_option linter.unusedVariables false
namespace Go.Proofs.YtlmnmgokfnnbbaaGreatDoor
open Go.RowKit Go.Cr
set_option maxRecDepth 100000 in
set_option maxHeartbeats 2000000 in
theorem next_any (v : Value) (l : List UInt8) (a e : Int) (w : World) (hw : IsB w v l) (h0 : 0 ≤ a) (h1 : a ≤ e) (h2 : e ≤ l.length) :
    Calls Tryz.prog 122 #[v, .int .i64 a, .int .i64 e] w (RetB (elR (nextE l a e)) w) := by
  have hm := hw.maxl
  obtain ⟨v1, hcut, hv1⟩ := hw.cut3 (P := Tryz.prog) ulB szB .i64 .i64 .i64 h0 h1 h2
  have hv1 : IsB w v1 (seg l a e) := hv1
  have hpl := seg_len l a e h0 h1 h2
  have HB := Lib.hid hv1
  cases hr : rdHdr (seg l a e) with
  | error er =>
    obtain ⟨ec, eo⟩ := er
    have hbd := rdHdr_err hr
    have HV : Hid (elR (nextE l a e) = .tuple #[elV Elem.zero, errV (ec, eo + a)]) := by show elR (nextE l a e) = _; unfold nextE; rw [hr]; rfl
    have HR : Hid (∀ W, IsB W v1 (seg l a e) → Calls Tryz.prog 159 #[v1] W (RetB (.tuple #[hdrV Hdr.zero, errV (ec, eo)]) W)) := by
      intro W h
      have := readHdr_any v1 _ W h
      rwa [hr] at this
    obtain ⟨hb1, hb2, hb3, hb4⟩ := hbd
    have hb5 : eo + a ≤ e := by omega
    have hn : (ec == 0) = false := beq_eq_false_iff_ne.2 (by omega)
    have hn' : (ec != 0) = true := by simp; omega
    clear hw hr hv1 hpl hb4
    simp only [hdrV, errV, Hdr.zero] at HR
    go_enter Tryz.func122, Tryz.ntmps122
    go_wp2_with (first | (go_at_call 159; (with_reducible refine (HR.out _ ((HB.out.alloc _).alloc _)).mono ?_); rintro e w1 ⟨rfl, hbw1⟩; obtain ⟨hcw1, hfw1⟩ := bcell hbw1; have hzw1 := hbw1.size; (try simp at hzw1); have hyw1 : w.heap.size < w1.heap.size := (by omega); (try have hyaw1 : w.heap.size + 1 < w1.heap.size := (by omega)); (try have hybw1 : w.heap.size + 2 < w1.heap.size := (by omega)); (try have hycw1 : w.heap.size + 3 < w1.heap.size := (by omega)); (try have hydw1 : w.heap.size + 4 < w1.heap.size := (by omega)); clear hzw1); have q0w1 := fun o => hcw1 (w.heap.size) o (by simp [go_sem]; try omega); simp [go_sem] at q0w1; have r0w1 := fun o => hfw1 (w.heap.size) o (by simp [go_sem]; try omega); simp [go_sem] at r0w1; have q1w1 := fun o => hcw1 (w.heap.size + 1) o (by simp [go_sem]; try omega); simp [go_sem] at q1w1; have r1w1 := fun o => hfw1 (w.heap.size + 1) o (by simp [go_sem]; try omega); simp [go_sem] at r1w1)
    go_region
    go_wp2
    (refine bodyPost_retB (by (simp only [results, Tryz.results122]; try go_simp)) rfl HV.out.symm ?_; ((repeat' (first | (with_reducible exact Below.refl _ _) | (with_reducible assumption) | (with_reducible refine Below.setCell ?_ ?_ _) | (with_reducible refine Below.alloc ?_ ?_ _) | (with_reducible refine Below.drew ?_) | (with_reducible refine below_drewN ?_ _) | (with_reducible refine Below.step (by with_reducible assumption) ?_ ?_))) <;> (first | omega | (simp; done) | (simp; omega))))
  | ok h =>
    obtain ⟨hc, hnm, hcn, hln, hsz⟩ := h
    have hbd := rdHdr_ok hr
    have HR : Hid (∀ W, IsB W v1 (seg l a e) → Calls Tryz.prog 159 #[v1] W (RetB (.tuple #[hdrV ⟨hc, hnm, hcn, hln, hsz⟩, errV (0, 0)]) W)) := by
      intro W h
      have := readHdr_any v1 _ W h
      rwa [hr] at this
    simp only at hbd
    obtain ⟨hb1, hb2, hb3, hb4, hb5, _⟩ := hbd
    rw [hpl] at hb5
    simp only [hdrV, errV] at HR
    by_cases hlt : e - a - hsz < hln
    · have HV : Hid (elR (nextE l a e) = .tuple #[elV Elem.zero, errV (1, e)]) := by show elR (nextE l a e) = _; unfold nextE; rw [hr]; simp [hlt, elR]
      clear hw hr hv1 hpl
      go_enter Tryz.func122, Tryz.ntmps122
      go_wp2_with (first | (go_at_call 159; (with_reducible refine (HR.out _ ((HB.out.alloc _).alloc _)).mono ?_); rintro e w1 ⟨rfl, hbw1⟩; obtain ⟨hcw1, hfw1⟩ := bcell hbw1; have hzw1 := hbw1.size; (try simp at hzw1); have hyw1 : w.heap.size < w1.heap.size := (by omega); (try have hyaw1 : w.heap.size + 1 < w1.heap.size := (by omega)); (try have hybw1 : w.heap.size + 2 < w1.heap.size := (by omega)); (try have hycw1 : w.heap.size + 3 < w1.heap.size := (by omega)); (try have hydw1 : w.heap.size + 4 < w1.heap.size := (by omega)); clear hzw1); have q0w1 := fun o => hcw1 (w.heap.size) o (by simp [go_sem]; try omega); simp [go_sem] at q0w1; have r0w1 := fun o => hfw1 (w.heap.size) o (by simp [go_sem]; try omega); simp [go_sem] at r0w1; have q1w1 := fun o => hcw1 (w.heap.size + 1) o (by simp [go_sem]; try omega); simp [go_sem] at q1w1; have r1w1 := fun o => hfw1 (w.heap.size + 1) o (by simp [go_sem]; try omega); simp [go_sem] at r1w1)
      (refine bodyPost_retB (by (simp only [results, Tryz.results122]; try go_simp)) rfl HV.out.symm ?_; ((repeat' (first | (with_reducible exact Below.refl _ _) | (with_reducible assumption) | (with_reducible refine Below.setCell ?_ ?_ _) | (with_reducible refine Below.alloc ?_ ?_ _) | (with_reducible refine Below.drew ?_) | (with_reducible refine below_drewN ?_ _) | (with_reducible refine Below.step (by with_reducible assumption) ?_ ?_))) <;> (first | omega | (simp; done) | (simp; omega))))
    · have HV : Hid (elR (nextE l a e) = .tuple #[elV ⟨hc, hnm, hcn, a, a + hsz, a + hsz + hln⟩, errV (0, 0)]) := by show elR (nextE l a e) = _; unfold nextE; rw [hr]; simp [hlt, elR, Hdr.at_]
      clear hw hr hv1 hpl
      go_enter Tryz.func122, Tryz.ntmps122
      go_wp2_with (first | (go_at_call 159; (with_reducible refine (HR.out _ ((HB.out.alloc _).alloc _)).mono ?_); rintro e w1 ⟨rfl, hbw1⟩; obtain ⟨hcw1, hfw1⟩ := bcell hbw1; have hzw1 := hbw1.size; (try simp at hzw1); have hyw1 : w.heap.size < w1.heap.size := (by omega); (try have hyaw1 : w.heap.size + 1 < w1.heap.size := (by omega)); (try have hybw1 : w.heap.size + 2 < w1.heap.size := (by omega)); (try have hycw1 : w.heap.size + 3 < w1.heap.size := (by omega)); (try have hydw1 : w.heap.size + 4 < w1.heap.size := (by omega)); clear hzw1); have q0w1 := fun o => hcw1 (w.heap.size) o (by simp [go_sem]; try omega); simp [go_sem] at q0w1; have r0w1 := fun o => hfw1 (w.heap.size) o (by simp [go_sem]; try omega); simp [go_sem] at r0w1; have q1w1 := fun o => hcw1 (w.heap.size + 1) o (by simp [go_sem]; try omega); simp [go_sem] at q1w1; have r1w1 := fun o => hfw1 (w.heap.size + 1) o (by simp [go_sem]; try omega); simp [go_sem] at r1w1)
      (refine bodyPost_retB (by (simp only [results, Tryz.results122]; try go_simp)) rfl HV.out.symm ?_; ((repeat' (first | (with_reducible exact Below.refl _ _) | (with_reducible assumption) | (with_reducible refine Below.setCell ?_ ?_ _) | (with_reducible refine Below.alloc ?_ ?_ _) | (with_reducible refine Below.drew ?_) | (with_reducible refine below_drewN ?_ _) | (with_reducible refine Below.step (by with_reducible assumption) ?_ ?_))) <;> (first | omega | (simp; done) | (simp; omega))))
end Go.Proofs.YtlmnmgokfnnbbaaGreatDoor
end

/- Walks over layer 9 (element): Is, One. -/
section
set_option linter.unusedSimpArgs false
set_option linter.unusedVariables false
namespace Go.Proofs.YtlmnmgokfnnbbaaGreatDoor
open Go.RowKit Go.Cr
set_option maxRecDepth 100000 in
set_option maxHeartbeats 2000000 in
theorem one_any (v : Value) (l : List UInt8) (w : World) (hw : IsB w v l) :
    Calls Tryz.prog 86 #[v] w (RetB (elR (oneE l)) w) := by
  have hm := hw.maxl
  have hlen := hw.len ulB
  have HB := Lib.hid hw
  cases hr : nextE l 0 l.length with
  | error er =>
    obtain ⟨ec, eo⟩ := er
    have hbd := nextE_err (by omega) (by omega) (by omega) hr
    have HV : Hid (elR (oneE l) = .tuple #[elV Elem.zero, errV (ec, eo)]) := by show elR (oneE l) = _; unfold oneE; rw [hr]; rfl
    have HR : Hid (∀ W, IsB W v l → Calls Tryz.prog 122 #[v, .int .i64 0, .int .i64 l.length] W (RetB (.tuple #[elV Elem.zero, errV (ec, eo)]) W)) := by
      intro W h
      have := next_any v l 0 l.length W h (by omega) (by omega) (by omega)
      rwa [hr] at this
    have hn : (ec == 0) = false := beq_eq_false_iff_ne.2 (by omega)
    clear hw hr hbd
    simp only [elV, errV, Elem.zero] at HR
    go_enter Tryz.func86, Tryz.ntmps86
    go_wp2_with (first | (go_at_call 122; (with_reducible refine (HR.out _ ((HB.out.alloc _).alloc _)).mono ?_); rintro e w1 ⟨rfl, hbw1⟩; obtain ⟨hcw1, hfw1⟩ := bcell hbw1; have hzw1 := hbw1.size; (try simp at hzw1); have hyw1 : w.heap.size < w1.heap.size := (by omega); (try have hyaw1 : w.heap.size + 1 < w1.heap.size := (by omega)); (try have hybw1 : w.heap.size + 2 < w1.heap.size := (by omega)); (try have hycw1 : w.heap.size + 3 < w1.heap.size := (by omega)); (try have hydw1 : w.heap.size + 4 < w1.heap.size := (by omega)); clear hzw1); have q0w1 := fun o => hcw1 (w.heap.size) o (by simp [go_sem]; try omega); simp [go_sem] at q0w1; have r0w1 := fun o => hfw1 (w.heap.size) o (by simp [go_sem]; try omega); simp [go_sem] at r0w1; have q1w1 := fun o => hcw1 (w.heap.size + 1) o (by simp [go_sem]; try omega); simp [go_sem] at q1w1; have r1w1 := fun o => hfw1 (w.heap.size + 1) o (by simp [go_sem]; try omega); simp [go_sem] at r1w1)
    go_region
    go_wp2
    (refine bodyPost_retB (by (simp only [results, Tryz.results86]; try go_simp)) rfl HV.out.symm ?_; ((repeat' (first | (with_reducible exact Below.refl _ _) | (with_reducible assumption) | (with_reducible refine Below.setCell ?_ ?_ _) | (with_reducible refine Below.alloc ?_ ?_ _) | (with_reducible refine Below.drew ?_) | (with_reducible refine below_drewN ?_ _) | (with_reducible refine Below.step (by with_reducible assumption) ?_ ?_))) <;> (first | omega | (simp; done) | (simp; omega))))
  | ok x =>
    obtain ⟨xc, xn, xk, xs, xb, xe⟩ := x
    have hbd := nextE_ok (by omega) (by omega) (by omega) hr
    have HR : Hid (∀ W, IsB W v l → Calls Tryz.prog 122 #[v, .int .i64 0, .int .i64 l.length] W (RetB (.tuple #[elV ⟨xc, xn, xk, xs, xb, xe⟩, errV (0, 0)]) W)) := by
      intro W h
      have := next_any v l 0 l.length W h (by omega) (by omega) (by omega)
      rwa [hr] at this
    simp only at hbd
    obtain ⟨_, hb2, hb3, hb4⟩ := hbd
    simp only [elV, errV] at HR
    by_cases hlt : xe < l.length
    · have HV : Hid (elR (oneE l) = .tuple #[elV Elem.zero, errV (2, xe)]) := by show elR (oneE l) = _; unfold oneE; rw [hr]; simp [hlt, elR]
      clear hw hr
      go_enter Tryz.func86, Tryz.ntmps86
      go_wp2_with (first | (go_at_call 122; (with_reducible refine (HR.out _ ((HB.out.alloc _).alloc _)).mono ?_); rintro e w1 ⟨rfl, hbw1⟩; obtain ⟨hcw1, hfw1⟩ := bcell hbw1; have hzw1 := hbw1.size; (try simp at hzw1); have hyw1 : w.heap.size < w1.heap.size := (by omega); (try have hyaw1 : w.heap.size + 1 < w1.heap.size := (by omega)); (try have hybw1 : w.heap.size + 2 < w1.heap.size := (by omega)); (try have hycw1 : w.heap.size + 3 < w1.heap.size := (by omega)); (try have hydw1 : w.heap.size + 4 < w1.heap.size := (by omega)); clear hzw1); have q0w1 := fun o => hcw1 (w.heap.size) o (by simp [go_sem]; try omega); simp [go_sem] at q0w1; have r0w1 := fun o => hfw1 (w.heap.size) o (by simp [go_sem]; try omega); simp [go_sem] at r0w1; have q1w1 := fun o => hcw1 (w.heap.size + 1) o (by simp [go_sem]; try omega); simp [go_sem] at q1w1; have r1w1 := fun o => hfw1 (w.heap.size + 1) o (by simp [go_sem]; try omega); simp [go_sem] at r1w1)
      go_region
      go_wp2
      (refine bodyPost_retB (by (simp only [results, Tryz.results86]; try go_simp)) rfl HV.out.symm ?_; ((repeat' (first | (with_reducible exact Below.refl _ _) | (with_reducible assumption) | (with_reducible refine Below.setCell ?_ ?_ _) | (with_reducible refine Below.alloc ?_ ?_ _) | (with_reducible refine Below.drew ?_) | (with_reducible refine below_drewN ?_ _) | (with_reducible refine Below.step (by with_reducible assumption) ?_ ?_))) <;> (first | omega | (simp; done) | (simp; omega))))
    · have HV : Hid (elR (oneE l) = .tuple #[elV ⟨xc, xn, xk, xs, xb, xe⟩, errV (0, 0)]) := by show elR (oneE l) = _; unfold oneE; rw [hr]; simp [hlt, elR]
      clear hw hr
      go_enter Tryz.func86, Tryz.ntmps86
      go_wp2_with (first | (go_at_call 122; (with_reducible refine (HR.out _ ((HB.out.alloc _).alloc _)).mono ?_); rintro e w1 ⟨rfl, hbw1⟩; obtain ⟨hcw1, hfw1⟩ := bcell hbw1; have hzw1 := hbw1.size; (try simp at hzw1); have hyw1 : w.heap.size < w1.heap.size := (by omega); (try have hyaw1 : w.heap.size + 1 < w1.heap.size := (by omega)); (try have hybw1 : w.heap.size + 2 < w1.heap.size := (by omega)); (try have hycw1 : w.heap.size + 3 < w1.heap.size := (by omega)); (try have hydw1 : w.heap.size + 4 < w1.heap.size := (by omega)); clear hzw1); have q0w1 := fun o => hcw1 (w.heap.size) o (by simp [go_sem]; try omega); simp [go_sem] at q0w1; have r0w1 := fun o => hfw1 (w.heap.size) o (by simp [go_sem]; try omega); simp [go_sem] at r0w1; have q1w1 := fun o => hcw1 (w.heap.size + 1) o (by simp [go_sem]; try omega); simp [go_sem] at q1w1; have r1w1 := fun o => hfw1 (w.heap.size + 1) o (by simp [go_sem]; try omega); simp [go_sem] at r1w1)
      go_region
      go_wp2
      (refine bodyPost_retB (by (simp only [results, Tryz.results86]; try go_simp)) rfl HV.out.symm ?_; ((repeat' (first | (with_reducible exact Below.refl _ _) | (with_reducible assumption) | (with_reducible refine Below.setCell ?_ ?_ _) | (with_reducible refine Below.alloc ?_ ?_ _) | (with_reducible refine Below.drew ?_) | (with_reducible refine below_drewN ?_ _) | (with_reducible refine Below.step (by with_reducible assumption) ?_ ?_))) <;> (first | omega | (simp; done) | (simp; omega))))
end Go.Proofs.YtlmnmgokfnnbbaaGreatDoor
end
