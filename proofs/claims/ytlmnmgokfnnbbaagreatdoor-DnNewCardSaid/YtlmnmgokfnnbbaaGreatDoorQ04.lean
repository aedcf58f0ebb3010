/- The parts Tlv, TlvB, Elem, ElemB, ElemC, ElemD of one proof, one behind the other. -/
import Derived.Test.YtlmnmgokfnnbbaaGreatDoorProg
import Derived.Test.YtlmnmgokfnnbbaaGreatDoorQ01
import Derived.RegionTactic
import Derived.WalkMore

/- Walks over layer 2 (tlv): identifier octets, length octets, headers. -/
section
set_option linter.unusedSimpArgs false
set_option linter.unusedVariables false
namespace Go.Proofs.YtlmnmgokfnnbbaaGreatDoor
open Go.RowKit Go.Cr
theorem ident_bad (c n : Int) (k : Bool) (w : World) (h : c < 0 ∨ 3 < c ∨ n < 0 ∨ 31 ≤ n) :
    Calls Tryz.prog 152 #[.int .i64 c, .bool k, .int .i64 n] w fun e w' => e = .returned (.tuple #[.int .u8 0, .int .i64 9]) ∧ w = w' := by
  go_enter Tryz.func152, Tryz.ntmps152
  go_wp2
  all_goals first | (exfalso; omega) | (go_ret2; exact ⟨rfl, rfl⟩)

theorem ident_good (c n : Int) (k : Bool) (w : World) (h : 0 ≤ c) (h1 : c ≤ 3) (h2 : 0 ≤ n) (h3 : n < 31) :
    Calls Tryz.prog 152 #[.int .i64 c, .bool k, .int .i64 n] w fun e w' => e = .returned (.tuple #[.int .u8 (c * 64 + n + if k then 32 else 0), .int .i64 0]) ∧ w = w' := by
  have e1 := i64_or_64 c n h h1 h2 (by omega)
  have e2 := u8_or_32 c n h h1 h2 (by omega)
  cases k
  · go_enter Tryz.func152, Tryz.ntmps152
    go_wp2
    go_ret2
    exact ⟨by simp, rfl⟩
  · go_enter Tryz.func152, Tryz.ntmps152
    go_wp2
    go_ret2
    exact ⟨by simp, rfl⟩

theorem readId_bad (n : Int) (w : World) (h0 : 0 ≤ n) (h1 : n < 256) (h : n % 32 = 31) :
    Calls Tryz.prog 198 #[.int .u8 n] w fun e w' => e = .returned (.tuple #[.int .i64 0, .bool false, .int .i64 0, .int .i64 3]) ∧ w = w' := by
  have h3 := u8_and_31 n h0 h1
  go_enter Tryz.func198, Tryz.ntmps198
  go_wp2
  exact bodyPost_ret (results_tmp4 rfl _ _ _) rfl ⟨rfl, rfl⟩
theorem readId_good (n : Int) (w : World) (h0 : 0 ≤ n) (h1 : n < 256) (h : n % 32 ≠ 31) :
    Calls Tryz.prog 198 #[.int .u8 n] w fun e w' => e = .returned (.tuple #[.int .i64 (n / 64), .bool (decide (n / 32 % 2 = 1)), .int .i64 (n % 32), .int .i64 0]) ∧ w = w' := by
  have h3 := u8_and_31 n h0 h1
  have h4 := u8_and_32 n h0 h1
  have h5 : (n % 32 == 31) = false := by simp [h]
  go_enter Tryz.func198, Tryz.ntmps198
  go_wp2
  refine bodyPost_ret (results_tmp4 rfl _ _ _) rfl ⟨?_, rfl⟩
  simp
  rw [Bool.eq_iff_iff]; simp; omega

theorem fail_any (c o : Int) (w : World) :
    Calls Tryz.prog 229 #[.int .i64 c, .int .i64 o] w fun e w' => e = .returned (.tuple #[.int .i64 0, .int .i64 0, .agg #[.int .i64 c, .int .i64 o]]) ∧ Below w.heap.size w w' := by
  go_enter Tryz.func229, Tryz.ntmps229
  go_wp2
  exact bodyPost_ret (by simp [results, Tryz.results229, go_sem]) rfl ⟨rfl, (Below.refl _ _).alloc (Nat.le_refl _) _⟩

theorem readLen_nil (A : Option Addr) (c : Nat) (w : World) : Calls Tryz.prog 199 #[.slice A 0 c] w (RetB (lenV (rdLen [])) w) := by
  go_enter Tryz.func199, Tryz.ntmps199
  go_wp2
  go_step3
  go_wp2_with (first | (go_at_call 229; refine (fail_any _ _ _).mono ?_; rintro e w1 ⟨rfl, hb⟩; obtain ⟨hc, hf⟩ := bcell hb; have hz := hb.size; simp at hz))
  rw [Exit.noGoto_ret]
  refine bodyPost_retB (v := .tuple #[.int .i64 0, .int .i64 0, errV (1, 0)]) (by simp [results, errV, Tryz.results199, hc, go_sem]) rfl (by simp [lenV, rdLen]) ?_
  ((repeat' (first | (with_reducible exact Below.refl _ _) | (with_reducible assumption) | (with_reducible refine Below.setCell ?_ ?_ _) | (with_reducible refine Below.alloc ?_ ?_ _) | (with_reducible refine Below.drew ?_) | (with_reducible refine below_drewN ?_ _) | (with_reducible refine Below.step (by with_reducible assumption) ?_ ?_))) <;> (first | omega | (simp; done) | (simp; omega)))

set_option maxRecDepth 100000 in
set_option maxHeartbeats 1000000 in
theorem readLen_pos (b off c : Nat) (l : List UInt8) (w : World) (hl : 0 < l.length) (hle : l.length ≤ c) (hcm : c ≤ 9223372036854775807) (hlt : b < w.heap.size) (h0 : w.cell? ⟨b, off, none⟩ = some (.int .u8 (bat l 0)))
    (hcell : ∀ j, j < l.length → w.cell? ⟨b, off + j, none⟩ = some (.int .u8 (bat l j))) :
    Calls Tryz.prog 199 #[.slice (some ⟨b, off, none⟩) l.length c] w (RetB (lenV (rdLen l)) w) := by
  have hx1 := bat_lt l 0
  have hx0 := bat_pos l 0
  have hlb : ((l.length : Int) == 0) = false := beq_eq_false_iff_ne.2 (by omega)
  have HC := Lib.hid hcell
  clear hcell
  by_cases c1 : bat l 0 < 128
  · have hv : lenV (rdLen l) = .tuple #[.int .i64 (bat l 0), .int .i64 1, errV (0, 0)] := by
      unfold rdLen; (repeat (first | rw [if_pos (by omega)] | rw [if_neg (by omega)])); rfl
    have HV := Lib.hid hv
    clear hv
    go_enter Tryz.func199, Tryz.ntmps199
    go_wp2
    go_step3
    go_wp2
    rw [Exit.noGoto_ret]
    refine bodyPost_retB ?_ rfl HV.out.symm ?_
    · simp [results, errV, Tryz.results199, go_sem]
    · ((repeat' (first | (with_reducible exact Below.refl _ _) | (with_reducible assumption) | (with_reducible refine Below.setCell ?_ ?_ _) | (with_reducible refine Below.alloc ?_ ?_ _) | (with_reducible refine Below.drew ?_) | (with_reducible refine below_drewN ?_ _) | (with_reducible refine Below.step (by with_reducible assumption) ?_ ?_))) <;> (first | omega | (simp; done) | (simp; omega)))
  by_cases c2 : bat l 0 - 128 = 0 ∨ 4 < bat l 0 - 128
  · have hk : ((bat l 0 - 128 == 0) = true) ∨ ((bat l 0 - 128 == 0) = false ∧ 4 < bat l 0 - 128) := by
      by_cases h : bat l 0 - 128 = 0
      · exact .inl (by simp [h])
      · exact .inr ⟨by simp [h], by omega⟩
    have hv : lenV (rdLen l) = .tuple #[.int .i64 0, .int .i64 0, errV (4, 0)] := by
      unfold rdLen; (repeat (first | rw [if_pos (by omega)] | rw [if_neg (by omega)])); rfl
    have HV := Lib.hid hv
    clear hv c2
    rcases hk with hk | ⟨hk, hk4⟩ <;>
    · go_enter Tryz.func199, Tryz.ntmps199
      go_wp2
      go_step3
      go_wp2_with (first | (go_at_call 229; refine (fail_any _ _ _).mono ?_; rintro e w1 ⟨rfl, hb⟩; obtain ⟨hc, hf⟩ := bcell hb; have hz := hb.size; simp at hz))
      rw [Exit.noGoto_ret]
      refine bodyPost_retB ?_ rfl HV.out.symm ?_
      · simp [results, errV, Tryz.results199, hc, go_sem]
      · ((repeat' (first | (with_reducible exact Below.refl _ _) | (with_reducible assumption) | (with_reducible refine Below.setCell ?_ ?_ _) | (with_reducible refine Below.alloc ?_ ?_ _) | (with_reducible refine Below.drew ?_) | (with_reducible refine below_drewN ?_ _) | (with_reducible refine Below.step (by with_reducible assumption) ?_ ?_))) <;> (first | omega | (simp; done) | (simp; omega)))
  have c3 : ¬ bat l 0 - 128 = 0 := by omega
  have c4 : ¬ 4 < bat l 0 - 128 := by omega
  have hk : (bat l 0 - 128 == 0) = false := by simp [c3]
  clear c2
  by_cases c5 : (l.length : Int) ≤ bat l 0 - 128
  · have hv : lenV (rdLen l) = .tuple #[.int .i64 0, .int .i64 0, errV (1, l.length)] := by
      unfold rdLen; (repeat (first | rw [if_pos (by omega)] | rw [if_neg (by omega)])); rfl
    have HV := Lib.hid hv
    clear hv
    go_enter Tryz.func199, Tryz.ntmps199
    go_wp2
    go_step3
    go_wp2_with (first | (go_at_call 229; refine (fail_any _ _ _).mono ?_; rintro e w1 ⟨rfl, hb⟩; obtain ⟨hc, hf⟩ := bcell hb; have hz := hb.size; simp at hz))
    rw [Exit.noGoto_ret]
    refine bodyPost_retB ?_ rfl HV.out.symm ?_
    · simp [results, errV, Tryz.results199, hc, go_sem]
    · ((repeat' (first | (with_reducible exact Below.refl _ _) | (with_reducible assumption) | (with_reducible refine Below.setCell ?_ ?_ _) | (with_reducible refine Below.alloc ?_ ?_ _) | (with_reducible refine Below.drew ?_) | (with_reducible refine below_drewN ?_ _) | (with_reducible refine Below.step (by with_reducible assumption) ?_ ?_))) <;> (first | omega | (simp; done) | (simp; omega)))
  have h1 : w.cell? ⟨b, off + 1, none⟩ = some (.int .u8 (bat l 1)) := HC.out 1 (by omega)
  have hy1 := bat_lt l 1
  have hy0 := bat_pos l 1
  obtain ⟨K, hK⟩ : ∃ K : Nat, bat l 0 - 128 = K := ⟨(bat l 0 - 128).toNat, by omega⟩
  have hKn : (bat l 0 - 128).toNat = K := by omega
  have HK := Lib.hid hK
  have hK1 : bat l 0 - 128 ≤ K := by omega
  have hK2 : (K : Int) ≤ bat l 0 - 128 := by omega
  have hT : (1 + (bat l 0 - 128)) = 1 + (K : Int) := by omega
  have HV : Hid (lenV (rdLen l) = if bat l 1 = 0 ∨ be ((l.drop 1).take K) < 128 ∨ 2147483647 < be ((l.drop 1).take K) then .tuple #[.int .i64 0, .int .i64 0, errV (4, 0)] else .tuple #[.int .i64 (be ((l.drop 1).take K)), .int .i64 (1 + (bat l 0 - 128)), errV (0, 0)]) := by
    show lenV (rdLen l) = _
    unfold rdLen
    rw [hKn]
    (repeat (first | rw [if_pos (by omega)] | rw [if_neg (by omega)]))
    split <;> rfl
  clear hK hKn hT
  go_enter Tryz.func199, Tryz.ntmps199
  go_wp2
  go_step3
  go_wp2
  go_step3
  go_wp2
  go_loop [7, 8] (fun n i => ∃ k : Nat, k ≤ K ∧ i = .int .i64 (k + 1 : Nat) ∧ n = .int .i64 (be ((l.drop 1).take k))) (fun _ i => K + 1 - (intOf i).toNat)
  case atStart => exact ⟨0, Nat.zero_le _, rfl, rfl⟩
  case round =>
    obtain ⟨k, hk', rfl, rfl⟩ := hrel
    by_cases hkk : k < K
    · have hbe := be_bound ((l.drop 1).take k)
      have hlen : ((l.drop 1).take k).length = k := by simp; omega
      have hc1 : w.cell? ⟨b, off + (k + 1), none⟩ = some (.int .u8 (bat l (k + 1))) := HC.out _ (by omega)
      have hz1 := bat_lt l (k + 1)
      have hz0 := bat_pos l (k + 1)
      have hs := be_take_succ (l.drop 1) k (by simp; omega)
      rw [bat_drop, Nat.add_comm 1 k] at hs
      have HS := Lib.hid hs
      rw [hlen] at hbe
      have hpow : (256 : Int) ^ k ≤ 256 ^ 3 := pow256_mono (by omega)
      have hN0 := hbe.1
      have hN1 : be ((l.drop 1).take k) < 16777216 := by have := hbe.2; omega
      clear hbe hlen hs hpow
      generalize be ((l.drop 1).take k) = N at *
      have hor := i64_or_256 N (bat l (k + 1)) hN0 (by omega) hz0 hz1
      go_wp2
      go_round
      case rel => exact ⟨k + 1, by omega, by go_num, by rw [HS.out]⟩
      case measure => simp [intOf]; omega
    · obtain rfl : k = K := by omega
      have hbe := be_bound ((l.drop 1).take k)
      have hN0 := hbe.1
      have hlen : ((l.drop 1).take k).length = k := by simp; omega
      rw [hlen] at hbe
      have hpow : (256 : Int) ^ k ≤ 256 ^ 4 := pow256_mono (by omega)
      have hN1 : be ((l.drop 1).take k) < 4294967296 := by have := hbe.2; omega
      clear hbe hlen hpow
      generalize be ((l.drop 1).take k) = N at *
      by_cases hbad : bat l 1 = 0 ∨ N < 128 ∨ 2147483647 < N
      · have HW : Hid (lenV (rdLen l) = .tuple #[.int .i64 0, .int .i64 0, errV (4, 0)]) := by
          have := HV.out
          rwa [if_pos hbad] at this
        clear HV
        have HV := HW
        clear HW
        have hq : (bat l 1 == 0) = true ∨ ((bat l 1 == 0) = false ∧ N < 128) ∨ ((bat l 1 == 0) = false ∧ 128 ≤ N ∧ 2147483647 < N) := by
          by_cases h : bat l 1 = 0
          · exact .inl (by simp [h])
          · have : (bat l 1 == 0) = false := by simp [h]
            by_cases h' : N < 128
            · exact .inr (.inl ⟨this, h'⟩)
            · exact .inr (.inr ⟨this, by omega, by omega⟩)
        clear hbad
        rcases hq with hq | ⟨hq, hq1⟩ | ⟨hq, hq1, hq2⟩ <;>
        · go_wp2_with (first | (go_at_call 229; refine (fail_any _ _ _).mono ?_; rintro e w1 ⟨rfl, hb⟩; obtain ⟨hc, hf⟩ := bcell hb; have hz := hb.size; simp at hz))
          rw [Exit.noGoto_ret]
          refine bodyPost_retB ?_ rfl HV.out.symm ?_
          · simp [results, errV, Tryz.results199, hc, go_sem]
          · ((repeat' (first | (with_reducible exact Below.refl _ _) | (with_reducible assumption) | (with_reducible refine Below.setCell ?_ ?_ _) | (with_reducible refine Below.alloc ?_ ?_ _) | (with_reducible refine Below.drew ?_) | (with_reducible refine below_drewN ?_ _) | (with_reducible refine Below.step (by with_reducible assumption) ?_ ?_))) <;> (first | omega | (simp; done) | (simp; omega)))
      · have HW : Hid (lenV (rdLen l) = .tuple #[.int .i64 N, .int .i64 (1 + (bat l 0 - 128)), errV (0, 0)]) := by
          have := HV.out
          rwa [if_neg hbad] at this
        clear HV
        have HV := HW
        clear HW
        have hq : (bat l 1 == 0) = false := by simp; omega
        have hq1 : 128 ≤ N := by omega
        have hq2 : N ≤ 2147483647 := by omega
        clear hbad
        go_wp2
        refine bodyPost_retB ?_ rfl HV.out.symm ?_
        · simp [results, errV, Tryz.results199, go_sem]
        · ((repeat' (first | (with_reducible exact Below.refl _ _) | (with_reducible assumption) | (with_reducible refine Below.setCell ?_ ?_ _) | (with_reducible refine Below.alloc ?_ ?_ _) | (with_reducible refine Below.drew ?_) | (with_reducible refine below_drewN ?_ _) | (with_reducible refine Below.step (by with_reducible assumption) ?_ ?_))) <;> (first | omega | (simp; done) | (simp; omega)))

theorem readLen_any (v : Value) (l : List UInt8) (w : World) (hv : IsB w v l) : Calls Tryz.prog 199 #[v] w (RetB (lenV (rdLen l)) w) := by
  rcases hv.open_ with ⟨A, c, rfl, rfl, _⟩ | ⟨b, off, c, rfl, h1, h2, h3, h4, h5, h6⟩
  · exact readLen_nil A c w
  · exact readLen_pos b off c l w h1 h2 h3 h4 h5 h6
end Go.Proofs.YtlmnmgokfnnbbaaGreatDoor
end

/- Walk over tlv.ReadHeader. -/
section
set_option linter.unusedSimpArgs false
set_option linter.unusedVariables false
namespace Go.Proofs.YtlmnmgokfnnbbaaGreatDoor
open Go.RowKit Go.Cr
theorem ulB : Tryz.prog.underlying 33 = some (.slice 5) := by kernel_rfl
theorem szB (W : World) : (sizeOf 5).run Tryz.prog W = .ok 1 W := by kernel_rfl

set_option maxRecDepth 100000 in
set_option maxHeartbeats 2000000 in
theorem readHdr_any (v : Value) (l : List UInt8) (w : World) (hw : IsB w v l) : Calls Tryz.prog 159 #[v] w (RetB (rhV (rdHdr l)) w) := by
  have hlen := hw.len ulB
  by_cases hl : l.length = 0
  · have HV : Hid (rhV (rdHdr l) = .tuple #[hdrV Hdr.zero, errV (1, 0)]) := by show rhV (rdHdr l) = _; simp [rdHdr, rhV, hl]
    have hlb : ((l.length : Int) == 0) = true := beq_iff_eq.2 (by omega)
    clear hl
    go_enter Tryz.func159, Tryz.ntmps159
    go_wp2
    refine bodyPost_retB ?_ rfl HV.out.symm ?_
    · simp [results, errV, hdrV, Hdr.zero, Tryz.results159, go_sem]
    · ((repeat' (first | (with_reducible exact Below.refl _ _) | (with_reducible assumption) | (with_reducible refine Below.setCell ?_ ?_ _) | (with_reducible refine Below.alloc ?_ ?_ _) | (with_reducible refine Below.drew ?_) | (with_reducible refine below_drewN ?_ _) | (with_reducible refine Below.step (by with_reducible assumption) ?_ ?_))) <;> (first | omega | (simp; done) | (simp; omega)))
  have hx1 := bat_lt l 0
  have hx0 := bat_pos l 0
  have hlb : ((l.length : Int) == 0) = false := beq_eq_false_iff_ne.2 (by omega)
  obtain ⟨b, o, hix, hbw, hcl⟩ := hw.at_ (P := Tryz.prog) ulB szB .i64 (i := 0) (by omega) (by omega)
  simp only [Int.toNat_zero] at hcl
  by_cases c1 : bat l 0 % 32 = 31
  · have HV : Hid (rhV (rdHdr l) = .tuple #[hdrV Hdr.zero, errV (3, 0)]) := by show rhV (rdHdr l) = _; unfold rdHdr; (repeat (first | rw [if_pos (by omega)] | rw [if_neg (by omega)])); rfl
    have HC := Lib.hid (readId_bad (bat l 0) · hx0 hx1 c1)
    clear hw c1
    go_enter Tryz.func159, Tryz.ntmps159
    go_wp2_with (first | (go_at_call 198; refine (HC.out _).mono ?_; rintro e w1 ⟨rfl, rfl⟩))
    refine bodyPost_retB ?_ rfl HV.out.symm ?_
    · simp [results, errV, hdrV, Hdr.zero, Tryz.results159, go_sem]
    · ((repeat' (first | (with_reducible exact Below.refl _ _) | (with_reducible assumption) | (with_reducible refine Below.setCell ?_ ?_ _) | (with_reducible refine Below.alloc ?_ ?_ _) | (with_reducible refine Below.drew ?_) | (with_reducible refine below_drewN ?_ _) | (with_reducible refine Below.step (by with_reducible assumption) ?_ ?_))) <;> (first | omega | (simp; done) | (simp; omega)))
  have HC := Lib.hid (readId_good (bat l 0) · hx0 hx1 c1)
  obtain ⟨v1, hcut, hv1⟩ := hw.cutLo (P := Tryz.prog) ulB szB .i64 (lo := 1) (by omega) (by omega)
  have hv1 : IsB w v1 (l.drop 1) := hv1
  cases hr : rdLen (l.drop 1) with
  | error e =>
    obtain ⟨ec, eo⟩ := e
    have hbd := rdLen_err hr
    have HV : Hid (rhV (rdHdr l) = .tuple #[hdrV Hdr.zero, errV (ec, eo + 1)]) := by show rhV (rdHdr l) = _; unfold rdHdr; (repeat (first | rw [if_pos (by omega)] | rw [if_neg (by omega)])); rw [hr]; rfl
    have HR : Hid (∀ W, IsB W v1 (l.drop 1) → Calls Tryz.prog 199 #[v1] W (RetB (.tuple #[.int .i64 0, .int .i64 0, .agg #[.int .i64 ec, .int .i64 eo]]) W)) := by
      intro W h
      have := readLen_any v1 _ W h
      rwa [hr] at this
    simp only [List.length_drop] at hbd
    obtain ⟨hb1, hb2, hb3, hb4⟩ := hbd
    have hb5 : eo + 1 ≤ 9223372036854775807 := by have := hw.maxl; omega
    clear hb4
    have hn : (ec == 0) = false := beq_eq_false_iff_ne.2 (by omega)
    have hn' : (ec != 0) = true := by simp; omega
    have HB := Lib.hid hv1
    clear hw hr c1 hv1
    go_enter Tryz.func159, Tryz.ntmps159
    go_wp2_with (first | (go_at_call 198; refine (HC.out _).mono ?_; rintro e w1 ⟨rfl, rfl⟩) | (go_at_call 199; (with_reducible refine (HR.out _ ((HB.out.alloc _).alloc _)).mono ?_); rintro e w1 ⟨rfl, hbw1⟩; obtain ⟨hcw1, hfw1⟩ := bcell hbw1; have hzw1 := hbw1.size; (try simp at hzw1); have hyw1 : w.heap.size < w1.heap.size := (by omega); (try have hyaw1 : w.heap.size + 1 < w1.heap.size := (by omega)); (try have hybw1 : w.heap.size + 2 < w1.heap.size := (by omega)); (try have hycw1 : w.heap.size + 3 < w1.heap.size := (by omega)); (try have hydw1 : w.heap.size + 4 < w1.heap.size := (by omega)); clear hzw1); have q0w1 := fun o => hcw1 (w.heap.size) o (by simp [go_sem]; try omega); simp [go_sem] at q0w1; have r0w1 := fun o => hfw1 (w.heap.size) o (by simp [go_sem]; try omega); simp [go_sem] at r0w1; have q1w1 := fun o => hcw1 (w.heap.size + 1) o (by simp [go_sem]; try omega); simp [go_sem] at q1w1; have r1w1 := fun o => hfw1 (w.heap.size + 1) o (by simp [go_sem]; try omega); simp [go_sem] at r1w1)
    go_region
    go_wp2
    (refine bodyPost_retB (by (simp only [results, Tryz.results159]; try go_simp)) rfl HV.out.symm ?_; ((repeat' (first | (with_reducible exact Below.refl _ _) | (with_reducible assumption) | (with_reducible refine Below.setCell ?_ ?_ _) | (with_reducible refine Below.alloc ?_ ?_ _) | (with_reducible refine Below.drew ?_) | (with_reducible refine below_drewN ?_ _) | (with_reducible refine Below.step (by with_reducible assumption) ?_ ?_))) <;> (first | omega | (simp; done) | (simp; omega))))
  | ok r =>
    obtain ⟨n, k⟩ := r
    have hbd := rdLen_ok hr
    have HV : Hid (rhV (rdHdr l) = .tuple #[hdrV ⟨bat l 0 / 64, bat l 0 % 32, decide (bat l 0 / 32 % 2 = 1), n, 1 + k⟩, errV (0, 0)]) := by show rhV (rdHdr l) = _; unfold rdHdr; (repeat (first | rw [if_pos (by omega)] | rw [if_neg (by omega)])); rw [hr]; rfl
    have HR : Hid (∀ W, IsB W v1 (l.drop 1) → Calls Tryz.prog 199 #[v1] W (RetB (.tuple #[.int .i64 n, .int .i64 k, .agg #[.int .i64 0, .int .i64 0]]) W)) := by
      intro W h
      have := readLen_any v1 _ W h
      rwa [hr] at this
    obtain ⟨hb1, hb2, hb3, hb4, hb5⟩ := hbd
    have HB := Lib.hid hv1
    clear hw hr c1 hv1
    go_enter Tryz.func159, Tryz.ntmps159
    go_wp2_with (first | (go_at_call 198; refine (HC.out _).mono ?_; rintro e w1 ⟨rfl, rfl⟩) | (go_at_call 199; (with_reducible refine (HR.out _ ((HB.out.alloc _).alloc _)).mono ?_); rintro e w1 ⟨rfl, hbw1⟩; obtain ⟨hcw1, hfw1⟩ := bcell hbw1; have hzw1 := hbw1.size; (try simp at hzw1); have hyw1 : w.heap.size < w1.heap.size := (by omega); (try have hyaw1 : w.heap.size + 1 < w1.heap.size := (by omega)); (try have hybw1 : w.heap.size + 2 < w1.heap.size := (by omega)); (try have hycw1 : w.heap.size + 3 < w1.heap.size := (by omega)); (try have hydw1 : w.heap.size + 4 < w1.heap.size := (by omega)); clear hzw1); have q0w1 := fun o => hcw1 (w.heap.size) o (by simp [go_sem]; try omega); simp [go_sem] at q0w1; have r0w1 := fun o => hfw1 (w.heap.size) o (by simp [go_sem]; try omega); simp [go_sem] at r0w1; have q1w1 := fun o => hcw1 (w.heap.size + 1) o (by simp [go_sem]; try omega); simp [go_sem] at q1w1; have r1w1 := fun o => hfw1 (w.heap.size + 1) o (by simp [go_sem]; try omega); simp [go_sem] at r1w1)
    (refine bodyPost_retB (by (simp only [results, Tryz.results159]; try go_simp)) rfl HV.out.symm ?_; ((repeat' (first | (with_reducible exact Below.refl _ _) | (with_reducible assumption) | (with_reducible refine Below.setCell ?_ ?_ _) | (with_reducible refine Below.alloc ?_ ?_ _) | (with_reducible refine Below.drew ?_) | (with_reducible refine below_drewN ?_ _) | (with_reducible refine Below.step (by with_reducible assumption) ?_ ?_))) <;> (first | omega | (simp; done) | (simp; omega))))
end Go.Proofs.YtlmnmgokfnnbbaaGreatDoor
end

/- Walks over layer 9 (element): next, One. -/
section
set_option linter.unusedSimpArgs false
set_option linter.unusedVariables false
namespace Go.Proofs.YtlmnmgokfnnbbaaGreatDoor
open Go.RowKit Go.Cr
set_option maxRecDepth 100000 in
set_option maxHeartbeats 2000000 in
theorem next_any (v : Value) (l : List UInt8) (a e : Int) (w : World) (hw : IsB w v l) (h0 : 0 ≤ a) (h1 : a ≤ e) (h2 : e ≤ l.length) :
    Calls Tryz.prog 122 #[v, .int .i64 a, .int .i64 e] w (RetB (elR (nextE l a e)) w) := by
  have hm := hw.maxl
  obtain ⟨v1, hcut, hv1⟩ := hw.cut3 (P := Tryz.prog) ulB szB .i64 .i64 .i64 h0 h1 h2
  have hv1 : IsB w v1 (seg l a e) := hv1
  have hpl := seg_len l a e h0 h1 h2
  have HB := Lib.hid hv1
  cases hr : rdHdr (seg l a e) with
  | error er =>
    obtain ⟨ec, eo⟩ := er
    have hbd := rdHdr_err hr
    have HV : Hid (elR (nextE l a e) = .tuple #[elV Elem.zero, errV (ec, eo + a)]) := by show elR (nextE l a e) = _; unfold nextE; rw [hr]; rfl
    have HR : Hid (∀ W, IsB W v1 (seg l a e) → Calls Tryz.prog 159 #[v1] W (RetB (.tuple #[hdrV Hdr.zero, errV (ec, eo)]) W)) := by
      intro W h
      have := readHdr_any v1 _ W h
      rwa [hr] at this
    obtain ⟨hb1, hb2, hb3, hb4⟩ := hbd
    have hb5 : eo + a ≤ e := by omega
    have hn : (ec == 0) = false := beq_eq_false_iff_ne.2 (by omega)
    have hn' : (ec != 0) = true := by simp; omega
    clear hw hr hv1 hpl hb4
    simp only [hdrV, errV, Hdr.zero] at HR
    go_enter Tryz.func122, Tryz.ntmps122
    go_wp2_with (first | (go_at_call 159; (with_reducible refine (HR.out _ ((HB.out.alloc _).alloc _)).mono ?_); rintro e w1 ⟨rfl, hbw1⟩; obtain ⟨hcw1, hfw1⟩ := bcell hbw1; have hzw1 := hbw1.size; (try simp at hzw1); have hyw1 : w.heap.size < w1.heap.size := (by omega); (try have hyaw1 : w.heap.size + 1 < w1.heap.size := (by omega)); (try have hybw1 : w.heap.size + 2 < w1.heap.size := (by omega)); (try have hycw1 : w.heap.size + 3 < w1.heap.size := (by omega)); (try have hydw1 : w.heap.size + 4 < w1.heap.size := (by omega)); clear hzw1); have q0w1 := fun o => hcw1 (w.heap.size) o (by simp [go_sem]; try omega); simp [go_sem] at q0w1; have r0w1 := fun o => hfw1 (w.heap.size) o (by simp [go_sem]; try omega); simp [go_sem] at r0w1; have q1w1 := fun o => hcw1 (w.heap.size + 1) o (by simp [go_sem]; try omega); simp [go_sem] at q1w1; have r1w1 := fun o => hfw1 (w.heap.size + 1) o (by simp [go_sem]; try omega); simp [go_sem] at r1w1)
    go_region
    go_wp2
    (refine bodyPost_retB (by (simp only [results, Tryz.results122]; try go_simp)) rfl HV.out.symm ?_; ((repeat' (first | (with_reducible exact Below.refl _ _) | (with_reducible assumption) | (with_reducible refine Below.setCell ?_ ?_ _) | (with_reducible refine Below.alloc ?_ ?_ _) | (with_reducible refine Below.drew ?_) | (with_reducible refine below_drewN ?_ _) | (with_reducible refine Below.step (by with_reducible assumption) ?_ ?_))) <;> (first | omega | (simp; done) | (simp; omega))))
  | ok h =>
    obtain ⟨hc, hnm, hcn, hln, hsz⟩ := h
    have hbd := rdHdr_ok hr
    have HR : Hid (∀ W, IsB W v1 (seg l a e) → Calls Tryz.prog 159 #[v1] W (RetB (.tuple #[hdrV ⟨hc, hnm, hcn, hln, hsz⟩, errV (0, 0)]) W)) := by
      intro W h
      have := readHdr_any v1 _ W h
      rwa [hr] at this
    simp only at hbd
    obtain ⟨hb1, hb2, hb3, hb4, hb5, _⟩ := hbd
    rw [hpl] at hb5
    simp only [hdrV, errV] at HR
    by_cases hlt : e - a - hsz < hln
    · have HV : Hid (elR (nextE l a e) = .tuple #[elV Elem.zero, errV (1, e)]) := by show elR (nextE l a e) = _; unfold nextE; rw [hr]; simp [hlt, elR]
      clear hw hr hv1 hpl
      go_enter Tryz.func122, Tryz.ntmps122
      go_wp2_with (first | (go_at_call 159; (with_reducible refine (HR.out _ ((HB.out.alloc _).alloc _)).mono ?_); rintro e w1 ⟨rfl, hbw1⟩; obtain ⟨hcw1, hfw1⟩ := bcell hbw1; have hzw1 := hbw1.size; (try simp at hzw1); have hyw1 : w.heap.size < w1.heap.size := (by omega); (try have hyaw1 : w.heap.size + 1 < w1.heap.size := (by omega)); (try have hybw1 : w.heap.size + 2 < w1.heap.size := (by omega)); (try have hycw1 : w.heap.size + 3 < w1.heap.size := (by omega)); (try have hydw1 : w.heap.size + 4 < w1.heap.size := (by omega)); clear hzw1); have q0w1 := fun o => hcw1 (w.heap.size) o (by simp [go_sem]; try omega); simp [go_sem] at q0w1; have r0w1 := fun o => hfw1 (w.heap.size) o (by simp [go_sem]; try omega); simp [go_sem] at r0w1; have q1w1 := fun o => hcw1 (w.heap.size + 1) o (by simp [go_sem]; try omega); simp [go_sem] at q1w1; have r1w1 := fun o => hfw1 (w.heap.size + 1) o (by simp [go_sem]; try omega); simp [go_sem] at r1w1)
      (refine bodyPost_retB (by (simp only [results, Tryz.results122]; try go_simp)) rfl HV.out.symm ?_; ((repeat' (first | (with_reducible exact Below.refl _ _) | (with_reducible assumption) | (with_reducible refine Below.setCell ?_ ?_ _) | (with_reducible refine Below.alloc ?_ ?_ _) | (with_reducible refine Below.drew ?_) | (with_reducible refine below_drewN ?_ _) | (with_reducible refine Below.step (by with_reducible assumption) ?_ ?_))) <;> (first | omega | (simp; done) | (simp; omega))))
    · have HV : Hid (elR (nextE l a e) = .tuple #[elV ⟨hc, hnm, hcn, a, a + hsz, a + hsz + hln⟩, errV (0, 0)]) := by show elR (nextE l a e) = _; unfold nextE; rw [hr]; simp [hlt, elR, Hdr.at_]
      clear hw hr hv1 hpl
      go_enter Tryz.func122, Tryz.ntmps122
      go_wp2_with (first | (go_at_call 159; (with_reducible refine (HR.out _ ((HB.out.alloc _).alloc _)).mono ?_); rintro e w1 ⟨rfl, hbw1⟩; obtain ⟨hcw1, hfw1⟩ := bcell hbw1; have hzw1 := hbw1.size; (try simp at hzw1); have hyw1 : w.heap.size < w1.heap.size := (by omega); (try have hyaw1 : w.heap.size + 1 < w1.heap.size := (by omega)); (try have hybw1 : w.heap.size + 2 < w1.heap.size := (by omega)); (try have hycw1 : w.heap.size + 3 < w1.heap.size := (by omega)); (try have hydw1 : w.heap.size + 4 < w1.heap.size := (by omega)); clear hzw1); have q0w1 := fun o => hcw1 (w.heap.size) o (by simp [go_sem]; try omega); simp [go_sem] at q0w1; have r0w1 := fun o => hfw1 (w.heap.size) o (by simp [go_sem]; try omega); simp [go_sem] at r0w1; have q1w1 := fun o => hcw1 (w.heap.size + 1) o (by simp [go_sem]; try omega); simp [go_sem] at q1w1; have r1w1 := fun o => hfw1 (w.heap.size + 1) o (by simp [go_sem]; try omega); simp [go_sem] at r1w1)
      (refine bodyPost_retB (by (simp only [results, Tryz.results122]; try go_simp)) rfl HV.out.symm ?_; ((repeat' (first | (with_reducible exact Below.refl _ _) | (with_reducible assumption) | (with_reducible refine Below.setCell ?_ ?_ _) | (with_reducible refine Below.alloc ?_ ?_ _) | (with_reducible refine Below.drew ?_) | (with_reducible refine below_drewN ?_ _) | (with_reducible refine Below.step (by with_reducible assumption) ?_ ?_))) <;> (first | omega | (simp; done) | (simp; omega))))
end Go.Proofs.YtlmnmgokfnnbbaaGreatDoor
end

/- Walks over layer 9 (element): Is, One. -/
section
set_option linter.unusedSimpArgs false
set_option linter.unusedVariables false
namespace Go.Proofs.YtlmnmgokfnnbbaaGreatDoor
open Go.RowKit Go.Cr
set_option maxRecDepth 100000 in
set_option maxHeartbeats 2000000 in
theorem is_any (x : Elem) (c n : Int) (k : Bool) (w : World) :
    Calls Tryz.prog 87 #[elV x, .int .i64 c, .bool k, .int .i64 n] w (RetB (.bool (isE x c k n)) w) := by
  obtain ⟨xc, xn, xk, xs, xb, xe⟩ := x
  cases h1 : (xc == c) <;> cases h2 : (xk == k) <;> cases h3 : (xn == n)
  all_goals
    have HV : Hid (Value.bool (isE ⟨xc, xn, xk, xs, xb, xe⟩ c k n) = .bool ((xc == c) && (xk == k) && (xn == n))) := rfl
    simp only [h1, h2, h3, Bool.and_false, Bool.false_and, Bool.and_true] at HV
    simp only [elV]
    go_enter Tryz.func87, Tryz.ntmps87
    go_wp2
    (refine bodyPost_retB (by (simp only [results, Tryz.results87]; try go_simp)) rfl HV.out.symm ?_; ((repeat' (first | (with_reducible exact Below.refl _ _) | (with_reducible assumption) | (with_reducible refine Below.setCell ?_ ?_ _) | (with_reducible refine Below.alloc ?_ ?_ _) | (with_reducible refine Below.drew ?_) | (with_reducible refine below_drewN ?_ _) | (with_reducible refine Below.step (by with_reducible assumption) ?_ ?_))) <;> (first | omega | (simp; done) | (simp; omega))))

set_option maxRecDepth 100000 in
set_option maxHeartbeats 2000000 in
theorem one_any (v : Value) (l : List UInt8) (w : World) (hw : IsB w v l) :
    Calls Tryz.prog 86 #[v] w (RetB (elR (oneE l)) w) := by
  have hm := hw.maxl
  have hlen := hw.len ulB
  have HB := Lib.hid hw
  cases hr : nextE l 0 l.length with
  | error er =>
    obtain ⟨ec, eo⟩ := er
    have hbd := nextE_err (by omega) (by omega) (by omega) hr
    have HV : Hid (elR (oneE l) = .tuple #[elV Elem.zero, errV (ec, eo)]) := by show elR (oneE l) = _; unfold oneE; rw [hr]; rfl
    have HR : Hid (∀ W, IsB W v l → Calls Tryz.prog 122 #[v, .int .i64 0, .int .i64 l.length] W (RetB (.tuple #[elV Elem.zero, errV (ec, eo)]) W)) := by
      intro W h
      have := next_any v l 0 l.length W h (by omega) (by omega) (by omega)
      rwa [hr] at this
    have hn : (ec == 0) = false := beq_eq_false_iff_ne.2 (by omega)
    clear hw hr hbd
    simp only [elV, errV, Elem.zero] at HR
    go_enter Tryz.func86, Tryz.ntmps86
    go_wp2_with (first | (go_at_call 122; (with_reducible refine (HR.out _ ((HB.out.alloc _).alloc _)).mono ?_); rintro e w1 ⟨rfl, hbw1⟩; obtain ⟨hcw1, hfw1⟩ := bcell hbw1; have hzw1 := hbw1.size; (try simp at hzw1); have hyw1 : w.heap.size < w1.heap.size := (by omega); (try have hyaw1 : w.heap.size + 1 < w1.heap.size := (by omega)); (try have hybw1 : w.heap.size + 2 < w1.heap.size := (by omega)); (try have hycw1 : w.heap.size + 3 < w1.heap.size := (by omega)); (try have hydw1 : w.heap.size + 4 < w1.heap.size := (by omega)); clear hzw1); have q0w1 := fun o => hcw1 (w.heap.size) o (by simp [go_sem]; try omega); simp [go_sem] at q0w1; have r0w1 := fun o => hfw1 (w.heap.size) o (by simp [go_sem]; try omega); simp [go_sem] at r0w1; have q1w1 := fun o => hcw1 (w.heap.size + 1) o (by simp [go_sem]; try omega); simp [go_sem] at q1w1; have r1w1 := fun o => hfw1 (w.heap.size + 1) o (by simp [go_sem]; try omega); simp [go_sem] at r1w1)
    go_region
    go_wp2
    (refine bodyPost_retB (by (simp only [results, Tryz.results86]; try go_simp)) rfl HV.out.symm ?_; ((repeat' (first | (with_reducible exact Below.refl _ _) | (with_reducible assumption) | (with_reducible refine Below.setCell ?_ ?_ _) | (with_reducible refine Below.alloc ?_ ?_ _) | (with_reducible refine Below.drew ?_) | (with_reducible refine below_drewN ?_ _) | (with_reducible refine Below.step (by with_reducible assumption) ?_ ?_))) <;> (first | omega | (simp; done) | (simp; omega))))
  | ok x =>
    obtain ⟨xc, xn, xk, xs, xb, xe⟩ := x
    have hbd := nextE_ok (by omega) (by omega) (by omega) hr
    have HR : Hid (∀ W, IsB W v l → Calls Tryz.prog 122 #[v, .int .i64 0, .int .i64 l.length] W (RetB (.tuple #[elV ⟨xc, xn, xk, xs, xb, xe⟩, errV (0, 0)]) W)) := by
      intro W h
      have := next_any v l 0 l.length W h (by omega) (by omega) (by omega)
      rwa [hr] at this
    simp only at hbd
    obtain ⟨_, hb2, hb3, hb4⟩ := hbd
    simp only [elV, errV] at HR
    by_cases hlt : xe < l.length
    · have HV : Hid (elR (oneE l) = .tuple #[elV Elem.zero, errV (2, xe)]) := by show elR (oneE l) = _; unfold oneE; rw [hr]; simp [hlt, elR]
      clear hw hr
      go_enter Tryz.func86, Tryz.ntmps86
      go_wp2_with (first | (go_at_call 122; (with_reducible refine (HR.out _ ((HB.out.alloc _).alloc _)).mono ?_); rintro e w1 ⟨rfl, hbw1⟩; obtain ⟨hcw1, hfw1⟩ := bcell hbw1; have hzw1 := hbw1.size; (try simp at hzw1); have hyw1 : w.heap.size < w1.heap.size := (by omega); (try have hyaw1 : w.heap.size + 1 < w1.heap.size := (by omega)); (try have hybw1 : w.heap.size + 2 < w1.heap.size := (by omega)); (try have hycw1 : w.heap.size + 3 < w1.heap.size := (by omega)); (try have hydw1 : w.heap.size + 4 < w1.heap.size := (by omega)); clear hzw1); have q0w1 := fun o => hcw1 (w.heap.size) o (by simp [go_sem]; try omega); simp [go_sem] at q0w1; have r0w1 := fun o => hfw1 (w.heap.size) o (by simp [go_sem]; try omega); simp [go_sem] at r0w1; have q1w1 := fun o => hcw1 (w.heap.size + 1) o (by simp [go_sem]; try omega); simp [go_sem] at q1w1; have r1w1 := fun o => hfw1 (w.heap.size + 1) o (by simp [go_sem]; try omega); simp [go_sem] at r1w1)
      go_region
      go_wp2
      (refine bodyPost_retB (by (simp only [results, Tryz.results86]; try go_simp)) rfl HV.out.symm ?_; ((repeat' (first | (with_reducible exact Below.refl _ _) | (with_reducible assumption) | (with_reducible refine Below.setCell ?_ ?_ _) | (with_reducible refine Below.alloc ?_ ?_ _) | (with_reducible refine Below.drew ?_) | (with_reducible refine below_drewN ?_ _) | (with_reducible refine Below.step (by with_reducible assumption) ?_ ?_))) <;> (first | omega | (simp; done) | (simp; omega))))
    · have HV : Hid (elR (oneE l) = .tuple #[elV ⟨xc, xn, xk, xs, xb, xe⟩, errV (0, 0)]) := by show elR (oneE l) = _; unfold oneE; rw [hr]; simp [hlt, elR]
      clear hw hr
      go_enter Tryz.func86, Tryz.ntmps86
      go_wp2_with (first | (go_at_call 122; (with_reducible refine (HR.out _ ((HB.out.alloc _).alloc _)).mono ?_); rintro e w1 ⟨rfl, hbw1⟩; obtain ⟨hcw1, hfw1⟩ := bcell hbw1; have hzw1 := hbw1.size; (try simp at hzw1); have hyw1 : w.heap.size < w1.heap.size := (by omega); (try have hyaw1 : w.heap.size + 1 < w1.heap.size := (by omega)); (try have hybw1 : w.heap.size + 2 < w1.heap.size := (by omega)); (try have hycw1 : w.heap.size + 3 < w1.heap.size := (by omega)); (try have hydw1 : w.heap.size + 4 < w1.heap.size := (by omega)); clear hzw1); have q0w1 := fun o => hcw1 (w.heap.size) o (by simp [go_sem]; try omega); simp [go_sem] at q0w1; have r0w1 := fun o => hfw1 (w.heap.size) o (by simp [go_sem]; try omega); simp [go_sem] at r0w1; have q1w1 := fun o => hcw1 (w.heap.size + 1) o (by simp [go_sem]; try omega); simp [go_sem] at q1w1; have r1w1 := fun o => hfw1 (w.heap.size + 1) o (by simp [go_sem]; try omega); simp [go_sem] at r1w1)
      go_region
      go_wp2
      (refine bodyPost_retB (by (simp only [results, Tryz.results86]; try go_simp)) rfl HV.out.symm ?_; ((repeat' (first | (with_reducible exact Below.refl _ _) | (with_reducible assumption) | (with_reducible refine Below.setCell ?_ ?_ _) | (with_reducible refine Below.alloc ?_ ?_ _) | (with_reducible refine Below.drew ?_) | (with_reducible refine below_drewN ?_ _) | (with_reducible refine Below.step (by with_reducible assumption) ?_ ?_))) <;> (first | omega | (simp; done) | (simp; omega))))
end Go.Proofs.YtlmnmgokfnnbbaaGreatDoor
end

/- Walk over element.List: a loop that appends structs. -/
section
set_option linter.unusedSimpArgs false
set_option linter.unusedVariables false
namespace Go.Proofs.YtlmnmgokfnnbbaaGreatDoor
open Go.RowKit Go.Cr
theorem infoEl : (Tryz.prog.info? 76).map (fun i => (i.zero, i.size, i.bytes)) = some (some (elV Elem.zero), 6, 48) := by kernel_rfl
theorem ulEl : Tryz.prog.underlying 71 = some (.slice 76) := by kernel_rfl
def elCells (xs : List Elem) : List Value := xs.flatMap Elem.cells
theorem elCells_snoc (xs : List Elem) (x : Elem) : elCells (xs ++ [x]) = elCells xs ++ x.cells := by simp [elCells]
def RetL (r : Except Err (List Elem)) (w : World) (e : Ending) (w' : World) : Prop :=
  Below w.heap.size w w' ∧ ((∃ er, r = .error er ∧ e = .returned (.tuple #[.slice none 0 0, errV er])) ∨
    ∃ xs o, r = .ok xs ∧ e = .returned (.tuple #[o, errV (0, 0)]) ∧ w'.ownsRow w.heap.size 76 6 o xs.length (elCells xs))

def LRel (l : List UInt8) (a0 e0 : Int) (r : Except Err (List Elem)) (w : World) (out at_ : Value) (wr : World) : Prop :=
  ∃ (k : Nat) (xs : List Elem) (a : Int), at_ = .int .i64 a ∧ a0 ≤ a ∧ a ≤ e0 ∧ (e0 - a) ≤ k ∧ (xs.length : Int) ≤ a - a0 ∧ listAcc l k xs a e0 = r ∧
    wr.ownsRow (w.heap.size + 1) 76 6 out xs.length (elCells xs) ∧ Below w.heap.size w wr ∧ w.heap.size < wr.heap.size ∧
    wr.cell? ⟨w.heap.size, 0, none⟩ = some (.int .i64 0) ∧ wr.cell? ⟨w.heap.size, 1, none⟩ = some (.int .i64 0) ∧ wr.frozen? ⟨w.heap.size, 0, none⟩ = false ∧ wr.frozen? ⟨w.heap.size, 1, none⟩ = false

set_option maxRecDepth 100000 in
set_option maxHeartbeats 4000000 in
theorem list_in (v : Value) (l : List UInt8) (a0 e0 : Int) (w : World) (hw : IsB w v l) (h0 : 0 ≤ a0) (h1 : a0 ≤ e0) (h2 : e0 ≤ l.length) (hL : (l.length : Int) ≤ 1000000) :
    Calls Tryz.prog 88 #[v, .int .i64 a0, .int .i64 e0] w (RetL (listAcc l (e0 - a0).toNat [] a0 e0) w) := by
  have hlen := hw.len ulB
  have HB := Lib.hid hw
  obtain ⟨r, hr⟩ : ∃ r, listAcc l (e0 - a0).toNat [] a0 e0 = r := ⟨_, rfl⟩
  rw [hr]
  have HR := Lib.hid hr
  clear hr hw
  go_enter Tryz.func88, Tryz.ntmps88
  go_wp2
  go_loopw [8, 9] (fun out at_ wr => LRel l a0 e0 r w out at_ wr) (fun _ at_ _ => (e0 - intOf at_).toNat)
  case atStart => exact ⟨(e0 - a0).toNat, [], a0, rfl, by omega, by omega, by omega, by simp, HR.out, World.ownsRow_nil _ _ _ _, (Below.refl _ _).alloc (Nat.le_refl _) _, by simp, by simp, by simp, by simp [go_sem], by simp [go_sem]⟩
  case round =>
    obtain ⟨k, xs, a, rfl, ha1, ha2, hk, hxs, hacc, hown, hbel, hsz, hc0, hc1, hf0, hf1⟩ := hrel
    clear hlen HR
    have HO := Lib.hid hown
    clear hown
    by_cases hlt : a < e0
    · obtain ⟨k, rfl⟩ : ∃ k', k = k' + 1 := ⟨k - 1, by omega⟩
      simp only [listAcc] at hacc
      rw [if_pos hlt] at hacc
      cases hx : nextE l a e0 with
      | error er =>
        obtain ⟨ec, eo⟩ := er
        rw [hx] at hacc
        subst hacc
        have hbd := nextE_err (by omega) (by omega) (by omega) hx
        have HN : Hid (∀ W, IsB W v l → Calls Tryz.prog 122 #[v, .int .i64 a, .int .i64 e0] W (RetB (.tuple #[elV Elem.zero, errV (ec, eo)]) W)) := by
          intro W h
          have := next_any v l a e0 W h (by omega) (by omega) (by omega)
          rwa [hx] at this
        have hn : (ec == 0) = false := beq_eq_false_iff_ne.2 (by omega)
        have hn' : (ec != 0) = true := by simp; omega
        simp only [elV, errV, Elem.zero] at HN
        clear hx hbd
        go_wp2_with (first | ((go_at_call 122); ((with_reducible refine (HN.out _ (HB.out.below hbel)).mono ?_)); rintro e w1 ⟨rfl, hb1⟩; obtain ⟨hcw, hfw⟩ := bcell hb1; have hzw : w.heap.size < w1.heap.size := (by have := hb1.size; omega)))
        go_region
        go_wp2
        refine bodyPost_ret (v := .tuple #[.slice none 0 0, errV (ec, eo)]) (by simp only [results, Tryz.results88]; go_simp) rfl ⟨?_, .inl ⟨_, rfl, rfl⟩⟩
        ((repeat' (first | (with_reducible exact Below.refl _ _) | (with_reducible assumption) | (with_reducible refine Below.setCell ?_ ?_ _) | (with_reducible refine Below.alloc ?_ ?_ _) | (with_reducible refine Below.drew ?_) | (with_reducible refine below_drewN ?_ _) | (with_reducible refine Below.step (by with_reducible assumption) ?_ ?_))) <;> (first | omega | (simp; done) | (simp; omega)))
      | ok x =>
        rw [hx] at hacc
        have hbd := nextE_ok (by omega) (by omega) (by omega) hx
        have HN : Hid (∀ W, IsB W v l → Calls Tryz.prog 122 #[v, .int .i64 a, .int .i64 e0] W (RetB (.tuple #[elV x, errV (0, 0)]) W)) := by
          intro W h
          have := next_any v l a e0 W h (by omega) (by omega) (by omega)
          rwa [hx] at this
        simp only [elV, errV] at HN
        have HA := Lib.hid hacc
        clear hx hacc
        obtain ⟨hb0, hb2, hb3, hb4⟩ := hbd
        clear hb0
        obtain ⟨i0, hi, hz0, hz1, hz2⟩ := info_parts infoEl
        go_wp2_with (first | ((go_at_call 122); ((with_reducible refine (HN.out _ (HB.out.below hbel)).mono ?_)); rintro e w1 ⟨rfl, hb1⟩; obtain ⟨hcw, hfw⟩ := bcell hb1; have hzw : w.heap.size < w1.heap.size := (by have := hb1.size; omega)) | (at_builtin; refine wpList_append_own _ rfl _ _ 71 rfl (w.heap.size + 1) 76 i0 (elV Elem.zero) 6 48 ulEl hi hz0 hz1 hz2 rfl (by decide) _ _ _ rfl ((((ownsRow_below HO.out hb1).alloc _).alloc _).alloc _) _ 1 1 x.cells rfl rfl ?c1 ?c2 ?c3 ?c4 ?c5 ?_))
        case c1 =>
          intro j u hj
          have hj6 : j < 6 := by have := (List.getElem?_eq_some_iff.1 hj).1; simpa [Elem.cells] using this
          match j, hj6, hj with
          | 0, _, hj => simp [Elem.cells] at hj; subst hj; simp [Addr.add, go_sem]
          | 1, _, hj => simp [Elem.cells] at hj; subst hj; simp [Addr.add, go_sem]
          | 2, _, hj => simp [Elem.cells] at hj; subst hj; simp [Addr.add, go_sem]
          | 3, _, hj => simp [Elem.cells] at hj; subst hj; simp [Addr.add, go_sem]
          | 4, _, hj => simp [Elem.cells] at hj; subst hj; simp [Addr.add, go_sem]
          | 5, _, hj => simp [Elem.cells] at hj; subst hj; simp [Addr.add, go_sem]
        case c2 => intro u hu; simp [Elem.cells] at hu; rcases hu with rfl | rfl | rfl | rfl | rfl | rfl <;> rfl
        case c3 => unfold maxLen; omega
        case c4 => omega
        case c5 => simp; omega
        intro o' w2 hown' hgrow _
        have hsz1 := hb1.size
        have hne1 : some w1.heap.size ≠ u8.ownBlock := fun h => by have := (HO.out.lt _ h.symm).2; omega
        have hne0 : some w.heap.size ≠ u8.ownBlock := fun h => by have := (HO.out.lt _ h.symm).1; omega
        have hbo : ∀ b, u8.ownBlock = some b → w.heap.size ≤ b := fun b h => by have := (HO.out.lt _ h).1; omega
        have hBb := ((hb1.alloc hsz1 (.cells #[.int .i64 x.cls, .int .i64 x.num, .bool x.con, .int .i64 x.start, .int .i64 x.body, .int .i64 x.stop] 76)).alloc (by simp; omega) (.cells #[.int .i64 0, .int .i64 0] 38)).alloc (by simp; omega) (.cells #[.int .i64 x.cls, .int .i64 x.num, .bool x.con, .int .i64 x.start, .int .i64 x.body, .int .i64 x.stop] 76)
        have qs : w2.cell? ⟨w1.heap.size, 5, none⟩ = some (.int .i64 x.stop) := (World.cell?_of_block (hgrow.block _ (by simp; omega) hne1)).trans (by simp [go_sem])
        have q0 : w2.cell? ⟨w.heap.size, 0, none⟩ = some (.int .i64 0) := (World.cell?_of_block (hgrow.block _ (by simp; omega) hne0)).trans ((hBb.cell hsz).trans hc0)
        have q1 : w2.cell? ⟨w.heap.size, 1, none⟩ = some (.int .i64 0) := (World.cell?_of_block (hgrow.block _ (by simp; omega) hne0)).trans ((hBb.cell hsz).trans hc1)
        have r0 : w2.frozen? ⟨w.heap.size, 0, none⟩ = false := (World.frozen?_of_block (hgrow.block _ (by simp; omega) hne0)).trans ((hBb.frozen hsz).trans hf0)
        have r1 : w2.frozen? ⟨w.heap.size, 1, none⟩ = false := (World.frozen?_of_block (hgrow.block _ (by simp; omega) hne0)).trans ((hBb.frozen hsz).trans hf1)
        have hsz2 : w.heap.size < w2.heap.size := by have := hgrow.size; simp at this; omega
        have hbel2 : Below w.heap.size w w2 := ((((hb1.step hbel (by omega)).alloc (by omega) _).alloc (by simp; omega) _).alloc (by simp; omega) _).grown hgrow (by simp; omega) hbo
        have hown2 : w2.ownsRow (w.heap.size + 1) 76 6 o' (xs ++ [x]).length (elCells (xs ++ [x])) := by rw [elCells_snoc]; simpa using hown'
        have HO2 := Lib.hid hown2
        clear hgrow hown' hBb hne1 hne0 hbo hcw hfw hown2
        go_wp2
        go_roundw
        case rel => exact ⟨k, xs ++ [x], x.stop, rfl, by omega, by omega, by omega, by simp; omega, HA.out, HO2.out, hbel2, hsz2, q0, q1, r0, r1⟩
        case measure => simp [intOf]; omega
    · have hrx : r = .ok xs := by rw [← hacc]; exact listAcc_done _ _ _ _ _ (by omega)
      subst hrx
      clear hacc
      go_wp2
      refine bodyPost_ret (v := .tuple #[u8, errV (0, 0)]) (by simp only [results, Tryz.results88]; go_simp) rfl ⟨?_, .inr ⟨xs, u8, rfl, rfl, ?_⟩⟩
      · ((repeat' (first | (with_reducible exact Below.refl _ _) | (with_reducible assumption) | (with_reducible refine Below.setCell ?_ ?_ _) | (with_reducible refine Below.alloc ?_ ?_ _) | (with_reducible refine Below.drew ?_) | (with_reducible refine below_drewN ?_ _) | (with_reducible refine Below.step (by with_reducible assumption) ?_ ?_))) <;> (first | omega | (simp; done) | (simp; omega)))
      · exact ownsRow_more (ownsRow_setCell_below (ownsRow_setCell_below HO.out (Nat.lt_succ_self _) _) (Nat.lt_succ_self _) _) (Nat.le_succ _)
end Go.Proofs.YtlmnmgokfnnbbaaGreatDoor
end

/- Walks over element.List (any range) and element.Parts. -/
section
set_option linter.unusedSimpArgs false
set_option linter.unusedVariables false
namespace Go.Proofs.YtlmnmgokfnnbbaaGreatDoor
open Go.RowKit Go.Cr
set_option maxRecDepth 100000 in
set_option maxHeartbeats 2000000 in
theorem list_any (v : Value) (l : List UInt8) (a0 e0 : Int) (w : World) (hw : IsB w v l) (hL : (l.length : Int) ≤ 1000000) :
    Calls Tryz.prog 88 #[v, .int .i64 a0, .int .i64 e0] w (RetL (listE l a0 e0) w) := by
  by_cases hr : a0 < 0 ∨ e0 < a0 ∨ (l.length : Int) < e0
  · have HV : Hid (listE l a0 e0 = .error (9, 0)) := by show listE l a0 e0 = _; unfold listE; rw [if_pos hr]
    have hlen := hw.len ulB
    have hq : a0 < 0 ∨ (0 ≤ a0 ∧ e0 < a0) ∨ (0 ≤ a0 ∧ a0 ≤ e0 ∧ (l.length : Int) < e0) := by omega
    clear hr hw
    rcases hq with h1 | ⟨h1, h2⟩ | ⟨h1, h2, h3⟩
    all_goals
      go_enter Tryz.func88, Tryz.ntmps88
      go_wp2
      refine bodyPost_ret (v := .tuple #[.slice none 0 0, errV (9, 0)]) (by simp only [results, Tryz.results88]; go_simp) rfl ⟨?_, .inl ⟨_, HV.out, rfl⟩⟩
      ((repeat' (first | (with_reducible exact Below.refl _ _) | (with_reducible assumption) | (with_reducible refine Below.setCell ?_ ?_ _) | (with_reducible refine Below.alloc ?_ ?_ _) | (with_reducible refine Below.drew ?_) | (with_reducible refine below_drewN ?_ _) | (with_reducible refine Below.step (by with_reducible assumption) ?_ ?_))) <;> (first | omega | (simp; done) | (simp; omega)))
  · have : listE l a0 e0 = listAcc l (e0 - a0).toNat [] a0 e0 := by unfold listE; rw [if_neg hr]
    rw [this]
    exact list_in v l a0 e0 w hw (by omega) (by omega) (by omega) hL

set_option maxRecDepth 100000 in
set_option maxHeartbeats 2000000 in
theorem parts_any (v : Value) (l : List UInt8) (c n : Int) (w : World) (hw : IsB w v l) (hL : (l.length : Int) ≤ 1000000) :
    Calls Tryz.prog 53 #[v, .int .i64 c, .int .i64 n] w (RetL (partsE l c n) w) := by
  have HB := Lib.hid hw
  cases hr : oneE l with
  | error er =>
    obtain ⟨ec, eo⟩ := er
    have hbd := oneE_err hr
    have HV : Hid (partsE l c n = .error (ec, eo)) := by show partsE l c n = _; unfold partsE; rw [hr]
    have HR : Hid (∀ W, IsB W v l → Calls Tryz.prog 86 #[v] W (RetB (.tuple #[elV Elem.zero, errV (ec, eo)]) W)) := by
      intro W h
      have := one_any v l W h
      rwa [hr] at this
    have hn : (ec == 0) = false := beq_eq_false_iff_ne.2 (by omega)
    have hn' : (ec != 0) = true := by simp; omega
    clear hw hr hbd
    simp only [elV, errV, Elem.zero] at HR
    go_enter Tryz.func53, Tryz.ntmps53
    go_wp2_with (first | (go_at_call 86; (with_reducible refine (HR.out _ (HB.out.alloc _)).mono ?_); rintro e w1 ⟨rfl, hbw1⟩; obtain ⟨hcw1, hfw1⟩ := bcell hbw1; have hzw1 := hbw1.size; (try simp at hzw1); have hyw1 : w.heap.size < w1.heap.size := (by omega); (try have hyaw1 : w.heap.size + 1 < w1.heap.size := (by omega)); (try have hybw1 : w.heap.size + 2 < w1.heap.size := (by omega)); (try have hycw1 : w.heap.size + 3 < w1.heap.size := (by omega)); (try have hydw1 : w.heap.size + 4 < w1.heap.size := (by omega)); clear hzw1); have K1 := Blk.call (Blk.new w 38 #[.int .i64 0, .int .i64 0]) hbw1; have lK1 := K1.lt; have qK1 := K1.q; have rK1 := K1.fz; have K1' := Lib.hid K1; clear K1; have K1 := K1'.out; clear K1')
    go_region
    go_wp2
    refine bodyPost_ret (v := .tuple #[.slice none 0 0, errV (ec, eo)]) (by simp only [results, Tryz.results53]; go_simp) rfl ⟨?_, .inl ⟨_, HV.out, rfl⟩⟩
    ((repeat' (first | (with_reducible exact Below.refl _ _) | (with_reducible assumption) | (with_reducible refine Below.setCell ?_ ?_ _) | (with_reducible refine Below.alloc ?_ ?_ _) | (with_reducible refine Below.drew ?_) | (with_reducible refine below_drewN ?_ _) | (with_reducible refine Below.step (by with_reducible assumption) ?_ ?_))) <;> (first | omega | (simp; done) | (simp; omega)))
  | ok x =>
    have HR : Hid (∀ W, IsB W v l → Calls Tryz.prog 86 #[v] W (RetB (.tuple #[elV x, errV (0, 0)]) W)) := by
      intro W h
      have := one_any v l W h
      rwa [hr] at this
    have HI : Hid (∀ W, Calls Tryz.prog 87 #[elV x, .int .i64 c, .bool true, .int .i64 n] W (RetB (.bool (isE x c true n)) W)) := fun W => is_any x c n true W
    simp only [elV, errV] at HR HI
    cases hi : isE x c true n with
    | false =>
      have HV : Hid (partsE l c n = .error (3, 0)) := by show partsE l c n = _; unfold partsE; rw [hr]; simp [hi]
      rw [hi] at HI
      clear hw hr hi
      go_enter Tryz.func53, Tryz.ntmps53
      go_wp2_with (first | (go_at_call 86; (with_reducible refine (HR.out _ (HB.out.alloc _)).mono ?_); rintro e w1 ⟨rfl, hbw1⟩; obtain ⟨hcw1, hfw1⟩ := bcell hbw1; have hzw1 := hbw1.size; (try simp at hzw1); have hyw1 : w.heap.size < w1.heap.size := (by omega); (try have hyaw1 : w.heap.size + 1 < w1.heap.size := (by omega)); (try have hybw1 : w.heap.size + 2 < w1.heap.size := (by omega)); (try have hycw1 : w.heap.size + 3 < w1.heap.size := (by omega)); (try have hydw1 : w.heap.size + 4 < w1.heap.size := (by omega)); clear hzw1); have K1 := Blk.call (Blk.new w 38 #[.int .i64 0, .int .i64 0]) hbw1; have lK1 := K1.lt; have qK1 := K1.q; have rK1 := K1.fz; have K1' := Lib.hid K1; clear K1; have K1 := K1'.out; clear K1' | (go_at_call 87; (with_reducible refine (HI.out _).mono ?_); rintro e w2 ⟨rfl, hbw2⟩; obtain ⟨hcw2, hfw2⟩ := bcell hbw2; have hzw2 := hbw2.size; (try simp at hzw2); have hyw2 : w.heap.size < w2.heap.size := (by omega); (try have hyaw2 : w.heap.size + 1 < w2.heap.size := (by omega)); (try have hybw2 : w.heap.size + 2 < w2.heap.size := (by omega)); (try have hycw2 : w.heap.size + 3 < w2.heap.size := (by omega)); (try have hydw2 : w.heap.size + 4 < w2.heap.size := (by omega)); clear hzw2); have K2 := Blk.call ((K1.alloc _).alloc _) hbw2; have lK2 := K2.lt; have qK2 := K2.q; have rK2 := K2.fz; have K2' := Lib.hid K2; clear K2; have K2 := K2'.out; clear K2')
      refine bodyPost_ret (v := .tuple #[.slice none 0 0, errV (3, 0)]) (by simp only [results, Tryz.results53]; go_simp) rfl ⟨?_, .inl ⟨_, HV.out, rfl⟩⟩
      ((repeat' (first | (with_reducible exact Below.refl _ _) | (with_reducible assumption) | (with_reducible refine Below.setCell ?_ ?_ _) | (with_reducible refine Below.alloc ?_ ?_ _) | (with_reducible refine Below.drew ?_) | (with_reducible refine below_drewN ?_ _) | (with_reducible refine Below.step (by with_reducible assumption) ?_ ?_))) <;> (first | omega | (simp; done) | (simp; omega)))
    | true =>
      rw [hi] at HI
      cases hl : listE l x.body x.stop with
      | error er =>
        have HL : Hid (∀ W, IsB W v l → Calls Tryz.prog 88 #[v, .int .i64 x.body, .int .i64 x.stop] W (RetB (.tuple #[.slice none 0 0, errV er]) W)) := by
          intro W h
          refine (list_any v l x.body x.stop W h hL).mono ?_
          rintro e w' ⟨hb, ⟨er', h1, rfl⟩ | ⟨xs, o, h1, _⟩⟩
          · rw [hl] at h1; injection h1 with h1; subst h1; exact ⟨rfl, hb⟩
          · rw [hl] at h1; cases h1
        have HV : Hid (partsE l c n = .error er) := by show partsE l c n = _; unfold partsE; rw [hr]; simp [hi, hl]
        clear hw hr hi hl
        simp only [errV] at HL
        go_enter Tryz.func53, Tryz.ntmps53
        go_wp2_with (first | (go_at_call 86; (with_reducible refine (HR.out _ (HB.out.alloc _)).mono ?_); rintro e w1 ⟨rfl, hbw1⟩; obtain ⟨hcw1, hfw1⟩ := bcell hbw1; have hzw1 := hbw1.size; (try simp at hzw1); have hyw1 : w.heap.size < w1.heap.size := (by omega); (try have hyaw1 : w.heap.size + 1 < w1.heap.size := (by omega)); (try have hybw1 : w.heap.size + 2 < w1.heap.size := (by omega)); (try have hycw1 : w.heap.size + 3 < w1.heap.size := (by omega)); (try have hydw1 : w.heap.size + 4 < w1.heap.size := (by omega)); clear hzw1); have K1 := Blk.call (Blk.new w 38 #[.int .i64 0, .int .i64 0]) hbw1; have lK1 := K1.lt; have qK1 := K1.q; have rK1 := K1.fz; have K1' := Lib.hid K1; clear K1; have K1 := K1'.out; clear K1'; have HB1 := Lib.hid ((HB.out.alloc _).below hbw1) | (go_at_call 87; (with_reducible refine (HI.out _).mono ?_); rintro e w2 ⟨rfl, hbw2⟩; obtain ⟨hcw2, hfw2⟩ := bcell hbw2; have hzw2 := hbw2.size; (try simp at hzw2); have hyw2 : w.heap.size < w2.heap.size := (by omega); (try have hyaw2 : w.heap.size + 1 < w2.heap.size := (by omega)); (try have hybw2 : w.heap.size + 2 < w2.heap.size := (by omega)); (try have hycw2 : w.heap.size + 3 < w2.heap.size := (by omega)); (try have hydw2 : w.heap.size + 4 < w2.heap.size := (by omega)); clear hzw2); have K2 := Blk.call ((K1.alloc _).alloc _) hbw2; have lK2 := K2.lt; have qK2 := K2.q; have rK2 := K2.fz; have K2' := Lib.hid K2; clear K2; have K2 := K2'.out; clear K2'; have K2X := Blk.call ((Blk.new w1 76 #[.int .i64 x.cls, .int .i64 x.num, .bool x.con, .int .i64 x.start, .int .i64 x.body, .int .i64 x.stop]).alloc _) hbw2; have lK2X := K2X.lt; have qK2X := K2X.q; have rK2X := K2X.fz; have K2X' := Lib.hid K2X; clear K2X; have K2X := K2X'.out; clear K2X' | (go_at_call 88; (with_reducible refine (HL.out _ ((((HB1.out.alloc _).alloc _).below hbw2))).mono ?_); rintro e w3 ⟨rfl, hbw3⟩; obtain ⟨hcw3, hfw3⟩ := bcell hbw3; have hzw3 := hbw3.size; (try simp at hzw3); have hyw3 : w.heap.size < w3.heap.size := (by omega); (try have hyaw3 : w.heap.size + 1 < w3.heap.size := (by omega)); (try have hybw3 : w.heap.size + 2 < w3.heap.size := (by omega)); (try have hycw3 : w.heap.size + 3 < w3.heap.size := (by omega)); (try have hydw3 : w.heap.size + 4 < w3.heap.size := (by omega)); clear hzw3); have K3 := Blk.call (K2) hbw3; have lK3 := K3.lt; have qK3 := K3.q; have rK3 := K3.fz; have K3' := Lib.hid K3; clear K3; have K3 := K3'.out; clear K3')
        refine bodyPost_ret (v := .tuple #[.slice none 0 0, errV er]) (by simp only [results, Tryz.results53]; go_simp) rfl ⟨?_, .inl ⟨_, HV.out, rfl⟩⟩
        ((repeat' (first | (with_reducible exact Below.refl _ _) | (with_reducible assumption) | (with_reducible refine Below.setCell ?_ ?_ _) | (with_reducible refine Below.alloc ?_ ?_ _) | (with_reducible refine Below.drew ?_) | (with_reducible refine below_drewN ?_ _) | (with_reducible refine Below.step (by with_reducible assumption) ?_ ?_))) <;> (first | omega | (simp; done) | (simp; omega)))
      | ok xs =>
        have HL : Hid (∀ W, IsB W v l → Calls Tryz.prog 88 #[v, .int .i64 x.body, .int .i64 x.stop] W (fun e w' => ∃ o, e = .returned (.tuple #[o, errV (0, 0)]) ∧ w'.ownsRow W.heap.size 76 6 o xs.length (elCells xs) ∧ Below W.heap.size W w')) := by
          intro W h
          refine (list_any v l x.body x.stop W h hL).mono ?_
          rintro e w' ⟨hb, ⟨er', h1, rfl⟩ | ⟨xs', o, h1, rfl, h2⟩⟩
          · rw [hl] at h1; cases h1
          · rw [hl] at h1; injection h1 with h1; subst h1; exact ⟨o, rfl, h2, hb⟩
        have HV : Hid (partsE l c n = .ok xs) := by show partsE l c n = _; unfold partsE; rw [hr]; simp [hi, hl]
        clear hw hr hi hl
        simp only [errV] at HL
        go_enter Tryz.func53, Tryz.ntmps53
        go_wp2_with (first | (go_at_call 86; (with_reducible refine (HR.out _ (HB.out.alloc _)).mono ?_); rintro e w1 ⟨rfl, hbw1⟩; obtain ⟨hcw1, hfw1⟩ := bcell hbw1; have hzw1 := hbw1.size; (try simp at hzw1); have hyw1 : w.heap.size < w1.heap.size := (by omega); (try have hyaw1 : w.heap.size + 1 < w1.heap.size := (by omega)); (try have hybw1 : w.heap.size + 2 < w1.heap.size := (by omega)); (try have hycw1 : w.heap.size + 3 < w1.heap.size := (by omega)); (try have hydw1 : w.heap.size + 4 < w1.heap.size := (by omega)); clear hzw1); have K1 := Blk.call (Blk.new w 38 #[.int .i64 0, .int .i64 0]) hbw1; have lK1 := K1.lt; have qK1 := K1.q; have rK1 := K1.fz; have K1' := Lib.hid K1; clear K1; have K1 := K1'.out; clear K1'; have HB1 := Lib.hid ((HB.out.alloc _).below hbw1) | (go_at_call 87; (with_reducible refine (HI.out _).mono ?_); rintro e w2 ⟨rfl, hbw2⟩; obtain ⟨hcw2, hfw2⟩ := bcell hbw2; have hzw2 := hbw2.size; (try simp at hzw2); have hyw2 : w.heap.size < w2.heap.size := (by omega); (try have hyaw2 : w.heap.size + 1 < w2.heap.size := (by omega)); (try have hybw2 : w.heap.size + 2 < w2.heap.size := (by omega)); (try have hycw2 : w.heap.size + 3 < w2.heap.size := (by omega)); (try have hydw2 : w.heap.size + 4 < w2.heap.size := (by omega)); clear hzw2); have K2 := Blk.call ((K1.alloc _).alloc _) hbw2; have lK2 := K2.lt; have qK2 := K2.q; have rK2 := K2.fz; have K2' := Lib.hid K2; clear K2; have K2 := K2'.out; clear K2'; have K2X := Blk.call ((Blk.new w1 76 #[.int .i64 x.cls, .int .i64 x.num, .bool x.con, .int .i64 x.start, .int .i64 x.body, .int .i64 x.stop]).alloc _) hbw2; have lK2X := K2X.lt; have qK2X := K2X.q; have rK2X := K2X.fz; have K2X' := Lib.hid K2X; clear K2X; have K2X := K2X'.out; clear K2X' | ((go_at_call 88); (with_reducible refine (HL.out _ ((((HB1.out.alloc _).alloc _).below hbw2))).mono ?_); rintro e w3 ⟨o, rfl, hown, hbw3⟩; obtain ⟨hcw3, hfw3⟩ := bcell hbw3; have hzw3 := hbw3.size; (try simp at hzw3); have hyw3 : w.heap.size < w3.heap.size := (by omega); (try have hyaw3 : w.heap.size + 1 < w3.heap.size := (by omega)); (try have hybw3 : w.heap.size + 2 < w3.heap.size := (by omega)); (try have hycw3 : w.heap.size + 3 < w3.heap.size := (by omega)); (try have hydw3 : w.heap.size + 4 < w3.heap.size := (by omega)); clear hzw3; have K3 := Blk.call (K2) hbw3; have lK3 := K3.lt; have qK3 := K3.q; have rK3 := K3.fz; have K3' := Lib.hid K3; clear K3; have K3 := K3'.out; clear K3'; have HO := Lib.hid hown; clear hown))
        refine bodyPost_ret (v := .tuple #[o, errV (0, 0)]) (by simp only [results, Tryz.results53]; go_simp) rfl ⟨?_, .inr ⟨xs, o, HV.out, rfl, ?_⟩⟩
        · ((repeat' (first | (with_reducible exact Below.refl _ _) | (with_reducible assumption) | (with_reducible refine Below.setCell ?_ ?_ _) | (with_reducible refine Below.alloc ?_ ?_ _) | (with_reducible refine Below.drew ?_) | (with_reducible refine below_drewN ?_ _) | (with_reducible refine Below.step (by with_reducible assumption) ?_ ?_))) <;> (first | omega | (simp; done) | (simp; omega)))
        · exact ownsRow_more (ownsRow_setCell_below (ownsRow_setCell_below HO.out hyw2 _) hyw2 _) (by omega)
end Go.Proofs.YtlmnmgokfnnbbaaGreatDoor
end
