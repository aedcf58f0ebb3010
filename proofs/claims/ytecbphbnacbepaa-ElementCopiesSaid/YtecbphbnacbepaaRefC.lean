/- Walks over the references of layer 2: Length, ReadLength. -/
import Derived.Test.YtecbphbnacbepaaRefB
import Derived.Test.YtecbphbnacbepaaSpecF
set_option linter.unusedSimpArgs false
set_option linter.unusedVariables false
namespace Go.Proofs.Ytecbphbnacbepaa
open Go.RowKit Go.Cr

/-- Bytes of its own, and the code OK. -/
def RetOK (t : TypeId) (l : List UInt8) (w : World) (e : Ending) (w' : World) : Prop := ∃ v, e = .returned (.tuple #[v, .int .i64 0]) ∧ OwB w' w.heap.size t v l ∧ Below w.heap.size w w'

set_option maxRecDepth 100000 in
set_option maxHeartbeats 2000000 in
theorem rLength (n : Int) (w : World) (h0 : 0 ≤ n) (h1 : n ≤ 2147483647) : Calls Try.prog 52 #[.int .i64 n] w (RetOK 5 (lenOct n.toNat) w) := by
  have IH := Lib.hid (rMinimal 7 n.toNat · (by omega) (by omega))
  rw [show ((n.toNat : Nat) : Int) = n by omega] at IH
  obtain ⟨hm1, hm2⟩ := minF_len 7 n.toNat
  by_cases hlt : n < 128
  · have HM : Hid (lenOct n.toNat = minF 7 n.toNat) := by show lenOct n.toNat = _; unfold lenOct; rw [if_pos (by omega)]
    generalize minF 7 n.toNat = m at *
    go_enter Try.func52, Try.ntmps52
    go_wp2_with (first | (go_at_call 65; (with_reducible refine (IH.out _).mono ?_); rintro e w1 ⟨v1, rfl, ho, hb1⟩; have HO := Lib.hid ho; clear ho))
    go_ret2
    rw [HM.out]
    exact ⟨_, rfl, HO.out, hb1⟩
  · have HM : Hid (lenOct n.toNat = UInt8.ofNat (128 + (minF 7 n.toNat).length) :: minF 7 n.toNat) := by show lenOct n.toNat = _; unfold lenOct; rw [if_neg (by omega)]
    have HZ : Hid (bi (UInt8.ofNat (128 + (minF 7 n.toNat).length)) = 128 + ((minF 7 n.toNat).length : Int)) := by show bi _ = _; rw [bi_ofNat]; omega
    generalize UInt8.ofNat (128 + (minF 7 n.toNat).length) = z at *
    generalize minF 7 n.toNat = m at *
    have hm3 : (m.length : Int) ≤ 8 := by omega
    go_enter Try.func52, Try.ntmps52
    go_wp2_with (first | (go_at_call 65; (with_reducible refine (IH.out _).mono ?_); rintro e w1 ⟨v1, rfl, ho, hb1⟩; have HO := Lib.hid ho; clear ho; have hln := HO.out.isB.len ulB) | (at_builtin; refine wpList_appB _ rfl _ _ 30 rfl w1.heap.size 5 ulB infoB _ [z] rfl (by rw [← HZ.out]; exact OwB.one _ _ _ (Nat.le_refl _)) _ _ rfl (HO.out.isB.alloc _) ?k1 ?k2 ?_))
    case k1 => simp; omega
    case k2 => simp
    intro v2 w2 ho2 _ hb2
    have HO2 := Lib.hid ho2
    clear ho2
    go_wp2
    go_ret2
    rw [HM.out]
    exact ⟨_, rfl, HO2.out.more hb1.size, (hb1.alloc hb1.size _).trans (hb2.mono hb1.size)⟩

set_option maxRecDepth 100000 in
set_option maxHeartbeats 2000000 in
theorem rLength_bad (n : Int) (w : World) (h : n < 0 ∨ 2147483647 < n) : Calls Try.prog 52 #[.int .i64 n] w (RetB (.tuple #[.slice none 0 0, .int .i64 9]) w) := by
  rcases (show n < 0 ∨ (0 ≤ n ∧ 2147483647 < n) by omega) with h | ⟨h, h'⟩ <;>
  · go_enter Try.func52, Try.ntmps52
    go_wp2
    (refine bodyPost_retB (v := .tuple #[.slice none 0 0, .int .i64 9]) (by (simp only [results, Try.results52]; try go_simp)) rfl rfl ?_; ((repeat' (first | (with_reducible exact Below.refl _ _) | (with_reducible assumption) | (with_reducible refine Below.setCell ?_ ?_ _) | (with_reducible refine Below.alloc ?_ ?_ _) | (with_reducible refine Below.drew ?_) | (with_reducible refine below_drewN ?_ _) | (with_reducible refine Below.step (by with_reducible assumption) ?_ ?_))) <;> (first | omega | (simp; done) | (simp; omega))))

theorem isB_cutHi {P : Program} {w : World} {v : Value} {l : List UInt8} {t e : TypeId} (h : IsB w v l) (ht : P.underlying t = some (.slice e)) (hs : ∀ W, (sizeOf e).run P W = .ok 1 W) (k' : IntKind) {hi : Int} (h1 : 0 ≤ hi) (h2 : hi ≤ l.length) :
    ∃ v', (∀ W : World, (Instr.slice t v none (some (.int k' hi)) none).run P W = .ok v' W) ∧ IsB w v' (l.take hi.toNat) := by
  obtain ⟨A, c, rfl, h2, h3, h4⟩ := h
  refine ⟨.slice A hi.toNat c, fun W => ?_, ?_⟩
  · have hi1 : (0 ≤ hi ∧ hi ≤ (c : Int)) := ⟨by omega, by omega⟩
    simp only [Instr.slice, Instr.sliceBounds, Instr.sliceBound, asIntOf, Sem.run_bind, Sem.run_pure, Result.andThen, run_underlying ht, if_pos hi1, hs]
    cases A <;> simp [Addr.add]
  · have := IsB.sub (A0 := A) (n0 := l.length) (c := c) (lo := 0) (hi := hi.toNat) (c' := c) (A := A) (n := hi.toNat) ⟨A, c, rfl, h2, h3, h4⟩ (by omega) (by omega) (by omega) (by omega) (by omega) (by rintro _ b off rfl; rfl)
    simpa using this

set_option maxRecDepth 100000 in
set_option maxHeartbeats 4000000 in
theorem rReadLen (v : Value) (l : List UInt8) (w : World) (hv : IsB w v l) : Calls Try.prog 63 #[v] w (RetB (lenV (rdLen l)) w) := by
  have hlen := hv.len ulB
  by_cases hl : l.length = 0
  · have HV : Hid (lenV (rdLen l) = .tuple #[.int .i64 0, .int .i64 0, errV (1, 0)]) := by show lenV (rdLen l) = _; simp [rdLen, lenV, hl]
    have hlb : ((l.length : Int) == 0) = true := beq_iff_eq.2 (by omega)
    clear hl
    go_enter Try.func63, Try.ntmps63
    go_wp2
    (refine bodyPost_retB (by (simp only [results, Try.results63]; try go_simp)) rfl HV.out.symm ?_; ((repeat' (first | (with_reducible exact Below.refl _ _) | (with_reducible assumption) | (with_reducible refine Below.setCell ?_ ?_ _) | (with_reducible refine Below.alloc ?_ ?_ _) | (with_reducible refine Below.drew ?_) | (with_reducible refine below_drewN ?_ _) | (with_reducible refine Below.step (by with_reducible assumption) ?_ ?_))) <;> (first | omega | (simp; done) | (simp; omega))))
  have hx1 := bat_lt l 0
  have hx0 := bat_pos l 0
  have hlb : ((l.length : Int) == 0) = false := beq_eq_false_iff_ne.2 (by omega)
  have hmx := hv.maxl
  obtain ⟨b, o, hix, hbw, hcl⟩ := hv.at_ (P := Try.prog) ulB szB .i64 (i := 0) (by omega) (by omega)
  simp only [Int.toNat_zero] at hcl
  have HI := Lib.hid hv
  clear hv
  by_cases c1 : bat l 0 < 128
  · have HV : Hid (lenV (rdLen l) = .tuple #[.int .i64 (bat l 0), .int .i64 1, errV (0, 0)]) := by show lenV (rdLen l) = _; unfold rdLen; (repeat (first | rw [if_pos (by omega)] | rw [if_neg (by omega)])); rfl
    go_enter Try.func63, Try.ntmps63
    go_wp2
    (refine bodyPost_retB (by (simp only [results, Try.results63]; try go_simp)) rfl HV.out.symm ?_; ((repeat' (first | (with_reducible exact Below.refl _ _) | (with_reducible assumption) | (with_reducible refine Below.setCell ?_ ?_ _) | (with_reducible refine Below.alloc ?_ ?_ _) | (with_reducible refine Below.drew ?_) | (with_reducible refine below_drewN ?_ _) | (with_reducible refine Below.step (by with_reducible assumption) ?_ ?_))) <;> (first | omega | (simp; done) | (simp; omega))))
  by_cases c2 : bat l 0 - 128 = 0 ∨ 4 < bat l 0 - 128
  · have HV : Hid (lenV (rdLen l) = .tuple #[.int .i64 0, .int .i64 0, errV (4, 0)]) := by show lenV (rdLen l) = _; unfold rdLen; (repeat (first | rw [if_pos (by omega)] | rw [if_neg (by omega)])); rfl
    have hk : ((bat l 0 - 128 == 0) = true) ∨ ((bat l 0 - 128 == 0) = false ∧ 5 ≤ bat l 0 - 128) := by
      by_cases h : bat l 0 - 128 = 0
      · exact .inl (by simp [h])
      · exact .inr ⟨by simp [h], by omega⟩
    clear c2
    rcases hk with hk | ⟨hk, hk4⟩ <;>
    · go_enter Try.func63, Try.ntmps63
      go_wp2
      (refine bodyPost_retB (by (simp only [results, Try.results63]; try go_simp)) rfl HV.out.symm ?_; ((repeat' (first | (with_reducible exact Below.refl _ _) | (with_reducible assumption) | (with_reducible refine Below.setCell ?_ ?_ _) | (with_reducible refine Below.alloc ?_ ?_ _) | (with_reducible refine Below.drew ?_) | (with_reducible refine below_drewN ?_ _) | (with_reducible refine Below.step (by with_reducible assumption) ?_ ?_))) <;> (first | omega | (simp; done) | (simp; omega))))
  have c3 : ¬ bat l 0 - 128 = 0 := by omega
  have c4 : bat l 0 - 128 < 5 := by omega
  have hk : (bat l 0 - 128 == 0) = false := by simp [c3]
  by_cases c5 : (l.length : Int) ≤ bat l 0 - 128
  · have HV : Hid (lenV (rdLen l) = .tuple #[.int .i64 0, .int .i64 0, errV (1, l.length)]) := by show lenV (rdLen l) = _; unfold rdLen; (repeat (first | rw [if_pos (by omega)] | rw [if_neg (by omega)])); rfl
    have c5' : (l.length : Int) < 1 + (bat l 0 - 128) := by omega
    clear c2 c3
    go_enter Try.func63, Try.ntmps63
    go_wp2
    (refine bodyPost_retB (by (simp only [results, Try.results63]; try go_simp)) rfl HV.out.symm ?_; ((repeat' (first | (with_reducible exact Below.refl _ _) | (with_reducible assumption) | (with_reducible refine Below.setCell ?_ ?_ _) | (with_reducible refine Below.alloc ?_ ?_ _) | (with_reducible refine Below.drew ?_) | (with_reducible refine below_drewN ?_ _) | (with_reducible refine Below.step (by with_reducible assumption) ?_ ?_))) <;> (first | omega | (simp; done) | (simp; omega))))
  obtain ⟨k, hK⟩ : ∃ k : Nat, bat l 0 = 128 + k := ⟨(bat l 0 - 128).toNat, by omega⟩
  obtain ⟨v1, hcut, hv1⟩ := HI.out.cut (P := Try.prog) ulB szB .i64 .i64 (lo := 1) (hi := 1 + (bat l 0 - 128)) (by omega) (by omega) (by omega)
  obtain ⟨v2, hcut2, hv2⟩ := isB_cutHi (P := Try.prog) HI.out ulB szB .i64 (hi := 1 + (bat l 0 - 128)) (by omega) (by omega)
  rw [show (1 + (bat l 0 - 128) - 1).toNat = k by omega] at hv1
  rw [show (1 + (bat l 0 - 128)).toNat = 1 + k by omega] at hv2
  have hv1 : IsB w v1 ((l.drop 1).take k) := hv1
  have hU : ∀ W, IsB W v1 ((l.drop 1).take k) → Calls Try.prog 80 #[v1] W fun e w' => e = .returned (.tuple #[.int .u64 (be ((l.drop 1).take k)), .bool true]) ∧ W = w' := fun W h => rUint v1 _ W h (by simp; omega)
  have HU := Lib.hid hU
  have hbe := be_bound ((l.drop 1).take k)
  rw [show ((l.drop 1).take k).length = k by simp; omega] at hbe
  have hpw : (256 : Int) ^ k ≤ 256 ^ 4 := pow256_mono (by omega)
  have hN0 := hbe.1
  have hN1 : be ((l.drop 1).take k) < 4294967296 := by have := hbe.2; omega
  have HL := Lib.hid (lenOct_long hK (by omega) (by omega) (by omega))
  have HV0 : Hid (lenV (rdLen l) = if bat l 1 = 0 ∨ be ((l.drop 1).take k) < 128 ∨ 2147483647 < be ((l.drop 1).take k) then .tuple #[.int .i64 0, .int .i64 0, errV (4, 0)] else .tuple #[.int .i64 (be ((l.drop 1).take k)), .int .i64 (1 + (bat l 0 - 128)), errV (0, 0)]) := by
    show lenV (rdLen l) = _
    unfold rdLen
    rw [show (bat l 0 - 128).toNat = k by omega]
    (repeat (first | rw [if_pos (by omega)] | rw [if_neg (by omega)]))
    split <;> rfl
  have H1 := Lib.hid hv1
  have H2 := Lib.hid hv2
  have c5' : 1 + (bat l 0 - 128) ≤ (l.length : Int) := by omega
  clear hbe hpw hU hv1 hv2 c2 c3 hK
  generalize be ((l.drop 1).take k) = N at *
  by_cases hbig : 2147483647 < N
  · have HV : Hid (lenV (rdLen l) = .tuple #[.int .i64 0, .int .i64 0, errV (4, 0)]) := by show _ = _; rw [HV0.out, if_pos (.inr (.inr hbig))]
    go_enter Try.func63, Try.ntmps63
    go_wp2_with (first | (go_at_call 80; (with_reducible refine (HU.out _ (H1.out.alloc _)).mono ?_); rintro e w1 ⟨rfl, rfl⟩))
    (refine bodyPost_retB (by (simp only [results, Try.results63]; try go_simp)) rfl HV.out.symm ?_; ((repeat' (first | (with_reducible exact Below.refl _ _) | (with_reducible assumption) | (with_reducible refine Below.setCell ?_ ?_ _) | (with_reducible refine Below.alloc ?_ ?_ _) | (with_reducible refine Below.drew ?_) | (with_reducible refine below_drewN ?_ _) | (with_reducible refine Below.step (by with_reducible assumption) ?_ ?_))) <;> (first | omega | (simp; done) | (simp; omega))))
  have hC : ∀ x W, IsB W x (lenOct N.toNat) → IsB W v2 (l.take (1 + k)) → Calls Try.prog 29 #[x, v2] W (RetB (.int .i64 (cmpL (lenOct N.toNat) (l.take (1 + k)))) W) := fun x W h h' => rCompare x v2 _ _ W h h'
  have hNb : N ≤ 2147483647 := by omega
  have HLn := Lib.hid (rLength N · hN0 hNb)
  have HC := Lib.hid hC
  clear hC hbig
  by_cases hbad : bat l 1 = 0 ∨ N < 128
  · have HV : Hid (lenV (rdLen l) = .tuple #[.int .i64 0, .int .i64 0, errV (4, 0)]) := by show _ = _; rw [HV0.out, if_pos (by rcases hbad with h | h; exact .inl h; exact .inr (.inl h))]
    have hne : cmpL (lenOct N.toNat) (l.take (1 + k)) ≠ 0 := fun h => (HL.out.1 (cmpL_zero h)) hbad
    generalize cmpL (lenOct N.toNat) (l.take (1 + k)) = C at *
    have hq : (C != 0) = true := by simp [hne]
    clear hne hbad
    go_enter Try.func63, Try.ntmps63
    go_wp2_with (first | (go_at_call 80; (with_reducible refine (HU.out _ (H1.out.alloc _)).mono ?_); rintro e w1 ⟨rfl, rfl⟩) | (go_at_call 52; (with_reducible refine (HLn.out _).mono ?_); rintro e w1 ⟨x, rfl, ho, hb1⟩; have HO := Lib.hid ho; clear ho; have K1 := Blk.call (Blk.new w 33 #[.int .i64 0, .int .i64 0]) hb1; have lK1 := K1.lt; have qK1 := K1.q; have rK1 := K1.fz; have K1' := Lib.hid K1; clear K1; have K1 := K1'.out; clear K1') | (go_at_call 29; (with_reducible refine (HC.out _ _ HO.out.isB ((H2.out.alloc _).below hb1)).mono ?_); rintro e w2 ⟨rfl, hb2⟩; have K2 := Blk.call (K1) hb2; have lK2 := K2.lt; have qK2 := K2.q; have rK2 := K2.fz; have K2' := Lib.hid K2; clear K2; have K2 := K2'.out; clear K2'))
    (refine bodyPost_retB (by (simp only [results, Try.results63]; try go_simp)) rfl HV.out.symm ?_; ((repeat' (first | (with_reducible exact Below.refl _ _) | (with_reducible assumption) | (with_reducible refine Below.setCell ?_ ?_ _) | (with_reducible refine Below.alloc ?_ ?_ _) | (with_reducible refine Below.drew ?_) | (with_reducible refine below_drewN ?_ _) | (with_reducible refine Below.step (by with_reducible assumption) ?_ ?_))) <;> (first | omega | (simp; done) | (simp; omega))))
  · have HV : Hid (lenV (rdLen l) = .tuple #[.int .i64 N, .int .i64 (1 + (bat l 0 - 128)), errV (0, 0)]) := by show _ = _; rw [HV0.out, if_neg (by rintro (h | h | h); exact hbad (.inl h); exact hbad (.inr h); omega)]
    have heq : lenOct N.toNat = l.take (1 + k) := HL.out.2 hbad
    have hz : cmpL (lenOct N.toNat) (l.take (1 + k)) = 0 := by rw [heq]; exact cmpL_self _
    rw [hz] at HC
    clear heq hz hbad
    go_enter Try.func63, Try.ntmps63
    go_wp2_with (first | (go_at_call 80; (with_reducible refine (HU.out _ (H1.out.alloc _)).mono ?_); rintro e w1 ⟨rfl, rfl⟩) | (go_at_call 52; (with_reducible refine (HLn.out _).mono ?_); rintro e w1 ⟨x, rfl, ho, hb1⟩; have HO := Lib.hid ho; clear ho; have K1 := Blk.call (Blk.new w 33 #[.int .i64 0, .int .i64 0]) hb1; have lK1 := K1.lt; have qK1 := K1.q; have rK1 := K1.fz; have K1' := Lib.hid K1; clear K1; have K1 := K1'.out; clear K1') | (go_at_call 29; (with_reducible refine (HC.out _ _ HO.out.isB ((H2.out.alloc _).below hb1)).mono ?_); rintro e w2 ⟨rfl, hb2⟩; have K2 := Blk.call (K1) hb2; have lK2 := K2.lt; have qK2 := K2.q; have rK2 := K2.fz; have K2' := Lib.hid K2; clear K2; have K2 := K2'.out; clear K2'))
    (refine bodyPost_retB (by (simp only [results, Try.results63]; try go_simp)) rfl HV.out.symm ?_; ((repeat' (first | (with_reducible exact Below.refl _ _) | (with_reducible assumption) | (with_reducible refine Below.setCell ?_ ?_ _) | (with_reducible refine Below.alloc ?_ ?_ _) | (with_reducible refine Below.drew ?_) | (with_reducible refine below_drewN ?_ _) | (with_reducible refine Below.step (by with_reducible assumption) ?_ ?_))) <;> (first | omega | (simp; done) | (simp; omega))))
end Go.Proofs.Ytecbphbnacbepaa
