/- The parts RefC, Enc, Clone, TreeW of one proof, one behind the other. -/
import Derived.Test.YtjjkimjdmpeddaaGreatDoorJ12
import Derived.Test.YtjjkimjdmpeddaaGreatDoorJ04
import Derived.Lib.SliceRun
import Derived.BigQuiet
import Derived.Test.YtjjkimjdmpeddaaGreatDoorJ05
import Derived.Test.YtjjkimjdmpeddaaGreatDoorJ11
import Derived.Test.YtjjkimjdmpeddaaGreatDoorJ02

/- Walks over the references of layer 2: Length, ReadLength. -/
section
set_option linter.unusedSimpArgs false
set_option linter.unusedVariables false
namespace Go.Proofs.YtjjkimjdmpeddaaGreatDoor
open Go.RowKit Go.Cr

/-- Bytes of its own, and the code OK. -/
def RetOK (t : TypeId) (l : List UInt8) (w : World) (e : Ending) (w' : World) : Prop := ∃ v, e = .returned (.tuple #[v, .int .i64 0]) ∧ OwB w' w.heap.size t v l ∧ Below w.heap.size w w'

set_option maxRecDepth 100000 in
set_option maxHeartbeats 2000000 in
theorem rLength (n : Int) (w : World) (h0 : 0 ≤ n) (h1 : n ≤ 2147483647) : Calls Tryz.prog 90 #[.int .i64 n] w (RetOK 5 (lenOct n.toNat) w) := by
  have IH := Lib.hid (rMinimal 7 n.toNat · (by omega) (by omega))
  rw [show ((n.toNat : Nat) : Int) = n by omega] at IH
  obtain ⟨hm1, hm2⟩ := minF_len 7 n.toNat
  by_cases hlt : n < 128
  · have HM : Hid (lenOct n.toNat = minF 7 n.toNat) := by show lenOct n.toNat = _; unfold lenOct; rw [if_pos (by omega)]
    generalize minF 7 n.toNat = m at *
    go_enter Tryz.func90, Tryz.ntmps90
    go_wp2_with (first | (go_at_call 124; (with_reducible refine (IH.out _).mono ?_); rintro e w1 ⟨v1, rfl, ho, hb1⟩; have HO := Lib.hid ho; clear ho))
    go_ret2
    rw [HM.out]
    exact ⟨_, rfl, HO.out, hb1⟩
  · have HM : Hid (lenOct n.toNat = UInt8.ofNat (128 + (minF 7 n.toNat).length) :: minF 7 n.toNat) := by show lenOct n.toNat = _; unfold lenOct; rw [if_neg (by omega)]
    have HZ : Hid (bi (UInt8.ofNat (128 + (minF 7 n.toNat).length)) = 128 + ((minF 7 n.toNat).length : Int)) := by show bi _ = _; rw [bi_ofNat]; omega
    generalize UInt8.ofNat (128 + (minF 7 n.toNat).length) = z at *
    generalize minF 7 n.toNat = m at *
    have hm3 : (m.length : Int) ≤ 8 := by omega
    go_enter Tryz.func90, Tryz.ntmps90
    go_wp2_with (first | (go_at_call 124; (with_reducible refine (IH.out _).mono ?_); rintro e w1 ⟨v1, rfl, ho, hb1⟩; have HO := Lib.hid ho; clear ho; have hln := HO.out.isB.len ulB) | (at_builtin; refine wpList_appB _ rfl _ _ 32 rfl w1.heap.size 5 ulB infoB _ [z] rfl (by rw [← HZ.out]; exact OwB.one _ _ _ (Nat.le_refl _)) _ _ rfl (HO.out.isB.alloc _) ?k1 ?k2 ?_))
    case k1 => simp; omega
    case k2 => simp
    intro v2 w2 ho2 _ hb2
    have HO2 := Lib.hid ho2
    clear ho2
    go_wp2
    go_ret2
    rw [HM.out]
    exact ⟨_, rfl, HO2.out.more hb1.size, (hb1.alloc hb1.size _).trans (hb2.mono hb1.size)⟩

set_option maxRecDepth 100000 in
set_option maxHeartbeats 2000000 in
theorem rLength_bad (n : Int) (w : World) (h : n < 0 ∨ 2147483647 < n) : Calls Tryz.prog 90 #[.int .i64 n] w (RetB (.tuple #[.slice none 0 0, .int .i64 9]) w) := by
  rcases (show n < 0 ∨ (0 ≤ n ∧ 2147483647 < n) by omega) with h | ⟨h, h'⟩ <;>
  · go_enter Tryz.func90, Tryz.ntmps90
    go_wp2
    (refine bodyPost_retB (v := .tuple #[.slice none 0 0, .int .i64 9]) (by (simp only [results, Tryz.results90]; try go_simp)) rfl rfl ?_; ((repeat' (first | (with_reducible exact Below.refl _ _) | (with_reducible assumption) | (with_reducible refine Below.setCell ?_ ?_ _) | (with_reducible refine Below.alloc ?_ ?_ _) | (with_reducible refine Below.drew ?_) | (with_reducible refine below_drewN ?_ _) | (with_reducible refine Below.step (by with_reducible assumption) ?_ ?_))) <;> (first | omega | (simp; done) | (simp; omega))))

theorem isB_cutHi {P : Program} {w : World} {v : Value} {l : List UInt8} {t e : TypeId} (h : IsB w v l) (ht : P.underlying t = some (.slice e)) (hs : ∀ W, (sizeOf e).run P W = .ok 1 W) (k' : IntKind) {hi : Int} (h1 : 0 ≤ hi) (h2 : hi ≤ l.length) :
    ∃ v', (∀ W : World, (Instr.slice t v none (some (.int k' hi)) none).run P W = .ok v' W) ∧ IsB w v' (l.take hi.toNat) := by
  obtain ⟨A, c, rfl, h2, h3, h4⟩ := h
  refine ⟨.slice A hi.toNat c, fun W => ?_, ?_⟩
  · have hi1 : (0 ≤ hi ∧ hi ≤ (c : Int)) := ⟨by omega, by omega⟩
    simp only [Instr.slice, Instr.sliceBounds, Instr.sliceBound, asIntOf, Sem.run_bind, Sem.run_pure, Result.andThen, run_underlying ht, if_pos hi1, hs]
    cases A <;> simp [Addr.add]
  · have := IsB.sub (A0 := A) (n0 := l.length) (c := c) (lo := 0) (hi := hi.toNat) (c' := c) (A := A) (n := hi.toNat) ⟨A, c, rfl, h2, h3, h4⟩ (by omega) (by omega) (by omega) (by omega) (by omega) (by rintro _ b off rfl; rfl)
    simpa using this

set_option maxRecDepth 100000 in
set_option maxHeartbeats 4000000 in
theorem rReadLen (v : Value) (l : List UInt8) (w : World) (hv : IsB w v l) : Calls Tryz.prog 202 #[v] w (RetB (lenV (rdLen l)) w) := by
  have hlen := hv.len ulB
  by_cases hl : l.length = 0
  · have HV : Hid (lenV (rdLen l) = .tuple #[.int .i64 0, .int .i64 0, errV (1, 0)]) := by show lenV (rdLen l) = _; simp [rdLen, lenV, hl]
    have hlb : ((l.length : Int) == 0) = true := beq_iff_eq.2 (by omega)
    clear hl
    go_enter Tryz.func202, Tryz.ntmps202
    go_wp2
    (refine bodyPost_retB (by (simp only [results, Tryz.results202]; try go_simp)) rfl HV.out.symm ?_; ((repeat' (first | (with_reducible exact Below.refl _ _) | (with_reducible assumption) | (with_reducible refine Below.setCell ?_ ?_ _) | (with_reducible refine Below.alloc ?_ ?_ _) | (with_reducible refine Below.drew ?_) | (with_reducible refine below_drewN ?_ _) | (with_reducible refine Below.step (by with_reducible assumption) ?_ ?_))) <;> (first | omega | (simp; done) | (simp; omega))))
  have hx1 := bat_lt l 0
  have hx0 := bat_pos l 0
  have hlb : ((l.length : Int) == 0) = false := beq_eq_false_iff_ne.2 (by omega)
  have hmx := hv.maxl
  obtain ⟨b, o, hix, hbw, hcl⟩ := hv.at_ (P := Tryz.prog) ulB szB .i64 (i := 0) (by omega) (by omega)
  simp only [Int.toNat_zero] at hcl
  have HI := Lib.hid hv
  clear hv
  by_cases c1 : bat l 0 < 128
  · have HV : Hid (lenV (rdLen l) = .tuple #[.int .i64 (bat l 0), .int .i64 1, errV (0, 0)]) := by show lenV (rdLen l) = _; unfold rdLen; (repeat (first | rw [if_pos (by omega)] | rw [if_neg (by omega)])); rfl
    go_enter Tryz.func202, Tryz.ntmps202
    go_wp2
    (refine bodyPost_retB (by (simp only [results, Tryz.results202]; try go_simp)) rfl HV.out.symm ?_; ((repeat' (first | (with_reducible exact Below.refl _ _) | (with_reducible assumption) | (with_reducible refine Below.setCell ?_ ?_ _) | (with_reducible refine Below.alloc ?_ ?_ _) | (with_reducible refine Below.drew ?_) | (with_reducible refine below_drewN ?_ _) | (with_reducible refine Below.step (by with_reducible assumption) ?_ ?_))) <;> (first | omega | (simp; done) | (simp; omega))))
  by_cases c2 : bat l 0 - 128 = 0 ∨ 4 < bat l 0 - 128
  · have HV : Hid (lenV (rdLen l) = .tuple #[.int .i64 0, .int .i64 0, errV (4, 0)]) := by show lenV (rdLen l) = _; unfold rdLen; (repeat (first | rw [if_pos (by omega)] | rw [if_neg (by omega)])); rfl
    have hk : ((bat l 0 - 128 == 0) = true) ∨ ((bat l 0 - 128 == 0) = false ∧ 5 ≤ bat l 0 - 128) := by
      by_cases h : bat l 0 - 128 = 0
      · exact .inl (by simp [h])
      · exact .inr ⟨by simp [h], by omega⟩
    clear c2
    rcases hk with hk | ⟨hk, hk4⟩ <;>
    · go_enter Tryz.func202, Tryz.ntmps202
      go_wp2
      (refine bodyPost_retB (by (simp only [results, Tryz.results202]; try go_simp)) rfl HV.out.symm ?_; ((repeat' (first | (with_reducible exact Below.refl _ _) | (with_reducible assumption) | (with_reducible refine Below.setCell ?_ ?_ _) | (with_reducible refine Below.alloc ?_ ?_ _) | (with_reducible refine Below.drew ?_) | (with_reducible refine below_drewN ?_ _) | (with_reducible refine Below.step (by with_reducible assumption) ?_ ?_))) <;> (first | omega | (simp; done) | (simp; omega))))
  have c3 : ¬ bat l 0 - 128 = 0 := by omega
  have c4 : bat l 0 - 128 < 5 := by omega
  have hk : (bat l 0 - 128 == 0) = false := by simp [c3]
  by_cases c5 : (l.length : Int) ≤ bat l 0 - 128
  · have HV : Hid (lenV (rdLen l) = .tuple #[.int .i64 0, .int .i64 0, errV (1, l.length)]) := by show lenV (rdLen l) = _; unfold rdLen; (repeat (first | rw [if_pos (by omega)] | rw [if_neg (by omega)])); rfl
    have c5' : (l.length : Int) < 1 + (bat l 0 - 128) := by omega
    clear c2 c3
    go_enter Tryz.func202, Tryz.ntmps202
    go_wp2
    (refine bodyPost_retB (by (simp only [results, Tryz.results202]; try go_simp)) rfl HV.out.symm ?_; ((repeat' (first | (with_reducible exact Below.refl _ _) | (with_reducible assumption) | (with_reducible refine Below.setCell ?_ ?_ _) | (with_reducible refine Below.alloc ?_ ?_ _) | (with_reducible refine Below.drew ?_) | (with_reducible refine below_drewN ?_ _) | (with_reducible refine Below.step (by with_reducible assumption) ?_ ?_))) <;> (first | omega | (simp; done) | (simp; omega))))
  obtain ⟨k, hK⟩ : ∃ k : Nat, bat l 0 = 128 + k := ⟨(bat l 0 - 128).toNat, by omega⟩
  obtain ⟨v1, hcut, hv1⟩ := HI.out.cut (P := Tryz.prog) ulB szB .i64 .i64 (lo := 1) (hi := 1 + (bat l 0 - 128)) (by omega) (by omega) (by omega)
  obtain ⟨v2, hcut2, hv2⟩ := isB_cutHi (P := Tryz.prog) HI.out ulB szB .i64 (hi := 1 + (bat l 0 - 128)) (by omega) (by omega)
  rw [show (1 + (bat l 0 - 128) - 1).toNat = k by omega] at hv1
  rw [show (1 + (bat l 0 - 128)).toNat = 1 + k by omega] at hv2
  have hv1 : IsB w v1 ((l.drop 1).take k) := hv1
  have hU : ∀ W, IsB W v1 ((l.drop 1).take k) → Calls Tryz.prog 217 #[v1] W fun e w' => e = .returned (.tuple #[.int .u64 (be ((l.drop 1).take k)), .bool true]) ∧ W = w' := fun W h => rUint v1 _ W h (by simp; omega)
  have HU := Lib.hid hU
  have hbe := be_bound ((l.drop 1).take k)
  rw [show ((l.drop 1).take k).length = k by simp; omega] at hbe
  have hpw : (256 : Int) ^ k ≤ 256 ^ 4 := pow256_mono (by omega)
  have hN0 := hbe.1
  have hN1 : be ((l.drop 1).take k) < 4294967296 := by have := hbe.2; omega
  have HL := Lib.hid (lenOct_long hK (by omega) (by omega) (by omega))
  have HV0 : Hid (lenV (rdLen l) = if bat l 1 = 0 ∨ be ((l.drop 1).take k) < 128 ∨ 2147483647 < be ((l.drop 1).take k) then .tuple #[.int .i64 0, .int .i64 0, errV (4, 0)] else .tuple #[.int .i64 (be ((l.drop 1).take k)), .int .i64 (1 + (bat l 0 - 128)), errV (0, 0)]) := by
    show lenV (rdLen l) = _
    unfold rdLen
    rw [show (bat l 0 - 128).toNat = k by omega]
    (repeat (first | rw [if_pos (by omega)] | rw [if_neg (by omega)]))
    split <;> rfl
  have H1 := Lib.hid hv1
  have H2 := Lib.hid hv2
  have c5' : 1 + (bat l 0 - 128) ≤ (l.length : Int) := by omega
  clear hbe hpw hU hv1 hv2 c2 c3 hK
  generalize be ((l.drop 1).take k) = N at *
  by_cases hbig : 2147483647 < N
  · have HV : Hid (lenV (rdLen l) = .tuple #[.int .i64 0, .int .i64 0, errV (4, 0)]) := by show _ = _; rw [HV0.out, if_pos (.inr (.inr hbig))]
    go_enter Tryz.func202, Tryz.ntmps202
    go_wp2_with (first | (go_at_call 217; (with_reducible refine (HU.out _ (H1.out.alloc _)).mono ?_); rintro e w1 ⟨rfl, rfl⟩))
    (refine bodyPost_retB (by (simp only [results, Tryz.results202]; try go_simp)) rfl HV.out.symm ?_; ((repeat' (first | (with_reducible exact Below.refl _ _) | (with_reducible assumption) | (with_reducible refine Below.setCell ?_ ?_ _) | (with_reducible refine Below.alloc ?_ ?_ _) | (with_reducible refine Below.drew ?_) | (with_reducible refine below_drewN ?_ _) | (with_reducible refine Below.step (by with_reducible assumption) ?_ ?_))) <;> (first | omega | (simp; done) | (simp; omega))))
  have hC : ∀ x W, IsB W x (lenOct N.toNat) → IsB W v2 (l.take (1 + k)) → Calls Tryz.prog 218 #[x, v2] W (RetB (.int .i64 (cmpL (lenOct N.toNat) (l.take (1 + k)))) W) := fun x W h h' => rCompare x v2 _ _ W h h'
  have hNb : N ≤ 2147483647 := by omega
  have HLn := Lib.hid (rLength N · hN0 hNb)
  have HC := Lib.hid hC
  clear hC hbig
  by_cases hbad : bat l 1 = 0 ∨ N < 128
  · have HV : Hid (lenV (rdLen l) = .tuple #[.int .i64 0, .int .i64 0, errV (4, 0)]) := by show _ = _; rw [HV0.out, if_pos (by rcases hbad with h | h; exact .inl h; exact .inr (.inl h))]
    have hne : cmpL (lenOct N.toNat) (l.take (1 + k)) ≠ 0 := fun h => (HL.out.1 (cmpL_zero h)) hbad
    generalize cmpL (lenOct N.toNat) (l.take (1 + k)) = C at *
    have hq : (C != 0) = true := by simp [hne]
    clear hne hbad
    go_enter Tryz.func202, Tryz.ntmps202
    go_wp2_with (first | (go_at_call 217; (with_reducible refine (HU.out _ (H1.out.alloc _)).mono ?_); rintro e w1 ⟨rfl, rfl⟩) | (go_at_call 90; (with_reducible refine (HLn.out _).mono ?_); rintro e w1 ⟨x, rfl, ho, hb1⟩; have HO := Lib.hid ho; clear ho; have K1 := Blk.call (Blk.new w 38 #[.int .i64 0, .int .i64 0]) hb1; have lK1 := K1.lt; have qK1 := K1.q; have rK1 := K1.fz; have K1' := Lib.hid K1; clear K1; have K1 := K1'.out; clear K1') | (go_at_call 218; (with_reducible refine (HC.out _ _ HO.out.isB ((H2.out.alloc _).below hb1)).mono ?_); rintro e w2 ⟨rfl, hb2⟩; have K2 := Blk.call (K1) hb2; have lK2 := K2.lt; have qK2 := K2.q; have rK2 := K2.fz; have K2' := Lib.hid K2; clear K2; have K2 := K2'.out; clear K2'))
    (refine bodyPost_retB (by (simp only [results, Tryz.results202]; try go_simp)) rfl HV.out.symm ?_; ((repeat' (first | (with_reducible exact Below.refl _ _) | (with_reducible assumption) | (with_reducible refine Below.setCell ?_ ?_ _) | (with_reducible refine Below.alloc ?_ ?_ _) | (with_reducible refine Below.drew ?_) | (with_reducible refine below_drewN ?_ _) | (with_reducible refine Below.step (by with_reducible assumption) ?_ ?_))) <;> (first | omega | (simp; done) | (simp; omega))))
  · have HV : Hid (lenV (rdLen l) = .tuple #[.int .i64 N, .int .i64 (1 + (bat l 0 - 128)), errV (0, 0)]) := by show _ = _; rw [HV0.out, if_neg (by rintro (h | h | h); exact hbad (.inl h); exact hbad (.inr h); omega)]
    have heq : lenOct N.toNat = l.take (1 + k) := HL.out.2 hbad
    have hz : cmpL (lenOct N.toNat) (l.take (1 + k)) = 0 := by rw [heq]; exact cmpL_self _
    rw [hz] at HC
    clear heq hz hbad
    go_enter Tryz.func202, Tryz.ntmps202
    go_wp2_with (first | (go_at_call 217; (with_reducible refine (HU.out _ (H1.out.alloc _)).mono ?_); rintro e w1 ⟨rfl, rfl⟩) | (go_at_call 90; (with_reducible refine (HLn.out _).mono ?_); rintro e w1 ⟨x, rfl, ho, hb1⟩; have HO := Lib.hid ho; clear ho; have K1 := Blk.call (Blk.new w 38 #[.int .i64 0, .int .i64 0]) hb1; have lK1 := K1.lt; have qK1 := K1.q; have rK1 := K1.fz; have K1' := Lib.hid K1; clear K1; have K1 := K1'.out; clear K1') | (go_at_call 218; (with_reducible refine (HC.out _ _ HO.out.isB ((H2.out.alloc _).below hb1)).mono ?_); rintro e w2 ⟨rfl, hb2⟩; have K2 := Blk.call (K1) hb2; have lK2 := K2.lt; have qK2 := K2.q; have rK2 := K2.fz; have K2' := Lib.hid K2; clear K2; have K2 := K2'.out; clear K2'))
    (refine bodyPost_retB (by (simp only [results, Tryz.results202]; try go_simp)) rfl HV.out.symm ?_; ((repeat' (first | (with_reducible exact Below.refl _ _) | (with_reducible assumption) | (with_reducible refine Below.setCell ?_ ?_ _) | (with_reducible refine Below.alloc ?_ ?_ _) | (with_reducible refine Below.drew ?_) | (with_reducible refine below_drewN ?_ _) | (with_reducible refine Below.step (by with_reducible assumption) ?_ ?_))) <;> (first | omega | (simp; done) | (simp; omega))))
end Go.Proofs.YtjjkimjdmpeddaaGreatDoor
end

/- Walks over the making of elements: Identifier, Length, Encode, Wrap, Sequence, in the program and in the references. -/
section
set_option linter.unusedSimpArgs false
set_option linter.unusedVariables false
namespace Go.Proofs.YtjjkimjdmpeddaaGreatDoor
open Go.RowKit Go.Cr

set_option maxRecDepth 100000 in
set_option maxHeartbeats 2000000 in
theorem rIdent_bad (c n : Int) (k : Bool) (w : World) (h : c < 0 ∨ 3 < c ∨ n < 0 ∨ 31 ≤ n) :
    Calls Tryz.prog 170 #[.int .i64 c, .bool k, .int .i64 n] w fun e w' => e = .returned (.tuple #[.int .u8 0, .int .i64 9]) ∧ w = w' := by
  go_enter Tryz.func170, Tryz.ntmps170
  go_wp2
  all_goals first | (exfalso; omega) | (go_ret2; exact ⟨rfl, rfl⟩)

set_option maxRecDepth 100000 in
set_option maxHeartbeats 2000000 in
theorem rIdent_good (c n : Int) (k : Bool) (w : World) (h : 0 ≤ c) (h1 : c ≤ 3) (h2 : 0 ≤ n) (h3 : n < 31) :
    Calls Tryz.prog 170 #[.int .i64 c, .bool k, .int .i64 n] w fun e w' => e = .returned (.tuple #[.int .u8 (c * 64 + n + if k then 32 else 0), .int .i64 0]) ∧ w = w' := by
  cases k
  · go_enter Tryz.func170, Tryz.ntmps170
    go_wp2
    go_ret2
    exact ⟨by simp, rfl⟩
  · go_enter Tryz.func170, Tryz.ntmps170
    go_wp2
    go_ret2
    exact ⟨by simp, rfl⟩

set_option maxRecDepth 100000 in
set_option maxHeartbeats 2000000 in
theorem pLength (n : Int) (w : World) (h0 : 0 ≤ n) (h1 : n ≤ 2147483647) : Calls Tryz.prog 120 #[.int .i64 n] w (RetOK 5 (lenOct n.toNat) w) := by
  have IH := Lib.hid (pMinimal n.toNat · (by rw [show (256 : Nat) ^ 8 = 18446744073709551616 by decide]; omega))
  rw [show ((n.toNat : Nat) : Int) = n by omega] at IH
  obtain ⟨hm1, hm2⟩ := minF_len 7 n.toNat
  by_cases hlt : n < 128
  · have HM : Hid (lenOct n.toNat = minF 7 n.toNat) := by show lenOct n.toNat = _; unfold lenOct; rw [if_pos (by omega)]
    generalize minF 7 n.toNat = m at *
    go_enter Tryz.func120, Tryz.ntmps120
    go_wp2_with (first | (go_at_call 148; (with_reducible refine (IH.out _).mono ?_); rintro e w1 ⟨v1, rfl, ho, hb1⟩; have HO := Lib.hid ho; clear ho))
    go_ret2
    rw [HM.out]
    exact ⟨_, rfl, HO.out, hb1⟩
  · have HM : Hid (lenOct n.toNat = UInt8.ofNat (128 + (minF 7 n.toNat).length) :: minF 7 n.toNat) := by show lenOct n.toNat = _; unfold lenOct; rw [if_neg (by omega)]
    have HZ : Hid (bi (UInt8.ofNat (128 + (minF 7 n.toNat).length)) = 128 + ((minF 7 n.toNat).length : Int)) := by show bi _ = _; rw [bi_ofNat]; omega
    generalize UInt8.ofNat (128 + (minF 7 n.toNat).length) = z at *
    generalize minF 7 n.toNat = m at *
    have hm3 : (m.length : Int) ≤ 8 := by omega
    go_enter Tryz.func120, Tryz.ntmps120
    go_wp2_with (first | (go_at_call 148; (with_reducible refine (IH.out _).mono ?_); rintro e w1 ⟨v1, rfl, ho, hb1⟩; have HO := Lib.hid ho; clear ho; have hln := HO.out.isB.len ulB) | (at_builtin; refine wpList_appB _ rfl _ _ 32 rfl w1.heap.size 5 ulB infoB _ [z] rfl (by rw [← HZ.out]; exact OwB.one _ _ _ (Nat.le_refl _)) _ _ rfl (HO.out.isB.alloc _) ?k1 ?k2 ?_))
    case k1 => simp; omega
    case k2 => simp
    intro v2 w2 ho2 _ hb2
    have HO2 := Lib.hid ho2
    clear ho2
    go_wp2
    go_ret2
    rw [HM.out]
    exact ⟨_, rfl, HO2.out.more hb1.size, (hb1.alloc hb1.size _).trans (hb2.mono hb1.size)⟩

set_option maxRecDepth 100000 in
set_option maxHeartbeats 2000000 in
theorem pLength_bad (n : Int) (w : World) (h : n < 0 ∨ 2147483647 < n) : Calls Tryz.prog 120 #[.int .i64 n] w (RetB (.tuple #[.slice none 0 0, .int .i64 9]) w) := by
  rcases (show n < 0 ∨ (0 ≤ n ∧ 2147483647 < n) by omega) with h | ⟨h, h'⟩ <;>
  · go_enter Tryz.func120, Tryz.ntmps120
    go_wp2
    (refine bodyPost_retB (v := .tuple #[.slice none 0 0, .int .i64 9]) (by (simp only [results, Tryz.results120]; try go_simp)) rfl rfl ?_; ((repeat' (first | (with_reducible exact Below.refl _ _) | (with_reducible assumption) | (with_reducible refine Below.setCell ?_ ?_ _) | (with_reducible refine Below.alloc ?_ ?_ _) | (with_reducible refine Below.drew ?_) | (with_reducible refine below_drewN ?_ _) | (with_reducible refine Below.step (by with_reducible assumption) ?_ ?_))) <;> (first | omega | (simp; done) | (simp; omega))))


theorem isBs_new3 (w : World) (t : TypeId) {a b c : Value} {la lb lc : List UInt8} (ha : IsB w a la) (hb : IsB w b lb) (hc : IsB w c lc) :
    IsBs (w.alloc (.cells #[a, b, c] t)) (.slice (some ⟨w.heap.size, 0, none⟩) 3 3) [la, lb, lc] := by
  refine ⟨[a, b, c], ⟨some ⟨w.heap.size, 0, none⟩, 3, rfl, Nat.le_refl _, by decide, rfl, fun _ => ⟨w.heap.size, 0, rfl, by simp, fun j x hj => ?_⟩⟩, fun j hj => ?_⟩
  · rw [Nat.zero_add, World.cell?_alloc_new]
    simpa using hj
  · match j, hj with
    | 0, _ => exact ha.alloc _
    | 1, _ => exact hb.alloc _
    | 2, _ => exact hc.alloc _

theorem isBs_at3 {w : World} {t : TypeId} {g : Nat} {a b c : Value} {la lb lc : List UInt8} (hg : g = w.heap.size) (ha : IsB w a la) (hb : IsB w b lb) (hc : IsB w c lc) :
    IsBs (w.alloc (.cells #[a, b, c] t)) (.slice (some ⟨g, 0, none⟩) 3 3) [la, lb, lc] := by subst hg; exact isBs_new3 w t ha hb hc
theorem isB_slice {w : World} {v : Value} {l : List UInt8} (h : IsB w v l) : ∃ A c, v = .slice A l.length c := by
  obtain ⟨A, c, rfl, _⟩ := h; exact ⟨A, c, rfl⟩

set_option maxRecDepth 100000 in
set_option maxHeartbeats 2000000 in
theorem pEnc_bad (c n : Int) (k : Bool) (v : Value) (w : World) (h : c < 0 ∨ 3 < c ∨ n < 0 ∨ 31 ≤ n) :
    Calls Tryz.prog 87 #[.int .i64 c, .bool k, .int .i64 n, v] w (RetB (.tuple #[.slice none 0 0, .int .i64 9]) w) := by
  have HI := Lib.hid (ident_bad c n k · h)
  clear h
  go_enter Tryz.func87, Tryz.ntmps87
  go_wp2_with (first | (go_at_call 119; (with_reducible refine (HI.out _).mono ?_); rintro e w1 ⟨rfl, rfl⟩))
  (refine bodyPost_retB (v := .tuple #[.slice none 0 0, .int .i64 9]) (by (simp only [results, Tryz.results87]; try go_simp)) rfl rfl ?_; ((repeat' (first | (with_reducible exact Below.refl _ _) | (with_reducible assumption) | (with_reducible refine Below.setCell ?_ ?_ _) | (with_reducible refine Below.alloc ?_ ?_ _) | (with_reducible refine Below.drew ?_) | (with_reducible refine below_drewN ?_ _) | (with_reducible refine Below.step (by with_reducible assumption) ?_ ?_))) <;> (first | omega | (simp; done) | (simp; omega))))

set_option maxRecDepth 100000 in
set_option maxHeartbeats 2000000 in
theorem pEnc_good (c n : Int) (k : Bool) (v : Value) (l : List UInt8) (w : World) (hv : IsB w v l) (h : 0 ≤ c) (h1 : c ≤ 3) (h2 : 0 ≤ n) (h3 : n < 31) (hl : l.length ≤ 900000) :
    Calls Tryz.prog 87 #[.int .i64 c, .bool k, .int .i64 n, v] w (RetOK 5 (encO c k n l) w) := by
  obtain ⟨A, cp, rfl⟩ := isB_slice hv
  have HV := Lib.hid hv
  have hz := idB_bi c k n h h1 h2 h3
  have HI0 : Hid (∀ W, Calls Tryz.prog 119 #[.int .i64 c, .bool k, .int .i64 n] W fun e w' => e = .returned (.tuple #[.int .u8 (bi (idB c k n)), .int .i64 0]) ∧ W = w') := fun W => by
    rw [hz]; exact ident_good c n k W h h1 h2 h3
  have HL := Lib.hid (pLength l.length · (by omega) (by omega))
  obtain ⟨hm1, hm2⟩ := lenOct_len l.length
  rw [Int.toNat_natCast] at HL
  have HE : Hid (encO c k n l = idB c k n :: (lenOct l.length ++ l)) := rfl
  have hl' : (l.length : Int) ≤ 900000 := by omega
  clear hv hz h h1 h2 h3
  generalize idB c k n = z at *
  generalize lenOct l.length = m at *
  generalize encO c k n l = E at *
  have hfl : [[z], m, l].flatten.length ≤ 1000000 := by simp; omega
  have HF := Lib.hid hfl
  clear hfl
  go_enter Tryz.func87, Tryz.ntmps87
  go_wp2_with (first | (go_at_call 119; (with_reducible refine (HI0.out _).mono ?_); rintro e w1 ⟨rfl, rfl⟩) | (go_at_call 120; (with_reducible refine (HL.out _).mono ?_); rintro e w1 ⟨v1, rfl, ho, hb1⟩; have HO := Lib.hid ho; clear ho; obtain ⟨A1, cp1, rfl⟩ := isB_slice HO.out.isB) | (go_at_call 88; (with_reducible refine (concat_any _ [[z], m, l] _ (isBs_at3 (by simp) (isB_new _ _ z _ rfl) (HO.out.isB.alloc _) ((HV.out.below hb1).alloc _)) HF.out).mono ?_); rintro e w2 ⟨v2, rfl, ho2, hb2⟩; have HO2 := Lib.hid ho2; clear ho2))
  go_ret2
  rw [HE.out]
  refine ⟨_, rfl, ?_, ?_⟩
  · have := HO2.out
    simp only [List.flatten_cons, List.flatten_nil, List.append_nil] at this
    exact this.more (by have := hb1.size; simp; omega)
  · exact (((hb1.alloc hb1.size _).alloc (by have := hb1.size; simp; omega) _)).trans (hb2.mono (by have := hb1.size; simp; omega))

end Go.Proofs.YtjjkimjdmpeddaaGreatDoor
end

/- Walk over slices.Clone of bytes. -/
section
set_option linter.unusedSimpArgs false
set_option linter.unusedVariables false
namespace Go.Proofs.YtjjkimjdmpeddaaGreatDoor
open Go.RowKit Go.Cr

set_option maxRecDepth 100000 in
set_option maxHeartbeats 2000000 in
theorem clone_any (v : Value) (l : List UInt8) (w : World) (hv : IsB w v l) (hl : l.length ≤ 1000000) : Calls Tryz.prog 117 #[v] w (RetO 5 l w) := by
  have HV := Lib.hid hv
  obtain ⟨A, c, rfl, h1, h2, h3⟩ := hv
  cases A with
  | none =>
    have h0 : l = [] := by
      rcases Nat.eq_zero_or_pos l.length with h | h
      · exact List.eq_nil_of_length_eq_zero h
      · obtain ⟨b, off, h', _⟩ := h3 h; cases h'
    subst h0
    have he := fun W => Go.Lib.run_eql_slice_nil (P := Tryz.prog) W 32 5 none 0 c 0 0 ulB
    clear h3
    go_enter Tryz.func117, Tryz.ntmps117
    go_wp2
    go_ret
    exact ⟨_, rfl, OwB.nil_ _ _ _, Below.refl _ _⟩
  | some a =>
    have he := fun W => Go.Lib.run_eql_slice_nil (P := Tryz.prog) W 32 5 (some a) l.length c 0 0 ulB
    have H0 : Hid (OwB (w.alloc (.cells #[] 5)) w.heap.size 5 (.slice (some ⟨w.heap.size, 0, none⟩) 0 0) []) := by
      have := World.ownsRow_lit (base := w.heap.size) (e := 5) (size := 1) w #[] 0 (Nat.le_refl _) (by decide) rfl
      show OwB _ _ _ _ _
      simpa [OwB, bCells] using this
    clear h3
    go_enter Tryz.func117, Tryz.ntmps117
    go_wp2_with (at_builtin; refine wpList_appB _ rfl _ _ 32 rfl w.heap.size 5 ulB infoB _ [] rfl H0.out _ l rfl (HV.out.alloc _) ?k1 ?k2 ?_)
    case k1 => simp; omega
    case k2 => simp
    intro v2 w2 ho2 _ hb2
    have HO2 := Lib.hid ho2
    clear ho2
    go_wp2
    go_ret
    exact ⟨_, rfl, by simpa using HO2.out, ((Below.refl _ _).alloc (Nat.le_refl _) _).trans hb2⟩
end Go.Proofs.YtjjkimjdmpeddaaGreatDoor
end

/- Walk over tree.read. -/
section
set_option linter.unusedSimpArgs false
set_option linter.unusedVariables false
namespace Go.Proofs.YtjjkimjdmpeddaaGreatDoor
open Go.RowKit Go.Cr

theorem infoSpot : (Tryz.prog.info? 182).map (fun i => (i.zero, i.size, i.bytes)) = some (some (.agg #[.int .i64 0, .int .i64 0, .int .i64 0, .int .i64 0, .bool false, .slice none 0 0, .slice none 0 0, .slice none 0 0]), 8, 112) := by kernel_rfl
theorem infoNode : (Tryz.prog.info? 91).map (fun i => (i.zero, i.size, i.bytes)) = some (some (.agg #[.int .i64 0, .int .i64 0, .bool false, .slice none 0 0, .slice none 0 0]), 5, 72) := by kernel_rfl
theorem ulSpots : Tryz.prog.underlying 180 = some (.slice 182) := by kernel_rfl
theorem ulNodes : Tryz.prog.underlying 89 = some (.slice 91) := by kernel_rfl

@[go_sem] def spotZ : Value := .agg #[.int .i64 0, .int .i64 0, .int .i64 0, .int .i64 0, .bool false, .slice none 0 0, .slice none 0 0, .slice none 0 0]
/-- What an element's spot holds besides its offsets. -/
structure Sp where
  c1 : Int
  c2 : Int
  c3 : Bool
  a4 : Option Addr
  n4 : Nat
  k4 : Nat
  a5 : Option Addr
  n5 : Nat
  k5 : Nat
  a6 : Option Addr
  n6 : Nat
  k6 : Nat
@[go_sem] def spotV (a e : Int) (s : Sp) : Value := .agg #[.int .i64 a, .int .i64 e, .int .i64 s.c1, .int .i64 s.c2, .bool s.c3, .slice s.a4 s.n4 s.k4, .slice s.a5 s.n5 s.k5, .slice s.a6 s.n6 s.k6]
def RetRdY (a e1 : Int) (w : World) (e : Ending) (w' : World) : Prop := Below w.heap.size w w' ∧ ∃ s, e = .returned (.tuple #[spotV a e1 s, errV (0, 0)])
def RetRdN (L : Nat) (w : World) (e : Ending) (w' : World) : Prop := Below w.heap.size w w' ∧ ∃ c o : Int, 0 < c ∧ 0 ≤ o ∧ o ≤ L ∧ e = .returned (.tuple #[spotZ, errV (c, o)])
/-- What read leaves. -/
def RetRd (r : Option Nat) (L : Nat) (a : Int) (w : World) (e : Ending) (w' : World) : Prop := match r with
  | some n => RetRdY a (a + n) w e w'
  | none => RetRdN L w e w'

set_option maxRecDepth 100000 in
theorem rdFail (c o : Int) (w : World) : Calls Tryz.prog 195 #[.int .i64 c, .int .i64 o] w (RetB (.tuple #[spotZ, errV (c, o)]) w) := by
  go_enter Tryz.func195, Tryz.ntmps195
  go_wp2_with fail
  refine bodyPost_ret (v := .tuple #[spotZ, errV (c, o)]) (by simp only [results, Tryz.results195]; go_simp) rfl ?_
  exact ⟨rfl, by ((repeat' (first | (with_reducible exact Below.refl _ _) | (with_reducible assumption) | (with_reducible refine Below.setCell ?_ ?_ _) | (with_reducible refine Below.alloc ?_ ?_ _) | (with_reducible refine Below.drew ?_) | (with_reducible refine below_drewN ?_ _) | (with_reducible refine Below.step (by with_reducible assumption) ?_ ?_))) <;> (first | omega | (simp; done) | (simp; omega)))⟩

set_option maxRecDepth 100000 in
set_option maxHeartbeats 4000000 in
theorem read_zero (v : Value) (a e1 : Int) (L : Nat) (w : World) (h0 : 0 ≤ a) (h1 : a ≤ L) : Calls Tryz.prog 169 #[v, .int .i64 a, .int .i64 e1, .int .i64 0] w (RetRdN L w) := by
  have HF := Lib.hid (fun W => rdFail 5 a W)
  simp only [spotZ, errV] at HF
  go_enter Tryz.func169, Tryz.ntmps169
  go_wp2_with (first | (go_at_call 195; (with_reducible refine (HF.out _).mono ?_); rintro e w1 ⟨rfl, hbw1⟩; obtain ⟨hcw1, hfw1⟩ := bcell hbw1; have hzw1 := hbw1.size; (try simp at hzw1); have hyw1 : w.heap.size < w1.heap.size := (by omega); (try have hyaw1 : w.heap.size + 1 < w1.heap.size := (by omega)); (try have hybw1 : w.heap.size + 2 < w1.heap.size := (by omega)); (try have hycw1 : w.heap.size + 3 < w1.heap.size := (by omega)); (try have hydw1 : w.heap.size + 4 < w1.heap.size := (by omega)); clear hzw1); have q0w1 := fun o => hcw1 (w.heap.size) o (by simp [go_sem]; try omega); simp [go_sem] at q0w1; have r0w1 := fun o => hfw1 (w.heap.size) o (by simp [go_sem]; try omega); simp [go_sem] at r0w1; have q1w1 := fun o => hcw1 (w.heap.size + 1) o (by simp [go_sem]; try omega); simp [go_sem] at q1w1; have r1w1 := fun o => hfw1 (w.heap.size + 1) o (by simp [go_sem]; try omega); simp [go_sem] at r1w1)
  refine bodyPost_ret (v := .tuple #[spotZ, errV (5, a)]) (by simp only [results, Tryz.results169]; go_simp) rfl ?_
  exact ⟨by ((repeat' (first | (with_reducible exact Below.refl _ _) | (with_reducible assumption) | (with_reducible refine Below.setCell ?_ ?_ _) | (with_reducible refine Below.alloc ?_ ?_ _) | (with_reducible refine Below.drew ?_) | (with_reducible refine below_drewN ?_ _) | (with_reducible refine Below.step (by with_reducible assumption) ?_ ?_))) <;> (first | omega | (simp; done) | (simp; omega))), 5, a, by omega, h0, h1, rfl⟩

set_option maxRecDepth 100000 in
set_option maxHeartbeats 4000000 in
theorem read_herr (d : Nat) (v v1 : Value) (l : List UInt8) (a e1 : Int) (w : World) (ec eo : Int) (hw : IsB w v1 (seg l a e1)) (h0 : 0 ≤ a) (h1 : a ≤ e1) (h2 : e1 ≤ l.length) (hL : l.length ≤ 1000000) (hd : d ≤ 100)
    (hcut : ∀ (W : World), (Instr.slice 32 v (some (.int .i64 a)) (some (.int .i64 e1)) (some (.int .i64 e1))).run Tryz.prog W = .ok v1 W) (hr : rdHdr (seg l a e1) = .error (ec, eo)) :
    Calls Tryz.prog 169 #[v, .int .i64 a, .int .i64 e1, .int .i64 ((d : Int) + 1)] w (RetRdN l.length w) := by
  have hbd := rdHdr_err hr
  have hsl := seg_len l a e1 h0 h1 h2
  have HR : Hid (∀ W, IsB W v1 (seg l a e1) → Calls Tryz.prog 166 #[v1] W (RetB (.tuple #[hdrV Hdr.zero, errV (ec, eo)]) W)) := by
    intro W h
    have := readHdr_any v1 _ W h
    rwa [hr] at this
  have HB := Lib.hid hw
  obtain ⟨hb1, hb2, hb3, hb4⟩ := hbd
  rw [hsl] at hb4
  have hb5 : a + eo ≤ l.length := by omega
  have hn : (ec == 0) = false := beq_eq_false_iff_ne.2 (by omega)
  have hn' : (ec != 0) = true := by simp; omega
  have hwr : IntKind.i64.wrap (a + eo) = a + eo := IntWalk.i64_in _ (by omega)
  have HF := Lib.hid (fun W => rdFail ec (a + eo) W)
  have hd1 : ((d : Int) + 1 == 0) = false := beq_eq_false_iff_ne.2 (by omega)
  simp only [hdrV, errV, Hdr.zero, spotZ] at HR HF
  clear hw hr hsl
  go_enter Tryz.func169, Tryz.ntmps169
  go_wp2_with (first | (go_at_call 166; (with_reducible refine (HR.out _ ((HB.out.alloc _).alloc _)).mono ?_); rintro e w1 ⟨rfl, hbw1⟩; obtain ⟨hcw1, hfw1⟩ := bcell hbw1; have hzw1 := hbw1.size; (try simp at hzw1); have hyw1 : w.heap.size < w1.heap.size := (by omega); (try have hyaw1 : w.heap.size + 1 < w1.heap.size := (by omega)); (try have hybw1 : w.heap.size + 2 < w1.heap.size := (by omega)); (try have hycw1 : w.heap.size + 3 < w1.heap.size := (by omega)); (try have hydw1 : w.heap.size + 4 < w1.heap.size := (by omega)); clear hzw1); have K0 := Blk.call ((Blk.new w 182 #[.int .i64 0, .int .i64 0, .int .i64 0, .int .i64 0, .bool false, .slice none 0 0, .slice none 0 0, .slice none 0 0]).alloc (.cells #[.int .i64 0, .int .i64 0] 38)) hbw1; have lK0 := K0.lt; have qK0 := K0.q; have rK0 := K0.fz; have K0' := Lib.hid K0; clear K0; have K0 := K0'.out; clear K0'; have K1 := Blk.call (blk_in (t := 38) (cs := #[.int .i64 0, .int .i64 0]) (w := w.alloc (.cells #[.int .i64 0, .int .i64 0, .int .i64 0, .int .i64 0, .bool false, .slice none 0 0, .slice none 0 0, .slice none 0 0] 182)) (g := w.heap.size + 1) (by simp)) hbw1; have lK1 := K1.lt; have qK1 := K1.q; have rK1 := K1.fz; have K1' := Lib.hid K1; clear K1; have K1 := K1'.out; clear K1' | (go_at_call 195; (with_reducible refine (HF.out _).mono ?_); rintro e w2 ⟨rfl, hbw2⟩; obtain ⟨hcw2, hfw2⟩ := bcell hbw2; have hzw2 := hbw2.size; (try simp at hzw2); have hyw2 : w.heap.size < w2.heap.size := (by omega); (try have hyaw2 : w.heap.size + 1 < w2.heap.size := (by omega)); (try have hybw2 : w.heap.size + 2 < w2.heap.size := (by omega)); (try have hycw2 : w.heap.size + 3 < w2.heap.size := (by omega)); (try have hydw2 : w.heap.size + 4 < w2.heap.size := (by omega)); clear hzw2); have J0 := Blk.call ((K0.alloc _).alloc _) hbw2; have lJ0 := J0.lt; have qJ0 := J0.q; have rJ0 := J0.fz; have J0' := Lib.hid J0; clear J0; have J0 := J0'.out; clear J0'; have J1 := Blk.call ((K1.alloc _).alloc _) hbw2; have lJ1 := J1.lt; have qJ1 := J1.q; have rJ1 := J1.fz; have J1' := Lib.hid J1; clear J1; have J1 := J1'.out; clear J1')
  refine bodyPost_ret (v := .tuple #[spotZ, errV (ec, a + eo)]) (by simp only [results, Tryz.results169]; go_simp) rfl ?_
  exact ⟨by ((repeat' (first | (with_reducible exact Below.refl _ _) | (with_reducible assumption) | (with_reducible refine Below.setCell ?_ ?_ _) | (with_reducible refine Below.alloc ?_ ?_ _) | (with_reducible refine Below.drew ?_) | (with_reducible refine below_drewN ?_ _) | (with_reducible refine Below.step (by with_reducible assumption) ?_ ?_))) <;> (first | omega | (simp; done) | (simp; omega))), ec, a + eo, by omega, by omega, by omega, rfl⟩

set_option maxRecDepth 100000 in
set_option maxHeartbeats 4000000 in
theorem read_short (d : Nat) (v v1 : Value) (l : List UInt8) (a e1 : Int) (w : World) (h : Hdr) (hw : IsB w v1 (seg l a e1)) (h0 : 0 ≤ a) (h1 : a ≤ e1) (h2 : e1 ≤ l.length) (hL : l.length ≤ 1000000) (hd : d ≤ 100)
    (hcut : ∀ (W : World), (Instr.slice 32 v (some (.int .i64 a)) (some (.int .i64 e1)) (some (.int .i64 e1))).run Tryz.prog W = .ok v1 W) (hr : rdHdr (seg l a e1) = .ok h) (hs : e1 - a - h.size < h.len) :
    Calls Tryz.prog 169 #[v, .int .i64 a, .int .i64 e1, .int .i64 ((d : Int) + 1)] w (RetRdN l.length w) := by
  obtain ⟨hc, hnm, hcn, hln, hsz⟩ := h
  have hbd := rdHdr_ok hr
  have hsl := seg_len l a e1 h0 h1 h2
  have HR : Hid (∀ W, IsB W v1 (seg l a e1) → Calls Tryz.prog 166 #[v1] W (RetB (.tuple #[hdrV ⟨hc, hnm, hcn, hln, hsz⟩, errV (0, 0)]) W)) := by
    intro W h
    have := readHdr_any v1 _ W h
    rwa [hr] at this
  have HB := Lib.hid hw
  simp only at hbd hs
  obtain ⟨hb1, hb2, hb3, hb4, hb5, _⟩ := hbd
  rw [hsl] at hb5
  have HF := Lib.hid (fun W => rdFail 1 e1 W)
  have hd1 : ((d : Int) + 1 == 0) = false := beq_eq_false_iff_ne.2 (by omega)
  have hs' : e1 - (a + hsz) < hln := by omega
  simp only [hdrV, errV, spotZ] at HR HF
  clear hw hr hsl hs
  go_enter Tryz.func169, Tryz.ntmps169
  go_wp2_with (first | (go_at_call 166; (with_reducible refine (HR.out _ ((HB.out.alloc _).alloc _)).mono ?_); rintro e w1 ⟨rfl, hbw1⟩; obtain ⟨hcw1, hfw1⟩ := bcell hbw1; have hzw1 := hbw1.size; (try simp at hzw1); have hyw1 : w.heap.size < w1.heap.size := (by omega); (try have hyaw1 : w.heap.size + 1 < w1.heap.size := (by omega)); (try have hybw1 : w.heap.size + 2 < w1.heap.size := (by omega)); (try have hycw1 : w.heap.size + 3 < w1.heap.size := (by omega)); (try have hydw1 : w.heap.size + 4 < w1.heap.size := (by omega)); clear hzw1); have K0 := Blk.call ((Blk.new w 182 #[.int .i64 0, .int .i64 0, .int .i64 0, .int .i64 0, .bool false, .slice none 0 0, .slice none 0 0, .slice none 0 0]).alloc (.cells #[.int .i64 0, .int .i64 0] 38)) hbw1; have lK0 := K0.lt; have qK0 := K0.q; have rK0 := K0.fz; have K0' := Lib.hid K0; clear K0; have K0 := K0'.out; clear K0'; have K1 := Blk.call (blk_in (t := 38) (cs := #[.int .i64 0, .int .i64 0]) (w := w.alloc (.cells #[.int .i64 0, .int .i64 0, .int .i64 0, .int .i64 0, .bool false, .slice none 0 0, .slice none 0 0, .slice none 0 0] 182)) (g := w.heap.size + 1) (by simp)) hbw1; have lK1 := K1.lt; have qK1 := K1.q; have rK1 := K1.fz; have K1' := Lib.hid K1; clear K1; have K1 := K1'.out; clear K1' | (go_at_call 195; (with_reducible refine (HF.out _).mono ?_); rintro e w2 ⟨rfl, hbw2⟩; obtain ⟨hcw2, hfw2⟩ := bcell hbw2; have hzw2 := hbw2.size; (try simp at hzw2); have hyw2 : w.heap.size < w2.heap.size := (by omega); (try have hyaw2 : w.heap.size + 1 < w2.heap.size := (by omega)); (try have hybw2 : w.heap.size + 2 < w2.heap.size := (by omega)); (try have hycw2 : w.heap.size + 3 < w2.heap.size := (by omega)); (try have hydw2 : w.heap.size + 4 < w2.heap.size := (by omega)); clear hzw2); have J0 := Blk.call ((K0.alloc _).alloc _) hbw2; have lJ0 := J0.lt; have qJ0 := J0.q; have rJ0 := J0.fz; have J0' := Lib.hid J0; clear J0; have J0 := J0'.out; clear J0'; have J1 := Blk.call ((K1.alloc _).alloc _) hbw2; have lJ1 := J1.lt; have qJ1 := J1.q; have rJ1 := J1.fz; have J1' := Lib.hid J1; clear J1; have J1 := J1'.out; clear J1')
  refine bodyPost_ret (v := .tuple #[spotZ, errV (1, e1)]) (by simp only [results, Tryz.results169]; go_simp) rfl ?_
  exact ⟨by ((repeat' (first | (with_reducible exact Below.refl _ _) | (with_reducible assumption) | (with_reducible refine Below.setCell ?_ ?_ _) | (with_reducible refine Below.alloc ?_ ?_ _) | (with_reducible refine Below.drew ?_) | (with_reducible refine below_drewN ?_ _) | (with_reducible refine Below.step (by with_reducible assumption) ?_ ?_))) <;> (first | omega | (simp; done) | (simp; omega))), 1, e1, by omega, by omega, h2, rfl⟩

set_option maxRecDepth 100000 in
set_option maxHeartbeats 4000000 in
theorem read_prim (d : Nat) (v v1 v2 : Value) (l : List UInt8) (a e1 : Int) (w : World) (hc hnm hln hsz : Int) (hw : IsB w v1 (seg l a e1)) (hw2 : IsB w v2 (seg l (a + hsz) (a + hsz + hln))) (h0 : 0 ≤ a) (h1 : a ≤ e1) (h2 : e1 ≤ l.length) (hL : l.length ≤ 1000000) (hd : d ≤ 100)
    (hcut : ∀ (W : World), (Instr.slice 32 v (some (.int .i64 a)) (some (.int .i64 e1)) (some (.int .i64 e1))).run Tryz.prog W = .ok v1 W)
    (hcut2 : ∀ (W : World), (Instr.slice 32 v (some (.int .i64 (a + hsz))) (some (.int .i64 (a + hsz + hln))) none).run Tryz.prog W = .ok v2 W) (hr : rdHdr (seg l a e1) = .ok ⟨hc, hnm, false, hln, hsz⟩) (hs : hln ≤ e1 - (a + hsz)) :
    Calls Tryz.prog 169 #[v, .int .i64 a, .int .i64 e1, .int .i64 ((d : Int) + 1)] w (RetRdY a (a + hsz + hln) w) := by
  have hbd := rdHdr_ok hr
  have hsl := seg_len l a e1 h0 h1 h2
  have HR : Hid (∀ W, IsB W v1 (seg l a e1) → Calls Tryz.prog 166 #[v1] W (RetB (.tuple #[hdrV ⟨hc, hnm, false, hln, hsz⟩, errV (0, 0)]) W)) := by
    intro W h
    have := readHdr_any v1 _ W h
    rwa [hr] at this
  have HB := Lib.hid hw
  simp only at hbd
  obtain ⟨hb1, hb2, hb3, hb4, hb5, _⟩ := hbd
  rw [hsl] at hb5
  have hsl2 := seg_len l (a + hsz) (a + hsz + hln) (by omega) (by omega) (by omega)
  have HC := Lib.hid (fun W (h : IsB W v2 (seg l (a + hsz) (a + hsz + hln))) => clone_any v2 _ W h (by omega))
  have HB2 := Lib.hid hw2
  have hd1 : ((d : Int) + 1 == 0) = false := beq_eq_false_iff_ne.2 (by omega)
  simp only [hdrV, errV] at HR
  clear hw hw2 hr hsl
  go_enter Tryz.func169, Tryz.ntmps169
  go_wp2_with (first | (go_at_call 166; (with_reducible refine (HR.out _ ((HB.out.alloc _).alloc _)).mono ?_); rintro e w1 ⟨rfl, hbw1⟩; obtain ⟨hcw1, hfw1⟩ := bcell hbw1; have hzw1 := hbw1.size; (try simp at hzw1); have hyw1 : w.heap.size < w1.heap.size := (by omega); (try have hyaw1 : w.heap.size + 1 < w1.heap.size := (by omega)); (try have hybw1 : w.heap.size + 2 < w1.heap.size := (by omega)); (try have hycw1 : w.heap.size + 3 < w1.heap.size := (by omega)); (try have hydw1 : w.heap.size + 4 < w1.heap.size := (by omega)); clear hzw1); have K0 := Blk.call ((Blk.new w 182 #[.int .i64 0, .int .i64 0, .int .i64 0, .int .i64 0, .bool false, .slice none 0 0, .slice none 0 0, .slice none 0 0]).alloc (.cells #[.int .i64 0, .int .i64 0] 38)) hbw1; have lK0 := K0.lt; have qK0 := K0.q; have rK0 := K0.fz; have K0' := Lib.hid K0; clear K0; have K0 := K0'.out; clear K0'; have K1 := Blk.call (blk_in (t := 38) (cs := #[.int .i64 0, .int .i64 0]) (w := w.alloc (.cells #[.int .i64 0, .int .i64 0, .int .i64 0, .int .i64 0, .bool false, .slice none 0 0, .slice none 0 0, .slice none 0 0] 182)) (g := w.heap.size + 1) (by simp)) hbw1; have lK1 := K1.lt; have qK1 := K1.q; have rK1 := K1.fz; have K1' := Lib.hid K1; clear K1; have K1 := K1'.out; clear K1'; have HB3 := Lib.hid (((HB2.out.alloc _).alloc _).below hbw1) | ((go_at_call 117); (with_reducible refine (HC.out _ (((HB3.out.alloc _).alloc _).alloc _)).mono ?_); rintro e w2 ⟨vc, rfl, ho, hbw2⟩; obtain ⟨Ac, kc, rfl⟩ := isB_slice ho.isB; obtain ⟨hcw2, hfw2⟩ := bcell hbw2; have hzw2 := hbw2.size; (try simp at hzw2); have hyw2 : w.heap.size < w2.heap.size := (by omega); (try have hyaw2 : w.heap.size + 1 < w2.heap.size := (by omega)); (try have hybw2 : w.heap.size + 2 < w2.heap.size := (by omega)); (try have hycw2 : w.heap.size + 3 < w2.heap.size := (by omega)); (try have hydw2 : w.heap.size + 4 < w2.heap.size := (by omega)); clear hzw2; clear ho; have J0 := Blk.call (((K0.alloc _).alloc _).alloc _) hbw2; have lJ0 := J0.lt; have qJ0 := J0.q; have rJ0 := J0.fz; have J0' := Lib.hid J0; clear J0; have J0 := J0'.out; clear J0'; have J1 := Blk.call (((K1.alloc _).alloc _).alloc _) hbw2; have lJ1 := J1.lt; have qJ1 := J1.q; have rJ1 := J1.fz; have J1' := Lib.hid J1; clear J1; have J1 := J1'.out; clear J1'; have J2 := Blk.call (blk_in (t := 182) (cs := #[.int .i64 a, .int .i64 (a + hsz + hln), .int .i64 hc, .int .i64 hnm, .bool false, .slice none 0 0, .slice none 0 0, .slice none 0 0]) (w := (w1.alloc _).alloc _) (g := w1.heap.size + 1 + 1) (by simp)) hbw2; have lJ2 := J2.lt; have qJ2 := J2.q; have rJ2 := J2.fz; have J2' := Lib.hid J2; clear J2; have J2 := J2'.out; clear J2'))
  refine bodyPost_ret (v := .tuple #[spotV a (a + hsz + hln) ⟨hc, hnm, false, Ac, (seg l (a + hsz) (a + hsz + hln)).length, kc, none, 0, 0, none, 0, 0⟩, errV (0, 0)]) (by simp only [results, Tryz.results169]; go_simp) rfl ?_
  exact ⟨by ((repeat' (first | (with_reducible exact Below.refl _ _) | (with_reducible assumption) | (with_reducible refine Below.setCell ?_ ?_ _) | (with_reducible refine Below.alloc ?_ ?_ _) | (with_reducible refine Below.drew ?_) | (with_reducible refine below_drewN ?_ _) | (with_reducible refine Below.step (by with_reducible assumption) ?_ ?_))) <;> (first | omega | (simp; done) | (simp; omega))), _, rfl⟩
end Go.Proofs.YtjjkimjdmpeddaaGreatDoor
end
