/- Any part of any bytes has the elements of the reference implementation, or its error; they cover the part, and each one is found by itself; for every slice of bytes and every two numbers that come in. -/
import Derived.Test.YtecbphbnacbepaaLaws
import Derived.Test.YtecbphbnacbepaaSpecH
set_option linter.unusedSimpArgs false
set_option linter.unusedVariables false
namespace Go.Proofs.Ytecbphbnacbepaa.ElementListsDone
open Go.ChangeShapes Go.WideShapes Go.ChangeAt Go.RowKit Go.Cr
open Go.Proofs.Ytecbphbnacbepaa

def LsRel (l : List UInt8) (xs : List Elem) (e0 : Int) (W : World) (at_ i : Value) (wr : World) : Prop :=
  ∃ (k : Nat) (p : Int), k ≤ xs.length ∧ at_ = .int .i64 p ∧ i = .int .i64 k ∧ 0 ≤ p ∧ p ≤ e0 ∧ Cov l p e0 (xs.drop k) ∧ Below W.heap.size W wr

set_option maxRecDepth 100000 in
set_option maxHeartbeats 4000000 in
theorem walk_err (v : Value) (l : List UInt8) (a0 e0 : Int) (w : World) (hv : IsB w v l) (hl : (l.length : Int) ≤ 2000) (er : Err) (hr : listE l a0 e0 = .error er) : Calls Try.prog 6 #[v, .int .i64 a0, .int .i64 e0] w (RetB (.bool true) w) := by
  obtain ⟨ec, eo⟩ := er
  have hlen := hv.len ulB
  have HB := Lib.hid hv
  clear hv
  have hec := listE_err hr
  have H1 : Hid (∀ W, IsB W v l → Calls Try.prog 21 #[v, .int .i64 a0, .int .i64 e0] W (RetB (.tuple #[.slice none 0 0, .agg #[.int .i64 ec, .int .i64 eo]]) W)) := fun W h => by
    refine (list_any v l a0 e0 W h (by omega)).mono ?_
    rintro e w' ⟨hb, ⟨er', h1, rfl⟩ | ⟨xs, o, h1, _⟩⟩
    · rw [hr] at h1; injection h1 with h1; subst h1; exact ⟨rfl, hb⟩
    · rw [hr] at h1; cases h1
  have H2 : Hid (∀ W, IsB W v l → Calls Try.prog 22 #[v, .int .i64 a0, .int .i64 e0] W (RetB (.tuple #[.slice none 0 0, .agg #[.int .i64 ec, .int .i64 eo]]) W)) := fun W h => by
    refine (rList_any v l a0 e0 W h (by omega)).mono ?_
    rintro e w' ⟨hb, ⟨er', h1, rfl⟩ | ⟨xs, o, h1, _⟩⟩
    · rw [hr] at h1; injection h1 with h1; subst h1; exact ⟨rfl, hb⟩
    · rw [hr] at h1; cases h1
  have HN : Hid (∀ W, IsR W (.slice none 0 0) 6 ([] : List Elem).length (elCells [])) := fun W => ⟨none, 0, rfl, Nat.le_refl _, by decide, rfl, fun h => absurd h (by simp)⟩
  obtain ⟨S, hS⟩ : ∃ S : ByteArray, (⟨(tagsL []).toArray⟩ : ByteArray) = S := ⟨_, rfl⟩
  have H3 : Hid (∀ W, Calls Try.prog 12 #[.slice none 0 0] W (RetB (.string S) W)) := fun W => by have := tags_any _ [] W (HN.out W) (by simp); rwa [hS] at this
  have H4 : Hid (∀ W, Calls Try.prog 13 #[.slice none 0 0] W (RetB (.string S) W)) := fun W => by have := rTags_any _ [] W (HN.out W) (by simp); rwa [hS] at this
  have hn' : (ec != 0) = true := by simp; omega
  have hn : (ec == 0) = false := beq_eq_false_iff_ne.2 (by omega)
  clear hr hec hS
  go_enter Try.func6, Try.ntmps6
  go_wp2_with (first | (go_at_call 10; (with_reducible refine (awake_any _).mono ?_); rintro e w1 ⟨rfl, hb1⟩) | (go_at_call 21; (with_reducible refine (H1.out _ (HB.out.below hb1)).mono ?_); rintro e w2 ⟨rfl, hb2⟩; have B2 := below_t hb1 hb2; clear hb2) | (go_at_call 22; (with_reducible refine (H2.out _ ((HB.out.below B2).alloc _)).mono ?_); rintro e w3 ⟨rfl, hb3⟩; have K1 := Blk.call (Blk.new w2 33 #[.int .i64 ec, .int .i64 eo]) hb3; have lK1 := K1.lt; have qK1 := K1.q; have rK1 := K1.fz; have K1' := Lib.hid K1; clear K1; have K1 := K1'.out; clear K1'; have B3 := below_a hb3; clear hb3) | (go_at_call 23; (with_reducible refine (elements_same _ _ [] _ (HN.out _) (HN.out _)).mono ?_); rintro e w4 ⟨rfl, hb4⟩; have K2 := Blk.call (K1.alloc _) hb4; have lK2 := K2.lt; have qK2 := K2.q; have rK2 := K2.fz; have K2' := Lib.hid K2; clear K2; have K2 := K2'.out; clear K2'; have K3 := Blk.call (Blk.new w3 33 #[.int .i64 ec, .int .i64 eo]) hb4; have lK3 := K3.lt; have qK3 := K3.q; have rK3 := K3.fz; have K3' := Lib.hid K3; clear K3; have K3 := K3'.out; clear K3'; have B4 := below_a hb4; clear hb4) | (go_at_call 12; (with_reducible refine (H3.out _).mono ?_); rintro e w5 ⟨rfl, hb5⟩; have K4 := Blk.call (K2) hb5; have lK4 := K4.lt; have qK4 := K4.q; have rK4 := K4.fz; have K4' := Lib.hid K4; clear K4; have K4 := K4'.out; clear K4'; have K5 := Blk.call (K3) hb5; have lK5 := K5.lt; have qK5 := K5.q; have rK5 := K5.fz; have K5' := Lib.hid K5; clear K5; have K5 := K5'.out; clear K5') | (go_at_call 13; (with_reducible refine (H4.out _).mono ?_); rintro e w6 ⟨rfl, hb6⟩; have K6 := Blk.call (K4) hb6; have lK6 := K6.lt; have qK6 := K6.q; have rK6 := K6.fz; have K6' := Lib.hid K6; clear K6; have K6 := K6'.out; clear K6'; have K7 := Blk.call (K5) hb6; have lK7 := K7.lt; have qK7 := K7.q; have rK7 := K7.fz; have K7' := Lib.hid K7; clear K7; have K7 := K7'.out; clear K7'))
  have B := below_t (below_t (below_t (below_t B2 B3) B4) hb5) hb6
  (refine bodyPost_retB (v := .bool true) (by (simp only [results, Try.results6]; try go_simp)) rfl rfl ?_; ((repeat' (first | (with_reducible exact Below.refl _ _) | (with_reducible assumption) | (with_reducible refine Below.setCell ?_ ?_ _) | (with_reducible refine Below.alloc ?_ ?_ _) | (with_reducible refine Below.drew ?_) | (with_reducible refine below_drewN ?_ _) | (with_reducible refine Below.step (by with_reducible assumption) ?_ ?_))) <;> (first | omega | (simp; done) | (simp; omega))))

set_option maxRecDepth 100000 in
set_option maxHeartbeats 4000000 in
theorem walk_ok (v : Value) (l : List UInt8) (a0 e0 : Int) (w : World) (hv : IsB w v l) (hl : (l.length : Int) ≤ 2000) (xs : List Elem) (hr : listE l a0 e0 = .ok xs) : Calls Try.prog 6 #[v, .int .i64 a0, .int .i64 e0] w (RetB (.bool true) w) := by
  have hlen := hv.len ulB
  have HB := Lib.hid hv
  clear hv
  have H1 : Hid (∀ W, IsB W v l → Calls Try.prog 21 #[v, .int .i64 a0, .int .i64 e0] W (fun e w' => ∃ o, e = .returned (.tuple #[o, .agg #[.int .i64 0, .int .i64 0]]) ∧ IsR w' o 6 xs.length (elCells xs) ∧ Below W.heap.size W w')) := fun W h => by
    have := (list_any v l a0 e0 W h (by omega)).mono fun e w' hh => hh.get
    rw [hr] at this; exact this
  have H2 : Hid (∀ W, IsB W v l → Calls Try.prog 22 #[v, .int .i64 a0, .int .i64 e0] W (fun e w' => ∃ o, e = .returned (.tuple #[o, .agg #[.int .i64 0, .int .i64 0]]) ∧ IsR w' o 6 xs.length (elCells xs) ∧ Below W.heap.size W w')) := fun W h => by
    have := (rList_any v l a0 e0 W h (by omega)).mono fun e w' hh => hh.get
    rw [hr] at this; exact this
  obtain ⟨h0, h1, h2, hcov⟩ := listE_cov hr
  have hxl := cov_len h0 h1 h2 hcov
  obtain ⟨S, hS⟩ : ∃ S : ByteArray, (⟨(tagsL xs).toArray⟩ : ByteArray) = S := ⟨_, rfl⟩
  have H3 : Hid (∀ W u, IsR W u 6 xs.length (elCells xs) → Calls Try.prog 12 #[u] W (RetB (.string S) W)) := fun W u h => by have := tags_any u xs W h (by omega); rwa [hS] at this
  have H4 : Hid (∀ W u, IsR W u 6 xs.length (elCells xs) → Calls Try.prog 13 #[u] W (RetB (.string S) W)) := fun W u h => by have := rTags_any u xs W h (by omega); rwa [hS] at this
  have HC := Lib.hid hcov
  clear hr hcov hS
  go_enter Try.func6, Try.ntmps6
  go_wp2_with (first | (go_at_call 10; (with_reducible refine (awake_any _).mono ?_); rintro e w1 ⟨rfl, hb1⟩) | (go_at_call 21; (with_reducible refine (H1.out _ (HB.out.below hb1)).mono ?_); rintro e w2 ⟨o1, rfl, ho1, hb2⟩; have B2 := below_t hb1 hb2; clear hb2; have HO1 := Lib.hid ho1; clear ho1) | (go_at_call 22; (with_reducible refine (H2.out _ ((HB.out.below B2).alloc _)).mono ?_); rintro e w3 ⟨o2, rfl, ho2, hb3⟩; have HO2 := Lib.hid ho2; clear ho2; have K1 := Blk.call (Blk.new w2 33 #[.int .i64 0, .int .i64 0]) hb3; have lK1 := K1.lt; have qK1 := K1.q; have rK1 := K1.fz; have K1' := Lib.hid K1; clear K1; have K1 := K1'.out; clear K1'; have B3 := below_a hb3; clear hb3) | (go_at_call 23; (with_reducible refine (elements_same _ _ xs _ ((HO1.out.below B3).alloc _) (HO2.out.alloc _)).mono ?_); rintro e w4 ⟨rfl, hb4⟩; have K2 := Blk.call (K1.alloc _) hb4; have lK2 := K2.lt; have qK2 := K2.q; have rK2 := K2.fz; have K2' := Lib.hid K2; clear K2; have K2 := K2'.out; clear K2'; have K3 := Blk.call (Blk.new w3 33 #[.int .i64 0, .int .i64 0]) hb4; have lK3 := K3.lt; have qK3 := K3.q; have rK3 := K3.fz; have K3' := Lib.hid K3; clear K3; have K3 := K3'.out; clear K3'; have B4 := below_a hb4; clear hb4) | (go_at_call 12; (with_reducible refine (H3.out _ _ (HO1.out.below (below_t B3 B4))).mono ?_); rintro e w5 ⟨rfl, hb5⟩; have K4 := Blk.call (K2) hb5; have lK4 := K4.lt; have qK4 := K4.q; have rK4 := K4.fz; have K4' := Lib.hid K4; clear K4; have K4 := K4'.out; clear K4'; have K5 := Blk.call (K3) hb5; have lK5 := K5.lt; have qK5 := K5.q; have rK5 := K5.fz; have K5' := Lib.hid K5; clear K5; have K5 := K5'.out; clear K5') | (go_at_call 13; (with_reducible refine (H4.out _ _ (HO2.out.below (below_t B4 hb5))).mono ?_); rintro e w6 ⟨rfl, hb6⟩; have K6 := Blk.call (K4) hb6; have lK6 := K6.lt; have qK6 := K6.q; have rK6 := K6.fz; have K6' := Lib.hid K6; clear K6; have K6 := K6'.out; clear K6'; have K7 := Blk.call (K5) hb6; have lK7 := K7.lt; have qK7 := K7.q; have rK7 := K7.fz; have K7' := Lib.hid K7; clear K7; have K7 := K7'.out; clear K7'))
  have B := below_t (below_t (below_t (below_t B2 B3) B4) hb5) hb6
  have HO := Lib.hid (HO2.out.below (below_t (below_t B4 hb5) hb6))
  have HB6 := Lib.hid (HB.out.below B)
  have hlm := HO.out.len ulEl
  clear HO1 HO2 hb1 B2 B3 B4 hb5 hb6 H1 H2 H3 H4
  go_loopw [11, 12] (fun at_ i wr => LsRel l xs e0 w6 at_ i wr) (fun _ i _ => xs.length - (intOf i).toNat)
  case atStart => exact ⟨0, a0, by omega, rfl, rfl, by omega, by omega, HC.out, Below.refl _ _⟩
  case round =>
    obtain ⟨k, p, hk, rfl, rfl, hp0, hp1, hc, hbel⟩ := hrel
    by_cases hlt : (k : Int) < xs.length
    · have hkl : k < xs.length := by omega
      obtain ⟨b2, o2', hi2, hb2, hc2⟩ := (HO.out.below hbel).at_ (P := Try.prog) ulEl szEl .i64 (i := k) (by omega) hlt
      obtain ⟨hn, hpe, hc'⟩ := cov_cons hkl hc
      have hbd := nextE_ok hp0 hp1 h2 hn
      have hone := nextE_one hp0 hp1 h2 hn
      have hx := elCells_at xs k hkl
      have HC' := Lib.hid hc'
      clear hc hc' hn
      generalize xs[k] = x at *
      obtain ⟨xc, xn, xk, xs', xb, xe⟩ := x
      simp only at hbd hone HC'
      obtain ⟨rfl, hd1, hd2, hd3⟩ := hbd
      have e0' := hx 0 (by omega); have e1 := hx 1 (by omega); have e2 := hx 2 (by omega); have e3 := hx 3 (by omega); have e4 := hx 4 (by omega); have e5 := hx 5 (by omega)
      simp only [Elem.cells, List.getElem?_cons_zero, List.getElem?_cons_succ] at e0' e1 e2 e3 e4 e5
      simp only [Int.toNat_natCast] at hc2
      have q0 := hc2 0 _ e0'; have q1 := hc2 1 _ e1; have q2 := hc2 2 _ e2; have q3 := hc2 3 _ e3; have q4 := hc2 4 _ e4; have q5 := hc2 5 _ e5
      rw [Nat.add_zero] at q0
      clear e0' e1 e2 e3 e4 e5 hc2 hx
      obtain ⟨v1, hcut, hv1⟩ := (HB6.out.below hbel).cut (P := Try.prog) ulB szB .i64 .i64 (lo := xs') (hi := xe) (by omega) (by omega) (by omega)
      have HV := Lib.hid hv1
      clear hv1
      have H5 : Hid (∀ W, IsB W v1 (seg l xs' xe) → Calls Try.prog 14 #[v1] W (RetB (.tuple #[.agg #[.int .i64 xc, .int .i64 xn, .bool xk, .int .i64 0, .int .i64 (xb - xs'), .int .i64 (xe - xs')], .agg #[.int .i64 0, .int .i64 0]]) W)) := fun W h => by
        have := one_any v1 _ W h; rw [hone] at this; exact this
      have H6 : Hid (∀ W, Calls Try.prog 11 #[.agg #[.int .i64 xc, .int .i64 xn, .bool xk, .int .i64 0, .int .i64 (xb - xs'), .int .i64 (xe - xs')], .int .i64 xc, .bool xk, .int .i64 xn] W (RetB (.bool true) W)) := fun W => by
        have := is_any ⟨xc, xn, xk, 0, xb - xs', xe - xs'⟩ xc xn xk W
        rwa [show isE ⟨xc, xn, xk, 0, xb - xs', xe - xs'⟩ xc xk xn = true by simp [isE]] at this
      clear hone
      go_wp2_with (first | (go_at_call 14; (with_reducible refine (H5.out _ (HV.out.alloc _)).mono ?_); rintro e w7 ⟨rfl, hb7⟩; have M1 := Blk.call (Blk.new _ 27 #[.int .i64 xc, .int .i64 xn, .bool xk, .int .i64 xs', .int .i64 xb, .int .i64 xe]) hb7; have lM1 := M1.lt; have qM1 := M1.q; have rM1 := M1.fz; have M1' := Lib.hid M1; clear M1; have M1 := M1'.out; clear M1') | (go_at_call 11; (with_reducible refine (H6.out _).mono ?_); rintro e w8 ⟨rfl, hb8⟩; have M2 := Blk.call ((M1.alloc _).alloc _) hb8; have lM2 := M2.lt; have qM2 := M2.q; have rM2 := M2.fz; have M2' := Lib.hid M2; clear M2; have M2 := M2'.out; clear M2'; have M3 := Blk.call ((Blk.new w7 27 #[.int .i64 xc, .int .i64 xn, .bool xk, .int .i64 0, .int .i64 (xb - xs'), .int .i64 (xe - xs')]).alloc _) hb8; have lM3 := M3.lt; have qM3 := M3.q; have rM3 := M3.fz; have M3' := Lib.hid M3; clear M3; have M3 := M3'.out; clear M3'))
      go_roundw
      case rel => exact ⟨k + 1, xe, by omega, rfl, by go_num, by omega, by omega, HC'.out, below_t (below_t hbel (below_a hb7)) (below_a (below_a hb8))⟩
      case measure => simp [intOf]; omega
    · obtain rfl : k = xs.length := by omega
      rw [List.drop_length] at hc
      have hpe : p = e0 := hc
      subst hpe
      go_wp2
      have B' := below_t B hbel
      (refine bodyPost_retB (v := .bool true) (by (simp only [results, Try.results6]; try go_simp)) rfl rfl ?_; ((repeat' (first | (with_reducible exact Below.refl _ _) | (with_reducible assumption) | (with_reducible refine Below.setCell ?_ ?_ _) | (with_reducible refine Below.alloc ?_ ?_ _) | (with_reducible refine Below.drew ?_) | (with_reducible refine below_drewN ?_ _) | (with_reducible refine Below.step (by with_reducible assumption) ?_ ?_))) <;> (first | omega | (simp; done) | (simp; omega))))

set_option maxRecDepth 100000 in
set_option maxHeartbeats 4000000 in
theorem walk_long (v : Value) (l : List UInt8) (a0 e0 : Int) (w : World) (hv : IsB w v l) (hl : 2000 < (l.length : Int)) : Calls Try.prog 6 #[v, .int .i64 a0, .int .i64 e0] w (RetB (.bool true) w) := by
  have hlen := hv.len ulB
  clear hv
  go_enter Try.func6, Try.ntmps6
  go_wp2_with (first | (go_at_call 10; (with_reducible refine (awake_any w).mono ?_); rintro e w1 ⟨rfl, hb1⟩) | (go_at_call 10; (with_reducible refine (awake_any _).mono ?_); rintro e w2 ⟨rfl, hb2⟩))
  have B := below_t hb1 hb2
  (refine bodyPost_retB (v := .bool true) (by (simp only [results, Try.results6]; try go_simp)) rfl rfl ?_; ((repeat' (first | (with_reducible exact Below.refl _ _) | (with_reducible assumption) | (with_reducible refine Below.setCell ?_ ?_ _) | (with_reducible refine Below.alloc ?_ ?_ _) | (with_reducible refine Below.drew ?_) | (with_reducible refine below_drewN ?_ _) | (with_reducible refine Below.step (by with_reducible assumption) ?_ ?_))) <;> (first | omega | (simp; done) | (simp; omega))))

theorem walk (v : Value) (l : List UInt8) (a0 e0 : Int) (w : World) (hv : IsB w v l) : Calls Try.prog 6 #[v, .int .i64 a0, .int .i64 e0] w (RetB (.bool true) w) := by
  by_cases hl : (l.length : Int) ≤ 2000
  · cases hr : listE l a0 e0 with
    | error er => exact walk_err v l a0 e0 w hv hl er hr
    | ok xs => exact walk_ok v l a0 e0 w hv hl xs hr
  · exact walk_long v l a0 e0 w hv (by omega)

set_option maxRecDepth 100000 in
theorem lifted (os : Os) (started : os.Started) (H : Type) (enc : TypeId × Value → H) :
    ReturnsInHanded {} Try.checked os 6 .any (Rows.elementListsSpec.pre6 enc Try.prog Try.f6 Rows.elementListsRow.domain false) (Rows.elementListsSpec.post enc Try.prog Try.f6 false true false false) := by
  refine returnsInHanded_of_change (C := Try.checked) lw_own started (by kernel_rfl) Try.func6
    (ChangeSpec.witness6 (enc := enc) (C := Try.checked) false ⟨#[], #[.slice none 0 0, .int .i64 0, .int .i64 0], []⟩ 8 (by kernel_rfl) (by kernel_rfl) (by kernel_rfl) (by kernel_rfl)) ?_
  intro W base args ds gs before hval0 hW hcnd _
  have hval : ∀ (j : Nat) t v, Try.f6.params[j]? = some t → args[j]? = some v → Value.okWide Try.prog W .any base t v := hval0
  have hW' := hW
  obtain ⟨p, q, hA0, hV, rfl, hfz, hnd⟩ := hW
  have hA : DataW.TrodAll enc Try.prog W 0 (fun _ => true) true Try.f6.params.toList args.toList ds p := hA0
  rw [Try.params6] at hA hval
  obtain ⟨v0, vs0, d0, ds0, p0, q0, hargs, rfl, rfl, h0, r0⟩ := trodAll_cons hA
  obtain ⟨v1, vs1, d1, ds1, p1, q1, rfl, rfl, rfl, h1, r1⟩ := trodAll_cons r0
  obtain ⟨v2, vs2, d2, ds2, p2, q2, rfl, rfl, rfl, h2, r2⟩ := trodAll_cons r1
  obtain ⟨rfl, rfl, rfl⟩ := trodAll_nil r2
  obtain rfl : args = #[v0, v1, v2] := by cases args; simp_all
  obtain ⟨rfl, rfl⟩ := trodVars_none hV
  have lt0 : ∀ x ∈ p0, x.block < W.heap.size := by obtain ⟨m, hm⟩ := h0; exact DataW.trod_lt m _ _ _ hm
  obtain ⟨l0, w0⟩ := open_bytes (hval 0 30 v0 rfl rfl) h0
  obtain ⟨a1, rfl, rfl, rfl, w1⟩ := open_int ulInt (hval 1 3 v1 rfl rfl) h1
  obtain ⟨a2, rfl, rfl, rfl, w2⟩ := open_int ulInt (hval 2 3 v2 rfl rfl) h2
  clear hA0 hval0
  refine (walk _ l0 a1 a2 W w0).mono fun e W' ⟨he, bel⟩ => ?_
  subst he
  exact ⟨_, rfl, _, _, _, [], _, [], hW', trodAll_mk1 (shut_bool (by kernel_rfl : Try.prog.underlying 4 = some .bool) _), (trodAll_cons_mk (Below.trod lw_laidOut (by kernel_rfl) (of_decide_eq_true (by kernel_rfl)) h0 bel lt0) (trodAll_cons_mk (shut_int ulInt w1) (trodAll_cons_mk (shut_int ulInt w2) trodAll_mk0))), rfl, bel.frame _, fun h => by cases h⟩

theorem over : Rows.elementListsRow.holds Try.pinned (OpenSpec.ofChange Rows.elementListsSpec) :=
  OpenClaim.holds_of_wide 6 Try.f6 rfl rfl rfl rfl rfl rfl rfl ⟨rfl, rfl, rfl, rfl, rfl⟩ rfl rfl rfl rfl rfl (by kernel_rfl) Try.func6 (by kernel_rfl)
    (of_decide_eq_true (by kernel_rfl)) (by unfold Func.isWrapper; first | (rw [if_pos (by decide +kernel)]; kernel_rfl) | (rw [if_neg (by decide +kernel)]; exact ⟨rfl, rfl⟩))
    (fun os started H enc _ => lifted os started H enc)

theorem proved : Rows.ElementListsSaid := over
#print axioms proved
end Go.Proofs.Ytecbphbnacbepaa.ElementListsDone
