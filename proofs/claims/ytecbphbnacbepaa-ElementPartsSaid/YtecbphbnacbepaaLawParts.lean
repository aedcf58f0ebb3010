/- Any bytes have the parts of the reference implementation for any tag, or its error; for every slice of bytes and every class and number that come in. -/
import Derived.Test.YtecbphbnacbepaaLaws
set_option linter.unusedSimpArgs false
set_option linter.unusedVariables false
namespace Go.Proofs.Ytecbphbnacbepaa.ElementPartsDone
open Go.ChangeShapes Go.WideShapes Go.ChangeAt Go.RowKit Go.Cr
open Go.Proofs.Ytecbphbnacbepaa

set_option maxRecDepth 100000 in
set_option maxHeartbeats 4000000 in
theorem walk (v : Value) (l : List UInt8) (c n : Int) (w : World) (hv : IsB w v l) : Calls Try.prog 7 #[v, .int .i64 c, .int .i64 n] w (RetB (.bool true) w) := by
  have hlen := hv.len ulB
  have HB := Lib.hid hv
  clear hv
  by_cases hl : (l.length : Int) ≤ 2000
  · obtain ⟨xs, hxs⟩ : ∃ xs, elsOf (partsE l c n) = xs := ⟨_, rfl⟩
    obtain ⟨⟨ec, eo⟩, he⟩ : ∃ er, errOf (partsE l c n) = er := ⟨_, rfl⟩
    have H1 : Hid (∀ W, IsB W v l → Calls Try.prog 24 #[v, .int .i64 c, .int .i64 n] W (fun e w' => ∃ o, e = .returned (.tuple #[o, .agg #[.int .i64 ec, .int .i64 eo]]) ∧ IsR w' o 6 xs.length (elCells xs) ∧ Below W.heap.size W w')) := fun W h => by
      have := (parts_any v l c n W h (by omega)).mono fun e w' hh => hh.get
      rw [hxs, he] at this; exact this
    have H2 : Hid (∀ W, IsB W v l → Calls Try.prog 25 #[v, .int .i64 c, .int .i64 n] W (fun e w' => ∃ o, e = .returned (.tuple #[o, .agg #[.int .i64 ec, .int .i64 eo]]) ∧ IsR w' o 6 xs.length (elCells xs) ∧ Below W.heap.size W w')) := fun W h => by
      have := (rParts_any v l c n W h (by omega)).mono fun e w' hh => hh.get
      rw [hxs, he] at this; exact this
    clear he hxs
    go_enter Try.func7, Try.ntmps7
    go_wp2_with (first | (go_at_call 10; (with_reducible refine (awake_any _).mono ?_); rintro e w1 ⟨rfl, hb1⟩) | (go_at_call 24; (with_reducible refine (H1.out _ (HB.out.below hb1)).mono ?_); rintro e w2 ⟨o1, rfl, ho1, hb2⟩; have B2 := below_t hb1 hb2; clear hb2; have HO1 := Lib.hid ho1; clear ho1) | (go_at_call 25; (with_reducible refine (H2.out _ ((HB.out.below B2).alloc _)).mono ?_); rintro e w3 ⟨o2, rfl, ho2, hb3⟩; have HO2 := Lib.hid ho2; clear ho2; have K1 := Blk.call (Blk.new w2 33 #[.int .i64 ec, .int .i64 eo]) hb3; have lK1 := K1.lt; have qK1 := K1.q; have rK1 := K1.fz; have K1' := Lib.hid K1; clear K1; have K1 := K1'.out; clear K1'; have B3 := below_a hb3; clear hb3) | (go_at_call 23; (with_reducible refine (elements_same _ _ xs _ ((HO1.out.below B3).alloc _) (HO2.out.alloc _)).mono ?_); rintro e w4 ⟨rfl, hb4⟩; have K2 := Blk.call (K1.alloc _) hb4; have lK2 := K2.lt; have qK2 := K2.q; have rK2 := K2.fz; have K2' := Lib.hid K2; clear K2; have K2 := K2'.out; clear K2'; have K3 := Blk.call (Blk.new w3 33 #[.int .i64 ec, .int .i64 eo]) hb4; have lK3 := K3.lt; have qK3 := K3.q; have rK3 := K3.fz; have K3' := Lib.hid K3; clear K3; have K3 := K3'.out; clear K3'; have B4 := below_a hb4; clear hb4))
    have B := below_t (below_t B2 B3) B4
    (refine bodyPost_retB (v := .bool true) (by (simp only [results, Try.results7]; try go_simp)) rfl rfl ?_; ((repeat' (first | (with_reducible exact Below.refl _ _) | (with_reducible assumption) | (with_reducible refine Below.setCell ?_ ?_ _) | (with_reducible refine Below.alloc ?_ ?_ _) | (with_reducible refine Below.drew ?_) | (with_reducible refine below_drewN ?_ _) | (with_reducible refine Below.step (by with_reducible assumption) ?_ ?_))) <;> (first | omega | (simp; done) | (simp; omega))))
  · go_enter Try.func7, Try.ntmps7
    go_wp2_with (first | (go_at_call 10; (with_reducible refine (awake_any w).mono ?_); rintro e w1 ⟨rfl, hb1⟩) | (go_at_call 10; (with_reducible refine (awake_any _).mono ?_); rintro e w2 ⟨rfl, hb2⟩))
    have B := below_t hb1 hb2
    (refine bodyPost_retB (v := .bool true) (by (simp only [results, Try.results7]; try go_simp)) rfl rfl ?_; ((repeat' (first | (with_reducible exact Below.refl _ _) | (with_reducible assumption) | (with_reducible refine Below.setCell ?_ ?_ _) | (with_reducible refine Below.alloc ?_ ?_ _) | (with_reducible refine Below.drew ?_) | (with_reducible refine below_drewN ?_ _) | (with_reducible refine Below.step (by with_reducible assumption) ?_ ?_))) <;> (first | omega | (simp; done) | (simp; omega))))

set_option maxRecDepth 100000 in
theorem lifted (os : Os) (started : os.Started) (H : Type) (enc : TypeId × Value → H) :
    ReturnsInHanded {} Try.checked os 7 .any (Rows.elementPartsSpec.pre6 enc Try.prog Try.f7 Rows.elementPartsRow.domain false) (Rows.elementPartsSpec.post enc Try.prog Try.f7 false true false false) := by
  refine returnsInHanded_of_change (C := Try.checked) lw_own started (by kernel_rfl) Try.func7
    (ChangeSpec.witness6 (enc := enc) (C := Try.checked) false ⟨#[], #[.slice none 0 0, .int .i64 0, .int .i64 0], []⟩ 8 (by kernel_rfl) (by kernel_rfl) (by kernel_rfl) (by kernel_rfl)) ?_
  intro W base args ds gs before hval0 hW hcnd _
  have hval : ∀ (j : Nat) t v, Try.f7.params[j]? = some t → args[j]? = some v → Value.okWide Try.prog W .any base t v := hval0
  have hW' := hW
  obtain ⟨p, q, hA0, hV, rfl, hfz, hnd⟩ := hW
  have hA : DataW.TrodAll enc Try.prog W 0 (fun _ => true) true Try.f7.params.toList args.toList ds p := hA0
  rw [Try.params7] at hA hval
  obtain ⟨v0, vs0, d0, ds0, p0, q0, hargs, rfl, rfl, h0, r0⟩ := trodAll_cons hA
  obtain ⟨v1, vs1, d1, ds1, p1, q1, rfl, rfl, rfl, h1, r1⟩ := trodAll_cons r0
  obtain ⟨v2, vs2, d2, ds2, p2, q2, rfl, rfl, rfl, h2, r2⟩ := trodAll_cons r1
  obtain ⟨rfl, rfl, rfl⟩ := trodAll_nil r2
  obtain rfl : args = #[v0, v1, v2] := by cases args; simp_all
  obtain ⟨rfl, rfl⟩ := trodVars_none hV
  have lt0 : ∀ x ∈ p0, x.block < W.heap.size := by obtain ⟨m, hm⟩ := h0; exact DataW.trod_lt m _ _ _ hm
  obtain ⟨l, w0⟩ := open_bytes (hval 0 30 v0 rfl rfl) h0
  obtain ⟨a1, rfl, rfl, rfl, w1⟩ := open_int ulInt (hval 1 3 v1 rfl rfl) h1
  obtain ⟨a2, rfl, rfl, rfl, w2⟩ := open_int ulInt (hval 2 3 v2 rfl rfl) h2
  clear hA0 hval0
  refine (walk _ l a1 a2 W w0).mono fun e W' ⟨he, bel⟩ => ?_
  subst he
  exact ⟨_, rfl, _, _, _, [], _, [], hW', trodAll_mk1 (shut_bool (by kernel_rfl : Try.prog.underlying 4 = some .bool) _), (trodAll_cons_mk (Below.trod lw_laidOut (by kernel_rfl) (of_decide_eq_true (by kernel_rfl)) h0 bel lt0) (trodAll_cons_mk (shut_int ulInt w1) (trodAll_cons_mk (shut_int ulInt w2) trodAll_mk0))), rfl, bel.frame _, fun h => by cases h⟩

theorem over : Rows.elementPartsRow.holds Try.pinned (OpenSpec.ofChange Rows.elementPartsSpec) :=
  OpenClaim.holds_of_wide 7 Try.f7 rfl rfl rfl rfl rfl rfl rfl ⟨rfl, rfl, rfl, rfl, rfl⟩ rfl rfl rfl rfl rfl (by kernel_rfl) Try.func7 (by kernel_rfl)
    (of_decide_eq_true (by kernel_rfl)) (by unfold Func.isWrapper; first | (rw [if_pos (by decide +kernel)]; kernel_rfl) | (rw [if_neg (by decide +kernel)]; exact ⟨rfl, rfl⟩))
    (fun os started H enc _ => lifted os started H enc)

theorem proved : Rows.ElementPartsSaid := over
#print axioms proved
end Go.Proofs.Ytecbphbnacbepaa.ElementPartsDone
