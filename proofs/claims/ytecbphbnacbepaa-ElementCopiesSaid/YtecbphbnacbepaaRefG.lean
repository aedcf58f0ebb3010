/- Walk over the reference of layer 9: List. -/
import Derived.Test.YtecbphbnacbepaaRefF
import Derived.Test.YtecbphbnacbepaaElemC
import Derived.Test.YtecbphbnacbepaaKitD
set_option linter.unusedSimpArgs false
set_option linter.unusedVariables false
namespace Go.Proofs.Ytecbphbnacbepaa
open Go.RowKit Go.Cr

set_option maxRecDepth 100000 in
set_option maxHeartbeats 4000000 in
theorem rList_in (v : Value) (l : List UInt8) (a0 e0 : Int) (w : World) (hw : IsB w v l) (h0 : 0 ≤ a0) (h1 : a0 ≤ e0) (h2 : e0 ≤ l.length) (hL : (l.length : Int) ≤ 1000000) :
    Calls Try.prog 22 #[v, .int .i64 a0, .int .i64 e0] w (RetL (listAcc l (e0 - a0).toNat [] a0 e0) w) := by
  have hlen := hw.len ulB
  have HB := Lib.hid hw
  obtain ⟨r, hr⟩ : ∃ r, listAcc l (e0 - a0).toNat [] a0 e0 = r := ⟨_, rfl⟩
  rw [hr]
  have HR := Lib.hid hr
  clear hr hw
  go_enter Try.func22, Try.ntmps22
  go_wp2
  go_loopw [8, 9] (fun out at_ wr => LRel l a0 e0 r w out at_ wr) (fun _ at_ _ => (e0 - intOf at_).toNat)
  case atStart => exact ⟨(e0 - a0).toNat, [], a0, rfl, by omega, by omega, by omega, by simp, HR.out, World.ownsRow_nil _ _ _ _, (Below.refl _ _).alloc (Nat.le_refl _) _, by simp, by simp, by simp, by simp [go_sem], by simp [go_sem]⟩
  case round =>
    obtain ⟨k, xs, a, rfl, ha1, ha2, hk, hxs, hacc, hown, hbel, hsz, hc0, hc1, hf0, hf1⟩ := hrel
    clear hlen HR
    have HO := Lib.hid hown
    clear hown
    by_cases hlt : a < e0
    · obtain ⟨k, rfl⟩ : ∃ k', k = k' + 1 := ⟨k - 1, by omega⟩
      simp only [listAcc] at hacc
      rw [if_pos hlt] at hacc
      cases hx : nextE l a e0 with
      | error er =>
        obtain ⟨ec, eo⟩ := er
        rw [hx] at hacc
        subst hacc
        have hbd := nextE_err (by omega) (by omega) (by omega) hx
        rw [nextE_H l a e0 (by omega) (by omega) (by omega)] at hx
        have hH : nextH (seg l a e0) = .error (ec, eo - a) := by
          cases hh : nextH (seg l a e0) with
          | error er => obtain ⟨c, o⟩ := er; rw [hh] at hx; injection hx with hx; injection hx with h1 h2; subst h1; rw [show eo - a = o by omega]
          | ok h => rw [hh] at hx; cases hx
        obtain ⟨v1, hcut, hv1⟩ := HB.out.cut (P := Try.prog) ulB szB .i64 .i64 (lo := a) (hi := e0) (by omega) (by omega) (by omega)
        have HV1 : Hid (IsB w v1 (seg l a e0)) := hv1
        have HN : Hid (∀ W, IsB W v1 (seg l a e0) → Calls Try.prog 36 #[v1] W (RetB (.tuple #[hdrV Hdr.zero, .slice none 0 0, .slice none 0 0, errV (ec, eo - a)]) W)) := fun W h => rNext_err v1 _ W h hH
        have hn' : (ec != 0) = true := by simp; omega
        have heo : eo - a + a = eo := by omega
        have HEO := Lib.hid heo
        obtain ⟨_, _, hbd1, hbd2⟩ := hbd
        simp only [hdrV, errV, Hdr.zero] at HN
        clear hx hH hv1 heo
        generalize eo - a = eq at *
        have hq1 : 0 ≤ eq + a := by have := HEO.out; omega
        have hq2 : eq + a ≤ 9223372036854775807 := by have := HEO.out; omega
        go_wp2_with (first | ((go_at_call 36); ((with_reducible refine (HN.out _ (HV1.out.below hbel)).mono ?_)); rintro e w1 ⟨rfl, hb1⟩; obtain ⟨hcw, hfw⟩ := bcell hb1; have hzw : w.heap.size < w1.heap.size := (by have := hb1.size; omega)))
        go_region
        go_wp2
        refine bodyPost_ret (v := .tuple #[.slice none 0 0, errV (ec, eq + a)]) (by simp only [results, Try.results22]; go_simp) rfl ⟨?_, .inl ⟨(ec, eo), rfl, by rw [HEO.out]⟩⟩
        ((repeat' (first | (with_reducible exact Below.refl _ _) | (with_reducible assumption) | (with_reducible refine Below.setCell ?_ ?_ _) | (with_reducible refine Below.alloc ?_ ?_ _) | (with_reducible refine Below.drew ?_) | (with_reducible refine below_drewN ?_ _) | (with_reducible refine Below.step (by with_reducible assumption) ?_ ?_))) <;> (first | omega | (simp; done) | (simp; omega)))
      | ok x =>
        rw [hx] at hacc
        have hbd := nextE_ok (by omega) (by omega) (by omega) hx
        rw [nextE_H l a e0 (by omega) (by omega) (by omega)] at hx
        obtain ⟨h, hH, hxh⟩ : ∃ h, nextH (seg l a e0) = .ok h ∧ x = h.at_ a := by
          cases hh : nextH (seg l a e0) with
          | error er => rw [hh] at hx; cases hx
          | ok h => rw [hh] at hx; injection hx with hx; exact ⟨h, rfl, hx.symm⟩
        obtain ⟨v1, hcut, hv1⟩ := HB.out.cut (P := Try.prog) ulB szB .i64 .i64 (lo := a) (hi := e0) (by omega) (by omega) (by omega)
        have HV1 : Hid (IsB w v1 (seg l a e0)) := hv1
        have hhb := nextH_ok hH
        have HN0 : Hid (∀ W, IsB W v1 (seg l a e0) → Calls Try.prog 36 #[v1] W (RetN h (seg l a e0) W)) := fun W hh => rNext_good v1 _ W hh hH
        obtain ⟨hc, hnm, hcn, hln, hsz'⟩ := h
        have HN : Hid (∀ W, IsB W v1 (seg l a e0) → Calls Try.prog 36 #[v1] W (fun e w' => ∃ c r, e = .returned (.tuple #[.agg #[.int .i64 hc, .int .i64 hnm, .bool hcn, .int .i64 hln, .int .i64 hsz'], c, r, .agg #[.int .i64 0, .int .i64 0]]) ∧ IsB w' c (seg (seg l a e0) hsz' (hsz' + hln)) ∧ IsB w' r ((seg l a e0).drop (hsz' + hln).toNat) ∧ Below W.heap.size W w')) := HN0
        subst hxh
        simp only [Hdr.at_] at hbd hacc
        have HA := Lib.hid hacc
        simp only at hhb
        rw [seg_len l a e0 (by omega) (by omega) (by omega)] at hhb
        obtain ⟨hh1, hh2, hh3, hh4⟩ := hhb
        clear hx hacc hv1 HN0 hH hbd
        obtain ⟨i0, hi, hz0, hz1, hz2⟩ := info_parts infoEl
        go_wp2_with (first | ((go_at_call 36); ((with_reducible refine (HN.out _ (HV1.out.below hbel)).mono ?_)); rintro e w1 ⟨c, rr, rfl, hcc, hrr, hb1⟩; clear hcc hrr; obtain ⟨hcw, hfw⟩ := bcell hb1; have hzw : w.heap.size < w1.heap.size := (by have := hb1.size; omega)) | (at_builtin; refine wpList_app _ rfl _ _ 22 rfl (w.heap.size + 1) 27 i0 (elV Elem.zero) 6 48 ulEl hi hz0 hz1 hz2 rfl (by decide) _ _ _ rfl (((((ownsRow_below HO.out hb1).alloc _).alloc _).alloc _).alloc _) _ 1 _ rfl (isR_at rfl ?c1) ?c2 ?c3 ?c4 ?c5 ?_))
        case c1 => simp
        case c2 => exact ⟨rfl, rfl, rfl, rfl, rfl, rfl⟩
        case c3 => unfold maxLen; omega
        case c4 => omega
        case c5 => simp; omega
        intro o' w2 hown' hgrow hbel'
        have hsz1 := hb1.size
        have hne1 : ∀ j, some (w1.heap.size + j) ≠ u8.ownBlock := fun j h => by have := (HO.out.lt _ h.symm).2; omega
        have hne0 : some w.heap.size ≠ u8.ownBlock := fun h => by have := (HO.out.lt _ h.symm).1; omega
        have hBb := (((hb1.alloc hsz1 (.cells #[.int .i64 hc, .int .i64 hnm, .bool hcn, .int .i64 hln, .int .i64 hsz'] 61)).alloc (by simp; omega) (.cells #[.int .i64 0, .int .i64 0] 33)).alloc (by simp; omega) (.cells #[.int .i64 hc, .int .i64 hnm, .bool hcn, .int .i64 a, .int .i64 (a + hsz'), .int .i64 (a + hsz' + hln)] 27)).alloc (by simp; omega) (.cells #[.int .i64 hc, .int .i64 hnm, .bool hcn, .int .i64 a, .int .i64 (a + hsz'), .int .i64 (a + hsz' + hln)] 27)
        have qs : w2.cell? ⟨w1.heap.size + 1 + 1, 5, none⟩ = some (.int .i64 (a + hsz' + hln)) := (World.cell?_of_block (hgrow.block _ (by simp) (hne1 2))).trans (by simp [go_sem])
        have qs' : w2.cell? ⟨w1.heap.size + 2, 5, none⟩ = some (.int .i64 (a + hsz' + hln)) := qs
        have q0 : w2.cell? ⟨w.heap.size, 0, none⟩ = some (.int .i64 0) := (World.cell?_of_block (hgrow.block _ (by simp; omega) hne0)).trans ((hBb.cell hsz).trans hc0)
        have q1 : w2.cell? ⟨w.heap.size, 1, none⟩ = some (.int .i64 0) := (World.cell?_of_block (hgrow.block _ (by simp; omega) hne0)).trans ((hBb.cell hsz).trans hc1)
        have r0 : w2.frozen? ⟨w.heap.size, 0, none⟩ = false := (World.frozen?_of_block (hgrow.block _ (by simp; omega) hne0)).trans ((hBb.frozen hsz).trans hf0)
        have r1 : w2.frozen? ⟨w.heap.size, 1, none⟩ = false := (World.frozen?_of_block (hgrow.block _ (by simp; omega) hne0)).trans ((hBb.frozen hsz).trans hf1)
        have hsz2 : w.heap.size < w2.heap.size := by have := hgrow.size; simp at this; omega
        have hbel2 : Below w.heap.size w w2 := (((((hb1.step hbel (by omega)).alloc (by omega) _).alloc (by simp; omega) _).alloc (by simp; omega) _).alloc (by simp; omega) _).trans (hbel'.mono (by omega))
        obtain ⟨X, hX⟩ : ∃ X : Elem, X = ⟨hc, hnm, hcn, a, a + hsz', a + hsz' + hln⟩ := ⟨_, rfl⟩
        have hown2 : w2.ownsRow (w.heap.size + 1) 27 6 o' (xs ++ [X]).length (elCells (xs ++ [X])) := by rw [elCells_snoc, hX, List.length_append]; exact hown'
        rw [← hX] at HA
        clear hX
        have HO2 := Lib.hid hown2
        clear hgrow hown' hBb hne1 hne0 hcw hfw hown2 hbel'
        go_wp2
        go_roundw
        case rel => exact ⟨k, xs ++ [X], a + hsz' + hln, rfl, by omega, by omega, by omega, by simp; omega, HA.out, HO2.out, hbel2, hsz2, q0, q1, r0, r1⟩
        case measure => simp [intOf]; omega
    · have hrx : r = .ok xs := by rw [← hacc]; exact listAcc_done _ _ _ _ _ (by omega)
      subst hrx
      clear hacc
      go_wp2
      refine bodyPost_ret (v := .tuple #[u8, errV (0, 0)]) (by simp only [results, Try.results22]; go_simp) rfl ⟨?_, .inr ⟨xs, u8, rfl, rfl, ?_⟩⟩
      · ((repeat' (first | (with_reducible exact Below.refl _ _) | (with_reducible assumption) | (with_reducible refine Below.setCell ?_ ?_ _) | (with_reducible refine Below.alloc ?_ ?_ _) | (with_reducible refine Below.drew ?_) | (with_reducible refine below_drewN ?_ _) | (with_reducible refine Below.step (by with_reducible assumption) ?_ ?_))) <;> (first | omega | (simp; done) | (simp; omega)))
      · exact ownsRow_more (ownsRow_setCell_below (ownsRow_setCell_below HO.out (Nat.lt_succ_self _) _) (Nat.lt_succ_self _) _) (Nat.le_succ _)
end Go.Proofs.Ytecbphbnacbepaa
