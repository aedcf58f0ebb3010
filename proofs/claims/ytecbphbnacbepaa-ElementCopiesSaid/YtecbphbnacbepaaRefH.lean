/- Walks over the reference of layer 9: List (any range), Parts. -/
import Derived.Test.YtecbphbnacbepaaRefG
set_option linter.unusedSimpArgs false
set_option linter.unusedVariables false
namespace Go.Proofs.Ytecbphbnacbepaa
open Go.RowKit Go.Cr

set_option maxRecDepth 100000 in
set_option maxHeartbeats 2000000 in
theorem rList_any (v : Value) (l : List UInt8) (a0 e0 : Int) (w : World) (hw : IsB w v l) (hL : (l.length : Int) ≤ 1000000) :
    Calls Try.prog 22 #[v, .int .i64 a0, .int .i64 e0] w (RetL (listE l a0 e0) w) := by
  by_cases hr : a0 < 0 ∨ e0 < a0 ∨ (l.length : Int) < e0
  · have HV : Hid (listE l a0 e0 = .error (9, 0)) := by show listE l a0 e0 = _; unfold listE; rw [if_pos hr]
    have hlen := hw.len ulB
    have hq : a0 < 0 ∨ (0 ≤ a0 ∧ e0 < a0) ∨ (0 ≤ a0 ∧ a0 ≤ e0 ∧ (l.length : Int) < e0) := by omega
    clear hr hw
    rcases hq with h1 | ⟨h1, h2⟩ | ⟨h1, h2, h3⟩
    all_goals
      go_enter Try.func22, Try.ntmps22
      go_wp2
      refine bodyPost_ret (v := .tuple #[.slice none 0 0, errV (9, 0)]) (by simp only [results, Try.results22]; go_simp) rfl ⟨?_, .inl ⟨_, HV.out, rfl⟩⟩
      ((repeat' (first | (with_reducible exact Below.refl _ _) | (with_reducible assumption) | (with_reducible refine Below.setCell ?_ ?_ _) | (with_reducible refine Below.alloc ?_ ?_ _) | (with_reducible refine Below.drew ?_) | (with_reducible refine below_drewN ?_ _) | (with_reducible refine Below.step (by with_reducible assumption) ?_ ?_))) <;> (first | omega | (simp; done) | (simp; omega)))
  · have : listE l a0 e0 = listAcc l (e0 - a0).toNat [] a0 e0 := by unfold listE; rw [if_neg hr]
    rw [this]
    exact rList_in v l a0 e0 w hw (by omega) (by omega) (by omega) hL

set_option maxRecDepth 100000 in
set_option maxHeartbeats 2000000 in
theorem rParts_any (v : Value) (l : List UInt8) (c n : Int) (w : World) (hw : IsB w v l) (hL : (l.length : Int) ≤ 1000000) :
    Calls Try.prog 25 #[v, .int .i64 c, .int .i64 n] w (RetL (partsE l c n) w) := by
  have HB := Lib.hid hw
  cases hr : oneE l with
  | error er =>
    obtain ⟨ec, eo⟩ := er
    have hbd := oneE_err hr
    have HV : Hid (partsE l c n = .error (ec, eo)) := by show partsE l c n = _; unfold partsE; rw [hr]
    have HR : Hid (∀ W, IsB W v l → Calls Try.prog 15 #[v] W (RetB (.tuple #[elV Elem.zero, errV (ec, eo)]) W)) := by
      intro W h
      have := rOne v l W h
      rwa [hr] at this
    have hn : (ec == 0) = false := beq_eq_false_iff_ne.2 (by omega)
    have hn' : (ec != 0) = true := by simp; omega
    clear hw hr hbd
    simp only [elV, errV, Elem.zero] at HR
    go_enter Try.func25, Try.ntmps25
    go_wp2_with (first | (go_at_call 15; (with_reducible refine (HR.out _ (HB.out.alloc _)).mono ?_); rintro e w1 ⟨rfl, hbw1⟩; obtain ⟨hcw1, hfw1⟩ := bcell hbw1; have hzw1 := hbw1.size; (try simp at hzw1); have hyw1 : w.heap.size < w1.heap.size := (by omega); (try have hyaw1 : w.heap.size + 1 < w1.heap.size := (by omega)); (try have hybw1 : w.heap.size + 2 < w1.heap.size := (by omega)); (try have hycw1 : w.heap.size + 3 < w1.heap.size := (by omega)); (try have hydw1 : w.heap.size + 4 < w1.heap.size := (by omega)); clear hzw1); have K1 := Blk.call (Blk.new w 33 #[.int .i64 0, .int .i64 0]) hbw1; have lK1 := K1.lt; have qK1 := K1.q; have rK1 := K1.fz; have K1' := Lib.hid K1; clear K1; have K1 := K1'.out; clear K1')
    go_region
    go_wp2
    refine bodyPost_ret (v := .tuple #[.slice none 0 0, errV (ec, eo)]) (by simp only [results, Try.results25]; go_simp) rfl ⟨?_, .inl ⟨_, HV.out, rfl⟩⟩
    ((repeat' (first | (with_reducible exact Below.refl _ _) | (with_reducible assumption) | (with_reducible refine Below.setCell ?_ ?_ _) | (with_reducible refine Below.alloc ?_ ?_ _) | (with_reducible refine Below.drew ?_) | (with_reducible refine below_drewN ?_ _) | (with_reducible refine Below.step (by with_reducible assumption) ?_ ?_))) <;> (first | omega | (simp; done) | (simp; omega)))
  | ok x =>
    have HR : Hid (∀ W, IsB W v l → Calls Try.prog 15 #[v] W (RetB (.tuple #[elV x, errV (0, 0)]) W)) := by
      intro W h
      have := rOne v l W h
      rwa [hr] at this
    obtain ⟨xc, xn, xk, xs, xb, xe⟩ := x
    simp only [elV, errV] at HR
    cases h1 : (xc == c)
    case false =>
      have hp : ((xc != c) : Bool) = true := by simp [bne, h1]
      have HV : Hid (partsE l c n = .error (3, 0)) := by show partsE l c n = _; unfold partsE; rw [hr]; simp [isE, h1]
      clear hw hr
      go_enter Try.func25, Try.ntmps25
      go_wp2_with (first | (go_at_call 15; (with_reducible refine (HR.out _ (HB.out.alloc _)).mono ?_); rintro e w1 ⟨rfl, hbw1⟩; obtain ⟨hcw1, hfw1⟩ := bcell hbw1; have hzw1 := hbw1.size; (try simp at hzw1); have hyw1 : w.heap.size < w1.heap.size := (by omega); (try have hyaw1 : w.heap.size + 1 < w1.heap.size := (by omega)); (try have hybw1 : w.heap.size + 2 < w1.heap.size := (by omega)); (try have hycw1 : w.heap.size + 3 < w1.heap.size := (by omega)); (try have hydw1 : w.heap.size + 4 < w1.heap.size := (by omega)); clear hzw1); have K1 := Blk.call (Blk.new w 33 #[.int .i64 0, .int .i64 0]) hbw1; have lK1 := K1.lt; have qK1 := K1.q; have rK1 := K1.fz; have K1' := Lib.hid K1; clear K1; have K1 := K1'.out; clear K1')
      refine bodyPost_ret (v := .tuple #[.slice none 0 0, errV (3, 0)]) (by simp only [results, Try.results25]; go_simp) rfl ⟨?_, .inl ⟨_, HV.out, rfl⟩⟩
      ((repeat' (first | (with_reducible exact Below.refl _ _) | (with_reducible assumption) | (with_reducible refine Below.setCell ?_ ?_ _) | (with_reducible refine Below.alloc ?_ ?_ _) | (with_reducible refine Below.drew ?_) | (with_reducible refine below_drewN ?_ _) | (with_reducible refine Below.step (by with_reducible assumption) ?_ ?_))) <;> (first | omega | (simp; done) | (simp; omega)))
    case true =>
    have hp : ((xc != c) : Bool) = false := by simp [bne, h1]
    cases h2 : (xn == n)
    case false =>
      have hq : ((xn != n) : Bool) = true := by simp [bne, h2]
      have HV : Hid (partsE l c n = .error (3, 0)) := by show partsE l c n = _; unfold partsE; rw [hr]; simp [isE, h2]
      clear hw hr
      go_enter Try.func25, Try.ntmps25
      go_wp2_with (first | (go_at_call 15; (with_reducible refine (HR.out _ (HB.out.alloc _)).mono ?_); rintro e w1 ⟨rfl, hbw1⟩; obtain ⟨hcw1, hfw1⟩ := bcell hbw1; have hzw1 := hbw1.size; (try simp at hzw1); have hyw1 : w.heap.size < w1.heap.size := (by omega); (try have hyaw1 : w.heap.size + 1 < w1.heap.size := (by omega)); (try have hybw1 : w.heap.size + 2 < w1.heap.size := (by omega)); (try have hycw1 : w.heap.size + 3 < w1.heap.size := (by omega)); (try have hydw1 : w.heap.size + 4 < w1.heap.size := (by omega)); clear hzw1); have K1 := Blk.call (Blk.new w 33 #[.int .i64 0, .int .i64 0]) hbw1; have lK1 := K1.lt; have qK1 := K1.q; have rK1 := K1.fz; have K1' := Lib.hid K1; clear K1; have K1 := K1'.out; clear K1')
      refine bodyPost_ret (v := .tuple #[.slice none 0 0, errV (3, 0)]) (by simp only [results, Try.results25]; go_simp) rfl ⟨?_, .inl ⟨_, HV.out, rfl⟩⟩
      ((repeat' (first | (with_reducible exact Below.refl _ _) | (with_reducible assumption) | (with_reducible refine Below.setCell ?_ ?_ _) | (with_reducible refine Below.alloc ?_ ?_ _) | (with_reducible refine Below.drew ?_) | (with_reducible refine below_drewN ?_ _) | (with_reducible refine Below.step (by with_reducible assumption) ?_ ?_))) <;> (first | omega | (simp; done) | (simp; omega)))
    case true =>
    have hq : ((xn != n) : Bool) = false := by simp [bne, h2]
    cases h3 : xk
    case false =>
      subst h3
      have HV : Hid (partsE l c n = .error (3, 0)) := by show partsE l c n = _; unfold partsE; rw [hr]; simp [isE]
      clear hw hr
      go_enter Try.func25, Try.ntmps25
      go_wp2_with (first | (go_at_call 15; (with_reducible refine (HR.out _ (HB.out.alloc _)).mono ?_); rintro e w1 ⟨rfl, hbw1⟩; obtain ⟨hcw1, hfw1⟩ := bcell hbw1; have hzw1 := hbw1.size; (try simp at hzw1); have hyw1 : w.heap.size < w1.heap.size := (by omega); (try have hyaw1 : w.heap.size + 1 < w1.heap.size := (by omega)); (try have hybw1 : w.heap.size + 2 < w1.heap.size := (by omega)); (try have hycw1 : w.heap.size + 3 < w1.heap.size := (by omega)); (try have hydw1 : w.heap.size + 4 < w1.heap.size := (by omega)); clear hzw1); have K1 := Blk.call (Blk.new w 33 #[.int .i64 0, .int .i64 0]) hbw1; have lK1 := K1.lt; have qK1 := K1.q; have rK1 := K1.fz; have K1' := Lib.hid K1; clear K1; have K1 := K1'.out; clear K1')
      refine bodyPost_ret (v := .tuple #[.slice none 0 0, errV (3, 0)]) (by simp only [results, Try.results25]; go_simp) rfl ⟨?_, .inl ⟨_, HV.out, rfl⟩⟩
      ((repeat' (first | (with_reducible exact Below.refl _ _) | (with_reducible assumption) | (with_reducible refine Below.setCell ?_ ?_ _) | (with_reducible refine Below.alloc ?_ ?_ _) | (with_reducible refine Below.drew ?_) | (with_reducible refine below_drewN ?_ _) | (with_reducible refine Below.step (by with_reducible assumption) ?_ ?_))) <;> (first | omega | (simp; done) | (simp; omega)))
    case true =>
      subst h3
      cases hl : listE l xb xe with
      | error er =>
        have HL : Hid (∀ W, IsB W v l → Calls Try.prog 22 #[v, .int .i64 xb, .int .i64 xe] W (RetB (.tuple #[.slice none 0 0, errV er]) W)) := by
          intro W h
          refine (rList_any v l xb xe W h hL).mono ?_
          rintro e w' ⟨hb, ⟨er', h1, rfl⟩ | ⟨xs, o, h1, _⟩⟩
          · rw [hl] at h1; injection h1 with h1; subst h1; exact ⟨rfl, hb⟩
          · rw [hl] at h1; cases h1
        have HV : Hid (partsE l c n = .error er) := by show partsE l c n = _; unfold partsE; rw [hr]; simp [isE, h1, h2, hl]
        clear hw hr hl
        simp only [errV] at HL
        go_enter Try.func25, Try.ntmps25
        go_wp2_with (first | (go_at_call 15; (with_reducible refine (HR.out _ (HB.out.alloc _)).mono ?_); rintro e w1 ⟨rfl, hbw1⟩; obtain ⟨hcw1, hfw1⟩ := bcell hbw1; have hzw1 := hbw1.size; (try simp at hzw1); have hyw1 : w.heap.size < w1.heap.size := (by omega); (try have hyaw1 : w.heap.size + 1 < w1.heap.size := (by omega)); (try have hybw1 : w.heap.size + 2 < w1.heap.size := (by omega)); (try have hycw1 : w.heap.size + 3 < w1.heap.size := (by omega)); (try have hydw1 : w.heap.size + 4 < w1.heap.size := (by omega)); clear hzw1); have K1 := Blk.call (Blk.new w 33 #[.int .i64 0, .int .i64 0]) hbw1; have lK1 := K1.lt; have qK1 := K1.q; have rK1 := K1.fz; have K1' := Lib.hid K1; clear K1; have K1 := K1'.out; clear K1'; have HB1 := Lib.hid ((HB.out.alloc _).below hbw1) | (go_at_call 22; (with_reducible refine (HL.out _ ((HB1.out.alloc _).alloc _)).mono ?_); rintro e w3 ⟨rfl, hbw3⟩; obtain ⟨hcw3, hfw3⟩ := bcell hbw3; have hzw3 := hbw3.size; (try simp at hzw3); have hyw3 : w.heap.size < w3.heap.size := (by omega); (try have hyaw3 : w.heap.size + 1 < w3.heap.size := (by omega)); (try have hybw3 : w.heap.size + 2 < w3.heap.size := (by omega)); (try have hycw3 : w.heap.size + 3 < w3.heap.size := (by omega)); (try have hydw3 : w.heap.size + 4 < w3.heap.size := (by omega)); clear hzw3); have K3 := Blk.call ((K1.alloc _).alloc _) hbw3; have lK3 := K3.lt; have qK3 := K3.q; have rK3 := K3.fz; have K3' := Lib.hid K3; clear K3; have K3 := K3'.out; clear K3')
        refine bodyPost_ret (v := .tuple #[.slice none 0 0, errV er]) (by simp only [results, Try.results25]; go_simp) rfl ⟨?_, .inl ⟨_, HV.out, rfl⟩⟩
        ((repeat' (first | (with_reducible exact Below.refl _ _) | (with_reducible assumption) | (with_reducible refine Below.setCell ?_ ?_ _) | (with_reducible refine Below.alloc ?_ ?_ _) | (with_reducible refine Below.drew ?_) | (with_reducible refine below_drewN ?_ _) | (with_reducible refine Below.step (by with_reducible assumption) ?_ ?_))) <;> (first | omega | (simp; done) | (simp; omega)))
      | ok ys =>
        have HL : Hid (∀ W, IsB W v l → Calls Try.prog 22 #[v, .int .i64 xb, .int .i64 xe] W (fun e w' => ∃ o, e = .returned (.tuple #[o, errV (0, 0)]) ∧ w'.ownsRow W.heap.size 27 6 o ys.length (elCells ys) ∧ Below W.heap.size W w')) := by
          intro W h
          refine (rList_any v l xb xe W h hL).mono ?_
          rintro e w' ⟨hb, ⟨er', h1, rfl⟩ | ⟨xs', o, h1, rfl, h2⟩⟩
          · rw [hl] at h1; cases h1
          · rw [hl] at h1; injection h1 with h1; subst h1; exact ⟨o, rfl, h2, hb⟩
        have HV : Hid (partsE l c n = .ok ys) := by show partsE l c n = _; unfold partsE; rw [hr]; simp [isE, h1, h2, hl]
        clear hw hr hl
        simp only [errV] at HL
        go_enter Try.func25, Try.ntmps25
        go_wp2_with (first | (go_at_call 15; (with_reducible refine (HR.out _ (HB.out.alloc _)).mono ?_); rintro e w1 ⟨rfl, hbw1⟩; obtain ⟨hcw1, hfw1⟩ := bcell hbw1; have hzw1 := hbw1.size; (try simp at hzw1); have hyw1 : w.heap.size < w1.heap.size := (by omega); (try have hyaw1 : w.heap.size + 1 < w1.heap.size := (by omega)); (try have hybw1 : w.heap.size + 2 < w1.heap.size := (by omega)); (try have hycw1 : w.heap.size + 3 < w1.heap.size := (by omega)); (try have hydw1 : w.heap.size + 4 < w1.heap.size := (by omega)); clear hzw1); have K1 := Blk.call (Blk.new w 33 #[.int .i64 0, .int .i64 0]) hbw1; have lK1 := K1.lt; have qK1 := K1.q; have rK1 := K1.fz; have K1' := Lib.hid K1; clear K1; have K1 := K1'.out; clear K1'; have HB1 := Lib.hid ((HB.out.alloc _).below hbw1) | ((go_at_call 22); (with_reducible refine (HL.out _ ((HB1.out.alloc _).alloc _)).mono ?_); rintro e w3 ⟨o, rfl, hown, hbw3⟩; obtain ⟨hcw3, hfw3⟩ := bcell hbw3; have hzw3 := hbw3.size; (try simp at hzw3); have hyw3 : w.heap.size < w3.heap.size := (by omega); (try have hyaw3 : w.heap.size + 1 < w3.heap.size := (by omega)); (try have hybw3 : w.heap.size + 2 < w3.heap.size := (by omega)); (try have hycw3 : w.heap.size + 3 < w3.heap.size := (by omega)); (try have hydw3 : w.heap.size + 4 < w3.heap.size := (by omega)); clear hzw3; have K3 := Blk.call ((K1.alloc _).alloc _) hbw3; have lK3 := K3.lt; have qK3 := K3.q; have rK3 := K3.fz; have K3' := Lib.hid K3; clear K3; have K3 := K3'.out; clear K3'; have HO := Lib.hid hown; clear hown))
        refine bodyPost_ret (v := .tuple #[o, errV (0, 0)]) (by simp only [results, Try.results25]; go_simp) rfl ⟨?_, .inr ⟨ys, o, HV.out, rfl, ?_⟩⟩
        · ((repeat' (first | (with_reducible exact Below.refl _ _) | (with_reducible assumption) | (with_reducible refine Below.setCell ?_ ?_ _) | (with_reducible refine Below.alloc ?_ ?_ _) | (with_reducible refine Below.drew ?_) | (with_reducible refine below_drewN ?_ _) | (with_reducible refine Below.step (by with_reducible assumption) ?_ ?_))) <;> (first | omega | (simp; done) | (simp; omega)))
        · exact ownsRow_more (ownsRow_setCell_below (ownsRow_setCell_below HO.out (by simp; omega) _) (by simp; omega) _) (by simp; omega)
end Go.Proofs.Ytecbphbnacbepaa
