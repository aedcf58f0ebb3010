/- Walks over layer 9 (element): Is, One. -/
import Derived.Test.YtecbphbnacbepaaElem
set_option linter.unusedSimpArgs false
set_option linter.unusedVariables false
namespace Go.Proofs.Ytecbphbnacbepaa
open Go.RowKit Go.Cr

set_option maxRecDepth 100000 in
set_option maxHeartbeats 2000000 in
theorem is_any (x : Elem) (c n : Int) (k : Bool) (w : World) :
    Calls Try.prog 11 #[elV x, .int .i64 c, .bool k, .int .i64 n] w (RetB (.bool (isE x c k n)) w) := by
  obtain ⟨xc, xn, xk, xs, xb, xe⟩ := x
  cases h1 : (xc == c) <;> cases h2 : (xk == k) <;> cases h3 : (xn == n)
  all_goals
    have HV : Hid (Value.bool (isE ⟨xc, xn, xk, xs, xb, xe⟩ c k n) = .bool ((xc == c) && (xk == k) && (xn == n))) := rfl
    simp only [h1, h2, h3, Bool.and_false, Bool.false_and, Bool.and_true] at HV
    simp only [elV]
    go_enter Try.func11, Try.ntmps11
    go_wp2
    (refine bodyPost_retB (by (simp only [results, Try.results11]; try go_simp)) rfl HV.out.symm ?_; ((repeat' (first | (with_reducible exact Below.refl _ _) | (with_reducible assumption) | (with_reducible refine Below.setCell ?_ ?_ _) | (with_reducible refine Below.alloc ?_ ?_ _) | (with_reducible refine Below.drew ?_) | (with_reducible refine below_drewN ?_ _) | (with_reducible refine Below.step (by with_reducible assumption) ?_ ?_))) <;> (first | omega | (simp; done) | (simp; omega))))

set_option maxRecDepth 100000 in
set_option maxHeartbeats 2000000 in
theorem one_any (v : Value) (l : List UInt8) (w : World) (hw : IsB w v l) :
    Calls Try.prog 14 #[v] w (RetB (elR (oneE l)) w) := by
  have hm := hw.maxl
  have hlen := hw.len ulB
  have HB := Lib.hid hw
  cases hr : nextE l 0 l.length with
  | error er =>
    obtain ⟨ec, eo⟩ := er
    have hbd := nextE_err (by omega) (by omega) (by omega) hr
    have HV : Hid (elR (oneE l) = .tuple #[elV Elem.zero, errV (ec, eo)]) := by show elR (oneE l) = _; unfold oneE; rw [hr]; rfl
    have HR : Hid (∀ W, IsB W v l → Calls Try.prog 35 #[v, .int .i64 0, .int .i64 l.length] W (RetB (.tuple #[elV Elem.zero, errV (ec, eo)]) W)) := by
      intro W h
      have := next_any v l 0 l.length W h (by omega) (by omega) (by omega)
      rwa [hr] at this
    have hn : (ec == 0) = false := beq_eq_false_iff_ne.2 (by omega)
    clear hw hr hbd
    simp only [elV, errV, Elem.zero] at HR
    go_enter Try.func14, Try.ntmps14
    go_wp2_with (first | (go_at_call 35; (with_reducible refine (HR.out _ ((HB.out.alloc _).alloc _)).mono ?_); rintro e w1 ⟨rfl, hbw1⟩; obtain ⟨hcw1, hfw1⟩ := bcell hbw1; have hzw1 := hbw1.size; (try simp at hzw1); have hyw1 : w.heap.size < w1.heap.size := (by omega); (try have hyaw1 : w.heap.size + 1 < w1.heap.size := (by omega)); (try have hybw1 : w.heap.size + 2 < w1.heap.size := (by omega)); (try have hycw1 : w.heap.size + 3 < w1.heap.size := (by omega)); (try have hydw1 : w.heap.size + 4 < w1.heap.size := (by omega)); clear hzw1); have q0w1 := fun o => hcw1 (w.heap.size) o (by simp [go_sem]; try omega); simp [go_sem] at q0w1; have r0w1 := fun o => hfw1 (w.heap.size) o (by simp [go_sem]; try omega); simp [go_sem] at r0w1; have q1w1 := fun o => hcw1 (w.heap.size + 1) o (by simp [go_sem]; try omega); simp [go_sem] at q1w1; have r1w1 := fun o => hfw1 (w.heap.size + 1) o (by simp [go_sem]; try omega); simp [go_sem] at r1w1)
    go_region
    go_wp2
    (refine bodyPost_retB (by (simp only [results, Try.results14]; try go_simp)) rfl HV.out.symm ?_; ((repeat' (first | (with_reducible exact Below.refl _ _) | (with_reducible assumption) | (with_reducible refine Below.setCell ?_ ?_ _) | (with_reducible refine Below.alloc ?_ ?_ _) | (with_reducible refine Below.drew ?_) | (with_reducible refine below_drewN ?_ _) | (with_reducible refine Below.step (by with_reducible assumption) ?_ ?_))) <;> (first | omega | (simp; done) | (simp; omega))))
  | ok x =>
    obtain ⟨xc, xn, xk, xs, xb, xe⟩ := x
    have hbd := nextE_ok (by omega) (by omega) (by omega) hr
    have HR : Hid (∀ W, IsB W v l → Calls Try.prog 35 #[v, .int .i64 0, .int .i64 l.length] W (RetB (.tuple #[elV ⟨xc, xn, xk, xs, xb, xe⟩, errV (0, 0)]) W)) := by
      intro W h
      have := next_any v l 0 l.length W h (by omega) (by omega) (by omega)
      rwa [hr] at this
    simp only at hbd
    obtain ⟨_, hb2, hb3, hb4⟩ := hbd
    simp only [elV, errV] at HR
    by_cases hlt : xe < l.length
    · have HV : Hid (elR (oneE l) = .tuple #[elV Elem.zero, errV (2, xe)]) := by show elR (oneE l) = _; unfold oneE; rw [hr]; simp [hlt, elR]
      clear hw hr
      go_enter Try.func14, Try.ntmps14
      go_wp2_with (first | (go_at_call 35; (with_reducible refine (HR.out _ ((HB.out.alloc _).alloc _)).mono ?_); rintro e w1 ⟨rfl, hbw1⟩; obtain ⟨hcw1, hfw1⟩ := bcell hbw1; have hzw1 := hbw1.size; (try simp at hzw1); have hyw1 : w.heap.size < w1.heap.size := (by omega); (try have hyaw1 : w.heap.size + 1 < w1.heap.size := (by omega)); (try have hybw1 : w.heap.size + 2 < w1.heap.size := (by omega)); (try have hycw1 : w.heap.size + 3 < w1.heap.size := (by omega)); (try have hydw1 : w.heap.size + 4 < w1.heap.size := (by omega)); clear hzw1); have q0w1 := fun o => hcw1 (w.heap.size) o (by simp [go_sem]; try omega); simp [go_sem] at q0w1; have r0w1 := fun o => hfw1 (w.heap.size) o (by simp [go_sem]; try omega); simp [go_sem] at r0w1; have q1w1 := fun o => hcw1 (w.heap.size + 1) o (by simp [go_sem]; try omega); simp [go_sem] at q1w1; have r1w1 := fun o => hfw1 (w.heap.size + 1) o (by simp [go_sem]; try omega); simp [go_sem] at r1w1)
      go_region
      go_wp2
      (refine bodyPost_retB (by (simp only [results, Try.results14]; try go_simp)) rfl HV.out.symm ?_; ((repeat' (first | (with_reducible exact Below.refl _ _) | (with_reducible assumption) | (with_reducible refine Below.setCell ?_ ?_ _) | (with_reducible refine Below.alloc ?_ ?_ _) | (with_reducible refine Below.drew ?_) | (with_reducible refine below_drewN ?_ _) | (with_reducible refine Below.step (by with_reducible assumption) ?_ ?_))) <;> (first | omega | (simp; done) | (simp; omega))))
    · have HV : Hid (elR (oneE l) = .tuple #[elV ⟨xc, xn, xk, xs, xb, xe⟩, errV (0, 0)]) := by show elR (oneE l) = _; unfold oneE; rw [hr]; simp [hlt, elR]
      clear hw hr
      go_enter Try.func14, Try.ntmps14
      go_wp2_with (first | (go_at_call 35; (with_reducible refine (HR.out _ ((HB.out.alloc _).alloc _)).mono ?_); rintro e w1 ⟨rfl, hbw1⟩; obtain ⟨hcw1, hfw1⟩ := bcell hbw1; have hzw1 := hbw1.size; (try simp at hzw1); have hyw1 : w.heap.size < w1.heap.size := (by omega); (try have hyaw1 : w.heap.size + 1 < w1.heap.size := (by omega)); (try have hybw1 : w.heap.size + 2 < w1.heap.size := (by omega)); (try have hycw1 : w.heap.size + 3 < w1.heap.size := (by omega)); (try have hydw1 : w.heap.size + 4 < w1.heap.size := (by omega)); clear hzw1); have q0w1 := fun o => hcw1 (w.heap.size) o (by simp [go_sem]; try omega); simp [go_sem] at q0w1; have r0w1 := fun o => hfw1 (w.heap.size) o (by simp [go_sem]; try omega); simp [go_sem] at r0w1; have q1w1 := fun o => hcw1 (w.heap.size + 1) o (by simp [go_sem]; try omega); simp [go_sem] at q1w1; have r1w1 := fun o => hfw1 (w.heap.size + 1) o (by simp [go_sem]; try omega); simp [go_sem] at r1w1)
      go_region
      go_wp2
      (refine bodyPost_retB (by (simp only [results, Try.results14]; try go_simp)) rfl HV.out.symm ?_; ((repeat' (first | (with_reducible exact Below.refl _ _) | (with_reducible assumption) | (with_reducible refine Below.setCell ?_ ?_ _) | (with_reducible refine Below.alloc ?_ ?_ _) | (with_reducible refine Below.drew ?_) | (with_reducible refine below_drewN ?_ _) | (with_reducible refine Below.step (by with_reducible assumption) ?_ ?_))) <;> (first | omega | (simp; done) | (simp; omega))))
end Go.Proofs.Ytecbphbnacbepaa
