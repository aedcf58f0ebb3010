/- Walks over layer 9 (element): next, One. -/
import Derived.Test.YtecbphbnacbepaaTlvB
import Derived.Test.YtecbphbnacbepaaSpecE
set_option linter.unusedSimpArgs false
set_option linter.unusedVariables false
namespace Go.Proofs.Ytecbphbnacbepaa
open Go.RowKit Go.Cr

set_option maxRecDepth 100000 in
set_option maxHeartbeats 2000000 in
theorem next_any (v : Value) (l : List UInt8) (a e : Int) (w : World) (hw : IsB w v l) (h0 : 0 ≤ a) (h1 : a ≤ e) (h2 : e ≤ l.length) :
    Calls Try.prog 35 #[v, .int .i64 a, .int .i64 e] w (RetB (elR (nextE l a e)) w) := by
  have hm := hw.maxl
  obtain ⟨v1, hcut, hv1⟩ := hw.cut3 (P := Try.prog) ulB szB .i64 .i64 .i64 h0 h1 h2
  have hv1 : IsB w v1 (seg l a e) := hv1
  have hpl := seg_len l a e h0 h1 h2
  have HB := Lib.hid hv1
  cases hr : rdHdr (seg l a e) with
  | error er =>
    obtain ⟨ec, eo⟩ := er
    have hbd := rdHdr_err hr
    have HV : Hid (elR (nextE l a e) = .tuple #[elV Elem.zero, errV (ec, eo + a)]) := by show elR (nextE l a e) = _; unfold nextE; rw [hr]; rfl
    have HR : Hid (∀ W, IsB W v1 (seg l a e) → Calls Try.prog 48 #[v1] W (RetB (.tuple #[hdrV Hdr.zero, errV (ec, eo)]) W)) := by
      intro W h
      have := readHdr_any v1 _ W h
      rwa [hr] at this
    obtain ⟨hb1, hb2, hb3, hb4⟩ := hbd
    have hb5 : eo + a ≤ e := by omega
    have hn : (ec == 0) = false := beq_eq_false_iff_ne.2 (by omega)
    have hn' : (ec != 0) = true := by simp; omega
    clear hw hr hv1 hpl hb4
    simp only [hdrV, errV, Hdr.zero] at HR
    go_enter Try.func35, Try.ntmps35
    go_wp2_with (first | (go_at_call 48; (with_reducible refine (HR.out _ ((HB.out.alloc _).alloc _)).mono ?_); rintro e w1 ⟨rfl, hbw1⟩; obtain ⟨hcw1, hfw1⟩ := bcell hbw1; have hzw1 := hbw1.size; (try simp at hzw1); have hyw1 : w.heap.size < w1.heap.size := (by omega); (try have hyaw1 : w.heap.size + 1 < w1.heap.size := (by omega)); (try have hybw1 : w.heap.size + 2 < w1.heap.size := (by omega)); (try have hycw1 : w.heap.size + 3 < w1.heap.size := (by omega)); (try have hydw1 : w.heap.size + 4 < w1.heap.size := (by omega)); clear hzw1); have q0w1 := fun o => hcw1 (w.heap.size) o (by simp [go_sem]; try omega); simp [go_sem] at q0w1; have r0w1 := fun o => hfw1 (w.heap.size) o (by simp [go_sem]; try omega); simp [go_sem] at r0w1; have q1w1 := fun o => hcw1 (w.heap.size + 1) o (by simp [go_sem]; try omega); simp [go_sem] at q1w1; have r1w1 := fun o => hfw1 (w.heap.size + 1) o (by simp [go_sem]; try omega); simp [go_sem] at r1w1)
    go_region
    go_wp2
    (refine bodyPost_retB (by (simp only [results, Try.results35]; try go_simp)) rfl HV.out.symm ?_; ((repeat' (first | (with_reducible exact Below.refl _ _) | (with_reducible assumption) | (with_reducible refine Below.setCell ?_ ?_ _) | (with_reducible refine Below.alloc ?_ ?_ _) | (with_reducible refine Below.drew ?_) | (with_reducible refine below_drewN ?_ _) | (with_reducible refine Below.step (by with_reducible assumption) ?_ ?_))) <;> (first | omega | (simp; done) | (simp; omega))))
  | ok h =>
    obtain ⟨hc, hnm, hcn, hln, hsz⟩ := h
    have hbd := rdHdr_ok hr
    have HR : Hid (∀ W, IsB W v1 (seg l a e) → Calls Try.prog 48 #[v1] W (RetB (.tuple #[hdrV ⟨hc, hnm, hcn, hln, hsz⟩, errV (0, 0)]) W)) := by
      intro W h
      have := readHdr_any v1 _ W h
      rwa [hr] at this
    simp only at hbd
    obtain ⟨hb1, hb2, hb3, hb4, hb5, _⟩ := hbd
    rw [hpl] at hb5
    simp only [hdrV, errV] at HR
    by_cases hlt : e - a - hsz < hln
    · have HV : Hid (elR (nextE l a e) = .tuple #[elV Elem.zero, errV (1, e)]) := by show elR (nextE l a e) = _; unfold nextE; rw [hr]; simp [hlt, elR]
      clear hw hr hv1 hpl
      go_enter Try.func35, Try.ntmps35
      go_wp2_with (first | (go_at_call 48; (with_reducible refine (HR.out _ ((HB.out.alloc _).alloc _)).mono ?_); rintro e w1 ⟨rfl, hbw1⟩; obtain ⟨hcw1, hfw1⟩ := bcell hbw1; have hzw1 := hbw1.size; (try simp at hzw1); have hyw1 : w.heap.size < w1.heap.size := (by omega); (try have hyaw1 : w.heap.size + 1 < w1.heap.size := (by omega)); (try have hybw1 : w.heap.size + 2 < w1.heap.size := (by omega)); (try have hycw1 : w.heap.size + 3 < w1.heap.size := (by omega)); (try have hydw1 : w.heap.size + 4 < w1.heap.size := (by omega)); clear hzw1); have q0w1 := fun o => hcw1 (w.heap.size) o (by simp [go_sem]; try omega); simp [go_sem] at q0w1; have r0w1 := fun o => hfw1 (w.heap.size) o (by simp [go_sem]; try omega); simp [go_sem] at r0w1; have q1w1 := fun o => hcw1 (w.heap.size + 1) o (by simp [go_sem]; try omega); simp [go_sem] at q1w1; have r1w1 := fun o => hfw1 (w.heap.size + 1) o (by simp [go_sem]; try omega); simp [go_sem] at r1w1)
      (refine bodyPost_retB (by (simp only [results, Try.results35]; try go_simp)) rfl HV.out.symm ?_; ((repeat' (first | (with_reducible exact Below.refl _ _) | (with_reducible assumption) | (with_reducible refine Below.setCell ?_ ?_ _) | (with_reducible refine Below.alloc ?_ ?_ _) | (with_reducible refine Below.drew ?_) | (with_reducible refine below_drewN ?_ _) | (with_reducible refine Below.step (by with_reducible assumption) ?_ ?_))) <;> (first | omega | (simp; done) | (simp; omega))))
    · have HV : Hid (elR (nextE l a e) = .tuple #[elV ⟨hc, hnm, hcn, a, a + hsz, a + hsz + hln⟩, errV (0, 0)]) := by show elR (nextE l a e) = _; unfold nextE; rw [hr]; simp [hlt, elR, Hdr.at_]
      clear hw hr hv1 hpl
      go_enter Try.func35, Try.ntmps35
      go_wp2_with (first | (go_at_call 48; (with_reducible refine (HR.out _ ((HB.out.alloc _).alloc _)).mono ?_); rintro e w1 ⟨rfl, hbw1⟩; obtain ⟨hcw1, hfw1⟩ := bcell hbw1; have hzw1 := hbw1.size; (try simp at hzw1); have hyw1 : w.heap.size < w1.heap.size := (by omega); (try have hyaw1 : w.heap.size + 1 < w1.heap.size := (by omega)); (try have hybw1 : w.heap.size + 2 < w1.heap.size := (by omega)); (try have hycw1 : w.heap.size + 3 < w1.heap.size := (by omega)); (try have hydw1 : w.heap.size + 4 < w1.heap.size := (by omega)); clear hzw1); have q0w1 := fun o => hcw1 (w.heap.size) o (by simp [go_sem]; try omega); simp [go_sem] at q0w1; have r0w1 := fun o => hfw1 (w.heap.size) o (by simp [go_sem]; try omega); simp [go_sem] at r0w1; have q1w1 := fun o => hcw1 (w.heap.size + 1) o (by simp [go_sem]; try omega); simp [go_sem] at q1w1; have r1w1 := fun o => hfw1 (w.heap.size + 1) o (by simp [go_sem]; try omega); simp [go_sem] at r1w1)
      (refine bodyPost_retB (by (simp only [results, Try.results35]; try go_simp)) rfl HV.out.symm ?_; ((repeat' (first | (with_reducible exact Below.refl _ _) | (with_reducible assumption) | (with_reducible refine Below.setCell ?_ ?_ _) | (with_reducible refine Below.alloc ?_ ?_ _) | (with_reducible refine Below.drew ?_) | (with_reducible refine below_drewN ?_ _) | (with_reducible refine Below.step (by with_reducible assumption) ?_ ?_))) <;> (first | omega | (simp; done) | (simp; omega))))
end Go.Proofs.Ytecbphbnacbepaa
