/- Walks over the references of layer 2: ReadHeader, Next. -/
import Derived.Test.YtecbphbnacbepaaRefC
import Derived.Test.YtecbphbnacbepaaSpecE
set_option linter.unusedSimpArgs false
set_option linter.unusedVariables false
namespace Go.Proofs.Ytecbphbnacbepaa
open Go.RowKit Go.Cr

set_option maxRecDepth 100000 in
set_option maxHeartbeats 2000000 in
theorem rReadHdr (v : Value) (l : List UInt8) (w : World) (hw : IsB w v l) : Calls Try.prog 49 #[v] w (RetB (rhV (rdHdr l)) w) := by
  have hlen := hw.len ulB
  by_cases hl : l.length = 0
  · have HV : Hid (rhV (rdHdr l) = .tuple #[hdrV Hdr.zero, errV (1, 0)]) := by show rhV (rdHdr l) = _; simp [rdHdr, rhV, hl]
    have hlb : ((l.length : Int) == 0) = true := beq_iff_eq.2 (by omega)
    clear hl
    go_enter Try.func49, Try.ntmps49
    go_wp2
    refine bodyPost_retB ?_ rfl HV.out.symm ?_
    · simp [results, errV, hdrV, Hdr.zero, Try.results49, go_sem]
    · ((repeat' (first | (with_reducible exact Below.refl _ _) | (with_reducible assumption) | (with_reducible refine Below.setCell ?_ ?_ _) | (with_reducible refine Below.alloc ?_ ?_ _) | (with_reducible refine Below.drew ?_) | (with_reducible refine below_drewN ?_ _) | (with_reducible refine Below.step (by with_reducible assumption) ?_ ?_))) <;> (first | omega | (simp; done) | (simp; omega)))
  have hx1 := bat_lt l 0
  have hx0 := bat_pos l 0
  have hlb : ((l.length : Int) == 0) = false := beq_eq_false_iff_ne.2 (by omega)
  obtain ⟨b, o, hix, hbw, hcl⟩ := hw.at_ (P := Try.prog) ulB szB .i64 (i := 0) (by omega) (by omega)
  simp only [Int.toNat_zero] at hcl
  by_cases c1 : bat l 0 % 32 = 31
  · have HV : Hid (rhV (rdHdr l) = .tuple #[hdrV Hdr.zero, errV (3, 0)]) := by show rhV (rdHdr l) = _; unfold rdHdr; (repeat (first | rw [if_pos (by omega)] | rw [if_neg (by omega)])); rfl
    have HC := Lib.hid (rReadId_bad (bat l 0) · hx0 hx1 c1)
    clear hw c1
    go_enter Try.func49, Try.ntmps49
    go_wp2_with (first | (go_at_call 62; refine (HC.out _).mono ?_; rintro e w1 ⟨rfl, rfl⟩))
    refine bodyPost_retB ?_ rfl HV.out.symm ?_
    · simp [results, errV, hdrV, Hdr.zero, Try.results49, go_sem]
    · ((repeat' (first | (with_reducible exact Below.refl _ _) | (with_reducible assumption) | (with_reducible refine Below.setCell ?_ ?_ _) | (with_reducible refine Below.alloc ?_ ?_ _) | (with_reducible refine Below.drew ?_) | (with_reducible refine below_drewN ?_ _) | (with_reducible refine Below.step (by with_reducible assumption) ?_ ?_))) <;> (first | omega | (simp; done) | (simp; omega)))
  have HC := Lib.hid (rReadId_good (bat l 0) · hx0 hx1 c1)
  obtain ⟨v1, hcut, hv1⟩ := hw.cutLo (P := Try.prog) ulB szB .i64 (lo := 1) (by omega) (by omega)
  have hv1 : IsB w v1 (l.drop 1) := hv1
  cases hr : rdLen (l.drop 1) with
  | error e =>
    obtain ⟨ec, eo⟩ := e
    have hbd := rdLen_err hr
    have HV : Hid (rhV (rdHdr l) = .tuple #[hdrV Hdr.zero, errV (ec, eo + 1)]) := by show rhV (rdHdr l) = _; unfold rdHdr; (repeat (first | rw [if_pos (by omega)] | rw [if_neg (by omega)])); rw [hr]; rfl
    have HR : Hid (∀ W, IsB W v1 (l.drop 1) → Calls Try.prog 63 #[v1] W (RetB (.tuple #[.int .i64 0, .int .i64 0, .agg #[.int .i64 ec, .int .i64 eo]]) W)) := by
      intro W h
      have := rReadLen v1 _ W h
      rwa [hr] at this
    simp only [List.length_drop] at hbd
    obtain ⟨hb1, hb2, hb3, hb4⟩ := hbd
    have hb5 : eo + 1 ≤ 9223372036854775807 := by have := hw.maxl; omega
    clear hb4
    have hn : (ec == 0) = false := beq_eq_false_iff_ne.2 (by omega)
    have hn' : (ec != 0) = true := by simp; omega
    have HB := Lib.hid hv1
    clear hw hr c1 hv1
    go_enter Try.func49, Try.ntmps49
    go_wp2_with (first | (go_at_call 62; refine (HC.out _).mono ?_; rintro e w1 ⟨rfl, rfl⟩) | (go_at_call 63; (with_reducible refine (HR.out _ ((HB.out.alloc _).alloc _)).mono ?_); rintro e w1 ⟨rfl, hbw1⟩; obtain ⟨hcw1, hfw1⟩ := bcell hbw1; have hzw1 := hbw1.size; (try simp at hzw1); have hyw1 : w.heap.size < w1.heap.size := (by omega); (try have hyaw1 : w.heap.size + 1 < w1.heap.size := (by omega)); (try have hybw1 : w.heap.size + 2 < w1.heap.size := (by omega)); (try have hycw1 : w.heap.size + 3 < w1.heap.size := (by omega)); (try have hydw1 : w.heap.size + 4 < w1.heap.size := (by omega)); clear hzw1); have q0w1 := fun o => hcw1 (w.heap.size) o (by simp [go_sem]; try omega); simp [go_sem] at q0w1; have r0w1 := fun o => hfw1 (w.heap.size) o (by simp [go_sem]; try omega); simp [go_sem] at r0w1; have q1w1 := fun o => hcw1 (w.heap.size + 1) o (by simp [go_sem]; try omega); simp [go_sem] at q1w1; have r1w1 := fun o => hfw1 (w.heap.size + 1) o (by simp [go_sem]; try omega); simp [go_sem] at r1w1)
    go_region
    go_wp2
    (refine bodyPost_retB (by (simp only [results, Try.results49]; try go_simp)) rfl HV.out.symm ?_; ((repeat' (first | (with_reducible exact Below.refl _ _) | (with_reducible assumption) | (with_reducible refine Below.setCell ?_ ?_ _) | (with_reducible refine Below.alloc ?_ ?_ _) | (with_reducible refine Below.drew ?_) | (with_reducible refine below_drewN ?_ _) | (with_reducible refine Below.step (by with_reducible assumption) ?_ ?_))) <;> (first | omega | (simp; done) | (simp; omega))))
  | ok r =>
    obtain ⟨n, k⟩ := r
    have hbd := rdLen_ok hr
    have HV : Hid (rhV (rdHdr l) = .tuple #[hdrV ⟨bat l 0 / 64, bat l 0 % 32, decide (bat l 0 / 32 % 2 = 1), n, 1 + k⟩, errV (0, 0)]) := by show rhV (rdHdr l) = _; unfold rdHdr; (repeat (first | rw [if_pos (by omega)] | rw [if_neg (by omega)])); rw [hr]; rfl
    have HR : Hid (∀ W, IsB W v1 (l.drop 1) → Calls Try.prog 63 #[v1] W (RetB (.tuple #[.int .i64 n, .int .i64 k, .agg #[.int .i64 0, .int .i64 0]]) W)) := by
      intro W h
      have := rReadLen v1 _ W h
      rwa [hr] at this
    obtain ⟨hb1, hb2, hb3, hb4, hb5⟩ := hbd
    have HB := Lib.hid hv1
    clear hw hr c1 hv1
    go_enter Try.func49, Try.ntmps49
    go_wp2_with (first | (go_at_call 62; refine (HC.out _).mono ?_; rintro e w1 ⟨rfl, rfl⟩) | (go_at_call 63; (with_reducible refine (HR.out _ ((HB.out.alloc _).alloc _)).mono ?_); rintro e w1 ⟨rfl, hbw1⟩; obtain ⟨hcw1, hfw1⟩ := bcell hbw1; have hzw1 := hbw1.size; (try simp at hzw1); have hyw1 : w.heap.size < w1.heap.size := (by omega); (try have hyaw1 : w.heap.size + 1 < w1.heap.size := (by omega)); (try have hybw1 : w.heap.size + 2 < w1.heap.size := (by omega)); (try have hycw1 : w.heap.size + 3 < w1.heap.size := (by omega)); (try have hydw1 : w.heap.size + 4 < w1.heap.size := (by omega)); clear hzw1); have q0w1 := fun o => hcw1 (w.heap.size) o (by simp [go_sem]; try omega); simp [go_sem] at q0w1; have r0w1 := fun o => hfw1 (w.heap.size) o (by simp [go_sem]; try omega); simp [go_sem] at r0w1; have q1w1 := fun o => hcw1 (w.heap.size + 1) o (by simp [go_sem]; try omega); simp [go_sem] at q1w1; have r1w1 := fun o => hfw1 (w.heap.size + 1) o (by simp [go_sem]; try omega); simp [go_sem] at r1w1)
    (refine bodyPost_retB (by (simp only [results, Try.results49]; try go_simp)) rfl HV.out.symm ?_; ((repeat' (first | (with_reducible exact Below.refl _ _) | (with_reducible assumption) | (with_reducible refine Below.setCell ?_ ?_ _) | (with_reducible refine Below.alloc ?_ ?_ _) | (with_reducible refine Below.drew ?_) | (with_reducible refine below_drewN ?_ _) | (with_reducible refine Below.step (by with_reducible assumption) ?_ ?_))) <;> (first | omega | (simp; done) | (simp; omega))))

/-- What Next leaves where there is an element. -/
def RetN (h : Hdr) (l : List UInt8) (w : World) (e : Ending) (w' : World) : Prop :=
  ∃ c r, e = .returned (.tuple #[hdrV h, c, r, errV (0, 0)]) ∧ IsB w' c (seg l h.size (h.size + h.len)) ∧ IsB w' r (l.drop (h.size + h.len).toNat) ∧ Below w.heap.size w w'

set_option maxRecDepth 100000 in
set_option maxHeartbeats 2000000 in
theorem rNext_hdr (v : Value) (l : List UInt8) (w : World) (hw : IsB w v l) (ec eo : Int) (hr : rdHdr l = .error (ec, eo)) :
    Calls Try.prog 36 #[v] w (RetB (.tuple #[hdrV Hdr.zero, .slice none 0 0, .slice none 0 0, errV (ec, eo)]) w) := by
  have hbd := rdHdr_err hr
  have HR : Hid (∀ W, IsB W v l → Calls Try.prog 49 #[v] W (RetB (.tuple #[hdrV Hdr.zero, errV (ec, eo)]) W)) := by
    intro W h
    have := rReadHdr v _ W h
    rwa [hr] at this
  have HB := Lib.hid hw
  obtain ⟨hb1, hb2, hb3, hb4⟩ := hbd
  have hn' : (ec != 0) = true := by simp; omega
  clear hw hr hb4
  simp only [hdrV, errV, Hdr.zero] at HR
  go_enter Try.func36, Try.ntmps36
  go_wp2_with (first | (go_at_call 49; (with_reducible refine (HR.out _ ((HB.out.alloc _).alloc _)).mono ?_); rintro e w1 ⟨rfl, hbw1⟩; obtain ⟨hcw1, hfw1⟩ := bcell hbw1; have hzw1 := hbw1.size; (try simp at hzw1); have hyw1 : w.heap.size < w1.heap.size := (by omega); (try have hyaw1 : w.heap.size + 1 < w1.heap.size := (by omega)); (try have hybw1 : w.heap.size + 2 < w1.heap.size := (by omega)); (try have hycw1 : w.heap.size + 3 < w1.heap.size := (by omega)); (try have hydw1 : w.heap.size + 4 < w1.heap.size := (by omega)); clear hzw1); have K1 := Blk.call ((Blk.new w 61 #[.int .i64 0, .int .i64 0, .bool false, .int .i64 0, .int .i64 0]).alloc _) hbw1; have lK1 := K1.lt; have qK1 := K1.q; have rK1 := K1.fz; have K1' := Lib.hid K1; clear K1; have K1 := K1'.out; clear K1'; have K2 := Blk.call (Blk.new (w.alloc _) 33 #[.int .i64 0, .int .i64 0]) hbw1; have lK2 := K2.lt; have qK2 := K2.q; have rK2 := K2.fz; have K2' := Lib.hid K2; clear K2; have K2 := K2'.out; clear K2')
  go_region
  go_wp2
  (refine bodyPost_retB (v := .tuple #[hdrV Hdr.zero, .slice none 0 0, .slice none 0 0, errV (ec, eo)]) (by (simp only [results, Try.results36]; try go_simp)) rfl rfl ?_; ((repeat' (first | (with_reducible exact Below.refl _ _) | (with_reducible assumption) | (with_reducible refine Below.setCell ?_ ?_ _) | (with_reducible refine Below.alloc ?_ ?_ _) | (with_reducible refine Below.drew ?_) | (with_reducible refine below_drewN ?_ _) | (with_reducible refine Below.step (by with_reducible assumption) ?_ ?_))) <;> (first | omega | (simp; done) | (simp; omega))))
end Go.Proofs.Ytecbphbnacbepaa
