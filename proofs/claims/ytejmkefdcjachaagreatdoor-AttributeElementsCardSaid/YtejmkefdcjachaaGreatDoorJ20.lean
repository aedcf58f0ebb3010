/- The parts RefD, RefE, RefF, PutR of one proof, one behind the other. -/
import Derived.Test.YtejmkefdcjachaaGreatDoorJ17
import Derived.Test.YtejmkefdcjachaaGreatDoorJ19
import Derived.IntWalk
import Derived.Test.YtejmkefdcjachaaGreatDoorJ02

/- Walks over the references of layer 2: ReadHeader, Next. -/
section
set_option linter.unusedSimpArgs false
set_option linter.unusedVariables false
namespace Go.Proofs.YtejmkefdcjachaaGreatDoor
open Go.RowKit Go.Cr

set_option maxRecDepth 100000 in
set_option maxHeartbeats 2000000 in
theorem rReadHdr (v : Value) (l : List UInt8) (w : World) (hw : IsB w v l) : Calls Tryz.prog 136 #[v] w (RetB (rhV (rdHdr l)) w) := by
  have hlen := hw.len ulB
  by_cases hl : l.length = 0
  · have HV : Hid (rhV (rdHdr l) = .tuple #[hdrV Hdr.zero, errV (1, 0)]) := by show rhV (rdHdr l) = _; simp [rdHdr, rhV, hl]
    have hlb : ((l.length : Int) == 0) = true := beq_iff_eq.2 (by omega)
    clear hl
    go_enter Tryz.func136, Tryz.ntmps136
    go_wp2
    refine bodyPost_retB ?_ rfl HV.out.symm ?_
    · simp [results, errV, hdrV, Hdr.zero, Tryz.results136, go_sem]
    · ((repeat' (first | (with_reducible exact Below.refl _ _) | (with_reducible assumption) | (with_reducible refine Below.setCell ?_ ?_ _) | (with_reducible refine Below.alloc ?_ ?_ _) | (with_reducible refine Below.drew ?_) | (with_reducible refine below_drewN ?_ _) | (with_reducible refine Below.step (by with_reducible assumption) ?_ ?_))) <;> (first | omega | (simp; done) | (simp; omega)))
  have hx1 := bat_lt l 0
  have hx0 := bat_pos l 0
  have hlb : ((l.length : Int) == 0) = false := beq_eq_false_iff_ne.2 (by omega)
  obtain ⟨b, o, hix, hbw, hcl⟩ := hw.at_ (P := Tryz.prog) ulB szB .i64 (i := 0) (by omega) (by omega)
  simp only [Int.toNat_zero] at hcl
  by_cases c1 : bat l 0 % 32 = 31
  · have HV : Hid (rhV (rdHdr l) = .tuple #[hdrV Hdr.zero, errV (3, 0)]) := by show rhV (rdHdr l) = _; unfold rdHdr; (repeat (first | rw [if_pos (by omega)] | rw [if_neg (by omega)])); rfl
    have HC := Lib.hid (rReadId_bad (bat l 0) · hx0 hx1 c1)
    clear hw c1
    go_enter Tryz.func136, Tryz.ntmps136
    go_wp2_with (first | (go_at_call 152; refine (HC.out _).mono ?_; rintro e w1 ⟨rfl, rfl⟩))
    refine bodyPost_retB ?_ rfl HV.out.symm ?_
    · simp [results, errV, hdrV, Hdr.zero, Tryz.results136, go_sem]
    · ((repeat' (first | (with_reducible exact Below.refl _ _) | (with_reducible assumption) | (with_reducible refine Below.setCell ?_ ?_ _) | (with_reducible refine Below.alloc ?_ ?_ _) | (with_reducible refine Below.drew ?_) | (with_reducible refine below_drewN ?_ _) | (with_reducible refine Below.step (by with_reducible assumption) ?_ ?_))) <;> (first | omega | (simp; done) | (simp; omega)))
  have HC := Lib.hid (rReadId_good (bat l 0) · hx0 hx1 c1)
  obtain ⟨v1, hcut, hv1⟩ := hw.cutLo (P := Tryz.prog) ulB szB .i64 (lo := 1) (by omega) (by omega)
  have hv1 : IsB w v1 (l.drop 1) := hv1
  cases hr : rdLen (l.drop 1) with
  | error e =>
    obtain ⟨ec, eo⟩ := e
    have hbd := rdLen_err hr
    have HV : Hid (rhV (rdHdr l) = .tuple #[hdrV Hdr.zero, errV (ec, eo + 1)]) := by show rhV (rdHdr l) = _; unfold rdHdr; (repeat (first | rw [if_pos (by omega)] | rw [if_neg (by omega)])); rw [hr]; rfl
    have HR : Hid (∀ W, IsB W v1 (l.drop 1) → Calls Tryz.prog 153 #[v1] W (RetB (.tuple #[.int .i64 0, .int .i64 0, .agg #[.int .i64 ec, .int .i64 eo]]) W)) := by
      intro W h
      have := rReadLen v1 _ W h
      rwa [hr] at this
    simp only [List.length_drop] at hbd
    obtain ⟨hb1, hb2, hb3, hb4⟩ := hbd
    have hb5 : eo + 1 ≤ 9223372036854775807 := by have := hw.maxl; omega
    clear hb4
    have hn : (ec == 0) = false := beq_eq_false_iff_ne.2 (by omega)
    have hn' : (ec != 0) = true := by simp; omega
    have HB := Lib.hid hv1
    clear hw hr c1 hv1
    go_enter Tryz.func136, Tryz.ntmps136
    go_wp2_with (first | (go_at_call 152; refine (HC.out _).mono ?_; rintro e w1 ⟨rfl, rfl⟩) | (go_at_call 153; (with_reducible refine (HR.out _ ((HB.out.alloc _).alloc _)).mono ?_); rintro e w1 ⟨rfl, hbw1⟩; obtain ⟨hcw1, hfw1⟩ := bcell hbw1; have hzw1 := hbw1.size; (try simp at hzw1); have hyw1 : w.heap.size < w1.heap.size := (by omega); (try have hyaw1 : w.heap.size + 1 < w1.heap.size := (by omega)); (try have hybw1 : w.heap.size + 2 < w1.heap.size := (by omega)); (try have hycw1 : w.heap.size + 3 < w1.heap.size := (by omega)); (try have hydw1 : w.heap.size + 4 < w1.heap.size := (by omega)); clear hzw1); have q0w1 := fun o => hcw1 (w.heap.size) o (by simp [go_sem]; try omega); simp [go_sem] at q0w1; have r0w1 := fun o => hfw1 (w.heap.size) o (by simp [go_sem]; try omega); simp [go_sem] at r0w1; have q1w1 := fun o => hcw1 (w.heap.size + 1) o (by simp [go_sem]; try omega); simp [go_sem] at q1w1; have r1w1 := fun o => hfw1 (w.heap.size + 1) o (by simp [go_sem]; try omega); simp [go_sem] at r1w1)
    go_region
    go_wp2
    (refine bodyPost_retB (by (simp only [results, Tryz.results136]; try go_simp)) rfl HV.out.symm ?_; ((repeat' (first | (with_reducible exact Below.refl _ _) | (with_reducible assumption) | (with_reducible refine Below.setCell ?_ ?_ _) | (with_reducible refine Below.alloc ?_ ?_ _) | (with_reducible refine Below.drew ?_) | (with_reducible refine below_drewN ?_ _) | (with_reducible refine Below.step (by with_reducible assumption) ?_ ?_))) <;> (first | omega | (simp; done) | (simp; omega))))
  | ok r =>
    obtain ⟨n, k⟩ := r
    have hbd := rdLen_ok hr
    have HV : Hid (rhV (rdHdr l) = .tuple #[hdrV ⟨bat l 0 / 64, bat l 0 % 32, decide (bat l 0 / 32 % 2 = 1), n, 1 + k⟩, errV (0, 0)]) := by show rhV (rdHdr l) = _; unfold rdHdr; (repeat (first | rw [if_pos (by omega)] | rw [if_neg (by omega)])); rw [hr]; rfl
    have HR : Hid (∀ W, IsB W v1 (l.drop 1) → Calls Tryz.prog 153 #[v1] W (RetB (.tuple #[.int .i64 n, .int .i64 k, .agg #[.int .i64 0, .int .i64 0]]) W)) := by
      intro W h
      have := rReadLen v1 _ W h
      rwa [hr] at this
    obtain ⟨hb1, hb2, hb3, hb4, hb5⟩ := hbd
    have HB := Lib.hid hv1
    clear hw hr c1 hv1
    go_enter Tryz.func136, Tryz.ntmps136
    go_wp2_with (first | (go_at_call 152; refine (HC.out _).mono ?_; rintro e w1 ⟨rfl, rfl⟩) | (go_at_call 153; (with_reducible refine (HR.out _ ((HB.out.alloc _).alloc _)).mono ?_); rintro e w1 ⟨rfl, hbw1⟩; obtain ⟨hcw1, hfw1⟩ := bcell hbw1; have hzw1 := hbw1.size; (try simp at hzw1); have hyw1 : w.heap.size < w1.heap.size := (by omega); (try have hyaw1 : w.heap.size + 1 < w1.heap.size := (by omega)); (try have hybw1 : w.heap.size + 2 < w1.heap.size := (by omega)); (try have hycw1 : w.heap.size + 3 < w1.heap.size := (by omega)); (try have hydw1 : w.heap.size + 4 < w1.heap.size := (by omega)); clear hzw1); have q0w1 := fun o => hcw1 (w.heap.size) o (by simp [go_sem]; try omega); simp [go_sem] at q0w1; have r0w1 := fun o => hfw1 (w.heap.size) o (by simp [go_sem]; try omega); simp [go_sem] at r0w1; have q1w1 := fun o => hcw1 (w.heap.size + 1) o (by simp [go_sem]; try omega); simp [go_sem] at q1w1; have r1w1 := fun o => hfw1 (w.heap.size + 1) o (by simp [go_sem]; try omega); simp [go_sem] at r1w1)
    (refine bodyPost_retB (by (simp only [results, Tryz.results136]; try go_simp)) rfl HV.out.symm ?_; ((repeat' (first | (with_reducible exact Below.refl _ _) | (with_reducible assumption) | (with_reducible refine Below.setCell ?_ ?_ _) | (with_reducible refine Below.alloc ?_ ?_ _) | (with_reducible refine Below.drew ?_) | (with_reducible refine below_drewN ?_ _) | (with_reducible refine Below.step (by with_reducible assumption) ?_ ?_))) <;> (first | omega | (simp; done) | (simp; omega))))

/-- What Next leaves where there is an element. -/
def RetN (h : Hdr) (l : List UInt8) (w : World) (e : Ending) (w' : World) : Prop :=
  ∃ c r, e = .returned (.tuple #[hdrV h, c, r, errV (0, 0)]) ∧ IsB w' c (seg l h.size (h.size + h.len)) ∧ IsB w' r (l.drop (h.size + h.len).toNat) ∧ Below w.heap.size w w'

set_option maxRecDepth 100000 in
set_option maxHeartbeats 2000000 in
theorem rNext_hdr (v : Value) (l : List UInt8) (w : World) (hw : IsB w v l) (ec eo : Int) (hr : rdHdr l = .error (ec, eo)) :
    Calls Tryz.prog 120 #[v] w (RetB (.tuple #[hdrV Hdr.zero, .slice none 0 0, .slice none 0 0, errV (ec, eo)]) w) := by
  have hbd := rdHdr_err hr
  have HR : Hid (∀ W, IsB W v l → Calls Tryz.prog 136 #[v] W (RetB (.tuple #[hdrV Hdr.zero, errV (ec, eo)]) W)) := by
    intro W h
    have := rReadHdr v _ W h
    rwa [hr] at this
  have HB := Lib.hid hw
  obtain ⟨hb1, hb2, hb3, hb4⟩ := hbd
  have hn' : (ec != 0) = true := by simp; omega
  clear hw hr hb4
  simp only [hdrV, errV, Hdr.zero] at HR
  go_enter Tryz.func120, Tryz.ntmps120
  go_wp2_with (first | (go_at_call 136; (with_reducible refine (HR.out _ ((HB.out.alloc _).alloc _)).mono ?_); rintro e w1 ⟨rfl, hbw1⟩; obtain ⟨hcw1, hfw1⟩ := bcell hbw1; have hzw1 := hbw1.size; (try simp at hzw1); have hyw1 : w.heap.size < w1.heap.size := (by omega); (try have hyaw1 : w.heap.size + 1 < w1.heap.size := (by omega)); (try have hybw1 : w.heap.size + 2 < w1.heap.size := (by omega)); (try have hycw1 : w.heap.size + 3 < w1.heap.size := (by omega)); (try have hydw1 : w.heap.size + 4 < w1.heap.size := (by omega)); clear hzw1); have K1 := Blk.call ((Blk.new w 133 #[.int .i64 0, .int .i64 0, .bool false, .int .i64 0, .int .i64 0]).alloc _) hbw1; have lK1 := K1.lt; have qK1 := K1.q; have rK1 := K1.fz; have K1' := Lib.hid K1; clear K1; have K1 := K1'.out; clear K1'; have K2 := Blk.call (Blk.new (w.alloc _) 41 #[.int .i64 0, .int .i64 0]) hbw1; have lK2 := K2.lt; have qK2 := K2.q; have rK2 := K2.fz; have K2' := Lib.hid K2; clear K2; have K2 := K2'.out; clear K2')
  go_region
  go_wp2
  (refine bodyPost_retB (v := .tuple #[hdrV Hdr.zero, .slice none 0 0, .slice none 0 0, errV (ec, eo)]) (by (simp only [results, Tryz.results120]; try go_simp)) rfl rfl ?_; ((repeat' (first | (with_reducible exact Below.refl _ _) | (with_reducible assumption) | (with_reducible refine Below.setCell ?_ ?_ _) | (with_reducible refine Below.alloc ?_ ?_ _) | (with_reducible refine Below.drew ?_) | (with_reducible refine below_drewN ?_ _) | (with_reducible refine Below.step (by with_reducible assumption) ?_ ?_))) <;> (first | omega | (simp; done) | (simp; omega))))
end Go.Proofs.YtejmkefdcjachaaGreatDoor
end

/- Walk over the reference of layer 2: Next, beyond its header. -/
section
set_option linter.unusedSimpArgs false
set_option linter.unusedVariables false
namespace Go.Proofs.YtejmkefdcjachaaGreatDoor
open Go.RowKit Go.Cr

set_option maxRecDepth 100000 in
set_option maxHeartbeats 2000000 in
theorem rNext_short (v : Value) (l : List UInt8) (w : World) (hw : IsB w v l) (h : Hdr) (hr : rdHdr l = .ok h) (hs : (l.length : Int) - h.size < h.len) :
    Calls Tryz.prog 120 #[v] w (RetB (.tuple #[hdrV Hdr.zero, .slice none 0 0, .slice none 0 0, errV (1, l.length)]) w) := by
  obtain ⟨hc, hnm, hcn, hln, hsz⟩ := h
  have hbd := rdHdr_ok hr
  have HR : Hid (∀ W, IsB W v l → Calls Tryz.prog 136 #[v] W (RetB (.tuple #[hdrV ⟨hc, hnm, hcn, hln, hsz⟩, errV (0, 0)]) W)) := by
    intro W h
    have := rReadHdr v _ W h
    rwa [hr] at this
  have hlen := hw.len ulB
  have hmx := hw.maxl
  have HB := Lib.hid hw
  simp only at hbd hs
  obtain ⟨hb1, hb2, hb3, hb4, hb5, _⟩ := hbd
  clear hw hr
  simp only [hdrV, errV] at HR
  go_enter Tryz.func120, Tryz.ntmps120
  go_wp2_with (first | (go_at_call 136; (with_reducible refine (HR.out _ ((HB.out.alloc _).alloc _)).mono ?_); rintro e w1 ⟨rfl, hbw1⟩; obtain ⟨hcw1, hfw1⟩ := bcell hbw1; have hzw1 := hbw1.size; (try simp at hzw1); have hyw1 : w.heap.size < w1.heap.size := (by omega); (try have hyaw1 : w.heap.size + 1 < w1.heap.size := (by omega)); (try have hybw1 : w.heap.size + 2 < w1.heap.size := (by omega)); (try have hycw1 : w.heap.size + 3 < w1.heap.size := (by omega)); (try have hydw1 : w.heap.size + 4 < w1.heap.size := (by omega)); clear hzw1); have K1 := Blk.call ((Blk.new w 133 #[.int .i64 0, .int .i64 0, .bool false, .int .i64 0, .int .i64 0]).alloc _) hbw1; have lK1 := K1.lt; have qK1 := K1.q; have rK1 := K1.fz; have K1' := Lib.hid K1; clear K1; have K1 := K1'.out; clear K1'; have K2 := Blk.call (Blk.new (w.alloc _) 41 #[.int .i64 0, .int .i64 0]) hbw1; have lK2 := K2.lt; have qK2 := K2.q; have rK2 := K2.fz; have K2' := Lib.hid K2; clear K2; have K2 := K2'.out; clear K2')
  (refine bodyPost_retB (v := .tuple #[hdrV Hdr.zero, .slice none 0 0, .slice none 0 0, errV (1, l.length)]) (by (simp only [results, Tryz.results120]; try go_simp)) rfl rfl ?_; ((repeat' (first | (with_reducible exact Below.refl _ _) | (with_reducible assumption) | (with_reducible refine Below.setCell ?_ ?_ _) | (with_reducible refine Below.alloc ?_ ?_ _) | (with_reducible refine Below.drew ?_) | (with_reducible refine below_drewN ?_ _) | (with_reducible refine Below.step (by with_reducible assumption) ?_ ?_))) <;> (first | omega | (simp; done) | (simp; omega))))

set_option maxRecDepth 100000 in
set_option maxHeartbeats 4000000 in
theorem rNext_ok (v : Value) (l : List UInt8) (w : World) (hw : IsB w v l) (h : Hdr) (hr : rdHdr l = .ok h) (hs : h.len ≤ (l.length : Int) - h.size) :
    Calls Tryz.prog 120 #[v] w (RetN h l w) := by
  obtain ⟨hc, hnm, hcn, hln, hsz⟩ := h
  have hbd := rdHdr_ok hr
  have HR : Hid (∀ W, IsB W v l → Calls Tryz.prog 136 #[v] W (RetB (.tuple #[hdrV ⟨hc, hnm, hcn, hln, hsz⟩, errV (0, 0)]) W)) := by
    intro W h
    have := rReadHdr v _ W h
    rwa [hr] at this
  have hlen := hw.len ulB
  have hmx := hw.maxl
  have HB := Lib.hid hw
  simp only at hbd hs
  obtain ⟨hb1, hb2, hb3, hb4, hb5, _⟩ := hbd
  obtain ⟨v1, hcut1, hv1⟩ := hw.cut (P := Tryz.prog) ulB szB .i64 .i64 (lo := hsz) (hi := hsz + hln) (by omega) (by omega) (by omega)
  obtain ⟨v2, hcut2, hv2⟩ := hw.cutLo (P := Tryz.prog) ulB szB .i64 (lo := hsz + hln) (by omega) (by omega)
  have hwr : IntKind.i64.wrap (hsz + hln) = hsz + hln := IntWalk.i64_in _ (by omega)
  have H1 : Hid (IsB w v1 (seg l hsz (hsz + hln))) := hv1
  have H2 : Hid (IsB w v2 (l.drop (hsz + hln).toNat)) := hv2
  clear hw hr hv1 hv2
  simp only [hdrV, errV] at HR
  go_enter Tryz.func120, Tryz.ntmps120
  go_wp2_with (first | (go_at_call 136; (with_reducible refine (HR.out _ ((HB.out.alloc _).alloc _)).mono ?_); rintro e w1 ⟨rfl, hbw1⟩; obtain ⟨hcw1, hfw1⟩ := bcell hbw1; have hzw1 := hbw1.size; (try simp at hzw1); have hyw1 : w.heap.size < w1.heap.size := (by omega); (try have hyaw1 : w.heap.size + 1 < w1.heap.size := (by omega)); (try have hybw1 : w.heap.size + 2 < w1.heap.size := (by omega)); (try have hycw1 : w.heap.size + 3 < w1.heap.size := (by omega)); (try have hydw1 : w.heap.size + 4 < w1.heap.size := (by omega)); clear hzw1); have K1 := Blk.call ((Blk.new w 133 #[.int .i64 0, .int .i64 0, .bool false, .int .i64 0, .int .i64 0]).alloc _) hbw1; have lK1 := K1.lt; have qK1 := K1.q; have rK1 := K1.fz; have K1' := Lib.hid K1; clear K1; have K1 := K1'.out; clear K1'; have K2 := Blk.call (Blk.new (w.alloc _) 41 #[.int .i64 0, .int .i64 0]) hbw1; have lK2 := K2.lt; have qK2 := K2.q; have rK2 := K2.fz; have K2' := Lib.hid K2; clear K2; have K2 := K2'.out; clear K2')
  go_region
  go_wp2
  refine bodyPost_ret (v := .tuple #[hdrV ⟨hc, hnm, hcn, hln, hsz⟩, v1, v2, errV (0, 0)]) (by (simp only [results, Tryz.results120]; try go_simp)) rfl ?_
  have hB : ∀ W, Below w.heap.size w W → RetN ⟨hc, hnm, hcn, hln, hsz⟩ l w (.returned (.tuple #[hdrV ⟨hc, hnm, hcn, hln, hsz⟩, v1, v2, errV (0, 0)])) W :=
    fun W h => ⟨v1, v2, rfl, H1.out.below h, H2.out.below h, h⟩
  refine hB _ ?_
  ((repeat' (first | (with_reducible exact Below.refl _ _) | (with_reducible assumption) | (with_reducible refine Below.setCell ?_ ?_ _) | (with_reducible refine Below.alloc ?_ ?_ _) | (with_reducible refine Below.drew ?_) | (with_reducible refine below_drewN ?_ _) | (with_reducible refine Below.step (by with_reducible assumption) ?_ ?_))) <;> (first | omega | (simp; done) | (simp; omega)))
end Go.Proofs.YtejmkefdcjachaaGreatDoor
end

/- Walks over the reference of layer 9: One. -/
section
set_option linter.unusedSimpArgs false
set_option linter.unusedVariables false
namespace Go.Proofs.YtejmkefdcjachaaGreatDoor
open Go.RowKit Go.Cr

theorem rNext_err (v : Value) (l : List UInt8) (w : World) (hw : IsB w v l) {ec eo : Int} (hr : nextH l = .error (ec, eo)) :
    Calls Tryz.prog 120 #[v] w (RetB (.tuple #[hdrV Hdr.zero, .slice none 0 0, .slice none 0 0, errV (ec, eo)]) w) := by
  unfold nextH at hr
  split at hr
  · rename_i e he
    injection hr with hr; subst hr
    exact rNext_hdr v l w hw ec eo he
  · rename_i h hh
    split at hr
    · rename_i hs
      injection hr with hr; injection hr with h1 h2; subst h1 h2
      exact rNext_short v l w hw h hh hs
    · cases hr
theorem rNext_good (v : Value) (l : List UInt8) (w : World) (hw : IsB w v l) {h : Hdr} (hr : nextH l = .ok h) :
    Calls Tryz.prog 120 #[v] w (RetN h l w) := by
  unfold nextH at hr
  split at hr
  · cases hr
  · rename_i h hh
    split at hr
    · cases hr
    · rename_i hs
      injection hr with hr; subst hr
      exact rNext_ok v l w hw _ hh (by omega)

end Go.Proofs.YtejmkefdcjachaaGreatDoor
end

/- Walks over the references' Put. -/
section
set_option linter.unusedSimpArgs false
set_option linter.unusedVariables false
namespace Go.Proofs.YtejmkefdcjachaaGreatDoor
open Go.RowKit Go.Cr

set_option maxRecDepth 100000 in
set_option maxHeartbeats 2000000 in
theorem rPut (x : UInt8) (v : Value) (l : List UInt8) (w : World) (hv : IsB w v l) (hl : l.length ≤ 900000) :
    Calls Tryz.prog 41 #[.int .u8 (bi x), v] w (RetO 5 (x :: (lenOct l.length ++ l)) w) := by
  have hln := hv.len ulB
  have HV := Lib.hid hv
  have HL := Lib.hid (rLength l.length · (by omega) (by omega))
  obtain ⟨hm1, hm2⟩ := lenOct_len l.length
  rw [Int.toNat_natCast] at HL
  have hl' : (l.length : Int) ≤ 900000 := by omega
  clear hv
  generalize lenOct l.length = m at *
  go_enter Tryz.func41, Tryz.ntmps41
  go_wp2_with (first | (go_at_call 72; (with_reducible refine (HL.out _).mono ?_); rintro e w1 ⟨v1, rfl, ho, hb1⟩; have HO := Lib.hid ho; clear ho) | (at_builtin; refine wpList_appB _ rfl _ _ 22 rfl w.heap.size 5 ulB infoB _ [x] rfl (OwB.one _ _ _ hb1.size) _ m rfl (HO.out.isB.alloc _) ?k1 ?k2 ?_))
  case k1 => simp; omega
  case k2 => have := hb1.size; simp; omega
  intro v2 w2 ho2 _ hb2
  have HO2 := Lib.hid ho2
  have hb3 : Below w.heap.size w w2 := (hb1.alloc hb1.size _).trans hb2
  clear ho2 hb2
  go_wp2_with (at_builtin; refine wpList_appB _ rfl _ _ 22 rfl w.heap.size 5 ulB infoB _ _ rfl HO2.out _ l rfl (HV.out.below hb3) ?k1 ?k2 ?_)
  case k1 => simp; omega
  case k2 => exact hb3.size
  intro v3 w3 ho3 _ hb4
  have HO3 := Lib.hid ho3
  clear ho3
  go_wp2
  go_ret
  exact ⟨_, rfl, by simpa using HO3.out, hb3.trans hb4⟩

def PsRel (ls : List (List UInt8)) (w : World) (out ix : Value) (wr : World) : Prop :=
  ∃ k : Nat, ix = .int .i64 k ∧ k ≤ ls.length ∧ OwB wr w.heap.size 5 out (cat ls k) ∧ Below w.heap.size w wr

set_option maxRecDepth 100000 in
set_option maxHeartbeats 2000000 in
theorem rPuts (x : UInt8) (v : Value) (ls : List (List UInt8)) (w : World) (hv : IsBs w v ls) (hl : ls.flatten.length ≤ 900000) :
    Calls Tryz.prog 47 #[.int .u8 (bi x), v] w (RetO 5 (x :: (lenOct ls.flatten.length ++ ls.flatten)) w) := by
  have hln := hv.len ulBs
  have hmx := hv.maxl
  have HV := Lib.hid hv
  have HP := Lib.hid (fun W u (h : IsB W u ls.flatten) => rPut x u ls.flatten W h hl)
  have hcl : ∀ k, (cat ls k).length ≤ 900000 := fun k => by have := cat_le ls k; omega
  have HCL := Lib.hid hcl
  clear hv hcl
  generalize x :: (lenOct ls.flatten.length ++ ls.flatten) = R at *
  generalize hy : bi x = y at *
  clear hy
  go_enter Tryz.func47, Tryz.ntmps47
  go_wp2_with fail
  go_loopw [5, 6] (fun out ix wr => PsRel ls w out ix wr) (fun _ ix _ => ls.length - (intOf ix).toNat)
  case atStart => exact ⟨0, rfl, Nat.zero_le _, by rw [cat_zero]; exact OwB.nil_ _ _ _, Below.refl _ _⟩
  case round =>
    obtain ⟨k, rfl, hk, hO, hbel⟩ := hrel
    have HO := Lib.hid hO
    have HBR := Lib.hid hbel
    clear hO
    by_cases hlt : k < ls.length
    · obtain ⟨b, o, u, hi, hbl, hc, hu⟩ := HV.out.at_ (P := Tryz.prog) ulBs szBs .i64 (i := k) (by omega) (by omega)
      simp only [Int.toNat_natCast] at hu
      have hc' := (hbel.cell (p := ⟨b, o, none⟩) hbl).trans hc
      have hltI : (k : Int) < ls.length := by omega
      have HU := Lib.hid (hu.below hbel)
      have HS := Lib.hid (cat_succ ls k hlt)
      have hc1 := HCL.out k
      have hc2 := HCL.out (k + 1)
      rw [HS.out, List.length_append] at hc2
      clear hc hu hbel
      generalize ls.getD k [] = p at *
      go_wp2_with (at_builtin; refine wpList_appB _ rfl _ _ 22 rfl w.heap.size 5 ulB infoB _ _ rfl HO.out _ p rfl HU.out ?k1 ?k2 ?_)
      case k1 => omega
      case k2 => exact HBR.out.size
      intro v2 w2 ho2 _ hb2
      rw [← HS.out] at ho2
      have HO2 := Lib.hid ho2
      have hbel2 : Below w.heap.size w w2 := HBR.out.trans hb2
      clear ho2 hb2
      go_wp2
      go_roundw
      case rel => exact ⟨k + 1, by go_num, by omega, HO2.out, hbel2⟩
      case measure => simp [intOf]; omega
    · have hge : (ls.length : Int) ≤ k := by omega
      have ho' : IsB wr u5 ls.flatten := by
        have := HO.out.isB
        rwa [show k = ls.length by omega, cat_all] at this
      have HO5 := Lib.hid ho'
      clear hlt ho' hbel
      go_wp2_with (first | (go_at_call 41; (with_reducible refine (HP.out _ _ HO5.out).mono ?_); rintro e w2 ⟨v2, rfl, ho2, hb2⟩; have HO2 := Lib.hid ho2; clear ho2))
      go_ret
      exact ⟨_, rfl, HO2.out.more HBR.out.size, HBR.out.trans (hb2.mono HBR.out.size)⟩
end Go.Proofs.YtejmkefdcjachaaGreatDoor
end
