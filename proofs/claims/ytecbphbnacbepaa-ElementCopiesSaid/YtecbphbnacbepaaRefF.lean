/- Walks over the reference of layer 9: One. -/
import Derived.Test.YtecbphbnacbepaaRefE
import Derived.Test.YtecbphbnacbepaaSpecG
set_option linter.unusedSimpArgs false
set_option linter.unusedVariables false
namespace Go.Proofs.Ytecbphbnacbepaa
open Go.RowKit Go.Cr

theorem rNext_err (v : Value) (l : List UInt8) (w : World) (hw : IsB w v l) {ec eo : Int} (hr : nextH l = .error (ec, eo)) :
    Calls Try.prog 36 #[v] w (RetB (.tuple #[hdrV Hdr.zero, .slice none 0 0, .slice none 0 0, errV (ec, eo)]) w) := by
  unfold nextH at hr
  split at hr
  · rename_i e he
    injection hr with hr; subst hr
    exact rNext_hdr v l w hw ec eo he
  · rename_i h hh
    split at hr
    · rename_i hs
      injection hr with hr; injection hr with h1 h2; subst h1 h2
      exact rNext_short v l w hw h hh hs
    · cases hr
theorem rNext_good (v : Value) (l : List UInt8) (w : World) (hw : IsB w v l) {h : Hdr} (hr : nextH l = .ok h) :
    Calls Try.prog 36 #[v] w (RetN h l w) := by
  unfold nextH at hr
  split at hr
  · cases hr
  · rename_i h hh
    split at hr
    · cases hr
    · rename_i hs
      injection hr with hr; subst hr
      exact rNext_ok v l w hw _ hh (by omega)

set_option maxRecDepth 100000 in
set_option maxHeartbeats 4000000 in
theorem rOne (v : Value) (l : List UInt8) (w : World) (hw : IsB w v l) :
    Calls Try.prog 15 #[v] w (RetB (elR (oneE l)) w) := by
  have hm := hw.maxl
  have hlen := hw.len ulB
  have HB := Lib.hid hw
  cases hr : nextH l with
  | error er =>
    obtain ⟨ec, eo⟩ := er
    have hbd := nextH_err hr
    have HV : Hid (elR (oneE l) = .tuple #[elV Elem.zero, errV (ec, eo)]) := by show elR (oneE l) = _; rw [oneE_H, hr]; rfl
    have HR : Hid (∀ W, IsB W v l → Calls Try.prog 36 #[v] W (RetB (.tuple #[hdrV Hdr.zero, .slice none 0 0, .slice none 0 0, errV (ec, eo)]) W)) := fun W h => rNext_err v l W h hr
    have hn' : (ec != 0) = true := by simp; omega
    clear hw hr hbd
    simp only [hdrV, errV, Hdr.zero] at HR
    go_enter Try.func15, Try.ntmps15
    go_wp2_with (first | (go_at_call 36; (with_reducible refine (HR.out _ ((HB.out.alloc _).alloc _)).mono ?_); rintro e w1 ⟨rfl, hbw1⟩; obtain ⟨hcw1, hfw1⟩ := bcell hbw1; have hzw1 := hbw1.size; (try simp at hzw1); have hyw1 : w.heap.size < w1.heap.size := (by omega); (try have hyaw1 : w.heap.size + 1 < w1.heap.size := (by omega)); (try have hybw1 : w.heap.size + 2 < w1.heap.size := (by omega)); (try have hycw1 : w.heap.size + 3 < w1.heap.size := (by omega)); (try have hydw1 : w.heap.size + 4 < w1.heap.size := (by omega)); clear hzw1); have K1 := Blk.call ((Blk.new w 27 #[.int .i64 0, .int .i64 0, .bool false, .int .i64 0, .int .i64 0, .int .i64 0]).alloc _) hbw1; have lK1 := K1.lt; have qK1 := K1.q; have rK1 := K1.fz; have K1' := Lib.hid K1; clear K1; have K1 := K1'.out; clear K1'; have K2 := Blk.call (Blk.new (w.alloc _) 33 #[.int .i64 0, .int .i64 0]) hbw1; have lK2 := K2.lt; have qK2 := K2.q; have rK2 := K2.fz; have K2' := Lib.hid K2; clear K2; have K2 := K2'.out; clear K2')
    go_region
    go_wp2
    (refine bodyPost_retB (by (simp only [results, Try.results15]; try go_simp)) rfl HV.out.symm ?_; ((repeat' (first | (with_reducible exact Below.refl _ _) | (with_reducible assumption) | (with_reducible refine Below.setCell ?_ ?_ _) | (with_reducible refine Below.alloc ?_ ?_ _) | (with_reducible refine Below.drew ?_) | (with_reducible refine below_drewN ?_ _) | (with_reducible refine Below.step (by with_reducible assumption) ?_ ?_))) <;> (first | omega | (simp; done) | (simp; omega))))
  | ok h =>
    have hbd := nextH_ok hr
    have HR0 : Hid (∀ W, IsB W v l → Calls Try.prog 36 #[v] W (RetN h l W)) := fun W hh => rNext_good v l W hh hr
    obtain ⟨hc, hnm, hcn, hln, hsz⟩ := h
    simp only at hbd
    obtain ⟨hb1, hb2, hb3, hb4⟩ := hbd
    have HR : Hid (∀ W, IsB W v l → Calls Try.prog 36 #[v] W (fun e w' => ∃ c r, e = .returned (.tuple #[.agg #[.int .i64 hc, .int .i64 hnm, .bool hcn, .int .i64 hln, .int .i64 hsz], c, r, .agg #[.int .i64 0, .int .i64 0]]) ∧ IsB w' c (seg l hsz (hsz + hln)) ∧ IsB w' r (l.drop (hsz + hln).toNat) ∧ Below W.heap.size W w')) := HR0
    have hdl : ((l.drop (hsz + hln).toNat).length : Int) = l.length - (hsz + hln) := by simp; omega
    have HD := Lib.hid hdl
    clear HR0 hw hdl
    by_cases hlt : hsz + hln < l.length
    · have HV : Hid (elR (oneE l) = .tuple #[elV Elem.zero, errV (2, (l.length : Int) - ((l.length : Int) - (hsz + hln)))]) := by show elR (oneE l) = _; rw [oneE_H, hr]; simp only; rw [if_pos hlt, show (l.length : Int) - ((l.length : Int) - (hsz + hln)) = hsz + hln by omega]; rfl
      clear hr
      go_enter Try.func15, Try.ntmps15
      go_wp2_with (first | ((go_at_call 36); (with_reducible refine (HR.out _ ((HB.out.alloc _).alloc _)).mono ?_); rintro e w1 ⟨c, r, rfl, hcc, hrr, hbw1⟩; obtain ⟨hcw1, hfw1⟩ := bcell hbw1; have hzw1 := hbw1.size; (try simp at hzw1); have hyw1 : w.heap.size < w1.heap.size := (by omega); (try have hyaw1 : w.heap.size + 1 < w1.heap.size := (by omega)); (try have hybw1 : w.heap.size + 2 < w1.heap.size := (by omega)); (try have hycw1 : w.heap.size + 3 < w1.heap.size := (by omega)); (try have hydw1 : w.heap.size + 4 < w1.heap.size := (by omega)); clear hzw1; have K1 := Blk.call ((Blk.new w 27 #[.int .i64 0, .int .i64 0, .bool false, .int .i64 0, .int .i64 0, .int .i64 0]).alloc _) hbw1; have lK1 := K1.lt; have qK1 := K1.q; have rK1 := K1.fz; have K1' := Lib.hid K1; clear K1; have K1 := K1'.out; clear K1'; have K2 := Blk.call (Blk.new (w.alloc _) 33 #[.int .i64 0, .int .i64 0]) hbw1; have lK2 := K2.lt; have qK2 := K2.q; have rK2 := K2.fz; have K2' := Lib.hid K2; clear K2; have K2 := K2'.out; clear K2'; have hrl := hrr.len ulB; rw [HD.out] at hrl; clear hcc hrr))
      (refine bodyPost_retB (by (simp only [results, Try.results15]; try go_simp)) rfl HV.out.symm ?_; ((repeat' (first | (with_reducible exact Below.refl _ _) | (with_reducible assumption) | (with_reducible refine Below.setCell ?_ ?_ _) | (with_reducible refine Below.alloc ?_ ?_ _) | (with_reducible refine Below.drew ?_) | (with_reducible refine below_drewN ?_ _) | (with_reducible refine Below.step (by with_reducible assumption) ?_ ?_))) <;> (first | omega | (simp; done) | (simp; omega))))
    · have HV : Hid (elR (oneE l) = .tuple #[elV ⟨hc, hnm, hcn, 0, hsz, l.length⟩, errV (0, 0)]) := by show elR (oneE l) = _; rw [oneE_H, hr]; simp only; rw [if_neg hlt]; rfl
      clear hr
      go_enter Try.func15, Try.ntmps15
      go_wp2_with (first | ((go_at_call 36); (with_reducible refine (HR.out _ ((HB.out.alloc _).alloc _)).mono ?_); rintro e w1 ⟨c, r, rfl, hcc, hrr, hbw1⟩; obtain ⟨hcw1, hfw1⟩ := bcell hbw1; have hzw1 := hbw1.size; (try simp at hzw1); have hyw1 : w.heap.size < w1.heap.size := (by omega); (try have hyaw1 : w.heap.size + 1 < w1.heap.size := (by omega)); (try have hybw1 : w.heap.size + 2 < w1.heap.size := (by omega)); (try have hycw1 : w.heap.size + 3 < w1.heap.size := (by omega)); (try have hydw1 : w.heap.size + 4 < w1.heap.size := (by omega)); clear hzw1; have K1 := Blk.call ((Blk.new w 27 #[.int .i64 0, .int .i64 0, .bool false, .int .i64 0, .int .i64 0, .int .i64 0]).alloc _) hbw1; have lK1 := K1.lt; have qK1 := K1.q; have rK1 := K1.fz; have K1' := Lib.hid K1; clear K1; have K1 := K1'.out; clear K1'; have K2 := Blk.call (Blk.new (w.alloc _) 33 #[.int .i64 0, .int .i64 0]) hbw1; have lK2 := K2.lt; have qK2 := K2.q; have rK2 := K2.fz; have K2' := Lib.hid K2; clear K2; have K2 := K2'.out; clear K2'; have hrl := hrr.len ulB; rw [HD.out] at hrl; clear hcc hrr))
      (refine bodyPost_retB (by (simp only [results, Try.results15]; try go_simp)) rfl HV.out.symm ?_; ((repeat' (first | (with_reducible exact Below.refl _ _) | (with_reducible assumption) | (with_reducible refine Below.setCell ?_ ?_ _) | (with_reducible refine Below.alloc ?_ ?_ _) | (with_reducible refine Below.drew ?_) | (with_reducible refine below_drewN ?_ _) | (with_reducible refine Below.step (by with_reducible assumption) ?_ ?_))) <;> (first | omega | (simp; done) | (simp; omega))))
end Go.Proofs.Ytecbphbnacbepaa
