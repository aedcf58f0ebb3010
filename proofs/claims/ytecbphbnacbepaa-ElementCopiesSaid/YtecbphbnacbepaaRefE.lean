/- Walk over the reference of layer 2: Next, beyond its header. -/
import Derived.Test.YtecbphbnacbepaaRefD
import Derived.IntWalk
set_option linter.unusedSimpArgs false
set_option linter.unusedVariables false
namespace Go.Proofs.Ytecbphbnacbepaa
open Go.RowKit Go.Cr

set_option maxRecDepth 100000 in
set_option maxHeartbeats 2000000 in
theorem rNext_short (v : Value) (l : List UInt8) (w : World) (hw : IsB w v l) (h : Hdr) (hr : rdHdr l = .ok h) (hs : (l.length : Int) - h.size < h.len) :
    Calls Try.prog 36 #[v] w (RetB (.tuple #[hdrV Hdr.zero, .slice none 0 0, .slice none 0 0, errV (1, l.length)]) w) := by
  obtain ⟨hc, hnm, hcn, hln, hsz⟩ := h
  have hbd := rdHdr_ok hr
  have HR : Hid (∀ W, IsB W v l → Calls Try.prog 49 #[v] W (RetB (.tuple #[hdrV ⟨hc, hnm, hcn, hln, hsz⟩, errV (0, 0)]) W)) := by
    intro W h
    have := rReadHdr v _ W h
    rwa [hr] at this
  have hlen := hw.len ulB
  have hmx := hw.maxl
  have HB := Lib.hid hw
  simp only at hbd hs
  obtain ⟨hb1, hb2, hb3, hb4, hb5, _⟩ := hbd
  clear hw hr
  simp only [hdrV, errV] at HR
  go_enter Try.func36, Try.ntmps36
  go_wp2_with (first | (go_at_call 49; (with_reducible refine (HR.out _ ((HB.out.alloc _).alloc _)).mono ?_); rintro e w1 ⟨rfl, hbw1⟩; obtain ⟨hcw1, hfw1⟩ := bcell hbw1; have hzw1 := hbw1.size; (try simp at hzw1); have hyw1 : w.heap.size < w1.heap.size := (by omega); (try have hyaw1 : w.heap.size + 1 < w1.heap.size := (by omega)); (try have hybw1 : w.heap.size + 2 < w1.heap.size := (by omega)); (try have hycw1 : w.heap.size + 3 < w1.heap.size := (by omega)); (try have hydw1 : w.heap.size + 4 < w1.heap.size := (by omega)); clear hzw1); have K1 := Blk.call ((Blk.new w 61 #[.int .i64 0, .int .i64 0, .bool false, .int .i64 0, .int .i64 0]).alloc _) hbw1; have lK1 := K1.lt; have qK1 := K1.q; have rK1 := K1.fz; have K1' := Lib.hid K1; clear K1; have K1 := K1'.out; clear K1'; have K2 := Blk.call (Blk.new (w.alloc _) 33 #[.int .i64 0, .int .i64 0]) hbw1; have lK2 := K2.lt; have qK2 := K2.q; have rK2 := K2.fz; have K2' := Lib.hid K2; clear K2; have K2 := K2'.out; clear K2')
  (refine bodyPost_retB (v := .tuple #[hdrV Hdr.zero, .slice none 0 0, .slice none 0 0, errV (1, l.length)]) (by (simp only [results, Try.results36]; try go_simp)) rfl rfl ?_; ((repeat' (first | (with_reducible exact Below.refl _ _) | (with_reducible assumption) | (with_reducible refine Below.setCell ?_ ?_ _) | (with_reducible refine Below.alloc ?_ ?_ _) | (with_reducible refine Below.drew ?_) | (with_reducible refine below_drewN ?_ _) | (with_reducible refine Below.step (by with_reducible assumption) ?_ ?_))) <;> (first | omega | (simp; done) | (simp; omega))))

set_option maxRecDepth 100000 in
set_option maxHeartbeats 4000000 in
theorem rNext_ok (v : Value) (l : List UInt8) (w : World) (hw : IsB w v l) (h : Hdr) (hr : rdHdr l = .ok h) (hs : h.len ≤ (l.length : Int) - h.size) :
    Calls Try.prog 36 #[v] w (RetN h l w) := by
  obtain ⟨hc, hnm, hcn, hln, hsz⟩ := h
  have hbd := rdHdr_ok hr
  have HR : Hid (∀ W, IsB W v l → Calls Try.prog 49 #[v] W (RetB (.tuple #[hdrV ⟨hc, hnm, hcn, hln, hsz⟩, errV (0, 0)]) W)) := by
    intro W h
    have := rReadHdr v _ W h
    rwa [hr] at this
  have hlen := hw.len ulB
  have hmx := hw.maxl
  have HB := Lib.hid hw
  simp only at hbd hs
  obtain ⟨hb1, hb2, hb3, hb4, hb5, _⟩ := hbd
  obtain ⟨v1, hcut1, hv1⟩ := hw.cut (P := Try.prog) ulB szB .i64 .i64 (lo := hsz) (hi := hsz + hln) (by omega) (by omega) (by omega)
  obtain ⟨v2, hcut2, hv2⟩ := hw.cutLo (P := Try.prog) ulB szB .i64 (lo := hsz + hln) (by omega) (by omega)
  have hwr : IntKind.i64.wrap (hsz + hln) = hsz + hln := IntWalk.i64_in _ (by omega)
  have H1 : Hid (IsB w v1 (seg l hsz (hsz + hln))) := hv1
  have H2 : Hid (IsB w v2 (l.drop (hsz + hln).toNat)) := hv2
  clear hw hr hv1 hv2
  simp only [hdrV, errV] at HR
  go_enter Try.func36, Try.ntmps36
  go_wp2_with (first | (go_at_call 49; (with_reducible refine (HR.out _ ((HB.out.alloc _).alloc _)).mono ?_); rintro e w1 ⟨rfl, hbw1⟩; obtain ⟨hcw1, hfw1⟩ := bcell hbw1; have hzw1 := hbw1.size; (try simp at hzw1); have hyw1 : w.heap.size < w1.heap.size := (by omega); (try have hyaw1 : w.heap.size + 1 < w1.heap.size := (by omega)); (try have hybw1 : w.heap.size + 2 < w1.heap.size := (by omega)); (try have hycw1 : w.heap.size + 3 < w1.heap.size := (by omega)); (try have hydw1 : w.heap.size + 4 < w1.heap.size := (by omega)); clear hzw1); have K1 := Blk.call ((Blk.new w 61 #[.int .i64 0, .int .i64 0, .bool false, .int .i64 0, .int .i64 0]).alloc _) hbw1; have lK1 := K1.lt; have qK1 := K1.q; have rK1 := K1.fz; have K1' := Lib.hid K1; clear K1; have K1 := K1'.out; clear K1'; have K2 := Blk.call (Blk.new (w.alloc _) 33 #[.int .i64 0, .int .i64 0]) hbw1; have lK2 := K2.lt; have qK2 := K2.q; have rK2 := K2.fz; have K2' := Lib.hid K2; clear K2; have K2 := K2'.out; clear K2')
  go_region
  go_wp2
  refine bodyPost_ret (v := .tuple #[hdrV ⟨hc, hnm, hcn, hln, hsz⟩, v1, v2, errV (0, 0)]) (by (simp only [results, Try.results36]; try go_simp)) rfl ?_
  have hB : ∀ W, Below w.heap.size w W → RetN ⟨hc, hnm, hcn, hln, hsz⟩ l w (.returned (.tuple #[hdrV ⟨hc, hnm, hcn, hln, hsz⟩, v1, v2, errV (0, 0)])) W :=
    fun W h => ⟨v1, v2, rfl, H1.out.below h, H2.out.below h, h⟩
  refine hB _ ?_
  ((repeat' (first | (with_reducible exact Below.refl _ _) | (with_reducible assumption) | (with_reducible refine Below.setCell ?_ ?_ _) | (with_reducible refine Below.alloc ?_ ?_ _) | (with_reducible refine Below.drew ?_) | (with_reducible refine below_drewN ?_ _) | (with_reducible refine Below.step (by with_reducible assumption) ?_ ?_))) <;> (first | omega | (simp; done) | (simp; omega)))
end Go.Proofs.Ytecbphbnacbepaa
