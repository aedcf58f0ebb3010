/- Any bytes are the element of the reference implementation, or have its error; for every slice of bytes that comes in. -/
import Derived.Test.YtecbphbnacbepaaAwake
import Derived.WalkKit
import Derived.ProofKit
import Derived.OpenShut
import Derived.ShutString
import Derived.ChangeOld
import Derived.Below
set_option linter.unusedSimpArgs false
set_option linter.unusedVariables false
namespace Go.Proofs.Ytecbphbnacbepaa.ElementOneDone
open Go.ChangeShapes Go.WideShapes Go.ChangeAt Go.RowKit Go.Cr
open Go.Proofs.Ytecbphbnacbepaa

theorem own : ownKnob Try.prog.godebug = none := by kernel_rfl
theorem laidOut : laidOutB Try.prog = true := by kernel_rfl

theorem one_parts (l : List UInt8) : ∃ x c o, elR (oneE l) = .tuple #[elV x, errV (c, o)] ∧ ((c = 0 ∧ o = 0) ∨ (0 < c ∧ 0 ≤ o ∧ o ≤ l.length)) := by
  cases h : oneE l with
  | ok x => exact ⟨x, 0, 0, rfl, .inl ⟨rfl, rfl⟩⟩
  | error e =>
    obtain ⟨c, o⟩ := e
    refine ⟨Elem.zero, c, o, rfl, .inr ?_⟩
    have := oneE_err h
    obtain ⟨h1, _, h2, h3⟩ := this
    exact ⟨h1, h2, h3⟩

theorem blk_at {w : World} {t : TypeId} {cs : Array Value} {g : Nat} (hg : g = w.heap.size) : Blk (w.alloc (.cells cs t)) g t cs := by subst hg; exact Blk.new w t cs

set_option maxRecDepth 100000 in
set_option maxHeartbeats 4000000 in
theorem walk (v : Value) (l : List UInt8) (w : World) (hv : IsB w v l) : Calls Try.prog 4 #[v] w (RetB (.bool true) w) := by
  have hlen := hv.len ulB
  have HB := Lib.hid hv
  clear hv
  by_cases hl : (l.length : Int) ≤ 2000
  · obtain ⟨⟨xc, xn, xk, xs, xb, xe⟩, c, o, he, hco⟩ := one_parts l
    have H1 : Hid (∀ W, IsB W v l → Calls Try.prog 14 #[v] W (RetB (.tuple #[.agg #[.int .i64 xc, .int .i64 xn, .bool xk, .int .i64 xs, .int .i64 xb, .int .i64 xe], .agg #[.int .i64 c, .int .i64 o]]) W)) := fun W h => by
      have := one_any v l W h; rw [he] at this; exact this
    have H2 : Hid (∀ W, IsB W v l → Calls Try.prog 15 #[v] W (RetB (.tuple #[.agg #[.int .i64 xc, .int .i64 xn, .bool xk, .int .i64 xs, .int .i64 xb, .int .i64 xe], .agg #[.int .i64 c, .int .i64 o]]) W)) := fun W h => by
      have := rOne v l W h; rw [he] at this; exact this
    have H3 : Hid (∀ W, Calls Try.prog 16 #[.agg #[.int .i64 c, .int .i64 o], .int .i64 l.length] W (RetB (.bool true) W)) := fun W => within_ok c o l.length W hco
    clear he hco
    go_enter Try.func4, Try.ntmps4
    go_wp2_with (first | (go_at_call 10; (with_reducible refine (awake_any _).mono ?_); rintro e w1 ⟨rfl, hb1⟩) | (go_at_call 14; (with_reducible refine (H1.out _ (HB.out.below hb1)).mono ?_); rintro e w2 ⟨rfl, hb2⟩; have B2 := below_t hb1 hb2; clear hb2) | (go_at_call 15; (with_reducible refine (H2.out _ (((HB.out.below B2).alloc _).alloc _)).mono ?_); rintro e w3 ⟨rfl, hb3⟩; have K1 := Blk.call ((Blk.new w2 27 #[.int .i64 xc, .int .i64 xn, .bool xk, .int .i64 xs, .int .i64 xb, .int .i64 xe]).alloc _) hb3; have lK1 := K1.lt; have qK1 := K1.q; have rK1 := K1.fz; have K1' := Lib.hid K1; clear K1; have K1 := K1'.out; clear K1'; have K2 := Blk.call (blk_at (w := w2.alloc _) (t := 33) (cs := #[.int .i64 c, .int .i64 o]) (g := w2.heap.size + 1) (by simp)) hb3; have lK2 := K2.lt; have qK2 := K2.q; have rK2 := K2.fz; have K2' := Lib.hid K2; clear K2; have K2 := K2'.out; clear K2'; have B3 := below_a (below_a hb3); clear hb3) | (go_at_call 16; (with_reducible refine (H3.out _).mono ?_); rintro e w4 ⟨rfl, hb4⟩))
    have B := below_t (below_t B2 B3) (below_a (below_a hb4))
    (refine bodyPost_retB (v := .bool true) (by (simp only [results, Try.results4]; try go_simp)) rfl rfl ?_; ((repeat' (first | (with_reducible exact Below.refl _ _) | (with_reducible assumption) | (with_reducible refine Below.setCell ?_ ?_ _) | (with_reducible refine Below.alloc ?_ ?_ _) | (with_reducible refine Below.drew ?_) | (with_reducible refine below_drewN ?_ _) | (with_reducible refine Below.step (by with_reducible assumption) ?_ ?_))) <;> (first | omega | (simp; done) | (simp; omega))))
  · go_enter Try.func4, Try.ntmps4
    go_wp2_with (first | (go_at_call 10; (with_reducible refine (awake_any w).mono ?_); rintro e w1 ⟨rfl, hb1⟩) | (go_at_call 10; (with_reducible refine (awake_any _).mono ?_); rintro e w2 ⟨rfl, hb2⟩))
    have B := below_t hb1 hb2
    (refine bodyPost_retB (v := .bool true) (by (simp only [results, Try.results4]; try go_simp)) rfl rfl ?_; ((repeat' (first | (with_reducible exact Below.refl _ _) | (with_reducible assumption) | (with_reducible refine Below.setCell ?_ ?_ _) | (with_reducible refine Below.alloc ?_ ?_ _) | (with_reducible refine Below.drew ?_) | (with_reducible refine below_drewN ?_ _) | (with_reducible refine Below.step (by with_reducible assumption) ?_ ?_))) <;> (first | omega | (simp; done) | (simp; omega))))

theorem isB_open {W : World} {x : Addr} {len cap : Nat} {zs : List Int} (hl : len ≤ cap) (hm : cap ≤ maxLen) (hz : zs.length = cap) (hcell : ∀ i, i < zs.length → W.cell? (x.add i) = some (.int .u8 (zs.getD i 0))) (hwz : ∀ n ∈ zs, (Lit.int .u8 n).wf = true) :
    ∃ l, IsB W (.slice (some x) len cap) l := by
  have hlen : ((zs.take len).map fun n => UInt8.ofNat n.toNat).length = len := by simp; omega
  refine ⟨(zs.take len).map fun n => UInt8.ofNat n.toNat, some x, cap, by rw [hlen], by rw [hlen]; exact hl, hm, fun h0 => ?_⟩
  rw [hlen] at h0
  obtain ⟨b, off, spot⟩ := x
  have hc := hcell 0 (by omega)
  have hspot : spot = none := by simpa [Addr.add] using World.cell?_spot hc
  subst hspot
  refine ⟨b, off, rfl, ?_, fun j hj => ?_⟩
  · rcases Nat.lt_or_ge b W.heap.size with h | h
    · exact h
    · have : (⟨b, off, none⟩ : Addr).add 0 = ⟨b, off, none⟩ := by simp [Addr.add]
      rw [this] at hc
      simp [World.cell?, Array.getElem?_eq_none h] at hc
  · rw [hlen] at hj
    have h1 := hcell j (by omega)
    have h2 : (⟨b, off, none⟩ : Addr).add j = ⟨b, off + j, none⟩ := by simp [Addr.add]
    rw [h2] at h1
    rw [h1]
    have hjz : j < zs.length := by omega
    have hw := hwz zs[j] (List.getElem_mem hjz)
    have h3 : 0 ≤ zs[j] ∧ zs[j] < 256 := by have e1 : IntKind.u8.min = 0 := rfl; have e2 : IntKind.u8.max = 255 := rfl; simp [Lit.wf] at hw; omega
    have h4 : zs.getD j 0 = zs[j] := by simp [List.getD, hjz]
    have h5 : bat ((zs.take len).map fun n => UInt8.ofNat n.toNat) j = zs[j] := by
      rw [bat_eq _ j (by rw [hlen]; exact hj)]
      simp only [List.getElem_map, List.getElem_take, bi_ofNat]
      omega
    rw [h4, h5]

set_option maxRecDepth 100000 in
theorem lifted (os : Os) (started : os.Started) (H : Type) (enc : TypeId × Value → H) :
    ReturnsInHanded {} Try.checked os 4 .any (Rows.elementOneSpec.pre6 enc Try.prog Try.f4 Rows.elementOneRow.domain false) (Rows.elementOneSpec.post enc Try.prog Try.f4 false true false false) := by
  refine returnsInHanded_of_change (C := Try.checked) own started (by kernel_rfl) Try.func4
    (ChangeSpec.witness6 (enc := enc) (C := Try.checked) false ⟨#[], #[.slice none 0 0], []⟩ 8 (by kernel_rfl) (by kernel_rfl) (by kernel_rfl) (by kernel_rfl)) ?_
  intro W base args ds gs before hval0 hW hcnd _
  have hval : ∀ (j : Nat) t v, Try.f4.params[j]? = some t → args[j]? = some v → Value.okWide Try.prog W .any base t v := hval0
  have hW' := hW
  obtain ⟨p, q, hA0, hV, rfl, hfz, hnd⟩ := hW
  have hA : DataW.TrodAll enc Try.prog W 0 (fun _ => true) true Try.f4.params.toList args.toList ds p := hA0
  rw [Try.params4] at hA hval
  obtain ⟨v0, vs0, d0, ds0, p0, q0, hargs, rfl, rfl, h0, r0⟩ := trodAll_cons hA
  obtain ⟨rfl, rfl, rfl⟩ := trodAll_nil r0
  obtain rfl : args = #[v0] := by cases args; simp_all
  obtain ⟨rfl, rfl⟩ := trodVars_none hV
  obtain ⟨a0, len0, cap0, rfl⟩ := okWide_slice ulB (hval 0 30 v0 rfl rfl)
  have k0 := h0
  have lt0 : ∀ x ∈ p0, x.block < W.heap.size := by obtain ⟨m, hm⟩ := k0; exact DataW.trod_lt m _ _ _ hm
  obtain ⟨l, w0⟩ : ∃ l, IsB W (.slice a0 len0 cap0) l := by
    obtain ⟨fuel, hf⟩ := h0
    rcases open_ints ulB ulU8 (by kernel_rfl) hf with ⟨hcs, _⟩ | ⟨x, l, c, zs, hcs, _, hl, hm, hz, _, hcell, hwz⟩
    · simp [Value.cells] at hcs
      obtain ⟨rfl, rfl, rfl⟩ := hcs
      exact ⟨[], IsB.none_ W⟩
    · simp [Value.cells] at hcs
      obtain ⟨rfl, rfl, rfl⟩ := hcs
      exact isB_open hl hm (by simpa using hz) hcell hwz
  clear hA0 hval0
  refine (walk _ l W w0).mono fun e W' ⟨he, bel⟩ => ?_
  subst he
  exact ⟨_, rfl, _, _, _, [], _, [], hW', trodAll_mk1 (shut_bool (by kernel_rfl : Try.prog.underlying 4 = some .bool) _), (trodAll_cons_mk (Below.trod laidOut (by kernel_rfl) (of_decide_eq_true (by kernel_rfl)) k0 bel lt0) trodAll_mk0), rfl, bel.frame _, fun h => by cases h⟩

theorem over : Rows.elementOneRow.holds Try.pinned (OpenSpec.ofChange Rows.elementOneSpec) :=
  OpenClaim.holds_of_wide 4 Try.f4 rfl rfl rfl rfl rfl rfl rfl ⟨rfl, rfl, rfl, rfl, rfl⟩ rfl rfl rfl rfl rfl (by kernel_rfl) Try.func4 (by kernel_rfl)
    (of_decide_eq_true (by kernel_rfl)) (by unfold Func.isWrapper; first | (rw [if_pos (by decide +kernel)]; kernel_rfl) | (rw [if_neg (by decide +kernel)]; exact ⟨rfl, rfl⟩))
    (fun os started H enc _ => lifted os started H enc)

theorem proved : Rows.ElementOneSaid := over
#print axioms proved
end Go.Proofs.Ytecbphbnacbepaa.ElementOneDone
