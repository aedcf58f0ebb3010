/- Walk over CompactFunc on an own row of own parts. -/
import Derived.Test.YtecbphbnacbepaaComp
set_option linter.unusedSimpArgs false
set_option linter.unusedVariables false
namespace Go.Proofs.Ytecbphbnacbepaa
open Go.RowKit Go.Cr

section
variable {P : Program} {t e : TypeId} {g off n cap : Nat}
theorem row_len (ht : P.underlying t = some (.slice e)) : ∀ (ty : TypeId) (W : World), (Builtin.len_ #[t] ty #[.slice (some ⟨g, off, none⟩) n cap]).run P W = .ok (.int .i64 n) W := by
  intro ty W; simp [Builtin.len_, run_underlying ht, Builtin.lenOf]; rfl
theorem row_idx (ht : P.underlying t = some (.slice e)) (hs : ∀ W, (sizeOf e).run P W = .ok 1 W) {i : Int} {j : Nat} (h0 : 0 ≤ i) (h1 : i < n) (hj : off + i.toNat = j) :
    ∀ W : World, (Instr.indexAt t (.slice (some ⟨g, off, none⟩) n cap) (.int .i64 i)).run P W = .ok (.pointer (some ⟨g, j, none⟩)) W := by
  intro W
  subst hj
  have hi : (0 ≤ i ∧ i < (n : Int)) := ⟨h0, h1⟩
  simp only [Instr.indexAt, asIntOf, Sem.run_bind, Sem.run_pure, Result.andThen, run_underlying ht, if_pos hi, hs, Nat.mul_one]
  by_cases hz : i.toNat = 0
  · simp [hz, Addr.add]
  · simp [Addr.add, hz]
theorem row_lo (ht : P.underlying t = some (.slice e)) (hs : ∀ W, (sizeOf e).run P W = .ok 1 W) {lo : Int} (h0 : 0 ≤ lo) (h1 : lo < n) (h2 : n ≤ cap) :
    ∀ W : World, (Instr.slice t (.slice (some ⟨g, off, none⟩) n cap) (some (.int .i64 lo)) none none).run P W = .ok (.slice (some ⟨g, off + lo.toNat, none⟩) (n - lo.toNat) (cap - lo.toNat)) W := by
  intro W
  have hi : (0 ≤ lo ∧ lo ≤ (n : Int)) := ⟨h0, by omega⟩
  simp only [Instr.slice, Instr.sliceBounds, Instr.sliceBound, asIntOf, Sem.run_bind, Sem.run_pure, Result.andThen, run_underlying ht, if_pos hi, hs, Nat.mul_one]
  rw [if_neg (by omega)]
  by_cases hz : lo.toNat = 0
  · simp [hz, Addr.add]
  · simp [Addr.add, hz]
theorem row_hi (ht : P.underlying t = some (.slice e)) (hs : ∀ W, (sizeOf e).run P W = .ok 1 W) {hi : Int} (h0 : 0 ≤ hi) (h1 : hi ≤ cap) (h2 : 0 < cap) :
    ∀ W : World, (Instr.slice t (.slice (some ⟨g, off, none⟩) n cap) none (some (.int .i64 hi)) none).run P W = .ok (.slice (some ⟨g, off, none⟩) hi.toNat cap) W := by
  intro W
  have hi1 : (0 ≤ hi ∧ hi ≤ (cap : Int)) := ⟨h0, h1⟩
  simp only [Instr.slice, Instr.sliceBounds, Instr.sliceBound, asIntOf, Sem.run_bind, Sem.run_pure, Result.andThen, run_underlying ht, if_pos hi1, hs, Nat.mul_one]
  simp [Addr.add]
end

theorem grownBy_drewN {w wr : World} {o : Option Nat} (h : w.grownBy wr o) (q : Nat) : w.grownBy (wr.drewN q) o := ⟨h.os, h.tape, h.output, h.size, h.block⟩
theorem setCells_size (b : Nat) : ∀ (vs : List Value) (o : Nat) (w : World), (w.setCells b o vs).heap.size = w.heap.size
  | [], _, _ => rfl
  | v :: r, o, w => by rw [World.setCells, setCells_size b r]; simp [World.setCell]
theorem setCells_tape (b : Nat) : ∀ (vs : List Value) (o : Nat) (w : World), (w.setCells b o vs).tape = w.tape
  | [], _, _ => rfl
  | v :: r, o, w => by rw [World.setCells, setCells_tape b r]; rfl
theorem setCells_os (b : Nat) : ∀ (vs : List Value) (o : Nat) (w : World), (w.setCells b o vs).os = w.os
  | [], _, _ => rfl
  | v :: r, o, w => by rw [World.setCells, setCells_os b r]; rfl
theorem setCells_output (b : Nat) : ∀ (vs : List Value) (o : Nat) (w : World), (w.setCells b o vs).output = w.output
  | [], _, _ => rfl
  | v :: r, o, w => by rw [World.setCells, setCells_output b r]; rfl
theorem setCells_heap (b : Nat) : ∀ (vs : List Value) (o : Nat) (w : World) (j : Nat), j ≠ b → (w.setCells b o vs).heap[j]? = w.heap[j]?
  | [], _, _, _, _ => rfl
  | v :: r, o, w, j, h => by rw [World.setCells, setCells_heap b r (o + 1) _ j h]; exact Below.heap_setCell _ _ _ _ h
theorem setCells_own (g : Nat) (t : TypeId) : ∀ (zs : List Value) (o : Nat) (w : World) (cur : Array Value), w.heap[g]? = some (.cells cur t (0, 0)) →
    ∃ cur', (w.setCells g o zs).heap[g]? = some (.cells cur' t (0, 0)) ∧ cur'.size = cur.size ∧ ∀ m, m ≤ o → cur'.toList.take m = cur.toList.take m
  | [], _, _, cur, h => ⟨cur, h, rfl, fun _ _ => rfl⟩
  | z :: zs, o, w, cur, h => by
    obtain ⟨cur', h1, h2, h3⟩ := setCells_own g t zs (o + 1) (w.setCell ⟨g, o, none⟩ z) _ (heap_setCell_same w g o cur t z h)
    refine ⟨cur', h1, by simpa using h2, fun m hm => ?_⟩
    rw [h3 m (by omega), Array.toList_setIfInBounds, List.take_set_of_le hm]
/-- Behind the clearing: the shorter row. -/
theorem C2.clear {base b2 g cap : Nat} {vs : List Value} {ls : List (List UInt8)} {w : World} {m : Nat} {wr : World} (h : C2 base b2 g cap vs ls w ls.length m wr) (hm : m < ls.length) (hm1 : 1 ≤ m) (hlt : g < w.heap.size) (zs : List Value) :
    RetComp (.slice (some ⟨g, 0, none⟩) ls.length cap) base b2 ls w (.returned (.slice (some ⟨g, 0, none⟩) m cap)) (wr.setCells g m zs) := by
  obtain ⟨⟨cur, a1, a2, c, a3, a4, a5, a6, a7⟩, hg⟩ := h
  have hgz : wr.grownBy (wr.setCells g m zs) (some g) := ⟨setCells_os _ _ _ _, setCells_tape _ _ _ _, setCells_output _ _ _ _, by rw [setCells_size]; exact Nat.le_refl _, fun j hj hne => setCells_heap _ _ _ _ _ (fun (e : j = g) => hne (by rw [e]))⟩
  have hcl : cur.length = ls.length := by have := a1.1; omega
  refine ⟨_, c, cur.take m, rfl, ⟨a5, fun x => by rw [a6, List.take_length]⟩, ?_, OwE.keepNe a3 a1 hgz, World.grownBy.trans hg hgz⟩
  rcases a1.2 with ⟨h0, _⟩ | ⟨g', cap', cur', h0, hbs, hh, h1, h2, h3, h4⟩
  · cases h0
  · injection h0 with h00 _ h02
    injection h00 with h00
    injection h00 with h00
    subst h02
    subst h00
    obtain ⟨cur2, e1, e2, e3⟩ := setCells_own g _ zs m wr cur' hh
    rw [a4]
    refine ⟨by simp; omega, .inr ⟨g, cap, cur2, rfl, hbs, e1, by omega, h2, by rw [e2]; exact h3, ?_⟩⟩
    rw [Nat.mul_one, e3 m (Nat.le_refl m), ← h4, List.take_take, Nat.mul_one, Nat.min_eq_left (by omega)]

set_option maxRecDepth 100000 in
set_option maxHeartbeats 8000000 in
theorem compact_own (g cap base b2 : Nat) (vs : List Value) (ls : List (List UInt8)) (w : World) (hrow : w.ownsRow base 30 1 (.slice (some ⟨g, 0, none⟩) ls.length cap) ls.length vs) (hel : OwE w b2 vs ls) (hs : NonDesc ls) (hn : ls.length ≤ 1000000) :
    Calls Try.prog 43 #[.slice (some ⟨g, 0, none⟩) ls.length cap, .func (.func 44) #[] #[]] w (RetComp (.slice (some ⟨g, 0, none⟩) ls.length cap) base b2 ls w) := by
  have hlt : g < w.heap.size := hrow.lt g rfl |>.2
  have hnc : ls.length ≤ cap := by
    rcases hrow.2 with ⟨h0, _⟩ | ⟨g', cap', cur', h0, _, _, h1, h2, _⟩
    · cases h0
    · injection h0 with _ _ h0; subst h0; exact h1
  have HROW := Lib.hid hrow
  have HEL := Lib.hid hel
  have HS := Lib.hid hs
  have hvl : vs.length = ls.length := hel.1
  have hend : Hid (∀ W, SameW w W → (∀ j, j + 1 < ls.length → cmpL (ls.getD j []) (ls.getD (j + 1) []) < 0) → RetComp (.slice (some ⟨g, 0, none⟩) ls.length cap) base b2 ls w (.returned (.slice (some ⟨g, 0, none⟩) ls.length cap)) W) := by
    intro W hW hall
    exact ⟨_, ls, vs, rfl, ⟨asc_of_adj hall, fun x => Iff.rfl⟩, hW.row hrow, hW.els hel, hW.grown _⟩
  have hclr : Hid (∀ m wr, C2 base b2 g cap vs ls w ls.length m wr → 1 ≤ m → m < ls.length → RetComp (.slice (some ⟨g, 0, none⟩) ls.length cap) base b2 ls w (.returned (.slice (some ⟨g, 0, none⟩) m cap)) (wr.setCells g m (List.replicate (ls.length - m) (.slice none 0 0)))) := fun m wr h h1 h2 => h.clear h2 h1 hlt _
  have hlen := row_len (P := Try.prog) (g := g) (off := 0) (n := ls.length) (cap := cap) ulBs
  have Hidx := Lib.hid (fun (i : Int) (j : Nat) h0 h1 hj => row_idx (P := Try.prog) (g := g) (off := 0) (n := ls.length) (cap := cap) (i := i) (j := j) ulBs szBs h0 h1 hj)
  have Hlo := Lib.hid (fun (lo : Int) h0 h1 => row_lo (P := Try.prog) (g := g) (off := 0) (n := ls.length) (cap := cap) (lo := lo) ulBs szBs h0 h1 hnc)
  have Hhi := Lib.hid (fun (hi : Int) h0 h1 h2 => row_hi (P := Try.prog) (g := g) (off := 0) (n := ls.length) (cap := cap) (hi := hi) ulBs szBs h0 h1 h2)
  clear hrow hel hs
  obtain ⟨o, ho⟩ : ∃ o, Value.slice (some ⟨g, 0, none⟩) ls.length cap = o := ⟨_, rfl⟩
  have HO := Lib.hid ho
  rw [ho] at hend hclr hlen Hidx Hlo Hhi ⊢
  clear ho
  go_enter Try.func43, Try.ntmps43
  by_cases h2 : (ls.length : Int) < 2
  · go_wp2
    refine bodyPost_ret (v := o) (by simp only [results, Try.results43]; go_simp) rfl (hend.out _ (SameW.refl _) (fun j hj => absurd hj (by omega)))
  · go_wp2
    go_loopw [5] (fun i wr => C1Rel ls w i wr) (fun i _ => ls.length - (intOf i).toNat)
    case atStart => exact ⟨1, by omega, by omega, rfl, fun j hj => absurd hj (by omega), SameW.refl _⟩
    case round =>
      obtain ⟨k, hk1, hkn, rfl, hall, hsw⟩ := hrel
      have HSW := Lib.hid hsw
      by_cases hlk : (k : Int) < ls.length
      · have hidx1 := Hidx.out (k : Int) k (by omega) hlk (by omega)
        have hidx2 := Hidx.out ((k : Int) - 1) (k - 1) (by omega) (by omega) (by omega)
        have hat : ∀ j, j < ls.length → wr.cell? ⟨g, j, none⟩ = some (vs.getD j undef) := fun j hj => by
          rw [World.ownsRow.cellAt (hsw.row HROW.out) j (by omega)]; simp [List.getD, show j < vs.length by omega]
        have c1 := hat k (by omega)
        have c2 := hat (k - 1) (by omega)
        have hsub : IntKind.i64.wrap ((k : Int) - 1) = (k : Int) - 1 := IntWalk.i64_in _ (by omega)
        have HC := Lib.hid (fun n => sorted_clo _ _ _ _ (wr.drewN n) (((hsw.els HEL.out).2 k (by omega)).isB.drewN n) (((hsw.els HEL.out).2 (k - 1) (by omega)).isB.drewN n))
        have hcase : cmpL (ls.getD k []) (ls.getD (k - 1) []) = 0 ∨ cmpL (ls.getD (k - 1) []) (ls.getD k []) < 0 := by
          have := nonDesc_last HS.out (k := k - 1) (by omega)
          rwa [show k - 1 + 1 = k by omega] at this
        have HALL := Lib.hid hall
        clear hat hall hsw
        rcases hcase with heq | hne
        · have HST := Lib.hid (fun q => C2.start (w := w) (HSW.out.drewN q) (base := base) (b2 := b2) (vs := vs) (g := g) (cap := cap) (by have := HROW.out; exact this) HEL.out hk1 (by omega) HALL.out heq)
          rw [show decide (cmpL (ls.getD k []) (ls.getD (k - 1) []) = 0) = true from decide_eq_true heq] at HC
          have hlo := Hlo.out (k : Int) (by omega) hlk
          obtain ⟨n2, hn2⟩ : ∃ n2, ls.length = k + n2 := ⟨ls.length - k, by omega⟩
          have hlen2 := row_len (P := Try.prog) (g := g) (off := 0 + (k : Int).toNat) (n := ls.length - (k : Int).toNat) (cap := cap - (k : Int).toNat) ulBs
          have Hidx2 := Lib.hid (fun (i : Int) (j : Nat) h0 h1 hj => row_idx (P := Try.prog) (g := g) (off := 0 + (k : Int).toNat) (n := ls.length - (k : Int).toNat) (cap := cap - (k : Int).toNat) (i := i) (j := j) ulBs szBs h0 h1 hj)
          rw [show ls.length - (k : Int).toNat = n2 by omega, show 0 + (k : Int).toNat = k by omega] at hlo hlen2 Hidx2
          generalize Value.slice (some ⟨g, k, none⟩) n2 (cap - (k : Int).toNat) = s2 at *
          generalize vs.getD k undef = uk at *
          generalize vs.getD (k - 1) undef = up at *
          go_wp2
          go_quiet (first | (go_at_call 44; exact Calls.quiet_of_same (HC.out _)))
          go_wp2
          clear c1 c2 hidx1 hidx2 HC heq
          go_loopw [5, 7] (fun i kk wr => C2Rel base b2 g cap vs ls w k i kk wr) (fun _ kk _ => ls.length - (intOf kk).toNat)
          case atStart => exact ⟨1, k, rfl, rfl, by omega, by omega, by omega, by omega, HST.out _⟩
          case round =>
            obtain ⟨kk, m, rfl, rfl, hkk1, hkk2, hm1, hm2, hc2⟩ := hrel
            have HC2' := Lib.hid hc2
            have helw := OwE.keepNe HEL.out HROW.out hc2.gr
            obtain ⟨cur, hcr, hcv, _⟩ := hc2.row
            have hcl : cur.length = ls.length := by have := hcr.1; omega
            have hcat : ∀ j, j < ls.length → wr.cell? ⟨g, j, none⟩ = some (cur.getD j undef) := fun j hj => by
              rw [World.ownsRow.cellAt hcr j (by omega)]; simp [List.getD, show j < cur.length by omega]
            have hfz : ∀ j, wr.frozen? ⟨g, j, none⟩ = false := fun j => World.ownsRow.frozenAt hcr j
            by_cases hlt2 : (kk : Int) < n2
            · have hd := hcv (k + kk) (by omega) (by omega)
              have hp := hcv (k + kk - 1) (by omega) (by omega)
              have c1 := hcat (k + kk) (by omega)
              have c2 := hcat (k + kk - 1) (by omega)
              have c3 := hcat m (by omega)
              have f3 := hfz m
              rw [hd] at c1
              rw [hp] at c2
              have hidx1 := Hidx2.out (kk : Int) (k + kk) (by omega) hlt2 (by omega)
              have hidx2 := Hidx2.out ((kk : Int) - 1) (k + kk - 1) (by omega) (by omega) (by omega)
              have hidx3 := Hidx.out (m : Int) m (by omega) (by omega) (by omega)
              have hsub2 : IntKind.i64.wrap ((kk : Int) - 1) = (kk : Int) - 1 := IntWalk.i64_in _ (by omega)
              have HC2 := Lib.hid (fun n => sorted_clo _ _ _ _ (wr.drewN n) ((helw.2 (k + kk) (by omega)).isB.drewN n) ((helw.2 (k + kk - 1) (by omega)).isB.drewN n))
              have hcase2 : cmpL (ls.getD (k + kk) []) (ls.getD (k + kk - 1) []) = 0 ∨ cmpL (ls.getD (k + kk - 1) []) (ls.getD (k + kk) []) < 0 := by
                have := nonDesc_last HS.out (k := k + kk - 1) (by omega)
                rwa [show k + kk - 1 + 1 = k + kk by omega] at this
              have HELW := Lib.hid helw
              clear hcat hfz hcr hcv hc2 hd hp helw
              rcases hcase2 with heq2 | hne2
              · have HNX := Lib.hid (fun q => C2.same (q := q) HC2'.out (by omega) (by omega) hm1 heq2)
                rw [show decide (cmpL (ls.getD (k + kk) []) (ls.getD (k + kk - 1) []) = 0) = true from decide_eq_true heq2] at HC2
                clear heq2
                generalize vs.getD (k + kk) undef = ud at *
                generalize vs.getD (k + kk - 1) undef = ue at *
                go_wp2
                go_quiet (first | (go_at_call 44; exact Calls.quiet_of_same (HC2.out _)))
                go_wp2
                go_roundw
                case rel => exact ⟨kk + 1, m, by go_num, rfl, by omega, by omega, by omega, by omega, HNX.out _⟩
                case measure => simp [intOf]; omega
              · have HNX := Lib.hid (fun q => C2.other (q := q) HC2'.out HELW.out (by omega) (by omega) hm2 hne2 hm1)
                have hnd : decide (cmpL (ls.getD (k + kk) []) (ls.getD (k + kk - 1) []) = 0) = false := decide_eq_false (fun e => by have := cmpL_anti (ls.getD (k + kk) []) (ls.getD (k + kk - 1) []); omega)
                rw [hnd] at HC2
                obtain ⟨uA, un, uc, hud⟩ : ∃ A n c, vs.getD (k + kk) undef = .slice A n c := by obtain ⟨A, c, h, _⟩ := (HELW.out.2 (k + kk) (by omega)).isB; exact ⟨_, _, _, h⟩
                clear hne2 hnd
                generalize vs.getD (k + kk) undef = ud at *
                subst hud
                generalize vs.getD (k + kk - 1) undef = ue at *
                go_wp2
                go_quiet (first | (go_at_call 44; exact Calls.quiet_of_same (HC2.out _)))
                go_wp2
                go_roundw
                case rel => exact ⟨kk + 1, m + 1, by go_num, by go_num, by omega, by omega, by omega, by omega, HNX.out _⟩
                case measure => simp [intOf]; omega
            · obtain rfl : kk = n2 := by omega
              rw [← hn2] at HC2'
              have hml : m < ls.length := by omega
              have hfin := hclr.out m wr HC2'.out hm1 hml
              have hlo3 := Hlo.out (m : Int) (by omega) (by omega)
              have hhi3 := Hhi.out (m : Int) (by omega) (by omega) (by omega)
              rw [Int.toNat_natCast, Nat.zero_add] at hlo3
              rw [Int.toNat_natCast] at hhi3
              have hzv : ∀ w, (zeroValue 30).run Try.prog w = .ok (.slice none 0 0) w := fun w => by kernel_rfl
              have hcl3 : ∀ ty, (Builtin.clear_ #[38] ty #[.slice (some ⟨g, m, none⟩) (ls.length - m) (cap - m)]).run Try.prog wr = .ok (.tuple #[]) (wr.setCells g m (List.replicate (ls.length - m) (.slice none 0 0))) := fun ty =>
                Go.Lib.run_clear_slice wr 38 30 ty _ ulBs hzv rfl rfl g m (ls.length - m) _ (by omega) (fun j hj => by rw [hcat (m + j) (by omega)]; rfl) (fun j _ => hfz _)
              have HFIN := Lib.hid hfin
              clear hfin hcat hfz hcr hcv hc2 helw HC2'
              generalize wr.setCells g m (List.replicate (ls.length - m) (.slice none 0 0)) = w3 at *
              generalize Value.slice (some ⟨g, m, none⟩) (ls.length - m) (cap - m) = s3 at *
              go_wp2
              refine bodyPost_ret (v := .slice (some ⟨g, 0, none⟩) m cap) (by simp only [results, Try.results43]; go_simp) rfl HFIN.out
        · rw [show decide (cmpL (ls.getD k []) (ls.getD (k - 1) []) = 0) = false from decide_eq_false (fun e => by have := cmpL_anti (ls.getD k []) (ls.getD (k - 1) []); omega)] at HC
          have hall2 : Hid (∀ j, j + 1 < k + 1 → cmpL (ls.getD j []) (ls.getD (j + 1) []) < 0) := fun j hj => by
            rcases Nat.lt_or_ge (j + 1) k with h | h
            · exact HALL.out j h
            · obtain rfl : j = k - 1 := by omega
              rw [show k - 1 + 1 = k by omega]; exact hne
          clear hne
          generalize vs.getD k undef = uk at *
          generalize vs.getD (k - 1) undef = up at *
          go_wp2
          go_quiet (first | (go_at_call 44; exact Calls.quiet_of_same (HC.out _)))
          go_wp2
          go_roundw
          case rel => exact ⟨k + 1, by omega, by omega, by go_num, hall2.out, HSW.out.drewN _⟩
          case measure => simp [intOf]; omega
      · obtain rfl : k = ls.length := by omega
        go_wp2
        refine bodyPost_ret (v := o) (by simp only [results, Try.results43]; go_simp) rfl (hend.out _ hsw hall)
end Go.Proofs.Ytecbphbnacbepaa
