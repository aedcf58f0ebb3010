/- Walks over the comparing functions: Bytes, Within, Elements. -/
import Derived.Test.YtecbphbnacbepaaWrap
import Derived.Test.YtecbphbnacbepaaRefH
import Derived.Test.YtecbphbnacbepaaElemD
import Derived.Laws.BytesArg
set_option linter.unusedSimpArgs false
set_option linter.unusedVariables false
namespace Go.Proofs.Ytecbphbnacbepaa
open Go.RowKit Go.Cr

theorem ulStr : Try.prog.underlying 9 = some .string := by kernel_rfl
theorem ulU8 : Try.prog.underlying 5 = some (.int .u8) := by kernel_rfl
def strOf (l : List UInt8) : ByteArray := strOfNums (l.map bi)

theorem isB_str {w : World} {v : Value} {l : List UInt8} (h : IsB w v l) : (convert 30 9 v).run Try.prog w = .ok (.string (strOf l)) w := by
  obtain ⟨A, c, rfl, h1, h2, h3⟩ := h
  rcases Nat.eq_zero_or_pos l.length with h0 | h0
  · have hl : l = [] := List.length_eq_zero_iff.1 h0
    subst hl
    cases A with
    | none => exact run_convert_bytes_nil w _ _ ulB ulU8 0 c _ ulStr
    | some a =>
      have hl : (loadCells a 0).run Try.prog w = .ok (([] : List Int).map (Value.int .u8)).toArray w := by
        have := run_loadCells_list (P := Try.prog) w a [] (fun j v hj => by simp at hj)
        simpa using this
      show (convert _ _ (.slice (some a) 0 c)).run _ w = _
      rw [run_convert_bytes_string w _ _ _ _ 0 c ulB ulU8 ulStr, run_bytesToString w _ 0 c [] hl]
      simp [strOf, strOfNums, ByteArray.empty, ByteArray.emptyWithCapacity]
      rfl
  · obtain ⟨b, off, rfl, hb, hc⟩ := h3 h0
    refine run_convert_bytes_arg w _ _ ulB ulU8 b off l.length c (l.map bi) (by simp) (fun i hi => ?_) _ ulStr
    rw [hc i hi]
    simp [bat, List.getD, hi]

set_option maxRecDepth 100000 in
set_option maxHeartbeats 2000000 in
theorem bytes_same (a b : Value) (l : List UInt8) (w : World) (ha : IsB w a l) (hb : IsB w b l) :
    Calls Try.prog 20 #[a, b] w (RetB (.bool true) w) := by
  have h1 := isB_str ha
  have h2 := isB_str hb
  clear ha hb
  generalize strOf l = s at *
  go_enter Try.func20, Try.ntmps20
  go_wp2
  (refine bodyPost_retB (v := .bool true) (by (simp only [results, Try.results20]; try go_simp)) rfl rfl ?_; ((repeat' (first | (with_reducible exact Below.refl _ _) | (with_reducible assumption) | (with_reducible refine Below.setCell ?_ ?_ _) | (with_reducible refine Below.alloc ?_ ?_ _) | (with_reducible refine Below.drew ?_) | (with_reducible refine below_drewN ?_ _) | (with_reducible refine Below.step (by with_reducible assumption) ?_ ?_))) <;> (first | omega | (simp; done) | (simp; omega))))

set_option maxRecDepth 100000 in
set_option maxHeartbeats 2000000 in
theorem within_ok (c o n : Int) (w : World) (h : (c = 0 ∧ o = 0) ∨ (0 < c ∧ 0 ≤ o ∧ o ≤ n)) :
    Calls Try.prog 16 #[errV (c, o), .int .i64 n] w (RetB (.bool true) w) := by
  simp only [errV]
  rcases h with ⟨rfl, rfl⟩ | ⟨h1, h2, h3⟩
  · go_enter Try.func16, Try.ntmps16
    go_wp2
    (refine bodyPost_retB (v := .bool true) (by (simp only [results, Try.results16]; try go_simp)) rfl rfl ?_; ((repeat' (first | (with_reducible exact Below.refl _ _) | (with_reducible assumption) | (with_reducible refine Below.setCell ?_ ?_ _) | (with_reducible refine Below.alloc ?_ ?_ _) | (with_reducible refine Below.drew ?_) | (with_reducible refine below_drewN ?_ _) | (with_reducible refine Below.step (by with_reducible assumption) ?_ ?_))) <;> (first | omega | (simp; done) | (simp; omega))))
  · go_enter Try.func16, Try.ntmps16
    go_wp2
    (refine bodyPost_retB (v := .bool true) (by (simp only [results, Try.results16]; try go_simp)) rfl rfl ?_; ((repeat' (first | (with_reducible exact Below.refl _ _) | (with_reducible assumption) | (with_reducible refine Below.setCell ?_ ?_ _) | (with_reducible refine Below.alloc ?_ ?_ _) | (with_reducible refine Below.drew ?_) | (with_reducible refine below_drewN ?_ _) | (with_reducible refine Below.step (by with_reducible assumption) ?_ ?_))) <;> (first | omega | (simp; done) | (simp; omega))))

theorem elCells_at (xs : List Elem) (k : Nat) (h : k < xs.length) (j : Nat) (hj : j < 6) : (elCells xs)[k * 6 + j]? = (xs[k].cells)[j]? := by
  induction xs generalizing k with
  | nil => simp at h
  | cons x t ih =>
    have hc : x.cells.length = 6 := rfl
    cases k with
    | zero => simp only [elCells, List.flatMap_cons, Nat.zero_mul, Nat.zero_add, List.getElem_cons_zero]; rw [List.getElem?_append_left (by omega)]
    | succ k =>
      simp only [elCells, List.flatMap_cons, List.getElem_cons_succ]
      rw [List.getElem?_append_right (by omega), hc, show (k + 1) * 6 + j - 6 = k * 6 + j by omega]
      exact ih k (by simpa using h)

theorem szEl (W : World) : (sizeOf 27).run Try.prog W = .ok 6 W := by kernel_rfl
def EsRel (n : Nat) (w : World) (i : Value) (wr : World) : Prop := ∃ k : Nat, k ≤ n ∧ i = .int .i64 k ∧ Below w.heap.size w wr

set_option maxRecDepth 100000 in
set_option maxHeartbeats 2000000 in
theorem elements_same (a b : Value) (xs : List Elem) (w : World) (ha : IsR w a 6 xs.length (elCells xs)) (hb : IsR w b 6 xs.length (elCells xs)) :
    Calls Try.prog 23 #[a, b] w (RetB (.bool true) w) := by
  have h1 := ha.len ulEl
  have h2 := hb.len ulEl
  have hmx := ha.maxl
  have HA := Lib.hid ha
  have HB := Lib.hid hb
  clear ha hb
  go_enter Try.func23, Try.ntmps23
  go_wp2
  go_loopw [5] (fun i wr => EsRel xs.length w i wr) (fun i _ => xs.length - (intOf i).toNat)
  case atStart => exact ⟨0, by omega, rfl, Below.refl _ _⟩
  case round =>
    obtain ⟨k, hk, rfl, hbel⟩ := hrel
    by_cases hlt : (k : Int) < xs.length
    · obtain ⟨b1, o1, hi1, hb1, hc1⟩ := (HA.out.below hbel).at_ (P := Try.prog) ulEl szEl .i64 (i := k) (by omega) hlt
      obtain ⟨b2, o2, hi2, hb2, hc2⟩ := (HB.out.below hbel).at_ (P := Try.prog) ulEl szEl .i64 (i := k) (by omega) hlt
      have hkl : k < xs.length := by omega
      have hx := elCells_at xs k hkl
      generalize xs[k] = x at *
      obtain ⟨xc, xn, xk, xs', xb, xe⟩ := x
      have e0 := hx 0 (by omega); have e1 := hx 1 (by omega); have e2 := hx 2 (by omega); have e3 := hx 3 (by omega); have e4 := hx 4 (by omega); have e5 := hx 5 (by omega)
      simp only [Elem.cells, List.getElem?_cons_zero, List.getElem?_cons_succ] at e0 e1 e2 e3 e4 e5
      simp only [Int.toNat_natCast] at hc1 hc2
      have p0 := hc1 0 _ e0; have p1 := hc1 1 _ e1; have p2 := hc1 2 _ e2; have p3 := hc1 3 _ e3; have p4 := hc1 4 _ e4; have p5 := hc1 5 _ e5
      have q0 := hc2 0 _ e0; have q1 := hc2 1 _ e1; have q2 := hc2 2 _ e2; have q3 := hc2 3 _ e3; have q4 := hc2 4 _ e4; have q5 := hc2 5 _ e5
      rw [Nat.add_zero] at p0 q0
      clear e0 e1 e2 e3 e4 e5 hc1 hc2 hx
      go_wp2
      go_region
      go_wp2
      go_roundw
      case rel => exact ⟨k + 1, by omega, by go_num, by ((repeat' (first | (with_reducible exact Below.refl _ _) | (with_reducible assumption) | (with_reducible refine Below.setCell ?_ ?_ _) | (with_reducible refine Below.alloc ?_ ?_ _) | (with_reducible refine Below.drew ?_) | (with_reducible refine below_drewN ?_ _) | (with_reducible refine Below.step (by with_reducible assumption) ?_ ?_))) <;> (first | omega | (simp; done) | (simp; omega)))⟩
      case measure => simp [intOf]; omega
    · obtain rfl : k = xs.length := by omega
      go_wp2
      (refine bodyPost_retB (v := .bool true) (by (simp only [results, Try.results23]; try go_simp)) rfl rfl ?_; ((repeat' (first | (with_reducible exact Below.refl _ _) | (with_reducible assumption) | (with_reducible refine Below.setCell ?_ ?_ _) | (with_reducible refine Below.alloc ?_ ?_ _) | (with_reducible refine Below.drew ?_) | (with_reducible refine below_drewN ?_ _) | (with_reducible refine Below.step (by with_reducible assumption) ?_ ?_))) <;> (first | omega | (simp; done) | (simp; omega))))
end Go.Proofs.Ytecbphbnacbepaa
