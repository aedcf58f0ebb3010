/- The parts Base of one proof, one behind the other. -/
import Derived.Test.YtjjkimjdmpeddaaGreatDoorK08
import Derived.Test.YtjjkimjdmpeddaaGreatDoorK07
import Derived.Test.YtjjkimjdmpeddaaGreatDoorK01
import Derived.Laws.BytesArg

/- Walks over the comparing functions: Bytes, Within, Elements. -/
section
set_option linter.unusedSimpArgs false
set_option linter.unusedVariables false
namespace Go.Proofs.YtjjkimjdmpeddaaGreatDoor
open Go.RowKit Go.Cr
theorem ulStr : Tryz.prog.underlying 9 = some .string := by kernel_rfl
theorem ulU8 : Tryz.prog.underlying 5 = some (.int .u8) := by kernel_rfl
def strOf (l : List UInt8) : ByteArray := strOfNums (l.map bi)

theorem isB_str {w : World} {v : Value} {l : List UInt8} (h : IsB w v l) : (convert 32 9 v).run Tryz.prog w = .ok (.string (strOf l)) w := by
  obtain ⟨A, c, rfl, h1, h2, h3⟩ := h
  rcases Nat.eq_zero_or_pos l.length with h0 | h0
  · have hl : l = [] := List.length_eq_zero_iff.1 h0
    subst hl
    cases A with
    | none => exact run_convert_bytes_nil w _ _ ulB ulU8 0 c _ ulStr
    | some a =>
      have hl : (loadCells a 0).run Tryz.prog w = .ok (([] : List Int).map (Value.int .u8)).toArray w := by
        have := run_loadCells_list (P := Tryz.prog) w a [] (fun j v hj => by simp at hj)
        simpa using this
      show (convert _ _ (.slice (some a) 0 c)).run _ w = _
      rw [run_convert_bytes_string w _ _ _ _ 0 c ulB ulU8 ulStr, run_bytesToString w _ 0 c [] hl]
      simp [strOf, strOfNums, ByteArray.empty, ByteArray.emptyWithCapacity]
      rfl
  · obtain ⟨b, off, rfl, hb, hc⟩ := h3 h0
    refine run_convert_bytes_arg w _ _ ulB ulU8 b off l.length c (l.map bi) (by simp) (fun i hi => ?_) _ ulStr
    rw [hc i hi]
    simp [bat, List.getD, hi]

set_option maxRecDepth 100000 in
set_option maxHeartbeats 2000000 in
theorem bytes_same (a b : Value) (l : List UInt8) (w : World) (ha : IsB w a l) (hb : IsB w b l) :
    Calls Tryz.prog 21 #[a, b] w (RetB (.bool true) w) := by
  have h1 := isB_str ha
  have h2 := isB_str hb
  clear ha hb
  generalize strOf l = s at *
  go_enter Tryz.func21, Tryz.ntmps21
  go_wp2
  (refine bodyPost_retB (v := .bool true) (by (simp only [results, Tryz.results21]; try go_simp)) rfl rfl ?_; ((repeat' (first | (with_reducible exact Below.refl _ _) | (with_reducible assumption) | (with_reducible refine Below.setCell ?_ ?_ _) | (with_reducible refine Below.alloc ?_ ?_ _) | (with_reducible refine Below.drew ?_) | (with_reducible refine below_drewN ?_ _) | (with_reducible refine Below.step (by with_reducible assumption) ?_ ?_))) <;> (first | omega | (simp; done) | (simp; omega))))

set_option maxRecDepth 100000 in
set_option maxHeartbeats 2000000 in
theorem within_ok (c o n : Int) (w : World) (h : (c = 0 ∧ o = 0) ∨ (0 < c ∧ 0 ≤ o ∧ o ≤ n)) :
    Calls Tryz.prog 27 #[errV (c, o), .int .i64 n] w (RetB (.bool true) w) := by
  simp only [errV]
  rcases h with ⟨rfl, rfl⟩ | ⟨h1, h2, h3⟩
  · go_enter Tryz.func27, Tryz.ntmps27
    go_wp2
    (refine bodyPost_retB (v := .bool true) (by (simp only [results, Tryz.results27]; try go_simp)) rfl rfl ?_; ((repeat' (first | (with_reducible exact Below.refl _ _) | (with_reducible assumption) | (with_reducible refine Below.setCell ?_ ?_ _) | (with_reducible refine Below.alloc ?_ ?_ _) | (with_reducible refine Below.drew ?_) | (with_reducible refine below_drewN ?_ _) | (with_reducible refine Below.step (by with_reducible assumption) ?_ ?_))) <;> (first | omega | (simp; done) | (simp; omega))))
  · go_enter Tryz.func27, Tryz.ntmps27
    go_wp2
    (refine bodyPost_retB (v := .bool true) (by (simp only [results, Tryz.results27]; try go_simp)) rfl rfl ?_; ((repeat' (first | (with_reducible exact Below.refl _ _) | (with_reducible assumption) | (with_reducible refine Below.setCell ?_ ?_ _) | (with_reducible refine Below.alloc ?_ ?_ _) | (with_reducible refine Below.drew ?_) | (with_reducible refine below_drewN ?_ _) | (with_reducible refine Below.step (by with_reducible assumption) ?_ ?_))) <;> (first | omega | (simp; done) | (simp; omega))))

theorem elCells_at (xs : List Elem) (k : Nat) (h : k < xs.length) (j : Nat) (hj : j < 6) : (elCells xs)[k * 6 + j]? = (xs[k].cells)[j]? := by
  induction xs generalizing k with
  | nil => simp at h
  | cons x t ih =>
    have hc : x.cells.length = 6 := rfl
    cases k with
    | zero => simp only [elCells, List.flatMap_cons, Nat.zero_mul, Nat.zero_add, List.getElem_cons_zero]; rw [List.getElem?_append_left (by omega)]
    | succ k =>
      simp only [elCells, List.flatMap_cons, List.getElem_cons_succ]
      rw [List.getElem?_append_right (by omega), hc, show (k + 1) * 6 + j - 6 = k * 6 + j by omega]
      exact ih k (by simpa using h)

theorem szEl (W : World) : (sizeOf 118).run Tryz.prog W = .ok 6 W := by kernel_rfl
end Go.Proofs.YtjjkimjdmpeddaaGreatDoor
end
