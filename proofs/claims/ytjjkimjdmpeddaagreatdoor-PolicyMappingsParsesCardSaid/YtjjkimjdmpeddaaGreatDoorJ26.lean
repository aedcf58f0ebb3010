/- The parts RefG, RefH, Base, PutR of one proof, one behind the other. -/
import Derived.Test.YtjjkimjdmpeddaaGreatDoorJ18
import Derived.Test.YtjjkimjdmpeddaaGreatDoorJ11
import Derived.Test.YtjjkimjdmpeddaaGreatDoorJ02
import Derived.Laws.BytesArg
import Derived.Test.YtjjkimjdmpeddaaGreatDoorJ13

/- Walk over the reference of layer 9: List. -/
section
set_option linter.unusedSimpArgs false
set_option linter.unusedVariables false
namespace Go.Proofs.YtjjkimjdmpeddaaGreatDoor
open Go.RowKit Go.Cr

end Go.Proofs.YtjjkimjdmpeddaaGreatDoor
end

/- Walks over the reference of layer 9: List (any range), Parts. -/
section
set_option linter.unusedSimpArgs false
set_option linter.unusedVariables false
namespace Go.Proofs.YtjjkimjdmpeddaaGreatDoor
open Go.RowKit Go.Cr

end Go.Proofs.YtjjkimjdmpeddaaGreatDoor
end

/- Walks over the comparing functions: Bytes, Within, Elements. -/
section
set_option linter.unusedSimpArgs false
set_option linter.unusedVariables false
namespace Go.Proofs.YtjjkimjdmpeddaaGreatDoor
open Go.RowKit Go.Cr

theorem ulStr : Tryz.prog.underlying 9 = some .string := by kernel_rfl
theorem ulU8 : Tryz.prog.underlying 5 = some (.int .u8) := by kernel_rfl
def strOf (l : List UInt8) : ByteArray := strOfNums (l.map bi)

theorem isB_str {w : World} {v : Value} {l : List UInt8} (h : IsB w v l) : (convert 32 9 v).run Tryz.prog w = .ok (.string (strOf l)) w := by
  obtain ⟨A, c, rfl, h1, h2, h3⟩ := h
  rcases Nat.eq_zero_or_pos l.length with h0 | h0
  · have hl : l = [] := List.length_eq_zero_iff.1 h0
    subst hl
    cases A with
    | none => exact run_convert_bytes_nil w _ _ ulB ulU8 0 c _ ulStr
    | some a =>
      have hl : (loadCells a 0).run Tryz.prog w = .ok (([] : List Int).map (Value.int .u8)).toArray w := by
        have := run_loadCells_list (P := Tryz.prog) w a [] (fun j v hj => by simp at hj)
        simpa using this
      show (convert _ _ (.slice (some a) 0 c)).run _ w = _
      rw [run_convert_bytes_string w _ _ _ _ 0 c ulB ulU8 ulStr, run_bytesToString w _ 0 c [] hl]
      simp [strOf, strOfNums, ByteArray.empty, ByteArray.emptyWithCapacity]
      rfl
  · obtain ⟨b, off, rfl, hb, hc⟩ := h3 h0
    refine run_convert_bytes_arg w _ _ ulB ulU8 b off l.length c (l.map bi) (by simp) (fun i hi => ?_) _ ulStr
    rw [hc i hi]
    simp [bat, List.getD, hi]

set_option maxRecDepth 100000 in
set_option maxHeartbeats 2000000 in
theorem bytes_same (a b : Value) (l : List UInt8) (w : World) (ha : IsB w a l) (hb : IsB w b l) :
    Calls Tryz.prog 21 #[a, b] w (RetB (.bool true) w) := by
  have h1 := isB_str ha
  have h2 := isB_str hb
  clear ha hb
  generalize strOf l = s at *
  go_enter Tryz.func21, Tryz.ntmps21
  go_wp2
  (refine bodyPost_retB (v := .bool true) (by (simp only [results, Tryz.results21]; try go_simp)) rfl rfl ?_; ((repeat' (first | (with_reducible exact Below.refl _ _) | (with_reducible assumption) | (with_reducible refine Below.setCell ?_ ?_ _) | (with_reducible refine Below.alloc ?_ ?_ _) | (with_reducible refine Below.drew ?_) | (with_reducible refine below_drewN ?_ _) | (with_reducible refine Below.step (by with_reducible assumption) ?_ ?_))) <;> (first | omega | (simp; done) | (simp; omega))))

set_option maxRecDepth 100000 in
set_option maxHeartbeats 2000000 in
theorem within_ok (c o n : Int) (w : World) (h : (c = 0 ∧ o = 0) ∨ (0 < c ∧ 0 ≤ o ∧ o ≤ n)) :
    Calls Tryz.prog 27 #[errV (c, o), .int .i64 n] w (RetB (.bool true) w) := by
  simp only [errV]
  rcases h with ⟨rfl, rfl⟩ | ⟨h1, h2, h3⟩
  · go_enter Tryz.func27, Tryz.ntmps27
    go_wp2
    (refine bodyPost_retB (v := .bool true) (by (simp only [results, Tryz.results27]; try go_simp)) rfl rfl ?_; ((repeat' (first | (with_reducible exact Below.refl _ _) | (with_reducible assumption) | (with_reducible refine Below.setCell ?_ ?_ _) | (with_reducible refine Below.alloc ?_ ?_ _) | (with_reducible refine Below.drew ?_) | (with_reducible refine below_drewN ?_ _) | (with_reducible refine Below.step (by with_reducible assumption) ?_ ?_))) <;> (first | omega | (simp; done) | (simp; omega))))
  · go_enter Tryz.func27, Tryz.ntmps27
    go_wp2
    (refine bodyPost_retB (v := .bool true) (by (simp only [results, Tryz.results27]; try go_simp)) rfl rfl ?_; ((repeat' (first | (with_reducible exact Below.refl _ _) | (with_reducible assumption) | (with_reducible refine Below.setCell ?_ ?_ _) | (with_reducible refine Below.alloc ?_ ?_ _) | (with_reducible refine Below.drew ?_) | (with_reducible refine below_drewN ?_ _) | (with_reducible refine Below.step (by with_reducible assumption) ?_ ?_))) <;> (first | omega | (simp; done) | (simp; omega))))

theorem elCells_at (xs : List Elem) (k : Nat) (h : k < xs.length) (j : Nat) (hj : j < 6) : (elCells xs)[k * 6 + j]? = (xs[k].cells)[j]? := by
  induction xs generalizing k with
  | nil => simp at h
  | cons x t ih =>
    have hc : x.cells.length = 6 := rfl
    cases k with
    | zero => simp only [elCells, List.flatMap_cons, Nat.zero_mul, Nat.zero_add, List.getElem_cons_zero]; rw [List.getElem?_append_left (by omega)]
    | succ k =>
      simp only [elCells, List.flatMap_cons, List.getElem_cons_succ]
      rw [List.getElem?_append_right (by omega), hc, show (k + 1) * 6 + j - 6 = k * 6 + j by omega]
      exact ih k (by simpa using h)

theorem szEl (W : World) : (sizeOf 118).run Tryz.prog W = .ok 6 W := by kernel_rfl
def EsRel (n : Nat) (w : World) (i : Value) (wr : World) : Prop := ∃ k : Nat, k ≤ n ∧ i = .int .i64 k ∧ Below w.heap.size w wr

end Go.Proofs.YtjjkimjdmpeddaaGreatDoor
end

/- Walks over the references' Put. -/
section
set_option linter.unusedSimpArgs false
set_option linter.unusedVariables false
namespace Go.Proofs.YtjjkimjdmpeddaaGreatDoor
open Go.RowKit Go.Cr

set_option maxRecDepth 100000 in
set_option maxHeartbeats 2000000 in
theorem rPut (x : UInt8) (v : Value) (l : List UInt8) (w : World) (hv : IsB w v l) (hl : l.length ≤ 900000) :
    Calls Tryz.prog 49 #[.int .u8 (bi x), v] w (RetO 5 (x :: (lenOct l.length ++ l)) w) := by
  have hln := hv.len ulB
  have HV := Lib.hid hv
  have HL := Lib.hid (rLength l.length · (by omega) (by omega))
  obtain ⟨hm1, hm2⟩ := lenOct_len l.length
  rw [Int.toNat_natCast] at HL
  have hl' : (l.length : Int) ≤ 900000 := by omega
  clear hv
  generalize lenOct l.length = m at *
  go_enter Tryz.func49, Tryz.ntmps49
  go_wp2_with (first | (go_at_call 90; (with_reducible refine (HL.out _).mono ?_); rintro e w1 ⟨v1, rfl, ho, hb1⟩; have HO := Lib.hid ho; clear ho) | (at_builtin; refine wpList_appB _ rfl _ _ 32 rfl w.heap.size 5 ulB infoB _ [x] rfl (OwB.one _ _ _ hb1.size) _ m rfl (HO.out.isB.alloc _) ?k1 ?k2 ?_))
  case k1 => simp; omega
  case k2 => have := hb1.size; simp; omega
  intro v2 w2 ho2 _ hb2
  have HO2 := Lib.hid ho2
  have hb3 : Below w.heap.size w w2 := (hb1.alloc hb1.size _).trans hb2
  clear ho2 hb2
  go_wp2_with (at_builtin; refine wpList_appB _ rfl _ _ 32 rfl w.heap.size 5 ulB infoB _ _ rfl HO2.out _ l rfl (HV.out.below hb3) ?k1 ?k2 ?_)
  case k1 => simp; omega
  case k2 => exact hb3.size
  intro v3 w3 ho3 _ hb4
  have HO3 := Lib.hid ho3
  clear ho3
  go_wp2
  go_ret
  exact ⟨_, rfl, by simpa using HO3.out, hb3.trans hb4⟩

def PsRel (ls : List (List UInt8)) (w : World) (out ix : Value) (wr : World) : Prop :=
  ∃ k : Nat, ix = .int .i64 k ∧ k ≤ ls.length ∧ OwB wr w.heap.size 5 out (cat ls k) ∧ Below w.heap.size w wr

set_option maxRecDepth 100000 in
set_option maxHeartbeats 2000000 in
theorem rPuts (x : UInt8) (v : Value) (ls : List (List UInt8)) (w : World) (hv : IsBs w v ls) (hl : ls.flatten.length ≤ 900000) :
    Calls Tryz.prog 51 #[.int .u8 (bi x), v] w (RetO 5 (x :: (lenOct ls.flatten.length ++ ls.flatten)) w) := by
  have hln := hv.len ulBs
  have hmx := hv.maxl
  have HV := Lib.hid hv
  have HP := Lib.hid (fun W u (h : IsB W u ls.flatten) => rPut x u ls.flatten W h hl)
  have hcl : ∀ k, (cat ls k).length ≤ 900000 := fun k => by have := cat_le ls k; omega
  have HCL := Lib.hid hcl
  clear hv hcl
  generalize x :: (lenOct ls.flatten.length ++ ls.flatten) = R at *
  generalize hy : bi x = y at *
  clear hy
  go_enter Tryz.func51, Tryz.ntmps51
  go_wp2_with fail
  go_loopw [5, 6] (fun out ix wr => PsRel ls w out ix wr) (fun _ ix _ => ls.length - (intOf ix).toNat)
  case atStart => exact ⟨0, rfl, Nat.zero_le _, by rw [cat_zero]; exact OwB.nil_ _ _ _, Below.refl _ _⟩
  case round =>
    obtain ⟨k, rfl, hk, hO, hbel⟩ := hrel
    have HO := Lib.hid hO
    have HBR := Lib.hid hbel
    clear hO
    by_cases hlt : k < ls.length
    · obtain ⟨b, o, u, hi, hbl, hc, hu⟩ := HV.out.at_ (P := Tryz.prog) ulBs szBs .i64 (i := k) (by omega) (by omega)
      simp only [Int.toNat_natCast] at hu
      have hc' := (hbel.cell (p := ⟨b, o, none⟩) hbl).trans hc
      have hltI : (k : Int) < ls.length := by omega
      have HU := Lib.hid (hu.below hbel)
      have HS := Lib.hid (cat_succ ls k hlt)
      have hc1 := HCL.out k
      have hc2 := HCL.out (k + 1)
      rw [HS.out, List.length_append] at hc2
      clear hc hu hbel
      generalize ls.getD k [] = p at *
      go_wp2_with (at_builtin; refine wpList_appB _ rfl _ _ 32 rfl w.heap.size 5 ulB infoB _ _ rfl HO.out _ p rfl HU.out ?k1 ?k2 ?_)
      case k1 => omega
      case k2 => exact HBR.out.size
      intro v2 w2 ho2 _ hb2
      rw [← HS.out] at ho2
      have HO2 := Lib.hid ho2
      have hbel2 : Below w.heap.size w w2 := HBR.out.trans hb2
      clear ho2 hb2
      go_wp2
      go_roundw
      case rel => exact ⟨k + 1, by go_num, by omega, HO2.out, hbel2⟩
      case measure => simp [intOf]; omega
    · have hge : (ls.length : Int) ≤ k := by omega
      have ho' : IsB wr u5 ls.flatten := by
        have := HO.out.isB
        rwa [show k = ls.length by omega, cat_all] at this
      have HO5 := Lib.hid ho'
      clear hlt ho' hbel
      go_wp2_with (first | (go_at_call 49; (with_reducible refine (HP.out _ _ HO5.out).mono ?_); rintro e w2 ⟨v2, rfl, ho2, hb2⟩; have HO2 := Lib.hid ho2; clear ho2))
      go_ret
      exact ⟨_, rfl, HO2.out.more HBR.out.size, HBR.out.trans (hb2.mono HBR.out.size)⟩
end Go.Proofs.YtjjkimjdmpeddaaGreatDoor
end
