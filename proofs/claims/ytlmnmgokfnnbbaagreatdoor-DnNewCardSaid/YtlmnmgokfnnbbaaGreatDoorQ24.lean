/- The parts FoldB of one proof, one behind the other. -/
import Derived.Test.YtlmnmgokfnnbbaaGreatDoorQ14
import Derived.Test.YtlmnmgokfnnbbaaGreatDoorQ23
import Derived.Test.YtlmnmgokfnnbbaaGreatDoorQ01
import Derived.Deep.RegionHeld3

/- Walk over charset.Same. -/
section
set_option linter.unusedSimpArgs false
set_option linter.unusedVariables false
namespace Go.Cr
open Go.RowKit
def sameT (a b : Int × List UInt8) : Bool := validT a.1 a.2 && validT b.1 b.2 && decide (foldP a.2 = foldP b.2)
end Go.Cr
namespace Go.Proofs.YtlmnmgokfnnbbaaGreatDoor
open Go.RowKit Go.Cr
theorem bstr_eq (a b : List UInt8) : ((bStr a).toList == (bStr b).toList) = decide (a = b) := by
  rw [ByteArray.toList_eq, ByteArray.toList_eq, Bool.eq_iff_iff, beq_iff_eq, decide_eq_true_eq]
  exact Iff.rfl
set_option maxRecDepth 100000 in
set_option maxHeartbeats 8000000 in
theorem same_any (k1 k2 : Int) (s1 s2 : ByteArray) (w : World) (hG : Glo w) (h1 : s1.size ≤ 1000000) (h2 : s2.size ≤ 1000000) :
    Calls Tryz.prog 106 #[.agg #[.int .i64 k1, .string s1], .agg #[.int .i64 k2, .string s2]] w (RetB (.bool (sameT (k1, s1.data.toList) (k2, s2.data.toList))) w) := by
  have HV1 := Lib.hid (fun W (g : Glo W) => valid_any k1 s1 W (kindOk_all _) g (by omega))
  have HV2 := Lib.hid (fun W (g : Glo W) => valid_any k2 s2 W (kindOk_all _) g (by omega))
  have HF1 := Lib.hid (fun W => fold_any s1 W h1)
  have HF2 := Lib.hid (fun W => fold_any s2 W h2)
  have hsm : sameT (k1, s1.data.toList) (k2, s2.data.toList) = (validT k1 s1.data.toList && validT k2 s2.data.toList && decide (foldP s1.data.toList = foldP s2.data.toList)) := rfl
  have hE := bstr_eq (foldP s1.data.toList) (foldP s2.data.toList)
  rw [hsm]
  generalize decide (foldP s1.data.toList = foldP s2.data.toList) = E at *
  generalize bStr (foldP s1.data.toList) = f1 at *
  generalize bStr (foldP s2.data.toList) = f2 at *
  generalize validT k1 s1.data.toList = B1 at *
  generalize validT k2 s2.data.toList = B2 at *
  have HG := Lib.hid hG
  clear h1 h2 hG hsm
  go_enter Tryz.func106, Tryz.ntmps106
  go_wp2_with fail
  have HK1 := Lib.hid ((Blk.new w 97 #[.int .i64 k1, .string s1]).alloc (.cells #[.int .i64 k2, .string s2] 97))
  have HK2 : Hid (Blk ((w.alloc (.cells #[.int .i64 k1, .string s1] 97)).alloc (.cells #[.int .i64 k2, .string s2] 97)) (w.heap.size + 1) 97 #[.int .i64 k2, .string s2]) := by
    have := Blk.new (w.alloc (.cells #[.int .i64 k1, .string s1] 97)) 97 #[.int .i64 k2, .string s2]
    exact Lib.hid (by simpa using this)
  have HW0 := Lib.hid (((Below.refl w.heap.size w).alloc (Nat.le_refl _) (.cells #[.int .i64 k1, .string s1] 97)).alloc (by simp) (.cells #[.int .i64 k2, .string s2] 97))
  have HG0 := Lib.hid ((HG.out.alloc (.cells #[.int .i64 k1, .string s1] 97)).alloc (.cells #[.int .i64 k2, .string s2] 97))
  generalize (w.alloc (.cells #[.int .i64 k1, .string s1] 97)).alloc (.cells #[.int .i64 k2, .string s2] 97) = w0 at *
  have hl1 := HK1.out.lt
  have hl2 := HK2.out.lt
  have HSS : Hid (∀ W, Below w0.heap.size w0 W → W.cell? ⟨w.heap.size, 0, none⟩ = some (.int .i64 k1) ∧ W.cell? ⟨w.heap.size, 1, none⟩ = some (.string s1) ∧ W.cell? ⟨w.heap.size + 1, 0, none⟩ = some (.int .i64 k2) ∧ W.cell? ⟨w.heap.size + 1, 1, none⟩ = some (.string s2)) := fun W hW => ⟨((HK1.out.call hW).q 0).trans rfl, ((HK1.out.call hW).q 1).trans rfl, ((HK2.out.call hW).q 0).trans rfl, ((HK2.out.call hW).q 1).trans rfl⟩
  obtain ⟨g0, g1, g2, g3⟩ := HSS.out w0 (Below.refl _ _)
  have hcur := Lib.hid ((Below.refl w0.heap.size w0).drew)
  cases B1 with
  | false =>
    first | go_region_with (first
        | ((go_at_call 139); (with_reducible refine (HV1.out _ (HG0.out.below hcur.out)).mono ?_); rintro e wz ⟨rfl, hbz⟩; have hcur := Lib.hid (hcur.out.trans (hbz.mono hcur.out.size)); obtain ⟨g0, g1, g2, g3⟩ := HSS.out _ hcur.out; clear hbz)
        | ((go_at_call 139); (with_reducible refine (HV2.out _ (HG0.out.below hcur.out)).mono ?_); rintro e wz ⟨rfl, hbz⟩; have hcur := Lib.hid (hcur.out.trans (hbz.mono hcur.out.size)); obtain ⟨g0, g1, g2, g3⟩ := HSS.out _ hcur.out; clear hbz)) | fail
    all_goals
      go_wp2_with fail
      go_ret
      exact ⟨by first | rfl | simp [*], HW0.out.trans (hcur.out.mono HW0.out.size)⟩
  | true =>
    cases B2 with
    | false =>
      first | go_region_with (first
          | ((go_at_call 139); (with_reducible refine (HV1.out _ (HG0.out.below hcur.out)).mono ?_); rintro e wz ⟨rfl, hbz⟩; have hcur := Lib.hid (hcur.out.trans (hbz.mono hcur.out.size)); obtain ⟨g0, g1, g2, g3⟩ := HSS.out _ hcur.out; clear hbz)
          | ((go_at_call 139); (with_reducible refine (HV2.out _ (HG0.out.below hcur.out)).mono ?_); rintro e wz ⟨rfl, hbz⟩; have hcur := Lib.hid (hcur.out.trans (hbz.mono hcur.out.size)); obtain ⟨g0, g1, g2, g3⟩ := HSS.out _ hcur.out; clear hbz)) | fail
      all_goals
        go_wp2_with fail
        go_ret
        exact ⟨by first | rfl | simp [*], HW0.out.trans (hcur.out.mono HW0.out.size)⟩
    | true =>
      go_region_held3 (fun W' => W'.cell? ⟨w.heap.size, 0, none⟩ = some (.int .i64 k1) ∧ W'.cell? ⟨w.heap.size, 1, none⟩ = some (.string s1) ∧ W'.cell? ⟨w.heap.size + 1, 0, none⟩ = some (.int .i64 k2) ∧ W'.cell? ⟨w.heap.size + 1, 1, none⟩ = some (.string s2))
        (first | go_keep | exact HSS.out _ hcur.out)
        (first
          | ((go_at_call 139); (with_reducible refine (HV1.out _ (HG0.out.below hcur.out)).mono ?_); rintro e wz ⟨rfl, hbz⟩; have hcur := Lib.hid (hcur.out.trans (hbz.mono hcur.out.size)); clear hbz)
          | ((go_at_call 139); (with_reducible refine (HV2.out _ (HG0.out.below hcur.out)).mono ?_); rintro e wz ⟨rfl, hbz⟩; have hcur := Lib.hid (hcur.out.trans (hbz.mono hcur.out.size)); clear hbz)
          | ((go_at_call 140); (with_reducible refine (HF1.out _).mono ?_); rintro e wz ⟨rfl, hbz⟩; have hcur := Lib.hid (hcur.out.trans (hbz.mono hcur.out.size)); clear hbz)
          | ((go_at_call 140); (with_reducible refine (HF2.out _).mono ?_); rintro e wz ⟨rfl, hbz⟩; have hcur := Lib.hid (hcur.out.trans (hbz.mono hcur.out.size)); clear hbz))
      all_goals
        go_wp2_with fail
        go_ret
        exact ⟨by first | rfl | simp [*], HW0.out.trans (hcur.out.mono HW0.out.size)⟩
end Go.Proofs.YtlmnmgokfnnbbaaGreatDoor
end
