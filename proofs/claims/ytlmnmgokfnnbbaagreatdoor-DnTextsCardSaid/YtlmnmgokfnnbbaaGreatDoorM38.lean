/- The parts LawNamT of one proof, one behind the other. -/
import Derived.Test.YtlmnmgokfnnbbaaGreatDoorM12
import Derived.Test.YtlmnmgokfnnbbaaGreatDoorM35
import Derived.Test.YtlmnmgokfnnbbaaGreatDoorM34
import Derived.Test.YtlmnmgokfnnbbaaGreatDoorM37

/- DnTexts: the walk. -/
section
set_option linter.unusedSimpArgs false
set_option linter.unusedVariables false
namespace Go.Proofs.YtlmnmgokfnnbbaaGreatDoor
open Go.RowKit Go.Cr
theorem val_ok {b : List UInt8} (h : b.length ≤ 100000) : ValOk b := fun v W g hv => by
  unfold valX
  cases hs : strD b with
  | none => exact value_no v b W g hv h hs
  | some p => obtain ⟨k, s⟩ := p; exact value_yes v b k s W g hv h hs
end Go.Proofs.YtlmnmgokfnnbbaaGreatDoor
namespace Go.Proofs.YtlmnmgokfnnbbaaGreatDoor.NamTDone
open Go.RowKit Go.Cr
set_option maxRecDepth 100000 in
set_option maxHeartbeats 8000000 in
theorem walk (v : Value) (ms : Nam) (w : World) (hv : IsNm w v ms) (hM : BdNm 140737488351232 ms) (hG : Glo w) : Calls Tryz.prog 4 #[v] w (RetB (.bool true) w) := by
  have HA : Hid (∀ W, Glo W → Calls Tryz.prog 14 #[] W (RetB (.bool true) W)) := awakeD
  have HF : Hid (∀ W, IsNm W v ms → Calls Tryz.prog 15 #[v] W (RetFnm ms W)) := fun W h => rFewNm v ms W h hM
  have HV := Lib.hid hv
  have HG := Lib.hid hG
  have HT : Hid (FwNm ms → ∀ W, Glo W → IsNm W v ms → Calls Tryz.prog 21 #[v] W (RetB (.string (if (marNm ms).isSome then textX ms else ⟨#[]⟩)) W)) := Lib.hid (fun z W g h => dnText v ms W g h z.sz (fun r hr a ha => val_ok (by have := (z.2.1 r hr).2.1 a ha; unfold FewA at this; omega)))
  have HR : Hid (FwNm ms → ∀ W, IsNm W v ms → Calls Tryz.prog 22 #[v] W (RetB (.string (if (marNm ms).isSome then textX ms else ⟨#[]⟩)) W)) := Lib.hid (fun z W h => rTextN v ms W h z.sz (fun r hr a ha => by have := (z.2.1 r hr).2.1 a ha; unfold FewA at this; omega))
  generalize (if (marNm ms).isSome then textX ms else ⟨#[]⟩) = X at *
  have he : (X.toList == X.toList) = true := by simp
  have hcur := Lib.hid (Below.refl w.heap.size w)
  obtain ⟨A, k, rfl⟩ := isNm_slice hv
  clear hv hM hG
  go_enter Tryz.func4, Tryz.ntmps4
  go_wp2_with (first | ((go_at_call 14); (with_reducible refine (HA.out _ (HG.out.below hcur.out)).mono ?_); rintro e wz ⟨rfl, hbz⟩; have hcur := Lib.hid (hcur.out.trans (hbz.mono hcur.out.size)); clear hbz) | ((go_at_call 15); (with_reducible refine (HF.out _ (HV.out.below hcur.out)).mono ?_); rintro e wz ⟨b, rfl, hb, hbz⟩; have hcur := Lib.hid (hcur.out.trans (hbz.mono hcur.out.size)); have HFW := Lib.hid hb; clear hb hbz; cases b) | ((go_at_call 21); (with_reducible refine (HT.out (HFW.out (by trivial)) _ (HG.out.below hcur.out) (HV.out.below hcur.out)).mono ?_); rintro e wz ⟨rfl, hbz⟩; have hcur := Lib.hid (hcur.out.trans (hbz.mono hcur.out.size)); clear hbz) | ((go_at_call 22); (with_reducible refine (HR.out (HFW.out (by trivial)) _ (HV.out.below hcur.out)).mono ?_); rintro e wz ⟨rfl, hbz⟩; have hcur := Lib.hid (hcur.out.trans (hbz.mono hcur.out.size)); clear hbz))
  all_goals go_ret
  all_goals exact ⟨by first | rfl | simp, hcur.out⟩
end Go.Proofs.YtlmnmgokfnnbbaaGreatDoor.NamTDone
end
