/- The parts LawMapM of one proof, one behind the other. -/
import Derived.Test.YtjjkimjdmpeddaaGreatDoorJ45
import Derived.Test.YtjjkimjdmpeddaaGreatDoorJ41
import Derived.Test.YtjjkimjdmpeddaaGreatDoorJ42
import Derived.Test.YtjjkimjdmpeddaaGreatDoorJ50
import Derived.Test.YtjjkimjdmpeddaaGreatDoorJ36

/- PolicyMappingsMarshals: the walk. -/
section
set_option linter.unusedSimpArgs false
set_option linter.unusedVariables false
namespace Go.Proofs.YtjjkimjdmpeddaaGreatDoor
open Go.RowKit Go.Cr
theorem fw_flat {ms : List Mp} (h : FwM ms) : (ms.map parM).flatten.length ≤ 1300 := by
  have h1 : ∀ (ls : List Mp), (ls.map parM).flatten.length ≤ szSum ls + 30 * ls.length := fun ls => by
    induction ls with
    | nil => simp
    | cons x t ih =>
      have h0 := parM_le x
      unfold szSum at ih ⊢
      simp only [List.map_cons, List.flatten_cons, List.length_append, List.length_cons, List.sum_cons]
      omega
  have h2 := h1 ms
  have h3 := h.1
  have h4 := h.2
  omega
theorem fw_seq {ms : List Mp} (h : FwM ms) : (seqL (ms.map parM)).length ≤ 1310 := by
  have h1 := fw_flat h
  have h2 := seqB_le (ms.map parM)
  rw [← seqL_eq] at h2
  omega
/-- What ParseMappings leaves where there are mappings. -/
def RetPMy (ms : List Mp) (w : World) (e : Ending) (w' : World) : Prop := ∃ A k, e = .returned (.tuple #[.slice A ms.length k, errV (0, 0)]) ∧ IsMs w' (.slice A ms.length k) ms ∧ Below w.heap.size w w'
def RetPMn (L : Nat) (w : World) (e : Ending) (w' : World) : Prop := ∃ ec eo : Int, 0 < ec ∧ 0 ≤ eo ∧ eo ≤ L ∧ e = .returned (.tuple #[.slice none 0 0, errV (ec, eo)]) ∧ Below w.heap.size w w'
theorem RetPMs.yes {ms : List Mp} {L : Nat} {w w' : World} {e : Ending} (h : RetPMs (some ms) L w e w') : RetPMy ms w e w' := by
  obtain ⟨hb, A, k, he, ho⟩ := h
  exact ⟨A, k, he, isMs_of ho.isL, hb⟩
theorem RetPMs.no {L : Nat} {w w' : World} {e : Ending} (h : RetPMs none L w e w') : RetPMn L w e w' := by
  obtain ⟨hb, ec, eo, h1, h2, h3, he⟩ := h
  exact ⟨ec, eo, h1, h2, h3, he, hb⟩
end Go.Proofs.YtjjkimjdmpeddaaGreatDoor
namespace Go.Proofs.YtjjkimjdmpeddaaGreatDoor.MapMDone
open Go.RowKit Go.Cr
set_option maxRecDepth 100000 in
set_option maxHeartbeats 8000000 in
theorem walk (v : Value) (ms : List Mp) (w : World) (hv : IsMs w v ms) (hM : BdM 140737488351232 ms) (hG : Glo w) : Calls Tryz.prog 7 #[v] w (RetB (.bool true) w) := by
  have HA : Hid (∀ W, Glo W → Calls Tryz.prog 14 #[] W (RetB (.bool true) W)) := awake17
  have HF : Hid (∀ W, IsMs W v ms → Calls Tryz.prog 28 #[v] W (RetFwM ms W)) := fun W h => rFewM v ms W h hM
  have HV := Lib.hid hv
  have HG := Lib.hid hG
  obtain ⟨A, k, rfl⟩ := isMs_slice hv
  have HPV : Hid (SzM ms → ∀ W, Glo W → IsMs W (.slice A ms.length k) ms → Calls Tryz.prog 31 #[.slice A ms.length k] W (RetB (.bool (okM ms)) W)) := fun z W g h => polValidM _ ms W g h z
  have HRV : Hid (SzM ms → ∀ W, IsMs W (.slice A ms.length k) ms → Calls Tryz.prog 32 #[.slice A ms.length k] W (RetB (.bool (okM ms)) W)) := fun z W h => rValidM _ ms W h z
  cases ho : okM ms with
  | false =>
    have HPM : Hid (SzM ms → ∀ W, Glo W → IsMs W (.slice A ms.length k) ms → Calls Tryz.prog 29 #[.slice A ms.length k] W (RetB (.tuple #[.slice none 0 0, .int .i64 8]) W)) := fun z W g h => polMarM_no _ ms W g h z ho
    have HRM : Hid (SzM ms → ∀ W, IsMs W (.slice A ms.length k) ms → Calls Tryz.prog 30 #[.slice A ms.length k] W (RetB (.tuple #[.slice none 0 0, .int .i64 8]) W)) := fun z W h => rMarM_no _ ms W h z ho
    have HBY : Hid (∀ W, Calls Tryz.prog 21 #[.slice none 0 0, .slice none 0 0] W (RetB (.bool true) W)) := fun W => by have := bytes_any (.slice none 0 0) (.slice none 0 0) [] [] W (isB_nil0 W) (isB_nil0 W); rwa [decide_eq_true rfl] at this
    rw [ho] at HPV HRV
    have hcur := Lib.hid (Below.refl w.heap.size w)
    clear hv hM hG ho
    go_enter Tryz.func7, Tryz.ntmps7
    go_wp2_with (first | ((go_at_call 14); (with_reducible refine (HA.out _ (HG.out.below hcur.out)).mono ?_); rintro e wz ⟨rfl, hbz⟩; have hcur := Lib.hid (hcur.out.trans (hbz.mono hcur.out.size)); clear hbz) | ((go_at_call 28); (with_reducible refine (HF.out _ (HV.out.below hcur.out)).mono ?_); rintro e wz ⟨b, rfl, hb, hbz⟩; have hcur := Lib.hid (hcur.out.trans (hbz.mono hcur.out.size)); have HFW := Lib.hid hb; clear hb hbz; cases b) | ((go_at_call 29); (with_reducible refine (HPM.out (HFW.out (by trivial)).sz _ (HG.out.below hcur.out) (HV.out.below hcur.out)).mono ?_); rintro e wz ⟨rfl, hbz⟩; have hcur := Lib.hid (hcur.out.trans (hbz.mono hcur.out.size)); clear hbz) | ((go_at_call 30); (with_reducible refine (HRM.out (HFW.out (by trivial)).sz _ (HV.out.below hcur.out)).mono ?_); rintro e wz ⟨rfl, hbz⟩; have hcur := Lib.hid (hcur.out.trans (hbz.mono hcur.out.size)); clear hbz) | ((go_at_call 21); (with_reducible refine (HBY.out _).mono ?_); rintro e wz ⟨rfl, hbz⟩; have hcur := Lib.hid (hcur.out.trans (hbz.mono hcur.out.size)); clear hbz) | ((go_at_call 31); (with_reducible refine (HPV.out (HFW.out (by trivial)).sz _ (HG.out.below hcur.out) (HV.out.below hcur.out)).mono ?_); rintro e wz ⟨rfl, hbz⟩; have hcur := Lib.hid (hcur.out.trans (hbz.mono hcur.out.size)); clear hbz) | ((go_at_call 32); (with_reducible refine (HRV.out (HFW.out (by trivial)).sz _ (HV.out.below hcur.out)).mono ?_); rintro e wz ⟨rfl, hbz⟩; have hcur := Lib.hid (hcur.out.trans (hbz.mono hcur.out.size)); clear hbz))
    all_goals go_ret
    all_goals exact ⟨rfl, hcur.out⟩
  | true =>
    have HPM : Hid (FwM ms → ∀ W, Glo W → IsMs W (.slice A ms.length k) ms → Calls Tryz.prog 29 #[.slice A ms.length k] W (RetOidY (seqL (ms.map parM)) W)) := fun z W g h => polMarM_yes _ ms W g h z.sz (by have := fw_flat z; omega) ho
    have HRM : Hid (FwM ms → ∀ W, IsMs W (.slice A ms.length k) ms → Calls Tryz.prog 30 #[.slice A ms.length k] W (RetOidY (seqL (ms.map parM)) W)) := fun z W h => rMarM_yes _ ms W h z.sz (by have := fw_flat z; omega) ho
    have HBY : Hid (∀ W a b, IsB W a (seqL (ms.map parM)) → IsB W b (seqL (ms.map parM)) → Calls Tryz.prog 21 #[a, b] W (RetB (.bool true) W)) := fun W a b h1 h2 => by have := bytes_any a b _ _ W h1 h2; rwa [decide_eq_true rfl] at this
    have hmar : marM ms = some (seqL (ms.map parM)) := by unfold marM; simp [ho]
    have HPA : Hid (FwM ms → ∀ W a, Glo W → IsB W a (seqL (ms.map parM)) → Calls Tryz.prog 33 #[a] W (RetPMy ms W)) := fun z W a g h => by
      have hl := fw_seq z
      have := polParseM a _ W g h (by omega)
      rw [mar_parMs hmar (by omega)] at this
      exact this.mono fun e w' hh => hh.yes
    have HSM : Hid (∀ W a, IsMs W a ms → IsMs W (.slice A ms.length k) ms → Calls Tryz.prog 34 #[a, .slice A ms.length k] W (RetB (.bool true) W)) := fun W a h1 h2 => by have := basM a _ ms ms W h1 h2; rwa [decide_eq_true rfl] at this
    rw [ho] at HPV HRV
    have hcur := Lib.hid (Below.refl w.heap.size w)
    unfold RetPMy at HPA
    simp only [errV] at HPA
    clear hv hM hG ho hmar
    generalize seqL (ms.map parM) = c at *
    go_enter Tryz.func7, Tryz.ntmps7
    go_wp2_with (first | ((go_at_call 14); (with_reducible refine (HA.out _ (HG.out.below hcur.out)).mono ?_); rintro e wz ⟨rfl, hbz⟩; have hcur := Lib.hid (hcur.out.trans (hbz.mono hcur.out.size)); clear hbz) | ((go_at_call 28); (with_reducible refine (HF.out _ (HV.out.below hcur.out)).mono ?_); rintro e wz ⟨b, rfl, hb, hbz⟩; have hcur := Lib.hid (hcur.out.trans (hbz.mono hcur.out.size)); have HFW := Lib.hid hb; clear hb hbz; cases b) | ((go_at_call 29); (with_reducible refine (HPM.out (HFW.out (by trivial)) _ (HG.out.below hcur.out) (HV.out.below hcur.out)).mono ?_); rintro e wz ⟨v3, rfl, ho3, hbz⟩; obtain ⟨A3, k3, rfl⟩ := isB_slice ho3.isB; have hcur := Lib.hid (hcur.out.trans (hbz.mono hcur.out.size)); have HV3 := Lib.hid ho3.isB; have hw3 := Lib.hid (Below.refl wz.heap.size wz); clear ho3 hbz) | ((go_at_call 30); (with_reducible refine (HRM.out (HFW.out (by trivial)) _ (HV.out.below hcur.out)).mono ?_); rintro e wy ⟨v4, rfl, ho4, hbz⟩; obtain ⟨A4, k4, rfl⟩ := isB_slice ho4.isB; have hcur := Lib.hid (hcur.out.trans (hbz.mono hcur.out.size)); have HV3 := Lib.hid (HV3.out.below hbz); have HV4 := Lib.hid ho4.isB; clear ho4 hbz) | ((go_at_call 21); (with_reducible refine (HBY.out _ _ _ HV3.out HV4.out).mono ?_); rintro e wz ⟨rfl, hbz⟩; have hcur := Lib.hid (hcur.out.trans (hbz.mono hcur.out.size)); have HV3 := Lib.hid (HV3.out.below hbz); have HV4 := Lib.hid (HV4.out.below hbz); clear hbz) | ((go_at_call 31); (with_reducible refine (HPV.out (HFW.out (by trivial)).sz _ (HG.out.below hcur.out) (HV.out.below hcur.out)).mono ?_); rintro e wz ⟨rfl, hbz⟩; have hcur := Lib.hid (hcur.out.trans (hbz.mono hcur.out.size)); have HV3 := Lib.hid (HV3.out.below hbz); clear hbz) | ((go_at_call 32); (with_reducible refine (HRV.out (HFW.out (by trivial)).sz _ (HV.out.below hcur.out)).mono ?_); rintro e wz ⟨rfl, hbz⟩; have hcur := Lib.hid (hcur.out.trans (hbz.mono hcur.out.size)); have HV3 := Lib.hid (HV3.out.below hbz); clear hbz) | ((go_at_call 33); (with_reducible refine (HPA.out (HFW.out (by trivial)) _ _ (HG.out.below hcur.out) HV3.out).mono ?_); rintro e wz ⟨A5, k5, rfl, ho5, hbz⟩; have hcur := Lib.hid (hcur.out.trans (hbz.mono hcur.out.size)); have HV5 := Lib.hid ho5; clear ho5 hbz) | ((go_at_call 34); (with_reducible refine (HSM.out _ _ (HV5.out.alloc _) (HV.out.below (hcur.out.alloc hcur.out.size _))).mono ?_); rintro e wz ⟨rfl, hbz⟩; have hcur := Lib.hid ((hcur.out.alloc hcur.out.size _).trans (hbz.mono (by have := hcur.out.size; simp; omega))); clear hbz))
    all_goals go_ret
    all_goals exact ⟨rfl, hcur.out⟩
end Go.Proofs.YtjjkimjdmpeddaaGreatDoor.MapMDone
end
