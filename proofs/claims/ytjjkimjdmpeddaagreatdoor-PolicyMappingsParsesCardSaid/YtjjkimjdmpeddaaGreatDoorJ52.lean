/- The parts LawMapP of one proof, one behind the other. -/
import Derived.Test.YtjjkimjdmpeddaaGreatDoorJ51

/- PolicyMappingsParses: the walk. -/
section
set_option linter.unusedSimpArgs false
set_option linter.unusedVariables false
namespace Go.Proofs.YtjjkimjdmpeddaaGreatDoor
open Go.RowKit Go.Cr
def RetRPy (ms : List Mp) (w : World) (e : Ending) (w' : World) : Prop := ∃ A k, e = .returned (.tuple #[.slice A ms.length k, .bool true]) ∧ IsMs w' (.slice A ms.length k) ms ∧ Below w.heap.size w w'
theorem RetRP.yes {ms : List Mp} {w w' : World} {e : Ending} (h : RetRP (some ms) w e w') : RetRPy ms w e w' := by
  obtain ⟨hb, A, k, he, ho⟩ := h
  exact ⟨A, k, he, ho, hb⟩
theorem RetRP.no {w w' : World} {e : Ending} (h : RetRP none w e w') : RetB (.tuple #[.slice none 0 0, .bool false]) w e w' := ⟨h.2, h.1⟩
theorem isMs_nil (w : World) : IsMs w (.slice none 0 0) [] := ⟨none, 0, rfl, Nat.le_refl _, by decide, rfl, fun h => absurd h (by simp)⟩
theorem szM_par {b : List UInt8} {ms : List Mp} (hL : b.length ≤ 4700) (h : parMs b = some ms) : SzM ms := by
  unfold parMs at h
  split at h
  · cases h
  · rename_i ls hls
    split at h
    · rename_i hg
      split at h
      · injection h with h
        rw [← h]
        exact szM_raw hL hls hg
      · cases h
    · cases h
end Go.Proofs.YtjjkimjdmpeddaaGreatDoor
namespace Go.Proofs.YtjjkimjdmpeddaaGreatDoor.MapPDone
open Go.RowKit Go.Cr
set_option maxRecDepth 100000 in
set_option maxHeartbeats 8000000 in
theorem walk (v : Value) (b : List UInt8) (w : World) (hv : IsB w v b) (hG : Glo w) : Calls Tryz.prog 8 #[v] w (RetB (.bool true) w) := by
  have HA : Hid (∀ W, Glo W → Calls Tryz.prog 14 #[] W (RetB (.bool true) W)) := awake17
  have hlen := hv.len (P := Tryz.prog) ulB
  have hmx := hv.maxl
  have HV := Lib.hid hv
  have HG := Lib.hid hG
  have hcur := Lib.hid (Below.refl w.heap.size w)
  obtain ⟨A, k, rfl⟩ := isB_slice hv
  by_cases hL : b.length ≤ 3000
  · have hd : decide ((b.length : Int) > 3000) = false := decide_eq_false (by omega)
    have hd' : decide ((3000 : Int) < b.length) = false := decide_eq_false (by omega)
    have hpe := rparMs_eq (b := b) (by omega)
    cases hp : parMs b with
    | none =>
      rw [hp] at hpe
      have HPA : Hid (∀ W, Glo W → IsB W (.slice A b.length k) b → Calls Tryz.prog 33 #[.slice A b.length k] W (RetPMn b.length W)) := fun W g h => by
        have := polParseM _ b W g h (by omega)
        rw [hp] at this
        exact this.mono fun e w' hh => hh.no
      have HPR : Hid (∀ W, IsB W (.slice A b.length k) b → Calls Tryz.prog 35 #[.slice A b.length k] W (RetB (.tuple #[.slice none 0 0, .bool false]) W)) := fun W h => by
        have := rParM _ b W h (by omega)
        rw [hpe] at this
        exact this.mono fun e w' hh => hh.no
      have HSM : Hid (∀ W, Calls Tryz.prog 34 #[.slice none 0 0, .slice none 0 0] W (RetB (.bool true) W)) := fun W => by have := basM _ _ [] [] W (isMs_nil W) (isMs_nil W); rwa [decide_eq_true rfl] at this
      have HWI : Hid (∀ ec eo : Int, (0 < ec ∧ 0 ≤ eo ∧ eo ≤ b.length) → ∀ W, Calls Tryz.prog 27 #[.agg #[.int .i64 ec, .int .i64 eo], .int .i64 b.length] W (RetB (.bool true) W)) := fun ec eo h W => within_ok ec eo _ W (.inr h)
      unfold RetPMn at HPA
      simp only [errV] at HPA
      clear hv hG hp hpe
      generalize b.length = n at *
      go_enter Tryz.func8, Tryz.ntmps8
      go_wp2_with (first | ((go_at_call 14); (with_reducible refine (HA.out _ (HG.out.below hcur.out)).mono ?_); rintro e wz ⟨rfl, hbz⟩; have hcur := Lib.hid (hcur.out.trans (hbz.mono hcur.out.size)); clear hbz) | ((go_at_call 33); (with_reducible refine (HPA.out _ (HG.out.below hcur.out) (HV.out.below hcur.out)).mono ?_); rintro e wz ⟨ec, eo, h1, h2, h3, rfl, hbz⟩; have hn : (ec == 0) = false := beq_eq_false_iff_ne.2 (by omega); have hn' : (ec != 0) = true := (by simp; omega); have HER := Lib.hid (And.intro h1 (And.intro h2 h3)); have hsz := hbz.size; have hcs := hcur.out.size; have hcur := Lib.hid ((hcur.out.trans (hbz.mono hcur.out.size)).alloc (by omega) (.cells #[.int .i64 ec, .int .i64 eo] 38)); have K := Lib.hid (Blk.new wz 38 #[.int .i64 ec, .int .i64 eo]); clear hbz h1 h2 h3 hsz hcs) | ((go_at_call 35); (with_reducible refine (HPR.out _ (HV.out.below hcur.out)).mono ?_); rintro e wz ⟨rfl, hbz⟩; have hcur := Lib.hid (hcur.out.trans (hbz.mono hcur.out.size)); have K := Lib.hid (K.out.call hbz); have qK := K.out.q; have lK := K.out.lt; clear hbz) | ((go_at_call 34); (with_reducible refine (HSM.out _).mono ?_); rintro e wz ⟨rfl, hbz⟩; have hcur := Lib.hid (hcur.out.trans (hbz.mono hcur.out.size)); have K := Lib.hid (K.out.call hbz); have qK := K.out.q; have lK := K.out.lt; clear hbz) | ((go_at_call 27); (with_reducible refine (HWI.out _ _ HER.out _).mono ?_); rintro e wz ⟨rfl, hbz⟩; have hcur := Lib.hid (hcur.out.trans (hbz.mono hcur.out.size)); have K := Lib.hid (K.out.call hbz); have qK := K.out.q; have lK := K.out.lt; clear hbz))
      all_goals go_ret
      all_goals exact ⟨rfl, hcur.out⟩
    | some ms =>
      rw [hp] at hpe
      have hz := szM_par (by omega) hp
      have hmar := parMs_mar hp
      have ho : okM ms = true := by
        unfold marM at hmar
        split at hmar
        · assumption
        · cases hmar
      have hsq : seqL (ms.map parM) = b := by unfold marM at hmar; rw [if_pos ho] at hmar; exact Option.some.inj hmar
      have HPA : Hid (∀ W, Glo W → IsB W (.slice A b.length k) b → Calls Tryz.prog 33 #[.slice A b.length k] W (RetPMy ms W)) := fun W g h => by
        have := polParseM _ b W g h (by omega)
        rw [hp] at this
        exact this.mono fun e w' hh => hh.yes
      have HPR : Hid (∀ W, IsB W (.slice A b.length k) b → Calls Tryz.prog 35 #[.slice A b.length k] W (RetRPy ms W)) := fun W h => by
        have := rParM _ b W h (by omega)
        rw [hpe] at this
        exact this.mono fun e w' hh => hh.yes
      have HSM : Hid (∀ W a a', IsMs W a ms → IsMs W a' ms → Calls Tryz.prog 34 #[a, a'] W (RetB (.bool true) W)) := fun W a a' h1 h2 => by have := basM _ _ ms ms W h1 h2; rwa [decide_eq_true rfl] at this
      have HWI : Hid (∀ W, Calls Tryz.prog 27 #[.agg #[.int .i64 0, .int .i64 0], .int .i64 b.length] W (RetB (.bool true) W)) := fun W => within_ok 0 0 _ W (.inl ⟨rfl, rfl⟩)
      have HPV : Hid (∀ W a, Glo W → IsMs W a ms → Calls Tryz.prog 31 #[a] W (RetB (.bool true) W)) := fun W a g h => by have := polValidM _ ms W g h hz; rwa [ho] at this
      have hfl : (ms.map parM).flatten.length ≤ 900000 := by have := seqL_len (ms.map parM); rw [hsq] at this; omega
      have HPM : Hid (∀ W a, Glo W → IsMs W a ms → Calls Tryz.prog 29 #[a] W (RetOidY b W)) := fun W a g h => by have := polMarM_yes a ms W g h hz hfl ho; rwa [hsq] at this
      have HBY : Hid (∀ W a, IsB W a b → IsB W (.slice A b.length k) b → Calls Tryz.prog 21 #[a, .slice A b.length k] W (RetB (.bool true) W)) := fun W a h1 h2 => by have := bytes_any a _ _ _ W h1 h2; rwa [decide_eq_true rfl] at this
      unfold RetPMy at HPA
      simp only [errV] at HPA
      clear hv hG hp hpe hz hmar ho hsq hfl
      go_enter Tryz.func8, Tryz.ntmps8
      go_wp2_with (first | ((go_at_call 14); (with_reducible refine (HA.out _ (HG.out.below hcur.out)).mono ?_); rintro e wz ⟨rfl, hbz⟩; have hcur := Lib.hid (hcur.out.trans (hbz.mono hcur.out.size)); clear hbz) | ((go_at_call 33); (with_reducible refine (HPA.out _ (HG.out.below hcur.out) (HV.out.below hcur.out)).mono ?_); rintro e wz ⟨A3, k3, rfl, ho3, hbz⟩; have hsz := hbz.size; have hcs := hcur.out.size; have hcur := Lib.hid ((hcur.out.trans (hbz.mono hcur.out.size)).alloc (by omega) (.cells #[.int .i64 0, .int .i64 0] 38)); have K := Lib.hid (Blk.new wz 38 #[.int .i64 0, .int .i64 0]); have HX := Lib.hid (ho3.alloc (.cells #[.int .i64 0, .int .i64 0] 38)); clear hbz hsz hcs ho3) | ((go_at_call 35); (with_reducible refine (HPR.out _ (HV.out.below hcur.out)).mono ?_); rintro e wz ⟨A4, k4, rfl, ho4, hbz⟩; have hcur := Lib.hid (hcur.out.trans (hbz.mono hcur.out.size)); have K := Lib.hid (K.out.call hbz); have qK := K.out.q; have lK := K.out.lt; have HX := Lib.hid (HX.out.below hbz); have HY := Lib.hid ho4; clear hbz ho4) | ((go_at_call 34); (with_reducible refine (HSM.out _ _ _ HX.out HY.out).mono ?_); rintro e wz ⟨rfl, hbz⟩; have hcur := Lib.hid (hcur.out.trans (hbz.mono hcur.out.size)); have K := Lib.hid (K.out.call hbz); have qK := K.out.q; have lK := K.out.lt; have HX := Lib.hid (HX.out.below hbz); have HY := Lib.hid (HY.out.below hbz); clear hbz) | ((go_at_call 27); (with_reducible refine (HWI.out _).mono ?_); rintro e wz ⟨rfl, hbz⟩; have hcur := Lib.hid (hcur.out.trans (hbz.mono hcur.out.size)); have K := Lib.hid (K.out.call hbz); have qK := K.out.q; have lK := K.out.lt; have HX := Lib.hid (HX.out.below hbz); have HY := Lib.hid (HY.out.below hbz); clear hbz) | ((go_at_call 31); (with_reducible refine (HPV.out _ _ (HG.out.below hcur.out) HX.out).mono ?_); rintro e wz ⟨rfl, hbz⟩; have hcur := Lib.hid (hcur.out.trans (hbz.mono hcur.out.size)); have K := Lib.hid (K.out.call hbz); have qK := K.out.q; have lK := K.out.lt; have HX := Lib.hid (HX.out.below hbz); have HY := Lib.hid (HY.out.below hbz); clear hbz) | ((go_at_call 29); (with_reducible refine (HPM.out _ _ (HG.out.below hcur.out) HX.out).mono ?_); rintro e wz ⟨v6, rfl, ho6, hbz⟩; obtain ⟨A6, k6, rfl⟩ := isB_slice ho6.isB; have hcur := Lib.hid (hcur.out.trans (hbz.mono hcur.out.size)); have K := Lib.hid (K.out.call hbz); have qK := K.out.q; have lK := K.out.lt; have HX := Lib.hid (HX.out.below hbz); have HY := Lib.hid ho6.isB; clear hbz ho6) | ((go_at_call 21); (with_reducible refine (HBY.out _ _ HY.out (HV.out.below hcur.out)).mono ?_); rintro e wz ⟨rfl, hbz⟩; have hcur := Lib.hid (hcur.out.trans (hbz.mono hcur.out.size)); have K := Lib.hid (K.out.call hbz); have qK := K.out.q; have lK := K.out.lt; have HX := Lib.hid (HX.out.below hbz); have HY := Lib.hid (HY.out.below hbz); clear hbz))
      all_goals go_ret
      all_goals exact ⟨rfl, hcur.out⟩
  · have hd : decide ((b.length : Int) > 3000) = true := decide_eq_true (by omega)
    have hd' : decide ((3000 : Int) < b.length) = true := decide_eq_true (by omega)
    clear hv hG
    generalize b.length = n at *
    go_enter Tryz.func8, Tryz.ntmps8
    go_wp2_with (first | ((go_at_call 14); (with_reducible refine (HA.out _ (HG.out.below hcur.out)).mono ?_); rintro e wz ⟨rfl, hbz⟩; have hcur := Lib.hid (hcur.out.trans (hbz.mono hcur.out.size)); clear hbz))
    go_ret
    exact ⟨rfl, hcur.out⟩
end Go.Proofs.YtjjkimjdmpeddaaGreatDoor.MapPDone
end
