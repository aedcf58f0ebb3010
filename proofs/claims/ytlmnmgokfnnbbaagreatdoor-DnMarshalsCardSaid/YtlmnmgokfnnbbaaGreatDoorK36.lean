/- The parts LawRdnM, LawRdnP, LawNamM, LawNamP of one proof, one behind the other. -/
import Derived.Test.YtlmnmgokfnnbbaaGreatDoorK12
import Derived.Test.YtlmnmgokfnnbbaaGreatDoorK35
import Derived.Test.YtlmnmgokfnnbbaaGreatDoorK34

/- DnRDNMarshals: the walk. -/
section
set_option linter.unusedSimpArgs false
set_option linter.unusedVariables false
namespace Go.Proofs.YtlmnmgokfnnbbaaGreatDoor.RdnMDone
open Go.RowKit Go.Cr
set_option maxRecDepth 100000 in
set_option maxHeartbeats 8000000 in
theorem walk (v : Value) (ms : Rdn) (w : World) (hv : IsQs w v ms) (hM : BdR 140737488351232 ms) (hG : Glo w) : Calls Tryz.prog 6 #[v] w (RetB (.bool true) w) := by
  have HA : Hid (∀ W, Glo W → Calls Tryz.prog 14 #[] W (RetB (.bool true) W)) := awakeD
  have HF : Hid (∀ W, IsQs W v ms → Calls Tryz.prog 23 #[v] W (RetFr ms W)) := fun W h => rFewRDN v ms W h hM
  have HV := Lib.hid hv
  have HG := Lib.hid hG
  obtain ⟨A, k, rfl⟩ := isQs_slice hv
  have HPV : Hid (SzR ms → ∀ W, Glo W → IsQs W (.slice A ms.length k) ms → Calls Tryz.prog 30 #[.slice A ms.length k] W (RetB (.bool (marR ms).isSome) W)) := fun z W g h => dnValidRDN _ ms W g h z
  have HRV : Hid (SzR ms → ∀ W, IsQs W (.slice A ms.length k) ms → Calls Tryz.prog 31 #[.slice A ms.length k] W (RetB (.bool (marR ms).isSome) W)) := fun z W h => rValidRDN _ ms W h z
  cases hmar : marR ms with
  | none =>
    have HPM : Hid (SzR ms → ∀ W, Glo W → IsQs W (.slice A ms.length k) ms → Calls Tryz.prog 24 #[.slice A ms.length k] W (RetB (.tuple #[.slice none 0 0, .int .i64 8]) W)) := fun z W g h => (dnMarshalRDN _ ms W g h z).mono fun e w' hh => by rw [hmar] at hh; exact hh.no
    have HRM : Hid (SzR ms → ∀ W, IsQs W (.slice A ms.length k) ms → Calls Tryz.prog 29 #[.slice A ms.length k] W (RetB (.tuple #[.slice none 0 0, .int .i64 8]) W)) := fun z W h => (rMarshalRDN _ ms W h z).mono fun e w' hh => by rw [hmar] at hh; exact hh.no
    have HBY : Hid (∀ W, Calls Tryz.prog 28 #[.slice none 0 0, .slice none 0 0] W (RetB (.bool true) W)) := fun W => by have := bytes_any (.slice none 0 0) (.slice none 0 0) [] [] W (isB_nil0 W) (isB_nil0 W); rwa [decide_eq_true rfl] at this
    rw [hmar] at HPV HRV
    simp only [Option.isSome_none] at HPV HRV
    have hcur := Lib.hid (Below.refl w.heap.size w)
    clear hv hM hG hmar
    go_enter Tryz.func6, Tryz.ntmps6
    go_wp2_with (first | ((go_at_call 14); (with_reducible refine (HA.out _ (HG.out.below hcur.out)).mono ?_); rintro e wz ⟨rfl, hbz⟩; have hcur := Lib.hid (hcur.out.trans (hbz.mono hcur.out.size)); clear hbz) | ((go_at_call 23); (with_reducible refine (HF.out _ (HV.out.below hcur.out)).mono ?_); rintro e wz ⟨b, rfl, hb, hbz⟩; have hcur := Lib.hid (hcur.out.trans (hbz.mono hcur.out.size)); have HFW := Lib.hid hb; clear hb hbz; cases b) | ((go_at_call 24); (with_reducible refine (HPM.out (HFW.out (by trivial)).sz _ (HG.out.below hcur.out) (HV.out.below hcur.out)).mono ?_); rintro e wz ⟨rfl, hbz⟩; have hcur := Lib.hid (hcur.out.trans (hbz.mono hcur.out.size)); clear hbz) | ((go_at_call 29); (with_reducible refine (HRM.out (HFW.out (by trivial)).sz _ (HV.out.below hcur.out)).mono ?_); rintro e wz ⟨rfl, hbz⟩; have hcur := Lib.hid (hcur.out.trans (hbz.mono hcur.out.size)); clear hbz) | ((go_at_call 28); (with_reducible refine (HBY.out _).mono ?_); rintro e wz ⟨rfl, hbz⟩; have hcur := Lib.hid (hcur.out.trans (hbz.mono hcur.out.size)); clear hbz) | ((go_at_call 30); (with_reducible refine (HPV.out (HFW.out (by trivial)).sz _ (HG.out.below hcur.out) (HV.out.below hcur.out)).mono ?_); rintro e wz ⟨rfl, hbz⟩; have hcur := Lib.hid (hcur.out.trans (hbz.mono hcur.out.size)); clear hbz) | ((go_at_call 31); (with_reducible refine (HRV.out (HFW.out (by trivial)).sz _ (HV.out.below hcur.out)).mono ?_); rintro e wz ⟨rfl, hbz⟩; have hcur := Lib.hid (hcur.out.trans (hbz.mono hcur.out.size)); clear hbz))
    all_goals go_ret
    all_goals exact ⟨rfl, hcur.out⟩
  | some c =>
    have HPM : Hid (FwR ms → ∀ W, Glo W → IsQs W (.slice A ms.length k) ms → Calls Tryz.prog 24 #[.slice A ms.length k] W (RetOidY c W)) := fun z W g h => (dnMarshalRDN _ ms W g h z.sz).mono fun e w' hh => by rw [hmar] at hh; exact hh.yes
    have HRM : Hid (FwR ms → ∀ W, IsQs W (.slice A ms.length k) ms → Calls Tryz.prog 29 #[.slice A ms.length k] W (RetOidY c W)) := fun z W h => (rMarshalRDN _ ms W h z.sz).mono fun e w' hh => by rw [hmar] at hh; exact hh.yes
    have HBY : Hid (∀ W a b, IsB W a c → IsB W b c → Calls Tryz.prog 28 #[a, b] W (RetB (.bool true) W)) := fun W a b h1 h2 => by have := bytes_any a b _ _ W h1 h2; rwa [decide_eq_true rfl] at this
    have HPA : Hid (FwR ms → ∀ W a, Glo W → IsB W a c → Calls Tryz.prog 25 #[a] W (RetPyR ms W)) := fun z W a g h => by
      have hl := z.lenM hmar
      have := dnParseRDN a _ W g h (by omega)
      rw [mar_parR hmar (by omega)] at this
      exact this.mono fun e w' hh => hh.yes
    have HSM : Hid (∀ W a, IsQs W a ms → IsQs W (.slice A ms.length k) ms → Calls Tryz.prog 26 #[a, .slice A ms.length k] W (RetB (.bool true) W)) := fun W a h1 h2 => by have := basRdn a _ ms ms W h1 h2; rwa [decide_eq_true rfl] at this
    rw [hmar] at HPV HRV
    simp only [Option.isSome_some] at HPV HRV
    have hcur := Lib.hid (Below.refl w.heap.size w)
    unfold RetPyR at HPA
    simp only [errV] at HPA
    clear hv hM hG hmar
    go_enter Tryz.func6, Tryz.ntmps6
    go_wp2_with (first | ((go_at_call 14); (with_reducible refine (HA.out _ (HG.out.below hcur.out)).mono ?_); rintro e wz ⟨rfl, hbz⟩; have hcur := Lib.hid (hcur.out.trans (hbz.mono hcur.out.size)); clear hbz) | ((go_at_call 23); (with_reducible refine (HF.out _ (HV.out.below hcur.out)).mono ?_); rintro e wz ⟨b, rfl, hb, hbz⟩; have hcur := Lib.hid (hcur.out.trans (hbz.mono hcur.out.size)); have HFW := Lib.hid hb; clear hb hbz; cases b) | ((go_at_call 24); (with_reducible refine (HPM.out (HFW.out (by trivial)) _ (HG.out.below hcur.out) (HV.out.below hcur.out)).mono ?_); rintro e wz ⟨v3, rfl, ho3, hbz⟩; obtain ⟨A3, k3, rfl⟩ := isB_slice ho3.isB; have hcur := Lib.hid (hcur.out.trans (hbz.mono hcur.out.size)); have HV3 := Lib.hid ho3.isB; have hw3 := Lib.hid (Below.refl wz.heap.size wz); clear ho3 hbz) | ((go_at_call 29); (with_reducible refine (HRM.out (HFW.out (by trivial)) _ (HV.out.below hcur.out)).mono ?_); rintro e wy ⟨v4, rfl, ho4, hbz⟩; obtain ⟨A4, k4, rfl⟩ := isB_slice ho4.isB; have hcur := Lib.hid (hcur.out.trans (hbz.mono hcur.out.size)); have HV3 := Lib.hid (HV3.out.below hbz); have HV4 := Lib.hid ho4.isB; clear ho4 hbz) | ((go_at_call 28); (with_reducible refine (HBY.out _ _ _ HV3.out HV4.out).mono ?_); rintro e wz ⟨rfl, hbz⟩; have hcur := Lib.hid (hcur.out.trans (hbz.mono hcur.out.size)); have HV3 := Lib.hid (HV3.out.below hbz); have HV4 := Lib.hid (HV4.out.below hbz); clear hbz) | ((go_at_call 30); (with_reducible refine (HPV.out (HFW.out (by trivial)).sz _ (HG.out.below hcur.out) (HV.out.below hcur.out)).mono ?_); rintro e wz ⟨rfl, hbz⟩; have hcur := Lib.hid (hcur.out.trans (hbz.mono hcur.out.size)); have HV3 := Lib.hid (HV3.out.below hbz); clear hbz) | ((go_at_call 31); (with_reducible refine (HRV.out (HFW.out (by trivial)).sz _ (HV.out.below hcur.out)).mono ?_); rintro e wz ⟨rfl, hbz⟩; have hcur := Lib.hid (hcur.out.trans (hbz.mono hcur.out.size)); have HV3 := Lib.hid (HV3.out.below hbz); clear hbz) | ((go_at_call 25); (with_reducible refine (HPA.out (HFW.out (by trivial)) _ _ (HG.out.below hcur.out) HV3.out).mono ?_); rintro e wz ⟨A5, k5, rfl, ho5, hbz⟩; have hcur := Lib.hid (hcur.out.trans (hbz.mono hcur.out.size)); have HV5 := Lib.hid ho5; clear ho5 hbz) | ((go_at_call 26); (with_reducible refine (HSM.out _ _ (HV5.out.alloc _) (HV.out.below (hcur.out.alloc hcur.out.size _))).mono ?_); rintro e wz ⟨rfl, hbz⟩; have hcur := Lib.hid ((hcur.out.alloc hcur.out.size _).trans (hbz.mono (by have := hcur.out.size; simp; omega))); clear hbz))
    all_goals go_ret
    all_goals exact ⟨rfl, hcur.out⟩
end Go.Proofs.YtlmnmgokfnnbbaaGreatDoor.RdnMDone
end

/- DnRDNParses: the walk. -/
section
set_option linter.unusedSimpArgs false
set_option linter.unusedVariables false
namespace Go.Proofs.YtlmnmgokfnnbbaaGreatDoor.RdnPDone
open Go.RowKit Go.Cr
set_option maxRecDepth 100000 in
set_option maxHeartbeats 8000000 in
theorem walk (v : Value) (b : List UInt8) (w : World) (hv : IsB w v b) (hG : Glo w) : Calls Tryz.prog 7 #[v] w (RetB (.bool true) w) := by
  have HA : Hid (∀ W, Glo W → Calls Tryz.prog 14 #[] W (RetB (.bool true) W)) := awakeD
  have hlen := hv.len (P := Tryz.prog) ulB
  have hmx := hv.maxl
  have HV := Lib.hid hv
  have HG := Lib.hid hG
  have hcur := Lib.hid (Below.refl w.heap.size w)
  obtain ⟨A, k, rfl⟩ := isB_slice hv
  by_cases hL : b.length ≤ 3000
  · have hd : decide ((b.length : Int) > 3000) = false := decide_eq_false (by omega)
    have hd' : decide ((3000 : Int) < b.length) = false := decide_eq_false (by omega)
    have hpe := rparR_eq (b := b) (by omega)
    cases hp : parR b with
    | none =>
      rw [hp] at hpe
      have HPA : Hid (∀ W, Glo W → IsB W (.slice A b.length k) b → Calls Tryz.prog 25 #[.slice A b.length k] W (RetPn b.length W)) := fun W g h => by
        have := dnParseRDN _ b W g h (by omega)
        rw [hp] at this
        exact this.mono fun e w' hh => hh.no
      have HPR : Hid (∀ W, IsB W (.slice A b.length k) b → Calls Tryz.prog 32 #[.slice A b.length k] W (RetB (.tuple #[.slice none 0 0, .bool false]) W)) := fun W h => by
        have := rParR _ b W h (by omega)
        rw [hpe] at this
        exact this.mono fun e w' hh => hh.no
      have HSM : Hid (∀ W, Calls Tryz.prog 26 #[.slice none 0 0, .slice none 0 0] W (RetB (.bool true) W)) := fun W => by have := basRdn _ _ [] [] W (isQs_nil W) (isQs_nil W); rwa [decide_eq_true rfl] at this
      have HWI : Hid (∀ ec eo : Int, (0 < ec ∧ 0 ≤ eo ∧ eo ≤ b.length) → ∀ W, Calls Tryz.prog 27 #[.agg #[.int .i64 ec, .int .i64 eo], .int .i64 b.length] W (RetB (.bool true) W)) := fun ec eo h W => within_ok ec eo _ W (.inr h)
      unfold RetPn at HPA
      simp only [errV] at HPA
      clear hv hG hp hpe
      generalize b.length = n at *
      go_enter Tryz.func7, Tryz.ntmps7
      go_wp2_with (first | ((go_at_call 14); (with_reducible refine (HA.out _ (HG.out.below hcur.out)).mono ?_); rintro e wz ⟨rfl, hbz⟩; have hcur := Lib.hid (hcur.out.trans (hbz.mono hcur.out.size)); clear hbz) | ((go_at_call 25); (with_reducible refine (HPA.out _ (HG.out.below hcur.out) (HV.out.below hcur.out)).mono ?_); rintro e wz ⟨ec, eo, h1, h2, h3, rfl, hbz⟩; have hn : (ec == 0) = false := beq_eq_false_iff_ne.2 (by omega); have hn' : (ec != 0) = true := (by simp; omega); have HER := Lib.hid (And.intro h1 (And.intro h2 h3)); have hsz := hbz.size; have hcs := hcur.out.size; have hcur := Lib.hid ((hcur.out.trans (hbz.mono hcur.out.size)).alloc (by omega) (.cells #[.int .i64 ec, .int .i64 eo] 38)); have K := Lib.hid (Blk.new wz 38 #[.int .i64 ec, .int .i64 eo]); clear hbz h1 h2 h3 hsz hcs) | ((go_at_call 32); (with_reducible refine (HPR.out _ (HV.out.below hcur.out)).mono ?_); rintro e wz ⟨rfl, hbz⟩; have hcur := Lib.hid (hcur.out.trans (hbz.mono hcur.out.size)); have K := Lib.hid (K.out.call hbz); have qK := K.out.q; have lK := K.out.lt; clear hbz) | ((go_at_call 26); (with_reducible refine (HSM.out _).mono ?_); rintro e wz ⟨rfl, hbz⟩; have hcur := Lib.hid (hcur.out.trans (hbz.mono hcur.out.size)); have K := Lib.hid (K.out.call hbz); have qK := K.out.q; have lK := K.out.lt; clear hbz) | ((go_at_call 27); (with_reducible refine (HWI.out _ _ HER.out _).mono ?_); rintro e wz ⟨rfl, hbz⟩; have hcur := Lib.hid (hcur.out.trans (hbz.mono hcur.out.size)); have K := Lib.hid (K.out.call hbz); have qK := K.out.q; have lK := K.out.lt; clear hbz))
      all_goals go_ret
      all_goals exact ⟨rfl, hcur.out⟩
    | some ms =>
      rw [hp] at hpe
      have hz := szR_par (by omega) hp
      have hmar := parR_mar hp
      have HPA : Hid (∀ W, Glo W → IsB W (.slice A b.length k) b → Calls Tryz.prog 25 #[.slice A b.length k] W (RetPyR ms W)) := fun W g h => by
        have := dnParseRDN _ b W g h (by omega)
        rw [hp] at this
        exact this.mono fun e w' hh => hh.yes
      have HPR : Hid (∀ W, IsB W (.slice A b.length k) b → Calls Tryz.prog 32 #[.slice A b.length k] W (RetRyR ms W)) := fun W h => by
        have := rParR _ b W h (by omega)
        rw [hpe] at this
        exact this.mono fun e w' hh => hh.yes
      have HSM : Hid (∀ W a a', IsQs W a ms → IsQs W a' ms → Calls Tryz.prog 26 #[a, a'] W (RetB (.bool true) W)) := fun W a a' h1 h2 => by have := basRdn _ _ ms ms W h1 h2; rwa [decide_eq_true rfl] at this
      have HWI : Hid (∀ W, Calls Tryz.prog 27 #[.agg #[.int .i64 0, .int .i64 0], .int .i64 b.length] W (RetB (.bool true) W)) := fun W => within_ok 0 0 _ W (.inl ⟨rfl, rfl⟩)
      have HPV : Hid (∀ W a, Glo W → IsQs W a ms → Calls Tryz.prog 30 #[a] W (RetB (.bool true) W)) := fun W a g h => by have := dnValidRDN _ ms W g h hz; rwa [hmar] at this
      have HPM : Hid (∀ W a, Glo W → IsQs W a ms → Calls Tryz.prog 24 #[a] W (RetOidY b W)) := fun W a g h => (dnMarshalRDN a ms W g h hz).mono fun e w' hh => by rw [hmar] at hh; exact hh.yes
      have HBY : Hid (∀ W a, IsB W a b → IsB W (.slice A b.length k) b → Calls Tryz.prog 28 #[a, .slice A b.length k] W (RetB (.bool true) W)) := fun W a h1 h2 => by have := bytes_any a _ _ _ W h1 h2; rwa [decide_eq_true rfl] at this
      unfold RetPyR at HPA
      simp only [errV] at HPA
      clear hv hG hp hpe hz hmar
      go_enter Tryz.func7, Tryz.ntmps7
      go_wp2_with (first | ((go_at_call 14); (with_reducible refine (HA.out _ (HG.out.below hcur.out)).mono ?_); rintro e wz ⟨rfl, hbz⟩; have hcur := Lib.hid (hcur.out.trans (hbz.mono hcur.out.size)); clear hbz) | ((go_at_call 25); (with_reducible refine (HPA.out _ (HG.out.below hcur.out) (HV.out.below hcur.out)).mono ?_); rintro e wz ⟨A3, k3, rfl, ho3, hbz⟩; have hsz := hbz.size; have hcs := hcur.out.size; have hcur := Lib.hid ((hcur.out.trans (hbz.mono hcur.out.size)).alloc (by omega) (.cells #[.int .i64 0, .int .i64 0] 38)); have K := Lib.hid (Blk.new wz 38 #[.int .i64 0, .int .i64 0]); have HX := Lib.hid (ho3.alloc (.cells #[.int .i64 0, .int .i64 0] 38)); clear hbz hsz hcs ho3) | ((go_at_call 32); (with_reducible refine (HPR.out _ (HV.out.below hcur.out)).mono ?_); rintro e wz ⟨A4, k4, rfl, ho4, hbz⟩; have hcur := Lib.hid (hcur.out.trans (hbz.mono hcur.out.size)); have K := Lib.hid (K.out.call hbz); have qK := K.out.q; have lK := K.out.lt; have HX := Lib.hid (HX.out.below hbz); have HY := Lib.hid ho4; clear hbz ho4) | ((go_at_call 26); (with_reducible refine (HSM.out _ _ _ HX.out HY.out).mono ?_); rintro e wz ⟨rfl, hbz⟩; have hcur := Lib.hid (hcur.out.trans (hbz.mono hcur.out.size)); have K := Lib.hid (K.out.call hbz); have qK := K.out.q; have lK := K.out.lt; have HX := Lib.hid (HX.out.below hbz); have HY := Lib.hid (HY.out.below hbz); clear hbz) | ((go_at_call 27); (with_reducible refine (HWI.out _).mono ?_); rintro e wz ⟨rfl, hbz⟩; have hcur := Lib.hid (hcur.out.trans (hbz.mono hcur.out.size)); have K := Lib.hid (K.out.call hbz); have qK := K.out.q; have lK := K.out.lt; have HX := Lib.hid (HX.out.below hbz); have HY := Lib.hid (HY.out.below hbz); clear hbz) | ((go_at_call 30); (with_reducible refine (HPV.out _ _ (HG.out.below hcur.out) HX.out).mono ?_); rintro e wz ⟨rfl, hbz⟩; have hcur := Lib.hid (hcur.out.trans (hbz.mono hcur.out.size)); have K := Lib.hid (K.out.call hbz); have qK := K.out.q; have lK := K.out.lt; have HX := Lib.hid (HX.out.below hbz); have HY := Lib.hid (HY.out.below hbz); clear hbz) | ((go_at_call 24); (with_reducible refine (HPM.out _ _ (HG.out.below hcur.out) HX.out).mono ?_); rintro e wz ⟨v6, rfl, ho6, hbz⟩; obtain ⟨A6, k6, rfl⟩ := isB_slice ho6.isB; have hcur := Lib.hid (hcur.out.trans (hbz.mono hcur.out.size)); have K := Lib.hid (K.out.call hbz); have qK := K.out.q; have lK := K.out.lt; have HX := Lib.hid (HX.out.below hbz); have HY := Lib.hid ho6.isB; clear hbz ho6) | ((go_at_call 28); (with_reducible refine (HBY.out _ _ HY.out (HV.out.below hcur.out)).mono ?_); rintro e wz ⟨rfl, hbz⟩; have hcur := Lib.hid (hcur.out.trans (hbz.mono hcur.out.size)); have K := Lib.hid (K.out.call hbz); have qK := K.out.q; have lK := K.out.lt; have HX := Lib.hid (HX.out.below hbz); have HY := Lib.hid (HY.out.below hbz); clear hbz))
      all_goals go_ret
      all_goals exact ⟨rfl, hcur.out⟩
  · have hd : decide ((b.length : Int) > 3000) = true := decide_eq_true (by omega)
    have hd' : decide ((3000 : Int) < b.length) = true := decide_eq_true (by omega)
    clear hv hG
    generalize b.length = n at *
    go_enter Tryz.func7, Tryz.ntmps7
    go_wp2_with (first | ((go_at_call 14); (with_reducible refine (HA.out _ (HG.out.below hcur.out)).mono ?_); rintro e wz ⟨rfl, hbz⟩; have hcur := Lib.hid (hcur.out.trans (hbz.mono hcur.out.size)); clear hbz))
    go_ret
    exact ⟨rfl, hcur.out⟩
end Go.Proofs.YtlmnmgokfnnbbaaGreatDoor.RdnPDone
end

/- DnMarshals: the walk. -/
section
set_option linter.unusedSimpArgs false
set_option linter.unusedVariables false
namespace Go.Proofs.YtlmnmgokfnnbbaaGreatDoor.NamMDone
open Go.RowKit Go.Cr
set_option maxRecDepth 100000 in
set_option maxHeartbeats 8000000 in
theorem walk (v : Value) (ms : Nam) (w : World) (hv : IsNm w v ms) (hM : BdNm 140737488351232 ms) (hG : Glo w) : Calls Tryz.prog 8 #[v] w (RetB (.bool true) w) := by
  have HA : Hid (∀ W, Glo W → Calls Tryz.prog 14 #[] W (RetB (.bool true) W)) := awakeD
  have HF : Hid (∀ W, IsNm W v ms → Calls Tryz.prog 15 #[v] W (RetFnm ms W)) := fun W h => rFewNm v ms W h hM
  have HV := Lib.hid hv
  have HG := Lib.hid hG
  obtain ⟨A, k, rfl⟩ := isNm_slice hv
  have HPV : Hid (SzNm ms → ∀ W, Glo W → IsNm W (.slice A ms.length k) ms → Calls Tryz.prog 35 #[.slice A ms.length k] W (RetB (.bool (marNm ms).isSome) W)) := fun z W g h => dnValid _ ms W g h z
  have HRV : Hid (SzNm ms → ∀ W, IsNm W (.slice A ms.length k) ms → Calls Tryz.prog 20 #[.slice A ms.length k] W (RetB (.bool (marNm ms).isSome) W)) := fun z W h => rValidNm _ ms W h z
  cases hmar : marNm ms with
  | none =>
    have HPM : Hid (SzNm ms → ∀ W, Glo W → IsNm W (.slice A ms.length k) ms → Calls Tryz.prog 33 #[.slice A ms.length k] W (RetB (.tuple #[.slice none 0 0, .int .i64 8]) W)) := fun z W g h => (dnMarshal _ ms W g h z).mono fun e w' hh => by rw [hmar] at hh; exact hh.no
    have HRM : Hid (SzNm ms → ∀ W, IsNm W (.slice A ms.length k) ms → Calls Tryz.prog 34 #[.slice A ms.length k] W (RetB (.tuple #[.slice none 0 0, .int .i64 8]) W)) := fun z W h => (rMarshalNm _ ms W h z).mono fun e w' hh => by rw [hmar] at hh; exact hh.no
    have HBY : Hid (∀ W, Calls Tryz.prog 28 #[.slice none 0 0, .slice none 0 0] W (RetB (.bool true) W)) := fun W => by have := bytes_any (.slice none 0 0) (.slice none 0 0) [] [] W (isB_nil0 W) (isB_nil0 W); rwa [decide_eq_true rfl] at this
    rw [hmar] at HPV HRV
    simp only [Option.isSome_none] at HPV HRV
    have hcur := Lib.hid (Below.refl w.heap.size w)
    clear hv hM hG hmar
    go_enter Tryz.func8, Tryz.ntmps8
    go_wp2_with (first | ((go_at_call 14); (with_reducible refine (HA.out _ (HG.out.below hcur.out)).mono ?_); rintro e wz ⟨rfl, hbz⟩; have hcur := Lib.hid (hcur.out.trans (hbz.mono hcur.out.size)); clear hbz) | ((go_at_call 15); (with_reducible refine (HF.out _ (HV.out.below hcur.out)).mono ?_); rintro e wz ⟨b, rfl, hb, hbz⟩; have hcur := Lib.hid (hcur.out.trans (hbz.mono hcur.out.size)); have HFW := Lib.hid hb; clear hb hbz; cases b) | ((go_at_call 33); (with_reducible refine (HPM.out (HFW.out (by trivial)).sz _ (HG.out.below hcur.out) (HV.out.below hcur.out)).mono ?_); rintro e wz ⟨rfl, hbz⟩; have hcur := Lib.hid (hcur.out.trans (hbz.mono hcur.out.size)); clear hbz) | ((go_at_call 34); (with_reducible refine (HRM.out (HFW.out (by trivial)).sz _ (HV.out.below hcur.out)).mono ?_); rintro e wz ⟨rfl, hbz⟩; have hcur := Lib.hid (hcur.out.trans (hbz.mono hcur.out.size)); clear hbz) | ((go_at_call 28); (with_reducible refine (HBY.out _).mono ?_); rintro e wz ⟨rfl, hbz⟩; have hcur := Lib.hid (hcur.out.trans (hbz.mono hcur.out.size)); clear hbz) | ((go_at_call 35); (with_reducible refine (HPV.out (HFW.out (by trivial)).sz _ (HG.out.below hcur.out) (HV.out.below hcur.out)).mono ?_); rintro e wz ⟨rfl, hbz⟩; have hcur := Lib.hid (hcur.out.trans (hbz.mono hcur.out.size)); clear hbz) | ((go_at_call 20); (with_reducible refine (HRV.out (HFW.out (by trivial)).sz _ (HV.out.below hcur.out)).mono ?_); rintro e wz ⟨rfl, hbz⟩; have hcur := Lib.hid (hcur.out.trans (hbz.mono hcur.out.size)); clear hbz))
    all_goals go_ret
    all_goals exact ⟨rfl, hcur.out⟩
  | some c =>
    have HPM : Hid (FwNm ms → ∀ W, Glo W → IsNm W (.slice A ms.length k) ms → Calls Tryz.prog 33 #[.slice A ms.length k] W (RetOidY c W)) := fun z W g h => (dnMarshal _ ms W g h z.sz).mono fun e w' hh => by rw [hmar] at hh; exact hh.yes
    have HRM : Hid (FwNm ms → ∀ W, IsNm W (.slice A ms.length k) ms → Calls Tryz.prog 34 #[.slice A ms.length k] W (RetOidY c W)) := fun z W h => (rMarshalNm _ ms W h z.sz).mono fun e w' hh => by rw [hmar] at hh; exact hh.yes
    have HBY : Hid (∀ W a b, IsB W a c → IsB W b c → Calls Tryz.prog 28 #[a, b] W (RetB (.bool true) W)) := fun W a b h1 h2 => by have := bytes_any a b _ _ W h1 h2; rwa [decide_eq_true rfl] at this
    have HPA : Hid (FwNm ms → ∀ W a, Glo W → IsB W a c → Calls Tryz.prog 36 #[a] W (RetPyN ms W)) := fun z W a g h => by
      have hl := z.lenM hmar
      have := dnParse a _ W g h (by omega)
      rw [mar_parNm hmar (by omega)] at this
      exact this.mono fun e w' hh => hh.yes
    have HSM : Hid (∀ W a, IsNm W a ms → IsNm W (.slice A ms.length k) ms → Calls Tryz.prog 37 #[a, .slice A ms.length k] W (RetB (.bool true) W)) := fun W a h1 h2 => by have := basNm a _ ms ms W h1 h2; rwa [decide_eq_true rfl] at this
    rw [hmar] at HPV HRV
    simp only [Option.isSome_some] at HPV HRV
    have hcur := Lib.hid (Below.refl w.heap.size w)
    unfold RetPyN at HPA
    simp only [errV] at HPA
    clear hv hM hG hmar
    go_enter Tryz.func8, Tryz.ntmps8
    go_wp2_with (first | ((go_at_call 14); (with_reducible refine (HA.out _ (HG.out.below hcur.out)).mono ?_); rintro e wz ⟨rfl, hbz⟩; have hcur := Lib.hid (hcur.out.trans (hbz.mono hcur.out.size)); clear hbz) | ((go_at_call 15); (with_reducible refine (HF.out _ (HV.out.below hcur.out)).mono ?_); rintro e wz ⟨b, rfl, hb, hbz⟩; have hcur := Lib.hid (hcur.out.trans (hbz.mono hcur.out.size)); have HFW := Lib.hid hb; clear hb hbz; cases b) | ((go_at_call 33); (with_reducible refine (HPM.out (HFW.out (by trivial)) _ (HG.out.below hcur.out) (HV.out.below hcur.out)).mono ?_); rintro e wz ⟨v3, rfl, ho3, hbz⟩; obtain ⟨A3, k3, rfl⟩ := isB_slice ho3.isB; have hcur := Lib.hid (hcur.out.trans (hbz.mono hcur.out.size)); have HV3 := Lib.hid ho3.isB; have hw3 := Lib.hid (Below.refl wz.heap.size wz); clear ho3 hbz) | ((go_at_call 34); (with_reducible refine (HRM.out (HFW.out (by trivial)) _ (HV.out.below hcur.out)).mono ?_); rintro e wy ⟨v4, rfl, ho4, hbz⟩; obtain ⟨A4, k4, rfl⟩ := isB_slice ho4.isB; have hcur := Lib.hid (hcur.out.trans (hbz.mono hcur.out.size)); have HV3 := Lib.hid (HV3.out.below hbz); have HV4 := Lib.hid ho4.isB; clear ho4 hbz) | ((go_at_call 28); (with_reducible refine (HBY.out _ _ _ HV3.out HV4.out).mono ?_); rintro e wz ⟨rfl, hbz⟩; have hcur := Lib.hid (hcur.out.trans (hbz.mono hcur.out.size)); have HV3 := Lib.hid (HV3.out.below hbz); have HV4 := Lib.hid (HV4.out.below hbz); clear hbz) | ((go_at_call 35); (with_reducible refine (HPV.out (HFW.out (by trivial)).sz _ (HG.out.below hcur.out) (HV.out.below hcur.out)).mono ?_); rintro e wz ⟨rfl, hbz⟩; have hcur := Lib.hid (hcur.out.trans (hbz.mono hcur.out.size)); have HV3 := Lib.hid (HV3.out.below hbz); clear hbz) | ((go_at_call 20); (with_reducible refine (HRV.out (HFW.out (by trivial)).sz _ (HV.out.below hcur.out)).mono ?_); rintro e wz ⟨rfl, hbz⟩; have hcur := Lib.hid (hcur.out.trans (hbz.mono hcur.out.size)); have HV3 := Lib.hid (HV3.out.below hbz); clear hbz) | ((go_at_call 36); (with_reducible refine (HPA.out (HFW.out (by trivial)) _ _ (HG.out.below hcur.out) HV3.out).mono ?_); rintro e wz ⟨A5, k5, rfl, ho5, hbz⟩; have hcur := Lib.hid (hcur.out.trans (hbz.mono hcur.out.size)); have HV5 := Lib.hid ho5; clear ho5 hbz) | ((go_at_call 37); (with_reducible refine (HSM.out _ _ (HV5.out.alloc _) (HV.out.below (hcur.out.alloc hcur.out.size _))).mono ?_); rintro e wz ⟨rfl, hbz⟩; have hcur := Lib.hid ((hcur.out.alloc hcur.out.size _).trans (hbz.mono (by have := hcur.out.size; simp; omega))); clear hbz))
    all_goals go_ret
    all_goals exact ⟨rfl, hcur.out⟩
end Go.Proofs.YtlmnmgokfnnbbaaGreatDoor.NamMDone
end

/- DnParses: the walk. -/
section
set_option linter.unusedSimpArgs false
set_option linter.unusedVariables false
namespace Go.Proofs.YtlmnmgokfnnbbaaGreatDoor.NamPDone
open Go.RowKit Go.Cr
set_option maxRecDepth 100000 in
set_option maxHeartbeats 8000000 in
theorem walk (v : Value) (b : List UInt8) (w : World) (hv : IsB w v b) (hG : Glo w) : Calls Tryz.prog 9 #[v] w (RetB (.bool true) w) := by
  have HA : Hid (∀ W, Glo W → Calls Tryz.prog 14 #[] W (RetB (.bool true) W)) := awakeD
  have hlen := hv.len (P := Tryz.prog) ulB
  have hmx := hv.maxl
  have HV := Lib.hid hv
  have HG := Lib.hid hG
  have hcur := Lib.hid (Below.refl w.heap.size w)
  obtain ⟨A, k, rfl⟩ := isB_slice hv
  by_cases hL : b.length ≤ 3000
  · have hd : decide ((b.length : Int) > 3000) = false := decide_eq_false (by omega)
    have hd' : decide ((3000 : Int) < b.length) = false := decide_eq_false (by omega)
    have hpe := rparNm_eq (b := b) (by omega)
    cases hp : parNm b with
    | none =>
      rw [hp] at hpe
      have HPA : Hid (∀ W, Glo W → IsB W (.slice A b.length k) b → Calls Tryz.prog 36 #[.slice A b.length k] W (RetPn b.length W)) := fun W g h => by
        have := dnParse _ b W g h (by omega)
        rw [hp] at this
        exact this.mono fun e w' hh => hh.no
      have HPR : Hid (∀ W, IsB W (.slice A b.length k) b → Calls Tryz.prog 38 #[.slice A b.length k] W (RetB (.tuple #[.slice none 0 0, .bool false]) W)) := fun W h => by
        have := rParNm _ b W h (by omega)
        rw [hpe] at this
        exact this.mono fun e w' hh => hh.no
      have HSM : Hid (∀ W, Calls Tryz.prog 37 #[.slice none 0 0, .slice none 0 0] W (RetB (.bool true) W)) := fun W => by have := basNm _ _ [] [] W (IsNm.nil_ W) (IsNm.nil_ W); rwa [decide_eq_true rfl] at this
      have HWI : Hid (∀ ec eo : Int, (0 < ec ∧ 0 ≤ eo ∧ eo ≤ b.length) → ∀ W, Calls Tryz.prog 27 #[.agg #[.int .i64 ec, .int .i64 eo], .int .i64 b.length] W (RetB (.bool true) W)) := fun ec eo h W => within_ok ec eo _ W (.inr h)
      unfold RetPn at HPA
      simp only [errV] at HPA
      clear hv hG hp hpe
      generalize b.length = n at *
      go_enter Tryz.func9, Tryz.ntmps9
      go_wp2_with (first | ((go_at_call 14); (with_reducible refine (HA.out _ (HG.out.below hcur.out)).mono ?_); rintro e wz ⟨rfl, hbz⟩; have hcur := Lib.hid (hcur.out.trans (hbz.mono hcur.out.size)); clear hbz) | ((go_at_call 36); (with_reducible refine (HPA.out _ (HG.out.below hcur.out) (HV.out.below hcur.out)).mono ?_); rintro e wz ⟨ec, eo, h1, h2, h3, rfl, hbz⟩; have hn : (ec == 0) = false := beq_eq_false_iff_ne.2 (by omega); have hn' : (ec != 0) = true := (by simp; omega); have HER := Lib.hid (And.intro h1 (And.intro h2 h3)); have hsz := hbz.size; have hcs := hcur.out.size; have hcur := Lib.hid ((hcur.out.trans (hbz.mono hcur.out.size)).alloc (by omega) (.cells #[.int .i64 ec, .int .i64 eo] 38)); have K := Lib.hid (Blk.new wz 38 #[.int .i64 ec, .int .i64 eo]); clear hbz h1 h2 h3 hsz hcs) | ((go_at_call 38); (with_reducible refine (HPR.out _ (HV.out.below hcur.out)).mono ?_); rintro e wz ⟨rfl, hbz⟩; have hcur := Lib.hid (hcur.out.trans (hbz.mono hcur.out.size)); have K := Lib.hid (K.out.call hbz); have qK := K.out.q; have lK := K.out.lt; clear hbz) | ((go_at_call 37); (with_reducible refine (HSM.out _).mono ?_); rintro e wz ⟨rfl, hbz⟩; have hcur := Lib.hid (hcur.out.trans (hbz.mono hcur.out.size)); have K := Lib.hid (K.out.call hbz); have qK := K.out.q; have lK := K.out.lt; clear hbz) | ((go_at_call 27); (with_reducible refine (HWI.out _ _ HER.out _).mono ?_); rintro e wz ⟨rfl, hbz⟩; have hcur := Lib.hid (hcur.out.trans (hbz.mono hcur.out.size)); have K := Lib.hid (K.out.call hbz); have qK := K.out.q; have lK := K.out.lt; clear hbz))
      all_goals go_ret
      all_goals exact ⟨rfl, hcur.out⟩
    | some ms =>
      rw [hp] at hpe
      have hz := szN_par (by omega) hp
      have hmar := parNm_mar hp
      have HPA : Hid (∀ W, Glo W → IsB W (.slice A b.length k) b → Calls Tryz.prog 36 #[.slice A b.length k] W (RetPyN ms W)) := fun W g h => by
        have := dnParse _ b W g h (by omega)
        rw [hp] at this
        exact this.mono fun e w' hh => hh.yes
      have HPR : Hid (∀ W, IsB W (.slice A b.length k) b → Calls Tryz.prog 38 #[.slice A b.length k] W (RetRyN ms W)) := fun W h => by
        have := rParNm _ b W h (by omega)
        rw [hpe] at this
        exact this.mono fun e w' hh => hh.yes
      have HSM : Hid (∀ W a a', IsNm W a ms → IsNm W a' ms → Calls Tryz.prog 37 #[a, a'] W (RetB (.bool true) W)) := fun W a a' h1 h2 => by have := basNm _ _ ms ms W h1 h2; rwa [decide_eq_true rfl] at this
      have HWI : Hid (∀ W, Calls Tryz.prog 27 #[.agg #[.int .i64 0, .int .i64 0], .int .i64 b.length] W (RetB (.bool true) W)) := fun W => within_ok 0 0 _ W (.inl ⟨rfl, rfl⟩)
      have HPV : Hid (∀ W a, Glo W → IsNm W a ms → Calls Tryz.prog 35 #[a] W (RetB (.bool true) W)) := fun W a g h => by have := dnValid _ ms W g h hz; rwa [hmar] at this
      have HPM : Hid (∀ W a, Glo W → IsNm W a ms → Calls Tryz.prog 33 #[a] W (RetOidY b W)) := fun W a g h => (dnMarshal a ms W g h hz).mono fun e w' hh => by rw [hmar] at hh; exact hh.yes
      have HBY : Hid (∀ W a, IsB W a b → IsB W (.slice A b.length k) b → Calls Tryz.prog 28 #[a, .slice A b.length k] W (RetB (.bool true) W)) := fun W a h1 h2 => by have := bytes_any a _ _ _ W h1 h2; rwa [decide_eq_true rfl] at this
      unfold RetPyN at HPA
      simp only [errV] at HPA
      clear hv hG hp hpe hz hmar
      go_enter Tryz.func9, Tryz.ntmps9
      go_wp2_with (first | ((go_at_call 14); (with_reducible refine (HA.out _ (HG.out.below hcur.out)).mono ?_); rintro e wz ⟨rfl, hbz⟩; have hcur := Lib.hid (hcur.out.trans (hbz.mono hcur.out.size)); clear hbz) | ((go_at_call 36); (with_reducible refine (HPA.out _ (HG.out.below hcur.out) (HV.out.below hcur.out)).mono ?_); rintro e wz ⟨A3, k3, rfl, ho3, hbz⟩; have hsz := hbz.size; have hcs := hcur.out.size; have hcur := Lib.hid ((hcur.out.trans (hbz.mono hcur.out.size)).alloc (by omega) (.cells #[.int .i64 0, .int .i64 0] 38)); have K := Lib.hid (Blk.new wz 38 #[.int .i64 0, .int .i64 0]); have HX := Lib.hid (ho3.alloc (.cells #[.int .i64 0, .int .i64 0] 38)); clear hbz hsz hcs ho3) | ((go_at_call 38); (with_reducible refine (HPR.out _ (HV.out.below hcur.out)).mono ?_); rintro e wz ⟨A4, k4, rfl, ho4, hbz⟩; have hcur := Lib.hid (hcur.out.trans (hbz.mono hcur.out.size)); have K := Lib.hid (K.out.call hbz); have qK := K.out.q; have lK := K.out.lt; have HX := Lib.hid (HX.out.below hbz); have HY := Lib.hid ho4; clear hbz ho4) | ((go_at_call 37); (with_reducible refine (HSM.out _ _ _ HX.out HY.out).mono ?_); rintro e wz ⟨rfl, hbz⟩; have hcur := Lib.hid (hcur.out.trans (hbz.mono hcur.out.size)); have K := Lib.hid (K.out.call hbz); have qK := K.out.q; have lK := K.out.lt; have HX := Lib.hid (HX.out.below hbz); have HY := Lib.hid (HY.out.below hbz); clear hbz) | ((go_at_call 27); (with_reducible refine (HWI.out _).mono ?_); rintro e wz ⟨rfl, hbz⟩; have hcur := Lib.hid (hcur.out.trans (hbz.mono hcur.out.size)); have K := Lib.hid (K.out.call hbz); have qK := K.out.q; have lK := K.out.lt; have HX := Lib.hid (HX.out.below hbz); have HY := Lib.hid (HY.out.below hbz); clear hbz) | ((go_at_call 35); (with_reducible refine (HPV.out _ _ (HG.out.below hcur.out) HX.out).mono ?_); rintro e wz ⟨rfl, hbz⟩; have hcur := Lib.hid (hcur.out.trans (hbz.mono hcur.out.size)); have K := Lib.hid (K.out.call hbz); have qK := K.out.q; have lK := K.out.lt; have HX := Lib.hid (HX.out.below hbz); have HY := Lib.hid (HY.out.below hbz); clear hbz) | ((go_at_call 33); (with_reducible refine (HPM.out _ _ (HG.out.below hcur.out) HX.out).mono ?_); rintro e wz ⟨v6, rfl, ho6, hbz⟩; obtain ⟨A6, k6, rfl⟩ := isB_slice ho6.isB; have hcur := Lib.hid (hcur.out.trans (hbz.mono hcur.out.size)); have K := Lib.hid (K.out.call hbz); have qK := K.out.q; have lK := K.out.lt; have HX := Lib.hid (HX.out.below hbz); have HY := Lib.hid ho6.isB; clear hbz ho6) | ((go_at_call 28); (with_reducible refine (HBY.out _ _ HY.out (HV.out.below hcur.out)).mono ?_); rintro e wz ⟨rfl, hbz⟩; have hcur := Lib.hid (hcur.out.trans (hbz.mono hcur.out.size)); have K := Lib.hid (K.out.call hbz); have qK := K.out.q; have lK := K.out.lt; have HX := Lib.hid (HX.out.below hbz); have HY := Lib.hid (HY.out.below hbz); clear hbz))
      all_goals go_ret
      all_goals exact ⟨rfl, hcur.out⟩
  · have hd : decide ((b.length : Int) > 3000) = true := decide_eq_true (by omega)
    have hd' : decide ((3000 : Int) < b.length) = true := decide_eq_true (by omega)
    clear hv hG
    generalize b.length = n at *
    go_enter Tryz.func9, Tryz.ntmps9
    go_wp2_with (first | ((go_at_call 14); (with_reducible refine (HA.out _ (HG.out.below hcur.out)).mono ?_); rintro e wz ⟨rfl, hbz⟩; have hcur := Lib.hid (hcur.out.trans (hbz.mono hcur.out.size)); clear hbz))
    go_ret
    exact ⟨rfl, hcur.out⟩
end Go.Proofs.YtlmnmgokfnnbbaaGreatDoor.NamPDone
end
