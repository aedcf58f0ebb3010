/- The parts LawPolM, LawPolP of one proof, one behind the other. -/
import Derived.Test.YtjjkimjdmpeddaaGreatDoorJ15
import Derived.Test.YtjjkimjdmpeddaaGreatDoorJ33
import Derived.Test.YtjjkimjdmpeddaaGreatDoorJ34
import Derived.Test.YtjjkimjdmpeddaaGreatDoorJ35
import Derived.Test.YtjjkimjdmpeddaaGreatDoorJ36

/- PolicyMarshals: the walk. -/
section
set_option linter.unusedSimpArgs false
set_option linter.unusedVariables false
namespace Go.Proofs.YtjjkimjdmpeddaaGreatDoor
open Go.RowKit Go.Cr
theorem fwP_flat {ps : List Pol} (h : FwP ps) : (ps.map polL).flatten.length ≤ 3300 := by
  have hq : ∀ (qs : List Qual), (qs.map quaL).flatten.length ≤ wtQs qs + 20 * qs.length := fun qs => by
    induction qs with
    | nil => simp
    | cons x t ih =>
      have h0 := quaL_le x
      unfold wtQs at ih ⊢
      simp only [List.map_cons, List.flatten_cons, List.length_append, List.length_cons, List.sum_cons]
      unfold wtQ at ih ⊢
      omega
  have h1 : ∀ (ls : List Pol), (ls.map polL).flatten.length ≤ 2 * sumP ls + 30 * ls.length := fun ls => by
    induction ls with
    | nil => simp
    | cons x t ih =>
      have h0 := polL_le x
      have h2 := hq x.2
      unfold sumP at ih ⊢
      simp only [List.map_cons, List.flatten_cons, List.length_append, List.length_cons, List.sum_cons]
      have h3 : wtP x = x.1.size + 10 * x.2.length + wtQs x.2 := rfl
      omega
  have h2 := h1 ps
  have h3 := h.1
  have h4 := h.2
  omega
theorem fwP_seq {ps : List Pol} (h : FwP ps) : (seqL (ps.map polL)).length ≤ 3310 := by
  have h1 := fwP_flat h
  have h2 := seqB_le (ps.map polL)
  rw [← seqL_eq] at h2
  omega
/-- What ParseMappings leaves where there are mappings. -/
def RetPPy (ms : List Pol) (w : World) (e : Ending) (w' : World) : Prop := ∃ A k, e = .returned (.tuple #[.slice A ms.length k, errV (0, 0)]) ∧ IsPs w' (.slice A ms.length k) ms ∧ Below w.heap.size w w'
def RetPPn (L : Nat) (w : World) (e : Ending) (w' : World) : Prop := ∃ ec eo : Int, 0 < ec ∧ 0 ≤ eo ∧ eo ≤ L ∧ e = .returned (.tuple #[.slice none 0 0, errV (ec, eo)]) ∧ Below w.heap.size w w'
theorem RetPPs.yes {ms : List Pol} {L : Nat} {w w' : World} {e : Ending} (h : RetPPs (some ms) L w e w') : RetPPy ms w e w' := by
  obtain ⟨hb, A, k, he, ho⟩ := h
  exact ⟨A, k, he, isPs_of ho.isL, hb⟩
theorem RetPPs.no {L : Nat} {w w' : World} {e : Ending} (h : RetPPs none L w e w') : RetPPn L w e w' := by
  obtain ⟨hb, ec, eo, h1, h2, h3, he⟩ := h
  exact ⟨ec, eo, h1, h2, h3, he, hb⟩
end Go.Proofs.YtjjkimjdmpeddaaGreatDoor
namespace Go.Proofs.YtjjkimjdmpeddaaGreatDoor.PolMDone
open Go.RowKit Go.Cr
set_option maxRecDepth 100000 in
set_option maxHeartbeats 8000000 in
theorem walk (v : Value) (ms : List Pol) (w : World) (hv : IsPs w v ms) (hM : BdP 140737488351232 ms) (hG : Glo w) : Calls Tryz.prog 9 #[v] w (RetB (.bool true) w) := by
  have HA : Hid (∀ W, Glo W → Calls Tryz.prog 14 #[] W (RetB (.bool true) W)) := awake17
  have HF : Hid (∀ W, IsPs W v ms → Calls Tryz.prog 15 #[v] W (RetFs ms W)) := fun W h => rFewS v ms W h hM
  have HV := Lib.hid hv
  have HG := Lib.hid hG
  obtain ⟨A, k, rfl⟩ := isPs_slice hv
  have HPV : Hid (SzP ms → ∀ W, Glo W → IsPs W (.slice A ms.length k) ms → Calls Tryz.prog 38 #[.slice A ms.length k] W (RetB (.bool (okP ms)) W)) := fun z W g h => polValid _ ms W g h z
  have HRV : Hid (SzP ms → ∀ W, IsPs W (.slice A ms.length k) ms → Calls Tryz.prog 39 #[.slice A ms.length k] W (RetB (.bool (okP ms)) W)) := fun z W h => rValid17 _ ms W h z
  cases ho : okP ms with
  | false =>
    have HPM : Hid (SzP ms → ∀ W, Glo W → IsPs W (.slice A ms.length k) ms → Calls Tryz.prog 36 #[.slice A ms.length k] W (RetB (.tuple #[.slice none 0 0, .int .i64 8]) W)) := fun z W g h => polMar_no _ ms W g h z ho
    have HRM : Hid (SzP ms → ∀ W, IsPs W (.slice A ms.length k) ms → Calls Tryz.prog 37 #[.slice A ms.length k] W (RetB (.tuple #[.slice none 0 0, .int .i64 8]) W)) := fun z W h => rMarP_no _ ms W h z ho
    have HBY : Hid (∀ W, Calls Tryz.prog 21 #[.slice none 0 0, .slice none 0 0] W (RetB (.bool true) W)) := fun W => by have := bytes_any (.slice none 0 0) (.slice none 0 0) [] [] W (isB_nil0 W) (isB_nil0 W); rwa [decide_eq_true rfl] at this
    rw [ho] at HPV HRV
    have hcur := Lib.hid (Below.refl w.heap.size w)
    clear hv hM hG ho
    go_enter Tryz.func9, Tryz.ntmps9
    go_wp2_with (first | ((go_at_call 14); (with_reducible refine (HA.out _ (HG.out.below hcur.out)).mono ?_); rintro e wz ⟨rfl, hbz⟩; have hcur := Lib.hid (hcur.out.trans (hbz.mono hcur.out.size)); clear hbz) | ((go_at_call 15); (with_reducible refine (HF.out _ (HV.out.below hcur.out)).mono ?_); rintro e wz ⟨b, rfl, hb, hbz⟩; have hcur := Lib.hid (hcur.out.trans (hbz.mono hcur.out.size)); have HFW := Lib.hid hb; clear hb hbz; cases b) | ((go_at_call 36); (with_reducible refine (HPM.out (HFW.out (by trivial)).sz _ (HG.out.below hcur.out) (HV.out.below hcur.out)).mono ?_); rintro e wz ⟨rfl, hbz⟩; have hcur := Lib.hid (hcur.out.trans (hbz.mono hcur.out.size)); clear hbz) | ((go_at_call 37); (with_reducible refine (HRM.out (HFW.out (by trivial)).sz _ (HV.out.below hcur.out)).mono ?_); rintro e wz ⟨rfl, hbz⟩; have hcur := Lib.hid (hcur.out.trans (hbz.mono hcur.out.size)); clear hbz) | ((go_at_call 21); (with_reducible refine (HBY.out _).mono ?_); rintro e wz ⟨rfl, hbz⟩; have hcur := Lib.hid (hcur.out.trans (hbz.mono hcur.out.size)); clear hbz) | ((go_at_call 38); (with_reducible refine (HPV.out (HFW.out (by trivial)).sz _ (HG.out.below hcur.out) (HV.out.below hcur.out)).mono ?_); rintro e wz ⟨rfl, hbz⟩; have hcur := Lib.hid (hcur.out.trans (hbz.mono hcur.out.size)); clear hbz) | ((go_at_call 39); (with_reducible refine (HRV.out (HFW.out (by trivial)).sz _ (HV.out.below hcur.out)).mono ?_); rintro e wz ⟨rfl, hbz⟩; have hcur := Lib.hid (hcur.out.trans (hbz.mono hcur.out.size)); clear hbz))
    all_goals go_ret
    all_goals exact ⟨rfl, hcur.out⟩
  | true =>
    have HPM : Hid (FwP ms → ∀ W, Glo W → IsPs W (.slice A ms.length k) ms → Calls Tryz.prog 36 #[.slice A ms.length k] W (RetOidY (seqL (ms.map polL)) W)) := fun z W g h => polMar_yes _ ms W g h z.sz (by have := fwP_flat z; omega) ho
    have HRM : Hid (FwP ms → ∀ W, IsPs W (.slice A ms.length k) ms → Calls Tryz.prog 37 #[.slice A ms.length k] W (RetOidY (seqL (ms.map polL)) W)) := fun z W h => rMarP_yes _ ms W h z.sz (by have := fwP_flat z; omega) ho
    have HBY : Hid (∀ W a b, IsB W a (seqL (ms.map polL)) → IsB W b (seqL (ms.map polL)) → Calls Tryz.prog 21 #[a, b] W (RetB (.bool true) W)) := fun W a b h1 h2 => by have := bytes_any a b _ _ W h1 h2; rwa [decide_eq_true rfl] at this
    have hmar : marP ms = some (seqL (ms.map polL)) := by unfold marP; simp [ho]
    have HPA : Hid (FwP ms → ∀ W a, Glo W → IsB W a (seqL (ms.map polL)) → Calls Tryz.prog 40 #[a] W (RetPPy ms W)) := fun z W a g h => by
      have hl := fwP_seq z
      have := polParse a _ W g h (by omega)
      rw [mar_parPs hmar (by omega)] at this
      exact this.mono fun e w' hh => hh.yes
    have HSM : Hid (∀ W a, IsPs W a ms → IsPs W (.slice A ms.length k) ms → Calls Tryz.prog 41 #[a, .slice A ms.length k] W (RetB (.bool true) W)) := fun W a h1 h2 => by have := basP a _ ms ms W h1 h2; rwa [decide_eq_true rfl] at this
    rw [ho] at HPV HRV
    have hcur := Lib.hid (Below.refl w.heap.size w)
    unfold RetPPy at HPA
    simp only [errV] at HPA
    clear hv hM hG ho hmar
    generalize seqL (ms.map polL) = c at *
    go_enter Tryz.func9, Tryz.ntmps9
    go_wp2_with (first | ((go_at_call 14); (with_reducible refine (HA.out _ (HG.out.below hcur.out)).mono ?_); rintro e wz ⟨rfl, hbz⟩; have hcur := Lib.hid (hcur.out.trans (hbz.mono hcur.out.size)); clear hbz) | ((go_at_call 15); (with_reducible refine (HF.out _ (HV.out.below hcur.out)).mono ?_); rintro e wz ⟨b, rfl, hb, hbz⟩; have hcur := Lib.hid (hcur.out.trans (hbz.mono hcur.out.size)); have HFW := Lib.hid hb; clear hb hbz; cases b) | ((go_at_call 36); (with_reducible refine (HPM.out (HFW.out (by trivial)) _ (HG.out.below hcur.out) (HV.out.below hcur.out)).mono ?_); rintro e wz ⟨v3, rfl, ho3, hbz⟩; obtain ⟨A3, k3, rfl⟩ := isB_slice ho3.isB; have hcur := Lib.hid (hcur.out.trans (hbz.mono hcur.out.size)); have HV3 := Lib.hid ho3.isB; have hw3 := Lib.hid (Below.refl wz.heap.size wz); clear ho3 hbz) | ((go_at_call 37); (with_reducible refine (HRM.out (HFW.out (by trivial)) _ (HV.out.below hcur.out)).mono ?_); rintro e wy ⟨v4, rfl, ho4, hbz⟩; obtain ⟨A4, k4, rfl⟩ := isB_slice ho4.isB; have hcur := Lib.hid (hcur.out.trans (hbz.mono hcur.out.size)); have HV3 := Lib.hid (HV3.out.below hbz); have HV4 := Lib.hid ho4.isB; clear ho4 hbz) | ((go_at_call 21); (with_reducible refine (HBY.out _ _ _ HV3.out HV4.out).mono ?_); rintro e wz ⟨rfl, hbz⟩; have hcur := Lib.hid (hcur.out.trans (hbz.mono hcur.out.size)); have HV3 := Lib.hid (HV3.out.below hbz); have HV4 := Lib.hid (HV4.out.below hbz); clear hbz) | ((go_at_call 38); (with_reducible refine (HPV.out (HFW.out (by trivial)).sz _ (HG.out.below hcur.out) (HV.out.below hcur.out)).mono ?_); rintro e wz ⟨rfl, hbz⟩; have hcur := Lib.hid (hcur.out.trans (hbz.mono hcur.out.size)); have HV3 := Lib.hid (HV3.out.below hbz); clear hbz) | ((go_at_call 39); (with_reducible refine (HRV.out (HFW.out (by trivial)).sz _ (HV.out.below hcur.out)).mono ?_); rintro e wz ⟨rfl, hbz⟩; have hcur := Lib.hid (hcur.out.trans (hbz.mono hcur.out.size)); have HV3 := Lib.hid (HV3.out.below hbz); clear hbz) | ((go_at_call 40); (with_reducible refine (HPA.out (HFW.out (by trivial)) _ _ (HG.out.below hcur.out) HV3.out).mono ?_); rintro e wz ⟨A5, k5, rfl, ho5, hbz⟩; have hcur := Lib.hid (hcur.out.trans (hbz.mono hcur.out.size)); have HV5 := Lib.hid ho5; clear ho5 hbz) | ((go_at_call 41); (with_reducible refine (HSM.out _ _ (HV5.out.alloc _) (HV.out.below (hcur.out.alloc hcur.out.size _))).mono ?_); rintro e wz ⟨rfl, hbz⟩; have hcur := Lib.hid ((hcur.out.alloc hcur.out.size _).trans (hbz.mono (by have := hcur.out.size; simp; omega))); clear hbz))
    all_goals go_ret
    all_goals exact ⟨rfl, hcur.out⟩
end Go.Proofs.YtjjkimjdmpeddaaGreatDoor.PolMDone
end

/- PolicyParses: the walk. -/
section
set_option linter.unusedSimpArgs false
set_option linter.unusedVariables false
namespace Go.Proofs.YtjjkimjdmpeddaaGreatDoor
open Go.RowKit Go.Cr
def RetRPq (ms : List Pol) (w : World) (e : Ending) (w' : World) : Prop := ∃ A k, e = .returned (.tuple #[.slice A ms.length k, .bool true]) ∧ IsPs w' (.slice A ms.length k) ms ∧ Below w.heap.size w w'
theorem RetRPp.yes {ms : List Pol} {w w' : World} {e : Ending} (h : RetRPp (some ms) w e w') : RetRPq ms w e w' := by
  obtain ⟨hb, A, k, he, ho⟩ := h
  exact ⟨A, k, he, ho, hb⟩
theorem RetRPp.no {w w' : World} {e : Ending} (h : RetRPp none w e w') : RetB (.tuple #[.slice none 0 0, .bool false]) w e w' := ⟨h.2, h.1⟩
theorem isPs_nil (w : World) : IsPs w (.slice none 0 0) [] := ⟨[], ⟨none, 0, rfl, Nat.le_refl _, by decide, rfl, fun h => absurd h (by simp)⟩, fun j h => absurd h (by simp)⟩
theorem szP_par {b : List UInt8} {ms : List Pol} (hL : b.length ≤ 4700) (h : parPs b = some ms) : SzP ms := by
  unfold parPs at h
  split at h
  · cases h
  · rename_i ls hls
    split at h
    · rename_i hg
      split at h
      · injection h with h
        rw [← h]
        exact szP_raw hL hls hg
      · cases h
    · cases h
end Go.Proofs.YtjjkimjdmpeddaaGreatDoor
namespace Go.Proofs.YtjjkimjdmpeddaaGreatDoor.PolPDone
open Go.RowKit Go.Cr
set_option maxRecDepth 100000 in
set_option maxHeartbeats 8000000 in
theorem walk (v : Value) (b : List UInt8) (w : World) (hv : IsB w v b) (hG : Glo w) : Calls Tryz.prog 10 #[v] w (RetB (.bool true) w) := by
  have HA : Hid (∀ W, Glo W → Calls Tryz.prog 14 #[] W (RetB (.bool true) W)) := awake17
  have hlen := hv.len (P := Tryz.prog) ulB
  have hmx := hv.maxl
  have HV := Lib.hid hv
  have HG := Lib.hid hG
  have hcur := Lib.hid (Below.refl w.heap.size w)
  obtain ⟨A, k, rfl⟩ := isB_slice hv
  by_cases hL : b.length ≤ 3000
  · have hd : decide ((b.length : Int) > 3000) = false := decide_eq_false (by omega)
    have hd' : decide ((3000 : Int) < b.length) = false := decide_eq_false (by omega)
    have hpe := rparPs_eq (b := b) (by omega)
    cases hp : parPs b with
    | none =>
      rw [hp] at hpe
      have HPA : Hid (∀ W, Glo W → IsB W (.slice A b.length k) b → Calls Tryz.prog 40 #[.slice A b.length k] W (RetPPn b.length W)) := fun W g h => by
        have := polParse _ b W g h (by omega)
        rw [hp] at this
        exact this.mono fun e w' hh => hh.no
      have HPR : Hid (∀ W, IsB W (.slice A b.length k) b → Calls Tryz.prog 42 #[.slice A b.length k] W (RetB (.tuple #[.slice none 0 0, .bool false]) W)) := fun W h => by
        have := rParP _ b W h (by omega)
        rw [hpe] at this
        exact this.mono fun e w' hh => hh.no
      have HSM : Hid (∀ W, Calls Tryz.prog 41 #[.slice none 0 0, .slice none 0 0] W (RetB (.bool true) W)) := fun W => by have := basP _ _ [] [] W (isPs_nil W) (isPs_nil W); rwa [decide_eq_true rfl] at this
      have HWI : Hid (∀ ec eo : Int, (0 < ec ∧ 0 ≤ eo ∧ eo ≤ b.length) → ∀ W, Calls Tryz.prog 27 #[.agg #[.int .i64 ec, .int .i64 eo], .int .i64 b.length] W (RetB (.bool true) W)) := fun ec eo h W => within_ok ec eo _ W (.inr h)
      unfold RetPPn at HPA
      simp only [errV] at HPA
      clear hv hG hp hpe
      generalize b.length = n at *
      go_enter Tryz.func10, Tryz.ntmps10
      go_wp2_with (first | ((go_at_call 14); (with_reducible refine (HA.out _ (HG.out.below hcur.out)).mono ?_); rintro e wz ⟨rfl, hbz⟩; have hcur := Lib.hid (hcur.out.trans (hbz.mono hcur.out.size)); clear hbz) | ((go_at_call 40); (with_reducible refine (HPA.out _ (HG.out.below hcur.out) (HV.out.below hcur.out)).mono ?_); rintro e wz ⟨ec, eo, h1, h2, h3, rfl, hbz⟩; have hn : (ec == 0) = false := beq_eq_false_iff_ne.2 (by omega); have hn' : (ec != 0) = true := (by simp; omega); have HER := Lib.hid (And.intro h1 (And.intro h2 h3)); have hsz := hbz.size; have hcs := hcur.out.size; have hcur := Lib.hid ((hcur.out.trans (hbz.mono hcur.out.size)).alloc (by omega) (.cells #[.int .i64 ec, .int .i64 eo] 38)); have K := Lib.hid (Blk.new wz 38 #[.int .i64 ec, .int .i64 eo]); clear hbz h1 h2 h3 hsz hcs) | ((go_at_call 42); (with_reducible refine (HPR.out _ (HV.out.below hcur.out)).mono ?_); rintro e wz ⟨rfl, hbz⟩; have hcur := Lib.hid (hcur.out.trans (hbz.mono hcur.out.size)); have K := Lib.hid (K.out.call hbz); have qK := K.out.q; have lK := K.out.lt; clear hbz) | ((go_at_call 41); (with_reducible refine (HSM.out _).mono ?_); rintro e wz ⟨rfl, hbz⟩; have hcur := Lib.hid (hcur.out.trans (hbz.mono hcur.out.size)); have K := Lib.hid (K.out.call hbz); have qK := K.out.q; have lK := K.out.lt; clear hbz) | ((go_at_call 27); (with_reducible refine (HWI.out _ _ HER.out _).mono ?_); rintro e wz ⟨rfl, hbz⟩; have hcur := Lib.hid (hcur.out.trans (hbz.mono hcur.out.size)); have K := Lib.hid (K.out.call hbz); have qK := K.out.q; have lK := K.out.lt; clear hbz))
      all_goals go_ret
      all_goals exact ⟨rfl, hcur.out⟩
    | some ms =>
      rw [hp] at hpe
      have hz := szP_par (by omega) hp
      have hmar := parPs_mar hp
      have ho : okP ms = true := by
        unfold marP at hmar
        split at hmar
        · assumption
        · cases hmar
      have hsq : seqL (ms.map polL) = b := by unfold marP at hmar; rw [if_pos ho] at hmar; exact Option.some.inj hmar
      have HPA : Hid (∀ W, Glo W → IsB W (.slice A b.length k) b → Calls Tryz.prog 40 #[.slice A b.length k] W (RetPPy ms W)) := fun W g h => by
        have := polParse _ b W g h (by omega)
        rw [hp] at this
        exact this.mono fun e w' hh => hh.yes
      have HPR : Hid (∀ W, IsB W (.slice A b.length k) b → Calls Tryz.prog 42 #[.slice A b.length k] W (RetRPq ms W)) := fun W h => by
        have := rParP _ b W h (by omega)
        rw [hpe] at this
        exact this.mono fun e w' hh => hh.yes
      have HSM : Hid (∀ W a a', IsPs W a ms → IsPs W a' ms → Calls Tryz.prog 41 #[a, a'] W (RetB (.bool true) W)) := fun W a a' h1 h2 => by have := basP _ _ ms ms W h1 h2; rwa [decide_eq_true rfl] at this
      have HWI : Hid (∀ W, Calls Tryz.prog 27 #[.agg #[.int .i64 0, .int .i64 0], .int .i64 b.length] W (RetB (.bool true) W)) := fun W => within_ok 0 0 _ W (.inl ⟨rfl, rfl⟩)
      have HPV : Hid (∀ W a, Glo W → IsPs W a ms → Calls Tryz.prog 38 #[a] W (RetB (.bool true) W)) := fun W a g h => by have := polValid _ ms W g h hz; rwa [ho] at this
      have hfl : (ms.map polL).flatten.length ≤ 900000 := by have := seqL_len (ms.map polL); rw [hsq] at this; omega
      have HPM : Hid (∀ W a, Glo W → IsPs W a ms → Calls Tryz.prog 36 #[a] W (RetOidY b W)) := fun W a g h => by have := polMar_yes a ms W g h hz hfl ho; rwa [hsq] at this
      have HBY : Hid (∀ W a, IsB W a b → IsB W (.slice A b.length k) b → Calls Tryz.prog 21 #[a, .slice A b.length k] W (RetB (.bool true) W)) := fun W a h1 h2 => by have := bytes_any a _ _ _ W h1 h2; rwa [decide_eq_true rfl] at this
      unfold RetPPy at HPA
      simp only [errV] at HPA
      clear hv hG hp hpe hz hmar ho hsq hfl
      go_enter Tryz.func10, Tryz.ntmps10
      go_wp2_with (first | ((go_at_call 14); (with_reducible refine (HA.out _ (HG.out.below hcur.out)).mono ?_); rintro e wz ⟨rfl, hbz⟩; have hcur := Lib.hid (hcur.out.trans (hbz.mono hcur.out.size)); clear hbz) | ((go_at_call 40); (with_reducible refine (HPA.out _ (HG.out.below hcur.out) (HV.out.below hcur.out)).mono ?_); rintro e wz ⟨A3, k3, rfl, ho3, hbz⟩; have hsz := hbz.size; have hcs := hcur.out.size; have hcur := Lib.hid ((hcur.out.trans (hbz.mono hcur.out.size)).alloc (by omega) (.cells #[.int .i64 0, .int .i64 0] 38)); have K := Lib.hid (Blk.new wz 38 #[.int .i64 0, .int .i64 0]); have HX := Lib.hid (ho3.alloc (.cells #[.int .i64 0, .int .i64 0] 38)); clear hbz hsz hcs ho3) | ((go_at_call 42); (with_reducible refine (HPR.out _ (HV.out.below hcur.out)).mono ?_); rintro e wz ⟨A4, k4, rfl, ho4, hbz⟩; have hcur := Lib.hid (hcur.out.trans (hbz.mono hcur.out.size)); have K := Lib.hid (K.out.call hbz); have qK := K.out.q; have lK := K.out.lt; have HX := Lib.hid (HX.out.below hbz); have HY := Lib.hid ho4; clear hbz ho4) | ((go_at_call 41); (with_reducible refine (HSM.out _ _ _ HX.out HY.out).mono ?_); rintro e wz ⟨rfl, hbz⟩; have hcur := Lib.hid (hcur.out.trans (hbz.mono hcur.out.size)); have K := Lib.hid (K.out.call hbz); have qK := K.out.q; have lK := K.out.lt; have HX := Lib.hid (HX.out.below hbz); have HY := Lib.hid (HY.out.below hbz); clear hbz) | ((go_at_call 27); (with_reducible refine (HWI.out _).mono ?_); rintro e wz ⟨rfl, hbz⟩; have hcur := Lib.hid (hcur.out.trans (hbz.mono hcur.out.size)); have K := Lib.hid (K.out.call hbz); have qK := K.out.q; have lK := K.out.lt; have HX := Lib.hid (HX.out.below hbz); have HY := Lib.hid (HY.out.below hbz); clear hbz) | ((go_at_call 38); (with_reducible refine (HPV.out _ _ (HG.out.below hcur.out) HX.out).mono ?_); rintro e wz ⟨rfl, hbz⟩; have hcur := Lib.hid (hcur.out.trans (hbz.mono hcur.out.size)); have K := Lib.hid (K.out.call hbz); have qK := K.out.q; have lK := K.out.lt; have HX := Lib.hid (HX.out.below hbz); have HY := Lib.hid (HY.out.below hbz); clear hbz) | ((go_at_call 36); (with_reducible refine (HPM.out _ _ (HG.out.below hcur.out) HX.out).mono ?_); rintro e wz ⟨v6, rfl, ho6, hbz⟩; obtain ⟨A6, k6, rfl⟩ := isB_slice ho6.isB; have hcur := Lib.hid (hcur.out.trans (hbz.mono hcur.out.size)); have K := Lib.hid (K.out.call hbz); have qK := K.out.q; have lK := K.out.lt; have HX := Lib.hid (HX.out.below hbz); have HY := Lib.hid ho6.isB; clear hbz ho6) | ((go_at_call 21); (with_reducible refine (HBY.out _ _ HY.out (HV.out.below hcur.out)).mono ?_); rintro e wz ⟨rfl, hbz⟩; have hcur := Lib.hid (hcur.out.trans (hbz.mono hcur.out.size)); have K := Lib.hid (K.out.call hbz); have qK := K.out.q; have lK := K.out.lt; have HX := Lib.hid (HX.out.below hbz); have HY := Lib.hid (HY.out.below hbz); clear hbz))
      all_goals go_ret
      all_goals exact ⟨rfl, hcur.out⟩
  · have hd : decide ((b.length : Int) > 3000) = true := decide_eq_true (by omega)
    have hd' : decide ((3000 : Int) < b.length) = true := decide_eq_true (by omega)
    clear hv hG
    generalize b.length = n at *
    go_enter Tryz.func10, Tryz.ntmps10
    go_wp2_with (first | ((go_at_call 14); (with_reducible refine (HA.out _ (HG.out.below hcur.out)).mono ?_); rintro e wz ⟨rfl, hbz⟩; have hcur := Lib.hid (hcur.out.trans (hbz.mono hcur.out.size)); clear hbz))
    go_ret
    exact ⟨rfl, hcur.out⟩
end Go.Proofs.YtjjkimjdmpeddaaGreatDoor.PolPDone
end
