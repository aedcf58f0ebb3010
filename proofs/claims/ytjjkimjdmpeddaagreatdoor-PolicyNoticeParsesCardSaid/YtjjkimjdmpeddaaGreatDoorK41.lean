/- The parts LawNotM, LawNotP of one proof, one behind the other. -/
import Derived.Test.YtjjkimjdmpeddaaGreatDoorK37
import Derived.Test.YtjjkimjdmpeddaaGreatDoorK38
import Derived.Test.YtjjkimjdmpeddaaGreatDoorK39
import Derived.Test.YtjjkimjdmpeddaaGreatDoorK40
import Derived.Test.YtjjkimjdmpeddaaGreatDoorK36
import Derived.Test.YtjjkimjdmpeddaaGreatDoorK19
import Derived.Deep.RegionHeld3

/- PolicyNoticeMarshals: the walk. -/
section
set_option linter.unusedSimpArgs false
set_option linter.unusedVariables false
namespace Go.Proofs.YtjjkimjdmpeddaaGreatDoor
open Go.RowKit Go.Cr
theorem cells6 {W : World} {g : Nat} {t : TypeId} {a b c d e f : Value} (h : Blk W g t #[a, b, c, d, e, f]) : W.cell? ⟨g, 0, none⟩ = some a ∧ W.cell? ⟨g, 1, none⟩ = some b ∧ W.cell? ⟨g, 2, none⟩ = some c ∧ W.cell? ⟨g, 3, none⟩ = some d ∧ W.cell? ⟨g, 4, none⟩ = some e ∧ W.cell? ⟨g, 5, none⟩ = some f :=
  ⟨h.q 0, h.q 1, h.q 2, h.q 3, h.q 4, h.q 5⟩
theorem lenS_flat (ls : List (List UInt8)) : ls.flatten.length = lenS ls := by
  unfold lenS
  induction ls with
  | nil => rfl
  | cons x t ih => simp [ih]
theorem FwN.sz {n : Ntc} (h : FwN n) : SzN n := by
  obtain ⟨h1, h2⟩ := h
  have := lenS_flat n.nums
  exact ⟨by omega, by omega, by omega, by omega⟩
theorem FwN.parts {n : Ntc} (h : FwN n) (ho : okN n = true) : (partsN n).flatten.length ≤ 8200 := by
  obtain ⟨h1, h2⟩ := h
  have := lenS_flat n.nums
  have := partsN_le ho
  omega
theorem FwN.seq {n : Ntc} (h : FwN n) (ho : okN n = true) : (seqL (partsN n)).length ≤ 8300 := by
  have h1 := h.parts ho
  have h2 := seqL_le (partsN n)
  omega
end Go.Proofs.YtjjkimjdmpeddaaGreatDoor
namespace Go.Proofs.YtjjkimjdmpeddaaGreatDoor.NotMDone
open Go.RowKit Go.Cr
set_option maxRecDepth 100000 in
set_option maxHeartbeats 8000000 in
theorem walk (v : Value) (n : Ntc) (w : World) (hv : IsN w v n) (hM : BdN 140737488351232 n) (hG : Glo w) : Calls Tryz.prog 4 #[v] w (RetB (.bool true) w) := by
  have HA : Hid (∀ W, Glo W → Calls Tryz.prog 14 #[] W (RetB (.bool true) W)) := awake17
  obtain ⟨u, rfl, hu⟩ := hv
  obtain ⟨A, k, rfl⟩ := isBs_slice hu
  have hv : IsN w (.agg #[.bool n.ref, .int .i64 n.org.1, .string n.org.2, .slice A n.nums.length k, .int .i64 n.text.1, .string n.text.2]) n := ⟨_, rfl, hu⟩
  obtain ⟨r, hr⟩ : ∃ r, n.ref = r := ⟨_, rfl⟩
  obtain ⟨ok, hok⟩ : ∃ ok, n.org.1 = ok := ⟨_, rfl⟩
  obtain ⟨os, hos⟩ : ∃ os, n.org.2 = os := ⟨_, rfl⟩
  obtain ⟨tk, htk⟩ : ∃ tk, n.text.1 = tk := ⟨_, rfl⟩
  obtain ⟨ts, hts⟩ : ∃ ts, n.text.2 = ts := ⟨_, rfl⟩
  obtain ⟨nl, hnl⟩ : ∃ nl, n.nums.length = nl := ⟨_, rfl⟩
  rw [hr, hok, hos, htk, hts, hnl] at hv
  rw [hr, hok, hos, htk, hts, hnl]
  clear hu
  have HF : Hid (∀ W, IsN W (.agg #[.bool r, .int .i64 ok, .string os, .slice A nl k, .int .i64 tk, .string ts]) n → Calls Tryz.prog 18 #[.agg #[.bool r, .int .i64 ok, .string os, .slice A nl k, .int .i64 tk, .string ts]] W (RetNw n W)) := fun W h => rFewN _ n W h hM
  have HV := Lib.hid hv
  have HG := Lib.hid hG
  have HPV : Hid (SzN n → ∀ W, Glo W → IsN W (.agg #[.bool r, .int .i64 ok, .string os, .slice A nl k, .int .i64 tk, .string ts]) n → Calls Tryz.prog 22 #[.agg #[.bool r, .int .i64 ok, .string os, .slice A nl k, .int .i64 tk, .string ts]] W (RetB (.bool (okN n)) W)) := fun z W g h => noticeValid _ n W g h z
  have HRV : Hid (SzN n → ∀ W, IsN W (.agg #[.bool r, .int .i64 ok, .string os, .slice A nl k, .int .i64 tk, .string ts]) n → Calls Tryz.prog 23 #[.agg #[.bool r, .int .i64 ok, .string os, .slice A nl k, .int .i64 tk, .string ts]] W (RetB (.bool (okN n)) W)) := fun z W h => rValidN _ n W h z
  have K := Lib.hid (Blk.new w 30 #[.bool r, .int .i64 ok, .string os, .slice A nl k, .int .i64 tk, .string ts])
  have hcur := Lib.hid ((Below.refl w.heap.size w).alloc (Nat.le_refl _) (.cells #[.bool r, .int .i64 ok, .string os, .slice A nl k, .int .i64 tk, .string ts] 30))
  cases ho : okN n with
  | false =>
    have HPM : Hid (SzN n → ∀ W, Glo W → IsN W (.agg #[.bool r, .int .i64 ok, .string os, .slice A nl k, .int .i64 tk, .string ts]) n → Calls Tryz.prog 19 #[.agg #[.bool r, .int .i64 ok, .string os, .slice A nl k, .int .i64 tk, .string ts]] W (RetB (.tuple #[.slice none 0 0, .int .i64 8]) W)) := fun z W g h => noticeMar_no _ n W g h z ho
    have HRM : Hid (SzN n → ∀ W, IsN W (.agg #[.bool r, .int .i64 ok, .string os, .slice A nl k, .int .i64 tk, .string ts]) n → Calls Tryz.prog 20 #[.agg #[.bool r, .int .i64 ok, .string os, .slice A nl k, .int .i64 tk, .string ts]] W (RetB (.tuple #[.slice none 0 0, .int .i64 8]) W)) := fun z W h => rNoticeMar_no _ n W h z ho
    have HBY : Hid (∀ W, Calls Tryz.prog 21 #[.slice none 0 0, .slice none 0 0] W (RetB (.bool true) W)) := fun W => by have := bytes_any (.slice none 0 0) (.slice none 0 0) [] [] W (isB_nil0 W) (isB_nil0 W); rwa [decide_eq_true rfl] at this
    rw [ho] at HPV HRV
    clear hv hM hG ho hr hok hos htk hts hnl
    go_enter Tryz.func4, Tryz.ntmps4
    go_wp2_with (first | ((go_at_call 14); (with_reducible refine (HA.out _ (HG.out.below hcur.out)).mono ?_); rintro e wz ⟨rfl, hbz⟩; have hcur := Lib.hid (hcur.out.trans (hbz.mono hcur.out.size)); have K := Lib.hid (K.out.call hbz); have qK := K.out.q; have lK := K.out.lt; clear hbz) | ((go_at_call 18); (with_reducible refine (HF.out _ (HV.out.below hcur.out)).mono ?_); rintro e wz ⟨b, rfl, hb, hbz⟩; have hcur := Lib.hid (hcur.out.trans (hbz.mono hcur.out.size)); have K := Lib.hid (K.out.call hbz); have qK := K.out.q; have lK := K.out.lt; have HFW := Lib.hid hb; clear hb hbz; cases b) | ((go_at_call 19); (with_reducible refine (HPM.out (HFW.out (by trivial)).sz _ (HG.out.below hcur.out) (HV.out.below hcur.out)).mono ?_); rintro e wz ⟨rfl, hbz⟩; have hcur := Lib.hid (hcur.out.trans (hbz.mono hcur.out.size)); have K := Lib.hid (K.out.call hbz); have qK := K.out.q; have lK := K.out.lt; clear hbz) | ((go_at_call 20); (with_reducible refine (HRM.out (HFW.out (by trivial)).sz _ (HV.out.below hcur.out)).mono ?_); rintro e wz ⟨rfl, hbz⟩; have hcur := Lib.hid (hcur.out.trans (hbz.mono hcur.out.size)); have K := Lib.hid (K.out.call hbz); have qK := K.out.q; have lK := K.out.lt; clear hbz))
    any_goals (first | (go_ret; exact ⟨rfl, hcur.out⟩))
    have hcur := Lib.hid hcur.out.drew
    have K := Lib.hid K.out.drew
    go_region_held3 (fun W' => W'.cell? ⟨w.heap.size, 0, none⟩ = some (.bool r) ∧ W'.cell? ⟨w.heap.size, 1, none⟩ = some (.int .i64 ok) ∧ W'.cell? ⟨w.heap.size, 2, none⟩ = some (.string os) ∧ W'.cell? ⟨w.heap.size, 3, none⟩ = some (.slice A nl k) ∧ W'.cell? ⟨w.heap.size, 4, none⟩ = some (.int .i64 tk) ∧ W'.cell? ⟨w.heap.size, 5, none⟩ = some (.string ts))
      (first | exact cells6 K.out)
      (first | ((go_at_call 21); (with_reducible refine (HBY.out _).mono ?_); rintro e wz ⟨rfl, hbz⟩; have hcur := Lib.hid (hcur.out.trans (hbz.mono hcur.out.size)); have K := Lib.hid (K.out.call hbz); have qK := K.out.q; have lK := K.out.lt; clear hbz) | ((go_at_call 22); (with_reducible refine (HPV.out (HFW.out (by trivial)).sz _ (HG.out.below hcur.out) (HV.out.below hcur.out)).mono ?_); rintro e wz ⟨rfl, hbz⟩; have hcur := Lib.hid (hcur.out.trans (hbz.mono hcur.out.size)); have K := Lib.hid (K.out.call hbz); have qK := K.out.q; have lK := K.out.lt; clear hbz) | ((go_at_call 23); (with_reducible refine (HRV.out (HFW.out (by trivial)).sz _ (HV.out.below hcur.out)).mono ?_); rintro e wz ⟨rfl, hbz⟩; have hcur := Lib.hid (hcur.out.trans (hbz.mono hcur.out.size)); have K := Lib.hid (K.out.call hbz); have qK := K.out.q; have lK := K.out.lt; clear hbz))
    go_wp2_with fail
    have hcur := Lib.hid hcur.out.drew
    have K := Lib.hid K.out.drew
    go_region_held3 (fun W' => W'.cell? ⟨w.heap.size, 0, none⟩ = some (.bool r) ∧ W'.cell? ⟨w.heap.size, 1, none⟩ = some (.int .i64 ok) ∧ W'.cell? ⟨w.heap.size, 2, none⟩ = some (.string os) ∧ W'.cell? ⟨w.heap.size, 3, none⟩ = some (.slice A nl k) ∧ W'.cell? ⟨w.heap.size, 4, none⟩ = some (.int .i64 tk) ∧ W'.cell? ⟨w.heap.size, 5, none⟩ = some (.string ts))
      (first | exact cells6 K.out)
      (first | ((go_at_call 21); (with_reducible refine (HBY.out _).mono ?_); rintro e wz ⟨rfl, hbz⟩; have hcur := Lib.hid (hcur.out.trans (hbz.mono hcur.out.size)); have K := Lib.hid (K.out.call hbz); have qK := K.out.q; have lK := K.out.lt; clear hbz) | ((go_at_call 22); (with_reducible refine (HPV.out (HFW.out (by trivial)).sz _ (HG.out.below hcur.out) (HV.out.below hcur.out)).mono ?_); rintro e wz ⟨rfl, hbz⟩; have hcur := Lib.hid (hcur.out.trans (hbz.mono hcur.out.size)); have K := Lib.hid (K.out.call hbz); have qK := K.out.q; have lK := K.out.lt; clear hbz) | ((go_at_call 23); (with_reducible refine (HRV.out (HFW.out (by trivial)).sz _ (HV.out.below hcur.out)).mono ?_); rintro e wz ⟨rfl, hbz⟩; have hcur := Lib.hid (hcur.out.trans (hbz.mono hcur.out.size)); have K := Lib.hid (K.out.call hbz); have qK := K.out.q; have lK := K.out.lt; clear hbz))
    go_wp2_with fail
    go_ret
    exact ⟨rfl, hcur.out⟩
  | true =>
    have HPM : Hid (FwN n → ∀ W, Glo W → IsN W (.agg #[.bool r, .int .i64 ok, .string os, .slice A nl k, .int .i64 tk, .string ts]) n → Calls Tryz.prog 19 #[.agg #[.bool r, .int .i64 ok, .string os, .slice A nl k, .int .i64 tk, .string ts]] W (RetOidY (seqL (partsN n)) W)) := fun z W g h => noticeMar _ n W g h z.sz (by have := z.parts ho; omega) ho
    have HRM : Hid (FwN n → ∀ W, IsN W (.agg #[.bool r, .int .i64 ok, .string os, .slice A nl k, .int .i64 tk, .string ts]) n → Calls Tryz.prog 20 #[.agg #[.bool r, .int .i64 ok, .string os, .slice A nl k, .int .i64 tk, .string ts]] W (RetOidY (seqL (partsN n)) W)) := fun z W h => rNoticeMar _ n W h z.sz (by have := z.parts ho; omega) ho
    have HBY : Hid (∀ W a b, IsB W a (seqL (partsN n)) → IsB W b (seqL (partsN n)) → Calls Tryz.prog 21 #[a, b] W (RetB (.bool true) W)) := fun W a b h1 h2 => by have := bytes_any a b _ _ W h1 h2; rwa [decide_eq_true rfl] at this
    have hmar : marN n = some (seqL (partsN n)) := by unfold marN; simp [ho]
    have HPA : Hid (FwN n → ∀ W a, Glo W → IsB W a (seqL (partsN n)) → Calls Tryz.prog 24 #[a] W (RetPNy n W)) := fun z W a g h => polParseN_some a _ n W g h (by have := z.seq ho; omega) (mar_parN hmar (by have := z.seq ho; omega))
    have HSM : Hid (∀ W a a', IsN W a n → IsN W a' n → Calls Tryz.prog 25 #[a, a'] W (RetB (.bool true) W)) := fun W a a' h1 h2 => basN a a' n n W h1 h2 true ⟨fun _ => rfl, fun _ => rfl⟩
    rw [ho] at HPV HRV
    unfold RetPNy nV at HPA
    simp only [errV] at HPA
    rw [hr, hok, hos, htk, hts, hnl] at HPA
    clear hv hM hG ho hmar hr hok hos htk hts hnl
    generalize seqL (partsN n) = c at *
    go_enter Tryz.func4, Tryz.ntmps4
    go_wp2_with (first | ((go_at_call 14); (with_reducible refine (HA.out _ (HG.out.below hcur.out)).mono ?_); rintro e wz ⟨rfl, hbz⟩; have hcur := Lib.hid (hcur.out.trans (hbz.mono hcur.out.size)); have K := Lib.hid (K.out.call hbz); have qK := K.out.q; have lK := K.out.lt; clear hbz) | ((go_at_call 18); (with_reducible refine (HF.out _ (HV.out.below hcur.out)).mono ?_); rintro e wz ⟨b, rfl, hb, hbz⟩; have hcur := Lib.hid (hcur.out.trans (hbz.mono hcur.out.size)); have K := Lib.hid (K.out.call hbz); have qK := K.out.q; have lK := K.out.lt; have HFW := Lib.hid hb; clear hb hbz; cases b) | ((go_at_call 19); (with_reducible refine (HPM.out (HFW.out (by trivial)) _ (HG.out.below hcur.out) (HV.out.below hcur.out)).mono ?_); rintro e wz ⟨v3, rfl, ho3, hbz⟩; obtain ⟨A3, k3, rfl⟩ := isB_slice ho3.isB; have hcur := Lib.hid (hcur.out.trans (hbz.mono hcur.out.size)); have K := Lib.hid (K.out.call hbz); have qK := K.out.q; have lK := K.out.lt; have HV3 := Lib.hid ho3.isB; have hw3 := Lib.hid (Below.refl wz.heap.size wz); clear ho3 hbz) | ((go_at_call 20); (with_reducible refine (HRM.out (HFW.out (by trivial)) _ (HV.out.below hcur.out)).mono ?_); rintro e wy ⟨v4, rfl, ho4, hbz⟩; obtain ⟨A4, k4, rfl⟩ := isB_slice ho4.isB; have hcur := Lib.hid (hcur.out.trans (hbz.mono hcur.out.size)); have K := Lib.hid (K.out.call hbz); have qK := K.out.q; have lK := K.out.lt; have HV3 := Lib.hid (HV3.out.below hbz); have HV4 := Lib.hid ho4.isB; clear ho4 hbz))
    any_goals (first | (go_ret; exact ⟨rfl, hcur.out⟩))
    have hcur := Lib.hid hcur.out.drew
    have K := Lib.hid K.out.drew
    have HV3 := Lib.hid HV3.out.drew
    have HV4 := Lib.hid HV4.out.drew
    go_region_held3 (fun W' => W'.cell? ⟨w.heap.size, 0, none⟩ = some (.bool r) ∧ W'.cell? ⟨w.heap.size, 1, none⟩ = some (.int .i64 ok) ∧ W'.cell? ⟨w.heap.size, 2, none⟩ = some (.string os) ∧ W'.cell? ⟨w.heap.size, 3, none⟩ = some (.slice A nl k) ∧ W'.cell? ⟨w.heap.size, 4, none⟩ = some (.int .i64 tk) ∧ W'.cell? ⟨w.heap.size, 5, none⟩ = some (.string ts))
      (first | exact cells6 K.out)
      (first | ((go_at_call 21); (with_reducible refine (HBY.out _ _ _ HV3.out HV4.out).mono ?_); rintro e wz ⟨rfl, hbz⟩; have hcur := Lib.hid (hcur.out.trans (hbz.mono hcur.out.size)); have K := Lib.hid (K.out.call hbz); have qK := K.out.q; have lK := K.out.lt; have HV3 := Lib.hid (HV3.out.below hbz); have HV4 := Lib.hid (HV4.out.below hbz); clear hbz) | ((go_at_call 22); (with_reducible refine (HPV.out (HFW.out (by trivial)).sz _ (HG.out.below hcur.out) (HV.out.below hcur.out)).mono ?_); rintro e wz ⟨rfl, hbz⟩; have hcur := Lib.hid (hcur.out.trans (hbz.mono hcur.out.size)); have K := Lib.hid (K.out.call hbz); have qK := K.out.q; have lK := K.out.lt; have HV3 := Lib.hid (HV3.out.below hbz); have HV4 := Lib.hid (HV4.out.below hbz); clear hbz) | ((go_at_call 23); (with_reducible refine (HRV.out (HFW.out (by trivial)).sz _ (HV.out.below hcur.out)).mono ?_); rintro e wz ⟨rfl, hbz⟩; have hcur := Lib.hid (hcur.out.trans (hbz.mono hcur.out.size)); have K := Lib.hid (K.out.call hbz); have qK := K.out.q; have lK := K.out.lt; have HV3 := Lib.hid (HV3.out.below hbz); have HV4 := Lib.hid (HV4.out.below hbz); clear hbz))
    go_wp2_with (first | ((go_at_call 24); (with_reducible refine (HPA.out (HFW.out (by trivial)) _ _ (HG.out.below hcur.out) HV3.out).mono ?_); rintro e wz ⟨A5, k5, rfl, ho5, hbz⟩; have hcur := Lib.hid (hcur.out.trans (hbz.mono hcur.out.size)); have K := Lib.hid (K.out.call hbz); have qK := K.out.q; have lK := K.out.lt; have HV5 := Lib.hid ho5; clear ho5 hbz) | ((go_at_call 25); (with_reducible refine (HSM.out _ _ _ ((HV5.out.alloc _).alloc _) (HV.out.below ((hcur.out.alloc hcur.out.size _).alloc (by have := hcur.out.size; simp; omega) _))).mono ?_); rintro e wz ⟨rfl, hbz⟩; have hcur := Lib.hid (((hcur.out.alloc hcur.out.size _).alloc (by have := hcur.out.size; simp; omega) _).trans (hbz.mono (by have := hcur.out.size; simp; omega))); clear hbz))
    go_ret
    exact ⟨rfl, hcur.out⟩
end Go.Proofs.YtjjkimjdmpeddaaGreatDoor.NotMDone
end

/- PolicyNoticeParses: the walk. -/
section
set_option linter.unusedSimpArgs false
set_option linter.unusedVariables false
namespace Go.Proofs.YtjjkimjdmpeddaaGreatDoor
open Go.RowKit Go.Cr
theorem isN_zero (w : World) : IsN w (.agg #[.bool false, .int .i64 0, .string ⟨#[]⟩, .slice none 0 0, .int .i64 0, .string ⟨#[]⟩]) ⟨false, tx0, [], tx0⟩ := ⟨_, rfl, IsBs.nil_ w⟩
theorem parN_ok {b : List UInt8} {n : Ntc} (h : parN b = some n) : preN b = some n ∧ okN n = true ∧ seqL (partsN n) = b := by
  have hm := parN_mar h
  unfold parN at h
  split at h
  · rename_i m hp
    split at h
    · rename_i ho
      injection h with h
      subst h
      unfold marN at hm
      rw [if_pos ho] at hm
      exact ⟨hp, ho, Option.some.inj hm⟩
    · cases h
  · cases h
end Go.Proofs.YtjjkimjdmpeddaaGreatDoor
namespace Go.Proofs.YtjjkimjdmpeddaaGreatDoor.NotPDone
open Go.RowKit Go.Cr
set_option maxRecDepth 100000 in
set_option maxHeartbeats 16000000 in
theorem walk (v : Value) (b : List UInt8) (w : World) (hv : IsB w v b) (hG : Glo w) : Calls Tryz.prog 5 #[v] w (RetB (.bool true) w) := by
  have HA : Hid (∀ W, Glo W → Calls Tryz.prog 14 #[] W (RetB (.bool true) W)) := awake17
  have hlen := hv.len (P := Tryz.prog) ulB
  have hmx := hv.maxl
  have HV := Lib.hid hv
  have HG := Lib.hid hG
  have hcur := Lib.hid (Below.refl w.heap.size w)
  obtain ⟨A, k, rfl⟩ := isB_slice hv
  by_cases hL : b.length ≤ 3000
  · have hd : decide ((b.length : Int) > 3000) = false := decide_eq_false (by omega)
    have hd' : decide ((3000 : Int) < b.length) = false := decide_eq_false (by omega)
    have hpe := rparN_eq (b := b) (by omega)
    cases hp : parN b with
    | none =>
      rw [hp] at hpe
      have HPA : Hid (∀ W, Glo W → IsB W (.slice A b.length k) b → Calls Tryz.prog 24 #[.slice A b.length k] W (RetPNn b.length W)) := fun W g h => polParseN_none _ b W g h (by omega) hp
      have HPR : Hid (∀ W, IsB W (.slice A b.length k) b → Calls Tryz.prog 26 #[.slice A b.length k] W (RetRPn W)) := fun W h => rParN_none _ b W h (by omega) hpe
      have HSM : Hid (∀ W, Calls Tryz.prog 25 #[.agg #[.bool false, .int .i64 0, .string ⟨#[]⟩, .slice none 0 0, .int .i64 0, .string ⟨#[]⟩], .agg #[.bool false, .int .i64 0, .string ⟨#[]⟩, .slice none 0 0, .int .i64 0, .string ⟨#[]⟩]] W (RetB (.bool true) W)) := fun W => basN _ _ _ _ W (isN_zero W) (isN_zero W) true ⟨fun _ => rfl, fun _ => rfl⟩
      have HWI : Hid (∀ ec eo : Int, (0 < ec ∧ 0 ≤ eo ∧ eo ≤ b.length) → ∀ W, Calls Tryz.prog 27 #[.agg #[.int .i64 ec, .int .i64 eo], .int .i64 b.length] W (RetB (.bool true) W)) := fun ec eo h W => within_ok ec eo _ W (.inr h)
      unfold RetPNn at HPA
      unfold RetRPn at HPR
      simp only [errV] at HPA
      clear hv hG hp hpe
      generalize b.length = n at *
      go_enter Tryz.func5, Tryz.ntmps5
      go_wp2_with (first | ((go_at_call 14); (with_reducible refine (HA.out _ (HG.out.below hcur.out)).mono ?_); rintro e wz ⟨rfl, hbz⟩; have hcur := Lib.hid (hcur.out.trans (hbz.mono hcur.out.size)); clear hbz) | ((go_at_call 24); (with_reducible refine (HPA.out _ (HG.out.below hcur.out) (HV.out.below hcur.out)).mono ?_); rintro e wz ⟨ec, eo, h1, h2, h3, rfl, hbz⟩; have hn : (ec == 0) = false := beq_eq_false_iff_ne.2 (by omega); have hn' : (ec != 0) = true := (by first | (simp; done) | (simp; omega) | omega); have HER := Lib.hid (And.intro h1 (And.intro h2 h3)); have hsz := hbz.size; have hcs := hcur.out.size; have hcur := Lib.hid (((hcur.out.trans (hbz.mono hcur.out.size)).alloc (by omega) (.cells #[.bool false, .int .i64 0, .string ⟨#[]⟩, .slice none 0 0, .int .i64 0, .string ⟨#[]⟩] 30)).alloc (by first | (simp; done) | (simp; omega) | omega) (.cells #[.int .i64 ec, .int .i64 eo] 38)); have KN := Lib.hid ((Blk.new wz 30 #[.bool false, .int .i64 0, .string ⟨#[]⟩, .slice none 0 0, .int .i64 0, .string ⟨#[]⟩]).alloc (.cells #[.int .i64 ec, .int .i64 eo] 38)); have KE := Lib.hid (blk_in (w := wz.alloc (.cells #[.bool false, .int .i64 0, .string ⟨#[]⟩, .slice none 0 0, .int .i64 0, .string ⟨#[]⟩] 30)) (g := wz.heap.size + 1) (t := 38) (cs := #[.int .i64 ec, .int .i64 eo]) (by first | (simp; done) | (simp; omega) | omega)); clear hbz h1 h2 h3 hsz hcs) | ((go_at_call 26); (with_reducible refine (HPR.out _ (HV.out.below hcur.out)).mono ?_); rintro e wy ⟨rfl, hbz⟩; have hsz := hbz.size; have hcs := hcur.out.size; have hcur := Lib.hid ((hcur.out.trans (hbz.mono hcur.out.size)).alloc (by omega) (.cells #[.bool false, .int .i64 0, .string ⟨#[]⟩, .slice none 0 0, .int .i64 0, .string ⟨#[]⟩] 30)); have KN := Lib.hid ((KN.out.call hbz).alloc (.cells #[.bool false, .int .i64 0, .string ⟨#[]⟩, .slice none 0 0, .int .i64 0, .string ⟨#[]⟩] 30)); have KE := Lib.hid ((KE.out.call hbz).alloc (.cells #[.bool false, .int .i64 0, .string ⟨#[]⟩, .slice none 0 0, .int .i64 0, .string ⟨#[]⟩] 30)); have KR := Lib.hid (Blk.new wy 30 #[.bool false, .int .i64 0, .string ⟨#[]⟩, .slice none 0 0, .int .i64 0, .string ⟨#[]⟩]); have qKN := (KN.out).q; have lKN := KN.out.lt; have qKE := KE.out.q; have lKE := KE.out.lt; have qKR := KR.out.q; have lKR := KR.out.lt; clear hbz hsz hcs) | ((go_at_call 25); (with_reducible refine (HSM.out _).mono ?_); rintro e wz ⟨rfl, hbz⟩; have hcur := Lib.hid (hcur.out.trans (hbz.mono hcur.out.size)); have KN := Lib.hid (KN.out.call hbz); have KE := Lib.hid (KE.out.call hbz); have KR := Lib.hid (KR.out.call hbz); have qKN := KN.out.q; have lKN := KN.out.lt; have qKE := KE.out.q; have lKE := KE.out.lt; have qKR := KR.out.q; have lKR := KR.out.lt; clear hbz) | ((go_at_call 27); (with_reducible refine (HWI.out _ _ HER.out _).mono ?_); rintro e wz ⟨rfl, hbz⟩; have hcur := Lib.hid (hcur.out.trans (hbz.mono hcur.out.size)); have KN := Lib.hid (KN.out.call hbz); have KE := Lib.hid (KE.out.call hbz); have KR := Lib.hid (KR.out.call hbz); have qKN := KN.out.q; have lKN := KN.out.lt; have qKE := KE.out.q; have lKE := KE.out.lt; have qKR := KR.out.q; have lKR := KR.out.lt; clear hbz))
      all_goals go_ret
      all_goals exact ⟨rfl, hcur.out⟩
    | some n =>
      rw [hp] at hpe
      obtain ⟨hpre, ho, hsq⟩ := parN_ok hp
      have hz := szN_pre (by omega) hpre
      have HPA : Hid (∀ W, Glo W → IsB W (.slice A b.length k) b → Calls Tryz.prog 24 #[.slice A b.length k] W (RetPNy n W)) := fun W g h => polParseN_some _ b n W g h (by omega) hp
      have HPR : Hid (∀ W, IsB W (.slice A b.length k) b → Calls Tryz.prog 26 #[.slice A b.length k] W (RetRPz n W)) := fun W h => rParN_some _ b n W h (by omega) hpe
      have HSM : Hid (∀ W a a', IsN W a n → IsN W a' n → Calls Tryz.prog 25 #[a, a'] W (RetB (.bool true) W)) := fun W a a' h1 h2 => basN a a' n n W h1 h2 true ⟨fun _ => rfl, fun _ => rfl⟩
      have HWI : Hid (∀ W, Calls Tryz.prog 27 #[.agg #[.int .i64 0, .int .i64 0], .int .i64 b.length] W (RetB (.bool true) W)) := fun W => within_ok 0 0 _ W (.inl ⟨rfl, rfl⟩)
      have HPV : Hid (∀ W a, Glo W → IsN W a n → Calls Tryz.prog 22 #[a] W (RetB (.bool true) W)) := fun W a g h => by have := noticeValid a n W g h hz; rwa [ho] at this
      have hfl : (partsN n).flatten.length ≤ 900000 := by have := seqL_len (partsN n); rw [hsq] at this; omega
      have HPM : Hid (∀ W a, Glo W → IsN W a n → Calls Tryz.prog 19 #[a] W (RetOidY b W)) := fun W a g h => by have := noticeMar a n W g h hz hfl ho; rwa [hsq] at this
      have HBY : Hid (∀ W a, IsB W a b → IsB W (.slice A b.length k) b → Calls Tryz.prog 21 #[a, .slice A b.length k] W (RetB (.bool true) W)) := fun W a h1 h2 => by have := bytes_any a _ _ _ W h1 h2; rwa [decide_eq_true rfl] at this
      unfold RetPNy nV at HPA
      unfold RetRPz nV at HPR
      simp only [errV] at HPA
      obtain ⟨r, hr⟩ : ∃ r, n.ref = r := ⟨_, rfl⟩
      obtain ⟨ok, hok⟩ : ∃ ok, n.org.1 = ok := ⟨_, rfl⟩
      obtain ⟨os, hos⟩ : ∃ os, n.org.2 = os := ⟨_, rfl⟩
      obtain ⟨tk, htk⟩ : ∃ tk, n.text.1 = tk := ⟨_, rfl⟩
      obtain ⟨ts, hts⟩ : ∃ ts, n.text.2 = ts := ⟨_, rfl⟩
      obtain ⟨nl, hnl⟩ : ∃ nl, n.nums.length = nl := ⟨_, rfl⟩
      rw [hr, hok, hos, htk, hts, hnl] at HPA HPR
      clear hv hG hp hpe hz ho hsq hfl hpre hr hok hos htk hts hnl
      go_enter Tryz.func5, Tryz.ntmps5
      go_wp2_with (first | ((go_at_call 14); (with_reducible refine (HA.out _ (HG.out.below hcur.out)).mono ?_); rintro e wz ⟨rfl, hbz⟩; have hcur := Lib.hid (hcur.out.trans (hbz.mono hcur.out.size)); clear hbz) | ((go_at_call 24); (with_reducible refine (HPA.out _ (HG.out.below hcur.out) (HV.out.below hcur.out)).mono ?_); rintro e wz ⟨A3, k3, rfl, ho3, hbz⟩; have hsz := hbz.size; have hcs := hcur.out.size; have hcur := Lib.hid (((hcur.out.trans (hbz.mono hcur.out.size)).alloc (by omega) (.cells #[.bool r, .int .i64 ok, .string os, .slice A3 nl k3, .int .i64 tk, .string ts] 30)).alloc (by first | (simp; done) | (simp; omega) | omega) (.cells #[.int .i64 0, .int .i64 0] 38)); have KN := Lib.hid ((Blk.new wz 30 #[.bool r, .int .i64 ok, .string os, .slice A3 nl k3, .int .i64 tk, .string ts]).alloc (.cells #[.int .i64 0, .int .i64 0] 38)); have KE := Lib.hid (blk_in (w := wz.alloc (.cells #[.bool r, .int .i64 ok, .string os, .slice A3 nl k3, .int .i64 tk, .string ts] 30)) (g := wz.heap.size + 1) (t := 38) (cs := #[.int .i64 0, .int .i64 0]) (by first | (simp; done) | (simp; omega) | omega)); have HX := Lib.hid ((ho3.alloc (.cells #[.bool r, .int .i64 ok, .string os, .slice A3 nl k3, .int .i64 tk, .string ts] 30)).alloc (.cells #[.int .i64 0, .int .i64 0] 38)); clear hbz hsz hcs ho3) | ((go_at_call 26); (with_reducible refine (HPR.out _ (HV.out.below hcur.out)).mono ?_); rintro e wy ⟨A4, k4, rfl, ho4, hbz⟩; have hsz := hbz.size; have hcs := hcur.out.size; have hcur := Lib.hid ((hcur.out.trans (hbz.mono hcur.out.size)).alloc (by omega) (.cells #[.bool r, .int .i64 ok, .string os, .slice A4 nl k4, .int .i64 tk, .string ts] 30)); have KN := Lib.hid ((KN.out.call hbz).alloc (.cells #[.bool r, .int .i64 ok, .string os, .slice A4 nl k4, .int .i64 tk, .string ts] 30)); have KE := Lib.hid ((KE.out.call hbz).alloc (.cells #[.bool r, .int .i64 ok, .string os, .slice A4 nl k4, .int .i64 tk, .string ts] 30)); have KR := Lib.hid (Blk.new wy 30 #[.bool r, .int .i64 ok, .string os, .slice A4 nl k4, .int .i64 tk, .string ts]); have qKN := (KN.out).q; have lKN := KN.out.lt; have qKE := KE.out.q; have lKE := KE.out.lt; have qKR := KR.out.q; have lKR := KR.out.lt; have HX := Lib.hid ((HX.out.below hbz).alloc (.cells #[.bool r, .int .i64 ok, .string os, .slice A4 nl k4, .int .i64 tk, .string ts] 30)); have HY := Lib.hid (ho4.alloc (.cells #[.bool r, .int .i64 ok, .string os, .slice A4 nl k4, .int .i64 tk, .string ts] 30)); clear hbz hsz hcs ho4) | ((go_at_call 25); (with_reducible refine (HSM.out _ _ _ HX.out HY.out).mono ?_); rintro e wz ⟨rfl, hbz⟩; have hcur := Lib.hid (hcur.out.trans (hbz.mono hcur.out.size)); have KN := Lib.hid (KN.out.call hbz); have KE := Lib.hid (KE.out.call hbz); have KR := Lib.hid (KR.out.call hbz); have qKN := KN.out.q; have lKN := KN.out.lt; have qKE := KE.out.q; have lKE := KE.out.lt; have qKR := KR.out.q; have lKR := KR.out.lt; have HX := Lib.hid (HX.out.below hbz); have HY := Lib.hid (HY.out.below hbz); clear hbz) | ((go_at_call 27); (with_reducible refine (HWI.out _).mono ?_); rintro e wz ⟨rfl, hbz⟩; have hcur := Lib.hid (hcur.out.trans (hbz.mono hcur.out.size)); have KN := Lib.hid (KN.out.call hbz); have KE := Lib.hid (KE.out.call hbz); have KR := Lib.hid (KR.out.call hbz); have qKN := KN.out.q; have lKN := KN.out.lt; have qKE := KE.out.q; have lKE := KE.out.lt; have qKR := KR.out.q; have lKR := KR.out.lt; have HX := Lib.hid (HX.out.below hbz); have HY := Lib.hid (HY.out.below hbz); clear hbz) | ((go_at_call 22); (with_reducible refine (HPV.out _ _ (HG.out.below hcur.out) HX.out).mono ?_); rintro e wz ⟨rfl, hbz⟩; have HZ' := Lib.hid (HZ0.out.below hbz); have hcur := Lib.hid (hcur.out.trans (hbz.mono hcur.out.size)); have KN := Lib.hid (KN.out.call hbz); have KE := Lib.hid (KE.out.call hbz); have KR := Lib.hid (KR.out.call hbz); have qKN := KN.out.q; have lKN := KN.out.lt; have qKE := KE.out.q; have lKE := KE.out.lt; have qKR := KR.out.q; have lKR := KR.out.lt; have HX := Lib.hid (HX.out.below hbz); have HY := Lib.hid (HY.out.below hbz); clear hbz) | ((go_at_call 19); (with_reducible refine (HPM.out _ _ (HG.out.below hcur.out) HX.out).mono ?_); rintro e wx ⟨v6, rfl, ho6, hbz⟩; obtain ⟨A6, k6, rfl⟩ := isB_slice ho6.isB; have HZ0 := Lib.hid ho6.isB; have hcur := Lib.hid (hcur.out.trans (hbz.mono hcur.out.size)); have KN := Lib.hid (KN.out.call hbz); have KE := Lib.hid (KE.out.call hbz); have KR := Lib.hid (KR.out.call hbz); have qKN := KN.out.q; have lKN := KN.out.lt; have qKE := KE.out.q; have lKE := KE.out.lt; have qKR := KR.out.q; have lKR := KR.out.lt; have HX := Lib.hid (HX.out.below hbz); have HY := Lib.hid (HY.out.below hbz); clear hbz; clear ho6) | ((go_at_call 21); (with_reducible refine (HBY.out _ _ HZ'.out (HV.out.below hcur.out)).mono ?_); rintro e wz ⟨rfl, hbz⟩; have hcur := Lib.hid (hcur.out.trans (hbz.mono hcur.out.size)); have KN := Lib.hid (KN.out.call hbz); have KE := Lib.hid (KE.out.call hbz); have KR := Lib.hid (KR.out.call hbz); have qKN := KN.out.q; have lKN := KN.out.lt; have qKE := KE.out.q; have lKE := KE.out.lt; have qKR := KR.out.q; have lKR := KR.out.lt; have HX := Lib.hid (HX.out.below hbz); have HY := Lib.hid (HY.out.below hbz); clear hbz))
      all_goals go_ret
      all_goals exact ⟨rfl, hcur.out⟩
  · have hd : decide ((b.length : Int) > 3000) = true := decide_eq_true (by omega)
    have hd' : decide ((3000 : Int) < b.length) = true := decide_eq_true (by omega)
    clear hv hG
    generalize b.length = n at *
    go_enter Tryz.func5, Tryz.ntmps5
    go_wp2_with (first | ((go_at_call 14); (with_reducible refine (HA.out _ (HG.out.below hcur.out)).mono ?_); rintro e wz ⟨rfl, hbz⟩; have hcur := Lib.hid (hcur.out.trans (hbz.mono hcur.out.size)); clear hbz))
    go_ret
    exact ⟨rfl, hcur.out⟩
end Go.Proofs.YtjjkimjdmpeddaaGreatDoor.NotPDone
end
