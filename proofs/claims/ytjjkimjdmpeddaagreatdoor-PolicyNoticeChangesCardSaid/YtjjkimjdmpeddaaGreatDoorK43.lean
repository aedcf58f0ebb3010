/- The parts LawNotC of one proof, one behind the other. -/
import Derived.Test.YtjjkimjdmpeddaaGreatDoorK41
import Derived.Test.YtjjkimjdmpeddaaGreatDoorK42

/- PolicyNoticeChanges: the walk. -/
section
set_option linter.unusedSimpArgs false
set_option linter.unusedVariables false
namespace Go.Proofs.YtjjkimjdmpeddaaGreatDoor.NotCDone
open Go.RowKit Go.Cr
set_option maxRecDepth 100000 in
set_option maxHeartbeats 16000000 in
theorem few_no (v : Value) (n : Ntc) (a x : Int) (w : World) (hv : IsN w v n) (hM : BdN 140737488351232 n) (hG : Glo w) (hf : ¬ FwN n) : Calls Tryz.prog 6 #[v, .int .u16 a, .int .u8 x] w (RetB (.bool true) w) := by
  have HA : Hid (∀ W, Glo W → Calls Tryz.prog 14 #[] W (RetB (.bool true) W)) := awake17
  obtain ⟨u, rfl, hu⟩ := hv
  obtain ⟨A, k, rfl⟩ := isBs_slice hu
  have hv : IsN w (.agg #[.bool n.ref, .int .i64 n.org.1, .string n.org.2, .slice A n.nums.length k, .int .i64 n.text.1, .string n.text.2]) n := ⟨_, rfl, hu⟩
  obtain ⟨r, hr⟩ : ∃ r, n.ref = r := ⟨_, rfl⟩
  obtain ⟨ok, hok⟩ : ∃ ok, n.org.1 = ok := ⟨_, rfl⟩
  obtain ⟨os, hos⟩ : ∃ os, n.org.2 = os := ⟨_, rfl⟩
  obtain ⟨tk, htk⟩ : ∃ tk, n.text.1 = tk := ⟨_, rfl⟩
  obtain ⟨ts, hts⟩ : ∃ ts, n.text.2 = ts := ⟨_, rfl⟩
  obtain ⟨nl, hnl⟩ : ∃ nl, n.nums.length = nl := ⟨_, rfl⟩
  rw [hr, hok, hos, htk, hts, hnl] at hv
  rw [hr, hok, hos, htk, hts, hnl]
  clear hu hr hok hos htk hts hnl
  have HF : Hid (∀ W, IsN W (.agg #[.bool r, .int .i64 ok, .string os, .slice A nl k, .int .i64 tk, .string ts]) n → Calls Tryz.prog 18 #[.agg #[.bool r, .int .i64 ok, .string os, .slice A nl k, .int .i64 tk, .string ts]] W (RetB (.bool false) W)) := fun W h => (rFewN _ n W h hM).mono fun e w' ⟨b, he, hb, hw⟩ => by
    cases b with
    | true => exact absurd (hb rfl) hf
    | false => exact ⟨he, hw⟩
  have HV := Lib.hid hv
  have HG := Lib.hid hG
  have K := Lib.hid (Blk.new w 30 #[.bool r, .int .i64 ok, .string os, .slice A nl k, .int .i64 tk, .string ts])
  have hcur := Lib.hid ((Below.refl w.heap.size w).alloc (Nat.le_refl _) (.cells #[.bool r, .int .i64 ok, .string os, .slice A nl k, .int .i64 tk, .string ts] 30))
  clear hv hM hG hf
  go_enter Tryz.func6, Tryz.ntmps6
  go_wp2_with (first | ((go_at_call 14); (with_reducible refine (HA.out _ (HG.out.below hcur.out)).mono ?_); rintro e wz ⟨rfl, hbz⟩; have hcur := Lib.hid (hcur.out.trans (hbz.mono hcur.out.size)); have K := Lib.hid (K.out.call hbz); have qK := K.out.q; have lK := K.out.lt; clear hbz) | ((go_at_call 18); (with_reducible refine (HF.out _ (HV.out.below hcur.out)).mono ?_); rintro e wz ⟨rfl, hbz⟩; have hcur := Lib.hid (hcur.out.trans (hbz.mono hcur.out.size)); have K := Lib.hid (K.out.call hbz); have qK := K.out.q; have lK := K.out.lt; clear hbz))
  go_ret
  exact ⟨rfl, hcur.out⟩
set_option maxRecDepth 100000 in
set_option maxHeartbeats 16000000 in
theorem mar_no (v : Value) (n : Ntc) (a x : Int) (w : World) (hv : IsN w v n) (hM : BdN 140737488351232 n) (hG : Glo w) (hf : FwN n) (ho : okN n = false) : Calls Tryz.prog 6 #[v, .int .u16 a, .int .u8 x] w (RetB (.bool true) w) := by
  have HA : Hid (∀ W, Glo W → Calls Tryz.prog 14 #[] W (RetB (.bool true) W)) := awake17
  obtain ⟨u, rfl, hu⟩ := hv
  obtain ⟨A, k, rfl⟩ := isBs_slice hu
  have hv : IsN w (.agg #[.bool n.ref, .int .i64 n.org.1, .string n.org.2, .slice A n.nums.length k, .int .i64 n.text.1, .string n.text.2]) n := ⟨_, rfl, hu⟩
  obtain ⟨r, hr⟩ : ∃ r, n.ref = r := ⟨_, rfl⟩
  obtain ⟨ok, hok⟩ : ∃ ok, n.org.1 = ok := ⟨_, rfl⟩
  obtain ⟨os, hos⟩ : ∃ os, n.org.2 = os := ⟨_, rfl⟩
  obtain ⟨tk, htk⟩ : ∃ tk, n.text.1 = tk := ⟨_, rfl⟩
  obtain ⟨ts, hts⟩ : ∃ ts, n.text.2 = ts := ⟨_, rfl⟩
  obtain ⟨nl, hnl⟩ : ∃ nl, n.nums.length = nl := ⟨_, rfl⟩
  rw [hr, hok, hos, htk, hts, hnl] at hv
  rw [hr, hok, hos, htk, hts, hnl]
  clear hu hr hok hos htk hts hnl
  have HF : Hid (∀ W, IsN W (.agg #[.bool r, .int .i64 ok, .string os, .slice A nl k, .int .i64 tk, .string ts]) n → Calls Tryz.prog 18 #[.agg #[.bool r, .int .i64 ok, .string os, .slice A nl k, .int .i64 tk, .string ts]] W (RetNw n W)) := fun W h => rFewN _ n W h hM
  have HPM : Hid (∀ W, Glo W → IsN W (.agg #[.bool r, .int .i64 ok, .string os, .slice A nl k, .int .i64 tk, .string ts]) n → Calls Tryz.prog 19 #[.agg #[.bool r, .int .i64 ok, .string os, .slice A nl k, .int .i64 tk, .string ts]] W (RetB (.tuple #[.slice none 0 0, .int .i64 8]) W)) := fun W g h => noticeMar_no _ n W g h hf.sz ho
  have HV := Lib.hid hv
  have HG := Lib.hid hG
  have K := Lib.hid (Blk.new w 30 #[.bool r, .int .i64 ok, .string os, .slice A nl k, .int .i64 tk, .string ts])
  have hcur := Lib.hid ((Below.refl w.heap.size w).alloc (Nat.le_refl _) (.cells #[.bool r, .int .i64 ok, .string os, .slice A nl k, .int .i64 tk, .string ts] 30))
  clear hv hM hG hf ho
  go_enter Tryz.func6, Tryz.ntmps6
  go_wp2_with (first | ((go_at_call 14); (with_reducible refine (HA.out _ (HG.out.below hcur.out)).mono ?_); rintro e wz ⟨rfl, hbz⟩; have hcur := Lib.hid (hcur.out.trans (hbz.mono hcur.out.size)); have K := Lib.hid (K.out.call hbz); have qK := K.out.q; have lK := K.out.lt; clear hbz) | ((go_at_call 18); (with_reducible refine (HF.out _ (HV.out.below hcur.out)).mono ?_); rintro e wz ⟨b, rfl, hb, hbz⟩; have hcur := Lib.hid (hcur.out.trans (hbz.mono hcur.out.size)); have K := Lib.hid (K.out.call hbz); have qK := K.out.q; have lK := K.out.lt; have HFW := Lib.hid hb; clear hb hbz; cases b) | ((go_at_call 19); (with_reducible refine (HPM.out _ (HG.out.below hcur.out) (HV.out.below hcur.out)).mono ?_); rintro e wz ⟨rfl, hbz⟩; have hcur := Lib.hid (hcur.out.trans (hbz.mono hcur.out.size)); have K := Lib.hid (K.out.call hbz); have qK := K.out.q; have lK := K.out.lt; clear hbz))
  all_goals go_ret
  all_goals exact ⟨rfl, hcur.out⟩
set_option maxRecDepth 100000 in
set_option maxHeartbeats 16000000 in
theorem chg_no (v : Value) (n : Ntc) (c : List UInt8) (a x : Int) (i : Nat) (w : World) (hv : IsN w v n) (hM : BdN 140737488351232 n) (hG : Glo w) (hf : FwN n) (ho : okN n = true) (hc : seqL (partsN n) = c) (hc3 : 2 ≤ c.length ∧ c.length ≤ 8300)
    (ha : 0 ≤ a ∧ a < 65536) (hx : 0 ≤ x ∧ x < 256) (hi : a.toNat % c.length = i) (hp : parN (c.set i (UInt8.ofNat x.toNat)) = none) : Calls Tryz.prog 6 #[v, .int .u16 a, .int .u8 x] w (RetB (.bool true) w) := by
  have hil : i < c.length := by rw [← hi]; exact Nat.mod_lt _ (by omega)
  have hmar : marN n = some c := by unfold marN; simp [ho, hc]
  have hne : ¬ (x = bat c i) := fun h => by
    rw [set_self hil h, mar_parN hmar (by omega)] at hp
    cases hp
  have hx1 : (x == bat c i) = false := beq_eq_false_iff_ne.2 hne
  have hx2 : (x != bat c i) = true := by simp [hne]
  have HA : Hid (∀ W, Glo W → Calls Tryz.prog 14 #[] W (RetB (.bool true) W)) := awake17
  obtain ⟨u, rfl, hu⟩ := hv
  obtain ⟨A, k, rfl⟩ := isBs_slice hu
  have hv : IsN w (.agg #[.bool n.ref, .int .i64 n.org.1, .string n.org.2, .slice A n.nums.length k, .int .i64 n.text.1, .string n.text.2]) n := ⟨_, rfl, hu⟩
  obtain ⟨r, hr⟩ : ∃ r, n.ref = r := ⟨_, rfl⟩
  obtain ⟨ok, hok⟩ : ∃ ok, n.org.1 = ok := ⟨_, rfl⟩
  obtain ⟨os, hos⟩ : ∃ os, n.org.2 = os := ⟨_, rfl⟩
  obtain ⟨tk, htk⟩ : ∃ tk, n.text.1 = tk := ⟨_, rfl⟩
  obtain ⟨ts, hts⟩ : ∃ ts, n.text.2 = ts := ⟨_, rfl⟩
  obtain ⟨nl, hnl⟩ : ∃ nl, n.nums.length = nl := ⟨_, rfl⟩
  rw [hr, hok, hos, htk, hts, hnl] at hv
  rw [hr, hok, hos, htk, hts, hnl]
  clear hu hr hok hos htk hts hnl
  have HF : Hid (∀ W, IsN W (.agg #[.bool r, .int .i64 ok, .string os, .slice A nl k, .int .i64 tk, .string ts]) n → Calls Tryz.prog 18 #[.agg #[.bool r, .int .i64 ok, .string os, .slice A nl k, .int .i64 tk, .string ts]] W (RetNw n W)) := fun W h => rFewN _ n W h hM
  have HPM : Hid (∀ W, Glo W → IsN W (.agg #[.bool r, .int .i64 ok, .string os, .slice A nl k, .int .i64 tk, .string ts]) n → Calls Tryz.prog 19 #[.agg #[.bool r, .int .i64 ok, .string os, .slice A nl k, .int .i64 tk, .string ts]] W (RetOidY c W)) := fun W g h => by have := noticeMar _ n W g h hf.sz (by have := hf.parts ho; omega) ho; rwa [hc] at this
  have HPA : Hid (∀ W u, Glo W → IsB W u (c.set i (UInt8.ofNat x.toNat)) → Calls Tryz.prog 24 #[u] W (RetPNn c.length W)) := fun W u g h => by
    have := polParseN_none u _ W g h (by first | (simp; done) | (simp; omega) | omega) hp
    rwa [List.length_set] at this
  have HQ : Hid (∀ W, Calls Tryz.prog 25 #[.agg #[.bool false, .int .i64 0, .string ⟨#[]⟩, .slice none 0 0, .int .i64 0, .string ⟨#[]⟩], .agg #[.bool false, .int .i64 0, .string ⟨#[]⟩, .slice none 0 0, .int .i64 0, .string ⟨#[]⟩]] W (RetB (.bool true) W)) := fun W => basN _ _ _ _ W (isN_zero W) (isN_zero W) true ⟨fun _ => rfl, fun _ => rfl⟩
  have HWI : Hid (∀ ec eo : Int, (0 < ec ∧ 0 ≤ eo ∧ eo ≤ c.length) → ∀ W, Calls Tryz.prog 27 #[.agg #[.int .i64 ec, .int .i64 eo], .int .i64 c.length] W (RetB (.bool true) W)) := fun ec eo h W => within_ok ec eo _ W (.inr h)
  have HV := Lib.hid hv
  have HG := Lib.hid hG
  have K := Lib.hid (Blk.new w 30 #[.bool r, .int .i64 ok, .string os, .slice A nl k, .int .i64 tk, .string ts])
  have hcur := Lib.hid ((Below.refl w.heap.size w).alloc (Nat.le_refl _) (.cells #[.bool r, .int .i64 ok, .string os, .slice A nl k, .int .i64 tk, .string ts] 30))
  have HXX := Lib.hid hx
  have hmod : a.tmod (c.length : Int) = (i : Int) := by rw [Int.tmod_eq_emod_of_nonneg ha.1, ← hi, Int.natCast_emod, Int.toNat_of_nonneg ha.1]
  have hc0 : ¬ ((c.length : Int) = 0) := by omega
  have hwr : IntKind.i64.wrap a = a := by rw [IntKind.wrap_i64]; omega
  have hiI : (i : Int) < c.length := by omega
  unfold RetPNn at HPA
  simp only [errV] at HPA
  clear hv hM hG hf ho hc hmar hp hx hi hne
  go_enter Tryz.func6, Tryz.ntmps6
  go_wp2_with (first | ((go_at_call 14); (with_reducible refine (HA.out _ (HG.out.below hcur.out)).mono ?_); rintro e wz ⟨rfl, hbz⟩; have hcur := Lib.hid (hcur.out.trans (hbz.mono hcur.out.size)); have K := Lib.hid (K.out.call hbz); have qK := K.out.q; have lK := K.out.lt; clear hbz) | ((go_at_call 18); (with_reducible refine (HF.out _ (HV.out.below hcur.out)).mono ?_); rintro e wz ⟨b, rfl, hb, hbz⟩; have hcur := Lib.hid (hcur.out.trans (hbz.mono hcur.out.size)); have K := Lib.hid (K.out.call hbz); have qK := K.out.q; have lK := K.out.lt; have HFW := Lib.hid hb; clear hb hbz; cases b) | ((go_at_call 19); (with_reducible refine (HPM.out _ (HG.out.below hcur.out) (HV.out.below hcur.out)).mono ?_); rintro e wz ⟨v3, rfl, ho3, hbz⟩; obtain ⟨g, kc, rfl, hbg, hgl, hcell, hfz⟩ := OwB.row ho3 (by omega); have HO3 := Lib.hid ho3; have cb := hcell i hil; have fb := hfz i; have hgw := Nat.le_trans hcur.out.size hbg; have hgk : w.heap.size ≠ g := (by have := K.out.lt; omega); have hcur := Lib.hid ((hcur.out.trans (hbz.mono hcur.out.size)).setCell (p := ⟨g, i, none⟩) hgw (.int .u8 x)); have K := Lib.hid ((K.out.call hbz).far (p := ⟨g, i, none⟩) hgk (.int .u8 x)); have HI3 := Lib.hid ((OwB.put HO3.out i x HXX.out.1 HXX.out.2).isB); clear hcell hfz ho3 hbz) | ((go_at_call 24); (refine (HPA.out _ _ (HG.out.below hcur.out) HI3.out).mono ?_); rintro e wy ⟨ec, eo, h1, h2, h3, rfl, hbz⟩; have hn : (ec == 0) = false := beq_eq_false_iff_ne.2 (by omega); have hn' : (ec != 0) = true := (by first | (simp; done) | (simp; omega) | omega); have HER := Lib.hid (And.intro h1 (And.intro h2 h3)); have hcz := Nat.le_trans hcur.out.size hbz.size; have hcur := Lib.hid (((hcur.out.trans (hbz.mono hcur.out.size)).alloc hcz (.cells #[.bool false, .int .i64 0, .string ⟨#[]⟩, .slice none 0 0, .int .i64 0, .string ⟨#[]⟩] 30)).alloc (by first | (simp; done) | (simp; omega) | omega) (.cells #[.int .i64 ec, .int .i64 eo] 38)); have KE := Lib.hid (blk_in (w := wy.alloc (.cells #[.bool false, .int .i64 0, .string ⟨#[]⟩, .slice none 0 0, .int .i64 0, .string ⟨#[]⟩] 30)) (g := wy.heap.size + 1) (t := 38) (cs := #[.int .i64 ec, .int .i64 eo]) (by first | (simp; done) | (simp; omega) | omega)); clear hbz h1 h2 h3 hcz) | ((go_at_call 25); (refine (HQ.out _).mono ?_); rintro e wx ⟨rfl, hbz⟩; have KE := Lib.hid (KE.out.call hbz); have qKE := KE.out.q; have lKE := KE.out.lt; have hcur := Lib.hid (hcur.out.trans (hbz.mono hcur.out.size)); clear hbz) | ((go_at_call 27); (with_reducible refine (HWI.out _ _ HER.out _).mono ?_); rintro e wz ⟨rfl, hbz⟩; have hcur := Lib.hid (hcur.out.trans (hbz.mono hcur.out.size)); clear hbz))
  all_goals go_ret
  all_goals exact ⟨rfl, hcur.out⟩
set_option maxRecDepth 100000 in
set_option maxHeartbeats 16000000 in
theorem chg_yes (v : Value) (n m : Ntc) (c : List UInt8) (a x : Int) (i : Nat) (w : World) (hv : IsN w v n) (hM : BdN 140737488351232 n) (hG : Glo w) (hf : FwN n) (ho : okN n = true) (hc : seqL (partsN n) = c) (hc3 : 2 ≤ c.length ∧ c.length ≤ 8300)
    (ha : 0 ≤ a ∧ a < 65536) (hx : 0 ≤ x ∧ x < 256) (hi : a.toNat % c.length = i) (hp : parN (c.set i (UInt8.ofNat x.toNat)) = some m) : Calls Tryz.prog 6 #[v, .int .u16 a, .int .u8 x] w (RetB (.bool true) w) := by
  have hil : i < c.length := by rw [← hi]; exact Nat.mod_lt _ (by omega)
  have hmar : marN n = some c := by unfold marN; simp [ho, hc]
  obtain ⟨hpre, ho2, hsq2⟩ := parN_ok hp
  have hlen2 : (c.set i (UInt8.ofNat x.toNat)).length ≤ 9000 := by rw [List.length_set]; omega
  have hz2 := szN_pre hlen2 hpre
  have hfl2 : (partsN m).flatten.length ≤ 900000 := by have := seqL_len (partsN m); rw [hsq2] at this; omega
  have hD : decide (x = bat c i) = true ↔ m = n := by
    rw [decide_eq_true_eq]
    refine ⟨fun h => ?_, fun h => ?_⟩
    · rw [set_self hil h, mar_parN hmar (by omega)] at hp
      exact (Option.some.inj hp).symm
    · rw [h, hc] at hsq2
      exact set_back hil hx hsq2.symm
  have HA : Hid (∀ W, Glo W → Calls Tryz.prog 14 #[] W (RetB (.bool true) W)) := awake17
  obtain ⟨u, rfl, hu⟩ := hv
  obtain ⟨A, k, rfl⟩ := isBs_slice hu
  have hv : IsN w (.agg #[.bool n.ref, .int .i64 n.org.1, .string n.org.2, .slice A n.nums.length k, .int .i64 n.text.1, .string n.text.2]) n := ⟨_, rfl, hu⟩
  obtain ⟨r, hr⟩ : ∃ r, n.ref = r := ⟨_, rfl⟩
  obtain ⟨ok, hok⟩ : ∃ ok, n.org.1 = ok := ⟨_, rfl⟩
  obtain ⟨os, hos⟩ : ∃ os, n.org.2 = os := ⟨_, rfl⟩
  obtain ⟨tk, htk⟩ : ∃ tk, n.text.1 = tk := ⟨_, rfl⟩
  obtain ⟨ts, hts⟩ : ∃ ts, n.text.2 = ts := ⟨_, rfl⟩
  obtain ⟨nl, hnl⟩ : ∃ nl, n.nums.length = nl := ⟨_, rfl⟩
  rw [hr, hok, hos, htk, hts, hnl] at hv
  rw [hr, hok, hos, htk, hts, hnl]
  clear hu hr hok hos htk hts hnl
  have HF : Hid (∀ W, IsN W (.agg #[.bool r, .int .i64 ok, .string os, .slice A nl k, .int .i64 tk, .string ts]) n → Calls Tryz.prog 18 #[.agg #[.bool r, .int .i64 ok, .string os, .slice A nl k, .int .i64 tk, .string ts]] W (RetNw n W)) := fun W h => rFewN _ n W h hM
  have HPM : Hid (∀ W, Glo W → IsN W (.agg #[.bool r, .int .i64 ok, .string os, .slice A nl k, .int .i64 tk, .string ts]) n → Calls Tryz.prog 19 #[.agg #[.bool r, .int .i64 ok, .string os, .slice A nl k, .int .i64 tk, .string ts]] W (RetOidY c W)) := fun W g h => by have := noticeMar _ n W g h hf.sz (by have := hf.parts ho; omega) ho; rwa [hc] at this
  have HPA : Hid (∀ W u, Glo W → IsB W u (c.set i (UInt8.ofNat x.toNat)) → Calls Tryz.prog 24 #[u] W (RetPNy m W)) := fun W u g h => polParseN_some u _ m W g h hlen2 hp
  have HM2 : Hid (∀ W u, Glo W → IsN W u m → Calls Tryz.prog 19 #[u] W (RetOidY (c.set i (UInt8.ofNat x.toNat)) W)) := fun W u g h => by have := noticeMar u m W g h hz2 hfl2 ho2; rwa [hsq2] at this
  have HQ0 : Hid (∀ W u, IsN W u m → IsN W (.agg #[.bool r, .int .i64 ok, .string os, .slice A nl k, .int .i64 tk, .string ts]) n → Calls Tryz.prog 25 #[u, .agg #[.bool r, .int .i64 ok, .string os, .slice A nl k, .int .i64 tk, .string ts]] W (RetB (.bool (decide (x = bat c i))) W)) := fun W u h1 h2 => basN _ _ m n W h1 h2 _ hD
  have HB : Hid (∀ W y z, IsB W y (c.set i (UInt8.ofNat x.toNat)) → IsB W z (c.set i (UInt8.ofNat x.toNat)) → Calls Tryz.prog 21 #[y, z] W (RetB (.bool true) W)) := fun W y z h1 h2 => by have := bytes_any y z _ _ W h1 h2; rwa [decide_eq_true rfl] at this
  have HV := Lib.hid hv
  have HG := Lib.hid hG
  have K := Lib.hid (Blk.new w 30 #[.bool r, .int .i64 ok, .string os, .slice A nl k, .int .i64 tk, .string ts])
  have hcur := Lib.hid ((Below.refl w.heap.size w).alloc (Nat.le_refl _) (.cells #[.bool r, .int .i64 ok, .string os, .slice A nl k, .int .i64 tk, .string ts] 30))
  have HXX := Lib.hid hx
  have hmod : a.tmod (c.length : Int) = (i : Int) := by rw [Int.tmod_eq_emod_of_nonneg ha.1, ← hi, Int.natCast_emod, Int.toNat_of_nonneg ha.1]
  have hc0 : ¬ ((c.length : Int) = 0) := by omega
  have hwr : IntKind.i64.wrap a = a := by rw [IntKind.wrap_i64]; omega
  have hiI : (i : Int) < c.length := by omega
  unfold RetPNy nV at HPA
  simp only [errV] at HPA
  obtain ⟨r', hr⟩ : ∃ r, m.ref = r := ⟨_, rfl⟩
  obtain ⟨ok', hok⟩ : ∃ ok, m.org.1 = ok := ⟨_, rfl⟩
  obtain ⟨os', hos⟩ : ∃ os, m.org.2 = os := ⟨_, rfl⟩
  obtain ⟨tk', htk⟩ : ∃ tk, m.text.1 = tk := ⟨_, rfl⟩
  obtain ⟨ts', hts⟩ : ∃ ts, m.text.2 = ts := ⟨_, rfl⟩
  obtain ⟨nl', hnl⟩ : ∃ nl, m.nums.length = nl := ⟨_, rfl⟩
  rw [hr, hok, hos, htk, hts, hnl] at HPA
  clear hv hM hG hf ho hc hmar hp hx hi hpre hlen2 hz2 ho2 hsq2 hfl2 hD hr hok hos htk hts hnl
  obtain ⟨X, hX⟩ : ∃ X, decide (x = bat c i) = X := ⟨_, rfl⟩
  rw [hX] at HQ0
  have HQ := HQ0
  have hb1 : (x == bat c i) = X := by rw [← hX]; rfl
  clear HQ0
  go_enter Tryz.func6, Tryz.ntmps6
  go_wp2_with (first | ((go_at_call 14); (with_reducible refine (HA.out _ (HG.out.below hcur.out)).mono ?_); rintro e wz ⟨rfl, hbz⟩; have hcur := Lib.hid (hcur.out.trans (hbz.mono hcur.out.size)); have K := Lib.hid (K.out.call hbz); have qK := K.out.q; have lK := K.out.lt; clear hbz) | ((go_at_call 18); (with_reducible refine (HF.out _ (HV.out.below hcur.out)).mono ?_); rintro e wz ⟨b, rfl, hb, hbz⟩; have hcur := Lib.hid (hcur.out.trans (hbz.mono hcur.out.size)); have K := Lib.hid (K.out.call hbz); have qK := K.out.q; have lK := K.out.lt; have HFW := Lib.hid hb; clear hb hbz; cases b) | ((go_at_call 19); (refine (HM2.out _ _ (HG.out.below hcur.out) HX.out).mono ?_); rintro e wx ⟨v5, rfl, ho5, hbz⟩; obtain ⟨A5, k5, rfl⟩ := isB_slice ho5.isB; have hi5 := ho5.isB; rw [List.length_set] at hi5; have HI5 := Lib.hid hi5; clear hi5; have hcur := Lib.hid (hcur.out.trans (hbz.mono hcur.out.size)); have K := Lib.hid (K.out.call hbz); have qK := K.out.q; have lK := K.out.lt; have KN := Lib.hid (KN.out.call hbz); have qKN := KN.out.q; have lKN := KN.out.lt; have HX := Lib.hid (HX.out.below hbz); have HI3 := Lib.hid (HI3.out.below hbz); clear ho5 hbz) | ((go_at_call 19); (with_reducible refine (HPM.out _ (HG.out.below hcur.out) (HV.out.below hcur.out)).mono ?_); rintro e wz ⟨v3, rfl, ho3, hbz⟩; obtain ⟨g, kc, rfl, hbg, hgl, hcell, hfz⟩ := OwB.row ho3 (by omega); have HO3 := Lib.hid ho3; have cb := hcell i hil; have fb := hfz i; have hgw := Nat.le_trans hcur.out.size hbg; have hgk : w.heap.size ≠ g := (by have := K.out.lt; omega); have hcur := Lib.hid ((hcur.out.trans (hbz.mono hcur.out.size)).setCell (p := ⟨g, i, none⟩) hgw (.int .u8 x)); have K := Lib.hid ((K.out.call hbz).far (p := ⟨g, i, none⟩) hgk (.int .u8 x)); have HI3 := Lib.hid ((OwB.put HO3.out i x HXX.out.1 HXX.out.2).isB); clear hcell hfz ho3 hbz) | ((go_at_call 24); (refine (HPA.out _ _ (HG.out.below hcur.out) HI3.out).mono ?_); rintro e wy ⟨A4, k4, rfl, ho4, hbz⟩; have hsz4 := Nat.le_trans hcur.out.size hbz.size; have hcur := Lib.hid (((hcur.out.trans (hbz.mono hcur.out.size)).alloc hsz4 (.cells #[.bool r', .int .i64 ok', .string os', .slice A4 nl' k4, .int .i64 tk', .string ts'] 30)).alloc (by first | (simp; done) | (simp; omega) | omega) (.cells #[.int .i64 0, .int .i64 0] 38)); have K := Lib.hid (((K.out.call hbz).alloc (.cells #[.bool r', .int .i64 ok', .string os', .slice A4 nl' k4, .int .i64 tk', .string ts'] 30)).alloc (.cells #[.int .i64 0, .int .i64 0] 38)); have KN := Lib.hid ((Blk.new wy 30 #[.bool r', .int .i64 ok', .string os', .slice A4 nl' k4, .int .i64 tk', .string ts']).alloc (.cells #[.int .i64 0, .int .i64 0] 38)); have HX := Lib.hid ((ho4.alloc (.cells #[.bool r', .int .i64 ok', .string os', .slice A4 nl' k4, .int .i64 tk', .string ts'] 30)).alloc (.cells #[.int .i64 0, .int .i64 0] 38)); have HI3 := Lib.hid (((HI3.out.below hbz).alloc (.cells #[.bool r', .int .i64 ok', .string os', .slice A4 nl' k4, .int .i64 tk', .string ts'] 30)).alloc (.cells #[.int .i64 0, .int .i64 0] 38)); clear hbz ho4) | ((go_at_call 21); (refine (HB.out _ _ _ HI5.out HI3.out).mono ?_); rintro e wx ⟨rfl, hbz⟩; have hcur := Lib.hid (hcur.out.trans (hbz.mono hcur.out.size)); have K := Lib.hid (K.out.call hbz); have qK := K.out.q; have lK := K.out.lt; have KN := Lib.hid (KN.out.call hbz); have qKN := KN.out.q; have lKN := KN.out.lt; have HX := Lib.hid (HX.out.below hbz); clear hbz) | ((go_at_call 25); (refine (HQ.out _ _ HX.out (HV.out.below hcur.out)).mono ?_); rintro e wx ⟨rfl, hbz⟩; have hcur := Lib.hid (hcur.out.trans (hbz.mono hcur.out.size)); clear hbz))
  all_goals go_ret
  all_goals exact ⟨by first | rfl | (cases X <;> rfl) | simp [*], hcur.out⟩
theorem seq_two (ls : List (List UInt8)) : 2 ≤ (seqL ls).length := by
  unfold seqL
  rw [encO_len]
  have := (lenOct_len ls.flatten.length).1
  omega
theorem walk (v : Value) (n : Ntc) (a x : Int) (w : World) (hv : IsN w v n) (hM : BdN 140737488351232 n) (ha : (Lit.int .u16 a).wf = true) (hx : (Lit.int .u8 x).wf = true) (hG : Glo w) : Calls Tryz.prog 6 #[v, .int .u16 a, .int .u8 x] w (RetB (.bool true) w) := by
  by_cases hf : FwN n
  · cases ho : okN n with
    | false => exact mar_no v n a x w hv hM hG hf ho
    | true =>
      have h2 := hf.seq ho
      have h3 := seq_two (partsN n)
      cases hp : parN ((seqL (partsN n)).set (a.toNat % (seqL (partsN n)).length) (UInt8.ofNat x.toNat)) with
      | none => exact chg_no v n _ a x _ w hv hM hG hf ho rfl ⟨h3, h2⟩ (wf_u16 ha) (wf_u8 hx) rfl hp
      | some m => exact chg_yes v n m _ a x _ w hv hM hG hf ho rfl ⟨h3, h2⟩ (wf_u16 ha) (wf_u8 hx) rfl hp
  · exact few_no v n a x w hv hM hG hf
end Go.Proofs.YtjjkimjdmpeddaaGreatDoor.NotCDone
end
