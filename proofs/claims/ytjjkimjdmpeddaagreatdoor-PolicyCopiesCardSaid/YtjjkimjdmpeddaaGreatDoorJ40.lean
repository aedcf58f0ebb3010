/- The parts LawKitP, LawPolC of one proof, one behind the other. -/
import Derived.Test.YtjjkimjdmpeddaaGreatDoorJ37

/- What the laws of chapter 17 share: a store into own bytes; an octet replaced. -/
section
set_option linter.unusedSimpArgs false
set_option linter.unusedVariables false
namespace Go.Proofs.YtjjkimjdmpeddaaGreatDoor
open Go.RowKit Go.Cr

/-- A store into own bytes. -/
theorem OwB.put {w : World} {base g cap : Nat} {l : List UInt8} {n : Nat} (h : OwB w base 5 (.slice (some ⟨g, 0, none⟩) n cap) l) (i : Nat) (x : Int) (h0 : 0 ≤ x) (h1 : x < 256) :
    OwB (w.setCell ⟨g, i, none⟩ (.int .u8 x)) base 5 (.slice (some ⟨g, 0, none⟩) n cap) (l.set i (UInt8.ofNat x.toNat)) := by
  have hX : bi (UInt8.ofNat x.toNat) = x := by rw [bi_ofNat]; omega
  obtain ⟨h2, ⟨h3, _⟩ | ⟨g', cap', cur, hv, hb, hh, hn, hm, hs, htk⟩⟩ := h
  · cases h3
  · injection hv with e1 e2 e3
    injection e1 with e1
    injection e1 with e1
    subst e1 e2 e3
    refine ⟨by simp [bCells_len], .inr ⟨g, cap, cur.setIfInBounds i (.int .u8 x), by simp, hb, heap_setCell_same w g i cur _ _ hh, by simpa using hn, hm, by simpa using hs, ?_⟩⟩
    rw [Array.toList_setIfInBounds, List.length_set, List.take_set, htk]
    simp [bCells, List.map_set, hX]
theorem OwB.row {w : World} {base : Nat} {v : Value} {l : List UInt8} (h : OwB w base 5 v l) (hl : 0 < l.length) : ∃ g cap, v = .slice (some ⟨g, 0, none⟩) l.length cap ∧ base ≤ g ∧ g < w.heap.size ∧ (∀ i, i < l.length → w.cell? ⟨g, i, none⟩ = some (.int .u8 (bat l i))) ∧ ∀ i, w.frozen? ⟨g, i, none⟩ = false := by
  have hI := h.isB
  obtain ⟨h2, ⟨h3, h4⟩ | ⟨g, cap, cur, hv, hb, hh, hn, hm, hs, htk⟩⟩ := h
  · omega
  · subst hv
    obtain ⟨A, c, e, h5, h6, h7⟩ := hI
    injection e with e1 e2 e3
    obtain ⟨b, off, e4, hlt, hc⟩ := h7 hl
    rw [← e1] at e4
    injection e4 with e4
    injection e4 with e5 e6
    subst e5 e6
    exact ⟨g, cap, rfl, hb, hlt, fun i hi => by have := hc i hi; rwa [Nat.zero_add] at this, fun i => by simp [World.frozen?, hh]⟩
theorem wf_u16 {a : Int} (h : (Lit.int .u16 a).wf = true) : 0 ≤ a ∧ a < 65536 := by have e1 : IntKind.u16.min = 0 := rfl; have e2 : IntKind.u16.max = 65535 := rfl; simp [Lit.wf] at h; omega
theorem wf_u8 {a : Int} (h : (Lit.int .u8 a).wf = true) : 0 ≤ a ∧ a < 256 := by have e1 : IntKind.u8.min = 0 := rfl; have e2 : IntKind.u8.max = 255 := rfl; simp [Lit.wf] at h; omega
/-- An octet replaced by itself; by another. -/
theorem set_self {c : List UInt8} {i : Nat} (h : i < c.length) {x : Int} (hx : x = bat c i) : c.set i (UInt8.ofNat x.toNat) = c := by
  rw [hx, bat_eq c i h]
  have : UInt8.ofNat (bi c[i]).toNat = c[i] := by simp [bi]
  rw [this, List.set_getElem_self]
theorem set_back {c : List UInt8} {i : Nat} (h : i < c.length) {x : Int} (h0 : 0 ≤ x ∧ x < 256) (he : c.set i (UInt8.ofNat x.toNat) = c) : x = bat c i := by
  have hX : bi (UInt8.ofNat x.toNat) = x := by rw [bi_ofNat]; omega
  have h5 : c[i] = (c.set i (UInt8.ofNat x.toNat))[i]'(by simpa using h) := by congr 1; exact he.symm
  rw [bat_eq c i h, h5, List.getElem_set_self, hX]
theorem isPs_none {W : World} {A : Option Addr} {c : Nat} (hc : c ≤ maxLen) : IsPs W (.slice A 0 c) [] := ⟨[], ⟨A, c, rfl, Nat.zero_le _, hc, rfl, fun h => absurd h (by simp)⟩, fun j h => absurd h (by simp)⟩
end Go.Proofs.YtjjkimjdmpeddaaGreatDoor
end

/- PolicyChanges: the walk. -/
section
set_option linter.unusedSimpArgs false
set_option linter.unusedVariables false
namespace Go.Proofs.YtjjkimjdmpeddaaGreatDoor.PolCDone
open Go.RowKit Go.Cr
set_option maxRecDepth 100000 in
set_option maxHeartbeats 8000000 in
theorem few_no (v : Value) (ps : List Pol) (a x : Int) (w : World) (hv : IsPs w v ps) (hM : BdP 140737488351232 ps) (hG : Glo w) (hf : ¬ FwP ps) : Calls Tryz.prog 11 #[v, .int .u16 a, .int .u8 x] w (RetB (.bool true) w) := by
  have HA : Hid (∀ W, Glo W → Calls Tryz.prog 14 #[] W (RetB (.bool true) W)) := awake17
  have HF : Hid (∀ W, IsPs W v ps → Calls Tryz.prog 15 #[v] W (RetB (.bool false) W)) := fun W h => (rFewS v ps W h hM).mono fun e w' ⟨b, he, hb, hw⟩ => by
    cases b with
    | true => exact absurd (hb rfl) hf
    | false => exact ⟨he, hw⟩
  have HV := Lib.hid hv
  have HG := Lib.hid hG
  have hcur := Lib.hid (Below.refl w.heap.size w)
  obtain ⟨A, k, rfl⟩ := isPs_slice hv
  clear hv hM hG hf
  go_enter Tryz.func11, Tryz.ntmps11
  go_wp2_with (first | ((go_at_call 14); (with_reducible refine (HA.out _ (HG.out.below hcur.out)).mono ?_); rintro e wz ⟨rfl, hbz⟩; have hcur := Lib.hid (hcur.out.trans (hbz.mono hcur.out.size)); clear hbz) | ((go_at_call 15); (with_reducible refine (HF.out _ (HV.out.below hcur.out)).mono ?_); rintro e wz ⟨rfl, hbz⟩; have hcur := Lib.hid (hcur.out.trans (hbz.mono hcur.out.size)); clear hbz))
  go_ret
  exact ⟨rfl, hcur.out⟩
set_option maxRecDepth 100000 in
set_option maxHeartbeats 8000000 in
theorem mar_no (v : Value) (ps : List Pol) (a x : Int) (w : World) (hv : IsPs w v ps) (hM : BdP 140737488351232 ps) (hG : Glo w) (hf : FwP ps) (ho : okP ps = false) : Calls Tryz.prog 11 #[v, .int .u16 a, .int .u8 x] w (RetB (.bool true) w) := by
  have HA : Hid (∀ W, Glo W → Calls Tryz.prog 14 #[] W (RetB (.bool true) W)) := awake17
  have HF : Hid (∀ W, IsPs W v ps → Calls Tryz.prog 15 #[v] W (RetFs ps W)) := fun W h => rFewS v ps W h hM
  have HPM : Hid (∀ W, Glo W → IsPs W v ps → Calls Tryz.prog 36 #[v] W (RetB (.tuple #[.slice none 0 0, .int .i64 8]) W)) := fun W g h => polMar_no _ ps W g h hf.sz ho
  have HV := Lib.hid hv
  have HG := Lib.hid hG
  have hcur := Lib.hid (Below.refl w.heap.size w)
  obtain ⟨A, k, rfl⟩ := isPs_slice hv
  clear hv hM hG hf
  go_enter Tryz.func11, Tryz.ntmps11
  go_wp2_with (first | ((go_at_call 14); (with_reducible refine (HA.out _ (HG.out.below hcur.out)).mono ?_); rintro e wz ⟨rfl, hbz⟩; have hcur := Lib.hid (hcur.out.trans (hbz.mono hcur.out.size)); clear hbz) | ((go_at_call 15); (with_reducible refine (HF.out _ (HV.out.below hcur.out)).mono ?_); rintro e wz ⟨b, rfl, hb, hbz⟩; have hcur := Lib.hid (hcur.out.trans (hbz.mono hcur.out.size)); have HFW := Lib.hid hb; clear hb hbz; cases b) | ((go_at_call 36); (with_reducible refine (HPM.out _ (HG.out.below hcur.out) (HV.out.below hcur.out)).mono ?_); rintro e wz ⟨rfl, hbz⟩; have hcur := Lib.hid (hcur.out.trans (hbz.mono hcur.out.size)); clear hbz))
  all_goals go_ret
  all_goals exact ⟨rfl, hcur.out⟩
set_option maxRecDepth 100000 in
set_option maxHeartbeats 8000000 in
theorem chg_no (v : Value) (ps : List Pol) (c : List UInt8) (a x : Int) (i : Nat) (w : World) (hv : IsPs w v ps) (hM : BdP 140737488351232 ps) (hG : Glo w) (hf : FwP ps) (ho : okP ps = true) (hc : seqL (ps.map polL) = c) (hc3 : 2 ≤ c.length ∧ c.length ≤ 3310)
    (ha : 0 ≤ a ∧ a < 65536) (hx : 0 ≤ x ∧ x < 256) (hi : a.toNat % c.length = i) (hp : parPs (c.set i (UInt8.ofNat x.toNat)) = none) : Calls Tryz.prog 11 #[v, .int .u16 a, .int .u8 x] w (RetB (.bool true) w) := by
  have hil : i < c.length := by rw [← hi]; exact Nat.mod_lt _ (by omega)
  have hmar : marP ps = some c := by unfold marP; simp [ho, hc]
  have hne : ¬ (x = bat c i) := fun h => by
    rw [set_self hil h, mar_parPs hmar (by omega)] at hp
    cases hp
  have hx1 : (x == bat c i) = false := beq_eq_false_iff_ne.2 hne
  have hx2 : (x != bat c i) = true := by simp [hne]
  have HA : Hid (∀ W, Glo W → Calls Tryz.prog 14 #[] W (RetB (.bool true) W)) := awake17
  have HF : Hid (∀ W, IsPs W v ps → Calls Tryz.prog 15 #[v] W (RetFs ps W)) := fun W h => rFewS v ps W h hM
  have HPM : Hid (∀ W, Glo W → IsPs W v ps → Calls Tryz.prog 36 #[v] W (RetOidY c W)) := fun W g h => by have := polMar_yes _ ps W g h hf.sz (by have := fwP_flat hf; omega) ho; rwa [hc] at this
  have HPA : Hid (∀ W u, Glo W → IsB W u (c.set i (UInt8.ofNat x.toNat)) → Calls Tryz.prog 40 #[u] W (RetPPn c.length W)) := fun W u g h => by
    have := polParse u _ W g h (by simp; omega)
    rw [hp, List.length_set] at this
    exact this.mono fun e w' hh => hh.no
  have HQ : Hid (∀ W A c, c ≤ maxLen → Calls Tryz.prog 41 #[.slice none 0 0, .slice A 0 c] W (RetB (.bool true) W)) := fun W A c h => by have := basP _ _ [] [] W (isPs_nil W) (isPs_none (A := A) h); rwa [decide_eq_true rfl] at this
  have HWI : Hid (∀ ec eo : Int, (0 < ec ∧ 0 ≤ eo ∧ eo ≤ c.length) → ∀ W, Calls Tryz.prog 27 #[.agg #[.int .i64 ec, .int .i64 eo], .int .i64 c.length] W (RetB (.bool true) W)) := fun ec eo h W => within_ok ec eo _ W (.inr h)
  have HV := Lib.hid hv
  have HG := Lib.hid hG
  have hcur := Lib.hid (Below.refl w.heap.size w)
  have HXX := Lib.hid hx
  have hmod : a.tmod (c.length : Int) = (i : Int) := by rw [Int.tmod_eq_emod_of_nonneg ha.1, ← hi, Int.natCast_emod, Int.toNat_of_nonneg ha.1]
  have hc0 : ¬ ((c.length : Int) = 0) := by omega
  have hwr : IntKind.i64.wrap a = a := by rw [IntKind.wrap_i64]; omega
  have hiI : (i : Int) < c.length := by omega
  have h0 : (0 : Nat) ≤ maxLen := by decide
  unfold RetPPn at HPA
  simp only [errV] at HPA
  obtain ⟨A, k, rfl⟩ := isPs_slice hv
  clear hv hM hG hf ho hc hmar hp hx hi hne
  go_enter Tryz.func11, Tryz.ntmps11
  go_wp2_with (first | ((go_at_call 14); (with_reducible refine (HA.out _ (HG.out.below hcur.out)).mono ?_); rintro e wz ⟨rfl, hbz⟩; have hcur := Lib.hid (hcur.out.trans (hbz.mono hcur.out.size)); clear hbz) | ((go_at_call 15); (with_reducible refine (HF.out _ (HV.out.below hcur.out)).mono ?_); rintro e wz ⟨b, rfl, hb, hbz⟩; have hcur := Lib.hid (hcur.out.trans (hbz.mono hcur.out.size)); have HFW := Lib.hid hb; clear hb hbz; cases b) | ((go_at_call 36); (with_reducible refine (HPM.out _ (HG.out.below hcur.out) (HV.out.below hcur.out)).mono ?_); rintro e wz ⟨v3, rfl, ho3, hbz⟩; obtain ⟨g, kc, rfl, hbg, hgl, hcell, hfz⟩ := OwB.row ho3 (by omega); have HO3 := Lib.hid ho3; have cb := hcell i hil; have fb := hfz i; have hgw := Nat.le_trans hcur.out.size hbg; have hcur := Lib.hid ((hcur.out.trans (hbz.mono hcur.out.size)).setCell (p := ⟨g, i, none⟩) hgw (.int .u8 x)); have HI3 := Lib.hid ((OwB.put HO3.out i x HXX.out.1 HXX.out.2).isB); clear hcell hfz ho3 hbz) | ((go_at_call 40); (refine (HPA.out _ _ (HG.out.below hcur.out) HI3.out).mono ?_); rintro e wy ⟨ec, eo, h1, h2, h3, rfl, hbz⟩; have hn : (ec == 0) = false := beq_eq_false_iff_ne.2 (by omega); have hn' : (ec != 0) = true := (by simp; omega); have HER := Lib.hid (And.intro h1 (And.intro h2 h3)); have hcur := Lib.hid ((hcur.out.trans (hbz.mono hcur.out.size)).alloc (Nat.le_trans hcur.out.size hbz.size) (.cells #[.int .i64 ec, .int .i64 eo] 38)); have K := Lib.hid (Blk.new wy 38 #[.int .i64 ec, .int .i64 eo]); clear hbz h1 h2 h3) | ((go_at_call 41); (refine (HQ.out _ _ _ h0).mono ?_); rintro e wx ⟨rfl, hbz⟩; have K := Lib.hid ((K.out.alloc _).call hbz); have qK := K.out.q; have lK := K.out.lt; have hcur := Lib.hid ((hcur.out.alloc hcur.out.size _).trans (hbz.mono (by have := hcur.out.size; simp at this; simp; omega))); clear hbz) | ((go_at_call 27); (with_reducible refine (HWI.out _ _ HER.out _).mono ?_); rintro e wz ⟨rfl, hbz⟩; have hcur := Lib.hid (hcur.out.trans (hbz.mono hcur.out.size)); clear hbz))
  all_goals go_ret
  all_goals exact ⟨rfl, hcur.out⟩
set_option maxRecDepth 100000 in
set_option maxHeartbeats 16000000 in
theorem chg_yes (v : Value) (ps qs : List Pol) (c : List UInt8) (a x : Int) (i : Nat) (w : World) (hv : IsPs w v ps) (hM : BdP 140737488351232 ps) (hG : Glo w) (hf : FwP ps) (ho : okP ps = true) (hc : seqL (ps.map polL) = c) (hc3 : 2 ≤ c.length ∧ c.length ≤ 3310)
    (ha : 0 ≤ a ∧ a < 65536) (hx : 0 ≤ x ∧ x < 256) (hi : a.toNat % c.length = i) (hp : parPs (c.set i (UInt8.ofNat x.toNat)) = some qs) : Calls Tryz.prog 11 #[v, .int .u16 a, .int .u8 x] w (RetB (.bool true) w) := by
  have hil : i < c.length := by rw [← hi]; exact Nat.mod_lt _ (by omega)
  have hmar : marP ps = some c := by unfold marP; simp [ho, hc]
  have hmar2 := parPs_mar hp
  have hlen2 : (c.set i (UInt8.ofNat x.toNat)).length ≤ 4700 := by simp; omega
  have hz2 := szP_par hlen2 hp
  have ho2 : okP qs = true := by
    unfold marP at hmar2
    split at hmar2
    · assumption
    · cases hmar2
  have hsq2 : seqL (qs.map polL) = c.set i (UInt8.ofNat x.toNat) := by unfold marP at hmar2; rw [if_pos ho2] at hmar2; exact Option.some.inj hmar2
  have hfl2 : (qs.map polL).flatten.length ≤ 900000 := by have := seqL_len (qs.map polL); rw [hsq2] at this; omega
  have hD : decide (qs = ps) = decide (x = bat c i) := by
    refine decide_eq_decide.2 ⟨fun h => ?_, fun h => ?_⟩
    · rw [h, hc] at hsq2
      exact set_back hil hx hsq2.symm
    · rw [set_self hil h, mar_parPs hmar (by omega)] at hp
      exact (Option.some.inj hp).symm
  have HA : Hid (∀ W, Glo W → Calls Tryz.prog 14 #[] W (RetB (.bool true) W)) := awake17
  have HF : Hid (∀ W, IsPs W v ps → Calls Tryz.prog 15 #[v] W (RetFs ps W)) := fun W h => rFewS v ps W h hM
  have HPM : Hid (∀ W, Glo W → IsPs W v ps → Calls Tryz.prog 36 #[v] W (RetOidY c W)) := fun W g h => by have := polMar_yes _ ps W g h hf.sz (by have := fwP_flat hf; omega) ho; rwa [hc] at this
  have HPA : Hid (∀ W u, Glo W → IsB W u (c.set i (UInt8.ofNat x.toNat)) → Calls Tryz.prog 40 #[u] W (RetPPy qs W)) := fun W u g h => by
    have := polParse u _ W g h hlen2
    rw [hp] at this
    exact this.mono fun e w' hh => hh.yes
  have HM2 : Hid (∀ W u, Glo W → IsPs W u qs → Calls Tryz.prog 36 #[u] W (RetOidY (c.set i (UInt8.ofNat x.toNat)) W)) := fun W u g h => by have := polMar_yes u qs W g h hz2 hfl2 ho2; rwa [hsq2] at this
  have HQ0 : Hid (∀ W u, IsPs W u qs → IsPs W v ps → Calls Tryz.prog 41 #[u, v] W (RetB (.bool (decide (x = bat c i))) W)) := fun W u h1 h2 => by have := basP _ _ qs ps W h1 h2; rwa [hD] at this
  have HB : Hid (∀ W y z, IsB W y (c.set i (UInt8.ofNat x.toNat)) → IsB W z (c.set i (UInt8.ofNat x.toNat)) → Calls Tryz.prog 21 #[y, z] W (RetB (.bool true) W)) := fun W y z h1 h2 => by have := bytes_any y z _ _ W h1 h2; rwa [decide_eq_true rfl] at this
  have HV := Lib.hid hv
  have HG := Lib.hid hG
  have hcur := Lib.hid (Below.refl w.heap.size w)
  have HXX := Lib.hid hx
  have hmod : a.tmod (c.length : Int) = (i : Int) := by rw [Int.tmod_eq_emod_of_nonneg ha.1, ← hi, Int.natCast_emod, Int.toNat_of_nonneg ha.1]
  have hc0 : ¬ ((c.length : Int) = 0) := by omega
  have hwr : IntKind.i64.wrap a = a := by rw [IntKind.wrap_i64]; omega
  have hiI : (i : Int) < c.length := by omega
  unfold RetPPy at HPA
  simp only [errV] at HPA
  obtain ⟨A, k, rfl⟩ := isPs_slice hv
  clear hv hM hG hf ho hc hmar hp hx hi hmar2 hlen2 hz2 ho2 hsq2 hfl2 hD
  obtain ⟨X, hX⟩ : ∃ X, decide (x = bat c i) = X := ⟨_, rfl⟩
  rw [hX] at HQ0
  have HQ := HQ0
  have hb1 : (x == bat c i) = X := by rw [← hX]; rfl
  clear HQ0
  go_enter Tryz.func11, Tryz.ntmps11
  go_wp2_with (first | ((go_at_call 14); (with_reducible refine (HA.out _ (HG.out.below hcur.out)).mono ?_); rintro e wz ⟨rfl, hbz⟩; have hcur := Lib.hid (hcur.out.trans (hbz.mono hcur.out.size)); clear hbz) | ((go_at_call 15); (with_reducible refine (HF.out _ (HV.out.below hcur.out)).mono ?_); rintro e wz ⟨b, rfl, hb, hbz⟩; have hcur := Lib.hid (hcur.out.trans (hbz.mono hcur.out.size)); have HFW := Lib.hid hb; clear hb hbz; cases b) | ((go_at_call 36); (refine (HM2.out _ _ (HG.out.below hcur.out) HX.out).mono ?_); rintro e wx ⟨v5, rfl, ho5, hbz⟩; obtain ⟨A5, k5, rfl⟩ := isB_slice ho5.isB; have hi5 := ho5.isB; rw [List.length_set] at hi5; have HI5 := Lib.hid hi5; clear hi5; have hcur := Lib.hid (hcur.out.trans (hbz.mono hcur.out.size)); have K := Lib.hid (K.out.call hbz); have qK := K.out.q; have lK := K.out.lt; have HX := Lib.hid (HX.out.below hbz); have HI3 := Lib.hid (HI3.out.below hbz); clear ho5 hbz) | ((go_at_call 36); (with_reducible refine (HPM.out _ (HG.out.below hcur.out) (HV.out.below hcur.out)).mono ?_); rintro e wz ⟨v3, rfl, ho3, hbz⟩; obtain ⟨g, kc, rfl, hbg, hgl, hcell, hfz⟩ := OwB.row ho3 (by omega); have HO3 := Lib.hid ho3; have cb := hcell i hil; have fb := hfz i; have hgw := Nat.le_trans hcur.out.size hbg; have hcur := Lib.hid ((hcur.out.trans (hbz.mono hcur.out.size)).setCell (p := ⟨g, i, none⟩) hgw (.int .u8 x)); have HI3 := Lib.hid ((OwB.put HO3.out i x HXX.out.1 HXX.out.2).isB); clear hcell hfz ho3 hbz) | ((go_at_call 40); (refine (HPA.out _ _ (HG.out.below hcur.out) HI3.out).mono ?_); rintro e wy ⟨A4, k4, rfl, ho4, hbz⟩; have hsz4 := Nat.le_trans hcur.out.size hbz.size; have hcur := Lib.hid ((hcur.out.trans (hbz.mono hcur.out.size)).alloc hsz4 (.cells #[.int .i64 0, .int .i64 0] 38)); have K := Lib.hid (Blk.new wy 38 #[.int .i64 0, .int .i64 0]); have HX := Lib.hid (ho4.alloc (.cells #[.int .i64 0, .int .i64 0] 38)); have HI3 := Lib.hid ((HI3.out.below hbz).alloc (.cells #[.int .i64 0, .int .i64 0] 38)); clear hbz ho4) | ((go_at_call 21); (refine (HB.out _ _ _ HI5.out HI3.out).mono ?_); rintro e wx ⟨rfl, hbz⟩; have hcur := Lib.hid (hcur.out.trans (hbz.mono hcur.out.size)); have HX := Lib.hid (HX.out.below hbz); clear hbz) | ((go_at_call 41); (refine (HQ.out _ _ HX.out (HV.out.below hcur.out)).mono ?_); rintro e wx ⟨rfl, hbz⟩; have hcur := Lib.hid (hcur.out.trans (hbz.mono hcur.out.size)); clear hbz))
  all_goals go_ret
  all_goals exact ⟨by first | rfl | (cases X <;> rfl) | simp [*], hcur.out⟩
theorem seq_two (ls : List (List UInt8)) : 2 ≤ (seqL ls).length := by
  unfold seqL
  rw [encO_len]
  have := (lenOct_len ls.flatten.length).1
  omega
theorem walk (v : Value) (ps : List Pol) (a x : Int) (w : World) (hv : IsPs w v ps) (hM : BdP 140737488351232 ps) (ha : (Lit.int .u16 a).wf = true) (hx : (Lit.int .u8 x).wf = true) (hG : Glo w) : Calls Tryz.prog 11 #[v, .int .u16 a, .int .u8 x] w (RetB (.bool true) w) := by
  by_cases hf : FwP ps
  · cases ho : okP ps with
    | false => exact mar_no v ps a x w hv hM hG hf ho
    | true =>
      have h2 := fwP_seq hf
      have h3 := seq_two (ps.map polL)
      cases hp : parPs ((seqL (ps.map polL)).set (a.toNat % (seqL (ps.map polL)).length) (UInt8.ofNat x.toNat)) with
      | none => exact chg_no v ps _ a x _ w hv hM hG hf ho rfl ⟨h3, h2⟩ (wf_u16 ha) (wf_u8 hx) rfl hp
      | some qs => exact chg_yes v ps qs _ a x _ w hv hM hG hf ho rfl ⟨h3, h2⟩ (wf_u16 ha) (wf_u8 hx) rfl hp
  · exact few_no v ps a x w hv hM hG hf
end Go.Proofs.YtjjkimjdmpeddaaGreatDoor.PolCDone
end
