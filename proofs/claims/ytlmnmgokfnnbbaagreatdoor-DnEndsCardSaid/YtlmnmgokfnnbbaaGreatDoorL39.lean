/- The parts LawNamE, LawRdnC, LawNamC, LawNamK of one proof, one behind the other. -/
import Derived.Test.YtlmnmgokfnnbbaaGreatDoorL37
import Derived.Test.YtlmnmgokfnnbbaaGreatDoorL38
import Derived.Test.YtlmnmgokfnnbbaaGreatDoorL36
import Derived.Test.YtlmnmgokfnnbbaaGreatDoorL35

/- DnEnds: the walk; what the laws of chapter 12 share. -/
section
set_option linter.unusedSimpArgs false
set_option linter.unusedVariables false
namespace Go.Proofs.YtlmnmgokfnnbbaaGreatDoor
open Go.RowKit Go.Cr
theorem OwB.put {w : World} {base g cap : Nat} {l : List UInt8} {n : Nat} (h : OwB w base 5 (.slice (some ⟨g, 0, none⟩) n cap) l) (i : Nat) (x : Int) (h0 : 0 ≤ x) (h1 : x < 256) :
    OwB (w.setCell ⟨g, i, none⟩ (.int .u8 x)) base 5 (.slice (some ⟨g, 0, none⟩) n cap) (l.set i (UInt8.ofNat x.toNat)) := by
  have hX : bi (UInt8.ofNat x.toNat) = x := by rw [bi_ofNat]; omega
  obtain ⟨h2, ⟨h3, _⟩ | ⟨g', cap', cur, hv, hb, hh, hn, hm, hs, htk⟩⟩ := h
  · cases h3
  · injection hv with e1 e2 e3
    injection e1 with e1
    injection e1 with e1
    subst e1 e2 e3
    refine ⟨by simp [bCells_len], .inr ⟨g, cap, cur.setIfInBounds i (.int .u8 x), by simp, hb, heap_setCell_same w g i cur _ _ hh, by simpa using hn, hm, by simpa using hs, ?_⟩⟩
    rw [Array.toList_setIfInBounds, List.length_set, List.take_set, htk]
    simp [bCells, List.map_set, hX]
theorem OwB.row {w : World} {base : Nat} {v : Value} {l : List UInt8} (h : OwB w base 5 v l) (hl : 0 < l.length) : ∃ g cap, v = .slice (some ⟨g, 0, none⟩) l.length cap ∧ base ≤ g ∧ g < w.heap.size ∧ (∀ i, i < l.length → w.cell? ⟨g, i, none⟩ = some (.int .u8 (bat l i))) ∧ ∀ i, w.frozen? ⟨g, i, none⟩ = false := by
  have hI := h.isB
  obtain ⟨h2, ⟨h3, h4⟩ | ⟨g, cap, cur, hv, hb, hh, hn, hm, hs, htk⟩⟩ := h
  · omega
  · subst hv
    obtain ⟨A, c, e, h5, h6, h7⟩ := hI
    injection e with e1 e2 e3
    obtain ⟨b, off, e4, hlt, hc⟩ := h7 hl
    rw [← e1] at e4
    injection e4 with e4
    injection e4 with e5 e6
    subst e5 e6
    exact ⟨g, cap, rfl, hb, hlt, fun i hi => by have := hc i hi; rwa [Nat.zero_add] at this, fun i => by simp [World.frozen?, hh]⟩
theorem wf_u16 {a : Int} (h : (Lit.int .u16 a).wf = true) : 0 ≤ a ∧ a < 65536 := by have e1 : IntKind.u16.min = 0 := rfl; have e2 : IntKind.u16.max = 65535 := rfl; simp [Lit.wf] at h; omega
theorem wf_u8 {a : Int} (h : (Lit.int .u8 a).wf = true) : 0 ≤ a ∧ a < 256 := by have e1 : IntKind.u8.min = 0 := rfl; have e2 : IntKind.u8.max = 255 := rfl; simp [Lit.wf] at h; omega
theorem set_self {c : List UInt8} {i : Nat} (h : i < c.length) {x : Int} (hx : x = bat c i) : c.set i (UInt8.ofNat x.toNat) = c := by
  rw [hx, bat_eq c i h]
  have : UInt8.ofNat (bi c[i]).toNat = c[i] := by simp [bi]
  rw [this, List.set_getElem_self]
theorem set_back {c : List UInt8} {i : Nat} (h : i < c.length) {x : Int} (h0 : 0 ≤ x ∧ x < 256) (he : c.set i (UInt8.ofNat x.toNat) = c) : x = bat c i := by
  have hX : bi (UInt8.ofNat x.toNat) = x := by rw [bi_ofNat]; omega
  have h5 : c[i] = (c.set i (UInt8.ofNat x.toNat))[i]'(by simpa using h) := by congr 1; exact he.symm
  rw [bat_eq c i h, h5, List.getElem_set_self, hX]
theorem mar_two {n : Nam} {c : List UInt8} (h : marNm n = some c) : 2 ≤ c.length := by
  obtain ⟨ps, _, rfl⟩ := marNm_some h
  unfold conB
  rw [encO_len]
  have := (lenOct_len ps.flatten.length).1
  omega
theorem emptyOw (W : World) : OwB (W.alloc (.cells #[] 5)) W.heap.size 5 (.slice (some ⟨W.heap.size, 0, none⟩) 0 0) [] := by
  have := World.ownsRow_lit (base := W.heap.size) (e := 5) (size := 1) W #[] 0 (Nat.le_refl _) (by decide) rfl
  show OwB _ _ _ _ _
  simpa [OwB, bCells] using this

end Go.Proofs.YtlmnmgokfnnbbaaGreatDoor
namespace Go.Proofs.YtlmnmgokfnnbbaaGreatDoor.NamEDone
open Go.RowKit Go.Cr
set_option maxRecDepth 100000 in
set_option maxHeartbeats 8000000 in
theorem few_no (v m : Value) (ps : Nam) (ml : List UInt8) (a : Int) (w : World) (hv : IsNm w v ps) (hM : BdNm 140737488351232 ps) (hm : IsB w m ml) (hG : Glo w) (hf : ¬ FwNm ps) : Calls Tryz.prog 11 #[v, .int .u16 a, m] w (RetB (.bool true) w) := by
  have HA : Hid (∀ W, Glo W → Calls Tryz.prog 14 #[] W (RetB (.bool true) W)) := awakeD
  have HF : Hid (∀ W, IsNm W v ps → Calls Tryz.prog 15 #[v] W (RetB (.bool false) W)) := fun W h => (rFewNm v ps W h hM).mono fun e w' ⟨b, he, hb, hw⟩ => by
    cases b with
    | true => exact absurd (hb rfl) hf
    | false => exact ⟨he, hw⟩
  have HV := Lib.hid hv
  have HG := Lib.hid hG
  have hcur := Lib.hid (Below.refl w.heap.size w)
  obtain ⟨A, k, rfl⟩ := isNm_slice hv
  obtain ⟨AM, kM, rfl⟩ := isB_slice hm
  clear hv hM hG hf hm
  go_enter Tryz.func11, Tryz.ntmps11
  go_wp2_with (first | ((go_at_call 14); (with_reducible refine (HA.out _ (HG.out.below hcur.out)).mono ?_); rintro e wz ⟨rfl, hbz⟩; have hcur := Lib.hid (hcur.out.trans (hbz.mono hcur.out.size)); clear hbz) | ((go_at_call 15); (with_reducible refine (HF.out _ (HV.out.below hcur.out)).mono ?_); rintro e wz ⟨rfl, hbz⟩; have hcur := Lib.hid (hcur.out.trans (hbz.mono hcur.out.size)); clear hbz))
  go_ret
  exact ⟨rfl, hcur.out⟩
set_option maxRecDepth 100000 in
set_option maxHeartbeats 8000000 in
theorem long (v m : Value) (ps : Nam) (ml : List UInt8) (a : Int) (w : World) (hv : IsNm w v ps) (hM : BdNm 140737488351232 ps) (hm : IsB w m ml) (hG : Glo w) (h2 : 2000 < ml.length) : Calls Tryz.prog 11 #[v, .int .u16 a, m] w (RetB (.bool true) w) := by
  have HA : Hid (∀ W, Glo W → Calls Tryz.prog 14 #[] W (RetB (.bool true) W)) := awakeD
  have HF : Hid (∀ W, IsNm W v ps → Calls Tryz.prog 15 #[v] W (RetFnm ps W)) := fun W h => rFewNm v ps W h hM
  have hlen := hm.len ulB
  have HV := Lib.hid hv
  have HG := Lib.hid hG
  have hcur := Lib.hid (Below.refl w.heap.size w)
  have h2' : (2000 : Int) < ml.length := by omega
  obtain ⟨A, k, rfl⟩ := isNm_slice hv
  obtain ⟨AM, kM, rfl⟩ := isB_slice hm
  clear hv hM hG hm
  go_enter Tryz.func11, Tryz.ntmps11
  go_wp2_with (first | ((go_at_call 14); (with_reducible refine (HA.out _ (HG.out.below hcur.out)).mono ?_); rintro e wz ⟨rfl, hbz⟩; have hcur := Lib.hid (hcur.out.trans (hbz.mono hcur.out.size)); clear hbz) | ((go_at_call 15); (with_reducible refine (HF.out _ (HV.out.below hcur.out)).mono ?_); rintro e wz ⟨b, rfl, hb, hbz⟩; have hcur := Lib.hid (hcur.out.trans (hbz.mono hcur.out.size)); have HFW := Lib.hid hb; clear hb hbz; cases b))
  all_goals go_ret
  all_goals exact ⟨rfl, hcur.out⟩
set_option maxRecDepth 100000 in
set_option maxHeartbeats 8000000 in
theorem mar_no (v m : Value) (ps : Nam) (ml : List UInt8) (a : Int) (w : World) (hv : IsNm w v ps) (hM : BdNm 140737488351232 ps) (hm : IsB w m ml) (hG : Glo w) (hf : FwNm ps) (h2 : ml.length ≤ 2000) (ho : marNm ps = none) : Calls Tryz.prog 11 #[v, .int .u16 a, m] w (RetB (.bool true) w) := by
  have HA : Hid (∀ W, Glo W → Calls Tryz.prog 14 #[] W (RetB (.bool true) W)) := awakeD
  have HF : Hid (∀ W, IsNm W v ps → Calls Tryz.prog 15 #[v] W (RetFnm ps W)) := fun W h => rFewNm v ps W h hM
  have HPM : Hid (∀ W, Glo W → IsNm W v ps → Calls Tryz.prog 33 #[v] W (RetB (.tuple #[.slice none 0 0, .int .i64 8]) W)) := fun W g h => (dnMarshal _ ps W g h hf.sz).mono fun e w' hh => by rw [ho] at hh; exact hh.no
  have hlen := hm.len ulB
  have HV := Lib.hid hv
  have HG := Lib.hid hG
  have hcur := Lib.hid (Below.refl w.heap.size w)
  have h2' : (ml.length : Int) ≤ 2000 := by omega
  obtain ⟨A, k, rfl⟩ := isNm_slice hv
  obtain ⟨AM, kM, rfl⟩ := isB_slice hm
  clear hv hM hG hf hm
  go_enter Tryz.func11, Tryz.ntmps11
  go_wp2_with (first | ((go_at_call 14); (with_reducible refine (HA.out _ (HG.out.below hcur.out)).mono ?_); rintro e wz ⟨rfl, hbz⟩; have hcur := Lib.hid (hcur.out.trans (hbz.mono hcur.out.size)); clear hbz) | ((go_at_call 15); (with_reducible refine (HF.out _ (HV.out.below hcur.out)).mono ?_); rintro e wz ⟨b, rfl, hb, hbz⟩; have hcur := Lib.hid (hcur.out.trans (hbz.mono hcur.out.size)); have HFW := Lib.hid hb; clear hb hbz; cases b) | ((go_at_call 33); (with_reducible refine (HPM.out _ (HG.out.below hcur.out) (HV.out.below hcur.out)).mono ?_); rintro e wz ⟨rfl, hbz⟩; have hcur := Lib.hid (hcur.out.trans (hbz.mono hcur.out.size)); clear hbz))
  all_goals go_ret
  all_goals exact ⟨rfl, hcur.out⟩
set_option maxRecDepth 100000 in
set_option maxHeartbeats 16000000 in
theorem ends (v m : Value) (ps : Nam) (ml c : List UInt8) (a : Int) (i : Nat) (w : World) (hv : IsNm w v ps) (hM : BdNm 140737488351232 ps) (hm : IsB w m ml) (hG : Glo w) (hf : FwNm ps) (h2 : ml.length ≤ 2000) (hmar : marNm ps = some c) (hc3 : 2 ≤ c.length ∧ c.length ≤ 85000)
    (ha : 0 ≤ a ∧ a < 65536) (hi : a.toNat % c.length = i) : Calls Tryz.prog 11 #[v, .int .u16 a, m] w (RetB (.bool true) w) := by
  have hlen := hm.len ulB
  have hil : i < c.length := by rw [← hi]; exact Nat.mod_lt _ (by omega)
  have hpc := mar_parNm hmar (by omega)
  have hp1 := par_take (par := parNm) (n := 16) (by decide) (by decide) parNm_con hpc (by omega) hil
  have HA : Hid (∀ W, Glo W → Calls Tryz.prog 14 #[] W (RetB (.bool true) W)) := awakeD
  have HF : Hid (∀ W, IsNm W v ps → Calls Tryz.prog 15 #[v] W (RetFnm ps W)) := fun W h => rFewNm v ps W h hM
  have HPM : Hid (∀ W, Glo W → IsNm W v ps → Calls Tryz.prog 33 #[v] W (RetOidY c W)) := fun W g h => (dnMarshal _ ps W g h hf.sz).mono fun e w' hh => by rw [hmar] at hh; exact hh.yes
  have HP1 : Hid (∀ W u, Glo W → IsB W u (c.take i) → Calls Tryz.prog 36 #[u] W (RetPn (c.take i).length W)) := fun W u g h => by
    have := dnParse u _ W g h (by rw [List.length_take]; omega)
    rw [hp1] at this
    exact this.mono fun e w' hh => hh.no
  have HP2 : Hid (∀ W u, Glo W → IsB W u (c ++ ml) → Calls Tryz.prog 36 #[u] W (fun e w' => Below W.heap.size W w' ∧ ∃ (A : Option Addr) (n k : Nat) (q o : Int), e = .returned (.tuple #[.slice A n k, .agg #[.int .i64 q, .int .i64 o]]) ∧ (q == 0) = ((ml.length : Int) == 0))) := fun W u g h => by
    have := dnParse u _ W g h (by rw [List.length_append]; omega)
    by_cases h0 : ml = []
    · subst h0
      rw [List.append_nil, hpc] at this
      exact this.mono fun e w' hh => by
        obtain ⟨A, k, he, _, hb⟩ := hh.yes
        exact ⟨hb, _, _, _, 0, 0, he, rfl⟩
    · rw [par_more (par := parNm) (n := 16) (by decide) (by decide) parNm_con hpc (by omega) (by omega) h0] at this
      refine this.mono fun e w' hh => ?_
      obtain ⟨q, o, hq, _, _, he, hb⟩ := hh.no
      refine ⟨hb, _, _, _, q, o, he, ?_⟩
      have : ml.length ≠ 0 := fun h => h0 (List.eq_nil_of_length_eq_zero h)
      rw [beq_eq_false_iff_ne.2 (by omega : q ≠ 0), beq_eq_false_iff_ne.2 (by omega : (ml.length : Int) ≠ 0)]
  have HMM := Lib.hid hm
  have HV := Lib.hid hv
  have HG := Lib.hid hG
  have hcur := Lib.hid (Below.refl w.heap.size w)
  have hmod : a.tmod (c.length : Int) = (i : Int) := by rw [Int.tmod_eq_emod_of_nonneg ha.1, ← hi, Int.natCast_emod, Int.toNat_of_nonneg ha.1]
  have hc0 : ¬ ((c.length : Int) = 0) := by omega
  have hwr : IntKind.i64.wrap a = a := by rw [IntKind.wrap_i64]; omega
  have hiI : (i : Int) ≤ c.length := by omega
  have h2' : (ml.length : Int) ≤ 2000 := by omega
  obtain ⟨A, k, rfl⟩ := isNm_slice hv
  obtain ⟨AM, kM, rfl⟩ := isB_slice hm
  unfold RetPn at HP1
  simp only [errV] at HP1
  clear hv hG hf hi hp1 hM hm hmar hpc
  generalize hT : c.take i = T at *
  go_enter Tryz.func11, Tryz.ntmps11
  go_wp2_with (first | ((go_at_call 14); (with_reducible refine (HA.out _ (HG.out.below hcur.out)).mono ?_); rintro e wz ⟨rfl, hbz⟩; have hcur := Lib.hid (hcur.out.trans (hbz.mono hcur.out.size)); clear hbz) | ((go_at_call 15); (with_reducible refine (HF.out _ (HV.out.below hcur.out)).mono ?_); rintro e wz ⟨b, rfl, hb, hbz⟩; have hcur := Lib.hid (hcur.out.trans (hbz.mono hcur.out.size)); have HFW := Lib.hid hb; clear hb hbz; cases b) | ((go_at_call 33); (with_reducible refine (HPM.out _ (HG.out.below hcur.out) (HV.out.below hcur.out)).mono ?_); rintro e w3 ⟨v3, rfl, ho3, hbz⟩; have hI3 := ho3.isB; obtain ⟨A3, k3, rfl⟩ := isB_slice hI3; have HI3 := Lib.hid hI3; have hcur := Lib.hid (hcur.out.trans (hbz.mono hcur.out.size)); obtain ⟨u3, hcut, hU⟩ := isB_cutHi (P := Tryz.prog) hI3 ulB szB .i64 (hi := (i : Int)) (by omega) hiI; rw [Int.toNat_natCast, hT] at hU; obtain ⟨A4, k4, rfl⟩ := isB_slice hU; have HU := Lib.hid hU; clear ho3 hI3 hU hbz) | ((go_at_call 36); (refine (HP2.out _ _ (HG.out.below hcur.out) HI6.out).mono ?_); rintro e w7 ⟨hbz, A7, n7, k7, q7, o7, rfl, hq7⟩; have hcur := Lib.hid (hcur.out.trans (hbz.mono hcur.out.size)); have K := Lib.hid (K.out.call hbz); have qK := K.out.q; have lK := K.out.lt; clear hbz) | ((go_at_call 36); (refine (HP1.out _ _ (HG.out.below hcur.out) HU.out).mono ?_); rintro e w4 ⟨q, o, hq1, ho0, ho1, rfl, hbz⟩; have hq0 : ¬ (q = 0) := (by omega); have hsz4 := Nat.le_trans hcur.out.size hbz.size; have hcur := Lib.hid ((hcur.out.trans (hbz.mono hcur.out.size)).alloc hsz4 (.cells #[.int .i64 q, .int .i64 o] 38)); have HI4 := Lib.hid ((HI3.out.below hbz).alloc (.cells #[.int .i64 q, .int .i64 o] 38)); have hz4 : (w4.alloc (.cells #[.int .i64 q, .int .i64 o] 38)).heap.size = w4.heap.size + 1 := (by simp); have he4 := emptyOw (w4.alloc (.cells #[.int .i64 q, .int .i64 o] 38)); rw [hz4] at he4; have HE4 := Lib.hid he4; have K := Lib.hid (Blk.new w4 38 #[.int .i64 q, .int .i64 o]); clear he4 hbz) | (at_builtin; refine wpList_appB _ rfl _ _ 33 rfl (w4.heap.size + 1) 5 ulB infoB _ c rfl HO5.out _ ml rfl (HMM.out.below hcur.out) (by omega) (by omega) ?_; intro u6 w6 ho6 _ hb6; have hI6 := ho6.isB; obtain ⟨A6, k6, rfl⟩ := isB_slice hI6; rw [List.length_append] at hI6; have HI6 := Lib.hid hI6; have hcur := Lib.hid (hcur.out.trans (hb6.mono (by omega))); have K := Lib.hid (K.out.below hb6 (Nat.lt_succ_self _)); clear ho6 hb6 hI6) | (at_builtin; refine wpList_appB _ rfl _ _ 33 rfl (w4.heap.size + 1) 5 ulB infoB _ [] rfl HE4.out _ c rfl (HI4.out.alloc _) (by simp; omega) (by simp) ?_; intro u5 w5 ho5 _ hb5; rw [List.nil_append] at ho5; obtain ⟨A5, k5, rfl⟩ := isB_slice ho5.isB; have HO5 := Lib.hid ho5; have hcur := Lib.hid ((hcur.out.alloc hcur.out.size (.cells #[] 5)).trans (hb5.mono (by omega))); have K := Lib.hid ((K.out.alloc (.cells #[] 5)).below hb5 (Nat.lt_succ_self _)); have hs5 := hb5.size; simp at hs5; clear ho5 hb5))
  all_goals go_ret
  all_goals first | exact ⟨rfl, hcur.out⟩ | exact ⟨by simp [hq0, bne, beq_eq_false_iff_ne.2 hq0], hcur.out.alloc hcur.out.size _⟩
theorem walk (v : Value) (ps : Nam) (a : Int) (m : Value) (ml : List UInt8) (w : World) (hv : IsNm w v ps) (hM : BdNm 140737488351232 ps) (ha : (Lit.int .u16 a).wf = true) (hm : IsB w m ml) (hG : Glo w) : Calls Tryz.prog 11 #[v, .int .u16 a, m] w (RetB (.bool true) w) := by
  by_cases hf : FwNm ps
  · by_cases h2 : ml.length ≤ 2000
    · cases ho : marNm ps with
      | none => exact mar_no v m ps ml a w hv hM hm hG hf h2 ho
      | some c => exact ends v m ps ml c a _ w hv hM hm hG hf h2 ho ⟨mar_two ho, hf.lenM ho⟩ (wf_u16 ha) rfl
    · exact long v m ps ml a w hv hM hm hG (by omega)
  · exact few_no v m ps ml a w hv hM hm hG hf
end Go.Proofs.YtlmnmgokfnnbbaaGreatDoor.NamEDone
end

/- DnRDNChanges: the walk. -/
section
set_option linter.unusedSimpArgs false
set_option linter.unusedVariables false
namespace Go.Proofs.YtlmnmgokfnnbbaaGreatDoor.RdnCDone
open Go.RowKit Go.Cr
set_option maxRecDepth 100000 in
set_option maxHeartbeats 8000000 in
theorem few_no (v : Value) (ps : Rdn) (a x : Int) (w : World) (hv : IsQs w v ps) (hM : BdR 140737488351232 ps) (hG : Glo w) (hf : ¬ FwR ps) : Calls Tryz.prog 5 #[v, .int .u16 a, .int .u8 x] w (RetB (.bool true) w) := by
  have HA : Hid (∀ W, Glo W → Calls Tryz.prog 14 #[] W (RetB (.bool true) W)) := awakeD
  have HF : Hid (∀ W, IsQs W v ps → Calls Tryz.prog 23 #[v] W (RetB (.bool false) W)) := fun W h => (rFewRDN v ps W h hM).mono fun e w' ⟨b, he, hb, hw⟩ => by
    cases b with
    | true => exact absurd (hb rfl) hf
    | false => exact ⟨he, hw⟩
  have HV := Lib.hid hv
  have HG := Lib.hid hG
  have hcur := Lib.hid (Below.refl w.heap.size w)
  obtain ⟨A, k, rfl⟩ := isQs_slice hv
  clear hv hM hG hf
  go_enter Tryz.func5, Tryz.ntmps5
  go_wp2_with (first | ((go_at_call 14); (with_reducible refine (HA.out _ (HG.out.below hcur.out)).mono ?_); rintro e wz ⟨rfl, hbz⟩; have hcur := Lib.hid (hcur.out.trans (hbz.mono hcur.out.size)); clear hbz) | ((go_at_call 23); (with_reducible refine (HF.out _ (HV.out.below hcur.out)).mono ?_); rintro e wz ⟨rfl, hbz⟩; have hcur := Lib.hid (hcur.out.trans (hbz.mono hcur.out.size)); clear hbz))
  go_ret
  exact ⟨rfl, hcur.out⟩
set_option maxRecDepth 100000 in
set_option maxHeartbeats 8000000 in
theorem mar_no (v : Value) (ps : Rdn) (a x : Int) (w : World) (hv : IsQs w v ps) (hM : BdR 140737488351232 ps) (hG : Glo w) (hf : FwR ps) (ho : marR ps = none) : Calls Tryz.prog 5 #[v, .int .u16 a, .int .u8 x] w (RetB (.bool true) w) := by
  have HA : Hid (∀ W, Glo W → Calls Tryz.prog 14 #[] W (RetB (.bool true) W)) := awakeD
  have HF : Hid (∀ W, IsQs W v ps → Calls Tryz.prog 23 #[v] W (RetFr ps W)) := fun W h => rFewRDN v ps W h hM
  have HPM : Hid (∀ W, Glo W → IsQs W v ps → Calls Tryz.prog 24 #[v] W (RetB (.tuple #[.slice none 0 0, .int .i64 8]) W)) := fun W g h => (dnMarshalRDN _ ps W g h hf.sz).mono fun e w' hh => by rw [ho] at hh; exact hh.no
  have HV := Lib.hid hv
  have HG := Lib.hid hG
  have hcur := Lib.hid (Below.refl w.heap.size w)
  obtain ⟨A, k, rfl⟩ := isQs_slice hv
  clear hv hM hG hf
  go_enter Tryz.func5, Tryz.ntmps5
  go_wp2_with (first | ((go_at_call 14); (with_reducible refine (HA.out _ (HG.out.below hcur.out)).mono ?_); rintro e wz ⟨rfl, hbz⟩; have hcur := Lib.hid (hcur.out.trans (hbz.mono hcur.out.size)); clear hbz) | ((go_at_call 23); (with_reducible refine (HF.out _ (HV.out.below hcur.out)).mono ?_); rintro e wz ⟨b, rfl, hb, hbz⟩; have hcur := Lib.hid (hcur.out.trans (hbz.mono hcur.out.size)); have HFW := Lib.hid hb; clear hb hbz; cases b) | ((go_at_call 24); (with_reducible refine (HPM.out _ (HG.out.below hcur.out) (HV.out.below hcur.out)).mono ?_); rintro e wz ⟨rfl, hbz⟩; have hcur := Lib.hid (hcur.out.trans (hbz.mono hcur.out.size)); clear hbz))
  all_goals go_ret
  all_goals exact ⟨rfl, hcur.out⟩
set_option maxRecDepth 100000 in
set_option maxHeartbeats 8000000 in
theorem chg_no (v : Value) (ps : Rdn) (c : List UInt8) (a x : Int) (i : Nat) (w : World) (hv : IsQs w v ps) (hM : BdR 140737488351232 ps) (hG : Glo w) (hf : FwR ps) (hmar : marR ps = some c) (hc3 : 2 ≤ c.length ∧ c.length ≤ 20000)
    (ha : 0 ≤ a ∧ a < 65536) (hx : 0 ≤ x ∧ x < 256) (hi : a.toNat % c.length = i) (hp : parR (c.set i (UInt8.ofNat x.toNat)) = none) : Calls Tryz.prog 5 #[v, .int .u16 a, .int .u8 x] w (RetB (.bool true) w) := by
  have hil : i < c.length := by rw [← hi]; exact Nat.mod_lt _ (by omega)
  have hne : ¬ (x = bat c i) := fun h => by
    rw [set_self hil h, mar_parR hmar (by omega)] at hp
    cases hp
  have hx1 : (x == bat c i) = false := beq_eq_false_iff_ne.2 hne
  have hx2 : (x != bat c i) = true := by simp [hne]
  have HA : Hid (∀ W, Glo W → Calls Tryz.prog 14 #[] W (RetB (.bool true) W)) := awakeD
  have HF : Hid (∀ W, IsQs W v ps → Calls Tryz.prog 23 #[v] W (RetFr ps W)) := fun W h => rFewRDN v ps W h hM
  have HPM : Hid (∀ W, Glo W → IsQs W v ps → Calls Tryz.prog 24 #[v] W (RetOidY c W)) := fun W g h => (dnMarshalRDN _ ps W g h hf.sz).mono fun e w' hh => by rw [hmar] at hh; exact hh.yes
  have HPA : Hid (∀ W u, Glo W → IsB W u (c.set i (UInt8.ofNat x.toNat)) → Calls Tryz.prog 25 #[u] W (RetPn c.length W)) := fun W u g h => by
    have := dnParseRDN u _ W g h (by simp; omega)
    rw [hp, List.length_set] at this
    exact this.mono fun e w' hh => hh.no
  have HQ : Hid (∀ W A c, c ≤ maxLen → Calls Tryz.prog 26 #[.slice none 0 0, .slice A 0 c] W (RetB (.bool true) W)) := fun W A c h => by have := basRdn _ _ [] [] W (isQs_nil W) (isQs_none (A := A) h); rwa [decide_eq_true rfl] at this
  have HWI : Hid (∀ ec eo : Int, (0 < ec ∧ 0 ≤ eo ∧ eo ≤ c.length) → ∀ W, Calls Tryz.prog 27 #[.agg #[.int .i64 ec, .int .i64 eo], .int .i64 c.length] W (RetB (.bool true) W)) := fun ec eo h W => within_ok ec eo _ W (.inr h)
  have HV := Lib.hid hv
  have HG := Lib.hid hG
  have hcur := Lib.hid (Below.refl w.heap.size w)
  have HXX := Lib.hid hx
  have hmod : a.tmod (c.length : Int) = (i : Int) := by rw [Int.tmod_eq_emod_of_nonneg ha.1, ← hi, Int.natCast_emod, Int.toNat_of_nonneg ha.1]
  have hc0 : ¬ ((c.length : Int) = 0) := by omega
  have hwr : IntKind.i64.wrap a = a := by rw [IntKind.wrap_i64]; omega
  have hiI : (i : Int) < c.length := by omega
  have h0 : (0 : Nat) ≤ maxLen := by decide
  unfold RetPn at HPA
  simp only [errV] at HPA
  obtain ⟨A, k, rfl⟩ := isQs_slice hv
  clear hv hM hG hf hmar hp hx hi hne
  go_enter Tryz.func5, Tryz.ntmps5
  go_wp2_with (first | ((go_at_call 14); (with_reducible refine (HA.out _ (HG.out.below hcur.out)).mono ?_); rintro e wz ⟨rfl, hbz⟩; have hcur := Lib.hid (hcur.out.trans (hbz.mono hcur.out.size)); clear hbz) | ((go_at_call 23); (with_reducible refine (HF.out _ (HV.out.below hcur.out)).mono ?_); rintro e wz ⟨b, rfl, hb, hbz⟩; have hcur := Lib.hid (hcur.out.trans (hbz.mono hcur.out.size)); have HFW := Lib.hid hb; clear hb hbz; cases b) | ((go_at_call 24); (with_reducible refine (HPM.out _ (HG.out.below hcur.out) (HV.out.below hcur.out)).mono ?_); rintro e wz ⟨v3, rfl, ho3, hbz⟩; obtain ⟨g, kc, rfl, hbg, hgl, hcell, hfz⟩ := OwB.row ho3 (by omega); have HO3 := Lib.hid ho3; have cb := hcell i hil; have fb := hfz i; have hgw := Nat.le_trans hcur.out.size hbg; have hcur := Lib.hid ((hcur.out.trans (hbz.mono hcur.out.size)).setCell (p := ⟨g, i, none⟩) hgw (.int .u8 x)); have HI3 := Lib.hid ((OwB.put HO3.out i x HXX.out.1 HXX.out.2).isB); clear hcell hfz ho3 hbz) | ((go_at_call 25); (refine (HPA.out _ _ (HG.out.below hcur.out) HI3.out).mono ?_); rintro e wy ⟨ec, eo, h1, h2, h3, rfl, hbz⟩; have hn : (ec == 0) = false := beq_eq_false_iff_ne.2 (by omega); have hn' : (ec != 0) = true := (by simp; omega); have HER := Lib.hid (And.intro h1 (And.intro h2 h3)); have hcur := Lib.hid ((hcur.out.trans (hbz.mono hcur.out.size)).alloc (Nat.le_trans hcur.out.size hbz.size) (.cells #[.int .i64 ec, .int .i64 eo] 38)); have K := Lib.hid (Blk.new wy 38 #[.int .i64 ec, .int .i64 eo]); clear hbz h1 h2 h3) | ((go_at_call 26); (refine (HQ.out _ _ _ h0).mono ?_); rintro e wx ⟨rfl, hbz⟩; have K := Lib.hid ((K.out.alloc _).call hbz); have qK := K.out.q; have lK := K.out.lt; have hcur := Lib.hid ((hcur.out.alloc hcur.out.size _).trans (hbz.mono (by have := hcur.out.size; simp at this; simp; omega))); clear hbz) | ((go_at_call 27); (with_reducible refine (HWI.out _ _ HER.out _).mono ?_); rintro e wz ⟨rfl, hbz⟩; have hcur := Lib.hid (hcur.out.trans (hbz.mono hcur.out.size)); clear hbz))
  all_goals go_ret
  all_goals exact ⟨rfl, hcur.out⟩
set_option maxRecDepth 100000 in
set_option maxHeartbeats 16000000 in
theorem chg_yes (v : Value) (ps qs : Rdn) (c : List UInt8) (a x : Int) (i : Nat) (w : World) (hv : IsQs w v ps) (hM : BdR 140737488351232 ps) (hG : Glo w) (hf : FwR ps) (hmar : marR ps = some c) (hc3 : 2 ≤ c.length ∧ c.length ≤ 20000)
    (ha : 0 ≤ a ∧ a < 65536) (hx : 0 ≤ x ∧ x < 256) (hi : a.toNat % c.length = i) (hp : parR (c.set i (UInt8.ofNat x.toNat)) = some qs) : Calls Tryz.prog 5 #[v, .int .u16 a, .int .u8 x] w (RetB (.bool true) w) := by
  have hil : i < c.length := by rw [← hi]; exact Nat.mod_lt _ (by omega)
  have hmar2 := parR_mar hp
  have hlen2 : (c.set i (UInt8.ofNat x.toNat)).length ≤ 20000 := by simp; omega
  have hz2 := szR_chg hlen2 hp
  have hD : decide (qs = ps) = decide (x = bat c i) := by
    refine decide_eq_decide.2 ⟨fun h => ?_, fun h => ?_⟩
    · rw [h, hmar] at hmar2
      exact set_back hil hx (Option.some.inj hmar2).symm
    · rw [set_self hil h, mar_parR hmar (by omega)] at hp
      exact (Option.some.inj hp).symm
  have HA : Hid (∀ W, Glo W → Calls Tryz.prog 14 #[] W (RetB (.bool true) W)) := awakeD
  have HF : Hid (∀ W, IsQs W v ps → Calls Tryz.prog 23 #[v] W (RetFr ps W)) := fun W h => rFewRDN v ps W h hM
  have HPM : Hid (∀ W, Glo W → IsQs W v ps → Calls Tryz.prog 24 #[v] W (RetOidY c W)) := fun W g h => (dnMarshalRDN _ ps W g h hf.sz).mono fun e w' hh => by rw [hmar] at hh; exact hh.yes
  have HPA : Hid (∀ W u, Glo W → IsB W u (c.set i (UInt8.ofNat x.toNat)) → Calls Tryz.prog 25 #[u] W (RetPyR qs W)) := fun W u g h => by
    have := dnParseRDN u _ W g h (by omega)
    rw [hp] at this
    exact this.mono fun e w' hh => hh.yes
  have HM2 : Hid (∀ W u, Glo W → IsQs W u qs → Calls Tryz.prog 24 #[u] W (RetOidY (c.set i (UInt8.ofNat x.toNat)) W)) := fun W u g h => (dnMarshalRDN u qs W g h hz2).mono fun e w' hh => by rw [hmar2] at hh; exact hh.yes
  have HQ0 : Hid (∀ W u, IsQs W u qs → IsQs W v ps → Calls Tryz.prog 26 #[u, v] W (RetB (.bool (decide (x = bat c i))) W)) := fun W u h1 h2 => by have := basRdn _ _ qs ps W h1 h2; rwa [hD] at this
  have HB : Hid (∀ W y z, IsB W y (c.set i (UInt8.ofNat x.toNat)) → IsB W z (c.set i (UInt8.ofNat x.toNat)) → Calls Tryz.prog 28 #[y, z] W (RetB (.bool true) W)) := fun W y z h1 h2 => by have := bytes_any y z _ _ W h1 h2; rwa [decide_eq_true rfl] at this
  have HV := Lib.hid hv
  have HG := Lib.hid hG
  have hcur := Lib.hid (Below.refl w.heap.size w)
  have HXX := Lib.hid hx
  have hmod : a.tmod (c.length : Int) = (i : Int) := by rw [Int.tmod_eq_emod_of_nonneg ha.1, ← hi, Int.natCast_emod, Int.toNat_of_nonneg ha.1]
  have hc0 : ¬ ((c.length : Int) = 0) := by omega
  have hwr : IntKind.i64.wrap a = a := by rw [IntKind.wrap_i64]; omega
  have hiI : (i : Int) < c.length := by omega
  unfold RetPyR at HPA
  simp only [errV] at HPA
  obtain ⟨A, k, rfl⟩ := isQs_slice hv
  clear hv hM hG hf hmar hp hx hi hmar2 hlen2 hz2 hD
  obtain ⟨X, hX⟩ : ∃ X, decide (x = bat c i) = X := ⟨_, rfl⟩
  rw [hX] at HQ0
  have HQ := HQ0
  have hb1 : (x == bat c i) = X := by rw [← hX]; rfl
  clear HQ0
  go_enter Tryz.func5, Tryz.ntmps5
  go_wp2_with (first | ((go_at_call 14); (with_reducible refine (HA.out _ (HG.out.below hcur.out)).mono ?_); rintro e wz ⟨rfl, hbz⟩; have hcur := Lib.hid (hcur.out.trans (hbz.mono hcur.out.size)); clear hbz) | ((go_at_call 23); (with_reducible refine (HF.out _ (HV.out.below hcur.out)).mono ?_); rintro e wz ⟨b, rfl, hb, hbz⟩; have hcur := Lib.hid (hcur.out.trans (hbz.mono hcur.out.size)); have HFW := Lib.hid hb; clear hb hbz; cases b) | ((go_at_call 24); (refine (HM2.out _ _ (HG.out.below hcur.out) HX.out).mono ?_); rintro e wx ⟨v5, rfl, ho5, hbz⟩; obtain ⟨A5, k5, rfl⟩ := isB_slice ho5.isB; have hi5 := ho5.isB; rw [List.length_set] at hi5; have HI5 := Lib.hid hi5; clear hi5; have hcur := Lib.hid (hcur.out.trans (hbz.mono hcur.out.size)); have K := Lib.hid (K.out.call hbz); have qK := K.out.q; have lK := K.out.lt; have HX := Lib.hid (HX.out.below hbz); have HI3 := Lib.hid (HI3.out.below hbz); clear ho5 hbz) | ((go_at_call 24); (with_reducible refine (HPM.out _ (HG.out.below hcur.out) (HV.out.below hcur.out)).mono ?_); rintro e wz ⟨v3, rfl, ho3, hbz⟩; obtain ⟨g, kc, rfl, hbg, hgl, hcell, hfz⟩ := OwB.row ho3 (by omega); have HO3 := Lib.hid ho3; have cb := hcell i hil; have fb := hfz i; have hgw := Nat.le_trans hcur.out.size hbg; have hcur := Lib.hid ((hcur.out.trans (hbz.mono hcur.out.size)).setCell (p := ⟨g, i, none⟩) hgw (.int .u8 x)); have HI3 := Lib.hid ((OwB.put HO3.out i x HXX.out.1 HXX.out.2).isB); clear hcell hfz ho3 hbz) | ((go_at_call 25); (refine (HPA.out _ _ (HG.out.below hcur.out) HI3.out).mono ?_); rintro e wy ⟨A4, k4, rfl, ho4, hbz⟩; have hsz4 := Nat.le_trans hcur.out.size hbz.size; have hcur := Lib.hid ((hcur.out.trans (hbz.mono hcur.out.size)).alloc hsz4 (.cells #[.int .i64 0, .int .i64 0] 38)); have K := Lib.hid (Blk.new wy 38 #[.int .i64 0, .int .i64 0]); have HX := Lib.hid (ho4.alloc (.cells #[.int .i64 0, .int .i64 0] 38)); have HI3 := Lib.hid ((HI3.out.below hbz).alloc (.cells #[.int .i64 0, .int .i64 0] 38)); clear hbz ho4) | ((go_at_call 28); (refine (HB.out _ _ _ HI5.out HI3.out).mono ?_); rintro e wx ⟨rfl, hbz⟩; have hcur := Lib.hid (hcur.out.trans (hbz.mono hcur.out.size)); have HX := Lib.hid (HX.out.below hbz); clear hbz) | ((go_at_call 26); (refine (HQ.out _ _ HX.out (HV.out.below hcur.out)).mono ?_); rintro e wx ⟨rfl, hbz⟩; have hcur := Lib.hid (hcur.out.trans (hbz.mono hcur.out.size)); clear hbz))
  all_goals go_ret
  all_goals exact ⟨by first | rfl | (cases X <;> rfl) | simp [*], hcur.out⟩
theorem walk (v : Value) (ps : Rdn) (a x : Int) (w : World) (hv : IsQs w v ps) (hM : BdR 140737488351232 ps) (ha : (Lit.int .u16 a).wf = true) (hx : (Lit.int .u8 x).wf = true) (hG : Glo w) : Calls Tryz.prog 5 #[v, .int .u16 a, .int .u8 x] w (RetB (.bool true) w) := by
  by_cases hf : FwR ps
  · cases ho : marR ps with
    | none => exact mar_no v ps a x w hv hM hG hf ho
    | some c =>
      have h2 := tightR_len hf ho
      have h3 := two_R ho
      cases hp : parR (c.set (a.toNat % c.length) (UInt8.ofNat x.toNat)) with
      | none => exact chg_no v ps c a x _ w hv hM hG hf ho ⟨h3, h2⟩ (wf_u16 ha) (wf_u8 hx) rfl hp
      | some qs => exact chg_yes v ps qs c a x _ w hv hM hG hf ho ⟨h3, h2⟩ (wf_u16 ha) (wf_u8 hx) rfl hp
  · exact few_no v ps a x w hv hM hG hf
end Go.Proofs.YtlmnmgokfnnbbaaGreatDoor.RdnCDone
end

/- DnChanges: the walk. -/
section
set_option linter.unusedSimpArgs false
set_option linter.unusedVariables false
namespace Go.Proofs.YtlmnmgokfnnbbaaGreatDoor.NamCDone
open Go.RowKit Go.Cr
set_option maxRecDepth 100000 in
set_option maxHeartbeats 8000000 in
theorem few_no (v : Value) (ps : Nam) (a x : Int) (w : World) (hv : IsNm w v ps) (hM : BdNm 140737488351232 ps) (hG : Glo w) (hf : ¬ FwNm ps) : Calls Tryz.prog 10 #[v, .int .u16 a, .int .u8 x] w (RetB (.bool true) w) := by
  have HA : Hid (∀ W, Glo W → Calls Tryz.prog 14 #[] W (RetB (.bool true) W)) := awakeD
  have HF : Hid (∀ W, IsNm W v ps → Calls Tryz.prog 15 #[v] W (RetB (.bool false) W)) := fun W h => (rFewNm v ps W h hM).mono fun e w' ⟨b, he, hb, hw⟩ => by
    cases b with
    | true => exact absurd (hb rfl) hf
    | false => exact ⟨he, hw⟩
  have HV := Lib.hid hv
  have HG := Lib.hid hG
  have hcur := Lib.hid (Below.refl w.heap.size w)
  obtain ⟨A, k, rfl⟩ := isNm_slice hv
  clear hv hM hG hf
  go_enter Tryz.func10, Tryz.ntmps10
  go_wp2_with (first | ((go_at_call 14); (with_reducible refine (HA.out _ (HG.out.below hcur.out)).mono ?_); rintro e wz ⟨rfl, hbz⟩; have hcur := Lib.hid (hcur.out.trans (hbz.mono hcur.out.size)); clear hbz) | ((go_at_call 15); (with_reducible refine (HF.out _ (HV.out.below hcur.out)).mono ?_); rintro e wz ⟨rfl, hbz⟩; have hcur := Lib.hid (hcur.out.trans (hbz.mono hcur.out.size)); clear hbz))
  go_ret
  exact ⟨rfl, hcur.out⟩
set_option maxRecDepth 100000 in
set_option maxHeartbeats 8000000 in
theorem mar_no (v : Value) (ps : Nam) (a x : Int) (w : World) (hv : IsNm w v ps) (hM : BdNm 140737488351232 ps) (hG : Glo w) (hf : FwNm ps) (ho : marNm ps = none) : Calls Tryz.prog 10 #[v, .int .u16 a, .int .u8 x] w (RetB (.bool true) w) := by
  have HA : Hid (∀ W, Glo W → Calls Tryz.prog 14 #[] W (RetB (.bool true) W)) := awakeD
  have HF : Hid (∀ W, IsNm W v ps → Calls Tryz.prog 15 #[v] W (RetFnm ps W)) := fun W h => rFewNm v ps W h hM
  have HPM : Hid (∀ W, Glo W → IsNm W v ps → Calls Tryz.prog 33 #[v] W (RetB (.tuple #[.slice none 0 0, .int .i64 8]) W)) := fun W g h => (dnMarshal _ ps W g h hf.sz).mono fun e w' hh => by rw [ho] at hh; exact hh.no
  have HV := Lib.hid hv
  have HG := Lib.hid hG
  have hcur := Lib.hid (Below.refl w.heap.size w)
  obtain ⟨A, k, rfl⟩ := isNm_slice hv
  clear hv hM hG hf
  go_enter Tryz.func10, Tryz.ntmps10
  go_wp2_with (first | ((go_at_call 14); (with_reducible refine (HA.out _ (HG.out.below hcur.out)).mono ?_); rintro e wz ⟨rfl, hbz⟩; have hcur := Lib.hid (hcur.out.trans (hbz.mono hcur.out.size)); clear hbz) | ((go_at_call 15); (with_reducible refine (HF.out _ (HV.out.below hcur.out)).mono ?_); rintro e wz ⟨b, rfl, hb, hbz⟩; have hcur := Lib.hid (hcur.out.trans (hbz.mono hcur.out.size)); have HFW := Lib.hid hb; clear hb hbz; cases b) | ((go_at_call 33); (with_reducible refine (HPM.out _ (HG.out.below hcur.out) (HV.out.below hcur.out)).mono ?_); rintro e wz ⟨rfl, hbz⟩; have hcur := Lib.hid (hcur.out.trans (hbz.mono hcur.out.size)); clear hbz))
  all_goals go_ret
  all_goals exact ⟨rfl, hcur.out⟩
set_option maxRecDepth 100000 in
set_option maxHeartbeats 8000000 in
theorem chg_no (v : Value) (ps : Nam) (c : List UInt8) (a x : Int) (i : Nat) (w : World) (hv : IsNm w v ps) (hM : BdNm 140737488351232 ps) (hG : Glo w) (hf : FwNm ps) (hmar : marNm ps = some c) (hc3 : 2 ≤ c.length ∧ c.length ≤ 20000)
    (ha : 0 ≤ a ∧ a < 65536) (hx : 0 ≤ x ∧ x < 256) (hi : a.toNat % c.length = i) (hp : parNm (c.set i (UInt8.ofNat x.toNat)) = none) : Calls Tryz.prog 10 #[v, .int .u16 a, .int .u8 x] w (RetB (.bool true) w) := by
  have hil : i < c.length := by rw [← hi]; exact Nat.mod_lt _ (by omega)
  have hne : ¬ (x = bat c i) := fun h => by
    rw [set_self hil h, mar_parNm hmar (by omega)] at hp
    cases hp
  have hx1 : (x == bat c i) = false := beq_eq_false_iff_ne.2 hne
  have hx2 : (x != bat c i) = true := by simp [hne]
  have HA : Hid (∀ W, Glo W → Calls Tryz.prog 14 #[] W (RetB (.bool true) W)) := awakeD
  have HF : Hid (∀ W, IsNm W v ps → Calls Tryz.prog 15 #[v] W (RetFnm ps W)) := fun W h => rFewNm v ps W h hM
  have HPM : Hid (∀ W, Glo W → IsNm W v ps → Calls Tryz.prog 33 #[v] W (RetOidY c W)) := fun W g h => (dnMarshal _ ps W g h hf.sz).mono fun e w' hh => by rw [hmar] at hh; exact hh.yes
  have HPA : Hid (∀ W u, Glo W → IsB W u (c.set i (UInt8.ofNat x.toNat)) → Calls Tryz.prog 36 #[u] W (RetPn c.length W)) := fun W u g h => by
    have := dnParse u _ W g h (by simp; omega)
    rw [hp, List.length_set] at this
    exact this.mono fun e w' hh => hh.no
  have HQ : Hid (∀ W A c, c ≤ maxLen → Calls Tryz.prog 37 #[.slice none 0 0, .slice A 0 c] W (RetB (.bool true) W)) := fun W A c h => by have := basNm _ _ [] [] W (IsNm.nil_ W) (isNm_none (A := A) h); rwa [decide_eq_true rfl] at this
  have HWI : Hid (∀ ec eo : Int, (0 < ec ∧ 0 ≤ eo ∧ eo ≤ c.length) → ∀ W, Calls Tryz.prog 27 #[.agg #[.int .i64 ec, .int .i64 eo], .int .i64 c.length] W (RetB (.bool true) W)) := fun ec eo h W => within_ok ec eo _ W (.inr h)
  have HV := Lib.hid hv
  have HG := Lib.hid hG
  have hcur := Lib.hid (Below.refl w.heap.size w)
  have HXX := Lib.hid hx
  have hmod : a.tmod (c.length : Int) = (i : Int) := by rw [Int.tmod_eq_emod_of_nonneg ha.1, ← hi, Int.natCast_emod, Int.toNat_of_nonneg ha.1]
  have hc0 : ¬ ((c.length : Int) = 0) := by omega
  have hwr : IntKind.i64.wrap a = a := by rw [IntKind.wrap_i64]; omega
  have hiI : (i : Int) < c.length := by omega
  have h0 : (0 : Nat) ≤ maxLen := by decide
  unfold RetPn at HPA
  simp only [errV] at HPA
  obtain ⟨A, k, rfl⟩ := isNm_slice hv
  clear hv hM hG hf hmar hp hx hi hne
  go_enter Tryz.func10, Tryz.ntmps10
  go_wp2_with (first | ((go_at_call 14); (with_reducible refine (HA.out _ (HG.out.below hcur.out)).mono ?_); rintro e wz ⟨rfl, hbz⟩; have hcur := Lib.hid (hcur.out.trans (hbz.mono hcur.out.size)); clear hbz) | ((go_at_call 15); (with_reducible refine (HF.out _ (HV.out.below hcur.out)).mono ?_); rintro e wz ⟨b, rfl, hb, hbz⟩; have hcur := Lib.hid (hcur.out.trans (hbz.mono hcur.out.size)); have HFW := Lib.hid hb; clear hb hbz; cases b) | ((go_at_call 33); (with_reducible refine (HPM.out _ (HG.out.below hcur.out) (HV.out.below hcur.out)).mono ?_); rintro e wz ⟨v3, rfl, ho3, hbz⟩; obtain ⟨g, kc, rfl, hbg, hgl, hcell, hfz⟩ := OwB.row ho3 (by omega); have HO3 := Lib.hid ho3; have cb := hcell i hil; have fb := hfz i; have hgw := Nat.le_trans hcur.out.size hbg; have hcur := Lib.hid ((hcur.out.trans (hbz.mono hcur.out.size)).setCell (p := ⟨g, i, none⟩) hgw (.int .u8 x)); have HI3 := Lib.hid ((OwB.put HO3.out i x HXX.out.1 HXX.out.2).isB); clear hcell hfz ho3 hbz) | ((go_at_call 36); (refine (HPA.out _ _ (HG.out.below hcur.out) HI3.out).mono ?_); rintro e wy ⟨ec, eo, h1, h2, h3, rfl, hbz⟩; have hn : (ec == 0) = false := beq_eq_false_iff_ne.2 (by omega); have hn' : (ec != 0) = true := (by simp; omega); have HER := Lib.hid (And.intro h1 (And.intro h2 h3)); have hcur := Lib.hid ((hcur.out.trans (hbz.mono hcur.out.size)).alloc (Nat.le_trans hcur.out.size hbz.size) (.cells #[.int .i64 ec, .int .i64 eo] 38)); have K := Lib.hid (Blk.new wy 38 #[.int .i64 ec, .int .i64 eo]); clear hbz h1 h2 h3) | ((go_at_call 37); (refine (HQ.out _ _ _ h0).mono ?_); rintro e wx ⟨rfl, hbz⟩; have K := Lib.hid ((K.out.alloc _).call hbz); have qK := K.out.q; have lK := K.out.lt; have hcur := Lib.hid ((hcur.out.alloc hcur.out.size _).trans (hbz.mono (by have := hcur.out.size; simp at this; simp; omega))); clear hbz) | ((go_at_call 27); (with_reducible refine (HWI.out _ _ HER.out _).mono ?_); rintro e wz ⟨rfl, hbz⟩; have hcur := Lib.hid (hcur.out.trans (hbz.mono hcur.out.size)); clear hbz))
  all_goals go_ret
  all_goals exact ⟨rfl, hcur.out⟩
set_option maxRecDepth 100000 in
set_option maxHeartbeats 16000000 in
theorem chg_yes (v : Value) (ps qs : Nam) (c : List UInt8) (a x : Int) (i : Nat) (w : World) (hv : IsNm w v ps) (hM : BdNm 140737488351232 ps) (hG : Glo w) (hf : FwNm ps) (hmar : marNm ps = some c) (hc3 : 2 ≤ c.length ∧ c.length ≤ 20000)
    (ha : 0 ≤ a ∧ a < 65536) (hx : 0 ≤ x ∧ x < 256) (hi : a.toNat % c.length = i) (hp : parNm (c.set i (UInt8.ofNat x.toNat)) = some qs) : Calls Tryz.prog 10 #[v, .int .u16 a, .int .u8 x] w (RetB (.bool true) w) := by
  have hil : i < c.length := by rw [← hi]; exact Nat.mod_lt _ (by omega)
  have hmar2 := parNm_mar hp
  have hlen2 : (c.set i (UInt8.ofNat x.toNat)).length ≤ 20000 := by simp; omega
  have hz2 := szN_chg hlen2 hp
  have hD : decide (qs = ps) = decide (x = bat c i) := by
    refine decide_eq_decide.2 ⟨fun h => ?_, fun h => ?_⟩
    · rw [h, hmar] at hmar2
      exact set_back hil hx (Option.some.inj hmar2).symm
    · rw [set_self hil h, mar_parNm hmar (by omega)] at hp
      exact (Option.some.inj hp).symm
  have HA : Hid (∀ W, Glo W → Calls Tryz.prog 14 #[] W (RetB (.bool true) W)) := awakeD
  have HF : Hid (∀ W, IsNm W v ps → Calls Tryz.prog 15 #[v] W (RetFnm ps W)) := fun W h => rFewNm v ps W h hM
  have HPM : Hid (∀ W, Glo W → IsNm W v ps → Calls Tryz.prog 33 #[v] W (RetOidY c W)) := fun W g h => (dnMarshal _ ps W g h hf.sz).mono fun e w' hh => by rw [hmar] at hh; exact hh.yes
  have HPA : Hid (∀ W u, Glo W → IsB W u (c.set i (UInt8.ofNat x.toNat)) → Calls Tryz.prog 36 #[u] W (RetPyN qs W)) := fun W u g h => by
    have := dnParse u _ W g h (by omega)
    rw [hp] at this
    exact this.mono fun e w' hh => hh.yes
  have HM2 : Hid (∀ W u, Glo W → IsNm W u qs → Calls Tryz.prog 33 #[u] W (RetOidY (c.set i (UInt8.ofNat x.toNat)) W)) := fun W u g h => (dnMarshal u qs W g h hz2).mono fun e w' hh => by rw [hmar2] at hh; exact hh.yes
  have HQ0 : Hid (∀ W u, IsNm W u qs → IsNm W v ps → Calls Tryz.prog 37 #[u, v] W (RetB (.bool (decide (x = bat c i))) W)) := fun W u h1 h2 => by have := basNm _ _ qs ps W h1 h2; rwa [hD] at this
  have HB : Hid (∀ W y z, IsB W y (c.set i (UInt8.ofNat x.toNat)) → IsB W z (c.set i (UInt8.ofNat x.toNat)) → Calls Tryz.prog 28 #[y, z] W (RetB (.bool true) W)) := fun W y z h1 h2 => by have := bytes_any y z _ _ W h1 h2; rwa [decide_eq_true rfl] at this
  have HV := Lib.hid hv
  have HG := Lib.hid hG
  have hcur := Lib.hid (Below.refl w.heap.size w)
  have HXX := Lib.hid hx
  have hmod : a.tmod (c.length : Int) = (i : Int) := by rw [Int.tmod_eq_emod_of_nonneg ha.1, ← hi, Int.natCast_emod, Int.toNat_of_nonneg ha.1]
  have hc0 : ¬ ((c.length : Int) = 0) := by omega
  have hwr : IntKind.i64.wrap a = a := by rw [IntKind.wrap_i64]; omega
  have hiI : (i : Int) < c.length := by omega
  unfold RetPyN at HPA
  simp only [errV] at HPA
  obtain ⟨A, k, rfl⟩ := isNm_slice hv
  clear hv hM hG hf hmar hp hx hi hmar2 hlen2 hz2 hD
  obtain ⟨X, hX⟩ : ∃ X, decide (x = bat c i) = X := ⟨_, rfl⟩
  rw [hX] at HQ0
  have HQ := HQ0
  have hb1 : (x == bat c i) = X := by rw [← hX]; rfl
  clear HQ0
  go_enter Tryz.func10, Tryz.ntmps10
  go_wp2_with (first | ((go_at_call 14); (with_reducible refine (HA.out _ (HG.out.below hcur.out)).mono ?_); rintro e wz ⟨rfl, hbz⟩; have hcur := Lib.hid (hcur.out.trans (hbz.mono hcur.out.size)); clear hbz) | ((go_at_call 15); (with_reducible refine (HF.out _ (HV.out.below hcur.out)).mono ?_); rintro e wz ⟨b, rfl, hb, hbz⟩; have hcur := Lib.hid (hcur.out.trans (hbz.mono hcur.out.size)); have HFW := Lib.hid hb; clear hb hbz; cases b) | ((go_at_call 33); (refine (HM2.out _ _ (HG.out.below hcur.out) HX.out).mono ?_); rintro e wx ⟨v5, rfl, ho5, hbz⟩; obtain ⟨A5, k5, rfl⟩ := isB_slice ho5.isB; have hi5 := ho5.isB; rw [List.length_set] at hi5; have HI5 := Lib.hid hi5; clear hi5; have hcur := Lib.hid (hcur.out.trans (hbz.mono hcur.out.size)); have K := Lib.hid (K.out.call hbz); have qK := K.out.q; have lK := K.out.lt; have HX := Lib.hid (HX.out.below hbz); have HI3 := Lib.hid (HI3.out.below hbz); clear ho5 hbz) | ((go_at_call 33); (with_reducible refine (HPM.out _ (HG.out.below hcur.out) (HV.out.below hcur.out)).mono ?_); rintro e wz ⟨v3, rfl, ho3, hbz⟩; obtain ⟨g, kc, rfl, hbg, hgl, hcell, hfz⟩ := OwB.row ho3 (by omega); have HO3 := Lib.hid ho3; have cb := hcell i hil; have fb := hfz i; have hgw := Nat.le_trans hcur.out.size hbg; have hcur := Lib.hid ((hcur.out.trans (hbz.mono hcur.out.size)).setCell (p := ⟨g, i, none⟩) hgw (.int .u8 x)); have HI3 := Lib.hid ((OwB.put HO3.out i x HXX.out.1 HXX.out.2).isB); clear hcell hfz ho3 hbz) | ((go_at_call 36); (refine (HPA.out _ _ (HG.out.below hcur.out) HI3.out).mono ?_); rintro e wy ⟨A4, k4, rfl, ho4, hbz⟩; have hsz4 := Nat.le_trans hcur.out.size hbz.size; have hcur := Lib.hid ((hcur.out.trans (hbz.mono hcur.out.size)).alloc hsz4 (.cells #[.int .i64 0, .int .i64 0] 38)); have K := Lib.hid (Blk.new wy 38 #[.int .i64 0, .int .i64 0]); have HX := Lib.hid (ho4.alloc (.cells #[.int .i64 0, .int .i64 0] 38)); have HI3 := Lib.hid ((HI3.out.below hbz).alloc (.cells #[.int .i64 0, .int .i64 0] 38)); clear hbz ho4) | ((go_at_call 28); (refine (HB.out _ _ _ HI5.out HI3.out).mono ?_); rintro e wx ⟨rfl, hbz⟩; have hcur := Lib.hid (hcur.out.trans (hbz.mono hcur.out.size)); have HX := Lib.hid (HX.out.below hbz); clear hbz) | ((go_at_call 37); (refine (HQ.out _ _ HX.out (HV.out.below hcur.out)).mono ?_); rintro e wx ⟨rfl, hbz⟩; have hcur := Lib.hid (hcur.out.trans (hbz.mono hcur.out.size)); clear hbz))
  all_goals go_ret
  all_goals exact ⟨by first | rfl | (cases X <;> rfl) | simp [*], hcur.out⟩
theorem walk (v : Value) (ps : Nam) (a x : Int) (w : World) (hv : IsNm w v ps) (hM : BdNm 140737488351232 ps) (ha : (Lit.int .u16 a).wf = true) (hx : (Lit.int .u8 x).wf = true) (hG : Glo w) : Calls Tryz.prog 10 #[v, .int .u16 a, .int .u8 x] w (RetB (.bool true) w) := by
  by_cases hf : FwNm ps
  · cases ho : marNm ps with
    | none => exact mar_no v ps a x w hv hM hG hf ho
    | some c =>
      have h2 := tightN_len hf ho
      have h3 := two_N ho
      cases hp : parNm (c.set (a.toNat % c.length) (UInt8.ofNat x.toNat)) with
      | none => exact chg_no v ps c a x _ w hv hM hG hf ho ⟨h3, h2⟩ (wf_u16 ha) (wf_u8 hx) rfl hp
      | some qs => exact chg_yes v ps qs c a x _ w hv hM hG hf ho ⟨h3, h2⟩ (wf_u16 ha) (wf_u8 hx) rfl hp
  · exact few_no v ps a x w hv hM hG hf
end Go.Proofs.YtlmnmgokfnnbbaaGreatDoor.NamCDone
end

/- DnCopies: the walk. -/
section
set_option linter.unusedSimpArgs false
set_option linter.unusedVariables false
namespace Go.Proofs.YtlmnmgokfnnbbaaGreatDoor.NamKDone
open Go.RowKit Go.Cr Go.Lib
structure OutB (g : Nat) (w0 w : World) : Prop where
  os : w.os = w0.os
  tape : w.tape = w0.tape
  output : w.output = w0.output
  size : w.heap.size = w0.heap.size
  heap : ∀ j, j ≠ g → w.heap[j]? = w0.heap[j]?
theorem OutB.refl (g : Nat) (w : World) : OutB g w w := ⟨rfl, rfl, rfl, rfl, fun _ _ => rfl⟩
theorem OutB.store {g : Nat} {w0 w : World} (h : OutB g w0 w) (k : Nat) (u : Value) : OutB g w0 (w.setCell ⟨g, k, none⟩ u) :=
  ⟨h.os, h.tape, h.output, by simpa [World.setCell] using h.size, fun j hj => by rw [Below.heap_setCell _ _ _ _ hj]; exact h.heap j hj⟩
theorem OutB.below {g b : Nat} {w0 w : World} (h : OutB g w0 w) (hb : b ≤ g) : Below b w0 w := ⟨h.os, h.tape, h.output, Nat.le_of_eq h.size.symm, fun j hj => h.heap j (by omega)⟩
theorem OutB.blk {g j : Nat} {w0 w : World} {t : TypeId} {cs : Array Value} (h : OutB g w0 w) (hk : Blk w0 j t cs) (hj : j ≠ g) : Blk w j t cs := (h.heap j hj).trans hk
theorem OutB.rowL {α : Type} {r : Rep α} {X : Nat → Prop} {g base : Nat} {e : TypeId} {w0 w : World} {v : Value} {l : List α} (h : OutB g w0 w) (ho : OwL r X w0 base e v l) (hb : g < base) : OwL r X w base e v l := ho.keep (Nat.le_of_eq h.size.symm) fun b _ hbb _ => h.heap b (by omega)
theorem OutB.row {g base : Nat} {w0 w : World} {v : Value} {l : List UInt8} (h : OutB g w0 w) (ho : OwB w0 base 5 v l) (hb : g < base) : OwB w base 5 v l := by
  refine ⟨ho.1, ?_⟩
  rcases ho.2 with h0 | ⟨g', cap, cur, hv, hg, hh, h1, h2, h3, h4⟩
  · exact .inl h0
  · exact .inr ⟨g', cap, cur, hv, hg, by rw [h.heap g' (by omega)]; exact hh, h1, h2, h3, h4⟩
theorem u8_next (x : Int) (h0 : 0 ≤ x) (h1 : x < 256) : ∃ y, IntKind.u8.wrap (x + 1) = y ∧ 0 ≤ y ∧ y < 256 := by
  by_cases h : x = 255
  · subst h; exact ⟨0, rfl, by omega, by omega⟩
  · exact ⟨x + 1, by rw [IntKind.wrap_u8]; omega, by omega, by omega⟩
def IncRel (g cap n base : Nat) (w0 : World) (i : Value) (wr : World) : Prop :=
  ∃ (j : Nat) (l : List UInt8), j ≤ n ∧ i = .int .i64 j ∧ OutB g w0 wr ∧ l.length = n ∧ (0 < n → OwB wr base 5 (.slice (some ⟨g, 0, none⟩) n cap) l)

theorem ownG {w2 : World} {base : Nat} {u : Value} {l : List UInt8} (ho : OwB w2 base 5 u l) (hs : base < w2.heap.size) :
    ∃ (g cap : Nat) (A : Option Addr) (k : Nat), u = .slice A l.length k ∧ base ≤ g ∧ g < w2.heap.size ∧ (0 < l.length → A = some ⟨g, 0, none⟩ ∧ k = cap) := by
  by_cases h : 0 < l.length
  · obtain ⟨g, cap, hu, h1, h2, _⟩ := OwB.row ho h
    exact ⟨g, cap, _, _, hu, h1, h2, fun _ => ⟨rfl, rfl⟩⟩
  · obtain ⟨A, k, hu⟩ := isB_slice (IsR.of_own ho).bytes
    exact ⟨base, 0, A, k, hu, Nat.le_refl _, hs, fun h' => absurd h' h⟩

theorem OwB.cells {w : World} {base g cap n : Nat} {l : List UInt8} (h : OwB w base 5 (.slice (some ⟨g, 0, none⟩) n cap) l) (hl : 0 < l.length) : (∀ i, i < l.length → w.cell? ⟨g, i, none⟩ = some (.int .u8 (bat l i))) ∧ ∀ i, w.frozen? ⟨g, i, none⟩ = false := by
  obtain ⟨g', c', e, _, _, h1, h2⟩ := OwB.row h hl
  injection e with e1 _ _
  injection e1 with e1
  injection e1 with e1
  subst e1
  exact ⟨h1, h2⟩
set_option maxRecDepth 100000 in
set_option maxHeartbeats 8000000 in
theorem long (v : Value) (b : List UInt8) (w : World) (hv : IsB w v b) (hG : Glo w) (hl : 3000 < b.length) : Calls Tryz.prog 12 #[v] w (RetB (.bool true) w) := by
  have hlen := hv.len (P := Tryz.prog) ulB
  obtain ⟨A, k, rfl⟩ := isB_slice hv
  have HA : Hid (∀ W, Glo W → Calls Tryz.prog 14 #[] W (RetB (.bool true) W)) := awakeD
  have hl' : (3000 : Int) < b.length := by omega
  have HG := Lib.hid hG
  have hcur := Lib.hid (Below.refl w.heap.size w)
  clear hv hG hl
  go_enter Tryz.func12, Tryz.ntmps12
  go_wp2_with (first | ((go_at_call 14); (with_reducible refine (HA.out _ (HG.out.below hcur.out)).mono ?_); rintro e wz ⟨rfl, hbz⟩; have hcur := Lib.hid (hcur.out.trans (hbz.mono hcur.out.size)); clear hbz))
  go_ret
  exact ⟨rfl, hcur.out⟩

set_option maxRecDepth 100000 in
set_option maxHeartbeats 16000000 in
theorem cop_none (v : Value) (b : List UInt8) (w : World) (hv : IsB w v b) (hG : Glo w) (hl : b.length ≤ 3000) (hp : parNm b = none) : Calls Tryz.prog 12 #[v] w (RetB (.bool true) w) := by
  have hlen := hv.len (P := Tryz.prog) ulB
  obtain ⟨A, k, rfl⟩ := isB_slice hv
  have hpe := rparNm_eq (b := b) (by omega)
  rw [hp] at hpe
  have HA : Hid (∀ W, Glo W → Calls Tryz.prog 14 #[] W (RetB (.bool true) W)) := awakeD
  have HP : Hid (∀ W u, Glo W → IsB W u b → Calls Tryz.prog 36 #[u] W (RetPn b.length W)) := fun W u g h => by
    have := dnParse u b W g h (by omega)
    rw [hp] at this
    exact this.mono fun e w' hh => hh.no
  have HR : Hid (∀ W, IsB W (.slice A b.length k) b → Calls Tryz.prog 38 #[.slice A b.length k] W (RetB (.tuple #[.slice none 0 0, .bool false]) W)) := fun W h => by
    have := rParNm _ b W h (by omega)
    rw [hpe] at this
    exact this.mono fun e w' hh => hh.no
  have HM : Hid (∀ W, Glo W → Calls Tryz.prog 33 #[.slice none 0 0] W (RetOidY [48, 0] W)) := fun W g => (dnMarshal _ [] W g (IsNm.nil_ W) sz_nil).mono fun e w' hh => by rw [ak4] at hh; exact hh.yes
  have HQ : Hid (∀ W, Calls Tryz.prog 37 #[.slice none 0 0, .slice none 0 0] W (RetB (.bool true) W)) := fun W => by have := basNm _ _ [] [] W (IsNm.nil_ W) (IsNm.nil_ W); rwa [decide_eq_true rfl] at this
  have HB : Hid (∀ W x y, IsB W x b → IsB W y b → Calls Tryz.prog 28 #[x, y] W (RetB (.bool true) W)) := fun W x y h1 h2 => by have := bytes_any x y b b W h1 h2; rwa [decide_eq_true rfl] at this
  have hl' : (b.length : Int) ≤ 3000 := by omega
  have HG := Lib.hid hG
  have HV := Lib.hid hv
  unfold RetPn at HP
  simp only [errV] at HP
  clear hv hG hl hp hpe
  go_enter Tryz.func12, Tryz.ntmps12
  go_wp2_with (first | ((go_at_call 14); (with_reducible refine (HA.out _ HG.out).mono ?_); rintro e w1 ⟨rfl, hbw1⟩; have HG1 := Lib.hid (HG.out.below hbw1); have HV1 := Lib.hid (HV.out.below hbw1)) | (at_builtin; refine wpList_appB _ rfl _ _ 33 rfl w1.heap.size 5 ulB infoB _ [] rfl (emptyOw w1) _ b rfl (HV1.out.alloc _) (by simp; omega) (by simp) ?_; intro u2 w2 ho2 _ hb2; rw [List.nil_append] at ho2; have hs2 : w1.heap.size < w2.heap.size := (by have := hb2.size; simp at this; omega); obtain ⟨g, cap, A2, k2, rfl, hg1, hg2, hg3⟩ := ownG ho2 hs2; have HO2 := Lib.hid ho2; have HI2 := Lib.hid (show IsB w2 (.slice A2 b.length k2) b from (IsR.of_own ho2).bytes); have hb12 : Below w1.heap.size w1 w2 := ((Below.refl _ _).alloc (Nat.le_refl _) _).trans hb2; have HG2 := Lib.hid (HG1.out.below hb12); have HV2 := Lib.hid (HV1.out.below hb12); clear ho2 hb2) | ((go_at_call 36); (with_reducible refine (HP.out _ _ HG2.out HI2.out).mono ?_); rintro e w3 ⟨q, o, hq1, ho0, ho1, rfl, hbw3⟩; have hq0 : ¬ (q = 0) := (by omega); have HO3 := Lib.hid (OwB.below HO2.out hbw3); have HV3 := Lib.hid (HV2.out.below hbw3); have HI3 := Lib.hid (HI2.out.below hbw3); have K3 := Lib.hid (Blk.new w3 38 #[.int .i64 q, .int .i64 o])) | ((go_at_call 28); (with_reducible refine (HB.out _ _ _ (HI3.out.alloc _) (HV3.out.alloc _)).mono ?_); rintro e w4 ⟨rfl, hbw4⟩))
  have HO4 := Lib.hid (OwB.below (OwB.alloc HO3.out (.cells #[.int .i64 q, .int .i64 o] 38)) hbw4)
  have K4 := Lib.hid (K3.out.call hbw4)
  go_loopw [6] (fun i wr => IncRel g cap b.length w1.heap.size w4 i wr) (fun i _ => b.length - (RowKit.intOf i).toNat)
  case atStart => exact ⟨0, b, by omega, rfl, OutB.refl _ _, rfl, fun h => by obtain ⟨h1, h2⟩ := hg3 h; have := HO4.out; rw [h1, h2] at this; exact this⟩
  case round =>
    obtain ⟨j, l, hj, rfl, hout, hll, hown⟩ := hrel
    by_cases hlt : (j : Int) < b.length
    · have hn : 0 < b.length := by omega
      obtain ⟨rfl, rfl⟩ := hg3 hn
      have ho := hown hn
      obtain ⟨hcell, hfz⟩ := OwB.cells ho (by omega)
      have cj := hcell j (by omega)
      have fj := hfz j
      obtain ⟨y, hy, y0, y1⟩ := u8_next (bat l j) (bat_pos l j) (bat_lt l j)
      have HO := Lib.hid ho
      have HT := Lib.hid hout
      have HLL := Lib.hid hll
      clear hcell hfz hown ho hout hll
      generalize bat l j = x at *
      go_wp2
      go_roundw
      case rel => exact ⟨j + 1, l.set j (UInt8.ofNat y.toNat), by omega, by go_num, HT.out.store _ _, by rw [List.length_set]; exact HLL.out, fun _ => OwB.put HO.out j y y0 y1⟩
      case measure => simp [RowKit.intOf]; omega
    · have s1 := hbw1.size
      have s2 := hb12.size
      have s3 := hbw3.size
      have s4 := hbw4.size
      simp at s4
      have hw4 : Below w.heap.size w w4 := (((hbw1.trans (hb12.mono s1)).trans (hbw3.mono (by omega))).alloc (by omega) _).trans (hbw4.mono (by simp; omega))
      have hwr : Below w.heap.size w wr := hw4.trans (hout.below (by omega))
      have Kr := hout.blk K4.out (by omega)
      have K := Lib.hid Kr
      have qK := Kr.q
      have lK := Kr.lt
      have hcur := Lib.hid hwr
      have hge : (b.length : Int) ≤ j := by omega
      clear Kr hwr hw4 hout hown hll s1 s2 s3 s4
      go_wp2_with (first | ((go_at_call 33); (with_reducible refine (HM.out _ (HG.out.below hcur.out)).mono ?_); rintro e w5 ⟨v5, rfl, ho5, hbw5⟩; obtain ⟨g5, c5, rfl, hg51, hg52, _, _⟩ := OwB.row (w := w5) (base := wr.heap.size) ho5 (by decide); have HO5 := Lib.hid (show OwB w5 wr.heap.size 5 (.slice (some ⟨g5, 0, none⟩) 2 c5) [48, 0] from ho5); have HX5 := Lib.hid hbw5; have hcur := Lib.hid (hcur.out.trans (hbw5.mono hcur.out.size)); have K := Lib.hid (K.out.call hbw5); have qK := K.out.q; have lK := K.out.lt; clear ho5) | ((go_at_call 38); (with_reducible refine (HR.out _ (HV.out.below hcur.out)).mono ?_); rintro e w6 ⟨rfl, hbw6⟩; have HX6 := Lib.hid (HX5.out.trans (hbw6.mono HX5.out.size)); have hcur := Lib.hid (hcur.out.trans (hbw6.mono hcur.out.size)); have K := Lib.hid (K.out.call hbw6); have qK := K.out.q; have lK := K.out.lt; have HO56 := Lib.hid (OwB.below HO5.out hbw6)) | ((go_at_call 37); (with_reducible refine (HQ.out _).mono ?_); rintro e w7 ⟨rfl, hbw7⟩; have HO7 := Lib.hid (OwB.below HO56.out hbw7); have K7 := Lib.hid (K.out.call hbw7); have HX7 := Lib.hid (HX6.out.trans (hbw7.mono HX6.out.size))))
      obtain ⟨wm, rfl⟩ : ∃ x, x = wr := ⟨_, rfl⟩
      go_loopw [11] (fun i w8 => IncRel g5 c5 2 wm.heap.size w7 i w8) (fun i _ => 2 - (RowKit.intOf i).toNat)
      case atStart => exact ⟨0, [48, 0], by omega, rfl, OutB.refl _ _, rfl, fun _ => HO7.out⟩
      case round =>
        obtain ⟨j2, lx, hj2, rfl, hout, hll, hown⟩ := hrel
        by_cases hlt2 : (j2 : Int) < 2
        · have ho := hown (by decide)
          obtain ⟨hcell, hfz⟩ := OwB.cells ho (by omega)
          have cj := hcell j2 (by omega)
          have fj := hfz j2
          obtain ⟨y, hy, y0, y1⟩ := u8_next (bat lx j2) (bat_pos lx j2) (bat_lt lx j2)
          have HO := Lib.hid ho
          have HT := Lib.hid hout
          have HLL := Lib.hid hll
          clear hcell hfz hown ho hout hll
          generalize bat lx j2 = x at *
          go_wp2
          go_roundw
          case rel => exact ⟨j2 + 1, lx.set j2 (UInt8.ofNat y.toNat), by omega, by go_num, HT.out.store _ _, by rw [List.length_set]; exact HLL.out, fun _ => OwB.put HO.out j2 y y0 y1⟩
          case measure => simp [RowKit.intOf]; omega
        · have hcz := hcur.out.size
          have hcur := Lib.hid ((hcur.out.trans (HX7.out.mono hcz)).trans (hout.below (by omega)))
          have hge2 : (2 : Int) ≤ j2 := by omega
          clear hout hown hll K qK lK
          go_wp2
          go_ret
          exact ⟨rfl, hcur.out⟩

set_option maxRecDepth 100000 in
set_option maxHeartbeats 16000000 in
theorem cop_some (v : Value) (b : List UInt8) (ms : Nam) (w : World) (hv : IsB w v b) (hG : Glo w) (hl : b.length ≤ 3000) (hp : parNm b = some ms) : Calls Tryz.prog 12 #[v] w (RetB (.bool true) w) := by
  have hlen := hv.len (P := Tryz.prog) ulB
  obtain ⟨A, k, rfl⟩ := isB_slice hv
  have hpe := rparNm_eq (b := b) (by omega)
  rw [hp] at hpe
  have hz := szN_par (by omega) hp
  have hmar := parNm_mar hp
  have hbl : 0 < b.length := by have := mar_two hmar; omega
  have HBL := Lib.hid hbl
  have HA : Hid (∀ W, Glo W → Calls Tryz.prog 14 #[] W (RetB (.bool true) W)) := awakeD
  have HP : Hid (∀ W u, Glo W → IsB W u b → Calls Tryz.prog 36 #[u] W (fun e w' => ∃ A k, e = .returned (.tuple #[.slice A ms.length k, errV (0, 0)]) ∧ OwL (repL repA) (fun _ => True) w' W.heap.size 30 (.slice A ms.length k) ms ∧ Below W.heap.size W w')) := fun W u g h => by
    have := dnParse u b W g h (by omega)
    rw [hp] at this
    exact this.mono fun e w' hh => by
      obtain ⟨hb, A, k, he, ho⟩ := hh
      exact ⟨A, k, he, ho, hb⟩
  have HR : Hid (∀ W, IsB W (.slice A b.length k) b → Calls Tryz.prog 38 #[.slice A b.length k] W (RetDw ms W)) := fun W h => rParNm_own _ b ms W h (by omega) hpe
  have HM : Hid (∀ W a, Glo W → IsNm W a ms → Calls Tryz.prog 33 #[a] W (RetOidY b W)) := fun W a g h => (dnMarshal a ms W g h hz).mono fun e w' hh => by rw [hmar] at hh; exact hh.yes
  have HQ : Hid (∀ W x y, IsNm W x ms → IsNm W y ms → Calls Tryz.prog 37 #[x, y] W (RetB (.bool true) W)) := fun W x y h1 h2 => by have := basNm x y ms ms W h1 h2; rwa [decide_eq_true rfl] at this
  have HB : Hid (∀ W x y, IsB W x b → IsB W y b → Calls Tryz.prog 28 #[x, y] W (RetB (.bool true) W)) := fun W x y h1 h2 => by have := bytes_any x y b b W h1 h2; rwa [decide_eq_true rfl] at this
  have hl' : (b.length : Int) ≤ 3000 := by omega
  have HG := Lib.hid hG
  have HV := Lib.hid hv
  simp only [errV] at HP
  clear hv hG hl hp hpe hz hmar hbl
  go_enter Tryz.func12, Tryz.ntmps12
  go_wp2_with (first | ((go_at_call 14); (with_reducible refine (HA.out _ HG.out).mono ?_); rintro e w1 ⟨rfl, hbw1⟩; have HG1 := Lib.hid (HG.out.below hbw1); have HV1 := Lib.hid (HV.out.below hbw1)) | (at_builtin; refine wpList_appB _ rfl _ _ 33 rfl w1.heap.size 5 ulB infoB _ [] rfl (emptyOw w1) _ b rfl (HV1.out.alloc _) (by simp; omega) (by simp) ?_; intro u2 w2 ho2 _ hb2; rw [List.nil_append] at ho2; have hs2 : w1.heap.size < w2.heap.size := (by have := hb2.size; simp at this; omega); obtain ⟨g, cap, A2, k2, rfl, hg1, hg2, hg3⟩ := ownG ho2 hs2; have HO2 := Lib.hid ho2; have HI2 := Lib.hid (show IsB w2 (.slice A2 b.length k2) b from (IsR.of_own ho2).bytes); have hb12 : Below w1.heap.size w1 w2 := ((Below.refl _ _).alloc (Nat.le_refl _) _).trans hb2; have HG2 := Lib.hid (HG1.out.below hb12); have HV2 := Lib.hid (HV1.out.below hb12); clear ho2 hb2) | ((go_at_call 36); (with_reducible refine (HP.out _ _ HG2.out HI2.out).mono ?_); rintro e w3 ⟨A3, k3, rfl, ho3, hbw3⟩; have HP3 := Lib.hid ho3; clear ho3; have HO3 := Lib.hid (OwB.below HO2.out hbw3); have HV3 := Lib.hid (HV2.out.below hbw3); have HI3 := Lib.hid (HI2.out.below hbw3); have K3 := Lib.hid (Blk.new w3 38 #[.int .i64 0, .int .i64 0])) | ((go_at_call 28); (with_reducible refine (HB.out _ _ _ (HI3.out.alloc _) (HV3.out.alloc _)).mono ?_); rintro e w4 ⟨rfl, hbw4⟩))
  have HO4 := Lib.hid (OwB.below (OwB.alloc HO3.out (.cells #[.int .i64 0, .int .i64 0] 38)) hbw4)
  have HP4 := Lib.hid (OwL.below (OwL.alloc HP3.out (.cells #[.int .i64 0, .int .i64 0] 38)) hbw4)
  have K4 := Lib.hid (K3.out.call hbw4)
  go_loopw [6] (fun i wr => IncRel g cap b.length w1.heap.size w4 i wr) (fun i _ => b.length - (RowKit.intOf i).toNat)
  case atStart => exact ⟨0, b, by omega, rfl, OutB.refl _ _, rfl, fun h => by obtain ⟨h1, h2⟩ := hg3 h; have := HO4.out; rw [h1, h2] at this; exact this⟩
  case round =>
    obtain ⟨j, lx, hj, rfl, hout, hll, hown⟩ := hrel
    by_cases hlt : (j : Int) < b.length
    · have hn : 0 < b.length := by omega
      obtain ⟨rfl, rfl⟩ := hg3 hn
      have ho := hown hn
      obtain ⟨hcell, hfz⟩ := OwB.cells ho (by omega)
      have cj := hcell j (by omega)
      have fj := hfz j
      obtain ⟨y, hy, y0, y1⟩ := u8_next (bat lx j) (bat_pos lx j) (bat_lt lx j)
      have HO := Lib.hid ho
      have HT := Lib.hid hout
      have HLL := Lib.hid hll
      clear hcell hfz hown ho hout hll
      generalize bat lx j = x at *
      go_wp2
      go_roundw
      case rel => exact ⟨j + 1, lx.set j (UInt8.ofNat y.toNat), by omega, by go_num, HT.out.store _ _, by rw [List.length_set]; exact HLL.out, fun _ => OwB.put HO.out j y y0 y1⟩
      case measure => simp [RowKit.intOf]; omega
    · have s1 := hbw1.size
      have s2 := hb12.size
      have s3 := hbw3.size
      have s4 := hbw4.size
      simp at s4
      have hw4 : Below w.heap.size w w4 := (((hbw1.trans (hb12.mono s1)).trans (hbw3.mono (by omega))).alloc (by omega) _).trans (hbw4.mono (by simp; omega))
      have hwr : Below w.heap.size w wr := hw4.trans (hout.below (by omega))
      have Kr := hout.blk K4.out (by omega)
      have K := Lib.hid Kr
      have qK := Kr.q
      have lK := Kr.lt
      have hcur := Lib.hid hwr
      have HL := Lib.hid (hout.rowL HP4.out hg2)
      have HPr := Lib.hid (isNm_of (hout.rowL HP4.out hg2).isL)
      have hge : (b.length : Int) ≤ j := by omega
      clear Kr hwr hw4 hout hown hll s1 s2 s3 s4
      go_wp2_with (first | ((go_at_call 33); (with_reducible refine (HM.out _ _ (HG.out.below hcur.out) HPr.out).mono ?_); rintro e w5 ⟨v5, rfl, ho5, hbw5⟩; obtain ⟨g5, c5, rfl, hg51, hg52, _, _⟩ := OwB.row (w := w5) (base := wr.heap.size) ho5 HBL.out; have HO5 := Lib.hid (show OwB w5 wr.heap.size 5 (.slice (some ⟨g5, 0, none⟩) b.length c5) b from ho5); have HX5 := Lib.hid hbw5; have hcur := Lib.hid (hcur.out.trans (hbw5.mono hcur.out.size)); have K := Lib.hid (K.out.call hbw5); have qK := K.out.q; have lK := K.out.lt; clear ho5) | ((go_at_call 38); (with_reducible refine (HR.out _ (HV.out.below hcur.out)).mono ?_); rintro e w6 ⟨A6, k6, rfl, ho6, hbw6⟩; have HO6 := Lib.hid ho6; have HI6 := Lib.hid (isNm_of ho6.isL); have HX6 := Lib.hid (HX5.out.trans (hbw6.mono HX5.out.size)); have hcur := Lib.hid (hcur.out.trans (hbw6.mono hcur.out.size)); have K := Lib.hid (K.out.call hbw6); have qK := K.out.q; have lK := K.out.lt; have HO56 := Lib.hid (OwB.below HO5.out hbw6); have HI36 := Lib.hid (HPr.out.below HX6.out); clear ho6) | ((go_at_call 37); (with_reducible refine (HQ.out _ _ _ HI36.out HI6.out).mono ?_); rintro e w7 ⟨rfl, hbw7⟩; have HO7 := Lib.hid (OwB.below HO56.out hbw7); have HR7 := Lib.hid (OwL.below HO6.out hbw7); have K7 := Lib.hid (K.out.call hbw7); have HX7 := Lib.hid (HX6.out.trans (hbw7.mono HX6.out.size)); have hs56 := hbw6.size))
      obtain ⟨wm, rfl⟩ : ∃ x, x = wr := ⟨_, rfl⟩
      go_loopw [11] (fun i w8 => IncRel g5 c5 b.length wm.heap.size w7 i w8) (fun i _ => b.length - (RowKit.intOf i).toNat)
      case atStart => exact ⟨0, b, by omega, rfl, OutB.refl _ _, rfl, fun _ => HO7.out⟩
      case round =>
        obtain ⟨j2, lx, hj2, rfl, hout, hll, hown⟩ := hrel
        by_cases hlt2 : (j2 : Int) < b.length
        · have ho := hown HBL.out
          obtain ⟨hcell, hfz⟩ := OwB.cells ho (by omega)
          have cj := hcell j2 (by omega)
          have fj := hfz j2
          obtain ⟨y, hy, y0, y1⟩ := u8_next (bat lx j2) (bat_pos lx j2) (bat_lt lx j2)
          have HO := Lib.hid ho
          have HT := Lib.hid hout
          have HLL := Lib.hid hll
          clear hcell hfz hown ho hout hll
          generalize bat lx j2 = x at *
          go_wp2
          go_roundw
          case rel => exact ⟨j2 + 1, lx.set j2 (UInt8.ofNat y.toNat), by omega, by go_num, HT.out.store _ _, by rw [List.length_set]; exact HLL.out, fun _ => OwB.put HO.out j2 y y0 y1⟩
          case measure => simp [RowKit.intOf]; omega
        · have HV8 := Lib.hid (HPr.out.below (HX7.out.trans (hout.below hg51)))
          have HR8 := Lib.hid (isNm_of (hout.rowL HR7.out hg52).isL)
          have hcz := hcur.out.size
          have hcur := Lib.hid ((hcur.out.trans (HX7.out.mono hcz)).trans (hout.below (by omega)))
          have hge2 : (b.length : Int) ≤ j2 := by omega
          clear hout hown hll K qK lK
          go_wp2_with (first | ((go_at_call 37); (with_reducible refine (HQ.out _ _ _ HV8.out HR8.out).mono ?_); rintro e w9 ⟨rfl, hbw9⟩; have hcur := Lib.hid (hcur.out.trans (hbw9.mono hcur.out.size))))
          go_ret
          exact ⟨rfl, hcur.out⟩

theorem walk (v : Value) (b : List UInt8) (w : World) (hv : IsB w v b) (hG : Glo w) : Calls Tryz.prog 12 #[v] w (RetB (.bool true) w) := by
  by_cases hl : b.length ≤ 3000
  · cases hp : parNm b with
    | none => exact cop_none v b w hv hG hl hp
    | some x => exact cop_some v b x w hv hG hl hp
  · exact long v b w hv hG (by omega)
end Go.Proofs.YtlmnmgokfnnbbaaGreatDoor.NamKDone
end
