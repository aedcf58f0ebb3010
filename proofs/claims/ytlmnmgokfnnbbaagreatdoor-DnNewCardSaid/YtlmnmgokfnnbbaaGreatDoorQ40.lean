/- The parts LawNew of one proof, one behind the other. -/
import Derived.Test.YtlmnmgokfnnbbaaGreatDoorQ12
import Derived.Test.YtlmnmgokfnnbbaaGreatDoorQ35
import Derived.Test.YtlmnmgokfnnbbaaGreatDoorQ39

/- DnNew: the walk. -/
section
set_option linter.unusedSimpArgs false
set_option linter.unusedVariables false
namespace Go.Proofs.YtlmnmgokfnnbbaaGreatDoor.NewDone
open Go.RowKit Go.Cr
set_option maxRecDepth 100000 in
set_option maxHeartbeats 8000000 in
theorem walk_far (v : Value) (l : Rdn) (m : Value) (ml : List UInt8) (w : World) (hv : IsQs w v l) (hM : BdR 140737488351232 l) (hm : IsB w m ml) (hG : Glo w) (hL : 20 < ml.length) : Calls Tryz.prog 13 #[v, m] w (RetB (.bool true) w) := by
  have HA : Hid (∀ W, Glo W → Calls Tryz.prog 14 #[] W (RetB (.bool true) W)) := awakeD
  have HF : Hid (∀ W, IsQs W v l → Calls Tryz.prog 23 #[v] W (RetFr l W)) := fun W h => rFewRDN v l W h hM
  have HV := Lib.hid hv
  have HG := Lib.hid hG
  have hlm := hm.len (P := Tryz.prog) ulB
  have hd : decide ((ml.length : Int) > 20) = true := decide_eq_true (by omega)
  have hd' : decide ((20 : Int) < ml.length) = true := decide_eq_true (by omega)
  have hcur := Lib.hid (Below.refl w.heap.size w)
  obtain ⟨A, k, rfl⟩ := isQs_slice hv
  obtain ⟨A', k', rfl⟩ := isB_slice hm
  clear hv hM hm hG
  go_enter Tryz.func13, Tryz.ntmps13
  go_wp2_with (first | ((go_at_call 14); (with_reducible refine (HA.out _ (HG.out.below hcur.out)).mono ?_); rintro e wz ⟨rfl, hbz⟩; have hcur := Lib.hid (hcur.out.trans (hbz.mono hcur.out.size)); clear hbz) | ((go_at_call 23); (with_reducible refine (HF.out _ (HV.out.below hcur.out)).mono ?_); rintro e wz ⟨b, rfl, hb, hbz⟩; have hcur := Lib.hid (hcur.out.trans (hbz.mono hcur.out.size)); have HFW := Lib.hid hb; clear hb hbz; cases b))
  all_goals go_ret
  all_goals exact ⟨rfl, hcur.out⟩
set_option maxRecDepth 100000 in
set_option maxHeartbeats 8000000 in
theorem walk_no (v : Value) (l : Rdn) (m : Value) (ml : List UInt8) (w : World) (hv : IsQs w v l) (hM : BdR 140737488351232 l) (hm : IsB w m ml) (hG : Glo w) (hL : ml.length ≤ 20) (h0 : optL marX l = none ∨ l = []) : Calls Tryz.prog 13 #[v, m] w (RetB (.bool true) w) := by
  have HA : Hid (∀ W, Glo W → Calls Tryz.prog 14 #[] W (RetB (.bool true) W)) := awakeD
  have HF : Hid (∀ W, IsQs W v l → Calls Tryz.prog 23 #[v] W (RetFr l W)) := fun W h => rFewRDN v l W h hM
  have HV := Lib.hid hv
  have HG := Lib.hid hG
  have HPN : Hid (FwR l → ∀ W, Glo W → IsQs W v l → Calls Tryz.prog 39 #[v] W (RetB (.tuple #[.slice none 0 0, .int .i64 8]) W)) := Lib.hid (fun z W g h => by
    rcases h0 with h0 | rfl
    · exact newN_ v l W g h z.sz h0
    · exact newZ_ v W h)
  have HRN : Hid (FwR l → ∀ W, IsQs W v l → Calls Tryz.prog 40 #[v] W (RetB (.tuple #[.slice none 0 0, .int .i64 8]) W)) := Lib.hid (fun z W h => by
    rcases h0 with h0 | rfl
    · exact rNewN v l W h z.sz h0
    · exact rNewZ v W h)
  have HBR : Hid (∀ W, Calls Tryz.prog 26 #[.slice none 0 0, .slice none 0 0] W (RetB (.bool true) W)) := Lib.hid (fun W => by have := basRdn (.slice none 0 0) (.slice none 0 0) [] [] W (isQs_nil W) (isQs_nil W); rwa [decide_eq_true rfl] at this)
  have hlm := hm.len (P := Tryz.prog) ulB
  have hd : decide ((ml.length : Int) > 20) = false := decide_eq_false (by omega)
  have hd' : decide ((20 : Int) < ml.length) = false := decide_eq_false (by omega)
  have hcur := Lib.hid (Below.refl w.heap.size w)
  obtain ⟨A, k, rfl⟩ := isQs_slice hv
  obtain ⟨A', k', rfl⟩ := isB_slice hm
  clear hv hM hm hG h0
  go_enter Tryz.func13, Tryz.ntmps13
  go_wp2_with (first | ((go_at_call 14); (with_reducible refine (HA.out _ (HG.out.below hcur.out)).mono ?_); rintro e wz ⟨rfl, hbz⟩; have hcur := Lib.hid (hcur.out.trans (hbz.mono hcur.out.size)); clear hbz) | ((go_at_call 23); (with_reducible refine (HF.out _ (HV.out.below hcur.out)).mono ?_); rintro e wz ⟨b, rfl, hb, hbz⟩; have hcur := Lib.hid (hcur.out.trans (hbz.mono hcur.out.size)); have HFW := Lib.hid hb; clear hb hbz; cases b) | ((go_at_call 39); (with_reducible refine (HPN.out (HFW.out (by trivial)) _ (HG.out.below hcur.out) (HV.out.below hcur.out)).mono ?_); rintro e wz ⟨rfl, hbz⟩; have hcur := Lib.hid (hcur.out.trans (hbz.mono hcur.out.size)); clear hbz) | ((go_at_call 40); (with_reducible refine (HRN.out (HFW.out (by trivial)) _ (HV.out.below hcur.out)).mono ?_); rintro e wz ⟨rfl, hbz⟩; have hcur := Lib.hid (hcur.out.trans (hbz.mono hcur.out.size)); clear hbz) | ((go_at_call 26); (with_reducible refine (HBR.out _).mono ?_); rintro e wz ⟨rfl, hbz⟩; have hcur := Lib.hid (hcur.out.trans (hbz.mono hcur.out.size)); clear hbz))
  all_goals go_ret
  all_goals exact ⟨rfl, hcur.out⟩
def NlRel (l : Rdn) (W0 : World) (mv ix : Value) (wr : World) : Prop := ∃ (i : Nat) (ms : Rdn), ix = .int .i64 (i : Int) ∧ i ≤ 20 ∧ IsQs wr mv ms ∧ (∀ a, a ∈ ms ↔ a ∈ l) ∧ ms.length = l.length + i ∧ Below W0.heap.size W0 wr
set_option maxRecDepth 100000 in
set_option maxHeartbeats 16000000 in
theorem walk_yes (v : Value) (l : Rdn) (m : Value) (ml : List UInt8) (ps : List (List UInt8)) (w : World) (hv : IsQs w v l) (hM : BdR 140737488351232 l) (hm : IsB w m ml) (hG : Glo w) (hL : ml.length ≤ 20) (h0 : optL marX l = some ps) (hne : l.length ≠ 0) : Calls Tryz.prog 13 #[v, m] w (RetB (.bool true) w) := by
  have HA : Hid (∀ W, Glo W → Calls Tryz.prog 14 #[] W (RetB (.bool true) W)) := awakeD
  have HF : Hid (∀ W, IsQs W v l → Calls Tryz.prog 23 #[v] W (RetFr l W)) := fun W h => rFewRDN v l W h hM
  have HV := Lib.hid hv
  have HO := Lib.hid hm
  have HG := Lib.hid hG
  have HPN : Hid (FwR l → ∀ (ms : Rdn), (∀ a, a ∈ ms ↔ a ∈ l) → ms.length ≤ 100 → ms.length ≠ 0 → ∀ W u, Glo W → IsQs W u ms → Calls Tryz.prog 39 #[u] W (RetNwY ms W)) := Lib.hid (fun z ms hms hl h1 W u g h => by
    obtain ⟨qs, hq⟩ := optX_mix h0 fun a ha => (hms a).1 ha
    exact newY_ u ms qs W g h (szR_mix z (fun a ha => (hms a).1 ha) hl) hq h1 (fun y hy => by have := marX_few z (fun a ha => (hms a).1 ha) hq y hy; omega))
  have HRN : Hid (FwR l → ∀ W, IsQs W v l → Calls Tryz.prog 40 #[v] W (RetNwY l W)) := Lib.hid (fun z W h => rNewY v l ps W h z.sz h0 hne (marX_few z (fun a ha => ha) h0))
  have HBR : Hid (∀ W x y (r : Rdn), IsQs W x r → IsQs W y r → Calls Tryz.prog 26 #[x, y] W (RetB (.bool true) W)) := Lib.hid (fun W x y r h1 h2 => by have := basRdn x y r r W h1 h2; rwa [decide_eq_true rfl] at this)
  have HVR : Hid (FwR l → ∀ r, NewOf l r → ∀ W x, Glo W → IsQs W x r → Calls Tryz.prog 30 #[x] W (RetB (.bool true) W)) := Lib.hid (fun z r hr W x g h => by have := dnValidRDN x r W g h (hr.sz z.sz); rwa [hr.valid hne] at this)
  have hlm := hm.len (P := Tryz.prog) ulB
  have hll := hv.len (P := Tryz.prog) ulAts
  have hd : decide ((ml.length : Int) > 20) = false := decide_eq_false (by omega)
  have hd' : decide ((20 : Int) < ml.length) = false := decide_eq_false (by omega)
  have hpos : 0 < l.length := by omega
  have hpos' : (0 : Int) < l.length := by omega
  have hnz : ((l.length : Int) == 0) = false := beq_eq_false_iff_ne.2 (by omega)
  have hcur := Lib.hid (Below.refl w.heap.size w)
  obtain ⟨A, k, rfl⟩ := isQs_slice hv
  obtain ⟨A', k', rfl⟩ := isB_slice hm
  clear hv hM hm hG h0 hne
  go_enter Tryz.func13, Tryz.ntmps13
  go_wp2_with (first | ((go_at_call 14); (with_reducible refine (HA.out _ (HG.out.below hcur.out)).mono ?_); rintro e wz ⟨rfl, hbz⟩; have hcur := Lib.hid (hcur.out.trans (hbz.mono hcur.out.size)); clear hbz) | ((go_at_call 23); (with_reducible refine (HF.out _ (HV.out.below hcur.out)).mono ?_); rintro e wz ⟨b, rfl, hb, hbz⟩; have hcur := Lib.hid (hcur.out.trans (hbz.mono hcur.out.size)); have HFW := Lib.hid hb; clear hb hbz; cases b))
  · go_ret
    exact ⟨rfl, hcur.out⟩
  · have HZ := Lib.hid (HFW.out (by trivial))
    have hl8 := HZ.out.1
    have HP1 := Lib.hid (HPN.out HZ.out l (fun a => Iff.rfl) (by omega) (by omega))
    unfold RetNwY at HP1 HRN
    go_wp2_with (first | ((go_at_call 39); (with_reducible refine (HP1.out _ _ (HG.out.below hcur.out) (HV.out.below hcur.out)).mono ?_); rintro e wz ⟨r, A3, k3, hnw, rfl, ho3, hbz⟩; have HN3 := Lib.hid hnw; have HI3 := Lib.hid (isAs_of ho3.isL); have hcur := Lib.hid (hcur.out.trans (hbz.mono hcur.out.size)); clear hnw ho3 hbz) | ((go_at_call 40); (with_reducible refine (HRN.out HZ.out _ (HV.out.below hcur.out)).mono ?_); rintro e wz ⟨r4, A4, k4, hnw, rfl, ho4, hbz⟩; obtain rfl := HN3.out.uniq hnw; have HI3 := Lib.hid (HI3.out.below hbz); have HI4 := Lib.hid (isAs_of ho4.isL); have hcur := Lib.hid (hcur.out.trans (hbz.mono hcur.out.size)); clear hnw ho4 hbz) | ((go_at_call 26); (with_reducible refine (HBR.out _ _ _ _ HI3.out HI4.out).mono ?_); rintro e w5 ⟨rfl, hbz⟩; have HI3 := Lib.hid (HI3.out.below hbz); have hcur := Lib.hid (hcur.out.trans (hbz.mono hcur.out.size)); have HV5 := Lib.hid (HV.out.below hcur.out); clear hbz) | (at_builtin; refine wpList_appQ rfl _ _ rfl _ _ (.slice (some ⟨w5.heap.size, 0, none⟩) 0 0) [] [] rfl (litQ0 w5) ⟨rfl, fun j h => absurd h (by simp)⟩ (.slice A l.length k) l rfl HV5.out (by simp; omega) ?_; intro u8 w8 hq8 hb8; rw [List.nil_append] at hq8; have HQ8 := Lib.hid hq8; have HI3 := Lib.hid (HI3.out.below hb8); have hcur := Lib.hid (hcur.out.trans (hb8.mono hcur.out.size)); clear hq8 hb8))
    clear HP1 HRN
    go_loopw [9, 10] (fun mv ix wr => NlRel l w8 mv ix wr) (fun _ ix _ => ml.length + 1 - (intOf ix).toNat)
    case atStart => exact ⟨0, l, rfl, by omega, HQ8.out, fun a => Iff.rfl, rfl, Below.refl _ _⟩
    case round =>
      obtain ⟨i, ms, rfl, hi20, hq, hmem, hlen, hbel⟩ := hrel
      obtain ⟨A9, k9, rfl⟩ := isQs_slice hq
      have HQ := Lib.hid hq
      have HMM := Lib.hid hmem
      have HLN := Lib.hid hlen
      have HBR8 := Lib.hid hbel
      have HCR := Lib.hid (hcur.out.trans (hbel.mono hcur.out.size))
      clear hq hmem hlen
      by_cases hlt : (i : Int) < ml.length
      · obtain ⟨bo, oo, hi1, hbo, hco⟩ := (HO.out.below HCR.out).at_ (P := Tryz.prog) ulB szB .i64 (i := i) (by omega) hlt
        simp only [Int.toNat_natCast] at hco
        have hx0 := bat_pos ml i
        have hx1 := bat_lt ml i
        obtain ⟨x, hx⟩ : ∃ x : Nat, bat ml i = x := ⟨(bat ml i).toNat, by omega⟩
        rw [hx] at hco hx0 hx1
        have hm0 : x % l.length < l.length := Nat.mod_lt _ hpos
        obtain ⟨m0, hm0e⟩ : ∃ m0, x % l.length = m0 := ⟨_, rfl⟩
        rw [hm0e] at hm0
        have htm : ((x : Int)).tmod (l.length : Int) = (m0 : Int) := by rw [Int.tmod_eq_emod_of_nonneg (by omega), ← hm0e]; rfl
        obtain ⟨b2, o2, A2, k2, hi2, hl2, hc2, hd2, hI2⟩ := (HV.out.below HCR.out).at_ (P := Tryz.prog) ulAts szAtt .i64 m0 hm0
        have HM2 : Hid (∀ y, y ∈ [l[m0]] ++ ms ↔ y ∈ l) := Lib.hid (fun y => by
          rw [List.mem_append, List.mem_singleton, HMM.out y]
          exact ⟨fun h => h.elim (fun e => e ▸ List.getElem_mem hm0) id, .inr⟩)
        have HI2 := Lib.hid hI2
        have hlm3 : ms.length ≤ 100 := by have := HLN.out; omega
        have HLM := Lib.hid hlm3
        clear hx hm0e hI2 hbel hlm3
        generalize l[m0] = p at *
        obtain ⟨s, l2⟩ := p
        simp only at hc2 hd2 HI2
        have hm0I : (m0 : Int) < l.length := by omega
        go_wp2_with (at_builtin; refine wpList_appQ rfl _ _ rfl _ _ (.slice (some ⟨wr.heap.size, 0, none⟩) 1 1) [(s, l2)] [.string s, .slice A2 l2.length k2] rfl (litQ1 wr s _ l2) ⟨rfl, fun j h => (by simp at h; subst h; exact ⟨_, rfl, HI2.out⟩)⟩ (.slice A9 ms.length k9) ms rfl HQ.out (by have := HLM.out; simp; omega) ?_)
        intro u9 w9 hq9 hb9
        have HQ9 := Lib.hid hq9
        have HB9 := Lib.hid (HBR8.out.trans (hb9.mono HBR8.out.size))
        clear hq9 hb9
        go_wp2
        go_roundw
        case rel => exact ⟨i + 1, [(s, l2)] ++ ms, by go_num, by omega, HQ9.out, HM2.out, by have := HLN.out; simp; omega, HB9.out⟩
        case measure => simp [intOf]; omega
      · have hlm3 : ms.length ≤ 100 := by have := HLN.out; omega
        have hlm4 : ms.length ≠ 0 := by have := HLN.out; omega
        have HP2 := Lib.hid (HPN.out HZ.out ms HMM.out hlm3 hlm4)
        unfold RetNwY at HP2
        have HIR := Lib.hid (HI3.out.below hbel)
        have HGR := Lib.hid (HG.out.below HCR.out)
        have HVX := Lib.hid (HVR.out HZ.out r HN3.out)
        clear hlm3 hlm4 hbel
        go_wp2_with (first | ((go_at_call 39); (with_reducible refine (HP2.out _ _ HGR.out HQ.out).mono ?_); rintro e wz ⟨r4, A5, k5, hnw, rfl, ho5, hbz⟩; obtain rfl := HN3.out.congr hnw HMM.out; have HIR := Lib.hid (HIR.out.below hbz); have HGR := Lib.hid (HGR.out.below hbz); have HI5 := Lib.hid (isAs_of ho5.isL); have HCR := Lib.hid (HCR.out.trans (hbz.mono HCR.out.size)); clear hnw ho5 hbz) | ((go_at_call 30); (with_reducible refine (HVX.out _ _ HGR.out HIR.out).mono ?_); rintro e wz ⟨rfl, hbz⟩; have HIR := Lib.hid (HIR.out.below hbz); have HI5 := Lib.hid (HI5.out.below hbz); have HCR := Lib.hid (HCR.out.trans (hbz.mono HCR.out.size)); clear hbz) | ((go_at_call 26); (with_reducible refine (HBR.out _ _ _ _ HI5.out HIR.out).mono ?_); rintro e wz ⟨rfl, hbz⟩; have HCR := Lib.hid (HCR.out.trans (hbz.mono HCR.out.size)); clear hbz))
        go_ret
        exact ⟨rfl, HCR.out⟩
theorem walk (v : Value) (l : Rdn) (m : Value) (ml : List UInt8) (w : World) (hv : IsQs w v l) (hM : BdR 140737488351232 l) (hm : IsB w m ml) (hG : Glo w) : Calls Tryz.prog 13 #[v, m] w (RetB (.bool true) w) := by
  by_cases hL : ml.length ≤ 20
  · by_cases hne : l.length = 0
    · exact walk_no v l m ml w hv hM hm hG hL (.inr (List.eq_nil_of_length_eq_zero hne))
    · cases h0 : optL marX l with
      | none => exact walk_no v l m ml w hv hM hm hG hL (.inl h0)
      | some ps => exact walk_yes v l m ml ps w hv hM hm hG hL h0 hne
  · exact walk_far v l m ml w hv hM hm hG (by omega)
end Go.Proofs.YtlmnmgokfnnbbaaGreatDoor.NewDone
end
