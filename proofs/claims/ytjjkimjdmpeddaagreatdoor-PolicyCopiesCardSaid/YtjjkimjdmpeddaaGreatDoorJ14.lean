/- The parts PolS, PolT, PolU, FewP of one proof, one behind the other. -/
import Derived.Test.YtjjkimjdmpeddaaGreatDoorJ12
import Derived.Test.YtjjkimjdmpeddaaGreatDoorJ07
import Derived.Test.YtjjkimjdmpeddaaGreatDoorJ13
import Derived.Deep.QuietTactic
import Derived.BigQuiet

/- Walks over the reference's layer 17: Valid, Allows. -/
section
set_option linter.unusedSimpArgs false
set_option linter.unusedVariables false
namespace Go.Proofs.YtjjkimjdmpeddaaGreatDoor
open Go.RowKit Go.Cr

def R17v (ps : List Pol) (w : World) (ix : Value) (wr : World) : Prop := ∃ i : Nat, ix = .int .i64 (i : Int) ∧ i ≤ ps.length ∧ (∀ j, j < i → okP1 ps j = true) ∧ Below w.heap.size w wr
def R17k (ps : List Pol) (i : Nat) (w : World) (ix : Value) (wr : World) : Prop := ∃ k : Nat, ix = .int .i64 (k : Int) ∧ k ≤ i ∧ (∀ m, m < k → (ps.getD m default).1 ≠ (ps.getD i default).1) ∧ Below w.heap.size w wr
def R17q (qs : List Qual) (w : World) (ix : Value) (wr : World) : Prop := ∃ k : Nat, ix = .int .i64 (k : Int) ∧ k ≤ qs.length ∧ (∀ m, m < k → okQ (qs.getD m default) = true) ∧ Below w.heap.size w wr
set_option maxRecDepth 100000 in
set_option maxHeartbeats 16000000 in
theorem rValid17 (v : Value) (ps : List Pol) (w : World) (hv : IsPs w v ps) (hz : SzP ps) : Calls Tryz.prog 39 #[v] w (RetB (.bool (okP ps)) w) := by
  have hlen := hv.len (P := Tryz.prog) ulPs
  have HO : Hid (∀ p ∈ ps, ∀ W, Calls Tryz.prog 72 #[.string p.1] W (RetB (.bool (arcsL p.1.data.toList).isSome) W)) := fun p h W => rOidValid _ W (by have := (hz.2 _ h).1; omega)
  have HQ : Hid (∀ p ∈ ps, ∀ q ∈ p.2, ∀ W, Calls Tryz.prog 72 #[.string q.1] W (RetB (.bool (arcsL q.1.data.toList).isSome) W)) := fun p h q hq W => rOidValid _ W (by have := ((hz.2 _ h).2.2 _ hq).1; omega)
  have HT : Hid (∀ p ∈ ps, ∀ q ∈ p.2, ∀ u W, IsB W u q.2 → Calls Tryz.prog 80 #[u] W (RetB (.bool (decide (treeOK 16 q.2))) W)) := fun p h q hq u W hu => rOpen_any u _ W hu (by have := ((hz.2 _ h).2.2 _ hq).2; omega)
  have HQN : Hid (∀ p ∈ ps, p.2.length ≤ 10000) := fun p h => (hz.2 _ h).2.1
  have HV := Lib.hid hv
  obtain ⟨A, c, rfl⟩ := isPs_slice hv
  have hnI : (ps.length : Int) ≤ 10000 := by have := hz.1; omega
  obtain ⟨B, hB⟩ : ∃ B, okP ps = B := ⟨_, rfl⟩
  rw [hB]
  have HBB := Lib.hid hB
  clear hv hz hB
  go_enter Tryz.func39, Tryz.ntmps39
  go_wp2_with fail
  go_loopw [3] (fun ix wr => R17v ps w ix wr) (fun ix _ => ps.length + 1 - (intOf ix).toNat)
  case atStart => exact ⟨0, rfl, Nat.zero_le _, fun j h => by omega, Below.refl _ _⟩
  case round =>
    obtain ⟨i, rfl, hi, hall, hbel⟩ := hrel
    obtain ⟨wo, rfl⟩ : ∃ wo, wo = wr := ⟨_, rfl⟩
    have HALL := Lib.hid hall
    have HBR := Lib.hid hbel
    clear hall
    by_cases hlt : i < ps.length
    · have hbad : okP1 ps i = false → B = false := fun h => by
        rw [← HBB.out, Bool.eq_false_iff]
        intro hb
        unfold okP at hb
        rw [Bool.and_eq_true, List.all_eq_true] at hb
        have := hb.2 i (by simp [hlt])
        rw [h] at this; cases this
      have HBAD := Lib.hid hbad
      obtain ⟨b2, o2, A2, k2, hi2, hl2, hc1, hc2, hIQ⟩ := HV.out.at_ (P := Tryz.prog) ulPs szPol .i64 i hlt
      have h1o : wo.cell? ⟨b2, o2, none⟩ = some (.string ps[i].1) := (hbel.cell (p := ⟨b2, o2, none⟩) hl2).trans hc1
      have HC1 := Lib.hid hc1
      have HC2 := Lib.hid hc2
      have HIQ := Lib.hid hIQ
      have hgd : ps.getD i default = ps[i] := by simp [hlt]
      have HGD := Lib.hid hgd
      have hltI : (i : Int) < ps.length := by omega
      have hOi := HO.out _ (List.getElem_mem hlt)
      have HOi := Lib.hid hOi
      have HQi := Lib.hid (HQ.out _ (List.getElem_mem hlt))
      have HTi := Lib.hid (HT.out _ (List.getElem_mem hlt))
      have hqn := HQN.out _ (List.getElem_mem hlt)
      have hok : okP1 ps i = ((arcsL ps[i].1.data.toList).isSome && (freshP ps i) && ps[i].2.all okQ) := by unfold okP1; rw [hgd]
      have HOK := Lib.hid hok
      clear hIQ hbad hgd hOi hok hc1 hc2 hbel
      have hpi : ∃ p, ps[i] = p := ⟨_, rfl⟩
      obtain ⟨p, hp⟩ := hpi
      rw [hp] at HGD h1o HC1 HC2 HIQ HOi HQi HTi hqn HOK
      obtain ⟨s0, qs⟩ := p
      simp only at HGD h1o HC1 HC2 HIQ HOi HQi HTi hqn HOK
      have hqnI : (qs.length : Int) ≤ 10000 := by omega
      have hqlen := HIQ.out.len (P := Tryz.prog) ulQs
      clear hp
      generalize (arcsL s0.data.toList).isSome = C1 at *
      cases C1 with
      | false =>
        have HBF := Lib.hid (HBAD.out (by rw [HOK.out]; rfl))
        go_wp2_with (((go_at_call 72); (with_reducible refine (HOi.out _).mono ?_); rintro e w3 ⟨rfl, hbw3⟩))
        go_ret
        exact ⟨by rw [HBF.out]; rfl, HBR.out.trans (hbw3.mono HBR.out.size)⟩
      | true =>
        go_wp2_with (((go_at_call 72); (with_reducible refine (HOi.out _).mono ?_); rintro e w3 ⟨rfl, hbw3⟩; have HB3 := Lib.hid (HBR.out.trans (hbw3.mono HBR.out.size)); clear hbw3))
        clear h1o
        go_loopw [4] (fun ix wq => R17k ps i w3 ix wq) (fun ix _ => i + 1 - (intOf ix).toNat)
        case atStart => exact ⟨0, rfl, Nat.zero_le _, fun m h => by omega, Below.refl _ _⟩
        case round =>
          obtain ⟨k, rfl, hk, hno, hbk⟩ := hrel
          obtain ⟨wk, rfl⟩ : ∃ wk, wk = wr := ⟨_, rfl⟩
          have HNO := Lib.hid hno
          have hwk : Below w.heap.size w wk := HB3.out.trans (hbk.mono HB3.out.size)
          have HWK := Lib.hid hwk
          have h1k : wk.cell? ⟨b2, o2, none⟩ = some (.string s0) := (hwk.cell (p := ⟨b2, o2, none⟩) hl2).trans HC1.out
          clear hno
          by_cases hki : k < i
          · obtain ⟨b3, o3, A3, k3, hi3, hl3, hd1, -, -⟩ := HV.out.at_ (P := Tryz.prog) ulPs szPol .i64 k (by omega)
            have h2k : wk.cell? ⟨b3, o3, none⟩ = some (.string ps[k].1) := (hwk.cell (p := ⟨b3, o3, none⟩) hl3).trans hd1
            have hgk : ps.getD k default = ps[k] := by simp [show k < ps.length by omega]
            have hkI : (k : Int) < i := by omega
            have hkI2 : (k : Int) < ps.length := by omega
            have HBK := Lib.hid hbk
            clear hd1 hbk hwk
            by_cases hsk : ps[k].1 = s0
            · have hfr : okP1 ps i = false := by
                rw [HOK.out]
                have : freshP ps i = false := by
                  unfold freshP
                  rw [HGD.out]
                  have : ((ps.take i).any fun p => decide (p.1 = s0)) = true := by
                    rw [List.any_eq_true]
                    refine ⟨ps[k], ?_, decide_eq_true hsk⟩
                    exact List.mem_take_iff_getElem.2 ⟨k, by omega, rfl⟩
                  rw [this]; rfl
                rw [this]; rfl
              have HBF := Lib.hid (HBAD.out hfr)
              rw [hsk] at h2k
              have heq := strEq0 s0
              clear hfr hsk hgk
              go_wp2_with fail
              go_quiet (fail)
              go_wp2_with fail
              go_ret
              exact ⟨by rw [HBF.out]; rfl, below_drewN HWK.out nq⟩
            · have heq := strNe0 hsk
              have HSK := Lib.hid hsk
              have HGK := Lib.hid hgk
              clear hsk hgk
              go_wp2_with fail
              go_quiet (fail)
              go_wp2_with fail
              go_roundw
              case rel =>
                refine ⟨k + 1, by go_num, by omega, fun m hm => ?_, below_drewN HBK.out nq⟩
                by_cases hmk : m < k
                · exact HNO.out m hmk
                · obtain rfl : m = k := by omega
                  rw [HGK.out, HGD.out]
                  exact HSK.out
              case measure => simp [intOf]; omega
          · have hke : k = i := by omega
            have hfr : freshP ps i = true := by
              unfold freshP
              rw [HGD.out]
              have : ((ps.take i).any fun p => decide (p.1 = s0)) = false := by
                rw [Bool.eq_false_iff]
                intro h
                obtain ⟨x, hx, hd⟩ := List.any_eq_true.1 h
                obtain ⟨m, hm, he⟩ := List.mem_take_iff_getElem.1 hx
                have h2 := HNO.out m (by omega)
                rw [HGD.out, show ps.getD m default = ps[m] by simp [show m < ps.length by omega], he] at h2
                exact h2 (of_decide_eq_true hd)
              rw [this]; rfl
            have HOK2 : Hid (okP1 ps i = qs.all okQ) := by
              show okP1 ps i = _
              rw [HOK.out, hfr]; rfl
            have hkd : decide ((k : Int) < (i : Int)) = false := decide_eq_false (by omega)
            have hkd2 : decide (k < i) = false := decide_eq_false (by omega)
            clear hfr hke hki hk hbk h1k
            go_wp2_with fail
            go_loopw [5] (fun ix wq => R17q qs wk ix wq) (fun ix _ => qs.length + 1 - (intOf ix).toNat)
            case atStart => exact ⟨0, rfl, Nat.zero_le _, fun m h => by omega, Below.refl _ _⟩
            case round =>
              obtain ⟨m, rfl, hm, hmo, hbm⟩ := hrel
              have HMO := Lib.hid hmo
              have hwm : Below w.heap.size w wr := HWK.out.trans (hbm.mono HWK.out.size)
              have HWM := Lib.hid hwm
              have HBM := Lib.hid hbm
              have h2m : wr.cell? ⟨b2, o2 + 1, none⟩ = some (.slice A2 qs.length k2) := (hwm.cell (p := ⟨b2, o2 + 1, none⟩) hl2).trans HC2.out
              clear hmo
              by_cases hml : m < qs.length
              · obtain ⟨b4, o4, A4, k4, hi4, hl4, hd1, hd2, hIB⟩ := HIQ.out.at_ (P := Tryz.prog) ulQs szQual .i64 m hml
                have h3m : wr.cell? ⟨b4, o4, none⟩ = some (.string qs[m].1) := (hwm.cell (p := ⟨b4, o4, none⟩) hl4).trans hd1
                have HD2 := Lib.hid hd2
                have HIB := Lib.hid (hIB.below hwm)
                have hgm : qs.getD m default = qs[m] := by simp [hml]
                have hmI : (m : Int) < qs.length := by omega
                have HQm := Lib.hid (HQi.out _ (List.getElem_mem hml))
                have HTm := Lib.hid (HTi.out _ (List.getElem_mem hml))
                have hokq : okQ qs[m] = ((arcsL qs[m].1.data.toList).isSome && decide (treeOK 16 qs[m].2)) := rfl
                have hbq : okQ qs[m] = false → B = false := fun h => HBAD.out (by
                  rw [HOK2.out, Bool.eq_false_iff]
                  intro ha
                  have := List.all_eq_true.1 ha _ (List.getElem_mem hml)
                  rw [h] at this; cases this)
                have HBQ := Lib.hid hbq
                clear hd1 hd2 hIB hbq hwm hbm
                generalize qs[m] = q at *
                obtain ⟨t0, l0⟩ := q
                simp only at h3m HD2 HIB HQm HTm hokq
                have HGM := Lib.hid hgm
                have HOKQ := Lib.hid hokq
                clear hgm hokq
                generalize (arcsL t0.data.toList).isSome = D1 at *
                generalize decide (treeOK 16 l0) = D2 at *
                cases D1 with
                | false =>
                  have HBF := Lib.hid (HBQ.out (by rw [HOKQ.out]; rfl))
                  go_wp2_with (((go_at_call 72); (with_reducible refine (HQm.out _).mono ?_); rintro e w5 ⟨rfl, hbw5⟩))
                  go_ret
                  exact ⟨by rw [HBF.out]; rfl, HWM.out.trans (hbw5.mono HWM.out.size)⟩
                | true =>
                  cases D2 with
                  | false =>
                    have HBF := Lib.hid (HBQ.out (by rw [HOKQ.out]; rfl))
                    go_wp2_with (first | ((go_at_call 72); (with_reducible refine (HQm.out _).mono ?_); rintro e w5 ⟨rfl, hbw5⟩; have HW5 := Lib.hid (HWM.out.trans (hbw5.mono HWM.out.size)); have c1 := (HW5.out.cell (p := ⟨b2, o2 + 1, none⟩) hl2).trans HC2.out; have c2 := (HW5.out.cell (p := ⟨b4, o4 + 1, none⟩) hl4).trans HD2.out; have HI5 := Lib.hid (HIB.out.below hbw5)) | ((go_at_call 80); (with_reducible refine (HTm.out _ _ HI5.out).mono ?_); rintro e w6 ⟨rfl, hbw6⟩))
                    go_ret
                    exact ⟨by rw [HBF.out]; rfl, HW5.out.trans (hbw6.mono HW5.out.size)⟩
                  | true =>
                    go_wp2_with (first | ((go_at_call 72); (with_reducible refine (HQm.out _).mono ?_); rintro e w5 ⟨rfl, hbw5⟩; have HW5 := Lib.hid (HWM.out.trans (hbw5.mono HWM.out.size)); have HB5 := Lib.hid (HBM.out.trans (hbw5.mono HBM.out.size)); have c1 := (HW5.out.cell (p := ⟨b2, o2 + 1, none⟩) hl2).trans HC2.out; have c2 := (HW5.out.cell (p := ⟨b4, o4 + 1, none⟩) hl4).trans HD2.out; have HI5 := Lib.hid (HIB.out.below hbw5)) | ((go_at_call 80); (with_reducible refine (HTm.out _ _ HI5.out).mono ?_); rintro e w6 ⟨rfl, hbw6⟩))
                    go_roundw
                    case rel =>
                      refine ⟨m + 1, by go_num, by omega, fun x hx => ?_, HB5.out.trans (hbw6.mono HB5.out.size)⟩
                      by_cases hxm : x < m
                      · exact HMO.out x hxm
                      · obtain rfl : x = m := by omega
                        rw [HGM.out, HOKQ.out]; rfl
                    case measure => simp [intOf]; omega
              · have hall2 : qs.all okQ = true := (all_getD okQ qs).1 (fun x hx => HMO.out x (by omega))
                have HA1 : Hid (okP1 ps i = true) := by
                  show okP1 ps i = true
                  rw [HOK2.out]; exact hall2
                have hgm : (qs.length : Int) ≤ m := by omega
                clear hall2 hml hm hbm hwm
                go_wp2_with fail
                refine ⟨⟨i + 1, by go_num, by omega, fun x hx => ?_, HWM.out⟩, by simp [intOf]; omega⟩
                by_cases hxi : x < i
                · exact HALL.out x hxi
                · obtain rfl : x = i := by omega
                  exact HA1.out
    · have hge : (ps.length : Int) ≤ i := by omega
      have hBv : B = decide (0 < ps.length) := by
        rw [← HBB.out]
        unfold okP
        have : (List.range ps.length).all (okP1 ps) = true := by
          rw [List.all_eq_true]
          intro j hj
          simp at hj
          exact HALL.out j (by omega)
        rw [this, Bool.and_true]
      have HBV := Lib.hid hBv
      clear hlt hi hBv hbel
      go_wp2_with fail
      go_ret
      exact ⟨by rw [HBV.out]; first | rfl | simp, HBR.out⟩
end Go.Proofs.YtjjkimjdmpeddaaGreatDoor
end

/- Walk over the reference's Allows. -/
section
set_option linter.unusedSimpArgs false
set_option linter.unusedVariables false
namespace Go.Proofs.YtjjkimjdmpeddaaGreatDoor
open Go.RowKit Go.Cr

def R17a (ps : List Pol) (id : ByteArray) (w : World) (fo ix : Value) (wr : World) : Prop := ∃ i : Nat, ix = .int .i64 (i : Int) ∧ i ≤ ps.length ∧ fo = .bool ((ps.take i).any (hitP id)) ∧ Below w.heap.size w wr
set_option maxRecDepth 100000 in
set_option maxHeartbeats 8000000 in
theorem rAllows (v : Value) (ps : List Pol) (id : ByteArray) (w : World) (hv : IsPs w v ps) (hz : SzP ps) : Calls Tryz.prog 17 #[v, .string id] w (RetB (.bool (okP ps && ps.any (hitP id))) w) := by
  have hlen := hv.len (P := Tryz.prog) ulPs
  have HV0 : Hid (∀ W, IsPs W v ps → Calls Tryz.prog 39 #[v] W (RetB (.bool (okP ps)) W)) := fun W h => rValid17 v ps W h hz
  have HV := Lib.hid hv
  obtain ⟨A, c, rfl⟩ := isPs_slice hv
  have hnI : (ps.length : Int) ≤ 10000 := by have := hz.1; omega
  clear hv hz
  generalize okP ps = B1 at *
  go_enter Tryz.func17, Tryz.ntmps17
  go_wp2_with fail
  go_loopw [5, 6] (fun fo ix wr => R17a ps id w fo ix wr) (fun _ ix _ => ps.length + 1 - (intOf ix).toNat)
  case atStart => exact ⟨0, rfl, Nat.zero_le _, rfl, Below.refl _ _⟩
  case round =>
    obtain ⟨i, rfl, hi, rfl, hbel⟩ := hrel
    have HBR := Lib.hid hbel
    by_cases hlt : i < ps.length
    · obtain ⟨b2, o2, A2, k2, hi2, hl2, hc1, -, -⟩ := HV.out.at_ (P := Tryz.prog) ulPs szPol .i64 i hlt
      have h1o : wr.cell? ⟨b2, o2, none⟩ = some (.string ps[i].1) := (hbel.cell (p := ⟨b2, o2, none⟩) hl2).trans hc1
      have hltI : (i : Int) < ps.length := by omega
      have htk : (ps.take (i + 1)).any (hitP id) = ((ps.take i).any (hitP id) || hitP id ps[i]) := by rw [List.take_succ_eq_append_getElem hlt, List.any_append]; simp
      have HTK := Lib.hid htk
      have HH : Hid (hitP id ps[i] = (decide (ps[i].1 = id) || decide (ps[i].1 = anyP))) := rfl
      clear htk hc1 hbel
      generalize hitP id ps[i] = C at *
      generalize ps[i].1 = s0 at *
      generalize hF : (ps.take i).any (hitP id) = F at *
      cases F with
      | true =>
        go_wp2_with fail
        go_roundw
        case rel => exact ⟨i + 1, by go_num, by omega, by rw [HTK.out]; rfl, HBR.out⟩
        case measure => simp [intOf]; omega
      | false =>
        by_cases g1 : s0 = id
        · have e1 : (s0.toList == id.toList) = true := by rw [g1]; exact strEq0 id
          have HC : Hid (C = true) := by show C = true; rw [HH.out, decide_eq_true g1]; rfl
          clear g1
          go_wp2_with fail
          go_roundw
          case rel => exact ⟨i + 1, by go_num, by omega, by rw [HTK.out, HC.out]; first | rfl | simp, HBR.out⟩
          case measure => simp [intOf]; omega
        · have e1 := strNe0 g1
          by_cases g2 : s0 = anyP
          · have e2 : (s0.toList == [50, 46, 53, 46, 50, 57, 46, 51, 50, 46, 48]) = true := by rw [g2, anyP_list]; rfl
            have HC : Hid (C = true) := by show C = true; rw [HH.out, decide_eq_true g2, Bool.or_true]
            clear g1 g2
            go_wp2_with fail
            go_roundw
            case rel => exact ⟨i + 1, by go_num, by omega, by rw [HTK.out, HC.out]; first | rfl | simp [e2], HBR.out⟩
            case measure => simp [intOf]; omega
          · have e2 : (s0.toList == [50, 46, 53, 46, 50, 57, 46, 51, 50, 46, 48]) = false := by rw [← anyP_list]; exact strNe0 g2
            have HC : Hid (C = false) := by show C = false; rw [HH.out, decide_eq_false g1, decide_eq_false g2]; rfl
            clear g1 g2
            go_wp2_with fail
            go_roundw
            case rel => exact ⟨i + 1, by go_num, by omega, by rw [HTK.out, HC.out]; first | rfl | simp [e2], HBR.out⟩
            case measure => simp [intOf]; omega
    · have hie : i = ps.length := by omega
      have hge : (ps.length : Int) ≤ i := by omega
      have htk : (ps.take i).any (hitP id) = ps.any (hitP id) := by rw [hie, List.take_length]
      rw [htk]
      clear hlt hi hie htk hbel
      generalize ps.any (hitP id) = B2 at *
      cases B2 with
      | false =>
        go_wp2_with fail
        go_ret
        exact ⟨by simp, HBR.out⟩
      | true =>
        go_wp2_with (((go_at_call 39); (with_reducible refine (HV0.out _ (HV.out.below HBR.out)).mono ?_); rintro e w3 ⟨rfl, hbw3⟩))
        go_ret
        exact ⟨by simp, HBR.out.trans (hbw3.mono HBR.out.size)⟩
end Go.Proofs.YtjjkimjdmpeddaaGreatDoor
end

/- Walk over the reference's Few. -/
section
set_option linter.unusedSimpArgs false
set_option linter.unusedVariables false
namespace Go.Proofs.YtjjkimjdmpeddaaGreatDoor
open Go.RowKit Go.Cr

/-- Each length at most M. -/
def BdP (M : Nat) (ps : List Pol) : Prop := ∀ p ∈ ps, p.1.size ≤ M ∧ p.2.length ≤ M ∧ ∀ q ∈ p.2, q.1.size ≤ M ∧ q.2.length ≤ M
def RetFw (ps : List Pol) (w : World) (e : Ending) (w' : World) : Prop := ∃ b : Bool, e = .returned (.bool b) ∧ (b = true → SzP ps) ∧ Below w.heap.size w w'
/-- n is at least what was counted of a policy. -/
def Cnt (n : Nat) (p : Pol) : Prop := p.1.size ≤ n ∧ 10 * p.2.length ≤ n ∧ ∀ k, k < 200 → k < p.2.length → (p.2.getD k default).1.size ≤ n ∧ (p.2.getD k default).2.length ≤ n
theorem Cnt.mono {n m : Nat} {p : Pol} (h : Cnt n p) (hm : n ≤ m) : Cnt m p := ⟨by have := h.1; omega, by have := h.2.1; omega, fun k h1 h2 => by have := h.2.2 k h1 h2; omega⟩
def R17f (ps : List Pol) (w : World) (nv ix : Value) (wr : World) : Prop := ∃ i n : Nat, ix = .int .i64 (i : Int) ∧ nv = .int .i64 (n : Int) ∧ i ≤ ps.length ∧ i ≤ 10 ∧ n ≤ i * 57843107712356352 ∧ (∀ j, j < i → Cnt n (ps.getD j default)) ∧ Below w.heap.size w wr
def R17g (qs : List Qual) (n0 : Nat) (w : World) (nv ix : Value) (wr : World) : Prop := ∃ k n : Nat, ix = .int .i64 (k : Int) ∧ nv = .int .i64 (n : Int) ∧ k ≤ qs.length ∧ k ≤ 200 ∧ n0 ≤ n ∧ n ≤ n0 + k * 281474976702464 ∧ (∀ j, j < k → (qs.getD j default).1.size ≤ n ∧ (qs.getD j default).2.length ≤ n) ∧ Below w.heap.size w wr
theorem wr64 {x : Int} (h0 : 0 ≤ x) (h1 : x ≤ 9223372036854775807) : IntKind.i64.wrap x = x := by rw [IntKind.wrap_i64]; omega
theorem w64q {x : Int} (h0 : 0 ≤ x) (h1 : x ≤ 9223372036854775807) : wrap64 x = x := by unfold wrap64; omega
theorem szP_few {n : Nat} {ps : List Pol} (h8 : ps.length ≤ 8) (hn : n ≤ 1500) (hc : ∀ j, j < ps.length → Cnt n (ps.getD j default)) : SzP ps := by
  refine ⟨by omega, fun p hp => ?_⟩
  obtain ⟨j, hj, rfl⟩ := List.mem_iff_getElem.1 hp
  have h := hc j hj
  rw [show ps.getD j default = ps[j] by simp [hj]] at h
  obtain ⟨h1, h2, h3⟩ := h
  refine ⟨by omega, by omega, fun q hq => ?_⟩
  obtain ⟨k, hk, rfl⟩ := List.mem_iff_getElem.1 hq
  have h4 := h3 k (by omega) hk
  rw [show ps[j].2.getD k default = ps[j].2[k] by simp [hk]] at h4
  exact ⟨by omega, by omega⟩
set_option maxRecDepth 100000 in
set_option maxHeartbeats 16000000 in
theorem rFew (v : Value) (ps : List Pol) (w : World) (hv : IsPs w v ps) (hM : BdP 140737488351232 ps) : Calls Tryz.prog 15 #[v] w (RetFw ps w) := by
  have hlen := hv.len (P := Tryz.prog) ulPs
  have hmx := hv.maxl
  have HV := Lib.hid hv
  have HM := Lib.hid hM
  obtain ⟨A, c, rfl⟩ := isPs_slice hv
  clear hv hM
  go_enter Tryz.func15, Tryz.ntmps15
  go_wp2_with fail
  go_loopw [3, 4] (fun nv ix wr => R17f ps w nv ix wr) (fun _ ix _ => ps.length + 1 - (intOf ix).toNat)
  case atStart => exact ⟨0, 0, rfl, rfl, Nat.zero_le _, by omega, by omega, fun j h => by omega, Below.refl _ _⟩
  case round =>
    obtain ⟨i, n, rfl, rfl, hi, hi10, hn, hcnt, hbel⟩ := hrel
    obtain ⟨wo, rfl⟩ : ∃ wo, wo = wr := ⟨_, rfl⟩
    have HCNT := Lib.hid hcnt
    have HBR := Lib.hid hbel
    have HN := Lib.hid hn
    clear hcnt hn
    by_cases hlt : i < ps.length
    · by_cases h10 : i < 10
      · obtain ⟨b2, o2, A2, k2, hi2, hl2, hc1, hc2, hIQ⟩ := HV.out.at_ (P := Tryz.prog) ulPs szPol .i64 i hlt
        have hmem := HM.out _ (List.getElem_mem hlt)
        have hgd : ps.getD i default = ps[i] := by simp [hlt]
        generalize ps[i] = p at *
        obtain ⟨s0, qs⟩ := p
        simp only at hc1 hc2 hIQ hmem
        have h1o : wo.cell? ⟨b2, o2, none⟩ = some (.string s0) := (hbel.cell (p := ⟨b2, o2, none⟩) hl2).trans hc1
        have h2o : wo.cell? ⟨b2, o2 + 1, none⟩ = some (.slice A2 qs.length k2) := (hbel.cell (p := ⟨b2, o2 + 1, none⟩) hl2).trans hc2
        have HC2 := Lib.hid hc2
        have HIQ := Lib.hid hIQ
        have HMEM := Lib.hid hmem
        have HGD := Lib.hid hgd
        have hltI : (i : Int) < ps.length := by omega
        have h10I : (i : Int) < 10 := by omega
        have hqlen := hIQ.len (P := Tryz.prog) ulQs
        have hn2 := HN.out
        have w1 : IntKind.i64.wrap ((n : Int) + (s0.size : Int)) = (n : Int) + (s0.size : Int) := wr64 (by omega) (by have := hmem.1; omega)
        have w2 : IntKind.i64.wrap (10 * (qs.length : Int)) = 10 * (qs.length : Int) := wr64 (by omega) (by have := hmem.2.1; omega)
        have w3 : IntKind.i64.wrap ((n : Int) + (s0.size : Int) + 10 * (qs.length : Int)) = (n : Int) + (s0.size : Int) + 10 * (qs.length : Int) := wr64 (by omega) (by have := hmem.1; have := hmem.2.1; omega)
        obtain ⟨n1, hn1⟩ : ∃ n1 : Nat, n1 = n + s0.size + 10 * qs.length := ⟨_, rfl⟩
        have w4 : (n : Int) + (s0.size : Int) + 10 * (qs.length : Int) = (n1 : Int) := by omega
        have HN1 := Lib.hid hn1
        have HNB := Lib.hid (show n1 ≤ i * 57843107712356352 + 1548112371863552 by have := hmem.1; have := hmem.2.1; omega)
        have hmx2 : (qs.length : Int) ≤ 9223372036854775807 := hIQ.maxl
        clear hc1 hc2 hIQ hmem hgd hn2 hbel hn1
        go_wp2_with fail
        go_quiet (fail)
        have HBK := Lib.hid (below_drewN HBR.out nq)
        have hwk2 : (wo.drewN nq).cell? ⟨b2, o2 + 1, none⟩ = some (.slice A2 qs.length k2) := h2o
        clear h1o h2o
        generalize wo.drewN nq = wk at *
        go_wp2_with fail
        go_loopw [3, 5] (fun nv ix wq => R17g qs n1 w nv ix wq) (fun _ ix _ => qs.length + 1 - (intOf ix).toNat)
        case atStart => exact ⟨0, n1, rfl, congrArg (Value.int .i64) (w64q (x := (n1 : Int)) (by omega) (by have := HNB.out; omega)), Nat.zero_le _, by omega, Nat.le_refl _, by omega, fun j h => by omega, HBK.out⟩
        case round =>
          obtain ⟨k, n2, rfl, rfl, hk, hk2, hn2, hn3, hqc, hbm⟩ := hrel
          obtain ⟨wm, rfl⟩ : ∃ wm, wm = wr := ⟨_, rfl⟩
          have HBM := Lib.hid hbm
          have HQC := Lib.hid hqc
          have HN2 := Lib.hid (And.intro hn2 hn3)
          have h2m : wm.cell? ⟨b2, o2 + 1, none⟩ = some (.slice A2 qs.length k2) := (hbm.cell (p := ⟨b2, o2 + 1, none⟩) hl2).trans HC2.out
          clear hqc hn2 hn3 hwk2
          by_cases hkl : k < qs.length
          · by_cases hk200 : k < 200
            · obtain ⟨b4, o4, A4, k4, hi4, hl4, hd1, hd2, hIB⟩ := HIQ.out.at_ (P := Tryz.prog) ulQs szQual .i64 k hkl
              have h3m : wm.cell? ⟨b4, o4, none⟩ = some (.string qs[k].1) := (hbm.cell (p := ⟨b4, o4, none⟩) hl4).trans hd1
              have h4m : wm.cell? ⟨b4, o4 + 1, none⟩ = some (.slice A4 qs[k].2.length k4) := (hbm.cell (p := ⟨b4, o4 + 1, none⟩) hl4).trans hd2
              have hgm : qs.getD k default = qs[k] := by simp [hkl]
              have hkI : (k : Int) < qs.length := by omega
              have hkI2 : (k : Int) < 200 := by omega
              have hmem2 := HMEM.out.2.2 _ (List.getElem_mem hkl)
              have hblen := hIB.len (P := Tryz.prog) ulB
              clear hd1 hd2 hIB hbm
              generalize qs[k] = q at *
              obtain ⟨t0, l0⟩ := q
              simp only at h3m h4m hmem2 hblen
              have x1 : IntKind.i64.wrap ((n2 : Int) + (t0.size : Int)) = (n2 : Int) + (t0.size : Int) := wr64 (by omega) (by have := HN2.out; have := HNB.out; omega)
              have x2 : IntKind.i64.wrap ((n2 : Int) + (t0.size : Int) + (l0.length : Int)) = (n2 : Int) + (t0.size : Int) + (l0.length : Int) := wr64 (by omega) (by have := HN2.out; have := HNB.out; omega)
              obtain ⟨n3, hn3⟩ : ∃ n3 : Nat, n3 = n2 + t0.size + l0.length := ⟨_, rfl⟩
              have x3 : (n2 : Int) + (t0.size : Int) + (l0.length : Int) = (n3 : Int) := by omega
              have HN3 := Lib.hid hn3
              have HGM := Lib.hid hgm
              have HM2 := Lib.hid hmem2
              clear hn3 hgm hmem2
              go_wp2_with fail
              go_quiet (fail)
              go_wp2_with fail
              go_roundw
              case rel =>
                refine ⟨k + 1, n3, by go_num, congrArg (Value.int .i64) (w64q (x := (n3 : Int)) (by omega) (by have := HN3.out; have := HN2.out; have := HNB.out; have := HM2.out; omega)), by omega, by omega, by have := HN3.out; have := HN2.out; omega, by have := HN3.out; have := HN2.out; have := HM2.out; omega, fun j hj => ?_, below_drewN HBM.out nq⟩
                by_cases hjk : j < k
                · have := HQC.out j hjk
                  have := HN3.out
                  omega
                · obtain rfl : j = k := by omega
                  rw [HGM.out]
                  have := HN3.out
                  exact ⟨by simp only; omega, by simp only; omega⟩
              case measure => simp [intOf]; omega
            · obtain rfl : k = 200 := by omega
              have hkI : (200 : Int) < qs.length := by omega
              go_wp2_with fail
              go_roundw
              case rel =>
                refine ⟨i + 1, n2, by go_num, rfl, by omega, by omega, by have := HNB.out; have := HN2.out; omega, fun j hj => ?_, HBM.out⟩
                by_cases hji : j < i
                · exact (HCNT.out j hji).mono (by have := HN1.out; have := HN2.out; omega)
                · obtain rfl : j = i := by omega
                  rw [HGD.out]
                  exact ⟨by have := HN1.out; have := HN2.out; simp only; omega, by have := HN1.out; have := HN2.out; simp only; omega, fun m hm1 hm2 => HQC.out m (by simp only at hm2; omega)⟩
              case measure => simp [intOf]; omega
          · obtain rfl : k = qs.length := by omega
            go_wp2_with fail
            go_roundw
            case rel =>
              refine ⟨i + 1, n2, by go_num, rfl, by omega, by omega, by have := HNB.out; have := HN2.out; omega, fun j hj => ?_, HBM.out⟩
              by_cases hji : j < i
              · exact (HCNT.out j hji).mono (by have := HN1.out; have := HN2.out; omega)
              · obtain rfl : j = i := by omega
                rw [HGD.out]
                exact ⟨by have := HN1.out; have := HN2.out; simp only; omega, by have := HN1.out; have := HN2.out; simp only; omega, fun m hm1 hm2 => HQC.out m (by simp only at hm2; omega)⟩
            case measure => simp [intOf]; omega
      · obtain rfl : i = 10 := by omega
        have h8 : decide ((ps.length : Int) ≤ 8) = false := decide_eq_false (by omega)
        go_wp2_with fail
        go_ret
        exact ⟨false, rfl, fun h => Bool.noConfusion h, HBR.out⟩
    · obtain rfl : i = ps.length := by omega
      go_wp2_with fail
      · go_ret
        exact ⟨_, rfl, fun h => szP_few (by omega) (by have := of_decide_eq_true h; omega) HCNT.out, HBR.out⟩
      · go_ret
        exact ⟨false, rfl, fun h => Bool.noConfusion h, HBR.out⟩
end Go.Proofs.YtjjkimjdmpeddaaGreatDoor
end

/- Walk over the reference's Few: what it counts. -/
section
set_option linter.unusedSimpArgs false
set_option linter.unusedVariables false
namespace Go.Proofs.YtjjkimjdmpeddaaGreatDoor
open Go.RowKit Go.Cr

def wtQ (q : Qual) : Nat := q.1.size + q.2.length
def wtQs (qs : List Qual) : Nat := (qs.map wtQ).sum
def wt2 (p : Pol) : Nat := p.1.size + 10 * p.2.length + wtQs (p.2.take 200)
def wtP (p : Pol) : Nat := p.1.size + 10 * p.2.length + wtQs p.2
def sum2 (ps : List Pol) : Nat := (ps.map wt2).sum
def sumP (ps : List Pol) : Nat := (ps.map wtP).sum
/-- Few enough for the statements. -/
def FwP (ps : List Pol) : Prop := ps.length ≤ 8 ∧ sumP ps ≤ 1500
theorem sum_mem {α : Type} (f : α → Nat) {l : List α} {a : α} (h : a ∈ l) : f a ≤ (l.map f).sum := by
  induction l with
  | nil => cases h
  | cons x t ih =>
    simp only [List.map_cons, List.sum_cons]
    rcases List.mem_cons.1 h with rfl | h
    · omega
    · have := ih h; omega
theorem sum_snoc {α : Type} (f : α → Nat) {l : List α} {i : Nat} (h : i < l.length) : ((l.take (i + 1)).map f).sum = ((l.take i).map f).sum + f l[i] := by
  rw [List.take_succ_eq_append_getElem h]
  simp only [List.map_append, List.sum_append, List.map_cons, List.map_nil, List.sum_cons, List.sum_nil, Nat.add_zero]
theorem sum2_P {ps : List Pol} (h : sum2 ps ≤ 1500) : sumP ps = sum2 ps := by
  unfold sumP sum2
  congr 1
  apply List.map_congr_left
  intro p hp
  have h1 : wt2 p ≤ sum2 ps := sum_mem wt2 hp
  unfold wt2 at h1
  unfold wtP wt2
  rw [List.take_of_length_le (by omega)]
theorem FwP.mem {ps : List Pol} (h : FwP ps) {p : Pol} (hp : p ∈ ps) : p.1.size + 10 * p.2.length + wtQs p.2 ≤ 1500 := by
  have h1 : wtP p ≤ sumP ps := sum_mem wtP hp
  have := h.2
  unfold wtP at h1
  omega
theorem FwP.sz {ps : List Pol} (h : FwP ps) : SzP ps := by
  refine ⟨by have := h.1; omega, fun p hp => ?_⟩
  have h1 := h.mem hp
  refine ⟨by omega, by omega, fun q hq => ?_⟩
  have h2 : wtQ q ≤ wtQs p.2 := sum_mem wtQ hq
  unfold wtQ at h2
  unfold SzQ
  omega
def RetFs (ps : List Pol) (w : World) (e : Ending) (w' : World) : Prop := ∃ b : Bool, e = .returned (.bool b) ∧ (b = true → FwP ps) ∧ Below w.heap.size w w'
def R17s (ps : List Pol) (w : World) (nv ix : Value) (wr : World) : Prop := ∃ i n : Nat, ix = .int .i64 (i : Int) ∧ nv = .int .i64 (n : Int) ∧ i ≤ ps.length ∧ i ≤ 10 ∧ n ≤ i * 57843107712356352 ∧ n = sum2 (ps.take i) ∧ Below w.heap.size w wr
def R17t (qs : List Qual) (n0 : Nat) (w : World) (nv ix : Value) (wr : World) : Prop := ∃ k n : Nat, ix = .int .i64 (k : Int) ∧ nv = .int .i64 (n : Int) ∧ k ≤ qs.length ∧ k ≤ 200 ∧ n0 ≤ n ∧ n ≤ n0 + k * 281474976702464 ∧ n = n0 + wtQs (qs.take k) ∧ Below w.heap.size w wr
set_option maxRecDepth 100000 in
set_option maxHeartbeats 16000000 in
theorem rFewS (v : Value) (ps : List Pol) (w : World) (hv : IsPs w v ps) (hM : BdP 140737488351232 ps) : Calls Tryz.prog 15 #[v] w (RetFs ps w) := by
  have hlen := hv.len (P := Tryz.prog) ulPs
  have hmx := hv.maxl
  have HV := Lib.hid hv
  have HM := Lib.hid hM
  obtain ⟨A, c, rfl⟩ := isPs_slice hv
  clear hv hM
  go_enter Tryz.func15, Tryz.ntmps15
  go_wp2_with fail
  go_loopw [3, 4] (fun nv ix wr => R17s ps w nv ix wr) (fun _ ix _ => ps.length + 1 - (intOf ix).toNat)
  case atStart => exact ⟨0, 0, rfl, rfl, Nat.zero_le _, by omega, by omega, rfl, Below.refl _ _⟩
  case round =>
    obtain ⟨i, n, rfl, rfl, hi, hi10, hn, hcnt, hbel⟩ := hrel
    obtain ⟨wo, rfl⟩ : ∃ wo, wo = wr := ⟨_, rfl⟩
    have HCNT := Lib.hid hcnt
    have HBR := Lib.hid hbel
    have HN := Lib.hid hn
    clear hcnt hn
    by_cases hlt : i < ps.length
    · by_cases h10 : i < 10
      · obtain ⟨b2, o2, A2, k2, hi2, hl2, hc1, hc2, hIQ⟩ := HV.out.at_ (P := Tryz.prog) ulPs szPol .i64 i hlt
        have hmem := HM.out _ (List.getElem_mem hlt)
        have hgd : sum2 (ps.take (i + 1)) = sum2 (ps.take i) + wt2 ps[i] := sum_snoc wt2 hlt
        generalize ps[i] = p at *
        obtain ⟨s0, qs⟩ := p
        simp only at hc1 hc2 hIQ hmem
        have hw2 : wt2 (s0, qs) = s0.size + 10 * qs.length + wtQs (qs.take 200) := rfl
        rw [hw2] at hgd
        clear hw2
        have h1o : wo.cell? ⟨b2, o2, none⟩ = some (.string s0) := (hbel.cell (p := ⟨b2, o2, none⟩) hl2).trans hc1
        have h2o : wo.cell? ⟨b2, o2 + 1, none⟩ = some (.slice A2 qs.length k2) := (hbel.cell (p := ⟨b2, o2 + 1, none⟩) hl2).trans hc2
        have HC2 := Lib.hid hc2
        have HIQ := Lib.hid hIQ
        have HMEM := Lib.hid hmem
        have HGD := Lib.hid hgd
        have hltI : (i : Int) < ps.length := by omega
        have h10I : (i : Int) < 10 := by omega
        have hqlen := hIQ.len (P := Tryz.prog) ulQs
        have hn2 := HN.out
        have w1 : IntKind.i64.wrap ((n : Int) + (s0.size : Int)) = (n : Int) + (s0.size : Int) := wr64 (by omega) (by have := hmem.1; omega)
        have w2 : IntKind.i64.wrap (10 * (qs.length : Int)) = 10 * (qs.length : Int) := wr64 (by omega) (by have := hmem.2.1; omega)
        have w3 : IntKind.i64.wrap ((n : Int) + (s0.size : Int) + 10 * (qs.length : Int)) = (n : Int) + (s0.size : Int) + 10 * (qs.length : Int) := wr64 (by omega) (by have := hmem.1; have := hmem.2.1; omega)
        obtain ⟨n1, hn1⟩ : ∃ n1 : Nat, n1 = n + s0.size + 10 * qs.length := ⟨_, rfl⟩
        have w4 : (n : Int) + (s0.size : Int) + 10 * (qs.length : Int) = (n1 : Int) := by omega
        have HN1 := Lib.hid hn1
        have HNB := Lib.hid (show n1 ≤ i * 57843107712356352 + 1548112371863552 by have := hmem.1; have := hmem.2.1; omega)
        have hmx2 : (qs.length : Int) ≤ 9223372036854775807 := hIQ.maxl
        clear hc1 hc2 hIQ hmem hgd hn2 hbel hn1
        go_wp2_with fail
        go_quiet (fail)
        have HBK := Lib.hid (below_drewN HBR.out nq)
        have hwk2 : (wo.drewN nq).cell? ⟨b2, o2 + 1, none⟩ = some (.slice A2 qs.length k2) := h2o
        clear h1o h2o
        generalize wo.drewN nq = wk at *
        go_wp2_with fail
        go_loopw [3, 5] (fun nv ix wq => R17t qs n1 w nv ix wq) (fun _ ix _ => qs.length + 1 - (intOf ix).toNat)
        case atStart => exact ⟨0, n1, rfl, congrArg (Value.int .i64) (w64q (x := (n1 : Int)) (by omega) (by have := HNB.out; omega)), Nat.zero_le _, by omega, Nat.le_refl _, by omega, rfl, HBK.out⟩
        case round =>
          obtain ⟨k, n2, rfl, rfl, hk, hk2, hn2, hn3, hqc, hbm⟩ := hrel
          obtain ⟨wm, rfl⟩ : ∃ wm, wm = wr := ⟨_, rfl⟩
          have HBM := Lib.hid hbm
          have HQC := Lib.hid hqc
          have HN2 := Lib.hid (And.intro hn2 hn3)
          have h2m : wm.cell? ⟨b2, o2 + 1, none⟩ = some (.slice A2 qs.length k2) := (hbm.cell (p := ⟨b2, o2 + 1, none⟩) hl2).trans HC2.out
          clear hqc hn2 hn3 hwk2
          by_cases hkl : k < qs.length
          · by_cases hk200 : k < 200
            · obtain ⟨b4, o4, A4, k4, hi4, hl4, hd1, hd2, hIB⟩ := HIQ.out.at_ (P := Tryz.prog) ulQs szQual .i64 k hkl
              have h3m : wm.cell? ⟨b4, o4, none⟩ = some (.string qs[k].1) := (hbm.cell (p := ⟨b4, o4, none⟩) hl4).trans hd1
              have h4m : wm.cell? ⟨b4, o4 + 1, none⟩ = some (.slice A4 qs[k].2.length k4) := (hbm.cell (p := ⟨b4, o4 + 1, none⟩) hl4).trans hd2
              have hgm : wtQs (qs.take (k + 1)) = wtQs (qs.take k) + wtQ qs[k] := sum_snoc wtQ hkl
              have hkI : (k : Int) < qs.length := by omega
              have hkI2 : (k : Int) < 200 := by omega
              have hmem2 := HMEM.out.2.2 _ (List.getElem_mem hkl)
              have hblen := hIB.len (P := Tryz.prog) ulB
              clear hd1 hd2 hIB hbm
              generalize qs[k] = q at *
              obtain ⟨t0, l0⟩ := q
              simp only at h3m h4m hmem2 hblen
              have hwq : wtQ (t0, l0) = t0.size + l0.length := rfl
              rw [hwq] at hgm
              clear hwq
              have x1 : IntKind.i64.wrap ((n2 : Int) + (t0.size : Int)) = (n2 : Int) + (t0.size : Int) := wr64 (by omega) (by have := HN2.out; have := HNB.out; omega)
              have x2 : IntKind.i64.wrap ((n2 : Int) + (t0.size : Int) + (l0.length : Int)) = (n2 : Int) + (t0.size : Int) + (l0.length : Int) := wr64 (by omega) (by have := HN2.out; have := HNB.out; omega)
              obtain ⟨n3, hn3⟩ : ∃ n3 : Nat, n3 = n2 + t0.size + l0.length := ⟨_, rfl⟩
              have x3 : (n2 : Int) + (t0.size : Int) + (l0.length : Int) = (n3 : Int) := by omega
              have HN3 := Lib.hid hn3
              have HGM := Lib.hid hgm
              have HM2 := Lib.hid hmem2
              clear hn3 hgm hmem2
              go_wp2_with fail
              go_quiet (fail)
              go_wp2_with fail
              go_roundw
              case rel =>
                refine ⟨k + 1, n3, by go_num, congrArg (Value.int .i64) (w64q (x := (n3 : Int)) (by omega) (by have := HN3.out; have := HN2.out; have := HNB.out; have := HM2.out; omega)), by omega, by omega, by have := HN3.out; have := HN2.out; omega, by have := HN3.out; have := HN2.out; have := HM2.out; omega, by rw [HN3.out, HGM.out, HQC.out]; omega, below_drewN HBM.out nq⟩
              case measure => simp [intOf]; omega
            · obtain rfl : k = 200 := by omega
              have hkI : (200 : Int) < qs.length := by omega
              go_wp2_with fail
              go_roundw
              case rel =>
                refine ⟨i + 1, n2, by go_num, rfl, by omega, by omega, by have := HNB.out; have := HN2.out; omega, by rw [HGD.out, HQC.out, HN1.out, HCNT.out]; omega, HBM.out⟩
              case measure => simp [intOf]; omega
          · obtain rfl : k = qs.length := by omega
            go_wp2_with fail
            go_roundw
            case rel =>
              refine ⟨i + 1, n2, by go_num, rfl, by omega, by omega, by have := HNB.out; have := HN2.out; omega, by rw [HGD.out, HQC.out, HN1.out, HCNT.out, List.take_of_length_le (Nat.le_refl qs.length), List.take_of_length_le (show qs.length ≤ 200 from by omega)]; omega, HBM.out⟩
            case measure => simp [intOf]; omega
      · obtain rfl : i = 10 := by omega
        have h8 : decide ((ps.length : Int) ≤ 8) = false := decide_eq_false (by omega)
        go_wp2_with fail
        go_ret
        exact ⟨false, rfl, fun h => Bool.noConfusion h, HBR.out⟩
    · obtain rfl : i = ps.length := by omega
      go_wp2_with fail
      · go_ret
        exact ⟨_, rfl, fun h => ⟨by omega, by have h1 := of_decide_eq_true h; have h2 := HCNT.out; rw [List.take_length] at h2; rw [sum2_P (by omega)]; omega⟩, HBR.out⟩
      · go_ret
        exact ⟨false, rfl, fun h => Bool.noConfusion h, HBR.out⟩
end Go.Proofs.YtjjkimjdmpeddaaGreatDoor
end
