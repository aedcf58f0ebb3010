/- The parts RepQ, RefM of one proof, one behind the other. -/
import Derived.Test.YtjjkimjdmpeddaaGreatDoorJ43
import Derived.Test.YtjjkimjdmpeddaaGreatDoorJ36
import Derived.Test.YtjjkimjdmpeddaaGreatDoorJ09
import Derived.Deep.QuietTactic
import Derived.BigQuiet

/- Policies, qualifiers and mappings as rows of things. -/
section
set_option linter.unusedSimpArgs false
set_option linter.unusedVariables false
namespace Go.Cr
open Go.RowKit
theorem isQs_of {S : Nat → Prop} {w : World} {v : Value} {qs : List Qual} (h : IsL repA S w v qs) : IsQs w v qs := by
  obtain ⟨xs, h1, h2⟩ := h
  refine ⟨xs, h1.isR, fun j hj => ?_⟩
  obtain ⟨u, e, hu⟩ := h2.2 j hj
  exact ⟨u, e, hu.isR.bytes⟩
theorem isPs_of {S : Nat → Prop} {w : World} {v : Value} {ps : List Pol} (h : IsL (repS repA) S w v ps) : IsPs w v ps := by
  obtain ⟨xs, h1, h2⟩ := h
  refine ⟨xs, h1.isR, fun j hj => ?_⟩
  obtain ⟨u, e, hu⟩ := h2.2 j hj
  exact ⟨u, e, isQs_of hu⟩
theorem mCells_of {xs : List Value} {ms : List Mp} (hl : xs.length = ms.length * 2) (h : ∀ j (hj : j < ms.length), (xs.drop (j * 2)).take 2 = [.string ms[j].1, .string ms[j].2]) : xs = mCells ms := by
  apply List.ext_getElem?
  intro i
  by_cases hi : i < ms.length * 2
  · have hj : i / 2 < ms.length := by omega
    have h1 := take2_at (h _ hj)
    have h2 := mCells_at ms (i / 2) hj
    rcases (by omega : i = i / 2 * 2 + 0 ∨ i = i / 2 * 2 + 1) with e | e
    · rw [e, h1.1, h2.1]
    · rw [e, h1.2, h2.2]
  · rw [List.getElem?_eq_none (by omega), List.getElem?_eq_none (by rw [mCells_len]; omega)]
theorem isMs_of {S : Nat → Prop} {w : World} {v : Value} {ms : List Mp} (h : IsL repT S w v ms) : IsMs w v ms := by
  obtain ⟨xs, h1, h2, h3⟩ := h
  obtain rfl := mCells_of h2 h3
  exact h1.isR
end Go.Cr
end

/- Walks over the reference's FewMappings and ValidMappings; over cretulabase.Mappings. -/
section
set_option linter.unusedSimpArgs false
set_option linter.unusedVariables false
namespace Go.Proofs.YtjjkimjdmpeddaaGreatDoor
open Go.RowKit Go.Cr

theorem wr64m {x : Int} (h0 : 0 ≤ x) (h1 : x ≤ 9223372036854775807) : IntKind.i64.wrap x = x := by rw [IntKind.wrap_i64]; omega
theorem w64m {x : Int} (h0 : 0 ≤ x) (h1 : x ≤ 9223372036854775807) : wrap64 x = x := by unfold wrap64; omega
/-- Each length at most M. -/
def BdMs (M : Nat) (ms : List Mp) : Prop := ∀ m ∈ ms, m.1.size ≤ M ∧ m.2.size ≤ M
def szSum (ms : List Mp) : Nat := (ms.map fun m => m.1.size + m.2.size).sum
def FwM (ms : List Mp) : Prop := ms.length ≤ 10 ∧ szSum ms ≤ 1000
theorem szSum_mem {ms : List Mp} {m : Mp} (h : m ∈ ms) : m.1.size + m.2.size ≤ szSum ms := by
  induction ms with
  | nil => cases h
  | cons x t ih =>
    unfold szSum at ih ⊢
    simp only [List.map_cons, List.sum_cons]
    rcases List.mem_cons.1 h with rfl | h
    · omega
    · have := ih h; omega
theorem FwM.sz {ms : List Mp} (h : FwM ms) : SzM ms := ⟨by have := h.1; omega, fun m hm => by have := szSum_mem hm; have := h.2; omega⟩
theorem szSum_snoc {ms : List Mp} {i : Nat} (h : i < ms.length) : szSum (ms.take (i + 1)) = szSum (ms.take i) + (ms[i].1.size + ms[i].2.size) := by
  rw [List.take_succ_eq_append_getElem h]
  unfold szSum
  simp only [List.map_append, List.sum_append, List.map_cons, List.map_nil, List.sum_cons, List.sum_nil, Nat.add_zero]
def RetFwM (ms : List Mp) (w : World) (e : Ending) (w' : World) : Prop := ∃ b : Bool, e = .returned (.bool b) ∧ (b = true → FwM ms) ∧ Below w.heap.size w w'
def Rfm (ms : List Mp) (w : World) (nv ix : Value) (wr : World) : Prop := ∃ i n : Nat, ix = .int .i64 (i : Int) ∧ nv = .int .i64 (n : Int) ∧ i ≤ ms.length ∧ i ≤ 20 ∧ n ≤ i * 281474976702464 ∧ n = szSum (ms.take i) ∧ Below w.heap.size w wr
set_option maxRecDepth 100000 in
set_option maxHeartbeats 16000000 in
theorem rFewM (v : Value) (ms : List Mp) (w : World) (hv : IsMs w v ms) (hM : BdMs 140737488351232 ms) : Calls Tryz.prog 28 #[v] w (RetFwM ms w) := by
  have hlen := hv.len (P := Tryz.prog) ulMs
  have hmx : (ms.length : Int) ≤ 9223372036854775807 := IsR.maxl hv
  have HV := Lib.hid hv
  have HM := Lib.hid hM
  obtain ⟨A, c, rfl⟩ := isMs_slice hv
  clear hv hM
  go_enter Tryz.func28, Tryz.ntmps28
  go_wp2_with fail
  go_loopw [3, 4] (fun nv ix wr => Rfm ms w nv ix wr) (fun _ ix _ => ms.length + 1 - (intOf ix).toNat)
  case atStart => exact ⟨0, 0, rfl, rfl, Nat.zero_le _, by omega, by omega, rfl, Below.refl _ _⟩
  case round =>
    obtain ⟨i, n, rfl, rfl, hi, hi20, hn, hcnt, hbel⟩ := hrel
    have HCNT := Lib.hid hcnt
    have HBR := Lib.hid hbel
    have HN := Lib.hid hn
    clear hcnt hn
    by_cases hlt : i < ms.length
    · by_cases h20 : i < 20
      · obtain ⟨b2, o2, hi2, hl2, hc1, hc2⟩ := HV.out.at_ (P := Tryz.prog) ulMs szMp .i64 i hlt
        have hmem := HM.out _ (List.getElem_mem hlt)
        have hgd := szSum_snoc hlt
        generalize ms[i] = m at *
        obtain ⟨s0, s1⟩ := m
        simp only at hc1 hc2 hmem hgd
        have h1o : wr.cell? ⟨b2, o2, none⟩ = some (.string s0) := (hbel.cell (p := ⟨b2, o2, none⟩) hl2).trans hc1
        have h2o : wr.cell? ⟨b2, o2 + 1, none⟩ = some (.string s1) := (hbel.cell (p := ⟨b2, o2 + 1, none⟩) hl2).trans hc2
        have HGD := Lib.hid hgd
        have HMEM := Lib.hid hmem
        have hltI : (i : Int) < ms.length := by omega
        have h20I : (i : Int) < 20 := by omega
        have hn2 := HN.out
        have w1 : IntKind.i64.wrap ((n : Int) + (s0.size : Int)) = (n : Int) + (s0.size : Int) := wr64m (by omega) (by have := hmem.1; omega)
        have w3 : IntKind.i64.wrap ((n : Int) + (s0.size : Int) + (s1.size : Int)) = (n : Int) + (s0.size : Int) + (s1.size : Int) := wr64m (by omega) (by have := hmem.1; have := hmem.2; omega)
        obtain ⟨n1, hn1⟩ : ∃ n1 : Nat, n1 = n + s0.size + s1.size := ⟨_, rfl⟩
        have w4 : (n : Int) + (s0.size : Int) + (s1.size : Int) = (n1 : Int) := by omega
        have HN1 := Lib.hid hn1
        clear hc1 hc2 hmem hgd hn2 hbel hn1
        go_wp2_with fail
        go_quiet (fail)
        go_wp2_with fail
        go_roundw
        case rel =>
          exact ⟨i + 1, n1, by go_num, congrArg (Value.int .i64) (w64m (x := (n1 : Int)) (by omega) (by have := HN1.out; have := HN.out; have := HMEM.out; omega)), by omega, by omega, by have := HN1.out; have := HN.out; have := HMEM.out; omega, by rw [HN1.out, HGD.out, HCNT.out]; omega, below_drewN HBR.out nq⟩
        case measure => simp [intOf]; omega
      · obtain rfl : i = 20 := by omega
        have h8 : decide ((ms.length : Int) ≤ 10) = false := decide_eq_false (by omega)
        go_wp2_with fail
        go_ret
        exact ⟨false, rfl, fun h => Bool.noConfusion h, HBR.out⟩
    · obtain rfl : i = ms.length := by omega
      go_wp2_with fail
      · go_ret
        exact ⟨_, rfl, fun h => ⟨by omega, by have := of_decide_eq_true h; have := HCNT.out; rw [List.take_length] at this; omega⟩, HBR.out⟩
      · go_ret
        exact ⟨false, rfl, fun h => Bool.noConfusion h, HBR.out⟩

def Rvm (ms : List Mp) (w : World) (ix : Value) (wr : World) : Prop := ∃ i : Nat, ix = .int .i64 (i : Int) ∧ i ≤ ms.length ∧ (∀ j, j < i → okM1 (ms.getD j default) = true) ∧ Below w.heap.size w wr
set_option maxRecDepth 100000 in
set_option maxHeartbeats 16000000 in
theorem rValidM (v : Value) (ms : List Mp) (w : World) (hv : IsMs w v ms) (hz : SzM ms) : Calls Tryz.prog 32 #[v] w (RetB (.bool (okM ms)) w) := by
  have hlen := hv.len (P := Tryz.prog) ulMs
  have HO1 : Hid (∀ (i : Nat) (h : i < ms.length) W, Calls Tryz.prog 72 #[.string ms[i].1] W (RetB (.bool (arcsL ms[i].1.data.toList).isSome) W)) := fun i h W => rOidValid _ W (by have := (hz.2 _ (List.getElem_mem h)).1; omega)
  have HO2 : Hid (∀ (i : Nat) (h : i < ms.length) W, Calls Tryz.prog 72 #[.string ms[i].2] W (RetB (.bool (arcsL ms[i].2.data.toList).isSome) W)) := fun i h W => rOidValid _ W (by have := (hz.2 _ (List.getElem_mem h)).2; omega)
  have HV := Lib.hid hv
  obtain ⟨A, c, rfl⟩ := isMs_slice hv
  have hnI : (ms.length : Int) ≤ 10000 := by have := hz.1; omega
  obtain ⟨B, hB⟩ : ∃ B, okM ms = B := ⟨_, rfl⟩
  rw [hB]
  have HBB := Lib.hid hB
  clear hv hz hB
  go_enter Tryz.func32, Tryz.ntmps32
  go_wp2_with fail
  go_loopw [3] (fun ix wr => Rvm ms w ix wr) (fun ix _ => ms.length + 1 - (intOf ix).toNat)
  case atStart => exact ⟨0, rfl, Nat.zero_le _, fun j h => by omega, Below.refl _ _⟩
  case round =>
    obtain ⟨i, rfl, hi, hall, hbel⟩ := hrel
    have HALL := Lib.hid hall
    have HBR := Lib.hid hbel
    clear hall
    by_cases hlt : i < ms.length
    · have hbad : okM1 ms[i] = false → B = false := fun h => by
        rw [← HBB.out, Bool.eq_false_iff]
        intro hb
        unfold okM at hb
        rw [Bool.and_eq_true, List.all_eq_true] at hb
        have := hb.2 _ (List.getElem_mem hlt)
        rw [h] at this; cases this
      have HBAD := Lib.hid hbad
      obtain ⟨b2, o2, hi2, hl2, hc1, hc2⟩ := HV.out.at_ (P := Tryz.prog) ulMs szMp .i64 i hlt
      have hgd : ms.getD i default = ms[i] := by simp [hlt]
      have HA := Lib.hid (HO1.out i hlt)
      have HB := Lib.hid (HO2.out i hlt)
      have hok : okM1 ms[i] = (otherS ms[i].1 && otherS ms[i].2) := rfl
      clear hbad
      generalize ms[i] = m at *
      obtain ⟨s0, s1⟩ := m
      simp only at hc1 hc2 HA HB hok
      have h1o : wr.cell? ⟨b2, o2, none⟩ = some (.string s0) := (hbel.cell (p := ⟨b2, o2, none⟩) hl2).trans hc1
      have HC1 := Lib.hid hc1
      have HC2 := Lib.hid hc2
      have HGD := Lib.hid hgd
      have HOK := Lib.hid hok
      have o0 : Hid (otherS s0 = ((arcsL s0.data.toList).isSome && !decide (s0 = anyP))) := rfl
      have o1 : Hid (otherS s1 = ((arcsL s1.data.toList).isSome && !decide (s1 = anyP))) := rfl
      have hltI : (i : Int) < ms.length := by omega
      clear hc1 hc2 hgd hok hbel
      generalize (arcsL s0.data.toList).isSome = C1 at *
      generalize (arcsL s1.data.toList).isSome = C2 at *
      cases C1 with
      | false =>
        have HBF := Lib.hid (HBAD.out (by rw [HOK.out, o0.out]; rfl))
        go_wp2_with (((go_at_call 72); (with_reducible refine (HA.out _).mono ?_); rintro e w3 ⟨rfl, hbw3⟩))
        go_ret
        exact ⟨by rw [HBF.out]; rfl, HBR.out.trans (hbw3.mono HBR.out.size)⟩
      | true =>
        cases C2 with
        | false =>
          have HBF := Lib.hid (HBAD.out (by rw [HOK.out, o1.out]; simp))
          go_wp2_with (first | ((go_at_call 72); (with_reducible refine (HB.out _).mono ?_); rintro e w4 ⟨rfl, hbw4⟩; have HW4 := Lib.hid (HW3.out.trans (hbw4.mono HW3.out.size))) | ((go_at_call 72); (with_reducible refine (HA.out _).mono ?_); rintro e w3 ⟨rfl, hbw3⟩; have HW3 := Lib.hid (HBR.out.trans (hbw3.mono HBR.out.size)); have c3 := (HW3.out.cell (p := ⟨b2, o2 + 1, none⟩) hl2).trans HC2.out))
          go_ret
          exact ⟨by rw [HBF.out]; rfl, HW4.out⟩
        | true =>
          by_cases e0 : s0 = anyP
          · have HBF := Lib.hid (HBAD.out (by rw [HOK.out, o0.out, decide_eq_true e0]; rfl))
            have e2 : (s0.toList == [50, 46, 53, 46, 50, 57, 46, 51, 50, 46, 48]) = true := by rw [e0, anyP_list]; rfl
            clear e0
            go_wp2_with (first | ((go_at_call 72); (with_reducible refine (HB.out _).mono ?_); rintro e w4 ⟨rfl, hbw4⟩; have HW4 := Lib.hid (HW3.out.trans (hbw4.mono HW3.out.size)); have c4 := (HW4.out.cell (p := ⟨b2, o2, none⟩) hl2).trans HC1.out) | ((go_at_call 72); (with_reducible refine (HA.out _).mono ?_); rintro e w3 ⟨rfl, hbw3⟩; have HW3 := Lib.hid (HBR.out.trans (hbw3.mono HBR.out.size)); have c3 := (HW3.out.cell (p := ⟨b2, o2 + 1, none⟩) hl2).trans HC2.out))
            go_ret
            exact ⟨by rw [HBF.out]; rfl, HW4.out⟩
          · have e2 : (s0.toList == [50, 46, 53, 46, 50, 57, 46, 51, 50, 46, 48]) = false := by rw [← anyP_list]; exact strNe0 e0
            have HE0 := Lib.hid e0
            clear e0
            by_cases e1 : s1 = anyP
            · have HBF := Lib.hid (HBAD.out (by rw [HOK.out, o1.out, decide_eq_true e1]; simp))
              have e3 : (s1.toList == [50, 46, 53, 46, 50, 57, 46, 51, 50, 46, 48]) = true := by rw [e1, anyP_list]; rfl
              clear e1
              go_wp2_with (first | ((go_at_call 72); (with_reducible refine (HB.out _).mono ?_); rintro e w4 ⟨rfl, hbw4⟩; have HW4 := Lib.hid (HW3.out.trans (hbw4.mono HW3.out.size)); have c4 := (HW4.out.cell (p := ⟨b2, o2, none⟩) hl2).trans HC1.out; have c5 := (HW4.out.cell (p := ⟨b2, o2 + 1, none⟩) hl2).trans HC2.out) | ((go_at_call 72); (with_reducible refine (HA.out _).mono ?_); rintro e w3 ⟨rfl, hbw3⟩; have HW3 := Lib.hid (HBR.out.trans (hbw3.mono HBR.out.size)); have c3 := (HW3.out.cell (p := ⟨b2, o2 + 1, none⟩) hl2).trans HC2.out))
              go_ret
              exact ⟨by rw [HBF.out]; rfl, HW4.out⟩
            · have e3 : (s1.toList == [50, 46, 53, 46, 50, 57, 46, 51, 50, 46, 48]) = false := by rw [← anyP_list]; exact strNe0 e1
              have hgood : okM1 (ms.getD i default) = true := by
                rw [HGD.out, HOK.out, o0.out, o1.out, decide_eq_false e1, decide_eq_false HE0.out]; rfl
              have HGOOD := Lib.hid hgood
              clear e1 hgood
              go_wp2_with (first | ((go_at_call 72); (with_reducible refine (HB.out _).mono ?_); rintro e w4 ⟨rfl, hbw4⟩; have HW4 := Lib.hid (HW3.out.trans (hbw4.mono HW3.out.size)); have c4 := (HW4.out.cell (p := ⟨b2, o2, none⟩) hl2).trans HC1.out; have c5 := (HW4.out.cell (p := ⟨b2, o2 + 1, none⟩) hl2).trans HC2.out) | ((go_at_call 72); (with_reducible refine (HA.out _).mono ?_); rintro e w3 ⟨rfl, hbw3⟩; have HW3 := Lib.hid (HBR.out.trans (hbw3.mono HBR.out.size)); have c3 := (HW3.out.cell (p := ⟨b2, o2 + 1, none⟩) hl2).trans HC2.out))
              go_roundw
              case rel =>
                refine ⟨i + 1, by go_num, by omega, fun j hj => ?_, HW4.out⟩
                by_cases hji : j < i
                · exact HALL.out j hji
                · obtain rfl : j = i := by omega
                  exact HGOOD.out
              case measure => simp [intOf]; omega
    · have hge : (ms.length : Int) ≤ i := by omega
      have hBv : B = decide (0 < ms.length) := by
        rw [← HBB.out]
        unfold okM
        have : ms.all okM1 = true := by
          rw [List.all_eq_true]
          intro p hp
          obtain ⟨j, hj, rfl⟩ := List.mem_iff_getElem.1 hp
          have := HALL.out j (by omega)
          rwa [show ms.getD j default = ms[j] by simp [hj]] at this
        rw [this, Bool.and_true]
      have HBV := Lib.hid hBv
      clear hlt hi hBv hbel
      go_wp2_with fail
      go_ret
      exact ⟨by rw [HBV.out]; first | rfl | simp, HBR.out⟩

def Rbm (la lb : List Mp) (w : World) (ix : Value) (wr : World) : Prop := ∃ i : Nat, ix = .int .i64 (i : Int) ∧ i ≤ la.length ∧ i ≤ lb.length ∧ (∀ j, j < i → la.getD j default = lb.getD j default) ∧ Below w.heap.size w wr
set_option maxRecDepth 100000 in
set_option maxHeartbeats 16000000 in
theorem basM (a b : Value) (la lb : List Mp) (w : World) (ha : IsMs w a la) (hb : IsMs w b lb) : Calls Tryz.prog 34 #[a, b] w (RetB (.bool (decide (la = lb))) w) := by
  have hlena := ha.len (P := Tryz.prog) ulMs
  have hlenb := hb.len (P := Tryz.prog) ulMs
  have hmxa : (la.length : Int) ≤ 9223372036854775807 := IsR.maxl ha
  have hmxb : (lb.length : Int) ≤ 9223372036854775807 := IsR.maxl hb
  have HA := Lib.hid ha
  have HB := Lib.hid hb
  obtain ⟨A, c, rfl⟩ := isMs_slice ha
  obtain ⟨A', c', rfl⟩ := isMs_slice hb
  obtain ⟨R, hR⟩ : ∃ R, decide (la = lb) = R := ⟨_, rfl⟩
  rw [hR]
  have HR := Lib.hid hR
  clear ha hb hR
  go_enter Tryz.func34, Tryz.ntmps34
  go_wp2_with fail
  go_loopw [5] (fun ix wr => Rbm la lb w ix wr) (fun ix _ => la.length + 1 - (intOf ix).toNat)
  case atStart => exact ⟨0, rfl, Nat.zero_le _, Nat.zero_le _, fun j h => by omega, Below.refl _ _⟩
  case round =>
    obtain ⟨i, rfl, hi, hi', hall, hbel⟩ := hrel
    have HALL := Lib.hid hall
    have HBR := Lib.hid hbel
    clear hall
    by_cases hlt : i < la.length
    · have hltI : (i : Int) < la.length := by omega
      by_cases hlt' : i < lb.length
      · obtain ⟨b2, o2, hi2, hl2, hc1, hc2⟩ := HA.out.at_ (P := Tryz.prog) ulMs szMp .i64 i hlt
        obtain ⟨b3, o3, hi3, hl3, hd1, hd2⟩ := HB.out.at_ (P := Tryz.prog) ulMs szMp .i64 i hlt'
        have hga : la.getD i default = la[i] := by simp [hlt]
        have hgb : lb.getD i default = lb[i] := by simp [hlt']
        have h1o : wr.cell? ⟨b2, o2, none⟩ = some (.string la[i].1) := (hbel.cell (p := ⟨b2, o2, none⟩) hl2).trans hc1
        have h2o : wr.cell? ⟨b2, o2 + 1, none⟩ = some (.string la[i].2) := (hbel.cell (p := ⟨b2, o2 + 1, none⟩) hl2).trans hc2
        have h3o : wr.cell? ⟨b3, o3, none⟩ = some (.string lb[i].1) := (hbel.cell (p := ⟨b3, o3, none⟩) hl3).trans hd1
        have h4o : wr.cell? ⟨b3, o3 + 1, none⟩ = some (.string lb[i].2) := (hbel.cell (p := ⟨b3, o3 + 1, none⟩) hl3).trans hd2
        have hltI' : (i : Int) < lb.length := by omega
        clear hc1 hc2 hd1 hd2 hbel
        generalize ha0 : la[i] = x at *
        generalize hb0 : lb[i] = y at *
        obtain ⟨s0, s1⟩ := x
        obtain ⟨t0, t1⟩ := y
        simp only at h1o h2o h3o h4o
        have HGA := Lib.hid hga
        have HGB := Lib.hid hgb
        have hne : (s0, s1) ≠ (t0, t1) → R = false := fun h => by
          rw [← HR.out]
          refine decide_eq_false fun he => h ?_
          subst he
          rw [← ha0, ← hb0]
        have HNE := Lib.hid hne
        clear hga hgb ha0 hb0 hne
        by_cases e0 : s0 = t0
        · by_cases e1 : s1 = t1
          · subst e0 e1
            have heq := strEq0 s0
            have heq1 := strEq0 s1
            go_wp2_with fail
            go_quiet (fail)
            go_wp2_with fail
            go_roundw
            case rel =>
              refine ⟨i + 1, by go_num, by omega, by omega, fun j hj => ?_, below_drewN HBR.out nq⟩
              by_cases hji : j < i
              · exact HALL.out j hji
              · obtain rfl : j = i := by omega
                rw [HGA.out, HGB.out]
            case measure => simp [intOf]; omega
          · have heq := strNe0 e1
            have HBF := Lib.hid (HNE.out fun h => e1 (Prod.mk.inj h).2)
            clear e1
            go_wp2_with fail
            go_quiet (fail)
            go_wp2_with fail
            go_ret
            exact ⟨by rw [HBF.out]; rfl, below_drewN HBR.out nq⟩
        · have heq := strNe0 e0
          have HBF := Lib.hid (HNE.out fun h => e0 (Prod.mk.inj h).1)
          clear e0
          go_wp2_with fail
          go_quiet (fail)
          go_wp2_with fail
          go_ret
          exact ⟨by rw [HBF.out]; rfl, below_drewN HBR.out nq⟩
      · have hge : (lb.length : Int) ≤ i := by omega
        have hBv : R = false := by
          rw [← HR.out]
          refine decide_eq_false fun he => ?_
          subst he
          exact hlt' hlt
        have hdd : decide ((la.length : Int) = lb.length) = false := decide_eq_false (by omega)
        have hdd2 : ((la.length : Int) == lb.length) = false := beq_eq_false_iff_ne.2 (by omega)
        go_wp2_with fail
        go_ret
        exact ⟨by rw [hBv]; first | rfl | simp, HBR.out⟩
    · have hge : (la.length : Int) ≤ i := by omega
      have hBv : R = decide (la.length = lb.length) := by
        rw [← HR.out]
        apply decide_eq_decide.2
        constructor
        · intro h; rw [h]
        · intro h
          apply List.ext_getElem h
          intro j h1 h2
          have := HALL.out j (by omega)
          simpa [h1, h2] using this
      go_wp2_with fail
      go_ret
      refine ⟨?_, HBR.out⟩
      rw [hBv]
      by_cases hll : la.length = lb.length
      · simp [hll]
      · simp [hll]; omega
end Go.Proofs.YtjjkimjdmpeddaaGreatDoor
end
