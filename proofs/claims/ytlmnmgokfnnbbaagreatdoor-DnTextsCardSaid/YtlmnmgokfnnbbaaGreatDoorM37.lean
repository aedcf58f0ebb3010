/- The parts TxtG of one proof, one behind the other. -/
import Derived.Test.YtlmnmgokfnnbbaaGreatDoorM34
import Derived.Test.YtlmnmgokfnnbbaaGreatDoorM36
import Derived.Test.YtlmnmgokfnnbbaaGreatDoorM11

/- Walk over the reference's Text. -/
section
set_option linter.unusedSimpArgs false
set_option linter.unusedVariables false
namespace Go.Proofs.YtlmnmgokfnnbbaaGreatDoor
open Go.RowKit Go.Cr
theorem join_snocD (sep : List UInt8) (xs : List (List UInt8)) (x : List UInt8) : Lib.join (xs ++ [x]) sep = Lib.join xs sep ++ (if 0 < xs.length then sep else []) ++ x := by
  cases xs with
  | nil => simp [Lib.join_one, Lib.join_nil]
  | cons y t =>
    rw [List.cons_append, Lib.join_cons, Lib.join_cons]
    simp [Lib.joinTail]
def tN (n : Nam) (i : Nat) : List UInt8 := Lib.join (((n.take i).map rdnT).map (·.data.toList)) [44, 32]
def tR (r : Rdn) (k : Nat) : List UInt8 := Lib.join (((r.take k).map attT).map (·.data.toList)) [43]
theorem tN_succ {n : Nam} {i : Nat} (h : i < n.length) : tN n (i + 1) = tN n i ++ (if 0 < i then [44, 32] else []) ++ tR n[i] n[i].length := by
  unfold tN
  rw [List.take_succ_eq_append_getElem h, List.map_append, List.map_append, List.map_cons, List.map_nil, List.map_cons, List.map_nil, join_snocD]
  have e : ((((n.take i).map rdnT).map (·.data.toList)).length) = i := by simp; omega
  have e2 : (rdnT n[i]).data.toList = tR n[i] n[i].length := by unfold rdnT tR; rw [List.take_length]; simp [bStr]
  rw [e, e2]
theorem tR_succ {r : Rdn} {k : Nat} (h : k < r.length) : tR r (k + 1) = tR r k ++ (if 0 < k then [43] else []) ++ (attT r[k]).data.toList := by
  unfold tR
  rw [List.take_succ_eq_append_getElem h, List.map_append, List.map_append, List.map_cons, List.map_nil, List.map_cons, List.map_nil, join_snocD]
  have e : ((((r.take k).map attT).map (·.data.toList)).length) = k := by simp; omega
  rw [e]
theorem tR_len {r : Rdn} (hz : SzR r) (k : Nat) : (tR r k).length ≤ 9000030000 := by
  have := join_le 900002 [43] (((r.take k).map attT).map (·.data.toList)) (fun x hx => by
    obtain ⟨y, hy, rfl⟩ := List.mem_map.1 hx
    obtain ⟨a, ha, rfl⟩ := List.mem_map.1 hy
    have := hz.2.1 a (List.mem_of_mem_take ha)
    exact attT_len this.1 this.2)
  have hl := hz.1
  have hk : (r.take k).length ≤ r.length := by rw [List.length_take]; omega
  simp only [List.length_map, List.length_cons, List.length_nil] at this
  have h3 : (900002 + (0 + 1)) * (r.take k).length ≤ (900002 + (0 + 1)) * 10000 := Nat.mul_le_mul_left _ (by omega)
  unfold tR
  omega
theorem tN_len {n : Nam} (hz : SzNm n) (i : Nat) : (tN n i).length ≤ 140737488355328 := by
  have := join_le 9000030000 [44, 32] (((n.take i).map rdnT).map (·.data.toList)) (fun x hx => by
    obtain ⟨y, hy, rfl⟩ := List.mem_map.1 hx
    obtain ⟨r, hr, rfl⟩ := List.mem_map.1 hy
    have h1 := rdnT_len (hz.2.1 r (List.mem_of_mem_take hr))
    have e : (rdnT r).data.toList = Lib.join ((r.map attT).map (·.data.toList)) [43] := by unfold rdnT; simp [bStr]
    rw [e]
    exact h1)
  have hl := hz.1
  have hk : (n.take i).length ≤ n.length := by rw [List.length_take]; omega
  simp only [List.length_map, List.length_cons, List.length_nil] at this
  have h3 : (9000030000 + (0 + 1 + 1)) * (n.take i).length ≤ (9000030000 + (0 + 1 + 1)) * 10000 := Nat.mul_le_mul_left _ (by omega)
  unfold tN
  omega
theorem bcat4 (p t : List UInt8) (x : ByteArray) : bStr (p ++ (t ++ [43] ++ x.data.toList)) = bStr (p ++ t) ++ (⟨#[43]⟩ : ByteArray) ++ x := ByteArray.ext (Array.ext' (by simp [bStr]))
theorem bcat3 (p t : List UInt8) (x : ByteArray) : bStr (p ++ (t ++ x.data.toList)) = bStr (p ++ t) ++ x := ByteArray.ext (Array.ext' (by simp [bStr]))
def ToRel (n : Nam) (w : World) (sv ix : Value) (wr : World) : Prop := ∃ i : Nat, ix = .int .i64 (i : Int) ∧ i ≤ n.length ∧ sv = .string (bStr (tN n i)) ∧ Below w.heap.size w wr
def TiRel (pp : List UInt8) (r : Rdn) (w : World) (sv ix : Value) (wr : World) : Prop := ∃ k : Nat, ix = .int .i64 (k : Int) ∧ k ≤ r.length ∧ sv = .string (bStr (pp ++ tR r k)) ∧ Below w.heap.size w wr
set_option maxRecDepth 100000 in
set_option maxHeartbeats 16000000 in
theorem rTextN (v : Value) (n : Nam) (w : World) (hv : IsNm w v n) (hz : SzNm n) (hval : ∀ r ∈ n, ∀ a ∈ r, a.2.length ≤ 4000) : Calls Tryz.prog 22 #[v] w (RetB (.string (if (marNm n).isSome then textX n else ⟨#[]⟩)) w) := by
  have HVA := Lib.hid (rValidNm v n w hv hz)
  have hlen := hv.len (P := Tryz.prog) ulNam
  have HV := Lib.hid hv
  have HZ := Lib.hid hz
  have HVL := Lib.hid hval
  have hnl := hz.1
  have hnlI : (n.length : Int) ≤ 10000 := by omega
  have htx : textX n = bStr (tN n n.length) := by unfold textX tN; rw [List.take_length]
  have HTX := Lib.hid htx
  obtain ⟨A, c, rfl⟩ := isNm_slice hv
  clear hv hz hval htx
  generalize (marNm n).isSome = V at *
  cases V with
  | false =>
    rw [if_neg (by decide)]
    go_enter Tryz.func22, Tryz.ntmps22
    go_wp2_with (((go_at_call 20); (with_reducible refine HVA.out.mono ?_); rintro e w1 ⟨rfl, hb1⟩))
    go_ret
    exact ⟨rfl, hb1⟩
  | true =>
    rw [if_pos rfl]
    go_enter Tryz.func22, Tryz.ntmps22
    go_wp2_with (((go_at_call 20); (with_reducible refine HVA.out.mono ?_); rintro e w1 ⟨rfl, hb1⟩; have HB1 := Lib.hid hb1; clear hb1))
    go_loopw [3, 4] (fun sv ix wr => ToRel n w sv ix wr) (fun _ ix _ => n.length + 1 - (intOf ix).toNat)
    case atStart => exact ⟨0, rfl, Nat.zero_le _, rfl, HB1.out⟩
    case round =>
      obtain ⟨i, rfl, hi, hsv, hbel⟩ := hrel
      subst hsv
      obtain ⟨wo, rfl⟩ : ∃ wo, wo = wr := ⟨_, rfl⟩
      have HBR := Lib.hid hbel
      by_cases hlt : i < n.length
      · have hltI : (i : Int) < n.length := by omega
        obtain ⟨b2, o2, A2, k2, hi2, hl2, hc2, hIR⟩ := HV.out.at_ (P := Tryz.prog) ulNam szRdn .i64 i hlt
        have zr := HZ.out.2.1 _ (List.getElem_mem hlt)
        have HVR := Lib.hid (HVL.out _ (List.getElem_mem hlt))
        have HTS := Lib.hid (tN_succ hlt)
        have htl := tN_len HZ.out i
        have hcr := (hbel.cell (p := ⟨b2, o2, none⟩) hl2).trans hc2
        generalize n[i] = r at *
        have hrlen := hIR.len (P := Tryz.prog) ulRdn
        have HIR := Lib.hid hIR
        have HZR := Lib.hid zr
        have HC2 := Lib.hid hc2
        have hrl := zr.1
        have hrlI : (r.length : Int) ≤ 10000 := by omega
        have hz0 : (bStr (tN n i)).size = (tN n i).length := bstr_size _
        generalize tN n i = tt at *
        by_cases hi0 : 0 < i
        · have hi0I : (0 : Int) < i := by omega
          rw [if_pos hi0] at HTS
          have z1 : ¬ (9223372036854775807 < (bStr tt).size + 2) := by omega
          have HPP := Lib.hid (show bStr tt ++ (⟨#[44, 32]⟩ : ByteArray) = bStr (tt ++ [44, 32]) from bStr_cat tt [44, 32])
          have hppl : (tt ++ [44, 32]).length ≤ 140737488355330 := by rw [List.length_append]; simp; omega
          obtain ⟨pp, hpp⟩ : ∃ pp, tt ++ [44, 32] = pp := ⟨_, rfl⟩
          rw [hpp] at HTS HPP hppl
          generalize bStr tt = SS at *
          clear hIR zr hbel hc2 hpp
          go_wp2_with fail
          go_loopw [3, 5] (fun sv ix wq => TiRel pp r w sv ix wq) (fun _ ix _ => r.length + 1 - (intOf ix).toNat)
          case atStart => exact ⟨0, rfl, Nat.zero_le _, by rw [HPP.out]; simp [tR, Lib.join_nil], HBR.out⟩
          case round =>
            obtain ⟨k, rfl, hk, hsv2, hbi⟩ := hrel
            subst hsv2
            obtain ⟨wm, rfl⟩ : ∃ wm, wm = wr := ⟨_, rfl⟩
            have HBI := Lib.hid hbi
            have hcm := (hbi.cell (p := ⟨b2, o2, none⟩) hl2).trans HC2.out
            have htr := tR_len HZR.out k
            by_cases hkl : k < r.length
            · have hklI : (k : Int) < r.length := by omega
              obtain ⟨b4, o4, A4, k4, hi4, hl4, hd1, hd2, hIB⟩ := HIR.out.at_ (P := Tryz.prog) ulRdn szAtt .i64 k hkl
              have hzk := HZR.out.2.1 _ (List.getElem_mem hkl)
              have hvk := HVR.out _ (List.getElem_mem hkl)
              have HTI := Lib.hid (tR_succ hkl)
              have hg1 := (hbi.cell (p := ⟨b4, o4, none⟩) hl4).trans hd1
              have hg2 := (hbi.cell (p := ⟨b4, o4 + 1, none⟩) hl4).trans hd2
              generalize r[k] = a at *
              obtain ⟨s, l⟩ := a
              simp only at hd1 hd2 hIB hzk hg1 hg2 hvk
              have hat : attT (s, l) = labX s ++ (⟨#[61]⟩ : ByteArray) ++ bStr (valX l) := rfl
              have hvz : (bStr (valX l)).size ≤ 800001 := by rw [bstr_size]; exact valX_len hzk.2
              have hsz := hzk.1
              have hlz := labelOf_len s
              have HVC := Lib.hid (fun W v (h : IsB W v l) => rValue v l W h hvk)
              have HIB := Lib.hid hIB
              have HSS : Hid (∀ W, Below w.heap.size w W → W.cell? ⟨b2, o2, none⟩ = some (.slice A2 r.length k2) ∧ W.cell? ⟨b4, o4, none⟩ = some (.string s) ∧ W.cell? ⟨b4, o4 + 1, none⟩ = some (.slice A4 l.length k4)) := Lib.hid (fun W hW => ⟨(hW.cell (p := ⟨b2, o2, none⟩) hl2).trans HC2.out, (hW.cell (p := ⟨b4, o4, none⟩) hl4).trans hd1, (hW.cell (p := ⟨b4, o4 + 1, none⟩) hl4).trans hd2⟩)
              generalize bStr (valX l) = VX at *
              have hq0 : (bStr (pp ++ tR r k)).size = pp.length + (tR r k).length := by rw [bstr_size, List.length_append]
              generalize hTR : tR r k = tr at *
              have hlx : labX s = (if labelOf s = ⟨#[]⟩ then s else labelOf s) := rfl
              have hlxz : (labX s).size ≤ 100000 := by rw [hlx]; split <;> omega
              have HL := Lib.hid (fun W => rLabel s W)
              generalize hLO : labelOf s = LO at *
              have HAT := Lib.hid hat
              clear hbi hIB hat hzk hd1 hd2 hvk hTR
              by_cases hk0 : 0 < k
              · have hk0I : (0 : Int) < k := by omega
                rw [if_pos hk0] at HTI
                by_cases hle : LO = ⟨#[]⟩
                · subst hle
                  have hlx2 : labX s = s := by rw [hlx, if_pos rfl]
                  rw [hlx2] at HAT
                  have HE := Lib.hid (show bStr (pp ++ tr) ++ (⟨#[43]⟩ : ByteArray) ++ s ++ (⟨#[61]⟩ : ByteArray) ++ VX = bStr (pp ++ (tr ++ [43] ++ (attT (s, l)).data.toList)) by
                    rw [HAT.out, bcat4]
                    simp only [ByteArray.append_assoc])
                  generalize bStr (pp ++ tr) = SP at *
                  have z1 : ¬ (9223372036854775807 < SP.size + 1) := by omega
                  have z2 : ¬ (9223372036854775807 < SP.size + 1 + s.size) := by omega
                  have z3 : ¬ (9223372036854775807 < SP.size + 1 + s.size + 1) := by omega
                  have z4 : ¬ (9223372036854775807 < SP.size + 1 + s.size + 1 + VX.size) := by omega
                  clear hlx hlx2 hk0
                  go_wp2_with (first
                    | ((go_at_call 47); (with_reducible refine (HL.out _).mono ?_); rintro e w2 ⟨rfl, hb2⟩; have HM2 := Lib.hid (HBI.out.trans (hb2.mono HBI.out.size)); obtain ⟨f0, f1, f2⟩ := HSS.out _ HM2.out; clear hb2)
                    | ((go_at_call 48); (with_reducible refine (HVC.out _ _ (HIB.out.below HM2.out)).mono ?_); rintro e w3 ⟨rfl, hb3⟩; have HM3 := Lib.hid (HM2.out.trans (hb3.mono HM2.out.size)); clear hb3))
                  go_roundw
                  case rel => exact ⟨k + 1, by go_num, by omega, by first | (rw [HTI.out, ← HE.out]; done) | (rw [HTI.out, ← HE.out]; simp only [ByteArray.append_assoc]), HM3.out⟩
                  case measure => simp [intOf]; omega
                · have hlx2 : labX s = LO := by rw [hlx, if_neg hle]
                  rw [hlx2] at HAT
                  have he : (LO.toList == (⟨#[]⟩ : ByteArray).toList) = false := by
                    rw [ByteArray.toList_eq, ByteArray.toList_eq]
                    exact beq_eq_false_iff_ne.2 (fun h => hle (ByteArray.ext (Array.ext' h)))
                  have he3 : ¬ (LO.toList = []) := by
                    rw [ByteArray.toList_eq]
                    exact fun h => hle (ByteArray.ext (Array.ext' h))
                  have he2 : LO.toList.isEmpty = false := by
                    cases hq : LO.toList with
                    | nil => exact absurd hq he3
                    | cons _ _ => rfl
                  have HE := Lib.hid (show bStr (pp ++ tr) ++ (⟨#[43]⟩ : ByteArray) ++ LO ++ (⟨#[61]⟩ : ByteArray) ++ VX = bStr (pp ++ (tr ++ [43] ++ (attT (s, l)).data.toList)) by
                    rw [HAT.out, bcat4]
                    simp only [ByteArray.append_assoc])
                  generalize bStr (pp ++ tr) = SP at *
                  have z1 : ¬ (9223372036854775807 < SP.size + 1) := by omega
                  have z2 : ¬ (9223372036854775807 < SP.size + 1 + LO.size) := by omega
                  have z3 : ¬ (9223372036854775807 < SP.size + 1 + LO.size + 1) := by omega
                  have z4 : ¬ (9223372036854775807 < SP.size + 1 + LO.size + 1 + VX.size) := by omega
                  clear hlx hlx2 hk0 hle
                  go_wp2_with (first
                    | ((go_at_call 47); (with_reducible refine (HL.out _).mono ?_); rintro e w2 ⟨rfl, hb2⟩; have HM2 := Lib.hid (HBI.out.trans (hb2.mono HBI.out.size)); obtain ⟨f0, f1, f2⟩ := HSS.out _ HM2.out; clear hb2)
                    | ((go_at_call 48); (with_reducible refine (HVC.out _ _ (HIB.out.below HM2.out)).mono ?_); rintro e w3 ⟨rfl, hb3⟩; have HM3 := Lib.hid (HM2.out.trans (hb3.mono HM2.out.size)); clear hb3))
                  go_roundw
                  case rel => exact ⟨k + 1, by go_num, by omega, by first | (rw [HTI.out, ← HE.out]; done) | (rw [HTI.out, ← HE.out]; simp only [ByteArray.append_assoc]), HM3.out⟩
                  case measure => simp [intOf]; omega
              · have hk0I : (k : Int) ≤ 0 := by omega
                rw [if_neg hk0, List.append_nil] at HTI
                by_cases hle : LO = ⟨#[]⟩
                · subst hle
                  have hlx2 : labX s = s := by rw [hlx, if_pos rfl]
                  rw [hlx2] at HAT
                  have HE := Lib.hid (show bStr (pp ++ tr) ++ s ++ (⟨#[61]⟩ : ByteArray) ++ VX = bStr (pp ++ (tr ++ (attT (s, l)).data.toList)) by
                    rw [HAT.out, bcat3]
                    simp only [ByteArray.append_assoc])
                  generalize bStr (pp ++ tr) = SP at *
                  have z2 : ¬ (9223372036854775807 < SP.size + s.size) := by omega
                  have z3 : ¬ (9223372036854775807 < SP.size + s.size + 1) := by omega
                  have z4 : ¬ (9223372036854775807 < SP.size + s.size + 1 + VX.size) := by omega
                  clear hlx hlx2 hk0
                  go_wp2_with (first
                    | ((go_at_call 47); (with_reducible refine (HL.out _).mono ?_); rintro e w2 ⟨rfl, hb2⟩; have HM2 := Lib.hid (HBI.out.trans (hb2.mono HBI.out.size)); obtain ⟨f0, f1, f2⟩ := HSS.out _ HM2.out; clear hb2)
                    | ((go_at_call 48); (with_reducible refine (HVC.out _ _ (HIB.out.below HM2.out)).mono ?_); rintro e w3 ⟨rfl, hb3⟩; have HM3 := Lib.hid (HM2.out.trans (hb3.mono HM2.out.size)); clear hb3))
                  go_roundw
                  case rel => exact ⟨k + 1, by go_num, by omega, by first | (rw [HTI.out, ← HE.out]; done) | (rw [HTI.out, ← HE.out]; simp only [ByteArray.append_assoc]), HM3.out⟩
                  case measure => simp [intOf]; omega
                · have hlx2 : labX s = LO := by rw [hlx, if_neg hle]
                  rw [hlx2] at HAT
                  have he : (LO.toList == (⟨#[]⟩ : ByteArray).toList) = false := by
                    rw [ByteArray.toList_eq, ByteArray.toList_eq]
                    exact beq_eq_false_iff_ne.2 (fun h => hle (ByteArray.ext (Array.ext' h)))
                  have he3 : ¬ (LO.toList = []) := by
                    rw [ByteArray.toList_eq]
                    exact fun h => hle (ByteArray.ext (Array.ext' h))
                  have he2 : LO.toList.isEmpty = false := by
                    cases hq : LO.toList with
                    | nil => exact absurd hq he3
                    | cons _ _ => rfl
                  have HE := Lib.hid (show bStr (pp ++ tr) ++ LO ++ (⟨#[61]⟩ : ByteArray) ++ VX = bStr (pp ++ (tr ++ (attT (s, l)).data.toList)) by
                    rw [HAT.out, bcat3]
                    simp only [ByteArray.append_assoc])
                  generalize bStr (pp ++ tr) = SP at *
                  have z2 : ¬ (9223372036854775807 < SP.size + LO.size) := by omega
                  have z3 : ¬ (9223372036854775807 < SP.size + LO.size + 1) := by omega
                  have z4 : ¬ (9223372036854775807 < SP.size + LO.size + 1 + VX.size) := by omega
                  clear hlx hlx2 hk0 hle
                  go_wp2_with (first
                    | ((go_at_call 47); (with_reducible refine (HL.out _).mono ?_); rintro e w2 ⟨rfl, hb2⟩; have HM2 := Lib.hid (HBI.out.trans (hb2.mono HBI.out.size)); obtain ⟨f0, f1, f2⟩ := HSS.out _ HM2.out; clear hb2)
                    | ((go_at_call 48); (with_reducible refine (HVC.out _ _ (HIB.out.below HM2.out)).mono ?_); rintro e w3 ⟨rfl, hb3⟩; have HM3 := Lib.hid (HM2.out.trans (hb3.mono HM2.out.size)); clear hb3))
                  go_roundw
                  case rel => exact ⟨k + 1, by go_num, by omega, by first | (rw [HTI.out, ← HE.out]; done) | (rw [HTI.out, ← HE.out]; simp only [ByteArray.append_assoc]), HM3.out⟩
                  case measure => simp [intOf]; omega
            · have hke : k = r.length := by omega
              have hge : (r.length : Int) ≤ k := by omega
              have HFIN := Lib.hid (show bStr (pp ++ tR r k) = bStr (tN n (i + 1)) by rw [HTS.out, hke])
              generalize bStr (pp ++ tR r k) = SP at *
              clear hke hkl hbi htr
              go_wp2_with fail
              go_roundw
              case rel => exact ⟨i + 1, by go_num, by omega, by rw [← HFIN.out], HBI.out⟩
              case measure => simp [intOf]; omega
        · have hi0I : (i : Int) ≤ 0 := by omega
          rw [if_neg hi0, List.append_nil] at HTS
          have hppl : tt.length ≤ 140737488355330 := by omega
          obtain ⟨pp, hpp⟩ : ∃ pp, tt = pp := ⟨_, rfl⟩
          subst hpp
          have HPP := Lib.hid (show bStr tt = bStr (tt ++ tR r 0) by simp [tR, Lib.join_nil])
          clear hIR zr hbel hc2
          go_wp2_with fail
          go_loopw [3, 5] (fun sv ix wq => TiRel tt r w sv ix wq) (fun _ ix _ => r.length + 1 - (intOf ix).toNat)
          case atStart => exact ⟨0, rfl, Nat.zero_le _, by rw [← HPP.out], HBR.out⟩
          case round =>
            obtain ⟨k, rfl, hk, hsv2, hbi⟩ := hrel
            subst hsv2
            obtain ⟨wm, rfl⟩ : ∃ wm, wm = wr := ⟨_, rfl⟩
            have HBI := Lib.hid hbi
            have hcm := (hbi.cell (p := ⟨b2, o2, none⟩) hl2).trans HC2.out
            have htr := tR_len HZR.out k
            by_cases hkl : k < r.length
            · have hklI : (k : Int) < r.length := by omega
              obtain ⟨b4, o4, A4, k4, hi4, hl4, hd1, hd2, hIB⟩ := HIR.out.at_ (P := Tryz.prog) ulRdn szAtt .i64 k hkl
              have hzk := HZR.out.2.1 _ (List.getElem_mem hkl)
              have hvk := HVR.out _ (List.getElem_mem hkl)
              have HTI := Lib.hid (tR_succ hkl)
              have hg1 := (hbi.cell (p := ⟨b4, o4, none⟩) hl4).trans hd1
              have hg2 := (hbi.cell (p := ⟨b4, o4 + 1, none⟩) hl4).trans hd2
              generalize r[k] = a at *
              obtain ⟨s, l⟩ := a
              simp only at hd1 hd2 hIB hzk hg1 hg2 hvk
              have hat : attT (s, l) = labX s ++ (⟨#[61]⟩ : ByteArray) ++ bStr (valX l) := rfl
              have hvz : (bStr (valX l)).size ≤ 800001 := by rw [bstr_size]; exact valX_len hzk.2
              have hsz := hzk.1
              have hlz := labelOf_len s
              have HVC := Lib.hid (fun W v (h : IsB W v l) => rValue v l W h hvk)
              have HIB := Lib.hid hIB
              have HSS : Hid (∀ W, Below w.heap.size w W → W.cell? ⟨b2, o2, none⟩ = some (.slice A2 r.length k2) ∧ W.cell? ⟨b4, o4, none⟩ = some (.string s) ∧ W.cell? ⟨b4, o4 + 1, none⟩ = some (.slice A4 l.length k4)) := Lib.hid (fun W hW => ⟨(hW.cell (p := ⟨b2, o2, none⟩) hl2).trans HC2.out, (hW.cell (p := ⟨b4, o4, none⟩) hl4).trans hd1, (hW.cell (p := ⟨b4, o4 + 1, none⟩) hl4).trans hd2⟩)
              generalize bStr (valX l) = VX at *
              have hq0 : (bStr (tt ++ tR r k)).size = tt.length + (tR r k).length := by rw [bstr_size, List.length_append]
              generalize hTR : tR r k = tr at *
              have hlx : labX s = (if labelOf s = ⟨#[]⟩ then s else labelOf s) := rfl
              have hlxz : (labX s).size ≤ 100000 := by rw [hlx]; split <;> omega
              have HL := Lib.hid (fun W => rLabel s W)
              generalize hLO : labelOf s = LO at *
              have HAT := Lib.hid hat
              clear hbi hIB hat hzk hd1 hd2 hvk hTR
              by_cases hk0 : 0 < k
              · have hk0I : (0 : Int) < k := by omega
                rw [if_pos hk0] at HTI
                by_cases hle : LO = ⟨#[]⟩
                · subst hle
                  have hlx2 : labX s = s := by rw [hlx, if_pos rfl]
                  rw [hlx2] at HAT
                  have HE := Lib.hid (show bStr (tt ++ tr) ++ (⟨#[43]⟩ : ByteArray) ++ s ++ (⟨#[61]⟩ : ByteArray) ++ VX = bStr (tt ++ (tr ++ [43] ++ (attT (s, l)).data.toList)) by
                    rw [HAT.out, bcat4]
                    simp only [ByteArray.append_assoc])
                  generalize bStr (tt ++ tr) = SP at *
                  have z1 : ¬ (9223372036854775807 < SP.size + 1) := by omega
                  have z2 : ¬ (9223372036854775807 < SP.size + 1 + s.size) := by omega
                  have z3 : ¬ (9223372036854775807 < SP.size + 1 + s.size + 1) := by omega
                  have z4 : ¬ (9223372036854775807 < SP.size + 1 + s.size + 1 + VX.size) := by omega
                  clear hlx hlx2 hk0
                  go_wp2_with (first
                    | ((go_at_call 47); (with_reducible refine (HL.out _).mono ?_); rintro e w2 ⟨rfl, hb2⟩; have HM2 := Lib.hid (HBI.out.trans (hb2.mono HBI.out.size)); obtain ⟨f0, f1, f2⟩ := HSS.out _ HM2.out; clear hb2)
                    | ((go_at_call 48); (with_reducible refine (HVC.out _ _ (HIB.out.below HM2.out)).mono ?_); rintro e w3 ⟨rfl, hb3⟩; have HM3 := Lib.hid (HM2.out.trans (hb3.mono HM2.out.size)); clear hb3))
                  go_roundw
                  case rel => exact ⟨k + 1, by go_num, by omega, by first | (rw [HTI.out, ← HE.out]; done) | (rw [HTI.out, ← HE.out]; simp only [ByteArray.append_assoc]), HM3.out⟩
                  case measure => simp [intOf]; omega
                · have hlx2 : labX s = LO := by rw [hlx, if_neg hle]
                  rw [hlx2] at HAT
                  have he : (LO.toList == (⟨#[]⟩ : ByteArray).toList) = false := by
                    rw [ByteArray.toList_eq, ByteArray.toList_eq]
                    exact beq_eq_false_iff_ne.2 (fun h => hle (ByteArray.ext (Array.ext' h)))
                  have he3 : ¬ (LO.toList = []) := by
                    rw [ByteArray.toList_eq]
                    exact fun h => hle (ByteArray.ext (Array.ext' h))
                  have he2 : LO.toList.isEmpty = false := by
                    cases hq : LO.toList with
                    | nil => exact absurd hq he3
                    | cons _ _ => rfl
                  have HE := Lib.hid (show bStr (tt ++ tr) ++ (⟨#[43]⟩ : ByteArray) ++ LO ++ (⟨#[61]⟩ : ByteArray) ++ VX = bStr (tt ++ (tr ++ [43] ++ (attT (s, l)).data.toList)) by
                    rw [HAT.out, bcat4]
                    simp only [ByteArray.append_assoc])
                  generalize bStr (tt ++ tr) = SP at *
                  have z1 : ¬ (9223372036854775807 < SP.size + 1) := by omega
                  have z2 : ¬ (9223372036854775807 < SP.size + 1 + LO.size) := by omega
                  have z3 : ¬ (9223372036854775807 < SP.size + 1 + LO.size + 1) := by omega
                  have z4 : ¬ (9223372036854775807 < SP.size + 1 + LO.size + 1 + VX.size) := by omega
                  clear hlx hlx2 hk0 hle
                  go_wp2_with (first
                    | ((go_at_call 47); (with_reducible refine (HL.out _).mono ?_); rintro e w2 ⟨rfl, hb2⟩; have HM2 := Lib.hid (HBI.out.trans (hb2.mono HBI.out.size)); obtain ⟨f0, f1, f2⟩ := HSS.out _ HM2.out; clear hb2)
                    | ((go_at_call 48); (with_reducible refine (HVC.out _ _ (HIB.out.below HM2.out)).mono ?_); rintro e w3 ⟨rfl, hb3⟩; have HM3 := Lib.hid (HM2.out.trans (hb3.mono HM2.out.size)); clear hb3))
                  go_roundw
                  case rel => exact ⟨k + 1, by go_num, by omega, by first | (rw [HTI.out, ← HE.out]; done) | (rw [HTI.out, ← HE.out]; simp only [ByteArray.append_assoc]), HM3.out⟩
                  case measure => simp [intOf]; omega
              · have hk0I : (k : Int) ≤ 0 := by omega
                rw [if_neg hk0, List.append_nil] at HTI
                by_cases hle : LO = ⟨#[]⟩
                · subst hle
                  have hlx2 : labX s = s := by rw [hlx, if_pos rfl]
                  rw [hlx2] at HAT
                  have HE := Lib.hid (show bStr (tt ++ tr) ++ s ++ (⟨#[61]⟩ : ByteArray) ++ VX = bStr (tt ++ (tr ++ (attT (s, l)).data.toList)) by
                    rw [HAT.out, bcat3]
                    simp only [ByteArray.append_assoc])
                  generalize bStr (tt ++ tr) = SP at *
                  have z2 : ¬ (9223372036854775807 < SP.size + s.size) := by omega
                  have z3 : ¬ (9223372036854775807 < SP.size + s.size + 1) := by omega
                  have z4 : ¬ (9223372036854775807 < SP.size + s.size + 1 + VX.size) := by omega
                  clear hlx hlx2 hk0
                  go_wp2_with (first
                    | ((go_at_call 47); (with_reducible refine (HL.out _).mono ?_); rintro e w2 ⟨rfl, hb2⟩; have HM2 := Lib.hid (HBI.out.trans (hb2.mono HBI.out.size)); obtain ⟨f0, f1, f2⟩ := HSS.out _ HM2.out; clear hb2)
                    | ((go_at_call 48); (with_reducible refine (HVC.out _ _ (HIB.out.below HM2.out)).mono ?_); rintro e w3 ⟨rfl, hb3⟩; have HM3 := Lib.hid (HM2.out.trans (hb3.mono HM2.out.size)); clear hb3))
                  go_roundw
                  case rel => exact ⟨k + 1, by go_num, by omega, by first | (rw [HTI.out, ← HE.out]; done) | (rw [HTI.out, ← HE.out]; simp only [ByteArray.append_assoc]), HM3.out⟩
                  case measure => simp [intOf]; omega
                · have hlx2 : labX s = LO := by rw [hlx, if_neg hle]
                  rw [hlx2] at HAT
                  have he : (LO.toList == (⟨#[]⟩ : ByteArray).toList) = false := by
                    rw [ByteArray.toList_eq, ByteArray.toList_eq]
                    exact beq_eq_false_iff_ne.2 (fun h => hle (ByteArray.ext (Array.ext' h)))
                  have he3 : ¬ (LO.toList = []) := by
                    rw [ByteArray.toList_eq]
                    exact fun h => hle (ByteArray.ext (Array.ext' h))
                  have he2 : LO.toList.isEmpty = false := by
                    cases hq : LO.toList with
                    | nil => exact absurd hq he3
                    | cons _ _ => rfl
                  have HE := Lib.hid (show bStr (tt ++ tr) ++ LO ++ (⟨#[61]⟩ : ByteArray) ++ VX = bStr (tt ++ (tr ++ (attT (s, l)).data.toList)) by
                    rw [HAT.out, bcat3]
                    simp only [ByteArray.append_assoc])
                  generalize bStr (tt ++ tr) = SP at *
                  have z2 : ¬ (9223372036854775807 < SP.size + LO.size) := by omega
                  have z3 : ¬ (9223372036854775807 < SP.size + LO.size + 1) := by omega
                  have z4 : ¬ (9223372036854775807 < SP.size + LO.size + 1 + VX.size) := by omega
                  clear hlx hlx2 hk0 hle
                  go_wp2_with (first
                    | ((go_at_call 47); (with_reducible refine (HL.out _).mono ?_); rintro e w2 ⟨rfl, hb2⟩; have HM2 := Lib.hid (HBI.out.trans (hb2.mono HBI.out.size)); obtain ⟨f0, f1, f2⟩ := HSS.out _ HM2.out; clear hb2)
                    | ((go_at_call 48); (with_reducible refine (HVC.out _ _ (HIB.out.below HM2.out)).mono ?_); rintro e w3 ⟨rfl, hb3⟩; have HM3 := Lib.hid (HM2.out.trans (hb3.mono HM2.out.size)); clear hb3))
                  go_roundw
                  case rel => exact ⟨k + 1, by go_num, by omega, by first | (rw [HTI.out, ← HE.out]; done) | (rw [HTI.out, ← HE.out]; simp only [ByteArray.append_assoc]), HM3.out⟩
                  case measure => simp [intOf]; omega
            · have hke : k = r.length := by omega
              have hge : (r.length : Int) ≤ k := by omega
              have HFIN := Lib.hid (show bStr (tt ++ tR r k) = bStr (tN n (i + 1)) by rw [HTS.out, hke])
              generalize bStr (tt ++ tR r k) = SP at *
              clear hke hkl hbi htr
              go_wp2_with fail
              go_roundw
              case rel => exact ⟨i + 1, by go_num, by omega, by rw [← HFIN.out], HBI.out⟩
              case measure => simp [intOf]; omega
      · have hie : i = n.length := by omega
        have hge : (n.length : Int) ≤ i := by omega
        obtain ⟨SS, hSS⟩ : ∃ SS, bStr (tN n n.length) = SS := ⟨_, rfl⟩
        have HS2 := Lib.hid (HTX.out.trans hSS)
        rw [hie, hSS]
        clear hSS
        clear hie hlt hi hbel
        go_wp2_with fail
        go_ret
        exact ⟨by rw [HS2.out]; rfl, HBR.out⟩
end Go.Proofs.YtlmnmgokfnnbbaaGreatDoor
end
