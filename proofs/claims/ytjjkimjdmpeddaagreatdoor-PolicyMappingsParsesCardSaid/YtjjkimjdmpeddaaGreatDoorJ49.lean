/- The parts MapP, RefN, PmA, PmB of one proof, one behind the other. -/
import Derived.Test.YtjjkimjdmpeddaaGreatDoorJ47
import Derived.Test.YtjjkimjdmpeddaaGreatDoorJ36
import Derived.Test.YtjjkimjdmpeddaaGreatDoorJ44
import Derived.Test.YtjjkimjdmpeddaaGreatDoorJ48
import Derived.Test.YtjjkimjdmpeddaaGreatDoorJ26
import Derived.Deep.RegionHeld3
import Derived.Test.YtjjkimjdmpeddaaGreatDoorJ43
import Derived.RegionTactic
import Derived.ChangeAlike

/- Mappings: what is parsed is what would be marshalled, and what the reference parses. No program in sight. -/
section
set_option linter.unusedSimpArgs false
set_option linter.unusedVariables false
namespace Go.Proofs.YtjjkimjdmpeddaaGreatDoor
open Go.RowKit Go.Cr

theorem objL_eq (s : List UInt8) : objL (bStr s) = objB s := rfl
theorem objL_eq' (s : ByteArray) : objL s = objB s.data.toList := rfl
theorem seqL_eq (ls : List (List UInt8)) : seqL ls = seqB ls := rfl
theorem bStr_data (s : ByteArray) : bStr s.data.toList = s := bStr_eq s
/-- What is read of a mapping, whether it is one or not. -/
def rawM (x : List UInt8) : Mp := match eachL 2 2 x with
  | some [y0, y1] => (bStr ((idL y0).getD []), if (idL y0).isSome then bStr ((idL y1).getD []) else bStr [])
  | _ => (bStr [], bStr [])
def goodM (x : List UInt8) : Bool := match eachL 2 2 x with
  | some [y0, y1] => (idL y0).isSome && (idL y1).isSome
  | _ => false
/-- The mappings that bytes are. -/
def parMs (b : List UInt8) : Option (List Mp) := match eachL 1 2147483647 b with
  | none => none
  | some xs => if xs.all goodM then (if okM (xs.map rawM) then some (xs.map rawM) else none) else none
theorem goodM_par {x : List UInt8} (h : goodM x = true) : x = parM (rawM x) := by
  unfold goodM at h
  split at h
  · rename_i y0 y1 he
    rw [Bool.and_eq_true] at h
    obtain ⟨s0, h0⟩ := Option.isSome_iff_exists.1 h.1
    obtain ⟨s1, h1⟩ := Option.isSome_iff_exists.1 h.2
    have e0 := (idL_ok h0).2
    have e1 := (idL_ok h1).2
    have hr : rawM x = (bStr s0, bStr s1) := by
      unfold rawM
      rw [he]
      simp [h0, h1]
    rw [hr, (eachL_ok he).1, e0, e1]
    rfl
  · cases h
theorem parMs_mar {b : List UInt8} {ms : List Mp} (h : parMs b = some ms) : marM ms = some b := by
  unfold parMs at h
  split at h
  · cases h
  · rename_i xs he
    split at h
    · rename_i hg
      split at h
      · rename_i ho
        injection h with h
        subst h
        unfold marM
        rw [if_pos ho, (eachL_ok he).1, seqL_eq, List.map_map]
        have : xs.map (parM ∘ rawM) = xs := by
          conv => rhs; rw [← List.map_id xs]
          exact List.map_congr_left fun x hx => (goodM_par (List.all_eq_true.1 hg x hx)).symm
        rw [this]
      · cases h
    · cases h
theorem otherS_E {s : ByteArray} (h : otherS s = true) : (oidE s.data.toList).isSome = true := by
  unfold otherS at h
  rw [Bool.and_eq_true] at h
  rw [oidE_some]
  exact h.1
theorem parM_lens {m : Mp} (hl : (parM m).length ≤ 1000000) : (objB m.1.data.toList).length ≤ 1000000 ∧ (objB m.2.data.toList).length ≤ 1000000 := by
  have h1 := seqB_len [objB m.1.data.toList, objB m.2.data.toList]
  have e : parM m = seqB [objB m.1.data.toList, objB m.2.data.toList] := rfl
  rw [← e] at h1
  simp only [List.flatten_cons, List.flatten_nil, List.append_nil, List.length_append] at h1
  omega
theorem parM_raw {m : Mp} (h : okM1 m = true) (hl : (parM m).length ≤ 1000000) : goodM (parM m) = true ∧ rawM (parM m) = m := by
  unfold okM1 at h
  rw [Bool.and_eq_true] at h
  obtain ⟨l1, l2⟩ := parM_lens hl
  have h1 := seqB_len [objB m.1.data.toList, objB m.2.data.toList]
  have e : parM m = seqB [objB m.1.data.toList, objB m.2.data.toList] := rfl
  have he : eachL 2 2 (parM m) = some [objB m.1.data.toList, objB m.2.data.toList] := by
    rw [← e] at h1
    rw [e]
    exact eachL_seq (by omega) (by simp) (by simp) (fun p hp => by
      simp at hp
      rcases hp with rfl | rfl
      · exact objB_one _ l1
      · exact objB_one _ l2)
  have i0 := idL_obj (otherS_E h.1) l1
  have i1 := idL_obj (otherS_E h.2) l2
  constructor
  · unfold goodM; rw [he]; simp [i0, i1]
  · unfold rawM; rw [he]; simp [i0, i1, bStr_data]
theorem parM_len {ms : List Mp} {m : Mp} (h : m ∈ ms) : (parM m).length ≤ (seqL (ms.map parM)).length := by
  have h1 := seqB_len (ms.map parM)
  have h2 := mem_flat_len (List.mem_map.2 ⟨m, h, rfl⟩ : parM m ∈ ms.map parM)
  rw [seqL_eq]
  omega
theorem parM_one {m : Mp} (hl : (parM m).length ≤ 1000000) : ∃ x, oneE (parM m) = .ok x := seqB_one _ hl
theorem mar_parMs {b : List UInt8} {ms : List Mp} (h : marM ms = some b) (hl : b.length ≤ 1000000) : parMs b = some ms := by
  unfold marM at h
  split at h
  · rename_i ho
    injection h with h
    have ho' := ho
    unfold okM at ho'
    rw [Bool.and_eq_true, decide_eq_true_eq, List.all_eq_true] at ho'
    have hpl : ∀ m ∈ ms, (parM m).length ≤ 1000000 := fun m hm => by have := parM_len hm; rw [h] at this; omega
    have hone : ∀ p ∈ ms.map parM, ∃ x, oneE p = .ok x := fun p hp => by obtain ⟨m, hm, rfl⟩ := List.mem_map.1 hp; exact parM_one (hpl m hm)
    have hL := seqB_len (ms.map parM)
    rw [seqL_eq] at h
    rw [h] at hL
    have hc := cnt_flat hone
    have he : eachL 1 2147483647 b = some (ms.map parM) := by rw [← h]; exact eachL_seq (by omega) (by simp; omega) (by omega) hone
    unfold parMs
    rw [he]
    simp only
    have hr : (ms.map parM).map rawM = ms := by
      rw [List.map_map]
      conv => rhs; rw [← List.map_id ms]
      exact List.map_congr_left fun m hm => (parM_raw (ho'.2 m hm) (hpl m hm)).2
    rw [hr, if_pos ho, if_pos]
    rw [List.all_eq_true]
    intro p hp
    obtain ⟨m, hm, rfl⟩ := List.mem_map.1 hp
    exact (parM_raw (ho'.2 m hm) (hpl m hm)).1
  · cases h
/-! ### The reference's. -/
def rdM (k : List UInt8) : Mp := (bStr (rdObj ((kidsT 58 k).getD 0 [])), bStr (rdObj ((kidsT 58 k).getD 1 [])))
def rdMs (b : List UInt8) : List Mp := (kidsA b).map rdM
def rparMs (b : List UInt8) : Option (List Mp) := if marM (rdMs b) = some b then some (rdMs b) else none
theorem parM_rd {m : Mp} (h : okM1 m = true) (hl : (parM m).length ≤ 1000000) : treeOK 59 (parM m) ∧ rdM (parM m) = m := by
  unfold okM1 at h
  rw [Bool.and_eq_true] at h
  obtain ⟨l1, l2⟩ := parM_lens hl
  obtain ⟨k1, k2⟩ := kids_seq (d := 58) [objB m.1.data.toList, objB m.2.data.toList] hl (fun p hp => by
    simp at hp
    rcases hp with rfl | rfl
    · exact objB_tree 57 _ l1
    · exact objB_tree 57 _ l2)
  have e : parM m = seqB [objB m.1.data.toList, objB m.2.data.toList] := rfl
  refine ⟨k1, ?_⟩
  unfold rdM
  rw [e, k2]
  simp only [List.getD_cons_zero, List.getD_cons_succ]
  rw [rdObj_obj (otherS_E h.1) l1, rdObj_obj (otherS_E h.2) l2, bStr_data, bStr_data]
theorem rparMs_eq {b : List UInt8} (hl : b.length ≤ 1000000) : rparMs b = parMs b := by
  cases hp : parMs b with
  | some ms =>
    have hm := parMs_mar hp
    have hr : rdMs b = ms := by
      have h := hm
      unfold marM at h
      split at h
      · rename_i ho
        injection h with h
        unfold okM at ho
        rw [Bool.and_eq_true, decide_eq_true_eq, List.all_eq_true] at ho
        have hpl : ∀ m ∈ ms, (parM m).length ≤ 1000000 := fun m hm => by have := parM_len hm; rw [h] at this; omega
        obtain ⟨k1, k2⟩ := kids_seq (d := 59) (ms.map parM) (by rw [← seqL_eq, h]; exact hl) (fun p hp => by
          obtain ⟨m, hm, rfl⟩ := List.mem_map.1 hp
          exact (parM_rd (ho.2 m hm) (hpl m hm)).1)
        rw [← seqL_eq, h] at k1 k2
        unfold rdMs kidsA
        rw [if_pos k1, k2, List.map_map]
        conv => rhs; rw [← List.map_id ms]
        exact List.map_congr_left fun m hm => (parM_rd (ho.2 m hm) (hpl m hm)).2
      · cases h
    unfold rparMs
    rw [hr]
    exact if_pos hm
  | none =>
    unfold rparMs
    split
    · rename_i h
      have := mar_parMs h hl
      rw [hp] at this
      cases this
    · rfl
end Go.Proofs.YtjjkimjdmpeddaaGreatDoor
end

/- Walks over the reference's MarshalMappings, ReadMappings and ParseMappings. -/
section
set_option linter.unusedSimpArgs false
set_option linter.unusedVariables false
namespace Go.Proofs.YtjjkimjdmpeddaaGreatDoor
open Go.RowKit Go.Cr

theorem rPutSeq (v : Value) (ls : List (List UInt8)) (w : World) (hv : IsBs w v ls) (hl : ls.flatten.length ≤ 900000) : Calls Tryz.prog 51 #[.int .u8 48, v] w (RetO 5 (seqL ls) w) := by
  have := rPuts 48 v ls w hv hl
  have e : (48 :: (lenOct ls.flatten.length ++ ls.flatten)) = seqL ls := by unfold seqL encO; rfl
  rwa [e] at this
theorem rObjL (s : ByteArray) (w : World) (hs : s.size ≤ 100000) (h : otherS s = true) : Calls Tryz.prog 67 #[.string s] w (RetO 5 (objL s) w) := by
  obtain ⟨c, hc⟩ := Option.isSome_iff_exists.1 (otherS_E h)
  have e : objL s = encO 0 false 6 c := by unfold objL; rw [hc]; rfl
  rw [e]
  exact rObject s c w hs hc
set_option maxRecDepth 100000 in
set_option maxHeartbeats 4000000 in
theorem rMarM_no (v : Value) (ms : List Mp) (w : World) (hv : IsMs w v ms) (hz : SzM ms) (ho : okM ms = false) : Calls Tryz.prog 30 #[v] w (RetB (.tuple #[.slice none 0 0, .int .i64 8]) w) := by
  have HV0 : Hid (Calls Tryz.prog 32 #[v] w (RetB (.bool false) w)) := by have := rValidM v ms w hv hz; rw [ho] at this; exact this
  obtain ⟨A, c, rfl⟩ := isMs_slice hv
  clear hv hz ho
  go_enter Tryz.func30, Tryz.ntmps30
  go_wp2_with (((go_at_call 32); (with_reducible refine (HV0.out).mono ?_); rintro e w1 ⟨rfl, hbw1⟩))
  go_ret2
  exact ⟨rfl, hbw1⟩
set_option maxRecDepth 100000 in
set_option maxHeartbeats 8000000 in
theorem rMarM_yes (v : Value) (ms : List Mp) (w : World) (hv : IsMs w v ms) (hz : SzM ms) (hT : (ms.map parM).flatten.length ≤ 900000) (ho : okM ms = true) : Calls Tryz.prog 30 #[v] w (RetOidY (seqL (ms.map parM)) w) := by
  have HV0 : Hid (Calls Tryz.prog 32 #[v] w (RetB (.bool true) w)) := by have := rValidM v ms w hv hz; rw [ho] at this; exact this
  have hlen := hv.len (P := Tryz.prog) ulMs
  have hall : ∀ m ∈ ms, otherS m.1 = true ∧ otherS m.2 = true := fun m hm => by
    unfold okM at ho
    rw [Bool.and_eq_true, List.all_eq_true] at ho
    have := ho.2 m hm
    unfold okM1 at this
    rwa [Bool.and_eq_true] at this
  have HO1 : Hid (∀ (i : Nat) (h : i < ms.length) W, Calls Tryz.prog 67 #[.string ms[i].1] W (RetO 5 (objL ms[i].1) W)) := fun i h W => rObjL _ W (hz.2 _ (List.getElem_mem h)).1 (hall _ (List.getElem_mem h)).1
  have HO2 : Hid (∀ (i : Nat) (h : i < ms.length) W, Calls Tryz.prog 67 #[.string ms[i].2] W (RetO 5 (objL ms[i].2) W)) := fun i h W => rObjL _ W (hz.2 _ (List.getElem_mem h)).2 (hall _ (List.getElem_mem h)).2
  have HSQ : Hid (∀ (i : Nat) (h : i < ms.length) u W, IsBs W u [objL ms[i].1, objL ms[i].2] → Calls Tryz.prog 51 #[.int .u8 48, u] W (RetO 5 (parM ms[i]) W)) := fun i h u W hu => rPutSeq u _ W hu (by
    have h1 := flat_part parM (List.getElem_mem h)
    have h2 := seqL_len [objL ms[i].1, objL ms[i].2]
    have h0 : parM ms[i] = seqL [objL ms[i].1, objL ms[i].2] := rfl
    rw [h0] at h1
    omega)
  have HEL : Hid (∀ u W, IsBs W u (ms.map parM) → Calls Tryz.prog 51 #[.int .u8 48, u] W (RetO 5 (seqL (ms.map parM)) W)) := fun u W h => rPutSeq u _ W h hT
  have HV := Lib.hid hv
  obtain ⟨A, c, rfl⟩ := isMs_slice hv
  have hnI : (ms.length : Int) ≤ 10000 := by have := hz.1; omega
  obtain ⟨R, hR⟩ : ∃ R, seqL (ms.map parM) = R := ⟨_, rfl⟩
  rw [hR] at HEL ⊢
  clear hv hz hT ho hR hall
  go_enter Tryz.func30, Tryz.ntmps30
  go_wp2_with (((go_at_call 32); (with_reducible refine (HV0.out).mono ?_); rintro e w1 ⟨rfl, hbw1⟩; have HB1 := Lib.hid hbw1; clear hbw1))
  go_loopw [4, 5] (fun out ix wr => MmRel ms w1 out ix wr) (fun _ ix _ => ms.length + 1 - (intOf ix).toNat)
  case atStart => exact ⟨0, rfl, Nat.zero_le _, OwP.nil_ _ _ _, Below.refl _ _⟩
  case round =>
    obtain ⟨i, rfl, hi, how, hbel⟩ := hrel
    have HOW := Lib.hid how
    have HBR := Lib.hid hbel
    clear how
    by_cases hlt : i < ms.length
    · obtain ⟨b2, o2, hi2, hl1, hd1, hd2⟩ := (HV.out.below HB1.out).at_ (P := Tryz.prog) ulMs szMp .i64 i hlt
      have hl2 : b2 < wr.heap.size := Nat.lt_of_lt_of_le hl1 hbel.size
      have hc1 := (hbel.cell (p := ⟨b2, o2, none⟩) hl1).trans hd1
      have hc2 := (hbel.cell (p := ⟨b2, o2 + 1, none⟩) hl1).trans hd2
      have HA := Lib.hid (HO1.out i hlt)
      have HB := Lib.hid (HO2.out i hlt)
      have HS := Lib.hid (HSQ.out i hlt)
      have htk : (ms.take (i + 1)).map parM = (ms.take i).map parM ++ [parM ms[i]] := by rw [List.take_succ_eq_append_getElem hlt, List.map_append]; rfl
      have HTK := Lib.hid htk
      have hltI : (i : Int) < ms.length := by omega
      have hll : ((ms.take i).map parM).length ≤ 10000 := by rw [List.length_map, List.length_take]; omega
      have HLL := Lib.hid hll
      have hszr : w1.heap.size ≤ wr.heap.size := hbel.size
      clear hbel htk hll
      obtain ⟨s0, hs0⟩ : ∃ s0, ms[i].1 = s0 := ⟨_, rfl⟩
      obtain ⟨s1, hs1⟩ : ∃ s1, ms[i].2 = s1 := ⟨_, rfl⟩
      rw [hs0] at hc1 hd1 HA HS
      rw [hs1] at hc2 hd2 HB HS
      clear hs0 hs1
      generalize parM ms[i] = pl at *
      generalize hLg : (ms.take i).map parM = LL at *
      have HC1 := Lib.hid hc1
      have HC2 := Lib.hid hc2
      have HD1 := Lib.hid hd1
      have HD2 := Lib.hid hd2
      clear hd1 hd2
      go_wp2_with fail
      have hcur := Lib.hid ((Below.refl wr.heap.size wr).drew)
      have hgn := HOW.out.notNew (Nat.le_refl _)
      go_region_held3 (fun W' => W'.cell? ⟨b2, o2, none⟩ = some (.string s0) ∧ W'.cell? ⟨b2, o2 + 1, none⟩ = some (.string s1))
        (first | go_keep | exact ⟨(HBD.out.cell (p := ⟨b2, o2, none⟩) hl1).trans HD1.out, (HBD.out.cell (p := ⟨b2, o2 + 1, none⟩) hl1).trans HD2.out⟩ | exact ⟨(hcur.out.cell (p := ⟨b2, o2, none⟩) hl2).trans HC1.out, (hcur.out.cell (p := ⟨b2, o2 + 1, none⟩) hl2).trans HC2.out⟩ | exact ⟨((hcur.out.alloc hcur.out.size _).cell (p := ⟨b2, o2, none⟩) hl2).trans HC1.out, ((hcur.out.alloc hcur.out.size _).cell (p := ⟨b2, o2 + 1, none⟩) hl2).trans HC2.out⟩)
        (first
          | ((go_at_call 51); (with_reducible refine (HS.out _ _ (isBs_two rfl (HVA.out.below hAB) HVB.out)).mono ?_); rintro e wc ⟨vc, rfl, hoc, hbwc⟩; obtain ⟨Ac, kc, rfl⟩ := isB_slice hoc.isB; have HPC := Lib.hid (part_newP hoc (HOW.out.below (hcur.out.alloc hcur.out.size _)) (by have := hcur.out.size; simp; omega)); have hcur := Lib.hid ((hcur.out.alloc hcur.out.size _).trans (hbwc.mono (by have := hcur.out.size; simp; omega))); clear hoc)
          | ((go_at_call 67); (with_reducible refine (HB.out _).mono ?_); rintro e wb ⟨vb, rfl, hob, hbwb⟩; obtain ⟨Ab, kb, rfl⟩ := isB_slice hob.isB; have HVB := Lib.hid hob.isB; have hAB := hbwb; have hcur := Lib.hid (hcur.out.trans (hbwb.mono hcur.out.size)); clear hob)
          | ((go_at_call 67); (with_reducible refine (HA.out _).mono ?_); rintro e wa ⟨va, rfl, hoa, hbwa⟩; obtain ⟨Aa, ka, rfl⟩ := isB_slice hoa.isB; have HVA := Lib.hid hoa.isB; have hcur := Lib.hid (hcur.out.trans (hbwa.mono hcur.out.size)); clear hoa)
          | (rw [if_pos (by rfl)]; obtain ⟨vd, wd, hrd, hod, hbd, hgd⟩ := run_appP (P := Tryz.prog) (wc.alloc (.cells #[.slice Ac pl.length kc] 32)) w1.heap.size 28 28 32 ulBs infoBss _ LL (HOW.out.below (hcur.out.alloc hcur.out.size _)) _ (.slice Ac pl.length kc) pl isR_one (HPC.out.alloc _) (by have := HLL.out; omega) (by have := hcur.out.size; simp; omega); have HOD := Lib.hid hod; have HBD := Lib.hid ((HBR.out.trans ((hcur.out.alloc hcur.out.size (.cells #[.slice Ac pl.length kc] 32)).mono hszr)).trans hbd); refine wp_appR _ _ _ _ rfl _ _ _ _ rfl rfl hrd ?_))
      all_goals
        go_wp2_with fail
        go_roundw
        case rel => exact ⟨i + 1, by go_num, by omega, by rw [HTK.out]; exact HOD.out, HBD.out⟩
        case measure => simp [intOf]; omega
    · have hie : i = ms.length := by omega
      have how := HOW.out
      rw [hie, List.take_length] at how
      have HO := Lib.hid how
      have hge : (ms.length : Int) ≤ i := by omega
      obtain ⟨Ao, ko, hoe⟩ := how.slice
      rw [List.length_map] at hoe
      subst hoe
      clear how hie hlt hi hbel
      go_wp2_with (((go_at_call 51); (with_reducible refine (HEL.out _ _ HO.out.isBs).mono ?_); rintro e w9 ⟨v9, rfl, ho9, hbw9⟩; have HO9 := Lib.hid ho9; clear ho9))
      go_ret2
      have s1 := HB1.out.size; have s2 := HBR.out.size
      exact ⟨_, rfl, HO9.out.more (by omega), (HB1.out.trans (HBR.out.mono s1)).trans (hbw9.mono (by omega))⟩
end Go.Proofs.YtjjkimjdmpeddaaGreatDoor
end

/- Walks over policy.ParseMappings: its closures. -/
section
set_option linter.unusedSimpArgs false
set_option linter.unusedVariables false
namespace Go.Proofs.YtjjkimjdmpeddaaGreatDoor
open Go.RowKit Go.Cr

theorem en11 : ∀ args W, (callFunc 74 args).run Tryz.prog W = .ok (.enter 74 args) W := enters_of Tryz.func74 (by kernel_rfl) rfl
theorem en1 : ∀ args W, (callFunc 73 args).run Tryz.prog W = .ok (.enter 73 args) W := enters_of Tryz.func73 (by kernel_rfl) rfl
set_option maxRecDepth 100000 in
set_option maxHeartbeats 4000000 in
theorem pm11 (i : Nat) (v : Value) (y : List UInt8) (g : Nat) (s0 s1 : ByteArray) (w : World) (hG : Glo w) (hv : IsB w v y) (hL : y.length ≤ 90000) (hb : Blk w g 68 #[.string s0, .string s1]) :
    Calls Tryz.prog 74 #[.int .i64 (i : Int), v, .pointer (some ⟨g, 0, none⟩)] w (RetId y g (if i = 0 then 0 else 1) 68 #[.string s0, .string s1] w) := by
  have H0 := Lib.hid (polId v y g 0 _ _ s0 w hG hv hL hb rfl)
  have H1 := Lib.hid (polId v y g 1 _ _ s1 w hG hv hL hb rfl)
  obtain ⟨A, c, rfl⟩ := isB_slice hv
  clear hG hv hb hL
  by_cases hi : i = 0
  · rw [if_pos hi]
    have hi' : (i : Int) = 0 := by omega
    rw [hi']
    clear hi' hi
    go_enter Tryz.func74, Tryz.ntmps74
    go_wp2_with (((go_at_call 75); (with_reducible refine (H0.out).mono ?_); rintro e w1 ⟨s, rfl, h1, h2, h3⟩))
    go_ret
    exact ⟨s, rfl, h1, h2, h3⟩
  · rw [if_neg hi]
    have hn : ((i : Int) == 0) = false := beq_eq_false_iff_ne.2 (by omega)
    clear hi
    go_enter Tryz.func74, Tryz.ntmps74
    go_wp2_with (((go_at_call 75); (with_reducible refine (H1.out).mono ?_); rintro e w1 ⟨s, rfl, h1, h2, h3⟩))
    go_ret
    exact ⟨s, rfl, h1, h2, h3⟩

/-- What is kept of old: the globals and an octet string. -/
def GB (v : Value) (b : List UInt8) (w : World) : Prop := Glo w ∧ IsB w v b
theorem GB.below {v : Value} {b : List UInt8} {a w : World} (h : GB v b a) (hb : Below a.heap.size a w) : GB v b w := ⟨h.1.below hb, h.2.below hb⟩
theorem GB.old {B : Nat} {v : Value} {b : List UInt8} {w : World} (h : Old B (GB v b) w) : GB v b w := h.out fun _ _ h hb => h.below hb
/-- What each keeps in the pair. -/
def InvM1 (B g : Nat) (v : Value) (x : List UInt8) (ls : List (List UInt8)) (i : Nat) (w : World) : Prop :=
  Old B (GB v x) w ∧ ∃ s0 s1 : ByteArray, Blk w g 68 #[.string s0, .string s1] ∧ (0 < i → ∀ t, idL (ls.getD 0 []) = some t → s0 = bStr t) ∧ (1 < i → ∀ t, idL (ls.getD 1 []) = some t → s1 = bStr t)
theorem errNe : ¬ ((fun u => u = 68) 38) := by decide
theorem elNe : ¬ ((fun u => u = 68) 118) := by decide
theorem part_len {b : List UInt8} {least most : Nat} {ls : List (List UInt8)} (h : eachL least most b = some ls) {p : List UInt8} (hp : p ∈ ls) : p.length ≤ b.length := by
  have h1 := (eachL_ok h).1
  have h2 := seqB_len ls
  have h3 := mem_flat_len hp
  rw [← h1] at h2
  omega
/-- each over a pair. -/
def RetM1 (x : List UInt8) (g : Nat) (w : World) (e : Ending) (w' : World) : Prop :=
  ∃ (ec eo : Int) (s0 s1 : ByteArray), e = .returned (errV (ec, eo)) ∧ (ec == 0) = goodM x ∧ Blk w' g 68 #[.string s0, .string s1] ∧ (goodM x = true → rawM x = (s0, s1)) ∧ Far g (fun u => u = 68) w.heap.size w w'
theorem pm1_each (v : Value) (x : List UInt8) (B g : Nat) (s0 s1 : ByteArray) (w : World) (hO : Old B (GB v x) w) (hg : B ≤ g) (hL : x.length ≤ 90000) (hb : Blk w g 68 #[.string s0, .string s1]) :
    Calls Tryz.prog 58 #[v, .int .i64 2, .int .i64 2, .func (.func 74) #[] #[.pointer (some ⟨g, 0, none⟩)]] w (RetM1 x g w) := by
  have hv := (GB.old hO).2
  cases hls : eachL 2 2 x with
  | none =>
    have hgd : goodM x = false := by unfold goodM; rw [hls]
    refine (each_none v x 2 2 _ _ w hv (by omega) hls).mono fun e w' ⟨hb', ec, eo, h1, h2, h3, he⟩ => ⟨ec, eo, s0, s1, he, ?_, hb.call hb', fun h => ?_, Far.of_below hb'⟩
    · rw [hgd]; exact beq_eq_false_iff_ne.2 (by omega)
    · rw [hgd] at h; cases h
  | some ls =>
    obtain ⟨y0, y1, rfl⟩ : ∃ y0 y1, ls = [y0, y1] := by
      obtain ⟨_, h1, h2, _⟩ := eachL_ok hls
      match ls, h1, h2 with
      | [y0, y1], _, _ => exact ⟨y0, y1, rfl⟩
      | [], h, _ => simp at h
      | [_], h, _ => simp at h
      | _ :: _ :: _ :: _, _, h => simp at h
    have hgd : goodM x = ((idL y0).isSome && (idL y1).isSome) := by unfold goodM; rw [hls]
    have hrw : rawM x = (bStr ((idL y0).getD []), if (idL y0).isSome then bStr ((idL y1).getD []) else bStr []) := by unfold rawM; rw [hls]
    have hgd2 : (List.range [y0, y1].length).all (fun i => (idL ([y0, y1].getD i [])).isSome) = goodM x := by
      rw [hgd, show [y0, y1].length = 2 from rfl, show List.range 2 = [0, 1] from rfl]
      simp
    have hfin : ∀ W, InvM1 B g v x [y0, y1] 2 W → ∃ s0 s1 : ByteArray, Blk W g 68 #[.string s0, .string s1] ∧ (goodM x = true → rawM x = (s0, s1)) := fun W ⟨_, s0, s1, hk, h0, h1⟩ => ⟨s0, s1, hk, fun h => by
      rw [hgd, Bool.and_eq_true] at h
      obtain ⟨t0, e0⟩ := Option.isSome_iff_exists.1 h.1
      obtain ⟨t1, e1⟩ := Option.isSome_iff_exists.1 h.2
      rw [hrw, h0 (by decide) t0 e0, h1 (by decide) t1 e1]
      simp [e0, e1]⟩
    refine (each_some v x 2 2 74 #[.pointer (some ⟨g, 0, none⟩)] w [y0, y1] (fun i => (idL ([y0, y1].getD i [])).isSome) B g (fun u => u = 68) (InvM1 B g v x [y0, y1]) hv (by omega) hls en11 errNe elNe ?_ ?_ ?_ ?_).mono ?_
    · exact fun i W h => h.1.map fun _ h => h.2
    · exact fun W hW hs => ⟨hO.below hW, s0, s1, hb.call hW, fun h => absurd h (by decide), fun h => absurd h (by decide)⟩
    · rintro i W W' ⟨h1, t0, t1, hk, h2, h3⟩ hf
      have hlt := hb.lt
      exact ⟨h1.only hf (by omega), t0, t1, hk.only hf (by omega), h2, h3⟩
    · rintro i hi W u ⟨h1, t0, t1, hk, h2, h3⟩ hu
      have hi2 : i < 2 := hi
      refine (pm11 i u _ g t0 t1 W (GB.old h1).1 hu.now (by have := part_len hls (List.getElem_mem hi); omega) hk).mono ?_
      rintro e w' ⟨s, rfl, k1, k2, k3⟩
      have hgi : [y0, y1].getD i [] = [y0, y1][i] := by rcases (by omega : i = 0 ∨ i = 1) with rfl | rfl <;> rfl
      refine ⟨by show Ending.returned (.bool (idL [y0, y1][i]).isSome) = Ending.returned (.bool (idL ([y0, y1].getD i [])).isSome); rw [hgi], ⟨h1.far k3 hg, ?_⟩, k3⟩
      rcases (by omega : i = 0 ∨ i = 1) with rfl | rfl
      · exact ⟨s, t1, k2, fun _ => k1, fun h => absurd h (by decide)⟩
      · exact ⟨t0, s, k2, fun _ => h2 (by decide), fun _ => k1⟩
    · rintro e w' ⟨hf, ⟨hok, rfl, hfn⟩ | ⟨hok, ec, eo, h1, h2, h3, rfl, m, hm, _, t0, t1, hk, _, _⟩⟩
      · obtain ⟨t0, t1, hk, hr⟩ := hfin _ hfn
        exact ⟨0, 0, t0, t1, rfl, by rw [← hgd2, hok]; rfl, hk, hr, hf⟩
      · rw [hgd2] at hok
        exact ⟨ec, eo, t0, t1, rfl, by rw [hok]; exact beq_eq_false_iff_ne.2 (by omega), hk, fun h => (by rw [hok] at h; cases h), hf⟩
end Go.Proofs.YtjjkimjdmpeddaaGreatDoor
end

/- Walks over policy.ParseMappings: the outer closure and the function. -/
section
set_option linter.unusedSimpArgs false
set_option linter.unusedVariables false
namespace Go.Proofs.YtjjkimjdmpeddaaGreatDoor
open Go.RowKit Go.Cr

theorem ulMsP : Tryz.prog.underlying 48 = some (.slice 68) := by kernel_rfl
theorem infoMp : (Tryz.prog.info? 68).map (fun i => (i.zero, i.size, i.bytes)) = some (some (.agg #[.string ⟨#[]⟩, .string ⟨#[]⟩]), 2, 32) := by kernel_rfl
def TpM (t : TypeId) : Prop := t = 48 ∨ t = 68
/-- What the outer closure leaves: one mapping more. -/
def RetM2 (x : List UInt8) (g c : Nat) (ms : List Mp) (w : World) (e : Ending) (w' : World) : Prop :=
  ∃ (vo : Value) (m : Mp), e = .returned (.bool (goodM x)) ∧ (goodM x = true → m = rawM x) ∧ Blk w' g 48 #[vo] ∧ OwL repT (fun b => b ≠ c) w' (g + 1) 68 vo (ms ++ [m]) ∧ Far g TpM w.heap.size w w'
set_option maxRecDepth 100000 in
set_option maxHeartbeats 4000000 in
theorem pm1 (i : Nat) (v : Value) (x : List UInt8) (g c : Nat) (vo : Value) (ms : List Mp) (w : World) (hG : Glo w) (hv : IsB w v x) (hL : x.length ≤ 90000)
    (hb : Blk w g 48 #[vo]) (ho : OwL repT (fun b => b ≠ c) w (g + 1) 68 vo ms) (hn : ms.length ≤ 900000) (hc : c < w.heap.size) :
    Calls Tryz.prog 73 #[.int .i64 (i : Int), v, .pointer (some ⟨g, 0, none⟩)] w (RetM2 x g c ms w) := by
  have HE := Lib.hid (pm1_each v x w.heap.size w.heap.size ⟨#[]⟩ ⟨#[]⟩ (w.alloc (.cells #[.string ⟨#[]⟩, .string ⟨#[]⟩] 68)) ⟨w, ⟨hG, hv⟩, Nat.le_refl _, (Below.refl _ _).alloc (Nat.le_refl _) _⟩ (Nat.le_refl _) hL (Blk.new _ _ _))
  obtain ⟨A, k, rfl⟩ := isB_slice hv
  obtain ⟨Ao, ko, rfl⟩ := ho.slice
  have lg := hb.lt
  have HO := Lib.hid ho
  have HBK := Lib.hid hb
  have HN := Lib.hid hn
  obtain ⟨i0, hi0, hz0, hz1, hz2⟩ := info_parts infoMp
  unfold RetM1 at HE
  unfold RetM2
  generalize goodM x = B at *
  generalize rawM x = M at *
  clear hG hv hL hb ho hn
  go_enter Tryz.func73, Tryz.ntmps73
  go_wp2_with (first | ((go_at_call 58); (with_reducible refine (HE.out).mono ?_); rintro e w1 ⟨ec, eo, s0, s1, rfl, hgd, hk1, hrw, hf1⟩; have HB1 := Lib.hid (((Below.refl _ _).alloc (Nat.le_refl _) _).trans (hf1.below (B' := w.heap.size) (by simp) (Nat.le_refl _))); have JG := HBK.out.call HB1.out; have lG := JG.lt; have qG := JG.q; have fG := JG.fz; have lK := hk1.lt; have qK := hk1.q; have HRW := Lib.hid hrw; have HO1 := Lib.hid (HO.out.below HB1.out); have HK1 := Lib.hid hk1; have HG1 := Lib.hid JG; clear hrw hf1 hk1 JG) | (at_builtin; refine wpList_appL (r := repT) (X := fun b => b ≠ c) _ rfl _ _ 48 rfl (g + 1) 68 ulMsP hi0 hz0 hz1 hz2 rfl (by decide) _ ms rfl ((HO1.out.alloc _).alloc _) _ [.string s0, .string s1] (s0, s1) rfl (isR_at rfl (by simp)) rfl ?n1 ?b1 ?x1 ?_))
  case n1 => have := HN.out; omega
  case b1 => simp; omega
  case x1 => simp; omega
  intro v5 w5 ho5 hb5 hg5
  obtain ⟨A5, k5, hv5⟩ := ho5.slice
  generalize hL5 : (ms ++ [(s0, s1)]).length = L5 at hv5
  subst hv5
  have hne := HO1.out.notOld (g := g) (by omega)
  have J5 := Blk.grown ((HG1.out.alloc _).alloc _) hg5 hne
  have E5 := Blk.grown ((Blk.new w1 38 #[.int .i64 ec, .int .i64 eo]).alloc _) hg5 (HO1.out.notNew (Nat.le_refl _))
  have lJ5 := J5.lt
  have qJ5 := J5.q
  have fJ5 := J5.fz
  have lE5 := E5.lt
  have qE5 := E5.q
  have HJ5 := Lib.hid J5
  have HO5 := Lib.hid ho5
  have HG5 := Lib.hid hg5
  clear ho5 hb5 hg5 hne J5 E5
  go_wp2
  refine bodyPost_ret (v := .bool B) (by simp only [results, Tryz.results73]; go_simp) rfl ?_
  have z1 := HB1.out.size
  obtain ⟨xs, hrow, _⟩ := HO1.out
  have F1 : Far g TpM w.heap.size w ((w1.alloc (.cells #[.int .i64 ec, .int .i64 eo] 38)).alloc (.cells #[.string s0, .string s1] 68)) := ((Far.of_below HB1.out).alloc z1 _).alloc (by simp; omega) _
  have F2 := F1.grown HG5.out (by simp; omega) (ownsRow_below (ownsRow_below hrow ((Below.refl _ _).alloc (Nat.le_refl _) _)) ((Below.refl _ _).alloc (Nat.le_refl _) _)) (Nat.le_succ _) (.inr rfl)
  have F3 := F2.setRow (p := ⟨g, 0, none⟩) HJ5.out (Nat.le_refl _) (.inl rfl) (.slice A5 L5 k5)
  exact ⟨.slice A5 L5 k5, (s0, s1), rfl, fun h => (HRW.out h).symm, HJ5.out.set_ 0 _, HO5.out.setLow (Nat.lt_succ_self g) _, F3⟩

/-- What is kept while the outer closure runs over the elements. -/
def InvM2 (B g c : Nat) (v : Value) (b : List UInt8) (ls : List (List UInt8)) (i : Nat) (w : World) : Prop :=
  c < w.heap.size ∧ Old B (GB v b) w ∧ ∃ (vo : Value) (ms : List Mp), Blk w g 48 #[vo] ∧ OwL repT (fun b => b ≠ c) w (g + 1) 68 vo ms ∧ ms.length = i ∧ ∀ j (hj : j < ms.length), goodM (ls.getD j []) = true → ms[j] = rawM (ls.getD j [])
theorem errNe2 : ¬ TpM 38 := by unfold TpM; decide
theorem elNe2 : ¬ TpM 118 := by unfold TpM; decide
/-- each over the elements: the list that is kept. -/
def RetM3 (b : List UInt8) (g : Nat) (w : World) (e : Ending) (w' : World) : Prop :=
  ∃ (ec eo : Int) (vo : Value) (ms : List Mp), e = .returned (errV (ec, eo)) ∧ Blk w' g 48 #[vo] ∧ OwL repT (fun _ => True) w' (g + 1) 68 vo ms ∧ Far g TpM w.heap.size w w' ∧ (0 ≤ eo ∧ eo ≤ b.length) ∧
    ((ec = 0 ∧ eo = 0 ∧ ∃ ls, eachL 1 2147483647 b = some ls ∧ ls.all goodM = true ∧ ms = ls.map rawM) ∨ (0 < ec ∧ ∀ ls, eachL 1 2147483647 b = some ls → ls.all goodM = false))
theorem pm2_each (v : Value) (b : List UInt8) (B g : Nat) (w : World) (hO : Old B (GB v b) w) (hg : B ≤ g) (hL : b.length ≤ 90000) (hb : Blk w g 48 #[.slice none 0 0]) :
    Calls Tryz.prog 58 #[v, .int .i64 1, .int .i64 2147483647, .func (.func 73) #[] #[.pointer (some ⟨g, 0, none⟩)]] w (RetM3 b g w) := by
  have hv := (GB.old hO).2
  have hlt := hb.lt
  cases hls : eachL 1 2147483647 b with
  | none =>
    refine (each_none v b 1 2147483647 _ _ w hv (by omega) hls).mono fun e w' ⟨hb', ec, eo, h1, h2, h3, he⟩ => ⟨ec, eo, _, [], he, hb.call hb', OwL.nil_ _ _ _ _, Far.of_below hb', ⟨h2, h3⟩, .inr ⟨h1, fun ls h => ?_⟩⟩
    rw [hls] at h; cases h
  | some ls =>
    have hcnt : ls.length ≤ 90000 := by
      obtain ⟨h1, _, _, h4⟩ := eachL_ok hls
      have h2 := cnt_flat h4
      have h3 := seqB_len ls
      rw [← h1] at h3
      omega
    refine (each_some v b 1 2147483647 73 #[.pointer (some ⟨g, 0, none⟩)] w ls (fun i => goodM (ls.getD i [])) B g TpM (InvM2 B g w.heap.size v b ls) hv (by omega) hls en1 errNe2 elNe2 ?_ ?_ ?_ ?_).mono ?_
    · exact fun i W h => h.2.1.map fun _ h => h.2
    · exact fun W hW hs => ⟨hs, hO.below hW, _, [], hb.call hW, OwL.nil_ _ _ _ _, rfl, fun j hj => absurd hj (by simp)⟩
    · rintro i W W' ⟨h0, h1, vo, ms, hk, ho, hn, hr⟩ hf
      exact ⟨Nat.lt_of_lt_of_le h0 hf.size, h1.only hf (by omega), vo, ms, hk.only hf (by omega), ho.only hf (fun _ _ h => h), hn, hr⟩
    · rintro i hi W u ⟨h0, h1, vo, ms, hk, ho, hn, hr⟩ hu
      refine (pm1 i u _ g w.heap.size vo ms W (GB.old h1).1 hu.now (by have := part_len hls (List.getElem_mem hi); omega) hk ho (by omega) h0).mono ?_
      rintro e w' ⟨vo', m, rfl, k1, k2, k3, k4⟩
      have hgi : ls.getD i [] = ls[i] := by simp [hi]
      refine ⟨by show Ending.returned (.bool (goodM ls[i])) = Ending.returned (.bool (goodM (ls.getD i []))); rw [hgi], ⟨Nat.lt_of_lt_of_le h0 k4.size, h1.far k4 hg, vo', ms ++ [m], k2, k3, by simp [hn], fun j hj hgj => ?_⟩, k4⟩
      by_cases hjl : j < ms.length
      · rw [List.getElem_append_left hjl]; exact hr j hjl hgj
      · have hje : j = ms.length := by simp at hj; omega
        subst hje
        rw [List.getElem_append_right (Nat.le_refl _)]
        have e : ls.getD ms.length [] = ls[i] := by rw [hn]; exact hgi
        rw [e] at hgj ⊢
        simpa using k1 hgj
    · rintro e w' ⟨hf, ⟨hok, rfl, _, _, vo, ms, hk, ho, hn, hr⟩ | ⟨hok, ec, eo, h1, h2, h3, rfl, m, hm, _, _, vo, ms, hk, ho, hn, hr⟩⟩
      · have hall : ls.all goodM = true := by
          rw [List.all_eq_true] at hok ⊢
          intro p hp
          obtain ⟨j, hj, rfl⟩ := List.mem_iff_getElem.1 hp
          have := hok j (by simp [hj])
          simpa [hj] using this
        refine ⟨0, 0, vo, ms, rfl, hk, ho.weak (fun _ _ _ _ => trivial), hf, ⟨by omega, by omega⟩, .inl ⟨rfl, rfl, ls, hls, hall, ?_⟩⟩
        apply List.ext_getElem (by simp [hn])
        intro j hj hj'
        have hjl : j < ls.length := by omega
        have := hr j hj (by simpa [hjl] using List.all_eq_true.1 hall _ (List.getElem_mem hjl))
        rw [this]
        simp [hjl]
      · refine ⟨ec, eo, vo, ms, rfl, hk, ho.weak (fun _ _ _ _ => trivial), hf, ⟨h2, h3⟩, .inr ⟨h1, fun ls' h => ?_⟩⟩
        rw [hls] at h
        injection h with h
        subst h
        rw [Bool.eq_false_iff] at hok ⊢
        intro hall
        refine hok ?_
        rw [List.all_eq_true] at hall ⊢
        intro j hj
        have hjl : j < ls.length := by simpa using hj
        simpa [hjl] using hall _ (List.getElem_mem hjl)

/-- What ParseMappings leaves. -/
def RetPMs (r : Option (List Mp)) (L : Nat) (w : World) (e : Ending) (w' : World) : Prop := Below w.heap.size w w' ∧ match r with
  | none => ∃ ec eo : Int, 0 < ec ∧ 0 ≤ eo ∧ eo ≤ L ∧ e = .returned (.tuple #[.slice none 0 0, errV (ec, eo)])
  | some ms => ∃ A k, e = .returned (.tuple #[.slice A ms.length k, errV (0, 0)]) ∧ OwL repT (fun _ => True) w' w.heap.size 68 (.slice A ms.length k) ms
theorem rawM_size {x : List UInt8} (h : goodM x = true) : (rawM x).1.size ≤ 21 * (x.length + 1) ∧ (rawM x).2.size ≤ 21 * (x.length + 1) := by
  unfold goodM at h
  split at h
  · rename_i y0 y1 he
    rw [Bool.and_eq_true] at h
    obtain ⟨s0, h0⟩ := Option.isSome_iff_exists.1 h.1
    obtain ⟨s1, h1⟩ := Option.isSome_iff_exists.1 h.2
    have l0 := idL_len h0
    have l1 := idL_len h1
    have p0 := eachL_part he (p := y0) (by simp)
    have p1 := eachL_part he (p := y1) (by simp)
    have hr : rawM x = (bStr s0, bStr s1) := by unfold rawM; rw [he]; simp [h0, h1]
    rw [hr]
    have e0 : (bStr s0).size = s0.length := by show s0.toArray.size = _; simp
    have e1 : (bStr s1).size = s1.length := by show s1.toArray.size = _; simp
    simp only
    omega
  · cases h
theorem szM_raw {b : List UInt8} {ls : List (List UInt8)} (hL : b.length ≤ 4700) (h : eachL 1 2147483647 b = some ls) (hg : ls.all goodM = true) : SzM (ls.map rawM) := by
  have := eachL_cnt h
  refine ⟨by simp; omega, fun m hm => ?_⟩
  obtain ⟨x, hx, rfl⟩ := List.mem_map.1 hm
  have h1 := rawM_size (List.all_eq_true.1 hg x hx)
  have h2 := eachL_part h hx
  omega
set_option maxRecDepth 100000 in
set_option maxHeartbeats 8000000 in
theorem polParseM_no (v : Value) (b : List UInt8) (w : World) (hG : Glo w) (hv : IsB w v b) (hL : b.length ≤ 4700) (hbad : ∀ ls, eachL 1 2147483647 b = some ls → ls.all goodM = false) :
    Calls Tryz.prog 33 #[v] w (RetPMs none b.length w) := by
  have HE := Lib.hid (pm2_each v b w.heap.size (w.heap.size + 1) ((w.alloc (.cells #[.int .i64 0, .int .i64 0] 38)).alloc (.cells #[.slice none 0 0] 48)) ⟨w, ⟨hG, hv⟩, Nat.le_refl _, ((Below.refl _ _).alloc (Nat.le_refl _) _).alloc (by simp) _⟩ (Nat.le_succ _) (by omega) (blk_in (by simp)))
  obtain ⟨A, k, rfl⟩ := isB_slice hv
  unfold RetM3 at HE
  have HBAD := Lib.hid hbad
  clear hG hv hbad hL
  go_enter Tryz.func33, Tryz.ntmps33
  go_wp2_with (((go_at_call 58); (with_reducible refine (HE.out).mono ?_); rintro e w1 ⟨ec, eo, vo, ms, rfl, hk1, ho1, hf1, heo, hrest⟩; have HB1 := Lib.hid ((((Below.refl _ w).alloc (Nat.le_refl _) _).alloc (by simp) _).trans (hf1.below (B' := w.heap.size) (by simp; omega) (Nat.le_succ _))); have hec : 0 < ec := (by rcases hrest with ⟨_, _, ls, h1, h2, _⟩ | h; exact absurd (HBAD.out ls h1) (by rw [h2]; decide); exact h.1); have hn : (ec == 0) = false := beq_eq_false_iff_ne.2 (by omega); have hn' : (ec != 0) = true := (by simp; omega); have K1 := (((Blk.new w 38 #[.int .i64 0, .int .i64 0]).alloc (.cells #[.slice none 0 0] 48)).farR hf1 (by simp; omega) (.inl (Nat.lt_succ_self _))); have qK1 := K1.q; have fK1 := K1.fz; have lK1 := K1.lt; have HEO := Lib.hid heo; clear hrest hk1 ho1 hf1 K1 heo))
  go_region
  all_goals
    go_wp2
    refine bodyPost_ret (v := .tuple #[.slice none 0 0, errV (ec, eo)]) (by simp only [results, Tryz.results33]; go_simp) rfl ?_
    have s1 := HB1.out.size
    have b1 := HB1.out
    exact ⟨by ((repeat' (first | (with_reducible exact Below.refl _ _) | (with_reducible assumption) | (with_reducible refine Below.setCell ?_ ?_ _) | (with_reducible refine Below.alloc ?_ ?_ _) | (with_reducible refine Below.drew ?_) | (with_reducible refine below_drewN ?_ _) | (with_reducible refine Below.step (by with_reducible assumption) ?_ ?_))) <;> (first | omega | (simp; done) | (simp; omega))), ec, eo, hec, HEO.out.1, HEO.out.2, rfl⟩

/-- each over the elements of mappings. -/
def RetM3Y (g : Nat) (ms : List Mp) (w : World) (e : Ending) (w' : World) : Prop :=
  ∃ A k, e = .returned (errV (0, 0)) ∧ Blk w' g 48 #[.slice A ms.length k] ∧ OwL repT (fun _ => True) w' (g + 1) 68 (.slice A ms.length k) ms ∧ Far g TpM w.heap.size w w'
theorem RetM3.yes {b : List UInt8} {g : Nat} {w w' : World} {e : Ending} {ls : List (List UInt8)} (h : RetM3 b g w e w') (hls : eachL 1 2147483647 b = some ls) (hg : ls.all goodM = true) : RetM3Y g (ls.map rawM) w e w' := by
  obtain ⟨ec, eo, vo, ms, rfl, hk, ho, hf, _, ⟨h0, h0', ls', h1, h2, h3⟩ | ⟨_, h⟩⟩ := h
  · rw [hls] at h1
    injection h1 with h1
    subst h0 h0' h1 h3
    obtain ⟨A, k, rfl⟩ := ho.slice
    exact ⟨A, k, rfl, hk, ho, hf⟩
  · have := h ls hls
    rw [hg] at this
    cases this
set_option maxRecDepth 100000 in
set_option maxHeartbeats 8000000 in
theorem polParseM_bad (v : Value) (b : List UInt8) (w : World) (hG : Glo w) (hv : IsB w v b) (hL : b.length ≤ 4700) (ls : List (List UInt8)) (hls : eachL 1 2147483647 b = some ls) (hg : ls.all goodM = true) (hok : okM (ls.map rawM) = false) :
    Calls Tryz.prog 33 #[v] w (RetPMs none b.length w) := by
  have HE := Lib.hid ((pm2_each v b w.heap.size (w.heap.size + 1) ((w.alloc (.cells #[.int .i64 0, .int .i64 0] 38)).alloc (.cells #[.slice none 0 0] 48)) ⟨w, ⟨hG, hv⟩, Nat.le_refl _, ((Below.refl _ _).alloc (Nat.le_refl _) _).alloc (by simp) _⟩ (Nat.le_succ _) (by omega) (blk_in (by simp))).mono fun e w' h => h.yes hls hg)
  have hz := szM_raw hL hls hg
  clear hls hg
  generalize ls.map rawM = ms at *
  have HP : Hid (∀ W A k, Glo W → IsMs W (.slice A ms.length k) ms → Calls Tryz.prog 31 #[.slice A ms.length k] W (RetB (.bool false) W)) := fun W A k g h => by have := polValidM (.slice A ms.length k) ms W g h hz; rwa [hok] at this
  have HF := Lib.hid (polBad 0)
  have HG := Lib.hid hG
  obtain ⟨A, k, rfl⟩ := isB_slice hv
  unfold RetM3Y at HE
  simp only [errV] at HE HF
  have HBL := Lib.hid (show (0 : Int) ≤ b.length by omega)
  clear hG hv hL hz hok
  go_enter Tryz.func33, Tryz.ntmps33
  go_wp2_with (first | ((go_at_call 58); (with_reducible refine (HE.out).mono ?_); rintro e w1 ⟨A1, k1, rfl, hk1, ho1, hf1⟩; have HB1 := Lib.hid ((((Below.refl _ w).alloc (Nat.le_refl _) _).alloc (by simp) _).trans (hf1.below (B' := w.heap.size) (by simp; omega) (Nat.le_succ _))); have K1 := (((Blk.new w 38 #[.int .i64 0, .int .i64 0]).alloc (.cells #[.slice none 0 0] 48)).farR hf1 (by simp; omega) (.inl (Nat.lt_succ_self _))); have lK1 := K1.lt; have qk1 := hk1.q; have lk1 := hk1.lt; have HK1 := Lib.hid K1; have HO1 := Lib.hid ho1; clear hk1 ho1 hf1 K1) | ((go_at_call 31); (with_reducible refine (HP.out _ _ _ ((HG.out.below HB1.out).alloc _) ((isMs_of HO1.out.isL).alloc _)).mono ?_); rintro e w2 ⟨rfl, hbw2⟩; have HB2 := Lib.hid ((HB1.out.alloc HB1.out.size _).trans (hbw2.mono (by have := HB1.out.size; simp; omega))); have K2 := (HK1.out.alloc _).call hbw2; have HK2 := Lib.hid K2; clear hbw2 K2) | ((go_at_call 62); (with_reducible refine (HF.out _).mono ?_); rintro e w3 ⟨rfl, hbw3⟩; have K3 := HK2.out.call hbw3; have qK3 := K3.q; have fK3 := K3.fz; have lK3 := K3.lt; have HB3 := Lib.hid (HB2.out.trans (hbw3.mono HB2.out.size)); clear K3 hbw3))
  refine bodyPost_ret (v := .tuple #[.slice none 0 0, errV (6, 0)]) (by simp only [results, Tryz.results33]; go_simp) rfl ?_
  have s3 := HB3.out.size
  have b3 := HB3.out
  exact ⟨by ((repeat' (first | (with_reducible exact Below.refl _ _) | (with_reducible assumption) | (with_reducible refine Below.setCell ?_ ?_ _) | (with_reducible refine Below.alloc ?_ ?_ _) | (with_reducible refine Below.drew ?_) | (with_reducible refine below_drewN ?_ _) | (with_reducible refine Below.step (by with_reducible assumption) ?_ ?_))) <;> (first | omega | (simp; done) | (simp; omega))), 6, 0, by decide, by decide, HBL.out, rfl⟩
set_option maxRecDepth 100000 in
set_option maxHeartbeats 8000000 in
theorem polParseM_yes (v : Value) (b : List UInt8) (w : World) (hG : Glo w) (hv : IsB w v b) (hL : b.length ≤ 4700) (ls : List (List UInt8)) (hls : eachL 1 2147483647 b = some ls) (hg : ls.all goodM = true) (hok : okM (ls.map rawM) = true) :
    Calls Tryz.prog 33 #[v] w (RetPMs (some (ls.map rawM)) b.length w) := by
  have HE := Lib.hid ((pm2_each v b w.heap.size (w.heap.size + 1) ((w.alloc (.cells #[.int .i64 0, .int .i64 0] 38)).alloc (.cells #[.slice none 0 0] 48)) ⟨w, ⟨hG, hv⟩, Nat.le_refl _, ((Below.refl _ _).alloc (Nat.le_refl _) _).alloc (by simp) _⟩ (Nat.le_succ _) (by omega) (blk_in (by simp))).mono fun e w' h => h.yes hls hg)
  have hz := szM_raw hL hls hg
  clear hls hg
  generalize ls.map rawM = ms at *
  have HP : Hid (∀ W A k, Glo W → IsMs W (.slice A ms.length k) ms → Calls Tryz.prog 31 #[.slice A ms.length k] W (RetB (.bool true) W)) := fun W A k g h => by have := polValidM (.slice A ms.length k) ms W g h hz; rwa [hok] at this
  have HG := Lib.hid hG
  obtain ⟨A, k, rfl⟩ := isB_slice hv
  unfold RetM3Y at HE
  simp only [errV] at HE
  clear hG hv hL hz hok
  go_enter Tryz.func33, Tryz.ntmps33
  go_wp2_with (first | ((go_at_call 58); (with_reducible refine (HE.out).mono ?_); rintro e w1 ⟨A1, k1, rfl, hk1, ho1, hf1⟩; have HB1 := Lib.hid ((((Below.refl _ w).alloc (Nat.le_refl _) _).alloc (by simp) _).trans (hf1.below (B' := w.heap.size) (by simp; omega) (Nat.le_succ _))); have K1 := (((Blk.new w 38 #[.int .i64 0, .int .i64 0]).alloc (.cells #[.slice none 0 0] 48)).farR hf1 (by simp; omega) (.inl (Nat.lt_succ_self _))); have lK1 := K1.lt; have qk1 := hk1.q; have lk1 := hk1.lt; have HK1 := Lib.hid K1; have Hk1 := Lib.hid hk1; have HO1 := Lib.hid ho1; clear hk1 ho1 hf1 K1) | ((go_at_call 31); (with_reducible refine (HP.out _ _ _ ((HG.out.below HB1.out).alloc _) ((isMs_of HO1.out.isL).alloc _)).mono ?_); rintro e w2 ⟨rfl, hbw2⟩; have HB2 := Lib.hid ((HB1.out.alloc HB1.out.size _).trans (hbw2.mono (by have := HB1.out.size; simp; omega))); have K2 := (HK1.out.alloc _).call hbw2; have qK2 := K2.q; have fK2 := K2.fz; have lK2 := K2.lt; have k2 := (Hk1.out.alloc _).call hbw2; have qk2 := k2.q; have lk2 := k2.lt; have HO2 := Lib.hid ((HO1.out.alloc _).below hbw2); clear hbw2 K2 k2))
  refine bodyPost_ret (v := .tuple #[.slice A1 ms.length k1, errV (0, 0)]) (by simp only [results, Tryz.results33]; go_simp) rfl ?_
  have s2 := HB2.out.size
  have b2 := HB2.out
  refine ⟨by ((repeat' (first | (with_reducible exact Below.refl _ _) | (with_reducible assumption) | (with_reducible refine Below.setCell ?_ ?_ _) | (with_reducible refine Below.alloc ?_ ?_ _) | (with_reducible refine Below.drew ?_) | (with_reducible refine below_drewN ?_ _) | (with_reducible refine Below.step (by with_reducible assumption) ?_ ?_))) <;> (first | omega | (simp; done) | (simp; omega))), A1, k1, rfl, ?_⟩
  exact OwL.more (base := w.heap.size + 1 + 1) ((HO2.out.setLow (by simp; omega) _).setLow (by simp; omega) _) (by omega)
/-- ParseMappings, for any bytes. -/
theorem polParseM (v : Value) (b : List UInt8) (w : World) (hG : Glo w) (hv : IsB w v b) (hL : b.length ≤ 4700) : Calls Tryz.prog 33 #[v] w (RetPMs (parMs b) b.length w) := by
  cases hls : eachL 1 2147483647 b with
  | none =>
    have hp : parMs b = none := by unfold parMs; rw [hls]
    rw [hp]
    exact polParseM_no v b w hG hv hL fun ls h => by rw [hls] at h; cases h
  | some ls =>
    cases hg : ls.all goodM with
    | false =>
      have hp : parMs b = none := by unfold parMs; rw [hls]; simp [hg]
      rw [hp]
      exact polParseM_no v b w hG hv hL fun ls' h => by rw [hls] at h; injection h with h; subst h; exact hg
    | true =>
      cases hok : okM (ls.map rawM) with
      | false =>
        have hp : parMs b = none := by unfold parMs; rw [hls]; simp [hg, hok]
        rw [hp]
        exact polParseM_bad v b w hG hv hL ls hls hg hok
      | true =>
        have hp : parMs b = some (ls.map rawM) := by unfold parMs; rw [hls]; simp [hg, hok]
        rw [hp]
        exact polParseM_yes v b w hG hv hL ls hls hg hok
end Go.Proofs.YtjjkimjdmpeddaaGreatDoor
end
