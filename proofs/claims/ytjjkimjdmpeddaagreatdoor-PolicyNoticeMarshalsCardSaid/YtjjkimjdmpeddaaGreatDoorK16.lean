/- The parts PolM, PolN, PolO, MapP, PolP, RefM, RepQ, RefN, PmA, PpA, PmB, PpE of one proof, one behind the other. -/
import Derived.Test.YtjjkimjdmpeddaaGreatDoorK11
import Derived.Test.YtjjkimjdmpeddaaGreatDoorK13
import Derived.Test.YtjjkimjdmpeddaaGreatDoorK08
import Derived.Test.YtjjkimjdmpeddaaGreatDoorK15
import Derived.Test.YtjjkimjdmpeddaaGreatDoorK01
import Derived.Laws.EntriesVeiled
import Derived.Deep.RegionHeld3
import Derived.Test.YtjjkimjdmpeddaaGreatDoorK03
import Derived.Test.YtjjkimjdmpeddaaGreatDoorK06
import Derived.Deep.QuietTactic
import Derived.BigQuiet
import Derived.RegionTactic
import Derived.ChangeAlike

/- Walks over policy: object, sequence, ValidMappings. -/
section
set_option linter.unusedSimpArgs false
set_option linter.unusedVariables false
namespace Go.Cr
open Go.RowKit
def objL (s : ByteArray) : List UInt8 := encO 0 false 6 ((oidE s.data.toList).getD [])
def seqL (ls : List (List UInt8)) : List UInt8 := encO 0 true 16 ls.flatten
abbrev Mp := ByteArray × ByteArray
def otherS (s : ByteArray) : Bool := (arcsL s.data.toList).isSome && !decide (s = anyP)
def okM1 (m : Mp) : Bool := otherS m.1 && otherS m.2
def okM (ms : List Mp) : Bool := decide (0 < ms.length) && ms.all okM1
def mCells (ms : List Mp) : List Value := ms.flatMap fun m => [.string m.1, .string m.2]
theorem mCells_at (ms : List Mp) (i : Nat) (h : i < ms.length) : (mCells ms)[i * 2 + 0]? = some (.string ms[i].1) ∧ (mCells ms)[i * 2 + 1]? = some (.string ms[i].2) := by
  induction ms generalizing i with
  | nil => simp at h
  | cons m t ih =>
    cases i with
    | zero => exact ⟨rfl, rfl⟩
    | succ i =>
      have := ih i (by simpa using h)
      have e : ∀ c, (mCells (m :: t))[(i + 1) * 2 + c]? = (mCells t)[i * 2 + c]? := fun c => by
        show ([Value.string m.1, .string m.2] ++ mCells t)[(i + 1) * 2 + c]? = _
        rw [List.getElem?_append_right (by simp; omega)]
        congr 1
        simp
        omega
      rw [e, e]
      exact this
def IsMs (w : World) (v : Value) (ms : List Mp) : Prop := IsR w v 2 ms.length (mCells ms)
theorem IsMs.below {w w' : World} {v : Value} {ms : List Mp} (h : IsMs w v ms) (hb : Below w.heap.size w w') : IsMs w' v ms := IsR.below h hb
theorem IsMs.alloc {w : World} {v : Value} {ms : List Mp} (h : IsMs w v ms) (o : Obj) : IsMs (w.alloc o) v ms := IsR.alloc h o
theorem isMs_slice {w : World} {v : Value} {ms : List Mp} (h : IsMs w v ms) : ∃ A c, v = .slice A ms.length c := by obtain ⟨A, c, rfl, _⟩ := h; exact ⟨A, c, rfl⟩
section
variable {P : Program} {w : World} {v : Value} {t e : TypeId}
theorem IsMs.len {ms : List Mp} (h : IsMs w v ms) (ht : P.underlying t = some (.slice e)) : ∀ (ty : TypeId) (W : World), (Builtin.len_ #[t] ty #[v]).run P W = .ok (.int .i64 ms.length) W := IsR.len h ht
theorem IsMs.at_ {ms : List Mp} (h : IsMs w v ms) (ht : P.underlying t = some (.slice e)) (hs : ∀ W, (sizeOf e).run P W = .ok 2 W) (kd : IntKind) (i : Nat) (h1 : i < ms.length) :
    ∃ b o, (∀ W : World, (Instr.indexAt t v (.int kd (i : Int))).run P W = .ok (.pointer (some ⟨b, o, none⟩)) W) ∧ b < w.heap.size ∧ w.cell? ⟨b, o, none⟩ = some (.string ms[i].1) ∧ w.cell? ⟨b, o + 1, none⟩ = some (.string ms[i].2) := by
  obtain ⟨b, o, hi, hb, hc⟩ := IsR.at_ h ht hs kd (i := (i : Int)) (by omega) (by omega)
  have h2 := mCells_at ms i h1
  rw [Int.toNat_natCast] at hc
  exact ⟨b, o, hi, hb, by simpa using hc 0 _ h2.1, hc 1 _ h2.2⟩
end
def SzM (ms : List Mp) : Prop := ms.length ≤ 10000 ∧ ∀ m ∈ ms, m.1.size ≤ 100000 ∧ m.2.size ≤ 100000
end Go.Cr
namespace Go.Proofs.YtjjkimjdmpeddaaGreatDoor
open Go.RowKit Go.Cr
set_option maxRecDepth 100000 in
set_option maxHeartbeats 4000000 in
theorem polObject (s : ByteArray) (w : World) (hG : Glo w) (hs : s.size ≤ 100000) : Calls Tryz.prog 66 #[.string s] w (RetO 5 (objL s) w) := by
  have HE := fun W (g : Glo W) => enc_any s W g (by omega)
  unfold objL
  have HG := Lib.hid hG
  cases ho : oidE s.data.toList with
  | none =>
    have HE' : Hid (∀ W, Glo W → Calls Tryz.prog 104 #[.string s] W (RetB (.tuple #[.slice none 0 0, .int .i64 8]) W)) := fun W g => (HE W g).mono fun e w' hh => by
      rw [ho] at hh
      obtain ⟨hb, ⟨_, he⟩ | ⟨c, v, h, _⟩⟩ := hh
      · exact ⟨he, hb⟩
      · cases h
    have HW1 : Hid (∀ W u, IsBs W u [([] : List UInt8)] → Calls Tryz.prog 45 #[.int .i64 0, .bool false, .int .i64 6, u] W (RetOK 5 (encO 0 false 6 []) W)) := fun W u h => by
      have := pWrap 0 6 false u [[]] W h (by simp)
      refine this.mono fun e w' hh => ?_
      unfold RetW at hh
      rw [if_pos (by decide)] at hh
      simpa using hh
    clear HE hG hs ho
    simp only [Option.getD_none]
    go_enter Tryz.func66, Tryz.ntmps66
    go_wp2_with (first | ((go_at_call 104); (with_reducible refine (HE'.out _ HG.out).mono ?_); rintro e w1 ⟨rfl, hbw1⟩) | ((go_at_call 45); (with_reducible refine (HW1.out _ _ (isBs_one (by simp) (IsB.none_ _))).mono ?_); rintro e w3 ⟨v3, rfl, ho3, hbw3⟩; have HO3 := Lib.hid ho3; clear ho3))
    go_ret
    have s1 := hbw1.size; have s3 := hbw3.size
    simp at s3
    exact ⟨_, rfl, HO3.out.more (by simp; omega), (hbw1.alloc hbw1.size _).trans (hbw3.mono (by simp; omega))⟩
  | some c =>
    have HE' : Hid (∀ W, Glo W → Calls Tryz.prog 104 #[.string s] W (RetOidY c W)) := fun W g => (HE W g).mono fun e w' hh => by rw [ho] at hh; exact hh.yes
    have hcl := oidE_len ho
    have hsl : s.data.toList.length = s.size := rfl
    have HW1 : Hid (∀ W u, IsBs W u [c] → Calls Tryz.prog 45 #[.int .i64 0, .bool false, .int .i64 6, u] W (RetOK 5 (encO 0 false 6 c) W)) := fun W u h => by
      have := pWrap 0 6 false u [c] W h (by simp; omega)
      refine this.mono fun e w' hh => ?_
      unfold RetW at hh
      rw [if_pos (by decide)] at hh
      simpa using hh
    clear HE hG hs ho hcl hsl
    simp only [Option.getD_some]
    go_enter Tryz.func66, Tryz.ntmps66
    go_wp2_with (first | ((go_at_call 104); (with_reducible refine (HE'.out _ HG.out).mono ?_); rintro e w1 ⟨v1, rfl, ho1, hbw1⟩; obtain ⟨A1, k1, rfl⟩ := isB_slice ho1.isB; have HV1 := Lib.hid ho1.isB; clear ho1) | ((go_at_call 45); (with_reducible refine (HW1.out _ _ (isBs_one (by simp) HV1.out)).mono ?_); rintro e w3 ⟨v3, rfl, ho3, hbw3⟩; have HO3 := Lib.hid ho3; clear ho3))
    go_ret
    have s1 := hbw1.size; have s3 := hbw3.size
    simp at s3
    exact ⟨_, rfl, HO3.out.more (by simp; omega), (hbw1.alloc hbw1.size _).trans (hbw3.mono (by simp; omega))⟩
set_option maxRecDepth 100000 in
set_option maxHeartbeats 4000000 in
theorem polSeq (v : Value) (ls : List (List UInt8)) (w : World) (hv : IsBs w v ls) (hl : ls.flatten.length ≤ 900000) : Calls Tryz.prog 47 #[v] w (RetO 5 (seqL ls) w) := by
  have HS : Hid (∀ W, IsBs W v ls → Calls Tryz.prog 48 #[v] W (RetOK 5 (seqL ls) W)) := fun W h => by
    refine (pSeq v ls W h hl).mono fun e w' hh => ?_
    unfold RetW at hh
    rw [if_pos (by decide)] at hh
    exact hh
  have HV := Lib.hid hv
  obtain ⟨A, c, rfl⟩ : ∃ A c, v = .slice A ls.length c := by obtain ⟨_, ⟨A, c, h, _⟩, _⟩ := hv; exact ⟨A, c, h⟩
  clear hv hl
  go_enter Tryz.func47, Tryz.ntmps47
  go_wp2_with (((go_at_call 48); (with_reducible refine (HS.out _ HV.out).mono ?_); rintro e w1 ⟨v1, rfl, ho1, hbw1⟩; have HO1 := Lib.hid ho1; clear ho1))
  go_ret
  exact ⟨_, rfl, HO1.out, hbw1⟩
set_option maxRecDepth 100000 in
set_option maxHeartbeats 4000000 in
theorem polOther (s : ByteArray) (w : World) (hG : Glo w) (hs : s.size ≤ 100000) : Calls Tryz.prog 68 #[.string s] w (RetB (.bool (otherS s)) w) := by
  have HO : Hid (∀ W, Glo W → Calls Tryz.prog 69 #[.string s] W (RetB (.bool (arcsL s.data.toList).isSome) W)) := fun W g => oidValid s W g (by omega)
  have HG := Lib.hid hG
  have ho : otherS s = ((arcsL s.data.toList).isSome && !decide (s = anyP)) := rfl
  rw [ho]
  clear ho hG hs
  generalize (arcsL s.data.toList).isSome = B at *
  by_cases h2 : s = anyP
  · have e2 : (s.toList == [50, 46, 53, 46, 50, 57, 46, 51, 50, 46, 48]) = true := by rw [h2, anyP_list]; rfl
    rw [decide_eq_true h2]
    clear h2
    cases B
    all_goals
      go_enter Tryz.func68, Tryz.ntmps68
      go_wp2_with (((go_at_call 69); (with_reducible refine (HO.out _ HG.out).mono ?_); rintro e w1 ⟨rfl, hbw1⟩))
      go_ret
      exact ⟨by first | rfl | simp [e2, bne], hbw1⟩
  · have e2 : (s.toList == [50, 46, 53, 46, 50, 57, 46, 51, 50, 46, 48]) = false := by rw [← anyP_list]; exact strNe0 h2
    rw [decide_eq_false h2]
    clear h2
    cases B
    all_goals
      go_enter Tryz.func68, Tryz.ntmps68
      go_wp2_with (((go_at_call 69); (with_reducible refine (HO.out _ HG.out).mono ?_); rintro e w1 ⟨rfl, hbw1⟩))
      go_ret
      exact ⟨by first | rfl | simp [e2, bne], hbw1⟩
set_option maxRecDepth 100000 in
set_option maxHeartbeats 4000000 in
theorem badM (a b : ByteArray) (g : Nat) (w : World) (hG : Glo w) (hg : Blk w g 96 #[.func (.func 68) #[] #[]]) (ha : a.size ≤ 100000) (hb : b.size ≤ 100000) : Calls Tryz.prog 71 #[.agg #[.string a, .string b], .pointer (some ⟨g, 0, none⟩)] w (RetB (.bool (!okM1 (a, b))) w) := by
  have e68 := enters_of Tryz.func68 (by kernel_rfl) rfl
  have HA : Hid (∀ W, Glo W → Calls Tryz.prog 68 #[.string a] W (RetB (.bool (otherS a)) W)) := fun W h => polOther a W h (by omega)
  have HB : Hid (∀ W, Glo W → Calls Tryz.prog 68 #[.string b] W (RetB (.bool (otherS b)) W)) := fun W h => polOther b W h (by omega)
  have ho : okM1 (a, b) = (otherS a && otherS b) := rfl
  rw [ho]
  have HG := Lib.hid hG
  have HGB := Lib.hid hg
  have q0 := hg.q
  have l0 := hg.lt
  clear hG hg ha hb ho
  generalize otherS a = B1 at *
  generalize otherS b = B2 at *
  cases B1
  · go_enter Tryz.func71, Tryz.ntmps71
    go_wp2_with (((go_at_call 68); (with_reducible refine (HA.out _ (HG.out.alloc _)).mono ?_); rintro e w1 ⟨rfl, hbw1⟩))
    go_ret
    exact ⟨rfl, by ((repeat' (first | (with_reducible exact Below.refl _ _) | (with_reducible assumption) | (with_reducible refine Below.setCell ?_ ?_ _) | (with_reducible refine Below.alloc ?_ ?_ _) | (with_reducible refine Below.drew ?_) | (with_reducible refine below_drewN ?_ _) | (with_reducible refine Below.step (by with_reducible assumption) ?_ ?_))) <;> (first | omega | (simp; done) | (simp; omega)))⟩
  · cases B2
    all_goals
      go_enter Tryz.func71, Tryz.ntmps71
      go_wp2_with (first | ((go_at_call 68); (with_reducible refine (HB.out w1 HG1.out).mono ?_); rintro e w2 ⟨rfl, hbw2⟩) | ((go_at_call 68); (with_reducible refine (HA.out _ (HG.out.alloc _)).mono ?_); rintro e w1 ⟨rfl, hbw1⟩; have HG1 := Lib.hid ((HG.out.alloc (.cells #[.string a, .string b] 68)).below hbw1); have I1 := Blk.call (Blk.new w 68 #[.string a, .string b]) hbw1; have q1 := I1.q; have J1 := Blk.call (HGB.out.alloc (.cells #[.string a, .string b] 68)) hbw1; have p1 := J1.q))
      go_ret
      have s1 := hbw1.size; have s2 := hbw2.size
      simp at s1
      have b1 : Below w.heap.size w w1 := ((Below.refl _ w).alloc (Nat.le_refl _) _).trans (hbw1.mono (by simp))
      exact ⟨rfl, b1.trans (hbw2.mono (by omega))⟩
theorem ulMs : Tryz.prog.underlying 48 = some (.slice 68) := by kernel_rfl
theorem szMp (W : World) : (sizeOf 68).run Tryz.prog W = .ok 2 W := by kernel_rfl
set_option maxRecDepth 100000 in
set_option maxHeartbeats 4000000 in
theorem idxM (v : Value) (ms : List Mp) (g : Nat) (w : World) (hG : Glo w) (hg : Blk w g 96 #[.func (.func 68) #[] #[]]) (hv : IsMs w v ms) (hz : SzM ms) :
    Calls Tryz.prog 107 #[v, .func (.func 71) #[] #[.pointer (some ⟨g, 0, none⟩)]] w (RetIx (!ms.all okM1) w) := by
  have hlen := hv.len (P := Tryz.prog) ulMs
  have e71 := enters_of Tryz.func71 (by kernel_rfl) rfl
  have HB : Hid (∀ (j : Nat) (hj : j < ms.length) W, Glo W → Blk W g 96 #[.func (.func 68) #[] #[]] → Calls Tryz.prog 71 #[.agg #[.string ms[j].1, .string ms[j].2], .pointer (some ⟨g, 0, none⟩)] W (RetB (.bool (!okM1 ms[j])) W)) := fun j hj W h1 h2 => badM ms[j].1 ms[j].2 g W h1 h2 (hz.2 _ (List.getElem_mem hj)).1 (hz.2 _ (List.getElem_mem hj)).2
  have HG := Lib.hid hG
  have HGB := Lib.hid hg
  have HV := Lib.hid hv
  obtain ⟨A, c, rfl⟩ := isMs_slice hv
  obtain ⟨B, hB⟩ : ∃ B, (!ms.all okM1) = B := ⟨_, rfl⟩
  rw [hB]
  have HBB := Lib.hid hB
  have hnI : (ms.length : Int) ≤ 10000 := by have := hz.1; omega
  clear hG hg hv hz hB
  go_enter Tryz.func107, Tryz.ntmps107
  go_wp2_with fail
  go_loopw [8] (fun ix wr => IxRel (fun j => okM1 (ms.getD j default)) ms.length w ix wr) (fun ix _ => ms.length + 1 - (intOf ix).toNat)
  case atStart => exact ⟨0, rfl, Nat.zero_le _, fun j h => by omega, Below.refl _ _⟩
  case round =>
    obtain ⟨i, rfl, hi, hall, hbel⟩ := hrel
    have HALL := Lib.hid hall
    have HBR := Lib.hid hbel
    clear hall
    by_cases hlt : i < ms.length
    · obtain ⟨b2, o2, hi2, hl2, hc1, hc2⟩ := (HV.out.below hbel).at_ (P := Tryz.prog) ulMs szMp .i64 i hlt
      have HC := Lib.hid (HB.out i hlt)
      have hgd : ms.getD i default = ms[i] := by simp [hlt]
      have hltI : (i : Int) < ms.length := by omega
      obtain ⟨C, hC⟩ : ∃ C, okM1 ms[i] = C := ⟨_, rfl⟩
      rw [hC] at HC
      have HCC := Lib.hid hC
      have HGD := Lib.hid hgd
      have HGBr := Lib.hid (HGB.out.call hbel)
      clear hC hgd
      obtain ⟨s0, hs0⟩ : ∃ s0, ms[i].1 = s0 := ⟨_, rfl⟩
      obtain ⟨s1, hs1⟩ : ∃ s1, ms[i].2 = s1 := ⟨_, rfl⟩
      rw [hs0] at hc1 HC
      rw [hs1] at hc2 HC
      clear hs0 hs1
      cases C with
      | true =>
        go_wp2_with (((go_at_call 71); (with_reducible refine (HC.out _ (HG.out.below HBR.out) HGBr.out).mono ?_); rintro e w3 ⟨rfl, hbw3⟩; have HB3 := Lib.hid (HBR.out.trans (hbw3.mono HBR.out.size)); clear hbw3))
        go_roundw
        case rel =>
          refine ⟨i + 1, by go_num, by omega, fun j hj => ?_, HB3.out⟩
          by_cases hji : j < i
          · exact HALL.out j hji
          · obtain rfl : j = i := by omega
            show okM1 (ms.getD j default) = true
            rw [HGD.out]; exact HCC.out
        case measure => simp [intOf]; omega
      | false =>
        have hBt : B = true := by
          rw [← HBB.out]
          cases ha : ms.all okM1 with
          | false => rfl
          | true =>
            have := List.all_eq_true.1 ha ms[i] (List.getElem_mem hlt)
            rw [HCC.out] at this
            cases this
        have HBT := Lib.hid hBt
        clear hBt
        go_wp2_with (((go_at_call 71); (with_reducible refine (HC.out _ (HG.out.below HBR.out) HGBr.out).mono ?_); rintro e w3 ⟨rfl, hbw3⟩; have HB3 := Lib.hid (HBR.out.trans (hbw3.mono HBR.out.size)); clear hbw3))
        go_ret
        exact ⟨_, rfl, by rw [HBT.out]; exact decide_eq_true (by omega), HB3.out⟩
    · have hBf : B = false := by
        rw [← HBB.out]
        have : ms.all okM1 = true := (all_getD okM1 ms).1 (fun j hj => HALL.out j (by omega))
        rw [this]; rfl
      have HBF := Lib.hid hBf
      have hge : (ms.length : Int) ≤ i := by omega
      clear hlt hi hBf hbel
      go_wp2_with fail
      go_ret
      exact ⟨_, rfl, by rw [HBF.out]; rfl, HBR.out⟩
set_option maxRecDepth 100000 in
set_option maxHeartbeats 4000000 in
theorem anyM (v : Value) (ms : List Mp) (g : Nat) (w : World) (hG : Glo w) (hg : Blk w g 96 #[.func (.func 68) #[] #[]]) (hv : IsMs w v ms) (hz : SzM ms) :
    Calls Tryz.prog 70 #[v, .func (.func 71) #[] #[.pointer (some ⟨g, 0, none⟩)]] w (RetB (.bool (!ms.all okM1)) w) := by
  have HI := Lib.hid (idxM v ms g w hG hg hv hz)
  obtain ⟨A, c, rfl⟩ := isMs_slice hv
  clear hG hg hv hz
  generalize (!ms.all okM1) = B at *
  go_enter Tryz.func70, Tryz.ntmps70
  go_wp2_with (((go_at_call 107); (with_reducible refine (HI.out).mono ?_); rintro e w1 ⟨r, rfl, hr, hbw1⟩))
  go_ret
  exact ⟨by (first | rw [← hr]; rfl | simp [hr]), hbw1⟩
set_option maxRecDepth 100000 in
set_option maxHeartbeats 4000000 in
theorem polValidM (v : Value) (ms : List Mp) (w : World) (hG : Glo w) (hv : IsMs w v ms) (hz : SzM ms) : Calls Tryz.prog 31 #[v] w (RetB (.bool (okM ms)) w) := by
  have hlen := hv.len (P := Tryz.prog) ulMs
  have HA : Hid (∀ g W, Glo W → Blk W g 96 #[.func (.func 68) #[] #[]] → IsMs W v ms → Calls Tryz.prog 70 #[v, .func (.func 71) #[] #[.pointer (some ⟨g, 0, none⟩)]] W (RetB (.bool (!ms.all okM1)) W)) := fun g W h1 h2 h3 => anyM v ms g W h1 h2 h3 hz
  have HG := Lib.hid hG
  have HV := Lib.hid hv
  have ho : okM ms = (decide (0 < ms.length) && ms.all okM1) := rfl
  rw [ho]
  obtain ⟨A, c, rfl⟩ := isMs_slice hv
  have hnI : (ms.length : Int) ≤ 10000 := by have := hz.1; omega
  clear hG hv hz ho
  by_cases hn : 0 < ms.length
  · have hd : decide (0 < ms.length) = true := decide_eq_true hn
    have hd2 : (0 : Int) < ms.length := by omega
    rw [hd]
    generalize ms.all okM1 = B at *
    cases B
    all_goals
      go_enter Tryz.func31, Tryz.ntmps31
      go_wp2_with (((go_at_call 70); (with_reducible refine (HA.out _ _ (HG.out.alloc _) (Blk.new _ _ _) (HV.out.alloc _)).mono ?_); rintro e w1 ⟨rfl, hbw1⟩))
      go_ret
      exact ⟨rfl, by ((repeat' (first | (with_reducible exact Below.refl _ _) | (with_reducible assumption) | (with_reducible refine Below.setCell ?_ ?_ _) | (with_reducible refine Below.alloc ?_ ?_ _) | (with_reducible refine Below.drew ?_) | (with_reducible refine below_drewN ?_ _) | (with_reducible refine Below.step (by with_reducible assumption) ?_ ?_))) <;> (first | omega | (simp; done) | (simp; omega)))⟩
  · have hd : decide (0 < ms.length) = false := decide_eq_false hn
    rw [hd]
    go_enter Tryz.func31, Tryz.ntmps31
    go_wp2_with fail
    go_ret
    exact ⟨rfl, by ((repeat' (first | (with_reducible exact Below.refl _ _) | (with_reducible assumption) | (with_reducible refine Below.setCell ?_ ?_ _) | (with_reducible refine Below.alloc ?_ ?_ _) | (with_reducible refine Below.drew ?_) | (with_reducible refine below_drewN ?_ _) | (with_reducible refine Below.step (by with_reducible assumption) ?_ ?_))) <;> (first | omega | (simp; done) | (simp; omega)))⟩
end Go.Proofs.YtjjkimjdmpeddaaGreatDoor
end

/- Walk over policy.MarshalMappings. -/
section
set_option linter.unusedSimpArgs false
set_option linter.unusedVariables false
namespace Go.Cr
open Go.RowKit
def parM (m : Mp) : List UInt8 := seqL [objL m.1, objL m.2]
theorem part_newP {w W : World} {base : Nat} {t e : TypeId} {u v : Value} {l : List UInt8} {ls : List (List UInt8)} (h : OwB w W.heap.size t u l) (hv : OwP W base e v ls) (hb : base ≤ W.heap.size) : IsRS (But base v.ownBlock) w u 1 l.length (bCells l) := by
  obtain ⟨xs, h1, _⟩ := hv
  exact part_new h hb h1
theorem IsRS.below {S : Nat → Prop} {w w' : World} {v : Value} {k n : Nat} {xs : List Value} (h : IsRS S w v k n xs) (hb : Below w.heap.size w w') : IsRS S w' v k n xs := h.keep hb.size fun b hlt _ => hb.block b hlt
theorem IsRS.alloc {S : Nat → Prop} {w : World} {v : Value} {k n : Nat} {xs : List Value} (h : IsRS S w v k n xs) (o : Obj) : IsRS S (w.alloc o) v k n xs := h.below ((Below.refl _ _).alloc (Nat.le_refl _) o)
theorem OwP.notNew {w : World} {base : Nat} {e : TypeId} {v : Value} {ls : List (List UInt8)} (h : OwP w base e v ls) {g : Nat} (hg : w.heap.size ≤ g) : some g ≠ v.ownBlock := by
  obtain ⟨xs, h1, _⟩ := h
  intro he
  have := (h1.lt _ he.symm).2
  omega
theorem isR_one {w : World} {t : TypeId} {u : Value} : IsR (w.alloc (.cells #[u] t)) (.slice (some ⟨w.heap.size, 0, none⟩) 1 1) 1 1 [u] :=
  ⟨_, 1, rfl, Nat.le_refl _, by decide, rfl, fun _ => ⟨w.heap.size, 0, rfl, by simp, fun j x hj => by rw [Nat.zero_add, World.cell?_alloc_new]; simpa using hj⟩⟩
theorem flat_part {α : Type} (f : α → List UInt8) {ms : List α} {m : α} (h : m ∈ ms) : (f m).length ≤ (ms.map f).flatten.length := by
  induction ms with
  | nil => cases h
  | cons x t ih =>
    simp only [List.map_cons, List.flatten_cons, List.length_append]
    rcases List.mem_cons.1 h with rfl | h
    · omega
    · have := ih h; omega
theorem seqL_len (ls : List (List UInt8)) : ls.flatten.length ≤ (seqL ls).length := by
  have := encO_len 0 16 true ls.flatten
  unfold seqL
  omega
end Go.Cr
namespace Go.Proofs.YtjjkimjdmpeddaaGreatDoor
open Go.RowKit Go.Cr
theorem infoBss : (Tryz.prog.info? 32).map (fun i => (i.zero, i.size, i.bytes)) = some (some (.slice none 0 0), 1, 24) := by kernel_rfl
def MmRel (ms : List Mp) (w : World) (out ix : Value) (wr : World) : Prop := ∃ i : Nat, ix = .int .i64 (i : Int) ∧ i ≤ ms.length ∧ OwP wr w.heap.size 32 out ((ms.take i).map parM) ∧ Below w.heap.size w wr
set_option maxRecDepth 100000 in
set_option maxHeartbeats 8000000 in
theorem polMarM_yes (v : Value) (ms : List Mp) (w : World) (hG : Glo w) (hv : IsMs w v ms) (hz : SzM ms) (hT : (ms.map parM).flatten.length ≤ 900000) (ho : okM ms = true) : Calls Tryz.prog 29 #[v] w (RetOidY (seqL (ms.map parM)) w) := by
  have HV0 : Hid (Calls Tryz.prog 31 #[v] w (RetB (.bool true) w)) := by have := polValidM v ms w hG hv hz; rw [ho] at this; exact this
  have hlen := hv.len (P := Tryz.prog) ulMs
  have HO1 : Hid (∀ (i : Nat) (h : i < ms.length) W, Glo W → Calls Tryz.prog 66 #[.string ms[i].1] W (RetO 5 (objL ms[i].1) W)) := fun i h W g => polObject _ W g (hz.2 _ (List.getElem_mem h)).1
  have HO2 : Hid (∀ (i : Nat) (h : i < ms.length) W, Glo W → Calls Tryz.prog 66 #[.string ms[i].2] W (RetO 5 (objL ms[i].2) W)) := fun i h W g => polObject _ W g (hz.2 _ (List.getElem_mem h)).2
  have HSQ : Hid (∀ (i : Nat) (h : i < ms.length) u W, IsBs W u [objL ms[i].1, objL ms[i].2] → Calls Tryz.prog 47 #[u] W (RetO 5 (parM ms[i]) W)) := fun i h u W hu => polSeq u _ W hu (by
    have h1 := flat_part parM (List.getElem_mem h)
    have h2 := seqL_len [objL ms[i].1, objL ms[i].2]
    have h0 : parM ms[i] = seqL [objL ms[i].1, objL ms[i].2] := rfl
    rw [h0] at h1
    omega)
  have HEL : Hid (∀ u W, IsBs W u (ms.map parM) → Calls Tryz.prog 48 #[u] W (RetOK 5 (seqL (ms.map parM)) W)) := fun u W h => by
    refine (pSeq u _ W h hT).mono fun e w' hh => ?_
    unfold RetW at hh
    rw [if_pos (by decide)] at hh
    exact hh
  have HG := Lib.hid hG
  have HV := Lib.hid hv
  obtain ⟨A, c, rfl⟩ := isMs_slice hv
  have hnI : (ms.length : Int) ≤ 10000 := by have := hz.1; omega
  obtain ⟨R, hR⟩ : ∃ R, seqL (ms.map parM) = R := ⟨_, rfl⟩
  rw [hR] at HEL ⊢
  clear hG hv hz hT ho hR
  go_enter Tryz.func29, Tryz.ntmps29
  go_wp2_with (((go_at_call 31); (with_reducible refine (HV0.out).mono ?_); rintro e w1 ⟨rfl, hbw1⟩; have HB1 := Lib.hid hbw1; clear hbw1))
  go_loopw [4, 12] (fun out ix wr => MmRel ms w1 out ix wr) (fun _ ix _ => ms.length + 1 - (intOf ix).toNat)
  case atStart => exact ⟨0, rfl, Nat.zero_le _, OwP.nil_ _ _ _, Below.refl _ _⟩
  case round =>
    obtain ⟨i, rfl, hi, how, hbel⟩ := hrel
    have HOW := Lib.hid how
    have HBR := Lib.hid hbel
    clear how
    by_cases hlt : i < ms.length
    · obtain ⟨b2, o2, hi2, hl2, hc1, hc2⟩ := ((HV.out.below HB1.out).below hbel).at_ (P := Tryz.prog) ulMs szMp .i64 i hlt
      have HA := Lib.hid (HO1.out i hlt)
      have HB := Lib.hid (HO2.out i hlt)
      have HS := Lib.hid (HSQ.out i hlt)
      have htk : (ms.take (i + 1)).map parM = (ms.take i).map parM ++ [parM ms[i]] := by rw [List.take_succ_eq_append_getElem hlt, List.map_append]; rfl
      have HTK := Lib.hid htk
      have hltI : (i : Int) < ms.length := by omega
      have hll : ((ms.take i).map parM).length ≤ 10000 := by rw [List.length_map, List.length_take]; omega
      have HLL := Lib.hid hll
      have hszr : w1.heap.size ≤ wr.heap.size := hbel.size
      clear hbel htk hll
      obtain ⟨s0, hs0⟩ : ∃ s0, ms[i].1 = s0 := ⟨_, rfl⟩
      obtain ⟨s1, hs1⟩ : ∃ s1, ms[i].2 = s1 := ⟨_, rfl⟩
      rw [hs0] at hc1 HA HS
      rw [hs1] at hc2 HB HS
      clear hs0 hs1
      generalize parM ms[i] = pl at *
      generalize hLg : (ms.take i).map parM = LL at *
      have HGr := Lib.hid ((HG.out.below HB1.out).below HBR.out)
      go_wp2_with fail
      have HI := Lib.hid (Blk.drew (Blk.new wr 68 #[.string s0, .string s1]))
      have HG0 := Lib.hid (show Glo (wr.alloc (.cells #[.string s0, .string s1] 68)).drew from (HGr.out.alloc (.cells #[.string s0, .string s1] 68)).below (Below.refl _ _).drew)
      have HOW0 := Lib.hid (show OwP (wr.alloc (.cells #[.string s0, .string s1] 68)).drew w1.heap.size 32 _ LL from HOW.out.alloc (.cells #[.string s0, .string s1] 68))
      have HB0 := Lib.hid (show Below w1.heap.size w1 (wr.alloc (.cells #[.string s0, .string s1] 68)).drew from (HBR.out.alloc hszr _).drew)
      have hgn := HOW.out.notNew (Nat.le_refl _)
      have hszr0 : wr.heap.size + 1 = (wr.alloc (.cells #[.string s0, .string s1] 68)).drew.heap.size := by simp
      go_region_held3 (fun W' => W'.cell? ⟨wr.heap.size, 0, none⟩ = some (.string s0) ∧ W'.cell? ⟨wr.heap.size, 1, none⟩ = some (.string s1))
        (first | go_keep | exact ⟨(JD.q 0).trans rfl, (JD.q 1).trans rfl⟩ | exact ⟨(JC.q 0).trans rfl, (JC.q 1).trans rfl⟩ | exact ⟨(JC.alloc _).q 0 |>.trans rfl, (JC.alloc _).q 1 |>.trans rfl⟩ | exact ⟨(JB.q 0).trans rfl, (JB.q 1).trans rfl⟩ | exact ⟨(JB.alloc _).q 0 |>.trans rfl, (JB.alloc _).q 1 |>.trans rfl⟩ | exact ⟨(JA.q 0).trans rfl, (JA.q 1).trans rfl⟩ | (trace_state; fail))
        (first
          | ((go_at_call 66); (with_reducible refine (HB.out wa HGa.out).mono ?_); rintro e wb ⟨vb, rfl, hob, hbwb⟩; obtain ⟨Ab, kb, rfl⟩ := isB_slice hob.isB; have JB := Blk.call JA hbwb; have HBB := Lib.hid (HBA.out.trans (hbwb.mono HBA.out.size)); have HVA2 := Lib.hid (HVA.out.below hbwb); have HVB2 := Lib.hid hob.isB; have HOWB := Lib.hid (HOWA.out.below hbwb); clear hob)
          | ((go_at_call 66); (with_reducible refine (HA.out wa HGa.out).mono ?_); rintro e wb ⟨vb, rfl, hob, hbwb⟩; obtain ⟨Ab, kb, rfl⟩ := isB_slice hob.isB; have JB := Blk.call JA hbwb; have HBB := Lib.hid (HBA.out.trans (hbwb.mono HBA.out.size)); have HVB2 := Lib.hid (HVB.out.below hbwb); have HVA2 := Lib.hid hob.isB; have HOWB := Lib.hid (HOWA.out.below hbwb); clear hob)
          | ((go_at_call 66); (with_reducible refine (HA.out _ HG0.out).mono ?_); rintro e wa ⟨va, rfl, hoa, hbwa⟩; obtain ⟨Aa, ka, rfl⟩ := isB_slice hoa.isB; have JA := Blk.call HI.out hbwa; have HBA := Lib.hid (HB0.out.trans (hbwa.mono HB0.out.size)); have HGa := Lib.hid (HG0.out.below hbwa); have HVA := Lib.hid hoa.isB; have HOWA := Lib.hid (HOW0.out.below hbwa); clear hoa)
          | ((go_at_call 66); (with_reducible refine (HB.out _ HG0.out).mono ?_); rintro e wa ⟨va, rfl, hoa, hbwa⟩; obtain ⟨Aa, ka, rfl⟩ := isB_slice hoa.isB; have JA := Blk.call HI.out hbwa; have HBA := Lib.hid (HB0.out.trans (hbwa.mono HB0.out.size)); have HGa := Lib.hid (HG0.out.below hbwa); have HVB := Lib.hid hoa.isB; have HOWA := Lib.hid (HOW0.out.below hbwa); clear hoa)
          | ((go_at_call 47); (with_reducible refine (HS.out _ _ (isBs_two rfl HVA2.out HVB2.out)).mono ?_); rintro e wc ⟨vc, rfl, hoc, hbwc⟩; obtain ⟨Ac, kc, rfl⟩ := isB_slice hoc.isB; have JC := Blk.call (JB.alloc _) hbwc; have HPC := Lib.hid (part_newP hoc (HOWB.out.alloc _) (by have := HBB.out.size; simp; omega)); have HBC := Lib.hid ((HBB.out.alloc HBB.out.size _).trans (hbwc.mono (by have := HBB.out.size; simp; omega))); have HOWC := Lib.hid ((HOWB.out.alloc _).below hbwc); clear hoc)
          | (rw [if_pos (by rfl)]; obtain ⟨vd, wd, hrd, hod, hbd, hgd⟩ := run_appP (P := Tryz.prog) (wc.alloc (.cells #[.slice Ac pl.length kc] 32)) w1.heap.size 28 28 32 ulBs infoBss _ LL (HOWC.out.alloc _) _ (.slice Ac pl.length kc) pl isR_one (HPC.out.alloc _) (by have := HLL.out; omega) (by have := HBC.out.size; simp; omega); have JD := Blk.grown (JC.alloc (.cells #[.slice Ac pl.length kc] 32)) hgd hgn; have HOD := Lib.hid hod; have HBD := Lib.hid ((HBC.out.alloc HBC.out.size _).trans hbd); refine wp_appR _ _ _ _ rfl _ _ _ _ rfl rfl hrd ?_))
      all_goals
        go_wp2_with fail
        go_roundw
        case rel => exact ⟨i + 1, by go_num, by omega, by rw [HTK.out]; exact HOD.out, HBD.out⟩
        case measure => simp [intOf]; omega
    · have hie : i = ms.length := by omega
      have how := HOW.out
      rw [hie, List.take_length] at how
      have HO := Lib.hid how
      have hge : (ms.length : Int) ≤ i := by omega
      obtain ⟨Ao, ko, hoe⟩ := how.slice
      rw [List.length_map] at hoe
      subst hoe
      clear how hie hlt hi hbel
      go_wp2_with (((go_at_call 48); (with_reducible refine (HEL.out _ _ HO.out.isBs).mono ?_); rintro e w9 ⟨v9, rfl, ho9, hbw9⟩; have HO9 := Lib.hid ho9; clear ho9))
      go_ret2
      have s1 := HB1.out.size; have s2 := HBR.out.size
      exact ⟨_, rfl, HO9.out.more (by omega), (HB1.out.trans (HBR.out.mono s1)).trans (hbw9.mono (by omega))⟩
end Go.Proofs.YtjjkimjdmpeddaaGreatDoor
end

/- Walk over policy.Marshal. -/
section
set_option linter.unusedSimpArgs false
set_option linter.unusedVariables false
namespace Go.Cr
open Go.RowKit
def quaL (q : Qual) : List UInt8 := seqL [objL q.1, q.2]
def polL (p : Pol) : List UInt8 := seqL (objL p.1 :: (if p.2 = [] then [] else [seqL (p.2.map quaL)]))
theorem OwP.lit1 {w : World} {base : Nat} {t e : TypeId} {u : Value} {l : List UInt8} (h : OwB w base t u l) (hb : base ≤ w.heap.size) : OwP (w.alloc (.cells #[u] e)) base e (.slice (some ⟨w.heap.size, 0, none⟩) 1 1) [l] := by
  refine ⟨[u], ?_, rfl, fun j hj => ?_⟩
  · have := World.ownsRow_lit (base := base) (e := e) (size := 1) w #[u] 1 hb (by decide) rfl
    exact this
  · have hj0 : j = 0 := by simpa using hj
    subst hj0
    have h1 : IsRS (fun b => base ≤ b ∧ b < w.heap.size) w u 1 l.length (bCells l) := (IsRS.of_own h).weak fun b hlt hS => ⟨hS, hlt⟩
    refine (h1.alloc _).weak fun b _ hS => ⟨hS.1, fun he => ?_⟩
    have e1 : (Value.slice (some ⟨w.heap.size, 0, none⟩) 1 1).ownBlock = some w.heap.size := rfl
    rw [e1] at he
    injection he with he
    omega
end Go.Cr
namespace Go.Proofs.YtjjkimjdmpeddaaGreatDoor
open Go.RowKit Go.Cr
def PmRel (ps : List Pol) (w : World) (out ix : Value) (wr : World) : Prop := ∃ i : Nat, ix = .int .i64 (i : Int) ∧ i ≤ ps.length ∧ OwP wr w.heap.size 32 out ((ps.take i).map polL) ∧ Below w.heap.size w wr
def QmRel (qs : List Qual) (w : World) (out ix : Value) (wr : World) : Prop := ∃ j : Nat, ix = .int .i64 (j : Int) ∧ j ≤ qs.length ∧ OwP wr w.heap.size 32 out ((qs.take j).map quaL) ∧ Below w.heap.size w wr
set_option maxRecDepth 100000 in
set_option maxHeartbeats 16000000 in
theorem polMar_yes (v : Value) (ps : List Pol) (w : World) (hG : Glo w) (hv : IsPs w v ps) (hz : SzP ps) (hT : (ps.map polL).flatten.length ≤ 900000) (ho : okP ps = true) : Calls Tryz.prog 36 #[v] w (RetOidY (seqL (ps.map polL)) w) := by
  have HV0 : Hid (Calls Tryz.prog 38 #[v] w (RetB (.bool true) w)) := by have := polValid v ps w hG hv hz; rw [ho] at this; exact this
  have hlen := hv.len (P := Tryz.prog) ulPs
  have hpl : ∀ p ∈ ps, (polL p).length ≤ 900000 := fun p h => by have := flat_part polL h; omega
  have hinn : ∀ p ∈ ps, (objL p.1 :: (if p.2 = [] then [] else [seqL (p.2.map quaL)])).flatten.length ≤ 900000 := fun p h => by
    have h1 := hpl p h
    have h2 := seqL_len (objL p.1 :: (if p.2 = [] then [] else [seqL (p.2.map quaL)]))
    unfold polL at h1
    omega
  have HO1 : Hid (∀ p ∈ ps, ∀ W, Glo W → Calls Tryz.prog 66 #[.string p.1] W (RetO 5 (objL p.1) W)) := fun p h W g => polObject _ W g (by have := (hz.2 _ h).1; omega)
  have HO2 : Hid (∀ p ∈ ps, ∀ q ∈ p.2, ∀ W, Glo W → Calls Tryz.prog 66 #[.string q.1] W (RetO 5 (objL q.1) W)) := fun p h q hq W g => polObject _ W g (by have := ((hz.2 _ h).2.2 _ hq).1; omega)
  have hqq : ∀ p ∈ ps, p.2 ≠ [] → (p.2.map quaL).flatten.length ≤ 900000 := fun p h hne => by
    have h1 := hinn p h
    rw [if_neg hne] at h1
    have h2 := seqL_len (p.2.map quaL)
    simp only [List.flatten_cons, List.length_append] at h1
    omega
  have HSQ : Hid (∀ p ∈ ps, ∀ q ∈ p.2, ∀ u W, IsBs W u [objL q.1, q.2] → Calls Tryz.prog 47 #[u] W (RetO 5 (quaL q) W)) := fun p h q hq u W hu => polSeq u _ W hu (by
    have h1 := flat_part quaL hq
    have h0 : quaL q = seqL [objL q.1, q.2] := rfl
    rw [h0] at h1
    have h2 := seqL_len [objL q.1, q.2]
    have h3 := hqq p h (fun e => by rw [e] at hq; cases hq)
    omega)
  have HSS : Hid (∀ p ∈ ps, p.2 ≠ [] → ∀ u W, IsBs W u (p.2.map quaL) → Calls Tryz.prog 47 #[u] W (RetO 5 (seqL (p.2.map quaL)) W)) := fun p h hne u W hu => polSeq u _ W hu (hqq p h hne)
  have HSP : Hid (∀ p ∈ ps, ∀ u W ls, ls = (objL p.1 :: (if p.2 = [] then [] else [seqL (p.2.map quaL)])) → IsBs W u ls → Calls Tryz.prog 47 #[u] W (RetO 5 (polL p) W)) := fun p h u W ls e hu => by
    subst e
    exact polSeq u _ W hu (hinn p h)
  have HEL : Hid (∀ u W, IsBs W u (ps.map polL) → Calls Tryz.prog 48 #[u] W (RetOK 5 (seqL (ps.map polL)) W)) := fun u W h => by
    refine (pSeq u _ W h hT).mono fun e w' hh => ?_
    unfold RetW at hh
    rw [if_pos (by decide)] at hh
    exact hh
  have HQN : Hid (∀ p ∈ ps, p.2.length ≤ 10000) := fun p h => (hz.2 _ h).2.1
  have HG := Lib.hid hG
  have HV := Lib.hid hv
  obtain ⟨A, c, rfl⟩ := isPs_slice hv
  have hnI : (ps.length : Int) ≤ 10000 := by have := hz.1; omega
  obtain ⟨R, hR⟩ : ∃ R, seqL (ps.map polL) = R := ⟨_, rfl⟩
  rw [hR] at HEL ⊢
  clear hG hv hz hT ho hR hpl hinn hqq
  go_enter Tryz.func36, Tryz.ntmps36
  go_wp2_with (((go_at_call 38); (with_reducible refine (HV0.out).mono ?_); rintro e w1 ⟨rfl, hbw1⟩; have HB1 := Lib.hid hbw1; clear hbw1))
  go_loopw [4, 16] (fun out ix wr => PmRel ps w1 out ix wr) (fun _ ix _ => ps.length + 1 - (intOf ix).toNat)
  case atStart => exact ⟨0, rfl, Nat.zero_le _, OwP.nil_ _ _ _, Below.refl _ _⟩
  case round =>
    obtain ⟨i, rfl, hi, how, hbel⟩ := hrel
    obtain ⟨wo, rfl⟩ : ∃ wo, wo = wr := ⟨_, rfl⟩
    have HOW := Lib.hid how
    have HBR := Lib.hid hbel
    have HBW := Lib.hid (HB1.out.trans (hbel.mono HB1.out.size))
    clear how
    by_cases hlt : i < ps.length
    · obtain ⟨b2, o2, A2, k2, hi2, hl2, hc1, hc2, hIQ⟩ := HV.out.at_ (P := Tryz.prog) ulPs szPol .i64 i hlt
      rw [← HBW.out.cell (p := ⟨b2, o2, none⟩) hl2] at hc1
      rw [← HBW.out.cell (p := ⟨b2, o2 + 1, none⟩) hl2] at hc2
      have HIQ := Lib.hid hIQ
      have htk : (ps.take (i + 1)).map polL = (ps.take i).map polL ++ [polL ps[i]] := by rw [List.take_succ_eq_append_getElem hlt, List.map_append]; rfl
      have hmem := List.getElem_mem hlt
      have hltI : (i : Int) < ps.length := by omega
      have hll : ((ps.take i).map polL).length ≤ 10000 := by rw [List.length_map, List.length_take]; omega
      have HLL := Lib.hid hll
      have hszr : w1.heap.size ≤ wo.heap.size := hbel.size
      generalize ps[i] = p at *
      obtain ⟨s0, qs⟩ := p
      simp only at hc1 hc2 HIQ
      have HA := Lib.hid (HO1.out _ hmem)
      have HA2 := Lib.hid (HO2.out _ hmem)
      have HS2 := Lib.hid (HSQ.out _ hmem)
      have HS3 := Lib.hid (HSS.out _ hmem)
      have HS4 := Lib.hid (HSP.out _ hmem)
      have hqn := HQN.out _ hmem
      simp only at HA HA2 HS2 HS3 HS4 hqn
      have HTK := Lib.hid htk
      clear hbel htk hll hIQ hmem
      generalize polL (s0, qs) = pl at *
      generalize hLg : (ps.take i).map polL = LL at *
      have hqnI : (qs.length : Int) ≤ 10000 := by omega
      have hqlen := HIQ.out.len (P := Tryz.prog) ulQs
      have HGr := Lib.hid (HG.out.below HBW.out)
      go_wp2_with (((go_at_call 66); (with_reducible refine (HA.out _ (HGr.out.alloc _)).mono ?_); rintro e wa ⟨va, rfl, hoa, hbwa⟩; obtain ⟨Aa, ka, rfl⟩ := isB_slice hoa.isB; have JA := Blk.call (Blk.new wo 66 #[.string s0, .slice A2 qs.length k2]) hbwa; have qA := JA.q; have hba : Below wo.heap.size wo wa := ((Below.refl _ wo).alloc (Nat.le_refl _) _).trans (hbwa.mono (by simp)); have HBA := Lib.hid hba; have hla : wo.heap.size < wa.heap.size := JA.lt; have HPA := Lib.hid (OwP.lit1 (e := 32) hoa hbwa.size); clear hoa hba hbwa))
      have HJA := Lib.hid JA
      clear JA
      obtain ⟨w2, hw2⟩ : ∃ w2, wa.alloc (.cells #[.slice Aa (objL s0).length ka] 32) = w2 := ⟨_, rfl⟩
      have hba2 : Below wo.heap.size wo w2 := by rw [← hw2]; exact HBA.out.alloc HBA.out.size _
      have HBA2 := Lib.hid hba2
      have HPA2 : Hid (OwP w2 (wo.heap.size + 1) 32 (.slice (some ⟨wa.heap.size, 0, none⟩) 1 1) [objL s0]) := by rw [← hw2]; have := HPA.out; simp only [World.size_alloc] at this; exact this
      have hw2s : w2.heap.size = wa.heap.size + 1 := by rw [← hw2]; simp
      rw [hw2]
      have HIQ2 := Lib.hid (HIQ.out.below (HBW.out.trans (HBA2.out.mono HBW.out.size)))
      have HGW := Lib.hid (HGr.out.below HBA2.out)
      clear hw2 hba2 HPA HBA qA
      go_loopw [8, 27] (fun out ix wq => QmRel qs w2 out ix wq) (fun _ ix _ => qs.length + 1 - (intOf ix).toNat)
      case atStart => exact ⟨0, rfl, Nat.zero_le _, OwP.nil_ _ _ _, Below.refl _ _⟩
      case round =>
        obtain ⟨j, rfl, hj, howq, hbq⟩ := hrel
        have HOWQ := Lib.hid howq
        have HBQ := Lib.hid hbq
        clear howq
        by_cases hjl : j < qs.length
        · obtain ⟨b3, o3, A3, k3, hi3, hl3, hc3, hc4, hIB⟩ := (HIQ2.out.below hbq).at_ (P := Tryz.prog) ulQs szQual .i64 j hjl
          have HIB := Lib.hid hIB
          have hqm := List.getElem_mem hjl
          have htq : (qs.take (j + 1)).map quaL = (qs.take j).map quaL ++ [quaL qs[j]] := by rw [List.take_succ_eq_append_getElem hjl, List.map_append]; rfl
          have hjI : (j : Int) < qs.length := by omega
          have hlq : ((qs.take j).map quaL).length ≤ 10000 := by rw [List.length_map, List.length_take]; omega
          have hszq : w2.heap.size ≤ wr.heap.size := hbq.size
          generalize qs[j] = q at *
          obtain ⟨t0, l0⟩ := q
          simp only at hc3 hc4 HIB
          have HB := Lib.hid (HA2.out _ hqm)
          have HS := Lib.hid (HS2.out _ hqm)
          simp only at HB HS
          have HTQ := Lib.hid htq
          have HLQ := Lib.hid hlq
          clear hIB hqm htq hlq hbq
          generalize quaL (t0, l0) = ql at *
          generalize hLq : (qs.take j).map quaL = LQ at *
          have HGq := Lib.hid (HGW.out.below HBQ.out)
          go_wp2_with fail
          have HI := Lib.hid (Blk.drew (Blk.new wr 70 #[.string t0, .slice A3 l0.length k3]))
          have HG0 := Lib.hid (show Glo (wr.alloc (.cells #[.string t0, .slice A3 l0.length k3] 70)).drew from (HGq.out.alloc (.cells #[.string t0, .slice A3 l0.length k3] 70)).below (Below.refl _ _).drew)
          have HOW0 := Lib.hid (show OwP (wr.alloc (.cells #[.string t0, .slice A3 l0.length k3] 70)).drew w2.heap.size 32 _ LQ from HOWQ.out.alloc (.cells #[.string t0, .slice A3 l0.length k3] 70))
          have HB0 := Lib.hid (show Below w2.heap.size w2 (wr.alloc (.cells #[.string t0, .slice A3 l0.length k3] 70)).drew from (HBQ.out.alloc hszq _).drew)
          have HV0 := Lib.hid (show IsB (wr.alloc (.cells #[.string t0, .slice A3 l0.length k3] 70)).drew (.slice A3 l0.length k3) l0 from HIB.out.alloc (.cells #[.string t0, .slice A3 l0.length k3] 70))
          have hgn := HOWQ.out.notNew (Nat.le_refl _)
          go_region_held3 (fun W' => W'.cell? ⟨wr.heap.size, 0, none⟩ = some (.string t0) ∧ W'.cell? ⟨wr.heap.size, 1, none⟩ = some (.slice A3 l0.length k3))
            (first | go_keep | exact ⟨(JH.q 0).trans rfl, (JH.q 1).trans rfl⟩ | exact ⟨(JF.q 0).trans rfl, (JF.q 1).trans rfl⟩ | exact ⟨(JF.alloc _).q 0 |>.trans rfl, (JF.alloc _).q 1 |>.trans rfl⟩ | exact ⟨(JE.q 0).trans rfl, (JE.q 1).trans rfl⟩ | exact ⟨(JE.alloc _).q 0 |>.trans rfl, (JE.alloc _).q 1 |>.trans rfl⟩ | (trace_state; fail))
            (first
              | ((go_at_call 66); (with_reducible refine (HB.out _ HG0.out).mono ?_); rintro e we ⟨ve, rfl, hoe, hbwe⟩; obtain ⟨Ae, ke, rfl⟩ := isB_slice hoe.isB; have JE := Blk.call HI.out hbwe; have HBE := Lib.hid (HB0.out.trans (hbwe.mono HB0.out.size)); have HVE := Lib.hid hoe.isB; have HVV := Lib.hid (HV0.out.below hbwe); have HOWE := Lib.hid (HOW0.out.below hbwe); clear hoe)
              | ((go_at_call 47); (with_reducible refine (HS.out _ _ (isBs_two rfl HVE.out HVV.out)).mono ?_); rintro e wf ⟨vf, rfl, hof, hbwf⟩; obtain ⟨Af, kf, rfl⟩ := isB_slice hof.isB; have JF := Blk.call (JE.alloc _) hbwf; have HPF := Lib.hid (part_newP hof (HOWE.out.alloc _) (by have := HBE.out.size; simp; omega)); have HBF := Lib.hid ((HBE.out.alloc HBE.out.size _).trans (hbwf.mono (by have := HBE.out.size; simp; omega))); have HOWF := Lib.hid ((HOWE.out.alloc _).below hbwf); clear hof)
              | (rw [if_pos (by rfl)]; obtain ⟨vh, wh, hrh, hoh, hbh, hgh⟩ := run_appP (P := Tryz.prog) (wf.alloc (.cells #[.slice Af ql.length kf] 32)) w2.heap.size 28 28 32 ulBs infoBss _ LQ (HOWF.out.alloc _) _ (.slice Af ql.length kf) ql isR_one (HPF.out.alloc _) (by have := HLQ.out; omega) (by have := HBF.out.size; simp; omega); have JH := Blk.grown (JF.alloc (.cells #[.slice Af ql.length kf] 32)) hgh hgn; have HOH := Lib.hid hoh; have HBH := Lib.hid ((HBF.out.alloc HBF.out.size _).trans hbh); refine wp_appR _ _ _ _ rfl _ _ _ _ rfl rfl hrh ?_))
          go_wp2_with fail
          go_roundw
          case rel => exact ⟨j + 1, by go_num, by omega, by rw [HTQ.out]; exact HOH.out, HBH.out⟩
          case measure => simp [intOf]; omega
        · have hje : j = qs.length := by omega
          have hge : (qs.length : Int) ≤ j := by omega
          have howq := HOWQ.out
          rw [hje, List.take_length] at howq
          have HQO := Lib.hid howq
          obtain ⟨Aq, kq, hqe⟩ := howq.slice
          rw [List.length_map] at hqe
          subst hqe
          have HWQ := Lib.hid (HBA2.out.trans (hbq.mono HBA2.out.size))
          have HPQ := Lib.hid (HPA2.out.below hbq)
          clear howq hje hjl hj hbq
          by_cases hq0 : qs = []
          · subst hq0
            have HLS := Lib.hid (show [objL s0] = objL s0 :: (if ([] : List Qual) = [] then [] else [seqL (([] : List Qual).map quaL)]) by simp)
            have HPP := HPQ
            have HWP := HWQ
            go_wp2_with (first | ((go_at_call 47); (with_reducible refine (HS4.out _ _ _ HLS.out HPP.out.isBs).mono ?_); rintro e wd ⟨vd, rfl, hod, hbwd⟩; obtain ⟨Ad, kd, rfl⟩ := isB_slice hod.isB; have HWD := Lib.hid (HWP.out.trans (hbwd.mono HWP.out.size)); have HALL := Lib.hid (HOW.out.below HWP.out); have HPD := Lib.hid (part_newP hod HALL.out (by have := HWP.out.size; omega)); have HAD := Lib.hid (HALL.out.below hbwd); clear hod hbwd) | (at_builtin; refine wpList_appP _ rfl _ _ 28 rfl w1.heap.size 32 ulBs infoBss _ LL rfl (HAD.out.alloc _) _ (.slice Ad pl.length kd) pl rfl isR_one (HPD.out.alloc _) ?n2 ?b2 ?_))
            case n2 => have := HLL.out; omega
            case b2 => have := HWD.out.size; simp; omega
            intro v6 w6 ho6 hb6 _
            have HO6 := Lib.hid ho6
            have HB6 := Lib.hid ((HBR.out.trans ((HWD.out.alloc HWD.out.size (.cells #[.slice Ad pl.length kd] 32)).mono hszr)).trans hb6)
            clear ho6 hb6
            go_wp2
            go_roundw
            case rel => exact ⟨i + 1, by go_num, by omega, by rw [HTK.out]; exact HO6.out, HB6.out⟩
            case measure => simp [intOf]; omega
          · have hqp : 0 < qs.length := List.length_pos_iff.2 hq0
            have hqpI : (0 : Int) < qs.length := by omega
            have HS5 := Lib.hid (HS3.out hq0)
            have HLS := Lib.hid (show [objL s0] ++ [seqL (qs.map quaL)] = objL s0 :: (if qs = [] then [] else [seqL (qs.map quaL)]) by rw [if_neg hq0]; rfl)
            clear hq0
            generalize seqL (qs.map quaL) = ql at *
            go_wp2_with (first | ((go_at_call 47); (with_reducible refine (HS5.out _ _ HQO.out.isBs).mono ?_); rintro e wc ⟨vc, rfl, hoc, hbwc⟩; obtain ⟨Ac, kc, rfl⟩ := isB_slice hoc.isB; have HWC := Lib.hid (HWQ.out.trans (hbwc.mono HWQ.out.size)); have HPC := Lib.hid (part_newP hoc HPQ.out (by have := HBQ.out.size; have := HBA2.out.size; omega)); have HQC := Lib.hid (HPQ.out.below hbwc); clear hoc hbwc) | (at_builtin; refine wpList_appP _ rfl _ _ 28 rfl (wo.heap.size + 1) 32 ulBs infoBss _ [objL s0] rfl (HQC.out.alloc _) _ (.slice Ac ql.length kc) ql rfl isR_one (HPC.out.alloc _) ?n1 ?b1 ?_))
            case n1 => simp
            case b1 => have := HWC.out.size; simp; omega
            intro v5 w5 ho5 hb5 _
            have HPP := Lib.hid ho5
            have HWP := Lib.hid ((HWC.out.alloc HWC.out.size (.cells #[.slice Ac ql.length kc] 32)).trans (hb5.mono (Nat.le_succ _)))
            obtain ⟨A5, k5, hve⟩ := ho5.slice
            subst hve
            clear ho5 hb5
            go_wp2_with (first | ((go_at_call 47); (with_reducible refine (HS4.out _ _ _ HLS.out HPP.out.isBs).mono ?_); rintro e wd ⟨vd, rfl, hod, hbwd⟩; obtain ⟨Ad, kd, rfl⟩ := isB_slice hod.isB; have HWD := Lib.hid (HWP.out.trans (hbwd.mono HWP.out.size)); have HALL := Lib.hid (HOW.out.below HWP.out); have HPD := Lib.hid (part_newP hod HALL.out (by have := HWP.out.size; omega)); have HAD := Lib.hid (HALL.out.below hbwd); clear hod hbwd) | (at_builtin; refine wpList_appP _ rfl _ _ 28 rfl w1.heap.size 32 ulBs infoBss _ LL rfl (HAD.out.alloc _) _ (.slice Ad pl.length kd) pl rfl isR_one (HPD.out.alloc _) ?n2 ?b2 ?_))
            case n2 => have := HLL.out; omega
            case b2 => have := HWD.out.size; simp; omega
            intro v6 w6 ho6 hb6 _
            have HO6 := Lib.hid ho6
            have HB6 := Lib.hid ((HBR.out.trans ((HWD.out.alloc HWD.out.size (.cells #[.slice Ad pl.length kd] 32)).mono hszr)).trans hb6)
            clear ho6 hb6
            go_wp2
            go_roundw
            case rel => exact ⟨i + 1, by go_num, by omega, by rw [HTK.out]; exact HO6.out, HB6.out⟩
            case measure => simp [intOf]; omega
    · have hie : i = ps.length := by omega
      have how := HOW.out
      rw [hie, List.take_length] at how
      have HO := Lib.hid how
      have hge : (ps.length : Int) ≤ i := by omega
      obtain ⟨Ao, ko, hoe⟩ := how.slice
      rw [List.length_map] at hoe
      subst hoe
      clear how hie hlt hi hbel
      go_wp2_with (((go_at_call 48); (with_reducible refine (HEL.out _ _ HO.out.isBs).mono ?_); rintro e w9 ⟨v9, rfl, ho9, hbw9⟩; have HO9 := Lib.hid ho9; clear ho9))
      go_ret2
      have s1 := HB1.out.size; have s2 := HBR.out.size
      exact ⟨_, rfl, HO9.out.more (by omega), (HB1.out.trans (HBR.out.mono s1)).trans (hbw9.mono (by omega))⟩
end Go.Proofs.YtjjkimjdmpeddaaGreatDoor
end

/- Mappings: what is parsed is what would be marshalled, and what the reference parses. No program in sight. -/
section
set_option linter.unusedSimpArgs false
set_option linter.unusedVariables false
namespace Go.Proofs.YtjjkimjdmpeddaaGreatDoor
open Go.RowKit Go.Cr
theorem seqL_eq (ls : List (List UInt8)) : seqL ls = seqB ls := rfl
theorem bStr_data (s : ByteArray) : bStr s.data.toList = s := bStr_eq s
def rawM (x : List UInt8) : Mp := match eachL 2 2 x with
  | some [y0, y1] => (bStr ((idL y0).getD []), if (idL y0).isSome then bStr ((idL y1).getD []) else bStr [])
  | _ => (bStr [], bStr [])
def goodM (x : List UInt8) : Bool := match eachL 2 2 x with
  | some [y0, y1] => (idL y0).isSome && (idL y1).isSome
  | _ => false
/-! ### The reference's. -/
end Go.Proofs.YtjjkimjdmpeddaaGreatDoor
end

/- Policies: what is parsed is what would be marshalled, and what the reference parses. No program in sight. -/
section
set_option linter.unusedSimpArgs false
set_option linter.unusedVariables false
namespace Go.Proofs.YtjjkimjdmpeddaaGreatDoor
open Go.RowKit Go.Cr
def rawQ (x : List UInt8) : Qual := match eachL 2 2 x with
  | some [y0, y1] => (bStr ((idL y0).getD []), y1)
  | _ => (bStr [], [])
def goodQ (x : List UInt8) : Bool := match eachL 2 2 x with
  | some [y0, y1] => (idL y0).isSome && decide (treeOK 16 y1)
  | _ => false
def goodQs (y : List UInt8) : Bool := match eachL 1 2147483647 y with
  | none => false
  | some zs => zs.all goodQ
def rawQs (y : List UInt8) : List Qual := ((eachL 1 2147483647 y).getD []).map rawQ
def goodP (x : List UInt8) : Bool := match eachL 1 2 x with
  | some [y0] => (idL y0).isSome
  | some [y0, y1] => (idL y0).isSome && goodQs y1
  | _ => false
def rawP (x : List UInt8) : Pol := match eachL 1 2 x with
  | some [y0] => (bStr ((idL y0).getD []), [])
  | some [y0, y1] => (bStr ((idL y0).getD []), rawQs y1)
  | _ => (bStr [], [])
theorem map_id_of {α : Type} {f : α → α} {xs : List α} (h : ∀ x ∈ xs, f x = x) : xs.map f = xs := by
  conv => rhs; rw [← List.map_id xs]
  exact List.map_congr_left fun x hx => h x hx
theorem map_len {α : Type} {f : α → List UInt8} {ys : List α} {a : α} (h : a ∈ ys) : (f a).length < (seqL (ys.map f)).length := by
  have h1 := seqB_len (ys.map f)
  have h2 := mem_flat_len (List.mem_map.2 ⟨a, h, rfl⟩ : f a ∈ ys.map f)
  rw [seqL_eq]
  omega
/-! ### The reference's. -/
end Go.Proofs.YtjjkimjdmpeddaaGreatDoor
end

/- Walks over the reference's FewMappings and ValidMappings; over cretulabase.Mappings. -/
section
set_option linter.unusedSimpArgs false
set_option linter.unusedVariables false
namespace Go.Proofs.YtjjkimjdmpeddaaGreatDoor
open Go.RowKit Go.Cr
def szSum (ms : List Mp) : Nat := (ms.map fun m => m.1.size + m.2.size).sum
def FwM (ms : List Mp) : Prop := ms.length ≤ 10 ∧ szSum ms ≤ 1000
theorem szSum_mem {ms : List Mp} {m : Mp} (h : m ∈ ms) : m.1.size + m.2.size ≤ szSum ms := by
  induction ms with
  | nil => cases h
  | cons x t ih =>
    unfold szSum at ih ⊢
    simp only [List.map_cons, List.sum_cons]
    rcases List.mem_cons.1 h with rfl | h
    · omega
    · have := ih h; omega
theorem FwM.sz {ms : List Mp} (h : FwM ms) : SzM ms := ⟨by have := h.1; omega, fun m hm => by have := szSum_mem hm; have := h.2; omega⟩
end Go.Proofs.YtjjkimjdmpeddaaGreatDoor
end

/- Policies, qualifiers and mappings as rows of things. -/
section
set_option linter.unusedSimpArgs false
set_option linter.unusedVariables false
namespace Go.Cr
open Go.RowKit
theorem isQs_of {S : Nat → Prop} {w : World} {v : Value} {qs : List Qual} (h : IsL repA S w v qs) : IsQs w v qs := by
  obtain ⟨xs, h1, h2⟩ := h
  refine ⟨xs, h1.isR, fun j hj => ?_⟩
  obtain ⟨u, e, hu⟩ := h2.2 j hj
  exact ⟨u, e, hu.isR.bytes⟩
theorem isPs_of {S : Nat → Prop} {w : World} {v : Value} {ps : List Pol} (h : IsL (repS repA) S w v ps) : IsPs w v ps := by
  obtain ⟨xs, h1, h2⟩ := h
  refine ⟨xs, h1.isR, fun j hj => ?_⟩
  obtain ⟨u, e, hu⟩ := h2.2 j hj
  exact ⟨u, e, isQs_of hu⟩
end Go.Cr
end

/- Walks over the reference's MarshalMappings, ReadMappings and ParseMappings. -/
section
set_option linter.unusedSimpArgs false
set_option linter.unusedVariables false
namespace Go.Proofs.YtjjkimjdmpeddaaGreatDoor
open Go.RowKit Go.Cr
theorem rPutSeq (v : Value) (ls : List (List UInt8)) (w : World) (hv : IsBs w v ls) (hl : ls.flatten.length ≤ 900000) : Calls Tryz.prog 51 #[.int .u8 48, v] w (RetO 5 (seqL ls) w) := by
  have := rPuts 48 v ls w hv hl
  have e : (48 :: (lenOct ls.flatten.length ++ ls.flatten)) = seqL ls := by unfold seqL encO; rfl
  rwa [e] at this
end Go.Proofs.YtjjkimjdmpeddaaGreatDoor
end

/- Walks over policy.ParseMappings: its closures. -/
section
set_option linter.unusedSimpArgs false
set_option linter.unusedVariables false
namespace Go.Proofs.YtjjkimjdmpeddaaGreatDoor
open Go.RowKit Go.Cr
def GB (v : Value) (b : List UInt8) (w : World) : Prop := Glo w ∧ IsB w v b
theorem GB.below {v : Value} {b : List UInt8} {a w : World} (h : GB v b a) (hb : Below a.heap.size a w) : GB v b w := ⟨h.1.below hb, h.2.below hb⟩
theorem GB.old {B : Nat} {v : Value} {b : List UInt8} {w : World} (h : Old B (GB v b) w) : GB v b w := h.out fun _ _ h hb => h.below hb
end Go.Proofs.YtjjkimjdmpeddaaGreatDoor
end

/- Walks over policy.Parse: qualifier and its closure. -/
section
set_option linter.unusedSimpArgs false
set_option linter.unusedVariables false
namespace Go.Cr
open Go.RowKit
theorem IsB.set_ne {w : World} {v : Value} {l : List UInt8} (h : IsB w v l) {p : Addr} (hp : ∀ x, w.cell? p ≠ some (.int .u8 x)) (u : Value) : IsB (w.setCell p u) v l := by
  obtain ⟨A, c, rfl, h1, h2, h3⟩ := h
  refine ⟨A, c, rfl, h1, h2, fun hn => ?_⟩
  obtain ⟨b, off, rfl, hb, hc⟩ := h3 hn
  refine ⟨b, off, rfl, by simpa [World.setCell] using hb, fun j hj => ?_⟩
  rw [World.cell?_setCell_other w p ⟨b, off + j, none⟩ u (fun e => hp _ (by rw [e]; exact hc j hj))]
  exact hc j hj
end Go.Cr
namespace Go.Proofs.YtjjkimjdmpeddaaGreatDoor
open Go.RowKit Go.Cr
set_option maxRecDepth 100000 in
theorem fieldE (a b : Int) (W : World) : (Instr.field 38 (.agg #[.int .i64 a, .int .i64 b]) 0).run Tryz.prog W = .ok (.int .i64 a) W := by rfl
end Go.Proofs.YtjjkimjdmpeddaaGreatDoor
end

/- Walks over policy.ParseMappings: the outer closure and the function. -/
section
set_option linter.unusedSimpArgs false
set_option linter.unusedVariables false
namespace Go.Proofs.YtjjkimjdmpeddaaGreatDoor
open Go.RowKit Go.Cr
def TpM (t : TypeId) : Prop := t = 48 ∨ t = 68
def RetM3 (b : List UInt8) (g : Nat) (w : World) (e : Ending) (w' : World) : Prop :=
  ∃ (ec eo : Int) (vo : Value) (ms : List Mp), e = .returned (errV (ec, eo)) ∧ Blk w' g 48 #[vo] ∧ OwL repT (fun _ => True) w' (g + 1) 68 vo ms ∧ Far g TpM w.heap.size w w' ∧ (0 ≤ eo ∧ eo ≤ b.length) ∧
    ((ec = 0 ∧ eo = 0 ∧ ∃ ls, eachL 1 2147483647 b = some ls ∧ ls.all goodM = true ∧ ms = ls.map rawM) ∨ (0 < ec ∧ ∀ ls, eachL 1 2147483647 b = some ls → ls.all goodM = false))
def RetM3Y (g : Nat) (ms : List Mp) (w : World) (e : Ending) (w' : World) : Prop :=
  ∃ A k, e = .returned (errV (0, 0)) ∧ Blk w' g 48 #[.slice A ms.length k] ∧ OwL repT (fun _ => True) w' (g + 1) 68 (.slice A ms.length k) ms ∧ Far g TpM w.heap.size w w'
theorem RetM3.yes {b : List UInt8} {g : Nat} {w w' : World} {e : Ending} {ls : List (List UInt8)} (h : RetM3 b g w e w') (hls : eachL 1 2147483647 b = some ls) (hg : ls.all goodM = true) : RetM3Y g (ls.map rawM) w e w' := by
  obtain ⟨ec, eo, vo, ms, rfl, hk, ho, hf, _, ⟨h0, h0', ls', h1, h2, h3⟩ | ⟨_, h⟩⟩ := h
  · rw [hls] at h1
    injection h1 with h1
    subst h0 h0' h1 h3
    obtain ⟨A, k, rfl⟩ := ho.slice
    exact ⟨A, k, rfl, hk, ho, hf⟩
  · have := h ls hls
    rw [hg] at this
    cases this
end Go.Proofs.YtjjkimjdmpeddaaGreatDoor
end

/- Walks over policy.Parse: the outer closure and the function. -/
section
set_option linter.unusedSimpArgs false
set_option linter.unusedVariables false
namespace Go.Proofs.YtjjkimjdmpeddaaGreatDoor
open Go.RowKit Go.Cr
def TpP (t : TypeId) : Prop := t = 22 ∨ t = 66 ∨ t = 70
def RetP1x (b : List UInt8) (g : Nat) (w : World) (e : Ending) (w' : World) : Prop :=
  ∃ (ec eo : Int) (vo : Value) (ms : List Pol), e = .returned (errV (ec, eo)) ∧ Blk w' g 22 #[vo] ∧ OwL (repS repA) (fun _ => True) w' (g + 1) 66 vo ms ∧ Far g TpP w.heap.size w w' ∧ (0 ≤ eo ∧ eo ≤ b.length) ∧
    ((ec = 0 ∧ eo = 0 ∧ ∃ ls, eachL 1 2147483647 b = some ls ∧ ls.all goodP = true ∧ ms = ls.map rawP) ∨ (0 < ec ∧ ∀ ls, eachL 1 2147483647 b = some ls → ls.all goodP = false))
def RetPPs (r : Option (List Pol)) (L : Nat) (w : World) (e : Ending) (w' : World) : Prop := Below w.heap.size w w' ∧ match r with
  | none => ∃ ec eo : Int, 0 < ec ∧ 0 ≤ eo ∧ eo ≤ L ∧ e = .returned (.tuple #[.slice none 0 0, errV (ec, eo)])
  | some ms => ∃ A k, e = .returned (.tuple #[.slice A ms.length k, errV (0, 0)]) ∧ OwL (repS repA) (fun _ => True) w' w.heap.size 66 (.slice A ms.length k) ms
def RetP1y (g : Nat) (ms : List Pol) (w : World) (e : Ending) (w' : World) : Prop :=
  ∃ A k, e = .returned (errV (0, 0)) ∧ Blk w' g 22 #[.slice A ms.length k] ∧ OwL (repS repA) (fun _ => True) w' (g + 1) 66 (.slice A ms.length k) ms ∧ Far g TpP w.heap.size w w'
theorem RetP1x.yes {b : List UInt8} {g : Nat} {w w' : World} {e : Ending} {ls : List (List UInt8)} (h : RetP1x b g w e w') (hls : eachL 1 2147483647 b = some ls) (hg : ls.all goodP = true) : RetP1y g (ls.map rawP) w e w' := by
  obtain ⟨ec, eo, vo, ms, rfl, hk, ho, hf, _, ⟨h0, h0', ls', h1, h2, h3⟩ | ⟨_, h⟩⟩ := h
  · rw [hls] at h1
    injection h1 with h1
    subst h0 h0' h1 h3
    obtain ⟨A, k, rfl⟩ := ho.slice
    exact ⟨A, k, rfl, hk, ho, hf⟩
  · have := h ls hls
    rw [hg] at this
    cases this
end Go.Proofs.YtjjkimjdmpeddaaGreatDoor
end
