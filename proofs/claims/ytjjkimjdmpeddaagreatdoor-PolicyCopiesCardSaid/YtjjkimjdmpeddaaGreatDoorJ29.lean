/- The parts PolM, PolN, PolO, DecT, RefM, MapP, RepQ, RefN, PolP, RpB of one proof, one behind the other. -/
import Derived.Test.YtjjkimjdmpeddaaGreatDoorJ12
import Derived.Test.YtjjkimjdmpeddaaGreatDoorJ26
import Derived.Test.YtjjkimjdmpeddaaGreatDoorJ13
import Derived.Test.YtjjkimjdmpeddaaGreatDoorJ28
import Derived.Test.YtjjkimjdmpeddaaGreatDoorJ03
import Derived.Laws.EntriesVeiled
import Derived.Deep.RegionHeld3
import Derived.Test.YtjjkimjdmpeddaaGreatDoorJ20
import Derived.Test.YtjjkimjdmpeddaaGreatDoorJ07
import Derived.Deep.QuietTactic
import Derived.BigQuiet
import Derived.Test.YtjjkimjdmpeddaaGreatDoorJ04
import Derived.Test.YtjjkimjdmpeddaaGreatDoorJ14

/- Walks over policy: object, sequence, ValidMappings. -/
section
set_option linter.unusedSimpArgs false
set_option linter.unusedVariables false
namespace Go.Cr
open Go.RowKit
/-- An element OBJECT IDENTIFIER, a SEQUENCE. -/
def objL (s : ByteArray) : List UInt8 := encO 0 false 6 ((oidE s.data.toList).getD [])
def seqL (ls : List (List UInt8)) : List UInt8 := encO 0 true 16 ls.flatten
abbrev Mp := ByteArray × ByteArray
def otherS (s : ByteArray) : Bool := (arcsL s.data.toList).isSome && !decide (s = anyP)
def okM1 (m : Mp) : Bool := otherS m.1 && otherS m.2
def okM (ms : List Mp) : Bool := decide (0 < ms.length) && ms.all okM1
def mCells (ms : List Mp) : List Value := ms.flatMap fun m => [.string m.1, .string m.2]
theorem mCells_len (ms : List Mp) : (mCells ms).length = ms.length * 2 := by
  induction ms with
  | nil => rfl
  | cons m t ih => simp only [mCells, List.flatMap_cons, List.length_append, List.length_cons, List.length_nil]; unfold mCells at ih; omega
theorem mCells_at (ms : List Mp) (i : Nat) (h : i < ms.length) : (mCells ms)[i * 2 + 0]? = some (.string ms[i].1) ∧ (mCells ms)[i * 2 + 1]? = some (.string ms[i].2) := by
  induction ms generalizing i with
  | nil => simp at h
  | cons m t ih =>
    cases i with
    | zero => exact ⟨rfl, rfl⟩
    | succ i =>
      have := ih i (by simpa using h)
      have e : ∀ c, (mCells (m :: t))[(i + 1) * 2 + c]? = (mCells t)[i * 2 + c]? := fun c => by
        show ([Value.string m.1, .string m.2] ++ mCells t)[(i + 1) * 2 + c]? = _
        rw [List.getElem?_append_right (by simp; omega)]
        congr 1
        simp
        omega
      rw [e, e]
      exact this
/-- v reads as the mappings ms. -/
def IsMs (w : World) (v : Value) (ms : List Mp) : Prop := IsR w v 2 ms.length (mCells ms)
theorem IsMs.below {w w' : World} {v : Value} {ms : List Mp} (h : IsMs w v ms) (hb : Below w.heap.size w w') : IsMs w' v ms := IsR.below h hb
theorem IsMs.alloc {w : World} {v : Value} {ms : List Mp} (h : IsMs w v ms) (o : Obj) : IsMs (w.alloc o) v ms := IsR.alloc h o
theorem isMs_slice {w : World} {v : Value} {ms : List Mp} (h : IsMs w v ms) : ∃ A c, v = .slice A ms.length c := by obtain ⟨A, c, rfl, _⟩ := h; exact ⟨A, c, rfl⟩
section
variable {P : Program} {w : World} {v : Value} {t e : TypeId}
theorem IsMs.len {ms : List Mp} (h : IsMs w v ms) (ht : P.underlying t = some (.slice e)) : ∀ (ty : TypeId) (W : World), (Builtin.len_ #[t] ty #[v]).run P W = .ok (.int .i64 ms.length) W := IsR.len h ht
theorem IsMs.at_ {ms : List Mp} (h : IsMs w v ms) (ht : P.underlying t = some (.slice e)) (hs : ∀ W, (sizeOf e).run P W = .ok 2 W) (kd : IntKind) (i : Nat) (h1 : i < ms.length) :
    ∃ b o, (∀ W : World, (Instr.indexAt t v (.int kd (i : Int))).run P W = .ok (.pointer (some ⟨b, o, none⟩)) W) ∧ b < w.heap.size ∧ w.cell? ⟨b, o, none⟩ = some (.string ms[i].1) ∧ w.cell? ⟨b, o + 1, none⟩ = some (.string ms[i].2) := by
  obtain ⟨b, o, hi, hb, hc⟩ := IsR.at_ h ht hs kd (i := (i : Int)) (by omega) (by omega)
  have h2 := mCells_at ms i h1
  rw [Int.toNat_natCast] at hc
  exact ⟨b, o, hi, hb, by simpa using hc 0 _ h2.1, hc 1 _ h2.2⟩
end
/-- Not too great. -/
def SzM (ms : List Mp) : Prop := ms.length ≤ 10000 ∧ ∀ m ∈ ms, m.1.size ≤ 100000 ∧ m.2.size ≤ 100000
end Go.Cr
namespace Go.Proofs.YtjjkimjdmpeddaaGreatDoor
open Go.RowKit Go.Cr

set_option maxRecDepth 100000 in
set_option maxHeartbeats 4000000 in
theorem polObject (s : ByteArray) (w : World) (hG : Glo w) (hs : s.size ≤ 100000) : Calls Tryz.prog 66 #[.string s] w (RetO 5 (objL s) w) := by
  have HE := fun W (g : Glo W) => enc_any s W g (by omega)
  unfold objL
  have HG := Lib.hid hG
  cases ho : oidE s.data.toList with
  | none =>
    have HE' : Hid (∀ W, Glo W → Calls Tryz.prog 104 #[.string s] W (RetB (.tuple #[.slice none 0 0, .int .i64 8]) W)) := fun W g => (HE W g).mono fun e w' hh => by
      rw [ho] at hh
      obtain ⟨hb, ⟨_, he⟩ | ⟨c, v, h, _⟩⟩ := hh
      · exact ⟨he, hb⟩
      · cases h
    have HW1 : Hid (∀ W u, IsBs W u [([] : List UInt8)] → Calls Tryz.prog 45 #[.int .i64 0, .bool false, .int .i64 6, u] W (RetOK 5 (encO 0 false 6 []) W)) := fun W u h => by
      have := pWrap 0 6 false u [[]] W h (by simp)
      refine this.mono fun e w' hh => ?_
      unfold RetW at hh
      rw [if_pos (by decide)] at hh
      simpa using hh
    clear HE hG hs ho
    simp only [Option.getD_none]
    go_enter Tryz.func66, Tryz.ntmps66
    go_wp2_with (first | ((go_at_call 104); (with_reducible refine (HE'.out _ HG.out).mono ?_); rintro e w1 ⟨rfl, hbw1⟩) | ((go_at_call 45); (with_reducible refine (HW1.out _ _ (isBs_one (by simp) (IsB.none_ _))).mono ?_); rintro e w3 ⟨v3, rfl, ho3, hbw3⟩; have HO3 := Lib.hid ho3; clear ho3))
    go_ret
    have s1 := hbw1.size; have s3 := hbw3.size
    simp at s3
    exact ⟨_, rfl, HO3.out.more (by simp; omega), (hbw1.alloc hbw1.size _).trans (hbw3.mono (by simp; omega))⟩
  | some c =>
    have HE' : Hid (∀ W, Glo W → Calls Tryz.prog 104 #[.string s] W (RetOidY c W)) := fun W g => (HE W g).mono fun e w' hh => by rw [ho] at hh; exact hh.yes
    have hcl := oidE_len ho
    have hsl : s.data.toList.length = s.size := rfl
    have HW1 : Hid (∀ W u, IsBs W u [c] → Calls Tryz.prog 45 #[.int .i64 0, .bool false, .int .i64 6, u] W (RetOK 5 (encO 0 false 6 c) W)) := fun W u h => by
      have := pWrap 0 6 false u [c] W h (by simp; omega)
      refine this.mono fun e w' hh => ?_
      unfold RetW at hh
      rw [if_pos (by decide)] at hh
      simpa using hh
    clear HE hG hs ho hcl hsl
    simp only [Option.getD_some]
    go_enter Tryz.func66, Tryz.ntmps66
    go_wp2_with (first | ((go_at_call 104); (with_reducible refine (HE'.out _ HG.out).mono ?_); rintro e w1 ⟨v1, rfl, ho1, hbw1⟩; obtain ⟨A1, k1, rfl⟩ := isB_slice ho1.isB; have HV1 := Lib.hid ho1.isB; clear ho1) | ((go_at_call 45); (with_reducible refine (HW1.out _ _ (isBs_one (by simp) HV1.out)).mono ?_); rintro e w3 ⟨v3, rfl, ho3, hbw3⟩; have HO3 := Lib.hid ho3; clear ho3))
    go_ret
    have s1 := hbw1.size; have s3 := hbw3.size
    simp at s3
    exact ⟨_, rfl, HO3.out.more (by simp; omega), (hbw1.alloc hbw1.size _).trans (hbw3.mono (by simp; omega))⟩
set_option maxRecDepth 100000 in
set_option maxHeartbeats 4000000 in
theorem polSeq (v : Value) (ls : List (List UInt8)) (w : World) (hv : IsBs w v ls) (hl : ls.flatten.length ≤ 900000) : Calls Tryz.prog 47 #[v] w (RetO 5 (seqL ls) w) := by
  have HS : Hid (∀ W, IsBs W v ls → Calls Tryz.prog 48 #[v] W (RetOK 5 (seqL ls) W)) := fun W h => by
    refine (pSeq v ls W h hl).mono fun e w' hh => ?_
    unfold RetW at hh
    rw [if_pos (by decide)] at hh
    exact hh
  have HV := Lib.hid hv
  obtain ⟨A, c, rfl⟩ : ∃ A c, v = .slice A ls.length c := by obtain ⟨_, ⟨A, c, h, _⟩, _⟩ := hv; exact ⟨A, c, h⟩
  clear hv hl
  go_enter Tryz.func47, Tryz.ntmps47
  go_wp2_with (((go_at_call 48); (with_reducible refine (HS.out _ HV.out).mono ?_); rintro e w1 ⟨v1, rfl, ho1, hbw1⟩; have HO1 := Lib.hid ho1; clear ho1))
  go_ret
  exact ⟨_, rfl, HO1.out, hbw1⟩
set_option maxRecDepth 100000 in
set_option maxHeartbeats 4000000 in
theorem polOther (s : ByteArray) (w : World) (hG : Glo w) (hs : s.size ≤ 100000) : Calls Tryz.prog 68 #[.string s] w (RetB (.bool (otherS s)) w) := by
  have HO : Hid (∀ W, Glo W → Calls Tryz.prog 69 #[.string s] W (RetB (.bool (arcsL s.data.toList).isSome) W)) := fun W g => oidValid s W g (by omega)
  have HG := Lib.hid hG
  have ho : otherS s = ((arcsL s.data.toList).isSome && !decide (s = anyP)) := rfl
  rw [ho]
  clear ho hG hs
  generalize (arcsL s.data.toList).isSome = B at *
  by_cases h2 : s = anyP
  · have e2 : (s.toList == [50, 46, 53, 46, 50, 57, 46, 51, 50, 46, 48]) = true := by rw [h2, anyP_list]; rfl
    rw [decide_eq_true h2]
    clear h2
    cases B
    all_goals
      go_enter Tryz.func68, Tryz.ntmps68
      go_wp2_with (((go_at_call 69); (with_reducible refine (HO.out _ HG.out).mono ?_); rintro e w1 ⟨rfl, hbw1⟩))
      go_ret
      exact ⟨by first | rfl | simp [e2, bne], hbw1⟩
  · have e2 : (s.toList == [50, 46, 53, 46, 50, 57, 46, 51, 50, 46, 48]) = false := by rw [← anyP_list]; exact strNe0 h2
    rw [decide_eq_false h2]
    clear h2
    cases B
    all_goals
      go_enter Tryz.func68, Tryz.ntmps68
      go_wp2_with (((go_at_call 69); (with_reducible refine (HO.out _ HG.out).mono ?_); rintro e w1 ⟨rfl, hbw1⟩))
      go_ret
      exact ⟨by first | rfl | simp [e2, bne], hbw1⟩
set_option maxRecDepth 100000 in
set_option maxHeartbeats 4000000 in
theorem badM (a b : ByteArray) (g : Nat) (w : World) (hG : Glo w) (hg : Blk w g 96 #[.func (.func 68) #[] #[]]) (ha : a.size ≤ 100000) (hb : b.size ≤ 100000) : Calls Tryz.prog 71 #[.agg #[.string a, .string b], .pointer (some ⟨g, 0, none⟩)] w (RetB (.bool (!okM1 (a, b))) w) := by
  have e68 := enters_of Tryz.func68 (by kernel_rfl) rfl
  have HA : Hid (∀ W, Glo W → Calls Tryz.prog 68 #[.string a] W (RetB (.bool (otherS a)) W)) := fun W h => polOther a W h (by omega)
  have HB : Hid (∀ W, Glo W → Calls Tryz.prog 68 #[.string b] W (RetB (.bool (otherS b)) W)) := fun W h => polOther b W h (by omega)
  have ho : okM1 (a, b) = (otherS a && otherS b) := rfl
  rw [ho]
  have HG := Lib.hid hG
  have HGB := Lib.hid hg
  have q0 := hg.q
  have l0 := hg.lt
  clear hG hg ha hb ho
  generalize otherS a = B1 at *
  generalize otherS b = B2 at *
  cases B1
  · go_enter Tryz.func71, Tryz.ntmps71
    go_wp2_with (((go_at_call 68); (with_reducible refine (HA.out _ (HG.out.alloc _)).mono ?_); rintro e w1 ⟨rfl, hbw1⟩))
    go_ret
    exact ⟨rfl, by ((repeat' (first | (with_reducible exact Below.refl _ _) | (with_reducible assumption) | (with_reducible refine Below.setCell ?_ ?_ _) | (with_reducible refine Below.alloc ?_ ?_ _) | (with_reducible refine Below.drew ?_) | (with_reducible refine below_drewN ?_ _) | (with_reducible refine Below.step (by with_reducible assumption) ?_ ?_))) <;> (first | omega | (simp; done) | (simp; omega)))⟩
  · cases B2
    all_goals
      go_enter Tryz.func71, Tryz.ntmps71
      go_wp2_with (first | ((go_at_call 68); (with_reducible refine (HB.out w1 HG1.out).mono ?_); rintro e w2 ⟨rfl, hbw2⟩) | ((go_at_call 68); (with_reducible refine (HA.out _ (HG.out.alloc _)).mono ?_); rintro e w1 ⟨rfl, hbw1⟩; have HG1 := Lib.hid ((HG.out.alloc (.cells #[.string a, .string b] 68)).below hbw1); have I1 := Blk.call (Blk.new w 68 #[.string a, .string b]) hbw1; have q1 := I1.q; have J1 := Blk.call (HGB.out.alloc (.cells #[.string a, .string b] 68)) hbw1; have p1 := J1.q))
      go_ret
      have s1 := hbw1.size; have s2 := hbw2.size
      simp at s1
      have b1 : Below w.heap.size w w1 := ((Below.refl _ w).alloc (Nat.le_refl _) _).trans (hbw1.mono (by simp))
      exact ⟨rfl, b1.trans (hbw2.mono (by omega))⟩
theorem ulMs : Tryz.prog.underlying 48 = some (.slice 68) := by kernel_rfl
theorem szMp (W : World) : (sizeOf 68).run Tryz.prog W = .ok 2 W := by kernel_rfl
set_option maxRecDepth 100000 in
set_option maxHeartbeats 4000000 in
theorem idxM (v : Value) (ms : List Mp) (g : Nat) (w : World) (hG : Glo w) (hg : Blk w g 96 #[.func (.func 68) #[] #[]]) (hv : IsMs w v ms) (hz : SzM ms) :
    Calls Tryz.prog 107 #[v, .func (.func 71) #[] #[.pointer (some ⟨g, 0, none⟩)]] w (RetIx (!ms.all okM1) w) := by
  have hlen := hv.len (P := Tryz.prog) ulMs
  have e71 := enters_of Tryz.func71 (by kernel_rfl) rfl
  have HB : Hid (∀ (j : Nat) (hj : j < ms.length) W, Glo W → Blk W g 96 #[.func (.func 68) #[] #[]] → Calls Tryz.prog 71 #[.agg #[.string ms[j].1, .string ms[j].2], .pointer (some ⟨g, 0, none⟩)] W (RetB (.bool (!okM1 ms[j])) W)) := fun j hj W h1 h2 => badM ms[j].1 ms[j].2 g W h1 h2 (hz.2 _ (List.getElem_mem hj)).1 (hz.2 _ (List.getElem_mem hj)).2
  have HG := Lib.hid hG
  have HGB := Lib.hid hg
  have HV := Lib.hid hv
  obtain ⟨A, c, rfl⟩ := isMs_slice hv
  obtain ⟨B, hB⟩ : ∃ B, (!ms.all okM1) = B := ⟨_, rfl⟩
  rw [hB]
  have HBB := Lib.hid hB
  have hnI : (ms.length : Int) ≤ 10000 := by have := hz.1; omega
  clear hG hg hv hz hB
  go_enter Tryz.func107, Tryz.ntmps107
  go_wp2_with fail
  go_loopw [8] (fun ix wr => IxRel (fun j => okM1 (ms.getD j default)) ms.length w ix wr) (fun ix _ => ms.length + 1 - (intOf ix).toNat)
  case atStart => exact ⟨0, rfl, Nat.zero_le _, fun j h => by omega, Below.refl _ _⟩
  case round =>
    obtain ⟨i, rfl, hi, hall, hbel⟩ := hrel
    have HALL := Lib.hid hall
    have HBR := Lib.hid hbel
    clear hall
    by_cases hlt : i < ms.length
    · obtain ⟨b2, o2, hi2, hl2, hc1, hc2⟩ := (HV.out.below hbel).at_ (P := Tryz.prog) ulMs szMp .i64 i hlt
      have HC := Lib.hid (HB.out i hlt)
      have hgd : ms.getD i default = ms[i] := by simp [hlt]
      have hltI : (i : Int) < ms.length := by omega
      obtain ⟨C, hC⟩ : ∃ C, okM1 ms[i] = C := ⟨_, rfl⟩
      rw [hC] at HC
      have HCC := Lib.hid hC
      have HGD := Lib.hid hgd
      have HGBr := Lib.hid (HGB.out.call hbel)
      clear hC hgd
      obtain ⟨s0, hs0⟩ : ∃ s0, ms[i].1 = s0 := ⟨_, rfl⟩
      obtain ⟨s1, hs1⟩ : ∃ s1, ms[i].2 = s1 := ⟨_, rfl⟩
      rw [hs0] at hc1 HC
      rw [hs1] at hc2 HC
      clear hs0 hs1
      cases C with
      | true =>
        go_wp2_with (((go_at_call 71); (with_reducible refine (HC.out _ (HG.out.below HBR.out) HGBr.out).mono ?_); rintro e w3 ⟨rfl, hbw3⟩; have HB3 := Lib.hid (HBR.out.trans (hbw3.mono HBR.out.size)); clear hbw3))
        go_roundw
        case rel =>
          refine ⟨i + 1, by go_num, by omega, fun j hj => ?_, HB3.out⟩
          by_cases hji : j < i
          · exact HALL.out j hji
          · obtain rfl : j = i := by omega
            show okM1 (ms.getD j default) = true
            rw [HGD.out]; exact HCC.out
        case measure => simp [intOf]; omega
      | false =>
        have hBt : B = true := by
          rw [← HBB.out]
          cases ha : ms.all okM1 with
          | false => rfl
          | true =>
            have := List.all_eq_true.1 ha ms[i] (List.getElem_mem hlt)
            rw [HCC.out] at this
            cases this
        have HBT := Lib.hid hBt
        clear hBt
        go_wp2_with (((go_at_call 71); (with_reducible refine (HC.out _ (HG.out.below HBR.out) HGBr.out).mono ?_); rintro e w3 ⟨rfl, hbw3⟩; have HB3 := Lib.hid (HBR.out.trans (hbw3.mono HBR.out.size)); clear hbw3))
        go_ret
        exact ⟨_, rfl, by rw [HBT.out]; exact decide_eq_true (by omega), HB3.out⟩
    · have hBf : B = false := by
        rw [← HBB.out]
        have : ms.all okM1 = true := (all_getD okM1 ms).1 (fun j hj => HALL.out j (by omega))
        rw [this]; rfl
      have HBF := Lib.hid hBf
      have hge : (ms.length : Int) ≤ i := by omega
      clear hlt hi hBf hbel
      go_wp2_with fail
      go_ret
      exact ⟨_, rfl, by rw [HBF.out]; rfl, HBR.out⟩
set_option maxRecDepth 100000 in
set_option maxHeartbeats 4000000 in
theorem anyM (v : Value) (ms : List Mp) (g : Nat) (w : World) (hG : Glo w) (hg : Blk w g 96 #[.func (.func 68) #[] #[]]) (hv : IsMs w v ms) (hz : SzM ms) :
    Calls Tryz.prog 70 #[v, .func (.func 71) #[] #[.pointer (some ⟨g, 0, none⟩)]] w (RetB (.bool (!ms.all okM1)) w) := by
  have HI := Lib.hid (idxM v ms g w hG hg hv hz)
  obtain ⟨A, c, rfl⟩ := isMs_slice hv
  clear hG hg hv hz
  generalize (!ms.all okM1) = B at *
  go_enter Tryz.func70, Tryz.ntmps70
  go_wp2_with (((go_at_call 107); (with_reducible refine (HI.out).mono ?_); rintro e w1 ⟨r, rfl, hr, hbw1⟩))
  go_ret
  exact ⟨by (first | rw [← hr]; rfl | simp [hr]), hbw1⟩
set_option maxRecDepth 100000 in
set_option maxHeartbeats 4000000 in
theorem polValidM (v : Value) (ms : List Mp) (w : World) (hG : Glo w) (hv : IsMs w v ms) (hz : SzM ms) : Calls Tryz.prog 31 #[v] w (RetB (.bool (okM ms)) w) := by
  have hlen := hv.len (P := Tryz.prog) ulMs
  have HA : Hid (∀ g W, Glo W → Blk W g 96 #[.func (.func 68) #[] #[]] → IsMs W v ms → Calls Tryz.prog 70 #[v, .func (.func 71) #[] #[.pointer (some ⟨g, 0, none⟩)]] W (RetB (.bool (!ms.all okM1)) W)) := fun g W h1 h2 h3 => anyM v ms g W h1 h2 h3 hz
  have HG := Lib.hid hG
  have HV := Lib.hid hv
  have ho : okM ms = (decide (0 < ms.length) && ms.all okM1) := rfl
  rw [ho]
  obtain ⟨A, c, rfl⟩ := isMs_slice hv
  have hnI : (ms.length : Int) ≤ 10000 := by have := hz.1; omega
  clear hG hv hz ho
  by_cases hn : 0 < ms.length
  · have hd : decide (0 < ms.length) = true := decide_eq_true hn
    have hd2 : (0 : Int) < ms.length := by omega
    rw [hd]
    generalize ms.all okM1 = B at *
    cases B
    all_goals
      go_enter Tryz.func31, Tryz.ntmps31
      go_wp2_with (((go_at_call 70); (with_reducible refine (HA.out _ _ (HG.out.alloc _) (Blk.new _ _ _) (HV.out.alloc _)).mono ?_); rintro e w1 ⟨rfl, hbw1⟩))
      go_ret
      exact ⟨rfl, by ((repeat' (first | (with_reducible exact Below.refl _ _) | (with_reducible assumption) | (with_reducible refine Below.setCell ?_ ?_ _) | (with_reducible refine Below.alloc ?_ ?_ _) | (with_reducible refine Below.drew ?_) | (with_reducible refine below_drewN ?_ _) | (with_reducible refine Below.step (by with_reducible assumption) ?_ ?_))) <;> (first | omega | (simp; done) | (simp; omega)))⟩
  · have hd : decide (0 < ms.length) = false := decide_eq_false hn
    rw [hd]
    go_enter Tryz.func31, Tryz.ntmps31
    go_wp2_with fail
    go_ret
    exact ⟨rfl, by ((repeat' (first | (with_reducible exact Below.refl _ _) | (with_reducible assumption) | (with_reducible refine Below.setCell ?_ ?_ _) | (with_reducible refine Below.alloc ?_ ?_ _) | (with_reducible refine Below.drew ?_) | (with_reducible refine below_drewN ?_ _) | (with_reducible refine Below.step (by with_reducible assumption) ?_ ?_))) <;> (first | omega | (simp; done) | (simp; omega)))⟩
end Go.Proofs.YtjjkimjdmpeddaaGreatDoor
end

/- Walk over policy.MarshalMappings. -/
section
set_option linter.unusedSimpArgs false
set_option linter.unusedVariables false
namespace Go.Cr
open Go.RowKit
def parM (m : Mp) : List UInt8 := seqL [objL m.1, objL m.2]
/-- What MarshalMappings writes. -/
def marM (ms : List Mp) : Option (List UInt8) := if okM ms then some (seqL (ms.map parM)) else none
theorem part_newP {w W : World} {base : Nat} {t e : TypeId} {u v : Value} {l : List UInt8} {ls : List (List UInt8)} (h : OwB w W.heap.size t u l) (hv : OwP W base e v ls) (hb : base ≤ W.heap.size) : IsRS (But base v.ownBlock) w u 1 l.length (bCells l) := by
  obtain ⟨xs, h1, _⟩ := hv
  exact part_new h hb h1
theorem IsRS.below {S : Nat → Prop} {w w' : World} {v : Value} {k n : Nat} {xs : List Value} (h : IsRS S w v k n xs) (hb : Below w.heap.size w w') : IsRS S w' v k n xs := h.keep hb.size fun b hlt _ => hb.block b hlt
theorem IsRS.alloc {S : Nat → Prop} {w : World} {v : Value} {k n : Nat} {xs : List Value} (h : IsRS S w v k n xs) (o : Obj) : IsRS S (w.alloc o) v k n xs := h.below ((Below.refl _ _).alloc (Nat.le_refl _) o)
theorem OwP.notNew {w : World} {base : Nat} {e : TypeId} {v : Value} {ls : List (List UInt8)} (h : OwP w base e v ls) {g : Nat} (hg : w.heap.size ≤ g) : some g ≠ v.ownBlock := by
  obtain ⟨xs, h1, _⟩ := h
  intro he
  have := (h1.lt _ he.symm).2
  omega
theorem isR_one {w : World} {t : TypeId} {u : Value} : IsR (w.alloc (.cells #[u] t)) (.slice (some ⟨w.heap.size, 0, none⟩) 1 1) 1 1 [u] :=
  ⟨_, 1, rfl, Nat.le_refl _, by decide, rfl, fun _ => ⟨w.heap.size, 0, rfl, by simp, fun j x hj => by rw [Nat.zero_add, World.cell?_alloc_new]; simpa using hj⟩⟩
theorem flat_part {α : Type} (f : α → List UInt8) {ms : List α} {m : α} (h : m ∈ ms) : (f m).length ≤ (ms.map f).flatten.length := by
  induction ms with
  | nil => cases h
  | cons x t ih =>
    simp only [List.map_cons, List.flatten_cons, List.length_append]
    rcases List.mem_cons.1 h with rfl | h
    · omega
    · have := ih h; omega
theorem seqL_len (ls : List (List UInt8)) : ls.flatten.length ≤ (seqL ls).length := by
  have := encO_len 0 16 true ls.flatten
  unfold seqL
  omega
end Go.Cr
namespace Go.Proofs.YtjjkimjdmpeddaaGreatDoor
open Go.RowKit Go.Cr

theorem infoBss : (Tryz.prog.info? 32).map (fun i => (i.zero, i.size, i.bytes)) = some (some (.slice none 0 0), 1, 24) := by kernel_rfl
def MmRel (ms : List Mp) (w : World) (out ix : Value) (wr : World) : Prop := ∃ i : Nat, ix = .int .i64 (i : Int) ∧ i ≤ ms.length ∧ OwP wr w.heap.size 32 out ((ms.take i).map parM) ∧ Below w.heap.size w wr
set_option maxRecDepth 100000 in
set_option maxHeartbeats 4000000 in
theorem polMarM_no (v : Value) (ms : List Mp) (w : World) (hG : Glo w) (hv : IsMs w v ms) (hz : SzM ms) (ho : okM ms = false) : Calls Tryz.prog 29 #[v] w (RetB (.tuple #[.slice none 0 0, .int .i64 8]) w) := by
  have HV0 : Hid (Calls Tryz.prog 31 #[v] w (RetB (.bool false) w)) := by have := polValidM v ms w hG hv hz; rw [ho] at this; exact this
  obtain ⟨A, c, rfl⟩ := isMs_slice hv
  clear hG hv hz ho
  go_enter Tryz.func29, Tryz.ntmps29
  go_wp2_with (((go_at_call 31); (with_reducible refine (HV0.out).mono ?_); rintro e w1 ⟨rfl, hbw1⟩))
  go_ret2
  exact ⟨rfl, hbw1⟩
set_option maxRecDepth 100000 in
set_option maxHeartbeats 8000000 in
theorem polMarM_yes (v : Value) (ms : List Mp) (w : World) (hG : Glo w) (hv : IsMs w v ms) (hz : SzM ms) (hT : (ms.map parM).flatten.length ≤ 900000) (ho : okM ms = true) : Calls Tryz.prog 29 #[v] w (RetOidY (seqL (ms.map parM)) w) := by
  have HV0 : Hid (Calls Tryz.prog 31 #[v] w (RetB (.bool true) w)) := by have := polValidM v ms w hG hv hz; rw [ho] at this; exact this
  have hlen := hv.len (P := Tryz.prog) ulMs
  have HO1 : Hid (∀ (i : Nat) (h : i < ms.length) W, Glo W → Calls Tryz.prog 66 #[.string ms[i].1] W (RetO 5 (objL ms[i].1) W)) := fun i h W g => polObject _ W g (hz.2 _ (List.getElem_mem h)).1
  have HO2 : Hid (∀ (i : Nat) (h : i < ms.length) W, Glo W → Calls Tryz.prog 66 #[.string ms[i].2] W (RetO 5 (objL ms[i].2) W)) := fun i h W g => polObject _ W g (hz.2 _ (List.getElem_mem h)).2
  have HSQ : Hid (∀ (i : Nat) (h : i < ms.length) u W, IsBs W u [objL ms[i].1, objL ms[i].2] → Calls Tryz.prog 47 #[u] W (RetO 5 (parM ms[i]) W)) := fun i h u W hu => polSeq u _ W hu (by
    have h1 := flat_part parM (List.getElem_mem h)
    have h2 := seqL_len [objL ms[i].1, objL ms[i].2]
    have h0 : parM ms[i] = seqL [objL ms[i].1, objL ms[i].2] := rfl
    rw [h0] at h1
    omega)
  have HEL : Hid (∀ u W, IsBs W u (ms.map parM) → Calls Tryz.prog 48 #[u] W (RetOK 5 (seqL (ms.map parM)) W)) := fun u W h => by
    refine (pSeq u _ W h hT).mono fun e w' hh => ?_
    unfold RetW at hh
    rw [if_pos (by decide)] at hh
    exact hh
  have HG := Lib.hid hG
  have HV := Lib.hid hv
  obtain ⟨A, c, rfl⟩ := isMs_slice hv
  have hnI : (ms.length : Int) ≤ 10000 := by have := hz.1; omega
  obtain ⟨R, hR⟩ : ∃ R, seqL (ms.map parM) = R := ⟨_, rfl⟩
  rw [hR] at HEL ⊢
  clear hG hv hz hT ho hR
  go_enter Tryz.func29, Tryz.ntmps29
  go_wp2_with (((go_at_call 31); (with_reducible refine (HV0.out).mono ?_); rintro e w1 ⟨rfl, hbw1⟩; have HB1 := Lib.hid hbw1; clear hbw1))
  go_loopw [4, 12] (fun out ix wr => MmRel ms w1 out ix wr) (fun _ ix _ => ms.length + 1 - (intOf ix).toNat)
  case atStart => exact ⟨0, rfl, Nat.zero_le _, OwP.nil_ _ _ _, Below.refl _ _⟩
  case round =>
    obtain ⟨i, rfl, hi, how, hbel⟩ := hrel
    have HOW := Lib.hid how
    have HBR := Lib.hid hbel
    clear how
    by_cases hlt : i < ms.length
    · obtain ⟨b2, o2, hi2, hl2, hc1, hc2⟩ := ((HV.out.below HB1.out).below hbel).at_ (P := Tryz.prog) ulMs szMp .i64 i hlt
      have HA := Lib.hid (HO1.out i hlt)
      have HB := Lib.hid (HO2.out i hlt)
      have HS := Lib.hid (HSQ.out i hlt)
      have htk : (ms.take (i + 1)).map parM = (ms.take i).map parM ++ [parM ms[i]] := by rw [List.take_succ_eq_append_getElem hlt, List.map_append]; rfl
      have HTK := Lib.hid htk
      have hltI : (i : Int) < ms.length := by omega
      have hll : ((ms.take i).map parM).length ≤ 10000 := by rw [List.length_map, List.length_take]; omega
      have HLL := Lib.hid hll
      have hszr : w1.heap.size ≤ wr.heap.size := hbel.size
      clear hbel htk hll
      obtain ⟨s0, hs0⟩ : ∃ s0, ms[i].1 = s0 := ⟨_, rfl⟩
      obtain ⟨s1, hs1⟩ : ∃ s1, ms[i].2 = s1 := ⟨_, rfl⟩
      rw [hs0] at hc1 HA HS
      rw [hs1] at hc2 HB HS
      clear hs0 hs1
      generalize parM ms[i] = pl at *
      generalize hLg : (ms.take i).map parM = LL at *
      have HGr := Lib.hid ((HG.out.below HB1.out).below HBR.out)
      go_wp2_with fail
      have HI := Lib.hid (Blk.drew (Blk.new wr 68 #[.string s0, .string s1]))
      have HG0 := Lib.hid (show Glo (wr.alloc (.cells #[.string s0, .string s1] 68)).drew from (HGr.out.alloc (.cells #[.string s0, .string s1] 68)).below (Below.refl _ _).drew)
      have HOW0 := Lib.hid (show OwP (wr.alloc (.cells #[.string s0, .string s1] 68)).drew w1.heap.size 32 _ LL from HOW.out.alloc (.cells #[.string s0, .string s1] 68))
      have HB0 := Lib.hid (show Below w1.heap.size w1 (wr.alloc (.cells #[.string s0, .string s1] 68)).drew from (HBR.out.alloc hszr _).drew)
      have hgn := HOW.out.notNew (Nat.le_refl _)
      have hszr0 : wr.heap.size + 1 = (wr.alloc (.cells #[.string s0, .string s1] 68)).drew.heap.size := by simp
      go_region_held3 (fun W' => W'.cell? ⟨wr.heap.size, 0, none⟩ = some (.string s0) ∧ W'.cell? ⟨wr.heap.size, 1, none⟩ = some (.string s1))
        (first | go_keep | exact ⟨(JD.q 0).trans rfl, (JD.q 1).trans rfl⟩ | exact ⟨(JC.q 0).trans rfl, (JC.q 1).trans rfl⟩ | exact ⟨(JC.alloc _).q 0 |>.trans rfl, (JC.alloc _).q 1 |>.trans rfl⟩ | exact ⟨(JB.q 0).trans rfl, (JB.q 1).trans rfl⟩ | exact ⟨(JB.alloc _).q 0 |>.trans rfl, (JB.alloc _).q 1 |>.trans rfl⟩ | exact ⟨(JA.q 0).trans rfl, (JA.q 1).trans rfl⟩ | (trace_state; fail))
        (first
          | ((go_at_call 66); (with_reducible refine (HB.out wa HGa.out).mono ?_); rintro e wb ⟨vb, rfl, hob, hbwb⟩; obtain ⟨Ab, kb, rfl⟩ := isB_slice hob.isB; have JB := Blk.call JA hbwb; have HBB := Lib.hid (HBA.out.trans (hbwb.mono HBA.out.size)); have HVA2 := Lib.hid (HVA.out.below hbwb); have HVB2 := Lib.hid hob.isB; have HOWB := Lib.hid (HOWA.out.below hbwb); clear hob)
          | ((go_at_call 66); (with_reducible refine (HA.out wa HGa.out).mono ?_); rintro e wb ⟨vb, rfl, hob, hbwb⟩; obtain ⟨Ab, kb, rfl⟩ := isB_slice hob.isB; have JB := Blk.call JA hbwb; have HBB := Lib.hid (HBA.out.trans (hbwb.mono HBA.out.size)); have HVB2 := Lib.hid (HVB.out.below hbwb); have HVA2 := Lib.hid hob.isB; have HOWB := Lib.hid (HOWA.out.below hbwb); clear hob)
          | ((go_at_call 66); (with_reducible refine (HA.out _ HG0.out).mono ?_); rintro e wa ⟨va, rfl, hoa, hbwa⟩; obtain ⟨Aa, ka, rfl⟩ := isB_slice hoa.isB; have JA := Blk.call HI.out hbwa; have HBA := Lib.hid (HB0.out.trans (hbwa.mono HB0.out.size)); have HGa := Lib.hid (HG0.out.below hbwa); have HVA := Lib.hid hoa.isB; have HOWA := Lib.hid (HOW0.out.below hbwa); clear hoa)
          | ((go_at_call 66); (with_reducible refine (HB.out _ HG0.out).mono ?_); rintro e wa ⟨va, rfl, hoa, hbwa⟩; obtain ⟨Aa, ka, rfl⟩ := isB_slice hoa.isB; have JA := Blk.call HI.out hbwa; have HBA := Lib.hid (HB0.out.trans (hbwa.mono HB0.out.size)); have HGa := Lib.hid (HG0.out.below hbwa); have HVB := Lib.hid hoa.isB; have HOWA := Lib.hid (HOW0.out.below hbwa); clear hoa)
          | ((go_at_call 47); (with_reducible refine (HS.out _ _ (isBs_two rfl HVA2.out HVB2.out)).mono ?_); rintro e wc ⟨vc, rfl, hoc, hbwc⟩; obtain ⟨Ac, kc, rfl⟩ := isB_slice hoc.isB; have JC := Blk.call (JB.alloc _) hbwc; have HPC := Lib.hid (part_newP hoc (HOWB.out.alloc _) (by have := HBB.out.size; simp; omega)); have HBC := Lib.hid ((HBB.out.alloc HBB.out.size _).trans (hbwc.mono (by have := HBB.out.size; simp; omega))); have HOWC := Lib.hid ((HOWB.out.alloc _).below hbwc); clear hoc)
          | (rw [if_pos (by rfl)]; obtain ⟨vd, wd, hrd, hod, hbd, hgd⟩ := run_appP (P := Tryz.prog) (wc.alloc (.cells #[.slice Ac pl.length kc] 32)) w1.heap.size 28 28 32 ulBs infoBss _ LL (HOWC.out.alloc _) _ (.slice Ac pl.length kc) pl isR_one (HPC.out.alloc _) (by have := HLL.out; omega) (by have := HBC.out.size; simp; omega); have JD := Blk.grown (JC.alloc (.cells #[.slice Ac pl.length kc] 32)) hgd hgn; have HOD := Lib.hid hod; have HBD := Lib.hid ((HBC.out.alloc HBC.out.size _).trans hbd); refine wp_appR _ _ _ _ rfl _ _ _ _ rfl rfl hrd ?_))
      all_goals
        go_wp2_with fail
        go_roundw
        case rel => exact ⟨i + 1, by go_num, by omega, by rw [HTK.out]; exact HOD.out, HBD.out⟩
        case measure => simp [intOf]; omega
    · have hie : i = ms.length := by omega
      have how := HOW.out
      rw [hie, List.take_length] at how
      have HO := Lib.hid how
      have hge : (ms.length : Int) ≤ i := by omega
      obtain ⟨Ao, ko, hoe⟩ := how.slice
      rw [List.length_map] at hoe
      subst hoe
      clear how hie hlt hi hbel
      go_wp2_with (((go_at_call 48); (with_reducible refine (HEL.out _ _ HO.out.isBs).mono ?_); rintro e w9 ⟨v9, rfl, ho9, hbw9⟩; have HO9 := Lib.hid ho9; clear ho9))
      go_ret2
      have s1 := HB1.out.size; have s2 := HBR.out.size
      exact ⟨_, rfl, HO9.out.more (by omega), (HB1.out.trans (HBR.out.mono s1)).trans (hbw9.mono (by omega))⟩
end Go.Proofs.YtjjkimjdmpeddaaGreatDoor
end

/- Walk over policy.Marshal. -/
section
set_option linter.unusedSimpArgs false
set_option linter.unusedVariables false
namespace Go.Cr
open Go.RowKit
def quaL (q : Qual) : List UInt8 := seqL [objL q.1, q.2]
def polL (p : Pol) : List UInt8 := seqL (objL p.1 :: (if p.2 = [] then [] else [seqL (p.2.map quaL)]))
/-- What Marshal writes. -/
def marP (ps : List Pol) : Option (List UInt8) := if okP ps then some (seqL (ps.map polL)) else none
theorem OwP.lit1 {w : World} {base : Nat} {t e : TypeId} {u : Value} {l : List UInt8} (h : OwB w base t u l) (hb : base ≤ w.heap.size) : OwP (w.alloc (.cells #[u] e)) base e (.slice (some ⟨w.heap.size, 0, none⟩) 1 1) [l] := by
  refine ⟨[u], ?_, rfl, fun j hj => ?_⟩
  · have := World.ownsRow_lit (base := base) (e := e) (size := 1) w #[u] 1 hb (by decide) rfl
    exact this
  · have hj0 : j = 0 := by simpa using hj
    subst hj0
    have h1 : IsRS (fun b => base ≤ b ∧ b < w.heap.size) w u 1 l.length (bCells l) := (IsRS.of_own h).weak fun b hlt hS => ⟨hS, hlt⟩
    refine (h1.alloc _).weak fun b _ hS => ⟨hS.1, fun he => ?_⟩
    have e1 : (Value.slice (some ⟨w.heap.size, 0, none⟩) 1 1).ownBlock = some w.heap.size := rfl
    rw [e1] at he
    injection he with he
    omega
theorem flat_app_len (a : List UInt8) (t : List (List UInt8)) : a.length ≤ (a :: t).flatten.length := by simp
end Go.Cr
namespace Go.Proofs.YtjjkimjdmpeddaaGreatDoor
open Go.RowKit Go.Cr

def PmRel (ps : List Pol) (w : World) (out ix : Value) (wr : World) : Prop := ∃ i : Nat, ix = .int .i64 (i : Int) ∧ i ≤ ps.length ∧ OwP wr w.heap.size 32 out ((ps.take i).map polL) ∧ Below w.heap.size w wr
def QmRel (qs : List Qual) (w : World) (out ix : Value) (wr : World) : Prop := ∃ j : Nat, ix = .int .i64 (j : Int) ∧ j ≤ qs.length ∧ OwP wr w.heap.size 32 out ((qs.take j).map quaL) ∧ Below w.heap.size w wr
set_option maxRecDepth 100000 in
set_option maxHeartbeats 4000000 in
theorem polMar_no (v : Value) (ps : List Pol) (w : World) (hG : Glo w) (hv : IsPs w v ps) (hz : SzP ps) (ho : okP ps = false) : Calls Tryz.prog 36 #[v] w (RetB (.tuple #[.slice none 0 0, .int .i64 8]) w) := by
  have HV0 : Hid (Calls Tryz.prog 38 #[v] w (RetB (.bool false) w)) := by have := polValid v ps w hG hv hz; rw [ho] at this; exact this
  obtain ⟨A, c, rfl⟩ := isPs_slice hv
  clear hG hv hz ho
  go_enter Tryz.func36, Tryz.ntmps36
  go_wp2_with (((go_at_call 38); (with_reducible refine (HV0.out).mono ?_); rintro e w1 ⟨rfl, hbw1⟩))
  go_ret2
  exact ⟨rfl, hbw1⟩
set_option maxRecDepth 100000 in
set_option maxHeartbeats 16000000 in
theorem polMar_yes (v : Value) (ps : List Pol) (w : World) (hG : Glo w) (hv : IsPs w v ps) (hz : SzP ps) (hT : (ps.map polL).flatten.length ≤ 900000) (ho : okP ps = true) : Calls Tryz.prog 36 #[v] w (RetOidY (seqL (ps.map polL)) w) := by
  have HV0 : Hid (Calls Tryz.prog 38 #[v] w (RetB (.bool true) w)) := by have := polValid v ps w hG hv hz; rw [ho] at this; exact this
  have hlen := hv.len (P := Tryz.prog) ulPs
  have hpl : ∀ p ∈ ps, (polL p).length ≤ 900000 := fun p h => by have := flat_part polL h; omega
  have hinn : ∀ p ∈ ps, (objL p.1 :: (if p.2 = [] then [] else [seqL (p.2.map quaL)])).flatten.length ≤ 900000 := fun p h => by
    have h1 := hpl p h
    have h2 := seqL_len (objL p.1 :: (if p.2 = [] then [] else [seqL (p.2.map quaL)]))
    unfold polL at h1
    omega
  have HO1 : Hid (∀ p ∈ ps, ∀ W, Glo W → Calls Tryz.prog 66 #[.string p.1] W (RetO 5 (objL p.1) W)) := fun p h W g => polObject _ W g (by have := (hz.2 _ h).1; omega)
  have HO2 : Hid (∀ p ∈ ps, ∀ q ∈ p.2, ∀ W, Glo W → Calls Tryz.prog 66 #[.string q.1] W (RetO 5 (objL q.1) W)) := fun p h q hq W g => polObject _ W g (by have := ((hz.2 _ h).2.2 _ hq).1; omega)
  have hqq : ∀ p ∈ ps, p.2 ≠ [] → (p.2.map quaL).flatten.length ≤ 900000 := fun p h hne => by
    have h1 := hinn p h
    rw [if_neg hne] at h1
    have h2 := seqL_len (p.2.map quaL)
    simp only [List.flatten_cons, List.length_append] at h1
    omega
  have HSQ : Hid (∀ p ∈ ps, ∀ q ∈ p.2, ∀ u W, IsBs W u [objL q.1, q.2] → Calls Tryz.prog 47 #[u] W (RetO 5 (quaL q) W)) := fun p h q hq u W hu => polSeq u _ W hu (by
    have h1 := flat_part quaL hq
    have h0 : quaL q = seqL [objL q.1, q.2] := rfl
    rw [h0] at h1
    have h2 := seqL_len [objL q.1, q.2]
    have h3 := hqq p h (fun e => by rw [e] at hq; cases hq)
    omega)
  have HSS : Hid (∀ p ∈ ps, p.2 ≠ [] → ∀ u W, IsBs W u (p.2.map quaL) → Calls Tryz.prog 47 #[u] W (RetO 5 (seqL (p.2.map quaL)) W)) := fun p h hne u W hu => polSeq u _ W hu (hqq p h hne)
  have HSP : Hid (∀ p ∈ ps, ∀ u W ls, ls = (objL p.1 :: (if p.2 = [] then [] else [seqL (p.2.map quaL)])) → IsBs W u ls → Calls Tryz.prog 47 #[u] W (RetO 5 (polL p) W)) := fun p h u W ls e hu => by
    subst e
    exact polSeq u _ W hu (hinn p h)
  have HEL : Hid (∀ u W, IsBs W u (ps.map polL) → Calls Tryz.prog 48 #[u] W (RetOK 5 (seqL (ps.map polL)) W)) := fun u W h => by
    refine (pSeq u _ W h hT).mono fun e w' hh => ?_
    unfold RetW at hh
    rw [if_pos (by decide)] at hh
    exact hh
  have HQN : Hid (∀ p ∈ ps, p.2.length ≤ 10000) := fun p h => (hz.2 _ h).2.1
  have HG := Lib.hid hG
  have HV := Lib.hid hv
  obtain ⟨A, c, rfl⟩ := isPs_slice hv
  have hnI : (ps.length : Int) ≤ 10000 := by have := hz.1; omega
  obtain ⟨R, hR⟩ : ∃ R, seqL (ps.map polL) = R := ⟨_, rfl⟩
  rw [hR] at HEL ⊢
  clear hG hv hz hT ho hR hpl hinn hqq
  go_enter Tryz.func36, Tryz.ntmps36
  go_wp2_with (((go_at_call 38); (with_reducible refine (HV0.out).mono ?_); rintro e w1 ⟨rfl, hbw1⟩; have HB1 := Lib.hid hbw1; clear hbw1))
  go_loopw [4, 16] (fun out ix wr => PmRel ps w1 out ix wr) (fun _ ix _ => ps.length + 1 - (intOf ix).toNat)
  case atStart => exact ⟨0, rfl, Nat.zero_le _, OwP.nil_ _ _ _, Below.refl _ _⟩
  case round =>
    obtain ⟨i, rfl, hi, how, hbel⟩ := hrel
    obtain ⟨wo, rfl⟩ : ∃ wo, wo = wr := ⟨_, rfl⟩
    have HOW := Lib.hid how
    have HBR := Lib.hid hbel
    have HBW := Lib.hid (HB1.out.trans (hbel.mono HB1.out.size))
    clear how
    by_cases hlt : i < ps.length
    · obtain ⟨b2, o2, A2, k2, hi2, hl2, hc1, hc2, hIQ⟩ := HV.out.at_ (P := Tryz.prog) ulPs szPol .i64 i hlt
      rw [← HBW.out.cell (p := ⟨b2, o2, none⟩) hl2] at hc1
      rw [← HBW.out.cell (p := ⟨b2, o2 + 1, none⟩) hl2] at hc2
      have HIQ := Lib.hid hIQ
      have htk : (ps.take (i + 1)).map polL = (ps.take i).map polL ++ [polL ps[i]] := by rw [List.take_succ_eq_append_getElem hlt, List.map_append]; rfl
      have hmem := List.getElem_mem hlt
      have hltI : (i : Int) < ps.length := by omega
      have hll : ((ps.take i).map polL).length ≤ 10000 := by rw [List.length_map, List.length_take]; omega
      have HLL := Lib.hid hll
      have hszr : w1.heap.size ≤ wo.heap.size := hbel.size
      generalize ps[i] = p at *
      obtain ⟨s0, qs⟩ := p
      simp only at hc1 hc2 HIQ
      have HA := Lib.hid (HO1.out _ hmem)
      have HA2 := Lib.hid (HO2.out _ hmem)
      have HS2 := Lib.hid (HSQ.out _ hmem)
      have HS3 := Lib.hid (HSS.out _ hmem)
      have HS4 := Lib.hid (HSP.out _ hmem)
      have hqn := HQN.out _ hmem
      simp only at HA HA2 HS2 HS3 HS4 hqn
      have HTK := Lib.hid htk
      clear hbel htk hll hIQ hmem
      generalize polL (s0, qs) = pl at *
      generalize hLg : (ps.take i).map polL = LL at *
      have hqnI : (qs.length : Int) ≤ 10000 := by omega
      have hqlen := HIQ.out.len (P := Tryz.prog) ulQs
      have HGr := Lib.hid (HG.out.below HBW.out)
      go_wp2_with (((go_at_call 66); (with_reducible refine (HA.out _ (HGr.out.alloc _)).mono ?_); rintro e wa ⟨va, rfl, hoa, hbwa⟩; obtain ⟨Aa, ka, rfl⟩ := isB_slice hoa.isB; have JA := Blk.call (Blk.new wo 66 #[.string s0, .slice A2 qs.length k2]) hbwa; have qA := JA.q; have hba : Below wo.heap.size wo wa := ((Below.refl _ wo).alloc (Nat.le_refl _) _).trans (hbwa.mono (by simp)); have HBA := Lib.hid hba; have hla : wo.heap.size < wa.heap.size := JA.lt; have HPA := Lib.hid (OwP.lit1 (e := 32) hoa hbwa.size); clear hoa hba hbwa))
      have HJA := Lib.hid JA
      clear JA
      obtain ⟨w2, hw2⟩ : ∃ w2, wa.alloc (.cells #[.slice Aa (objL s0).length ka] 32) = w2 := ⟨_, rfl⟩
      have hba2 : Below wo.heap.size wo w2 := by rw [← hw2]; exact HBA.out.alloc HBA.out.size _
      have HBA2 := Lib.hid hba2
      have HPA2 : Hid (OwP w2 (wo.heap.size + 1) 32 (.slice (some ⟨wa.heap.size, 0, none⟩) 1 1) [objL s0]) := by rw [← hw2]; have := HPA.out; simp only [World.size_alloc] at this; exact this
      have hw2s : w2.heap.size = wa.heap.size + 1 := by rw [← hw2]; simp
      rw [hw2]
      have HIQ2 := Lib.hid (HIQ.out.below (HBW.out.trans (HBA2.out.mono HBW.out.size)))
      have HGW := Lib.hid (HGr.out.below HBA2.out)
      clear hw2 hba2 HPA HBA qA
      go_loopw [8, 27] (fun out ix wq => QmRel qs w2 out ix wq) (fun _ ix _ => qs.length + 1 - (intOf ix).toNat)
      case atStart => exact ⟨0, rfl, Nat.zero_le _, OwP.nil_ _ _ _, Below.refl _ _⟩
      case round =>
        obtain ⟨j, rfl, hj, howq, hbq⟩ := hrel
        have HOWQ := Lib.hid howq
        have HBQ := Lib.hid hbq
        clear howq
        by_cases hjl : j < qs.length
        · obtain ⟨b3, o3, A3, k3, hi3, hl3, hc3, hc4, hIB⟩ := (HIQ2.out.below hbq).at_ (P := Tryz.prog) ulQs szQual .i64 j hjl
          have HIB := Lib.hid hIB
          have hqm := List.getElem_mem hjl
          have htq : (qs.take (j + 1)).map quaL = (qs.take j).map quaL ++ [quaL qs[j]] := by rw [List.take_succ_eq_append_getElem hjl, List.map_append]; rfl
          have hjI : (j : Int) < qs.length := by omega
          have hlq : ((qs.take j).map quaL).length ≤ 10000 := by rw [List.length_map, List.length_take]; omega
          have hszq : w2.heap.size ≤ wr.heap.size := hbq.size
          generalize qs[j] = q at *
          obtain ⟨t0, l0⟩ := q
          simp only at hc3 hc4 HIB
          have HB := Lib.hid (HA2.out _ hqm)
          have HS := Lib.hid (HS2.out _ hqm)
          simp only at HB HS
          have HTQ := Lib.hid htq
          have HLQ := Lib.hid hlq
          clear hIB hqm htq hlq hbq
          generalize quaL (t0, l0) = ql at *
          generalize hLq : (qs.take j).map quaL = LQ at *
          have HGq := Lib.hid (HGW.out.below HBQ.out)
          go_wp2_with fail
          have HI := Lib.hid (Blk.drew (Blk.new wr 70 #[.string t0, .slice A3 l0.length k3]))
          have HG0 := Lib.hid (show Glo (wr.alloc (.cells #[.string t0, .slice A3 l0.length k3] 70)).drew from (HGq.out.alloc (.cells #[.string t0, .slice A3 l0.length k3] 70)).below (Below.refl _ _).drew)
          have HOW0 := Lib.hid (show OwP (wr.alloc (.cells #[.string t0, .slice A3 l0.length k3] 70)).drew w2.heap.size 32 _ LQ from HOWQ.out.alloc (.cells #[.string t0, .slice A3 l0.length k3] 70))
          have HB0 := Lib.hid (show Below w2.heap.size w2 (wr.alloc (.cells #[.string t0, .slice A3 l0.length k3] 70)).drew from (HBQ.out.alloc hszq _).drew)
          have HV0 := Lib.hid (show IsB (wr.alloc (.cells #[.string t0, .slice A3 l0.length k3] 70)).drew (.slice A3 l0.length k3) l0 from HIB.out.alloc (.cells #[.string t0, .slice A3 l0.length k3] 70))
          have hgn := HOWQ.out.notNew (Nat.le_refl _)
          go_region_held3 (fun W' => W'.cell? ⟨wr.heap.size, 0, none⟩ = some (.string t0) ∧ W'.cell? ⟨wr.heap.size, 1, none⟩ = some (.slice A3 l0.length k3))
            (first | go_keep | exact ⟨(JH.q 0).trans rfl, (JH.q 1).trans rfl⟩ | exact ⟨(JF.q 0).trans rfl, (JF.q 1).trans rfl⟩ | exact ⟨(JF.alloc _).q 0 |>.trans rfl, (JF.alloc _).q 1 |>.trans rfl⟩ | exact ⟨(JE.q 0).trans rfl, (JE.q 1).trans rfl⟩ | exact ⟨(JE.alloc _).q 0 |>.trans rfl, (JE.alloc _).q 1 |>.trans rfl⟩ | (trace_state; fail))
            (first
              | ((go_at_call 66); (with_reducible refine (HB.out _ HG0.out).mono ?_); rintro e we ⟨ve, rfl, hoe, hbwe⟩; obtain ⟨Ae, ke, rfl⟩ := isB_slice hoe.isB; have JE := Blk.call HI.out hbwe; have HBE := Lib.hid (HB0.out.trans (hbwe.mono HB0.out.size)); have HVE := Lib.hid hoe.isB; have HVV := Lib.hid (HV0.out.below hbwe); have HOWE := Lib.hid (HOW0.out.below hbwe); clear hoe)
              | ((go_at_call 47); (with_reducible refine (HS.out _ _ (isBs_two rfl HVE.out HVV.out)).mono ?_); rintro e wf ⟨vf, rfl, hof, hbwf⟩; obtain ⟨Af, kf, rfl⟩ := isB_slice hof.isB; have JF := Blk.call (JE.alloc _) hbwf; have HPF := Lib.hid (part_newP hof (HOWE.out.alloc _) (by have := HBE.out.size; simp; omega)); have HBF := Lib.hid ((HBE.out.alloc HBE.out.size _).trans (hbwf.mono (by have := HBE.out.size; simp; omega))); have HOWF := Lib.hid ((HOWE.out.alloc _).below hbwf); clear hof)
              | (rw [if_pos (by rfl)]; obtain ⟨vh, wh, hrh, hoh, hbh, hgh⟩ := run_appP (P := Tryz.prog) (wf.alloc (.cells #[.slice Af ql.length kf] 32)) w2.heap.size 28 28 32 ulBs infoBss _ LQ (HOWF.out.alloc _) _ (.slice Af ql.length kf) ql isR_one (HPF.out.alloc _) (by have := HLQ.out; omega) (by have := HBF.out.size; simp; omega); have JH := Blk.grown (JF.alloc (.cells #[.slice Af ql.length kf] 32)) hgh hgn; have HOH := Lib.hid hoh; have HBH := Lib.hid ((HBF.out.alloc HBF.out.size _).trans hbh); refine wp_appR _ _ _ _ rfl _ _ _ _ rfl rfl hrh ?_))
          go_wp2_with fail
          go_roundw
          case rel => exact ⟨j + 1, by go_num, by omega, by rw [HTQ.out]; exact HOH.out, HBH.out⟩
          case measure => simp [intOf]; omega
        · have hje : j = qs.length := by omega
          have hge : (qs.length : Int) ≤ j := by omega
          have howq := HOWQ.out
          rw [hje, List.take_length] at howq
          have HQO := Lib.hid howq
          obtain ⟨Aq, kq, hqe⟩ := howq.slice
          rw [List.length_map] at hqe
          subst hqe
          have HWQ := Lib.hid (HBA2.out.trans (hbq.mono HBA2.out.size))
          have HPQ := Lib.hid (HPA2.out.below hbq)
          clear howq hje hjl hj hbq
          by_cases hq0 : qs = []
          · subst hq0
            have HLS := Lib.hid (show [objL s0] = objL s0 :: (if ([] : List Qual) = [] then [] else [seqL (([] : List Qual).map quaL)]) by simp)
            have HPP := HPQ
            have HWP := HWQ
            go_wp2_with (first | ((go_at_call 47); (with_reducible refine (HS4.out _ _ _ HLS.out HPP.out.isBs).mono ?_); rintro e wd ⟨vd, rfl, hod, hbwd⟩; obtain ⟨Ad, kd, rfl⟩ := isB_slice hod.isB; have HWD := Lib.hid (HWP.out.trans (hbwd.mono HWP.out.size)); have HALL := Lib.hid (HOW.out.below HWP.out); have HPD := Lib.hid (part_newP hod HALL.out (by have := HWP.out.size; omega)); have HAD := Lib.hid (HALL.out.below hbwd); clear hod hbwd) | (at_builtin; refine wpList_appP _ rfl _ _ 28 rfl w1.heap.size 32 ulBs infoBss _ LL rfl (HAD.out.alloc _) _ (.slice Ad pl.length kd) pl rfl isR_one (HPD.out.alloc _) ?n2 ?b2 ?_))
            case n2 => have := HLL.out; omega
            case b2 => have := HWD.out.size; simp; omega
            intro v6 w6 ho6 hb6 _
            have HO6 := Lib.hid ho6
            have HB6 := Lib.hid ((HBR.out.trans ((HWD.out.alloc HWD.out.size (.cells #[.slice Ad pl.length kd] 32)).mono hszr)).trans hb6)
            clear ho6 hb6
            go_wp2
            go_roundw
            case rel => exact ⟨i + 1, by go_num, by omega, by rw [HTK.out]; exact HO6.out, HB6.out⟩
            case measure => simp [intOf]; omega
          · have hqp : 0 < qs.length := List.length_pos_iff.2 hq0
            have hqpI : (0 : Int) < qs.length := by omega
            have HS5 := Lib.hid (HS3.out hq0)
            have HLS := Lib.hid (show [objL s0] ++ [seqL (qs.map quaL)] = objL s0 :: (if qs = [] then [] else [seqL (qs.map quaL)]) by rw [if_neg hq0]; rfl)
            clear hq0
            generalize seqL (qs.map quaL) = ql at *
            go_wp2_with (first | ((go_at_call 47); (with_reducible refine (HS5.out _ _ HQO.out.isBs).mono ?_); rintro e wc ⟨vc, rfl, hoc, hbwc⟩; obtain ⟨Ac, kc, rfl⟩ := isB_slice hoc.isB; have HWC := Lib.hid (HWQ.out.trans (hbwc.mono HWQ.out.size)); have HPC := Lib.hid (part_newP hoc HPQ.out (by have := HBQ.out.size; have := HBA2.out.size; omega)); have HQC := Lib.hid (HPQ.out.below hbwc); clear hoc hbwc) | (at_builtin; refine wpList_appP _ rfl _ _ 28 rfl (wo.heap.size + 1) 32 ulBs infoBss _ [objL s0] rfl (HQC.out.alloc _) _ (.slice Ac ql.length kc) ql rfl isR_one (HPC.out.alloc _) ?n1 ?b1 ?_))
            case n1 => simp
            case b1 => have := HWC.out.size; simp; omega
            intro v5 w5 ho5 hb5 _
            have HPP := Lib.hid ho5
            have HWP := Lib.hid ((HWC.out.alloc HWC.out.size (.cells #[.slice Ac ql.length kc] 32)).trans (hb5.mono (Nat.le_succ _)))
            obtain ⟨A5, k5, hve⟩ := ho5.slice
            subst hve
            clear ho5 hb5
            go_wp2_with (first | ((go_at_call 47); (with_reducible refine (HS4.out _ _ _ HLS.out HPP.out.isBs).mono ?_); rintro e wd ⟨vd, rfl, hod, hbwd⟩; obtain ⟨Ad, kd, rfl⟩ := isB_slice hod.isB; have HWD := Lib.hid (HWP.out.trans (hbwd.mono HWP.out.size)); have HALL := Lib.hid (HOW.out.below HWP.out); have HPD := Lib.hid (part_newP hod HALL.out (by have := HWP.out.size; omega)); have HAD := Lib.hid (HALL.out.below hbwd); clear hod hbwd) | (at_builtin; refine wpList_appP _ rfl _ _ 28 rfl w1.heap.size 32 ulBs infoBss _ LL rfl (HAD.out.alloc _) _ (.slice Ad pl.length kd) pl rfl isR_one (HPD.out.alloc _) ?n2 ?b2 ?_))
            case n2 => have := HLL.out; omega
            case b2 => have := HWD.out.size; simp; omega
            intro v6 w6 ho6 hb6 _
            have HO6 := Lib.hid ho6
            have HB6 := Lib.hid ((HBR.out.trans ((HWD.out.alloc HWD.out.size (.cells #[.slice Ad pl.length kd] 32)).mono hszr)).trans hb6)
            clear ho6 hb6
            go_wp2
            go_roundw
            case rel => exact ⟨i + 1, by go_num, by omega, by rw [HTK.out]; exact HO6.out, HB6.out⟩
            case measure => simp [intOf]; omega
    · have hie : i = ps.length := by omega
      have how := HOW.out
      rw [hie, List.take_length] at how
      have HO := Lib.hid how
      have hge : (ps.length : Int) ≤ i := by omega
      obtain ⟨Ao, ko, hoe⟩ := how.slice
      rw [List.length_map] at hoe
      subst hoe
      clear how hie hlt hi hbel
      go_wp2_with (((go_at_call 48); (with_reducible refine (HEL.out _ _ HO.out.isBs).mono ?_); rintro e w9 ⟨v9, rfl, ho9, hbw9⟩; have HO9 := Lib.hid ho9; clear ho9))
      go_ret2
      have s1 := HB1.out.size; have s2 := HBR.out.size
      exact ⟨_, rfl, HO9.out.more (by omega), (HB1.out.trans (HBR.out.mono s1)).trans (hbw9.mono (by omega))⟩
end Go.Proofs.YtjjkimjdmpeddaaGreatDoor
end

/- Walk over charset.Decode. -/
section
set_option linter.unusedSimpArgs false
set_option linter.unusedVariables false
namespace Go.Proofs.YtjjkimjdmpeddaaGreatDoor
open Go.RowKit Go.Cr

/-- A character string, or an error and nothing. -/
def RetDe (k : Int) (o : Option (List UInt8)) (w : World) (e : Ending) (w' : World) : Prop :=
  Below w.heap.size w w' ∧ ((o = none ∧ ∃ ec : Int, ec ≠ 0 ∧ e = .returned (.tuple #[.agg #[.int .i64 0, .string ⟨#[]⟩], .int .i64 ec])) ∨ ∃ s, o = some s ∧ e = .returned (.tuple #[.agg #[.int .i64 k, .string (bStr s)], .int .i64 0]))

set_option maxRecDepth 100000 in
set_option maxHeartbeats 4000000 in
theorem decT_no (k : Int) (v : Value) (c : List UInt8) (w : World) (hk : widthK k = none) (hv : IsB w v c) : Calls Tryz.prog 131 #[.int .i64 k, v] w (RetDe k none w) := by
  have HR : Hid (∀ W, Calls Tryz.prog 123 #[] W (RetFn k W)) := formsNo k hk
  have HK : Hid ((widthK k).isSome = false) := by rw [hk]; rfl
  obtain ⟨A, cp, rfl⟩ := isB_slice hv
  clear hk hv
  go_enter Tryz.func131, Tryz.ntmps131
  go_wp2_with (((go_at_call 123); (with_reducible refine (HR.out _).mono ?_); rintro e w1 ⟨gm, rfl, hgm, hbw1, hF⟩; have sz := hbw1.size; simp at sz; have y0 : w.heap.size < w1.heap.size := (by omega); have y1 : w.heap.size + 1 < w1.heap.size := (by omega); have HSZ := Lib.hid sz; clear sz; have k1 := hF.look; rw [HK.out] at k1; have I0 := Blk.call ((Blk.new w 27 #[.int .i64 0, .string ⟨#[]⟩]).alloc _) hbw1; have I1 := Blk.call (Blk.new (w.alloc (.cells #[.int .i64 0, .string ⟨#[]⟩] 27)) 33 #[.int .i64 0]) hbw1; have q0 := I0.q; have f0 := I0.fz; have q1 := I1.q; have f1 := I1.fz; simp at q1 f1))
  refine bodyPost_ret (v := .tuple #[.agg #[.int .i64 0, .string ⟨#[]⟩], .int .i64 3]) (by simp only [results, Tryz.results131]; go_simp) rfl ?_
  have b1 : Below w.heap.size w w1 := (((Below.refl _ w).alloc (Nat.le_refl _) _).alloc (by simp) _).trans (hbw1.mono (by simp; omega))
  exact ⟨by ((repeat' (first | (with_reducible exact Below.refl _ _) | (with_reducible assumption) | (with_reducible refine Below.setCell ?_ ?_ _) | (with_reducible refine Below.alloc ?_ ?_ _) | (with_reducible refine Below.drew ?_) | (with_reducible refine below_drewN ?_ _) | (with_reducible refine Below.step (by with_reducible assumption) ?_ ?_))) <;> (first | omega | (simp; done) | (simp; omega))), .inl ⟨rfl, 3, by decide, rfl⟩⟩

set_option maxRecDepth 100000 in
set_option maxHeartbeats 4000000 in
theorem decT_bad (k : Int) (n : Nat) (v : Value) (c : List UInt8) (w : World) (hk : widthK k = some n) (hK : KindOk k) (hv : IsB w v c) (hn : 1 < n) (hm : c.length % n ≠ 0) : Calls Tryz.prog 131 #[.int .i64 k, v] w (RetDe k none w) := by
  have HR : Hid (∀ W, Calls Tryz.prog 123 #[] W (RetFy k n W)) := formsYes k n hk hK
  have HK : Hid ((widthK k).isSome = true) := by rw [hk]; rfl
  have hlen := hv.len (P := Tryz.prog) ulB
  have hn4 := widthK_small hk
  have hln := hv.maxl
  have hnI : (1 : Int) < n := by omega
  have hnI2 : (n : Int) ≤ 4 := by omega
  have hmod : (((c.length : Int) % (n : Int)) == 0) = false := beq_eq_false_iff_ne.2 (fun e => hm (by omega))
  have hmod2 : (((c.length : Int) % (n : Int)) != 0) = true := by simp [bne, hmod]
  obtain ⟨A, cp, rfl⟩ := isB_slice hv
  clear hk hv hn hm hn4
  go_enter Tryz.func131, Tryz.ntmps131
  go_wp2_with (((go_at_call 123); (with_reducible refine (HR.out _).mono ?_); rintro e w1 ⟨gm, g, lb, rfl, hgm, hbw1, hF, hA⟩; have sz := hbw1.size; simp at sz; have y0 : w.heap.size < w1.heap.size := (by omega); have y1 : w.heap.size + 1 < w1.heap.size := (by omega); have HSZ := Lib.hid sz; clear sz; have HA := Lib.hid hA; clear hA; have k1 := hF.look; rw [HK.out] at k1; have I0 := Blk.call ((Blk.new w 27 #[.int .i64 0, .string ⟨#[]⟩]).alloc _) hbw1; have I1 := Blk.call (Blk.new (w.alloc (.cells #[.int .i64 0, .string ⟨#[]⟩] 27)) 33 #[.int .i64 0]) hbw1; have q0 := I0.q; have f0 := I0.fz; have q1 := I1.q; have f1 := I1.fz; simp at q1 f1; have HI0 := Lib.hid I0; have HI1 := Lib.hid I1; clear I0 I1))
  refine bodyPost_ret (v := .tuple #[.agg #[.int .i64 0, .string ⟨#[]⟩], .int .i64 6]) (by simp only [results, Tryz.results131]; go_simp) rfl ?_
  have b1 : Below w.heap.size w w1 := (((Below.refl _ w).alloc (Nat.le_refl _) _).alloc (by simp) _).trans (hbw1.mono (by simp; omega))
  exact ⟨by ((repeat' (first | (with_reducible exact Below.refl _ _) | (with_reducible assumption) | (with_reducible refine Below.setCell ?_ ?_ _) | (with_reducible refine Below.alloc ?_ ?_ _) | (with_reducible refine Below.drew ?_) | (with_reducible refine below_drewN ?_ _) | (with_reducible refine Below.step (by with_reducible assumption) ?_ ?_))) <;> (first | omega | (simp; done) | (simp; omega))), .inl ⟨rfl, 6, by decide, rfl⟩⟩

set_option maxRecDepth 100000 in
set_option maxHeartbeats 4000000 in
theorem decT_zero (k : Int) (v : Value) (c : List UInt8) (w : World) (hk : widthK k = some 0) (hK : KindOk k) (hG : Glo w) (hv : IsB w v c) (hc : c.length ≤ 1000000) : Calls Tryz.prog 131 #[.int .i64 k, v] w (RetDe k (decT k c) w) := by
  have HR : Hid (∀ W, Calls Tryz.prog 123 #[] W (RetFy k 0 W)) := formsYes k 0 hk hK
  have HK : Hid ((widthK k).isSome = true) := by rw [hk]; rfl
  have HVA : Hid (∀ W, Glo W → Calls Tryz.prog 122 #[.agg #[.int .i64 k, .string (bStr c)]] W (RetB (.bool (validT k c)) W)) := fun W h => by have := valid_any k (bStr c) W (fun _ => hK) h (by show c.toArray.size ≤ _; simp; omega); rw [bStr_list] at this; exact this
  have HDE : Hid (decT k c = if validT k c = true then some c else none) := by unfold decT; rw [hk]; rfl
  have HG := Lib.hid hG
  have HV0 := Lib.hid hv
  obtain ⟨A, cp, rfl⟩ := isB_slice hv
  obtain ⟨DO, hDO⟩ : ∃ DO, decT k c = DO := ⟨_, rfl⟩
  rw [hDO]
  have HDO := Lib.hid (hDO.symm.trans HDE.out)
  clear hk hv hG hc hDO HDE hK
  generalize validT k c = VB at *
  cases VB
  case false =>
    go_enter Tryz.func131, Tryz.ntmps131
    go_wp2_with (first | ((go_at_call 123); (with_reducible refine (HR.out _).mono ?_); rintro e w1 ⟨gm, g, lb, rfl, hgm, hbw1, hF, hA⟩; have sz := hbw1.size; simp at sz; have y0 : w.heap.size < w1.heap.size := (by omega); have y1 : w.heap.size + 1 < w1.heap.size := (by omega); have HSZ := Lib.hid sz; clear sz; have HA := Lib.hid hA; clear hA; have k1 := hF.look; rw [HK.out] at k1; have I0 := Blk.call ((Blk.new w 27 #[.int .i64 0, .string ⟨#[]⟩]).alloc _) hbw1; have I1 := Blk.call (Blk.new (w.alloc (.cells #[.int .i64 0, .string ⟨#[]⟩] 27)) 33 #[.int .i64 0]) hbw1; have q0 := I0.q; have f0 := I0.fz; have q1 := I1.q; have f1 := I1.fz; simp at q1 f1; have HI0 := Lib.hid I0; have HI1 := Lib.hid I1; clear I0 I1; have k3 := isB_bstr ((((HV0.out.alloc _).alloc _).below hbw1).alloc (.cells #[.func (.func g) #[] lb, .int .i64 0] 147))) | ((go_at_call 122); (with_reducible refine (HVA.out _ (((((HG.out.alloc _).alloc _).below hbw1).alloc _).alloc _)).mono ?_); rintro e w2 ⟨rfl, hbw2⟩; have J0 := Blk.call ((HI0.out.alloc _).alloc _) hbw2; have J1 := Blk.call ((HI1.out.alloc _).alloc _) hbw2; have J2 := Blk.call (Blk.new (w1.alloc (.cells #[.func (.func g) #[] lb, .int .i64 0] 147)) 27 #[.int .i64 k, .string (bStr c)]) hbw2; have p0 := J0.q; have g0 := J0.fz; have p1 := J1.q; have g1 := J1.fz; have p2 := J2.q; simp at p1 g1 p2; have sz2 := hbw2.size; simp at sz2; have z0 : w.heap.size < w2.heap.size := (by omega); have z1 : w.heap.size + 1 < w2.heap.size := (by omega); clear sz2))
    refine bodyPost_ret (v := .tuple #[.agg #[.int .i64 0, .string ⟨#[]⟩], .int .i64 6]) (by simp only [results, Tryz.results131]; go_simp) rfl ?_
    have b1 : Below w.heap.size w w1 := (((Below.refl _ w).alloc (Nat.le_refl _) _).alloc (by simp) _).trans (hbw1.mono (by simp; omega))
    have b2 : Below w.heap.size w w2 := ((b1.alloc (by omega) _).alloc (by simp; omega) _).trans (hbw2.mono (by simp; omega))
    exact ⟨by ((repeat' (first | (with_reducible exact Below.refl _ _) | (with_reducible assumption) | (with_reducible refine Below.setCell ?_ ?_ _) | (with_reducible refine Below.alloc ?_ ?_ _) | (with_reducible refine Below.drew ?_) | (with_reducible refine below_drewN ?_ _) | (with_reducible refine Below.step (by with_reducible assumption) ?_ ?_))) <;> (first | omega | (simp; done) | (simp; omega))), .inl ⟨by rw [HDO.out]; rfl, 6, by decide, rfl⟩⟩
  case true =>
    go_enter Tryz.func131, Tryz.ntmps131
    go_wp2_with (first | ((go_at_call 123); (with_reducible refine (HR.out _).mono ?_); rintro e w1 ⟨gm, g, lb, rfl, hgm, hbw1, hF, hA⟩; have sz := hbw1.size; simp at sz; have y0 : w.heap.size < w1.heap.size := (by omega); have y1 : w.heap.size + 1 < w1.heap.size := (by omega); have HSZ := Lib.hid sz; clear sz; have HA := Lib.hid hA; clear hA; have k1 := hF.look; rw [HK.out] at k1; have I0 := Blk.call ((Blk.new w 27 #[.int .i64 0, .string ⟨#[]⟩]).alloc _) hbw1; have I1 := Blk.call (Blk.new (w.alloc (.cells #[.int .i64 0, .string ⟨#[]⟩] 27)) 33 #[.int .i64 0]) hbw1; have q0 := I0.q; have f0 := I0.fz; have q1 := I1.q; have f1 := I1.fz; simp at q1 f1; have HI0 := Lib.hid I0; have HI1 := Lib.hid I1; clear I0 I1; have k3 := isB_bstr ((((HV0.out.alloc _).alloc _).below hbw1).alloc (.cells #[.func (.func g) #[] lb, .int .i64 0] 147))) | ((go_at_call 122); (with_reducible refine (HVA.out _ (((((HG.out.alloc _).alloc _).below hbw1).alloc _).alloc _)).mono ?_); rintro e w2 ⟨rfl, hbw2⟩; have J0 := Blk.call ((HI0.out.alloc _).alloc _) hbw2; have J1 := Blk.call ((HI1.out.alloc _).alloc _) hbw2; have J2 := Blk.call (Blk.new (w1.alloc (.cells #[.func (.func g) #[] lb, .int .i64 0] 147)) 27 #[.int .i64 k, .string (bStr c)]) hbw2; have p0 := J0.q; have g0 := J0.fz; have p1 := J1.q; have g1 := J1.fz; have p2 := J2.q; simp at p1 g1 p2; have sz2 := hbw2.size; simp at sz2; have z0 : w.heap.size < w2.heap.size := (by omega); have z1 : w.heap.size + 1 < w2.heap.size := (by omega); clear sz2))
    refine bodyPost_ret (v := .tuple #[.agg #[.int .i64 k, .string (bStr c)], .int .i64 0]) (by simp only [results, Tryz.results131]; go_simp) rfl ?_
    have b1 : Below w.heap.size w w1 := (((Below.refl _ w).alloc (Nat.le_refl _) _).alloc (by simp) _).trans (hbw1.mono (by simp; omega))
    have b2 : Below w.heap.size w w2 := ((b1.alloc (by omega) _).alloc (by simp; omega) _).trans (hbw2.mono (by simp; omega))
    exact ⟨by ((repeat' (first | (with_reducible exact Below.refl _ _) | (with_reducible assumption) | (with_reducible refine Below.setCell ?_ ?_ _) | (with_reducible refine Below.alloc ?_ ?_ _) | (with_reducible refine Below.drew ?_) | (with_reducible refine below_drewN ?_ _) | (with_reducible refine Below.step (by with_reducible assumption) ?_ ?_))) <;> (first | omega | (simp; done) | (simp; omega))), .inr ⟨c, by rw [HDO.out]; rfl, rfl⟩⟩
end Go.Proofs.YtjjkimjdmpeddaaGreatDoor
end

/- Walks over the reference's FewMappings and ValidMappings; over cretulabase.Mappings. -/
section
set_option linter.unusedSimpArgs false
set_option linter.unusedVariables false
namespace Go.Proofs.YtjjkimjdmpeddaaGreatDoor
open Go.RowKit Go.Cr

theorem wr64m {x : Int} (h0 : 0 ≤ x) (h1 : x ≤ 9223372036854775807) : IntKind.i64.wrap x = x := by rw [IntKind.wrap_i64]; omega
theorem w64m {x : Int} (h0 : 0 ≤ x) (h1 : x ≤ 9223372036854775807) : wrap64 x = x := by unfold wrap64; omega
/-- Each length at most M. -/
def BdMs (M : Nat) (ms : List Mp) : Prop := ∀ m ∈ ms, m.1.size ≤ M ∧ m.2.size ≤ M
def szSum (ms : List Mp) : Nat := (ms.map fun m => m.1.size + m.2.size).sum
def FwM (ms : List Mp) : Prop := ms.length ≤ 10 ∧ szSum ms ≤ 1000
theorem szSum_mem {ms : List Mp} {m : Mp} (h : m ∈ ms) : m.1.size + m.2.size ≤ szSum ms := by
  induction ms with
  | nil => cases h
  | cons x t ih =>
    unfold szSum at ih ⊢
    simp only [List.map_cons, List.sum_cons]
    rcases List.mem_cons.1 h with rfl | h
    · omega
    · have := ih h; omega
theorem FwM.sz {ms : List Mp} (h : FwM ms) : SzM ms := ⟨by have := h.1; omega, fun m hm => by have := szSum_mem hm; have := h.2; omega⟩
theorem szSum_snoc {ms : List Mp} {i : Nat} (h : i < ms.length) : szSum (ms.take (i + 1)) = szSum (ms.take i) + (ms[i].1.size + ms[i].2.size) := by
  rw [List.take_succ_eq_append_getElem h]
  unfold szSum
  simp only [List.map_append, List.sum_append, List.map_cons, List.map_nil, List.sum_cons, List.sum_nil, Nat.add_zero]
def RetFwM (ms : List Mp) (w : World) (e : Ending) (w' : World) : Prop := ∃ b : Bool, e = .returned (.bool b) ∧ (b = true → FwM ms) ∧ Below w.heap.size w w'
def Rfm (ms : List Mp) (w : World) (nv ix : Value) (wr : World) : Prop := ∃ i n : Nat, ix = .int .i64 (i : Int) ∧ nv = .int .i64 (n : Int) ∧ i ≤ ms.length ∧ i ≤ 20 ∧ n ≤ i * 281474976702464 ∧ n = szSum (ms.take i) ∧ Below w.heap.size w wr
set_option maxRecDepth 100000 in
set_option maxHeartbeats 16000000 in
theorem rFewM (v : Value) (ms : List Mp) (w : World) (hv : IsMs w v ms) (hM : BdMs 140737488351232 ms) : Calls Tryz.prog 28 #[v] w (RetFwM ms w) := by
  have hlen := hv.len (P := Tryz.prog) ulMs
  have hmx : (ms.length : Int) ≤ 9223372036854775807 := IsR.maxl hv
  have HV := Lib.hid hv
  have HM := Lib.hid hM
  obtain ⟨A, c, rfl⟩ := isMs_slice hv
  clear hv hM
  go_enter Tryz.func28, Tryz.ntmps28
  go_wp2_with fail
  go_loopw [3, 4] (fun nv ix wr => Rfm ms w nv ix wr) (fun _ ix _ => ms.length + 1 - (intOf ix).toNat)
  case atStart => exact ⟨0, 0, rfl, rfl, Nat.zero_le _, by omega, by omega, rfl, Below.refl _ _⟩
  case round =>
    obtain ⟨i, n, rfl, rfl, hi, hi20, hn, hcnt, hbel⟩ := hrel
    have HCNT := Lib.hid hcnt
    have HBR := Lib.hid hbel
    have HN := Lib.hid hn
    clear hcnt hn
    by_cases hlt : i < ms.length
    · by_cases h20 : i < 20
      · obtain ⟨b2, o2, hi2, hl2, hc1, hc2⟩ := HV.out.at_ (P := Tryz.prog) ulMs szMp .i64 i hlt
        have hmem := HM.out _ (List.getElem_mem hlt)
        have hgd := szSum_snoc hlt
        generalize ms[i] = m at *
        obtain ⟨s0, s1⟩ := m
        simp only at hc1 hc2 hmem hgd
        have h1o : wr.cell? ⟨b2, o2, none⟩ = some (.string s0) := (hbel.cell (p := ⟨b2, o2, none⟩) hl2).trans hc1
        have h2o : wr.cell? ⟨b2, o2 + 1, none⟩ = some (.string s1) := (hbel.cell (p := ⟨b2, o2 + 1, none⟩) hl2).trans hc2
        have HGD := Lib.hid hgd
        have HMEM := Lib.hid hmem
        have hltI : (i : Int) < ms.length := by omega
        have h20I : (i : Int) < 20 := by omega
        have hn2 := HN.out
        have w1 : IntKind.i64.wrap ((n : Int) + (s0.size : Int)) = (n : Int) + (s0.size : Int) := wr64m (by omega) (by have := hmem.1; omega)
        have w3 : IntKind.i64.wrap ((n : Int) + (s0.size : Int) + (s1.size : Int)) = (n : Int) + (s0.size : Int) + (s1.size : Int) := wr64m (by omega) (by have := hmem.1; have := hmem.2; omega)
        obtain ⟨n1, hn1⟩ : ∃ n1 : Nat, n1 = n + s0.size + s1.size := ⟨_, rfl⟩
        have w4 : (n : Int) + (s0.size : Int) + (s1.size : Int) = (n1 : Int) := by omega
        have HN1 := Lib.hid hn1
        clear hc1 hc2 hmem hgd hn2 hbel hn1
        go_wp2_with fail
        go_quiet (fail)
        go_wp2_with fail
        go_roundw
        case rel =>
          exact ⟨i + 1, n1, by go_num, congrArg (Value.int .i64) (w64m (x := (n1 : Int)) (by omega) (by have := HN1.out; have := HN.out; have := HMEM.out; omega)), by omega, by omega, by have := HN1.out; have := HN.out; have := HMEM.out; omega, by rw [HN1.out, HGD.out, HCNT.out]; omega, below_drewN HBR.out nq⟩
        case measure => simp [intOf]; omega
      · obtain rfl : i = 20 := by omega
        have h8 : decide ((ms.length : Int) ≤ 10) = false := decide_eq_false (by omega)
        go_wp2_with fail
        go_ret
        exact ⟨false, rfl, fun h => Bool.noConfusion h, HBR.out⟩
    · obtain rfl : i = ms.length := by omega
      go_wp2_with fail
      · go_ret
        exact ⟨_, rfl, fun h => ⟨by omega, by have := of_decide_eq_true h; have := HCNT.out; rw [List.take_length] at this; omega⟩, HBR.out⟩
      · go_ret
        exact ⟨false, rfl, fun h => Bool.noConfusion h, HBR.out⟩

def Rvm (ms : List Mp) (w : World) (ix : Value) (wr : World) : Prop := ∃ i : Nat, ix = .int .i64 (i : Int) ∧ i ≤ ms.length ∧ (∀ j, j < i → okM1 (ms.getD j default) = true) ∧ Below w.heap.size w wr
set_option maxRecDepth 100000 in
set_option maxHeartbeats 16000000 in
theorem rValidM (v : Value) (ms : List Mp) (w : World) (hv : IsMs w v ms) (hz : SzM ms) : Calls Tryz.prog 32 #[v] w (RetB (.bool (okM ms)) w) := by
  have hlen := hv.len (P := Tryz.prog) ulMs
  have HO1 : Hid (∀ (i : Nat) (h : i < ms.length) W, Calls Tryz.prog 72 #[.string ms[i].1] W (RetB (.bool (arcsL ms[i].1.data.toList).isSome) W)) := fun i h W => rOidValid _ W (by have := (hz.2 _ (List.getElem_mem h)).1; omega)
  have HO2 : Hid (∀ (i : Nat) (h : i < ms.length) W, Calls Tryz.prog 72 #[.string ms[i].2] W (RetB (.bool (arcsL ms[i].2.data.toList).isSome) W)) := fun i h W => rOidValid _ W (by have := (hz.2 _ (List.getElem_mem h)).2; omega)
  have HV := Lib.hid hv
  obtain ⟨A, c, rfl⟩ := isMs_slice hv
  have hnI : (ms.length : Int) ≤ 10000 := by have := hz.1; omega
  obtain ⟨B, hB⟩ : ∃ B, okM ms = B := ⟨_, rfl⟩
  rw [hB]
  have HBB := Lib.hid hB
  clear hv hz hB
  go_enter Tryz.func32, Tryz.ntmps32
  go_wp2_with fail
  go_loopw [3] (fun ix wr => Rvm ms w ix wr) (fun ix _ => ms.length + 1 - (intOf ix).toNat)
  case atStart => exact ⟨0, rfl, Nat.zero_le _, fun j h => by omega, Below.refl _ _⟩
  case round =>
    obtain ⟨i, rfl, hi, hall, hbel⟩ := hrel
    have HALL := Lib.hid hall
    have HBR := Lib.hid hbel
    clear hall
    by_cases hlt : i < ms.length
    · have hbad : okM1 ms[i] = false → B = false := fun h => by
        rw [← HBB.out, Bool.eq_false_iff]
        intro hb
        unfold okM at hb
        rw [Bool.and_eq_true, List.all_eq_true] at hb
        have := hb.2 _ (List.getElem_mem hlt)
        rw [h] at this; cases this
      have HBAD := Lib.hid hbad
      obtain ⟨b2, o2, hi2, hl2, hc1, hc2⟩ := HV.out.at_ (P := Tryz.prog) ulMs szMp .i64 i hlt
      have hgd : ms.getD i default = ms[i] := by simp [hlt]
      have HA := Lib.hid (HO1.out i hlt)
      have HB := Lib.hid (HO2.out i hlt)
      have hok : okM1 ms[i] = (otherS ms[i].1 && otherS ms[i].2) := rfl
      clear hbad
      generalize ms[i] = m at *
      obtain ⟨s0, s1⟩ := m
      simp only at hc1 hc2 HA HB hok
      have h1o : wr.cell? ⟨b2, o2, none⟩ = some (.string s0) := (hbel.cell (p := ⟨b2, o2, none⟩) hl2).trans hc1
      have HC1 := Lib.hid hc1
      have HC2 := Lib.hid hc2
      have HGD := Lib.hid hgd
      have HOK := Lib.hid hok
      have o0 : Hid (otherS s0 = ((arcsL s0.data.toList).isSome && !decide (s0 = anyP))) := rfl
      have o1 : Hid (otherS s1 = ((arcsL s1.data.toList).isSome && !decide (s1 = anyP))) := rfl
      have hltI : (i : Int) < ms.length := by omega
      clear hc1 hc2 hgd hok hbel
      generalize (arcsL s0.data.toList).isSome = C1 at *
      generalize (arcsL s1.data.toList).isSome = C2 at *
      cases C1 with
      | false =>
        have HBF := Lib.hid (HBAD.out (by rw [HOK.out, o0.out]; rfl))
        go_wp2_with (((go_at_call 72); (with_reducible refine (HA.out _).mono ?_); rintro e w3 ⟨rfl, hbw3⟩))
        go_ret
        exact ⟨by rw [HBF.out]; rfl, HBR.out.trans (hbw3.mono HBR.out.size)⟩
      | true =>
        cases C2 with
        | false =>
          have HBF := Lib.hid (HBAD.out (by rw [HOK.out, o1.out]; simp))
          go_wp2_with (first | ((go_at_call 72); (with_reducible refine (HB.out _).mono ?_); rintro e w4 ⟨rfl, hbw4⟩; have HW4 := Lib.hid (HW3.out.trans (hbw4.mono HW3.out.size))) | ((go_at_call 72); (with_reducible refine (HA.out _).mono ?_); rintro e w3 ⟨rfl, hbw3⟩; have HW3 := Lib.hid (HBR.out.trans (hbw3.mono HBR.out.size)); have c3 := (HW3.out.cell (p := ⟨b2, o2 + 1, none⟩) hl2).trans HC2.out))
          go_ret
          exact ⟨by rw [HBF.out]; rfl, HW4.out⟩
        | true =>
          by_cases e0 : s0 = anyP
          · have HBF := Lib.hid (HBAD.out (by rw [HOK.out, o0.out, decide_eq_true e0]; rfl))
            have e2 : (s0.toList == [50, 46, 53, 46, 50, 57, 46, 51, 50, 46, 48]) = true := by rw [e0, anyP_list]; rfl
            clear e0
            go_wp2_with (first | ((go_at_call 72); (with_reducible refine (HB.out _).mono ?_); rintro e w4 ⟨rfl, hbw4⟩; have HW4 := Lib.hid (HW3.out.trans (hbw4.mono HW3.out.size)); have c4 := (HW4.out.cell (p := ⟨b2, o2, none⟩) hl2).trans HC1.out) | ((go_at_call 72); (with_reducible refine (HA.out _).mono ?_); rintro e w3 ⟨rfl, hbw3⟩; have HW3 := Lib.hid (HBR.out.trans (hbw3.mono HBR.out.size)); have c3 := (HW3.out.cell (p := ⟨b2, o2 + 1, none⟩) hl2).trans HC2.out))
            go_ret
            exact ⟨by rw [HBF.out]; rfl, HW4.out⟩
          · have e2 : (s0.toList == [50, 46, 53, 46, 50, 57, 46, 51, 50, 46, 48]) = false := by rw [← anyP_list]; exact strNe0 e0
            have HE0 := Lib.hid e0
            clear e0
            by_cases e1 : s1 = anyP
            · have HBF := Lib.hid (HBAD.out (by rw [HOK.out, o1.out, decide_eq_true e1]; simp))
              have e3 : (s1.toList == [50, 46, 53, 46, 50, 57, 46, 51, 50, 46, 48]) = true := by rw [e1, anyP_list]; rfl
              clear e1
              go_wp2_with (first | ((go_at_call 72); (with_reducible refine (HB.out _).mono ?_); rintro e w4 ⟨rfl, hbw4⟩; have HW4 := Lib.hid (HW3.out.trans (hbw4.mono HW3.out.size)); have c4 := (HW4.out.cell (p := ⟨b2, o2, none⟩) hl2).trans HC1.out; have c5 := (HW4.out.cell (p := ⟨b2, o2 + 1, none⟩) hl2).trans HC2.out) | ((go_at_call 72); (with_reducible refine (HA.out _).mono ?_); rintro e w3 ⟨rfl, hbw3⟩; have HW3 := Lib.hid (HBR.out.trans (hbw3.mono HBR.out.size)); have c3 := (HW3.out.cell (p := ⟨b2, o2 + 1, none⟩) hl2).trans HC2.out))
              go_ret
              exact ⟨by rw [HBF.out]; rfl, HW4.out⟩
            · have e3 : (s1.toList == [50, 46, 53, 46, 50, 57, 46, 51, 50, 46, 48]) = false := by rw [← anyP_list]; exact strNe0 e1
              have hgood : okM1 (ms.getD i default) = true := by
                rw [HGD.out, HOK.out, o0.out, o1.out, decide_eq_false e1, decide_eq_false HE0.out]; rfl
              have HGOOD := Lib.hid hgood
              clear e1 hgood
              go_wp2_with (first | ((go_at_call 72); (with_reducible refine (HB.out _).mono ?_); rintro e w4 ⟨rfl, hbw4⟩; have HW4 := Lib.hid (HW3.out.trans (hbw4.mono HW3.out.size)); have c4 := (HW4.out.cell (p := ⟨b2, o2, none⟩) hl2).trans HC1.out; have c5 := (HW4.out.cell (p := ⟨b2, o2 + 1, none⟩) hl2).trans HC2.out) | ((go_at_call 72); (with_reducible refine (HA.out _).mono ?_); rintro e w3 ⟨rfl, hbw3⟩; have HW3 := Lib.hid (HBR.out.trans (hbw3.mono HBR.out.size)); have c3 := (HW3.out.cell (p := ⟨b2, o2 + 1, none⟩) hl2).trans HC2.out))
              go_roundw
              case rel =>
                refine ⟨i + 1, by go_num, by omega, fun j hj => ?_, HW4.out⟩
                by_cases hji : j < i
                · exact HALL.out j hji
                · obtain rfl : j = i := by omega
                  exact HGOOD.out
              case measure => simp [intOf]; omega
    · have hge : (ms.length : Int) ≤ i := by omega
      have hBv : B = decide (0 < ms.length) := by
        rw [← HBB.out]
        unfold okM
        have : ms.all okM1 = true := by
          rw [List.all_eq_true]
          intro p hp
          obtain ⟨j, hj, rfl⟩ := List.mem_iff_getElem.1 hp
          have := HALL.out j (by omega)
          rwa [show ms.getD j default = ms[j] by simp [hj]] at this
        rw [this, Bool.and_true]
      have HBV := Lib.hid hBv
      clear hlt hi hBv hbel
      go_wp2_with fail
      go_ret
      exact ⟨by rw [HBV.out]; first | rfl | simp, HBR.out⟩

def Rbm (la lb : List Mp) (w : World) (ix : Value) (wr : World) : Prop := ∃ i : Nat, ix = .int .i64 (i : Int) ∧ i ≤ la.length ∧ i ≤ lb.length ∧ (∀ j, j < i → la.getD j default = lb.getD j default) ∧ Below w.heap.size w wr
set_option maxRecDepth 100000 in
set_option maxHeartbeats 16000000 in
theorem basM (a b : Value) (la lb : List Mp) (w : World) (ha : IsMs w a la) (hb : IsMs w b lb) : Calls Tryz.prog 34 #[a, b] w (RetB (.bool (decide (la = lb))) w) := by
  have hlena := ha.len (P := Tryz.prog) ulMs
  have hlenb := hb.len (P := Tryz.prog) ulMs
  have hmxa : (la.length : Int) ≤ 9223372036854775807 := IsR.maxl ha
  have hmxb : (lb.length : Int) ≤ 9223372036854775807 := IsR.maxl hb
  have HA := Lib.hid ha
  have HB := Lib.hid hb
  obtain ⟨A, c, rfl⟩ := isMs_slice ha
  obtain ⟨A', c', rfl⟩ := isMs_slice hb
  obtain ⟨R, hR⟩ : ∃ R, decide (la = lb) = R := ⟨_, rfl⟩
  rw [hR]
  have HR := Lib.hid hR
  clear ha hb hR
  go_enter Tryz.func34, Tryz.ntmps34
  go_wp2_with fail
  go_loopw [5] (fun ix wr => Rbm la lb w ix wr) (fun ix _ => la.length + 1 - (intOf ix).toNat)
  case atStart => exact ⟨0, rfl, Nat.zero_le _, Nat.zero_le _, fun j h => by omega, Below.refl _ _⟩
  case round =>
    obtain ⟨i, rfl, hi, hi', hall, hbel⟩ := hrel
    have HALL := Lib.hid hall
    have HBR := Lib.hid hbel
    clear hall
    by_cases hlt : i < la.length
    · have hltI : (i : Int) < la.length := by omega
      by_cases hlt' : i < lb.length
      · obtain ⟨b2, o2, hi2, hl2, hc1, hc2⟩ := HA.out.at_ (P := Tryz.prog) ulMs szMp .i64 i hlt
        obtain ⟨b3, o3, hi3, hl3, hd1, hd2⟩ := HB.out.at_ (P := Tryz.prog) ulMs szMp .i64 i hlt'
        have hga : la.getD i default = la[i] := by simp [hlt]
        have hgb : lb.getD i default = lb[i] := by simp [hlt']
        have h1o : wr.cell? ⟨b2, o2, none⟩ = some (.string la[i].1) := (hbel.cell (p := ⟨b2, o2, none⟩) hl2).trans hc1
        have h2o : wr.cell? ⟨b2, o2 + 1, none⟩ = some (.string la[i].2) := (hbel.cell (p := ⟨b2, o2 + 1, none⟩) hl2).trans hc2
        have h3o : wr.cell? ⟨b3, o3, none⟩ = some (.string lb[i].1) := (hbel.cell (p := ⟨b3, o3, none⟩) hl3).trans hd1
        have h4o : wr.cell? ⟨b3, o3 + 1, none⟩ = some (.string lb[i].2) := (hbel.cell (p := ⟨b3, o3 + 1, none⟩) hl3).trans hd2
        have hltI' : (i : Int) < lb.length := by omega
        clear hc1 hc2 hd1 hd2 hbel
        generalize ha0 : la[i] = x at *
        generalize hb0 : lb[i] = y at *
        obtain ⟨s0, s1⟩ := x
        obtain ⟨t0, t1⟩ := y
        simp only at h1o h2o h3o h4o
        have HGA := Lib.hid hga
        have HGB := Lib.hid hgb
        have hne : (s0, s1) ≠ (t0, t1) → R = false := fun h => by
          rw [← HR.out]
          refine decide_eq_false fun he => h ?_
          subst he
          rw [← ha0, ← hb0]
        have HNE := Lib.hid hne
        clear hga hgb ha0 hb0 hne
        by_cases e0 : s0 = t0
        · by_cases e1 : s1 = t1
          · subst e0 e1
            have heq := strEq0 s0
            have heq1 := strEq0 s1
            go_wp2_with fail
            go_quiet (fail)
            go_wp2_with fail
            go_roundw
            case rel =>
              refine ⟨i + 1, by go_num, by omega, by omega, fun j hj => ?_, below_drewN HBR.out nq⟩
              by_cases hji : j < i
              · exact HALL.out j hji
              · obtain rfl : j = i := by omega
                rw [HGA.out, HGB.out]
            case measure => simp [intOf]; omega
          · have heq := strNe0 e1
            have HBF := Lib.hid (HNE.out fun h => e1 (Prod.mk.inj h).2)
            clear e1
            go_wp2_with fail
            go_quiet (fail)
            go_wp2_with fail
            go_ret
            exact ⟨by rw [HBF.out]; rfl, below_drewN HBR.out nq⟩
        · have heq := strNe0 e0
          have HBF := Lib.hid (HNE.out fun h => e0 (Prod.mk.inj h).1)
          clear e0
          go_wp2_with fail
          go_quiet (fail)
          go_wp2_with fail
          go_ret
          exact ⟨by rw [HBF.out]; rfl, below_drewN HBR.out nq⟩
      · have hge : (lb.length : Int) ≤ i := by omega
        have hBv : R = false := by
          rw [← HR.out]
          refine decide_eq_false fun he => ?_
          subst he
          exact hlt' hlt
        have hdd : decide ((la.length : Int) = lb.length) = false := decide_eq_false (by omega)
        have hdd2 : ((la.length : Int) == lb.length) = false := beq_eq_false_iff_ne.2 (by omega)
        go_wp2_with fail
        go_ret
        exact ⟨by rw [hBv]; first | rfl | simp, HBR.out⟩
    · have hge : (la.length : Int) ≤ i := by omega
      have hBv : R = decide (la.length = lb.length) := by
        rw [← HR.out]
        apply decide_eq_decide.2
        constructor
        · intro h; rw [h]
        · intro h
          apply List.ext_getElem h
          intro j h1 h2
          have := HALL.out j (by omega)
          simpa [h1, h2] using this
      go_wp2_with fail
      go_ret
      refine ⟨?_, HBR.out⟩
      rw [hBv]
      by_cases hll : la.length = lb.length
      · simp [hll]
      · simp [hll]; omega
end Go.Proofs.YtjjkimjdmpeddaaGreatDoor
end

/- Mappings: what is parsed is what would be marshalled, and what the reference parses. No program in sight. -/
section
set_option linter.unusedSimpArgs false
set_option linter.unusedVariables false
namespace Go.Proofs.YtjjkimjdmpeddaaGreatDoor
open Go.RowKit Go.Cr

theorem objL_eq (s : List UInt8) : objL (bStr s) = objB s := rfl
theorem objL_eq' (s : ByteArray) : objL s = objB s.data.toList := rfl
theorem seqL_eq (ls : List (List UInt8)) : seqL ls = seqB ls := rfl
theorem bStr_data (s : ByteArray) : bStr s.data.toList = s := bStr_eq s
/-- What is read of a mapping, whether it is one or not. -/
def rawM (x : List UInt8) : Mp := match eachL 2 2 x with
  | some [y0, y1] => (bStr ((idL y0).getD []), if (idL y0).isSome then bStr ((idL y1).getD []) else bStr [])
  | _ => (bStr [], bStr [])
def goodM (x : List UInt8) : Bool := match eachL 2 2 x with
  | some [y0, y1] => (idL y0).isSome && (idL y1).isSome
  | _ => false
/-- The mappings that bytes are. -/
def parMs (b : List UInt8) : Option (List Mp) := match eachL 1 2147483647 b with
  | none => none
  | some xs => if xs.all goodM then (if okM (xs.map rawM) then some (xs.map rawM) else none) else none
theorem goodM_par {x : List UInt8} (h : goodM x = true) : x = parM (rawM x) := by
  unfold goodM at h
  split at h
  · rename_i y0 y1 he
    rw [Bool.and_eq_true] at h
    obtain ⟨s0, h0⟩ := Option.isSome_iff_exists.1 h.1
    obtain ⟨s1, h1⟩ := Option.isSome_iff_exists.1 h.2
    have e0 := (idL_ok h0).2
    have e1 := (idL_ok h1).2
    have hr : rawM x = (bStr s0, bStr s1) := by
      unfold rawM
      rw [he]
      simp [h0, h1]
    rw [hr, (eachL_ok he).1, e0, e1]
    rfl
  · cases h
theorem parMs_mar {b : List UInt8} {ms : List Mp} (h : parMs b = some ms) : marM ms = some b := by
  unfold parMs at h
  split at h
  · cases h
  · rename_i xs he
    split at h
    · rename_i hg
      split at h
      · rename_i ho
        injection h with h
        subst h
        unfold marM
        rw [if_pos ho, (eachL_ok he).1, seqL_eq, List.map_map]
        have : xs.map (parM ∘ rawM) = xs := by
          conv => rhs; rw [← List.map_id xs]
          exact List.map_congr_left fun x hx => (goodM_par (List.all_eq_true.1 hg x hx)).symm
        rw [this]
      · cases h
    · cases h
theorem otherS_E {s : ByteArray} (h : otherS s = true) : (oidE s.data.toList).isSome = true := by
  unfold otherS at h
  rw [Bool.and_eq_true] at h
  rw [oidE_some]
  exact h.1
theorem parM_lens {m : Mp} (hl : (parM m).length ≤ 1000000) : (objB m.1.data.toList).length ≤ 1000000 ∧ (objB m.2.data.toList).length ≤ 1000000 := by
  have h1 := seqB_len [objB m.1.data.toList, objB m.2.data.toList]
  have e : parM m = seqB [objB m.1.data.toList, objB m.2.data.toList] := rfl
  rw [← e] at h1
  simp only [List.flatten_cons, List.flatten_nil, List.append_nil, List.length_append] at h1
  omega
theorem parM_raw {m : Mp} (h : okM1 m = true) (hl : (parM m).length ≤ 1000000) : goodM (parM m) = true ∧ rawM (parM m) = m := by
  unfold okM1 at h
  rw [Bool.and_eq_true] at h
  obtain ⟨l1, l2⟩ := parM_lens hl
  have h1 := seqB_len [objB m.1.data.toList, objB m.2.data.toList]
  have e : parM m = seqB [objB m.1.data.toList, objB m.2.data.toList] := rfl
  have he : eachL 2 2 (parM m) = some [objB m.1.data.toList, objB m.2.data.toList] := by
    rw [← e] at h1
    rw [e]
    exact eachL_seq (by omega) (by simp) (by simp) (fun p hp => by
      simp at hp
      rcases hp with rfl | rfl
      · exact objB_one _ l1
      · exact objB_one _ l2)
  have i0 := idL_obj (otherS_E h.1) l1
  have i1 := idL_obj (otherS_E h.2) l2
  constructor
  · unfold goodM; rw [he]; simp [i0, i1]
  · unfold rawM; rw [he]; simp [i0, i1, bStr_data]
theorem parM_len {ms : List Mp} {m : Mp} (h : m ∈ ms) : (parM m).length ≤ (seqL (ms.map parM)).length := by
  have h1 := seqB_len (ms.map parM)
  have h2 := mem_flat_len (List.mem_map.2 ⟨m, h, rfl⟩ : parM m ∈ ms.map parM)
  rw [seqL_eq]
  omega
theorem parM_one {m : Mp} (hl : (parM m).length ≤ 1000000) : ∃ x, oneE (parM m) = .ok x := seqB_one _ hl
theorem mar_parMs {b : List UInt8} {ms : List Mp} (h : marM ms = some b) (hl : b.length ≤ 1000000) : parMs b = some ms := by
  unfold marM at h
  split at h
  · rename_i ho
    injection h with h
    have ho' := ho
    unfold okM at ho'
    rw [Bool.and_eq_true, decide_eq_true_eq, List.all_eq_true] at ho'
    have hpl : ∀ m ∈ ms, (parM m).length ≤ 1000000 := fun m hm => by have := parM_len hm; rw [h] at this; omega
    have hone : ∀ p ∈ ms.map parM, ∃ x, oneE p = .ok x := fun p hp => by obtain ⟨m, hm, rfl⟩ := List.mem_map.1 hp; exact parM_one (hpl m hm)
    have hL := seqB_len (ms.map parM)
    rw [seqL_eq] at h
    rw [h] at hL
    have hc := cnt_flat hone
    have he : eachL 1 2147483647 b = some (ms.map parM) := by rw [← h]; exact eachL_seq (by omega) (by simp; omega) (by omega) hone
    unfold parMs
    rw [he]
    simp only
    have hr : (ms.map parM).map rawM = ms := by
      rw [List.map_map]
      conv => rhs; rw [← List.map_id ms]
      exact List.map_congr_left fun m hm => (parM_raw (ho'.2 m hm) (hpl m hm)).2
    rw [hr, if_pos ho, if_pos]
    rw [List.all_eq_true]
    intro p hp
    obtain ⟨m, hm, rfl⟩ := List.mem_map.1 hp
    exact (parM_raw (ho'.2 m hm) (hpl m hm)).1
  · cases h
/-! ### The reference's. -/
def rdM (k : List UInt8) : Mp := (bStr (rdObj ((kidsT 58 k).getD 0 [])), bStr (rdObj ((kidsT 58 k).getD 1 [])))
def rdMs (b : List UInt8) : List Mp := (kidsA b).map rdM
def rparMs (b : List UInt8) : Option (List Mp) := if marM (rdMs b) = some b then some (rdMs b) else none
theorem parM_rd {m : Mp} (h : okM1 m = true) (hl : (parM m).length ≤ 1000000) : treeOK 59 (parM m) ∧ rdM (parM m) = m := by
  unfold okM1 at h
  rw [Bool.and_eq_true] at h
  obtain ⟨l1, l2⟩ := parM_lens hl
  obtain ⟨k1, k2⟩ := kids_seq (d := 58) [objB m.1.data.toList, objB m.2.data.toList] hl (fun p hp => by
    simp at hp
    rcases hp with rfl | rfl
    · exact objB_tree 57 _ l1
    · exact objB_tree 57 _ l2)
  have e : parM m = seqB [objB m.1.data.toList, objB m.2.data.toList] := rfl
  refine ⟨k1, ?_⟩
  unfold rdM
  rw [e, k2]
  simp only [List.getD_cons_zero, List.getD_cons_succ]
  rw [rdObj_obj (otherS_E h.1) l1, rdObj_obj (otherS_E h.2) l2, bStr_data, bStr_data]
theorem rparMs_eq {b : List UInt8} (hl : b.length ≤ 1000000) : rparMs b = parMs b := by
  cases hp : parMs b with
  | some ms =>
    have hm := parMs_mar hp
    have hr : rdMs b = ms := by
      have h := hm
      unfold marM at h
      split at h
      · rename_i ho
        injection h with h
        unfold okM at ho
        rw [Bool.and_eq_true, decide_eq_true_eq, List.all_eq_true] at ho
        have hpl : ∀ m ∈ ms, (parM m).length ≤ 1000000 := fun m hm => by have := parM_len hm; rw [h] at this; omega
        obtain ⟨k1, k2⟩ := kids_seq (d := 59) (ms.map parM) (by rw [← seqL_eq, h]; exact hl) (fun p hp => by
          obtain ⟨m, hm, rfl⟩ := List.mem_map.1 hp
          exact (parM_rd (ho.2 m hm) (hpl m hm)).1)
        rw [← seqL_eq, h] at k1 k2
        unfold rdMs kidsA
        rw [if_pos k1, k2, List.map_map]
        conv => rhs; rw [← List.map_id ms]
        exact List.map_congr_left fun m hm => (parM_rd (ho.2 m hm) (hpl m hm)).2
      · cases h
    unfold rparMs
    rw [hr]
    exact if_pos hm
  | none =>
    unfold rparMs
    split
    · rename_i h
      have := mar_parMs h hl
      rw [hp] at this
      cases this
    · rfl
end Go.Proofs.YtjjkimjdmpeddaaGreatDoor
end

/- Policies, qualifiers and mappings as rows of things. -/
section
set_option linter.unusedSimpArgs false
set_option linter.unusedVariables false
namespace Go.Cr
open Go.RowKit
theorem isQs_of {S : Nat → Prop} {w : World} {v : Value} {qs : List Qual} (h : IsL repA S w v qs) : IsQs w v qs := by
  obtain ⟨xs, h1, h2⟩ := h
  refine ⟨xs, h1.isR, fun j hj => ?_⟩
  obtain ⟨u, e, hu⟩ := h2.2 j hj
  exact ⟨u, e, hu.isR.bytes⟩
theorem isPs_of {S : Nat → Prop} {w : World} {v : Value} {ps : List Pol} (h : IsL (repS repA) S w v ps) : IsPs w v ps := by
  obtain ⟨xs, h1, h2⟩ := h
  refine ⟨xs, h1.isR, fun j hj => ?_⟩
  obtain ⟨u, e, hu⟩ := h2.2 j hj
  exact ⟨u, e, isQs_of hu⟩
theorem mCells_of {xs : List Value} {ms : List Mp} (hl : xs.length = ms.length * 2) (h : ∀ j (hj : j < ms.length), (xs.drop (j * 2)).take 2 = [.string ms[j].1, .string ms[j].2]) : xs = mCells ms := by
  apply List.ext_getElem?
  intro i
  by_cases hi : i < ms.length * 2
  · have hj : i / 2 < ms.length := by omega
    have h1 := take2_at (h _ hj)
    have h2 := mCells_at ms (i / 2) hj
    rcases (by omega : i = i / 2 * 2 + 0 ∨ i = i / 2 * 2 + 1) with e | e
    · rw [e, h1.1, h2.1]
    · rw [e, h1.2, h2.2]
  · rw [List.getElem?_eq_none (by omega), List.getElem?_eq_none (by rw [mCells_len]; omega)]
theorem isMs_of {S : Nat → Prop} {w : World} {v : Value} {ms : List Mp} (h : IsL repT S w v ms) : IsMs w v ms := by
  obtain ⟨xs, h1, h2, h3⟩ := h
  obtain rfl := mCells_of h2 h3
  exact h1.isR
end Go.Cr
end

/- Walks over the reference's MarshalMappings, ReadMappings and ParseMappings. -/
section
set_option linter.unusedSimpArgs false
set_option linter.unusedVariables false
namespace Go.Proofs.YtjjkimjdmpeddaaGreatDoor
open Go.RowKit Go.Cr

theorem rPutSeq (v : Value) (ls : List (List UInt8)) (w : World) (hv : IsBs w v ls) (hl : ls.flatten.length ≤ 900000) : Calls Tryz.prog 51 #[.int .u8 48, v] w (RetO 5 (seqL ls) w) := by
  have := rPuts 48 v ls w hv hl
  have e : (48 :: (lenOct ls.flatten.length ++ ls.flatten)) = seqL ls := by unfold seqL encO; rfl
  rwa [e] at this
theorem rObjL (s : ByteArray) (w : World) (hs : s.size ≤ 100000) (h : otherS s = true) : Calls Tryz.prog 67 #[.string s] w (RetO 5 (objL s) w) := by
  obtain ⟨c, hc⟩ := Option.isSome_iff_exists.1 (otherS_E h)
  have e : objL s = encO 0 false 6 c := by unfold objL; rw [hc]; rfl
  rw [e]
  exact rObject s c w hs hc
set_option maxRecDepth 100000 in
set_option maxHeartbeats 4000000 in
theorem rMarM_no (v : Value) (ms : List Mp) (w : World) (hv : IsMs w v ms) (hz : SzM ms) (ho : okM ms = false) : Calls Tryz.prog 30 #[v] w (RetB (.tuple #[.slice none 0 0, .int .i64 8]) w) := by
  have HV0 : Hid (Calls Tryz.prog 32 #[v] w (RetB (.bool false) w)) := by have := rValidM v ms w hv hz; rw [ho] at this; exact this
  obtain ⟨A, c, rfl⟩ := isMs_slice hv
  clear hv hz ho
  go_enter Tryz.func30, Tryz.ntmps30
  go_wp2_with (((go_at_call 32); (with_reducible refine (HV0.out).mono ?_); rintro e w1 ⟨rfl, hbw1⟩))
  go_ret2
  exact ⟨rfl, hbw1⟩
set_option maxRecDepth 100000 in
set_option maxHeartbeats 8000000 in
theorem rMarM_yes (v : Value) (ms : List Mp) (w : World) (hv : IsMs w v ms) (hz : SzM ms) (hT : (ms.map parM).flatten.length ≤ 900000) (ho : okM ms = true) : Calls Tryz.prog 30 #[v] w (RetOidY (seqL (ms.map parM)) w) := by
  have HV0 : Hid (Calls Tryz.prog 32 #[v] w (RetB (.bool true) w)) := by have := rValidM v ms w hv hz; rw [ho] at this; exact this
  have hlen := hv.len (P := Tryz.prog) ulMs
  have hall : ∀ m ∈ ms, otherS m.1 = true ∧ otherS m.2 = true := fun m hm => by
    unfold okM at ho
    rw [Bool.and_eq_true, List.all_eq_true] at ho
    have := ho.2 m hm
    unfold okM1 at this
    rwa [Bool.and_eq_true] at this
  have HO1 : Hid (∀ (i : Nat) (h : i < ms.length) W, Calls Tryz.prog 67 #[.string ms[i].1] W (RetO 5 (objL ms[i].1) W)) := fun i h W => rObjL _ W (hz.2 _ (List.getElem_mem h)).1 (hall _ (List.getElem_mem h)).1
  have HO2 : Hid (∀ (i : Nat) (h : i < ms.length) W, Calls Tryz.prog 67 #[.string ms[i].2] W (RetO 5 (objL ms[i].2) W)) := fun i h W => rObjL _ W (hz.2 _ (List.getElem_mem h)).2 (hall _ (List.getElem_mem h)).2
  have HSQ : Hid (∀ (i : Nat) (h : i < ms.length) u W, IsBs W u [objL ms[i].1, objL ms[i].2] → Calls Tryz.prog 51 #[.int .u8 48, u] W (RetO 5 (parM ms[i]) W)) := fun i h u W hu => rPutSeq u _ W hu (by
    have h1 := flat_part parM (List.getElem_mem h)
    have h2 := seqL_len [objL ms[i].1, objL ms[i].2]
    have h0 : parM ms[i] = seqL [objL ms[i].1, objL ms[i].2] := rfl
    rw [h0] at h1
    omega)
  have HEL : Hid (∀ u W, IsBs W u (ms.map parM) → Calls Tryz.prog 51 #[.int .u8 48, u] W (RetO 5 (seqL (ms.map parM)) W)) := fun u W h => rPutSeq u _ W h hT
  have HV := Lib.hid hv
  obtain ⟨A, c, rfl⟩ := isMs_slice hv
  have hnI : (ms.length : Int) ≤ 10000 := by have := hz.1; omega
  obtain ⟨R, hR⟩ : ∃ R, seqL (ms.map parM) = R := ⟨_, rfl⟩
  rw [hR] at HEL ⊢
  clear hv hz hT ho hR hall
  go_enter Tryz.func30, Tryz.ntmps30
  go_wp2_with (((go_at_call 32); (with_reducible refine (HV0.out).mono ?_); rintro e w1 ⟨rfl, hbw1⟩; have HB1 := Lib.hid hbw1; clear hbw1))
  go_loopw [4, 5] (fun out ix wr => MmRel ms w1 out ix wr) (fun _ ix _ => ms.length + 1 - (intOf ix).toNat)
  case atStart => exact ⟨0, rfl, Nat.zero_le _, OwP.nil_ _ _ _, Below.refl _ _⟩
  case round =>
    obtain ⟨i, rfl, hi, how, hbel⟩ := hrel
    have HOW := Lib.hid how
    have HBR := Lib.hid hbel
    clear how
    by_cases hlt : i < ms.length
    · obtain ⟨b2, o2, hi2, hl1, hd1, hd2⟩ := (HV.out.below HB1.out).at_ (P := Tryz.prog) ulMs szMp .i64 i hlt
      have hl2 : b2 < wr.heap.size := Nat.lt_of_lt_of_le hl1 hbel.size
      have hc1 := (hbel.cell (p := ⟨b2, o2, none⟩) hl1).trans hd1
      have hc2 := (hbel.cell (p := ⟨b2, o2 + 1, none⟩) hl1).trans hd2
      have HA := Lib.hid (HO1.out i hlt)
      have HB := Lib.hid (HO2.out i hlt)
      have HS := Lib.hid (HSQ.out i hlt)
      have htk : (ms.take (i + 1)).map parM = (ms.take i).map parM ++ [parM ms[i]] := by rw [List.take_succ_eq_append_getElem hlt, List.map_append]; rfl
      have HTK := Lib.hid htk
      have hltI : (i : Int) < ms.length := by omega
      have hll : ((ms.take i).map parM).length ≤ 10000 := by rw [List.length_map, List.length_take]; omega
      have HLL := Lib.hid hll
      have hszr : w1.heap.size ≤ wr.heap.size := hbel.size
      clear hbel htk hll
      obtain ⟨s0, hs0⟩ : ∃ s0, ms[i].1 = s0 := ⟨_, rfl⟩
      obtain ⟨s1, hs1⟩ : ∃ s1, ms[i].2 = s1 := ⟨_, rfl⟩
      rw [hs0] at hc1 hd1 HA HS
      rw [hs1] at hc2 hd2 HB HS
      clear hs0 hs1
      generalize parM ms[i] = pl at *
      generalize hLg : (ms.take i).map parM = LL at *
      have HC1 := Lib.hid hc1
      have HC2 := Lib.hid hc2
      have HD1 := Lib.hid hd1
      have HD2 := Lib.hid hd2
      clear hd1 hd2
      go_wp2_with fail
      have hcur := Lib.hid ((Below.refl wr.heap.size wr).drew)
      have hgn := HOW.out.notNew (Nat.le_refl _)
      go_region_held3 (fun W' => W'.cell? ⟨b2, o2, none⟩ = some (.string s0) ∧ W'.cell? ⟨b2, o2 + 1, none⟩ = some (.string s1))
        (first | go_keep | exact ⟨(HBD.out.cell (p := ⟨b2, o2, none⟩) hl1).trans HD1.out, (HBD.out.cell (p := ⟨b2, o2 + 1, none⟩) hl1).trans HD2.out⟩ | exact ⟨(hcur.out.cell (p := ⟨b2, o2, none⟩) hl2).trans HC1.out, (hcur.out.cell (p := ⟨b2, o2 + 1, none⟩) hl2).trans HC2.out⟩ | exact ⟨((hcur.out.alloc hcur.out.size _).cell (p := ⟨b2, o2, none⟩) hl2).trans HC1.out, ((hcur.out.alloc hcur.out.size _).cell (p := ⟨b2, o2 + 1, none⟩) hl2).trans HC2.out⟩)
        (first
          | ((go_at_call 51); (with_reducible refine (HS.out _ _ (isBs_two rfl (HVA.out.below hAB) HVB.out)).mono ?_); rintro e wc ⟨vc, rfl, hoc, hbwc⟩; obtain ⟨Ac, kc, rfl⟩ := isB_slice hoc.isB; have HPC := Lib.hid (part_newP hoc (HOW.out.below (hcur.out.alloc hcur.out.size _)) (by have := hcur.out.size; simp; omega)); have hcur := Lib.hid ((hcur.out.alloc hcur.out.size _).trans (hbwc.mono (by have := hcur.out.size; simp; omega))); clear hoc)
          | ((go_at_call 67); (with_reducible refine (HB.out _).mono ?_); rintro e wb ⟨vb, rfl, hob, hbwb⟩; obtain ⟨Ab, kb, rfl⟩ := isB_slice hob.isB; have HVB := Lib.hid hob.isB; have hAB := hbwb; have hcur := Lib.hid (hcur.out.trans (hbwb.mono hcur.out.size)); clear hob)
          | ((go_at_call 67); (with_reducible refine (HA.out _).mono ?_); rintro e wa ⟨va, rfl, hoa, hbwa⟩; obtain ⟨Aa, ka, rfl⟩ := isB_slice hoa.isB; have HVA := Lib.hid hoa.isB; have hcur := Lib.hid (hcur.out.trans (hbwa.mono hcur.out.size)); clear hoa)
          | (rw [if_pos (by rfl)]; obtain ⟨vd, wd, hrd, hod, hbd, hgd⟩ := run_appP (P := Tryz.prog) (wc.alloc (.cells #[.slice Ac pl.length kc] 32)) w1.heap.size 28 28 32 ulBs infoBss _ LL (HOW.out.below (hcur.out.alloc hcur.out.size _)) _ (.slice Ac pl.length kc) pl isR_one (HPC.out.alloc _) (by have := HLL.out; omega) (by have := hcur.out.size; simp; omega); have HOD := Lib.hid hod; have HBD := Lib.hid ((HBR.out.trans ((hcur.out.alloc hcur.out.size (.cells #[.slice Ac pl.length kc] 32)).mono hszr)).trans hbd); refine wp_appR _ _ _ _ rfl _ _ _ _ rfl rfl hrd ?_))
      all_goals
        go_wp2_with fail
        go_roundw
        case rel => exact ⟨i + 1, by go_num, by omega, by rw [HTK.out]; exact HOD.out, HBD.out⟩
        case measure => simp [intOf]; omega
    · have hie : i = ms.length := by omega
      have how := HOW.out
      rw [hie, List.take_length] at how
      have HO := Lib.hid how
      have hge : (ms.length : Int) ≤ i := by omega
      obtain ⟨Ao, ko, hoe⟩ := how.slice
      rw [List.length_map] at hoe
      subst hoe
      clear how hie hlt hi hbel
      go_wp2_with (((go_at_call 51); (with_reducible refine (HEL.out _ _ HO.out.isBs).mono ?_); rintro e w9 ⟨v9, rfl, ho9, hbw9⟩; have HO9 := Lib.hid ho9; clear ho9))
      go_ret2
      have s1 := HB1.out.size; have s2 := HBR.out.size
      exact ⟨_, rfl, HO9.out.more (by omega), (HB1.out.trans (HBR.out.mono s1)).trans (hbw9.mono (by omega))⟩
end Go.Proofs.YtjjkimjdmpeddaaGreatDoor
end

/- Policies: what is parsed is what would be marshalled, and what the reference parses. No program in sight. -/
section
set_option linter.unusedSimpArgs false
set_option linter.unusedVariables false
namespace Go.Proofs.YtjjkimjdmpeddaaGreatDoor
open Go.RowKit Go.Cr

/-- What is read of a qualifier. -/
def rawQ (x : List UInt8) : Qual := match eachL 2 2 x with
  | some [y0, y1] => (bStr ((idL y0).getD []), y1)
  | _ => (bStr [], [])
def goodQ (x : List UInt8) : Bool := match eachL 2 2 x with
  | some [y0, y1] => (idL y0).isSome && decide (treeOK 16 y1)
  | _ => false
/-- What is read of the list of qualifiers. -/
def goodQs (y : List UInt8) : Bool := match eachL 1 2147483647 y with
  | none => false
  | some zs => zs.all goodQ
def rawQs (y : List UInt8) : List Qual := ((eachL 1 2147483647 y).getD []).map rawQ
/-- What is read of a policy. -/
def goodP (x : List UInt8) : Bool := match eachL 1 2 x with
  | some [y0] => (idL y0).isSome
  | some [y0, y1] => (idL y0).isSome && goodQs y1
  | _ => false
def rawP (x : List UInt8) : Pol := match eachL 1 2 x with
  | some [y0] => (bStr ((idL y0).getD []), [])
  | some [y0, y1] => (bStr ((idL y0).getD []), rawQs y1)
  | _ => (bStr [], [])
/-- The policies that bytes are. -/
def parPs (b : List UInt8) : Option (List Pol) := match eachL 1 2147483647 b with
  | none => none
  | some xs => if xs.all goodP then (if okP (xs.map rawP) then some (xs.map rawP) else none) else none

theorem map_id_of {α : Type} {f : α → α} {xs : List α} (h : ∀ x ∈ xs, f x = x) : xs.map f = xs := by
  conv => rhs; rw [← List.map_id xs]
  exact List.map_congr_left fun x hx => h x hx
theorem goodQ_qua {x : List UInt8} (h : goodQ x = true) : x = quaL (rawQ x) := by
  unfold goodQ at h
  split at h
  · rename_i y0 y1 he
    rw [Bool.and_eq_true] at h
    obtain ⟨s0, h0⟩ := Option.isSome_iff_exists.1 h.1
    have hr : rawQ x = (bStr s0, y1) := by unfold rawQ; rw [he]; simp [h0]
    rw [hr, (eachL_ok he).1, (idL_ok h0).2]
    rfl
  · cases h
theorem goodQs_qua {y : List UInt8} (h : goodQs y = true) : y = seqL ((rawQs y).map quaL) ∧ rawQs y ≠ [] := by
  unfold goodQs at h
  unfold rawQs
  split at h
  · cases h
  · rename_i zs he
    rw [he]
    simp only [Option.getD_some]
    obtain ⟨h1, h2, _, _⟩ := eachL_ok he
    constructor
    · rw [List.map_map, map_id_of (f := quaL ∘ rawQ) (fun x hx => (goodQ_qua (List.all_eq_true.1 h x hx)).symm)]
      exact h1
    · intro e
      rw [List.map_eq_nil_iff] at e
      rw [e] at h2
      simp at h2
theorem goodP_pol {x : List UInt8} (h : goodP x = true) : x = polL (rawP x) := by
  unfold goodP at h
  split at h
  · rename_i y0 he
    obtain ⟨s0, h0⟩ := Option.isSome_iff_exists.1 h
    have hr : rawP x = (bStr s0, []) := by unfold rawP; rw [he]; simp [h0]
    rw [hr, (eachL_ok he).1, (idL_ok h0).2]
    rfl
  · rename_i y0 y1 he
    rw [Bool.and_eq_true] at h
    obtain ⟨s0, h0⟩ := Option.isSome_iff_exists.1 h.1
    obtain ⟨g1, g2⟩ := goodQs_qua h.2
    have hr : rawP x = (bStr s0, rawQs y1) := by unfold rawP; rw [he]; simp [h0]
    unfold polL
    rw [hr, (eachL_ok he).1, (idL_ok h0).2]
    simp only
    rw [if_neg g2, ← g1]
    rfl
  · cases h
theorem parPs_mar {b : List UInt8} {ps : List Pol} (h : parPs b = some ps) : marP ps = some b := by
  unfold parPs at h
  split at h
  · cases h
  · rename_i xs he
    split at h
    · rename_i hg
      split at h
      · rename_i ho
        injection h with h
        subst h
        unfold marP
        rw [if_pos ho, (eachL_ok he).1, List.map_map, map_id_of (f := polL ∘ rawP) (fun x hx => (goodP_pol (List.all_eq_true.1 hg x hx)).symm)]
        rfl
      · cases h
    · cases h
theorem quaL_lens {q : Qual} (hl : (quaL q).length ≤ 1000000) : (objB q.1.data.toList).length ≤ 1000000 ∧ q.2.length ≤ 1000000 := by
  have h1 := seqB_len [objB q.1.data.toList, q.2]
  have e : quaL q = seqB [objB q.1.data.toList, q.2] := rfl
  rw [← e] at h1
  simp only [List.flatten_cons, List.flatten_nil, List.append_nil, List.length_append] at h1
  omega
theorem quaL_raw {q : Qual} (h : okQ q = true) (hl : (quaL q).length ≤ 1000000) : goodQ (quaL q) = true ∧ rawQ (quaL q) = q := by
  unfold okQ at h
  rw [Bool.and_eq_true, decide_eq_true_eq, ← oidE_some] at h
  obtain ⟨l1, l2⟩ := quaL_lens hl
  have h1 := seqB_len [objB q.1.data.toList, q.2]
  have e : quaL q = seqB [objB q.1.data.toList, q.2] := rfl
  have he : eachL 2 2 (quaL q) = some [objB q.1.data.toList, q.2] := by
    rw [← e] at h1
    rw [e]
    exact eachL_seq (by omega) (by simp) (by simp) (fun p hp => by
      simp at hp
      rcases hp with rfl | rfl
      · exact objB_one _ l1
      · exact treeOK_one h.2)
  have i0 := idL_obj h.1 l1
  constructor
  · unfold goodQ; rw [he]; simp [i0, h.2]
  · unfold rawQ; rw [he]; simp [i0, bStr_data]
theorem map_len {α : Type} {f : α → List UInt8} {ys : List α} {a : α} (h : a ∈ ys) : (f a).length < (seqL (ys.map f)).length := by
  have h1 := seqB_len (ys.map f)
  have h2 := mem_flat_len (List.mem_map.2 ⟨a, h, rfl⟩ : f a ∈ ys.map f)
  rw [seqL_eq]
  omega
theorem quas_raw {qs : List Qual} (h : qs.all okQ = true) (hne : qs ≠ []) (hl : (seqL (qs.map quaL)).length ≤ 1000000) : goodQs (seqL (qs.map quaL)) = true ∧ rawQs (seqL (qs.map quaL)) = qs := by
  rw [List.all_eq_true] at h
  have hql : ∀ q ∈ qs, (quaL q).length ≤ 1000000 := fun q hq => by have := map_len (f := quaL) hq; omega
  have hone : ∀ p ∈ qs.map quaL, ∃ x, oneE p = .ok x := fun p hp => by obtain ⟨q, hq, rfl⟩ := List.mem_map.1 hp; exact seqB_one _ (hql q hq)
  have hL := seqB_len (qs.map quaL)
  have hc := cnt_flat hone
  have hn : 0 < qs.length := List.length_pos_iff.2 hne
  rw [seqL_eq] at hl ⊢
  have he : eachL 1 2147483647 (seqB (qs.map quaL)) = some (qs.map quaL) := eachL_seq (by omega) (by simp; omega) (by omega) hone
  constructor
  · unfold goodQs
    rw [he]
    simp only
    rw [List.all_eq_true]
    intro p hp
    obtain ⟨q, hq, rfl⟩ := List.mem_map.1 hp
    exact (quaL_raw (h q hq) (hql q hq)).1
  · unfold rawQs
    rw [he]
    simp only [Option.getD_some]
    rw [List.map_map, map_id_of (f := rawQ ∘ quaL) (fun q hq => (quaL_raw (h q hq) (hql q hq)).2)]
theorem polL_raw {p : Pol} (h1 : (arcsL p.1.data.toList).isSome) (h2 : p.2.all okQ = true) (hl : (polL p).length ≤ 1000000) : goodP (polL p) = true ∧ rawP (polL p) = p := by
  obtain ⟨s, qs⟩ := p
  simp only at h1 h2
  rw [← oidE_some] at h1
  by_cases hq : qs = []
  · subst hq
    have e : polL (s, []) = seqB [objB s.data.toList] := rfl
    have hL := seqB_len [objB s.data.toList]
    rw [e] at hl ⊢
    have l1 : (objB s.data.toList).length ≤ 1000000 := by simp only [List.flatten_cons, List.flatten_nil, List.append_nil] at hL; omega
    have he : eachL 1 2 (seqB [objB s.data.toList]) = some [objB s.data.toList] := eachL_seq (by omega) (by simp) (by simp) (fun p hp => by simp at hp; subst hp; exact objB_one _ l1)
    have i0 := idL_obj h1 l1
    constructor
    · unfold goodP; rw [he]; simp [i0]
    · unfold rawP; rw [he]; simp [i0, bStr_data]
  · have e : polL (s, qs) = seqB [objB s.data.toList, seqL (qs.map quaL)] := by unfold polL; simp only; rw [if_neg hq]; rfl
    have hL := seqB_len [objB s.data.toList, seqL (qs.map quaL)]
    rw [e] at hl ⊢
    have hL' := hL
    simp only [List.flatten_cons, List.flatten_nil, List.append_nil, List.length_append] at hL'
    have l1 : (objB s.data.toList).length ≤ 1000000 := by omega
    have l2 : (seqL (qs.map quaL)).length ≤ 1000000 := by omega
    obtain ⟨g1, g2⟩ := quas_raw h2 hq l2
    have he : eachL 1 2 (seqB [objB s.data.toList, seqL (qs.map quaL)]) = some [objB s.data.toList, seqL (qs.map quaL)] := eachL_seq (by omega) (by simp) (by simp) (fun p hp => by
      simp at hp
      rcases hp with rfl | rfl
      · exact objB_one _ l1
      · exact seqB_one _ l2)
    have i0 := idL_obj h1 l1
    constructor
    · unfold goodP; rw [he]; simp [i0, g1]
    · unfold rawP; rw [he]; simp [i0, g2, bStr_data]
theorem okP_at {ps : List Pol} (h : okP ps = true) {p : Pol} (hp : p ∈ ps) : (arcsL p.1.data.toList).isSome = true ∧ p.2.all okQ = true := by
  unfold okP at h
  rw [Bool.and_eq_true, List.all_eq_true] at h
  obtain ⟨i, hi, rfl⟩ := List.getElem_of_mem hp
  have := h.2 i (by simp [hi])
  unfold okP1 at this
  have hg : ps.getD i default = ps[i] := by simp [hi]
  rw [hg, Bool.and_eq_true, Bool.and_eq_true] at this
  exact ⟨this.1.1, this.2⟩
theorem mar_parPs {b : List UInt8} {ps : List Pol} (h : marP ps = some b) (hl : b.length ≤ 1000000) : parPs b = some ps := by
  unfold marP at h
  split at h
  · rename_i ho
    injection h with h
    have hn : 0 < ps.length := by
      unfold okP at ho
      rw [Bool.and_eq_true, decide_eq_true_eq] at ho
      exact ho.1
    have hpl : ∀ p ∈ ps, (polL p).length ≤ 1000000 := fun p hp => by have := map_len (f := polL) hp; rw [h] at this; omega
    have hone : ∀ p ∈ ps.map polL, ∃ x, oneE p = .ok x := fun p hp => by obtain ⟨m, hm, rfl⟩ := List.mem_map.1 hp; exact seqB_one _ (hpl m hm)
    have hL := seqB_len (ps.map polL)
    rw [seqL_eq] at h
    rw [h] at hL
    have hc := cnt_flat hone
    have he : eachL 1 2147483647 b = some (ps.map polL) := by rw [← h]; exact eachL_seq (by omega) (by simp; omega) (by omega) hone
    unfold parPs
    rw [he]
    simp only
    have hr : (ps.map polL).map rawP = ps := by
      rw [List.map_map]
      exact map_id_of (f := rawP ∘ polL) fun p hp => (polL_raw (okP_at ho hp).1 (okP_at ho hp).2 (hpl p hp)).2
    rw [hr, if_pos ho, if_pos]
    rw [List.all_eq_true]
    intro x hx
    obtain ⟨p, hp, rfl⟩ := List.mem_map.1 hx
    exact (polL_raw (okP_at ho hp).1 (okP_at ho hp).2 (hpl p hp)).1
  · cases h
/-! ### The reference's. -/
def rdQ (k : List UInt8) : Qual := (bStr (rdObj ((kidsT 56 k).getD 0 [])), (kidsT 56 k).getD 1 [])
def rdP (k : List UInt8) : Pol := (bStr (rdObj ((kidsT 58 k).getD 0 [])), (kidsT 57 ((kidsT 58 k).getD 1 [])).map rdQ)
def rdPs (b : List UInt8) : List Pol := (kidsA b).map rdP
def rparPs (b : List UInt8) : Option (List Pol) := if marP (rdPs b) = some b then some (rdPs b) else none
theorem quaL_rd {q : Qual} (h : okQ q = true) (hl : (quaL q).length ≤ 1000000) : treeOK 57 (quaL q) ∧ rdQ (quaL q) = q := by
  unfold okQ at h
  rw [Bool.and_eq_true, decide_eq_true_eq, ← oidE_some] at h
  obtain ⟨l1, l2⟩ := quaL_lens hl
  obtain ⟨k1, k2⟩ := kids_seq (d := 56) [objB q.1.data.toList, q.2] hl (fun p hp => by
    simp at hp
    rcases hp with rfl | rfl
    · exact objB_tree 55 _ l1
    · exact treeOK_mono (by decide) h.2)
  have e : quaL q = seqB [objB q.1.data.toList, q.2] := rfl
  refine ⟨k1, ?_⟩
  unfold rdQ
  rw [e, k2]
  simp only [List.getD_cons_zero, List.getD_cons_succ]
  rw [rdObj_obj h.1 l1, bStr_data]
theorem polL_rd {p : Pol} (h1 : (arcsL p.1.data.toList).isSome) (h2 : p.2.all okQ = true) (hl : (polL p).length ≤ 1000000) : treeOK 59 (polL p) ∧ rdP (polL p) = p := by
  obtain ⟨s, qs⟩ := p
  simp only at h1 h2
  rw [← oidE_some] at h1
  by_cases hq : qs = []
  · subst hq
    have e : polL (s, []) = seqB [objB s.data.toList] := rfl
    have hL := seqB_len [objB s.data.toList]
    rw [e] at hl ⊢
    have l1 : (objB s.data.toList).length ≤ 1000000 := by simp only [List.flatten_cons, List.flatten_nil, List.append_nil] at hL; omega
    obtain ⟨k1, k2⟩ := kids_seq (d := 58) [objB s.data.toList] hl (fun p hp => by simp at hp; subst hp; exact objB_tree 57 _ l1)
    refine ⟨k1, ?_⟩
    unfold rdP
    rw [k2]
    simp only [List.getD_cons_zero, List.getD_cons_succ]
    rw [rdObj_obj h1 l1, bStr_data]
    rfl
  · have e : polL (s, qs) = seqB [objB s.data.toList, seqL (qs.map quaL)] := by unfold polL; simp only; rw [if_neg hq]; rfl
    have hL := seqB_len [objB s.data.toList, seqL (qs.map quaL)]
    rw [e] at hl ⊢
    simp only [List.flatten_cons, List.flatten_nil, List.append_nil, List.length_append] at hL
    have l1 : (objB s.data.toList).length ≤ 1000000 := by omega
    have l2 : (seqL (qs.map quaL)).length ≤ 1000000 := by omega
    rw [List.all_eq_true] at h2
    have hql : ∀ q ∈ qs, (quaL q).length ≤ 1000000 := fun q hq => by have := map_len (f := quaL) hq; omega
    obtain ⟨j1, j2⟩ := kids_seq (d := 57) (qs.map quaL) (by rw [← seqL_eq]; exact l2) (fun x hx => by
      obtain ⟨q, hq, rfl⟩ := List.mem_map.1 hx
      exact (quaL_rd (h2 q hq) (hql q hq)).1)
    rw [← seqL_eq] at j1 j2
    obtain ⟨k1, k2⟩ := kids_seq (d := 58) [objB s.data.toList, seqL (qs.map quaL)] hl (fun p hp => by
      simp at hp
      rcases hp with rfl | rfl
      · exact objB_tree 57 _ l1
      · exact j1)
    refine ⟨k1, ?_⟩
    unfold rdP
    rw [k2]
    simp only [List.getD_cons_zero, List.getD_cons_succ]
    rw [rdObj_obj h1 l1, bStr_data, j2, List.map_map, map_id_of (f := rdQ ∘ quaL) (fun q hq => (quaL_rd (h2 q hq) (hql q hq)).2)]
theorem rparPs_eq {b : List UInt8} (hl : b.length ≤ 1000000) : rparPs b = parPs b := by
  cases hp : parPs b with
  | some ps =>
    have hm := parPs_mar hp
    have hr : rdPs b = ps := by
      have h := hm
      unfold marP at h
      split at h
      · rename_i ho
        injection h with h
        have hpl : ∀ p ∈ ps, (polL p).length ≤ 1000000 := fun p hp => by have := map_len (f := polL) hp; rw [h] at this; omega
        obtain ⟨k1, k2⟩ := kids_seq (d := 59) (ps.map polL) (by rw [← seqL_eq, h]; exact hl) (fun x hx => by
          obtain ⟨p, hp, rfl⟩ := List.mem_map.1 hx
          exact (polL_rd (okP_at ho hp).1 (okP_at ho hp).2 (hpl p hp)).1)
        rw [← seqL_eq, h] at k1 k2
        unfold rdPs kidsA
        rw [if_pos k1, k2, List.map_map]
        exact map_id_of (f := rdP ∘ polL) fun p hp => (polL_rd (okP_at ho hp).1 (okP_at ho hp).2 (hpl p hp)).2
      · cases h
    unfold rparPs
    rw [hr]
    exact if_pos hm
  | none =>
    unfold rparPs
    split
    · rename_i h
      have := mar_parPs h hl
      rw [hp] at this
      cases this
    · rfl
end Go.Proofs.YtjjkimjdmpeddaaGreatDoor
end

/- Walk over the reference's Marshal of policies. -/
section
set_option linter.unusedSimpArgs false
set_option linter.unusedVariables false
namespace Go.Proofs.YtjjkimjdmpeddaaGreatDoor
open Go.RowKit Go.Cr

theorem rObjE (s : ByteArray) (w : World) (hs : s.size ≤ 100000) (h : (arcsL s.data.toList).isSome = true) : Calls Tryz.prog 67 #[.string s] w (RetO 5 (objL s) w) := by
  rw [← oidE_some] at h
  obtain ⟨c, hc⟩ := Option.isSome_iff_exists.1 h
  have e : objL s = encO 0 false 6 c := by unfold objL; rw [hc]; rfl
  rw [e]
  exact rObject s c w hs hc
set_option maxRecDepth 100000 in
set_option maxHeartbeats 4000000 in
theorem rMarP_no (v : Value) (ps : List Pol) (w : World) (hv : IsPs w v ps) (hz : SzP ps) (ho : okP ps = false) : Calls Tryz.prog 37 #[v] w (RetB (.tuple #[.slice none 0 0, .int .i64 8]) w) := by
  have HV0 : Hid (Calls Tryz.prog 39 #[v] w (RetB (.bool false) w)) := by have := rValid17 v ps w hv hz; rw [ho] at this; exact this
  obtain ⟨A, c, rfl⟩ := isPs_slice hv
  clear hv hz ho
  go_enter Tryz.func37, Tryz.ntmps37
  go_wp2_with (((go_at_call 39); (with_reducible refine (HV0.out).mono ?_); rintro e w1 ⟨rfl, hbw1⟩))
  go_ret2
  exact ⟨rfl, hbw1⟩
set_option maxRecDepth 100000 in
set_option maxHeartbeats 16000000 in
theorem rMarP_yes (v : Value) (ps : List Pol) (w : World) (hv : IsPs w v ps) (hz : SzP ps) (hT : (ps.map polL).flatten.length ≤ 900000) (ho : okP ps = true) : Calls Tryz.prog 37 #[v] w (RetOidY (seqL (ps.map polL)) w) := by
  have HV0 : Hid (Calls Tryz.prog 39 #[v] w (RetB (.bool true) w)) := by have := rValid17 v ps w hv hz; rw [ho] at this; exact this
  have hlen := hv.len (P := Tryz.prog) ulPs
  have hpl : ∀ p ∈ ps, (polL p).length ≤ 900000 := fun p h => by have := flat_part polL h; omega
  have hinn : ∀ p ∈ ps, (objL p.1 :: (if p.2 = [] then [] else [seqL (p.2.map quaL)])).flatten.length ≤ 900000 := fun p h => by
    have h1 := hpl p h
    have h2 := seqL_len (objL p.1 :: (if p.2 = [] then [] else [seqL (p.2.map quaL)]))
    unfold polL at h1
    omega
  have HO1 : Hid (∀ p ∈ ps, ∀ W, Calls Tryz.prog 67 #[.string p.1] W (RetO 5 (objL p.1) W)) := fun p h W => rObjE _ W (by have := (hz.2 _ h).1; omega) (okP_at ho h).1
  have HO2 : Hid (∀ p ∈ ps, ∀ q ∈ p.2, ∀ W, Calls Tryz.prog 67 #[.string q.1] W (RetO 5 (objL q.1) W)) := fun p h q hq W => rObjE _ W (by have := ((hz.2 _ h).2.2 _ hq).1; omega) (by
    have h1 := List.all_eq_true.1 (okP_at ho h).2 q hq
    unfold okQ at h1
    rw [Bool.and_eq_true] at h1
    exact h1.1)
  have hqq : ∀ p ∈ ps, p.2 ≠ [] → (p.2.map quaL).flatten.length ≤ 900000 := fun p h hne => by
    have h1 := hinn p h
    rw [if_neg hne] at h1
    have h2 := seqL_len (p.2.map quaL)
    simp only [List.flatten_cons, List.length_append] at h1
    omega
  have HSQ : Hid (∀ p ∈ ps, ∀ q ∈ p.2, ∀ u W, IsBs W u [objL q.1, q.2] → Calls Tryz.prog 51 #[.int .u8 48, u] W (RetO 5 (quaL q) W)) := fun p h q hq u W hu => rPutSeq u _ W hu (by
    have h1 := flat_part quaL hq
    have h0 : quaL q = seqL [objL q.1, q.2] := rfl
    rw [h0] at h1
    have h2 := seqL_len [objL q.1, q.2]
    have h3 := hqq p h (fun e => by rw [e] at hq; cases hq)
    omega)
  have HSS : Hid (∀ p ∈ ps, p.2 ≠ [] → ∀ u W, IsBs W u (p.2.map quaL) → Calls Tryz.prog 51 #[.int .u8 48, u] W (RetO 5 (seqL (p.2.map quaL)) W)) := fun p h hne u W hu => rPutSeq u _ W hu (hqq p h hne)
  have HSP : Hid (∀ p ∈ ps, ∀ u W ls, ls = (objL p.1 :: (if p.2 = [] then [] else [seqL (p.2.map quaL)])) → IsBs W u ls → Calls Tryz.prog 51 #[.int .u8 48, u] W (RetO 5 (polL p) W)) := fun p h u W ls e hu => by
    subst e
    exact rPutSeq u _ W hu (hinn p h)
  have HEL : Hid (∀ u W, IsBs W u (ps.map polL) → Calls Tryz.prog 51 #[.int .u8 48, u] W (RetO 5 (seqL (ps.map polL)) W)) := fun u W h => rPutSeq u _ W h hT
  have HQN : Hid (∀ p ∈ ps, p.2.length ≤ 10000) := fun p h => (hz.2 _ h).2.1
  have HV := Lib.hid hv
  obtain ⟨A, c, rfl⟩ := isPs_slice hv
  have hnI : (ps.length : Int) ≤ 10000 := by have := hz.1; omega
  obtain ⟨R, hR⟩ : ∃ R, seqL (ps.map polL) = R := ⟨_, rfl⟩
  rw [hR] at HEL ⊢
  clear hv hz hT ho hR hpl hinn hqq
  go_enter Tryz.func37, Tryz.ntmps37
  go_wp2_with (((go_at_call 39); (with_reducible refine (HV0.out).mono ?_); rintro e w1 ⟨rfl, hbw1⟩; have HB1 := Lib.hid hbw1; clear hbw1))
  go_loopw [4, 5] (fun out ix wr => PmRel ps w1 out ix wr) (fun _ ix _ => ps.length + 1 - (intOf ix).toNat)
  case atStart => exact ⟨0, rfl, Nat.zero_le _, OwP.nil_ _ _ _, Below.refl _ _⟩
  case round =>
    obtain ⟨i, rfl, hi, how, hbel⟩ := hrel
    obtain ⟨wo, rfl⟩ : ∃ wo, wo = wr := ⟨_, rfl⟩
    have HOW := Lib.hid how
    have HBR := Lib.hid hbel
    have HBW := Lib.hid (HB1.out.trans (hbel.mono HB1.out.size))
    clear how
    by_cases hlt : i < ps.length
    · obtain ⟨b2, o2, A2, k2, hi2, hl2, hc1, hc2, hIQ⟩ := HV.out.at_ (P := Tryz.prog) ulPs szPol .i64 i hlt
      have HC2 := Lib.hid hc2
      have h1o := (HBW.out.cell (p := ⟨b2, o2, none⟩) hl2).trans hc1
      have HIQ := Lib.hid hIQ
      have htk : (ps.take (i + 1)).map polL = (ps.take i).map polL ++ [polL ps[i]] := by rw [List.take_succ_eq_append_getElem hlt, List.map_append]; rfl
      have hmem := List.getElem_mem hlt
      have hltI : (i : Int) < ps.length := by omega
      have hll : ((ps.take i).map polL).length ≤ 10000 := by rw [List.length_map, List.length_take]; omega
      have HLL := Lib.hid hll
      have hszr : w1.heap.size ≤ wo.heap.size := hbel.size
      clear hc1 hc2
      generalize ps[i] = p at *
      obtain ⟨s0, qs⟩ := p
      simp only at h1o HC2 HIQ
      have HA := Lib.hid (HO1.out _ hmem)
      have HA2 := Lib.hid (HO2.out _ hmem)
      have HS2 := Lib.hid (HSQ.out _ hmem)
      have HS3 := Lib.hid (HSS.out _ hmem)
      have HS4 := Lib.hid (HSP.out _ hmem)
      have hqn := HQN.out _ hmem
      simp only at HA HA2 HS2 HS3 HS4 hqn
      have HTK := Lib.hid htk
      have hlb : b2 < wo.heap.size := Nat.lt_of_lt_of_le hl2 HBW.out.size
      clear hbel htk hll hIQ hmem
      generalize polL (s0, qs) = pl at *
      generalize hLg : (ps.take i).map polL = LL at *
      have hqnI : (qs.length : Int) ≤ 10000 := by omega
      have hqlen := HIQ.out.len (P := Tryz.prog) ulQs
      go_wp2_with (((go_at_call 67); (with_reducible refine (HA.out _).mono ?_); rintro e wa ⟨va, rfl, hoa, hbwa⟩; obtain ⟨Aa, ka, rfl⟩ := isB_slice hoa.isB; have HBA := Lib.hid hbwa; have HPA := Lib.hid (OwP.lit1 (e := 32) hoa hbwa.size); clear hoa hbwa))
      obtain ⟨w2, hw2⟩ : ∃ w2, wa.alloc (.cells #[.slice Aa (objL s0).length ka] 32) = w2 := ⟨_, rfl⟩
      have hba2 : Below wo.heap.size wo w2 := by rw [← hw2]; exact HBA.out.alloc HBA.out.size _
      have HBA2 := Lib.hid hba2
      have HPA2 : Hid (OwP w2 wo.heap.size 32 (.slice (some ⟨wa.heap.size, 0, none⟩) 1 1) [objL s0]) := by rw [← hw2]; exact HPA.out
      have hw2s : w2.heap.size = wa.heap.size + 1 := by rw [← hw2]; simp
      rw [hw2]
      have HWW := Lib.hid (HBW.out.trans (HBA2.out.mono HBW.out.size))
      have HIQ2 := Lib.hid (HIQ.out.below HWW.out)
      clear hw2 hba2 HPA HBA h1o
      go_loopw [7, 8] (fun out ix wq => QmRel qs w2 out ix wq) (fun _ ix _ => qs.length + 1 - (intOf ix).toNat)
      case atStart => exact ⟨0, rfl, Nat.zero_le _, OwP.nil_ _ _ _, Below.refl _ _⟩
      case round =>
        obtain ⟨j, rfl, hj, howq, hbq⟩ := hrel
        have HOWQ := Lib.hid howq
        have HBQ := Lib.hid hbq
        have h2q : wr.cell? ⟨b2, o2 + 1, none⟩ = some (.slice A2 qs.length k2) := ((HWW.out.trans (hbq.mono HWW.out.size)).cell (p := ⟨b2, o2 + 1, none⟩) hl2).trans HC2.out
        have hlq2 : b2 < wr.heap.size := Nat.lt_of_lt_of_le hl2 (HWW.out.trans (hbq.mono HWW.out.size)).size
        clear howq
        by_cases hjl : j < qs.length
        · obtain ⟨b3, o3, A3, k3, hi3, hl3, hc3, hc4, hIB⟩ := (HIQ2.out.below hbq).at_ (P := Tryz.prog) ulQs szQual .i64 j hjl
          have HIB := Lib.hid hIB
          have hqm := List.getElem_mem hjl
          have htq : (qs.take (j + 1)).map quaL = (qs.take j).map quaL ++ [quaL qs[j]] := by rw [List.take_succ_eq_append_getElem hjl, List.map_append]; rfl
          have hjI : (j : Int) < qs.length := by omega
          have hlq : ((qs.take j).map quaL).length ≤ 10000 := by rw [List.length_map, List.length_take]; omega
          have hszq : w2.heap.size ≤ wr.heap.size := hbq.size
          generalize qs[j] = q at *
          obtain ⟨t0, l0⟩ := q
          simp only at hc3 hc4 HIB
          have HB := Lib.hid (HA2.out _ hqm)
          have HS := Lib.hid (HS2.out _ hqm)
          simp only at HB HS
          have HTQ := Lib.hid htq
          have HLQ := Lib.hid hlq
          clear hbq htq hlq hIB hqm
          generalize quaL (t0, l0) = ql at *
          generalize hLq : (qs.take j).map quaL = LQ at *
          go_wp2_with fail
          have HI := Lib.hid (Blk.drew (Blk.new wr 70 #[.string t0, .slice A3 l0.length k3]))
          have hcur := Lib.hid (((Below.refl wr.heap.size wr).alloc (Nat.le_refl _) (.cells #[.string t0, .slice A3 l0.length k3] 70)).drew)
          have hgn := HOWQ.out.notNew (Nat.le_refl _)
          go_region_held3 (fun W' => W'.cell? ⟨wr.heap.size, 0, none⟩ = some (.string t0) ∧ W'.cell? ⟨wr.heap.size, 1, none⟩ = some (.slice A3 l0.length k3))
            (first | go_keep | exact ⟨(JH.q 0).trans rfl, (JH.q 1).trans rfl⟩ | exact ⟨(JF.q 0).trans rfl, (JF.q 1).trans rfl⟩ | exact ⟨(JF.alloc _).q 0 |>.trans rfl, (JF.alloc _).q 1 |>.trans rfl⟩ | exact ⟨(JE.q 0).trans rfl, (JE.q 1).trans rfl⟩ | exact ⟨(JE.alloc _).q 0 |>.trans rfl, (JE.alloc _).q 1 |>.trans rfl⟩)
            (first
              | ((go_at_call 67); (with_reducible refine (HB.out _).mono ?_); rintro e we ⟨ve, rfl, hoe, hbwe⟩; obtain ⟨Ae, ke, rfl⟩ := isB_slice hoe.isB; have JE := Blk.call HI.out hbwe; have HVE := Lib.hid hoe.isB; have hcur := Lib.hid (hcur.out.trans (hbwe.mono hcur.out.size)); clear hoe)
              | ((go_at_call 51); (with_reducible refine (HS.out _ _ (isBs_two rfl HVE.out (HIB.out.below hcur.out))).mono ?_); rintro e wf ⟨vf, rfl, hof, hbwf⟩; obtain ⟨Af, kf, rfl⟩ := isB_slice hof.isB; have JF := Blk.call (JE.alloc _) hbwf; have HPF := Lib.hid (part_newP hof (HOWQ.out.below (hcur.out.alloc hcur.out.size _)) (by have := hcur.out.size; simp; omega)); have hcur := Lib.hid ((hcur.out.alloc hcur.out.size _).trans (hbwf.mono (by have := hcur.out.size; simp; omega))); clear hof)
              | (rw [if_pos (by rfl)]; obtain ⟨vh, wh, hrh, hoh, hbh, hgh⟩ := run_appP (P := Tryz.prog) (wf.alloc (.cells #[.slice Af ql.length kf] 32)) w2.heap.size 28 28 32 ulBs infoBss _ LQ (HOWQ.out.below (hcur.out.alloc hcur.out.size _)) _ (.slice Af ql.length kf) ql isR_one (HPF.out.alloc _) (by have := HLQ.out; omega) (by have := hcur.out.size; simp; omega); have JH := Blk.grown (JF.alloc (.cells #[.slice Af ql.length kf] 32)) hgh hgn; have HOH := Lib.hid hoh; have HBH := Lib.hid ((HBQ.out.trans ((hcur.out.alloc hcur.out.size (.cells #[.slice Af ql.length kf] 32)).mono hszq)).trans hbh); refine wp_appR _ _ _ _ rfl _ _ _ _ rfl rfl hrh ?_))
          all_goals
            go_wp2_with fail
            go_roundw
            case rel => exact ⟨j + 1, by go_num, by omega, by rw [HTQ.out]; exact HOH.out, HBH.out⟩
            case measure => simp [intOf]; omega
        · have hje : j = qs.length := by omega
          have hge : (qs.length : Int) ≤ j := by omega
          have howq := HOWQ.out
          rw [hje, List.take_length] at howq
          have HQO := Lib.hid howq
          obtain ⟨Aq, kq, hqe⟩ := howq.slice
          rw [List.length_map] at hqe
          subst hqe
          have HWQ := Lib.hid (HBA2.out.trans (hbq.mono HBA2.out.size))
          have HPQ := Lib.hid (HPA2.out.below hbq)
          clear howq hje hjl hj hbq
          by_cases hq0 : qs = []
          · subst hq0
            have HLS := Lib.hid (show [objL s0] = objL s0 :: (if ([] : List Qual) = [] then [] else [seqL (([] : List Qual).map quaL)]) by simp)
            have HPP := HPQ
            have HWP := HWQ
            go_wp2_with (first | ((go_at_call 51); (with_reducible refine (HS4.out _ _ _ HLS.out HPP.out.isBs).mono ?_); rintro e wd ⟨vd, rfl, hod, hbwd⟩; obtain ⟨Ad, kd, rfl⟩ := isB_slice hod.isB; have HWD := Lib.hid (HWP.out.trans (hbwd.mono HWP.out.size)); have HALL := Lib.hid (HOW.out.below HWP.out); have HPD := Lib.hid (part_newP hod HALL.out (by have := HWP.out.size; omega)); have HAD := Lib.hid (HALL.out.below hbwd); clear hod hbwd) | (at_builtin; refine wpList_appP _ rfl _ _ 28 rfl w1.heap.size 32 ulBs infoBss _ LL rfl (HAD.out.alloc _) _ (.slice Ad pl.length kd) pl rfl isR_one (HPD.out.alloc _) ?n2 ?b2 ?_))
            case n2 => have := HLL.out; omega
            case b2 => have := HWD.out.size; simp; omega
            intro v6 w6 ho6 hb6 _
            have HO6 := Lib.hid ho6
            have HB6 := Lib.hid ((HBR.out.trans ((HWD.out.alloc HWD.out.size (.cells #[.slice Ad pl.length kd] 32)).mono hszr)).trans hb6)
            clear ho6 hb6
            go_wp2
            go_roundw
            case rel => exact ⟨i + 1, by go_num, by omega, by rw [HTK.out]; exact HO6.out, HB6.out⟩
            case measure => simp [intOf]; omega
          · have hqp : 0 < qs.length := List.length_pos_iff.2 hq0
            have hqpI : (0 : Int) < qs.length := by omega
            have HS5 := Lib.hid (HS3.out hq0)
            have HLS := Lib.hid (show [objL s0] ++ [seqL (qs.map quaL)] = objL s0 :: (if qs = [] then [] else [seqL (qs.map quaL)]) by rw [if_neg hq0]; rfl)
            clear hq0
            generalize seqL (qs.map quaL) = ql at *
            go_wp2_with (first | ((go_at_call 51); (with_reducible refine (HS5.out _ _ HQO.out.isBs).mono ?_); rintro e wc ⟨vc, rfl, hoc, hbwc⟩; obtain ⟨Ac, kc, rfl⟩ := isB_slice hoc.isB; have HWC := Lib.hid (HWQ.out.trans (hbwc.mono HWQ.out.size)); have HPC := Lib.hid (part_newP hoc HPQ.out (by have := HBQ.out.size; have := HBA2.out.size; omega)); have HQC := Lib.hid (HPQ.out.below hbwc); clear hoc hbwc) | (at_builtin; refine wpList_appP _ rfl _ _ 28 rfl wo.heap.size 32 ulBs infoBss _ [objL s0] rfl (HQC.out.alloc _) _ (.slice Ac ql.length kc) ql rfl isR_one (HPC.out.alloc _) ?n1 ?b1 ?_))
            case n1 => simp
            case b1 => have := HWC.out.size; simp; omega
            intro v5 w5 ho5 hb5 _
            have HPP := Lib.hid ho5
            have HWP := Lib.hid ((HWC.out.alloc HWC.out.size (.cells #[.slice Ac ql.length kc] 32)).trans hb5)
            obtain ⟨A5, k5, hve⟩ := ho5.slice
            subst hve
            clear ho5 hb5
            go_wp2_with (first | ((go_at_call 51); (with_reducible refine (HS4.out _ _ _ HLS.out HPP.out.isBs).mono ?_); rintro e wd ⟨vd, rfl, hod, hbwd⟩; obtain ⟨Ad, kd, rfl⟩ := isB_slice hod.isB; have HWD := Lib.hid (HWP.out.trans (hbwd.mono HWP.out.size)); have HALL := Lib.hid (HOW.out.below HWP.out); have HPD := Lib.hid (part_newP hod HALL.out (by have := HWP.out.size; omega)); have HAD := Lib.hid (HALL.out.below hbwd); clear hod hbwd) | (at_builtin; refine wpList_appP _ rfl _ _ 28 rfl w1.heap.size 32 ulBs infoBss _ LL rfl (HAD.out.alloc _) _ (.slice Ad pl.length kd) pl rfl isR_one (HPD.out.alloc _) ?n2 ?b2 ?_))
            case n2 => have := HLL.out; omega
            case b2 => have := HWD.out.size; simp; omega
            intro v6 w6 ho6 hb6 _
            have HO6 := Lib.hid ho6
            have HB6 := Lib.hid ((HBR.out.trans ((HWD.out.alloc HWD.out.size (.cells #[.slice Ad pl.length kd] 32)).mono hszr)).trans hb6)
            clear ho6 hb6
            go_wp2
            go_roundw
            case rel => exact ⟨i + 1, by go_num, by omega, by rw [HTK.out]; exact HO6.out, HB6.out⟩
            case measure => simp [intOf]; omega
    · have hie : i = ps.length := by omega
      have how := HOW.out
      rw [hie, List.take_length] at how
      have HO := Lib.hid how
      have hge : (ps.length : Int) ≤ i := by omega
      obtain ⟨Ao, ko, hoe⟩ := how.slice
      rw [List.length_map] at hoe
      subst hoe
      clear how hie hlt hi hbel
      go_wp2_with (((go_at_call 51); (with_reducible refine (HEL.out _ _ HO.out.isBs).mono ?_); rintro e w9 ⟨v9, rfl, ho9, hbw9⟩; have HO9 := Lib.hid ho9; clear ho9))
      go_ret2
      have s1 := HB1.out.size; have s2 := HBR.out.size
      exact ⟨_, rfl, HO9.out.more (by omega), (HB1.out.trans (HBR.out.mono s1)).trans (hbw9.mono (by omega))⟩
end Go.Proofs.YtjjkimjdmpeddaaGreatDoor
end
