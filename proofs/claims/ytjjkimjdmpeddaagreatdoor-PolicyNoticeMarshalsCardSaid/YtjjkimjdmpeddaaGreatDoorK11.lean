/- The parts PolW, PolV, PolA, PolU, FewP of one proof, one behind the other. -/
import Derived.Test.YtjjkimjdmpeddaaGreatDoorK03
import Derived.Test.YtjjkimjdmpeddaaGreatDoorK06
import Derived.Test.YtjjkimjdmpeddaaGreatDoorK08
import Derived.Test.YtjjkimjdmpeddaaGreatDoorK10
import Derived.LoopTactic
import Derived.Deep.QuietTactic
import Derived.BigQuiet

/- Walks over policy: open, the closures of Valid, slices.ContainsFunc at qualifiers. -/
section
set_option linter.unusedSimpArgs false
set_option linter.unusedVariables false
namespace Go.Proofs.YtjjkimjdmpeddaaGreatDoor
open Go.RowKit Go.Cr
set_option maxRecDepth 100000 in
set_option maxHeartbeats 4000000 in
theorem polOpen (v : Value) (l : List UInt8) (w : World) (hv : IsB w v l) (hl : l.length ≤ 1000000) : Calls Tryz.prog 79 #[v] w (RetB (.bool (decide (treeOK 16 l))) w) := by
  have HV := Lib.hid hv
  by_cases ht : treeOK 16 l
  · have HP : Hid (∀ W, IsB W v l → Calls Tryz.prog 114 #[v] W (RetPY W)) := fun W h => parse_yes v l W h hl ht
    rw [decide_eq_true ht]
    clear hv hl ht
    go_enter Tryz.func79, Tryz.ntmps79
    go_wp2_with (((go_at_call 114); (with_reducible refine (HP.out _ HV.out).mono ?_); rintro e w1 ⟨hbw1, c1, c2, c3, a4, a5, n4, k4, n5, k5, rfl⟩))
    go_ret
    have s1 := hbw1.size
    exact ⟨rfl, by ((repeat' (first | (with_reducible exact Below.refl _ _) | (with_reducible assumption) | (with_reducible refine Below.setCell ?_ ?_ _) | (with_reducible refine Below.alloc ?_ ?_ _) | (with_reducible refine Below.drew ?_) | (with_reducible refine below_drewN ?_ _) | (with_reducible refine Below.step (by with_reducible assumption) ?_ ?_))) <;> (first | omega | (simp; done) | (simp; omega)))⟩
  · have HP : Hid (∀ W, IsB W v l → Calls Tryz.prog 114 #[v] W (RetPN l.length W)) := fun W h => parse_no v l W h hl ht
    rw [decide_eq_false ht]
    clear hv hl ht
    go_enter Tryz.func79, Tryz.ntmps79
    go_wp2_with (((go_at_call 114); (with_reducible refine (HP.out _ HV.out).mono ?_); rintro e w1 ⟨hbw1, c, o, hc0, ho0, hol, rfl⟩; have hcz : (c == 0) = false := beq_eq_false_iff_ne.2 (by omega)))
    go_ret
    have s1 := hbw1.size
    exact ⟨by (first | rfl | simp [hcz]), by ((repeat' (first | (with_reducible exact Below.refl _ _) | (with_reducible assumption) | (with_reducible refine Below.setCell ?_ ?_ _) | (with_reducible refine Below.alloc ?_ ?_ _) | (with_reducible refine Below.drew ?_) | (with_reducible refine below_drewN ?_ _) | (with_reducible refine Below.step (by with_reducible assumption) ?_ ?_))) <;> (first | omega | (simp; done) | (simp; omega)))⟩

set_option maxRecDepth 100000 in
set_option maxHeartbeats 4000000 in
theorem badQ (s : ByteArray) (A : Option Addr) (n c : Nat) (l : List UInt8) (w : World) (hG : Glo w) (hv : IsB w (.slice A n c) l) (hz : SzQ (s, l)) : Calls Tryz.prog 78 #[.agg #[.string s, .slice A n c]] w (RetB (.bool (!okQ (s, l))) w) := by
  obtain ⟨h1, h2⟩ := hz
  simp only at h1 h2
  have HO : Hid (∀ W, Glo W → Calls Tryz.prog 69 #[.string s] W (RetB (.bool (arcsL s.data.toList).isSome) W)) := fun W g => oidValid s W g (by omega)
  have HP : Hid (∀ W, IsB W (.slice A n c) l → Calls Tryz.prog 79 #[.slice A n c] W (RetB (.bool (decide (treeOK 16 l))) W)) := fun W h => polOpen _ l W h (by omega)
  have hk : okQ (s, l) = ((arcsL s.data.toList).isSome && decide (treeOK 16 l)) := rfl
  rw [hk]
  have HG := Lib.hid hG
  have HV := Lib.hid hv
  clear hG hv h1 h2 hk
  generalize (arcsL s.data.toList).isSome = B1 at *
  generalize decide (treeOK 16 l) = B2 at *
  cases B1
  · go_enter Tryz.func78, Tryz.ntmps78
    go_wp2_with (((go_at_call 69); (with_reducible refine (HO.out _ (HG.out.alloc _)).mono ?_); rintro e w1 ⟨rfl, hbw1⟩))
    go_ret
    exact ⟨rfl, by ((repeat' (first | (with_reducible exact Below.refl _ _) | (with_reducible assumption) | (with_reducible refine Below.setCell ?_ ?_ _) | (with_reducible refine Below.alloc ?_ ?_ _) | (with_reducible refine Below.drew ?_) | (with_reducible refine below_drewN ?_ _) | (with_reducible refine Below.step (by with_reducible assumption) ?_ ?_))) <;> (first | omega | (simp; done) | (simp; omega)))⟩
  · cases B2
    all_goals
      go_enter Tryz.func78, Tryz.ntmps78
      go_wp2_with (first | ((go_at_call 69); (with_reducible refine (HO.out _ (HG.out.alloc _)).mono ?_); rintro e w1 ⟨rfl, hbw1⟩; have I1 := Blk.call (Blk.new w 70 #[.string s, .slice A n c]) hbw1; have q1 := I1.q; have HV1 := Lib.hid ((HV.out.alloc (.cells #[.string s, .slice A n c] 70)).below hbw1)) | ((go_at_call 79); (with_reducible refine (HP.out _ HV1.out).mono ?_); rintro e w2 ⟨rfl, hbw2⟩))
      go_ret
      have s1 := hbw1.size; have s2 := hbw2.size
      simp at s1
      have b1 : Below w.heap.size w w1 := ((Below.refl _ w).alloc (Nat.le_refl _) _).trans (hbw1.mono (by simp))
      exact ⟨rfl, b1.trans (hbw2.mono (by omega))⟩

theorem ulQs : Tryz.prog.underlying 64 = some (.slice 70) := by kernel_rfl
theorem szQual (W : World) : (sizeOf 70).run Tryz.prog W = .ok 2 W := by kernel_rfl
theorem ulPs : Tryz.prog.underlying 22 = some (.slice 66) := by kernel_rfl
theorem szPol (W : World) : (sizeOf 66).run Tryz.prog W = .ok 2 W := by kernel_rfl
def RetIx (B : Bool) (w : World) (e : Ending) (w' : World) : Prop := ∃ r : Int, e = .returned (.int .i64 r) ∧ decide (0 ≤ r) = B ∧ Below w.heap.size w w'
def IxRel (f : Nat → Bool) (n : Nat) (w : World) (ix : Value) (wr : World) : Prop := ∃ i : Nat, ix = .int .i64 (i : Int) ∧ i ≤ n ∧ (∀ j, j < i → f j = true) ∧ Below w.heap.size w wr
theorem all_getD {α : Type} [Inhabited α] (f : α → Bool) (qs : List α) : (∀ j, j < qs.length → f (qs.getD j default) = true) ↔ qs.all f = true := by
  rw [List.all_eq_true]
  constructor
  · intro h x hx
    obtain ⟨j, hj, rfl⟩ := List.getElem_of_mem hx
    have := h j hj
    simpa [hj] using this
  · intro h j hj
    have := h qs[j] (List.getElem_mem hj)
    simpa [hj] using this

set_option maxRecDepth 100000 in
set_option maxHeartbeats 4000000 in
theorem idxQ (v : Value) (qs : List Qual) (w : World) (hG : Glo w) (hv : IsQs w v qs) (hz : ∀ q ∈ qs, SzQ q) (hn : qs.length ≤ 1000000) :
    Calls Tryz.prog 113 #[v, .func (.func 78) #[] #[]] w (RetIx (!qs.all okQ) w) := by
  have hlen := hv.len (P := Tryz.prog) ulQs
  have e78 := enters_of Tryz.func78 (by kernel_rfl) rfl
  have HB : Hid (∀ (j : Nat) (hj : j < qs.length) A n c W, Glo W → IsB W (.slice A n c) qs[j].2 → Calls Tryz.prog 78 #[.agg #[.string qs[j].1, .slice A n c]] W (RetB (.bool (!okQ qs[j])) W)) := fun j hj A n c W g h => badQ qs[j].1 A n c qs[j].2 W g h (hz _ (List.getElem_mem hj))
  have HG := Lib.hid hG
  have HV := Lib.hid hv
  obtain ⟨A, c, rfl⟩ := isQs_slice hv
  obtain ⟨B, hB⟩ : ∃ B, (!qs.all okQ) = B := ⟨_, rfl⟩
  rw [hB]
  have HBB := Lib.hid hB
  have hnI : (qs.length : Int) ≤ 1000000 := by omega
  clear hG hv hz hn hB
  go_enter Tryz.func113, Tryz.ntmps113
  go_wp2_with fail
  go_loopw [8] (fun ix wr => IxRel (fun j => okQ (qs.getD j default)) qs.length w ix wr) (fun ix _ => qs.length + 1 - (intOf ix).toNat)
  case atStart => exact ⟨0, rfl, Nat.zero_le _, fun j h => by omega, Below.refl _ _⟩
  case round =>
    obtain ⟨i, rfl, hi, hall, hbel⟩ := hrel
    have HALL := Lib.hid hall
    have HBR := Lib.hid hbel
    clear hall
    by_cases hlt : i < qs.length
    · obtain ⟨b2, o2, A2, k2, hi2, hl2, hc1, hc2, hIB⟩ := (HV.out.below hbel).at_ (P := Tryz.prog) ulQs szQual .i64 i hlt
      have HI := Lib.hid hIB
      have HC := Lib.hid (HB.out i hlt)
      have hgd : qs.getD i default = qs[i] := by simp [hlt]
      have hltI : (i : Int) < qs.length := by omega
      obtain ⟨C, hC⟩ : ∃ C, okQ qs[i] = C := ⟨_, rfl⟩
      rw [hC] at HC
      have HCC := Lib.hid hC
      have HGD := Lib.hid hgd
      clear hIB hC hgd
      obtain ⟨s0, hs0⟩ : ∃ s0, qs[i].1 = s0 := ⟨_, rfl⟩
      obtain ⟨l0, hl0⟩ : ∃ l0, qs[i].2 = l0 := ⟨_, rfl⟩
      rw [hs0] at hc1 HC
      rw [hl0] at hc2 HC HI
      clear hs0 hl0
      cases C with
      | true =>
        go_wp2_with (((go_at_call 78); (with_reducible refine (HC.out _ _ _ _ (HG.out.below HBR.out) HI.out).mono ?_); rintro e w3 ⟨rfl, hbw3⟩; have HB3 := Lib.hid (HBR.out.trans (hbw3.mono HBR.out.size)); clear hbw3))
        go_roundw
        case rel =>
          refine ⟨i + 1, by go_num, by omega, fun j hj => ?_, HB3.out⟩
          by_cases hji : j < i
          · exact HALL.out j hji
          · obtain rfl : j = i := by omega
            show okQ (qs.getD j default) = true
            rw [HGD.out]; exact HCC.out
        case measure => simp [intOf]; omega
      | false =>
        have hBt : B = true := by
          rw [← HBB.out]
          cases ha : qs.all okQ with
          | false => rfl
          | true =>
            have := List.all_eq_true.1 ha qs[i] (List.getElem_mem hlt)
            rw [HCC.out] at this
            cases this
        have HBT := Lib.hid hBt
        clear hBt
        go_wp2_with (((go_at_call 78); (with_reducible refine (HC.out _ _ _ _ (HG.out.below HBR.out) HI.out).mono ?_); rintro e w3 ⟨rfl, hbw3⟩; have HB3 := Lib.hid (HBR.out.trans (hbw3.mono HBR.out.size)); clear hbw3))
        go_ret
        exact ⟨_, rfl, by rw [HBT.out]; exact decide_eq_true (by omega), HB3.out⟩
    · have hBf : B = false := by
        rw [← HBB.out]
        have : qs.all okQ = true := (all_getD okQ qs).1 (fun j hj => HALL.out j (by omega))
        rw [this]; rfl
      have HBF := Lib.hid hBf
      have hge : (qs.length : Int) ≤ i := by omega
      clear hlt hi hBf hbel
      go_wp2_with fail
      go_ret
      exact ⟨_, rfl, by rw [HBF.out]; rfl, HBR.out⟩
set_option maxRecDepth 100000 in
set_option maxHeartbeats 4000000 in
theorem anyQ (v : Value) (qs : List Qual) (w : World) (hG : Glo w) (hv : IsQs w v qs) (hz : ∀ q ∈ qs, SzQ q) (hn : qs.length ≤ 1000000) :
    Calls Tryz.prog 77 #[v, .func (.func 78) #[] #[]] w (RetB (.bool (!qs.all okQ)) w) := by
  have HI := Lib.hid (idxQ v qs w hG hv hz hn)
  obtain ⟨A, c, rfl⟩ := isQs_slice hv
  clear hG hv hz hn
  generalize (!qs.all okQ) = B at *
  go_enter Tryz.func77, Tryz.ntmps77
  go_wp2_with (((go_at_call 113); (with_reducible refine (HI.out).mono ?_); rintro e w1 ⟨r, rfl, hr, hbw1⟩))
  go_ret
  exact ⟨by (first | rw [← hr]; rfl | simp [hr]), hbw1⟩
end Go.Proofs.YtjjkimjdmpeddaaGreatDoor
end

/- Walks over policy: Valid, Allows. -/
section
set_option linter.unusedSimpArgs false
set_option linter.unusedVariables false
namespace Go.Cr
open Go.RowKit
theorem strNe0 {a b : ByteArray} (h : a ≠ b) : (a.toList == b.toList) = false := by
  rw [ByteArray.toList_eq, ByteArray.toList_eq]
  exact beq_eq_false_iff_ne.2 (fun e => h (by obtain ⟨x⟩ := a; obtain ⟨y⟩ := b; simp at e; simp [e]))
theorem strEq0 (a : ByteArray) : (a.toList == a.toList) = true := by simp
def seenM (ps : List Pol) (i : Nat) : ByteArray → Option Value := fun s => if (ps.take i).any (fun p => decide (p.1 = s)) then some (.bool true) else none
theorem seenM_more {ps : List Pol} {i : Nat} (h : i < ps.length) (s : ByteArray) : (if s = ps[i].1 then some (Value.bool true) else seenM ps i s) = seenM ps (i + 1) s := by
  unfold seenM
  rw [List.take_succ_eq_append_getElem h, List.any_append]
  by_cases e : s = ps[i].1
  · subst e; simp
  · have : ¬ (ps[i].1 = s) := fun h => e h.symm
    rw [if_neg e]
    simp only [List.any_cons, List.any_nil, decide_eq_false this, Bool.or_false]
def anyP : ByteArray := ⟨#[50, 46, 53, 46, 50, 57, 46, 51, 50, 46, 48]⟩
end Go.Cr
namespace Go.Proofs.YtjjkimjdmpeddaaGreatDoor
open Go.RowKit Go.Cr
theorem tMapB : Tryz.prog.underlying 102 = some (.map 9 4) := by kernel_rfl
theorem tStrB : Tryz.prog.underlying 9 = some .string := by kernel_rfl
set_option maxRecDepth 100000 in
theorem zBool (w : World) : (zeroValue 4).run Tryz.prog w = .ok (.bool false) w := by rfl
def PvRel (ps : List Pol) (w : World) (ix : Value) (wr : World) : Prop := ∃ i : Nat, ix = .int .i64 (i : Int) ∧ i ≤ ps.length ∧ (∀ j, j < i → okP1 ps j = true) ∧ HasM strKey wr w.heap.size (seenM ps i) ∧ Below w.heap.size w wr
set_option maxRecDepth 100000 in
set_option maxHeartbeats 8000000 in
theorem polValid (v : Value) (ps : List Pol) (w : World) (hG : Glo w) (hv : IsPs w v ps) (hz : SzP ps) : Calls Tryz.prog 38 #[v] w (RetB (.bool (okP ps)) w) := by
  have hlen := hv.len (P := Tryz.prog) ulPs
  obtain ⟨hz1, hz2⟩ := hz
  have HO : Hid (∀ (i : Nat) (h : i < ps.length) W, Glo W → Calls Tryz.prog 69 #[.string ps[i].1] W (RetB (.bool (arcsL ps[i].1.data.toList).isSome) W)) := fun i h W g => oidValid _ W g (by have := (hz2 _ (List.getElem_mem h)).1; omega)
  have HQ : Hid (∀ (i : Nat) (h : i < ps.length) u W, Glo W → IsQs W u ps[i].2 → Calls Tryz.prog 77 #[u, .func (.func 78) #[] #[]] W (RetB (.bool (!ps[i].2.all okQ)) W)) := fun i h u W g hu => anyQ u _ W g hu (hz2 _ (List.getElem_mem h)).2.2 (by have := (hz2 _ (List.getElem_mem h)).2.1; omega)
  have HG := Lib.hid hG
  have HV := Lib.hid hv
  obtain ⟨A, c, rfl⟩ := isPs_slice hv
  have hnI : (ps.length : Int) ≤ 10000 := by omega
  obtain ⟨B, hB⟩ : ∃ B, okP ps = B := ⟨_, rfl⟩
  rw [hB]
  have HBB := Lib.hid hB
  clear hG hv hz1 hz2 hB
  go_enter Tryz.func38, Tryz.ntmps38
  go_wp2_with ((with_reducible refine wpList_makeM _ rfl _ rfl strKey ?_); intro h0; have H0 := Lib.hid h0; clear h0)
  go_loopw [9] (fun ix wr => PvRel ps w ix wr) (fun ix _ => ps.length + 1 - (intOf ix).toNat)
  case atStart => exact ⟨0, rfl, Nat.zero_le _, fun j h => by omega, HasM.congr H0.out (fun n => by simp [seenM]), (Below.refl _ _).alloc (Nat.le_refl _) _⟩
  case round =>
    obtain ⟨i, rfl, hi, hall, hM, hbel⟩ := hrel
    have HALL := Lib.hid hall
    have HBR := Lib.hid hbel
    have HM := Lib.hid hM
    have hszr : w.heap.size < wr.heap.size := hM.lt
    clear hall hM
    by_cases hlt : i < ps.length
    · obtain ⟨b2, o2, A2, k2, hi2, hl2, hc1, hc2, hIB⟩ := HV.out.at_ (P := Tryz.prog) ulPs szPol .i64 i hlt
      rw [← hbel.cell (p := ⟨b2, o2, none⟩) hl2] at hc1
      rw [← hbel.cell (p := ⟨b2, o2 + 1, none⟩) hl2] at hc2
      have HI := Lib.hid hIB
      have hgd : ps.getD i default = ps[i] := by simp [hlt]
      have hltI : (i : Int) < ps.length := by omega
      have HOi := Lib.hid (HO.out i hlt)
      have HQi := Lib.hid (HQ.out i hlt)
      have hok : okP1 ps i = ((arcsL ps[i].1.data.toList).isSome && (!((ps.take i).any fun p => decide (p.1 = ps[i].1))) && ps[i].2.all okQ) := by unfold okP1 freshP; rw [hgd]
      have hseen : ((seenM ps i) ps[i].1).getD (.bool false) = .bool ((ps.take i).any fun p => decide (p.1 = ps[i].1)) := by
        unfold seenM
        cases (ps.take i).any fun p => decide (p.1 = ps[i].1) <;> rfl
      have hnone : ((ps.take i).any fun p => decide (p.1 = ps[i].1)) = false → (seenM ps i) ps[i].1 = none := fun h => by unfold seenM; rw [h]; rfl
      have HMORE := Lib.hid (fun s => seenM_more hlt s)
      have hbad : okP1 ps i = false → B = false := fun h => by
        rw [← HBB.out, Bool.eq_false_iff]
        intro hb
        unfold okP at hb
        rw [Bool.and_eq_true, List.all_eq_true] at hb
        have := hb.2 i (by simp [hlt])
        rw [h] at this; cases this
      have HBAD := Lib.hid hbad
      have HNONE := Lib.hid hnone
      have HSEEN := Lib.hid hseen
      have HOK := Lib.hid hok
      clear hIB hgd hok hseen hnone hbad hbel
      obtain ⟨s0, hs0⟩ : ∃ s0, ps[i].1 = s0 := ⟨_, rfl⟩
      obtain ⟨q0, hq0⟩ : ∃ q0, ps[i].2 = q0 := ⟨_, rfl⟩
      rw [hs0] at hc1 HOi HOK HSEEN HNONE
      simp only [hs0] at HMORE
      rw [hq0] at hc2 HQi HOK HI
      clear hs0 hq0
      generalize (arcsL s0.data.toList).isSome = C1 at *
      generalize ((ps.take i).any fun p => decide (p.1 = s0)) = C2 at *
      generalize q0.all okQ = C3 at *
      cases C1 with
      | false =>
        have HBF := Lib.hid (HBAD.out (by rw [HOK.out]; rfl))
        go_wp2_with (((go_at_call 69); (with_reducible refine (HOi.out _ ((HG.out.below HBR.out).alloc _)).mono ?_); rintro e w3 ⟨rfl, hbw3⟩; have I3 := Blk.call (Blk.new wr 66 #[.string s0, .slice A2 q0.length k2]) hbw3; have q3 := I3.q))
        go_ret
        exact ⟨by rw [HBF.out]; rfl, (HBR.out.alloc HBR.out.size _).trans (hbw3.mono (by simp; omega))⟩
      | true =>
        cases C2 with
        | true =>
          have HBF := Lib.hid (HBAD.out (by rw [HOK.out]; rfl))
          go_wp2_with (((go_at_call 69); (with_reducible refine (HOi.out _ ((HG.out.below HBR.out).alloc _)).mono ?_); rintro e w3 ⟨rfl, hbw3⟩; have I3 := Blk.call (Blk.new wr 66 #[.string s0, .slice A2 q0.length k2]) hbw3; have q3 := I3.q; have M3 := HasM.keep (w' := w3) HM.out ((hbw3.block w.heap.size (by simp; omega)).trans (Below.heap_alloc _ _ _ hszr)); have k3 : (Instr.lookup 102 (.map (some w.heap.size)) (.string s0) false).run Tryz.prog w3 = .ok (.bool true) w3 := (by have hh := M3.look (P := Tryz.prog) tMapB tStrB (zBool w3) s0 false; rw [if_neg (by decide), HSEEN.out] at hh; exact hh)))
          go_ret
          exact ⟨by rw [HBF.out]; rfl, (HBR.out.alloc HBR.out.size _).trans (hbw3.mono (by simp; omega))⟩
        | false =>
          cases C3 with
          | false =>
            have HBF := Lib.hid (HBAD.out (by rw [HOK.out]; rfl))
            go_wp2_with (first | ((go_at_call 69); (with_reducible refine (HOi.out _ ((HG.out.below HBR.out).alloc _)).mono ?_); rintro e w3 ⟨rfl, hbw3⟩; have I3 := Blk.call (Blk.new wr 66 #[.string s0, .slice A2 q0.length k2]) hbw3; have q3 := I3.q; have HI3 := Lib.hid I3; have M3 := HasM.keep (w' := w3) HM.out ((hbw3.block w.heap.size (by simp; omega)).trans (Below.heap_alloc _ _ _ hszr)); have k3 : (Instr.lookup 102 (.map (some w.heap.size)) (.string s0) false).run Tryz.prog w3 = .ok (.bool false) w3 := (by have hh := M3.look (P := Tryz.prog) tMapB tStrB (zBool w3) s0 false; rw [if_neg (by decide), HSEEN.out] at hh; exact hh); have HM3 := Lib.hid M3; have hb3 : Below w.heap.size w w3 := (HBR.out.alloc HBR.out.size _).trans (hbw3.mono (by simp; omega)); have HB3 := Lib.hid hb3; have hs3 := hbw3.size; clear M3 I3 hb3; obtain ⟨w4, hrun, h4, z4, o4, b4⟩ := HM3.out.insert (P := Tryz.prog) tMapB tStrB s0 (.bool true) (HNONE.out rfl); have k4 : (Instr.mapUpdate 102 (.map (some w.heap.size)) (.string s0) (.bool true)).run Tryz.prog w3 = .ok () w4 := hrun; have HM4 := Lib.hid h4; have HB4 := Lib.hid (b4 _ _ (Nat.le_refl _) HB3.out); have q4 : ∀ o, w4.cell? ⟨wr.heap.size, o, none⟩ = #[Value.string s0, .slice A2 q0.length k2][o]? := Blk.q (t := 66) ((o4 _ (by omega)).trans HI3.out); clear h4 b4 o4 hrun) | ((go_at_call 77); (with_reducible refine (HQi.out _ _ (HG.out.below HB4.out) (HI.out.below HB4.out)).mono ?_); rintro e w5 ⟨rfl, hbw5⟩; have HB5 := Lib.hid (HB4.out.trans (hbw5.mono HB4.out.size)); have HM5 := Lib.hid (HasM.keep (w' := w5) HM4.out (hbw5.block _ HM4.out.lt)); clear hbw5))
            go_ret
            exact ⟨by rw [HBF.out]; rfl, HB5.out⟩
          | true =>
            go_wp2_with (first | ((go_at_call 69); (with_reducible refine (HOi.out _ ((HG.out.below HBR.out).alloc _)).mono ?_); rintro e w3 ⟨rfl, hbw3⟩; have I3 := Blk.call (Blk.new wr 66 #[.string s0, .slice A2 q0.length k2]) hbw3; have q3 := I3.q; have HI3 := Lib.hid I3; have M3 := HasM.keep (w' := w3) HM.out ((hbw3.block w.heap.size (by simp; omega)).trans (Below.heap_alloc _ _ _ hszr)); have k3 : (Instr.lookup 102 (.map (some w.heap.size)) (.string s0) false).run Tryz.prog w3 = .ok (.bool false) w3 := (by have hh := M3.look (P := Tryz.prog) tMapB tStrB (zBool w3) s0 false; rw [if_neg (by decide), HSEEN.out] at hh; exact hh); have HM3 := Lib.hid M3; have hb3 : Below w.heap.size w w3 := (HBR.out.alloc HBR.out.size _).trans (hbw3.mono (by simp; omega)); have HB3 := Lib.hid hb3; have hs3 := hbw3.size; clear M3 I3 hb3; obtain ⟨w4, hrun, h4, z4, o4, b4⟩ := HM3.out.insert (P := Tryz.prog) tMapB tStrB s0 (.bool true) (HNONE.out rfl); have k4 : (Instr.mapUpdate 102 (.map (some w.heap.size)) (.string s0) (.bool true)).run Tryz.prog w3 = .ok () w4 := hrun; have HM4 := Lib.hid h4; have HB4 := Lib.hid (b4 _ _ (Nat.le_refl _) HB3.out); have q4 : ∀ o, w4.cell? ⟨wr.heap.size, o, none⟩ = #[Value.string s0, .slice A2 q0.length k2][o]? := Blk.q (t := 66) ((o4 _ (by omega)).trans HI3.out); clear h4 b4 o4 hrun) | ((go_at_call 77); (with_reducible refine (HQi.out _ _ (HG.out.below HB4.out) (HI.out.below HB4.out)).mono ?_); rintro e w5 ⟨rfl, hbw5⟩; have HB5 := Lib.hid (HB4.out.trans (hbw5.mono HB4.out.size)); have HM5 := Lib.hid (HasM.keep (w' := w5) HM4.out (hbw5.block _ HM4.out.lt)); clear hbw5))
            go_roundw
            case rel =>
              refine ⟨i + 1, by go_num, by omega, fun j hj => ?_, HM5.out.congr HMORE.out, HB5.out⟩
              by_cases hji : j < i
              · exact HALL.out j hji
              · obtain rfl : j = i := by omega
                rw [HOK.out]; rfl
            case measure => simp [intOf]; omega
    · have hge : (ps.length : Int) ≤ i := by omega
      have hBv : B = decide (0 < ps.length) := by
        rw [← HBB.out]
        unfold okP
        have : (List.range ps.length).all (okP1 ps) = true := by
          rw [List.all_eq_true]
          intro j hj
          simp at hj
          exact HALL.out j (by omega)
        rw [this, Bool.and_true]
      have HBV := Lib.hid hBv
      clear hlt hi hBv hbel
      go_wp2_with fail
      go_ret
      exact ⟨by rw [HBV.out]; first | rfl | simp, HBR.out⟩
end Go.Proofs.YtjjkimjdmpeddaaGreatDoor
end

/- Walks over policy: Allows. -/
section
set_option linter.unusedSimpArgs false
set_option linter.unusedVariables false
namespace Go.Cr
theorem anyP_list : anyP.toList = [50, 46, 53, 46, 50, 57, 46, 51, 50, 46, 48] := by rw [ByteArray.toList_eq]; rfl
end Go.Cr
namespace Go.Proofs.YtjjkimjdmpeddaaGreatDoor
open Go.RowKit Go.Cr
end Go.Proofs.YtjjkimjdmpeddaaGreatDoor
end

/- Walk over the reference's Few. -/
section
set_option linter.unusedSimpArgs false
set_option linter.unusedVariables false
namespace Go.Proofs.YtjjkimjdmpeddaaGreatDoor
open Go.RowKit Go.Cr
def Cnt (n : Nat) (p : Pol) : Prop := p.1.size ≤ n ∧ 10 * p.2.length ≤ n ∧ ∀ k, k < 200 → k < p.2.length → (p.2.getD k default).1.size ≤ n ∧ (p.2.getD k default).2.length ≤ n
theorem Cnt.mono {n m : Nat} {p : Pol} (h : Cnt n p) (hm : n ≤ m) : Cnt m p := ⟨by have := h.1; omega, by have := h.2.1; omega, fun k h1 h2 => by have := h.2.2 k h1 h2; omega⟩
theorem wr64 {x : Int} (h0 : 0 ≤ x) (h1 : x ≤ 9223372036854775807) : IntKind.i64.wrap x = x := by rw [IntKind.wrap_i64]; omega
theorem w64q {x : Int} (h0 : 0 ≤ x) (h1 : x ≤ 9223372036854775807) : wrap64 x = x := by unfold wrap64; omega
end Go.Proofs.YtjjkimjdmpeddaaGreatDoor
end

/- Walk over the reference's Few: what it counts. -/
section
set_option linter.unusedSimpArgs false
set_option linter.unusedVariables false
namespace Go.Proofs.YtjjkimjdmpeddaaGreatDoor
open Go.RowKit Go.Cr
def wtQ (q : Qual) : Nat := q.1.size + q.2.length
def wtQs (qs : List Qual) : Nat := (qs.map wtQ).sum
def wtP (p : Pol) : Nat := p.1.size + 10 * p.2.length + wtQs p.2
def sumP (ps : List Pol) : Nat := (ps.map wtP).sum
def FwP (ps : List Pol) : Prop := ps.length ≤ 8 ∧ sumP ps ≤ 1500
theorem sum_mem {α : Type} (f : α → Nat) {l : List α} {a : α} (h : a ∈ l) : f a ≤ (l.map f).sum := by
  induction l with
  | nil => cases h
  | cons x t ih =>
    simp only [List.map_cons, List.sum_cons]
    rcases List.mem_cons.1 h with rfl | h
    · omega
    · have := ih h; omega
theorem FwP.mem {ps : List Pol} (h : FwP ps) {p : Pol} (hp : p ∈ ps) : p.1.size + 10 * p.2.length + wtQs p.2 ≤ 1500 := by
  have h1 : wtP p ≤ sumP ps := sum_mem wtP hp
  have := h.2
  unfold wtP at h1
  omega
theorem FwP.sz {ps : List Pol} (h : FwP ps) : SzP ps := by
  refine ⟨by have := h.1; omega, fun p hp => ?_⟩
  have h1 := h.mem hp
  refine ⟨by omega, by omega, fun q hq => ?_⟩
  have h2 : wtQ q ≤ wtQs p.2 := sum_mem wtQ hq
  unfold wtQ at h2
  unfold SzQ
  omega
end Go.Proofs.YtjjkimjdmpeddaaGreatDoor
end
