/- The parts RefU of one proof, one behind the other. -/
import Derived.Test.YtlmnmgokfnnbbaaGreatDoorM30
import Derived.Deep.RegionHeld3
import Derived.StillTailTactics

/- Walks over the reference's layer 7 (charset): Valid, Encode. -/
section
set_option linter.unusedSimpArgs false
set_option linter.unusedVariables false
namespace Go.Proofs.YtlmnmgokfnnbbaaGreatDoor
open Go.RowKit Go.Cr
theorem szInt (W : World) : (sizeOf 3).run Tryz.prog W = .ok 1 W := Tryz.sizeOf3 W
def RetPtY (cs : List Nat) (w : World) (e : Ending) (w' : World) : Prop := ∃ A k, e = .returned (.tuple #[.slice A cs.length k, .bool true]) ∧ IsU .i64 w' (.slice A cs.length k) cs ∧ Below w.heap.size w w'
theorem RetPt.yes {cs : List Nat} {w : World} {e : Ending} {w' : World} (h : RetPt (some cs) w e w') : RetPtY cs w e w' := by
  obtain ⟨hb, ⟨h, _⟩ | ⟨cs', v, h, he, hv⟩⟩ := h
  · cases h
  · injection h with h; subst h
    obtain ⟨A, k, rfl⟩ := isU_slice hv
    exact ⟨A, k, he, hv, hb⟩
theorem RetPt.no {w : World} {e : Ending} {w' : World} (h : RetPt none w e w') : RetB (.tuple #[.slice none 0 0, .bool false]) w e w' := by
  obtain ⟨hb, ⟨_, he⟩ | ⟨cs', v, h, _⟩⟩ := h
  · exact ⟨he, hb⟩
  · cases h

def VaRel (k : Int) (cs : List Nat) (w : World) (ix : Value) (wr : World) : Prop := ∃ i : Nat, ix = .int .i64 (i : Int) ∧ i ≤ cs.length ∧ (∀ j, j < i → hasK k ((cs.getD j 0 : Nat) : Int) = true) ∧ Below w.heap.size w wr
set_option maxRecDepth 100000 in
set_option maxHeartbeats 4000000 in
theorem rValid7 (k : Int) (s : ByteArray) (w : World) (hs : s.size ≤ 1000000) : Calls Tryz.prog 142 #[.agg #[.int .i64 k, .string s]] w (RetB (.bool (validT k s.data.toList)) w) := by
  have HP := fun W => points_any s W hs
  have HW : Hid (∀ W, Calls Tryz.prog 182 #[.int .i64 k] W fun e w' => e = .returned (.int .i64 (widR k)) ∧ w' = W) := fun W => width_any k W
  cases hp : pts s.data.toList with
  | none =>
    have hv : validT k s.data.toList = false := by unfold validT; rw [hp]; simp
    have HP' : Hid (∀ W, Calls Tryz.prog 181 #[.string s] W (RetB (.tuple #[.slice none 0 0, .bool false]) W)) := fun W => by have := HP W; rw [hp] at this; exact this.mono fun e w' hh => hh.no
    rw [hv]
    clear hp hv HP hs
    go_enter Tryz.func142, Tryz.ntmps142
    go_wp2_with (((go_at_call 181); (with_reducible refine (HP'.out _).mono ?_); rintro e w1 ⟨rfl, hbw1⟩; have I0 := Blk.call (Blk.new w 97 #[.int .i64 k, .string s]) hbw1; have q0 := I0.q))
    go_ret
    exact ⟨rfl, by ((repeat' (first | (with_reducible exact Below.refl _ _) | (with_reducible assumption) | (with_reducible refine Below.setCell ?_ ?_ _) | (with_reducible refine Below.alloc ?_ ?_ _) | (with_reducible refine Below.drew ?_) | (with_reducible refine below_drewN ?_ _) | (with_reducible refine Below.step (by with_reducible assumption) ?_ ?_))) <;> (first | omega | (simp; done) | (simp; omega)))⟩
  | some cs =>
    have HP' : Hid (∀ W, Calls Tryz.prog 181 #[.string s] W (RetPtY cs W)) := fun W => by have := HP W; rw [hp] at this; exact this.mono fun e w' hh => hh.yes
    have hcl := pts_len hp
    have hL : s.data.toList.length = s.size := rfl
    have hok := (pts_enc _ cs hp).1
    by_cases hk : (widthK k).isSome = true
    · have hv : validT k s.data.toList = cs.all (fun c => hasK k c) := by unfold validT; rw [hp, hk]; rfl
      have hwp : 0 ≤ widR k := by
        have := @widR_neg k
        cases hw : widthK k with
        | none => rw [hw] at hk; cases hk
        | some n => unfold widR; rw [hw]; simp
      have hH : Hid (∀ j W, j < cs.length → Calls Tryz.prog 183 #[.int .i64 k, .int .i64 ((cs.getD j 0 : Nat) : Int)] W (RetB (.bool (hasK k ((cs.getD j 0 : Nat) : Int))) W)) := fun j W hj => has_any k _ W (by
        have hm : cs.getD j 0 ∈ cs := by simp [hj]
        have := okc_iff.1 (hok _ hm)
        omega) hk
      rw [hv]
      obtain ⟨B, hB⟩ : ∃ B, cs.all (fun c => hasK k c) = B := ⟨_, rfl⟩
      rw [hB]
      have HBB := Lib.hid hB
      have hlenI : (cs.length : Int) ≤ 1000000 := by omega
      have HL := Lib.hid hlenI
      clear hp hv HP hs hcl hL hok hk hB
      generalize widR k = wk at *
      go_enter Tryz.func142, Tryz.ntmps142
      go_wp2_with (first | ((go_at_call 181); (with_reducible refine (HP'.out _).mono ?_); rintro e w1 ⟨A1, k1, rfl, hu1, hbw1⟩; have I0 := Blk.call (Blk.new w 97 #[.int .i64 k, .string s]) hbw1; have q0 := I0.q; have hlen := hu1.len (P := Tryz.prog) ulInts; have HU := Lib.hid hu1; clear hu1) | ((go_at_call 182); (with_reducible refine (HW.out _).mono ?_); rintro e w2 ⟨rfl, hww⟩; rw [hww]; clear hww))
      have HB1 := Lib.hid (((Below.refl _ w).alloc (Nat.le_refl _) (.cells #[.int .i64 k, .string s] 97)).trans (hbw1.mono (by simp)))
      have HI0 := Lib.hid I0
      have hsz1 : w.heap.size < w1.heap.size := I0.lt
      clear hbw1 I0 q0
      go_loopw [5] (fun ix wr => VaRel k cs w1 ix wr) (fun ix _ => cs.length + 1 - (intOf ix).toNat)
      case atStart => exact ⟨0, rfl, Nat.zero_le _, fun j h => by omega, Below.refl _ _⟩
      case round =>
        obtain ⟨i, rfl, hi, hall, hbel⟩ := hrel
        have HALL := Lib.hid hall
        have HBR := Lib.hid hbel
        have I1 := Blk.call HI0.out hbel
        have q1 := I1.q
        have hszr : w1.heap.size ≤ wr.heap.size := hbel.size
        clear hall
        by_cases hlt : i < cs.length
        · obtain ⟨b2, o2, hi2, hl2, hc2⟩ := (HU.out.below hbel).at_ (P := Tryz.prog) ulInts szInt .i64 (i := (i : Int)) (by omega) (by omega)
          rw [Int.toNat_natCast] at hc2
          have HH : Hid (∀ W, Calls Tryz.prog 183 #[.int .i64 k, .int .i64 ((cs.getD i 0 : Nat) : Int)] W (RetB (.bool (hasK k ((cs.getD i 0 : Nat) : Int))) W)) := fun W => hH.out i W hlt
          obtain ⟨C, hC⟩ : ∃ C, hasK k ((cs.getD i 0 : Nat) : Int) = C := ⟨_, rfl⟩
          rw [hC] at HH
          have hltI : (i : Int) < cs.length := by omega
          have HI1 := Lib.hid I1
          have hcm : cs.getD i 0 ∈ cs := by simp [hlt]
          obtain ⟨c, hcd⟩ : ∃ c, cs.getD i 0 = c := ⟨_, rfl⟩
          rw [hcd] at hcm hc2 HH hC
          have HC := Lib.hid hC
          have HCD := Lib.hid hcd
          have HCM := Lib.hid hcm
          clear hC hbel hcm hcd
          go_wp2_with fail
          go_region_held3 (fun W' => W'.cell? ⟨w.heap.size, 0, none⟩ = some (.int .i64 k) ∧ W'.cell? ⟨b2, o2, none⟩ = some (.int .i64 (c : Int)))
            (first | go_keep | exact ⟨(Blk.q (Blk.call (Blk.drew HI1.out) hbw3) 0).trans rfl, (hbw3.cell (p := ⟨b2, o2, none⟩) hl2).trans hc2⟩ | (trace_state; fail))
            (((go_at_call 183); (with_reducible refine (HH.out _).mono ?_); rintro e w3 ⟨rfl, hbw3⟩))
          have HB3 := Lib.hid (HBR.out.trans (((Below.refl wr.heap.size wr).drew.trans hbw3).mono HBR.out.size))
          cases C with
          | false =>
            have hBf : B = false := by
              rw [← HBB.out, Bool.eq_false_iff]
              intro ha
              rw [List.all_eq_true] at ha
              have h1 := ha _ HCM.out
              rw [HC.out] at h1
              cases h1
            have HBF := Lib.hid hBf
            clear hBf
            go_wp2_with fail
            go_ret
            exact ⟨by rw [HBF.out]; rfl, HB1.out.trans (HB3.out.mono HB1.out.size)⟩
          | true =>
            go_wp2_with fail
            go_roundw
            case rel => exact ⟨i + 1, by go_num, by omega, fun j hj => (by
              by_cases hji : j < i
              · exact HALL.out j hji
              · obtain rfl : j = i := by omega
                rw [HCD.out]
                exact HC.out), HB3.out⟩
            case measure => simp [intOf]; omega
        · have hBt : B = true := by
            rw [← HBB.out, List.all_eq_true]
            intro c hc
            obtain ⟨j, hj, rfl⟩ := List.getElem_of_mem hc
            have := HALL.out j (by omega)
            simpa [hj] using this
          have HBT := Lib.hid hBt
          have hge : (cs.length : Int) ≤ i := by omega
          clear hlt hi hBt
          go_wp2_with fail
          go_ret
          exact ⟨by rw [HBT.out]; rfl, HB1.out.trans (HBR.out.mono HB1.out.size)⟩
    · have hkn : widthK k = none := by
        cases hw : widthK k with
        | none => rfl
        | some n => rw [hw] at hk; exact absurd rfl hk
      have hv : validT k s.data.toList = false := by unfold validT; rw [hkn]; rfl
      have hwn : widR k < 0 := widR_neg.2 hkn
      rw [hv]
      clear hp hv HP hs hcl hL hok hk hkn
      generalize widR k = wk at *
      go_enter Tryz.func142, Tryz.ntmps142
      go_wp2_with (first | ((go_at_call 181); (with_reducible refine (HP'.out _).mono ?_); rintro e w1 ⟨A1, k1, rfl, hu1, hbw1⟩; have I0 := Blk.call (Blk.new w 97 #[.int .i64 k, .string s]) hbw1; have q0 := I0.q; clear hu1) | ((go_at_call 182); (with_reducible refine (HW.out _).mono ?_); rintro e w2 ⟨rfl, hww⟩; rw [hww]; clear hww))
      go_ret
      exact ⟨rfl, by ((repeat' (first | (with_reducible exact Below.refl _ _) | (with_reducible assumption) | (with_reducible refine Below.setCell ?_ ?_ _) | (with_reducible refine Below.alloc ?_ ?_ _) | (with_reducible refine Below.drew ?_) | (with_reducible refine below_drewN ?_ _) | (with_reducible refine Below.step (by with_reducible assumption) ?_ ?_))) <;> (first | omega | (simp; done) | (simp; omega)))⟩
end Go.Proofs.YtlmnmgokfnnbbaaGreatDoor
end
