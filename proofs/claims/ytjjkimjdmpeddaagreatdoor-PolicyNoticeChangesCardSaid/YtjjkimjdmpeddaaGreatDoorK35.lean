/- The parts Len of one proof, one behind the other. -/
import Derived.Test.YtjjkimjdmpeddaaGreatDoorK24
import Derived.Test.YtjjkimjdmpeddaaGreatDoorK33
import Derived.Test.YtjjkimjdmpeddaaGreatDoorK34

/- Walks over charset.Len and policy.display. -/
section
set_option linter.unusedSimpArgs false
set_option linter.unusedVariables false
namespace Go.Proofs.YtjjkimjdmpeddaaGreatDoor
open Go.RowKit Go.Cr
theorem rc_pts (s : ByteArray) : ∀ (rest : List Nat) (pos fuel : Nat), pts (s.data.toList.drop pos) = some rest → rest.length ≤ fuel → Lib.runeCountFrom s fuel pos = rest.length := by
  intro rest
  induction rest with
  | nil =>
    intro pos fuel h _
    by_cases hp : pos < s.size
    · obtain ⟨rest', hr, _⟩ := pts_head hp h
      cases hr
    · rw [Lib.runeCountFrom_end s fuel pos hp]; rfl
  | cons c t ih =>
    intro pos fuel h hf
    by_cases hp : pos < s.size
    · obtain ⟨rest', hr, hq, _⟩ := pts_head hp h
      injection hr with _ hr
      subst hr
      obtain ⟨f, rfl⟩ : ∃ f, fuel = f + 1 := ⟨fuel - 1, by simp at hf; omega⟩
      unfold Lib.runeCountFrom
      rw [if_pos hp, ih _ f hq (by simpa using hf)]
      simp
      omega
    · exfalso
      rw [List.drop_eq_nil_of_le (show s.data.toList.length ≤ pos from by have h2 : s.data.toList.length = s.size := rfl; omega), pts_nil] at h
      cases h
def lenT (k : Int) (s : List UInt8) : Nat := if validT k s then ((pts s).getD []).length else 0
theorem lenT_le (k : Int) (s : List UInt8) : lenT k s ≤ s.length := by
  unfold lenT
  split
  · cases h : pts s with
    | none => simp
    | some cs => exact pts_len h
  · omega
theorem rc_any (s : ByteArray) {cs : List Nat} (h : pts s.data.toList = some cs) : Lib.runeCount s = cs.length := by
  have := pts_len h
  exact rc_pts s cs 0 s.size (by simpa using h) (by have h2 : s.data.toList.length = s.size := rfl; omega)
set_option maxRecDepth 100000 in
set_option maxHeartbeats 4000000 in
theorem charsetLen (k : Int) (s : ByteArray) (w : World) (hG : Glo w) (hs : s.size ≤ 1000000) : Calls Tryz.prog 92 #[.agg #[.int .i64 k, .string s]] w (RetB (.int .i64 (lenT k s.data.toList : Nat)) w) := by
  have HV := fun W (g : Glo W) => valid_any k s W (kindOk_all k) g (by omega)
  have HG := Lib.hid hG
  unfold lenT
  cases hv : validT k s.data.toList with
  | false =>
    have HV' : Hid (∀ W, Glo W → Calls Tryz.prog 122 #[.agg #[.int .i64 k, .string s]] W (RetB (.bool false) W)) := fun W g => by have := HV W g; rwa [hv] at this
    clear HV hv hG hs
    simp only [Bool.false_eq_true, if_false]
    go_enter Tryz.func92, Tryz.ntmps92
    go_wp2_with (((go_at_call 122); (with_reducible refine (HV'.out _ (HG.out.alloc _)).mono ?_); rintro e w1 ⟨rfl, hbw1⟩))
    go_ret
    exact ⟨rfl, by ((repeat' (first | (with_reducible exact Below.refl _ _) | (with_reducible assumption) | (with_reducible refine Below.setCell ?_ ?_ _) | (with_reducible refine Below.alloc ?_ ?_ _) | (with_reducible refine Below.drew ?_) | (with_reducible refine below_drewN ?_ _) | (with_reducible refine Below.step (by with_reducible assumption) ?_ ?_))) <;> (first | omega | (simp; done) | (simp; omega)))⟩
  | true =>
    have HV' : Hid (∀ W, Glo W → Calls Tryz.prog 122 #[.agg #[.int .i64 k, .string s]] W (RetB (.bool true) W)) := fun W g => by have := HV W g; rwa [hv] at this
    obtain ⟨_, cs, hp, _⟩ := validT_iff.1 hv
    have HRC : Hid (∀ W, Calls Tryz.prog 129 #[.string s] W (RetB (.int .i64 (cs.length : Nat)) W)) := fun W => (Tryz.utf8_RuneCountInString s W (by omega)).mono fun e w' ⟨he, pos, hw⟩ => by
      subst hw
      rw [he, rc_any s hp]
      exact ⟨rfl, (Below.refl _ _).alloc (Nat.le_refl _) _⟩
    rw [if_pos rfl, hp]
    simp only [Option.getD_some]
    clear HV hv hG hs hp
    generalize cs.length = n at *
    go_enter Tryz.func92, Tryz.ntmps92
    go_wp2_with (first | ((go_at_call 122); (with_reducible refine (HV'.out _ (HG.out.alloc _)).mono ?_); rintro e w1 ⟨rfl, hbw1⟩; have I1 := Blk.call (Blk.new w 27 #[.int .i64 k, .string s]) hbw1; have q1 := I1.q) | ((go_at_call 129); (with_reducible refine (HRC.out _).mono ?_); rintro e w2 ⟨rfl, hbw2⟩))
    go_ret
    have s1 := hbw1.size
    simp at s1
    have b1 : Below w.heap.size w w1 := ((Below.refl _ w).alloc (Nat.le_refl _) _).trans (hbw1.mono (by simp))
    exact ⟨rfl, b1.trans (hbw2.mono (by omega))⟩
def dispT (k : Int) (s : List UInt8) : Bool := decide (k = 22 ∨ k = 26 ∨ k = 30 ∨ k = 12) && (decide (1 ≤ lenT k s) && decide (lenT k s ≤ 200))
set_option maxRecDepth 100000 in
set_option maxHeartbeats 4000000 in
theorem polDisplay (k : Int) (s : ByteArray) (w : World) (hG : Glo w) (hs : s.size ≤ 1000000) : Calls Tryz.prog 52 #[.agg #[.int .i64 k, .string s]] w (RetB (.bool (dispT k s.data.toList)) w) := by
  have HL : Hid (∀ W, Glo W → Calls Tryz.prog 92 #[.agg #[.int .i64 k, .string s]] W (RetB (.int .i64 (lenT k s.data.toList : Nat)) W)) := fun W g => charsetLen k s W g hs
  have hle := lenT_le k s.data.toList
  have hL : s.data.toList.length = s.size := rfl
  have hd : dispT k s.data.toList = (decide (k = 22 ∨ k = 26 ∨ k = 30 ∨ k = 12) && (decide (1 ≤ lenT k s.data.toList) && decide (lenT k s.data.toList ≤ 200))) := rfl
  rw [hd]
  have HG := Lib.hid hG
  have hnI : ((lenT k s.data.toList : Nat) : Int) ≤ 1000000 := by omega
  clear hG hs hle hL hd
  generalize lenT k s.data.toList = n at *
  by_cases hk : k = 22 ∨ k = 26 ∨ k = 30 ∨ k = 12
  · rw [decide_eq_true hk, Bool.true_and]
    by_cases h1 : 1 ≤ n
    · by_cases h2 : n ≤ 200
      · rw [decide_eq_true h1, decide_eq_true h2]
        have g1 : (1 : Int) ≤ n := by omega
        have g2 : (n : Int) ≤ 200 := by omega
        clear h1 h2
        rcases hk with rfl | rfl | rfl | rfl
        all_goals
          go_enter Tryz.func52, Tryz.ntmps52
          go_wp2_with (((go_at_call 92); (with_reducible refine (HL.out _ (HG.out.alloc _)).mono ?_); rintro e w1 ⟨rfl, hbw1⟩))
          go_ret
          exact ⟨by first | rfl | simp [*], by ((repeat' (first | (with_reducible exact Below.refl _ _) | (with_reducible assumption) | (with_reducible refine Below.setCell ?_ ?_ _) | (with_reducible refine Below.alloc ?_ ?_ _) | (with_reducible refine Below.drew ?_) | (with_reducible refine below_drewN ?_ _) | (with_reducible refine Below.step (by with_reducible assumption) ?_ ?_))) <;> (first | omega | (simp; done) | (simp; omega)))⟩
      · rw [decide_eq_true h1, decide_eq_false h2]
        have g1 : (1 : Int) ≤ n := by omega
        have g2 : (200 : Int) < n := by omega
        clear h1 h2
        rcases hk with rfl | rfl | rfl | rfl
        all_goals
          go_enter Tryz.func52, Tryz.ntmps52
          go_wp2_with (((go_at_call 92); (with_reducible refine (HL.out _ (HG.out.alloc _)).mono ?_); rintro e w1 ⟨rfl, hbw1⟩))
          go_ret
          exact ⟨by first | rfl | (simp [*]; done) | (simp; omega), by ((repeat' (first | (with_reducible exact Below.refl _ _) | (with_reducible assumption) | (with_reducible refine Below.setCell ?_ ?_ _) | (with_reducible refine Below.alloc ?_ ?_ _) | (with_reducible refine Below.drew ?_) | (with_reducible refine below_drewN ?_ _) | (with_reducible refine Below.step (by with_reducible assumption) ?_ ?_))) <;> (first | omega | (simp; done) | (simp; omega)))⟩
    · rw [decide_eq_false h1, Bool.false_and]
      obtain rfl : n = 0 := by omega
      clear h1
      rcases hk with rfl | rfl | rfl | rfl
      all_goals
        go_enter Tryz.func52, Tryz.ntmps52
        go_wp2_with (((go_at_call 92); (with_reducible refine (HL.out _ (HG.out.alloc _)).mono ?_); rintro e w1 ⟨rfl, hbw1⟩))
        go_ret
        exact ⟨by first | rfl | simp [*], by ((repeat' (first | (with_reducible exact Below.refl _ _) | (with_reducible assumption) | (with_reducible refine Below.setCell ?_ ?_ _) | (with_reducible refine Below.alloc ?_ ?_ _) | (with_reducible refine Below.drew ?_) | (with_reducible refine below_drewN ?_ _) | (with_reducible refine Below.step (by with_reducible assumption) ?_ ?_))) <;> (first | omega | (simp; done) | (simp; omega)))⟩
  · rw [decide_eq_false hk, Bool.false_and]
    have e1 : (k == 22) = false := beq_eq_false_iff_ne.2 (by omega)
    have e2 : (k == 26) = false := beq_eq_false_iff_ne.2 (by omega)
    have e3 : (k == 30) = false := beq_eq_false_iff_ne.2 (by omega)
    have e4 : (k == 12) = false := beq_eq_false_iff_ne.2 (by omega)
    clear hk
    go_enter Tryz.func52, Tryz.ntmps52
    go_wp2_with fail
    go_ret
    exact ⟨rfl, by ((repeat' (first | (with_reducible exact Below.refl _ _) | (with_reducible assumption) | (with_reducible refine Below.setCell ?_ ?_ _) | (with_reducible refine Below.alloc ?_ ?_ _) | (with_reducible refine Below.drew ?_) | (with_reducible refine below_drewN ?_ _) | (with_reducible refine Below.step (by with_reducible assumption) ?_ ?_))) <;> (first | omega | (simp; done) | (simp; omega)))⟩
end Go.Proofs.YtjjkimjdmpeddaaGreatDoor
end
