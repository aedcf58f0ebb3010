/- The parts RpE of one proof, one behind the other. -/
import Derived.Test.YtjjkimjdmpeddaaGreatDoorJ35

/- Walk over the reference's Parse of policies: the list is its own. -/
section
set_option linter.unusedSimpArgs false
set_option linter.unusedVariables false
namespace Go.Proofs.YtjjkimjdmpeddaaGreatDoor
open Go.RowKit Go.Cr

def RetRPw (ms : List Pol) (w : World) (e : Ending) (w' : World) : Prop := ∃ A k, e = .returned (.tuple #[.slice A ms.length k, .bool true]) ∧ OwL (repS repA) (fun _ => True) w' w.heap.size 66 (.slice A ms.length k) ms ∧ Below w.heap.size w w'
set_option maxRecDepth 100000 in
set_option maxHeartbeats 8000000 in
theorem rParP_own (v : Value) (b : List UInt8) (ms : List Pol) (w : World) (hv : IsB w v b) (hL : b.length ≤ 4000) (hp : rparPs b = some ms) : Calls Tryz.prog 42 #[v] w (RetRPw ms w) := by
  have HD := Lib.hid (fun W (h : IsB W v b) => rDeepP v b W h hL)
  have HV := Lib.hid hv
  have hz := szP_rd b hL
  have hfl := rdP_flat b hL
  have hm : marP (rdPs b) = some b ∧ rdPs b = ms := by
    unfold rparPs at hp
    split at hp
    · rename_i h
      exact ⟨h, Option.some.inj hp⟩
    · cases hp
  obtain ⟨hm, he⟩ := hm
  rw [he] at hm hz hfl HD
  have ho : okP ms = true := by
    unfold marP at hm
    split at hm
    · assumption
    · cases hm
  have hsq : seqL (ms.map polL) = b := by unfold marP at hm; rw [if_pos ho] at hm; exact Option.some.inj hm
  have HM : Hid (∀ W u, IsPs W u ms → Calls Tryz.prog 37 #[u] W (RetOidY b W)) := fun W u h => by have := rMarP_yes u ms W h hz hfl ho; rwa [hsq] at this
  have HBt : Hid (∀ W u, IsB W u b → IsB W v b → Calls Tryz.prog 21 #[u, v] W (RetB (.bool true) W)) := fun W u h h2 => by
    have := bytes_any u v b b W h h2
    rwa [decide_eq_true rfl] at this
  obtain ⟨A, k, rfl⟩ := isB_slice hv
  clear hv hL hz hp hm ho hfl hsq he
  go_enter Tryz.func42, Tryz.ntmps42
  go_wp2_with (first | ((go_at_call 64); (with_reducible refine (HD.out _ HV.out).mono ?_); rintro e w1 ⟨hbw1, c1, c2, c3, a4, a5, n4, k4, n5, k5, t, rfl, hrd⟩; have HRD := Lib.hid hrd; have HB1 := Lib.hid hbw1; clear hrd hbw1) | ((go_at_call 85); (with_reducible refine (HRD.out _ ((Below.refl _ w1).alloc (Nat.le_refl _) _)).mono ?_); rintro e w2 ⟨A2, k2, rfl, ho2, hbw2⟩; have HB2 := Lib.hid ((HB1.out.alloc HB1.out.size _).trans (hbw2.mono (by have := HB1.out.size; simp; omega))); have HO2 := Lib.hid (ho2.more (base' := w.heap.size) (by have := HB1.out.size; simp; omega)); clear ho2 hbw2) | ((go_at_call 37); (with_reducible refine (HM.out _ _ (isPs_of HO2.out.isL)).mono ?_); rintro e w3 ⟨v3, rfl, ho3, hbw3⟩; obtain ⟨A3, k3, rfl⟩ := isB_slice ho3.isB; have HB3 := Lib.hid (HB2.out.trans (hbw3.mono HB2.out.size)); have HV3 := Lib.hid ho3.isB; have HO3 := Lib.hid (HO2.out.below hbw3); clear hbw3 ho3) | ((go_at_call 21); (with_reducible refine (HBt.out _ _ HV3.out (HV.out.below HB3.out)).mono ?_); rintro e w4 ⟨rfl, hbw4⟩; have HB4 := Lib.hid (HB3.out.trans (hbw4.mono HB3.out.size)); have HO4 := Lib.hid (HO3.out.below hbw4); clear hbw4))
  go_ret2
  exact ⟨A2, k2, rfl, HO4.out, HB4.out⟩
end Go.Proofs.YtjjkimjdmpeddaaGreatDoor
end
