/- The parts RefL of one proof, one behind the other. -/
import Derived.Test.YtlmnmgokfnnbbaaGreatDoorM29
import Derived.Test.YtlmnmgokfnnbbaaGreatDoorM07
import Derived.LoopTactic

/- Walks over the reference's labels. -/
section
set_option linter.unusedSimpArgs false
set_option linter.unusedVariables false
namespace Go.Cr
def namesL : List ByteArray := labelsL.flatMap fun p => [p.1, p.2]
theorem names_at : ∀ j : Fin 10, namesL[2 * j.val]? = (labelsL[j.val]?).map (·.1) ∧ namesL[2 * j.val + 1]? = (labelsL[j.val]?).map (·.2) := by decide
theorem labels_at {j : Nat} (h : j < 10) : ∃ a b, (a, b) ∈ labelsL ∧ labelsL[j]? = some (a, b) ∧ namesL[2 * j]? = some a ∧ namesL[2 * j + 1]? = some b := by
  have hl : labelsL.length = 10 := rfl
  obtain ⟨p, hp⟩ : ∃ p, labelsL[j]? = some p := ⟨_, List.getElem?_eq_getElem (by omega)⟩
  obtain ⟨h1, h2⟩ := names_at ⟨j, h⟩
  simp only [hp, Option.map_some] at h1 h2
  obtain ⟨a, b⟩ := p
  exact ⟨a, b, List.mem_of_getElem? hp, hp, h1, h2⟩
end Go.Cr
namespace Go.Proofs.YtlmnmgokfnnbbaaGreatDoor
open Go.RowKit Go.Cr
theorem ulStrs : Tryz.prog.underlying 61 = some (.slice 9) := by kernel_rfl
theorem szStr (W : World) : (sizeOf 9).run Tryz.prog W = .ok 1 W := Tryz.sizeOf9 W
def strCells (l : List ByteArray) : List Value := l.map .string
def RetNm (w : World) (e : Ending) (w' : World) : Prop := ∃ v, e = .returned v ∧ IsR w' v 1 20 (strCells namesL) ∧ Below w.heap.size w w'
set_option maxRecDepth 100000 in
set_option maxHeartbeats 4000000 in
theorem names_any (w : World) : Calls Tryz.prog 79 #[] w (RetNm w) := by
  go_enter Tryz.func79, Tryz.ntmps79
  go_wp2_with fail
  go_ret
  refine ⟨_, rfl, ⟨_, 20, rfl, Nat.le_refl _, by decide, rfl, fun _ => ⟨w.heap.size, 0, rfl, by simp, fun j x hj => ?_⟩⟩, (Below.refl _ _).alloc (Nat.le_refl _) _⟩
  rw [Nat.zero_add, World.cell?_alloc_new, ← hj, ← Array.getElem?_toList]
  rfl

def LbRel (s : ByteArray) (ix : Value) : Prop := ∃ j i0 : Nat, i0 = 2 * j ∧ j ≤ 10 ∧ ix = .int .i64 (i0 : Int) ∧ ∀ m a b, m < j → labelsL[m]? = some (a, b) → b ≠ s
set_option maxRecDepth 100000 in
set_option maxHeartbeats 4000000 in
theorem rLabel (s : ByteArray) (w : World) : Calls Tryz.prog 47 #[.string s] w (RetB (.string (labelOf s)) w) := by
  have HR : Hid (∀ W, Calls Tryz.prog 79 #[] W (RetNm W)) := names_any
  go_enter Tryz.func47, Tryz.ntmps47
  go_wp2_with (((go_at_call 79); (with_reducible refine (HR.out _).mono ?_); rintro e w1 ⟨v, rfl, hv, hbw1⟩; have HV := Lib.hid hv; have hlen := HV.out.len (P := Tryz.prog) ulStrs; clear hv))
  go_loop [4] (fun ix => LbRel s ix) (fun ix => 21 - (intOf ix).toNat)
  case atStart => exact ⟨0, 0, rfl, by omega, rfl, fun m _ _ h => by omega⟩
  case round =>
    obtain ⟨j, i0, hi0, hj, rfl, hno⟩ := hrel
    have HNO := Lib.hid hno
    have HI0 := Lib.hid hi0
    clear hno
    by_cases hlt : j < 10
    · obtain ⟨a, b, hm, hja, h1, h2⟩ := labels_at hlt
      rw [← hi0] at h1 h2
      obtain ⟨b1, o1, hi1, hl1, hc1⟩ := HV.out.at_ (P := Tryz.prog) ulStrs szStr .i64 (i := ((i0 + 1 : Nat) : Int)) (by omega) (by omega)
      obtain ⟨b2, o2, hi2, hl2, hc2⟩ := HV.out.at_ (P := Tryz.prog) ulStrs szStr .i64 (i := (i0 : Int)) (by omega) (by omega)
      have q1 := hc1 0 (.string b) (by rw [Int.toNat_natCast, Nat.mul_one, Nat.add_zero]; simp [strCells, h2])
      have q2 := hc2 0 (.string a) (by rw [Int.toNat_natCast, Nat.mul_one, Nat.add_zero]; simp [strCells, h1])
      simp only [Nat.add_zero] at q1 q2
      have hcast : ((i0 + 1 : Nat) : Int) = (i0 : Int) + 1 := by omega
      rw [hcast] at hi1
      have HM := Lib.hid hm
      have HJ := Lib.hid hja
      have hr1 : (i0 : Int) < 20 := by omega
      clear hc1 hc2 hm hja h1 h2 hcast hi0
      by_cases hbs : b = s
      · subst hbs
        have he := str_eq b
        go_wp2
        go_ret
        exact ⟨by rw [labelOf_of HM.out]; rfl, hbw1⟩
      · have he := str_ne hbs
        have HN := Lib.hid hbs
        clear hbs
        go_wp2
        go_round
        case rel =>
          refine ⟨j + 1, i0 + 2, by have := HI0.out; omega, by omega, by (first | go_num | (congr 1; omega)), fun m a' b' hm' hab => ?_⟩
          by_cases hmj : m < j
          · exact HNO.out m a' b' hmj hab
          · obtain rfl : m = j := by omega
            rw [HJ.out] at hab
            injection hab with hab
            injection hab with _ hab
            subst hab
            exact HN.out
        case measure => (simp [intOf]; try omega)
    · have hje : j = 10 := by omega
      subst hje
      have hr1 : (20 : Int) ≤ i0 := by omega
      clear hi0
      have hn : ∀ k, (k, s) ∉ labelsL := fun k hk => by
        obtain ⟨m, hm⟩ := List.getElem?_of_mem hk
        have hl : labelsL.length = 10 := rfl
        have hm10 : m < 10 := by
          rcases Nat.lt_or_ge m 10 with h | h
          · exact h
          · rw [List.getElem?_eq_none (by omega)] at hm; cases hm
        exact HNO.out m k s hm10 hm rfl
      have HN := Lib.hid hn
      clear hn
      go_wp2
      go_ret
      exact ⟨by rw [labelOf_none HN.out]; rfl, hbw1⟩
end Go.Proofs.YtlmnmgokfnnbbaaGreatDoor
end
