/- The parts RpA of one proof, one behind the other. -/
import Derived.Test.YtjjkimjdmpeddaaGreatDoorJ14
import Derived.Test.YtjjkimjdmpeddaaGreatDoorJ26
import Derived.Deep.QuietTactic
import Derived.BigQuiet

/- Walk over cretulabase.Policies. -/
section
set_option linter.unusedSimpArgs false
set_option linter.unusedVariables false
namespace Go.Proofs.YtjjkimjdmpeddaaGreatDoor
open Go.RowKit Go.Cr

def Rba (la lb : List Pol) (w : World) (ix : Value) (wr : World) : Prop := ∃ i : Nat, ix = .int .i64 (i : Int) ∧ i ≤ la.length ∧ i ≤ lb.length ∧ (∀ j, j < i → la.getD j default = lb.getD j default) ∧ Below w.heap.size w wr
def Rbq (qa qb : List Qual) (w : World) (ix : Value) (wr : World) : Prop := ∃ k : Nat, ix = .int .i64 (k : Int) ∧ k ≤ qa.length ∧ (∀ j, j < k → qa.getD j default = qb.getD j default) ∧ Below w.heap.size w wr
theorem list_getD_eq {α : Type} [Inhabited α] {l r : List α} (hn : l.length = r.length) (h : ∀ j, j < l.length → l.getD j default = r.getD j default) : l = r := by
  apply List.ext_getElem hn
  intro j h1 h2
  have := h j h1
  simpa [h1, h2] using this
set_option maxRecDepth 100000 in
set_option maxHeartbeats 16000000 in
theorem basP (a b : Value) (la lb : List Pol) (w : World) (ha : IsPs w a la) (hb : IsPs w b lb) : Calls Tryz.prog 41 #[a, b] w (RetB (.bool (decide (la = lb))) w) := by
  have hlena := ha.len (P := Tryz.prog) ulPs
  have hlenb := hb.len (P := Tryz.prog) ulPs
  have hmxa := ha.maxl
  have hmxb := hb.maxl
  have HA := Lib.hid ha
  have HB := Lib.hid hb
  obtain ⟨A, c, rfl⟩ := isPs_slice ha
  obtain ⟨A', c', rfl⟩ := isPs_slice hb
  obtain ⟨R, hR⟩ : ∃ R, decide (la = lb) = R := ⟨_, rfl⟩
  rw [hR]
  have HR := Lib.hid hR
  clear ha hb hR
  go_enter Tryz.func41, Tryz.ntmps41
  go_wp2_with fail
  go_loopw [5] (fun ix wr => Rba la lb w ix wr) (fun ix _ => la.length + 1 - (intOf ix).toNat)
  case atStart => exact ⟨0, rfl, Nat.zero_le _, Nat.zero_le _, fun j h => by omega, Below.refl _ _⟩
  case round =>
    obtain ⟨i, rfl, hi, hi', hall, hbel⟩ := hrel
    obtain ⟨wo, rfl⟩ : ∃ wo, wo = wr := ⟨_, rfl⟩
    have HALL := Lib.hid hall
    have HBR := Lib.hid hbel
    clear hall
    by_cases hlt : i < la.length
    · have hltI : (i : Int) < la.length := by omega
      by_cases hlt' : i < lb.length
      · obtain ⟨b2, o2, A2, k2, hi2, hl2, hc1, hc2, hIQ⟩ := HA.out.at_ (P := Tryz.prog) ulPs szPol .i64 i hlt
        obtain ⟨b3, o3, A3, k3, hi3, hl3, hd1, hd2, hJQ⟩ := HB.out.at_ (P := Tryz.prog) ulPs szPol .i64 i hlt'
        have hga : la.getD i default = la[i] := by simp [hlt]
        have hgb : lb.getD i default = lb[i] := by simp [hlt']
        have hltI' : (i : Int) < lb.length := by omega
        generalize ha0 : la[i] = x at *
        generalize hb0 : lb[i] = y at *
        obtain ⟨s0, qs⟩ := x
        obtain ⟨t0, rs⟩ := y
        simp only at hc1 hc2 hd1 hd2 hIQ hJQ
        have h1o : wo.cell? ⟨b2, o2, none⟩ = some (.string s0) := (hbel.cell (p := ⟨b2, o2, none⟩) hl2).trans hc1
        have h2o : wo.cell? ⟨b2, o2 + 1, none⟩ = some (.slice A2 qs.length k2) := (hbel.cell (p := ⟨b2, o2 + 1, none⟩) hl2).trans hc2
        have h3o : wo.cell? ⟨b3, o3, none⟩ = some (.string t0) := (hbel.cell (p := ⟨b3, o3, none⟩) hl3).trans hd1
        have h4o : wo.cell? ⟨b3, o3 + 1, none⟩ = some (.slice A3 rs.length k3) := (hbel.cell (p := ⟨b3, o3 + 1, none⟩) hl3).trans hd2
        have hlq := hIQ.len (P := Tryz.prog) ulQs
        have hlr := hJQ.len (P := Tryz.prog) ulQs
        have hmq := hIQ.maxl
        have hmr := hJQ.maxl
        have HC2 := Lib.hid hc2
        have HD2 := Lib.hid hd2
        have HIQ := Lib.hid hIQ
        have HJQ := Lib.hid hJQ
        have HGA := Lib.hid hga
        have HGB := Lib.hid hgb
        have hne : (s0, qs) ≠ (t0, rs) → R = false := fun h => by
          rw [← HR.out]
          refine decide_eq_false fun he => h ?_
          subst he
          rw [← ha0, ← hb0]
        have HNE := Lib.hid hne
        clear hga hgb ha0 hb0 hne hc1 hc2 hd1 hd2 hIQ hJQ hbel
        by_cases e0 : s0 = t0
        · subst e0
          have heq := strEq0 s0
          by_cases en : qs.length = rs.length
          · have hen : ((qs.length : Int) == rs.length) = true := by rw [en]; simp
            have hen2 : ((qs.length : Int) != rs.length) = false := by rw [en]; simp
            have HEN := Lib.hid en
            clear en
            go_wp2_with fail
            go_quiet (fail)
            have HBK := Lib.hid (below_drewN HBR.out nq)
            generalize wo.drewN nq = wk at *
            clear h1o h2o h3o h4o
            go_wp2_with fail
            go_loopw [6] (fun ix wq => Rbq qs rs wk ix wq) (fun ix _ => qs.length + 1 - (intOf ix).toNat)
            case atStart => exact ⟨0, rfl, Nat.zero_le _, fun j h => by omega, Below.refl _ _⟩
            case round =>
              obtain ⟨k, rfl, hk, hq, hbm⟩ := hrel
              obtain ⟨wm, rfl⟩ : ∃ wm, wm = wr := ⟨_, rfl⟩
              have HQ := Lib.hid hq
              have HBM := Lib.hid hbm
              have hwm : Below w.heap.size w wm := HBK.out.trans (hbm.mono HBK.out.size)
              have HWM := Lib.hid hwm
              have h2m : wm.cell? ⟨b2, o2 + 1, none⟩ = some (.slice A2 qs.length k2) := (hwm.cell (p := ⟨b2, o2 + 1, none⟩) hl2).trans HC2.out
              have h4m : wm.cell? ⟨b3, o3 + 1, none⟩ = some (.slice A3 rs.length k3) := (hwm.cell (p := ⟨b3, o3 + 1, none⟩) hl3).trans HD2.out
              clear hq hbm
              by_cases hkl : k < qs.length
              · have hkr : k < rs.length := by have := HEN.out; omega
                obtain ⟨b4, o4, A4, k4, hi4, hl4, p1, p2, hIB⟩ := HIQ.out.at_ (P := Tryz.prog) ulQs szQual .i64 k hkl
                obtain ⟨b5, o5, A5, k5, hi5, hl5, r1, r2, hJB⟩ := HJQ.out.at_ (P := Tryz.prog) ulQs szQual .i64 k hkr
                have hqa : qs.getD k default = qs[k] := by simp [hkl]
                have hqb : rs.getD k default = rs[k] := by simp [hkr]
                have hkI : (k : Int) < qs.length := by omega
                have hkI2 : (k : Int) < rs.length := by omega
                have hneq : qs[k] ≠ rs[k] → R = false := fun h => HNE.out fun he => h (by have := (Prod.mk.inj he).2; subst this; rfl)
                have g1 : wm.cell? ⟨b4, o4, none⟩ = some (.string qs[k].1) := (hwm.cell (p := ⟨b4, o4, none⟩) hl4).trans p1
                have g2 : wm.cell? ⟨b4, o4 + 1, none⟩ = some (.slice A4 qs[k].2.length k4) := (hwm.cell (p := ⟨b4, o4 + 1, none⟩) hl4).trans p2
                have g3 : wm.cell? ⟨b5, o5, none⟩ = some (.string rs[k].1) := (hwm.cell (p := ⟨b5, o5, none⟩) hl5).trans r1
                have g4 : wm.cell? ⟨b5, o5 + 1, none⟩ = some (.slice A5 rs[k].2.length k5) := (hwm.cell (p := ⟨b5, o5 + 1, none⟩) hl5).trans r2
                have hb4 : b4 < wm.heap.size := Nat.lt_of_lt_of_le hl4 hwm.size
                have hb5 : b5 < wm.heap.size := Nat.lt_of_lt_of_le hl5 hwm.size
                have hb3 : b3 < wm.heap.size := Nat.lt_of_lt_of_le hl3 hwm.size
                have HNQ := Lib.hid hneq
                have HIB := Lib.hid (hIB.below hwm)
                have HJB := Lib.hid (hJB.below hwm)
                clear p1 p2 r1 r2 hIB hJB hneq hwm
                generalize qs[k] = x at *
                generalize rs[k] = y at *
                obtain ⟨x0, xl⟩ := x
                obtain ⟨y0, yl⟩ := y
                simp only at g1 g2 g3 g4
                have HQA := Lib.hid hqa
                have HQB := Lib.hid hqb
                have HBY := Lib.hid (fun W (h : IsB W (.slice A4 xl.length k4) xl) (h' : IsB W (.slice A5 yl.length k5) yl) => bytes_any _ _ _ _ W h h')
                clear hqa hqb
                by_cases ex : x0 = y0
                · subst ex
                  have hex := strEq0 x0
                  by_cases el : xl = yl
                  · subst el
                    rw [decide_eq_true rfl] at HBY
                    go_wp2_with (((go_at_call 21); (with_reducible refine (HBY.out _ ((HIB.out.alloc _).alloc _) ((HJB.out.alloc _).alloc _)).mono ?_); rintro e w6 ⟨rfl, hbw6⟩; have HB6 := Lib.hid (((HBM.out.alloc HBM.out.size _).alloc (by have := HBM.out.size; simp; omega) _).trans (hbw6.mono (by have := HBM.out.size; simp; omega))); clear hbw6))
                    go_roundw
                    case rel =>
                      refine ⟨k + 1, by go_num, by omega, fun j hj => ?_, HB6.out⟩
                      by_cases hjk : j < k
                      · exact HQ.out j hjk
                      · obtain rfl : j = k := by omega
                        rw [HQA.out, HQB.out]
                    case measure => simp [intOf]; omega
                  · rw [decide_eq_false el] at HBY
                    have HBF := Lib.hid (HNQ.out fun h => el (Prod.mk.inj h).2)
                    clear el
                    go_wp2_with (((go_at_call 21); (with_reducible refine (HBY.out _ ((HIB.out.alloc _).alloc _) ((HJB.out.alloc _).alloc _)).mono ?_); rintro e w6 ⟨rfl, hbw6⟩; have HB6 := Lib.hid (((HWM.out.alloc HWM.out.size _).alloc (by have := HWM.out.size; simp; omega) _).trans (hbw6.mono (by have := HWM.out.size; simp; omega))); clear hbw6))
                    go_ret
                    exact ⟨by rw [HBF.out]; rfl, HB6.out⟩
                · have hex := strNe0 ex
                  have HBF := Lib.hid (HNQ.out fun h => ex (Prod.mk.inj h).1)
                  clear ex
                  go_wp2_with fail
                  go_ret
                  exact ⟨by rw [HBF.out]; rfl, (HWM.out.alloc HWM.out.size _).alloc (by have := HWM.out.size; simp; omega) _⟩
              · have hqe : qs = rs := list_getD_eq HEN.out fun j hj => HQ.out j (by omega)
                have hge : (qs.length : Int) ≤ k := by omega
                have HQE := Lib.hid hqe
                clear hqe hkl hk hwm
                go_wp2_with fail
                refine ⟨⟨i + 1, by go_num, by omega, by omega, fun j hj => ?_, HWM.out⟩, by simp [intOf]; omega⟩
                by_cases hji : j < i
                · exact HALL.out j hji
                · obtain rfl : j = i := by omega
                  rw [HGA.out, HGB.out, HQE.out]
          · have hen : ((qs.length : Int) == rs.length) = false := beq_eq_false_iff_ne.2 (by omega)
            have hen2 : ((qs.length : Int) != rs.length) = true := by simp; omega
            have HBF := Lib.hid (HNE.out fun h => en (by rw [(Prod.mk.inj h).2]))
            clear en
            go_wp2_with fail
            go_quiet (fail)
            go_wp2_with fail
            go_ret
            exact ⟨by rw [HBF.out]; rfl, below_drewN HBR.out nq⟩
        · have heq := strNe0 e0
          have HBF := Lib.hid (HNE.out fun h => e0 (Prod.mk.inj h).1)
          clear e0
          go_wp2_with fail
          go_quiet (fail)
          go_wp2_with fail
          go_ret
          exact ⟨by rw [HBF.out]; rfl, below_drewN HBR.out nq⟩
      · have hge : (lb.length : Int) ≤ i := by omega
        have hBv : R = false := by
          rw [← HR.out]
          refine decide_eq_false fun he => ?_
          subst he
          exact hlt' hlt
        have hdd : decide ((la.length : Int) = lb.length) = false := decide_eq_false (by omega)
        have hdd2 : ((la.length : Int) == lb.length) = false := beq_eq_false_iff_ne.2 (by omega)
        go_wp2_with fail
        go_ret
        exact ⟨by rw [hBv]; first | rfl | simp, HBR.out⟩
    · have hge : (la.length : Int) ≤ i := by omega
      have hBv : R = decide (la.length = lb.length) := by
        rw [← HR.out]
        apply decide_eq_decide.2
        constructor
        · intro h; rw [h]
        · intro h
          exact list_getD_eq h fun j hj => HALL.out j (by omega)
      go_wp2_with fail
      go_ret
      refine ⟨?_, HBR.out⟩
      rw [hBv]
      by_cases hll : la.length = lb.length
      · simp [hll]
      · simp [hll]; omega
end Go.Proofs.YtjjkimjdmpeddaaGreatDoor
end
