/- Walk over Sorted of the reference. -/
import Derived.Test.YtecbphbnacbepaaOrdB
set_option linter.unusedSimpArgs false
set_option linter.unusedVariables false
namespace Go.Proofs.Ytecbphbnacbepaa
open Go.RowKit Go.Cr

theorem Behind.not_of {r : List (List UInt8)} {p : List UInt8} (h : 0 < r.length) (hc : cmpL p (r.getD (r.length - 1) []) ≤ 0) : ¬ Behind r p := by
  rintro (e | e)
  · subst e; simp at h
  · rw [getLastD_at r h] at e; omega
theorem Behind.of {r : List (List UInt8)} {p : List UInt8} (h : 0 < r.length) (hc : cmpL p (r.getD (r.length - 1) []) = 1) : Behind r p := by
  right; rw [getLastD_at r h]; omega

/-- What Sorted of the reference leaves. -/
def RetBs (ls : List (List UInt8)) (w : World) (e : Ending) (w' : World) : Prop := ∃ o r, e = .returned o ∧ SortOf ls r ∧ IsBs w' o r ∧ Below w.heap.size w w'

set_option maxRecDepth 100000 in
set_option maxHeartbeats 8000000 in
theorem rSorted (v : Value) (ls : List (List UInt8)) (w : World) (hv : IsBs w v ls) (hn : ls.length ≤ 100000) :
    Calls Try.prog 28 #[v] w (RetBs ls w) := by
  have h1 := hv.len ulBs
  have HA := Lib.hid hv
  clear hv
  go_enter Try.func28, Try.ntmps28
  go_wp2
  go_loopw [3] (fun out wr => SoRel ls w out wr) (fun out _ => ls.length - lenOfV out)
  case atStart => exact ⟨[], [], World.ownsRow_nil _ _ _ _, ⟨rfl, fun j hj => absurd hj (by simp)⟩, Beg.nil ls, Below.refl _ _⟩
  case round =>
    obtain ⟨r, vs, hown, helt, hbeg, hbel⟩ := hrel
    obtain ⟨wo, rfl⟩ : ∃ x, x = wr := ⟨_, rfl⟩
    have hlo := (IsR.of_own hown).len ulBs
    have hlv := lenOfV_own hown
    have hrl := Beg.len hbeg
    have HOW := Lib.hid hown
    have HEL := Lib.hid helt
    have HBG := Lib.hid hbeg
    clear hown helt hbeg
    go_wp2
    go_loopw [4, 5] (fun best i wi => BsRel ls r wo best i wi) (fun _ i _ => ls.length - (intOf i).toNat)
    case atStart => exact ⟨0, -1, by omega, rfl, rfl, by omega, by omega, .inl ⟨rfl, fun j hj => absurd hj (by omega)⟩, Below.refl _ _⟩
    case round =>
      obtain ⟨k, b, hk, rfl, rfl, hb0, hb1, hbest, hbel2⟩ := hrel
      have HBe := Lib.hid hbest
      have HW := Lib.hid (below_t hbel hbel2)
      clear hbest
      by_cases hlt : (k : Int) < ls.length
      · obtain ⟨ba, oa, ua, hia, hba, hca, hua⟩ := HA.out.at_ (P := Try.prog) ulBs szBs .i64 (i := k) (by omega) hlt
        simp only [Int.toNat_natCast] at hua
        have ca : wr.cell? ⟨ba, oa, none⟩ = some ua := below_cell HW.out hba hca
        have HU := Lib.hid hua
        clear hua hca
        rcases Nat.eq_zero_or_pos r.length with hr0 | hrp
        · obtain rfl : r = [] := List.eq_nil_of_length_eq_zero hr0
          have hbh : Hid (Behind [] (ls.getD k [])) := .inl rfl
          rcases Int.lt_or_le b 0 with hneg | hnn
          · obtain rfl : b = -1 := by omega
            go_wp2
            go_quiet (fail)
            go_wp2
            go_quiet (fail)
            go_wp2
            go_roundw
            case rel => exact ⟨k + 1, k, by omega, by go_num, rfl, by omega, by omega, HBe.out.first hbh.out, by ((repeat' (first | (with_reducible exact Below.refl _ _) | (with_reducible assumption) | (with_reducible refine Below.setCell ?_ ?_ _) | (with_reducible refine Below.alloc ?_ ?_ _) | (with_reducible refine Below.drew ?_) | (with_reducible refine below_drewN ?_ _) | (with_reducible refine Below.step (by with_reducible assumption) ?_ ?_))) <;> (first | omega | (simp; done) | (simp; omega)))⟩
            case measure => simp [intOf]; omega
          · obtain ⟨m, rfl⟩ : ∃ m : Nat, b = m := ⟨b.toNat, by omega⟩
            have hmf : decide ((m : Int) < 0) = false := decide_eq_false (by omega)
            obtain ⟨bm, om, um, him, hbm, hcm, hum⟩ := HA.out.at_ (P := Try.prog) ulBs szBs .i64 (i := m) (by omega) (by omega)
            simp only [Int.toNat_natCast] at hum
            have cm : wr.cell? ⟨bm, om, none⟩ = some um := below_cell HW.out hbm hcm
            have HD := Lib.hid (fun n m => rCompare_d ua um _ _ ((wr.drewN m).drewN n) (((HU.out.below HW.out).drewN m).drewN n) (((hum.below HW.out).drewN m).drewN n))
            have hv2 := cmpL_vals (ls.getD k []) (ls.getD m [])
            have HL : Hid (cmpL (ls.getD k []) (ls.getD m []) < 0 → Best ls [] (k + 1) k) := fun h => HBe.out.less hbh.out h
            have HS : Hid (¬ cmpL (ls.getD k []) (ls.getD m []) < 0 → Best ls [] (k + 1) m) := fun h => HBe.out.stay h
            clear hum hcm
            generalize cmpL (ls.getD k []) (ls.getD m []) = c2 at *
            rcases hv2 with rfl | rfl | rfl
            · go_wp2
              go_quiet (fail)
              obtain ⟨wq, hwq⟩ : ∃ x, x = wr.drewN nq := ⟨_, rfl⟩
              rw [← hwq]
              have HDq := Lib.hid (fun n => HD.out n nq)
              rw [← hwq] at HDq
              have ca2 : wq.cell? ⟨ba, oa, none⟩ = some ua := by rw [hwq]; exact ca
              have cm2 : wq.cell? ⟨bm, om, none⟩ = some um := by rw [hwq]; exact cm
              have hbq : Below wo.heap.size wo wq := by rw [hwq]; exact below_drewN hbel2 nq
              clear hwq
              go_wp2
              go_quiet (first | (go_at_call 29; exact Calls.quiet_of (HDq.out _)))
              go_wp2
              go_roundw
              case rel => exact ⟨k + 1, k, by omega, by go_num, rfl, by omega, by omega, HL.out (by omega), by ((repeat' (first | (with_reducible exact Below.refl _ _) | (with_reducible assumption) | (with_reducible refine Below.setCell ?_ ?_ _) | (with_reducible refine Below.alloc ?_ ?_ _) | (with_reducible refine Below.drew ?_) | (with_reducible refine below_drewN ?_ _) | (with_reducible refine Below.step (by with_reducible assumption) ?_ ?_))) <;> (first | omega | (simp; done) | (simp; omega)))⟩
              case measure => simp [intOf]; omega
            · go_wp2
              go_quiet (fail)
              obtain ⟨wq, hwq⟩ : ∃ x, x = wr.drewN nq := ⟨_, rfl⟩
              rw [← hwq]
              have HDq := Lib.hid (fun n => HD.out n nq)
              rw [← hwq] at HDq
              have ca2 : wq.cell? ⟨ba, oa, none⟩ = some ua := by rw [hwq]; exact ca
              have cm2 : wq.cell? ⟨bm, om, none⟩ = some um := by rw [hwq]; exact cm
              have hbq : Below wo.heap.size wo wq := by rw [hwq]; exact below_drewN hbel2 nq
              clear hwq
              go_wp2
              go_quiet (first | (go_at_call 29; exact Calls.quiet_of (HDq.out _)))
              go_wp2
              go_roundw
              case rel => exact ⟨k + 1, m, by omega, by go_num, rfl, by omega, by omega, HS.out (by omega), by ((repeat' (first | (with_reducible exact Below.refl _ _) | (with_reducible assumption) | (with_reducible refine Below.setCell ?_ ?_ _) | (with_reducible refine Below.alloc ?_ ?_ _) | (with_reducible refine Below.drew ?_) | (with_reducible refine below_drewN ?_ _) | (with_reducible refine Below.step (by with_reducible assumption) ?_ ?_))) <;> (first | omega | (simp; done) | (simp; omega)))⟩
              case measure => simp [intOf]; omega
            · go_wp2
              go_quiet (fail)
              obtain ⟨wq, hwq⟩ : ∃ x, x = wr.drewN nq := ⟨_, rfl⟩
              rw [← hwq]
              have HDq := Lib.hid (fun n => HD.out n nq)
              rw [← hwq] at HDq
              have ca2 : wq.cell? ⟨ba, oa, none⟩ = some ua := by rw [hwq]; exact ca
              have cm2 : wq.cell? ⟨bm, om, none⟩ = some um := by rw [hwq]; exact cm
              have hbq : Below wo.heap.size wo wq := by rw [hwq]; exact below_drewN hbel2 nq
              clear hwq
              go_wp2
              go_quiet (first | (go_at_call 29; exact Calls.quiet_of (HDq.out _)))
              go_wp2
              go_roundw
              case rel => exact ⟨k + 1, m, by omega, by go_num, rfl, by omega, by omega, HS.out (by omega), by ((repeat' (first | (with_reducible exact Below.refl _ _) | (with_reducible assumption) | (with_reducible refine Below.setCell ?_ ?_ _) | (with_reducible refine Below.alloc ?_ ?_ _) | (with_reducible refine Below.drew ?_) | (with_reducible refine below_drewN ?_ _) | (with_reducible refine Below.step (by with_reducible assumption) ?_ ?_))) <;> (first | omega | (simp; done) | (simp; omega)))⟩
              case measure => simp [intOf]; omega
        · have hrp' : (0 : Int) < r.length := by omega
          obtain ⟨bl, ol, hil, hbl, hcl⟩ := (IsR.of_own (ownsRow_below HOW.out hbel2)).at_ (P := Try.prog) ulBs szBs .i64 (i := (r.length : Int) - 1) (by omega) (by omega)
          have hvl : vs[r.length - 1]? = some (vs.getD (r.length - 1) undef) := by have := HEL.out.1; simp [List.getD, show r.length - 1 < vs.length by omega]
          have cl := hcl 0 (vs.getD (r.length - 1) undef) (by rw [show (((r.length : Int) - 1).toNat * 1 + 0) = r.length - 1 by omega]; exact hvl)
          rw [Nat.add_zero] at cl
          have hul := HEL.out.2 (r.length - 1) (by omega)
          have hsub : IntKind.i64.wrap ((r.length : Int) - 1) = (r.length : Int) - 1 := IntWalk.i64_in _ (by omega)
          have HC := Lib.hid (fun n => rCompare_d ua _ _ _ (wr.drewN n) ((HU.out.below HW.out).drewN n) ((hul.below HW.out).drewN n))
          have hv1 := cmpL_vals (ls.getD k []) (r.getD (r.length - 1) [])
          have HN : Hid (cmpL (ls.getD k []) (r.getD (r.length - 1) []) ≤ 0 → ¬ Behind r (ls.getD k [])) := fun h => Behind.not_of hrp h
          have HY : Hid (cmpL (ls.getD k []) (r.getD (r.length - 1) []) = 1 → Behind r (ls.getD k [])) := fun h => Behind.of hrp h
          clear hul hcl hvl
          generalize vs.getD (r.length - 1) undef = ul at *
          generalize cmpL (ls.getD k []) (r.getD (r.length - 1) []) = c1 at *
          rcases hv1 with rfl | rfl | rfl
          · go_wp2
            go_quiet (first | (go_at_call 29; exact Calls.quiet_of (HC.out _)))
            go_wp2
            go_roundw
            case rel => exact ⟨k + 1, b, by omega, by go_num, rfl, by omega, by omega, HBe.out.skip (HN.out (by omega)), by ((repeat' (first | (with_reducible exact Below.refl _ _) | (with_reducible assumption) | (with_reducible refine Below.setCell ?_ ?_ _) | (with_reducible refine Below.alloc ?_ ?_ _) | (with_reducible refine Below.drew ?_) | (with_reducible refine below_drewN ?_ _) | (with_reducible refine Below.step (by with_reducible assumption) ?_ ?_))) <;> (first | omega | (simp; done) | (simp; omega)))⟩
            case measure => simp [intOf]; omega
          · go_wp2
            go_quiet (first | (go_at_call 29; exact Calls.quiet_of (HC.out _)))
            go_wp2
            go_roundw
            case rel => exact ⟨k + 1, b, by omega, by go_num, rfl, by omega, by omega, HBe.out.skip (HN.out (by omega)), by ((repeat' (first | (with_reducible exact Below.refl _ _) | (with_reducible assumption) | (with_reducible refine Below.setCell ?_ ?_ _) | (with_reducible refine Below.alloc ?_ ?_ _) | (with_reducible refine Below.drew ?_) | (with_reducible refine below_drewN ?_ _) | (with_reducible refine Below.step (by with_reducible assumption) ?_ ?_))) <;> (first | omega | (simp; done) | (simp; omega)))⟩
            case measure => simp [intOf]; omega
          · have hbh := Lib.hid (HY.out rfl)
            rcases Int.lt_or_le b 0 with hneg | hnn
            · obtain rfl : b = -1 := by omega
              go_wp2
              go_quiet (first | (go_at_call 29; exact Calls.quiet_of (HC.out _)))
              go_wp2
              go_quiet (fail)
              go_wp2
              go_roundw
              case rel => exact ⟨k + 1, k, by omega, by go_num, rfl, by omega, by omega, HBe.out.first hbh.out, by ((repeat' (first | (with_reducible exact Below.refl _ _) | (with_reducible assumption) | (with_reducible refine Below.setCell ?_ ?_ _) | (with_reducible refine Below.alloc ?_ ?_ _) | (with_reducible refine Below.drew ?_) | (with_reducible refine below_drewN ?_ _) | (with_reducible refine Below.step (by with_reducible assumption) ?_ ?_))) <;> (first | omega | (simp; done) | (simp; omega)))⟩
              case measure => simp [intOf]; omega
            · obtain ⟨m, rfl⟩ : ∃ m : Nat, b = m := ⟨b.toNat, by omega⟩
              have hmf : decide ((m : Int) < 0) = false := decide_eq_false (by omega)
              obtain ⟨bm, om, um, him, hbm, hcm, hum⟩ := HA.out.at_ (P := Try.prog) ulBs szBs .i64 (i := m) (by omega) (by omega)
              simp only [Int.toNat_natCast] at hum
              have cm : wr.cell? ⟨bm, om, none⟩ = some um := below_cell HW.out hbm hcm
              have HD := Lib.hid (fun n m => rCompare_d ua um _ _ ((wr.drewN m).drewN n) (((HU.out.below HW.out).drewN m).drewN n) (((hum.below HW.out).drewN m).drewN n))
              have hv2 := cmpL_vals (ls.getD k []) (ls.getD m [])
              have HL : Hid (cmpL (ls.getD k []) (ls.getD m []) < 0 → Best ls r (k + 1) k) := fun h => HBe.out.less hbh.out h
              have HS : Hid (¬ cmpL (ls.getD k []) (ls.getD m []) < 0 → Best ls r (k + 1) m) := fun h => HBe.out.stay h
              clear hum hcm
              generalize cmpL (ls.getD k []) (ls.getD m []) = c2 at *
              rcases hv2 with rfl | rfl | rfl
              · go_wp2
                go_quiet (first | (go_at_call 29; exact Calls.quiet_of (HC.out _)))
                obtain ⟨wq, hwq⟩ : ∃ x, x = wr.drewN nq := ⟨_, rfl⟩
                rw [← hwq]
                have HDq := Lib.hid (fun n => HD.out n nq)
                rw [← hwq] at HDq
                have ca2 : wq.cell? ⟨ba, oa, none⟩ = some ua := by rw [hwq]; exact ca
                have cm2 : wq.cell? ⟨bm, om, none⟩ = some um := by rw [hwq]; exact cm
                have hbq : Below wo.heap.size wo wq := by rw [hwq]; exact below_drewN hbel2 nq
                clear hwq
                go_wp2
                go_quiet (first | (go_at_call 29; exact Calls.quiet_of (HDq.out _)))
                go_wp2
                go_roundw
                case rel => exact ⟨k + 1, k, by omega, by go_num, rfl, by omega, by omega, HL.out (by omega), by ((repeat' (first | (with_reducible exact Below.refl _ _) | (with_reducible assumption) | (with_reducible refine Below.setCell ?_ ?_ _) | (with_reducible refine Below.alloc ?_ ?_ _) | (with_reducible refine Below.drew ?_) | (with_reducible refine below_drewN ?_ _) | (with_reducible refine Below.step (by with_reducible assumption) ?_ ?_))) <;> (first | omega | (simp; done) | (simp; omega)))⟩
                case measure => simp [intOf]; omega
              · go_wp2
                go_quiet (first | (go_at_call 29; exact Calls.quiet_of (HC.out _)))
                obtain ⟨wq, hwq⟩ : ∃ x, x = wr.drewN nq := ⟨_, rfl⟩
                rw [← hwq]
                have HDq := Lib.hid (fun n => HD.out n nq)
                rw [← hwq] at HDq
                have ca2 : wq.cell? ⟨ba, oa, none⟩ = some ua := by rw [hwq]; exact ca
                have cm2 : wq.cell? ⟨bm, om, none⟩ = some um := by rw [hwq]; exact cm
                have hbq : Below wo.heap.size wo wq := by rw [hwq]; exact below_drewN hbel2 nq
                clear hwq
                go_wp2
                go_quiet (first | (go_at_call 29; exact Calls.quiet_of (HDq.out _)))
                go_wp2
                go_roundw
                case rel => exact ⟨k + 1, m, by omega, by go_num, rfl, by omega, by omega, HS.out (by omega), by ((repeat' (first | (with_reducible exact Below.refl _ _) | (with_reducible assumption) | (with_reducible refine Below.setCell ?_ ?_ _) | (with_reducible refine Below.alloc ?_ ?_ _) | (with_reducible refine Below.drew ?_) | (with_reducible refine below_drewN ?_ _) | (with_reducible refine Below.step (by with_reducible assumption) ?_ ?_))) <;> (first | omega | (simp; done) | (simp; omega)))⟩
                case measure => simp [intOf]; omega
              · go_wp2
                go_quiet (first | (go_at_call 29; exact Calls.quiet_of (HC.out _)))
                obtain ⟨wq, hwq⟩ : ∃ x, x = wr.drewN nq := ⟨_, rfl⟩
                rw [← hwq]
                have HDq := Lib.hid (fun n => HD.out n nq)
                rw [← hwq] at HDq
                have ca2 : wq.cell? ⟨ba, oa, none⟩ = some ua := by rw [hwq]; exact ca
                have cm2 : wq.cell? ⟨bm, om, none⟩ = some um := by rw [hwq]; exact cm
                have hbq : Below wo.heap.size wo wq := by rw [hwq]; exact below_drewN hbel2 nq
                clear hwq
                go_wp2
                go_quiet (first | (go_at_call 29; exact Calls.quiet_of (HDq.out _)))
                go_wp2
                go_roundw
                case rel => exact ⟨k + 1, m, by omega, by go_num, rfl, by omega, by omega, HS.out (by omega), by ((repeat' (first | (with_reducible exact Below.refl _ _) | (with_reducible assumption) | (with_reducible refine Below.setCell ?_ ?_ _) | (with_reducible refine Below.alloc ?_ ?_ _) | (with_reducible refine Below.drew ?_) | (with_reducible refine below_drewN ?_ _) | (with_reducible refine Below.step (by with_reducible assumption) ?_ ?_))) <;> (first | omega | (simp; done) | (simp; omega)))⟩
                case measure => simp [intOf]; omega
      · obtain rfl : k = ls.length := by omega
        rcases Int.lt_or_le b 0 with hneg | hnn
        · obtain rfl : b = -1 := by omega
          have hdone : SortOf ls r := HBG.out.done fun p hp => by
            obtain ⟨j, hj, rfl⟩ := List.mem_iff_getElem.1 hp
            rcases HBe.out with ⟨_, h⟩ | ⟨m, _, h, _⟩
            · have := h j hj; simpa [List.getD, hj] using this
            · omega
          go_wp2
          refine bodyPost_ret (v := u3) (by simp only [results, Try.results28]; go_simp) rfl ⟨_, r, rfl, hdone, ⟨vs, IsR.of_own (ownsRow_below HOW.out hbel2), fun j hj => (HEL.out.2 j hj).below HW.out⟩, HW.out⟩
        · obtain ⟨m, rfl⟩ : ∃ m : Nat, b = m := ⟨b.toNat, by omega⟩
          have hmf : decide ((m : Int) < 0) = false := decide_eq_false (by omega)
          obtain ⟨bm, om, um, him, hbm, hcm, hum⟩ := HA.out.at_ (P := Try.prog) ulBs szBs .i64 (i := m) (by omega) (by omega)
          simp only [Int.toNat_natCast] at hum
          have cm : wr.cell? ⟨bm, om, none⟩ = some um := below_cell HW.out hbm hcm
          obtain ⟨uA, un, uc, rfl⟩ : ∃ A n c, um = .slice A n c := by obtain ⟨A, c, h, _⟩ := hum; exact ⟨_, _, _, h⟩
          obtain ⟨hbh, hmin⟩ : Behind r (ls.getD m []) ∧ ∀ j, j < ls.length → Behind r (ls.getD j []) → ¬ cmpL (ls.getD j []) (ls.getD m []) < 0 := by
            rcases HBe.out with ⟨h, _⟩ | ⟨m', _, h, h2, h3⟩
            · omega
            · obtain rfl : m = m' := by omega
              exact ⟨h2, h3⟩
          have hmem := getD_mem (ls := ls) (k := m) (by omega)
          have hroom := Beg.room HBG.out hmem hbh
          have hnext := HBG.out.next hmem hbh (fun p hp hb => by
            obtain ⟨j, hj, rfl⟩ := List.mem_iff_getElem.1 hp
            have := hmin j hj (by simpa [List.getD, hj] using hb)
            simpa [List.getD, hj] using this)
          have HNX := Lib.hid hnext
          have helt' := HEL.out.snoc hum
          have HE2 := Lib.hid helt'
          obtain ⟨i0, hi0, hz0, hz1, hz2⟩ := info_parts infoBs
          have hwz := HW.out.size
          clear hbh hmin hmem hnext helt' hum hcm
          go_wp2_with (at_builtin; refine wpList_app _ rfl _ _ 38 rfl w.heap.size 30 i0 (.slice none 0 0) 1 24 ulBs hi0 hz0 hz1 hz2 rfl (by decide) _ r.length vs rfl ((ownsRow_below HOW.out hbel2).alloc _) _ 1 [.slice uA un uc] rfl (isR_at rfl rfl) (by intro u hu; simp only [List.mem_singleton] at hu; subst hu; rfl) (by have : maxLen = 9223372036854775807 := rfl; omega) (by omega) ?k3 ?_)
          case k3 => first | omega | (simp; omega)
          intro v2 w2 ho2 _ hb2
          have HO2 := Lib.hid ho2
          have hlv2 := lenOfV_own ho2
          clear ho2
          go_wp2
          go_roundw
          case rel => exact ⟨r ++ [ls.getD m []], vs ++ [.slice uA un uc], by simpa using HO2.out, HE2.out, HNX.out, (HW.out.alloc hwz _).trans hb2⟩
          case measure => rw [hlv2, hlv]; omega
end Go.Proofs.Ytecbphbnacbepaa
