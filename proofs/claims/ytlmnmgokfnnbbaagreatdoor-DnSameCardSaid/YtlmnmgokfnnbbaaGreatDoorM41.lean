/- The parts LawNamS of one proof, one behind the other. -/
import Derived.Test.YtlmnmgokfnnbbaaGreatDoorM12
import Derived.Test.YtlmnmgokfnnbbaaGreatDoorM35
import Derived.Test.YtlmnmgokfnnbbaaGreatDoorM34
import Derived.Test.YtlmnmgokfnnbbaaGreatDoorM40

/- DnSame: the walk. -/
section
set_option linter.unusedSimpArgs false
set_option linter.unusedVariables false
namespace Go.Proofs.YtlmnmgokfnnbbaaGreatDoor.NamSDone
open Go.RowKit Go.Cr
theorem few_vals {n : Nam} (h : FwNm n) : ∀ r ∈ n, ∀ a ∈ r, a.2.length ≤ 4000 := fun r hr a ha => by
  have := (h.2.1 r hr).2.1 a ha
  unfold FewA at this
  omega
set_option maxRecDepth 100000 in
set_option maxHeartbeats 16000000 in
theorem walk (va : Value) (a : Nam) (vb : Value) (b : Nam) (vc : Value) (c : Nam) (w : World) (ha : IsNm w va a) (hA : BdNm 140737488351232 a) (hb : IsNm w vb b) (hB : BdNm 140737488351232 b) (hc : IsNm w vc c) (hC : BdNm 140737488351232 c) (hG : Glo w) : Calls Tryz.prog 3 #[va, vb, vc] w (RetB (.bool true) w) := by
  have HA : Hid (∀ W, Glo W → Calls Tryz.prog 14 #[] W (RetB (.bool true) W)) := awakeD
  have HFa : Hid (∀ W, IsNm W va a → Calls Tryz.prog 15 #[va] W (RetFnm a W)) := fun W h => rFewNm va a W h hA
  have HFb : Hid (∀ W, IsNm W vb b → Calls Tryz.prog 15 #[vb] W (RetFnm b W)) := fun W h => rFewNm vb b W h hB
  have HFc : Hid (∀ W, IsNm W vc c → Calls Tryz.prog 15 #[vc] W (RetFnm c W)) := fun W h => rFewNm vc c W h hC
  have HVa := Lib.hid ha
  have HVb := Lib.hid hb
  have HVc := Lib.hid hc
  have HG := Lib.hid hG
  have HS : Hid (∀ (x y : Nam), FwNm x → FwNm y → ∀ W vx vy, Glo W → IsNm W vx x → IsNm W vy y → Calls Tryz.prog 16 #[vx, vy] W (RetB (.bool (sameX x y)) W)) := Lib.hid (fun x y zx zy W vx vy g h1 h2 => dnSame vx vy x y W g h1 h2 zx.sz zy.sz)
  have HU : Hid (∀ (x y : Nam), FwNm x → FwNm y → ∀ W vx vy, Glo W → IsNm W vx x → IsNm W vy y → Calls Tryz.prog 18 #[vx, vy] W (RetB (.bool (underX x y)) W)) := Lib.hid (fun x y zx zy W vx vy g h1 h2 => under_any vx vy x y W g h1 h2 zx.sz zy.sz)
  have HRS : Hid (∀ (x y : Nam), FwNm x → FwNm y → ∀ W vx vy, IsNm W vx x → IsNm W vy y → Calls Tryz.prog 17 #[vx, vy] W (RetB (.bool (sameX x y)) W)) := Lib.hid (fun x y zx zy W vx vy h1 h2 => rSameNm vx vy x y W h1 h2 zx.sz zy.sz (few_vals zx) (few_vals zy))
  have HRU : Hid (∀ (x y : Nam), FwNm x → FwNm y → ∀ W vx vy, IsNm W vx x → IsNm W vy y → Calls Tryz.prog 19 #[vx, vy] W (RetB (.bool (underX x y)) W)) := Lib.hid (fun x y zx zy W vx vy h1 h2 => rUnder_any vx vy x y W h1 h2 zx.sz zy.sz (few_vals zx) (few_vals zy))
  have HRV : Hid (FwNm a → ∀ W vx, IsNm W vx a → Calls Tryz.prog 20 #[vx] W (RetB (.bool (marNm a).isSome) W)) := Lib.hid (fun z W vx h => rValidNm vx a W h z.sz)
  have HNIL : Hid (FwNm []) := Lib.hid ⟨by simp, fun r hr => by simp at hr, by simp [sumN]⟩
  have HNV : Hid (∀ W, IsNm W (.slice none 0 0) []) := Lib.hid (fun W => IsNm.nil_ W)
  have HSab := Lib.hid (HS.out a b)
  have HSbc := Lib.hid (HS.out b c)
  have HSac := Lib.hid (HS.out a c)
  have HSba := Lib.hid (HS.out b a)
  have HSaa := Lib.hid (HS.out a a)
  have HUab := Lib.hid (HU.out a b)
  have HUan := Lib.hid (HU.out a [] )
  have HRSab := Lib.hid (HRS.out a b)
  have HRUab := Lib.hid (HRU.out a b)
  rw [sameX_symm] at HSba
  rw [sameX_refl] at HSaa
  rw [underX_nil] at HUan
  have h1 : sameX a b = true → sameX b c = true → sameX a c = true := fun h1 h2 => sameX_trans h1 h2
  have h2 : sameX a b = true → underX a b = true := fun h => sameX_under h
  have H1 := Lib.hid h1
  have H2 := Lib.hid h2
  clear h1 h2 HS HU HRS HRU
  generalize sameX a b = AB at *
  generalize sameX b c = BC at *
  generalize sameX a c = AC at *
  generalize underX a b = UB at *
  generalize (marNm a).isSome = VA at *
  have hVV : (VA == VA) = true := by simp
  have hVW : (VA != VA) = false := by simp
  have hUU : (UB != UB) = false := by simp
  have hAA : (AB != AB) = false := by simp
  have hcur := Lib.hid (Below.refl w.heap.size w)
  obtain ⟨A1, k1, rfl⟩ := isNm_slice ha
  obtain ⟨A2, k2, rfl⟩ := isNm_slice hb
  obtain ⟨A3, k3, rfl⟩ := isNm_slice hc
  clear ha hb hc hA hB hC hG
  cases AB with
  | false =>
    go_enter Tryz.func3, Tryz.ntmps3
    go_wp2_with (first | ((go_at_call 14); (with_reducible refine (HA.out _ (HG.out.below hcur.out)).mono ?_); rintro e wz ⟨rfl, hbz⟩; have hcur := Lib.hid (hcur.out.trans (hbz.mono hcur.out.size)); clear hbz) | ((go_at_call 15); (with_reducible refine (HFa.out _ (HVa.out.below hcur.out)).mono ?_); rintro e wz ⟨b', rfl, hb', hbz⟩; have hcur := Lib.hid (hcur.out.trans (hbz.mono hcur.out.size)); have HWa := Lib.hid hb'; clear hb' hbz; cases b') | ((go_at_call 15); (with_reducible refine (HFb.out _ (HVb.out.below hcur.out)).mono ?_); rintro e wz ⟨b', rfl, hb', hbz⟩; have hcur := Lib.hid (hcur.out.trans (hbz.mono hcur.out.size)); have HWb := Lib.hid hb'; clear hb' hbz; cases b') | ((go_at_call 15); (with_reducible refine (HFc.out _ (HVc.out.below hcur.out)).mono ?_); rintro e wz ⟨b', rfl, hb', hbz⟩; have hcur := Lib.hid (hcur.out.trans (hbz.mono hcur.out.size)); have HWc := Lib.hid hb'; clear hb' hbz; cases b') | ((go_at_call 16); (with_reducible refine (HSab.out (HWa.out (by trivial)) (HWb.out (by trivial)) _ _ _ (HG.out.below hcur.out) (HVa.out.below hcur.out) (HVb.out.below hcur.out)).mono ?_); rintro e wz ⟨rfl, hbz⟩; have hcur := Lib.hid (hcur.out.trans (hbz.mono hcur.out.size)); clear hbz) | ((go_at_call 16); (with_reducible refine (HSbc.out (HWb.out (by trivial)) (HWc.out (by trivial)) _ _ _ (HG.out.below hcur.out) (HVb.out.below hcur.out) (HVc.out.below hcur.out)).mono ?_); rintro e wz ⟨rfl, hbz⟩; have hcur := Lib.hid (hcur.out.trans (hbz.mono hcur.out.size)); clear hbz) | ((go_at_call 16); (with_reducible refine (HSac.out (HWa.out (by trivial)) (HWc.out (by trivial)) _ _ _ (HG.out.below hcur.out) (HVa.out.below hcur.out) (HVc.out.below hcur.out)).mono ?_); rintro e wz ⟨rfl, hbz⟩; have hcur := Lib.hid (hcur.out.trans (hbz.mono hcur.out.size)); clear hbz) | ((go_at_call 16); (with_reducible refine (HSba.out (HWb.out (by trivial)) (HWa.out (by trivial)) _ _ _ (HG.out.below hcur.out) (HVb.out.below hcur.out) (HVa.out.below hcur.out)).mono ?_); rintro e wz ⟨rfl, hbz⟩; have hcur := Lib.hid (hcur.out.trans (hbz.mono hcur.out.size)); clear hbz) | ((go_at_call 16); (with_reducible refine (HSaa.out (HWa.out (by trivial)) (HWa.out (by trivial)) _ _ _ (HG.out.below hcur.out) (HVa.out.below hcur.out) (HVa.out.below hcur.out)).mono ?_); rintro e wz ⟨rfl, hbz⟩; have hcur := Lib.hid (hcur.out.trans (hbz.mono hcur.out.size)); clear hbz) | ((go_at_call 17); (with_reducible refine (HRSab.out (HWa.out (by trivial)) (HWb.out (by trivial)) _ _ _ (HVa.out.below hcur.out) (HVb.out.below hcur.out)).mono ?_); rintro e wz ⟨rfl, hbz⟩; have hcur := Lib.hid (hcur.out.trans (hbz.mono hcur.out.size)); clear hbz) | ((go_at_call 18); (with_reducible refine (HUab.out (HWa.out (by trivial)) (HWb.out (by trivial)) _ _ _ (HG.out.below hcur.out) (HVa.out.below hcur.out) (HVb.out.below hcur.out)).mono ?_); rintro e wz ⟨rfl, hbz⟩; have hcur := Lib.hid (hcur.out.trans (hbz.mono hcur.out.size)); clear hbz) | ((go_at_call 19); (with_reducible refine (HRUab.out (HWa.out (by trivial)) (HWb.out (by trivial)) _ _ _ (HVa.out.below hcur.out) (HVb.out.below hcur.out)).mono ?_); rintro e wz ⟨rfl, hbz⟩; have hcur := Lib.hid (hcur.out.trans (hbz.mono hcur.out.size)); clear hbz) | ((go_at_call 20); (with_reducible refine (HRV.out (HWa.out (by trivial)) _ _ (HVa.out.below hcur.out)).mono ?_); rintro e wz ⟨rfl, hbz⟩; have hcur := Lib.hid (hcur.out.trans (hbz.mono hcur.out.size)); clear hbz) | ((go_at_call 18); (with_reducible refine (HUan.out (HWa.out (by trivial)) HNIL.out _ _ _ (HG.out.below hcur.out) (HVa.out.below hcur.out) (HNV.out _)).mono ?_); rintro e wz ⟨rfl, hbz⟩; have hcur := Lib.hid (hcur.out.trans (hbz.mono hcur.out.size)); clear hbz))
    all_goals go_ret
    all_goals exact ⟨by first | rfl | simp, hcur.out⟩
  | true =>
    obtain rfl := H2.out rfl
    cases BC with
    | false =>
      go_enter Tryz.func3, Tryz.ntmps3
      go_wp2_with (first | ((go_at_call 14); (with_reducible refine (HA.out _ (HG.out.below hcur.out)).mono ?_); rintro e wz ⟨rfl, hbz⟩; have hcur := Lib.hid (hcur.out.trans (hbz.mono hcur.out.size)); clear hbz) | ((go_at_call 15); (with_reducible refine (HFa.out _ (HVa.out.below hcur.out)).mono ?_); rintro e wz ⟨b', rfl, hb', hbz⟩; have hcur := Lib.hid (hcur.out.trans (hbz.mono hcur.out.size)); have HWa := Lib.hid hb'; clear hb' hbz; cases b') | ((go_at_call 15); (with_reducible refine (HFb.out _ (HVb.out.below hcur.out)).mono ?_); rintro e wz ⟨b', rfl, hb', hbz⟩; have hcur := Lib.hid (hcur.out.trans (hbz.mono hcur.out.size)); have HWb := Lib.hid hb'; clear hb' hbz; cases b') | ((go_at_call 15); (with_reducible refine (HFc.out _ (HVc.out.below hcur.out)).mono ?_); rintro e wz ⟨b', rfl, hb', hbz⟩; have hcur := Lib.hid (hcur.out.trans (hbz.mono hcur.out.size)); have HWc := Lib.hid hb'; clear hb' hbz; cases b') | ((go_at_call 16); (with_reducible refine (HSab.out (HWa.out (by trivial)) (HWb.out (by trivial)) _ _ _ (HG.out.below hcur.out) (HVa.out.below hcur.out) (HVb.out.below hcur.out)).mono ?_); rintro e wz ⟨rfl, hbz⟩; have hcur := Lib.hid (hcur.out.trans (hbz.mono hcur.out.size)); clear hbz) | ((go_at_call 16); (with_reducible refine (HSbc.out (HWb.out (by trivial)) (HWc.out (by trivial)) _ _ _ (HG.out.below hcur.out) (HVb.out.below hcur.out) (HVc.out.below hcur.out)).mono ?_); rintro e wz ⟨rfl, hbz⟩; have hcur := Lib.hid (hcur.out.trans (hbz.mono hcur.out.size)); clear hbz) | ((go_at_call 16); (with_reducible refine (HSac.out (HWa.out (by trivial)) (HWc.out (by trivial)) _ _ _ (HG.out.below hcur.out) (HVa.out.below hcur.out) (HVc.out.below hcur.out)).mono ?_); rintro e wz ⟨rfl, hbz⟩; have hcur := Lib.hid (hcur.out.trans (hbz.mono hcur.out.size)); clear hbz) | ((go_at_call 16); (with_reducible refine (HSba.out (HWb.out (by trivial)) (HWa.out (by trivial)) _ _ _ (HG.out.below hcur.out) (HVb.out.below hcur.out) (HVa.out.below hcur.out)).mono ?_); rintro e wz ⟨rfl, hbz⟩; have hcur := Lib.hid (hcur.out.trans (hbz.mono hcur.out.size)); clear hbz) | ((go_at_call 16); (with_reducible refine (HSaa.out (HWa.out (by trivial)) (HWa.out (by trivial)) _ _ _ (HG.out.below hcur.out) (HVa.out.below hcur.out) (HVa.out.below hcur.out)).mono ?_); rintro e wz ⟨rfl, hbz⟩; have hcur := Lib.hid (hcur.out.trans (hbz.mono hcur.out.size)); clear hbz) | ((go_at_call 17); (with_reducible refine (HRSab.out (HWa.out (by trivial)) (HWb.out (by trivial)) _ _ _ (HVa.out.below hcur.out) (HVb.out.below hcur.out)).mono ?_); rintro e wz ⟨rfl, hbz⟩; have hcur := Lib.hid (hcur.out.trans (hbz.mono hcur.out.size)); clear hbz) | ((go_at_call 18); (with_reducible refine (HUab.out (HWa.out (by trivial)) (HWb.out (by trivial)) _ _ _ (HG.out.below hcur.out) (HVa.out.below hcur.out) (HVb.out.below hcur.out)).mono ?_); rintro e wz ⟨rfl, hbz⟩; have hcur := Lib.hid (hcur.out.trans (hbz.mono hcur.out.size)); clear hbz) | ((go_at_call 19); (with_reducible refine (HRUab.out (HWa.out (by trivial)) (HWb.out (by trivial)) _ _ _ (HVa.out.below hcur.out) (HVb.out.below hcur.out)).mono ?_); rintro e wz ⟨rfl, hbz⟩; have hcur := Lib.hid (hcur.out.trans (hbz.mono hcur.out.size)); clear hbz) | ((go_at_call 20); (with_reducible refine (HRV.out (HWa.out (by trivial)) _ _ (HVa.out.below hcur.out)).mono ?_); rintro e wz ⟨rfl, hbz⟩; have hcur := Lib.hid (hcur.out.trans (hbz.mono hcur.out.size)); clear hbz) | ((go_at_call 18); (with_reducible refine (HUan.out (HWa.out (by trivial)) HNIL.out _ _ _ (HG.out.below hcur.out) (HVa.out.below hcur.out) (HNV.out _)).mono ?_); rintro e wz ⟨rfl, hbz⟩; have hcur := Lib.hid (hcur.out.trans (hbz.mono hcur.out.size)); clear hbz))
      all_goals go_ret
      all_goals exact ⟨by first | rfl | simp, hcur.out⟩
    | true =>
      obtain rfl := H1.out rfl rfl
      go_enter Tryz.func3, Tryz.ntmps3
      go_wp2_with (first | ((go_at_call 14); (with_reducible refine (HA.out _ (HG.out.below hcur.out)).mono ?_); rintro e wz ⟨rfl, hbz⟩; have hcur := Lib.hid (hcur.out.trans (hbz.mono hcur.out.size)); clear hbz) | ((go_at_call 15); (with_reducible refine (HFa.out _ (HVa.out.below hcur.out)).mono ?_); rintro e wz ⟨b', rfl, hb', hbz⟩; have hcur := Lib.hid (hcur.out.trans (hbz.mono hcur.out.size)); have HWa := Lib.hid hb'; clear hb' hbz; cases b') | ((go_at_call 15); (with_reducible refine (HFb.out _ (HVb.out.below hcur.out)).mono ?_); rintro e wz ⟨b', rfl, hb', hbz⟩; have hcur := Lib.hid (hcur.out.trans (hbz.mono hcur.out.size)); have HWb := Lib.hid hb'; clear hb' hbz; cases b') | ((go_at_call 15); (with_reducible refine (HFc.out _ (HVc.out.below hcur.out)).mono ?_); rintro e wz ⟨b', rfl, hb', hbz⟩; have hcur := Lib.hid (hcur.out.trans (hbz.mono hcur.out.size)); have HWc := Lib.hid hb'; clear hb' hbz; cases b') | ((go_at_call 16); (with_reducible refine (HSab.out (HWa.out (by trivial)) (HWb.out (by trivial)) _ _ _ (HG.out.below hcur.out) (HVa.out.below hcur.out) (HVb.out.below hcur.out)).mono ?_); rintro e wz ⟨rfl, hbz⟩; have hcur := Lib.hid (hcur.out.trans (hbz.mono hcur.out.size)); clear hbz) | ((go_at_call 16); (with_reducible refine (HSbc.out (HWb.out (by trivial)) (HWc.out (by trivial)) _ _ _ (HG.out.below hcur.out) (HVb.out.below hcur.out) (HVc.out.below hcur.out)).mono ?_); rintro e wz ⟨rfl, hbz⟩; have hcur := Lib.hid (hcur.out.trans (hbz.mono hcur.out.size)); clear hbz) | ((go_at_call 16); (with_reducible refine (HSac.out (HWa.out (by trivial)) (HWc.out (by trivial)) _ _ _ (HG.out.below hcur.out) (HVa.out.below hcur.out) (HVc.out.below hcur.out)).mono ?_); rintro e wz ⟨rfl, hbz⟩; have hcur := Lib.hid (hcur.out.trans (hbz.mono hcur.out.size)); clear hbz) | ((go_at_call 16); (with_reducible refine (HSba.out (HWb.out (by trivial)) (HWa.out (by trivial)) _ _ _ (HG.out.below hcur.out) (HVb.out.below hcur.out) (HVa.out.below hcur.out)).mono ?_); rintro e wz ⟨rfl, hbz⟩; have hcur := Lib.hid (hcur.out.trans (hbz.mono hcur.out.size)); clear hbz) | ((go_at_call 16); (with_reducible refine (HSaa.out (HWa.out (by trivial)) (HWa.out (by trivial)) _ _ _ (HG.out.below hcur.out) (HVa.out.below hcur.out) (HVa.out.below hcur.out)).mono ?_); rintro e wz ⟨rfl, hbz⟩; have hcur := Lib.hid (hcur.out.trans (hbz.mono hcur.out.size)); clear hbz) | ((go_at_call 17); (with_reducible refine (HRSab.out (HWa.out (by trivial)) (HWb.out (by trivial)) _ _ _ (HVa.out.below hcur.out) (HVb.out.below hcur.out)).mono ?_); rintro e wz ⟨rfl, hbz⟩; have hcur := Lib.hid (hcur.out.trans (hbz.mono hcur.out.size)); clear hbz) | ((go_at_call 18); (with_reducible refine (HUab.out (HWa.out (by trivial)) (HWb.out (by trivial)) _ _ _ (HG.out.below hcur.out) (HVa.out.below hcur.out) (HVb.out.below hcur.out)).mono ?_); rintro e wz ⟨rfl, hbz⟩; have hcur := Lib.hid (hcur.out.trans (hbz.mono hcur.out.size)); clear hbz) | ((go_at_call 19); (with_reducible refine (HRUab.out (HWa.out (by trivial)) (HWb.out (by trivial)) _ _ _ (HVa.out.below hcur.out) (HVb.out.below hcur.out)).mono ?_); rintro e wz ⟨rfl, hbz⟩; have hcur := Lib.hid (hcur.out.trans (hbz.mono hcur.out.size)); clear hbz) | ((go_at_call 20); (with_reducible refine (HRV.out (HWa.out (by trivial)) _ _ (HVa.out.below hcur.out)).mono ?_); rintro e wz ⟨rfl, hbz⟩; have hcur := Lib.hid (hcur.out.trans (hbz.mono hcur.out.size)); clear hbz) | ((go_at_call 18); (with_reducible refine (HUan.out (HWa.out (by trivial)) HNIL.out _ _ _ (HG.out.below hcur.out) (HVa.out.below hcur.out) (HNV.out _)).mono ?_); rintro e wz ⟨rfl, hbz⟩; have hcur := Lib.hid (hcur.out.trans (hbz.mono hcur.out.size)); clear hbz))
      all_goals go_ret
      all_goals exact ⟨by first | rfl | simp, hcur.out⟩
end Go.Proofs.YtlmnmgokfnnbbaaGreatDoor.NamSDone
end
