/- What is done with the parts or the results later changes nothing else, and arguments stay as they are; for every slice of slices of bytes that comes in. -/
import Derived.Test.YtecbphbnacbepaaLaws
import Derived.Test.YtecbphbnacbepaaMut
import Derived.Test.YtecbphbnacbepaaOrdC
import Derived.SizedLaws
set_option linter.unusedSimpArgs false
set_option linter.unusedVariables false
namespace Go.Proofs.Ytecbphbnacbepaa.ElementCopiesDone
open Go.ChangeShapes Go.WideShapes Go.ChangeAt Go.RowKit Go.Cr
open Go.Proofs.Ytecbphbnacbepaa

theorem cat_bound (ls : List (List UInt8)) (hs : ∀ x ∈ ls, x.length ≤ reachBytes) (k : Nat) (hk : k < ls.length) : (ls.getD k []).length ≤ 140737488355328 := by
  have h1 : ls.getD k [] = ls[k] := by simp [List.getD, hk]
  have := hs _ (List.getElem_mem hk)
  have := reachBytes_lt
  rw [h1]; omega

def LpRel (ls : List (List UInt8)) (n i : Value) : Prop := ∃ k : Nat, k ≤ ls.length ∧ k ≤ 60 ∧ i = .int .i64 k ∧ n = .int .i64 (cat ls k).length ∧ (cat ls k).length ≤ k * 140737488355328

set_option maxRecDepth 100000 in
set_option maxHeartbeats 4000000 in
theorem walk_far (v : Value) (ls : List (List UInt8)) (w : World) (hv : IsBs w v ls) (hs : ∀ x ∈ ls, x.length ≤ reachBytes) (hfar : 50 < ls.length ∨ 2000 < ls.flatten.length) :
    Calls Try.prog 8 #[v] w (RetB (.bool true) w) := by
  have hlen := hv.len ulBs
  have HW := Lib.hid hv
  have HS := Lib.hid hs
  have HF := Lib.hid hfar
  clear hv hs hfar
  go_enter Try.func8, Try.ntmps8
  go_wp2
  go_loop [3, 4] (fun n i => LpRel ls n i) (fun _ i => ls.length - (intOf i).toNat)
  case atStart => exact ⟨0, by omega, by omega, rfl, by simp [cat], by simp [cat]⟩
  case round =>
    obtain ⟨k, hk, hk60, rfl, rfl, hq⟩ := hrel
    by_cases hlt : (k : Int) < ls.length
    · by_cases h6 : (k : Int) < 60
      · obtain ⟨bb, oo, u, hi, hbb, hc, hu⟩ := HW.out.at_ (P := Try.prog) ulBs szBs .i64 (i := k) (by omega) hlt
        simp only [Int.toNat_natCast] at hu
        have hul := hu.len ulB
        have hb1 := cat_bound ls HS.out k (by omega)
        have hcs := cat_succ ls k (by omega)
        have hcl : (cat ls (k + 1)).length = (cat ls k).length + (ls.getD k []).length := by rw [hcs, List.length_append]
        clear hu hcs
        generalize (ls.getD k []).length = m at *
        generalize (cat ls k).length = c at *
        go_wp2
        go_round
        case rel => exact ⟨k + 1, by omega, by omega, by go_num, by rw [hcl]; go_num, by rw [hcl]; omega⟩
        case measure => simp [intOf]; omega
      · have h50 : (50 : Int) < ls.length := by omega
        clear hq HF
        go_wp2_with (first | (go_at_call 10; (with_reducible refine (awake_any w).mono ?_); rintro e w1 ⟨rfl, hb1⟩) | (go_at_call 10; (with_reducible refine (awake_any _).mono ?_); rintro e w2 ⟨rfl, hb2⟩))
        have B := below_t hb1 hb2
        (refine bodyPost_retB (v := .bool true) (by (simp only [results, Try.results8]; try go_simp)) rfl rfl ?_; ((repeat' (first | (with_reducible exact Below.refl _ _) | (with_reducible assumption) | (with_reducible refine Below.setCell ?_ ?_ _) | (with_reducible refine Below.alloc ?_ ?_ _) | (with_reducible refine Below.drew ?_) | (with_reducible refine below_drewN ?_ _) | (with_reducible refine Below.step (by with_reducible assumption) ?_ ?_))) <;> (first | omega | (simp; done) | (simp; omega))))
    · obtain rfl : k = ls.length := by omega
      by_cases h50 : (50 : Int) < ls.length
      · clear hq HF
        go_wp2_with (first | (go_at_call 10; (with_reducible refine (awake_any w).mono ?_); rintro e w1 ⟨rfl, hb1⟩) | (go_at_call 10; (with_reducible refine (awake_any _).mono ?_); rintro e w2 ⟨rfl, hb2⟩))
        have B := below_t hb1 hb2
        (refine bodyPost_retB (v := .bool true) (by (simp only [results, Try.results8]; try go_simp)) rfl rfl ?_; ((repeat' (first | (with_reducible exact Below.refl _ _) | (with_reducible assumption) | (with_reducible refine Below.setCell ?_ ?_ _) | (with_reducible refine Below.alloc ?_ ?_ _) | (with_reducible refine Below.drew ?_) | (with_reducible refine below_drewN ?_ _) | (with_reducible refine Below.step (by with_reducible assumption) ?_ ?_))) <;> (first | omega | (simp; done) | (simp; omega))))
      · rw [cat_all]
        have hf := HF.out
        obtain ⟨F, hF⟩ : ∃ F, ls.flatten = F := ⟨_, rfl⟩
        rw [hF] at hf ⊢
        clear hq HF hF
        have h2000 : (2000 : Int) < (F.length : Int) := by omega
        go_wp2_with (first | (go_at_call 10; (with_reducible refine (awake_any w).mono ?_); rintro e w1 ⟨rfl, hb1⟩) | (go_at_call 10; (with_reducible refine (awake_any _).mono ?_); rintro e w2 ⟨rfl, hb2⟩))
        have B := below_t hb1 hb2
        (refine bodyPost_retB (v := .bool true) (by (simp only [results, Try.results8]; try go_simp)) rfl rfl ?_; ((repeat' (first | (with_reducible exact Below.refl _ _) | (with_reducible assumption) | (with_reducible refine Below.setCell ?_ ?_ _) | (with_reducible refine Below.alloc ?_ ?_ _) | (with_reducible refine Below.drew ?_) | (with_reducible refine below_drewN ?_ _) | (with_reducible refine Below.step (by with_reducible assumption) ?_ ?_))) <;> (first | omega | (simp; done) | (simp; omega))))

theorem IsBs.of_own {w : World} {b : Nat} {o : Value} {vs : List Value} {r : List (List UInt8)} (h : IsR w o 1 r.length vs) (he : OwE w b vs r) : IsBs w o r := ⟨vs, h, fun j hj => (he.2 j hj).isB⟩
theorem len_le_flatten {ls : List (List UInt8)} {k : Nat} (hk : k < ls.length) : (ls.getD k []).length ≤ ls.flatten.length := by
  have h2 := cat_le ls (k + 1)
  rw [cat_succ ls k hk, List.length_append] at h2
  omega


/-- A round of writing: the heap outside is as it was, the row and its parts are owned. -/
def MuRel (a b base : Nat) (w0 : World) (o : Value) (n : Nat) (vs : List Value) (lim : Nat) (i : Value) (wr : World) : Prop :=
  ∃ k : Nat, k ≤ lim ∧ i = .int .i64 k ∧ Apart a b w0 wr ∧ OwV wr a b vs ∧ wr.ownsRow base 30 1 o n vs
theorem u8_next (x : Int) (h0 : 0 ≤ x) (h1 : x < 256) : ∃ y, IntKind.u8.wrap (x + 1) = y ∧ 0 ≤ y ∧ y < 256 := by
  by_cases h : x = 255
  · subst h; exact ⟨0, rfl, by omega, by omega⟩
  · exact ⟨x + 1, wraps_u8 _ (by omega) (by omega), by omega, by omega⟩

set_option maxRecDepth 100000 in
set_option maxHeartbeats 16000000 in
theorem walk_main (v : Value) (ls : List (List UInt8)) (w : World) (hv : IsBs w v ls) (h50 : ls.length ≤ 50) (h2000 : ls.flatten.length ≤ 2000) :
    Calls Try.prog 8 #[v] w (RetB (.bool true) w) := by
  have hlen := hv.len ulBs
  have HW := Lib.hid hv
  have hcl := Lib.hid (cat_le ls)
  have H2K := Lib.hid h2000
  obtain ⟨F, hF⟩ : ∃ F, ls.flatten = F := ⟨_, rfl⟩
  have hFl : F.length ≤ 2000 := by rw [← hF]; exact h2000
  have HP : Hid (∀ W u, IsBs W u ls → Calls Try.prog 26 #[u] W (RetSd ls W)) := fun W u h => pSorted u ls W h (by omega) (by omega)
  have HR : Hid (∀ W, IsBs W v ls → Calls Try.prog 28 #[v] W (RetBs ls W)) := fun W h => rSorted v ls W h (by omega)
  obtain ⟨S, hS⟩ : ∃ S, encO 0 true 16 F = S := ⟨_, rfl⟩
  have HQ : Hid (∀ W u, IsBs W u ls → Calls Try.prog 19 #[u] W (RetOK 5 S W)) := fun W u h => by
    refine (pSeq u ls W h (by rw [hF]; omega)).mono fun e w' hh => ?_
    unfold RetW at hh
    rw [if_pos (by decide), hF, hS] at hh
    exact hh
  have HT : Hid (∀ W, IsBs W v ls → Calls Try.prog 18 #[.int .i64 0, .bool true, .int .i64 16, v] W (RetOK 5 S W)) := fun W h => by
    refine (rWrap 0 16 true v ls W h (by rw [hF]; omega)).mono fun e w' hh => ?_
    unfold RetW at hh
    rw [if_pos (by decide), hF, hS] at hh
    exact hh
  have HL : Hid (∀ k, k < ls.length → (ls.getD k []).length ≤ 2000) := fun k hk => by have := len_le_flatten hk; have := H2K.out; omega
  clear hv hS hFl hF
  go_enter Try.func8, Try.ntmps8
  go_wp2
  go_loop [3, 4] (fun n i => ∃ k : Nat, k ≤ ls.length ∧ i = .int .i64 k ∧ n = .int .i64 (cat ls k).length) (fun _ i => ls.length - (intOf i).toNat)
  case atStart => exact ⟨0, by omega, rfl, by simp [cat]⟩
  case round =>
    obtain ⟨k, hk, rfl, rfl⟩ := hrel
    have hq2 : (cat ls k).length ≤ 2000 := by have := H2K.out; have := hcl.out k; omega
    by_cases hlt : (k : Int) < ls.length
    · obtain ⟨bb, oo, u, hi, hbb, hc, hu⟩ := HW.out.at_ (P := Try.prog) ulBs szBs .i64 (i := k) (by omega) hlt
      simp only [Int.toNat_natCast] at hu
      have hul := hu.len ulB
      have hcs := cat_succ ls k (by omega)
      have hq' : (cat ls (k + 1)).length ≤ 2000 := by have := H2K.out; have := hcl.out (k + 1); omega
      have hcl' : (cat ls (k + 1)).length = (cat ls k).length + (ls.getD k []).length := by rw [hcs, List.length_append]
      clear hu hcs h2000
      generalize (ls.getD k []).length = m at *
      generalize (cat ls k).length = c at *
      go_wp2
      go_round
      case rel => exact ⟨k + 1, by omega, by go_num, by rw [hcl']; go_num⟩
      case measure => simp [intOf]; omega
    · obtain rfl : k = ls.length := by omega
      clear h2000
      generalize (cat ls ls.length).length = c at *
      obtain ⟨i0, hi0, hz0, hz1, hz2⟩ := info_parts infoBs
      go_wp2_with (go_at_call 10; (with_reducible refine (awake_any _).mono ?_); rintro e w1 ⟨rfl, hb1⟩)
      have HW1 := Lib.hid (HW.out.below hb1)
      go_loopw [5, 6] (fun out i wr => PsRel ls w1 out i wr) (fun _ i _ => ls.length - (intOf i).toNat)
      case atStart => exact ⟨0, [], by omega, rfl, World.ownsRow_nil _ _ _ _, by simpa using OwE.nil_ w1 w1.heap.size, Below.refl _ _⟩
      case round =>
        obtain ⟨k, vs, hk, rfl, hrow, hel, hbel⟩ := hrel
        have HROW := Lib.hid hrow
        have HEL := Lib.hid hel
        clear hrow hel
        by_cases hlt : (k : Int) < ls.length
        · obtain ⟨bb, oo, u, hi, hbb, hc, hu⟩ := HW1.out.at_ (P := Try.prog) ulBs szBs .i64 (i := k) (by omega) hlt
          simp only [Int.toNat_natCast] at hu
          have cu : wr.cell? ⟨bb, oo, none⟩ = some u := below_cell hbel hbb hc
          have cu2 : (wr.alloc (.cells #[] 5)).cell? ⟨bb, oo, none⟩ = some u := below_cell ((Below.refl wr.heap.size wr).alloc (Nat.le_refl _) _) (Nat.lt_of_lt_of_le hbb hbel.size) cu
          have hbw : bb < wr.heap.size := Nat.lt_of_lt_of_le hbb hbel.size
          have htk : ls.take (k + 1) = ls.take k ++ [ls.getD k []] := by rw [List.take_succ_eq_append_getElem (by omega)]; simp [List.getD, show k < ls.length by omega]
          have HTK := Lib.hid htk
          have hpl := HL.out k (by omega)
          have hws := hbel.size
          have HU := Lib.hid (hu.below hbel)
          clear hu hc htk
          generalize ls.getD k [] = p at *
          have H0 : Hid (OwB (wr.alloc (.cells #[] 5)) wr.heap.size 5 (.slice (some ⟨wr.heap.size, 0, none⟩) 0 0) []) := by
            have := World.ownsRow_lit (base := wr.heap.size) (e := 5) (size := 1) wr #[] 0 (Nat.le_refl _) (by decide) rfl
            show OwB _ _ _ _ _
            simpa [OwB, bCells] using this
          go_wp2_with (first | (at_builtin; refine wpList_appB _ rfl _ _ 30 rfl wr.heap.size 5 ulB infoB _ [] rfl H0.out _ p rfl (HU.out.alloc _) (by simp; omega) (by simp) ?_; intro v1 wa ho1 hg1 hb1a; obtain ⟨uA, un, uc, rfl⟩ : ∃ A n c, v1 = .slice A n c := (by obtain ⟨A, c, h, _⟩ := ho1.isB; exact ⟨_, _, _, h⟩); have HO1 := Lib.hid ho1; have hba := ((Below.refl wr.heap.size wr).alloc (Nat.le_refl _) (.cells #[] 5)).trans hb1a; have hza := hba.size; clear ho1 hg1 hb1a) | (at_builtin; refine wpList_app _ rfl _ _ 38 rfl w1.heap.size 30 i0 (.slice none 0 0) 1 24 ulBs hi0 hz0 hz1 hz2 rfl (by decide) _ k vs rfl ((ownsRow_below HROW.out hba).alloc _) _ 1 [.slice uA un uc] rfl (isR_at rfl rfl) (by intro u hu; simp only [List.mem_singleton] at hu; subst hu; rfl) (by have : maxLen = 9223372036854775807 := rfl; omega) (by omega) ?k3 ?_))
          case k3 => simp; omega
          intro v2 w2 ho2 hg2 hb2
          have hel2 : OwE w2 w1.heap.size (vs ++ [.slice uA un uc]) (ls.take k ++ [p]) := OwE.keepNe (((HEL.out.below hba).alloc _).snoc ((by have h := HO1.out; simp only [List.nil_append] at h; exact (OwB.more h hws).alloc _))) ((ownsRow_below HROW.out hba).alloc _) hg2
          rw [← HTK.out] at hel2
          have HE2 := Lib.hid hel2
          have HO2 := Lib.hid ho2
          have hbel2 : Below w1.heap.size w1 w2 := ((below_t hbel hba).alloc (by omega) _).trans hb2
          clear ho2 hel2 hg2
          go_wp2
          go_roundw
          case rel => exact ⟨k + 1, _, by omega, by go_num, by simpa using HO2.out, HE2.out, hbel2⟩
          case measure => simp [intOf]; omega
        · obtain rfl : k = ls.length := by omega
          have hel' := HEL.out
          rw [List.take_length] at hel'
          have HE := Lib.hid hel'
          have HOWN : Hid (IsBs wr u5 ls) := IsBs.of_own (IsR.of_own HROW.out) hel'
          obtain ⟨wo, rfl⟩ : ∃ x, x = wr := ⟨_, rfl⟩
          clear hel'
          go_wp2_with (first | (go_at_call 26; (with_reducible refine (HP.out _ _ HOWN.out).mono ?_); rintro e w3 ⟨o1, r, vs1, rfl, hso, hir, he1, hb3⟩; have HSO := Lib.hid hso; have HR1 := Lib.hid hir; have HE1 := Lib.hid he1; clear hso hir he1) | (go_at_call 19; (with_reducible refine (HQ.out _ _ (HOWN.out.below hb3)).mono ?_); rintro e w4 ⟨o2, rfl, ho2, hb4⟩; have HO2 := Lib.hid ho2; clear ho2) | (go_at_call 18; (with_reducible refine (HT.out _ (HW1.out.below (below_t (below_t hbel hb3) hb4))).mono ?_); rintro e w5 ⟨o3, rfl, ho3, hb5⟩; have HO3 := Lib.hid ho3; clear ho3) | (go_at_call 27; (with_reducible refine (slices_same _ _ ls _ (HOWN.out.below (below_t (below_t hb3 hb4) hb5)) (HW1.out.below (below_t (below_t (below_t hbel hb3) hb4) hb5))).mono ?_); rintro e w6 ⟨rfl, hb6⟩))
          have hb36 := below_t (below_t (below_t hb3 hb4) hb5) hb6
          have hb46 := below_t (below_t hb4 hb5) hb6
          have hb56 := below_t hb5 hb6
          have hVS : Hid (OwV w6 w1.heap.size wo.heap.size vs) := HE.out.toV.below hb36
          have hRW : Hid (w6.ownsRow w1.heap.size 30 1 u5 ls.length vs) := ownsRow_below HROW.out hb36
          have hVL : vs.length = ls.length := HE.out.1
          have HB3 := Lib.hid hb3
          have HB46 := Lib.hid hb46
          have HB56 := Lib.hid hb56
          have HB6 := Lib.hid hb6
          have HB16 : Hid (Below w1.heap.size w1 w6) := below_t hbel hb36
          have hs3 := hb3.size
          have hs4 := hb4.size
          have hsb := hbel.size
          have hs1 := hb1.size
          have HBD1 : Hid (∀ v ∈ vs1, ∀ g, v.ownBlock = some g → g < w3.heap.size) := fun v hv => (HE1.out.toV v hv).2
          have hV1 : vs1.length = r.length := HE1.out.1
          clear hb4 hb5 hb6 hb36 hb46 hb56 hb3 HP HQ HT HL
          go_loopw [12] (fun i wr => MuRel (w1.heap.size) (wo.heap.size) (w1.heap.size) w6 u5 ls.length vs ls.length i wr) (fun i _ => ls.length - (intOf i).toNat)
          case atStart => exact ⟨0, by omega, rfl, Apart.refl _ _ _, hVS.out, hRW.out⟩
          case round =>
            obtain ⟨k, hk, rfl, hap, hov, hrw⟩ := hrel
            have hml := (IsR.of_own hrw).len ulBs
            have HAP := Lib.hid hap
            have HOV := Lib.hid hov
            have HRW := Lib.hid hrw
            clear hap hov hrw
            by_cases hlt : (k : Int) < ls.length
            · obtain ⟨vk, hvk⟩ : ∃ vk, vs[k]? = some vk := ⟨_, List.getElem?_eq_getElem (show k < vs.length by have := hVL; omega)⟩
              have hmem : Hid (vk ∈ vs) := List.mem_of_getElem? hvk
              have HVK := Lib.hid hvk
              obtain ⟨mm, hmm⟩ : ∃ mm, lenOfV vk = mm := ⟨_, rfl⟩
              have HMM := Lib.hid hmm
              clear hvk hmm
              go_wp2
              go_loopw [13] (fun kk wr => MuRel (w1.heap.size) (wo.heap.size) (w1.heap.size) w6 u5 ls.length vs mm kk wr) (fun kk _ => mm - (intOf kk).toNat)
              case atStart => exact ⟨0, by omega, rfl, HAP.out, HOV.out, HRW.out⟩
              case round =>
                obtain ⟨kk, hkk, rfl, hap2, hov2, hrw2⟩ := hrel
                obtain ⟨bb, oo, hi, hb, hc⟩ := (IsR.of_own hrw2).at_ (P := Try.prog) ulBs szBs .i64 (i := k) (by omega) hlt
                have cv := hc 0 vk (by rw [Int.toNat_natCast, Nat.mul_one, Nat.add_zero]; exact HVK.out)
                rw [Nat.add_zero] at cv
                obtain ⟨⟨l, hl, hob⟩, hbd⟩ := hov2 vk hmem.out
                rw [HMM.out] at hl
                have hvlen := hob.isB.len ulB
                have hmx := hob.isB.maxl
                rw [hl] at hvlen
                have HAP2 := Lib.hid hap2
                have HOV2 := Lib.hid hov2
                have HRW2 := Lib.hid hrw2
                have HOB := Lib.hid hob
                clear hc hap2 hov2 hrw2 hob
                by_cases hltk : (kk : Int) < mm
                · rcases HOB.out.2 with ⟨_, h0⟩ | ⟨g, cap, cur, hv, hg, _⟩
                  · omega
                  · have hidx : ∀ W, (Instr.indexAt 30 vk (.int .i64 (kk : Int))).run Try.prog W = .ok (.pointer (some ⟨g, kk, none⟩)) W := by
                      rw [hv]; exact row_idx ulB szB (by omega) (by omega) (by omega)
                    have hob2 := HOB.out
                    unfold OwB at hob2
                    rw [hv] at hob2
                    have cx : wr.cell? ⟨g, kk, none⟩ = some (.int .u8 (bat l kk)) := by
                      rw [World.ownsRow.cellAt hob2 kk (by omega)]; exact bCells_at _ _ (by omega)
                    have fx : wr.frozen? ⟨g, kk, none⟩ = false := World.ownsRow.frozenAt hob2 kk
                    obtain ⟨y, hy, y0, y1⟩ := u8_next (bat l kk) (bat_pos l kk) (bat_lt l kk)
                    have HG : Hid (g < wo.heap.size) := hbd g (by rw [hv]; rfl)
                    have HVB : Hid (vk.ownBlock = some g) := by rw [hv]; rfl
                    clear hob2 hv hbd
                    generalize bat l kk = x at *
                    go_wp2
                    go_roundw
                    case rel => exact ⟨kk + 1, by omega, by go_num, HAP2.out.store kk _ hg HG.out, HOV2.out.store g kk y y0 y1, row_store HRW2.out HOB.out HVB.out kk _⟩
                    case measure => simp [intOf]; omega
                · obtain rfl : kk = mm := by omega
                  clear hbd
                  go_wp2
                  go_roundw
                  case rel => exact ⟨k + 1, by omega, by go_num, HAP2.out, HOV2.out, HRW2.out⟩
                  case measure => simp [intOf]; omega
            · obtain rfl : k = ls.length := by omega
              obtain ⟨w7, rfl⟩ : ∃ x, x = wr := ⟨_, rfl⟩
              have HA1 := Lib.hid (HAP.out)
              have HP7 : Hid (IsBs w7 v ls) := HW1.out.below (HB16.out.trans HAP.out.below)
              have HR7 : Hid (w7.ownsRow wo.heap.size 30 1 o1 r.length vs1) := HAP.out.row (ownsRow_below HR1.out HB46.out) (Nat.le_refl _)
              have HE7 : Hid (OwE w7 wo.heap.size vs1 r) := HAP.out.els (HE1.out.below HB46.out) (Nat.le_refl _)
              have HS7 : Hid (OwB w7 w3.heap.size 5 o2 S) := HAP.out.row (HO2.out.below HB56.out) hs3
              have HT7 : Hid (OwB w7 w3.heap.size 5 o3 S) := HAP.out.row ((HO3.out.below HB6.out).more hs4) hs3
              have hr50 : r.length ≤ 50 := Nat.le_trans (asc_len HSO.out.1 (fun x hx => (HSO.out.2 x).1 hx)) h50
              go_wp2_with (first | (go_at_call 28; (with_reducible refine (HR.out _ HP7.out).mono ?_); rintro e w8 ⟨o4, r2, rfl, hso2, ho4, hb8⟩; have hrr := HSO.out.uniq hso2; subst hrr; have O4 := Lib.hid ho4; clear hso2 ho4) | (go_at_call 27; (with_reducible refine (slices_same _ _ r _ ((IsBs.of_own (IsR.of_own HR7.out) HE7.out).below hb8) O4.out).mono ?_); rintro e w9 ⟨rfl, hb9⟩; have hb79 := below_t hb8 hb9) | (go_at_call 20; (with_reducible refine (bytes_same _ _ S _ (HS7.out.below hb79).isB (HT7.out.below hb79).isB).mono ?_); rintro e w10 ⟨rfl, hb10⟩; have hb710 := below_t hb79 hb10))
              have HR10 : Hid (w10.ownsRow wo.heap.size 30 1 o1 r.length vs1) := ownsRow_below HR7.out hb710
              have HV10 : Hid (OwV w10 wo.heap.size w3.heap.size vs1) := OwV.of_ (HE7.out.below hb710) HBD1.out
              have HS10 := Lib.hid (HS7.out.below hb710)
              have HT10 := Lib.hid (HT7.out.below hb710)
              have HB10 : Hid (Below w1.heap.size w1 w10) := (HB16.out.trans HAP.out.below).trans (hb710.mono (by have := HAP.out.size; have := HB16.out.size; omega))
              clear hb8 hb9 hb79 hb10 hb710 HR
              go_loopw [14] (fun i wr => MuRel (wo.heap.size) (w3.heap.size) (wo.heap.size) w10 o1 r.length vs1 r.length i wr) (fun i _ => r.length - (intOf i).toNat)
              case atStart => exact ⟨0, by omega, rfl, Apart.refl _ _ _, HV10.out, HR10.out⟩
              case round =>
                obtain ⟨k, hk, rfl, hap, hov, hrw⟩ := hrel
                have hml := (IsR.of_own hrw).len ulBs
                have HAP := Lib.hid hap
                have HOV := Lib.hid hov
                have HRW := Lib.hid hrw
                clear hap hov hrw
                by_cases hlt : (k : Int) < r.length
                · obtain ⟨vk, hvk⟩ : ∃ vk, vs1[k]? = some vk := ⟨_, List.getElem?_eq_getElem (show k < vs1.length by have := hV1; omega)⟩
                  have hmem : Hid (vk ∈ vs1) := List.mem_of_getElem? hvk
                  have HVK := Lib.hid hvk
                  obtain ⟨mm, hmm⟩ : ∃ mm, lenOfV vk = mm := ⟨_, rfl⟩
                  have HMM := Lib.hid hmm
                  clear hvk hmm
                  go_wp2
                  go_loopw [15] (fun kk wr => MuRel (wo.heap.size) (w3.heap.size) (wo.heap.size) w10 o1 r.length vs1 mm kk wr) (fun kk _ => mm - (intOf kk).toNat)
                  case atStart => exact ⟨0, by omega, rfl, HAP.out, HOV.out, HRW.out⟩
                  case round =>
                    obtain ⟨kk, hkk, rfl, hap2, hov2, hrw2⟩ := hrel
                    obtain ⟨bb, oo, hi, hb, hc⟩ := (IsR.of_own hrw2).at_ (P := Try.prog) ulBs szBs .i64 (i := k) (by omega) hlt
                    have cv := hc 0 vk (by rw [Int.toNat_natCast, Nat.mul_one, Nat.add_zero]; exact HVK.out)
                    rw [Nat.add_zero] at cv
                    obtain ⟨⟨l, hl, hob⟩, hbd⟩ := hov2 vk hmem.out
                    rw [HMM.out] at hl
                    have hvlen := hob.isB.len ulB
                    have hmx := hob.isB.maxl
                    rw [hl] at hvlen
                    have HAP2 := Lib.hid hap2
                    have HOV2 := Lib.hid hov2
                    have HRW2 := Lib.hid hrw2
                    have HOB := Lib.hid hob
                    clear hc hap2 hov2 hrw2 hob
                    by_cases hltk : (kk : Int) < mm
                    · rcases HOB.out.2 with ⟨_, h0⟩ | ⟨g, cap, cur, hv, hg, _⟩
                      · omega
                      · have hidx : ∀ W, (Instr.indexAt 30 vk (.int .i64 (kk : Int))).run Try.prog W = .ok (.pointer (some ⟨g, kk, none⟩)) W := by
                          rw [hv]; exact row_idx ulB szB (by omega) (by omega) (by omega)
                        have hob2 := HOB.out
                        unfold OwB at hob2
                        rw [hv] at hob2
                        have cx : wr.cell? ⟨g, kk, none⟩ = some (.int .u8 (bat l kk)) := by
                          rw [World.ownsRow.cellAt hob2 kk (by omega)]; exact bCells_at _ _ (by omega)
                        have fx : wr.frozen? ⟨g, kk, none⟩ = false := World.ownsRow.frozenAt hob2 kk
                        obtain ⟨y, hy, y0, y1⟩ := u8_next (bat l kk) (bat_pos l kk) (bat_lt l kk)
                        have HG : Hid (g < w3.heap.size) := hbd g (by rw [hv]; rfl)
                        have HVB : Hid (vk.ownBlock = some g) := by rw [hv]; rfl
                        clear hob2 hv hbd
                        generalize bat l kk = x at *
                        go_wp2
                        go_roundw
                        case rel => exact ⟨kk + 1, by omega, by go_num, HAP2.out.store kk _ hg HG.out, HOV2.out.store g kk y y0 y1, row_store HRW2.out HOB.out HVB.out kk _⟩
                        case measure => simp [intOf]; omega
                    · obtain rfl : kk = mm := by omega
                      clear hbd
                      go_wp2
                      go_roundw
                      case rel => exact ⟨k + 1, by omega, by go_num, HAP2.out, HOV2.out, HRW2.out⟩
                      case measure => simp [intOf]; omega
                · obtain rfl : k = r.length := by omega
                  obtain ⟨w11, rfl⟩ : ∃ x, x = wr := ⟨_, rfl⟩
                  have HS11 : Hid (OwB w11 w3.heap.size 5 o2 S) := HAP.out.row HS10.out (Nat.le_refl _)
                  have HT11 : Hid (OwB w11 w3.heap.size 5 o3 S) := HAP.out.row HT10.out (Nat.le_refl _)
                  have HZ : Hid (∀ W, IsB W o2 S → IsB W o3 S → Calls Try.prog 29 #[o2, o3] W (RetB (.int .i64 0) W)) := fun W h1 h2 => by have := rCompare o2 o3 S S W h1 h2; rwa [cmpL_self] at this
                  go_wp2_with (first | (go_at_call 20; (with_reducible refine (bytes_same _ _ S _ (OwB.isB HS11.out) (OwB.isB HT11.out)).mono ?_); rintro e w12 ⟨rfl, hb12⟩) | (go_at_call 29; (with_reducible refine (HZ.out _ ((OwB.isB HS11.out).below hb12) ((OwB.isB HT11.out).below hb12)).mono ?_); rintro e w13 ⟨rfl, hb13⟩))
                  have hA : Below w1.heap.size w1 w11 := HB10.out.trans (HAP.out.below.mono hsb)
                  have B := (below_t (below_t (hb1.trans (hA.mono hs1)) hb12) hb13)
                  (refine bodyPost_retB (v := .bool true) (by (simp only [results, Try.results8]; try go_simp)) rfl rfl ?_; ((repeat' (first | (with_reducible exact Below.refl _ _) | (with_reducible assumption) | (with_reducible refine Below.setCell ?_ ?_ _) | (with_reducible refine Below.alloc ?_ ?_ _) | (with_reducible refine Below.drew ?_) | (with_reducible refine below_drewN ?_ _) | (with_reducible refine Below.step (by with_reducible assumption) ?_ ?_))) <;> (first | omega | (simp; done) | (simp; omega))))


theorem walk (v : Value) (ls : List (List UInt8)) (w : World) (hv : IsBs w v ls) (hs : ∀ x ∈ ls, x.length ≤ reachBytes) :
    Calls Try.prog 8 #[v] w (RetB (.bool true) w) := by
  by_cases h : 50 < ls.length ∨ 2000 < ls.flatten.length
  · exact walk_far v ls w hv hs h
  · exact walk_main v ls w hv (by omega) (by omega)

set_option maxRecDepth 100000 in
theorem lifted (os : Os) (started : os.Started) (H : Type) (enc : TypeId × Value → H) :
    ReturnsInHanded {} Try.checked os 8 .any (Rows.elementCopiesSpec.pre6 enc Try.prog Try.f8 Rows.elementCopiesRow.domain false) (Rows.elementCopiesSpec.post enc Try.prog Try.f8 false true false false) := by
  refine returnsInHanded_of_change_sized (C := Try.checked) lw_own started (by kernel_rfl) Try.func8
    (ChangeSpec.witness6 (enc := enc) (C := Try.checked) false ⟨#[], #[.slice none 0 0], []⟩ 8 (by kernel_rfl) (by kernel_rfl) (by kernel_rfl) (by kernel_rfl)) ?_
  intro W base args ds gs before hval0 hW hcnd hz0 _
  have hz : (DataW.weightsEach Try.prog (Try.f8.params.toList ++ Rows.elementCopiesSpec.plain.varTypes Try.prog) (ds ++ gs)).all (· ≤ reachBytes) = true := hz0
  have hval : ∀ (j : Nat) t v, Try.f8.params[j]? = some t → args[j]? = some v → Value.okWide Try.prog W .any base t v := hval0
  have hW' := hW
  obtain ⟨p, q, hA0, hV, rfl, hfz, hnd⟩ := hW
  have hA : DataW.TrodAll enc Try.prog W 0 (fun _ => true) true Try.f8.params.toList args.toList ds p := hA0
  rw [Try.params8] at hA hval hz
  obtain ⟨v0, vs0, d0, ds0, p0, q0, hargs, rfl, rfl, h0, r0⟩ := trodAll_cons hA
  obtain ⟨rfl, rfl, rfl⟩ := trodAll_nil r0
  obtain rfl : args = #[v0] := by cases args; simp_all
  obtain ⟨rfl, rfl⟩ := trodVars_none hV
  have lt0 : ∀ x ∈ p0, x.block < W.heap.size := by obtain ⟨m, hm⟩ := h0; exact DataW.trod_lt m _ _ _ hm
  obtain ⟨l0, w0, s0⟩ := open_bss (hval 0 38 v0 rfl rfl) h0
  have z0 := s0 reachBytes (fun n hn => by have := List.all_eq_true.1 hz n (DataW.weights_mem_each (j := 0) rfl rfl n hn); simpa using this)
  clear hA0 hval0
  refine (walk _ l0 W w0 z0).mono fun e W' ⟨he, bel⟩ => ?_
  subst he
  exact ⟨_, rfl, _, _, _, [], _, [], hW', trodAll_mk1 (shut_bool (by kernel_rfl : Try.prog.underlying 4 = some .bool) _), (trodAll_cons_mk (Below.trod lw_laidOut (by kernel_rfl) (of_decide_eq_true (by kernel_rfl)) h0 bel lt0) trodAll_mk0), rfl, bel.frame _, fun h => by cases h⟩

theorem over : Rows.elementCopiesRow.holds Try.pinned (OpenSpec.ofChange Rows.elementCopiesSpec) :=
  OpenClaim.holds_of_wide 8 Try.f8 rfl rfl rfl rfl rfl rfl rfl ⟨rfl, rfl, rfl, rfl, rfl⟩ rfl rfl rfl rfl rfl (by kernel_rfl) Try.func8 (by kernel_rfl)
    (of_decide_eq_true (by kernel_rfl)) (by unfold Func.isWrapper; first | (rw [if_pos (by decide +kernel)]; kernel_rfl) | (rw [if_neg (by decide +kernel)]; exact ⟨rfl, rfl⟩))
    (fun os started H enc _ => lifted os started H enc)

theorem proved : Rows.ElementCopiesSaid := over
#print axioms proved
end Go.Proofs.Ytecbphbnacbepaa.ElementCopiesDone
