/- Any parts are sorted as in the reference implementation; the order and repetitions do not matter; for every slice of slices of bytes and every slice of numbers that come in. -/
import Derived.Test.YtecbphbnacbepaaLaws
import Derived.Test.YtecbphbnacbepaaSorted
import Derived.Test.YtecbphbnacbepaaOrdC
import Derived.SizedLaws
set_option linter.unusedSimpArgs false
set_option linter.unusedVariables false
namespace Go.Proofs.Ytecbphbnacbepaa.ElementSortsDone
open Go.ChangeShapes Go.WideShapes Go.ChangeAt Go.RowKit Go.Cr
open Go.Proofs.Ytecbphbnacbepaa

theorem cat_bound (ls : List (List UInt8)) (hs : ∀ x ∈ ls, x.length ≤ reachBytes) (k : Nat) (hk : k < ls.length) : (ls.getD k []).length ≤ 140737488355328 := by
  have h1 : ls.getD k [] = ls[k] := by simp [List.getD, hk]
  have := hs _ (List.getElem_mem hk)
  have := reachBytes_lt
  rw [h1]; omega

def LpRel (ls : List (List UInt8)) (n i : Value) : Prop := ∃ k : Nat, k ≤ ls.length ∧ k ≤ 60 ∧ i = .int .i64 k ∧ n = .int .i64 (cat ls k).length ∧ (cat ls k).length ≤ k * 140737488355328

set_option maxRecDepth 100000 in
set_option maxHeartbeats 4000000 in
theorem walk_far (v : Value) (ls : List (List UInt8)) (v2 : Value) (ot : List UInt8) (w : World) (hv : IsBs w v ls) (hs : ∀ x ∈ ls, x.length ≤ reachBytes) (ho : IsB w v2 ot) (hfar : 50 < ls.length ∨ 2000 < ls.flatten.length ∨ 60 < ot.length) :
    Calls Try.prog 9 #[v, v2] w (RetB (.bool true) w) := by
  have hlen := hv.len ulBs
  have hlo := ho.len ulB
  have HW := Lib.hid hv
  have HS := Lib.hid hs
  have HF := Lib.hid hfar
  clear hv hs hfar ho
  go_enter Try.func9, Try.ntmps9
  go_wp2
  go_loop [5, 6] (fun n i => LpRel ls n i) (fun _ i => ls.length - (intOf i).toNat)
  case atStart => exact ⟨0, by omega, by omega, rfl, by simp [cat], by simp [cat]⟩
  case round =>
    obtain ⟨k, hk, hk60, rfl, rfl, hq⟩ := hrel
    by_cases hlt : (k : Int) < ls.length
    · by_cases h6 : (k : Int) < 60
      · obtain ⟨bb, oo, u, hi, hbb, hc, hu⟩ := HW.out.at_ (P := Try.prog) ulBs szBs .i64 (i := k) (by omega) hlt
        simp only [Int.toNat_natCast] at hu
        have hul := hu.len ulB
        have hb1 := cat_bound ls HS.out k (by omega)
        have hcs := cat_succ ls k (by omega)
        have hcl : (cat ls (k + 1)).length = (cat ls k).length + (ls.getD k []).length := by rw [hcs, List.length_append]
        clear hu hcs
        generalize (ls.getD k []).length = m at *
        generalize (cat ls k).length = c at *
        go_wp2
        go_round
        case rel => exact ⟨k + 1, by omega, by omega, by go_num, by rw [hcl]; go_num, by rw [hcl]; omega⟩
        case measure => simp [intOf]; omega
      · have h50 : (50 : Int) < ls.length := by omega
        clear hq HF
        go_wp2_with (first | (go_at_call 10; (with_reducible refine (awake_any w).mono ?_); rintro e w1 ⟨rfl, hb1⟩) | (go_at_call 10; (with_reducible refine (awake_any _).mono ?_); rintro e w2 ⟨rfl, hb2⟩))
        have B := below_t hb1 hb2
        (refine bodyPost_retB (v := .bool true) (by (simp only [results, Try.results9]; try go_simp)) rfl rfl ?_; ((repeat' (first | (with_reducible exact Below.refl _ _) | (with_reducible assumption) | (with_reducible refine Below.setCell ?_ ?_ _) | (with_reducible refine Below.alloc ?_ ?_ _) | (with_reducible refine Below.drew ?_) | (with_reducible refine below_drewN ?_ _) | (with_reducible refine Below.step (by with_reducible assumption) ?_ ?_))) <;> (first | omega | (simp; done) | (simp; omega))))
    · obtain rfl : k = ls.length := by omega
      by_cases h50 : (50 : Int) < ls.length
      · clear hq HF
        go_wp2_with (first | (go_at_call 10; (with_reducible refine (awake_any w).mono ?_); rintro e w1 ⟨rfl, hb1⟩) | (go_at_call 10; (with_reducible refine (awake_any _).mono ?_); rintro e w2 ⟨rfl, hb2⟩))
        have B := below_t hb1 hb2
        (refine bodyPost_retB (v := .bool true) (by (simp only [results, Try.results9]; try go_simp)) rfl rfl ?_; ((repeat' (first | (with_reducible exact Below.refl _ _) | (with_reducible assumption) | (with_reducible refine Below.setCell ?_ ?_ _) | (with_reducible refine Below.alloc ?_ ?_ _) | (with_reducible refine Below.drew ?_) | (with_reducible refine below_drewN ?_ _) | (with_reducible refine Below.step (by with_reducible assumption) ?_ ?_))) <;> (first | omega | (simp; done) | (simp; omega))))
      · rw [cat_all]
        have hf := HF.out
        obtain ⟨F, hF⟩ : ∃ F, ls.flatten = F := ⟨_, rfl⟩
        rw [hF] at hf ⊢
        clear hq HF hF
        by_cases h2000 : (2000 : Int) < (F.length : Int)
        · go_wp2_with (first | (go_at_call 10; (with_reducible refine (awake_any w).mono ?_); rintro e w1 ⟨rfl, hb1⟩) | (go_at_call 10; (with_reducible refine (awake_any _).mono ?_); rintro e w2 ⟨rfl, hb2⟩))
          have B := below_t hb1 hb2
          (refine bodyPost_retB (v := .bool true) (by (simp only [results, Try.results9]; try go_simp)) rfl rfl ?_; ((repeat' (first | (with_reducible exact Below.refl _ _) | (with_reducible assumption) | (with_reducible refine Below.setCell ?_ ?_ _) | (with_reducible refine Below.alloc ?_ ?_ _) | (with_reducible refine Below.drew ?_) | (with_reducible refine below_drewN ?_ _) | (with_reducible refine Below.step (by with_reducible assumption) ?_ ?_))) <;> (first | omega | (simp; done) | (simp; omega))))
        · have h60 : (60 : Int) < ot.length := by omega
          go_wp2_with (first | (go_at_call 10; (with_reducible refine (awake_any w).mono ?_); rintro e w1 ⟨rfl, hb1⟩) | (go_at_call 10; (with_reducible refine (awake_any _).mono ?_); rintro e w2 ⟨rfl, hb2⟩))
          have B := below_t hb1 hb2
          (refine bodyPost_retB (v := .bool true) (by (simp only [results, Try.results9]; try go_simp)) rfl rfl ?_; ((repeat' (first | (with_reducible exact Below.refl _ _) | (with_reducible assumption) | (with_reducible refine Below.setCell ?_ ?_ _) | (with_reducible refine Below.alloc ?_ ?_ _) | (with_reducible refine Below.drew ?_) | (with_reducible refine below_drewN ?_ _) | (with_reducible refine Below.step (by with_reducible assumption) ?_ ?_))) <;> (first | omega | (simp; done) | (simp; omega))))

theorem IsBs.of_own {w : World} {b : Nat} {o : Value} {vs : List Value} {r : List (List UInt8)} (h : IsR w o 1 r.length vs) (he : OwE w b vs r) : IsBs w o r := ⟨vs, h, fun j hj => (he.2 j hj).isB⟩
/-- The mixed parts. -/
def SmRel (ls : List (List UInt8)) (W : World) (mixed i : Value) (wr : World) : Prop :=
  ∃ (k : Nat) (ms : List (List UInt8)) (vs : List Value), i = .int .i64 k ∧ k ≤ 60 ∧ wr.ownsRow W.heap.size 30 1 mixed ms.length vs ∧ EltB W vs ms ∧ (∀ x, x ∈ ms ↔ x ∈ ls) ∧ ms.length = ls.length + k ∧ ms.flatten.length ≤ 2000 + k * 2000 ∧ Below W.heap.size W wr
theorem EltB.cons {w : World} {vs : List Value} {r : List (List UInt8)} {u : Value} {l : List UInt8} (h : EltB w vs r) (hu : IsB w u l) : EltB w ([u] ++ vs) ([l] ++ r) := by
  refine ⟨by simp [h.1], fun j hj => ?_⟩
  cases j with
  | zero => simpa [List.getD] using hu
  | succ j => have := h.2 j (by simpa using hj); simpa [List.getD] using this
theorem EltB.one {w : World} {vs : List Value} {r : List (List UInt8)} (h : EltB w vs r) : ∀ u ∈ vs, u.oneCell' = true := by
  intro u hu
  obtain ⟨j, hj, rfl⟩ := List.mem_iff_getElem.1 hu
  have h1 := h.2 j (by rw [← h.1]; exact hj)
  have h2 : vs.getD j undef = vs[j] := by simp [List.getD, hj]
  rw [h2] at h1
  obtain ⟨A, c, e, _⟩ := h1
  rw [e]; rfl
theorem len_le_flatten {ls : List (List UInt8)} {k : Nat} (hk : k < ls.length) : (ls.getD k []).length ≤ ls.flatten.length := by
  have h2 := cat_le ls (k + 1)
  rw [cat_succ ls k hk, List.length_append] at h2
  omega

set_option maxRecDepth 100000 in
set_option maxHeartbeats 8000000 in
theorem walk_main (v : Value) (ls : List (List UInt8)) (v2 : Value) (ot : List UInt8) (w : World) (hv : IsBs w v ls) (ho : IsB w v2 ot) (h50 : ls.length ≤ 50) (h2000 : ls.flatten.length ≤ 2000) (h60 : ot.length ≤ 60) :
    Calls Try.prog 9 #[v, v2] w (RetB (.bool true) w) := by
  have hlen := hv.len ulBs
  have hlo := ho.len ulB
  have HW := Lib.hid hv
  have HOT := Lib.hid ho
  have hcl := Lib.hid (cat_le ls)
  have H2K := Lib.hid h2000
  obtain ⟨B0, hB0⟩ : ∃ B0, ascB ls = B0 := ⟨_, rfl⟩
  have HP : Hid (∀ W, IsBs W v ls → Calls Try.prog 26 #[v] W (RetSd ls W)) := fun W h => pSorted v ls W h (by omega) (by omega)
  have HR : Hid (∀ W, IsBs W v ls → Calls Try.prog 28 #[v] W (RetBs ls W)) := fun W h => rSorted v ls W h (by omega)
  have HO1 : Hid (∀ W, IsBs W v ls → Calls Try.prog 30 #[v] W (RetB (.bool B0) W)) := fun W h => by have := pOrdered v ls W h; rwa [hB0] at this
  have HO2 : Hid (∀ W, IsBs W v ls → Calls Try.prog 31 #[v] W (RetB (.bool B0) W)) := fun W h => by have := rOrdered v ls W h; rwa [hB0] at this
  have hFl : Hid (∃ F : Nat, ls.flatten.length = F) := ⟨_, rfl⟩
  obtain ⟨vp, hvr, hve⟩ := hv
  have HE0 : Hid (EltB w vp ls) := ⟨by obtain ⟨_, _, _, _, _, h, _⟩ := hvr; omega, hve⟩
  have HVR := Lib.hid hvr
  clear hvr hve ho hB0
  go_enter Try.func9, Try.ntmps9
  go_wp2
  go_loop [5, 6] (fun n i => ∃ k : Nat, k ≤ ls.length ∧ i = .int .i64 k ∧ n = .int .i64 (cat ls k).length) (fun _ i => ls.length - (intOf i).toNat)
  case atStart => exact ⟨0, by omega, rfl, by simp [cat]⟩
  case round =>
    obtain ⟨k, hk, rfl, rfl⟩ := hrel
    have hq := hcl.out k
    have hq2 : (cat ls k).length ≤ 2000 := by have := H2K.out; omega
    clear hq
    by_cases hlt : (k : Int) < ls.length
    · obtain ⟨bb, oo, u, hi, hbb, hc, hu⟩ := HW.out.at_ (P := Try.prog) ulBs szBs .i64 (i := k) (by omega) hlt
      simp only [Int.toNat_natCast] at hu
      have hul := hu.len ulB
      have hcs := cat_succ ls k (by omega)
      have hq' : (cat ls (k + 1)).length ≤ 2000 := by have := H2K.out; have := hcl.out (k + 1); omega
      have hcl' : (cat ls (k + 1)).length = (cat ls k).length + (ls.getD k []).length := by rw [hcs, List.length_append]
      clear hu hcs h2000
      generalize (ls.getD k []).length = m at *
      generalize (cat ls k).length = c at *
      go_wp2
      go_round
      case rel => exact ⟨k + 1, by omega, by go_num, by rw [hcl']; go_num⟩
      case measure => simp [intOf]; omega
    · obtain rfl : k = ls.length := by omega
      clear h2000
      generalize (cat ls ls.length).length = c at *
      obtain ⟨i0, hi0, hz0, hz1, hz2⟩ := info_parts infoBs
      go_wp2_with (first | (go_at_call 10; (with_reducible refine (awake_any _).mono ?_); rintro e w1 ⟨rfl, hb1⟩) | (go_at_call 26; (with_reducible refine (HP.out _ (HW.out.below hb1)).mono ?_); rintro e w2 ⟨o1, r, vs1, rfl, hso, hir, he2, hb2⟩; have HSO := Lib.hid hso; have O1 := Lib.hid (IsBs.of_own hir he2); clear hso hir he2; have B2 := below_t hb1 hb2) | (go_at_call 28; (with_reducible refine (HR.out _ (HW.out.below B2)).mono ?_); rintro e w3 ⟨o2, r2, rfl, hso2, ho2, hb3⟩; have hrr := HSO.out.uniq hso2; subst hrr; have O2 := Lib.hid ho2; clear hso2 ho2; have B3 := below_t B2 hb3) | (go_at_call 27; (with_reducible refine (slices_same _ _ r _ (O1.out.below hb3) O2.out).mono ?_); rintro e w4 ⟨rfl, hb4⟩; have B4 := below_t B3 hb4) | (go_at_call 30; (with_reducible refine (HO1.out _ (HW.out.below B4)).mono ?_); rintro e w5 ⟨rfl, hb5⟩; have B5 := below_t B4 hb5) | (go_at_call 31; (with_reducible refine (HO2.out _ (HW.out.below B5)).mono ?_); rintro e w6 ⟨rfl, hb6⟩; have B6 := below_t B5 hb6) | (go_at_call 30; (with_reducible refine (pOrdered _ r _ (O1.out.below (below_t (below_t (below_t hb3 hb4) hb5) hb6))).mono ?_); rw [(ascB_iff r).2 HSO.out.1]; rintro e w7 ⟨rfl, hb7⟩; have B7 := below_t B6 hb7; have O7 := Lib.hid (O1.out.below (below_t (below_t (below_t (below_t hb3 hb4) hb5) hb6) hb7))) | (at_builtin; refine wpList_app _ rfl _ _ 38 rfl w.heap.size 30 i0 (.slice none 0 0) 1 24 ulBs hi0 hz0 hz1 hz2 rfl (by decide) _ 0 [] rfl (World.ownsRow_lit (base := w.heap.size) (e := 30) (size := 1) w7 #[] 0 B7.size (by decide) rfl) _ ls.length vp rfl ((HVR.out.below B7).alloc _) (EltB.one HE0.out) (by have : maxLen = 9223372036854775807 := rfl; omega) (by omega) ?k3 ?_))
      case k3 => have := B7.size; simp; omega
      intro mx w8 ho8 hg8 hb8
      have hz7 := B7.size
      have B8 : Below w.heap.size w w8 := (B7.alloc hz7 _).trans hb8
      have O8 := Lib.hid ho8
      have O9 : Hid (IsBs w8 o1 r) := by
        show IsBs w8 o1 r
        have h1 : Below w7.heap.size w7 w8 := ⟨hb8.os, hb8.tape, hb8.output, by have := hg8.size; simp at this; omega, fun j hj => by
          have := hg8.block j (by simp; omega) (by intro e; simp [Value.ownBlock] at e; omega)
          rw [this]; exact ((Below.refl w7.heap.size w7).alloc (Nat.le_refl _) _).block j hj⟩
        exact O7.out.below h1
      clear ho8 hg8 hb8 O7 B7 hb1 hb2 hb3 hb4 hb5 hb6 hb7 B2 B3 B4 B5 B6
      go_wp2
      go_loopw [8, 9] (fun mixed i wr => SmRel ls w mixed i wr ∧ IsBs wr o1 r) (fun _ i _ => ot.length - (intOf i).toNat)
      case atStart => exact ⟨⟨0, ls, vp, rfl, by omega, by simpa using O8.out, HE0.out, fun x => Iff.rfl, by simp, by have := H2K.out; omega, B8⟩, O9.out⟩
      case round =>
        obtain ⟨⟨k, ms, vs, rfl, hk60, hrow, hel, hmem, hml, hmf, hbel⟩, hO⟩ := hrel
        have HROW := Lib.hid hrow
        have HEL := Lib.hid hel
        have HMM := Lib.hid hmem
        have HOO := Lib.hid hO
        have hws := hbel.size
        have HMF := Lib.hid hmf
        clear hrow hel hmem hO hmf
        by_cases hlt : (k : Int) < ot.length
        · by_cases hpos : 0 < ls.length
          · have hpos' : (0 : Int) < ls.length := by omega
            obtain ⟨bo, oo, hi1, hbo, hco⟩ := (HOT.out.below hbel).at_ (P := Try.prog) ulB szB .i64 (i := k) (by omega) hlt
            simp only [Int.toNat_natCast] at hco
            have hx0 := bat_pos ot k
            have hx1 := bat_lt ot k
            obtain ⟨x, hx⟩ : ∃ x : Nat, bat ot k = x := ⟨(bat ot k).toNat, by omega⟩
            rw [hx] at hco hx0 hx1
            have hm0 : x % ls.length < ls.length := Nat.mod_lt _ hpos
            obtain ⟨m0, hm0e⟩ : ∃ m0, x % ls.length = m0 := ⟨_, rfl⟩
            rw [hm0e] at hm0
            have htm : ((x : Int)).tmod (ls.length : Int) = (m0 : Int) := by rw [Int.tmod_eq_emod_of_nonneg (by omega), ← hm0e]; rfl
            obtain ⟨bb, oo2, u, hi2, hbb, hcu, hu⟩ := HW.out.at_ (P := Try.prog) ulBs szBs .i64 (i := (m0 : Int)) (by omega) (by omega)
            simp only [Int.toNat_natCast] at hu
            have cu : wr.cell? ⟨bb, oo2, none⟩ = some u := below_cell hbel hbb hcu
            obtain ⟨uA, un, uc, rfl⟩ : ∃ A n c, u = .slice A n c := by obtain ⟨A, c, h, _⟩ := hu; exact ⟨_, _, _, h⟩
            have hfl := len_le_flatten hm0
            have HC := Lib.hid (EltB.cons HEL.out hu)
            have hmm2 : ∀ y, y ∈ [ls.getD m0 []] ++ ms ↔ y ∈ ls := fun y => by
              rw [List.mem_append, List.mem_singleton, HMM.out y]
              exact ⟨fun h => h.elim (fun e => e ▸ getD_mem hm0) id, .inr⟩
            have HM2 := Lib.hid hmm2
            have hf2 : ([ls.getD m0 []] ++ ms).flatten.length ≤ 2000 + (k + 1) * 2000 := by
              have h1 := HMF.out
              have h2 := H2K.out
              simp only [List.cons_append, List.nil_append, List.flatten_cons, List.length_append]
              omega
            have HF2 := Lib.hid hf2
            clear hu hcu hmm2 hf2 hfl hx hm0e
            generalize ls.getD m0 [] = p at *
            have hnz : ((ls.length : Int) == 0) = false := beq_eq_false_iff_ne.2 (by omega)
            have hnz' : ¬ ((ls.length : Int) = 0) := by omega
            go_wp2_with (at_builtin; refine wpList_app _ rfl _ _ 38 rfl w.heap.size 30 i0 (.slice none 0 0) 1 24 ulBs hi0 hz0 hz1 hz2 rfl (by decide) _ 1 [.slice uA un uc] rfl (World.ownsRow_lit (base := w.heap.size) (e := 30) (size := 1) wr #[.slice uA un uc] 1 hws (by decide) rfl) _ ms.length vs rfl ((IsR.of_own HROW.out).alloc _) (EltB.one HEL.out) (by have : maxLen = 9223372036854775807 := rfl; omega) (by omega) ?k4 ?_)
            case k4 => simp; omega
            intro mx2 w9 ho9 hg9 hb9
            have B9 : Below w.heap.size w w9 := (hbel.alloc hws _).trans hb9
            have O10 := Lib.hid ho9
            have O11 : Hid (IsBs w9 o1 r) := by
              show IsBs w9 o1 r
              have h1 : Below wr.heap.size wr w9 := ⟨hb9.os, hb9.tape, hb9.output, by have := hg9.size; simp at this; omega, fun j hj => by
                have := hg9.block j (by simp; omega) (by intro e; simp [Value.ownBlock] at e; omega)
                rw [this]; exact ((Below.refl wr.heap.size wr).alloc (Nat.le_refl _) _).block j hj⟩
              exact HOO.out.below h1
            clear ho9 hg9 hb9
            go_wp2
            go_roundw
            case rel => exact ⟨⟨k + 1, [p] ++ ms, [.slice uA un uc] ++ vs, by go_num, by omega, by have h := O10.out; have e : ([p] ++ ms).length = k + ls.length + 1 := (by simp; omega); rw [e]; simpa [Nat.add_comm] using h, HC.out, HM2.out, by simp; omega, HF2.out, B9⟩, O11.out⟩
            case measure => simp [intOf]; omega
          · have hz : ls.length = 0 := by omega
            have hz' : (ls.length : Int) = 0 := by omega
            have HPS : Hid (Calls Try.prog 26 #[u8] wr (RetSd ms wr)) := pSorted u8 ms wr ⟨vs, IsR.of_own HROW.out, fun j hj => (HEL.out.2 j hj).below hbel⟩ (by omega) (by have := HMF.out; omega)
            go_wp2_with (first | (go_at_call 26; (with_reducible refine HPS.out.mono ?_); rintro e w9 ⟨o3, r3, vs3, rfl, hso3, hir3, he3, hb9⟩; have hrr : r3 = r := SortOf.uniq ⟨hso3.1, fun x => (hso3.2 x).trans (HMM.out x)⟩ HSO.out; subst hrr; have O3 := Lib.hid (IsBs.of_own hir3 he3); clear hso3 hir3 he3) | (go_at_call 27; (with_reducible refine (slices_same _ _ r3 _ O3.out (HOO.out.below hb9)).mono ?_); rintro e w10 ⟨rfl, hb10⟩))
            have B := below_t (below_t hbel hb9) hb10
            (refine bodyPost_retB (v := .bool true) (by (simp only [results, Try.results9]; try go_simp)) rfl rfl ?_; ((repeat' (first | (with_reducible exact Below.refl _ _) | (with_reducible assumption) | (with_reducible refine Below.setCell ?_ ?_ _) | (with_reducible refine Below.alloc ?_ ?_ _) | (with_reducible refine Below.drew ?_) | (with_reducible refine below_drewN ?_ _) | (with_reducible refine Below.step (by with_reducible assumption) ?_ ?_))) <;> (first | omega | (simp; done) | (simp; omega))))
        · have HPS : Hid (Calls Try.prog 26 #[u8] wr (RetSd ms wr)) := pSorted u8 ms wr ⟨vs, IsR.of_own HROW.out, fun j hj => (HEL.out.2 j hj).below hbel⟩ (by omega) (by have := HMF.out; omega)
          go_wp2_with (first | (go_at_call 26; (with_reducible refine HPS.out.mono ?_); rintro e w9 ⟨o3, r3, vs3, rfl, hso3, hir3, he3, hb9⟩; have hrr : r3 = r := SortOf.uniq ⟨hso3.1, fun x => (hso3.2 x).trans (HMM.out x)⟩ HSO.out; subst hrr; have O3 := Lib.hid (IsBs.of_own hir3 he3); clear hso3 hir3 he3) | (go_at_call 27; (with_reducible refine (slices_same _ _ r3 _ O3.out (HOO.out.below hb9)).mono ?_); rintro e w10 ⟨rfl, hb10⟩))
          have B := below_t (below_t hbel hb9) hb10
          (refine bodyPost_retB (v := .bool true) (by (simp only [results, Try.results9]; try go_simp)) rfl rfl ?_; ((repeat' (first | (with_reducible exact Below.refl _ _) | (with_reducible assumption) | (with_reducible refine Below.setCell ?_ ?_ _) | (with_reducible refine Below.alloc ?_ ?_ _) | (with_reducible refine Below.drew ?_) | (with_reducible refine below_drewN ?_ _) | (with_reducible refine Below.step (by with_reducible assumption) ?_ ?_))) <;> (first | omega | (simp; done) | (simp; omega))))

theorem walk (v : Value) (ls : List (List UInt8)) (v2 : Value) (ot : List UInt8) (w : World) (hv : IsBs w v ls) (hs : ∀ x ∈ ls, x.length ≤ reachBytes) (ho : IsB w v2 ot) :
    Calls Try.prog 9 #[v, v2] w (RetB (.bool true) w) := by
  by_cases h : 50 < ls.length ∨ 2000 < ls.flatten.length ∨ 60 < ot.length
  · exact walk_far v ls v2 ot w hv hs ho h
  · exact walk_main v ls v2 ot w hv ho (by omega) (by omega) (by omega)

set_option maxRecDepth 100000 in
theorem lifted (os : Os) (started : os.Started) (H : Type) (enc : TypeId × Value → H) :
    ReturnsInHanded {} Try.checked os 9 .any (Rows.elementSortsSpec.pre6 enc Try.prog Try.f9 Rows.elementSortsRow.domain false) (Rows.elementSortsSpec.post enc Try.prog Try.f9 false true false false) := by
  refine returnsInHanded_of_change_sized (C := Try.checked) lw_own started (by kernel_rfl) Try.func9
    (ChangeSpec.witness6 (enc := enc) (C := Try.checked) false ⟨#[], #[.slice none 0 0, .slice none 0 0], []⟩ 8 (by kernel_rfl) (by kernel_rfl) (by kernel_rfl) (by kernel_rfl)) ?_
  intro W base args ds gs before hval0 hW hcnd hz0 _
  have hz : (DataW.weightsEach Try.prog (Try.f9.params.toList ++ Rows.elementSortsSpec.plain.varTypes Try.prog) (ds ++ gs)).all (· ≤ reachBytes) = true := hz0
  have hval : ∀ (j : Nat) t v, Try.f9.params[j]? = some t → args[j]? = some v → Value.okWide Try.prog W .any base t v := hval0
  have hW' := hW
  obtain ⟨p, q, hA0, hV, rfl, hfz, hnd⟩ := hW
  have hA : DataW.TrodAll enc Try.prog W 0 (fun _ => true) true Try.f9.params.toList args.toList ds p := hA0
  rw [Try.params9] at hA hval hz
  obtain ⟨v0, vs0, d0, ds0, p0, q0, hargs, rfl, rfl, h0, r0⟩ := trodAll_cons hA
  obtain ⟨v1, vs1, d1, ds1, p1, q1, rfl, rfl, rfl, h1, r1⟩ := trodAll_cons r0
  obtain ⟨rfl, rfl, rfl⟩ := trodAll_nil r1
  obtain rfl : args = #[v0, v1] := by cases args; simp_all
  obtain ⟨rfl, rfl⟩ := trodVars_none hV
  have lt0 : ∀ x ∈ p0, x.block < W.heap.size := by obtain ⟨m, hm⟩ := h0; exact DataW.trod_lt m _ _ _ hm
  obtain ⟨l0, w0, s0⟩ := open_bss (hval 0 38 v0 rfl rfl) h0
  have z0 := s0 reachBytes (fun n hn => by have := List.all_eq_true.1 hz n (DataW.weights_mem_each (j := 0) rfl rfl n hn); simpa using this)
  have lt1 : ∀ x ∈ p1, x.block < W.heap.size := by obtain ⟨m, hm⟩ := h1; exact DataW.trod_lt m _ _ _ hm
  obtain ⟨l1, w1⟩ := open_bytes (hval 1 30 v1 rfl rfl) h1
  clear hA0 hval0
  refine (walk _ l0 _ l1 W w0 z0 w1).mono fun e W' ⟨he, bel⟩ => ?_
  subst he
  exact ⟨_, rfl, _, _, _, [], _, [], hW', trodAll_mk1 (shut_bool (by kernel_rfl : Try.prog.underlying 4 = some .bool) _), (trodAll_cons_mk (Below.trod lw_laidOut (by kernel_rfl) (of_decide_eq_true (by kernel_rfl)) h0 bel lt0) (trodAll_cons_mk (Below.trod lw_laidOut (by kernel_rfl) (of_decide_eq_true (by kernel_rfl)) h1 bel lt1) trodAll_mk0)), rfl, bel.frame _, fun h => by cases h⟩

theorem over : Rows.elementSortsRow.holds Try.pinned (OpenSpec.ofChange Rows.elementSortsSpec) :=
  OpenClaim.holds_of_wide 9 Try.f9 rfl rfl rfl rfl rfl rfl rfl ⟨rfl, rfl, rfl, rfl, rfl⟩ rfl rfl rfl rfl rfl (by kernel_rfl) Try.func9 (by kernel_rfl)
    (of_decide_eq_true (by kernel_rfl)) (by unfold Func.isWrapper; first | (rw [if_pos (by decide +kernel)]; kernel_rfl) | (rw [if_neg (by decide +kernel)]; exact ⟨rfl, rfl⟩))
    (fun os started H enc _ => lifted os started H enc)

theorem proved : Rows.ElementSortsSaid := over
#print axioms proved
end Go.Proofs.Ytecbphbnacbepaa.ElementSortsDone
