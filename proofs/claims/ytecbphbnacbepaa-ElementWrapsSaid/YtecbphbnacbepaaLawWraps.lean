/- Any parts in any tag are the element of the reference implementation, or have its error; if the parts are elements, they are found inside; for every tag, flag and slice of slices of bytes that come in. -/
import Derived.Test.YtecbphbnacbepaaLaws
import Derived.Test.YtecbphbnacbepaaSpecI
import Derived.SizedLaws
set_option linter.unusedSimpArgs false
set_option linter.unusedVariables false
namespace Go.Proofs.Ytecbphbnacbepaa.ElementWrapsDone
open Go.ChangeShapes Go.WideShapes Go.ChangeAt Go.RowKit Go.Cr
open Go.Proofs.Ytecbphbnacbepaa

theorem cat_bound (ls : List (List UInt8)) (hs : ∀ x ∈ ls, x.length ≤ reachBytes) (k : Nat) (hk : k < ls.length) : (ls.getD k []).length ≤ 140737488355328 := by
  have h1 : ls.getD k [] = ls[k] := by simp [List.getD, hk]
  have := hs _ (List.getElem_mem hk)
  have := reachBytes_lt
  rw [h1]; omega

def LpRel (ls : List (List UInt8)) (n i : Value) : Prop := ∃ k : Nat, k ≤ ls.length ∧ k ≤ 60 ∧ i = .int .i64 k ∧ n = .int .i64 (cat ls k).length ∧ (cat ls k).length ≤ k * 140737488355328

set_option maxRecDepth 100000 in
set_option maxHeartbeats 4000000 in
theorem walk_far (a b : Int) (kk : Bool) (v : Value) (ls : List (List UInt8)) (w : World) (hv : IsBs w v ls) (hs : ∀ x ∈ ls, x.length ≤ reachBytes) (hfar : 50 < ls.length ∨ 2000 < ls.flatten.length) :
    Calls Try.prog 5 #[.agg #[.int .i64 a, .int .i64 b], .bool kk, v] w (RetB (.bool true) w) := by
  have hlen := hv.len ulBs
  have HV := Lib.hid hv
  have HS := Lib.hid hs
  have HF := Lib.hid hfar
  have HW := Lib.hid (hv.alloc (.cells #[.int .i64 a, .int .i64 b] 23))
  clear hv hs hfar
  go_enter Try.func5, Try.ntmps5
  go_wp2
  go_loop [7, 8] (fun n i => LpRel ls n i) (fun _ i => ls.length - (intOf i).toNat)
  case atStart => exact ⟨0, by omega, by omega, rfl, by simp [cat], by simp [cat]⟩
  case round =>
    obtain ⟨k, hk, hk60, rfl, rfl, hq⟩ := hrel
    by_cases hlt : (k : Int) < ls.length
    · by_cases h6 : (k : Int) < 60
      · obtain ⟨bb, oo, u, hi, hbb, hc, hu⟩ := HW.out.at_ (P := Try.prog) ulBs szBs .i64 (i := k) (by omega) hlt
        simp only [Int.toNat_natCast] at hu
        have hul := hu.len ulB
        have hb1 := cat_bound ls HS.out k (by omega)
        have hcs := cat_succ ls k (by omega)
        have hcl : (cat ls (k + 1)).length = (cat ls k).length + (ls.getD k []).length := by rw [hcs, List.length_append]
        clear hu hcs
        generalize (ls.getD k []).length = m at *
        generalize (cat ls k).length = c at *
        go_wp2
        go_round
        case rel => exact ⟨k + 1, by omega, by omega, by go_num, by rw [hcl]; go_num, by rw [hcl]; omega⟩
        case measure => simp [intOf]; omega
      · have h50 : (50 : Int) < ls.length := by omega
        clear hq HF
        go_wp2_with (first | (go_at_call 10; (with_reducible refine (awake_any (w.alloc _)).mono ?_); rintro e w1 ⟨rfl, hb1⟩) | (go_at_call 10; (with_reducible refine (awake_any _).mono ?_); rintro e w2 ⟨rfl, hb2⟩))
        have B := below_t (below_a hb1) hb2
        (refine bodyPost_retB (v := .bool true) (by (simp only [results, Try.results5]; try go_simp)) rfl rfl ?_; ((repeat' (first | (with_reducible exact Below.refl _ _) | (with_reducible assumption) | (with_reducible refine Below.setCell ?_ ?_ _) | (with_reducible refine Below.alloc ?_ ?_ _) | (with_reducible refine Below.drew ?_) | (with_reducible refine below_drewN ?_ _) | (with_reducible refine Below.step (by with_reducible assumption) ?_ ?_))) <;> (first | omega | (simp; done) | (simp; omega))))
    · obtain rfl : k = ls.length := by omega
      by_cases h50 : (50 : Int) < ls.length
      · clear hq HF
        go_wp2_with (first | (go_at_call 10; (with_reducible refine (awake_any (w.alloc _)).mono ?_); rintro e w1 ⟨rfl, hb1⟩) | (go_at_call 10; (with_reducible refine (awake_any _).mono ?_); rintro e w2 ⟨rfl, hb2⟩))
        have B := below_t (below_a hb1) hb2
        (refine bodyPost_retB (v := .bool true) (by (simp only [results, Try.results5]; try go_simp)) rfl rfl ?_; ((repeat' (first | (with_reducible exact Below.refl _ _) | (with_reducible assumption) | (with_reducible refine Below.setCell ?_ ?_ _) | (with_reducible refine Below.alloc ?_ ?_ _) | (with_reducible refine Below.drew ?_) | (with_reducible refine below_drewN ?_ _) | (with_reducible refine Below.step (by with_reducible assumption) ?_ ?_))) <;> (first | omega | (simp; done) | (simp; omega))))
      · have hn : (2000 : Int) < ((cat ls ls.length).length : Int) := by
          have h := HF.out
          rw [cat_all]
          rcases h with h | h
          · omega
          · exact Int.ofNat_lt.2 h
        generalize (cat ls ls.length).length = c at *
        clear hq HF
        go_wp2_with (first | (go_at_call 10; (with_reducible refine (awake_any (w.alloc _)).mono ?_); rintro e w1 ⟨rfl, hb1⟩) | (go_at_call 10; (with_reducible refine (awake_any _).mono ?_); rintro e w2 ⟨rfl, hb2⟩))
        have B := below_t (below_a hb1) hb2
        (refine bodyPost_retB (v := .bool true) (by (simp only [results, Try.results5]; try go_simp)) rfl rfl ?_; ((repeat' (first | (with_reducible exact Below.refl _ _) | (with_reducible assumption) | (with_reducible refine Below.setCell ?_ ?_ _) | (with_reducible refine Below.alloc ?_ ?_ _) | (with_reducible refine Below.drew ?_) | (with_reducible refine below_drewN ?_ _) | (with_reducible refine Below.step (by with_reducible assumption) ?_ ?_))) <;> (first | omega | (simp; done) | (simp; omega))))

def WhRel (ls : List (List UInt8)) (W : World) (h i : Value) (wr : World) : Prop :=
  ∃ (k : Nat) (b : Bool), k ≤ ls.length ∧ i = .int .i64 k ∧ h = .bool b ∧ (b = true → ∀ j, j < k → ∃ x, oneE (ls.getD j []) = .ok x) ∧ Below W.heap.size W wr

theorem one_is (l : List UInt8) : ∃ x c o, elR (oneE l) = .tuple #[elV x, errV (c, o)] ∧ (c = 0 → ∃ y, oneE l = .ok y) := by
  cases h : oneE l with
  | ok x => exact ⟨x, 0, 0, rfl, fun _ => ⟨x, rfl⟩⟩
  | error e =>
    obtain ⟨c, o⟩ := e
    exact ⟨Elem.zero, c, o, rfl, fun hc => by have := oneE_err h; omega⟩

set_option maxRecDepth 100000 in
set_option maxHeartbeats 8000000 in
theorem walk_main (a b : Int) (kk : Bool) (v : Value) (ls : List (List UInt8)) (w : World) (hv : IsBs w v ls) (h50 : ls.length ≤ 50) (h2000 : ls.flatten.length ≤ 2000) :
    Calls Try.prog 5 #[.agg #[.int .i64 a, .int .i64 b], .bool kk, v] w (RetB (.bool true) w) := by
  have hlen := hv.len ulBs
  have HW := Lib.hid (hv.alloc (.cells #[.int .i64 a, .int .i64 b] 23))
  have hcl := Lib.hid (cat_le ls)
  clear hv
  obtain ⟨F, hF⟩ : ∃ F, ls.flatten = F := ⟨_, rfl⟩
  have hE := encO_len 0 16 true F
  have hol := lenOct_len F.length
  have hone := oneE_enc 0 16 true F (by omega) (by omega) (by omega) (by omega) (by rw [← hF]; omega)
  have HL0 := Lib.hid (fun hall => listE_enc 0 16 true ls hall)
  rw [hF] at HL0
  have h2F : F.length ≤ 2000 := by rw [← hF]; exact h2000
  have HP : Hid (∀ W, IsBs W v ls → Calls Try.prog 17 #[.int .i64 a, .bool kk, .int .i64 b, v] W (fun e w' => ∃ o, e = .returned (.tuple #[o, .int .i64 (wC a b)]) ∧ IsB w' o (wB a kk b F) ∧ Below W.heap.size W w')) := fun W h => by
    have := (pWrap a b kk v ls W h (by rw [hF]; omega)).mono fun e w' hh => hh.is_
    rwa [hF] at this
  have HR : Hid (∀ W, IsBs W v ls → Calls Try.prog 18 #[.int .i64 a, .bool kk, .int .i64 b, v] W (fun e w' => ∃ o, e = .returned (.tuple #[o, .int .i64 (wC a b)]) ∧ IsB w' o (wB a kk b F) ∧ Below W.heap.size W w')) := fun W h => by
    have := (rWrap a b kk v ls W h (by rw [hF]; omega)).mono fun e w' hh => hh.is_
    rwa [hF] at this
  have HQ : Hid (∀ W, IsBs W v ls → Calls Try.prog 19 #[v] W (fun e w' => ∃ o, e = .returned (.tuple #[o, .int .i64 0]) ∧ IsB w' o (encO 0 true 16 F) ∧ Below W.heap.size W w')) := fun W h => by
    have := (pSeq v ls W h (by rw [hF]; omega)).mono fun e w' hh => hh.is_
    rwa [hF] at this
  have HT : Hid (∀ W, IsBs W v ls → Calls Try.prog 18 #[.int .i64 0, .bool true, .int .i64 16, v] W (fun e w' => ∃ o, e = .returned (.tuple #[o, .int .i64 0]) ∧ IsB w' o (encO 0 true 16 F) ∧ Below W.heap.size W w')) := fun W h => by
    have := (rWrap 0 16 true v ls W h (by rw [hF]; omega)).mono fun e w' hh => hh.is_
    rwa [hF] at this
  generalize wC a b = cd at *
  generalize wB a kk b F = T at *
  generalize encO 0 true 16 F = S at *
  obtain ⟨bo, hbo⟩ : ∃ bo : Int, 1 + ((lenOct F.length).length : Int) = bo := ⟨_, rfl⟩
  rw [hbo] at hone HL0
  have hSl : (S.length : Int) ≤ 3000 := by omega
  have H1 : Hid (∀ W o, IsB W o S → Calls Try.prog 14 #[o] W (RetB (.tuple #[.agg #[.int .i64 0, .int .i64 16, .bool true, .int .i64 0, .int .i64 bo, .int .i64 S.length], .agg #[.int .i64 0, .int .i64 0]]) W)) := fun W o h => by
    have := one_any o S W h; rwa [hone] at this
  obtain ⟨r, hr⟩ : ∃ r, listE S bo S.length = r := ⟨_, rfl⟩
  rw [hr] at HL0
  have H2 : Hid (∀ W o, IsB W o S → Calls Try.prog 21 #[o, .int .i64 bo, .int .i64 S.length] W (fun e w' => ∃ u, e = .returned (.tuple #[u, errV (errOf r)]) ∧ IsR w' u 6 (elsOf r).length (elCells (elsOf r)) ∧ Below W.heap.size W w')) := fun W o h => by
    have := (list_any o S bo S.length W h (by omega)).mono fun e w' hh => hh.get
    rwa [hr] at this
  clear hone hE hol hr
  go_enter Try.func5, Try.ntmps5
  go_wp2
  go_loop [7, 8] (fun n i => ∃ k : Nat, k ≤ ls.length ∧ i = .int .i64 k ∧ n = .int .i64 (cat ls k).length) (fun _ i => ls.length - (intOf i).toNat)
  case atStart => exact ⟨0, by omega, rfl, by simp [cat]⟩
  case round =>
    obtain ⟨k, hk, rfl, rfl⟩ := hrel
    have hq := hcl.out k
    rw [hF] at hq
    by_cases hlt : (k : Int) < ls.length
    · obtain ⟨bb, oo, u, hi, hbb, hc, hu⟩ := HW.out.at_ (P := Try.prog) ulBs szBs .i64 (i := k) (by omega) hlt
      simp only [Int.toNat_natCast] at hu
      have hul := hu.len ulB
      have hcs := cat_succ ls k (by omega)
      have hq' := hcl.out (k + 1)
      rw [hF] at hq'
      have hcl' : (cat ls (k + 1)).length = (cat ls k).length + (ls.getD k []).length := by rw [hcs, List.length_append]
      clear hu hcs
      generalize (ls.getD k []).length = m at *
      generalize (cat ls k).length = c at *
      go_wp2
      go_round
      case rel => exact ⟨k + 1, by omega, by go_num, by rw [hcl']; go_num⟩
      case measure => simp [intOf]; omega
    · obtain rfl : k = ls.length := by omega
      generalize (cat ls ls.length).length = c at *
      go_wp2_with (first | (go_at_call 10; (with_reducible refine (awake_any _).mono ?_); rintro e w1 ⟨rfl, hb1⟩; have K1 := Blk.call (blk_in (w := w) (t := 23) (cs := #[.int .i64 a, .int .i64 b]) (g := w.heap.size) rfl) hb1; have lK1 := K1.lt; have qK1 := K1.q; have rK1 := K1.fz; have K1' := Lib.hid K1; clear K1; have K1 := K1'.out; clear K1') | (go_at_call 17; (with_reducible refine (HP.out _ (HW.out.below hb1)).mono ?_); rintro e w2 ⟨o1, rfl, ho1, hb2⟩; have O1 := Lib.hid ho1; clear ho1; have K2 := Blk.call (K1) hb2; have lK2 := K2.lt; have qK2 := K2.q; have rK2 := K2.fz; have K2' := Lib.hid K2; clear K2; have K2 := K2'.out; clear K2'; have B2 := below_t hb1 hb2) | (go_at_call 18; (with_reducible refine (HR.out _ (HW.out.below B2)).mono ?_); rintro e w3 ⟨o2, rfl, ho2, hb3⟩; have O2 := Lib.hid ho2; clear ho2; have B3 := below_t B2 hb3) | (go_at_call 19; (with_reducible refine (HQ.out _ (HW.out.below B3)).mono ?_); rintro e w4 ⟨o3, rfl, ho3, hb4⟩; have O3 := Lib.hid ho3; clear ho3; have B4 := below_t B3 hb4) | (go_at_call 18; (with_reducible refine (HT.out _ (HW.out.below B4)).mono ?_); rintro e w5 ⟨o4, rfl, ho4, hb5⟩; have O4 := Lib.hid ho4; clear ho4; have B5 := below_t B4 hb5) | (go_at_call 20; (with_reducible refine (bytes_same _ _ T _ (O1.out.below (below_t (below_t hb3 hb4) hb5)) (O2.out.below (below_t hb4 hb5))).mono ?_); rintro e w6 ⟨rfl, hb6⟩; have B6 := below_t B5 hb6) | (go_at_call 20; (with_reducible refine (bytes_same _ _ S _ (O3.out.below (below_t hb5 hb6)) (O4.out.below hb6)).mono ?_); rintro e w7 ⟨rfl, hb7⟩; have B7 := below_t B6 hb7; have O5 := Lib.hid (O3.out.below (below_t (below_t hb5 hb6) hb7))))
      have HV7 := Lib.hid (HW.out.below B7)
      have B8 := below_a B7
      have hol3 := O5.out.len ulB
      clear O1 O2 O3 O4 hb1 hb2 hb3 hb4 hb5 hb6 hb7 B2 B3 B4 B5 B6 B7 HP HR HQ HT
      go_loopw [17, 18] (fun h i wr => WhRel ls w7 h i wr) (fun _ i _ => ls.length - (intOf i).toNat)
      case atStart => exact ⟨0, true, by omega, rfl, rfl, fun _ j hj => absurd hj (by omega), Below.refl _ _⟩
      case round =>
        obtain ⟨k, bw, hk, rfl, rfl, hall, hbel⟩ := hrel
        by_cases hlt : (k : Int) < ls.length
        · obtain ⟨bb, oo, u, hi, hbb, hc, hu⟩ := (HV7.out.below hbel).at_ (P := Try.prog) ulBs szBs .i64 (i := k) (by omega) hlt
          simp only [Int.toNat_natCast] at hu
          obtain ⟨⟨xc, xn, xk, xs, xb, xe⟩, c', o', he, hco⟩ := one_is (ls.getD k [])
          have H3 : Hid (Calls Try.prog 15 #[u] wr (RetB (.tuple #[.agg #[.int .i64 xc, .int .i64 xn, .bool xk, .int .i64 xs, .int .i64 xb, .int .i64 xe], .agg #[.int .i64 c', .int .i64 o']]) wr)) := by
            have := rOne u _ wr hu; rw [he] at this; exact this
          have HA := Lib.hid hall
          have HCO := Lib.hid hco
          clear hu he hall hco
          have hnew : ∀ b', (b' = true → bw = true ∧ c' = 0) → b' = true → ∀ j, j < k + 1 → ∃ x, oneE (ls.getD j []) = .ok x := by
            intro b' h1 h2 j hj
            obtain ⟨h3, h4⟩ := h1 h2
            rcases Nat.lt_or_ge j k with h | h
            · exact HA.out h3 j h
            · obtain rfl : j = k := by omega
              exact HCO.out h4
          have HN := Lib.hid hnew
          clear hnew
          cases bw with
          | true =>
            go_wp2_with (go_at_call 15; (with_reducible refine H3.out.mono ?_); rintro e w8 ⟨rfl, hb8⟩; have hz8 := hb8.size)
            go_roundw
            case rel => exact ⟨k + 1, _, by omega, by go_num, rfl, HN.out _ (by simp), below_t hbel (by ((repeat' (first | (with_reducible exact Below.refl _ _) | (with_reducible assumption) | (with_reducible refine Below.setCell ?_ ?_ _) | (with_reducible refine Below.alloc ?_ ?_ _) | (with_reducible refine Below.drew ?_) | (with_reducible refine below_drewN ?_ _) | (with_reducible refine Below.step (by with_reducible assumption) ?_ ?_))) <;> (first | omega | (simp; done) | (simp; omega))))⟩
            case measure => simp [intOf]; omega
          | false =>
            go_wp2_with (go_at_call 15; (with_reducible refine H3.out.mono ?_); rintro e w8 ⟨rfl, hb8⟩; have hz8 := hb8.size)
            go_roundw
            case rel => exact ⟨k + 1, _, by omega, by go_num, rfl, HN.out _ (by simp), below_t hbel (by ((repeat' (first | (with_reducible exact Below.refl _ _) | (with_reducible assumption) | (with_reducible refine Below.setCell ?_ ?_ _) | (with_reducible refine Below.alloc ?_ ?_ _) | (with_reducible refine Below.drew ?_) | (with_reducible refine below_drewN ?_ _) | (with_reducible refine Below.step (by with_reducible assumption) ?_ ?_))) <;> (first | omega | (simp; done) | (simp; omega))))⟩
            case measure => simp [intOf]; omega
        · obtain rfl : k = ls.length := by omega
          cases bw with
          | true =>
            obtain ⟨ys, rfl, hyl⟩ := HL0.out (fun p hp => by
              obtain ⟨j, hj, rfl⟩ := List.mem_iff_getElem.1 hp
              have := hall rfl j hj
              simpa [List.getD, hj] using this)
            simp only [errOf, elsOf, errV] at H2
            clear hall
            go_wp2_with (first | (go_at_call 14; (with_reducible refine (H1.out _ _ (O5.out.below hbel)).mono ?_); rintro e w8 ⟨rfl, hb8⟩) | (go_at_call 21; (with_reducible refine (H2.out _ _ ((((O5.out.below hbel).below hb8).alloc _).alloc _)).mono ?_); rintro e w9 ⟨u9, rfl, hu9, hb9⟩; have hul := hu9.len ulEl; clear hu9; have K9 := Blk.call ((Blk.new w8 27 #[.int .i64 0, .int .i64 16, .bool true, .int .i64 0, .int .i64 bo, .int .i64 S.length]).alloc _) hb9; have lK9 := K9.lt; have qK9 := K9.q; have rK9 := K9.fz; have K9' := Lib.hid K9; clear K9; have K9 := K9'.out; clear K9'; have K10 := Blk.call (blk_in (w := w8.alloc _) (t := 33) (cs := #[.int .i64 0, .int .i64 0]) (g := w8.heap.size + 1) (by simp)) hb9; have lK10 := K10.lt; have qK10 := K10.q; have rK10 := K10.fz; have K10' := Lib.hid K10; clear K10; have K10 := K10'.out; clear K10'))
            have B := below_t (below_t (below_t B8 hbel) hb8) (below_a (below_a hb9))
            have hzB := B.size
            (refine bodyPost_retB (v := .bool true) (by (simp only [results, Try.results5]; try go_simp)) rfl rfl ?_; ((repeat' (first | (with_reducible exact Below.refl _ _) | (with_reducible assumption) | (with_reducible refine Below.setCell ?_ ?_ _) | (with_reducible refine Below.alloc ?_ ?_ _) | (with_reducible refine Below.drew ?_) | (with_reducible refine below_drewN ?_ _) | (with_reducible refine Below.step (by with_reducible assumption) ?_ ?_))) <;> (first | omega | (simp; done) | (simp; omega))))
          | false =>
            obtain ⟨⟨ec, eo⟩, her⟩ : ∃ er, errOf r = er := ⟨_, rfl⟩
            rw [her] at H2
            simp only [errV] at H2
            clear hall her
            go_wp2_with (first | (go_at_call 14; (with_reducible refine (H1.out _ _ (O5.out.below hbel)).mono ?_); rintro e w8 ⟨rfl, hb8⟩) | (go_at_call 21; (with_reducible refine (H2.out _ _ ((((O5.out.below hbel).below hb8).alloc _).alloc _)).mono ?_); rintro e w9 ⟨u9, rfl, hu9, hb9⟩; clear hu9; have K9 := Blk.call ((Blk.new w8 27 #[.int .i64 0, .int .i64 16, .bool true, .int .i64 0, .int .i64 bo, .int .i64 S.length]).alloc _) hb9; have lK9 := K9.lt; have qK9 := K9.q; have rK9 := K9.fz; have K9' := Lib.hid K9; clear K9; have K9 := K9'.out; clear K9'; have K10 := Blk.call (blk_in (w := w8.alloc _) (t := 33) (cs := #[.int .i64 0, .int .i64 0]) (g := w8.heap.size + 1) (by simp)) hb9; have lK10 := K10.lt; have qK10 := K10.q; have rK10 := K10.fz; have K10' := Lib.hid K10; clear K10; have K10 := K10'.out; clear K10'))
            have B := below_t (below_t (below_t B8 hbel) hb8) (below_a (below_a hb9))
            have hzB := B.size
            (refine bodyPost_retB (v := .bool true) (by (simp only [results, Try.results5]; try go_simp)) rfl rfl ?_; ((repeat' (first | (with_reducible exact Below.refl _ _) | (with_reducible assumption) | (with_reducible refine Below.setCell ?_ ?_ _) | (with_reducible refine Below.alloc ?_ ?_ _) | (with_reducible refine Below.drew ?_) | (with_reducible refine below_drewN ?_ _) | (with_reducible refine Below.step (by with_reducible assumption) ?_ ?_))) <;> (first | omega | (simp; done) | (simp; omega))))

theorem walk (a b : Int) (kk : Bool) (v : Value) (ls : List (List UInt8)) (w : World) (hv : IsBs w v ls) (hs : ∀ x ∈ ls, x.length ≤ reachBytes) :
    Calls Try.prog 5 #[.agg #[.int .i64 a, .int .i64 b], .bool kk, v] w (RetB (.bool true) w) := by
  by_cases h : 50 < ls.length ∨ 2000 < ls.flatten.length
  · exact walk_far a b kk v ls w hv hs h
  · exact walk_main a b kk v ls w hv (by omega) (by omega)

set_option maxRecDepth 100000 in
theorem lifted (os : Os) (started : os.Started) (H : Type) (enc : TypeId × Value → H) :
    ReturnsInHanded {} Try.checked os 5 .any (Rows.elementWrapsSpec.pre6 enc Try.prog Try.f5 Rows.elementWrapsRow.domain false) (Rows.elementWrapsSpec.post enc Try.prog Try.f5 false true false false) := by
  refine returnsInHanded_of_change_sized (C := Try.checked) lw_own started (by kernel_rfl) Try.func5
    (ChangeSpec.witness6 (enc := enc) (C := Try.checked) false ⟨#[], #[.agg #[.int .i64 0, .int .i64 0], .bool false, .slice none 0 0], []⟩ 8 (by kernel_rfl) (by kernel_rfl) (by kernel_rfl) (by kernel_rfl)) ?_
  intro W base args ds gs before hval0 hW hcnd hz0 _
  have hz : (DataW.weightsEach Try.prog (Try.f5.params.toList ++ Rows.elementWrapsSpec.plain.varTypes Try.prog) (ds ++ gs)).all (· ≤ reachBytes) = true := hz0
  have hval : ∀ (j : Nat) t v, Try.f5.params[j]? = some t → args[j]? = some v → Value.okWide Try.prog W .any base t v := hval0
  have hW' := hW
  obtain ⟨p, q, hA0, hV, rfl, hfz, hnd⟩ := hW
  have hA : DataW.TrodAll enc Try.prog W 0 (fun _ => true) true Try.f5.params.toList args.toList ds p := hA0
  rw [Try.params5] at hA hval hz
  obtain ⟨v0, vs0, d0, ds0, p0, q0, hargs, rfl, rfl, h0, r0⟩ := trodAll_cons hA
  obtain ⟨v1, vs1, d1, ds1, p1, q1, rfl, rfl, rfl, h1, r1⟩ := trodAll_cons r0
  obtain ⟨v2, vs2, d2, ds2, p2, q2, rfl, rfl, rfl, h2, r2⟩ := trodAll_cons r1
  obtain ⟨rfl, rfl, rfl⟩ := trodAll_nil r2
  obtain rfl : args = #[v0, v1, v2] := by cases args; simp_all
  obtain ⟨rfl, rfl⟩ := trodVars_none hV
  have lt0 : ∀ x ∈ p0, x.block < W.heap.size := by obtain ⟨m, hm⟩ := h0; exact DataW.trod_lt m _ _ _ hm
  obtain ⟨a0, b0, rfl⟩ := open_pair (hval 0 23 v0 rfl rfl) h0
  obtain ⟨a1, rfl, rfl, rfl⟩ := open_bool (by kernel_rfl : Try.prog.underlying 4 = some .bool) (hval 1 4 v1 rfl rfl) h1
  have lt2 : ∀ x ∈ p2, x.block < W.heap.size := by obtain ⟨m, hm⟩ := h2; exact DataW.trod_lt m _ _ _ hm
  obtain ⟨l2, w2, s2⟩ := open_bss (hval 2 38 v2 rfl rfl) h2
  have z2 := s2 reachBytes (fun n hn => by have := List.all_eq_true.1 hz n (DataW.weights_mem_each (j := 2) rfl rfl n hn); simpa using this)
  clear hA0 hval0
  refine (walk a0 b0 a1 _ l2 W w2 z2).mono fun e W' ⟨he, bel⟩ => ?_
  subst he
  exact ⟨_, rfl, _, _, _, [], _, [], hW', trodAll_mk1 (shut_bool (by kernel_rfl : Try.prog.underlying 4 = some .bool) _), (trodAll_cons_mk (Below.trod lw_laidOut (by kernel_rfl) (of_decide_eq_true (by kernel_rfl)) h0 bel lt0) (trodAll_cons_mk (shut_bool (by kernel_rfl : Try.prog.underlying 4 = some .bool) _) (trodAll_cons_mk (Below.trod lw_laidOut (by kernel_rfl) (of_decide_eq_true (by kernel_rfl)) h2 bel lt2) trodAll_mk0))), rfl, bel.frame _, fun h => by cases h⟩

theorem over : Rows.elementWrapsRow.holds Try.pinned (OpenSpec.ofChange Rows.elementWrapsSpec) :=
  OpenClaim.holds_of_wide 5 Try.f5 rfl rfl rfl rfl rfl rfl rfl ⟨rfl, rfl, rfl, rfl, rfl⟩ rfl rfl rfl rfl rfl (by kernel_rfl) Try.func5 (by kernel_rfl)
    (of_decide_eq_true (by kernel_rfl)) (by unfold Func.isWrapper; first | (rw [if_pos (by decide +kernel)]; kernel_rfl) | (rw [if_neg (by decide +kernel)]; exact ⟨rfl, rfl⟩))
    (fun os started H enc _ => lifted os started H enc)

theorem proved : Rows.ElementWrapsSaid := over
#print axioms proved
end Go.Proofs.Ytecbphbnacbepaa.ElementWrapsDone
