/- The parts NtQ, NtS, NtT, NtU, NtR of one proof, one behind the other. -/
import Derived.Test.YtjjkimjdmpeddaaGreatDoorK36
import Derived.Test.YtjjkimjdmpeddaaGreatDoorK15
import Derived.RegionTactic
import Derived.ChangeAlike
import Derived.Test.YtjjkimjdmpeddaaGreatDoorK16
import Derived.Test.YtjjkimjdmpeddaaGreatDoorK19
import Derived.Test.YtjjkimjdmpeddaaGreatDoorK11
import Derived.Deep.RegionHeld3

/- Walk over policy.ParseNotice. -/
section
set_option linter.unusedSimpArgs false
set_option linter.unusedVariables false
namespace Go.Proofs.YtjjkimjdmpeddaaGreatDoor
open Go.RowKit Go.Cr
theorem textL_size {y : List UInt8} {t : Tx} (hl : y.length ≤ 1000000) (h : textL y = some t) : t.2.size ≤ 4 * y.length := by
  have hr := rawT_of h
  unfold textL at h
  split at h
  · rename_i k s hs
    have h1 := strD_len hl hs
    split at h
    · injection h with h
      subst h
      have : (bStr s).size = s.length := by show s.toArray.size = _; simp
      simp only
      omega
    · cases h
  · cases h
theorem map_intB_len (cs : List (List UInt8)) : cs.length ≤ (cs.map intB).flatten.length ∧ cs.flatten.length ≤ (cs.map intB).flatten.length := by
  induction cs with
  | nil => simp
  | cons c t ih =>
    have h1 : c.length + 2 ≤ (intB c).length := by
      have h2 := encO_len 0 2 false c
      have h3 := (lenOct_len c.length).1
      unfold intB
      omega
    simp only [List.map_cons, List.flatten_cons, List.length_append, List.length_cons]
    omega
theorem nums_size {y : List UInt8} (h : numsOK y = true) : (rawNs y).length ≤ y.length ∧ (rawNs y).flatten.length ≤ y.length := by
  have e := nums_ok h
  have h1 := seqB_len ((rawNs y).map intB)
  rw [← seqL_eq, ← e] at h1
  have h2 := map_intB_len (rawNs y)
  omega
theorem raw_size {x : List UInt8} (hl : x.length ≤ 1000000) (h : refOK x = true) : (rawR x).1.2.size ≤ 4 * x.length ∧ (rawR x).2.length ≤ x.length ∧ (rawR x).2.flatten.length ≤ x.length := by
  unfold refOK at h
  split at h
  · rename_i y0 y1 he
    rw [Bool.and_eq_true] at h
    obtain ⟨t, ht⟩ := Option.isSome_iff_exists.1 h.1
    have hr : rawR x = (t, rawNs y1) := by unfold rawR; rw [he]; simp [ht]
    have p0 := eachL_part he (p := y0) (by first | (simp; done) | (simp; omega) | omega)
    have p1 := eachL_part he (p := y1) (by first | (simp; done) | (simp; omega) | omega)
    have h1 := textL_size (by omega) ht
    have h2 := nums_size h.2
    rw [hr]
    simp only
    omega
  · cases h
theorem szN_pre {b : List UInt8} {n : Ntc} (hl : b.length ≤ 9000) (h : preN b = some n) : SzN n := by
  have z0 : tx0.2.size = 0 := rfl
  unfold preN at h
  unfold SzN
  split at h
  · injection h with h
    subst h
    simp [z0]
  · rename_i x he
    have p0 := eachL_part he (p := x) (by first | (simp; done) | (simp; omega) | omega)
    split at h
    · split at h
      · rename_i hr
        injection h with h
        subst h
        have := raw_size (by omega) hr
        simp only [z0]
        omega
      · cases h
    · obtain ⟨t, ht, rfl⟩ := Option.map_eq_some_iff.1 h
      have := textL_size (by omega) ht
      simp only [z0, List.length_nil, List.flatten_nil]
      omega
  · rename_i x y he
    have p0 := eachL_part he (p := x) (by first | (simp; done) | (simp; omega) | omega)
    have p1 := eachL_part he (p := y) (by first | (simp; done) | (simp; omega) | omega)
    split at h
    · split at h
      · rename_i hr
        obtain ⟨t, ht, rfl⟩ := Option.map_eq_some_iff.1 h
        have h1 := raw_size (by omega) hr
        have h2 := textL_size (by omega) ht
        simp only
        omega
      · cases h
    · cases h
  · cases h
def nV (n : Ntc) (nv : Value) : Value := .agg #[.bool n.ref, .int .i64 n.org.1, .string n.org.2, nv, .int .i64 n.text.1, .string n.text.2]
def RetPNn (L : Nat) (w : World) (e : Ending) (w' : World) : Prop := ∃ ec eo : Int, 0 < ec ∧ 0 ≤ eo ∧ eo ≤ L ∧ e = .returned (.tuple #[.agg #[.bool false, .int .i64 0, .string ⟨#[]⟩, .slice none 0 0, .int .i64 0, .string ⟨#[]⟩], errV (ec, eo)]) ∧ Below w.heap.size w w'
def RetPNy (n : Ntc) (w : World) (e : Ending) (w' : World) : Prop := ∃ A k, e = .returned (.tuple #[nV n (.slice A n.nums.length k), errV (0, 0)]) ∧ IsN w' (nV n (.slice A n.nums.length k)) n ∧ Below w.heap.size w w'
def RetN1Y (g : Nat) (n : Ntc) (w : World) (e : Ending) (w' : World) : Prop :=
  ∃ A k, e = .returned (errV (0, 0)) ∧ Blk w' g 30 (nC n.ref n.org (.slice A n.nums.length k) n.text) ∧ OwL repB (fun _ => True) w' (g + 1) 32 (.slice A n.nums.length k) n.nums ∧ Far g TpN w.heap.size w w'
theorem RetN1e.yes {b : List UInt8} {g : Nat} {w w' : World} {e : Ending} {m : Ntc} (h : RetN1e b g w e w') (hp : preN b = some m) : RetN1Y g m w e w' := by
  obtain ⟨ec, eo, n, A, k, rfl, h1, h2, h3, h4, h5, ⟨rfl, rfl, h6⟩ | ⟨_, h6⟩⟩ := h
  · rw [hp] at h6
    injection h6 with h6
    subst h6
    exact ⟨A, k, rfl, h1, h2, h3⟩
  · rw [hp] at h6; cases h6
set_option maxRecDepth 100000 in
set_option maxHeartbeats 8000000 in
theorem polParseN_no (v : Value) (b : List UInt8) (w : World) (hG : Glo w) (hv : IsB w v b) (hL : b.length ≤ 9000) (hbad : preN b = none) :
    Calls Tryz.prog 24 #[v] w (RetPNn b.length w) := by
  have HE := Lib.hid (pn1_each v b w.heap.size (w.heap.size + 1 + 1) (((w.alloc (.cells #[.bool false, .int .i64 0, .string ⟨#[]⟩, .slice none 0 0, .int .i64 0, .string ⟨#[]⟩] 30)).alloc (.cells #[.int .i64 0, .int .i64 0] 38)).alloc (.cells #[.bool false, .int .i64 0, .string ⟨#[]⟩, .slice none 0 0, .int .i64 0, .string ⟨#[]⟩] 30)) ⟨w, ⟨hG, hv⟩, Nat.le_refl _, (((Below.refl _ _).alloc (Nat.le_refl _) _).alloc (by first | (simp; done) | (simp; omega) | omega) _).alloc (by first | (simp; done) | (simp; omega) | omega) _⟩ (by omega) (by omega) (blk_in (by first | (simp; done) | (simp; omega) | omega)))
  obtain ⟨A, k, rfl⟩ := isB_slice hv
  unfold RetN1e at HE
  simp only [errV] at HE
  have HBAD := Lib.hid hbad
  clear hG hv hbad hL
  go_enter Tryz.func24, Tryz.ntmps24
  go_wp2_with (((go_at_call 58); (with_reducible refine (HE.out).mono ?_); rintro e w1 ⟨ec, eo, n, A1, k1, rfl, hk1, ho1, hf1, heo, heL, hrest⟩; have HB1 := Lib.hid (((((Below.refl _ w).alloc (Nat.le_refl _) _).alloc (by first | (simp; done) | (simp; omega) | omega) _).alloc (by first | (simp; done) | (simp; omega) | omega) _).trans (hf1.below (B' := w.heap.size) (by first | (simp; done) | (simp; omega) | omega) (by omega))); have hec : 0 < ec := (by rcases hrest with ⟨_, _, h1⟩ | h; exact absurd (HBAD.out.symm.trans h1) (by first | (simp; done) | (simp; omega) | omega); exact h.1); have hn : (ec == 0) = false := beq_eq_false_iff_ne.2 (by omega); have hn' : (ec != 0) = true := (by first | (simp; done) | (simp; omega) | omega); have K0 := ((((Blk.new w 30 #[.bool false, .int .i64 0, .string ⟨#[]⟩, .slice none 0 0, .int .i64 0, .string ⟨#[]⟩]).alloc (.cells #[.int .i64 0, .int .i64 0] 38)).alloc (.cells #[.bool false, .int .i64 0, .string ⟨#[]⟩, .slice none 0 0, .int .i64 0, .string ⟨#[]⟩] 30)).farR hf1 (by first | (simp; done) | (simp; omega) | omega) (.inl (by omega))); have qK0 := K0.q; have fK0 := K0.fz; have lK0 := K0.lt; have K1 := (((blk_in (w := w.alloc (.cells #[.bool false, .int .i64 0, .string ⟨#[]⟩, .slice none 0 0, .int .i64 0, .string ⟨#[]⟩] 30)) (g := w.heap.size + 1) (t := 38) (cs := #[.int .i64 0, .int .i64 0]) (by first | (simp; done) | (simp; omega) | omega)).alloc (.cells #[.bool false, .int .i64 0, .string ⟨#[]⟩, .slice none 0 0, .int .i64 0, .string ⟨#[]⟩] 30)).farR hf1 (by first | (simp; done) | (simp; omega) | omega) (.inl (by omega))); have qK1 := K1.q; have fK1 := K1.fz; have lK1 := K1.lt; have HEO := Lib.hid (And.intro heo heL); clear hrest hk1 ho1 hf1 K0 K1 heo heL))
  go_region
  all_goals
    go_wp2
    refine bodyPost_ret (v := .tuple #[.agg #[.bool false, .int .i64 0, .string ⟨#[]⟩, .slice none 0 0, .int .i64 0, .string ⟨#[]⟩], errV (ec, eo)]) (by simp only [results, Tryz.results24]; go_simp) rfl ?_
    have s1 := HB1.out.size
    have b1 := HB1.out
    exact ⟨ec, eo, hec, HEO.out.1, HEO.out.2, rfl, by ((repeat' (first | (with_reducible exact Below.refl _ _) | (with_reducible assumption) | (with_reducible refine Below.setCell ?_ ?_ _) | (with_reducible refine Below.alloc ?_ ?_ _) | (with_reducible refine Below.drew ?_) | (with_reducible refine below_drewN ?_ _) | (with_reducible refine Below.step (by with_reducible assumption) ?_ ?_))) <;> (first | omega | (simp; done) | (simp; omega)))⟩
set_option maxRecDepth 100000 in
set_option maxHeartbeats 8000000 in
theorem polParseN_bad (v : Value) (b : List UInt8) (w : World) (hG : Glo w) (hv : IsB w v b) (hL : b.length ≤ 9000) (m : Ntc) (hp : preN b = some m) (hok : okN m = false) :
    Calls Tryz.prog 24 #[v] w (RetPNn b.length w) := by
  have HE := Lib.hid ((pn1_each v b w.heap.size (w.heap.size + 1 + 1) (((w.alloc (.cells #[.bool false, .int .i64 0, .string ⟨#[]⟩, .slice none 0 0, .int .i64 0, .string ⟨#[]⟩] 30)).alloc (.cells #[.int .i64 0, .int .i64 0] 38)).alloc (.cells #[.bool false, .int .i64 0, .string ⟨#[]⟩, .slice none 0 0, .int .i64 0, .string ⟨#[]⟩] 30)) ⟨w, ⟨hG, hv⟩, Nat.le_refl _, (((Below.refl _ _).alloc (Nat.le_refl _) _).alloc (by first | (simp; done) | (simp; omega) | omega) _).alloc (by first | (simp; done) | (simp; omega) | omega) _⟩ (by omega) (by omega) (blk_in (by first | (simp; done) | (simp; omega) | omega))).mono fun e w' h => h.yes hp)
  have hz := szN_pre hL hp
  obtain ⟨r, ⟨ok, os⟩, nums, ⟨tk, ts⟩⟩ := m
  have HP : Hid (∀ W A k, Glo W → IsBs W (.slice A nums.length k) nums → Calls Tryz.prog 22 #[.agg #[.bool r, .int .i64 ok, .string os, .slice A nums.length k, .int .i64 tk, .string ts]] W (RetB (.bool false) W)) := fun W A k g h => by have := noticeValid (.agg #[.bool r, .int .i64 ok, .string os, .slice A nums.length k, .int .i64 tk, .string ts]) ⟨r, (ok, os), nums, (tk, ts)⟩ W g ⟨_, rfl, h⟩ hz; rwa [hok] at this
  have HF := Lib.hid (polBad 0)
  have HG := Lib.hid hG
  obtain ⟨A, k, rfl⟩ := isB_slice hv
  unfold RetN1Y at HE
  simp only [errV, nC] at HE HF
  have HBL := Lib.hid (show (0 : Int) ≤ b.length by omega)
  clear hG hv hL hz hok hp
  generalize hnl : nums.length = nl at *
  clear hnl
  go_enter Tryz.func24, Tryz.ntmps24
  go_wp2_with (first | ((go_at_call 58); (with_reducible refine (HE.out).mono ?_); rintro e w1 ⟨A1, k1, rfl, hk1, ho1, hf1⟩; have HB1 := Lib.hid (((((Below.refl _ w).alloc (Nat.le_refl _) _).alloc (by first | (simp; done) | (simp; omega) | omega) _).alloc (by first | (simp; done) | (simp; omega) | omega) _).trans (hf1.below (B' := w.heap.size) (by first | (simp; done) | (simp; omega) | omega) (by omega))); have HK0 := Lib.hid ((((Blk.new w 30 #[.bool false, .int .i64 0, .string ⟨#[]⟩, .slice none 0 0, .int .i64 0, .string ⟨#[]⟩]).alloc (.cells #[.int .i64 0, .int .i64 0] 38)).alloc (.cells #[.bool false, .int .i64 0, .string ⟨#[]⟩, .slice none 0 0, .int .i64 0, .string ⟨#[]⟩] 30)).farR hf1 (by first | (simp; done) | (simp; omega) | omega) (.inl (by omega))); have HK1 := Lib.hid (((blk_in (w := w.alloc (.cells #[.bool false, .int .i64 0, .string ⟨#[]⟩, .slice none 0 0, .int .i64 0, .string ⟨#[]⟩] 30)) (g := w.heap.size + 1) (t := 38) (cs := #[.int .i64 0, .int .i64 0]) (by first | (simp; done) | (simp; omega) | omega)).alloc (.cells #[.bool false, .int .i64 0, .string ⟨#[]⟩, .slice none 0 0, .int .i64 0, .string ⟨#[]⟩] 30)).farR hf1 (by first | (simp; done) | (simp; omega) | omega) (.inl (by omega))); have qk1 := hk1.q; have lk1 := hk1.lt; have HO1 := Lib.hid ho1; clear hk1 ho1 hf1) | ((go_at_call 22); (with_reducible refine (HP.out _ _ _ ((HG.out.below HB1.out).alloc _) ((isBs_of HO1.out.isL).alloc _)).mono ?_); rintro e w2 ⟨rfl, hbw2⟩; have HB2 := Lib.hid ((HB1.out.alloc HB1.out.size _).trans (hbw2.mono (by have := HB1.out.size; simp; omega))); have HK0' := Lib.hid ((HK0.out.alloc _).call hbw2); have HK1' := Lib.hid ((HK1.out.alloc _).call hbw2); clear hbw2) | ((go_at_call 62); (with_reducible refine (HF.out _).mono ?_); rintro e w3 ⟨rfl, hbw3⟩; have K0 := HK0'.out.call hbw3; have qK0 := K0.q; have fK0 := K0.fz; have lK0 := K0.lt; have K1 := HK1'.out.call hbw3; have qK1 := K1.q; have fK1 := K1.fz; have lK1 := K1.lt; have HB3 := Lib.hid (HB2.out.trans (hbw3.mono HB2.out.size)); clear K0 K1 hbw3))
  refine bodyPost_ret (v := .tuple #[.agg #[.bool false, .int .i64 0, .string ⟨#[]⟩, .slice none 0 0, .int .i64 0, .string ⟨#[]⟩], errV (6, 0)]) (by simp only [results, Tryz.results24]; go_simp) rfl ?_
  have s3 := HB3.out.size
  have b3 := HB3.out
  exact ⟨6, 0, by decide, by decide, HBL.out, rfl, by ((repeat' (first | (with_reducible exact Below.refl _ _) | (with_reducible assumption) | (with_reducible refine Below.setCell ?_ ?_ _) | (with_reducible refine Below.alloc ?_ ?_ _) | (with_reducible refine Below.drew ?_) | (with_reducible refine below_drewN ?_ _) | (with_reducible refine Below.step (by with_reducible assumption) ?_ ?_))) <;> (first | omega | (simp; done) | (simp; omega)))⟩
set_option maxRecDepth 100000 in
set_option maxHeartbeats 8000000 in
theorem polParseN_yes (v : Value) (b : List UInt8) (w : World) (hG : Glo w) (hv : IsB w v b) (hL : b.length ≤ 9000) (m : Ntc) (hp : preN b = some m) (hok : okN m = true) :
    Calls Tryz.prog 24 #[v] w (RetPNy m w) := by
  have HE := Lib.hid ((pn1_each v b w.heap.size (w.heap.size + 1 + 1) (((w.alloc (.cells #[.bool false, .int .i64 0, .string ⟨#[]⟩, .slice none 0 0, .int .i64 0, .string ⟨#[]⟩] 30)).alloc (.cells #[.int .i64 0, .int .i64 0] 38)).alloc (.cells #[.bool false, .int .i64 0, .string ⟨#[]⟩, .slice none 0 0, .int .i64 0, .string ⟨#[]⟩] 30)) ⟨w, ⟨hG, hv⟩, Nat.le_refl _, (((Below.refl _ _).alloc (Nat.le_refl _) _).alloc (by first | (simp; done) | (simp; omega) | omega) _).alloc (by first | (simp; done) | (simp; omega) | omega) _⟩ (by omega) (by omega) (blk_in (by first | (simp; done) | (simp; omega) | omega))).mono fun e w' h => h.yes hp)
  have hz := szN_pre hL hp
  obtain ⟨r, ⟨ok, os⟩, nums, ⟨tk, ts⟩⟩ := m
  have HP : Hid (∀ W A k, Glo W → IsBs W (.slice A nums.length k) nums → Calls Tryz.prog 22 #[.agg #[.bool r, .int .i64 ok, .string os, .slice A nums.length k, .int .i64 tk, .string ts]] W (RetB (.bool true) W)) := fun W A k g h => by have := noticeValid (.agg #[.bool r, .int .i64 ok, .string os, .slice A nums.length k, .int .i64 tk, .string ts]) ⟨r, (ok, os), nums, (tk, ts)⟩ W g ⟨_, rfl, h⟩ hz; rwa [hok] at this
  have HG := Lib.hid hG
  obtain ⟨A, k, rfl⟩ := isB_slice hv
  unfold RetN1Y at HE
  simp only [errV, nC] at HE
  unfold RetPNy nV
  simp only [errV]
  clear hG hv hL hz hok hp
  have hFIN : Hid (∀ W A k, IsBs W (.slice A nums.length k) nums → IsN W (.agg #[.bool r, .int .i64 ok, .string os, .slice A nums.length k, .int .i64 tk, .string ts]) ⟨r, (ok, os), nums, (tk, ts)⟩) := fun W A k h => ⟨_, rfl, h⟩
  generalize hnl : nums.length = nl at *
  clear hnl
  go_enter Tryz.func24, Tryz.ntmps24
  go_wp2_with (first | ((go_at_call 58); (with_reducible refine (HE.out).mono ?_); rintro e w1 ⟨A1, k1, rfl, hk1, ho1, hf1⟩; have HB1 := Lib.hid (((((Below.refl _ w).alloc (Nat.le_refl _) _).alloc (by first | (simp; done) | (simp; omega) | omega) _).alloc (by first | (simp; done) | (simp; omega) | omega) _).trans (hf1.below (B' := w.heap.size) (by first | (simp; done) | (simp; omega) | omega) (by omega))); have HK0 := Lib.hid ((((Blk.new w 30 #[.bool false, .int .i64 0, .string ⟨#[]⟩, .slice none 0 0, .int .i64 0, .string ⟨#[]⟩]).alloc (.cells #[.int .i64 0, .int .i64 0] 38)).alloc (.cells #[.bool false, .int .i64 0, .string ⟨#[]⟩, .slice none 0 0, .int .i64 0, .string ⟨#[]⟩] 30)).farR hf1 (by first | (simp; done) | (simp; omega) | omega) (.inl (by omega))); have HK1 := Lib.hid (((blk_in (w := w.alloc (.cells #[.bool false, .int .i64 0, .string ⟨#[]⟩, .slice none 0 0, .int .i64 0, .string ⟨#[]⟩] 30)) (g := w.heap.size + 1) (t := 38) (cs := #[.int .i64 0, .int .i64 0]) (by first | (simp; done) | (simp; omega) | omega)).alloc (.cells #[.bool false, .int .i64 0, .string ⟨#[]⟩, .slice none 0 0, .int .i64 0, .string ⟨#[]⟩] 30)).farR hf1 (by first | (simp; done) | (simp; omega) | omega) (.inl (by omega))); have Hk1 := Lib.hid hk1; have qk1 := hk1.q; have lk1 := hk1.lt; have HO1 := Lib.hid ho1; clear hk1 ho1 hf1) | ((go_at_call 22); (with_reducible refine (HP.out _ _ _ ((HG.out.below HB1.out).alloc _) ((isBs_of HO1.out.isL).alloc _)).mono ?_); rintro e w2 ⟨rfl, hbw2⟩; have HB2 := Lib.hid ((HB1.out.alloc HB1.out.size _).trans (hbw2.mono (by have := HB1.out.size; simp; omega))); have K0 := (HK0.out.alloc _).call hbw2; have qK0 := K0.q; have fK0 := K0.fz; have lK0 := K0.lt; have K1 := (HK1.out.alloc _).call hbw2; have qK1 := K1.q; have fK1 := K1.fz; have lK1 := K1.lt; have k2 := (Hk1.out.alloc _).call hbw2; have qk2 := k2.q; have lk2 := k2.lt; have HO2 := Lib.hid ((HO1.out.alloc _).below hbw2); clear hbw2 k2 K0 K1))
  refine bodyPost_ret (v := .tuple #[.agg #[.bool r, .int .i64 ok, .string os, .slice A1 nl k1, .int .i64 tk, .string ts], .agg #[.int .i64 0, .int .i64 0]]) (by simp only [results, Tryz.results24]; go_simp) rfl ?_
  have s2 := HB2.out.size
  have b2 := HB2.out
  refine ⟨A1, k1, rfl, hFIN.out _ _ _ (isBs_of (OwL.isL (r := repB) (X := fun _ => True) (base := w.heap.size + 1 + 1 + 1) (e := 32) ?_)), by ((repeat' (first | (with_reducible exact Below.refl _ _) | (with_reducible assumption) | (with_reducible refine Below.setCell ?_ ?_ _) | (with_reducible refine Below.alloc ?_ ?_ _) | (with_reducible refine Below.drew ?_) | (with_reducible refine below_drewN ?_ _) | (with_reducible refine Below.step (by with_reducible assumption) ?_ ?_))) <;> (first | omega | (simp; done) | (simp; omega)))⟩
  repeat' (first | with_reducible exact HO2.out | (with_reducible refine OwL.setLow ?_ (by first | (simp; done) | (simp; omega) | omega) _))
theorem polParseN_none (v : Value) (b : List UInt8) (w : World) (hG : Glo w) (hv : IsB w v b) (hL : b.length ≤ 9000) (h : parN b = none) : Calls Tryz.prog 24 #[v] w (RetPNn b.length w) := by
  unfold parN at h
  cases hp : preN b with
  | none => exact polParseN_no v b w hG hv hL hp
  | some m =>
    rw [hp] at h
    simp only at h
    split at h
    · cases h
    · rename_i ho
      exact polParseN_bad v b w hG hv hL m hp (by simpa using ho)
theorem polParseN_some (v : Value) (b : List UInt8) (m : Ntc) (w : World) (hG : Glo w) (hv : IsB w v b) (hL : b.length ≤ 9000) (h : parN b = some m) : Calls Tryz.prog 24 #[v] w (RetPNy m w) := by
  unfold parN at h
  cases hp : preN b with
  | none => rw [hp] at h; cases h
  | some n =>
    rw [hp] at h
    simp only at h
    split at h
    · rename_i ho
      injection h with h
      subst h
      exact polParseN_yes v b w hG hv hL n hp ho
    · cases h
end Go.Proofs.YtjjkimjdmpeddaaGreatDoor
end

/- Walk over the reference's ReadNotice. -/
section
set_option linter.unusedSimpArgs false
set_option linter.unusedVariables false
namespace Go.Proofs.YtjjkimjdmpeddaaGreatDoor
open Go.RowKit Go.Cr
theorem nextH_zero : numK [] = 0 ∧ conK [] = false := by
  obtain ⟨e, h⟩ := nextH_nil
  unfold numK conK
  rw [h]
  exact ⟨rfl, rfl⟩
theorem NdV.kind {d : Nat} {w : World} {c1 c2 : Int} {c3 : Bool} {v4 v5 : Value} {l : List UInt8} (h : NdV (d + 1) w (.agg #[.int .i64 c1, .int .i64 c2, .bool c3, v4, v5]) l) : c2 = numK l ∧ c3 = conK l := by
  obtain ⟨x1, x2, x3, a4, a5, n4, k4, n5, k5, e, h⟩ := h
  injection e with e
  simp only [List.toArray_inj, List.cons.injEq, Array.mk.injEq, Value.int.injEq, Value.bool.injEq, and_true, true_and] at e
  obtain ⟨rfl, rfl, rfl, rfl, rfl⟩ := e
  rcases h with ⟨S, hd, v4, v5, ks, xs, h1, h2, h3, h4⟩ | ⟨hl, he⟩
  · simp only [List.cons.injEq, Value.int.injEq, Value.bool.injEq, and_true, true_and] at h3
    unfold numK conK
    rw [h1]
    exact ⟨h3.2.1, h3.2.2.1⟩
  · subst hl
    injection he with he
    simp only [List.toArray_inj, List.cons.injEq, Array.mk.injEq, Value.int.injEq, Value.bool.injEq, and_true, true_and] at he
    rw [nextH_zero.1, nextH_zero.2]
    exact ⟨he.2.1, he.2.2.1⟩
theorem rRdTx {d : Nat} {nv : Value} {l : List UInt8} {w : World} (h : NdV (d + 1) w nv l) (hl : l.length ≤ 20000) :
    ∀ W, Below w.heap.size w W → Calls Tryz.prog 103 #[nv] W (RetB (.agg #[.int .i64 (rdTx l).1, .string (rdTx l).2]) W) := by
  have h0 := h
  obtain ⟨c1, c2, c3, a4, a5, n4, k4, n5, k5, S, xs, rfl, h4, rfl, h5, hk, _⟩ := h.open_
  intro W hW
  have hkd := h0.kind.1
  have := kidC_len l
  refine (rReadS c1 c2 c3 _ _ (kidC l) W (h4.below hW) rfl (by omega)).mono ?_
  rintro e w' ⟨kk, ss, rfl, he, hb⟩
  refine ⟨?_, hb⟩
  rw [he]
  unfold rdTx
  rw [hkd]
  cases optS (numK l, kidC l) with
  | none => rfl
  | some p => rfl
def OwnN (base : Nat) (w : World) (n : Ntc) (A : Option Addr) (k : Nat) : Prop := ∃ xs, w.ownsRow base 32 1 (.slice A n.nums.length k) n.nums.length xs ∧ ∀ j, j < n.nums.length → IsB w (xs.getD j undef) (n.nums.getD j [])
theorem OwnN.isN {base : Nat} {w : World} {n : Ntc} {A : Option Addr} {k : Nat} (h : OwnN base w n A k) : IsN w (nV n (.slice A n.nums.length k)) n := by
  obtain ⟨xs, h1, h2⟩ := h
  exact ⟨_, rfl, xs, IsR.of_own h1, h2⟩
theorem OwnN.below {base : Nat} {w w' : World} {n : Ntc} {A : Option Addr} {k : Nat} (h : OwnN base w n A k) (hb : Below w.heap.size w w') : OwnN base w' n A k := by
  obtain ⟨xs, h1, h2⟩ := h
  exact ⟨xs, ownsRow_below h1 hb, fun j hj => (h2 j hj).below hb⟩
theorem OwnN.alloc {base : Nat} {w : World} {n : Ntc} {A : Option Addr} {k : Nat} (h : OwnN base w n A k) (o : Obj) : OwnN base (w.alloc o) n A k := h.below ((Below.refl _ _).alloc (Nat.le_refl _) o)
theorem OwnN.more {base base' : Nat} {w : World} {n : Ntc} {A : Option Addr} {k : Nat} (h : OwnN base w n A k) (hb : base' ≤ base) : OwnN base' w n A k := by
  obtain ⟨xs, h1, h2⟩ := h
  exact ⟨xs, ownsRow_more h1 hb, h2⟩
theorem OwnN.set {base g o : Nat} {t : TypeId} {cs : Array Value} {w : World} {n : Ntc} {A : Option Addr} {k : Nat} (h : OwnN base w n A k) (hk : Blk w g t cs) (hg : g < base) (hc : ∀ x, cs[o]? ≠ some (.int .u8 x)) (u : Value) : OwnN base (w.setCell ⟨g, o, none⟩ u) n A k := by
  obtain ⟨xs, h1, h2⟩ := h
  exact ⟨xs, ownsRow_setCell_below h1 hg u, fun j hj => (h2 j hj).set_ne (p := ⟨g, o, none⟩) (fun x => by rw [hk.q o]; exact hc x) u⟩
theorem OwnN.setN {base g : Nat} {w : World} {n : Ntc} {A : Option Addr} {k : Nat} (h : OwnN base w n A k) {r0 : Bool} {k0 l0 : Int} {s0 t0 : ByteArray} {A0 : Option Addr} {n0 c0 : Nat} (hk : Blk w g 30 #[.bool r0, .int .i64 k0, .string s0, .slice A0 n0 c0, .int .i64 l0, .string t0]) (hg : g < base)
    (r : Bool) (k1 l1 : Int) (s1 t1 : ByteArray) (A1 : Option Addr) (n1 c1 : Nat) :
    OwnN base ((((((w.setCell ⟨g, 0, none⟩ (.bool r)).setCell ⟨g, 1, none⟩ (.int .i64 k1)).setCell ⟨g, 2, none⟩ (.string s1)).setCell ⟨g, 3, none⟩ (.slice A1 n1 c1)).setCell ⟨g, 4, none⟩ (.int .i64 l1)).setCell ⟨g, 5, none⟩ (.string t1)) n A k := by
  have b1 := hk.set_ 0 (.bool r)
  have b2 := b1.set_ 1 (.int .i64 k1)
  have b3 := b2.set_ 2 (.string s1)
  have b4 := b3.set_ 3 (.slice A1 n1 c1)
  have b5 := b4.set_ 4 (.int .i64 l1)
  have a1 := h.set (o := 0) hk hg (fun x => by simp) (.bool r)
  have a2 := a1.set (o := 1) b1 hg (fun x => by simp) (.int .i64 k1)
  have a3 := a2.set (o := 2) b2 hg (fun x => by simp) (.string s1)
  have a4 := a3.set (o := 3) b3 hg (fun x => by simp) (.slice A1 n1 c1)
  have a5 := a4.set (o := 4) b4 hg (fun x => by simp) (.int .i64 l1)
  exact a5.set (o := 5) b5 hg (fun x => by simp) (.string t1)
def RetRN (n : Ntc) (w : World) (e : Ending) (w' : World) : Prop := ∃ A k, e = .returned (nV n (.slice A n.nums.length k)) ∧ OwnN w.heap.size w' n A k ∧ Below w.heap.size w w'
set_option maxRecDepth 100000 in
set_option maxHeartbeats 16000000 in
theorem rReadN_plain (nv : Value) (l : List UInt8) (w : World) (hn : NdV 60 w nv l) (hL : l.length ≤ 4000) (hc : conK ((kidsT 59 l).getD 0 []) = false) :
    Calls Tryz.prog 65 #[nv] w (RetRN ⟨false, tx0, [], if 0 < (kidsT 59 l).length then rdTx ((kidsT 59 l).getD 0 []) else tx0⟩ w) := by
  obtain ⟨n0, hn0, hk0⟩ := rKid hn 0
  have hfl : ((kidsT 59 l).getD 0 []).length ≤ 4000 := by
    obtain ⟨_, _, _, _, _, _, _, _, _, _, _, _, _, _, _, _, hf⟩ := hn.open_
    have := getD_len (kidsT 59 l) 0
    omega
  obtain ⟨c1, c2, c3, a4, a5, n4, k4, k5, rfl, ⟨xs, hrow⟩, hk⟩ := hn.row
  obtain ⟨f1, f2, f3, f4, f5, f6, f7, f8, f9, hsh⟩ := hn0.shape
  subst hsh
  have hf3 := hn0.kind.2
  rw [hc] at hf3
  subst hf3
  have hlen := hrow.len (P := Tryz.prog) ulNodes
  have HK0 : Hid (∀ W, Below w.heap.size w W → Calls Tryz.prog 102 #[.agg #[.int .i64 c1, .int .i64 c2, .bool c3, .slice a4 n4 k4, .slice a5 (kidsT 59 l).length k5], .int .i64 0] W (RetB (.agg #[.int .i64 f1, .int .i64 f2, .bool false, .slice f4 f6 f7, .slice f5 f8 f9]) W)) := hk0
  have HC0 := Lib.hid ((((Below.refl w.heap.size w).alloc (Nat.le_refl _) (.cells #[.int .i64 c1, .int .i64 c2, .bool c3, .slice a4 n4 k4, .slice a5 (kidsT 59 l).length k5] 91)).alloc (by first | (simp; done) | (simp; omega) | omega) (.cells #[.bool false, .int .i64 0, .string ⟨#[]⟩, .slice none 0 0, .int .i64 0, .string ⟨#[]⟩] 30)).alloc (by first | (simp; done) | (simp; omega) | omega) (.cells #[.bool false, .int .i64 0, .string ⟨#[]⟩, .slice none 0 0, .int .i64 0, .string ⟨#[]⟩] 30))
  unfold RetRN nV
  by_cases h0 : 0 < (kidsT 59 l).length
  · obtain ⟨b, o, x1, x2, x3, y4, y5, m4, z4, m5, z5, hi2, hl2, d0, d1, d2, d3, d4, hkv⟩ := hk 0 h0
    have hg0 : (kidsT 59 l).getD 0 [] = (kidsT 59 l)[0] := by simp [h0]
    rw [if_pos h0]
    rw [hg0] at hfl ⊢
    have HT := Lib.hid (rRdTx hkv (by omega))
    generalize rdTx (kidsT 59 l)[0] = T at *
    obtain ⟨tk, ts⟩ := T
    have hFIN : Hid (∀ W, OwnN w.heap.size W ⟨false, tx0, [], (tk, ts)⟩ none 0) := fun W => ⟨[], World.ownsRow_nil _ _ _ _, fun j hj => absurd hj (by simp)⟩
    have HD : Hid (∀ W, Below w.heap.size w W → W.cell? ⟨b, o, none⟩ = some (.int .i64 x1) ∧ W.cell? ⟨b, o + 1, none⟩ = some (.int .i64 x2) ∧ W.cell? ⟨b, o + 2, none⟩ = some (.bool x3) ∧ W.cell? ⟨b, o + 3, none⟩ = some (.slice y4 m4 z4) ∧ W.cell? ⟨b, o + 4, none⟩ = some (.slice y5 m5 z5)) := fun W hb => ⟨(hb.cell (p := ⟨b, o, none⟩) hl2).trans d0, (hb.cell (p := ⟨b, o + 1, none⟩) hl2).trans d1, (hb.cell (p := ⟨b, o + 2, none⟩) hl2).trans d2, (hb.cell (p := ⟨b, o + 3, none⟩) hl2).trans d3, (hb.cell (p := ⟨b, o + 4, none⟩) hl2).trans d4⟩
    simp only [Int.natCast_zero, Int.ofNat_zero, Int.cast_ofNat_Int] at hi2
    have h0I : (0 : Int) < (kidsT 59 l).length := by omega
    clear hk hn hn0 hk0 hrow hc hfl hkv hg0 h0 d0 d1 d2 d3 d4 hL
    generalize (kidsT 59 l).length = nk at *
    go_enter Tryz.func65, Tryz.ntmps65
    go_wp2_with (first | ((go_at_call 102); (with_reducible refine (HK0.out _ HC0.out).mono ?_); rintro e w1 ⟨rfl, hbz⟩; have K0 := Blk.call (((Blk.new w 91 #[.int .i64 c1, .int .i64 c2, .bool c3, .slice a4 n4 k4, .slice a5 nk k5]).alloc (.cells #[.bool false, .int .i64 0, .string ⟨#[]⟩, .slice none 0 0, .int .i64 0, .string ⟨#[]⟩] 30)).alloc (.cells #[.bool false, .int .i64 0, .string ⟨#[]⟩, .slice none 0 0, .int .i64 0, .string ⟨#[]⟩] 30)) hbz; have K1 := Blk.call ((blk_in (w := w.alloc (.cells #[.int .i64 c1, .int .i64 c2, .bool c3, .slice a4 n4 k4, .slice a5 nk k5] 91)) (g := w.heap.size + 1) (t := 30) (cs := #[.bool false, .int .i64 0, .string ⟨#[]⟩, .slice none 0 0, .int .i64 0, .string ⟨#[]⟩]) (by first | (simp; done) | (simp; omega) | omega)).alloc (.cells #[.bool false, .int .i64 0, .string ⟨#[]⟩, .slice none 0 0, .int .i64 0, .string ⟨#[]⟩] 30)) hbz; have K2 := Blk.call (blk_in (w := (w.alloc (.cells #[.int .i64 c1, .int .i64 c2, .bool c3, .slice a4 n4 k4, .slice a5 nk k5] 91)).alloc (.cells #[.bool false, .int .i64 0, .string ⟨#[]⟩, .slice none 0 0, .int .i64 0, .string ⟨#[]⟩] 30)) (g := w.heap.size + 1 + 1) (t := 30) (cs := #[.bool false, .int .i64 0, .string ⟨#[]⟩, .slice none 0 0, .int .i64 0, .string ⟨#[]⟩]) (by first | (simp; done) | (simp; omega) | omega)) hbz; have HC1 := Lib.hid (HC0.out.trans (hbz.mono (by first | (simp; done) | (simp; omega) | omega))); have qK0 := K0.q; have lK0 := K0.lt; have HK1 := Lib.hid K1; have HK2 := Lib.hid K2; obtain ⟨g0, g1, g2, g3, g4⟩ := HD.out _ HC1.out; have hlb : b < w1.heap.size := Nat.lt_of_lt_of_le hl2 HC1.out.size; clear hbz K1 K2) | ((go_at_call 103); (with_reducible refine (HT.out _ (HC1.out.alloc HC1.out.size _)).mono ?_); rintro e w2 ⟨rfl, hbz⟩; have K1 := (HK1.out.alloc _).call hbz; have K2 := (HK2.out.alloc _).call hbz; have q1 := K1.q; have f1' := K1.fz; have l1 := K1.lt; have q2 := K2.q; have f2' := K2.fz; have l2 := K2.lt; have HC2 := Lib.hid ((HC1.out.alloc HC1.out.size _).trans (hbz.mono (by have := HC1.out.size; simp; omega))); clear hbz K1 K2))
    refine bodyPost_ret (v := .agg #[.bool false, .int .i64 0, .string ⟨#[]⟩, .slice none 0 0, .int .i64 tk, .string ts]) (by simp only [results, Tryz.results65]; go_simp) rfl ?_
    have s2 := HC2.out.size
    have b2 := HC2.out
    exact ⟨none, 0, rfl, hFIN.out _, by ((repeat' (first | (with_reducible exact Below.refl _ _) | (with_reducible assumption) | (with_reducible refine Below.setCell ?_ ?_ _) | (with_reducible refine Below.alloc ?_ ?_ _) | (with_reducible refine Below.drew ?_) | (with_reducible refine below_drewN ?_ _) | (with_reducible refine Below.step (by with_reducible assumption) ?_ ?_))) <;> (first | omega | (simp; done) | (simp; omega)))⟩
  · rw [if_neg h0]
    have hge : ((kidsT 59 l).length : Int) ≤ 0 := by omega
    have hFIN : Hid (∀ W, OwnN w.heap.size W ⟨false, tx0, [], tx0⟩ none 0) := fun W => ⟨[], World.ownsRow_nil _ _ _ _, fun j hj => absurd hj (by simp)⟩
    clear hk hn hn0 hk0 hrow hc hfl h0 hL
    generalize (kidsT 59 l).length = nk at *
    go_enter Tryz.func65, Tryz.ntmps65
    go_wp2_with (((go_at_call 102); (with_reducible refine (HK0.out _ HC0.out).mono ?_); rintro e w1 ⟨rfl, hbz⟩; have K0 := Blk.call (((Blk.new w 91 #[.int .i64 c1, .int .i64 c2, .bool c3, .slice a4 n4 k4, .slice a5 nk k5]).alloc (.cells #[.bool false, .int .i64 0, .string ⟨#[]⟩, .slice none 0 0, .int .i64 0, .string ⟨#[]⟩] 30)).alloc (.cells #[.bool false, .int .i64 0, .string ⟨#[]⟩, .slice none 0 0, .int .i64 0, .string ⟨#[]⟩] 30)) hbz; have K1 := Blk.call ((blk_in (w := w.alloc (.cells #[.int .i64 c1, .int .i64 c2, .bool c3, .slice a4 n4 k4, .slice a5 nk k5] 91)) (g := w.heap.size + 1) (t := 30) (cs := #[.bool false, .int .i64 0, .string ⟨#[]⟩, .slice none 0 0, .int .i64 0, .string ⟨#[]⟩]) (by first | (simp; done) | (simp; omega) | omega)).alloc (.cells #[.bool false, .int .i64 0, .string ⟨#[]⟩, .slice none 0 0, .int .i64 0, .string ⟨#[]⟩] 30)) hbz; have K2 := Blk.call (blk_in (w := (w.alloc (.cells #[.int .i64 c1, .int .i64 c2, .bool c3, .slice a4 n4 k4, .slice a5 nk k5] 91)).alloc (.cells #[.bool false, .int .i64 0, .string ⟨#[]⟩, .slice none 0 0, .int .i64 0, .string ⟨#[]⟩] 30)) (g := w.heap.size + 1 + 1) (t := 30) (cs := #[.bool false, .int .i64 0, .string ⟨#[]⟩, .slice none 0 0, .int .i64 0, .string ⟨#[]⟩]) (by first | (simp; done) | (simp; omega) | omega)) hbz; have HC1 := Lib.hid (HC0.out.trans (hbz.mono (by first | (simp; done) | (simp; omega) | omega))); have qK0 := K0.q; have lK0 := K0.lt; have q1 := K1.q; have f1' := K1.fz; have l1 := K1.lt; have q2 := K2.q; have f2' := K2.fz; have l2 := K2.lt; clear hbz K1 K2))
    refine bodyPost_ret (v := .agg #[.bool false, .int .i64 0, .string ⟨#[]⟩, .slice none 0 0, .int .i64 0, .string ⟨#[]⟩]) (by simp only [results, Tryz.results65]; go_simp) rfl ?_
    have s2 := HC1.out.size
    have b2 := HC1.out
    exact ⟨none, 0, rfl, hFIN.out _, by ((repeat' (first | (with_reducible exact Below.refl _ _) | (with_reducible assumption) | (with_reducible refine Below.setCell ?_ ?_ _) | (with_reducible refine Below.alloc ?_ ?_ _) | (with_reducible refine Below.drew ?_) | (with_reducible refine below_drewN ?_ _) | (with_reducible refine Below.step (by with_reducible assumption) ?_ ?_))) <;> (first | omega | (simp; done) | (simp; omega)))⟩
end Go.Proofs.YtjjkimjdmpeddaaGreatDoor
end

/- Walk over the reference's ReadNotice where the first element is constructed. -/
section
set_option linter.unusedSimpArgs false
set_option linter.unusedVariables false
namespace Go.Proofs.YtjjkimjdmpeddaaGreatDoor
open Go.RowKit Go.Cr
theorem NdV.cont {d : Nat} {w : World} {c1 c2 : Int} {c3 : Bool} {v4 v5 : Value} {l : List UInt8} (h : NdV (d + 1) w (.agg #[.int .i64 c1, .int .i64 c2, .bool c3, v4, v5]) l) : IsB w v4 (kidC l) := by
  obtain ⟨x1, x2, x3, a4, a5, n4, k4, n5, k5, S, xs, e, h4, _⟩ := h.open_
  injection e with e
  simp only [List.toArray_inj, List.cons.injEq, Array.mk.injEq, Value.int.injEq, Value.bool.injEq, and_true, true_and] at e
  rw [e.2.2.2.1]
  exact h4
def RrN (ks : List (List UInt8)) (g : Nat) (r : Bool) (o t : Tx) (w w2 : World) (ix : Value) (wr : World) : Prop := ∃ (i : Nat) (A : Option Addr) (c : Nat) (xs : List Value), ix = .int .i64 (i : Int) ∧ i ≤ ks.length ∧ Blk wr g 30 #[.bool r, .int .i64 o.1, .string o.2, .slice A i c, .int .i64 t.1, .string t.2] ∧
  wr.ownsRow w2.heap.size 32 1 (.slice A i c) i xs ∧ (∀ j, j < i → IsB w (xs.getD j undef) (kidC (ks.getD j []))) ∧ Only g w2.heap.size w2 wr
set_option maxRecDepth 100000 in
set_option maxHeartbeats 32000000 in
theorem rReadN_ref (nv : Value) (l : List UInt8) (w : World) (hn : NdV 60 w nv l) (hL : l.length ≤ 4000) (hc : conK ((kidsT 59 l).getD 0 []) = true) :
    Calls Tryz.prog 65 #[nv] w (RetRN ⟨true, rdTx ((kidsT 58 ((kidsT 59 l).getD 0 [])).getD 0 []), (kidsT 57 ((kidsT 58 ((kidsT 59 l).getD 0 [])).getD 1 [])).map kidC, if 1 < (kidsT 59 l).length then rdTx ((kidsT 59 l).getD 1 []) else tx0⟩ w) := by
  obtain ⟨n0, hn0, hk0⟩ := rKid hn 0
  have hfl : ∀ i, ((kidsT 59 l).getD i []).length ≤ 4000 := fun i => by
    obtain ⟨_, _, _, _, _, _, _, _, _, _, _, _, _, _, _, _, hf⟩ := hn.open_
    have := getD_len (kidsT 59 l) i
    omega
  have hf0 := hfl 0
  have hf1 := hfl 1
  obtain ⟨c1, c2, c3, a4, a5, n4, k4, k5, rfl, ⟨xs, hrow⟩, hk⟩ := hn.row
  have hlen := hrow.len (P := Tryz.prog) ulNodes
  obtain ⟨F1, F2, F3, F4, F5, F6, F7, F8, F9, hsh⟩ := hn0.shape
  subst hsh
  have hf3 := hn0.kind.2
  rw [hc] at hf3
  subst hf3
  obtain ⟨m0, hm0, hkm0⟩ := rKid hn0 0
  obtain ⟨m1, hm1, hkm1⟩ := rKid hn0 1
  have hfm : ∀ i, ((kidsT 58 ((kidsT 59 l).getD 0 [])).getD i []).length ≤ 4000 := fun i => by
    obtain ⟨_, _, _, _, _, _, _, _, _, _, _, _, _, _, _, _, hf⟩ := hn0.open_
    have := getD_len (kidsT 58 ((kidsT 59 l).getD 0 [])) i
    omega
  have hfm1 := hfm 1
  have HTO := Lib.hid (rRdTx hm0 (by have := hfm 0; omega))
  generalize rdTx ((kidsT 58 ((kidsT 59 l).getD 0 [])).getD 0 []) = O at *
  generalize (kidsT 58 ((kidsT 59 l).getD 0 [])).getD 1 [] = l1 at *
  obtain ⟨O1, O2, O3, O4, O5, O6, O7, O8, O9, hsh⟩ := hm0.shape
  subst hsh
  obtain ⟨u1, u2, u3, u4, u5, u6, u7, u9, rfl, ⟨xs1, hrow1⟩, hkq⟩ := hm1.row
  have hlenq := hrow1.len (P := Tryz.prog) ulNodes
  have hcq : (kidsT 57 l1).length ≤ 4000 := by have := kidsT_cnt 57 l1; omega
  generalize kidsT 57 l1 = kk at *
  have HKQ := Lib.hid hkq
  obtain ⟨ok, os⟩ := O
  simp only at HTO
  have HK0 : Hid (∀ W, Below w.heap.size w W → Calls Tryz.prog 102 #[.agg #[.int .i64 c1, .int .i64 c2, .bool c3, .slice a4 n4 k4, .slice a5 (kidsT 59 l).length k5], .int .i64 0] W (RetB (.agg #[.int .i64 F1, .int .i64 F2, .bool true, .slice F4 F6 F7, .slice F5 F8 F9]) W)) := hk0
  have HKM0 : Hid (∀ W, Below w.heap.size w W → Calls Tryz.prog 102 #[.agg #[.int .i64 F1, .int .i64 F2, .bool true, .slice F4 F6 F7, .slice F5 F8 F9], .int .i64 0] W (RetB (.agg #[.int .i64 O1, .int .i64 O2, .bool O3, .slice O4 O6 O7, .slice O5 O8 O9]) W)) := hkm0
  have HKM1 : Hid (∀ W, Below w.heap.size w W → Calls Tryz.prog 102 #[.agg #[.int .i64 F1, .int .i64 F2, .bool true, .slice F4 F6 F7, .slice F5 F8 F9], .int .i64 1] W (RetB (.agg #[.int .i64 u1, .int .i64 u2, .bool u3, .slice u4 u6 u7, .slice u5 kk.length u9]) W)) := hkm1
  obtain ⟨T, hT⟩ : ∃ T, (if 1 < (kidsT 59 l).length then rdTx ((kidsT 59 l).getD 1 []) else tx0) = T := ⟨_, rfl⟩
  rw [hT]
  have HTT := Lib.hid hT
  have HKK := Lib.hid hk
  have HF1 := Lib.hid hf1
  obtain ⟨NK, hNK⟩ : ∃ NK, (kidsT 59 l).length = NK := ⟨_, rfl⟩
  have HNK := Lib.hid hNK
  rw [hNK] at HK0 hlen ⊢
  have HC0 := Lib.hid ((((Below.refl w.heap.size w).alloc (Nat.le_refl _) (.cells #[.int .i64 c1, .int .i64 c2, .bool c3, .slice a4 n4 k4, .slice a5 NK k5] 91)).alloc (by first | (simp; done) | (simp; omega) | omega) (.cells #[.bool false, .int .i64 0, .string ⟨#[]⟩, .slice none 0 0, .int .i64 0, .string ⟨#[]⟩] 30)).alloc (by first | (simp; done) | (simp; omega) | omega) (.cells #[.bool false, .int .i64 0, .string ⟨#[]⟩, .slice none 0 0, .int .i64 0, .string ⟨#[]⟩] 30))
  have HLEN := Lib.hid hlen
  unfold RetRN nV
  simp only
  clear hk hn hn0 hk0 hrow hc hfl hL hm0 hm1 hkm0 hkm1 hkq hfm hfm1 hrow1 hT hNK hf0 hf1 hlen
  obtain ⟨i0, hi0, hz0, hz1, hz2⟩ := info_parts infoBss
  go_enter Tryz.func65, Tryz.ntmps65
  go_wp2_with (first
    | ((go_at_call 102); (with_reducible refine (HK0.out _ HC0.out).mono ?_); rintro e w1 ⟨rfl, hbz⟩; have HB0 := Lib.hid (Blk.call (((Blk.new w 91 #[.int .i64 c1, .int .i64 c2, .bool c3, .slice a4 n4 k4, .slice a5 NK k5]).alloc (.cells #[.bool false, .int .i64 0, .string ⟨#[]⟩, .slice none 0 0, .int .i64 0, .string ⟨#[]⟩] 30)).alloc (.cells #[.bool false, .int .i64 0, .string ⟨#[]⟩, .slice none 0 0, .int .i64 0, .string ⟨#[]⟩] 30)) hbz); have HB1 := Lib.hid (Blk.call ((blk_in (w := w.alloc (.cells #[.int .i64 c1, .int .i64 c2, .bool c3, .slice a4 n4 k4, .slice a5 NK k5] 91)) (g := w.heap.size + 1) (t := 30) (cs := #[.bool false, .int .i64 0, .string ⟨#[]⟩, .slice none 0 0, .int .i64 0, .string ⟨#[]⟩]) (by first | (simp; done) | (simp; omega) | omega)).alloc (.cells #[.bool false, .int .i64 0, .string ⟨#[]⟩, .slice none 0 0, .int .i64 0, .string ⟨#[]⟩] 30)) hbz); have HB2 := Lib.hid (Blk.call (blk_in (w := (w.alloc (.cells #[.int .i64 c1, .int .i64 c2, .bool c3, .slice a4 n4 k4, .slice a5 NK k5] 91)).alloc (.cells #[.bool false, .int .i64 0, .string ⟨#[]⟩, .slice none 0 0, .int .i64 0, .string ⟨#[]⟩] 30)) (g := w.heap.size + 1 + 1) (t := 30) (cs := #[.bool false, .int .i64 0, .string ⟨#[]⟩, .slice none 0 0, .int .i64 0, .string ⟨#[]⟩]) (by first | (simp; done) | (simp; omega) | omega)) hbz); have HC1 := Lib.hid (HC0.out.trans (hbz.mono (by first | (simp; done) | (simp; omega) | omega))); have q2 := HB2.out.q; have z2 := HB2.out.fz; have l2 := HB2.out.lt; clear hbz)
    | ((go_at_call 102); (with_reducible refine (HKM0.out _ ((HC1.out.setCell (p := ⟨w.heap.size + 1 + 1, 0, none⟩) (Nat.le_succ_of_le (Nat.le_succ _)) _).alloc (by simpa [World.setCell] using HC1.out.size) _)).mono ?_); rintro e w2 ⟨rfl, hbz⟩; have HF0 := Lib.hid ((blk_in (w := w1.setCell ⟨w.heap.size + 1 + 1, 0, none⟩ (.bool true)) (g := w1.heap.size) (t := 91) (cs := #[.int .i64 F1, .int .i64 F2, .bool true, .slice F4 F6 F7, .slice F5 F8 F9]) (by simp [World.setCell])).call hbz); have HD0 := Lib.hid (((HB0.out.far (p := ⟨w.heap.size + 1 + 1, 0, none⟩) (show w.heap.size ≠ w.heap.size + 1 + 1 by omega) (.bool true)).alloc (.cells #[.int .i64 F1, .int .i64 F2, .bool true, .slice F4 F6 F7, .slice F5 F8 F9] 91)).call hbz); have HD1 := Lib.hid (((HB1.out.far (p := ⟨w.heap.size + 1 + 1, 0, none⟩) (show w.heap.size + 1 ≠ w.heap.size + 1 + 1 by omega) (.bool true)).alloc (.cells #[.int .i64 F1, .int .i64 F2, .bool true, .slice F4 F6 F7, .slice F5 F8 F9] 91)).call hbz); have HD2 := Lib.hid (((HB2.out.set_ 0 (.bool true)).alloc (.cells #[.int .i64 F1, .int .i64 F2, .bool true, .slice F4 F6 F7, .slice F5 F8 F9] 91)).call hbz); have HC2 := Lib.hid (((HC1.out.setCell (p := ⟨w.heap.size + 1 + 1, 0, none⟩) (Nat.le_succ_of_le (Nat.le_succ _)) (.bool true)).alloc (by simpa [World.setCell] using HC1.out.size) (.cells #[.int .i64 F1, .int .i64 F2, .bool true, .slice F4 F6 F7, .slice F5 F8 F9] 91)).trans (hbz.mono (by have := HC1.out.size; simp [World.setCell]; omega))); clear hbz)
    | ((go_at_call 103); (with_reducible refine (HTO.out _ HC2.out).mono ?_); rintro e w3 ⟨rfl, hbz⟩; have HE0 := Lib.hid (HD0.out.call hbz); have HE1 := Lib.hid (HD1.out.call hbz); have HE2 := Lib.hid (HD2.out.call hbz); have HF3 := Lib.hid (HF0.out.call hbz); have HC3 := Lib.hid (HC2.out.trans (hbz.mono HC2.out.size)); have q2 := HE2.out.q; have z2 := HE2.out.fz; have l2 := HE2.out.lt; have qF := HF3.out.q; have lF := HF3.out.lt; clear hbz)
    | ((go_at_call 102); (with_reducible refine (HKM1.out _ ((HC3.out.setCell (p := ⟨w.heap.size + 1 + 1, 1, none⟩) (Nat.le_succ_of_le (Nat.le_succ _)) _).setCell (p := ⟨w.heap.size + 1 + 1, 2, none⟩) (Nat.le_succ_of_le (Nat.le_succ _)) _)).mono ?_); rintro e w4 ⟨rfl, hbz⟩; have HG0 := Lib.hid (((HE0.out.far (p := ⟨w.heap.size + 1 + 1, 1, none⟩) (show w.heap.size ≠ w.heap.size + 1 + 1 by omega) (.int .i64 ok)).far (p := ⟨w.heap.size + 1 + 1, 2, none⟩) (show w.heap.size ≠ w.heap.size + 1 + 1 by omega) (.string os)).call hbz); have HG1 := Lib.hid (((HE1.out.far (p := ⟨w.heap.size + 1 + 1, 1, none⟩) (show w.heap.size + 1 ≠ w.heap.size + 1 + 1 by omega) (.int .i64 ok)).far (p := ⟨w.heap.size + 1 + 1, 2, none⟩) (show w.heap.size + 1 ≠ w.heap.size + 1 + 1 by omega) (.string os)).call hbz); have HG2 := Lib.hid (((HE2.out.set_ 1 (.int .i64 ok)).set_ 2 (.string os)).call hbz); have HC4 := Lib.hid (((HC3.out.setCell (p := ⟨w.heap.size + 1 + 1, 1, none⟩) (Nat.le_succ_of_le (Nat.le_succ _)) (.int .i64 ok)).setCell (p := ⟨w.heap.size + 1 + 1, 2, none⟩) (Nat.le_succ_of_le (Nat.le_succ _)) (.string os)).trans (hbz.mono (by have := HC3.out.size; simp [World.setCell]; omega))); clear hbz))
  clear HB0 HB1 HB2 HD0 HD1 HD2 HE0 HE1 HE2 HF0 HF3 HC1 HC2 HC3 q2 z2 l2 qF lF HK0 HKM0 HKM1 HTO
  obtain ⟨w5, hw5⟩ : ∃ w5, w4.alloc (.cells #[.int .i64 u1, .int .i64 u2, .bool u3, .slice u4 u6 u7, .slice u5 kk.length u9] 91) = w5 := ⟨_, rfl⟩
  have HL5 : Hid (Blk w5 w4.heap.size 91 #[.int .i64 u1, .int .i64 u2, .bool u3, .slice u4 u6 u7, .slice u5 kk.length u9]) := by rw [← hw5]; exact Blk.new _ _ _
  have HN5 : Hid (Blk w5 w.heap.size 91 #[.int .i64 c1, .int .i64 c2, .bool c3, .slice a4 n4 k4, .slice a5 NK k5]) := by rw [← hw5]; exact HG0.out.alloc _
  have HR5 : Hid (Blk w5 (w.heap.size + 1) 30 #[.bool false, .int .i64 0, .string ⟨#[]⟩, .slice none 0 0, .int .i64 0, .string ⟨#[]⟩]) := by rw [← hw5]; exact HG1.out.alloc _
  have HO5 : Hid (Blk w5 (w.heap.size + 1 + 1) 30 #[.bool true, .int .i64 ok, .string os, .slice none 0 0, .int .i64 0, .string ⟨#[]⟩]) := by rw [← hw5]; exact HG2.out.alloc _
  have HC5 : Hid (Below w.heap.size w w5) := by rw [← hw5]; exact HC4.out.alloc HC4.out.size _
  have hs4 : w.heap.size + 1 + 1 < w4.heap.size := HG2.out.lt
  have hs5 : w5.heap.size = w4.heap.size + 1 := by rw [← hw5]; simp
  rw [hw5]
  clear hw5 HG0 HG1 HG2 HC4
  go_loopw [7] (fun ix wq => RrN kk (w.heap.size + 1 + 1) true (ok, os) tx0 w w5 ix wq) (fun ix _ => kk.length + 1 - (intOf ix).toNat)
  case atStart => exact ⟨0, none, 0, [], rfl, Nat.zero_le _, HO5.out, World.ownsRow_nil _ _ _ _, fun j h => by omega, Only.refl _ _ _⟩
  case round =>
    obtain ⟨i, A8, c8, ys, rfl, hi, hb, hrow, hys, hon⟩ := hrel
    simp only [tx0] at hb
    have HBK := Lib.hid hb
    have HROW := Lib.hid hrow
    have HYS := Lib.hid hys
    have HON := Lib.hid hon
    have hsz := hon.size
    have HWR := Lib.hid (HC5.out.trans (hon.below (B' := w.heap.size) (by omega) (by omega)))
    have hLB := HL5.out.only hon (by omega)
    have qL := hLB.q
    have lL := hLB.lt
    have hyl : ys.length = i := by have := hrow.1; simpa using this
    have HYL := Lib.hid hyl
    clear hb hrow hys hon hLB hyl
    by_cases hlt : i < kk.length
    · obtain ⟨b', o', p1, p2, p3, q4, q5, r4, s4, r5, s5, hia, hbl, e0, e1, e2, e3, e4, hkv⟩ := HKQ.out i hlt
      have hcont := hkv.cont
      have HCT := Lib.hid hcont
      have hltI : (i : Int) < kk.length := by omega
      have hgk : kk.getD i [] = kk[i] := by simp [hlt]
      have HGK := Lib.hid hgk
      have HS9 : Hid (∀ W', Below wr.heap.size wr W' → W'.cell? ⟨w.heap.size + 1 + 1, 3, none⟩ = some (.slice A8 i c8) ∧ W'.cell? ⟨w4.heap.size, 4, none⟩ = some (.slice u5 kk.length u9) ∧ W'.cell? ⟨b', o' + 3, none⟩ = some (.slice q4 r4 s4)) := fun W hW => ⟨((HBK.out.call hW).q 3).trans rfl, ((HL5.out.only (HON.out.thenB (hW.mono hsz)) (by omega)).q 4).trans rfl, ((HWR.out.trans (hW.mono HWR.out.size)).cell (p := ⟨b', o' + 3, none⟩) hbl).trans e3⟩
      have hlb : b' < wr.heap.size := Nat.lt_of_lt_of_le hbl HWR.out.size
      have E3 := Lib.hid e3
      clear e0 e1 e2 e3 e4 hkv hcont hgk
      go_wp2_with fail
      have hcur := Lib.hid ((Below.refl wr.heap.size wr).drew)
      refine wp_region_lastP (fun W' => W'.cell? ⟨w.heap.size + 1 + 1, 3, none⟩ = some (.slice A8 i c8) ∧ W'.cell? ⟨w4.heap.size, 4, none⟩ = some (.slice u5 kk.length u9) ∧ W'.cell? ⟨b', o' + 3, none⟩ = some (.slice q4 r4 s4)) rfl (by kernel_rfl) (by kernel_rfl) (HS9.out _ hcur.out) (fun hHeld => ?_)
      simp only [List.pop_toArray, List.dropLast_cons_cons, List.dropLast_singleton]
      (refine take_want (i := 0) (d := some 26) ?_ (by kernel_rfl) (by kernel_rfl) (by kernel_rfl) (fun _ _ _ h => h) (by assumption) ?_ (by kernel_rfl) ?_; rotate_left; (· (intro o ho; simp only [List.getElem?_toArray, List.getElem?_cons_succ, List.getElem?_cons_zero, Option.some.injEq] at ho; subst ho; refine ⟨rfl, by rfl, fun w hSw => ?_⟩; (try dsimp only at hSw); go_simp; (first | done | with_reducible rfl))); simp only [Act.put, List.setIfInBounds_toArray, List.set_cons_zero, List.set_cons_succ])
      (refine take_want (i := 1) (d := some 27) ?_ (by kernel_rfl) (by kernel_rfl) (by kernel_rfl) (fun _ _ _ h => h) (by assumption) ?_ (by kernel_rfl) ?_; rotate_left; (· (intro o ho; simp only [List.getElem?_toArray, List.getElem?_cons_succ, List.getElem?_cons_zero, Option.some.injEq] at ho; subst ho; refine ⟨rfl, by rfl, fun w hSw => ?_⟩; (try dsimp only at hSw); go_split_ands; go_simp; (first | done | with_reducible rfl))); simp only [Act.put, List.setIfInBounds_toArray, List.set_cons_zero, List.set_cons_succ])
      (refine take_want (i := 2) (d := some 28) ?_ (by kernel_rfl) (by kernel_rfl) (by kernel_rfl) (fun _ _ _ h => h) (by assumption) ?_ (by kernel_rfl) ?_; rotate_left; (· (intro o ho; simp only [List.getElem?_toArray, List.getElem?_cons_succ, List.getElem?_cons_zero, Option.some.injEq] at ho; subst ho; refine ⟨rfl, by rfl, fun w hSw => ?_⟩; (try dsimp only at hSw); go_simp; (first | done | with_reducible rfl))); simp only [Act.put, List.setIfInBounds_toArray, List.set_cons_zero, List.set_cons_succ])
      (refine take_want (i := 3) (d := some 29) ?_ (by kernel_rfl) (by kernel_rfl) (by kernel_rfl) (fun _ _ _ h => h) (by assumption) ?_ (by kernel_rfl) ?_; rotate_left; (· (intro o ho; simp only [List.getElem?_toArray, List.getElem?_cons_succ, List.getElem?_cons_zero, Option.some.injEq] at ho; subst ho; refine ⟨rfl, by rfl, fun w hSw => ?_⟩; (try dsimp only at hSw); go_split_ands; go_simp; (first | done | with_reducible rfl))); simp only [Act.put, List.setIfInBounds_toArray, List.set_cons_zero, List.set_cons_succ])
      (refine take_want (i := 4) (d := some 30) ?_ (by kernel_rfl) (by kernel_rfl) (by kernel_rfl) (fun _ _ _ h => h) (by assumption) ?_ (by kernel_rfl) ?_; rotate_left; (· (intro o ho; simp only [List.getElem?_toArray, List.getElem?_cons_succ, List.getElem?_cons_zero, Option.some.injEq] at ho; subst ho; refine ⟨rfl, by rfl, fun w hSw => ?_⟩; (try dsimp only at hSw); go_simp; (first | done | with_reducible rfl))); simp only [Act.put, List.setIfInBounds_toArray, List.set_cons_zero, List.set_cons_succ])
      (refine take_want (i := 5) (d := some 31) ?_ (by kernel_rfl) (by kernel_rfl) (by kernel_rfl) (fun _ _ _ h => h) (by assumption) ?_ (by kernel_rfl) ?_; rotate_left; (· (intro o ho; simp only [List.getElem?_toArray, List.getElem?_cons_succ, List.getElem?_cons_zero, Option.some.injEq] at ho; subst ho; refine ⟨rfl, by rfl, fun w hSw => ?_⟩; (try dsimp only at hSw); go_split_ands; go_simp; (first | done | with_reducible rfl))); simp only [Act.put, List.setIfInBounds_toArray, List.set_cons_zero, List.set_cons_succ])
      (refine take_want (i := 6) (d := some 32) ?_ (by kernel_rfl) (by kernel_rfl) (by kernel_rfl) (fun _ _ _ h => h) (by assumption) ?_ (by kernel_rfl) ?_; rotate_left; (· (intro o ho; simp only [List.getElem?_toArray, List.getElem?_cons_succ, List.getElem?_cons_zero, Option.some.injEq] at ho; subst ho; refine ⟨rfl, by rfl, fun w hSw => ?_⟩; (try dsimp only at hSw); go_simp; (first | done | with_reducible rfl))); simp only [Act.put, List.setIfInBounds_toArray, List.set_cons_zero, List.set_cons_succ])
      (refine take_want (i := 7) (d := some 33) ?_ (by kernel_rfl) (by kernel_rfl) (by kernel_rfl) (fun _ _ _ h => h) (by assumption) ?_ (by kernel_rfl) ?_; rotate_left; (· (intro o ho; simp only [List.getElem?_toArray, List.getElem?_cons_succ, List.getElem?_cons_zero, Option.some.injEq] at ho; subst ho; refine ⟨rfl, by rfl, fun w hSw => ?_⟩; (try dsimp only at hSw); go_split_ands; go_simp; (first | done | with_reducible rfl))); simp only [Act.put, List.setIfInBounds_toArray, List.set_cons_zero, List.set_cons_succ])
      (refine take_run (i := 8) (by kernel_rfl) (by kernel_rfl) ?_; intro o ho K hK; simp only [List.getElem?_toArray, List.getElem?_cons_succ, List.getElem?_cons_zero, Option.some.injEq] at ho; subst ho)
      go_simp
      (refine hK.out _ _ (HS9.out _ (hcur.out.alloc hcur.out.size _)) (fun hHeld => ?_); clear hK K; (try simp only [Act.put, List.setIfInBounds_toArray, List.set_cons_zero, List.set_cons_succ]))
      obtain ⟨vd, wd, hrd, hod, hgd, hbd, _⟩ := run_app2 (P := Tryz.prog) (wr.drew.alloc (.cells #[.slice q4 r4 s4] 32)) w5.heap.size 28 28 32 i0 (.slice none 0 0) 1 24 ulBs hi0 hz0 hz1 hz2 rfl (by decide) (.slice A8 i c8) i ys (ownsRow_below HROW.out (hcur.out.alloc hcur.out.size _)) _ 1 [.slice q4 r4 s4] (isR_at rfl rfl) (fun u hu => by simp at hu; subst hu; rfl) (by unfold maxLen; omega) (by omega) (by have := hcur.out.size; simp; omega)
      obtain ⟨A7, c7, hv7⟩ : ∃ A7 c7, vd = .slice A7 (i + 1) c7 := by obtain ⟨A7, c7, h, _⟩ := IsR.of_own hod; exact ⟨A7, c7, h⟩
      subst hv7
      have hne : some (w.heap.size + 1 + 1) ≠ (Value.slice A8 i c8).ownBlock := by
        intro he
        have := (HROW.out.lt _ he.symm).1
        omega
      have hne4 : some w4.heap.size ≠ (Value.slice A8 i c8).ownBlock := by
        intro he
        have := (HROW.out.lt _ he.symm).1
        omega
      have JD := Lib.hid (Blk.grown ((HBK.out.call hcur.out).alloc (.cells #[.slice q4 r4 s4] 32)) hgd hne)
      have qD := JD.out.q
      have fD := JD.out.fz
      have lD := JD.out.lt
      have HOD := Lib.hid hod
      have HND := Lib.hid ((HON.out.thenB ((hcur.out.alloc hcur.out.size (.cells #[.slice q4 r4 s4] 32)).mono hsz)).thenB hbd)
      clear hod hbd hgd hne hne4
      (refine take_run (i := 9) (by kernel_rfl) (by kernel_rfl) ?_; intro o ho K hK; simp only [List.getElem?_toArray, List.getElem?_cons_succ, List.getElem?_cons_zero, Option.some.injEq] at ho; subst ho)
      rw [if_pos (by rfl)]
      refine wp_appR _ _ _ _ rfl _ _ _ _ rfl rfl hrd ?_
      (refine hK.out _ _ (⟨(qD 3).trans rfl, ((HL5.out.only HND.out (by omega)).q 4).trans rfl, ((HC5.out.trans (HND.out.below (B' := w.heap.size) (by omega) (by omega))).cell (p := ⟨b', o' + 3, none⟩) hbl).trans E3.out⟩) (fun hHeld => ?_); clear hK K; (try simp only [Act.put, List.setIfInBounds_toArray, List.set_cons_zero, List.set_cons_succ]))
      (refine take_want (i := 10) (d := some 36) ?_ (by kernel_rfl) (by kernel_rfl) (by kernel_rfl) (fun _ _ _ h => h) (by assumption) ?_ (by kernel_rfl) ?_; rotate_left; (· (intro o ho; simp only [List.getElem?_toArray, List.getElem?_cons_succ, List.getElem?_cons_zero, Option.some.injEq] at ho; subst ho; refine ⟨rfl, by rfl, fun w hSw => ?_⟩; (try dsimp only at hSw); go_simp; (first | done | with_reducible rfl))); simp only [Act.put, List.setIfInBounds_toArray, List.set_cons_zero, List.set_cons_succ])
      refine wpAnyH_done (by kernel_rfl) ?_ _
      refine lastQ_of ?_
      refine wpOp_skip (w' := wd.setCell ⟨w.heap.size + 1 + 1, 3, none⟩ (.slice A7 (i + 1) c7)) rfl rfl ?he ?_
      case he => go_simp
      go_wp2_with fail
      go_roundw
      case rel =>
        refine ⟨i + 1, A7, c7, ys ++ [.slice q4 r4 s4], by go_num, by omega, JD.out.set_ 3 _, ownsRow_setCell_below HOD.out (show w.heap.size + 1 + 1 < w5.heap.size by omega) _, fun j hj => ?_, HND.out.set rfl _⟩
        by_cases hji : j < i
        · have := HYS.out j hji
          have hyl := HYL.out
          simp only [List.getD_eq_getElem?_getD] at this ⊢
          rw [List.getElem?_append_left (by omega)]
          exact this
        · obtain rfl : j = i := by omega
          have hyl := HYL.out
          have e : (ys ++ [Value.slice q4 r4 s4]).getD j undef = .slice q4 r4 s4 := by simp [← hyl]
          rw [e, HGK.out]
          exact HCT.out
      case measure => simp [intOf]; omega
    · have hie : i = kk.length := by omega
      have hge : (kk.length : Int) ≤ i := by omega
      have HNB := Lib.hid (HN5.out.only HON.out (by omega))
      have HRB := Lib.hid (HR5.out.only HON.out (by omega))
      have hAL : ∀ W, Below wr.heap.size wr W → W.ownsRow w5.heap.size 32 1 (.slice A8 i c8) i ys := fun W hW => ownsRow_below HROW.out hW
      have HAL := Lib.hid hAL
      have hml : (kk.map kidC).length = i := by rw [List.length_map, hie]
      have hFB : ∀ W T, Below w.heap.size w W → W.ownsRow w5.heap.size 32 1 (.slice A8 i c8) i ys → OwnN w.heap.size W ⟨true, (ok, os), kk.map kidC, T⟩ A8 c8 := fun W T hW hr => by
        refine ⟨ys, by simp only; rw [hml]; exact ownsRow_more hr (by omega), fun j hj => ?_⟩
        simp only at hj ⊢
        rw [hml] at hj
        have h1 := HYS.out j hj
        have h2 : (kk.map kidC).getD j [] = kidC (kk.getD j []) := by simp [List.getD_eq_getElem?_getD, show j < kk.length by omega]
        rw [h2]
        exact h1.below hW
      have HFB := Lib.hid hFB
      have qN := HNB.out.q
      have lN := HNB.out.lt
      have HLEN2 := HLEN.out
      have hmlI : ((kk.map kidC).length) = i := hml
      have HML := Lib.hid hml
      have HIE := Lib.hid hie
      have hil : i ≤ 4000 := by omega
      clear hAL hml hFB hlt hi hie hmlI
      by_cases h1 : 1 < NK
      · have h1' : 1 < (kidsT 59 l).length := by rw [HNK.out]; exact h1
        obtain ⟨b, o, x1, x2, x3, y4, y5, m4, z4, m5, z5, hi2, hl2, d0, d1, d2, d3, d4, hkv⟩ := HKK.out 1 h1'
        have hg1 : (kidsT 59 l).getD 1 [] = (kidsT 59 l)[1] := by simp [h1']
        have hTe := HTT.out
        rw [if_pos h1', hg1] at hTe
        have hkl : (kidsT 59 l)[1].length ≤ 4000 := by have := HF1.out; rwa [hg1] at this
        have HT := Lib.hid (rRdTx hkv (by omega))
        rw [hTe] at HT
        rw [HNK.out, show ((1 : Nat) : Int) = (1 : Int) from rfl] at hi2
        obtain ⟨tk, ts⟩ := T
        simp only at HT
        have HDD : Hid (∀ W, Below w.heap.size w W → W.cell? ⟨b, o, none⟩ = some (.int .i64 x1) ∧ W.cell? ⟨b, o + 1, none⟩ = some (.int .i64 x2) ∧ W.cell? ⟨b, o + 2, none⟩ = some (.bool x3) ∧ W.cell? ⟨b, o + 3, none⟩ = some (.slice y4 m4 z4) ∧ W.cell? ⟨b, o + 4, none⟩ = some (.slice y5 m5 z5)) := fun W hb => ⟨(hb.cell (p := ⟨b, o, none⟩) hl2).trans d0, (hb.cell (p := ⟨b, o + 1, none⟩) hl2).trans d1, (hb.cell (p := ⟨b, o + 2, none⟩) hl2).trans d2, (hb.cell (p := ⟨b, o + 3, none⟩) hl2).trans d3, (hb.cell (p := ⟨b, o + 4, none⟩) hl2).trans d4⟩
        obtain ⟨g0, g1, g2, g3, g4⟩ := HDD.out _ HWR.out
        have hlb : b < wr.heap.size := Nat.lt_of_lt_of_le hl2 HWR.out.size
        have h1I : (1 : Int) < NK := by omega
        clear d0 d1 d2 d3 d4 hkv hkl hTe hg1 h1 h1'
        go_wp2_with (((go_at_call 103); (with_reducible refine (HT.out _ HWR.out).mono ?_); rintro e w6 ⟨rfl, hbz⟩; have K1 := HRB.out.call hbz; have K2 := HBK.out.call hbz; have q1 := K1.q; have z1 := K1.fz; have l1' := K1.lt; have q2 := K2.q; have z2 := K2.fz; have l2 := K2.lt; have HR6 := Lib.hid (HAL.out _ hbz); have HC6 := Lib.hid (HWR.out.trans (hbz.mono HWR.out.size)); clear hbz K1 K2))
        refine bodyPost_ret (v := .agg #[.bool true, .int .i64 ok, .string os, .slice A8 i c8, .int .i64 tk, .string ts]) (by simp only [results, Tryz.results65]; go_simp) rfl ?_
        have s6 := HC6.out.size
        have b6 := HC6.out
        refine ⟨A8, c8, (by rw [HIE.out]; first | done | rfl | (rw [List.length_map]; done) | (rw [List.length_map]; rfl)), HFB.out _ _ (by ((repeat' (first | (with_reducible exact Below.refl _ _) | (with_reducible assumption) | (with_reducible refine Below.setCell ?_ ?_ _) | (with_reducible refine Below.alloc ?_ ?_ _) | (with_reducible refine Below.drew ?_) | (with_reducible refine below_drewN ?_ _) | (with_reducible refine Below.step (by with_reducible assumption) ?_ ?_))) <;> (first | omega | (simp; done) | (simp; omega)))) ?_, by ((repeat' (first | (with_reducible exact Below.refl _ _) | (with_reducible assumption) | (with_reducible refine Below.setCell ?_ ?_ _) | (with_reducible refine Below.alloc ?_ ?_ _) | (with_reducible refine Below.drew ?_) | (with_reducible refine below_drewN ?_ _) | (with_reducible refine Below.step (by with_reducible assumption) ?_ ?_))) <;> (first | omega | (simp; done) | (simp; omega)))⟩
        repeat' (first | with_reducible exact HR6.out | (with_reducible refine ownsRow_setCell_below ?_ (by first | (simp; done) | (simp; omega) | omega) _))
      · have h1' : ¬ 1 < (kidsT 59 l).length := by rw [HNK.out]; exact h1
        have hTe := HTT.out
        rw [if_neg h1'] at hTe
        subst hTe
        have h1I : (NK : Int) ≤ 1 := by omega
        have q1 := HRB.out.q
        have z1 := HRB.out.fz
        have l1' := HRB.out.lt
        have q2 := HBK.out.q
        have z2 := HBK.out.fz
        have l2 := HBK.out.lt
        clear h1 h1'
        go_wp2_with fail
        refine bodyPost_ret (v := .agg #[.bool true, .int .i64 ok, .string os, .slice A8 i c8, .int .i64 0, .string ⟨#[]⟩]) (by simp only [results, Tryz.results65]; go_simp) rfl ?_
        have s6 := HWR.out.size
        have b6 := HWR.out
        refine ⟨A8, c8, (by rw [HIE.out]; first | done | rfl | (rw [List.length_map]; done) | (rw [List.length_map]; rfl)), HFB.out _ _ (by ((repeat' (first | (with_reducible exact Below.refl _ _) | (with_reducible assumption) | (with_reducible refine Below.setCell ?_ ?_ _) | (with_reducible refine Below.alloc ?_ ?_ _) | (with_reducible refine Below.drew ?_) | (with_reducible refine below_drewN ?_ _) | (with_reducible refine Below.step (by with_reducible assumption) ?_ ?_))) <;> (first | omega | (simp; done) | (simp; omega)))) ?_, by ((repeat' (first | (with_reducible exact Below.refl _ _) | (with_reducible assumption) | (with_reducible refine Below.setCell ?_ ?_ _) | (with_reducible refine Below.alloc ?_ ?_ _) | (with_reducible refine Below.drew ?_) | (with_reducible refine below_drewN ?_ _) | (with_reducible refine Below.step (by with_reducible assumption) ?_ ?_))) <;> (first | omega | (simp; done) | (simp; omega)))⟩
        repeat' (first | with_reducible exact HROW.out | (with_reducible refine ownsRow_setCell_below ?_ (by first | (simp; done) | (simp; omega) | omega) _))
theorem rReadN (nv : Value) (l : List UInt8) (w : World) (hn : NdV 60 w nv l) (hL : l.length ≤ 4000) : Calls Tryz.prog 65 #[nv] w (RetRN (rdNk (kidsT 59 l)) w) := by
  unfold rdNk
  cases hc : conK ((kidsT 59 l).getD 0 []) with
  | true => exact rReadN_ref nv l w hn hL hc
  | false => exact rReadN_plain nv l w hn hL hc
end Go.Proofs.YtjjkimjdmpeddaaGreatDoor
end

/- Walk over the reference's ParseNotice; sizes of notices. -/
section
set_option linter.unusedSimpArgs false
set_option linter.unusedVariables false
namespace Go.Proofs.YtjjkimjdmpeddaaGreatDoor
open Go.RowKit Go.Cr
theorem encO_le (c n : Int) (k : Bool) (l : List UInt8) : (encO c k n l).length ≤ l.length + 10 := by
  rw [encO_len]
  have := (lenOct_len l.length).2
  omega
theorem strB_le {t : Tx} (h : dispX t = true) : (strB t).length ≤ 4 * t.2.size + 10 := by
  obtain ⟨y, hy⟩ := dispT_len h
  have e : strB t = y := by unfold strB; rw [hy]; rfl
  unfold strE at hy
  obtain ⟨c, hc, rfl⟩ := Option.map_eq_some_iff.1 hy
  rw [e]
  have h1 := encO_le 0 t.1 false c
  have h2 := encT_len hc
  have h3 : t.2.data.toList.length = t.2.size := rfl
  omega
theorem intB_flat (cs : List (List UInt8)) : (cs.map intB).flatten.length ≤ cs.flatten.length + 10 * cs.length := by
  induction cs with
  | nil => simp
  | cons c t ih =>
    have h1 : (intB c).length ≤ c.length + 10 := encO_le 0 2 false c
    simp only [List.map_cons, List.flatten_cons, List.length_append, List.length_cons]
    omega
theorem seqL_le (ls : List (List UInt8)) : (seqL ls).length ≤ ls.flatten.length + 10 := by
  rw [seqL_eq]
  exact seqB_le ls
theorem partsN_le {n : Ntc} (ho : okN n = true) : (partsN n).flatten.length ≤ 4 * n.org.2.size + 4 * n.text.2.size + n.nums.flatten.length + 10 * n.nums.length + 50 := by
  have h1 : (if n.text = tx0 then ([] : List (List UInt8)) else [strB n.text]).flatten.length ≤ 4 * n.text.2.size + 10 := by
    split
    · simp
    · rename_i hne
      have := strB_le ((okN_text ho).resolve_left hne)
      simp only [List.flatten_cons, List.flatten_nil, List.append_nil]
      exact this
  have h2 : (if n.ref then [seqL [strB n.org, seqL (n.nums.map intB)]] else ([] : List (List UInt8))).flatten.length ≤ 4 * n.org.2.size + n.nums.flatten.length + 10 * n.nums.length + 40 := by
    cases hr : n.ref with
    | true =>
      have k1 := strB_le (okN_ref ho hr)
      have k2 := seqL_le (n.nums.map intB)
      have k3 := intB_flat n.nums
      have k4 := seqL_le [strB n.org, seqL (n.nums.map intB)]
      simp only [if_true, List.flatten_cons, List.flatten_nil, List.append_nil, List.length_append] at k4 ⊢
      omega
    | false => simp
  unfold partsN
  rw [List.flatten_append, List.length_append]
  omega
theorem rdTx_size (k : List UInt8) : (rdTx k).2.size ≤ 4 * k.length := by
  unfold rdTx
  cases h : optS (numK k, kidC k) with
  | none => show (0 : Nat) ≤ _; omega
  | some p =>
    obtain ⟨n, s⟩ := p
    have h1 := optS_len h
    have h2 := kidC_len k
    have h3 : (bStr s).size = s.length := by show s.toArray.size = _; simp
    simp only at h1 ⊢
    omega
theorem map_kidC_flat (ks : List (List UInt8)) : (ks.map kidC).flatten.length ≤ ks.flatten.length := by
  induction ks with
  | nil => simp
  | cons k t ih =>
    have := kidC_len k
    simp only [List.map_cons, List.flatten_cons, List.length_append]
    omega
theorem szN_rd (b : List UInt8) (hL : b.length ≤ 4000) : SzN (rdN b) ∧ (rdN b).nums.length ≤ 4000 ∧ (rdN b).nums.flatten.length ≤ 4000 ∧ (rdN b).org.2.size ≤ 16000 ∧ (rdN b).text.2.size ≤ 16000 := by
  have hk := kidsA_cnt b
  have g0 := getD_len (kidsA b) 0
  have g1 := getD_len (kidsA b) 1
  have z0 : tx0.2.size = 0 := rfl
  have main : (rdN b).nums.length ≤ 4000 ∧ (rdN b).nums.flatten.length ≤ 4000 ∧ (rdN b).org.2.size ≤ 16000 ∧ (rdN b).text.2.size ≤ 16000 := by
    unfold rdN rdNk
    have t0 := rdTx_size ((kidsA b).getD 0 [])
    have t1 := rdTx_size ((kidsA b).getD 1 [])
    split
    · have k1 := kidsT_cnt 58 ((kidsA b).getD 0 [])
      have k2 := getD_len (kidsT 58 ((kidsA b).getD 0 [])) 0
      have k3 := getD_len (kidsT 58 ((kidsA b).getD 0 [])) 1
      have t2 := rdTx_size ((kidsT 58 ((kidsA b).getD 0 [])).getD 0 [])
      have k4 := kidsT_cnt 57 ((kidsT 58 ((kidsA b).getD 0 [])).getD 1 [])
      have k5 := map_kidC_flat (kidsT 57 ((kidsT 58 ((kidsA b).getD 0 [])).getD 1 []))
      simp only [List.length_map]
      refine ⟨by omega, by omega, by omega, ?_⟩
      split
      · omega
      · rw [z0]; omega
    · simp only [List.length_nil, List.flatten_nil, z0]
      refine ⟨by omega, by omega, by omega, ?_⟩
      split
      · omega
      · rw [z0]; omega
  exact ⟨⟨by omega, by omega, by omega, by omega⟩, main⟩
def RetRPn (w : World) (e : Ending) (w' : World) : Prop := e = .returned (.tuple #[.agg #[.bool false, .int .i64 0, .string ⟨#[]⟩, .slice none 0 0, .int .i64 0, .string ⟨#[]⟩], .bool false]) ∧ Below w.heap.size w w'
def RetRPz (n : Ntc) (w : World) (e : Ending) (w' : World) : Prop := ∃ A k, e = .returned (.tuple #[nV n (.slice A n.nums.length k), .bool true]) ∧ IsN w' (nV n (.slice A n.nums.length k)) n ∧ Below w.heap.size w w'
def RetDN (n : Ntc) (w : World) (e : Ending) (w' : World) : Prop := Below w.heap.size w w' ∧ ∃ (c1 c2 : Int) (c3 : Bool) (a4 a5 : Option Addr) (n4 k4 n5 k5 : Nat) (t : Bool),
  e = .returned (.tuple #[.agg #[.int .i64 c1, .int .i64 c2, .bool c3, .slice a4 n4 k4, .slice a5 n5 k5], .bool t]) ∧
    ∀ W, Below w'.heap.size w' W → Calls Tryz.prog 65 #[.agg #[.int .i64 c1, .int .i64 c2, .bool c3, .slice a4 n4 k4, .slice a5 n5 k5]] W (RetRN n W)
theorem rDeepN (v : Value) (b : List UInt8) (w : World) (hv : IsB w v b) (hL : b.length ≤ 4000) : Calls Tryz.prog 64 #[v] w (RetDN (rdN b) w) := by
  refine (rDeepV v b w hv (by omega)).mono fun e w' ⟨nv, t, he, hn, hb⟩ => ?_
  obtain ⟨c1, c2, c3, a4, a5, n4, k4, n5, k5, hs⟩ := hn.shape
  subst hs
  refine ⟨hb, c1, c2, c3, a4, a5, n4, k4, n5, k5, t, he, fun W hW => ?_⟩
  have := rReadN _ _ W (hn.below hW) (by split; exact hL; simp)
  rw [kidsA_eq] at this
  exact this
set_option maxRecDepth 100000 in
set_option maxHeartbeats 8000000 in
theorem rParN_gen (v : Value) (b : List UInt8) (w : World) (hv : IsB w v b) (hL : b.length ≤ 4000) (n : Ntc) (hn : rdN b = n) :
    (okN n = false → Calls Tryz.prog 26 #[v] w (RetRPn w)) ∧ (okN n = true → seqL (partsN n) ≠ b → Calls Tryz.prog 26 #[v] w (RetRPn w)) ∧ (okN n = true → seqL (partsN n) = b → Calls Tryz.prog 26 #[v] w (RetRPz n w)) := by
  have HD := Lib.hid (fun W (h : IsB W v b) => rDeepN v b W h hL)
  have HV := Lib.hid hv
  obtain ⟨hz, m1, m2, m3, m4⟩ := szN_rd b hL
  have HBy := Lib.hid (fun W u x (h : IsB W u x) (h2 : IsB W v b) => bytes_any u v x b W h h2)
  rw [hn] at HD hz m1 m2 m3 m4
  clear hn
  have HMn : okN n = false → Hid (∀ W u, IsN W u n → Calls Tryz.prog 20 #[u] W (RetB (.tuple #[.slice none 0 0, .int .i64 8]) W)) := fun ho => Lib.hid fun W u h => rNoticeMar_no u n W h hz ho
  have HMy : okN n = true → Hid (∀ W u, IsN W u n → Calls Tryz.prog 20 #[u] W (RetOidY (seqL (partsN n)) W)) := fun ho => Lib.hid fun W u h => rNoticeMar u n W h hz (by have := partsN_le ho; omega) ho
  obtain ⟨A, k, rfl⟩ := isB_slice hv
  unfold RetDN RetRN nV at HD
  unfold RetRPn RetRPz nV
  obtain ⟨r, hr⟩ : ∃ r, n.ref = r := ⟨_, rfl⟩
  obtain ⟨ok, hok⟩ : ∃ ok, n.org.1 = ok := ⟨_, rfl⟩
  obtain ⟨os, hos⟩ : ∃ os, n.org.2 = os := ⟨_, rfl⟩
  obtain ⟨tk, htk⟩ : ∃ tk, n.text.1 = tk := ⟨_, rfl⟩
  obtain ⟨ts, hts⟩ : ∃ ts, n.text.2 = ts := ⟨_, rfl⟩
  obtain ⟨nl, hnl⟩ : ∃ nl, n.nums.length = nl := ⟨_, rfl⟩
  rw [hr, hok, hos, htk, hts, hnl] at HD
  rw [hr, hok, hos, htk, hts, hnl]
  have HNN : Hid (∀ base W A k, OwnN base W n A k → IsN W (.agg #[.bool r, .int .i64 ok, .string os, .slice A nl k, .int .i64 tk, .string ts]) n) := fun base W A k h => by
    have := h.isN
    unfold nV at this
    rwa [hr, hok, hos, htk, hts, hnl] at this
  generalize seqL (partsN n) = c at *
  clear hv hL hz m1 m2 m3 m4 hr hok hos htk hts hnl
  refine ⟨fun ho => ?_, fun ho hne => ?_, fun ho heq => ?_⟩
  · have HM := HMn ho
    clear HMn HMy ho HBy
    go_enter Tryz.func26, Tryz.ntmps26
    go_wp2_with (first | ((go_at_call 64); (with_reducible refine (HD.out _ (HV.out.alloc _)).mono ?_); rintro e w1 ⟨hbw1, c1, c2, c3, a4, a5, n4, k4, n5, k5, t, rfl, hrd⟩; have HRD := Lib.hid hrd; have HK1 := Lib.hid (Blk.call (Blk.new w 30 #[.bool false, .int .i64 0, .string ⟨#[]⟩, .slice none 0 0, .int .i64 0, .string ⟨#[]⟩]) hbw1); have HB1 := Lib.hid (((Below.refl w.heap.size w).alloc (Nat.le_refl _) (.cells #[.bool false, .int .i64 0, .string ⟨#[]⟩, .slice none 0 0, .int .i64 0, .string ⟨#[]⟩] 30)).trans (hbw1.mono (by first | (simp; done) | (simp; omega) | omega))); clear hrd hbw1) | ((go_at_call 65); (with_reducible refine (HRD.out _ ((Below.refl _ w1).alloc (Nat.le_refl _) _)).mono ?_); rintro e w2 ⟨A2, k2, rfl, ho2, hbw2⟩; have HK2 := Lib.hid ((HK1.out.alloc _).call hbw2); have HB2 := Lib.hid ((HB1.out.alloc HB1.out.size (.cells #[.int .i64 c1, .int .i64 c2, .bool c3, .slice a4 n4 k4, .slice a5 n5 k5] 91)).trans (hbw2.mono (by have := HB1.out.size; simp; omega))); have HO2 := Lib.hid (ho2.more (base' := w1.heap.size) (by simp)); clear ho2 hbw2) | ((go_at_call 20); (with_reducible refine (HM.out _ _ (HNN.out _ _ _ _ (HO2.out.alloc _))).mono ?_); rintro e w3 ⟨rfl, hbw3⟩; have K3 := (HK2.out.alloc (.cells #[.bool r, .int .i64 ok, .string os, .slice A2 nl k2, .int .i64 tk, .string ts] 30)).call hbw3; have q3 := K3.q; have z3 := K3.fz; have l3 := K3.lt; have HB3 := Lib.hid ((HB2.out.alloc HB2.out.size (.cells #[.bool r, .int .i64 ok, .string os, .slice A2 nl k2, .int .i64 tk, .string ts] 30)).trans (hbw3.mono (by have := HB2.out.size; simp; omega))); clear K3; clear hbw3))
    refine bodyPost_ret (v := .tuple #[.agg #[.bool false, .int .i64 0, .string ⟨#[]⟩, .slice none 0 0, .int .i64 0, .string ⟨#[]⟩], .bool false]) (by simp only [results, Tryz.results26]; go_simp) rfl ?_
    have s3 := HB3.out.size
    have b3 := HB3.out
    exact ⟨rfl, by ((repeat' (first | (with_reducible exact Below.refl _ _) | (with_reducible assumption) | (with_reducible refine Below.setCell ?_ ?_ _) | (with_reducible refine Below.alloc ?_ ?_ _) | (with_reducible refine Below.drew ?_) | (with_reducible refine below_drewN ?_ _) | (with_reducible refine Below.step (by with_reducible assumption) ?_ ?_))) <;> (first | omega | (simp; done) | (simp; omega)))⟩
  · have HM := HMy ho
    have HBf : Hid (∀ W u, IsB W u c → IsB W (.slice A b.length k) b → Calls Tryz.prog 21 #[u, .slice A b.length k] W (RetB (.bool false) W)) := Lib.hid fun W u h h2 => by
      have := HBy.out W u c h h2
      rwa [decide_eq_false hne] at this
    clear HMn HMy ho HBy hne
    go_enter Tryz.func26, Tryz.ntmps26
    go_wp2_with (first | ((go_at_call 64); (with_reducible refine (HD.out _ (HV.out.alloc _)).mono ?_); rintro e w1 ⟨hbw1, c1, c2, c3, a4, a5, n4, k4, n5, k5, t, rfl, hrd⟩; have HRD := Lib.hid hrd; have HK1 := Lib.hid (Blk.call (Blk.new w 30 #[.bool false, .int .i64 0, .string ⟨#[]⟩, .slice none 0 0, .int .i64 0, .string ⟨#[]⟩]) hbw1); have HB1 := Lib.hid (((Below.refl w.heap.size w).alloc (Nat.le_refl _) (.cells #[.bool false, .int .i64 0, .string ⟨#[]⟩, .slice none 0 0, .int .i64 0, .string ⟨#[]⟩] 30)).trans (hbw1.mono (by first | (simp; done) | (simp; omega) | omega))); clear hrd hbw1) | ((go_at_call 65); (with_reducible refine (HRD.out _ ((Below.refl _ w1).alloc (Nat.le_refl _) _)).mono ?_); rintro e w2 ⟨A2, k2, rfl, ho2, hbw2⟩; have HK2 := Lib.hid ((HK1.out.alloc _).call hbw2); have HB2 := Lib.hid ((HB1.out.alloc HB1.out.size (.cells #[.int .i64 c1, .int .i64 c2, .bool c3, .slice a4 n4 k4, .slice a5 n5 k5] 91)).trans (hbw2.mono (by have := HB1.out.size; simp; omega))); have HO2 := Lib.hid (ho2.more (base' := w1.heap.size) (by simp)); clear ho2 hbw2) | ((go_at_call 20); (with_reducible refine (HM.out _ _ (HNN.out _ _ _ _ (HO2.out.alloc _))).mono ?_); rintro e w3 ⟨v3, rfl, ho3, hbw3⟩; obtain ⟨A3, k3, rfl⟩ := isB_slice ho3.isB; have HV3 := Lib.hid ho3.isB; have HK3 := Lib.hid ((HK2.out.alloc (.cells #[.bool r, .int .i64 ok, .string os, .slice A2 nl k2, .int .i64 tk, .string ts] 30)).call hbw3); have HJ3 := Lib.hid ((Blk.new w2 30 #[.bool r, .int .i64 ok, .string os, .slice A2 nl k2, .int .i64 tk, .string ts]).call hbw3); have HO3 := Lib.hid ((HO2.out.alloc (.cells #[.bool r, .int .i64 ok, .string os, .slice A2 nl k2, .int .i64 tk, .string ts] 30)).below hbw3); have HB3 := Lib.hid ((HB2.out.alloc HB2.out.size (.cells #[.bool r, .int .i64 ok, .string os, .slice A2 nl k2, .int .i64 tk, .string ts] 30)).trans (hbw3.mono (by have := HB2.out.size; simp; omega))); clear hbw3 ho3) | ((go_at_call 21); (with_reducible refine (HBf.out _ _ HV3.out (HV.out.below HB3.out)).mono ?_); rintro e w4 ⟨rfl, hbw4⟩; have K4 := HK3.out.call hbw4; have q4 := K4.q; have z4 := K4.fz; have l4 := K4.lt; have J4 := HJ3.out.call hbw4; have p4 := J4.q; have r4 := J4.fz; have g4 := J4.lt; have HB4 := Lib.hid (HB3.out.trans (hbw4.mono HB3.out.size)); have K4 := Lib.hid K4; have HG4 := Lib.hid HK1.out.lt; clear J4; clear hbw4))
    refine bodyPost_ret (v := .tuple #[.agg #[.bool false, .int .i64 0, .string ⟨#[]⟩, .slice none 0 0, .int .i64 0, .string ⟨#[]⟩], .bool false]) (by simp only [results, Tryz.results26]; go_simp) rfl ?_
    have s4 := HB4.out.size
    have b4 := HB4.out
    exact ⟨rfl, by ((repeat' (first | (with_reducible exact Below.refl _ _) | (with_reducible assumption) | (with_reducible refine Below.setCell ?_ ?_ _) | (with_reducible refine Below.alloc ?_ ?_ _) | (with_reducible refine Below.drew ?_) | (with_reducible refine below_drewN ?_ _) | (with_reducible refine Below.step (by with_reducible assumption) ?_ ?_))) <;> (first | omega | (simp; done) | (simp; omega)))⟩
  · have HM := HMy ho
    have HBt : Hid (∀ W u, IsB W u c → IsB W (.slice A b.length k) b → Calls Tryz.prog 21 #[u, .slice A b.length k] W (RetB (.bool true) W)) := Lib.hid fun W u h h2 => by
      have := HBy.out W u c h h2
      rwa [decide_eq_true heq] at this
    clear HMn HMy ho HBy heq
    go_enter Tryz.func26, Tryz.ntmps26
    go_wp2_with (first | ((go_at_call 64); (with_reducible refine (HD.out _ (HV.out.alloc _)).mono ?_); rintro e w1 ⟨hbw1, c1, c2, c3, a4, a5, n4, k4, n5, k5, t, rfl, hrd⟩; have HRD := Lib.hid hrd; have HK1 := Lib.hid (Blk.call (Blk.new w 30 #[.bool false, .int .i64 0, .string ⟨#[]⟩, .slice none 0 0, .int .i64 0, .string ⟨#[]⟩]) hbw1); have HB1 := Lib.hid (((Below.refl w.heap.size w).alloc (Nat.le_refl _) (.cells #[.bool false, .int .i64 0, .string ⟨#[]⟩, .slice none 0 0, .int .i64 0, .string ⟨#[]⟩] 30)).trans (hbw1.mono (by first | (simp; done) | (simp; omega) | omega))); clear hrd hbw1) | ((go_at_call 65); (with_reducible refine (HRD.out _ ((Below.refl _ w1).alloc (Nat.le_refl _) _)).mono ?_); rintro e w2 ⟨A2, k2, rfl, ho2, hbw2⟩; have HK2 := Lib.hid ((HK1.out.alloc _).call hbw2); have HB2 := Lib.hid ((HB1.out.alloc HB1.out.size (.cells #[.int .i64 c1, .int .i64 c2, .bool c3, .slice a4 n4 k4, .slice a5 n5 k5] 91)).trans (hbw2.mono (by have := HB1.out.size; simp; omega))); have HO2 := Lib.hid (ho2.more (base' := w1.heap.size) (by simp)); clear ho2 hbw2) | ((go_at_call 20); (with_reducible refine (HM.out _ _ (HNN.out _ _ _ _ (HO2.out.alloc _))).mono ?_); rintro e w3 ⟨v3, rfl, ho3, hbw3⟩; obtain ⟨A3, k3, rfl⟩ := isB_slice ho3.isB; have HV3 := Lib.hid ho3.isB; have HK3 := Lib.hid ((HK2.out.alloc (.cells #[.bool r, .int .i64 ok, .string os, .slice A2 nl k2, .int .i64 tk, .string ts] 30)).call hbw3); have HJ3 := Lib.hid ((Blk.new w2 30 #[.bool r, .int .i64 ok, .string os, .slice A2 nl k2, .int .i64 tk, .string ts]).call hbw3); have HO3 := Lib.hid ((HO2.out.alloc (.cells #[.bool r, .int .i64 ok, .string os, .slice A2 nl k2, .int .i64 tk, .string ts] 30)).below hbw3); have HB3 := Lib.hid ((HB2.out.alloc HB2.out.size (.cells #[.bool r, .int .i64 ok, .string os, .slice A2 nl k2, .int .i64 tk, .string ts] 30)).trans (hbw3.mono (by have := HB2.out.size; simp; omega))); clear hbw3 ho3) | ((go_at_call 21); (with_reducible refine (HBt.out _ _ HV3.out (HV.out.below HB3.out)).mono ?_); rintro e w4 ⟨rfl, hbw4⟩; have K4 := HK3.out.call hbw4; have q4 := K4.q; have z4 := K4.fz; have l4 := K4.lt; have J4 := HJ3.out.call hbw4; have p4 := J4.q; have r4 := J4.fz; have g4 := J4.lt; have HB4 := Lib.hid (HB3.out.trans (hbw4.mono HB3.out.size)); have K4 := Lib.hid K4; have HG4 := Lib.hid HK1.out.lt; clear J4; have HO4 := Lib.hid (HO3.out.below hbw4); clear hbw4))
    refine bodyPost_ret (v := .tuple #[.agg #[.bool r, .int .i64 ok, .string os, .slice A2 nl k2, .int .i64 tk, .string ts], .bool true]) (by simp only [results, Tryz.results26]; go_simp) rfl ?_
    have s4 := HB4.out.size
    have b4 := HB4.out
    exact ⟨A2, k2, rfl, HNN.out _ _ _ _ (HO4.out.setN K4.out HG4.out r ok tk os ts A2 nl k2), by ((repeat' (first | (with_reducible exact Below.refl _ _) | (with_reducible assumption) | (with_reducible refine Below.setCell ?_ ?_ _) | (with_reducible refine Below.alloc ?_ ?_ _) | (with_reducible refine Below.drew ?_) | (with_reducible refine below_drewN ?_ _) | (with_reducible refine Below.step (by with_reducible assumption) ?_ ?_))) <;> (first | omega | (simp; done) | (simp; omega)))⟩
theorem rParN_none (v : Value) (b : List UInt8) (w : World) (hv : IsB w v b) (hL : b.length ≤ 4000) (h : rparN b = none) : Calls Tryz.prog 26 #[v] w (RetRPn w) := by
  obtain ⟨h1, h2, _⟩ := rParN_gen v b w hv hL _ rfl
  cases ho : okN (rdN b) with
  | false => exact h1 ho
  | true =>
    refine h2 ho fun he => ?_
    have : rparN b = some (rdN b) := by unfold rparN marN; rw [if_pos ho, he]; simp
    rw [h] at this
    cases this
theorem rParN_some (v : Value) (b : List UInt8) (n : Ntc) (w : World) (hv : IsB w v b) (hL : b.length ≤ 4000) (h : rparN b = some n) : Calls Tryz.prog 26 #[v] w (RetRPz n w) := by
  unfold rparN at h
  split at h
  · rename_i hm
    injection h with h
    unfold marN at hm
    split at hm
    · rename_i ho
      injection hm with hm
      rw [h] at ho hm
      exact (rParN_gen v b w hv hL n h).2.2 ho hm
    · cases hm
  · cases h
end Go.Proofs.YtjjkimjdmpeddaaGreatDoor
end

/- Walks over cretulabase.Slices and cretulabase.Notice. -/
section
set_option linter.unusedSimpArgs false
set_option linter.unusedVariables false
namespace Go.Proofs.YtjjkimjdmpeddaaGreatDoor
open Go.RowKit Go.Cr
def Rbs (la lb : List (List UInt8)) (w : World) (ix : Value) (wr : World) : Prop := ∃ i : Nat, ix = .int .i64 (i : Int) ∧ i ≤ la.length ∧ i ≤ lb.length ∧ (∀ j, j < i → la.getD j [] = lb.getD j []) ∧ Below w.heap.size w wr
theorem lists_eq {la lb : List (List UInt8)} (hn : la.length = lb.length) (h : ∀ j, j < la.length → la.getD j [] = lb.getD j []) : la = lb := by
  apply List.ext_getElem hn
  intro j h1 h2
  have := h j h1
  simpa [h1, h2] using this
set_option maxRecDepth 100000 in
set_option maxHeartbeats 8000000 in
theorem basS (a b : Value) (la lb : List (List UInt8)) (w : World) (ha : IsBs w a la) (hb : IsBs w b lb) : Calls Tryz.prog 63 #[a, b] w (RetB (.bool (decide (la = lb))) w) := by
  have hlena := ha.len (P := Tryz.prog) ulBs
  have hlenb := hb.len (P := Tryz.prog) ulBs
  have hmxa := ha.maxl
  have hmxb := hb.maxl
  have HA := Lib.hid ha
  have HB := Lib.hid hb
  obtain ⟨A, c, rfl⟩ := isBs_slice ha
  obtain ⟨A', c', rfl⟩ := isBs_slice hb
  obtain ⟨R, hR⟩ : ∃ R, decide (la = lb) = R := ⟨_, rfl⟩
  rw [hR]
  have HR := Lib.hid hR
  clear ha hb hR
  go_enter Tryz.func63, Tryz.ntmps63
  go_wp2_with fail
  go_loopw [5] (fun ix wr => Rbs la lb w ix wr) (fun ix _ => la.length + 1 - (intOf ix).toNat)
  case atStart => exact ⟨0, rfl, Nat.zero_le _, Nat.zero_le _, fun j h => by omega, Below.refl _ _⟩
  case round =>
    obtain ⟨i, rfl, hi, hi', hall, hbel⟩ := hrel
    have HALL := Lib.hid hall
    have HBR := Lib.hid hbel
    clear hall
    by_cases hlt : i < la.length
    · have hltI : (i : Int) < la.length := by omega
      by_cases hlt' : i < lb.length
      · have hltI' : (i : Int) < lb.length := by omega
        obtain ⟨b2, o2, v2, hi2, hl2, hc2, hI2⟩ := (HA.out.below hbel).at_ (P := Tryz.prog) ulBs szBs .i64 (i := (i : Int)) (by omega) (by omega)
        obtain ⟨b3, o3, v3, hi3, hl3, hc3, hI3⟩ := (HB.out.below hbel).at_ (P := Tryz.prog) ulBs szBs .i64 (i := (i : Int)) (by omega) (by omega)
        rw [Int.toNat_natCast] at hI2 hI3
        obtain ⟨A2, k2, rfl⟩ := isB_slice hI2
        obtain ⟨A3, k3, rfl⟩ := isB_slice hI3
        have HI2 := Lib.hid hI2
        have HI3 := Lib.hid hI3
        have HC := Lib.hid (fun W (h : IsB W (.slice A2 (la.getD i []).length k2) (la.getD i [])) (h' : IsB W (.slice A3 (lb.getD i []).length k3) (lb.getD i [])) => bytes_any _ _ _ _ W h h')
        obtain ⟨C, hC⟩ : ∃ C, decide (la.getD i [] = lb.getD i []) = C := ⟨_, rfl⟩
        rw [hC] at HC
        have HSS : Hid (∀ W, Below wr.heap.size wr W → W.cell? ⟨b2, o2, none⟩ = some (.slice A2 (la.getD i []).length k2) ∧ W.cell? ⟨b3, o3, none⟩ = some (.slice A3 (lb.getD i []).length k3)) := fun W hW => ⟨(hW.cell (p := ⟨b2, o2, none⟩) hl2).trans hc2, (hW.cell (p := ⟨b3, o3, none⟩) hl3).trans hc3⟩
        have hEQ : C = true → la.getD i [] = lb.getD i [] := fun h => of_decide_eq_true (hC.trans h)
        have hNE : C = false → R = false := fun h => by
          rw [← HR.out]
          refine decide_eq_false fun he => ?_
          subst he
          rw [h] at hC
          exact absurd rfl (of_decide_eq_false hC)
        have HEQ := Lib.hid hEQ
        have HNE := Lib.hid hNE
        clear hI2 hI3 hC hbel hEQ hNE
        generalize hgx : la.getD i [] = x at *
        generalize hgy : lb.getD i [] = y at *
        have HGX := Lib.hid hgx
        have HGY := Lib.hid hgy
        clear hgx hgy
        go_wp2_with fail
        have hcur := Lib.hid ((Below.refl wr.heap.size wr).drew)
        go_region_held3 (fun W' => W'.cell? ⟨b2, o2, none⟩ = some (.slice A2 x.length k2) ∧ W'.cell? ⟨b3, o3, none⟩ = some (.slice A3 y.length k3))
          (first | go_keep | exact HSS.out _ hcur.out)
          (first | ((go_at_call 21); (with_reducible refine (HC.out _ (HI2.out.below hcur.out) (HI3.out.below hcur.out)).mono ?_); rintro e wz ⟨rfl, hbz⟩; have hcur := Lib.hid (hcur.out.trans (hbz.mono hcur.out.size)); clear hbz))
        cases C with
        | true =>
          go_wp2_with fail
          go_roundw
          case rel =>
            refine ⟨i + 1, by go_num, by omega, by omega, fun j hj => ?_, HBR.out.trans (hcur.out.mono HBR.out.size)⟩
            by_cases hji : j < i
            · exact HALL.out j hji
            · obtain rfl : j = i := by omega
              rw [HGX.out, HGY.out]
              exact HEQ.out (by trivial)
          case measure => simp [intOf]; omega
        | false =>
          go_wp2_with fail
          go_ret
          exact ⟨by rw [HNE.out (by trivial)]; rfl, HBR.out.trans (hcur.out.mono HBR.out.size)⟩
      · have hge' : (lb.length : Int) ≤ i := by omega
        have hRf : R = false := by
          rw [← HR.out]
          exact decide_eq_false (fun h => by subst h; omega)
        have HRF := Lib.hid hRf
        have hne : ((la.length : Int) == lb.length) = false := beq_eq_false_iff_ne.2 (by omega)
        clear hRf hlt hlt'
        go_wp2_with fail
        go_ret
        exact ⟨by rw [HRF.out]; first | rfl | simp [*], HBR.out⟩
    · have hge : (la.length : Int) ≤ i := by omega
      have hie : i = la.length := by omega
      obtain ⟨E, hE⟩ : ∃ E, ((la.length : Int) == lb.length) = E := ⟨_, rfl⟩
      have hRE : R = E := by
        rw [← HR.out, ← hE]
        rw [Bool.eq_iff_iff, decide_eq_true_eq, beq_iff_eq]
        exact ⟨fun h => by rw [h], fun h => lists_eq (by omega) fun j hj => HALL.out j (by omega)⟩
      have HRE := Lib.hid hRE
      clear hlt hi hRE hbel hi'
      go_wp2_with fail
      go_ret
      exact ⟨by rw [HRE.out]; first | rfl | simp [*], HBR.out⟩
set_option maxRecDepth 100000 in
set_option maxHeartbeats 8000000 in
theorem basN (v1 v2 : Value) (n m : Ntc) (w : World) (h1 : IsN w v1 n) (h2 : IsN w v2 m) (R : Bool) (hR : R = true ↔ n = m) : Calls Tryz.prog 25 #[v1, v2] w (RetB (.bool R) w) := by
  obtain ⟨u1, rfl, hu1⟩ := h1
  obtain ⟨u2, rfl, hu2⟩ := h2
  obtain ⟨r, ⟨ok, os⟩, nums, ⟨tk, ts⟩⟩ := n
  obtain ⟨r', ⟨ok', os'⟩, nums', ⟨tk', ts'⟩⟩ := m
  simp only [Ntc.mk.injEq, Prod.mk.injEq] at hR
  simp only at hu1 hu2 ⊢
  have HU1 := Lib.hid hu1
  have HU2 := Lib.hid hu2
  have HS : Hid (∀ W, IsBs W u1 nums → IsBs W u2 nums' → Calls Tryz.prog 63 #[u1, u2] W (RetB (.bool (decide (nums = nums'))) W)) := fun W a b => basS u1 u2 nums nums' W a b
  obtain ⟨A1, k1, rfl⟩ := isBs_slice hu1
  obtain ⟨A2, k2, rfl⟩ := isBs_slice hu2
  generalize hn1 : nums.length = n1 at *
  generalize hn2 : nums'.length = n2 at *
  clear hn1 hn2 hu1 hu2
  have HC1 := Lib.hid (((Below.refl w.heap.size w).alloc (Nat.le_refl _) (.cells #[.bool r, .int .i64 ok, .string os, .slice A1 n1 k1, .int .i64 tk, .string ts] 30)).alloc (by simp) (.cells #[.bool r', .int .i64 ok', .string os', .slice A2 n2 k2, .int .i64 tk', .string ts'] 30))
  by_cases e1 : r = r'
  · subst e1
    have hb1 : (r == r) = true := by simp
    by_cases e2 : ok = ok'
    · subst e2
      by_cases e3 : os = os'
      · subst e3
        have hb3 := strEq0 os
        by_cases e4 : nums = nums'
        · rw [decide_eq_true e4] at HS
          by_cases e5 : tk = tk'
          · subst e5
            by_cases e6 : ts = ts'
            · obtain rfl : R = true := hR.2 ⟨rfl, ⟨rfl, rfl⟩, e4, rfl, e6⟩
              subst e6
              have hb6 := strEq0 ts
              clear hR e4
              go_enter Tryz.func25, Tryz.ntmps25
              go_wp2_with (((go_at_call 63); (with_reducible refine (HS.out _ (HU1.out.below HC1.out) (HU2.out.below HC1.out)).mono ?_); rintro e wz ⟨rfl, hbz⟩; have HC2 := Lib.hid (HC1.out.trans (hbz.mono HC1.out.size)); have KA := Blk.call ((Blk.new w 30 #[.bool r, .int .i64 ok, .string os, .slice A1 n1 k1, .int .i64 tk, .string ts]).alloc (.cells #[.bool r, .int .i64 ok, .string os, .slice A2 n2 k2, .int .i64 tk, .string ts] 30)) hbz; have qKA := KA.q; have lKA := KA.lt; have KB := Blk.call (blk_in (w := w.alloc (.cells #[.bool r, .int .i64 ok, .string os, .slice A1 n1 k1, .int .i64 tk, .string ts] 30)) (g := w.heap.size + 1) (t := 30) (cs := #[.bool r, .int .i64 ok, .string os, .slice A2 n2 k2, .int .i64 tk, .string ts]) (by simp)) hbz; have qKB := KB.q; have lKB := KB.lt; clear KA KB hbz))
              go_ret
              exact ⟨by first | rfl | simp [*], HC2.out⟩
            · obtain rfl : R = false := Bool.eq_false_iff.2 fun h => e6 (hR.1 h).2.2.2.2
              have hb6 := strNe0 e6
              clear hR e4 e6
              go_enter Tryz.func25, Tryz.ntmps25
              go_wp2_with (((go_at_call 63); (with_reducible refine (HS.out _ (HU1.out.below HC1.out) (HU2.out.below HC1.out)).mono ?_); rintro e wz ⟨rfl, hbz⟩; have HC2 := Lib.hid (HC1.out.trans (hbz.mono HC1.out.size)); have KA := Blk.call ((Blk.new w 30 #[.bool r, .int .i64 ok, .string os, .slice A1 n1 k1, .int .i64 tk, .string ts]).alloc (.cells #[.bool r, .int .i64 ok, .string os, .slice A2 n2 k2, .int .i64 tk, .string ts'] 30)) hbz; have qKA := KA.q; have lKA := KA.lt; have KB := Blk.call (blk_in (w := w.alloc (.cells #[.bool r, .int .i64 ok, .string os, .slice A1 n1 k1, .int .i64 tk, .string ts] 30)) (g := w.heap.size + 1) (t := 30) (cs := #[.bool r, .int .i64 ok, .string os, .slice A2 n2 k2, .int .i64 tk, .string ts']) (by simp)) hbz; have qKB := KB.q; have lKB := KB.lt; clear KA KB hbz))
              go_ret
              exact ⟨by first | rfl | simp [*], HC2.out⟩
          · obtain rfl : R = false := Bool.eq_false_iff.2 fun h => e5 (hR.1 h).2.2.2.1
            have hb5 : (tk == tk') = false := beq_eq_false_iff_ne.2 e5
            clear hR e4 e5
            go_enter Tryz.func25, Tryz.ntmps25
            go_wp2_with (((go_at_call 63); (with_reducible refine (HS.out _ (HU1.out.below HC1.out) (HU2.out.below HC1.out)).mono ?_); rintro e wz ⟨rfl, hbz⟩; have HC2 := Lib.hid (HC1.out.trans (hbz.mono HC1.out.size)); have KA := Blk.call ((Blk.new w 30 #[.bool r, .int .i64 ok, .string os, .slice A1 n1 k1, .int .i64 tk, .string ts]).alloc (.cells #[.bool r, .int .i64 ok, .string os, .slice A2 n2 k2, .int .i64 tk', .string ts'] 30)) hbz; have qKA := KA.q; have lKA := KA.lt; have KB := Blk.call (blk_in (w := w.alloc (.cells #[.bool r, .int .i64 ok, .string os, .slice A1 n1 k1, .int .i64 tk, .string ts] 30)) (g := w.heap.size + 1) (t := 30) (cs := #[.bool r, .int .i64 ok, .string os, .slice A2 n2 k2, .int .i64 tk', .string ts']) (by simp)) hbz; have qKB := KB.q; have lKB := KB.lt; clear KA KB hbz))
            go_ret
            exact ⟨by first | rfl | simp [*], HC2.out⟩
        · rw [decide_eq_false e4] at HS
          obtain rfl : R = false := Bool.eq_false_iff.2 fun h => e4 (hR.1 h).2.2.1
          clear hR e4
          go_enter Tryz.func25, Tryz.ntmps25
          go_wp2_with (((go_at_call 63); (with_reducible refine (HS.out _ (HU1.out.below HC1.out) (HU2.out.below HC1.out)).mono ?_); rintro e wz ⟨rfl, hbz⟩; have HC2 := Lib.hid (HC1.out.trans (hbz.mono HC1.out.size)); have KA := Blk.call ((Blk.new w 30 #[.bool r, .int .i64 ok, .string os, .slice A1 n1 k1, .int .i64 tk, .string ts]).alloc (.cells #[.bool r, .int .i64 ok, .string os, .slice A2 n2 k2, .int .i64 tk', .string ts'] 30)) hbz; have qKA := KA.q; have lKA := KA.lt; have KB := Blk.call (blk_in (w := w.alloc (.cells #[.bool r, .int .i64 ok, .string os, .slice A1 n1 k1, .int .i64 tk, .string ts] 30)) (g := w.heap.size + 1) (t := 30) (cs := #[.bool r, .int .i64 ok, .string os, .slice A2 n2 k2, .int .i64 tk', .string ts']) (by simp)) hbz; have qKB := KB.q; have lKB := KB.lt; clear KA KB hbz))
          go_ret
          exact ⟨by first | rfl | simp [*], HC2.out⟩
      · obtain rfl : R = false := Bool.eq_false_iff.2 fun h => e3 (hR.1 h).2.1.2
        have hb3 := strNe0 e3
        clear hR e3
        go_enter Tryz.func25, Tryz.ntmps25
        go_wp2_with fail
        go_ret
        exact ⟨by first | rfl | simp [*], HC1.out⟩
    · obtain rfl : R = false := Bool.eq_false_iff.2 fun h => e2 (hR.1 h).2.1.1
      have hb2 : (ok == ok') = false := beq_eq_false_iff_ne.2 e2
      clear hR e2
      go_enter Tryz.func25, Tryz.ntmps25
      go_wp2_with fail
      go_ret
      exact ⟨by first | rfl | simp [*], HC1.out⟩
  · obtain rfl : R = false := Bool.eq_false_iff.2 fun h => e1 (hR.1 h).1
    have hb1 : (r == r') = false := beq_eq_false_iff_ne.2 e1
    clear hR e1
    go_enter Tryz.func25, Tryz.ntmps25
    go_wp2_with fail
    go_ret
    exact ⟨by first | rfl | simp [*], HC1.out⟩
end Go.Proofs.YtjjkimjdmpeddaaGreatDoor
end
