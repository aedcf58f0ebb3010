/- The parts RefA, Rev, Cat, RefB of one proof, one behind the other. -/
import Derived.Test.YtjjkimjdmpeddaaGreatDoorJ10
import Derived.Test.YtjjkimjdmpeddaaGreatDoorJ01
import Derived.Deep.QuietTactic
import Derived.BigQuiet
import Derived.Test.YtjjkimjdmpeddaaGreatDoorJ02
import Derived.Outline

/- Walks over the references of layers 1 and 2: Minimal, Compare, Uint, identifiers, Length. -/
section
set_option linter.unusedSimpArgs false
set_option linter.unusedVariables false
namespace Go.Proofs.YtjjkimjdmpeddaaGreatDoor
open Go.RowKit Go.Cr

theorem infoB : (Tryz.prog.info? 5).map (fun i => (i.zero, i.size, i.bytes)) = some (some (.int .u8 0), 1, 1) := by kernel_rfl

set_option maxRecDepth 100000 in
theorem rReadId_bad (n : Int) (w : World) (h0 : 0 ≤ n) (h1 : n < 256) (h : n % 32 = 31) :
    Calls Tryz.prog 201 #[.int .u8 n] w fun e w' => e = .returned (.tuple #[.int .i64 0, .bool false, .int .i64 0, .int .i64 3]) ∧ w = w' := by
  go_enter Tryz.func201, Tryz.ntmps201
  go_wp2
  exact bodyPost_ret (results_tmp4 rfl _ _ _) rfl ⟨rfl, rfl⟩
set_option maxRecDepth 100000 in
theorem rReadId_good (n : Int) (w : World) (h0 : 0 ≤ n) (h1 : n < 256) (h : n % 32 ≠ 31) :
    Calls Tryz.prog 201 #[.int .u8 n] w fun e w' => e = .returned (.tuple #[.int .i64 (n / 64), .bool (decide (n / 32 % 2 = 1)), .int .i64 (n % 32), .int .i64 0]) ∧ w = w' := by
  have h5 : (n % 32 == 31) = false := by simp [h]
  go_enter Tryz.func201, Tryz.ntmps201
  go_wp2
  refine bodyPost_ret (results_tmp4 rfl _ _ _) rfl ⟨?_, rfl⟩
  simp
  rw [Bool.eq_iff_iff]; simp

theorem OwB.oneN (w : World) (t : TypeId) (n : Nat) (hn : (n : Int) < 256) : OwB (w.alloc (.cells #[.int .u8 (n : Int)] t)) w.heap.size t (.slice (some ⟨w.heap.size, 0, none⟩) 1 1) [UInt8.ofNat n] := by
  have := OwB.one w t (UInt8.ofNat n) (Nat.le_refl _)
  rwa [bi_ofNat, show n % 256 = n by omega] at this

set_option maxRecDepth 100000 in
theorem rMinimal (k : Nat) : ∀ (n : Nat) (w : World), n < 256 ^ (k + 1) → k ≤ 7 → Calls Tryz.prog 124 #[.int .u64 n] w (RetO 5 (minF k n) w) := by
  induction k with
  | zero =>
    intro n w hn _
    have hn : (n : Int) < 256 := by have : n < 256 := by simpa using hn
                                    omega
    go_enter Tryz.func124, Tryz.ntmps124
    go_wp2_with fail
    go_ret
    refine ⟨_, rfl, OwB.oneN w _ n hn, ?_⟩
    ((repeat' (first | (with_reducible exact Below.refl _ _) | (with_reducible assumption) | (with_reducible refine Below.setCell ?_ ?_ _) | (with_reducible refine Below.alloc ?_ ?_ _) | (with_reducible refine Below.drew ?_) | (with_reducible refine below_drewN ?_ _) | (with_reducible refine Below.step (by with_reducible assumption) ?_ ?_))) <;> (first | omega | (simp; done) | (simp; omega)))
  | succ k ih =>
    intro n w hn hk
    by_cases hlt : (n : Int) < 256
    · have HM : Hid (minF (k + 1) n = [UInt8.ofNat n]) := by show minF (k + 1) n = _; simp only [minF]; rw [if_pos (by omega)]
      clear ih hn
      go_enter Tryz.func124, Tryz.ntmps124
      go_wp2_with fail
      go_ret
      rw [HM.out]
      refine ⟨_, rfl, OwB.oneN w _ n hlt, ?_⟩
      ((repeat' (first | (with_reducible exact Below.refl _ _) | (with_reducible assumption) | (with_reducible refine Below.setCell ?_ ?_ _) | (with_reducible refine Below.alloc ?_ ?_ _) | (with_reducible refine Below.drew ?_) | (with_reducible refine below_drewN ?_ _) | (with_reducible refine Below.step (by with_reducible assumption) ?_ ?_))) <;> (first | omega | (simp; done) | (simp; omega)))
    · have IH := Lib.hid (ih (n / 256) · (by rw [Nat.pow_succ] at hn; omega) (by omega))
      have HM : Hid (minF (k + 1) n = minF k (n / 256) ++ [UInt8.ofNat (n % 256)]) := by show minF (k + 1) n = _; simp only [minF]; rw [if_neg (by omega)]
      have hlen := minF_len k (n / 256)
      obtain ⟨hlen1, hlen2⟩ := hlen
      generalize minF k (n / 256) = m at *
      clear ih
      have hb : (n : Int) < 18446744073709551616 := by
        have : 256 ^ (k + 1 + 1) ≤ 256 ^ 8 := Nat.pow_le_pow_right (by decide) (by omega)
        omega
      rw [show ((n / 256 : Nat) : Int) = (n : Int) / 256 by omega] at IH
      have hbi : bi (UInt8.ofNat (n % 256)) = (n : Int) % 256 := by rw [bi_ofNat]; omega
      have HBI := Lib.hid hbi
      clear hbi
      generalize UInt8.ofNat (n % 256) = z at *
      go_enter Tryz.func124, Tryz.ntmps124
      go_wp2_with (first | (go_at_call 124; (with_reducible refine (IH.out _).mono ?_); rintro e w1 ⟨v1, rfl, ho, hb1⟩; have HO := Lib.hid ho; clear ho) | (at_builtin; refine wpList_appB _ rfl _ _ 32 rfl w.heap.size 5 ulB infoB _ _ rfl (HO.out.alloc _) _ _ rfl (isB_new _ _ _ _ HBI.out) ?k1 ?k2 ?_))
      case k1 => simp; omega
      case k2 => have := hb1.size; simp; omega
      intro v2 w2 ho2 _ hb2
      have HO2 := Lib.hid ho2
      clear ho2
      go_wp2
      go_ret
      rw [HM.out]
      exact ⟨_, rfl, HO2.out, ((hb1.alloc hb1.size _).trans hb2)⟩

/-! ### Compare -/
def CRel (a b : List UInt8) (i : Value) : Prop := ∃ k : Nat, k ≤ a.length ∧ k ≤ b.length ∧ i = .int .i64 k ∧ ∀ j, j < k → bat a j = bat b j

set_option maxRecDepth 100000 in
set_option maxHeartbeats 2000000 in
theorem rCompare (v1 v2 : Value) (a b : List UInt8) (w : World) (h1 : IsB w v1 a) (h2 : IsB w v2 b) :
    Calls Tryz.prog 218 #[v1, v2] w (RetB (.int .i64 (cmpL a b)) w) := by
  have hl1 := h1.len ulB
  have hl2 := h2.len ulB
  have hm1 := h1.maxl
  have hm2 := h2.maxl
  have H1 := Lib.hid h1
  have H2 := Lib.hid h2
  clear h1 h2
  go_enter Tryz.func218, Tryz.ntmps218
  go_wp2
  go_loopw [5] (fun i wr => CRel a b i ∧ ∃ n, wr = w.drewN n) (fun i _ => a.length - (intOf i).toNat)
  case atStart => exact ⟨⟨0, by omega, by omega, rfl, fun j h => by omega⟩, 0, rfl⟩
  case round =>
    obtain ⟨⟨k, hk1, hk2, rfl, heq⟩, n, rfl⟩ := hrel
    have HE := Lib.hid heq
    clear heq
    by_cases hka : k < a.length
    · by_cases hkb : k < b.length
      · obtain ⟨b1, o1, hi1, hw1, hc1⟩ := H1.out.at_ (P := Tryz.prog) ulB szB .i64 (i := k) (by omega) (by omega)
        obtain ⟨b2, o2, hi2, hw2, hc2⟩ := H2.out.at_ (P := Tryz.prog) ulB szB .i64 (i := k) (by omega) (by omega)
        simp only [Int.toNat_natCast] at hc1 hc2
        rcases Int.lt_trichotomy (bat a k) (bat b k) with hlt | heq | hgt
        · have HV : Hid ((.int .i64 (cmpL a b) : Value) = .int .i64 (-1)) := by show (_ : Value) = _; rw [cmpL_lt hka hkb HE.out hlt]
          go_wp2
          go_quiet (fail)
          go_wp2
          (refine bodyPost_retB (by (simp only [results, Tryz.results218]; try go_simp)) rfl HV.out.symm ?_; ((repeat' (first | (with_reducible exact Below.refl _ _) | (with_reducible assumption) | (with_reducible refine Below.setCell ?_ ?_ _) | (with_reducible refine Below.alloc ?_ ?_ _) | (with_reducible refine Below.drew ?_) | (with_reducible refine below_drewN ?_ _) | (with_reducible refine Below.step (by with_reducible assumption) ?_ ?_))) <;> (first | omega | (simp; done) | (simp; omega))))
        · have hs : ∀ j, j < k + 1 → bat a j = bat b j := by
            intro j hj
            rcases Nat.lt_or_ge j k with h | h
            · exact HE.out j h
            · obtain rfl : j = k := by omega
              exact heq
          have HS := Lib.hid hs
          have hn1 : bat a k ≤ bat b k := by omega
          have hn2 : bat b k ≤ bat a k := by omega
          clear hs heq
          go_wp2
          go_quiet (fail)
          go_wp2
          go_quiet (fail)
          go_wp2
          go_roundw
          case rel => exact ⟨⟨k + 1, by omega, by omega, by go_num, HS.out⟩, _, rfl⟩
          case measure => simp [intOf]; omega
        · have HV : Hid ((.int .i64 (cmpL a b) : Value) = .int .i64 1) := by show (_ : Value) = _; rw [cmpL_gt hka hkb HE.out hgt]
          go_wp2
          go_quiet (fail)
          go_wp2
          go_quiet (fail)
          go_wp2
          (refine bodyPost_retB (by (simp only [results, Tryz.results218]; try go_simp)) rfl HV.out.symm ?_; ((repeat' (first | (with_reducible exact Below.refl _ _) | (with_reducible assumption) | (with_reducible refine Below.setCell ?_ ?_ _) | (with_reducible refine Below.alloc ?_ ?_ _) | (with_reducible refine Below.drew ?_) | (with_reducible refine below_drewN ?_ _) | (with_reducible refine Below.step (by with_reducible assumption) ?_ ?_))) <;> (first | omega | (simp; done) | (simp; omega))))
      · have he := cmpL_end hk1 hk2 HE.out (.inr (by omega))
        have hbk : b.length = k := by omega
        rcases Nat.lt_trichotomy a.length b.length with h1 | h1 | h1
        · omega
        · omega
        · have HV : Hid ((.int .i64 (cmpL a b) : Value) = .int .i64 1) := by show (_ : Value) = _; rw [he, if_neg (by omega), if_pos (by omega)]
          clear he hbk
          go_wp2
          (refine bodyPost_retB (by (simp only [results, Tryz.results218]; try go_simp)) rfl HV.out.symm ?_; ((repeat' (first | (with_reducible exact Below.refl _ _) | (with_reducible assumption) | (with_reducible refine Below.setCell ?_ ?_ _) | (with_reducible refine Below.alloc ?_ ?_ _) | (with_reducible refine Below.drew ?_) | (with_reducible refine below_drewN ?_ _) | (with_reducible refine Below.step (by with_reducible assumption) ?_ ?_))) <;> (first | omega | (simp; done) | (simp; omega))))
    · have he := cmpL_end hk1 hk2 HE.out (.inl (by omega))
      have hbk : a.length = k := by omega
      rcases Nat.lt_trichotomy a.length b.length with h1 | h1 | h1
      · have HV : Hid ((.int .i64 (cmpL a b) : Value) = .int .i64 (-1)) := by show (_ : Value) = _; rw [he, if_pos (by omega)]
        clear he hbk
        go_wp2
        (refine bodyPost_retB (by (simp only [results, Tryz.results218]; try go_simp)) rfl HV.out.symm ?_; ((repeat' (first | (with_reducible exact Below.refl _ _) | (with_reducible assumption) | (with_reducible refine Below.setCell ?_ ?_ _) | (with_reducible refine Below.alloc ?_ ?_ _) | (with_reducible refine Below.drew ?_) | (with_reducible refine below_drewN ?_ _) | (with_reducible refine Below.step (by with_reducible assumption) ?_ ?_))) <;> (first | omega | (simp; done) | (simp; omega))))
      · have HV : Hid ((.int .i64 (cmpL a b) : Value) = .int .i64 0) := by show (_ : Value) = _; rw [he, if_neg (by omega), if_neg (by omega)]
        have h1a : (a.length : Int) ≤ b.length := by omega
        have h1b : (b.length : Int) ≤ a.length := by omega
        clear he hbk h1
        go_wp2
        (refine bodyPost_retB (by (simp only [results, Tryz.results218]; try go_simp)) rfl HV.out.symm ?_; ((repeat' (first | (with_reducible exact Below.refl _ _) | (with_reducible assumption) | (with_reducible refine Below.setCell ?_ ?_ _) | (with_reducible refine Below.alloc ?_ ?_ _) | (with_reducible refine Below.drew ?_) | (with_reducible refine below_drewN ?_ _) | (with_reducible refine Below.step (by with_reducible assumption) ?_ ?_))) <;> (first | omega | (simp; done) | (simp; omega))))
      · omega
end Go.Proofs.YtjjkimjdmpeddaaGreatDoor
end

/- Walk over slices.Reverse at bytes, on a row of the call's own. -/
section
set_option linter.unusedSimpArgs false
set_option linter.unusedVariables false
namespace Go.Proofs.YtjjkimjdmpeddaaGreatDoor
open Go.RowKit Go.Cr

/-- k exchanges from both ends. -/
def swp (l : List UInt8) (k : Nat) : List UInt8 := (List.range l.length).map fun i => if i < k ∨ l.length - k ≤ i then l.getD (l.length - 1 - i) 0 else l.getD i 0
theorem swp_len (l : List UInt8) (k : Nat) : (swp l k).length = l.length := by simp [swp]
theorem swp_bat (l : List UInt8) (k i : Nat) (h : i < l.length) : bat (swp l k) i = if i < k ∨ l.length - k ≤ i then bat l (l.length - 1 - i) else bat l i := by
  unfold bat swp
  rw [List.getD_eq_getElem?_getD, List.getElem?_map, List.getElem?_range h]
  simp only [Option.map_some, Option.getD_some]
  split <;> rfl
theorem bat_ext {a b : List UInt8} (hl : a.length = b.length) (h : ∀ i, i < a.length → bat a i = bat b i) : a = b := by
  apply List.ext_getElem hl
  intro i h1 h2
  have := h i h1
  rw [bat_eq a i h1, bat_eq b i h2] at this
  exact bi_inj this
theorem swp_zero (l : List UInt8) : swp l 0 = l := bat_ext (swp_len l 0) fun i hi => by
  rw [swp_len] at hi
  rw [swp_bat l 0 i hi, if_neg (by omega)]
theorem bat_rev (l : List UInt8) (i : Nat) (h : i < l.length) : bat l.reverse i = bat l (l.length - 1 - i) := by
  rw [bat_eq _ i (by simpa using h), bat_eq _ (l.length - 1 - i) (by omega), List.getElem_reverse]
theorem swp_half (l : List UInt8) (k : Nat) (h : l.length ≤ 2 * k + 1) : swp l k = l.reverse := bat_ext (by simp [swp_len]) fun i hi => by
  rw [swp_len] at hi
  rw [swp_bat l k i hi, bat_rev l i hi]
  split
  · rfl
  · rw [show l.length - 1 - i = i by omega]
theorem swp_succ (l : List UInt8) (k : Nat) (h : 2 * k + 1 < l.length) : bCells (swp l (k + 1)) = ((bCells (swp l k)).set k (.int .u8 (bat (swp l k) (l.length - 1 - k)))).set (l.length - 1 - k) (.int .u8 (bat (swp l k) k)) := by
  apply List.ext_getElem?
  intro i
  rcases Nat.lt_or_ge i l.length with hi | hi
  · rw [bCells_at _ i (by rw [swp_len]; exact hi), List.getElem?_set, List.getElem?_set]
    simp only [List.length_set, bCells_len, swp_len]
    rw [bCells_at _ i (by rw [swp_len]; exact hi), swp_bat l (k + 1) i hi, swp_bat l k i hi, swp_bat l k k (by omega), swp_bat l k (l.length - 1 - k) (by omega)]
    by_cases h1 : l.length - 1 - k = i
    · subst h1
      rw [if_pos rfl, if_pos (by omega), if_pos (by omega), if_neg (by omega), show l.length - 1 - (l.length - 1 - k) = k by omega]
    · rw [if_neg h1]
      by_cases h2 : k = i
      · subst h2
        rw [if_pos rfl, if_pos (by omega), if_pos (by omega), if_neg (by omega)]
      · rw [if_neg h2]
        by_cases h3 : i < k ∨ l.length - k ≤ i
        · rw [if_pos (by omega), if_pos h3]
        · rw [if_neg (by omega), if_neg h3]
  · rw [List.getElem?_eq_none (by rw [bCells_len, swp_len]; exact hi), List.getElem?_eq_none (by simp [bCells_len, swp_len]; exact hi)]

def RvRel (l : List UInt8) (base t g cap : Nat) (w : World) (i j : Value) (wr : World) : Prop :=
  ∃ k : Nat, 2 * k ≤ l.length + 1 ∧ i = .int .i64 k ∧ j = .int .i64 ((l.length : Int) - 1 - k) ∧ OwB wr base t (.slice (some ⟨g, 0, none⟩) l.length cap) (swp l k) ∧ w.grownBy wr (some g)

set_option maxRecDepth 100000 in
set_option maxHeartbeats 2000000 in
theorem reverse_own (g cap base : Nat) (l : List UInt8) (w : World) (ho : OwB w base 5 (.slice (some ⟨g, 0, none⟩) l.length cap) l) (hl : l.length ≤ 1000000) :
    Calls Tryz.prog 135 #[.slice (some ⟨g, 0, none⟩) l.length cap] w fun e w' => e = .returned (.tuple #[]) ∧ OwB w' base 5 (.slice (some ⟨g, 0, none⟩) l.length cap) l.reverse ∧ w.grownBy w' (some g) := by
  have hl' : (l.length : Int) ≤ 1000000 := by omega
  go_enter Tryz.func135, Tryz.ntmps135
  go_wp2
  go_loopw [2, 3] (fun i j wr => RvRel l base 5 g cap w i j wr) (fun i _ _ => l.length - (intOf i).toNat)
  case atStart => exact ⟨0, by omega, rfl, by simp, by rw [swp_zero]; exact ho, World.grownBy.refl _ _⟩
  case round =>
    obtain ⟨k, hk, rfl, rfl, how, hgr⟩ := hrel
    have HO := Lib.hid how
    by_cases hlt : (k : Int) < (l.length : Int) - 1 - k
    · obtain ⟨m, hm⟩ : ∃ m : Nat, (l.length : Int) - 1 - k = m := ⟨l.length - 1 - k, by omega⟩
      rw [hm]
      have hm1 : l.length - 1 - k = m := by omega
      have hc1 : wr.cell? ⟨g, k, none⟩ = some (.int .u8 (bat (swp l k) k)) := by
        have := World.ownsRow.cellAt (h := (show wr.ownsRow base 5 1 (.slice (some ⟨g, 0, none⟩) (swp l k).length cap) (swp l k).length (bCells (swp l k)) by have := HO.out; unfold OwB at this; rw [swp_len] at this ⊢; exact this)) k (by rw [swp_len]; omega)
        rw [this, bCells_at _ k (by rw [swp_len]; omega)]
      have hc2 : wr.cell? ⟨g, m, none⟩ = some (.int .u8 (bat (swp l k) m)) := by
        have := World.ownsRow.cellAt (h := (show wr.ownsRow base 5 1 (.slice (some ⟨g, 0, none⟩) (swp l k).length cap) (swp l k).length (bCells (swp l k)) by have := HO.out; unfold OwB at this; rw [swp_len] at this ⊢; exact this)) m (by rw [swp_len]; omega)
        rw [this, bCells_at _ m (by rw [swp_len]; omega)]
      have hf1 : ∀ j, wr.frozen? ⟨g, j, none⟩ = false := fun j => World.ownsRow.frozenAt (h := (show wr.ownsRow base 5 1 (.slice (some ⟨g, 0, none⟩) (swp l k).length cap) (swp l k).length (bCells (swp l k)) by have := HO.out; unfold OwB at this; rw [swp_len] at this ⊢; exact this)) j
      have hlt' : k < m := by omega
      have hml : m < l.length := by omega
      clear hm how
      go_wp2
      go_region
      all_goals go_wp2
      go_roundw
      case rel =>
        refine ⟨k + 1, by omega, by go_num, by simp; omega, ?_, ?_⟩
        · have h0 : wr.ownsRow base 5 1 (.slice (some ⟨g, 0, none⟩) l.length cap) l.length (bCells (swp l k)) := by have := HO.out; unfold OwB at this; rw [swp_len] at this; exact this
          have h1 := (World.ownsRow.stored h0 k (.int .u8 (bat (swp l k) m))).1
          have h2 := (World.ownsRow.stored h1 m (.int .u8 (bat (swp l k) k))).1
          have hs := swp_succ l k (by omega)
          rw [hm1] at hs
          rw [← hs] at h2
          show World.ownsRow _ base _ 1 _ (swp l (k + 1)).length _
          rw [swp_len]
          exact h2
        · exact ⟨hgr.os, hgr.tape, hgr.output, by simpa [World.setCell] using hgr.size, fun j hj hne => by
            have hne' : j ≠ g := fun e => hne (by rw [e])
            exact (Below.heap_setCell _ _ _ _ hne').trans ((Below.heap_setCell _ _ _ _ hne').trans (hgr.block j hj hne))⟩
      case measure => simp [intOf]; omega
    · have hfin : swp l k = l.reverse := swp_half l k (by omega)
      rw [hfin] at HO
      go_wp2
      go_end0
      exact ⟨rfl, HO.out, hgr⟩

theorem reverse_any (v : Value) (base : Nat) (l : List UInt8) (w : World) (ho : OwB w base 5 v l) (hl : l.length ≤ 1000000) (h0 : 0 < l.length) (hb : base ≤ w.heap.size) :
    Calls Tryz.prog 135 #[v] w fun e w' => e = .returned (.tuple #[]) ∧ OwB w' base 5 v l.reverse ∧ Below base w w' := by
  have hlt := ho.lt
  have ho' := ho
  rcases ho.2 with ⟨rfl, hz⟩ | ⟨g, cap, cur, rfl, hg, _⟩
  · omega
  · refine (reverse_own g cap base l w ho' hl).mono ?_
    rintro e w' ⟨rfl, h1, h2⟩
    exact ⟨rfl, h1, ⟨h2.os, h2.tape, h2.output, h2.size, fun k hk => h2.block k (by omega) (fun e => by injection e with e; omega)⟩⟩

/-- Little-endian digits, one after the other. -/
def MnP (R : List UInt8) (m : Nat) (l : List UInt8) : Prop := l.length ≤ 8 ∧ 0 < l.length ∧ (m = 0 → R = l.reverse) ∧ (m ≠ 0 → ∃ f, f + l.length = 7 ∧ m < 256 ^ (f + 1) ∧ R = minF f m ++ l.reverse)
theorem MnP.start (n : Nat) (h : n < 256 ^ 8) : MnP (minF 7 n) (n / 256) [UInt8.ofNat n] := by
  refine ⟨by simp, by simp, fun h0 => ?_, fun h0 => ⟨6, rfl, ?_, ?_⟩⟩
  · simp only [minF]; rw [if_pos (by omega)]; rfl
  · rw [Nat.pow_succ] at h; omega
  · rw [minF, if_neg (by omega)]
    congr 2
    apply bi_inj; rw [bi_ofNat, bi_ofNat]; omega
theorem MnP.step {R : List UInt8} {m : Nat} {l : List UInt8} (h : MnP R m l) (hm : m ≠ 0) : MnP R (m / 256) (l ++ [UInt8.ofNat m]) := by
  obtain ⟨h1, h2, _, h4⟩ := h
  obtain ⟨f, hf, hlt, he⟩ := h4 hm
  refine ⟨by simp; omega, by simp, fun h0 => ?_, fun h0 => ?_⟩
  · rw [he, List.reverse_append]
    have : minF f m = [UInt8.ofNat m] := by
      cases f with
      | zero => rfl
      | succ f => rw [minF, if_pos (by omega)]
    rw [this]; rfl
  · cases f with
    | zero => simp at hlt; omega
    | succ f =>
      refine ⟨f, by simp; omega, by rw [Nat.pow_succ] at hlt; omega, ?_⟩
      rw [he, minF, if_neg (by omega), List.reverse_append, List.append_assoc]
      congr 2
      simp only [List.reverse_cons, List.reverse_nil, List.nil_append, List.cons_append]
      congr 1
      apply bi_inj; rw [bi_ofNat, bi_ofNat]; omega

def MnRel (R : List UInt8) (w : World) (nn out : Value) (wr : World) : Prop :=
  ∃ (m : Nat) (l : List UInt8), nn = .int .u64 m ∧ (m : Int) < 18446744073709551616 ∧ OwB wr w.heap.size 5 out l ∧ Below w.heap.size w wr ∧ MnP R m l

set_option maxRecDepth 100000 in
set_option maxHeartbeats 2000000 in
theorem pMinimal (n : Nat) (w : World) (hn : n < 256 ^ 8) : Calls Tryz.prog 148 #[.int .u64 n] w (RetO 5 (minF 7 n) w) := by
  have hn' : (n : Int) < 18446744073709551616 := by
    have : (256 : Nat) ^ 8 = 18446744073709551616 := by decide
    omega
  have HZ : Hid (bi (UInt8.ofNat n) = (n : Int) % 256) := by show bi _ = _; rw [bi_ofNat]; omega
  have hs := MnP.start n hn
  obtain ⟨R, hR⟩ : ∃ R, minF 7 n = R := ⟨_, rfl⟩
  rw [hR] at hs ⊢
  have HS := Lib.hid hs
  clear hs hR hn
  have HN := Lib.hid hn'
  clear hn'
  generalize UInt8.ofNat n = z0 at *
  go_enter Tryz.func148, Tryz.ntmps148
  go_wp2
  go_loopw [0, 3] (fun nn out wr => MnRel R w nn out wr) (fun nn _ _ => (intOf nn).toNat)
  case atStart =>
    refine ⟨n / 256, [z0], by go_num, by have := HN.out; omega, ?_, by ((repeat' (first | (with_reducible exact Below.refl _ _) | (with_reducible assumption) | (with_reducible refine Below.setCell ?_ ?_ _) | (with_reducible refine Below.alloc ?_ ?_ _) | (with_reducible refine Below.drew ?_) | (with_reducible refine below_drewN ?_ _) | (with_reducible refine Below.step (by with_reducible assumption) ?_ ?_))) <;> (first | omega | (simp; done) | (simp; omega))), HS.out⟩
    have := OwB.one w 5 z0 (Nat.le_refl _)
    rwa [HZ.out] at this
  case round =>
    obtain ⟨m, l, rfl, hm, ho, hbel, hp⟩ := hrel
    have HO := Lib.hid ho
    have HP := Lib.hid hp
    have HM := Lib.hid hm
    clear ho hp hm
    by_cases hm0 : 0 < m
    · have HZ1 : Hid (bi (UInt8.ofNat m) = (m : Int) % 256) := by show bi _ = _; rw [bi_ofNat]; omega
      have HP1 := Lib.hid (HP.out.step (by omega))
      generalize UInt8.ofNat m = z at *
      go_wp2_with (at_builtin; refine wpList_appB _ rfl _ _ 32 rfl w.heap.size 5 ulB infoB _ _ rfl (HO.out.alloc _) _ _ rfl (isB_new _ _ _ _ HZ1.out) ?k1 ?k2 ?_)
      case k1 => have := HP.out.1; simp; omega
      case k2 => have := hbel.size; simp; omega
      intro v2 w2 ho2 _ hb2
      have HO2 := Lib.hid ho2
      have hbel2 : Below w.heap.size w w2 := (hbel.alloc hbel.size _).trans hb2
      clear ho2 hb2
      go_wp2
      go_roundw
      case rel => exact ⟨m / 256, _, by go_num, by have := HM.out; omega, HO2.out, hbel2, HP1.out⟩
      case measure => simp [intOf]; omega
    · have hl1 := HP.out.1
      have hl2 := HP.out.2.1
      have HF := Lib.hid (HP.out.2.2.1 (by omega))
      have HR := Lib.hid (fun W (h : OwB W w.heap.size 5 u3 l) (hb : w.heap.size ≤ W.heap.size) => reverse_any u3 w.heap.size l W h (by omega) hl2 hb)
      have hbs := hbel.size
      go_wp2_with (go_at_call 135; (with_reducible refine (HR.out _ HO.out hbs).mono ?_); rintro e w2 ⟨rfl, ho2, hb2⟩; have HO2 := Lib.hid ho2; clear ho2)
      go_ret
      rw [HF.out]
      exact ⟨_, rfl, HO2.out, hbel.trans hb2⟩
end Go.Proofs.YtjjkimjdmpeddaaGreatDoor
end

/- Walks over slices.Grow (at nil) and slices.Concat. -/
section
set_option linter.unusedSimpArgs false
set_option linter.unusedVariables false
namespace Go.Proofs.YtjjkimjdmpeddaaGreatDoor
open Go.RowKit Go.Cr

theorem ulInt : Tryz.prog.underlying 3 = some (.int .i64) := by kernel_rfl
theorem ulBs : Tryz.prog.underlying 28 = some (.slice 32) := by kernel_rfl
theorem szBs (W : World) : (sizeOf 32).run Tryz.prog W = .ok 1 W := by kernel_rfl

theorem wpList_app_run {P : Program} (w : World) {ops : Array Oper} {rest : List Oper} {o : Oper} {a : Act} {Q : Exit → Act → World → Prop} (hgd : o.guard = none) (s y : Operand) (t t' : TypeId)
    (ho : o.op = .call { callee := .builtin .append, args := #[s, y], argTypes := #[t, t'] }) (v x v' : Value) (w' : World) (hs : a.eval s = v) (hyx : a.eval y = x)
    (hr : ∀ ty, (Builtin.append_ #[t, t'] ty #[v, x]).run P w = .ok v' w') (h : wpList P ops Q rest (a.put o.dst v') w') : wpList P ops Q (o :: rest) a w :=
  wpList_plain hgd fun _ hK => by
    unfold Oper.wp execOp
    simp only [ho, resolve, invoke, builtin, Sem.run_bind, Sem.run_pure, Result.andThen_ok, List.map_toArray, List.map_cons, List.map_nil, hs, hyx, hr]
    exact hK _ _ h

set_option maxRecDepth 100000 in
set_option maxHeartbeats 1000000 in
theorem grow_nil (n : Nat) (w : World) (hn : n ≤ 1000000) : Calls Tryz.prog 121 #[.slice none 0 0, .int .i64 n] w (RetO 5 [] w) := by
  by_cases h0 : 0 < n
  · obtain ⟨i0, hi, hz0, hz1, hz2⟩ := info_parts infoB
    have hn' : (n : Int) ≤ 1000000 := by omega
    obtain ⟨cap, cur, ha, hc1, hc2, hc3⟩ := run_append_zeros (P := Tryz.prog) w 3 ulB ulInt hi hz0 hz1 hz2 rfl n h0 hn
    have HA := Lib.hid ha
    have HC := Lib.hid hc3
    clear ha hc3
    go_enter Tryz.func121, Tryz.ntmps121
    go_wp2_with (at_builtin; refine wpList_app_run _ rfl _ _ 32 3 rfl _ _ _ _ rfl rfl HA.out ?_)
    go_ret
    refine ⟨_, rfl, ⟨by simp [bCells], .inr ⟨w.heap.size, cap, cur, rfl, Nat.le_refl _, ?_, by simp, hc2, HC.out, by simp [bCells]⟩⟩, ?_⟩
    · exact heap_alloc_new w.drew _
    · ((repeat' (first | (with_reducible exact Below.refl _ _) | (with_reducible assumption) | (with_reducible refine Below.setCell ?_ ?_ _) | (with_reducible refine Below.alloc ?_ ?_ _) | (with_reducible refine Below.drew ?_) | (with_reducible refine below_drewN ?_ _) | (with_reducible refine Below.step (by with_reducible assumption) ?_ ?_))) <;> (first | omega | (simp; done) | (simp; omega)))
  · obtain rfl : n = 0 := by omega
    go_enter Tryz.func121, Tryz.ntmps121
    go_wp2
    go_ret
    exact ⟨_, rfl, OwB.nil_ _ _ _, Below.refl _ _⟩

def cat (ls : List (List UInt8)) (k : Nat) : List UInt8 := (ls.take k).flatten
theorem cat_zero (ls : List (List UInt8)) : cat ls 0 = [] := by simp [cat]
theorem cat_all (ls : List (List UInt8)) : cat ls ls.length = ls.flatten := by simp [cat]
theorem cat_succ (ls : List (List UInt8)) (k : Nat) (h : k < ls.length) : cat ls (k + 1) = cat ls k ++ ls.getD k [] := by
  unfold cat
  rw [List.take_add_one, List.flatten_append, List.getElem?_eq_getElem h]
  simp [h]
theorem cat_le (ls : List (List UInt8)) (k : Nat) : (cat ls k).length ≤ ls.flatten.length := by
  have := congrArg List.flatten (List.take_append_drop k ls)
  rw [List.flatten_append] at this
  rw [← this, List.length_append]
  simp [cat]

def CatRel (ls : List (List UInt8)) (w : World) (i out : Value) (wr : World) : Prop :=
  ∃ k : Nat, k ≤ ls.length ∧ i = .int .i64 k ∧ OwB wr w.heap.size 5 out (cat ls k) ∧ Below w.heap.size w wr

set_option maxRecDepth 100000 in
set_option maxHeartbeats 2000000 in
theorem concat_any (v : Value) (ls : List (List UInt8)) (w : World) (hv : IsBs w v ls) (hn : ls.flatten.length ≤ 1000000) :
    Calls Tryz.prog 88 #[v] w (RetO 5 ls.flatten w) := by
  have hlen := hv.len ulBs
  have hmx := hv.maxl
  have HV := Lib.hid hv
  clear hv
  obtain ⟨F, hF⟩ : ∃ F, ls.flatten = F := ⟨_, rfl⟩
  have hcl : ∀ k, (cat ls k).length ≤ F.length := fun k => by rw [← hF]; exact cat_le ls k
  rw [hF] at hn ⊢
  have hall : cat ls ls.length = F := by rw [cat_all, hF]
  have HA := Lib.hid hall
  have HC := Lib.hid hcl
  clear hF hall hcl
  go_enter Tryz.func88, Tryz.ntmps88
  go_wp2
  go_loop [11, 3] (fun i n => ∃ k : Nat, k ≤ ls.length ∧ i = .int .i64 k ∧ n = .int .i64 (cat ls k).length) (fun i _ => ls.length - (intOf i).toNat)
  case atStart => exact ⟨0, by omega, rfl, by rw [cat_zero]; rfl⟩
  case round =>
    obtain ⟨k, hk, rfl, rfl⟩ := hrel
    by_cases hlt : (k : Int) < ls.length
    · obtain ⟨b, o, u, hi, hb, hc, hu⟩ := HV.out.at_ (P := Tryz.prog) ulBs szBs .i64 (i := k) (by omega) hlt
      rw [Int.toNat_natCast] at hu
      have hul := hu.len ulB
      have h1 : (cat ls (k + 1)).length = (cat ls k).length + (ls.getD k []).length := by rw [cat_succ ls k (by omega), List.length_append]
      have h2 := HC.out (k + 1)
      have H1 := Lib.hid h1
      have h3 : ((cat ls k).length : Int) + (ls.getD k []).length ≤ 1000000 := by omega
      clear h1 h2 hu
      generalize (ls.getD k []).length = q at *
      generalize hp : (cat ls k).length = p at *
      go_wp2
      go_round
      case rel => exact ⟨k + 1, by omega, by go_num, by rw [H1.out]; go_num⟩
      case measure => simp [intOf]; omega
    · obtain rfl : k = ls.length := by omega
      rw [HA.out]
      have hn' : (F.length : Int) ≤ 1000000 := by omega
      have HN := Lib.hid hn
      clear hn
      go_wp2_with (go_at_call 121; (with_reducible refine (grow_nil _ w HN.out).mono ?_); rintro e w1 ⟨g0, rfl, ho1, hb1⟩; have HO1 := Lib.hid ho1; clear ho1)
      go_wp2
      go_loopw [27, 6] (fun i out wr => CatRel ls w i out wr) (fun i _ _ => ls.length - (intOf i).toNat)
      case atStart => exact ⟨0, by omega, rfl, by rw [cat_zero]; exact HO1.out, hb1⟩
      case round =>
        obtain ⟨k, hk, rfl, ho, hbel⟩ := hrel
        have HO := Lib.hid ho
        clear ho
        by_cases hlt : (k : Int) < ls.length
        · obtain ⟨b, o, u, hi, hb, hc, hu⟩ := (HV.out.below hbel).at_ (P := Tryz.prog) ulBs szBs .i64 (i := k) (by omega) hlt
          rw [Int.toNat_natCast] at hu
          have HU := Lib.hid hu
          have H1 := Lib.hid (cat_succ ls k (by omega))
          have H2 := Lib.hid (HC.out (k + 1))
          clear hu
          go_wp2_with (at_builtin; refine wpList_appB _ rfl _ _ 32 rfl w.heap.size 5 ulB infoB _ _ rfl HO.out _ _ rfl HU.out ?k1 ?k2 ?_)
          case k1 => have := H2.out; rw [H1.out, List.length_append] at this; have := HN.out; omega
          case k2 => exact hbel.size
          intro v2 w2 ho2 _ hb2
          have HO2 := Lib.hid ho2
          have hbel2 : Below w.heap.size w w2 := hbel.trans hb2
          clear ho2 hb2
          go_wp2
          go_roundw
          case rel => exact ⟨k + 1, by omega, by go_num, by rw [H1.out]; exact HO2.out, hbel2⟩
          case measure => simp [intOf]; omega
        · obtain rfl : k = ls.length := by omega
          rw [HA.out] at HO
          go_wp2
          go_ret
          exact ⟨_, rfl, HO.out, hbel⟩
end Go.Proofs.YtjjkimjdmpeddaaGreatDoor
end

/- Walks over the references of layers 1 and 2: Uint, Length, ReadLength. -/
section
set_option linter.unusedSimpArgs false
set_option linter.unusedVariables false
namespace Go.Proofs.YtjjkimjdmpeddaaGreatDoor
open Go.RowKit Go.Cr

/-- How many elements a slice has. -/
def vlen : Value → Nat | .slice _ n _ => n | _ => 0
theorem vlen_isB {w : World} {v : Value} {l : List UInt8} (h : IsB w v l) : vlen v = l.length := by obtain ⟨A, c, rfl, _⟩ := h; rfl
/-- Without the zeros at the beginning. -/
def strip : List UInt8 → List UInt8
  | [] => []
  | x :: t => if bi x = 0 then strip t else x :: t
theorem strip_drop (d : List UInt8) (h : 0 < d.length) (hz : bat d 0 = 0) : strip (d.drop 1) = strip d := by
  cases d with
  | nil => simp at h
  | cons x t => simp only [bat_cons_zero] at hz; simp [strip, hz]

theorem be_strip (l : List UInt8) : be (strip l) = be l := by
  induction l with
  | nil => rfl
  | cons x t ih =>
    simp only [strip]
    split
    · rename_i h; rw [ih]; simp [be, h]
    · rfl
theorem strip_len (l : List UInt8) : (strip l).length ≤ l.length := by
  induction l with
  | nil => simp [strip]
  | cons x t ih => simp only [strip]; split <;> simp; omega

set_option maxRecDepth 100000 in
set_option maxHeartbeats 2000000 in
theorem rUint (v : Value) (l : List UInt8) (w : World) (hv : IsB w v l) (hl : l.length ≤ 8) :
    Calls Tryz.prog 217 #[v] w fun e w' => e = .returned (.tuple #[.int .u64 (be l), .bool true]) ∧ w = w' := by
  go_enter Tryz.func217, Tryz.ntmps217
  go_wp2
  go_loop [0] (fun u => ∃ d, IsB w u d ∧ strip d = strip l ∧ d.length ≤ 8) (fun u => vlen u)
  case atStart => exact ⟨l, hv, rfl, hl⟩
  case round =>
    obtain ⟨d, hd, hs, hl8⟩ := hrel
    have HD := Lib.hid hd
    have HS := Lib.hid hs
    clear hs hd
    have hlen := HD.out.len ulB
    by_cases h0 : 0 < d.length
    · obtain ⟨b, o, hi, hw, hc⟩ := HD.out.at_ (P := Tryz.prog) ulB szB .i64 (i := 0) (by omega) (by omega)
      simp only [Int.toNat_zero] at hc
      by_cases hz : bat d 0 = 0
      · obtain ⟨v1, hcut, hv1⟩ := HD.out.cutLo (P := Tryz.prog) ulB szB .i64 (lo := 1) (by omega) (by omega)
        have hq : (bat d 0 == 0) = true := by simp [hz]
        have h0' : (0 : Int) < d.length := by omega
        have HS1 : Hid (strip (d.drop 1) = strip l) := by show strip (d.drop 1) = _; rw [strip_drop d h0 hz, HS.out]
        have HM : Hid (vlen v1 < vlen u0) := by show vlen v1 < vlen u0; rw [vlen_isB hv1, vlen_isB HD.out]; simp; omega
        have HV1 := Lib.hid hv1
        clear hz hv1
        go_wp2
        go_round
        case rel => exact ⟨d.drop 1, HV1.out, HS1.out, by simp; omega⟩
        case measure => exact HM.out
      · have hq : (bat d 0 == 0) = false := by simp [hz]
        have h0' : (0 : Int) < d.length := by omega
        clear hz
        go_wp2
        go_loop [4, 5] (fun n i => ∃ k : Nat, k ≤ d.length ∧ i = .int .i64 k ∧ n = .int .u64 (be (d.take k))) (fun _ i => d.length - (intOf i).toNat)
        case atStart => exact ⟨0, Nat.zero_le _, rfl, rfl⟩
        case round =>
          obtain ⟨k, hk, rfl, rfl⟩ := hrel
          by_cases hkd : k < d.length
          · obtain ⟨b', o', hi', hw', hc'⟩ := HD.out.at_ (P := Tryz.prog) ulB szB .i64 (i := k) (by omega) (by omega)
            simp only [Int.toNat_natCast] at hc'
            have hbb := be_bound (d.take k)
            have hln : (d.take k).length = k := by simp; omega
            rw [hln] at hbb
            have hpw : (256 : Int) ^ k ≤ 256 ^ 7 := pow256_mono (by omega)
            have HB' := Lib.hid (be_take_succ d k hkd)
            have hN0 := hbb.1
            have hN1 : be (d.take k) < 72057594037927936 := by have := hbb.2; omega
            have hX0 := bat_pos d k
            have hX1 := bat_lt d k
            clear hbb hln hpw
            generalize be (d.take k) = N at *
            have hkd' : (k : Int) < d.length := by omega
            go_wp2
            go_round
            case rel => exact ⟨k + 1, by omega, by go_num, by rw [HB'.out]⟩
            case measure => simp [intOf]; omega
          · have hfin : be (d.take k) = be l := by rw [List.take_of_length_le (by omega), ← be_strip d, HS.out, be_strip]
            rw [hfin]
            have hkd' : (d.length : Int) ≤ k := by omega
            go_wp2
            go_ret2
            exact ⟨rfl, rfl⟩
    · have h0' : (d.length : Int) ≤ 0 := by omega
      go_wp2
      all_goals
        go_loop [4, 5] (fun n i => ∃ k : Nat, k ≤ d.length ∧ i = .int .i64 k ∧ n = .int .u64 (be (d.take k))) (fun _ i => d.length - (intOf i).toNat)
        case atStart => exact ⟨0, Nat.zero_le _, rfl, rfl⟩
        case round =>
          obtain ⟨k, hk, rfl, rfl⟩ := hrel
          by_cases hkd : k < d.length
          · obtain ⟨b', o', hi', hw', hc'⟩ := HD.out.at_ (P := Tryz.prog) ulB szB .i64 (i := k) (by omega) (by omega)
            simp only [Int.toNat_natCast] at hc'
            have hbb := be_bound (d.take k)
            have hln : (d.take k).length = k := by simp; omega
            rw [hln] at hbb
            have hpw : (256 : Int) ^ k ≤ 256 ^ 7 := pow256_mono (by omega)
            have HB' := Lib.hid (be_take_succ d k hkd)
            have hN0 := hbb.1
            have hN1 : be (d.take k) < 72057594037927936 := by have := hbb.2; omega
            have hX0 := bat_pos d k
            have hX1 := bat_lt d k
            clear hbb hln hpw
            generalize be (d.take k) = N at *
            have hkd' : (k : Int) < d.length := by omega
            go_wp2
            go_round
            case rel => exact ⟨k + 1, by omega, by go_num, by rw [HB'.out]⟩
            case measure => simp [intOf]; omega
          · have hfin : be (d.take k) = be l := by rw [List.take_of_length_le (by omega), ← be_strip d, HS.out, be_strip]
            rw [hfin]
            have hkd' : (d.length : Int) ≤ k := by omega
            go_wp2
            go_ret2
            exact ⟨rfl, rfl⟩
end Go.Proofs.YtjjkimjdmpeddaaGreatDoor
end
