/- The parts RefA, Rev, Cat, RefB, RefC, Enc, Wrap, RefD, RefE, RefF, Base, Cmp, Ord, BelT, OrdB, Clone, TreeW, TreeX, TreeY, PutR of one proof, one behind the other. -/
import Derived.Test.YtlmnmgokfnnbbaaGreatDoorQ04
import Derived.Test.YtlmnmgokfnnbbaaGreatDoorQ01
import Derived.Deep.QuietTactic
import Derived.BigQuiet
import Derived.Outline
import Derived.IntWalk
import Derived.Laws.BytesArg
import Derived.Lib.SliceRun

/- Walks over the references of layers 1 and 2: Minimal, Compare, Uint, identifiers, Length. -/
section
set_option linter.unusedSimpArgs false
set_option linter.unusedVariables false
namespace Go.Proofs.YtlmnmgokfnnbbaaGreatDoor
open Go.RowKit Go.Cr
theorem infoB : (Tryz.prog.info? 5).map (fun i => (i.zero, i.size, i.bytes)) = some (some (.int .u8 0), 1, 1) := by kernel_rfl

set_option maxRecDepth 100000 in
theorem rReadId_bad (n : Int) (w : World) (h0 : 0 ≤ n) (h1 : n < 256) (h : n % 32 = 31) :
    Calls Tryz.prog 230 #[.int .u8 n] w fun e w' => e = .returned (.tuple #[.int .i64 0, .bool false, .int .i64 0, .int .i64 3]) ∧ w = w' := by
  go_enter Tryz.func230, Tryz.ntmps230
  go_wp2
  exact bodyPost_ret (results_tmp4 rfl _ _ _) rfl ⟨rfl, rfl⟩
set_option maxRecDepth 100000 in
theorem rReadId_good (n : Int) (w : World) (h0 : 0 ≤ n) (h1 : n < 256) (h : n % 32 ≠ 31) :
    Calls Tryz.prog 230 #[.int .u8 n] w fun e w' => e = .returned (.tuple #[.int .i64 (n / 64), .bool (decide (n / 32 % 2 = 1)), .int .i64 (n % 32), .int .i64 0]) ∧ w = w' := by
  have h5 : (n % 32 == 31) = false := by simp [h]
  go_enter Tryz.func230, Tryz.ntmps230
  go_wp2
  refine bodyPost_ret (results_tmp4 rfl _ _ _) rfl ⟨?_, rfl⟩
  simp
  rw [Bool.eq_iff_iff]; simp

theorem OwB.oneN (w : World) (t : TypeId) (n : Nat) (hn : (n : Int) < 256) : OwB (w.alloc (.cells #[.int .u8 (n : Int)] t)) w.heap.size t (.slice (some ⟨w.heap.size, 0, none⟩) 1 1) [UInt8.ofNat n] := by
  have := OwB.one w t (UInt8.ofNat n) (Nat.le_refl _)
  rwa [bi_ofNat, show n % 256 = n by omega] at this

set_option maxRecDepth 100000 in
theorem rMinimal (k : Nat) : ∀ (n : Nat) (w : World), n < 256 ^ (k + 1) → k ≤ 7 → Calls Tryz.prog 162 #[.int .u64 n] w (RetO 5 (minF k n) w) := by
  induction k with
  | zero =>
    intro n w hn _
    have hn : (n : Int) < 256 := by have : n < 256 := by simpa using hn
                                    omega
    go_enter Tryz.func162, Tryz.ntmps162
    go_wp2_with fail
    go_ret
    refine ⟨_, rfl, OwB.oneN w _ n hn, ?_⟩
    ((repeat' (first | (with_reducible exact Below.refl _ _) | (with_reducible assumption) | (with_reducible refine Below.setCell ?_ ?_ _) | (with_reducible refine Below.alloc ?_ ?_ _) | (with_reducible refine Below.drew ?_) | (with_reducible refine below_drewN ?_ _) | (with_reducible refine Below.step (by with_reducible assumption) ?_ ?_))) <;> (first | omega | (simp; done) | (simp; omega)))
  | succ k ih =>
    intro n w hn hk
    by_cases hlt : (n : Int) < 256
    · have HM : Hid (minF (k + 1) n = [UInt8.ofNat n]) := by show minF (k + 1) n = _; simp only [minF]; rw [if_pos (by omega)]
      clear ih hn
      go_enter Tryz.func162, Tryz.ntmps162
      go_wp2_with fail
      go_ret
      rw [HM.out]
      refine ⟨_, rfl, OwB.oneN w _ n hlt, ?_⟩
      ((repeat' (first | (with_reducible exact Below.refl _ _) | (with_reducible assumption) | (with_reducible refine Below.setCell ?_ ?_ _) | (with_reducible refine Below.alloc ?_ ?_ _) | (with_reducible refine Below.drew ?_) | (with_reducible refine below_drewN ?_ _) | (with_reducible refine Below.step (by with_reducible assumption) ?_ ?_))) <;> (first | omega | (simp; done) | (simp; omega)))
    · have IH := Lib.hid (ih (n / 256) · (by rw [Nat.pow_succ] at hn; omega) (by omega))
      have HM : Hid (minF (k + 1) n = minF k (n / 256) ++ [UInt8.ofNat (n % 256)]) := by show minF (k + 1) n = _; simp only [minF]; rw [if_neg (by omega)]
      have hlen := minF_len k (n / 256)
      obtain ⟨hlen1, hlen2⟩ := hlen
      generalize minF k (n / 256) = m at *
      clear ih
      have hb : (n : Int) < 18446744073709551616 := by
        have : 256 ^ (k + 1 + 1) ≤ 256 ^ 8 := Nat.pow_le_pow_right (by decide) (by omega)
        omega
      rw [show ((n / 256 : Nat) : Int) = (n : Int) / 256 by omega] at IH
      have hbi : bi (UInt8.ofNat (n % 256)) = (n : Int) % 256 := by rw [bi_ofNat]; omega
      have HBI := Lib.hid hbi
      clear hbi
      generalize UInt8.ofNat (n % 256) = z at *
      go_enter Tryz.func162, Tryz.ntmps162
      go_wp2_with (first | (go_at_call 162; (with_reducible refine (IH.out _).mono ?_); rintro e w1 ⟨v1, rfl, ho, hb1⟩; have HO := Lib.hid ho; clear ho) | (at_builtin; refine wpList_appB _ rfl _ _ 33 rfl w.heap.size 5 ulB infoB _ _ rfl (HO.out.alloc _) _ _ rfl (isB_new _ _ _ _ HBI.out) ?k1 ?k2 ?_))
      case k1 => simp; omega
      case k2 => have := hb1.size; simp; omega
      intro v2 w2 ho2 _ hb2
      have HO2 := Lib.hid ho2
      clear ho2
      go_wp2
      go_ret
      rw [HM.out]
      exact ⟨_, rfl, HO2.out, ((hb1.alloc hb1.size _).trans hb2)⟩

/-! ### Compare -/
def CRel (a b : List UInt8) (i : Value) : Prop := ∃ k : Nat, k ≤ a.length ∧ k ≤ b.length ∧ i = .int .i64 k ∧ ∀ j, j < k → bat a j = bat b j

set_option maxRecDepth 100000 in
set_option maxHeartbeats 2000000 in
theorem rCompare (v1 v2 : Value) (a b : List UInt8) (w : World) (h1 : IsB w v1 a) (h2 : IsB w v2 b) :
    Calls Tryz.prog 98 #[v1, v2] w (RetB (.int .i64 (cmpL a b)) w) := by
  have hl1 := h1.len ulB
  have hl2 := h2.len ulB
  have hm1 := h1.maxl
  have hm2 := h2.maxl
  have H1 := Lib.hid h1
  have H2 := Lib.hid h2
  clear h1 h2
  go_enter Tryz.func98, Tryz.ntmps98
  go_wp2
  go_loopw [5] (fun i wr => CRel a b i ∧ ∃ n, wr = w.drewN n) (fun i _ => a.length - (intOf i).toNat)
  case atStart => exact ⟨⟨0, by omega, by omega, rfl, fun j h => by omega⟩, 0, rfl⟩
  case round =>
    obtain ⟨⟨k, hk1, hk2, rfl, heq⟩, n, rfl⟩ := hrel
    have HE := Lib.hid heq
    clear heq
    by_cases hka : k < a.length
    · by_cases hkb : k < b.length
      · obtain ⟨b1, o1, hi1, hw1, hc1⟩ := H1.out.at_ (P := Tryz.prog) ulB szB .i64 (i := k) (by omega) (by omega)
        obtain ⟨b2, o2, hi2, hw2, hc2⟩ := H2.out.at_ (P := Tryz.prog) ulB szB .i64 (i := k) (by omega) (by omega)
        simp only [Int.toNat_natCast] at hc1 hc2
        rcases Int.lt_trichotomy (bat a k) (bat b k) with hlt | heq | hgt
        · have HV : Hid ((.int .i64 (cmpL a b) : Value) = .int .i64 (-1)) := by show (_ : Value) = _; rw [cmpL_lt hka hkb HE.out hlt]
          go_wp2
          go_quiet (fail)
          go_wp2
          (refine bodyPost_retB (by (simp only [results, Tryz.results98]; try go_simp)) rfl HV.out.symm ?_; ((repeat' (first | (with_reducible exact Below.refl _ _) | (with_reducible assumption) | (with_reducible refine Below.setCell ?_ ?_ _) | (with_reducible refine Below.alloc ?_ ?_ _) | (with_reducible refine Below.drew ?_) | (with_reducible refine below_drewN ?_ _) | (with_reducible refine Below.step (by with_reducible assumption) ?_ ?_))) <;> (first | omega | (simp; done) | (simp; omega))))
        · have hs : ∀ j, j < k + 1 → bat a j = bat b j := by
            intro j hj
            rcases Nat.lt_or_ge j k with h | h
            · exact HE.out j h
            · obtain rfl : j = k := by omega
              exact heq
          have HS := Lib.hid hs
          have hn1 : bat a k ≤ bat b k := by omega
          have hn2 : bat b k ≤ bat a k := by omega
          clear hs heq
          go_wp2
          go_quiet (fail)
          go_wp2
          go_quiet (fail)
          go_wp2
          go_roundw
          case rel => exact ⟨⟨k + 1, by omega, by omega, by go_num, HS.out⟩, _, rfl⟩
          case measure => simp [intOf]; omega
        · have HV : Hid ((.int .i64 (cmpL a b) : Value) = .int .i64 1) := by show (_ : Value) = _; rw [cmpL_gt hka hkb HE.out hgt]
          go_wp2
          go_quiet (fail)
          go_wp2
          go_quiet (fail)
          go_wp2
          (refine bodyPost_retB (by (simp only [results, Tryz.results98]; try go_simp)) rfl HV.out.symm ?_; ((repeat' (first | (with_reducible exact Below.refl _ _) | (with_reducible assumption) | (with_reducible refine Below.setCell ?_ ?_ _) | (with_reducible refine Below.alloc ?_ ?_ _) | (with_reducible refine Below.drew ?_) | (with_reducible refine below_drewN ?_ _) | (with_reducible refine Below.step (by with_reducible assumption) ?_ ?_))) <;> (first | omega | (simp; done) | (simp; omega))))
      · have he := cmpL_end hk1 hk2 HE.out (.inr (by omega))
        have hbk : b.length = k := by omega
        rcases Nat.lt_trichotomy a.length b.length with h1 | h1 | h1
        · omega
        · omega
        · have HV : Hid ((.int .i64 (cmpL a b) : Value) = .int .i64 1) := by show (_ : Value) = _; rw [he, if_neg (by omega), if_pos (by omega)]
          clear he hbk
          go_wp2
          (refine bodyPost_retB (by (simp only [results, Tryz.results98]; try go_simp)) rfl HV.out.symm ?_; ((repeat' (first | (with_reducible exact Below.refl _ _) | (with_reducible assumption) | (with_reducible refine Below.setCell ?_ ?_ _) | (with_reducible refine Below.alloc ?_ ?_ _) | (with_reducible refine Below.drew ?_) | (with_reducible refine below_drewN ?_ _) | (with_reducible refine Below.step (by with_reducible assumption) ?_ ?_))) <;> (first | omega | (simp; done) | (simp; omega))))
    · have he := cmpL_end hk1 hk2 HE.out (.inl (by omega))
      have hbk : a.length = k := by omega
      rcases Nat.lt_trichotomy a.length b.length with h1 | h1 | h1
      · have HV : Hid ((.int .i64 (cmpL a b) : Value) = .int .i64 (-1)) := by show (_ : Value) = _; rw [he, if_pos (by omega)]
        clear he hbk
        go_wp2
        (refine bodyPost_retB (by (simp only [results, Tryz.results98]; try go_simp)) rfl HV.out.symm ?_; ((repeat' (first | (with_reducible exact Below.refl _ _) | (with_reducible assumption) | (with_reducible refine Below.setCell ?_ ?_ _) | (with_reducible refine Below.alloc ?_ ?_ _) | (with_reducible refine Below.drew ?_) | (with_reducible refine below_drewN ?_ _) | (with_reducible refine Below.step (by with_reducible assumption) ?_ ?_))) <;> (first | omega | (simp; done) | (simp; omega))))
      · have HV : Hid ((.int .i64 (cmpL a b) : Value) = .int .i64 0) := by show (_ : Value) = _; rw [he, if_neg (by omega), if_neg (by omega)]
        have h1a : (a.length : Int) ≤ b.length := by omega
        have h1b : (b.length : Int) ≤ a.length := by omega
        clear he hbk h1
        go_wp2
        (refine bodyPost_retB (by (simp only [results, Tryz.results98]; try go_simp)) rfl HV.out.symm ?_; ((repeat' (first | (with_reducible exact Below.refl _ _) | (with_reducible assumption) | (with_reducible refine Below.setCell ?_ ?_ _) | (with_reducible refine Below.alloc ?_ ?_ _) | (with_reducible refine Below.drew ?_) | (with_reducible refine below_drewN ?_ _) | (with_reducible refine Below.step (by with_reducible assumption) ?_ ?_))) <;> (first | omega | (simp; done) | (simp; omega))))
      · omega
end Go.Proofs.YtlmnmgokfnnbbaaGreatDoor
end

/- Walk over slices.Reverse at bytes, on a row of the call's own. -/
section
set_option linter.unusedSimpArgs false
set_option linter.unusedVariables false
namespace Go.Proofs.YtlmnmgokfnnbbaaGreatDoor
open Go.RowKit Go.Cr
def swp (l : List UInt8) (k : Nat) : List UInt8 := (List.range l.length).map fun i => if i < k ∨ l.length - k ≤ i then l.getD (l.length - 1 - i) 0 else l.getD i 0
theorem swp_len (l : List UInt8) (k : Nat) : (swp l k).length = l.length := by simp [swp]
theorem swp_bat (l : List UInt8) (k i : Nat) (h : i < l.length) : bat (swp l k) i = if i < k ∨ l.length - k ≤ i then bat l (l.length - 1 - i) else bat l i := by
  unfold bat swp
  rw [List.getD_eq_getElem?_getD, List.getElem?_map, List.getElem?_range h]
  simp only [Option.map_some, Option.getD_some]
  split <;> rfl
theorem bat_ext {a b : List UInt8} (hl : a.length = b.length) (h : ∀ i, i < a.length → bat a i = bat b i) : a = b := by
  apply List.ext_getElem hl
  intro i h1 h2
  have := h i h1
  rw [bat_eq a i h1, bat_eq b i h2] at this
  exact bi_inj this
theorem swp_zero (l : List UInt8) : swp l 0 = l := bat_ext (swp_len l 0) fun i hi => by
  rw [swp_len] at hi
  rw [swp_bat l 0 i hi, if_neg (by omega)]
theorem bat_rev (l : List UInt8) (i : Nat) (h : i < l.length) : bat l.reverse i = bat l (l.length - 1 - i) := by
  rw [bat_eq _ i (by simpa using h), bat_eq _ (l.length - 1 - i) (by omega), List.getElem_reverse]
theorem swp_half (l : List UInt8) (k : Nat) (h : l.length ≤ 2 * k + 1) : swp l k = l.reverse := bat_ext (by simp [swp_len]) fun i hi => by
  rw [swp_len] at hi
  rw [swp_bat l k i hi, bat_rev l i hi]
  split
  · rfl
  · rw [show l.length - 1 - i = i by omega]
theorem swp_succ (l : List UInt8) (k : Nat) (h : 2 * k + 1 < l.length) : bCells (swp l (k + 1)) = ((bCells (swp l k)).set k (.int .u8 (bat (swp l k) (l.length - 1 - k)))).set (l.length - 1 - k) (.int .u8 (bat (swp l k) k)) := by
  apply List.ext_getElem?
  intro i
  rcases Nat.lt_or_ge i l.length with hi | hi
  · rw [bCells_at _ i (by rw [swp_len]; exact hi), List.getElem?_set, List.getElem?_set]
    simp only [List.length_set, bCells_len, swp_len]
    rw [bCells_at _ i (by rw [swp_len]; exact hi), swp_bat l (k + 1) i hi, swp_bat l k i hi, swp_bat l k k (by omega), swp_bat l k (l.length - 1 - k) (by omega)]
    by_cases h1 : l.length - 1 - k = i
    · subst h1
      rw [if_pos rfl, if_pos (by omega), if_pos (by omega), if_neg (by omega), show l.length - 1 - (l.length - 1 - k) = k by omega]
    · rw [if_neg h1]
      by_cases h2 : k = i
      · subst h2
        rw [if_pos rfl, if_pos (by omega), if_pos (by omega), if_neg (by omega)]
      · rw [if_neg h2]
        by_cases h3 : i < k ∨ l.length - k ≤ i
        · rw [if_pos (by omega), if_pos h3]
        · rw [if_neg (by omega), if_neg h3]
  · rw [List.getElem?_eq_none (by rw [bCells_len, swp_len]; exact hi), List.getElem?_eq_none (by simp [bCells_len, swp_len]; exact hi)]

def RvRel (l : List UInt8) (base t g cap : Nat) (w : World) (i j : Value) (wr : World) : Prop :=
  ∃ k : Nat, 2 * k ≤ l.length + 1 ∧ i = .int .i64 k ∧ j = .int .i64 ((l.length : Int) - 1 - k) ∧ OwB wr base t (.slice (some ⟨g, 0, none⟩) l.length cap) (swp l k) ∧ w.grownBy wr (some g)

set_option maxRecDepth 100000 in
set_option maxHeartbeats 2000000 in
theorem reverse_own (g cap base : Nat) (l : List UInt8) (w : World) (ho : OwB w base 5 (.slice (some ⟨g, 0, none⟩) l.length cap) l) (hl : l.length ≤ 1000000) :
    Calls Tryz.prog 121 #[.slice (some ⟨g, 0, none⟩) l.length cap] w fun e w' => e = .returned (.tuple #[]) ∧ OwB w' base 5 (.slice (some ⟨g, 0, none⟩) l.length cap) l.reverse ∧ w.grownBy w' (some g) := by
  have hl' : (l.length : Int) ≤ 1000000 := by omega
  go_enter Tryz.func121, Tryz.ntmps121
  go_wp2
  go_loopw [2, 3] (fun i j wr => RvRel l base 5 g cap w i j wr) (fun i _ _ => l.length - (intOf i).toNat)
  case atStart => exact ⟨0, by omega, rfl, by simp, by rw [swp_zero]; exact ho, World.grownBy.refl _ _⟩
  case round =>
    obtain ⟨k, hk, rfl, rfl, how, hgr⟩ := hrel
    have HO := Lib.hid how
    by_cases hlt : (k : Int) < (l.length : Int) - 1 - k
    · obtain ⟨m, hm⟩ : ∃ m : Nat, (l.length : Int) - 1 - k = m := ⟨l.length - 1 - k, by omega⟩
      rw [hm]
      have hm1 : l.length - 1 - k = m := by omega
      have hc1 : wr.cell? ⟨g, k, none⟩ = some (.int .u8 (bat (swp l k) k)) := by
        have := World.ownsRow.cellAt (h := (show wr.ownsRow base 5 1 (.slice (some ⟨g, 0, none⟩) (swp l k).length cap) (swp l k).length (bCells (swp l k)) by have := HO.out; unfold OwB at this; rw [swp_len] at this ⊢; exact this)) k (by rw [swp_len]; omega)
        rw [this, bCells_at _ k (by rw [swp_len]; omega)]
      have hc2 : wr.cell? ⟨g, m, none⟩ = some (.int .u8 (bat (swp l k) m)) := by
        have := World.ownsRow.cellAt (h := (show wr.ownsRow base 5 1 (.slice (some ⟨g, 0, none⟩) (swp l k).length cap) (swp l k).length (bCells (swp l k)) by have := HO.out; unfold OwB at this; rw [swp_len] at this ⊢; exact this)) m (by rw [swp_len]; omega)
        rw [this, bCells_at _ m (by rw [swp_len]; omega)]
      have hf1 : ∀ j, wr.frozen? ⟨g, j, none⟩ = false := fun j => World.ownsRow.frozenAt (h := (show wr.ownsRow base 5 1 (.slice (some ⟨g, 0, none⟩) (swp l k).length cap) (swp l k).length (bCells (swp l k)) by have := HO.out; unfold OwB at this; rw [swp_len] at this ⊢; exact this)) j
      have hlt' : k < m := by omega
      have hml : m < l.length := by omega
      clear hm how
      go_wp2
      go_region
      all_goals go_wp2
      go_roundw
      case rel =>
        refine ⟨k + 1, by omega, by go_num, by simp; omega, ?_, ?_⟩
        · have h0 : wr.ownsRow base 5 1 (.slice (some ⟨g, 0, none⟩) l.length cap) l.length (bCells (swp l k)) := by have := HO.out; unfold OwB at this; rw [swp_len] at this; exact this
          have h1 := (World.ownsRow.stored h0 k (.int .u8 (bat (swp l k) m))).1
          have h2 := (World.ownsRow.stored h1 m (.int .u8 (bat (swp l k) k))).1
          have hs := swp_succ l k (by omega)
          rw [hm1] at hs
          rw [← hs] at h2
          show World.ownsRow _ base _ 1 _ (swp l (k + 1)).length _
          rw [swp_len]
          exact h2
        · exact ⟨hgr.os, hgr.tape, hgr.output, by simpa [World.setCell] using hgr.size, fun j hj hne => by
            have hne' : j ≠ g := fun e => hne (by rw [e])
            exact (Below.heap_setCell _ _ _ _ hne').trans ((Below.heap_setCell _ _ _ _ hne').trans (hgr.block j hj hne))⟩
      case measure => simp [intOf]; omega
    · have hfin : swp l k = l.reverse := swp_half l k (by omega)
      rw [hfin] at HO
      go_wp2
      go_end0
      exact ⟨rfl, HO.out, hgr⟩

theorem reverse_any (v : Value) (base : Nat) (l : List UInt8) (w : World) (ho : OwB w base 5 v l) (hl : l.length ≤ 1000000) (h0 : 0 < l.length) (hb : base ≤ w.heap.size) :
    Calls Tryz.prog 121 #[v] w fun e w' => e = .returned (.tuple #[]) ∧ OwB w' base 5 v l.reverse ∧ Below base w w' := by
  have hlt := ho.lt
  have ho' := ho
  rcases ho.2 with ⟨rfl, hz⟩ | ⟨g, cap, cur, rfl, hg, _⟩
  · omega
  · refine (reverse_own g cap base l w ho' hl).mono ?_
    rintro e w' ⟨rfl, h1, h2⟩
    exact ⟨rfl, h1, ⟨h2.os, h2.tape, h2.output, h2.size, fun k hk => h2.block k (by omega) (fun e => by injection e with e; omega)⟩⟩

def MnP (R : List UInt8) (m : Nat) (l : List UInt8) : Prop := l.length ≤ 8 ∧ 0 < l.length ∧ (m = 0 → R = l.reverse) ∧ (m ≠ 0 → ∃ f, f + l.length = 7 ∧ m < 256 ^ (f + 1) ∧ R = minF f m ++ l.reverse)
theorem MnP.start (n : Nat) (h : n < 256 ^ 8) : MnP (minF 7 n) (n / 256) [UInt8.ofNat n] := by
  refine ⟨by simp, by simp, fun h0 => ?_, fun h0 => ⟨6, rfl, ?_, ?_⟩⟩
  · simp only [minF]; rw [if_pos (by omega)]; rfl
  · rw [Nat.pow_succ] at h; omega
  · rw [minF, if_neg (by omega)]
    congr 2
    apply bi_inj; rw [bi_ofNat, bi_ofNat]; omega
theorem MnP.step {R : List UInt8} {m : Nat} {l : List UInt8} (h : MnP R m l) (hm : m ≠ 0) : MnP R (m / 256) (l ++ [UInt8.ofNat m]) := by
  obtain ⟨h1, h2, _, h4⟩ := h
  obtain ⟨f, hf, hlt, he⟩ := h4 hm
  refine ⟨by simp; omega, by simp, fun h0 => ?_, fun h0 => ?_⟩
  · rw [he, List.reverse_append]
    have : minF f m = [UInt8.ofNat m] := by
      cases f with
      | zero => rfl
      | succ f => rw [minF, if_pos (by omega)]
    rw [this]; rfl
  · cases f with
    | zero => simp at hlt; omega
    | succ f =>
      refine ⟨f, by simp; omega, by rw [Nat.pow_succ] at hlt; omega, ?_⟩
      rw [he, minF, if_neg (by omega), List.reverse_append, List.append_assoc]
      congr 2
      simp only [List.reverse_cons, List.reverse_nil, List.nil_append, List.cons_append]
      congr 1
      apply bi_inj; rw [bi_ofNat, bi_ofNat]; omega

def MnRel (R : List UInt8) (w : World) (nn out : Value) (wr : World) : Prop :=
  ∃ (m : Nat) (l : List UInt8), nn = .int .u64 m ∧ (m : Int) < 18446744073709551616 ∧ OwB wr w.heap.size 5 out l ∧ Below w.heap.size w wr ∧ MnP R m l

set_option maxRecDepth 100000 in
set_option maxHeartbeats 2000000 in
theorem pMinimal (n : Nat) (w : World) (hn : n < 256 ^ 8) : Calls Tryz.prog 193 #[.int .u64 n] w (RetO 5 (minF 7 n) w) := by
  have hn' : (n : Int) < 18446744073709551616 := by
    have : (256 : Nat) ^ 8 = 18446744073709551616 := by decide
    omega
  have HZ : Hid (bi (UInt8.ofNat n) = (n : Int) % 256) := by show bi _ = _; rw [bi_ofNat]; omega
  have hs := MnP.start n hn
  obtain ⟨R, hR⟩ : ∃ R, minF 7 n = R := ⟨_, rfl⟩
  rw [hR] at hs ⊢
  have HS := Lib.hid hs
  clear hs hR hn
  have HN := Lib.hid hn'
  clear hn'
  generalize UInt8.ofNat n = z0 at *
  go_enter Tryz.func193, Tryz.ntmps193
  go_wp2
  go_loopw [0, 3] (fun nn out wr => MnRel R w nn out wr) (fun nn _ _ => (intOf nn).toNat)
  case atStart =>
    refine ⟨n / 256, [z0], by go_num, by have := HN.out; omega, ?_, by ((repeat' (first | (with_reducible exact Below.refl _ _) | (with_reducible assumption) | (with_reducible refine Below.setCell ?_ ?_ _) | (with_reducible refine Below.alloc ?_ ?_ _) | (with_reducible refine Below.drew ?_) | (with_reducible refine below_drewN ?_ _) | (with_reducible refine Below.step (by with_reducible assumption) ?_ ?_))) <;> (first | omega | (simp; done) | (simp; omega))), HS.out⟩
    have := OwB.one w 5 z0 (Nat.le_refl _)
    rwa [HZ.out] at this
  case round =>
    obtain ⟨m, l, rfl, hm, ho, hbel, hp⟩ := hrel
    have HO := Lib.hid ho
    have HP := Lib.hid hp
    have HM := Lib.hid hm
    clear ho hp hm
    by_cases hm0 : 0 < m
    · have HZ1 : Hid (bi (UInt8.ofNat m) = (m : Int) % 256) := by show bi _ = _; rw [bi_ofNat]; omega
      have HP1 := Lib.hid (HP.out.step (by omega))
      generalize UInt8.ofNat m = z at *
      go_wp2_with (at_builtin; refine wpList_appB _ rfl _ _ 33 rfl w.heap.size 5 ulB infoB _ _ rfl (HO.out.alloc _) _ _ rfl (isB_new _ _ _ _ HZ1.out) ?k1 ?k2 ?_)
      case k1 => have := HP.out.1; simp; omega
      case k2 => have := hbel.size; simp; omega
      intro v2 w2 ho2 _ hb2
      have HO2 := Lib.hid ho2
      have hbel2 : Below w.heap.size w w2 := (hbel.alloc hbel.size _).trans hb2
      clear ho2 hb2
      go_wp2
      go_roundw
      case rel => exact ⟨m / 256, _, by go_num, by have := HM.out; omega, HO2.out, hbel2, HP1.out⟩
      case measure => simp [intOf]; omega
    · have hl1 := HP.out.1
      have hl2 := HP.out.2.1
      have HF := Lib.hid (HP.out.2.2.1 (by omega))
      have HR := Lib.hid (fun W (h : OwB W w.heap.size 5 u3 l) (hb : w.heap.size ≤ W.heap.size) => reverse_any u3 w.heap.size l W h (by omega) hl2 hb)
      have hbs := hbel.size
      go_wp2_with (go_at_call 121; (with_reducible refine (HR.out _ HO.out hbs).mono ?_); rintro e w2 ⟨rfl, ho2, hb2⟩; have HO2 := Lib.hid ho2; clear ho2)
      go_ret
      rw [HF.out]
      exact ⟨_, rfl, HO2.out, hbel.trans hb2⟩
end Go.Proofs.YtlmnmgokfnnbbaaGreatDoor
end

/- Walks over slices.Grow (at nil) and slices.Concat. -/
section
set_option linter.unusedSimpArgs false
set_option linter.unusedVariables false
namespace Go.Proofs.YtlmnmgokfnnbbaaGreatDoor
open Go.RowKit Go.Cr
theorem ulInt : Tryz.prog.underlying 3 = some (.int .i64) := by kernel_rfl
theorem ulBs : Tryz.prog.underlying 74 = some (.slice 33) := by kernel_rfl
theorem szBs (W : World) : (sizeOf 33).run Tryz.prog W = .ok 1 W := by kernel_rfl

theorem wpList_app_run {P : Program} (w : World) {ops : Array Oper} {rest : List Oper} {o : Oper} {a : Act} {Q : Exit → Act → World → Prop} (hgd : o.guard = none) (s y : Operand) (t t' : TypeId)
    (ho : o.op = .call { callee := .builtin .append, args := #[s, y], argTypes := #[t, t'] }) (v x v' : Value) (w' : World) (hs : a.eval s = v) (hyx : a.eval y = x)
    (hr : ∀ ty, (Builtin.append_ #[t, t'] ty #[v, x]).run P w = .ok v' w') (h : wpList P ops Q rest (a.put o.dst v') w') : wpList P ops Q (o :: rest) a w :=
  wpList_plain hgd fun _ hK => by
    unfold Oper.wp execOp
    simp only [ho, resolve, invoke, builtin, Sem.run_bind, Sem.run_pure, Result.andThen_ok, List.map_toArray, List.map_cons, List.map_nil, hs, hyx, hr]
    exact hK _ _ h

set_option maxRecDepth 100000 in
set_option maxHeartbeats 1000000 in
theorem grow_nil (n : Nat) (w : World) (hn : n ≤ 1000000) : Calls Tryz.prog 154 #[.slice none 0 0, .int .i64 n] w (RetO 5 [] w) := by
  by_cases h0 : 0 < n
  · obtain ⟨i0, hi, hz0, hz1, hz2⟩ := info_parts infoB
    have hn' : (n : Int) ≤ 1000000 := by omega
    obtain ⟨cap, cur, ha, hc1, hc2, hc3⟩ := run_append_zeros (P := Tryz.prog) w 3 ulB ulInt hi hz0 hz1 hz2 rfl n h0 hn
    have HA := Lib.hid ha
    have HC := Lib.hid hc3
    clear ha hc3
    go_enter Tryz.func154, Tryz.ntmps154
    go_wp2_with (at_builtin; refine wpList_app_run _ rfl _ _ 33 3 rfl _ _ _ _ rfl rfl HA.out ?_)
    go_ret
    refine ⟨_, rfl, ⟨by simp [bCells], .inr ⟨w.heap.size, cap, cur, rfl, Nat.le_refl _, ?_, by simp, hc2, HC.out, by simp [bCells]⟩⟩, ?_⟩
    · exact heap_alloc_new w.drew _
    · ((repeat' (first | (with_reducible exact Below.refl _ _) | (with_reducible assumption) | (with_reducible refine Below.setCell ?_ ?_ _) | (with_reducible refine Below.alloc ?_ ?_ _) | (with_reducible refine Below.drew ?_) | (with_reducible refine below_drewN ?_ _) | (with_reducible refine Below.step (by with_reducible assumption) ?_ ?_))) <;> (first | omega | (simp; done) | (simp; omega)))
  · obtain rfl : n = 0 := by omega
    go_enter Tryz.func154, Tryz.ntmps154
    go_wp2
    go_ret
    exact ⟨_, rfl, OwB.nil_ _ _ _, Below.refl _ _⟩

def cat (ls : List (List UInt8)) (k : Nat) : List UInt8 := (ls.take k).flatten
theorem cat_zero (ls : List (List UInt8)) : cat ls 0 = [] := by simp [cat]
theorem cat_all (ls : List (List UInt8)) : cat ls ls.length = ls.flatten := by simp [cat]
theorem cat_succ (ls : List (List UInt8)) (k : Nat) (h : k < ls.length) : cat ls (k + 1) = cat ls k ++ ls.getD k [] := by
  unfold cat
  rw [List.take_add_one, List.flatten_append, List.getElem?_eq_getElem h]
  simp [h]
theorem cat_le (ls : List (List UInt8)) (k : Nat) : (cat ls k).length ≤ ls.flatten.length := by
  have := congrArg List.flatten (List.take_append_drop k ls)
  rw [List.flatten_append] at this
  rw [← this, List.length_append]
  simp [cat]

def CatRel (ls : List (List UInt8)) (w : World) (i out : Value) (wr : World) : Prop :=
  ∃ k : Nat, k ≤ ls.length ∧ i = .int .i64 k ∧ OwB wr w.heap.size 5 out (cat ls k) ∧ Below w.heap.size w wr

set_option maxRecDepth 100000 in
set_option maxHeartbeats 2000000 in
theorem concat_any (v : Value) (ls : List (List UInt8)) (w : World) (hv : IsBs w v ls) (hn : ls.flatten.length ≤ 1000000) :
    Calls Tryz.prog 117 #[v] w (RetO 5 ls.flatten w) := by
  have hlen := hv.len ulBs
  have hmx := hv.maxl
  have HV := Lib.hid hv
  clear hv
  obtain ⟨F, hF⟩ : ∃ F, ls.flatten = F := ⟨_, rfl⟩
  have hcl : ∀ k, (cat ls k).length ≤ F.length := fun k => by rw [← hF]; exact cat_le ls k
  rw [hF] at hn ⊢
  have hall : cat ls ls.length = F := by rw [cat_all, hF]
  have HA := Lib.hid hall
  have HC := Lib.hid hcl
  clear hF hall hcl
  go_enter Tryz.func117, Tryz.ntmps117
  go_wp2
  go_loop [11, 3] (fun i n => ∃ k : Nat, k ≤ ls.length ∧ i = .int .i64 k ∧ n = .int .i64 (cat ls k).length) (fun i _ => ls.length - (intOf i).toNat)
  case atStart => exact ⟨0, by omega, rfl, by rw [cat_zero]; rfl⟩
  case round =>
    obtain ⟨k, hk, rfl, rfl⟩ := hrel
    by_cases hlt : (k : Int) < ls.length
    · obtain ⟨b, o, u, hi, hb, hc, hu⟩ := HV.out.at_ (P := Tryz.prog) ulBs szBs .i64 (i := k) (by omega) hlt
      rw [Int.toNat_natCast] at hu
      have hul := hu.len ulB
      have h1 : (cat ls (k + 1)).length = (cat ls k).length + (ls.getD k []).length := by rw [cat_succ ls k (by omega), List.length_append]
      have h2 := HC.out (k + 1)
      have H1 := Lib.hid h1
      have h3 : ((cat ls k).length : Int) + (ls.getD k []).length ≤ 1000000 := by omega
      clear h1 h2 hu
      generalize (ls.getD k []).length = q at *
      generalize hp : (cat ls k).length = p at *
      go_wp2
      go_round
      case rel => exact ⟨k + 1, by omega, by go_num, by rw [H1.out]; go_num⟩
      case measure => simp [intOf]; omega
    · obtain rfl : k = ls.length := by omega
      rw [HA.out]
      have hn' : (F.length : Int) ≤ 1000000 := by omega
      have HN := Lib.hid hn
      clear hn
      go_wp2_with (go_at_call 154; (with_reducible refine (grow_nil _ w HN.out).mono ?_); rintro e w1 ⟨g0, rfl, ho1, hb1⟩; have HO1 := Lib.hid ho1; clear ho1)
      go_wp2
      go_loopw [27, 6] (fun i out wr => CatRel ls w i out wr) (fun i _ _ => ls.length - (intOf i).toNat)
      case atStart => exact ⟨0, by omega, rfl, by rw [cat_zero]; exact HO1.out, hb1⟩
      case round =>
        obtain ⟨k, hk, rfl, ho, hbel⟩ := hrel
        have HO := Lib.hid ho
        clear ho
        by_cases hlt : (k : Int) < ls.length
        · obtain ⟨b, o, u, hi, hb, hc, hu⟩ := (HV.out.below hbel).at_ (P := Tryz.prog) ulBs szBs .i64 (i := k) (by omega) hlt
          rw [Int.toNat_natCast] at hu
          have HU := Lib.hid hu
          have H1 := Lib.hid (cat_succ ls k (by omega))
          have H2 := Lib.hid (HC.out (k + 1))
          clear hu
          go_wp2_with (at_builtin; refine wpList_appB _ rfl _ _ 33 rfl w.heap.size 5 ulB infoB _ _ rfl HO.out _ _ rfl HU.out ?k1 ?k2 ?_)
          case k1 => have := H2.out; rw [H1.out, List.length_append] at this; have := HN.out; omega
          case k2 => exact hbel.size
          intro v2 w2 ho2 _ hb2
          have HO2 := Lib.hid ho2
          have hbel2 : Below w.heap.size w w2 := hbel.trans hb2
          clear ho2 hb2
          go_wp2
          go_roundw
          case rel => exact ⟨k + 1, by omega, by go_num, by rw [H1.out]; exact HO2.out, hbel2⟩
          case measure => simp [intOf]; omega
        · obtain rfl : k = ls.length := by omega
          rw [HA.out] at HO
          go_wp2
          go_ret
          exact ⟨_, rfl, HO.out, hbel⟩
end Go.Proofs.YtlmnmgokfnnbbaaGreatDoor
end

/- Walks over the references of layers 1 and 2: Uint, Length, ReadLength. -/
section
set_option linter.unusedSimpArgs false
set_option linter.unusedVariables false
namespace Go.Proofs.YtlmnmgokfnnbbaaGreatDoor
open Go.RowKit Go.Cr
def vlen : Value → Nat | .slice _ n _ => n | _ => 0
theorem vlen_isB {w : World} {v : Value} {l : List UInt8} (h : IsB w v l) : vlen v = l.length := by obtain ⟨A, c, rfl, _⟩ := h; rfl
def strip : List UInt8 → List UInt8
  | [] => []
  | x :: t => if bi x = 0 then strip t else x :: t
theorem strip_drop (d : List UInt8) (h : 0 < d.length) (hz : bat d 0 = 0) : strip (d.drop 1) = strip d := by
  cases d with
  | nil => simp at h
  | cons x t => simp only [bat_cons_zero] at hz; simp [strip, hz]

theorem be_strip (l : List UInt8) : be (strip l) = be l := by
  induction l with
  | nil => rfl
  | cons x t ih =>
    simp only [strip]
    split
    · rename_i h; rw [ih]; simp [be, h]
    · rfl
set_option maxRecDepth 100000 in
set_option maxHeartbeats 2000000 in
theorem rUint (v : Value) (l : List UInt8) (w : World) (hv : IsB w v l) (hl : l.length ≤ 8) :
    Calls Tryz.prog 247 #[v] w fun e w' => e = .returned (.tuple #[.int .u64 (be l), .bool true]) ∧ w = w' := by
  go_enter Tryz.func247, Tryz.ntmps247
  go_wp2
  go_loop [0] (fun u => ∃ d, IsB w u d ∧ strip d = strip l ∧ d.length ≤ 8) (fun u => vlen u)
  case atStart => exact ⟨l, hv, rfl, hl⟩
  case round =>
    obtain ⟨d, hd, hs, hl8⟩ := hrel
    have HD := Lib.hid hd
    have HS := Lib.hid hs
    clear hs hd
    have hlen := HD.out.len ulB
    by_cases h0 : 0 < d.length
    · obtain ⟨b, o, hi, hw, hc⟩ := HD.out.at_ (P := Tryz.prog) ulB szB .i64 (i := 0) (by omega) (by omega)
      simp only [Int.toNat_zero] at hc
      by_cases hz : bat d 0 = 0
      · obtain ⟨v1, hcut, hv1⟩ := HD.out.cutLo (P := Tryz.prog) ulB szB .i64 (lo := 1) (by omega) (by omega)
        have hq : (bat d 0 == 0) = true := by simp [hz]
        have h0' : (0 : Int) < d.length := by omega
        have HS1 : Hid (strip (d.drop 1) = strip l) := by show strip (d.drop 1) = _; rw [strip_drop d h0 hz, HS.out]
        have HM : Hid (vlen v1 < vlen u0) := by show vlen v1 < vlen u0; rw [vlen_isB hv1, vlen_isB HD.out]; simp; omega
        have HV1 := Lib.hid hv1
        clear hz hv1
        go_wp2
        go_round
        case rel => exact ⟨d.drop 1, HV1.out, HS1.out, by simp; omega⟩
        case measure => exact HM.out
      · have hq : (bat d 0 == 0) = false := by simp [hz]
        have h0' : (0 : Int) < d.length := by omega
        clear hz
        go_wp2
        go_loop [4, 5] (fun n i => ∃ k : Nat, k ≤ d.length ∧ i = .int .i64 k ∧ n = .int .u64 (be (d.take k))) (fun _ i => d.length - (intOf i).toNat)
        case atStart => exact ⟨0, Nat.zero_le _, rfl, rfl⟩
        case round =>
          obtain ⟨k, hk, rfl, rfl⟩ := hrel
          by_cases hkd : k < d.length
          · obtain ⟨b', o', hi', hw', hc'⟩ := HD.out.at_ (P := Tryz.prog) ulB szB .i64 (i := k) (by omega) (by omega)
            simp only [Int.toNat_natCast] at hc'
            have hbb := be_bound (d.take k)
            have hln : (d.take k).length = k := by simp; omega
            rw [hln] at hbb
            have hpw : (256 : Int) ^ k ≤ 256 ^ 7 := pow256_mono (by omega)
            have HB' := Lib.hid (be_take_succ d k hkd)
            have hN0 := hbb.1
            have hN1 : be (d.take k) < 72057594037927936 := by have := hbb.2; omega
            have hX0 := bat_pos d k
            have hX1 := bat_lt d k
            clear hbb hln hpw
            generalize be (d.take k) = N at *
            have hkd' : (k : Int) < d.length := by omega
            go_wp2
            go_round
            case rel => exact ⟨k + 1, by omega, by go_num, by rw [HB'.out]⟩
            case measure => simp [intOf]; omega
          · have hfin : be (d.take k) = be l := by rw [List.take_of_length_le (by omega), ← be_strip d, HS.out, be_strip]
            rw [hfin]
            have hkd' : (d.length : Int) ≤ k := by omega
            go_wp2
            go_ret2
            exact ⟨rfl, rfl⟩
    · have h0' : (d.length : Int) ≤ 0 := by omega
      go_wp2
      all_goals
        go_loop [4, 5] (fun n i => ∃ k : Nat, k ≤ d.length ∧ i = .int .i64 k ∧ n = .int .u64 (be (d.take k))) (fun _ i => d.length - (intOf i).toNat)
        case atStart => exact ⟨0, Nat.zero_le _, rfl, rfl⟩
        case round =>
          obtain ⟨k, hk, rfl, rfl⟩ := hrel
          by_cases hkd : k < d.length
          · obtain ⟨b', o', hi', hw', hc'⟩ := HD.out.at_ (P := Tryz.prog) ulB szB .i64 (i := k) (by omega) (by omega)
            simp only [Int.toNat_natCast] at hc'
            have hbb := be_bound (d.take k)
            have hln : (d.take k).length = k := by simp; omega
            rw [hln] at hbb
            have hpw : (256 : Int) ^ k ≤ 256 ^ 7 := pow256_mono (by omega)
            have HB' := Lib.hid (be_take_succ d k hkd)
            have hN0 := hbb.1
            have hN1 : be (d.take k) < 72057594037927936 := by have := hbb.2; omega
            have hX0 := bat_pos d k
            have hX1 := bat_lt d k
            clear hbb hln hpw
            generalize be (d.take k) = N at *
            have hkd' : (k : Int) < d.length := by omega
            go_wp2
            go_round
            case rel => exact ⟨k + 1, by omega, by go_num, by rw [HB'.out]⟩
            case measure => simp [intOf]; omega
          · have hfin : be (d.take k) = be l := by rw [List.take_of_length_le (by omega), ← be_strip d, HS.out, be_strip]
            rw [hfin]
            have hkd' : (d.length : Int) ≤ k := by omega
            go_wp2
            go_ret2
            exact ⟨rfl, rfl⟩
end Go.Proofs.YtlmnmgokfnnbbaaGreatDoor
end

/- Walks over the references of layer 2: Length, ReadLength. -/
section
set_option linter.unusedSimpArgs false
set_option linter.unusedVariables false
namespace Go.Proofs.YtlmnmgokfnnbbaaGreatDoor
open Go.RowKit Go.Cr
def RetOK (t : TypeId) (l : List UInt8) (w : World) (e : Ending) (w' : World) : Prop := ∃ v, e = .returned (.tuple #[v, .int .i64 0]) ∧ OwB w' w.heap.size t v l ∧ Below w.heap.size w w'

set_option maxRecDepth 100000 in
set_option maxHeartbeats 2000000 in
theorem rLength (n : Int) (w : World) (h0 : 0 ≤ n) (h1 : n ≤ 2147483647) : Calls Tryz.prog 128 #[.int .i64 n] w (RetOK 5 (lenOct n.toNat) w) := by
  have IH := Lib.hid (rMinimal 7 n.toNat · (by omega) (by omega))
  rw [show ((n.toNat : Nat) : Int) = n by omega] at IH
  obtain ⟨hm1, hm2⟩ := minF_len 7 n.toNat
  by_cases hlt : n < 128
  · have HM : Hid (lenOct n.toNat = minF 7 n.toNat) := by show lenOct n.toNat = _; unfold lenOct; rw [if_pos (by omega)]
    generalize minF 7 n.toNat = m at *
    go_enter Tryz.func128, Tryz.ntmps128
    go_wp2_with (first | (go_at_call 162; (with_reducible refine (IH.out _).mono ?_); rintro e w1 ⟨v1, rfl, ho, hb1⟩; have HO := Lib.hid ho; clear ho))
    go_ret2
    rw [HM.out]
    exact ⟨_, rfl, HO.out, hb1⟩
  · have HM : Hid (lenOct n.toNat = UInt8.ofNat (128 + (minF 7 n.toNat).length) :: minF 7 n.toNat) := by show lenOct n.toNat = _; unfold lenOct; rw [if_neg (by omega)]
    have HZ : Hid (bi (UInt8.ofNat (128 + (minF 7 n.toNat).length)) = 128 + ((minF 7 n.toNat).length : Int)) := by show bi _ = _; rw [bi_ofNat]; omega
    generalize UInt8.ofNat (128 + (minF 7 n.toNat).length) = z at *
    generalize minF 7 n.toNat = m at *
    have hm3 : (m.length : Int) ≤ 8 := by omega
    go_enter Tryz.func128, Tryz.ntmps128
    go_wp2_with (first | (go_at_call 162; (with_reducible refine (IH.out _).mono ?_); rintro e w1 ⟨v1, rfl, ho, hb1⟩; have HO := Lib.hid ho; clear ho; have hln := HO.out.isB.len ulB) | (at_builtin; refine wpList_appB _ rfl _ _ 33 rfl w1.heap.size 5 ulB infoB _ [z] rfl (by rw [← HZ.out]; exact OwB.one _ _ _ (Nat.le_refl _)) _ _ rfl (HO.out.isB.alloc _) ?k1 ?k2 ?_))
    case k1 => simp; omega
    case k2 => simp
    intro v2 w2 ho2 _ hb2
    have HO2 := Lib.hid ho2
    clear ho2
    go_wp2
    go_ret2
    rw [HM.out]
    exact ⟨_, rfl, HO2.out.more hb1.size, (hb1.alloc hb1.size _).trans (hb2.mono hb1.size)⟩

theorem isB_cutHi {P : Program} {w : World} {v : Value} {l : List UInt8} {t e : TypeId} (h : IsB w v l) (ht : P.underlying t = some (.slice e)) (hs : ∀ W, (sizeOf e).run P W = .ok 1 W) (k' : IntKind) {hi : Int} (h1 : 0 ≤ hi) (h2 : hi ≤ l.length) :
    ∃ v', (∀ W : World, (Instr.slice t v none (some (.int k' hi)) none).run P W = .ok v' W) ∧ IsB w v' (l.take hi.toNat) := by
  obtain ⟨A, c, rfl, h2, h3, h4⟩ := h
  refine ⟨.slice A hi.toNat c, fun W => ?_, ?_⟩
  · have hi1 : (0 ≤ hi ∧ hi ≤ (c : Int)) := ⟨by omega, by omega⟩
    simp only [Instr.slice, Instr.sliceBounds, Instr.sliceBound, asIntOf, Sem.run_bind, Sem.run_pure, Result.andThen, run_underlying ht, if_pos hi1, hs]
    cases A <;> simp [Addr.add]
  · have := IsB.sub (A0 := A) (n0 := l.length) (c := c) (lo := 0) (hi := hi.toNat) (c' := c) (A := A) (n := hi.toNat) ⟨A, c, rfl, h2, h3, h4⟩ (by omega) (by omega) (by omega) (by omega) (by omega) (by rintro _ b off rfl; rfl)
    simpa using this

set_option maxRecDepth 100000 in
set_option maxHeartbeats 4000000 in
theorem rReadLen (v : Value) (l : List UInt8) (w : World) (hv : IsB w v l) : Calls Tryz.prog 231 #[v] w (RetB (lenV (rdLen l)) w) := by
  have hlen := hv.len ulB
  by_cases hl : l.length = 0
  · have HV : Hid (lenV (rdLen l) = .tuple #[.int .i64 0, .int .i64 0, errV (1, 0)]) := by show lenV (rdLen l) = _; simp [rdLen, lenV, hl]
    have hlb : ((l.length : Int) == 0) = true := beq_iff_eq.2 (by omega)
    clear hl
    go_enter Tryz.func231, Tryz.ntmps231
    go_wp2
    (refine bodyPost_retB (by (simp only [results, Tryz.results231]; try go_simp)) rfl HV.out.symm ?_; ((repeat' (first | (with_reducible exact Below.refl _ _) | (with_reducible assumption) | (with_reducible refine Below.setCell ?_ ?_ _) | (with_reducible refine Below.alloc ?_ ?_ _) | (with_reducible refine Below.drew ?_) | (with_reducible refine below_drewN ?_ _) | (with_reducible refine Below.step (by with_reducible assumption) ?_ ?_))) <;> (first | omega | (simp; done) | (simp; omega))))
  have hx1 := bat_lt l 0
  have hx0 := bat_pos l 0
  have hlb : ((l.length : Int) == 0) = false := beq_eq_false_iff_ne.2 (by omega)
  have hmx := hv.maxl
  obtain ⟨b, o, hix, hbw, hcl⟩ := hv.at_ (P := Tryz.prog) ulB szB .i64 (i := 0) (by omega) (by omega)
  simp only [Int.toNat_zero] at hcl
  have HI := Lib.hid hv
  clear hv
  by_cases c1 : bat l 0 < 128
  · have HV : Hid (lenV (rdLen l) = .tuple #[.int .i64 (bat l 0), .int .i64 1, errV (0, 0)]) := by show lenV (rdLen l) = _; unfold rdLen; (repeat (first | rw [if_pos (by omega)] | rw [if_neg (by omega)])); rfl
    go_enter Tryz.func231, Tryz.ntmps231
    go_wp2
    (refine bodyPost_retB (by (simp only [results, Tryz.results231]; try go_simp)) rfl HV.out.symm ?_; ((repeat' (first | (with_reducible exact Below.refl _ _) | (with_reducible assumption) | (with_reducible refine Below.setCell ?_ ?_ _) | (with_reducible refine Below.alloc ?_ ?_ _) | (with_reducible refine Below.drew ?_) | (with_reducible refine below_drewN ?_ _) | (with_reducible refine Below.step (by with_reducible assumption) ?_ ?_))) <;> (first | omega | (simp; done) | (simp; omega))))
  by_cases c2 : bat l 0 - 128 = 0 ∨ 4 < bat l 0 - 128
  · have HV : Hid (lenV (rdLen l) = .tuple #[.int .i64 0, .int .i64 0, errV (4, 0)]) := by show lenV (rdLen l) = _; unfold rdLen; (repeat (first | rw [if_pos (by omega)] | rw [if_neg (by omega)])); rfl
    have hk : ((bat l 0 - 128 == 0) = true) ∨ ((bat l 0 - 128 == 0) = false ∧ 5 ≤ bat l 0 - 128) := by
      by_cases h : bat l 0 - 128 = 0
      · exact .inl (by simp [h])
      · exact .inr ⟨by simp [h], by omega⟩
    clear c2
    rcases hk with hk | ⟨hk, hk4⟩ <;>
    · go_enter Tryz.func231, Tryz.ntmps231
      go_wp2
      (refine bodyPost_retB (by (simp only [results, Tryz.results231]; try go_simp)) rfl HV.out.symm ?_; ((repeat' (first | (with_reducible exact Below.refl _ _) | (with_reducible assumption) | (with_reducible refine Below.setCell ?_ ?_ _) | (with_reducible refine Below.alloc ?_ ?_ _) | (with_reducible refine Below.drew ?_) | (with_reducible refine below_drewN ?_ _) | (with_reducible refine Below.step (by with_reducible assumption) ?_ ?_))) <;> (first | omega | (simp; done) | (simp; omega))))
  have c3 : ¬ bat l 0 - 128 = 0 := by omega
  have c4 : bat l 0 - 128 < 5 := by omega
  have hk : (bat l 0 - 128 == 0) = false := by simp [c3]
  by_cases c5 : (l.length : Int) ≤ bat l 0 - 128
  · have HV : Hid (lenV (rdLen l) = .tuple #[.int .i64 0, .int .i64 0, errV (1, l.length)]) := by show lenV (rdLen l) = _; unfold rdLen; (repeat (first | rw [if_pos (by omega)] | rw [if_neg (by omega)])); rfl
    have c5' : (l.length : Int) < 1 + (bat l 0 - 128) := by omega
    clear c2 c3
    go_enter Tryz.func231, Tryz.ntmps231
    go_wp2
    (refine bodyPost_retB (by (simp only [results, Tryz.results231]; try go_simp)) rfl HV.out.symm ?_; ((repeat' (first | (with_reducible exact Below.refl _ _) | (with_reducible assumption) | (with_reducible refine Below.setCell ?_ ?_ _) | (with_reducible refine Below.alloc ?_ ?_ _) | (with_reducible refine Below.drew ?_) | (with_reducible refine below_drewN ?_ _) | (with_reducible refine Below.step (by with_reducible assumption) ?_ ?_))) <;> (first | omega | (simp; done) | (simp; omega))))
  obtain ⟨k, hK⟩ : ∃ k : Nat, bat l 0 = 128 + k := ⟨(bat l 0 - 128).toNat, by omega⟩
  obtain ⟨v1, hcut, hv1⟩ := HI.out.cut (P := Tryz.prog) ulB szB .i64 .i64 (lo := 1) (hi := 1 + (bat l 0 - 128)) (by omega) (by omega) (by omega)
  obtain ⟨v2, hcut2, hv2⟩ := isB_cutHi (P := Tryz.prog) HI.out ulB szB .i64 (hi := 1 + (bat l 0 - 128)) (by omega) (by omega)
  rw [show (1 + (bat l 0 - 128) - 1).toNat = k by omega] at hv1
  rw [show (1 + (bat l 0 - 128)).toNat = 1 + k by omega] at hv2
  have hv1 : IsB w v1 ((l.drop 1).take k) := hv1
  have hU : ∀ W, IsB W v1 ((l.drop 1).take k) → Calls Tryz.prog 247 #[v1] W fun e w' => e = .returned (.tuple #[.int .u64 (be ((l.drop 1).take k)), .bool true]) ∧ W = w' := fun W h => rUint v1 _ W h (by simp; omega)
  have HU := Lib.hid hU
  have hbe := be_bound ((l.drop 1).take k)
  rw [show ((l.drop 1).take k).length = k by simp; omega] at hbe
  have hpw : (256 : Int) ^ k ≤ 256 ^ 4 := pow256_mono (by omega)
  have hN0 := hbe.1
  have hN1 : be ((l.drop 1).take k) < 4294967296 := by have := hbe.2; omega
  have HL := Lib.hid (lenOct_long hK (by omega) (by omega) (by omega))
  have HV0 : Hid (lenV (rdLen l) = if bat l 1 = 0 ∨ be ((l.drop 1).take k) < 128 ∨ 2147483647 < be ((l.drop 1).take k) then .tuple #[.int .i64 0, .int .i64 0, errV (4, 0)] else .tuple #[.int .i64 (be ((l.drop 1).take k)), .int .i64 (1 + (bat l 0 - 128)), errV (0, 0)]) := by
    show lenV (rdLen l) = _
    unfold rdLen
    rw [show (bat l 0 - 128).toNat = k by omega]
    (repeat (first | rw [if_pos (by omega)] | rw [if_neg (by omega)]))
    split <;> rfl
  have H1 := Lib.hid hv1
  have H2 := Lib.hid hv2
  have c5' : 1 + (bat l 0 - 128) ≤ (l.length : Int) := by omega
  clear hbe hpw hU hv1 hv2 c2 c3 hK
  generalize be ((l.drop 1).take k) = N at *
  by_cases hbig : 2147483647 < N
  · have HV : Hid (lenV (rdLen l) = .tuple #[.int .i64 0, .int .i64 0, errV (4, 0)]) := by show _ = _; rw [HV0.out, if_pos (.inr (.inr hbig))]
    go_enter Tryz.func231, Tryz.ntmps231
    go_wp2_with (first | (go_at_call 247; (with_reducible refine (HU.out _ (H1.out.alloc _)).mono ?_); rintro e w1 ⟨rfl, rfl⟩))
    (refine bodyPost_retB (by (simp only [results, Tryz.results231]; try go_simp)) rfl HV.out.symm ?_; ((repeat' (first | (with_reducible exact Below.refl _ _) | (with_reducible assumption) | (with_reducible refine Below.setCell ?_ ?_ _) | (with_reducible refine Below.alloc ?_ ?_ _) | (with_reducible refine Below.drew ?_) | (with_reducible refine below_drewN ?_ _) | (with_reducible refine Below.step (by with_reducible assumption) ?_ ?_))) <;> (first | omega | (simp; done) | (simp; omega))))
  have hC : ∀ x W, IsB W x (lenOct N.toNat) → IsB W v2 (l.take (1 + k)) → Calls Tryz.prog 98 #[x, v2] W (RetB (.int .i64 (cmpL (lenOct N.toNat) (l.take (1 + k)))) W) := fun x W h h' => rCompare x v2 _ _ W h h'
  have hNb : N ≤ 2147483647 := by omega
  have HLn := Lib.hid (rLength N · hN0 hNb)
  have HC := Lib.hid hC
  clear hC hbig
  by_cases hbad : bat l 1 = 0 ∨ N < 128
  · have HV : Hid (lenV (rdLen l) = .tuple #[.int .i64 0, .int .i64 0, errV (4, 0)]) := by show _ = _; rw [HV0.out, if_pos (by rcases hbad with h | h; exact .inl h; exact .inr (.inl h))]
    have hne : cmpL (lenOct N.toNat) (l.take (1 + k)) ≠ 0 := fun h => (HL.out.1 (cmpL_zero h)) hbad
    generalize cmpL (lenOct N.toNat) (l.take (1 + k)) = C at *
    have hq : (C != 0) = true := by simp [hne]
    clear hne hbad
    go_enter Tryz.func231, Tryz.ntmps231
    go_wp2_with (first | (go_at_call 247; (with_reducible refine (HU.out _ (H1.out.alloc _)).mono ?_); rintro e w1 ⟨rfl, rfl⟩) | (go_at_call 128; (with_reducible refine (HLn.out _).mono ?_); rintro e w1 ⟨x, rfl, ho, hb1⟩; have HO := Lib.hid ho; clear ho; have K1 := Blk.call (Blk.new w 38 #[.int .i64 0, .int .i64 0]) hb1; have lK1 := K1.lt; have qK1 := K1.q; have rK1 := K1.fz; have K1' := Lib.hid K1; clear K1; have K1 := K1'.out; clear K1') | (go_at_call 98; (with_reducible refine (HC.out _ _ HO.out.isB ((H2.out.alloc _).below hb1)).mono ?_); rintro e w2 ⟨rfl, hb2⟩; have K2 := Blk.call (K1) hb2; have lK2 := K2.lt; have qK2 := K2.q; have rK2 := K2.fz; have K2' := Lib.hid K2; clear K2; have K2 := K2'.out; clear K2'))
    (refine bodyPost_retB (by (simp only [results, Tryz.results231]; try go_simp)) rfl HV.out.symm ?_; ((repeat' (first | (with_reducible exact Below.refl _ _) | (with_reducible assumption) | (with_reducible refine Below.setCell ?_ ?_ _) | (with_reducible refine Below.alloc ?_ ?_ _) | (with_reducible refine Below.drew ?_) | (with_reducible refine below_drewN ?_ _) | (with_reducible refine Below.step (by with_reducible assumption) ?_ ?_))) <;> (first | omega | (simp; done) | (simp; omega))))
  · have HV : Hid (lenV (rdLen l) = .tuple #[.int .i64 N, .int .i64 (1 + (bat l 0 - 128)), errV (0, 0)]) := by show _ = _; rw [HV0.out, if_neg (by rintro (h | h | h); exact hbad (.inl h); exact hbad (.inr h); omega)]
    have heq : lenOct N.toNat = l.take (1 + k) := HL.out.2 hbad
    have hz : cmpL (lenOct N.toNat) (l.take (1 + k)) = 0 := by rw [heq]; exact cmpL_self _
    rw [hz] at HC
    clear heq hz hbad
    go_enter Tryz.func231, Tryz.ntmps231
    go_wp2_with (first | (go_at_call 247; (with_reducible refine (HU.out _ (H1.out.alloc _)).mono ?_); rintro e w1 ⟨rfl, rfl⟩) | (go_at_call 128; (with_reducible refine (HLn.out _).mono ?_); rintro e w1 ⟨x, rfl, ho, hb1⟩; have HO := Lib.hid ho; clear ho; have K1 := Blk.call (Blk.new w 38 #[.int .i64 0, .int .i64 0]) hb1; have lK1 := K1.lt; have qK1 := K1.q; have rK1 := K1.fz; have K1' := Lib.hid K1; clear K1; have K1 := K1'.out; clear K1') | (go_at_call 98; (with_reducible refine (HC.out _ _ HO.out.isB ((H2.out.alloc _).below hb1)).mono ?_); rintro e w2 ⟨rfl, hb2⟩; have K2 := Blk.call (K1) hb2; have lK2 := K2.lt; have qK2 := K2.q; have rK2 := K2.fz; have K2' := Lib.hid K2; clear K2; have K2 := K2'.out; clear K2'))
    (refine bodyPost_retB (by (simp only [results, Tryz.results231]; try go_simp)) rfl HV.out.symm ?_; ((repeat' (first | (with_reducible exact Below.refl _ _) | (with_reducible assumption) | (with_reducible refine Below.setCell ?_ ?_ _) | (with_reducible refine Below.alloc ?_ ?_ _) | (with_reducible refine Below.drew ?_) | (with_reducible refine below_drewN ?_ _) | (with_reducible refine Below.step (by with_reducible assumption) ?_ ?_))) <;> (first | omega | (simp; done) | (simp; omega))))
end Go.Proofs.YtlmnmgokfnnbbaaGreatDoor
end

/- Walks over the making of elements: Identifier, Length, Encode, Wrap, Sequence, in the program and in the references. -/
section
set_option linter.unusedSimpArgs false
set_option linter.unusedVariables false
namespace Go.Proofs.YtlmnmgokfnnbbaaGreatDoor
open Go.RowKit Go.Cr
set_option maxRecDepth 100000 in
set_option maxHeartbeats 2000000 in
theorem rIdent_good (c n : Int) (k : Bool) (w : World) (h : 0 ≤ c) (h1 : c ≤ 3) (h2 : 0 ≤ n) (h3 : n < 31) :
    Calls Tryz.prog 205 #[.int .i64 c, .bool k, .int .i64 n] w fun e w' => e = .returned (.tuple #[.int .u8 (c * 64 + n + if k then 32 else 0), .int .i64 0]) ∧ w = w' := by
  cases k
  · go_enter Tryz.func205, Tryz.ntmps205
    go_wp2
    go_ret2
    exact ⟨by simp, rfl⟩
  · go_enter Tryz.func205, Tryz.ntmps205
    go_wp2
    go_ret2
    exact ⟨by simp, rfl⟩

set_option maxRecDepth 100000 in
set_option maxHeartbeats 2000000 in
theorem pLength (n : Int) (w : World) (h0 : 0 ≤ n) (h1 : n ≤ 2147483647) : Calls Tryz.prog 153 #[.int .i64 n] w (RetOK 5 (lenOct n.toNat) w) := by
  have IH := Lib.hid (pMinimal n.toNat · (by rw [show (256 : Nat) ^ 8 = 18446744073709551616 by decide]; omega))
  rw [show ((n.toNat : Nat) : Int) = n by omega] at IH
  obtain ⟨hm1, hm2⟩ := minF_len 7 n.toNat
  by_cases hlt : n < 128
  · have HM : Hid (lenOct n.toNat = minF 7 n.toNat) := by show lenOct n.toNat = _; unfold lenOct; rw [if_pos (by omega)]
    generalize minF 7 n.toNat = m at *
    go_enter Tryz.func153, Tryz.ntmps153
    go_wp2_with (first | (go_at_call 193; (with_reducible refine (IH.out _).mono ?_); rintro e w1 ⟨v1, rfl, ho, hb1⟩; have HO := Lib.hid ho; clear ho))
    go_ret2
    rw [HM.out]
    exact ⟨_, rfl, HO.out, hb1⟩
  · have HM : Hid (lenOct n.toNat = UInt8.ofNat (128 + (minF 7 n.toNat).length) :: minF 7 n.toNat) := by show lenOct n.toNat = _; unfold lenOct; rw [if_neg (by omega)]
    have HZ : Hid (bi (UInt8.ofNat (128 + (minF 7 n.toNat).length)) = 128 + ((minF 7 n.toNat).length : Int)) := by show bi _ = _; rw [bi_ofNat]; omega
    generalize UInt8.ofNat (128 + (minF 7 n.toNat).length) = z at *
    generalize minF 7 n.toNat = m at *
    have hm3 : (m.length : Int) ≤ 8 := by omega
    go_enter Tryz.func153, Tryz.ntmps153
    go_wp2_with (first | (go_at_call 193; (with_reducible refine (IH.out _).mono ?_); rintro e w1 ⟨v1, rfl, ho, hb1⟩; have HO := Lib.hid ho; clear ho; have hln := HO.out.isB.len ulB) | (at_builtin; refine wpList_appB _ rfl _ _ 33 rfl w1.heap.size 5 ulB infoB _ [z] rfl (by rw [← HZ.out]; exact OwB.one _ _ _ (Nat.le_refl _)) _ _ rfl (HO.out.isB.alloc _) ?k1 ?k2 ?_))
    case k1 => simp; omega
    case k2 => simp
    intro v2 w2 ho2 _ hb2
    have HO2 := Lib.hid ho2
    clear ho2
    go_wp2
    go_ret2
    rw [HM.out]
    exact ⟨_, rfl, HO2.out.more hb1.size, (hb1.alloc hb1.size _).trans (hb2.mono hb1.size)⟩

theorem isBs_new3 (w : World) (t : TypeId) {a b c : Value} {la lb lc : List UInt8} (ha : IsB w a la) (hb : IsB w b lb) (hc : IsB w c lc) :
    IsBs (w.alloc (.cells #[a, b, c] t)) (.slice (some ⟨w.heap.size, 0, none⟩) 3 3) [la, lb, lc] := by
  refine ⟨[a, b, c], ⟨some ⟨w.heap.size, 0, none⟩, 3, rfl, Nat.le_refl _, by decide, rfl, fun _ => ⟨w.heap.size, 0, rfl, by simp, fun j x hj => ?_⟩⟩, fun j hj => ?_⟩
  · rw [Nat.zero_add, World.cell?_alloc_new]
    simpa using hj
  · match j, hj with
    | 0, _ => exact ha.alloc _
    | 1, _ => exact hb.alloc _
    | 2, _ => exact hc.alloc _

theorem isBs_at3 {w : World} {t : TypeId} {g : Nat} {a b c : Value} {la lb lc : List UInt8} (hg : g = w.heap.size) (ha : IsB w a la) (hb : IsB w b lb) (hc : IsB w c lc) :
    IsBs (w.alloc (.cells #[a, b, c] t)) (.slice (some ⟨g, 0, none⟩) 3 3) [la, lb, lc] := by subst hg; exact isBs_new3 w t ha hb hc
theorem isB_slice {w : World} {v : Value} {l : List UInt8} (h : IsB w v l) : ∃ A c, v = .slice A l.length c := by
  obtain ⟨A, c, rfl, _⟩ := h; exact ⟨A, c, rfl⟩

set_option maxRecDepth 100000 in
set_option maxHeartbeats 2000000 in
theorem pEnc_bad (c n : Int) (k : Bool) (v : Value) (w : World) (h : c < 0 ∨ 3 < c ∨ n < 0 ∨ 31 ≤ n) :
    Calls Tryz.prog 116 #[.int .i64 c, .bool k, .int .i64 n, v] w (RetB (.tuple #[.slice none 0 0, .int .i64 9]) w) := by
  have HI := Lib.hid (ident_bad c n k · h)
  clear h
  go_enter Tryz.func116, Tryz.ntmps116
  go_wp2_with (first | (go_at_call 152; (with_reducible refine (HI.out _).mono ?_); rintro e w1 ⟨rfl, rfl⟩))
  (refine bodyPost_retB (v := .tuple #[.slice none 0 0, .int .i64 9]) (by (simp only [results, Tryz.results116]; try go_simp)) rfl rfl ?_; ((repeat' (first | (with_reducible exact Below.refl _ _) | (with_reducible assumption) | (with_reducible refine Below.setCell ?_ ?_ _) | (with_reducible refine Below.alloc ?_ ?_ _) | (with_reducible refine Below.drew ?_) | (with_reducible refine below_drewN ?_ _) | (with_reducible refine Below.step (by with_reducible assumption) ?_ ?_))) <;> (first | omega | (simp; done) | (simp; omega))))

set_option maxRecDepth 100000 in
set_option maxHeartbeats 2000000 in
theorem pEnc_good (c n : Int) (k : Bool) (v : Value) (l : List UInt8) (w : World) (hv : IsB w v l) (h : 0 ≤ c) (h1 : c ≤ 3) (h2 : 0 ≤ n) (h3 : n < 31) (hl : l.length ≤ 900000) :
    Calls Tryz.prog 116 #[.int .i64 c, .bool k, .int .i64 n, v] w (RetOK 5 (encO c k n l) w) := by
  obtain ⟨A, cp, rfl⟩ := isB_slice hv
  have HV := Lib.hid hv
  have hz := idB_bi c k n h h1 h2 h3
  have HI0 : Hid (∀ W, Calls Tryz.prog 152 #[.int .i64 c, .bool k, .int .i64 n] W fun e w' => e = .returned (.tuple #[.int .u8 (bi (idB c k n)), .int .i64 0]) ∧ W = w') := fun W => by
    rw [hz]; exact ident_good c n k W h h1 h2 h3
  have HL := Lib.hid (pLength l.length · (by omega) (by omega))
  obtain ⟨hm1, hm2⟩ := lenOct_len l.length
  rw [Int.toNat_natCast] at HL
  have HE : Hid (encO c k n l = idB c k n :: (lenOct l.length ++ l)) := rfl
  have hl' : (l.length : Int) ≤ 900000 := by omega
  clear hv hz h h1 h2 h3
  generalize idB c k n = z at *
  generalize lenOct l.length = m at *
  generalize encO c k n l = E at *
  have hfl : [[z], m, l].flatten.length ≤ 1000000 := by simp; omega
  have HF := Lib.hid hfl
  clear hfl
  go_enter Tryz.func116, Tryz.ntmps116
  go_wp2_with (first | (go_at_call 152; (with_reducible refine (HI0.out _).mono ?_); rintro e w1 ⟨rfl, rfl⟩) | (go_at_call 153; (with_reducible refine (HL.out _).mono ?_); rintro e w1 ⟨v1, rfl, ho, hb1⟩; have HO := Lib.hid ho; clear ho; obtain ⟨A1, cp1, rfl⟩ := isB_slice HO.out.isB) | (go_at_call 117; (with_reducible refine (concat_any _ [[z], m, l] _ (isBs_at3 (by simp) (isB_new _ _ z _ rfl) (HO.out.isB.alloc _) ((HV.out.below hb1).alloc _)) HF.out).mono ?_); rintro e w2 ⟨v2, rfl, ho2, hb2⟩; have HO2 := Lib.hid ho2; clear ho2))
  go_ret2
  rw [HE.out]
  refine ⟨_, rfl, ?_, ?_⟩
  · have := HO2.out
    simp only [List.flatten_cons, List.flatten_nil, List.append_nil] at this
    exact this.more (by have := hb1.size; simp; omega)
  · exact (((hb1.alloc hb1.size _).alloc (by have := hb1.size; simp; omega) _)).trans (hb2.mono (by have := hb1.size; simp; omega))

end Go.Proofs.YtlmnmgokfnnbbaaGreatDoor
end

/- Walks over Wrap and Sequence, in the program and in the reference. -/
section
set_option linter.unusedSimpArgs false
set_option linter.unusedVariables false
namespace Go.Proofs.YtlmnmgokfnnbbaaGreatDoor
open Go.RowKit Go.Cr
def RetW (c : Int) (k : Bool) (n : Int) (l : List UInt8) (w : World) (e : Ending) (w' : World) : Prop :=
  if 0 ≤ c ∧ c ≤ 3 ∧ 0 ≤ n ∧ n < 31 then RetOK 5 (encO c k n l) w e w' else RetB (.tuple #[.slice none 0 0, .int .i64 9]) w e w'

theorem pEnc (c n : Int) (k : Bool) (v : Value) (l : List UInt8) (w : World) (hv : IsB w v l) (hl : l.length ≤ 900000) :
    Calls Tryz.prog 116 #[.int .i64 c, .bool k, .int .i64 n, v] w (RetW c k n l w) := by
  by_cases h : 0 ≤ c ∧ c ≤ 3 ∧ 0 ≤ n ∧ n < 31
  · exact (pEnc_good c n k v l w hv h.1 h.2.1 h.2.2.1 h.2.2.2 hl).mono fun e w' he => by unfold RetW; rw [if_pos h]; exact he
  · exact (pEnc_bad c n k v w (by omega)).mono fun e w' he => by unfold RetW; rw [if_neg h]; exact he
theorem RetW.get {c n : Int} {k : Bool} {l : List UInt8} {w : World} {e : Ending} {w' : World} (h : RetW c k n l w e w') :
    ∃ v cd, e = .returned (.tuple #[v, .int .i64 cd]) ∧ Below w.heap.size w w' ∧ ∀ w0 w2, Below w0.heap.size w0 w' → w0.heap.size ≤ w.heap.size → Below w0.heap.size w0 w2 → Below w'.heap.size w' w2 → RetW c k n l w0 (.returned (.tuple #[v, .int .i64 cd])) w2 := by
  unfold RetW at h ⊢
  split at h
  · next hh =>
    obtain ⟨v, rfl, h1, h2⟩ := h
    exact ⟨v, 0, rfl, h2, fun w0 w2 _ hs hb hb' => by rw [if_pos hh]; exact ⟨v, rfl, (h1.below hb').more hs, hb⟩⟩
  · next hh =>
    obtain ⟨rfl, h2⟩ := h
    exact ⟨_, _, rfl, h2, fun w0 w2 _ hs hb hb' => by rw [if_neg hh]; exact ⟨rfl, hb⟩⟩

set_option maxRecDepth 100000 in
set_option maxHeartbeats 2000000 in
theorem pWrap (c n : Int) (k : Bool) (v : Value) (ls : List (List UInt8)) (w : World) (hv : IsBs w v ls) (hl : ls.flatten.length ≤ 900000) :
    Calls Tryz.prog 82 #[.int .i64 c, .bool k, .int .i64 n, v] w (RetW c k n ls.flatten w) := by
  have HV := Lib.hid hv
  obtain ⟨F, hF⟩ : ∃ F, ls.flatten = F := ⟨_, rfl⟩
  have HC : Hid (Calls Tryz.prog 117 #[v] w (RetO 5 F w)) := by
    have := concat_any v ls w hv (by omega)
    rw [hF] at this; exact this
  rw [hF] at hl ⊢
  clear hv hF
  have HE := Lib.hid (fun x W (h : IsB W x F) => pEnc c n k x F W h hl)
  go_enter Tryz.func82, Tryz.ntmps82
  go_wp2_with (first | (go_at_call 117; (with_reducible refine HC.out.mono ?_); rintro e w1 ⟨v1, rfl, ho, hb1⟩; have HO := Lib.hid ho; clear ho) | (go_at_call 116; (with_reducible refine (HE.out _ _ HO.out.isB).mono ?_); rintro e w2 hw2; obtain ⟨v2, cd, rfl, hb2, hp⟩ := hw2.get; have HP := Lib.hid hp; clear hp hw2))
  go_ret2
  exact HP.out _ _ (hb1.trans (hb2.mono hb1.size)) hb1.size (hb1.trans (hb2.mono hb1.size)) (Below.refl _ _)

set_option maxRecDepth 100000 in
set_option maxHeartbeats 2000000 in
theorem pSeq (v : Value) (ls : List (List UInt8)) (w : World) (hv : IsBs w v ls) (hl : ls.flatten.length ≤ 900000) :
    Calls Tryz.prog 85 #[v] w (RetW 0 true 16 ls.flatten w) := by
  have HW := Lib.hid (pWrap 0 16 true v ls w hv hl)
  generalize ls.flatten = F at *
  clear hv hl
  go_enter Tryz.func85, Tryz.ntmps85
  go_wp2_with (go_at_call 82; (with_reducible refine HW.out.mono ?_); rintro e w2 hw2; obtain ⟨v2, cd, rfl, hb2, hp⟩ := hw2.get; have HP := Lib.hid hp; clear hp hw2)
  go_ret2
  exact HP.out _ _ hb2 (Nat.le_refl _) hb2 (Below.refl _ _)

end Go.Proofs.YtlmnmgokfnnbbaaGreatDoor
end

/- Walks over the references of layer 2: ReadHeader, Next. -/
section
set_option linter.unusedSimpArgs false
set_option linter.unusedVariables false
namespace Go.Proofs.YtlmnmgokfnnbbaaGreatDoor
open Go.RowKit Go.Cr
set_option maxRecDepth 100000 in
set_option maxHeartbeats 2000000 in
theorem rReadHdr (v : Value) (l : List UInt8) (w : World) (hw : IsB w v l) : Calls Tryz.prog 203 #[v] w (RetB (rhV (rdHdr l)) w) := by
  have hlen := hw.len ulB
  by_cases hl : l.length = 0
  · have HV : Hid (rhV (rdHdr l) = .tuple #[hdrV Hdr.zero, errV (1, 0)]) := by show rhV (rdHdr l) = _; simp [rdHdr, rhV, hl]
    have hlb : ((l.length : Int) == 0) = true := beq_iff_eq.2 (by omega)
    clear hl
    go_enter Tryz.func203, Tryz.ntmps203
    go_wp2
    refine bodyPost_retB ?_ rfl HV.out.symm ?_
    · simp [results, errV, hdrV, Hdr.zero, Tryz.results203, go_sem]
    · ((repeat' (first | (with_reducible exact Below.refl _ _) | (with_reducible assumption) | (with_reducible refine Below.setCell ?_ ?_ _) | (with_reducible refine Below.alloc ?_ ?_ _) | (with_reducible refine Below.drew ?_) | (with_reducible refine below_drewN ?_ _) | (with_reducible refine Below.step (by with_reducible assumption) ?_ ?_))) <;> (first | omega | (simp; done) | (simp; omega)))
  have hx1 := bat_lt l 0
  have hx0 := bat_pos l 0
  have hlb : ((l.length : Int) == 0) = false := beq_eq_false_iff_ne.2 (by omega)
  obtain ⟨b, o, hix, hbw, hcl⟩ := hw.at_ (P := Tryz.prog) ulB szB .i64 (i := 0) (by omega) (by omega)
  simp only [Int.toNat_zero] at hcl
  by_cases c1 : bat l 0 % 32 = 31
  · have HV : Hid (rhV (rdHdr l) = .tuple #[hdrV Hdr.zero, errV (3, 0)]) := by show rhV (rdHdr l) = _; unfold rdHdr; (repeat (first | rw [if_pos (by omega)] | rw [if_neg (by omega)])); rfl
    have HC := Lib.hid (rReadId_bad (bat l 0) · hx0 hx1 c1)
    clear hw c1
    go_enter Tryz.func203, Tryz.ntmps203
    go_wp2_with (first | (go_at_call 230; refine (HC.out _).mono ?_; rintro e w1 ⟨rfl, rfl⟩))
    refine bodyPost_retB ?_ rfl HV.out.symm ?_
    · simp [results, errV, hdrV, Hdr.zero, Tryz.results203, go_sem]
    · ((repeat' (first | (with_reducible exact Below.refl _ _) | (with_reducible assumption) | (with_reducible refine Below.setCell ?_ ?_ _) | (with_reducible refine Below.alloc ?_ ?_ _) | (with_reducible refine Below.drew ?_) | (with_reducible refine below_drewN ?_ _) | (with_reducible refine Below.step (by with_reducible assumption) ?_ ?_))) <;> (first | omega | (simp; done) | (simp; omega)))
  have HC := Lib.hid (rReadId_good (bat l 0) · hx0 hx1 c1)
  obtain ⟨v1, hcut, hv1⟩ := hw.cutLo (P := Tryz.prog) ulB szB .i64 (lo := 1) (by omega) (by omega)
  have hv1 : IsB w v1 (l.drop 1) := hv1
  cases hr : rdLen (l.drop 1) with
  | error e =>
    obtain ⟨ec, eo⟩ := e
    have hbd := rdLen_err hr
    have HV : Hid (rhV (rdHdr l) = .tuple #[hdrV Hdr.zero, errV (ec, eo + 1)]) := by show rhV (rdHdr l) = _; unfold rdHdr; (repeat (first | rw [if_pos (by omega)] | rw [if_neg (by omega)])); rw [hr]; rfl
    have HR : Hid (∀ W, IsB W v1 (l.drop 1) → Calls Tryz.prog 231 #[v1] W (RetB (.tuple #[.int .i64 0, .int .i64 0, .agg #[.int .i64 ec, .int .i64 eo]]) W)) := by
      intro W h
      have := rReadLen v1 _ W h
      rwa [hr] at this
    simp only [List.length_drop] at hbd
    obtain ⟨hb1, hb2, hb3, hb4⟩ := hbd
    have hb5 : eo + 1 ≤ 9223372036854775807 := by have := hw.maxl; omega
    clear hb4
    have hn : (ec == 0) = false := beq_eq_false_iff_ne.2 (by omega)
    have hn' : (ec != 0) = true := by simp; omega
    have HB := Lib.hid hv1
    clear hw hr c1 hv1
    go_enter Tryz.func203, Tryz.ntmps203
    go_wp2_with (first | (go_at_call 230; refine (HC.out _).mono ?_; rintro e w1 ⟨rfl, rfl⟩) | (go_at_call 231; (with_reducible refine (HR.out _ ((HB.out.alloc _).alloc _)).mono ?_); rintro e w1 ⟨rfl, hbw1⟩; obtain ⟨hcw1, hfw1⟩ := bcell hbw1; have hzw1 := hbw1.size; (try simp at hzw1); have hyw1 : w.heap.size < w1.heap.size := (by omega); (try have hyaw1 : w.heap.size + 1 < w1.heap.size := (by omega)); (try have hybw1 : w.heap.size + 2 < w1.heap.size := (by omega)); (try have hycw1 : w.heap.size + 3 < w1.heap.size := (by omega)); (try have hydw1 : w.heap.size + 4 < w1.heap.size := (by omega)); clear hzw1); have q0w1 := fun o => hcw1 (w.heap.size) o (by simp [go_sem]; try omega); simp [go_sem] at q0w1; have r0w1 := fun o => hfw1 (w.heap.size) o (by simp [go_sem]; try omega); simp [go_sem] at r0w1; have q1w1 := fun o => hcw1 (w.heap.size + 1) o (by simp [go_sem]; try omega); simp [go_sem] at q1w1; have r1w1 := fun o => hfw1 (w.heap.size + 1) o (by simp [go_sem]; try omega); simp [go_sem] at r1w1)
    go_region
    go_wp2
    (refine bodyPost_retB (by (simp only [results, Tryz.results203]; try go_simp)) rfl HV.out.symm ?_; ((repeat' (first | (with_reducible exact Below.refl _ _) | (with_reducible assumption) | (with_reducible refine Below.setCell ?_ ?_ _) | (with_reducible refine Below.alloc ?_ ?_ _) | (with_reducible refine Below.drew ?_) | (with_reducible refine below_drewN ?_ _) | (with_reducible refine Below.step (by with_reducible assumption) ?_ ?_))) <;> (first | omega | (simp; done) | (simp; omega))))
  | ok r =>
    obtain ⟨n, k⟩ := r
    have hbd := rdLen_ok hr
    have HV : Hid (rhV (rdHdr l) = .tuple #[hdrV ⟨bat l 0 / 64, bat l 0 % 32, decide (bat l 0 / 32 % 2 = 1), n, 1 + k⟩, errV (0, 0)]) := by show rhV (rdHdr l) = _; unfold rdHdr; (repeat (first | rw [if_pos (by omega)] | rw [if_neg (by omega)])); rw [hr]; rfl
    have HR : Hid (∀ W, IsB W v1 (l.drop 1) → Calls Tryz.prog 231 #[v1] W (RetB (.tuple #[.int .i64 n, .int .i64 k, .agg #[.int .i64 0, .int .i64 0]]) W)) := by
      intro W h
      have := rReadLen v1 _ W h
      rwa [hr] at this
    obtain ⟨hb1, hb2, hb3, hb4, hb5⟩ := hbd
    have HB := Lib.hid hv1
    clear hw hr c1 hv1
    go_enter Tryz.func203, Tryz.ntmps203
    go_wp2_with (first | (go_at_call 230; refine (HC.out _).mono ?_; rintro e w1 ⟨rfl, rfl⟩) | (go_at_call 231; (with_reducible refine (HR.out _ ((HB.out.alloc _).alloc _)).mono ?_); rintro e w1 ⟨rfl, hbw1⟩; obtain ⟨hcw1, hfw1⟩ := bcell hbw1; have hzw1 := hbw1.size; (try simp at hzw1); have hyw1 : w.heap.size < w1.heap.size := (by omega); (try have hyaw1 : w.heap.size + 1 < w1.heap.size := (by omega)); (try have hybw1 : w.heap.size + 2 < w1.heap.size := (by omega)); (try have hycw1 : w.heap.size + 3 < w1.heap.size := (by omega)); (try have hydw1 : w.heap.size + 4 < w1.heap.size := (by omega)); clear hzw1); have q0w1 := fun o => hcw1 (w.heap.size) o (by simp [go_sem]; try omega); simp [go_sem] at q0w1; have r0w1 := fun o => hfw1 (w.heap.size) o (by simp [go_sem]; try omega); simp [go_sem] at r0w1; have q1w1 := fun o => hcw1 (w.heap.size + 1) o (by simp [go_sem]; try omega); simp [go_sem] at q1w1; have r1w1 := fun o => hfw1 (w.heap.size + 1) o (by simp [go_sem]; try omega); simp [go_sem] at r1w1)
    (refine bodyPost_retB (by (simp only [results, Tryz.results203]; try go_simp)) rfl HV.out.symm ?_; ((repeat' (first | (with_reducible exact Below.refl _ _) | (with_reducible assumption) | (with_reducible refine Below.setCell ?_ ?_ _) | (with_reducible refine Below.alloc ?_ ?_ _) | (with_reducible refine Below.drew ?_) | (with_reducible refine below_drewN ?_ _) | (with_reducible refine Below.step (by with_reducible assumption) ?_ ?_))) <;> (first | omega | (simp; done) | (simp; omega))))

def RetN (h : Hdr) (l : List UInt8) (w : World) (e : Ending) (w' : World) : Prop :=
  ∃ c r, e = .returned (.tuple #[hdrV h, c, r, errV (0, 0)]) ∧ IsB w' c (seg l h.size (h.size + h.len)) ∧ IsB w' r (l.drop (h.size + h.len).toNat) ∧ Below w.heap.size w w'

set_option maxRecDepth 100000 in
set_option maxHeartbeats 2000000 in
theorem rNext_hdr (v : Value) (l : List UInt8) (w : World) (hw : IsB w v l) (ec eo : Int) (hr : rdHdr l = .error (ec, eo)) :
    Calls Tryz.prog 166 #[v] w (RetB (.tuple #[hdrV Hdr.zero, .slice none 0 0, .slice none 0 0, errV (ec, eo)]) w) := by
  have hbd := rdHdr_err hr
  have HR : Hid (∀ W, IsB W v l → Calls Tryz.prog 203 #[v] W (RetB (.tuple #[hdrV Hdr.zero, errV (ec, eo)]) W)) := by
    intro W h
    have := rReadHdr v _ W h
    rwa [hr] at this
  have HB := Lib.hid hw
  obtain ⟨hb1, hb2, hb3, hb4⟩ := hbd
  have hn' : (ec != 0) = true := by simp; omega
  clear hw hr hb4
  simp only [hdrV, errV, Hdr.zero] at HR
  go_enter Tryz.func166, Tryz.ntmps166
  go_wp2_with (first | (go_at_call 203; (with_reducible refine (HR.out _ ((HB.out.alloc _).alloc _)).mono ?_); rintro e w1 ⟨rfl, hbw1⟩; obtain ⟨hcw1, hfw1⟩ := bcell hbw1; have hzw1 := hbw1.size; (try simp at hzw1); have hyw1 : w.heap.size < w1.heap.size := (by omega); (try have hyaw1 : w.heap.size + 1 < w1.heap.size := (by omega)); (try have hybw1 : w.heap.size + 2 < w1.heap.size := (by omega)); (try have hycw1 : w.heap.size + 3 < w1.heap.size := (by omega)); (try have hydw1 : w.heap.size + 4 < w1.heap.size := (by omega)); clear hzw1); have K1 := Blk.call ((Blk.new w 189 #[.int .i64 0, .int .i64 0, .bool false, .int .i64 0, .int .i64 0]).alloc _) hbw1; have lK1 := K1.lt; have qK1 := K1.q; have rK1 := K1.fz; have K1' := Lib.hid K1; clear K1; have K1 := K1'.out; clear K1'; have K2 := Blk.call (Blk.new (w.alloc _) 38 #[.int .i64 0, .int .i64 0]) hbw1; have lK2 := K2.lt; have qK2 := K2.q; have rK2 := K2.fz; have K2' := Lib.hid K2; clear K2; have K2 := K2'.out; clear K2')
  go_region
  go_wp2
  (refine bodyPost_retB (v := .tuple #[hdrV Hdr.zero, .slice none 0 0, .slice none 0 0, errV (ec, eo)]) (by (simp only [results, Tryz.results166]; try go_simp)) rfl rfl ?_; ((repeat' (first | (with_reducible exact Below.refl _ _) | (with_reducible assumption) | (with_reducible refine Below.setCell ?_ ?_ _) | (with_reducible refine Below.alloc ?_ ?_ _) | (with_reducible refine Below.drew ?_) | (with_reducible refine below_drewN ?_ _) | (with_reducible refine Below.step (by with_reducible assumption) ?_ ?_))) <;> (first | omega | (simp; done) | (simp; omega))))
end Go.Proofs.YtlmnmgokfnnbbaaGreatDoor
end

/- Walk over the reference of layer 2: Next, beyond its header. -/
section
set_option linter.unusedSimpArgs false
set_option linter.unusedVariables false
namespace Go.Proofs.YtlmnmgokfnnbbaaGreatDoor
open Go.RowKit Go.Cr
set_option maxRecDepth 100000 in
set_option maxHeartbeats 2000000 in
theorem rNext_short (v : Value) (l : List UInt8) (w : World) (hw : IsB w v l) (h : Hdr) (hr : rdHdr l = .ok h) (hs : (l.length : Int) - h.size < h.len) :
    Calls Tryz.prog 166 #[v] w (RetB (.tuple #[hdrV Hdr.zero, .slice none 0 0, .slice none 0 0, errV (1, l.length)]) w) := by
  obtain ⟨hc, hnm, hcn, hln, hsz⟩ := h
  have hbd := rdHdr_ok hr
  have HR : Hid (∀ W, IsB W v l → Calls Tryz.prog 203 #[v] W (RetB (.tuple #[hdrV ⟨hc, hnm, hcn, hln, hsz⟩, errV (0, 0)]) W)) := by
    intro W h
    have := rReadHdr v _ W h
    rwa [hr] at this
  have hlen := hw.len ulB
  have hmx := hw.maxl
  have HB := Lib.hid hw
  simp only at hbd hs
  obtain ⟨hb1, hb2, hb3, hb4, hb5, _⟩ := hbd
  clear hw hr
  simp only [hdrV, errV] at HR
  go_enter Tryz.func166, Tryz.ntmps166
  go_wp2_with (first | (go_at_call 203; (with_reducible refine (HR.out _ ((HB.out.alloc _).alloc _)).mono ?_); rintro e w1 ⟨rfl, hbw1⟩; obtain ⟨hcw1, hfw1⟩ := bcell hbw1; have hzw1 := hbw1.size; (try simp at hzw1); have hyw1 : w.heap.size < w1.heap.size := (by omega); (try have hyaw1 : w.heap.size + 1 < w1.heap.size := (by omega)); (try have hybw1 : w.heap.size + 2 < w1.heap.size := (by omega)); (try have hycw1 : w.heap.size + 3 < w1.heap.size := (by omega)); (try have hydw1 : w.heap.size + 4 < w1.heap.size := (by omega)); clear hzw1); have K1 := Blk.call ((Blk.new w 189 #[.int .i64 0, .int .i64 0, .bool false, .int .i64 0, .int .i64 0]).alloc _) hbw1; have lK1 := K1.lt; have qK1 := K1.q; have rK1 := K1.fz; have K1' := Lib.hid K1; clear K1; have K1 := K1'.out; clear K1'; have K2 := Blk.call (Blk.new (w.alloc _) 38 #[.int .i64 0, .int .i64 0]) hbw1; have lK2 := K2.lt; have qK2 := K2.q; have rK2 := K2.fz; have K2' := Lib.hid K2; clear K2; have K2 := K2'.out; clear K2')
  (refine bodyPost_retB (v := .tuple #[hdrV Hdr.zero, .slice none 0 0, .slice none 0 0, errV (1, l.length)]) (by (simp only [results, Tryz.results166]; try go_simp)) rfl rfl ?_; ((repeat' (first | (with_reducible exact Below.refl _ _) | (with_reducible assumption) | (with_reducible refine Below.setCell ?_ ?_ _) | (with_reducible refine Below.alloc ?_ ?_ _) | (with_reducible refine Below.drew ?_) | (with_reducible refine below_drewN ?_ _) | (with_reducible refine Below.step (by with_reducible assumption) ?_ ?_))) <;> (first | omega | (simp; done) | (simp; omega))))

set_option maxRecDepth 100000 in
set_option maxHeartbeats 4000000 in
theorem rNext_ok (v : Value) (l : List UInt8) (w : World) (hw : IsB w v l) (h : Hdr) (hr : rdHdr l = .ok h) (hs : h.len ≤ (l.length : Int) - h.size) :
    Calls Tryz.prog 166 #[v] w (RetN h l w) := by
  obtain ⟨hc, hnm, hcn, hln, hsz⟩ := h
  have hbd := rdHdr_ok hr
  have HR : Hid (∀ W, IsB W v l → Calls Tryz.prog 203 #[v] W (RetB (.tuple #[hdrV ⟨hc, hnm, hcn, hln, hsz⟩, errV (0, 0)]) W)) := by
    intro W h
    have := rReadHdr v _ W h
    rwa [hr] at this
  have hlen := hw.len ulB
  have hmx := hw.maxl
  have HB := Lib.hid hw
  simp only at hbd hs
  obtain ⟨hb1, hb2, hb3, hb4, hb5, _⟩ := hbd
  obtain ⟨v1, hcut1, hv1⟩ := hw.cut (P := Tryz.prog) ulB szB .i64 .i64 (lo := hsz) (hi := hsz + hln) (by omega) (by omega) (by omega)
  obtain ⟨v2, hcut2, hv2⟩ := hw.cutLo (P := Tryz.prog) ulB szB .i64 (lo := hsz + hln) (by omega) (by omega)
  have hwr : IntKind.i64.wrap (hsz + hln) = hsz + hln := IntWalk.i64_in _ (by omega)
  have H1 : Hid (IsB w v1 (seg l hsz (hsz + hln))) := hv1
  have H2 : Hid (IsB w v2 (l.drop (hsz + hln).toNat)) := hv2
  clear hw hr hv1 hv2
  simp only [hdrV, errV] at HR
  go_enter Tryz.func166, Tryz.ntmps166
  go_wp2_with (first | (go_at_call 203; (with_reducible refine (HR.out _ ((HB.out.alloc _).alloc _)).mono ?_); rintro e w1 ⟨rfl, hbw1⟩; obtain ⟨hcw1, hfw1⟩ := bcell hbw1; have hzw1 := hbw1.size; (try simp at hzw1); have hyw1 : w.heap.size < w1.heap.size := (by omega); (try have hyaw1 : w.heap.size + 1 < w1.heap.size := (by omega)); (try have hybw1 : w.heap.size + 2 < w1.heap.size := (by omega)); (try have hycw1 : w.heap.size + 3 < w1.heap.size := (by omega)); (try have hydw1 : w.heap.size + 4 < w1.heap.size := (by omega)); clear hzw1); have K1 := Blk.call ((Blk.new w 189 #[.int .i64 0, .int .i64 0, .bool false, .int .i64 0, .int .i64 0]).alloc _) hbw1; have lK1 := K1.lt; have qK1 := K1.q; have rK1 := K1.fz; have K1' := Lib.hid K1; clear K1; have K1 := K1'.out; clear K1'; have K2 := Blk.call (Blk.new (w.alloc _) 38 #[.int .i64 0, .int .i64 0]) hbw1; have lK2 := K2.lt; have qK2 := K2.q; have rK2 := K2.fz; have K2' := Lib.hid K2; clear K2; have K2 := K2'.out; clear K2')
  go_region
  go_wp2
  refine bodyPost_ret (v := .tuple #[hdrV ⟨hc, hnm, hcn, hln, hsz⟩, v1, v2, errV (0, 0)]) (by (simp only [results, Tryz.results166]; try go_simp)) rfl ?_
  have hB : ∀ W, Below w.heap.size w W → RetN ⟨hc, hnm, hcn, hln, hsz⟩ l w (.returned (.tuple #[hdrV ⟨hc, hnm, hcn, hln, hsz⟩, v1, v2, errV (0, 0)])) W :=
    fun W h => ⟨v1, v2, rfl, H1.out.below h, H2.out.below h, h⟩
  refine hB _ ?_
  ((repeat' (first | (with_reducible exact Below.refl _ _) | (with_reducible assumption) | (with_reducible refine Below.setCell ?_ ?_ _) | (with_reducible refine Below.alloc ?_ ?_ _) | (with_reducible refine Below.drew ?_) | (with_reducible refine below_drewN ?_ _) | (with_reducible refine Below.step (by with_reducible assumption) ?_ ?_))) <;> (first | omega | (simp; done) | (simp; omega)))
end Go.Proofs.YtlmnmgokfnnbbaaGreatDoor
end

/- Walks over the reference of layer 9: One. -/
section
set_option linter.unusedSimpArgs false
set_option linter.unusedVariables false
namespace Go.Proofs.YtlmnmgokfnnbbaaGreatDoor
open Go.RowKit Go.Cr
theorem rNext_err (v : Value) (l : List UInt8) (w : World) (hw : IsB w v l) {ec eo : Int} (hr : nextH l = .error (ec, eo)) :
    Calls Tryz.prog 166 #[v] w (RetB (.tuple #[hdrV Hdr.zero, .slice none 0 0, .slice none 0 0, errV (ec, eo)]) w) := by
  unfold nextH at hr
  split at hr
  · rename_i e he
    injection hr with hr; subst hr
    exact rNext_hdr v l w hw ec eo he
  · rename_i h hh
    split at hr
    · rename_i hs
      injection hr with hr; injection hr with h1 h2; subst h1 h2
      exact rNext_short v l w hw h hh hs
    · cases hr
theorem rNext_good (v : Value) (l : List UInt8) (w : World) (hw : IsB w v l) {h : Hdr} (hr : nextH l = .ok h) :
    Calls Tryz.prog 166 #[v] w (RetN h l w) := by
  unfold nextH at hr
  split at hr
  · cases hr
  · rename_i h hh
    split at hr
    · cases hr
    · rename_i hs
      injection hr with hr; subst hr
      exact rNext_ok v l w hw _ hh (by omega)

end Go.Proofs.YtlmnmgokfnnbbaaGreatDoor
end

/- Walks over the comparing functions: Bytes, Within, Elements. -/
section
set_option linter.unusedSimpArgs false
set_option linter.unusedVariables false
namespace Go.Proofs.YtlmnmgokfnnbbaaGreatDoor
open Go.RowKit Go.Cr
theorem ulStr : Tryz.prog.underlying 9 = some .string := by kernel_rfl
theorem ulU8 : Tryz.prog.underlying 5 = some (.int .u8) := by kernel_rfl
def strOf (l : List UInt8) : ByteArray := strOfNums (l.map bi)

theorem isB_str {w : World} {v : Value} {l : List UInt8} (h : IsB w v l) : (convert 33 9 v).run Tryz.prog w = .ok (.string (strOf l)) w := by
  obtain ⟨A, c, rfl, h1, h2, h3⟩ := h
  rcases Nat.eq_zero_or_pos l.length with h0 | h0
  · have hl : l = [] := List.length_eq_zero_iff.1 h0
    subst hl
    cases A with
    | none => exact run_convert_bytes_nil w _ _ ulB ulU8 0 c _ ulStr
    | some a =>
      have hl : (loadCells a 0).run Tryz.prog w = .ok (([] : List Int).map (Value.int .u8)).toArray w := by
        have := run_loadCells_list (P := Tryz.prog) w a [] (fun j v hj => by simp at hj)
        simpa using this
      show (convert _ _ (.slice (some a) 0 c)).run _ w = _
      rw [run_convert_bytes_string w _ _ _ _ 0 c ulB ulU8 ulStr, run_bytesToString w _ 0 c [] hl]
      simp [strOf, strOfNums, ByteArray.empty, ByteArray.emptyWithCapacity]
      rfl
  · obtain ⟨b, off, rfl, hb, hc⟩ := h3 h0
    refine run_convert_bytes_arg w _ _ ulB ulU8 b off l.length c (l.map bi) (by simp) (fun i hi => ?_) _ ulStr
    rw [hc i hi]
    simp [bat, List.getD, hi]

set_option maxRecDepth 100000 in
set_option maxHeartbeats 2000000 in
theorem bytes_same (a b : Value) (l : List UInt8) (w : World) (ha : IsB w a l) (hb : IsB w b l) :
    Calls Tryz.prog 28 #[a, b] w (RetB (.bool true) w) := by
  have h1 := isB_str ha
  have h2 := isB_str hb
  clear ha hb
  generalize strOf l = s at *
  go_enter Tryz.func28, Tryz.ntmps28
  go_wp2
  (refine bodyPost_retB (v := .bool true) (by (simp only [results, Tryz.results28]; try go_simp)) rfl rfl ?_; ((repeat' (first | (with_reducible exact Below.refl _ _) | (with_reducible assumption) | (with_reducible refine Below.setCell ?_ ?_ _) | (with_reducible refine Below.alloc ?_ ?_ _) | (with_reducible refine Below.drew ?_) | (with_reducible refine below_drewN ?_ _) | (with_reducible refine Below.step (by with_reducible assumption) ?_ ?_))) <;> (first | omega | (simp; done) | (simp; omega))))

theorem elCells_at (xs : List Elem) (k : Nat) (h : k < xs.length) (j : Nat) (hj : j < 6) : (elCells xs)[k * 6 + j]? = (xs[k].cells)[j]? := by
  induction xs generalizing k with
  | nil => simp at h
  | cons x t ih =>
    have hc : x.cells.length = 6 := rfl
    cases k with
    | zero => simp only [elCells, List.flatMap_cons, Nat.zero_mul, Nat.zero_add, List.getElem_cons_zero]; rw [List.getElem?_append_left (by omega)]
    | succ k =>
      simp only [elCells, List.flatMap_cons, List.getElem_cons_succ]
      rw [List.getElem?_append_right (by omega), hc, show (k + 1) * 6 + j - 6 = k * 6 + j by omega]
      exact ih k (by simpa using h)

theorem szEl (W : World) : (sizeOf 76).run Tryz.prog W = .ok 6 W := by kernel_rfl
end Go.Proofs.YtlmnmgokfnnbbaaGreatDoor
end

/- Comparing: the ways of the program and of the reference, in the same world. -/
section
set_option linter.unusedSimpArgs false
set_option linter.unusedVariables false
namespace Go.Proofs.YtlmnmgokfnnbbaaGreatDoor
open Go.RowKit Go.Cr
def RetS (v : Value) (w : World) (e : Ending) (w' : World) : Prop := e = .returned v ∧ w' = w
def RetD (v : Value) (w : World) (e : Ending) (w' : World) : Prop := e = .returned v ∧ ∃ n, w' = w.drewN n

theorem bodyPost_retD {P : Program} {fn : Func} {a : Act} {w w0 : World} {v v0 : Value} (h : (results fn a.tmps).run P w = .ok v w) (hd : a.defers = []) (hv : v = v0) (hb : ∃ n, w = w0.drewN n) :
    bodyPost P fn (RetD v0 w0) .ret a w := bodyPost_ret h hd ⟨by rw [hv], hb⟩

set_option maxHeartbeats 2000000 in
theorem isNaN_u8 (x : Int) (w : World) : Calls Tryz.prog 161 #[.int .u8 x] w (RetS (.bool false) w) := by
  go_enter Tryz.func161, Tryz.ntmps161
  go_wp2
  go_ret
  exact ⟨rfl, rfl⟩
def cmpI (x y : Int) : Int := if x < y then -1 else if y < x then 1 else 0
set_option maxHeartbeats 2000000 in
theorem cmp_u8 (x y : Int) (w : World) : Calls Tryz.prog 127 #[.int .u8 x, .int .u8 y] w (RetS (.int .i64 (cmpI x y)) w) := by
  rcases Int.lt_trichotomy x y with h | h | h
  · have HV : Hid (cmpI x y = -1) := by show cmpI x y = _; unfold cmpI; rw [if_pos h]
    go_enter Tryz.func127, Tryz.ntmps127
    go_wp2_with (go_at_call 161; (with_reducible refine (isNaN_u8 _ _).mono ?_); rintro e w1 ⟨rfl, rfl⟩)
    go_ret
    exact ⟨by rw [HV.out]; rfl, rfl⟩
  · have HV : Hid (cmpI x y = 0) := by show cmpI x y = _; unfold cmpI; rw [if_neg (by omega), if_neg (by omega)]
    subst h
    go_enter Tryz.func127, Tryz.ntmps127
    go_wp2_with (go_at_call 161; (with_reducible refine (isNaN_u8 _ _).mono ?_); rintro e w1 ⟨rfl, rfl⟩)
    go_ret
    exact ⟨by rw [HV.out]; rfl, rfl⟩
  · have HV : Hid (cmpI x y = 1) := by show cmpI x y = _; unfold cmpI; rw [if_neg (by omega), if_pos h]
    have h' : y ≤ x := by omega
    go_enter Tryz.func127, Tryz.ntmps127
    go_wp2_with (go_at_call 161; (with_reducible refine (isNaN_u8 _ _).mono ?_); rintro e w1 ⟨rfl, rfl⟩)
    go_ret
    exact ⟨by rw [HV.out]; rfl, rfl⟩
set_option maxHeartbeats 2000000 in
theorem cmp_clo (x y : Int) (w : World) : Calls Tryz.prog 126 #[.int .u8 x, .int .u8 y] w (RetS (.int .i64 (cmpI x y)) w) := by
  go_enter Tryz.func126, Tryz.ntmps126
  go_wp2_with (go_at_call 127; (with_reducible refine (cmp_u8 _ _ _).mono ?_); rintro e w1 ⟨rfl, rfl⟩)
  go_ret
  exact ⟨rfl, rfl⟩

set_option maxRecDepth 100000 in
set_option maxHeartbeats 2000000 in
theorem cmpFunc (v1 v2 : Value) (a b : List UInt8) (w : World) (h1 : IsB w v1 a) (h2 : IsB w v2 b) :
    Calls Tryz.prog 125 #[v1, v2, .func (.func 126) #[] #[]] w (RetS (.int .i64 (cmpL a b)) w) := by
  have hl1 := h1.len ulB
  have hl2 := h2.len ulB
  have hm1 := h1.maxl
  have hm2 := h2.maxl
  have H1 := Lib.hid h1
  have H2 := Lib.hid h2
  clear h1 h2
  go_enter Tryz.func125, Tryz.ntmps125
  go_wp2
  go_loop [13] (fun i => CRel a b i) (fun i => a.length - (intOf i).toNat)
  case atStart => exact ⟨0, by omega, by omega, rfl, fun j h => by omega⟩
  case round =>
    obtain ⟨k, hk1, hk2, rfl, heq⟩ := hrel
    have HE := Lib.hid heq
    clear heq
    by_cases hka : k < a.length
    · obtain ⟨b1, o1, hi1, hw1, hc1⟩ := H1.out.at_ (P := Tryz.prog) ulB szB .i64 (i := k) (by omega) (by omega)
      simp only [Int.toNat_natCast] at hc1
      have hka' : (k : Int) < a.length := by omega
      by_cases hkb : k < b.length
      · obtain ⟨b2, o2, hi2, hw2, hc2⟩ := H2.out.at_ (P := Tryz.prog) ulB szB .i64 (i := k) (by omega) (by omega)
        simp only [Int.toNat_natCast] at hc2
        have hkb' : (k : Int) < b.length := by omega
        rcases Int.lt_trichotomy (bat a k) (bat b k) with hlt | heq | hgt
        · have HV : Hid (cmpL a b = -1) := by show cmpL a b = _; rw [cmpL_lt hka hkb HE.out hlt]
          have hci : Hid (cmpI (bat a k) (bat b k) = -1) := by show cmpI _ _ = _; unfold cmpI; rw [if_pos hlt]
          go_wp2_with (go_at_call 126; (with_reducible refine (cmp_clo _ _ _).mono ?_); rw [hci.out]; rintro e w1 ⟨rfl, rfl⟩)
          go_ret
          exact ⟨by rw [HV.out]; rfl, rfl⟩
        · have hs : ∀ j, j < k + 1 → bat a j = bat b j := by
            intro j hj
            rcases Nat.lt_or_ge j k with h | h
            · exact HE.out j h
            · obtain rfl : j = k := by omega
              exact heq
          have HS := Lib.hid hs
          have hci : Hid (cmpI (bat a k) (bat b k) = 0) := by show cmpI _ _ = _; unfold cmpI; rw [if_neg (by omega), if_neg (by omega)]
          clear hs heq
          go_wp2_with (go_at_call 126; (with_reducible refine (cmp_clo _ _ _).mono ?_); rw [hci.out]; rintro e w1 ⟨rfl, rfl⟩)
          go_round
          case rel => exact ⟨k + 1, by omega, by omega, by go_num, HS.out⟩
          case measure => simp [intOf]; omega
        · have HV : Hid (cmpL a b = 1) := by show cmpL a b = _; rw [cmpL_gt hka hkb HE.out hgt]
          have hci : Hid (cmpI (bat a k) (bat b k) = 1) := by show cmpI _ _ = _; unfold cmpI; rw [if_neg (by omega), if_pos hgt]
          go_wp2_with (go_at_call 126; (with_reducible refine (cmp_clo _ _ _).mono ?_); rw [hci.out]; rintro e w1 ⟨rfl, rfl⟩)
          go_ret
          exact ⟨by rw [HV.out]; rfl, rfl⟩
      · have he := cmpL_end hk1 hk2 HE.out (.inr (by omega))
        have HV : Hid (cmpL a b = 1) := by show cmpL a b = _; rw [he, if_neg (by omega), if_pos (by omega)]
        have hkb' : (b.length : Int) ≤ k := by omega
        clear he
        go_wp2
        go_ret
        exact ⟨by rw [HV.out]; rfl, rfl⟩
    · have he := cmpL_end hk1 hk2 HE.out (.inl (by omega))
      have hka' : (a.length : Int) ≤ k := by omega
      rcases Nat.lt_trichotomy a.length b.length with h1 | h1 | h1
      · have HV : Hid (cmpL a b = -1) := by show cmpL a b = _; rw [he, if_pos (by omega)]
        have h1' : (a.length : Int) < b.length := by omega
        clear he
        go_wp2
        go_ret
        exact ⟨by rw [HV.out]; rfl, rfl⟩
      · have HV : Hid (cmpL a b = 0) := by show cmpL a b = _; rw [he, if_neg (by omega), if_neg (by omega)]
        have h1' : (b.length : Int) ≤ a.length := by omega
        clear he
        go_wp2
        go_ret
        exact ⟨by rw [HV.out]; rfl, rfl⟩
      · omega
set_option maxHeartbeats 2000000 in
theorem pCompare (v1 v2 : Value) (a b : List UInt8) (w : World) (h1 : IsB w v1 a) (h2 : IsB w v2 b) :
    Calls Tryz.prog 93 #[v1, v2] w (RetS (.int .i64 (cmpL a b)) w) := by
  have HC := Lib.hid (cmpFunc v1 v2 a b w h1 h2)
  clear h1 h2
  go_enter Tryz.func93, Tryz.ntmps93
  go_wp2_with (go_at_call 125; (with_reducible refine HC.out.mono ?_); rintro e w1 ⟨rfl, rfl⟩)
  go_ret
  exact ⟨rfl, rfl⟩
set_option maxHeartbeats 2000000 in
theorem sorted_clo (v1 v2 : Value) (a b : List UInt8) (w : World) (h1 : IsB w v1 a) (h2 : IsB w v2 b) :
    Calls Tryz.prog 103 #[v1, v2] w (RetS (.bool (decide (cmpL a b = 0))) w) := by
  have HC := Lib.hid (pCompare v1 v2 a b w h1 h2)
  clear h1 h2
  go_enter Tryz.func103, Tryz.ntmps103
  go_wp2_with (go_at_call 93; (with_reducible refine HC.out.mono ?_); rintro e w1 ⟨rfl, rfl⟩)
  go_ret
  exact ⟨by simp; rfl, rfl⟩
set_option maxRecDepth 100000 in
set_option maxHeartbeats 2000000 in
theorem rCompare_d (v1 v2 : Value) (a b : List UInt8) (w : World) (h1 : IsB w v1 a) (h2 : IsB w v2 b) :
    Calls Tryz.prog 98 #[v1, v2] w (RetD (.int .i64 (cmpL a b)) w) := by
  have hl1 := h1.len ulB
  have hl2 := h2.len ulB
  have hm1 := h1.maxl
  have hm2 := h2.maxl
  have H1 := Lib.hid h1
  have H2 := Lib.hid h2
  clear h1 h2
  go_enter Tryz.func98, Tryz.ntmps98
  go_wp2
  go_loopw [5] (fun i wr => CRel a b i ∧ ∃ n, wr = w.drewN n) (fun i _ => a.length - (intOf i).toNat)
  case atStart => exact ⟨⟨0, by omega, by omega, rfl, fun j h => by omega⟩, 0, rfl⟩
  case round =>
    obtain ⟨⟨k, hk1, hk2, rfl, heq⟩, n, rfl⟩ := hrel
    have HE := Lib.hid heq
    clear heq
    by_cases hka : k < a.length
    · by_cases hkb : k < b.length
      · obtain ⟨b1, o1, hi1, hw1, hc1⟩ := H1.out.at_ (P := Tryz.prog) ulB szB .i64 (i := k) (by omega) (by omega)
        obtain ⟨b2, o2, hi2, hw2, hc2⟩ := H2.out.at_ (P := Tryz.prog) ulB szB .i64 (i := k) (by omega) (by omega)
        simp only [Int.toNat_natCast] at hc1 hc2
        rcases Int.lt_trichotomy (bat a k) (bat b k) with hlt | heq | hgt
        · have HV : Hid ((.int .i64 (cmpL a b) : Value) = .int .i64 (-1)) := by show (_ : Value) = _; rw [cmpL_lt hka hkb HE.out hlt]
          go_wp2
          go_quiet (fail)
          go_wp2
          (refine bodyPost_retD (by (simp only [results, Tryz.results98]; try go_simp)) rfl HV.out.symm ?_; (try simp only [World.drewN_drewN]); exact ⟨_, rfl⟩)
        · have hs : ∀ j, j < k + 1 → bat a j = bat b j := by
            intro j hj
            rcases Nat.lt_or_ge j k with h | h
            · exact HE.out j h
            · obtain rfl : j = k := by omega
              exact heq
          have HS := Lib.hid hs
          have hn1 : bat a k ≤ bat b k := by omega
          have hn2 : bat b k ≤ bat a k := by omega
          clear hs heq
          go_wp2
          go_quiet (fail)
          go_wp2
          go_quiet (fail)
          go_wp2
          go_roundw
          case rel => exact ⟨⟨k + 1, by omega, by omega, by go_num, HS.out⟩, _, rfl⟩
          case measure => simp [intOf]; omega
        · have HV : Hid ((.int .i64 (cmpL a b) : Value) = .int .i64 1) := by show (_ : Value) = _; rw [cmpL_gt hka hkb HE.out hgt]
          go_wp2
          go_quiet (fail)
          go_wp2
          go_quiet (fail)
          go_wp2
          (refine bodyPost_retD (by (simp only [results, Tryz.results98]; try go_simp)) rfl HV.out.symm ?_; (try simp only [World.drewN_drewN]); exact ⟨_, rfl⟩)
      · have he := cmpL_end hk1 hk2 HE.out (.inr (by omega))
        have hbk : b.length = k := by omega
        rcases Nat.lt_trichotomy a.length b.length with h1 | h1 | h1
        · omega
        · omega
        · have HV : Hid ((.int .i64 (cmpL a b) : Value) = .int .i64 1) := by show (_ : Value) = _; rw [he, if_neg (by omega), if_pos (by omega)]
          clear he hbk
          go_wp2
          (refine bodyPost_retD (by (simp only [results, Tryz.results98]; try go_simp)) rfl HV.out.symm ?_; (try simp only [World.drewN_drewN]); exact ⟨_, rfl⟩)
    · have he := cmpL_end hk1 hk2 HE.out (.inl (by omega))
      have hbk : a.length = k := by omega
      rcases Nat.lt_trichotomy a.length b.length with h1 | h1 | h1
      · have HV : Hid ((.int .i64 (cmpL a b) : Value) = .int .i64 (-1)) := by show (_ : Value) = _; rw [he, if_pos (by omega)]
        clear he hbk
        go_wp2
        (refine bodyPost_retD (by (simp only [results, Tryz.results98]; try go_simp)) rfl HV.out.symm ?_; (try simp only [World.drewN_drewN]); exact ⟨_, rfl⟩)
      · have HV : Hid ((.int .i64 (cmpL a b) : Value) = .int .i64 0) := by show (_ : Value) = _; rw [he, if_neg (by omega), if_neg (by omega)]
        have h1a : (a.length : Int) ≤ b.length := by omega
        have h1b : (b.length : Int) ≤ a.length := by omega
        clear he hbk h1
        go_wp2
        (refine bodyPost_retD (by (simp only [results, Tryz.results98]; try go_simp)) rfl HV.out.symm ?_; (try simp only [World.drewN_drewN]); exact ⟨_, rfl⟩)
      · omega
end Go.Proofs.YtlmnmgokfnnbbaaGreatDoor
end

/- Walks over the loops that compare parts. -/
section
set_option linter.unusedSimpArgs false
set_option linter.unusedVariables false
namespace Go.Proofs.YtlmnmgokfnnbbaaGreatDoor
open Go.RowKit Go.Cr
def OrRel (ls : List (List UInt8)) (w : World) (d : Int) (i : Value) (wr : World) : Prop :=
  ∃ k : Nat, (k : Int) ≤ max d ls.length ∧ d ≤ k ∧ i = .int .i64 k ∧ (∀ j, j + 1 < k → cmpL (ls.getD j []) (ls.getD (j + 1) []) < 0) ∧ Below w.heap.size w wr

end Go.Proofs.YtlmnmgokfnnbbaaGreatDoor
end

/- Literals in memory, worlds one after another. No program in sight. -/
section
set_option linter.unusedSimpArgs false
set_option linter.unusedVariables false
namespace Go.Proofs.YtlmnmgokfnnbbaaGreatDoor
open Go.RowKit Go.Cr
theorem isR_lit {w : World} {t : TypeId} {arr : Array Value} {k n g : Nat} (hg : g = w.heap.size) (hk : arr.size = n * k) (hn : n ≤ maxLen) : IsR (w.alloc (.cells arr t)) (.slice (some ⟨g, 0, none⟩) n n) k n arr.toList := by
  subst hg
  refine ⟨_, n, rfl, Nat.le_refl _, hn, by simp [hk], fun _ => ⟨w.heap.size, 0, rfl, by simp, fun j x hj => ?_⟩⟩
  rw [Nat.zero_add, World.cell?_alloc_new]
  simpa using hj
theorem isB_lit {w : World} {t : TypeId} {arr : Array Value} {l : List UInt8} {n g : Nat} (hg : g = w.heap.size) (hl : l.length = n) (ha : arr.toList = bCells l) (hn : n ≤ maxLen) : IsB (w.alloc (.cells arr t)) (.slice (some ⟨g, 0, none⟩) n n) l := by
  subst hl
  have := isR_lit (w := w) (t := t) (arr := arr) (k := 1) (n := l.length) (g := g) hg (by rw [← Array.length_toList, ha, bCells_len]; simp) hn
  rw [ha] at this
  exact this.bytes
theorem below_a {w w' : World} {o : Obj} (hb : Below (w.alloc o).heap.size (w.alloc o) w') : Below w.heap.size w w' :=
  ((Below.refl _ _).alloc (Nat.le_refl _) _).trans (hb.mono (by simp))
theorem below_t {a b c : World} (h1 : Below a.heap.size a b) (h2 : Below b.heap.size b c) : Below a.heap.size a c := h1.trans (h2.mono h1.size)
end Go.Proofs.YtlmnmgokfnnbbaaGreatDoor
end

/- Walks over Ordered of the program and Sorted of the reference. -/
section
set_option linter.unusedSimpArgs false
set_option linter.unusedVariables false
namespace Go.Proofs.YtlmnmgokfnnbbaaGreatDoor
open Go.RowKit Go.Cr
theorem below_cell {W W' : World} (hb : Below W.heap.size W W') {b o : Nat} {u : Value} (hlt : b < W.heap.size) (h : W.cell? ⟨b, o, none⟩ = some u) : W'.cell? ⟨b, o, none⟩ = some u := (hb.cell hlt).trans h

set_option maxRecDepth 100000 in
set_option maxHeartbeats 2000000 in
theorem pOrdered (v : Value) (ls : List (List UInt8)) (w : World) (hv : IsBs w v ls) : Calls Tryz.prog 55 #[v] w (RetB (.bool (ascB ls)) w) := by
  have h1 := hv.len ulBs
  have hmx := hv.maxl
  have HA := Lib.hid hv
  clear hv
  go_enter Tryz.func55, Tryz.ntmps55
  go_wp2
  go_loopw [6] (fun i wr => OrRel ls w 0 i wr) (fun i _ => ls.length - (intOf i).toNat)
  case atStart => exact ⟨0, by omega, by omega, rfl, fun j hj => absurd hj (by omega), Below.refl _ _⟩
  case round =>
    obtain ⟨k, hk, hk1, rfl, hall, hbel⟩ := hrel
    have HL := Lib.hid hall
    clear hall
    by_cases hlt : (k : Int) < ls.length
    · by_cases h0 : k = 0
      · subst h0
        have hd : decide ((0 : Int) < ((0 : Nat) : Int)) = false := rfl
        go_wp2
        go_quiet (fail)
        go_wp2
        go_roundw
        case rel => exact ⟨0 + 1, by omega, by omega, by go_num, fun j hj => absurd hj (by omega), by ((repeat' (first | (with_reducible exact Below.refl _ _) | (with_reducible assumption) | (with_reducible refine Below.setCell ?_ ?_ _) | (with_reducible refine Below.alloc ?_ ?_ _) | (with_reducible refine Below.drew ?_) | (with_reducible refine below_drewN ?_ _) | (with_reducible refine Below.step (by with_reducible assumption) ?_ ?_))) <;> (first | omega | (simp; done) | (simp; omega)))⟩
        case measure => simp [intOf]; omega
      · have hpos : (0 : Int) < (k : Int) := by omega
        have hpos' : 0 < k := by omega
        obtain ⟨b1, o1, u1, hi1, hb1, hc1, hu1⟩ := (HA.out.below hbel).at_ (P := Tryz.prog) ulBs szBs .i64 (i := (k : Int) - 1) (by omega) (by omega)
        obtain ⟨b2, o2, u2, hi2, hb2, hc2, hu2⟩ := (HA.out.below hbel).at_ (P := Tryz.prog) ulBs szBs .i64 (i := k) (by omega) hlt
        simp only [Int.toNat_natCast] at hu2
        rw [show ((k : Int) - 1).toNat = k - 1 by omega] at hu1
        have HC := Lib.hid (fun n => pCompare u1 u2 _ _ (wr.drewN n) (hu1.drewN n) (hu2.drewN n))
        have hsub : IntKind.i64.wrap ((k : Int) - 1) = (k : Int) - 1 := IntWalk.i64_in _ (by omega)
        clear hu1 hu2
        have hvals := cmpL_vals (ls.getD (k - 1) []) (ls.getD k [])
        have HE : Hid (∀ c : Int, cmpL (ls.getD (k - 1) []) (ls.getD k []) = c → (c < 0 → ∀ j, j + 1 < k + 1 → cmpL (ls.getD j []) (ls.getD (j + 1) []) < 0) ∧ (¬ c < 0 → ascB ls = false)) := by
          intro c hc
          refine ⟨fun h0 j hj => ?_, fun h0 => ?_⟩
          · rcases Nat.lt_or_ge (j + 1) k with h | h
            · exact HL.out j h
            · obtain rfl : j = k - 1 := by omega
              rw [show k - 1 + 1 = k by omega, hc]; exact h0
          · cases hb : ascB ls with
            | false => rfl
            | true =>
              have := ascB_at.1 hb (k - 1) (by omega)
              rw [show k - 1 + 1 = k by omega, hc] at this
              exact absurd this h0
        generalize cmpL (ls.getD (k - 1) []) (ls.getD k []) = c at *
        have HE2 := Lib.hid (HE.out c rfl)
        clear HE
        rcases hvals with rfl | rfl | rfl
        · go_wp2
          go_quiet (first | (go_at_call 93; exact Calls.quiet_of_same (HC.out _)))
          go_wp2
          go_roundw
          case rel => exact ⟨k + 1, by omega, by omega, by go_num, HE2.out.1 (by omega), by ((repeat' (first | (with_reducible exact Below.refl _ _) | (with_reducible assumption) | (with_reducible refine Below.setCell ?_ ?_ _) | (with_reducible refine Below.alloc ?_ ?_ _) | (with_reducible refine Below.drew ?_) | (with_reducible refine below_drewN ?_ _) | (with_reducible refine Below.step (by with_reducible assumption) ?_ ?_))) <;> (first | omega | (simp; done) | (simp; omega)))⟩
          case measure => simp [intOf]; omega
        · rw [HE2.out.2 (by omega)]
          go_wp2
          go_quiet (first | (go_at_call 93; exact Calls.quiet_of_same (HC.out _)))
          go_wp2
          (refine bodyPost_retB (v := .bool false) (by (simp only [results, Tryz.results55]; try go_simp)) rfl rfl ?_; ((repeat' (first | (with_reducible exact Below.refl _ _) | (with_reducible assumption) | (with_reducible refine Below.setCell ?_ ?_ _) | (with_reducible refine Below.alloc ?_ ?_ _) | (with_reducible refine Below.drew ?_) | (with_reducible refine below_drewN ?_ _) | (with_reducible refine Below.step (by with_reducible assumption) ?_ ?_))) <;> (first | omega | (simp; done) | (simp; omega))))
        · rw [HE2.out.2 (by omega)]
          go_wp2
          go_quiet (first | (go_at_call 93; exact Calls.quiet_of_same (HC.out _)))
          go_wp2
          (refine bodyPost_retB (v := .bool false) (by (simp only [results, Tryz.results55]; try go_simp)) rfl rfl ?_; ((repeat' (first | (with_reducible exact Below.refl _ _) | (with_reducible assumption) | (with_reducible refine Below.setCell ?_ ?_ _) | (with_reducible refine Below.alloc ?_ ?_ _) | (with_reducible refine Below.drew ?_) | (with_reducible refine below_drewN ?_ _) | (with_reducible refine Below.step (by with_reducible assumption) ?_ ?_))) <;> (first | omega | (simp; done) | (simp; omega))))
    · have hb : ascB ls = true := ascB_at.2 fun j hj => HL.out j (by omega)
      rw [hb]
      go_wp2
      (refine bodyPost_retB (v := .bool true) (by (simp only [results, Tryz.results55]; try go_simp)) rfl rfl ?_; ((repeat' (first | (with_reducible exact Below.refl _ _) | (with_reducible assumption) | (with_reducible refine Below.setCell ?_ ?_ _) | (with_reducible refine Below.alloc ?_ ?_ _) | (with_reducible refine Below.drew ?_) | (with_reducible refine below_drewN ?_ _) | (with_reducible refine Below.step (by with_reducible assumption) ?_ ?_))) <;> (first | omega | (simp; done) | (simp; omega))))

/-! ### Sorted of the reference -/
theorem infoBs : (Tryz.prog.info? 33).map (fun i => (i.zero, i.size, i.bytes)) = some (some (.slice none 0 0), 1, 24) := by kernel_rfl
def lenOfV : Value → Nat
  | .slice _ n _ => n
  | _ => 0
theorem lenOfV_own {w : World} {base : Nat} {e : TypeId} {size : Nat} {v : Value} {n : Nat} {xs : List Value} (h : w.ownsRow base e size v n xs) : lenOfV v = n := by
  rcases h.2 with ⟨rfl, rfl⟩ | ⟨g, cap, cur, rfl, _⟩ <;> rfl
theorem asc_len {ls : List (List UInt8)} : ∀ {r : List (List UInt8)}, Asc r → (∀ x ∈ r, x ∈ ls) → r.length ≤ ls.length := by
  intro r
  induction r generalizing ls with
  | nil => intro _ _; simp
  | cons x t ih =>
    intro h1 h2
    have hx := h2 x (by simp)
    have := ih (ls := ls.erase x) h1.tail (fun y hy => (List.mem_erase_of_ne (fun e => by subst e; exact cmpL_irrefl y (h1.lt y hy))).2 (h2 y (List.mem_cons_of_mem _ hy)))
    rw [List.length_erase_of_mem hx] at this
    have := List.length_pos_of_mem hx
    simp; omega
theorem Beg.len {ls r : List (List UInt8)} (h : Beg ls r) : r.length ≤ ls.length := asc_len h.1 h.2.1
theorem Beg.room {ls r : List (List UInt8)} {x : List UInt8} (h : Beg ls r) (hx : x ∈ ls) (hb : Behind r x) : r.length < ls.length := by
  have := asc_len (ls := ls) (h.1.snoc (hb.all h.1)) (fun y hy => by
    rcases List.mem_append.1 hy with e | e
    · exact h.2.1 y e
    · simp at e; subst e; exact hx)
  rw [List.length_append] at this
  simp only [List.length_cons, List.length_nil] at this
  omega
def EltB (w : World) (vs : List Value) (r : List (List UInt8)) : Prop := vs.length = r.length ∧ ∀ j, j < r.length → IsB w (vs.getD j undef) (r.getD j [])
theorem EltB.snoc {w : World} {vs : List Value} {r : List (List UInt8)} {u : Value} {l : List UInt8} (h : EltB w vs r) (hu : IsB w u l) : EltB w (vs ++ [u]) (r ++ [l]) := by
  refine ⟨by simp [h.1], fun j hj => ?_⟩
  have hj' : j < r.length + 1 := by simpa using hj
  rcases Nat.lt_or_ge j r.length with h1 | h1
  · have := h.2 j h1
    simpa [List.getD, List.getElem?_append_left h1, List.getElem?_append_left (show j < vs.length by rw [h.1]; exact h1)] using this
  · obtain rfl : j = r.length := by omega
    have h2 : (vs ++ [u])[r.length]? = some u := by rw [← h.1]; simp
    simpa [List.getD, h2] using hu
def SoRel (ls : List (List UInt8)) (w : World) (out : Value) (wr : World) : Prop :=
  ∃ r vs, wr.ownsRow w.heap.size 33 1 out r.length vs ∧ EltB w vs r ∧ Beg ls r ∧ Below w.heap.size w wr
def Best (ls r : List (List UInt8)) (k : Nat) (best : Int) : Prop :=
  (best = -1 ∧ ∀ j, j < k → ¬ Behind r (ls.getD j [])) ∨ (∃ m : Nat, m < k ∧ best = m ∧ Behind r (ls.getD m []) ∧ ∀ j, j < k → Behind r (ls.getD j []) → ¬ cmpL (ls.getD j []) (ls.getD m []) < 0)
theorem Best.skip {ls r : List (List UInt8)} {k : Nat} {best : Int} (h : Best ls r k best) (hn : ¬ Behind r (ls.getD k [])) : Best ls r (k + 1) best := by
  rcases h with ⟨h1, h2⟩ | ⟨m, hm, h1, h2, h3⟩
  · refine .inl ⟨h1, fun j hj => ?_⟩
    rcases Nat.lt_or_ge j k with h | h
    · exact h2 j h
    · obtain rfl : j = k := by omega
      exact hn
  · refine .inr ⟨m, by omega, h1, h2, fun j hj hb => ?_⟩
    rcases Nat.lt_or_ge j k with h | h
    · exact h3 j h hb
    · obtain rfl : j = k := by omega
      exact absurd hb hn
theorem Best.first {ls r : List (List UInt8)} {k : Nat} (h : Best ls r k (-1)) (hb : Behind r (ls.getD k [])) : Best ls r (k + 1) k := by
  rcases h with ⟨_, h2⟩ | ⟨m, _, h1, _⟩
  · refine .inr ⟨k, by omega, rfl, hb, fun j hj hbj => ?_⟩
    rcases Nat.lt_or_ge j k with h | h
    · exact absurd hbj (h2 j h)
    · obtain rfl : j = k := by omega
      exact cmpL_irrefl _
  · omega
theorem Best.less {ls r : List (List UInt8)} {k m : Nat} (h : Best ls r k m) (hb : Behind r (ls.getD k [])) (hlt : cmpL (ls.getD k []) (ls.getD m []) < 0) : Best ls r (k + 1) k := by
  rcases h with ⟨h1, _⟩ | ⟨m', hm, h1, h2, h3⟩
  · omega
  · obtain rfl : m = m' := by omega
    refine .inr ⟨k, by omega, rfl, hb, fun j hj hbj => ?_⟩
    rcases Nat.lt_or_ge j k with h | h
    · intro hjk
      exact h3 j h hbj (cmpL_trans hjk hlt)
    · obtain rfl : j = k := by omega
      exact cmpL_irrefl _
theorem Best.stay {ls r : List (List UInt8)} {k m : Nat} (h : Best ls r k m) (hn : ¬ cmpL (ls.getD k []) (ls.getD m []) < 0) : Best ls r (k + 1) m := by
  rcases h with ⟨h1, _⟩ | ⟨m', hm, h1, h2, h3⟩
  · omega
  · obtain rfl : m = m' := by omega
    refine .inr ⟨m, by omega, rfl, h2, fun j hj hbj => ?_⟩
    rcases Nat.lt_or_ge j k with h | h
    · exact h3 j h hbj
    · obtain rfl : j = k := by omega
      exact hn
def BsRel (ls r : List (List UInt8)) (W : World) (best i : Value) (wr : World) : Prop :=
  ∃ (k : Nat) (b : Int), k ≤ ls.length ∧ i = .int .i64 k ∧ best = .int .i64 b ∧ -1 ≤ b ∧ b < k ∧ Best ls r k b ∧ Below W.heap.size W wr
end Go.Proofs.YtlmnmgokfnnbbaaGreatDoor
end

/- Walk over slices.Clone of bytes. -/
section
set_option linter.unusedSimpArgs false
set_option linter.unusedVariables false
namespace Go.Proofs.YtlmnmgokfnnbbaaGreatDoor
open Go.RowKit Go.Cr
set_option maxRecDepth 100000 in
set_option maxHeartbeats 2000000 in
theorem clone_any (v : Value) (l : List UInt8) (w : World) (hv : IsB w v l) (hl : l.length ≤ 1000000) : Calls Tryz.prog 91 #[v] w (RetO 5 l w) := by
  have HV := Lib.hid hv
  obtain ⟨A, c, rfl, h1, h2, h3⟩ := hv
  cases A with
  | none =>
    have h0 : l = [] := by
      rcases Nat.eq_zero_or_pos l.length with h | h
      · exact List.eq_nil_of_length_eq_zero h
      · obtain ⟨b, off, h', _⟩ := h3 h; cases h'
    subst h0
    have he := fun W => Go.Lib.run_eql_slice_nil (P := Tryz.prog) W 33 5 none 0 c 0 0 ulB
    clear h3
    go_enter Tryz.func91, Tryz.ntmps91
    go_wp2
    go_ret
    exact ⟨_, rfl, OwB.nil_ _ _ _, Below.refl _ _⟩
  | some a =>
    have he := fun W => Go.Lib.run_eql_slice_nil (P := Tryz.prog) W 33 5 (some a) l.length c 0 0 ulB
    have H0 : Hid (OwB (w.alloc (.cells #[] 5)) w.heap.size 5 (.slice (some ⟨w.heap.size, 0, none⟩) 0 0) []) := by
      have := World.ownsRow_lit (base := w.heap.size) (e := 5) (size := 1) w #[] 0 (Nat.le_refl _) (by decide) rfl
      show OwB _ _ _ _ _
      simpa [OwB, bCells] using this
    clear h3
    go_enter Tryz.func91, Tryz.ntmps91
    go_wp2_with (at_builtin; refine wpList_appB _ rfl _ _ 33 rfl w.heap.size 5 ulB infoB _ [] rfl H0.out _ l rfl (HV.out.alloc _) ?k1 ?k2 ?_)
    case k1 => simp; omega
    case k2 => simp
    intro v2 w2 ho2 _ hb2
    have HO2 := Lib.hid ho2
    clear ho2
    go_wp2
    go_ret
    exact ⟨_, rfl, by simpa using HO2.out, ((Below.refl _ _).alloc (Nat.le_refl _) _).trans hb2⟩
end Go.Proofs.YtlmnmgokfnnbbaaGreatDoor
end

/- Walk over tree.read. -/
section
set_option linter.unusedSimpArgs false
set_option linter.unusedVariables false
namespace Go.Proofs.YtlmnmgokfnnbbaaGreatDoor
open Go.RowKit Go.Cr
theorem infoSpot : (Tryz.prog.info? 152).map (fun i => (i.zero, i.size, i.bytes)) = some (some (.agg #[.int .i64 0, .int .i64 0, .int .i64 0, .int .i64 0, .bool false, .slice none 0 0, .slice none 0 0, .slice none 0 0]), 8, 112) := by kernel_rfl
theorem infoNode : (Tryz.prog.info? 85).map (fun i => (i.zero, i.size, i.bytes)) = some (some (.agg #[.int .i64 0, .int .i64 0, .bool false, .slice none 0 0, .slice none 0 0]), 5, 72) := by kernel_rfl
theorem ulSpots : Tryz.prog.underlying 150 = some (.slice 152) := by kernel_rfl
theorem ulNodes : Tryz.prog.underlying 83 = some (.slice 85) := by kernel_rfl

@[go_sem] def spotZ : Value := .agg #[.int .i64 0, .int .i64 0, .int .i64 0, .int .i64 0, .bool false, .slice none 0 0, .slice none 0 0, .slice none 0 0]
structure Sp where
  c1 : Int
  c2 : Int
  c3 : Bool
  a4 : Option Addr
  n4 : Nat
  k4 : Nat
  a5 : Option Addr
  n5 : Nat
  k5 : Nat
  a6 : Option Addr
  n6 : Nat
  k6 : Nat
@[go_sem] def spotV (a e : Int) (s : Sp) : Value := .agg #[.int .i64 a, .int .i64 e, .int .i64 s.c1, .int .i64 s.c2, .bool s.c3, .slice s.a4 s.n4 s.k4, .slice s.a5 s.n5 s.k5, .slice s.a6 s.n6 s.k6]
def RetRdY (a e1 : Int) (w : World) (e : Ending) (w' : World) : Prop := Below w.heap.size w w' ∧ ∃ s, e = .returned (.tuple #[spotV a e1 s, errV (0, 0)])
def RetRdN (L : Nat) (w : World) (e : Ending) (w' : World) : Prop := Below w.heap.size w w' ∧ ∃ c o : Int, 0 < c ∧ 0 ≤ o ∧ o ≤ L ∧ e = .returned (.tuple #[spotZ, errV (c, o)])
def RetRd (r : Option Nat) (L : Nat) (a : Int) (w : World) (e : Ending) (w' : World) : Prop := match r with
  | some n => RetRdY a (a + n) w e w'
  | none => RetRdN L w e w'

set_option maxRecDepth 100000 in
theorem rdFail (c o : Int) (w : World) : Calls Tryz.prog 200 #[.int .i64 c, .int .i64 o] w (RetB (.tuple #[spotZ, errV (c, o)]) w) := by
  go_enter Tryz.func200, Tryz.ntmps200
  go_wp2_with fail
  refine bodyPost_ret (v := .tuple #[spotZ, errV (c, o)]) (by simp only [results, Tryz.results200]; go_simp) rfl ?_
  exact ⟨rfl, by ((repeat' (first | (with_reducible exact Below.refl _ _) | (with_reducible assumption) | (with_reducible refine Below.setCell ?_ ?_ _) | (with_reducible refine Below.alloc ?_ ?_ _) | (with_reducible refine Below.drew ?_) | (with_reducible refine below_drewN ?_ _) | (with_reducible refine Below.step (by with_reducible assumption) ?_ ?_))) <;> (first | omega | (simp; done) | (simp; omega)))⟩

set_option maxRecDepth 100000 in
set_option maxHeartbeats 4000000 in
theorem read_zero (v : Value) (a e1 : Int) (L : Nat) (w : World) (h0 : 0 ≤ a) (h1 : a ≤ L) : Calls Tryz.prog 160 #[v, .int .i64 a, .int .i64 e1, .int .i64 0] w (RetRdN L w) := by
  have HF := Lib.hid (fun W => rdFail 5 a W)
  simp only [spotZ, errV] at HF
  go_enter Tryz.func160, Tryz.ntmps160
  go_wp2_with (first | (go_at_call 200; (with_reducible refine (HF.out _).mono ?_); rintro e w1 ⟨rfl, hbw1⟩; obtain ⟨hcw1, hfw1⟩ := bcell hbw1; have hzw1 := hbw1.size; (try simp at hzw1); have hyw1 : w.heap.size < w1.heap.size := (by omega); (try have hyaw1 : w.heap.size + 1 < w1.heap.size := (by omega)); (try have hybw1 : w.heap.size + 2 < w1.heap.size := (by omega)); (try have hycw1 : w.heap.size + 3 < w1.heap.size := (by omega)); (try have hydw1 : w.heap.size + 4 < w1.heap.size := (by omega)); clear hzw1); have q0w1 := fun o => hcw1 (w.heap.size) o (by simp [go_sem]; try omega); simp [go_sem] at q0w1; have r0w1 := fun o => hfw1 (w.heap.size) o (by simp [go_sem]; try omega); simp [go_sem] at r0w1; have q1w1 := fun o => hcw1 (w.heap.size + 1) o (by simp [go_sem]; try omega); simp [go_sem] at q1w1; have r1w1 := fun o => hfw1 (w.heap.size + 1) o (by simp [go_sem]; try omega); simp [go_sem] at r1w1)
  refine bodyPost_ret (v := .tuple #[spotZ, errV (5, a)]) (by simp only [results, Tryz.results160]; go_simp) rfl ?_
  exact ⟨by ((repeat' (first | (with_reducible exact Below.refl _ _) | (with_reducible assumption) | (with_reducible refine Below.setCell ?_ ?_ _) | (with_reducible refine Below.alloc ?_ ?_ _) | (with_reducible refine Below.drew ?_) | (with_reducible refine below_drewN ?_ _) | (with_reducible refine Below.step (by with_reducible assumption) ?_ ?_))) <;> (first | omega | (simp; done) | (simp; omega))), 5, a, by omega, h0, h1, rfl⟩

set_option maxRecDepth 100000 in
set_option maxHeartbeats 4000000 in
theorem read_herr (d : Nat) (v v1 : Value) (l : List UInt8) (a e1 : Int) (w : World) (ec eo : Int) (hw : IsB w v1 (seg l a e1)) (h0 : 0 ≤ a) (h1 : a ≤ e1) (h2 : e1 ≤ l.length) (hL : l.length ≤ 1000000) (hd : d ≤ 100)
    (hcut : ∀ (W : World), (Instr.slice 33 v (some (.int .i64 a)) (some (.int .i64 e1)) (some (.int .i64 e1))).run Tryz.prog W = .ok v1 W) (hr : rdHdr (seg l a e1) = .error (ec, eo)) :
    Calls Tryz.prog 160 #[v, .int .i64 a, .int .i64 e1, .int .i64 ((d : Int) + 1)] w (RetRdN l.length w) := by
  have hbd := rdHdr_err hr
  have hsl := seg_len l a e1 h0 h1 h2
  have HR : Hid (∀ W, IsB W v1 (seg l a e1) → Calls Tryz.prog 159 #[v1] W (RetB (.tuple #[hdrV Hdr.zero, errV (ec, eo)]) W)) := by
    intro W h
    have := readHdr_any v1 _ W h
    rwa [hr] at this
  have HB := Lib.hid hw
  obtain ⟨hb1, hb2, hb3, hb4⟩ := hbd
  rw [hsl] at hb4
  have hb5 : a + eo ≤ l.length := by omega
  have hn : (ec == 0) = false := beq_eq_false_iff_ne.2 (by omega)
  have hn' : (ec != 0) = true := by simp; omega
  have hwr : IntKind.i64.wrap (a + eo) = a + eo := IntWalk.i64_in _ (by omega)
  have HF := Lib.hid (fun W => rdFail ec (a + eo) W)
  have hd1 : ((d : Int) + 1 == 0) = false := beq_eq_false_iff_ne.2 (by omega)
  simp only [hdrV, errV, Hdr.zero, spotZ] at HR HF
  clear hw hr hsl
  go_enter Tryz.func160, Tryz.ntmps160
  go_wp2_with (first | (go_at_call 159; (with_reducible refine (HR.out _ ((HB.out.alloc _).alloc _)).mono ?_); rintro e w1 ⟨rfl, hbw1⟩; obtain ⟨hcw1, hfw1⟩ := bcell hbw1; have hzw1 := hbw1.size; (try simp at hzw1); have hyw1 : w.heap.size < w1.heap.size := (by omega); (try have hyaw1 : w.heap.size + 1 < w1.heap.size := (by omega)); (try have hybw1 : w.heap.size + 2 < w1.heap.size := (by omega)); (try have hycw1 : w.heap.size + 3 < w1.heap.size := (by omega)); (try have hydw1 : w.heap.size + 4 < w1.heap.size := (by omega)); clear hzw1); have K0 := Blk.call ((Blk.new w 152 #[.int .i64 0, .int .i64 0, .int .i64 0, .int .i64 0, .bool false, .slice none 0 0, .slice none 0 0, .slice none 0 0]).alloc (.cells #[.int .i64 0, .int .i64 0] 38)) hbw1; have lK0 := K0.lt; have qK0 := K0.q; have rK0 := K0.fz; have K0' := Lib.hid K0; clear K0; have K0 := K0'.out; clear K0'; have K1 := Blk.call (blk_in (t := 38) (cs := #[.int .i64 0, .int .i64 0]) (w := w.alloc (.cells #[.int .i64 0, .int .i64 0, .int .i64 0, .int .i64 0, .bool false, .slice none 0 0, .slice none 0 0, .slice none 0 0] 152)) (g := w.heap.size + 1) (by simp)) hbw1; have lK1 := K1.lt; have qK1 := K1.q; have rK1 := K1.fz; have K1' := Lib.hid K1; clear K1; have K1 := K1'.out; clear K1' | (go_at_call 200; (with_reducible refine (HF.out _).mono ?_); rintro e w2 ⟨rfl, hbw2⟩; obtain ⟨hcw2, hfw2⟩ := bcell hbw2; have hzw2 := hbw2.size; (try simp at hzw2); have hyw2 : w.heap.size < w2.heap.size := (by omega); (try have hyaw2 : w.heap.size + 1 < w2.heap.size := (by omega)); (try have hybw2 : w.heap.size + 2 < w2.heap.size := (by omega)); (try have hycw2 : w.heap.size + 3 < w2.heap.size := (by omega)); (try have hydw2 : w.heap.size + 4 < w2.heap.size := (by omega)); clear hzw2); have J0 := Blk.call ((K0.alloc _).alloc _) hbw2; have lJ0 := J0.lt; have qJ0 := J0.q; have rJ0 := J0.fz; have J0' := Lib.hid J0; clear J0; have J0 := J0'.out; clear J0'; have J1 := Blk.call ((K1.alloc _).alloc _) hbw2; have lJ1 := J1.lt; have qJ1 := J1.q; have rJ1 := J1.fz; have J1' := Lib.hid J1; clear J1; have J1 := J1'.out; clear J1')
  refine bodyPost_ret (v := .tuple #[spotZ, errV (ec, a + eo)]) (by simp only [results, Tryz.results160]; go_simp) rfl ?_
  exact ⟨by ((repeat' (first | (with_reducible exact Below.refl _ _) | (with_reducible assumption) | (with_reducible refine Below.setCell ?_ ?_ _) | (with_reducible refine Below.alloc ?_ ?_ _) | (with_reducible refine Below.drew ?_) | (with_reducible refine below_drewN ?_ _) | (with_reducible refine Below.step (by with_reducible assumption) ?_ ?_))) <;> (first | omega | (simp; done) | (simp; omega))), ec, a + eo, by omega, by omega, by omega, rfl⟩

set_option maxRecDepth 100000 in
set_option maxHeartbeats 4000000 in
theorem read_short (d : Nat) (v v1 : Value) (l : List UInt8) (a e1 : Int) (w : World) (h : Hdr) (hw : IsB w v1 (seg l a e1)) (h0 : 0 ≤ a) (h1 : a ≤ e1) (h2 : e1 ≤ l.length) (hL : l.length ≤ 1000000) (hd : d ≤ 100)
    (hcut : ∀ (W : World), (Instr.slice 33 v (some (.int .i64 a)) (some (.int .i64 e1)) (some (.int .i64 e1))).run Tryz.prog W = .ok v1 W) (hr : rdHdr (seg l a e1) = .ok h) (hs : e1 - a - h.size < h.len) :
    Calls Tryz.prog 160 #[v, .int .i64 a, .int .i64 e1, .int .i64 ((d : Int) + 1)] w (RetRdN l.length w) := by
  obtain ⟨hc, hnm, hcn, hln, hsz⟩ := h
  have hbd := rdHdr_ok hr
  have hsl := seg_len l a e1 h0 h1 h2
  have HR : Hid (∀ W, IsB W v1 (seg l a e1) → Calls Tryz.prog 159 #[v1] W (RetB (.tuple #[hdrV ⟨hc, hnm, hcn, hln, hsz⟩, errV (0, 0)]) W)) := by
    intro W h
    have := readHdr_any v1 _ W h
    rwa [hr] at this
  have HB := Lib.hid hw
  simp only at hbd hs
  obtain ⟨hb1, hb2, hb3, hb4, hb5, _⟩ := hbd
  rw [hsl] at hb5
  have HF := Lib.hid (fun W => rdFail 1 e1 W)
  have hd1 : ((d : Int) + 1 == 0) = false := beq_eq_false_iff_ne.2 (by omega)
  have hs' : e1 - (a + hsz) < hln := by omega
  simp only [hdrV, errV, spotZ] at HR HF
  clear hw hr hsl hs
  go_enter Tryz.func160, Tryz.ntmps160
  go_wp2_with (first | (go_at_call 159; (with_reducible refine (HR.out _ ((HB.out.alloc _).alloc _)).mono ?_); rintro e w1 ⟨rfl, hbw1⟩; obtain ⟨hcw1, hfw1⟩ := bcell hbw1; have hzw1 := hbw1.size; (try simp at hzw1); have hyw1 : w.heap.size < w1.heap.size := (by omega); (try have hyaw1 : w.heap.size + 1 < w1.heap.size := (by omega)); (try have hybw1 : w.heap.size + 2 < w1.heap.size := (by omega)); (try have hycw1 : w.heap.size + 3 < w1.heap.size := (by omega)); (try have hydw1 : w.heap.size + 4 < w1.heap.size := (by omega)); clear hzw1); have K0 := Blk.call ((Blk.new w 152 #[.int .i64 0, .int .i64 0, .int .i64 0, .int .i64 0, .bool false, .slice none 0 0, .slice none 0 0, .slice none 0 0]).alloc (.cells #[.int .i64 0, .int .i64 0] 38)) hbw1; have lK0 := K0.lt; have qK0 := K0.q; have rK0 := K0.fz; have K0' := Lib.hid K0; clear K0; have K0 := K0'.out; clear K0'; have K1 := Blk.call (blk_in (t := 38) (cs := #[.int .i64 0, .int .i64 0]) (w := w.alloc (.cells #[.int .i64 0, .int .i64 0, .int .i64 0, .int .i64 0, .bool false, .slice none 0 0, .slice none 0 0, .slice none 0 0] 152)) (g := w.heap.size + 1) (by simp)) hbw1; have lK1 := K1.lt; have qK1 := K1.q; have rK1 := K1.fz; have K1' := Lib.hid K1; clear K1; have K1 := K1'.out; clear K1' | (go_at_call 200; (with_reducible refine (HF.out _).mono ?_); rintro e w2 ⟨rfl, hbw2⟩; obtain ⟨hcw2, hfw2⟩ := bcell hbw2; have hzw2 := hbw2.size; (try simp at hzw2); have hyw2 : w.heap.size < w2.heap.size := (by omega); (try have hyaw2 : w.heap.size + 1 < w2.heap.size := (by omega)); (try have hybw2 : w.heap.size + 2 < w2.heap.size := (by omega)); (try have hycw2 : w.heap.size + 3 < w2.heap.size := (by omega)); (try have hydw2 : w.heap.size + 4 < w2.heap.size := (by omega)); clear hzw2); have J0 := Blk.call ((K0.alloc _).alloc _) hbw2; have lJ0 := J0.lt; have qJ0 := J0.q; have rJ0 := J0.fz; have J0' := Lib.hid J0; clear J0; have J0 := J0'.out; clear J0'; have J1 := Blk.call ((K1.alloc _).alloc _) hbw2; have lJ1 := J1.lt; have qJ1 := J1.q; have rJ1 := J1.fz; have J1' := Lib.hid J1; clear J1; have J1 := J1'.out; clear J1')
  refine bodyPost_ret (v := .tuple #[spotZ, errV (1, e1)]) (by simp only [results, Tryz.results160]; go_simp) rfl ?_
  exact ⟨by ((repeat' (first | (with_reducible exact Below.refl _ _) | (with_reducible assumption) | (with_reducible refine Below.setCell ?_ ?_ _) | (with_reducible refine Below.alloc ?_ ?_ _) | (with_reducible refine Below.drew ?_) | (with_reducible refine below_drewN ?_ _) | (with_reducible refine Below.step (by with_reducible assumption) ?_ ?_))) <;> (first | omega | (simp; done) | (simp; omega))), 1, e1, by omega, by omega, h2, rfl⟩

set_option maxRecDepth 100000 in
set_option maxHeartbeats 4000000 in
theorem read_prim (d : Nat) (v v1 v2 : Value) (l : List UInt8) (a e1 : Int) (w : World) (hc hnm hln hsz : Int) (hw : IsB w v1 (seg l a e1)) (hw2 : IsB w v2 (seg l (a + hsz) (a + hsz + hln))) (h0 : 0 ≤ a) (h1 : a ≤ e1) (h2 : e1 ≤ l.length) (hL : l.length ≤ 1000000) (hd : d ≤ 100)
    (hcut : ∀ (W : World), (Instr.slice 33 v (some (.int .i64 a)) (some (.int .i64 e1)) (some (.int .i64 e1))).run Tryz.prog W = .ok v1 W)
    (hcut2 : ∀ (W : World), (Instr.slice 33 v (some (.int .i64 (a + hsz))) (some (.int .i64 (a + hsz + hln))) none).run Tryz.prog W = .ok v2 W) (hr : rdHdr (seg l a e1) = .ok ⟨hc, hnm, false, hln, hsz⟩) (hs : hln ≤ e1 - (a + hsz)) :
    Calls Tryz.prog 160 #[v, .int .i64 a, .int .i64 e1, .int .i64 ((d : Int) + 1)] w (RetRdY a (a + hsz + hln) w) := by
  have hbd := rdHdr_ok hr
  have hsl := seg_len l a e1 h0 h1 h2
  have HR : Hid (∀ W, IsB W v1 (seg l a e1) → Calls Tryz.prog 159 #[v1] W (RetB (.tuple #[hdrV ⟨hc, hnm, false, hln, hsz⟩, errV (0, 0)]) W)) := by
    intro W h
    have := readHdr_any v1 _ W h
    rwa [hr] at this
  have HB := Lib.hid hw
  simp only at hbd
  obtain ⟨hb1, hb2, hb3, hb4, hb5, _⟩ := hbd
  rw [hsl] at hb5
  have hsl2 := seg_len l (a + hsz) (a + hsz + hln) (by omega) (by omega) (by omega)
  have HC := Lib.hid (fun W (h : IsB W v2 (seg l (a + hsz) (a + hsz + hln))) => clone_any v2 _ W h (by omega))
  have HB2 := Lib.hid hw2
  have hd1 : ((d : Int) + 1 == 0) = false := beq_eq_false_iff_ne.2 (by omega)
  simp only [hdrV, errV] at HR
  clear hw hw2 hr hsl
  go_enter Tryz.func160, Tryz.ntmps160
  go_wp2_with (first | (go_at_call 159; (with_reducible refine (HR.out _ ((HB.out.alloc _).alloc _)).mono ?_); rintro e w1 ⟨rfl, hbw1⟩; obtain ⟨hcw1, hfw1⟩ := bcell hbw1; have hzw1 := hbw1.size; (try simp at hzw1); have hyw1 : w.heap.size < w1.heap.size := (by omega); (try have hyaw1 : w.heap.size + 1 < w1.heap.size := (by omega)); (try have hybw1 : w.heap.size + 2 < w1.heap.size := (by omega)); (try have hycw1 : w.heap.size + 3 < w1.heap.size := (by omega)); (try have hydw1 : w.heap.size + 4 < w1.heap.size := (by omega)); clear hzw1); have K0 := Blk.call ((Blk.new w 152 #[.int .i64 0, .int .i64 0, .int .i64 0, .int .i64 0, .bool false, .slice none 0 0, .slice none 0 0, .slice none 0 0]).alloc (.cells #[.int .i64 0, .int .i64 0] 38)) hbw1; have lK0 := K0.lt; have qK0 := K0.q; have rK0 := K0.fz; have K0' := Lib.hid K0; clear K0; have K0 := K0'.out; clear K0'; have K1 := Blk.call (blk_in (t := 38) (cs := #[.int .i64 0, .int .i64 0]) (w := w.alloc (.cells #[.int .i64 0, .int .i64 0, .int .i64 0, .int .i64 0, .bool false, .slice none 0 0, .slice none 0 0, .slice none 0 0] 152)) (g := w.heap.size + 1) (by simp)) hbw1; have lK1 := K1.lt; have qK1 := K1.q; have rK1 := K1.fz; have K1' := Lib.hid K1; clear K1; have K1 := K1'.out; clear K1'; have HB3 := Lib.hid (((HB2.out.alloc _).alloc _).below hbw1) | ((go_at_call 91); (with_reducible refine (HC.out _ (((HB3.out.alloc _).alloc _).alloc _)).mono ?_); rintro e w2 ⟨vc, rfl, ho, hbw2⟩; obtain ⟨Ac, kc, rfl⟩ := isB_slice ho.isB; obtain ⟨hcw2, hfw2⟩ := bcell hbw2; have hzw2 := hbw2.size; (try simp at hzw2); have hyw2 : w.heap.size < w2.heap.size := (by omega); (try have hyaw2 : w.heap.size + 1 < w2.heap.size := (by omega)); (try have hybw2 : w.heap.size + 2 < w2.heap.size := (by omega)); (try have hycw2 : w.heap.size + 3 < w2.heap.size := (by omega)); (try have hydw2 : w.heap.size + 4 < w2.heap.size := (by omega)); clear hzw2; clear ho; have J0 := Blk.call (((K0.alloc _).alloc _).alloc _) hbw2; have lJ0 := J0.lt; have qJ0 := J0.q; have rJ0 := J0.fz; have J0' := Lib.hid J0; clear J0; have J0 := J0'.out; clear J0'; have J1 := Blk.call (((K1.alloc _).alloc _).alloc _) hbw2; have lJ1 := J1.lt; have qJ1 := J1.q; have rJ1 := J1.fz; have J1' := Lib.hid J1; clear J1; have J1 := J1'.out; clear J1'; have J2 := Blk.call (blk_in (t := 152) (cs := #[.int .i64 a, .int .i64 (a + hsz + hln), .int .i64 hc, .int .i64 hnm, .bool false, .slice none 0 0, .slice none 0 0, .slice none 0 0]) (w := (w1.alloc _).alloc _) (g := w1.heap.size + 1 + 1) (by simp)) hbw2; have lJ2 := J2.lt; have qJ2 := J2.q; have rJ2 := J2.fz; have J2' := Lib.hid J2; clear J2; have J2 := J2'.out; clear J2'))
  refine bodyPost_ret (v := .tuple #[spotV a (a + hsz + hln) ⟨hc, hnm, false, Ac, (seg l (a + hsz) (a + hsz + hln)).length, kc, none, 0, 0, none, 0, 0⟩, errV (0, 0)]) (by simp only [results, Tryz.results160]; go_simp) rfl ?_
  exact ⟨by ((repeat' (first | (with_reducible exact Below.refl _ _) | (with_reducible assumption) | (with_reducible refine Below.setCell ?_ ?_ _) | (with_reducible refine Below.alloc ?_ ?_ _) | (with_reducible refine Below.drew ?_) | (with_reducible refine below_drewN ?_ _) | (with_reducible refine Below.step (by with_reducible assumption) ?_ ?_))) <;> (first | omega | (simp; done) | (simp; omega))), _, rfl⟩
end Go.Proofs.YtlmnmgokfnnbbaaGreatDoor
end

/- Walk over tree.read: constructed elements; tree.Parse. -/
section
set_option linter.unusedSimpArgs false
set_option linter.unusedVariables false
namespace Go.Proofs.YtlmnmgokfnnbbaaGreatDoor
open Go.RowKit Go.Cr
theorem scanL_step {rd : List UInt8 → Option Nat} (hrd : ∀ l n, rd l = some n → 0 < n) (l : List UInt8) (hl : l ≠ []) :
    scanL rd l.length l = match rd l with | none => none | some n => (scanL rd (l.drop n).length (l.drop n)).map (l.take n :: ·) := by
  obtain ⟨k, hk⟩ : ∃ k, l.length = k + 1 := ⟨l.length - 1, by
    have : l.length ≠ 0 := fun h => hl (List.eq_nil_of_length_eq_zero h)
    omega⟩
  rw [hk]
  simp only [scanL, if_neg hl]
  cases hr : rd l with
  | none => rfl
  | some n =>
    have := hrd l n hr
    simp only
    have e := scanL_fuel hrd (l.drop n).length (l.drop n) (k - (l.drop n).length) (Nat.le_refl _)
    rw [show (l.drop n).length + (k - (l.drop n).length) = k by simp; omega] at e
    rw [e]
def fills (d : Nat) (l : List UInt8) : Bool := (scanL (readT d) l.length l).isSome
theorem fills_none {d : Nat} {l : List UInt8} (hl : l ≠ []) (h : readT d l = none) : fills d l = false := by
  unfold fills
  rw [scanL_step (fun l n h => by have := readT_bound h; omega) l hl, h]
  rfl
theorem fills_some {d : Nat} {l : List UInt8} {n : Nat} (hl : l ≠ []) (h : readT d l = some n) : fills d l = fills d (l.drop n) := by
  unfold fills
  rw [scanL_step (fun l n h => by have := readT_bound h; omega) l hl, h]
  simp only
  cases scanL (readT d) (l.drop n).length (l.drop n) <;> rfl
theorem seg_drop (l : List UInt8) (a e1 : Int) (n : Nat) (h0 : 0 ≤ a) (h1 : a + n ≤ e1) : (seg l a e1).drop n = seg l (a + n) e1 := by
  unfold seg
  rw [List.drop_take, List.drop_drop]
  congr 1
  · omega
  · congr 1; omega

def TrRel (d : Nat) (l : List UInt8) (a0 lo e2 : Int) (hc hnm : Int) (Q : Bool) (g : Nat) (w : World) (bd : Value) (wr : World) : Prop :=
  ∃ (a : Int) (k1 k2 : Nat) (A1 A2 : Option Addr) (c1 c2 : Nat) (xs1 xs2 : List Value), bd = .int .i64 a ∧ lo ≤ a ∧ a ≤ e2 ∧ (k1 : Int) ≤ a - lo ∧ (k2 : Int) ≤ a - lo ∧ fills d (seg l a e2) = Q ∧
    Blk wr g 152 #[.int .i64 a0, .int .i64 e2, .int .i64 hc, .int .i64 hnm, .bool true, .slice none 0 0, .slice A1 k1 c1, .slice A2 k2 c2] ∧
    wr.ownsRow (g + 1) 85 5 (.slice A1 k1 c1) k1 xs1 ∧ wr.ownsRow (g + 1) 152 8 (.slice A2 k2 c2) k2 xs2 ∧ Apart (.slice A1 k1 c1) (.slice A2 k2 c2) ∧
    Blk wr w.heap.size 152 #[.int .i64 0, .int .i64 0, .int .i64 0, .int .i64 0, .bool false, .slice none 0 0, .slice none 0 0, .slice none 0 0] ∧ Blk wr (w.heap.size + 1) 38 #[.int .i64 0, .int .i64 0] ∧ Below w.heap.size w wr

theorem own_slice {w : World} {base : Nat} {e : TypeId} {k : Nat} {v : Value} {n : Nat} {xs : List Value} (h : w.ownsRow base e k v n xs) : ∃ A c, v = .slice A n c := by
  rcases h.2 with ⟨rfl, rfl⟩ | ⟨g, cap, cur, hv, _⟩
  · exact ⟨none, 0, rfl⟩
  · exact ⟨_, _, hv⟩

set_option maxRecDepth 100000 in
set_option maxHeartbeats 8000000 in
theorem read_con (d : Nat) (v v1 : Value) (l : List UInt8) (a0 e1 : Int) (w : World) (hc hnm hln hsz : Int) (hw : IsB w v1 (seg l a0 e1)) (h0 : 0 ≤ a0) (h1 : a0 ≤ e1) (h2 : e1 ≤ l.length) (hL : l.length ≤ 1000000) (hd : d ≤ 100) (hv : IsB w v l)
    (hcut : ∀ (W : World), (Instr.slice 33 v (some (.int .i64 a0)) (some (.int .i64 e1)) (some (.int .i64 e1))).run Tryz.prog W = .ok v1 W)
    (hr : rdHdr (seg l a0 e1) = .ok ⟨hc, hnm, true, hln, hsz⟩) (hs : hln ≤ e1 - (a0 + hsz))
    (ih : ∀ (a : Int) (W : World), IsB W v l → 0 ≤ a → a ≤ a0 + hsz + hln → Calls Tryz.prog 160 #[v, .int .i64 a, .int .i64 (a0 + hsz + hln), .int .i64 d] W (RetRd (readT d (seg l a (a0 + hsz + hln))) l.length a W)) :
    Calls Tryz.prog 160 #[v, .int .i64 a0, .int .i64 e1, .int .i64 ((d : Int) + 1)] w (if fills d (seg l (a0 + hsz) (a0 + hsz + hln)) then RetRdY a0 (a0 + hsz + hln) w else RetRdN l.length w) := by
  have hbd := rdHdr_ok hr
  have hsl := seg_len l a0 e1 h0 h1 h2
  have HR : Hid (∀ W, IsB W v1 (seg l a0 e1) → Calls Tryz.prog 159 #[v1] W (RetB (.tuple #[hdrV ⟨hc, hnm, true, hln, hsz⟩, errV (0, 0)]) W)) := by
    intro W h
    have := readHdr_any v1 _ W h
    rwa [hr] at this
  have HB := Lib.hid hw
  have HVV := Lib.hid hv
  have HIH := Lib.hid ih
  simp only at hbd
  obtain ⟨hb1, hb2, hb3, hb4, hb5, _⟩ := hbd
  rw [hsl] at hb5
  have hd1 : ((d : Int) + 1 == 0) = false := beq_eq_false_iff_ne.2 (by omega)
  obtain ⟨Q, hQ⟩ : ∃ Q, fills d (seg l (a0 + hsz) (a0 + hsz + hln)) = Q := ⟨_, rfl⟩
  rw [hQ]
  have HQ := Lib.hid hQ
  obtain ⟨P, hP⟩ : ∃ P, (if Q = true then RetRdY a0 (a0 + hsz + hln) w else RetRdN l.length w) = P := ⟨_, rfl⟩
  rw [hP]
  have HP := Lib.hid hP
  have hle2 : a0 + hsz + hln ≤ l.length := by omega
  simp only [hdrV, errV] at HR
  clear hw hr hsl hv ih hQ hP
  have hdw : IntKind.i64.wrap ((d : Int)) = d := IntWalk.i64_in _ (by omega)
  go_enter Tryz.func160, Tryz.ntmps160
  go_wp2_with (first | (go_at_call 159; (with_reducible refine (HR.out _ ((HB.out.alloc _).alloc _)).mono ?_); rintro e w1 ⟨rfl, hbw1⟩; obtain ⟨hcw1, hfw1⟩ := bcell hbw1; have hzw1 := hbw1.size; (try simp at hzw1); have hyw1 : w.heap.size < w1.heap.size := (by omega); (try have hyaw1 : w.heap.size + 1 < w1.heap.size := (by omega)); (try have hybw1 : w.heap.size + 2 < w1.heap.size := (by omega)); (try have hycw1 : w.heap.size + 3 < w1.heap.size := (by omega)); (try have hydw1 : w.heap.size + 4 < w1.heap.size := (by omega)); clear hzw1); have K0 := Blk.call ((Blk.new w 152 #[.int .i64 0, .int .i64 0, .int .i64 0, .int .i64 0, .bool false, .slice none 0 0, .slice none 0 0, .slice none 0 0]).alloc (.cells #[.int .i64 0, .int .i64 0] 38)) hbw1; have lK0 := K0.lt; have qK0 := K0.q; have rK0 := K0.fz; have K0' := Lib.hid K0; clear K0; have K0 := K0'.out; clear K0'; have K1 := Blk.call (blk_in (t := 38) (cs := #[.int .i64 0, .int .i64 0]) (w := w.alloc (.cells #[.int .i64 0, .int .i64 0, .int .i64 0, .int .i64 0, .bool false, .slice none 0 0, .slice none 0 0, .slice none 0 0] 152)) (g := w.heap.size + 1) (by simp)) hbw1; have lK1 := K1.lt; have qK1 := K1.q; have rK1 := K1.fz; have K1' := Lib.hid K1; clear K1; have K1 := K1'.out; clear K1')
  have KK0 := Lib.hid K0
  have KK1 := Lib.hid K1
  have hB1 := Lib.hid (Below.trans (((Below.refl w.heap.size w).alloc (Nat.le_refl _) (.cells #[.int .i64 0, .int .i64 0, .int .i64 0, .int .i64 0, .bool false, .slice none 0 0, .slice none 0 0, .slice none 0 0] 152)).alloc (by simp) (.cells #[.int .i64 0, .int .i64 0] 38)) (hbw1.mono (by simp; omega)))
  clear K0 K1 qK0 rK0 lK0 qK1 rK1 lK1 hbw1 hcw1 hfw1
  generalize hE2 : a0 + hsz + hln = e2 at *
  have HE2 := Lib.hid hE2
  have hlo : a0 + hsz ≤ e2 := by omega
  generalize hLO : a0 + hsz = lo at *
  have hlo0 : 2 ≤ lo := by omega
  clear hE2 hLO
  generalize hG : w1.heap.size + 1 + 1 = G at *
  have HG := Lib.hid hG
  have hGw : w.heap.size ≤ G := by have := hB1.out.size; omega
  have hw1G : w1.heap.size < G := by omega
  clear hG
  go_loopw [13] (fun bd wr => TrRel d l a0 lo e2 hc hnm Q G w bd wr) (fun bd _ => (e2 - intOf bd).toNat)
  case atStart =>
    refine ⟨lo, 0, 0, none, none, 0, 0, [], [], rfl, Int.le_refl _, hlo, by omega, by omega, HQ.out, blk_in (by rw [← HG.out]; simp), World.ownsRow_nil _ _ _ _, World.ownsRow_nil _ _ _ _, Apart.nil_ _, ((KK0.out.alloc _).alloc _).alloc _, ((KK1.out.alloc _).alloc _).alloc _, ?_⟩
    have := hB1.out
    have := hB1.out.size
    exact ((hB1.out.alloc (by omega) _).alloc (by simp; omega) _).alloc (by simp; omega) _
  case round =>
    obtain ⟨a, k1, k2, A1, A2, c1, c2, xs1, xs2, rfl, hla, hae, hk1, hk2, hfl, hK, hO1, hO2, hAp, hK0, hK1, hbel⟩ := hrel
    have HAp := Lib.hid hAp
    have HO1 := Lib.hid hO1
    have HO2 := Lib.hid hO2
    have HFL := Lib.hid hfl
    have HBR := Lib.hid hbel
    have hq := hK.q
    have hf := hK.fz
    have hgl := hK.lt
    have KK := Lib.hid hK
    have KA0 := Lib.hid hK0
    have KA1 := Lib.hid hK1
    clear hAp hO1 hO2 hfl hbel hK hK0 hK1
    by_cases hlt : a < e2
    · have hsl := seg_len l a e2 (by omega) hae hle2
      have hne : seg l a e2 ≠ [] := by intro h; rw [h] at hsl; simp at hsl; omega
      have hi := HIH.out a wr (HVV.out.below HBR.out) (by omega) hae
      cases hrd : readT d (seg l a e2) with
      | none =>
        rw [hrd] at hi
        have hQf : Q = false := by rw [← HFL.out]; exact fills_none hne hrd
        have HI : Hid (Calls Tryz.prog 160 #[v, .int .i64 a, .int .i64 e2, .int .i64 d] wr (RetRdN l.length wr)) := hi
        have hPP : P = RetRdN l.length w := by rw [← HP.out, hQf]; rfl
        have HPP := Lib.hid hPP
        clear hi hrd hQf hne hsl hPP
        go_wp2_with (first | ((go_at_call 160); (with_reducible refine (HI.out).mono ?_); rintro e w2 ⟨hbw2, ec, eo, hec, heo, heo2, rfl⟩; obtain ⟨hcw2, hfw2⟩ := bcell hbw2; have J0 := Blk.call (KA0.out) hbw2; have lJ0 := J0.lt; have qJ0 := J0.q; have rJ0 := J0.fz; have J0' := Lib.hid J0; clear J0; have J0 := J0'.out; clear J0'; have J1 := Blk.call (KA1.out) hbw2; have lJ1 := J1.lt; have qJ1 := J1.q; have rJ1 := J1.fz; have J1' := Lib.hid J1; clear J1; have J1 := J1'.out; clear J1'; have hn : (ec == 0) = false := beq_eq_false_iff_ne.2 (by omega); have hn' : (ec != 0) = true := (by simp; omega)))
        go_region
        go_wp2
        rw [HPP.out]
        refine bodyPost_ret (v := .tuple #[spotZ, errV (ec, eo)]) (by simp only [results, Tryz.results160]; go_simp) rfl ?_
        have hb := HBR.out
        have hbs := HBR.out.size
        exact ⟨by ((repeat' (first | (with_reducible exact Below.refl _ _) | (with_reducible assumption) | (with_reducible refine Below.setCell ?_ ?_ _) | (with_reducible refine Below.alloc ?_ ?_ _) | (with_reducible refine Below.drew ?_) | (with_reducible refine below_drewN ?_ _) | (with_reducible refine Below.step (by with_reducible assumption) ?_ ?_))) <;> (first | omega | (simp; done) | (simp; omega))), ec, eo, hec, heo, heo2, rfl⟩
      | some n =>
        rw [hrd] at hi
        have hb := readT_bound hrd
        have hfl2 : fills d (seg l (a + n) e2) = Q := by
          rw [← HFL.out, fills_some hne hrd, seg_drop l a e2 n (by omega) (by omega)]
        have HF2 := Lib.hid hfl2
        have HI : Hid (Calls Tryz.prog 160 #[v, .int .i64 a, .int .i64 e2, .int .i64 d] wr (RetRdY a (a + n) wr)) := hi
        have hn2 : (2 : Int) ≤ n := by omega
        have hane : a + n ≤ e2 := by omega
        obtain ⟨is0, his, hzs0, hzs1, hzs2⟩ := info_parts infoSpot
        obtain ⟨in0, hin, hzn0, hzn1, hzn2⟩ := info_parts infoNode
        clear hi hrd hne hsl hfl2 hb
        go_wp2_with (first | ((go_at_call 160); (with_reducible refine (HI.out).mono ?_); rintro e w2 ⟨hbw2, ⟨x1, x2, x3, y4, m4, z4, y5, m5, z5, y6, m6, z6⟩, rfl⟩; have J0 := Blk.call (KA0.out) hbw2; have lJ0 := J0.lt; have qJ0 := J0.q; have rJ0 := J0.fz; have J0' := Lib.hid J0; clear J0; have J0 := J0'.out; clear J0'; have J1 := Blk.call (KA1.out) hbw2; have lJ1 := J1.lt; have qJ1 := J1.q; have rJ1 := J1.fz; have J1' := Lib.hid J1; clear J1; have J1 := J1'.out; clear J1'; have JK := Blk.call (KK.out) hbw2; have lJK := JK.lt; have qJK := JK.q; have rJK := JK.fz; have JK' := Lib.hid JK; clear JK; have JK := JK'.out; clear JK'; have hG1 : G < w2.heap.size + 1 := (by omega); have hG2 : G < w2.heap.size + 1 + 1 := (by omega); have HO21 := Lib.hid (ownsRow_below HO1.out hbw2); have HO22 := Lib.hid (ownsRow_below HO2.out hbw2)) | (at_builtin; refine wpList_app2 _ rfl _ _ 150 rfl (G + 1) 152 is0 _ 8 112 ulSpots his hzs0 hzs1 hzs2 rfl (by decide) _ _ _ rfl (((HO22.out.alloc _).alloc _).alloc _) _ 1 [.int .i64 a, .int .i64 (a + n), .int .i64 x1, .int .i64 x2, .bool x3, .slice y4 m4 z4, .slice y5 m5 z5, .slice y6 m6 z6] rfl ?k0 ?k01 ?k1 ?k2 ?k3 ?_))
        case k0 => exact isR_at rfl (by simp)
        case k01 => intro u hu; simp at hu; rcases hu with rfl | rfl | rfl | rfl | rfl | rfl | rfl | rfl <;> rfl
        case k1 => unfold maxLen; omega
        case k2 => omega
        case k3 => simp; omega
        intro v3 w3 hown3 hgrow3 hbel3 hat3
        obtain ⟨A3, c3, rfl⟩ := own_slice hown3
        have hns : some w2.heap.size ≠ (Value.slice A2 k2 c2).ownBlock := fun h => by have := (HO22.out.lt _ h.symm).2; omega
        have hnn : some w2.heap.size ≠ (Value.slice A1 k1 c1).ownBlock := fun h => by have := (HO21.out.lt _ h.symm).2; omega
        have hK3 : Blk w3 G 152 _ := (((JK.alloc _).alloc _).alloc _).below hbel3 (Nat.lt_succ_self G)
        have hT3 : Blk w3 w2.heap.size 152 _ := (((Blk.new w2 _ #[.int .i64 a, .int .i64 (a + n), .int .i64 x1, .int .i64 x2, .bool x3, .slice y4 m4 z4, .slice y5 m5 z5, .slice y6 m6 z6]).alloc _).alloc _).grown hgrow3 hns
        obtain ⟨hN3, hAp3⟩ := apart_app (((HO21.out.alloc _).alloc _).alloc _) HAp.out.symm hgrow3 (by simpa using hat3)
        have hbW3 : Below w.heap.size w w3 := by
          have h1 := HBR.out
          have h2 := HBR.out.size
          have h3 := hbw2.size
          exact (((h1.trans (hbw2.mono h2)).alloc (by omega) _).alloc (by simp; omega) _).alloc (by simp; omega) _ |>.trans (hbel3.mono (by omega))
        have hq3 := hK3.q
        have hf3 := hK3.fz
        have hl3 := hK3.lt
        have ht3 := hT3.q
        have htl := hT3.lt
        have hneA : ¬ (G = w2.heap.size) := by omega
        have hneB : ¬ (w2.heap.size = G) := by omega
        have HJ0 := Lib.hid (show Blk w3 w.heap.size 152 _ from (((J0.alloc _).alloc _).alloc _).below hbel3 (by omega))
        have HJ1 := Lib.hid (show Blk w3 (w.heap.size + 1) 38 _ from (((J1.alloc _).alloc _).alloc _).below hbel3 (by omega))
        have HK3 := Lib.hid hK3
        have HT3 := Lib.hid hT3
        have HN3 := Lib.hid hN3
        have HS3 := Lib.hid hown3
        have HAP3 := Lib.hid hAp3
        have HBW3 := Lib.hid hbW3
        have hG5 : G + 1 ≤ w3.heap.size := by omega
        clear hK3 hT3 hN3 hAp3 hbW3 hown3 hgrow3 hbel3 hat3 hns qJK rJK qJ0 rJ0 qJ1 rJ1 JK J0 J1 lJK lJ0 lJ1 hq hf hgl
        go_wp2_with (at_builtin; refine wpList_app2 _ rfl _ _ 83 rfl (G + 1) 85 in0 _ 5 72 ulNodes hin hzn0 hzn1 hzn2 rfl (by decide) _ _ _ rfl ((ownsRow_setCell_below (a := ⟨G, 7, none⟩) HN3.out (Nat.lt_succ_self G) _).alloc _) _ 1 [.int .i64 x1, .int .i64 x2, .bool x3, .slice y4 m4 z4, .slice y5 m5 z5] rfl ?j0 ?j01 ?j1 ?j2 ?j3 ?_)
        case j0 => exact isR_at rfl (by simp)
        case j01 => intro u hu; simp at hu; rcases hu with rfl | rfl | rfl | rfl | rfl <;> rfl
        case j1 => unfold maxLen; omega
        case j2 => omega
        case j3 => simp; omega
        intro v5 w5 hown5 hgrow5 hbel5 hat5
        obtain ⟨A5, c5, rfl⟩ := own_slice hown5
        have hK5 : Blk w5 G 152 _ := ((HK3.out.set_ 7 (.slice A3 (k2 + 1) c3)).alloc _).below hbel5 (Nat.lt_succ_self G)
        have hT5 : Blk w5 w2.heap.size 152 _ := ((HT3.out.far (p := ⟨G, 7, none⟩) hneB (.slice A3 (k2 + 1) c3)).alloc _).grown hgrow5 hnn
        have hJ05 : Blk w5 w.heap.size 152 _ := ((HJ0.out.far (p := ⟨G, 7, none⟩) (show w.heap.size ≠ G by omega) (.slice A3 (k2 + 1) c3)).alloc _).below hbel5 (by omega)
        have hJ15 : Blk w5 (w.heap.size + 1) 38 _ := ((HJ1.out.far (p := ⟨G, 7, none⟩) (show w.heap.size + 1 ≠ G by omega) (.slice A3 (k2 + 1) c3)).alloc _).below hbel5 (by omega)
        obtain ⟨hS5, hAp5⟩ := apart_app ((ownsRow_setCell_below (a := ⟨G, 7, none⟩) HS3.out (Nat.lt_succ_self G) (.slice A3 (k2 + 1) c3)).alloc _) HAP3.out.symm hgrow5 (by simpa using hat5)
        have hbW5 : Below w.heap.size w w5 := by
          have h1 := HBW3.out
          exact ((h1.setCell (p := ⟨G, 7, none⟩) hGw _).alloc (by simp; omega) _).trans (hbel5.mono (by omega))
        have hq5 := hK5.q
        have hf5 := hK5.fz
        have hl5 := hK5.lt
        have ht5 := hT5.q
        have htl5 := hT5.lt
        have HK5 := Lib.hid hK5
        have HS5 := Lib.hid hS5
        have HAP5 := Lib.hid hAp5
        have HN5 := Lib.hid hown5
        have HBW5 := Lib.hid hbW5
        have HJ05 := Lib.hid hJ05
        have HJ15 := Lib.hid hJ15
        clear hK5 hT5 hJ05 hJ15 hS5 hAp5 hbW5 hown5 hgrow5 hbel5 hat5 hnn hq3 hf3 hl3 ht3 htl
        go_wp2
        go_roundw
        case rel =>
          refine ⟨a + n, k1 + 1, k2 + 1, A5, A3, c5, c3, _, _, rfl, by omega, by omega, by omega, by omega, HF2.out, ?_, ownsRow_setCell_below (a := ⟨G, 6, none⟩) HN5.out (Nat.lt_succ_self G) _, ownsRow_setCell_below (a := ⟨G, 6, none⟩) HS5.out (Nat.lt_succ_self G) _, HAP5.out, HJ05.out.far (p := ⟨G, 6, none⟩) (show w.heap.size ≠ G by omega) _, HJ15.out.far (p := ⟨G, 6, none⟩) (show w.heap.size + 1 ≠ G by omega) _, HBW5.out.setCell (p := ⟨G, 6, none⟩) hGw _⟩
          have := HK5.out.set_ 6 (.slice A5 (k1 + 1) c5)
          simpa using this
        case measure => simp [intOf]; omega
    · have hea : a = e2 := by omega
      have hQt : Q = true := by
        rw [← HFL.out, hea]
        have : seg l e2 e2 = [] := by simp [seg]
        rw [this]; rfl
      have hPP : P = RetRdY a0 e2 w := by rw [← HP.out, hQt]; rfl
      have HPP := Lib.hid hPP
      have hge : e2 ≤ a := by omega
      have hq0 := KA0.out.q
      have hf0 := KA0.out.fz
      have hl0 := KA0.out.lt
      have hq1 := KA1.out.q
      have hf1 := KA1.out.fz
      have hl1 := KA1.out.lt
      clear hlt hea hQt hPP
      go_wp2_with fail
      rw [HPP.out]
      refine bodyPost_ret (v := .tuple #[spotV a0 e2 ⟨hc, hnm, true, none, 0, 0, A1, k1, c1, A2, k2, c2⟩, errV (0, 0)]) (by simp only [results, Tryz.results160]; go_simp) rfl ?_
      have hb := HBR.out
      have hbs := HBR.out.size
      exact ⟨by ((repeat' (first | (with_reducible exact Below.refl _ _) | (with_reducible assumption) | (with_reducible refine Below.setCell ?_ ?_ _) | (with_reducible refine Below.alloc ?_ ?_ _) | (with_reducible refine Below.drew ?_) | (with_reducible refine below_drewN ?_ _) | (with_reducible refine Below.step (by with_reducible assumption) ?_ ?_))) <;> (first | omega | (simp; done) | (simp; omega))), _, rfl⟩
end Go.Proofs.YtlmnmgokfnnbbaaGreatDoor
end

/- tree.read at any depth; tree.whole, tree.Parse. -/
section
set_option linter.unusedSimpArgs false
set_option linter.unusedVariables false
namespace Go.Proofs.YtlmnmgokfnnbbaaGreatDoor
open Go.RowKit Go.Cr
theorem cont_seg (l : List UInt8) (a e1 : Int) (h : Hdr) (h0 : 0 ≤ a) (hs : 0 ≤ h.size) (hl : 0 ≤ h.len) (h1 : a + h.size + h.len ≤ e1) : cont (seg l a e1) h = seg l (a + h.size) (a + h.size + h.len) := by
  unfold cont seg
  rw [List.drop_take, List.take_take, List.drop_drop]
  congr 1
  · omega
  · congr 1; omega
theorem readT_err {d : Nat} {s : List UInt8} {er : Err} (h : nextH s = .error er) : readT (d + 1) s = none := by simp only [readT, h]
theorem readT_prim {d : Nat} {s : List UInt8} {h : Hdr} (e : nextH s = .ok h) (hc : h.con = false) : readT (d + 1) s = some (h.size + h.len).toNat := by simp only [readT, e, hc, if_true]
theorem readT_con {d : Nat} {s : List UInt8} {h : Hdr} (e : nextH s = .ok h) (hc : h.con = true) : readT (d + 1) s = if fills d (cont s h) then some (h.size + h.len).toNat else none := by
  have hl := cont_len e
  have hk := nextH_ok e
  have hlen : h.len.toNat = (cont s h).length := by omega
  simp only [readT, e, hc, Bool.true_eq_false, if_false]
  unfold fills
  rw [hlen]
  cases scanL (readT d) (cont s h).length (cont s h) <;> rfl

theorem read_any (d : Nat) : d ≤ 60 → ∀ (v : Value) (l : List UInt8) (a e1 : Int) (w : World), IsB w v l → 0 ≤ a → a ≤ e1 → e1 ≤ l.length → l.length ≤ 1000000 →
    Calls Tryz.prog 160 #[v, .int .i64 a, .int .i64 e1, .int .i64 d] w (RetRd (readT d (seg l a e1)) l.length a w) := by
  induction d with
  | zero =>
    intro _ v l a e1 w hw h0 h1 h2 hL
    exact read_zero v a e1 l.length w h0 (by omega)
  | succ d ih =>
    intro hd v l a e1 w hw h0 h1 h2 hL
    obtain ⟨v1, hcut, hv1⟩ := hw.cut3 (P := Tryz.prog) ulB szB .i64 .i64 .i64 h0 h1 h2
    have hv1 : IsB w v1 (seg l a e1) := hv1
    have hsl := seg_len l a e1 h0 h1 h2
    rw [show (((d + 1 : Nat)) : Int) = (d : Int) + 1 by omega]
    cases hr : rdHdr (seg l a e1) with
    | error er =>
      obtain ⟨ec, eo⟩ := er
      rw [readT_err (er := (ec, eo)) (by unfold nextH; rw [hr])]
      exact read_herr d v v1 l a e1 w ec eo hv1 h0 h1 h2 hL (by omega) hcut hr
    | ok h =>
      have hb := rdHdr_ok hr
      by_cases hs : e1 - a - h.size < h.len
      · have hn : nextH (seg l a e1) = .error (1, (seg l a e1).length) := by unfold nextH; rw [hr]; simp only; rw [hsl, if_pos hs]
        rw [readT_err hn]
        exact read_short d v v1 l a e1 w h hv1 h0 h1 h2 hL (by omega) hcut hr hs
      · have hn : nextH (seg l a e1) = .ok h := by unfold nextH; rw [hr]; simp only; rw [hsl, if_neg hs]
        have hcs := cont_seg l a e1 h h0 (by omega) (by omega) (by omega)
        obtain ⟨hc, hnm, hcn, hln, hsz⟩ := h
        simp only at hb hs hcs
        have hend : a + (((hsz + hln).toNat : Nat) : Int) = a + hsz + hln := by omega
        cases hcn with
        | false =>
          rw [readT_prim hn rfl]
          obtain ⟨v2, hcut2, hv2⟩ := hw.cut (P := Tryz.prog) ulB szB .i64 .i64 (lo := a + hsz) (hi := a + hsz + hln) (by omega) (by omega) (by omega)
          have := read_prim d v v1 v2 l a e1 w hc hnm hln hsz hv1 hv2 h0 h1 h2 hL (by omega) hcut hcut2 hr (by omega)
          exact this.mono fun e w' h => by simp only [RetRd, hend]; exact h
        | true =>
          rw [readT_con hn rfl, hcs]
          have := read_con d v v1 l a e1 w hc hnm hln hsz hv1 h0 h1 h2 hL (by omega) hw hcut hr (by omega) (fun a' W hW ha0 ha1 => ih (by omega) v l a' (a + hsz + hln) W hW ha0 ha1 (by omega) hL)
          refine this.mono fun e w' h => ?_
          split at h
          · rename_i hf
            rw [if_pos hf]
            simp only [RetRd, hend]
            exact h
          · rename_i hf
            rw [if_neg hf]
            exact h

def RetPY (w : World) (e : Ending) (w' : World) : Prop := Below w.heap.size w w' ∧ ∃ (c1 c2 : Int) (c3 : Bool) (a4 a5 : Option Addr) (n4 k4 n5 k5 : Nat), e = .returned (.tuple #[.agg #[.int .i64 c1, .int .i64 c2, .bool c3, .slice a4 n4 k4, .slice a5 n5 k5], errV (0, 0)])
def RetPN (L : Nat) (w : World) (e : Ending) (w' : World) : Prop := Below w.heap.size w w' ∧ ∃ (c o : Int), 0 < c ∧ 0 ≤ o ∧ o ≤ L ∧ e = .returned (.tuple #[.agg #[.int .i64 0, .int .i64 0, .bool false, .slice none 0 0, .slice none 0 0], errV (c, o)])

set_option maxRecDepth 100000 in
set_option maxHeartbeats 4000000 in
theorem whole_any (v : Value) (l : List UInt8) (w : World) (hw : IsB w v l) (hL : l.length ≤ 1000000) :
    Calls Tryz.prog 124 #[v] w (if treeOK 16 l then RetRdY 0 l.length w else RetRdN l.length w) := by
  have hlen := hw.len ulB
  have h := read_any 16 (by omega) v l 0 l.length w hw (by omega) (by omega) (by omega) hL
  rw [seg_all] at h
  have HB := Lib.hid hw
  cases hr : readT 16 l with
  | none =>
    rw [hr] at h
    rw [if_neg (by unfold treeOK; rw [hr]; simp)]
    have H : Hid (∀ W, IsB W v l → Calls Tryz.prog 160 #[v, .int .i64 0, .int .i64 l.length, .int .i64 16] W (RetRdN l.length W)) := by
      intro W hW
      have := read_any 16 (by omega) v l 0 l.length W hW (by omega) (by omega) (by omega) hL
      rw [seg_all, hr] at this
      exact this
    clear hr h hw
    go_enter Tryz.func124, Tryz.ntmps124
    go_wp2_with (first | ((go_at_call 160); (with_reducible refine (H.out _ ((HB.out.alloc _).alloc _)).mono ?_); rintro e w1 ⟨hbw1, ec, eo, hec, heo, heo2, rfl⟩; obtain ⟨hcw1, hfw1⟩ := bcell hbw1; have hzw1 := hbw1.size; (try simp at hzw1); have hyw1 : w.heap.size < w1.heap.size := (by omega); (try have hyaw1 : w.heap.size + 1 < w1.heap.size := (by omega)); (try have hybw1 : w.heap.size + 2 < w1.heap.size := (by omega)); (try have hycw1 : w.heap.size + 3 < w1.heap.size := (by omega)); (try have hydw1 : w.heap.size + 4 < w1.heap.size := (by omega)); clear hzw1; have K0 := Blk.call ((Blk.new w 152 #[.int .i64 0, .int .i64 0, .int .i64 0, .int .i64 0, .bool false, .slice none 0 0, .slice none 0 0, .slice none 0 0]).alloc (.cells #[.int .i64 0, .int .i64 0] 38)) hbw1; have lK0 := K0.lt; have qK0 := K0.q; have rK0 := K0.fz; have K0' := Lib.hid K0; clear K0; have K0 := K0'.out; clear K0'; have K1 := Blk.call (blk_in (t := 38) (cs := #[.int .i64 0, .int .i64 0]) (w := w.alloc (.cells #[.int .i64 0, .int .i64 0, .int .i64 0, .int .i64 0, .bool false, .slice none 0 0, .slice none 0 0, .slice none 0 0] 152)) (g := w.heap.size + 1) (by simp)) hbw1; have lK1 := K1.lt; have qK1 := K1.q; have rK1 := K1.fz; have K1' := Lib.hid K1; clear K1; have K1 := K1'.out; clear K1'; have hn : (ec == 0) = false := beq_eq_false_iff_ne.2 (by omega); have hn' : (ec != 0) = true := (by simp; omega)))
    go_region
    go_wp2
    refine bodyPost_ret (v := .tuple #[spotZ, errV (ec, eo)]) (by simp only [results, Tryz.results124]; go_simp) rfl ?_
    exact ⟨by ((repeat' (first | (with_reducible exact Below.refl _ _) | (with_reducible assumption) | (with_reducible refine Below.setCell ?_ ?_ _) | (with_reducible refine Below.alloc ?_ ?_ _) | (with_reducible refine Below.drew ?_) | (with_reducible refine below_drewN ?_ _) | (with_reducible refine Below.step (by with_reducible assumption) ?_ ?_))) <;> (first | omega | (simp; done) | (simp; omega))), ec, eo, hec, heo, heo2, rfl⟩
  | some n =>
    have hb := readT_bound hr
    have H : Hid (∀ W, IsB W v l → Calls Tryz.prog 160 #[v, .int .i64 0, .int .i64 l.length, .int .i64 16] W (RetRdY 0 n W)) := by
      intro W hW
      have := read_any 16 (by omega) v l 0 l.length W hW (by omega) (by omega) (by omega) hL
      rw [seg_all, hr] at this
      refine this.mono fun e w' h => ?_
      have h' : RetRdY 0 (0 + (n : Int)) W e w' := h
      rwa [Int.zero_add] at h'
    by_cases hn : n = l.length
    · rw [if_pos (by unfold treeOK; rw [hr, hn])]
      subst hn
      have hd : decide (l.length < l.length) = false := decide_eq_false (by omega)
      clear hr h hw
      go_enter Tryz.func124, Tryz.ntmps124
      go_wp2_with (first | ((go_at_call 160); (with_reducible refine (H.out _ ((HB.out.alloc _).alloc _)).mono ?_); rintro e w1 ⟨hbw1, ⟨x1, x2, x3, y4, m4, z4, y5, m5, z5, y6, m6, z6⟩, rfl⟩; obtain ⟨hcw1, hfw1⟩ := bcell hbw1; have hzw1 := hbw1.size; (try simp at hzw1); have hyw1 : w.heap.size < w1.heap.size := (by omega); (try have hyaw1 : w.heap.size + 1 < w1.heap.size := (by omega)); (try have hybw1 : w.heap.size + 2 < w1.heap.size := (by omega)); (try have hycw1 : w.heap.size + 3 < w1.heap.size := (by omega)); (try have hydw1 : w.heap.size + 4 < w1.heap.size := (by omega)); clear hzw1; have K0 := Blk.call ((Blk.new w 152 #[.int .i64 0, .int .i64 0, .int .i64 0, .int .i64 0, .bool false, .slice none 0 0, .slice none 0 0, .slice none 0 0]).alloc (.cells #[.int .i64 0, .int .i64 0] 38)) hbw1; have lK0 := K0.lt; have qK0 := K0.q; have rK0 := K0.fz; have K0' := Lib.hid K0; clear K0; have K0 := K0'.out; clear K0'; have K1 := Blk.call (blk_in (t := 38) (cs := #[.int .i64 0, .int .i64 0]) (w := w.alloc (.cells #[.int .i64 0, .int .i64 0, .int .i64 0, .int .i64 0, .bool false, .slice none 0 0, .slice none 0 0, .slice none 0 0] 152)) (g := w.heap.size + 1) (by simp)) hbw1; have lK1 := K1.lt; have qK1 := K1.q; have rK1 := K1.fz; have K1' := Lib.hid K1; clear K1; have K1 := K1'.out; clear K1'))
      go_region
      go_wp2
      refine bodyPost_ret (v := .tuple #[spotV 0 l.length ⟨x1, x2, x3, y4, m4, z4, y5, m5, z5, y6, m6, z6⟩, errV (0, 0)]) (by simp only [results, Tryz.results124]; go_simp) rfl ?_
      exact ⟨by ((repeat' (first | (with_reducible exact Below.refl _ _) | (with_reducible assumption) | (with_reducible refine Below.setCell ?_ ?_ _) | (with_reducible refine Below.alloc ?_ ?_ _) | (with_reducible refine Below.drew ?_) | (with_reducible refine below_drewN ?_ _) | (with_reducible refine Below.step (by with_reducible assumption) ?_ ?_))) <;> (first | omega | (simp; done) | (simp; omega))), _, rfl⟩
    · rw [if_neg (by unfold treeOK; rw [hr]; simp [hn])]
      have hlt : (n : Int) < l.length := by omega
      have hd : decide (n < l.length) = true := decide_eq_true (by omega)
      clear hr h hw
      go_enter Tryz.func124, Tryz.ntmps124
      go_wp2_with (first | ((go_at_call 160); (with_reducible refine (H.out _ ((HB.out.alloc _).alloc _)).mono ?_); rintro e w1 ⟨hbw1, ⟨x1, x2, x3, y4, m4, z4, y5, m5, z5, y6, m6, z6⟩, rfl⟩; obtain ⟨hcw1, hfw1⟩ := bcell hbw1; have hzw1 := hbw1.size; (try simp at hzw1); have hyw1 : w.heap.size < w1.heap.size := (by omega); (try have hyaw1 : w.heap.size + 1 < w1.heap.size := (by omega)); (try have hybw1 : w.heap.size + 2 < w1.heap.size := (by omega)); (try have hycw1 : w.heap.size + 3 < w1.heap.size := (by omega)); (try have hydw1 : w.heap.size + 4 < w1.heap.size := (by omega)); clear hzw1; have K0 := Blk.call ((Blk.new w 152 #[.int .i64 0, .int .i64 0, .int .i64 0, .int .i64 0, .bool false, .slice none 0 0, .slice none 0 0, .slice none 0 0]).alloc (.cells #[.int .i64 0, .int .i64 0] 38)) hbw1; have lK0 := K0.lt; have qK0 := K0.q; have rK0 := K0.fz; have K0' := Lib.hid K0; clear K0; have K0 := K0'.out; clear K0'; have K1 := Blk.call (blk_in (t := 38) (cs := #[.int .i64 0, .int .i64 0]) (w := w.alloc (.cells #[.int .i64 0, .int .i64 0, .int .i64 0, .int .i64 0, .bool false, .slice none 0 0, .slice none 0 0, .slice none 0 0] 152)) (g := w.heap.size + 1) (by simp)) hbw1; have lK1 := K1.lt; have qK1 := K1.q; have rK1 := K1.fz; have K1' := Lib.hid K1; clear K1; have K1 := K1'.out; clear K1'))
      go_region
      go_wp2
      refine bodyPost_ret (v := .tuple #[spotZ, errV (2, n)]) (by simp only [results, Tryz.results124]; go_simp) rfl ?_
      exact ⟨by ((repeat' (first | (with_reducible exact Below.refl _ _) | (with_reducible assumption) | (with_reducible refine Below.setCell ?_ ?_ _) | (with_reducible refine Below.alloc ?_ ?_ _) | (with_reducible refine Below.drew ?_) | (with_reducible refine below_drewN ?_ _) | (with_reducible refine Below.step (by with_reducible assumption) ?_ ?_))) <;> (first | omega | (simp; done) | (simp; omega))), 2, n, by omega, by omega, by omega, rfl⟩

set_option maxRecDepth 100000 in
set_option maxHeartbeats 4000000 in
theorem parse_yes (v : Value) (l : List UInt8) (w : World) (hw : IsB w v l) (hL : l.length ≤ 1000000) (ht : treeOK 16 l) : Calls Tryz.prog 92 #[v] w (RetPY w) := by
  have H : Hid (∀ W, IsB W v l → Calls Tryz.prog 124 #[v] W (RetRdY 0 l.length W)) := by
    intro W hW
    have := whole_any v l W hW hL
    rwa [if_pos ht] at this
  have HB := Lib.hid hw
  clear hw ht
  go_enter Tryz.func92, Tryz.ntmps92
  go_wp2_with (first | ((go_at_call 124); (with_reducible refine (H.out _ ((HB.out.alloc _).alloc _)).mono ?_); rintro e w1 ⟨hbw1, ⟨x1, x2, x3, y4, m4, z4, y5, m5, z5, y6, m6, z6⟩, rfl⟩; obtain ⟨hcw1, hfw1⟩ := bcell hbw1; have hzw1 := hbw1.size; (try simp at hzw1); have hyw1 : w.heap.size < w1.heap.size := (by omega); (try have hyaw1 : w.heap.size + 1 < w1.heap.size := (by omega)); (try have hybw1 : w.heap.size + 2 < w1.heap.size := (by omega)); (try have hycw1 : w.heap.size + 3 < w1.heap.size := (by omega)); (try have hydw1 : w.heap.size + 4 < w1.heap.size := (by omega)); clear hzw1; have K0 := Blk.call ((Blk.new w 85 #[.int .i64 0, .int .i64 0, .bool false, .slice none 0 0, .slice none 0 0]).alloc (.cells #[.int .i64 0, .int .i64 0] 38)) hbw1; have lK0 := K0.lt; have qK0 := K0.q; have rK0 := K0.fz; have K0' := Lib.hid K0; clear K0; have K0 := K0'.out; clear K0'; have K1 := Blk.call (blk_in (t := 38) (cs := #[.int .i64 0, .int .i64 0]) (w := w.alloc (.cells #[.int .i64 0, .int .i64 0, .bool false, .slice none 0 0, .slice none 0 0] 85)) (g := w.heap.size + 1) (by simp)) hbw1; have lK1 := K1.lt; have qK1 := K1.q; have rK1 := K1.fz; have K1' := Lib.hid K1; clear K1; have K1 := K1'.out; clear K1'))
  go_region
  go_wp2
  refine bodyPost_ret (v := .tuple #[.agg #[.int .i64 x1, .int .i64 x2, .bool x3, .slice y4 m4 z4, .slice y5 m5 z5], errV (0, 0)]) (by simp only [results, Tryz.results92]; go_simp) rfl ?_
  exact ⟨by ((repeat' (first | (with_reducible exact Below.refl _ _) | (with_reducible assumption) | (with_reducible refine Below.setCell ?_ ?_ _) | (with_reducible refine Below.alloc ?_ ?_ _) | (with_reducible refine Below.drew ?_) | (with_reducible refine below_drewN ?_ _) | (with_reducible refine Below.step (by with_reducible assumption) ?_ ?_))) <;> (first | omega | (simp; done) | (simp; omega))), x1, x2, x3, y4, y5, m4, z4, m5, z5, rfl⟩

set_option maxRecDepth 100000 in
set_option maxHeartbeats 4000000 in
theorem parse_no (v : Value) (l : List UInt8) (w : World) (hw : IsB w v l) (hL : l.length ≤ 1000000) (ht : ¬ treeOK 16 l) : Calls Tryz.prog 92 #[v] w (RetPN l.length w) := by
  have H : Hid (∀ W, IsB W v l → Calls Tryz.prog 124 #[v] W (RetRdN l.length W)) := by
    intro W hW
    have := whole_any v l W hW hL
    rwa [if_neg ht] at this
  have HB := Lib.hid hw
  clear hw ht
  go_enter Tryz.func92, Tryz.ntmps92
  go_wp2_with (first | ((go_at_call 124); (with_reducible refine (H.out _ ((HB.out.alloc _).alloc _)).mono ?_); rintro e w1 ⟨hbw1, ec, eo, hec, heo, heo2, rfl⟩; obtain ⟨hcw1, hfw1⟩ := bcell hbw1; have hzw1 := hbw1.size; (try simp at hzw1); have hyw1 : w.heap.size < w1.heap.size := (by omega); (try have hyaw1 : w.heap.size + 1 < w1.heap.size := (by omega)); (try have hybw1 : w.heap.size + 2 < w1.heap.size := (by omega)); (try have hycw1 : w.heap.size + 3 < w1.heap.size := (by omega)); (try have hydw1 : w.heap.size + 4 < w1.heap.size := (by omega)); clear hzw1; have K0 := Blk.call ((Blk.new w 85 #[.int .i64 0, .int .i64 0, .bool false, .slice none 0 0, .slice none 0 0]).alloc (.cells #[.int .i64 0, .int .i64 0] 38)) hbw1; have lK0 := K0.lt; have qK0 := K0.q; have rK0 := K0.fz; have K0' := Lib.hid K0; clear K0; have K0 := K0'.out; clear K0'; have K1 := Blk.call (blk_in (t := 38) (cs := #[.int .i64 0, .int .i64 0]) (w := w.alloc (.cells #[.int .i64 0, .int .i64 0, .bool false, .slice none 0 0, .slice none 0 0] 85)) (g := w.heap.size + 1) (by simp)) hbw1; have lK1 := K1.lt; have qK1 := K1.q; have rK1 := K1.fz; have K1' := Lib.hid K1; clear K1; have K1 := K1'.out; clear K1'))
  go_region
  go_wp2
  refine bodyPost_ret (v := .tuple #[.agg #[.int .i64 0, .int .i64 0, .bool false, .slice none 0 0, .slice none 0 0], errV (ec, eo)]) (by simp only [results, Tryz.results92]; go_simp) rfl ?_
  exact ⟨by ((repeat' (first | (with_reducible exact Below.refl _ _) | (with_reducible assumption) | (with_reducible refine Below.setCell ?_ ?_ _) | (with_reducible refine Below.alloc ?_ ?_ _) | (with_reducible refine Below.drew ?_) | (with_reducible refine below_drewN ?_ _) | (with_reducible refine Below.step (by with_reducible assumption) ?_ ?_))) <;> (first | omega | (simp; done) | (simp; omega))), ec, eo, hec, heo, heo2, rfl⟩
end Go.Proofs.YtlmnmgokfnnbbaaGreatDoor
end

/- Walks over the references' Put. -/
section
set_option linter.unusedSimpArgs false
set_option linter.unusedVariables false
namespace Go.Proofs.YtlmnmgokfnnbbaaGreatDoor
open Go.RowKit Go.Cr
set_option maxRecDepth 100000 in
set_option maxHeartbeats 2000000 in
theorem rPut (x : UInt8) (v : Value) (l : List UInt8) (w : World) (hv : IsB w v l) (hl : l.length ≤ 900000) :
    Calls Tryz.prog 94 #[.int .u8 (bi x), v] w (RetO 5 (x :: (lenOct l.length ++ l)) w) := by
  have hln := hv.len ulB
  have HV := Lib.hid hv
  have HL := Lib.hid (rLength l.length · (by omega) (by omega))
  obtain ⟨hm1, hm2⟩ := lenOct_len l.length
  rw [Int.toNat_natCast] at HL
  have hl' : (l.length : Int) ≤ 900000 := by omega
  clear hv
  generalize lenOct l.length = m at *
  go_enter Tryz.func94, Tryz.ntmps94
  go_wp2_with (first | (go_at_call 128; (with_reducible refine (HL.out _).mono ?_); rintro e w1 ⟨v1, rfl, ho, hb1⟩; have HO := Lib.hid ho; clear ho) | (at_builtin; refine wpList_appB _ rfl _ _ 33 rfl w.heap.size 5 ulB infoB _ [x] rfl (OwB.one _ _ _ hb1.size) _ m rfl (HO.out.isB.alloc _) ?k1 ?k2 ?_))
  case k1 => simp; omega
  case k2 => have := hb1.size; simp; omega
  intro v2 w2 ho2 _ hb2
  have HO2 := Lib.hid ho2
  have hb3 : Below w.heap.size w w2 := (hb1.alloc hb1.size _).trans hb2
  clear ho2 hb2
  go_wp2_with (at_builtin; refine wpList_appB _ rfl _ _ 33 rfl w.heap.size 5 ulB infoB _ _ rfl HO2.out _ l rfl (HV.out.below hb3) ?k1 ?k2 ?_)
  case k1 => simp; omega
  case k2 => exact hb3.size
  intro v3 w3 ho3 _ hb4
  have HO3 := Lib.hid ho3
  clear ho3
  go_wp2
  go_ret
  exact ⟨_, rfl, by simpa using HO3.out, hb3.trans hb4⟩

def PsRel (ls : List (List UInt8)) (w : World) (out ix : Value) (wr : World) : Prop :=
  ∃ k : Nat, ix = .int .i64 k ∧ k ≤ ls.length ∧ OwB wr w.heap.size 5 out (cat ls k) ∧ Below w.heap.size w wr

set_option maxRecDepth 100000 in
set_option maxHeartbeats 2000000 in
theorem rPuts (x : UInt8) (v : Value) (ls : List (List UInt8)) (w : World) (hv : IsBs w v ls) (hl : ls.flatten.length ≤ 900000) :
    Calls Tryz.prog 57 #[.int .u8 (bi x), v] w (RetO 5 (x :: (lenOct ls.flatten.length ++ ls.flatten)) w) := by
  have hln := hv.len ulBs
  have hmx := hv.maxl
  have HV := Lib.hid hv
  have HP := Lib.hid (fun W u (h : IsB W u ls.flatten) => rPut x u ls.flatten W h hl)
  have hcl : ∀ k, (cat ls k).length ≤ 900000 := fun k => by have := cat_le ls k; omega
  have HCL := Lib.hid hcl
  clear hv hcl
  generalize x :: (lenOct ls.flatten.length ++ ls.flatten) = R at *
  generalize hy : bi x = y at *
  clear hy
  go_enter Tryz.func57, Tryz.ntmps57
  go_wp2_with fail
  go_loopw [5, 6] (fun out ix wr => PsRel ls w out ix wr) (fun _ ix _ => ls.length - (intOf ix).toNat)
  case atStart => exact ⟨0, rfl, Nat.zero_le _, by rw [cat_zero]; exact OwB.nil_ _ _ _, Below.refl _ _⟩
  case round =>
    obtain ⟨k, rfl, hk, hO, hbel⟩ := hrel
    have HO := Lib.hid hO
    have HBR := Lib.hid hbel
    clear hO
    by_cases hlt : k < ls.length
    · obtain ⟨b, o, u, hi, hbl, hc, hu⟩ := HV.out.at_ (P := Tryz.prog) ulBs szBs .i64 (i := k) (by omega) (by omega)
      simp only [Int.toNat_natCast] at hu
      have hc' := (hbel.cell (p := ⟨b, o, none⟩) hbl).trans hc
      have hltI : (k : Int) < ls.length := by omega
      have HU := Lib.hid (hu.below hbel)
      have HS := Lib.hid (cat_succ ls k hlt)
      have hc1 := HCL.out k
      have hc2 := HCL.out (k + 1)
      rw [HS.out, List.length_append] at hc2
      clear hc hu hbel
      generalize ls.getD k [] = p at *
      go_wp2_with (at_builtin; refine wpList_appB _ rfl _ _ 33 rfl w.heap.size 5 ulB infoB _ _ rfl HO.out _ p rfl HU.out ?k1 ?k2 ?_)
      case k1 => omega
      case k2 => exact HBR.out.size
      intro v2 w2 ho2 _ hb2
      rw [← HS.out] at ho2
      have HO2 := Lib.hid ho2
      have hbel2 : Below w.heap.size w w2 := HBR.out.trans hb2
      clear ho2 hb2
      go_wp2
      go_roundw
      case rel => exact ⟨k + 1, by go_num, by omega, HO2.out, hbel2⟩
      case measure => simp [intOf]; omega
    · have hge : (ls.length : Int) ≤ k := by omega
      have ho' : IsB wr u5 ls.flatten := by
        have := HO.out.isB
        rwa [show k = ls.length by omega, cat_all] at this
      have HO5 := Lib.hid ho'
      clear hlt ho' hbel
      go_wp2_with (first | (go_at_call 94; (with_reducible refine (HP.out _ _ HO5.out).mono ?_); rintro e w2 ⟨v2, rfl, ho2, hb2⟩; have HO2 := Lib.hid ho2; clear ho2))
      go_ret
      exact ⟨_, rfl, HO2.out.more HBR.out.size, HBR.out.trans (hb2.mono HBR.out.size)⟩
end Go.Proofs.YtlmnmgokfnnbbaaGreatDoor
end
