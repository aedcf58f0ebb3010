/- Walk over slices.Reverse at bytes, on a row of the call's own. -/
import Derived.Test.YtecbphbnacbepaaRefA
set_option linter.unusedSimpArgs false
set_option linter.unusedVariables false
namespace Go.Proofs.Ytecbphbnacbepaa
open Go.RowKit Go.Cr

/-- k exchanges from both ends. -/
def swp (l : List UInt8) (k : Nat) : List UInt8 := (List.range l.length).map fun i => if i < k ∨ l.length - k ≤ i then l.getD (l.length - 1 - i) 0 else l.getD i 0
theorem swp_len (l : List UInt8) (k : Nat) : (swp l k).length = l.length := by simp [swp]
theorem swp_bat (l : List UInt8) (k i : Nat) (h : i < l.length) : bat (swp l k) i = if i < k ∨ l.length - k ≤ i then bat l (l.length - 1 - i) else bat l i := by
  unfold bat swp
  rw [List.getD_eq_getElem?_getD, List.getElem?_map, List.getElem?_range h]
  simp only [Option.map_some, Option.getD_some]
  split <;> rfl
theorem bat_ext {a b : List UInt8} (hl : a.length = b.length) (h : ∀ i, i < a.length → bat a i = bat b i) : a = b := by
  apply List.ext_getElem hl
  intro i h1 h2
  have := h i h1
  rw [bat_eq a i h1, bat_eq b i h2] at this
  exact bi_inj this
theorem swp_zero (l : List UInt8) : swp l 0 = l := bat_ext (swp_len l 0) fun i hi => by
  rw [swp_len] at hi
  rw [swp_bat l 0 i hi, if_neg (by omega)]
theorem bat_rev (l : List UInt8) (i : Nat) (h : i < l.length) : bat l.reverse i = bat l (l.length - 1 - i) := by
  rw [bat_eq _ i (by simpa using h), bat_eq _ (l.length - 1 - i) (by omega), List.getElem_reverse]
theorem swp_half (l : List UInt8) (k : Nat) (h : l.length ≤ 2 * k + 1) : swp l k = l.reverse := bat_ext (by simp [swp_len]) fun i hi => by
  rw [swp_len] at hi
  rw [swp_bat l k i hi, bat_rev l i hi]
  split
  · rfl
  · rw [show l.length - 1 - i = i by omega]
theorem swp_succ (l : List UInt8) (k : Nat) (h : 2 * k + 1 < l.length) : bCells (swp l (k + 1)) = ((bCells (swp l k)).set k (.int .u8 (bat (swp l k) (l.length - 1 - k)))).set (l.length - 1 - k) (.int .u8 (bat (swp l k) k)) := by
  apply List.ext_getElem?
  intro i
  rcases Nat.lt_or_ge i l.length with hi | hi
  · rw [bCells_at _ i (by rw [swp_len]; exact hi), List.getElem?_set, List.getElem?_set]
    simp only [List.length_set, bCells_len, swp_len]
    rw [bCells_at _ i (by rw [swp_len]; exact hi), swp_bat l (k + 1) i hi, swp_bat l k i hi, swp_bat l k k (by omega), swp_bat l k (l.length - 1 - k) (by omega)]
    by_cases h1 : l.length - 1 - k = i
    · subst h1
      rw [if_pos rfl, if_pos (by omega), if_pos (by omega), if_neg (by omega), show l.length - 1 - (l.length - 1 - k) = k by omega]
    · rw [if_neg h1]
      by_cases h2 : k = i
      · subst h2
        rw [if_pos rfl, if_pos (by omega), if_pos (by omega), if_neg (by omega)]
      · rw [if_neg h2]
        by_cases h3 : i < k ∨ l.length - k ≤ i
        · rw [if_pos (by omega), if_pos h3]
        · rw [if_neg (by omega), if_neg h3]
  · rw [List.getElem?_eq_none (by rw [bCells_len, swp_len]; exact hi), List.getElem?_eq_none (by simp [bCells_len, swp_len]; exact hi)]

def RvRel (l : List UInt8) (base t g cap : Nat) (w : World) (i j : Value) (wr : World) : Prop :=
  ∃ k : Nat, 2 * k ≤ l.length + 1 ∧ i = .int .i64 k ∧ j = .int .i64 ((l.length : Int) - 1 - k) ∧ OwB wr base t (.slice (some ⟨g, 0, none⟩) l.length cap) (swp l k) ∧ w.grownBy wr (some g)

set_option maxRecDepth 100000 in
set_option maxHeartbeats 2000000 in
theorem reverse_own (g cap base : Nat) (l : List UInt8) (w : World) (ho : OwB w base 5 (.slice (some ⟨g, 0, none⟩) l.length cap) l) (hl : l.length ≤ 1000000) :
    Calls Try.prog 81 #[.slice (some ⟨g, 0, none⟩) l.length cap] w fun e w' => e = .returned (.tuple #[]) ∧ OwB w' base 5 (.slice (some ⟨g, 0, none⟩) l.length cap) l.reverse ∧ w.grownBy w' (some g) := by
  have hl' : (l.length : Int) ≤ 1000000 := by omega
  go_enter Try.func81, Try.ntmps81
  go_wp2
  go_loopw [2, 3] (fun i j wr => RvRel l base 5 g cap w i j wr) (fun i _ _ => l.length - (intOf i).toNat)
  case atStart => exact ⟨0, by omega, rfl, by simp, by rw [swp_zero]; exact ho, World.grownBy.refl _ _⟩
  case round =>
    obtain ⟨k, hk, rfl, rfl, how, hgr⟩ := hrel
    have HO := Lib.hid how
    by_cases hlt : (k : Int) < (l.length : Int) - 1 - k
    · obtain ⟨m, hm⟩ : ∃ m : Nat, (l.length : Int) - 1 - k = m := ⟨l.length - 1 - k, by omega⟩
      rw [hm]
      have hm1 : l.length - 1 - k = m := by omega
      have hc1 : wr.cell? ⟨g, k, none⟩ = some (.int .u8 (bat (swp l k) k)) := by
        have := World.ownsRow.cellAt (h := (show wr.ownsRow base 5 1 (.slice (some ⟨g, 0, none⟩) (swp l k).length cap) (swp l k).length (bCells (swp l k)) by have := HO.out; unfold OwB at this; rw [swp_len] at this ⊢; exact this)) k (by rw [swp_len]; omega)
        rw [this, bCells_at _ k (by rw [swp_len]; omega)]
      have hc2 : wr.cell? ⟨g, m, none⟩ = some (.int .u8 (bat (swp l k) m)) := by
        have := World.ownsRow.cellAt (h := (show wr.ownsRow base 5 1 (.slice (some ⟨g, 0, none⟩) (swp l k).length cap) (swp l k).length (bCells (swp l k)) by have := HO.out; unfold OwB at this; rw [swp_len] at this ⊢; exact this)) m (by rw [swp_len]; omega)
        rw [this, bCells_at _ m (by rw [swp_len]; omega)]
      have hf1 : ∀ j, wr.frozen? ⟨g, j, none⟩ = false := fun j => World.ownsRow.frozenAt (h := (show wr.ownsRow base 5 1 (.slice (some ⟨g, 0, none⟩) (swp l k).length cap) (swp l k).length (bCells (swp l k)) by have := HO.out; unfold OwB at this; rw [swp_len] at this ⊢; exact this)) j
      have hlt' : k < m := by omega
      have hml : m < l.length := by omega
      clear hm how
      go_wp2
      go_region
      all_goals go_wp2
      go_roundw
      case rel =>
        refine ⟨k + 1, by omega, by go_num, by simp; omega, ?_, ?_⟩
        · have h0 : wr.ownsRow base 5 1 (.slice (some ⟨g, 0, none⟩) l.length cap) l.length (bCells (swp l k)) := by have := HO.out; unfold OwB at this; rw [swp_len] at this; exact this
          have h1 := (World.ownsRow.stored h0 k (.int .u8 (bat (swp l k) m))).1
          have h2 := (World.ownsRow.stored h1 m (.int .u8 (bat (swp l k) k))).1
          have hs := swp_succ l k (by omega)
          rw [hm1] at hs
          rw [← hs] at h2
          show World.ownsRow _ base _ 1 _ (swp l (k + 1)).length _
          rw [swp_len]
          exact h2
        · exact ⟨hgr.os, hgr.tape, hgr.output, by simpa [World.setCell] using hgr.size, fun j hj hne => by
            have hne' : j ≠ g := fun e => hne (by rw [e])
            exact (Below.heap_setCell _ _ _ _ hne').trans ((Below.heap_setCell _ _ _ _ hne').trans (hgr.block j hj hne))⟩
      case measure => simp [intOf]; omega
    · have hfin : swp l k = l.reverse := swp_half l k (by omega)
      rw [hfin] at HO
      go_wp2
      go_end0
      exact ⟨rfl, HO.out, hgr⟩

theorem reverse_any (v : Value) (base : Nat) (l : List UInt8) (w : World) (ho : OwB w base 5 v l) (hl : l.length ≤ 1000000) (h0 : 0 < l.length) (hb : base ≤ w.heap.size) :
    Calls Try.prog 81 #[v] w fun e w' => e = .returned (.tuple #[]) ∧ OwB w' base 5 v l.reverse ∧ Below base w w' := by
  have hlt := ho.lt
  have ho' := ho
  rcases ho.2 with ⟨rfl, hz⟩ | ⟨g, cap, cur, rfl, hg, _⟩
  · omega
  · refine (reverse_own g cap base l w ho' hl).mono ?_
    rintro e w' ⟨rfl, h1, h2⟩
    exact ⟨rfl, h1, ⟨h2.os, h2.tape, h2.output, h2.size, fun k hk => h2.block k (by omega) (fun e => by injection e with e; omega)⟩⟩

/-- Little-endian digits, one after the other. -/
def MnP (R : List UInt8) (m : Nat) (l : List UInt8) : Prop := l.length ≤ 8 ∧ 0 < l.length ∧ (m = 0 → R = l.reverse) ∧ (m ≠ 0 → ∃ f, f + l.length = 7 ∧ m < 256 ^ (f + 1) ∧ R = minF f m ++ l.reverse)
theorem MnP.start (n : Nat) (h : n < 256 ^ 8) : MnP (minF 7 n) (n / 256) [UInt8.ofNat n] := by
  refine ⟨by simp, by simp, fun h0 => ?_, fun h0 => ⟨6, rfl, ?_, ?_⟩⟩
  · simp only [minF]; rw [if_pos (by omega)]; rfl
  · rw [Nat.pow_succ] at h; omega
  · rw [minF, if_neg (by omega)]
    congr 2
    apply bi_inj; rw [bi_ofNat, bi_ofNat]; omega
theorem MnP.step {R : List UInt8} {m : Nat} {l : List UInt8} (h : MnP R m l) (hm : m ≠ 0) : MnP R (m / 256) (l ++ [UInt8.ofNat m]) := by
  obtain ⟨h1, h2, _, h4⟩ := h
  obtain ⟨f, hf, hlt, he⟩ := h4 hm
  refine ⟨by simp; omega, by simp, fun h0 => ?_, fun h0 => ?_⟩
  · rw [he, List.reverse_append]
    have : minF f m = [UInt8.ofNat m] := by
      cases f with
      | zero => rfl
      | succ f => rw [minF, if_pos (by omega)]
    rw [this]; rfl
  · cases f with
    | zero => simp at hlt; omega
    | succ f =>
      refine ⟨f, by simp; omega, by rw [Nat.pow_succ] at hlt; omega, ?_⟩
      rw [he, minF, if_neg (by omega), List.reverse_append, List.append_assoc]
      congr 2
      simp only [List.reverse_cons, List.reverse_nil, List.nil_append, List.cons_append]
      congr 1
      apply bi_inj; rw [bi_ofNat, bi_ofNat]; omega

def MnRel (R : List UInt8) (w : World) (nn out : Value) (wr : World) : Prop :=
  ∃ (m : Nat) (l : List UInt8), nn = .int .u64 m ∧ (m : Int) < 18446744073709551616 ∧ OwB wr w.heap.size 5 out l ∧ Below w.heap.size w wr ∧ MnP R m l

set_option maxRecDepth 100000 in
set_option maxHeartbeats 2000000 in
theorem pMinimal (n : Nat) (w : World) (hn : n < 256 ^ 8) : Calls Try.prog 64 #[.int .u64 n] w (RetO 5 (minF 7 n) w) := by
  have hn' : (n : Int) < 18446744073709551616 := by
    have : (256 : Nat) ^ 8 = 18446744073709551616 := by decide
    omega
  have HZ : Hid (bi (UInt8.ofNat n) = (n : Int) % 256) := by show bi _ = _; rw [bi_ofNat]; omega
  have hs := MnP.start n hn
  obtain ⟨R, hR⟩ : ∃ R, minF 7 n = R := ⟨_, rfl⟩
  rw [hR] at hs ⊢
  have HS := Lib.hid hs
  clear hs hR hn
  have HN := Lib.hid hn'
  clear hn'
  generalize UInt8.ofNat n = z0 at *
  go_enter Try.func64, Try.ntmps64
  go_wp2
  go_loopw [0, 3] (fun nn out wr => MnRel R w nn out wr) (fun nn _ _ => (intOf nn).toNat)
  case atStart =>
    refine ⟨n / 256, [z0], by go_num, by have := HN.out; omega, ?_, by ((repeat' (first | (with_reducible exact Below.refl _ _) | (with_reducible assumption) | (with_reducible refine Below.setCell ?_ ?_ _) | (with_reducible refine Below.alloc ?_ ?_ _) | (with_reducible refine Below.drew ?_) | (with_reducible refine below_drewN ?_ _) | (with_reducible refine Below.step (by with_reducible assumption) ?_ ?_))) <;> (first | omega | (simp; done) | (simp; omega))), HS.out⟩
    have := OwB.one w 5 z0 (Nat.le_refl _)
    rwa [HZ.out] at this
  case round =>
    obtain ⟨m, l, rfl, hm, ho, hbel, hp⟩ := hrel
    have HO := Lib.hid ho
    have HP := Lib.hid hp
    have HM := Lib.hid hm
    clear ho hp hm
    by_cases hm0 : 0 < m
    · have HZ1 : Hid (bi (UInt8.ofNat m) = (m : Int) % 256) := by show bi _ = _; rw [bi_ofNat]; omega
      have HP1 := Lib.hid (HP.out.step (by omega))
      generalize UInt8.ofNat m = z at *
      go_wp2_with (at_builtin; refine wpList_appB _ rfl _ _ 30 rfl w.heap.size 5 ulB infoB _ _ rfl (HO.out.alloc _) _ _ rfl (isB_new _ _ _ _ HZ1.out) ?k1 ?k2 ?_)
      case k1 => have := HP.out.1; simp; omega
      case k2 => have := hbel.size; simp; omega
      intro v2 w2 ho2 _ hb2
      have HO2 := Lib.hid ho2
      have hbel2 : Below w.heap.size w w2 := (hbel.alloc hbel.size _).trans hb2
      clear ho2 hb2
      go_wp2
      go_roundw
      case rel => exact ⟨m / 256, _, by go_num, by have := HM.out; omega, HO2.out, hbel2, HP1.out⟩
      case measure => simp [intOf]; omega
    · have hl1 := HP.out.1
      have hl2 := HP.out.2.1
      have HF := Lib.hid (HP.out.2.2.1 (by omega))
      have HR := Lib.hid (fun W (h : OwB W w.heap.size 5 u3 l) (hb : w.heap.size ≤ W.heap.size) => reverse_any u3 w.heap.size l W h (by omega) hl2 hb)
      have hbs := hbel.size
      go_wp2_with (go_at_call 81; (with_reducible refine (HR.out _ HO.out hbs).mono ?_); rintro e w2 ⟨rfl, ho2, hb2⟩; have HO2 := Lib.hid ho2; clear ho2)
      go_ret
      rw [HF.out]
      exact ⟨_, rfl, HO2.out, hbel.trans hb2⟩
end Go.Proofs.Ytecbphbnacbepaa
