/- The parts AttrW, AttrR, AttrS, AttrT of one proof, one behind the other. -/
import Derived.Test.YtejmkefdcjachaaGreatDoorJ30
import Derived.Test.YtejmkefdcjachaaGreatDoorJ33
import Derived.Test.YtejmkefdcjachaaGreatDoorJ13
import Derived.Test.YtejmkefdcjachaaGreatDoorJ23
import Derived.Test.YtejmkefdcjachaaGreatDoorJ18
import Derived.Test.YtejmkefdcjachaaGreatDoorJ17
import Derived.Deep.RegionHeld3

/- Walks over attribute.Valid and Marshal, and the reference's. -/
section
set_option linter.unusedSimpArgs false
set_option linter.unusedVariables false
namespace Go.Proofs.YtejmkefdcjachaaGreatDoor
open Go.RowKit Go.Cr

theorem marA_isSome (s v : List UInt8) : (marA s v).isSome = ((arcsL s).isSome && decide (treeOK 16 v)) := by
  unfold marA oidE
  cases arcsL s with
  | none => rfl
  | some ns => simp only [Option.map_some]; by_cases h : treeOK 16 v <;> simp [h]

set_option maxRecDepth 100000 in
set_option maxHeartbeats 4000000 in
theorem attValid (s : ByteArray) (v : Value) (l : List UInt8) (w : World) (hG : Glo w) (hv : IsB w v l) (hs : s.size ≤ 1000000) (hl : l.length ≤ 1000000) :
    Calls Tryz.prog 27 #[.agg #[.string s, v]] w (RetB (.bool (marA s.data.toList l).isSome) w) := by
  rw [marA_isSome]
  obtain ⟨A, k, rfl⟩ := isB_slice hv
  have HG := Lib.hid hG
  have HV := Lib.hid hv
  have HO : Hid (∀ W, Glo W → Calls Tryz.prog 50 #[.string s] W (RetB (.bool (arcsL s.data.toList).isSome) W)) := fun W h => oidValid s W h hs
  by_cases ht : treeOK 16 l
  · have H := Lib.hid (fun W u (h : IsB W u l) => parse_yes u l W h hl ht)
    rw [decide_eq_true ht, Bool.and_true]
    clear hG hv hs ht
    generalize (arcsL s.data.toList).isSome = B at *
    cases B
    all_goals
      go_enter Tryz.func27, Tryz.ntmps27
      go_wp2_with (first | ((go_at_call 49); (with_reducible refine (H.out _ _ (HV.out.alloc _)).mono ?_); rintro e w1 ⟨hbw1, x1, x2, x3, y4, y5, m4, z4, m5, z5, rfl⟩; obtain ⟨hcw1, hfw1⟩ := bcell hbw1; have hzw1 := hbw1.size; (try simp at hzw1); have hyw1 : w.heap.size < w1.heap.size := (by omega); (try have hyaw1 : w.heap.size + 1 < w1.heap.size := (by omega)); (try have hybw1 : w.heap.size + 2 < w1.heap.size := (by omega)); (try have hycw1 : w.heap.size + 3 < w1.heap.size := (by omega)); (try have hydw1 : w.heap.size + 4 < w1.heap.size := (by omega)); clear hzw1; have K0 := Blk.call (Blk.new w 37 #[.string s, .slice A l.length k]) hbw1; have lK0 := K0.lt; have qK0 := K0.q; have rK0 := K0.fz; have K0' := Lib.hid K0; clear K0; have K0 := K0'.out; clear K0') | ((go_at_call 50); (with_reducible refine (HO.out _ ((((HG.out.alloc _).below hbw1).alloc _).alloc _)).mono ?_); rintro e w2 ⟨rfl, hbw2⟩; obtain ⟨hcw2, hfw2⟩ := bcell hbw2; have hs2 := hbw2.size; simp at hs2))
      go_ret
      exact ⟨rfl, by ((repeat' (first | (with_reducible exact Below.refl _ _) | (with_reducible assumption) | (with_reducible refine Below.setCell ?_ ?_ _) | (with_reducible refine Below.alloc ?_ ?_ _) | (with_reducible refine Below.drew ?_) | (with_reducible refine below_drewN ?_ _) | (with_reducible refine Below.step (by with_reducible assumption) ?_ ?_))) <;> (first | omega | (simp; done) | (simp; omega)))⟩
  · have H := Lib.hid (fun W u (h : IsB W u l) => parse_no u l W h hl ht)
    rw [decide_eq_false ht, Bool.and_false]
    clear hG hv hs ht
    generalize (arcsL s.data.toList).isSome = B at *
    cases B
    all_goals
      go_enter Tryz.func27, Tryz.ntmps27
      go_wp2_with (first | ((go_at_call 49); (with_reducible refine (H.out _ _ (HV.out.alloc _)).mono ?_); rintro e w1 ⟨hbw1, ec, eo, hec, heo, heo2, rfl⟩; obtain ⟨hcw1, hfw1⟩ := bcell hbw1; have hzw1 := hbw1.size; (try simp at hzw1); have hyw1 : w.heap.size < w1.heap.size := (by omega); (try have hyaw1 : w.heap.size + 1 < w1.heap.size := (by omega)); (try have hybw1 : w.heap.size + 2 < w1.heap.size := (by omega)); (try have hycw1 : w.heap.size + 3 < w1.heap.size := (by omega)); (try have hydw1 : w.heap.size + 4 < w1.heap.size := (by omega)); clear hzw1; have K0 := Blk.call (Blk.new w 37 #[.string s, .slice A l.length k]) hbw1; have lK0 := K0.lt; have qK0 := K0.q; have rK0 := K0.fz; have K0' := Lib.hid K0; clear K0; have K0 := K0'.out; clear K0'; have hn : (ec == 0) = false := beq_eq_false_iff_ne.2 (by omega)) | ((go_at_call 50); (with_reducible refine (HO.out _ ((((HG.out.alloc _).below hbw1).alloc _).alloc _)).mono ?_); rintro e w2 ⟨rfl, hbw2⟩; obtain ⟨hcw2, hfw2⟩ := bcell hbw2; have hs2 := hbw2.size; simp at hs2))
      go_ret
      exact ⟨rfl, by ((repeat' (first | (with_reducible exact Below.refl _ _) | (with_reducible assumption) | (with_reducible refine Below.setCell ?_ ?_ _) | (with_reducible refine Below.alloc ?_ ?_ _) | (with_reducible refine Below.drew ?_) | (with_reducible refine below_drewN ?_ _) | (with_reducible refine Below.step (by with_reducible assumption) ?_ ?_))) <;> (first | omega | (simp; done) | (simp; omega)))⟩

theorem oidE_len {l c : List UInt8} (h : oidE l = some c) : c.length ≤ 5 * (l.length + 1) := by
  unfold oidE at h
  cases ha : arcsL l with
  | none => rw [ha] at h; cases h
  | some ns =>
    rw [ha] at h
    injection h with h
    subst h
    have h1 := arcsL_len ha
    have h2 := flat_take_len (subsL ns) (subsL ns).length
    rw [List.take_length] at h2
    have h3 : (subsL ns).length ≤ ns.length := by unfold subsL; split <;> simp
    unfold encL
    omega

theorem isBs_one {w : World} {t : TypeId} {g : Nat} {a : Value} {la : List UInt8} (hg : g = w.heap.size) (ha : IsB w a la) : IsBs (w.alloc (.cells #[a] t)) (.slice (some ⟨g, 0, none⟩) 1 1) [la] := by
  subst hg
  refine ⟨[a], ⟨some ⟨w.heap.size, 0, none⟩, 1, rfl, Nat.le_refl _, by decide, rfl, fun _ => ⟨w.heap.size, 0, rfl, by simp, fun j x hj => ?_⟩⟩, fun j hj => ?_⟩
  · rw [Nat.zero_add, World.cell?_alloc_new]
    simpa using hj
  · match j, hj with
    | 0, _ => exact ha.alloc _
theorem isBs_two {w : World} {t : TypeId} {g : Nat} {a b : Value} {la lb : List UInt8} (hg : g = w.heap.size) (ha : IsB w a la) (hb : IsB w b lb) : IsBs (w.alloc (.cells #[a, b] t)) (.slice (some ⟨g, 0, none⟩) 2 2) [la, lb] := by
  subst hg
  refine ⟨[a, b], ⟨some ⟨w.heap.size, 0, none⟩, 2, rfl, Nat.le_refl _, by decide, rfl, fun _ => ⟨w.heap.size, 0, rfl, by simp, fun j x hj => ?_⟩⟩, fun j hj => ?_⟩
  · rw [Nat.zero_add, World.cell?_alloc_new]
    simpa using hj
  · match j, hj with
    | 0, _ => exact ha.alloc _
    | 1, _ => exact hb.alloc _

theorem isB_own {w : World} {base : Nat} {t : TypeId} {v : Value} {l : List UInt8} (h : OwB w base t v l) : IsB w v l := h.isB
set_option maxRecDepth 100000 in
set_option maxHeartbeats 4000000 in
theorem attMarshal (s : ByteArray) (v : Value) (l : List UInt8) (w : World) (hG : Glo w) (hv : IsB w v l) (hs : s.size ≤ 100000) (hl : l.length ≤ 100000) :
    Calls Tryz.prog 25 #[.agg #[.string s, v]] w (RetOid (marA s.data.toList l) w) := by
  have HW := Lib.hid (fun W u (hg : Glo W) (h : IsB W u l) => attValid s u l W hg h (by omega) (by omega))
  obtain ⟨A, k, rfl⟩ := isB_slice hv
  have HG := Lib.hid hG
  have HV := Lib.hid hv
  cases hm : marA s.data.toList l with
  | none =>
    rw [hm] at HW
    clear hG hv hs hl hm
    go_enter Tryz.func25, Tryz.ntmps25
    go_wp2_with (first | ((go_at_call 27); (with_reducible refine (HW.out _ _ (HG.out.alloc _) (HV.out.alloc _)).mono ?_); rintro e w1 ⟨rfl, hbw1⟩))
    go_ret2
    exact ⟨by ((repeat' (first | (with_reducible exact Below.refl _ _) | (with_reducible assumption) | (with_reducible refine Below.setCell ?_ ?_ _) | (with_reducible refine Below.alloc ?_ ?_ _) | (with_reducible refine Below.drew ?_) | (with_reducible refine below_drewN ?_ _) | (with_reducible refine Below.step (by with_reducible assumption) ?_ ?_))) <;> (first | omega | (simp; done) | (simp; omega))), .inl ⟨rfl, rfl⟩⟩
  | some b =>
    obtain ⟨c, hc, ht, hb⟩ := marA_some hm
    have hcl := oidE_len hc
    have hsl : s.data.toList.length = s.size := rfl
    have HO : Hid (∀ W, Glo W → Calls Tryz.prog 45 #[.string s] W (RetOidY c W)) := fun W h => (enc_any s W h (by omega)).mono fun e w' hh => by rw [hc] at hh; exact hh.yes
    have HW1 : Hid (∀ W u, IsBs W u [c] → Calls Tryz.prog 39 #[.int .i64 0, .bool false, .int .i64 6, u] W (RetOK 5 (encO 0 false 6 c) W)) := fun W u h => by
      have := pWrap 0 6 false u [c] W h (by simp; omega)
      unfold RetW at this
      simpa using this
    have hL := encO_len 0 6 false c
    have hlo := lenOct_len c.length
    have HS1 : Hid (∀ W u, IsBs W u [encO 0 false 6 c, l] → Calls Tryz.prog 46 #[u] W (RetOK 5 b W)) := fun W u h => by
      have := pSeq u [encO 0 false 6 c, l] W h (by simp; omega)
      unfold RetW at this
      simpa [hb] using this
    rw [hm] at HW
    clear hG hv hs hl hm hb hc ht hcl hL hlo
    generalize encO 0 false 6 c = E6 at *
    go_enter Tryz.func25, Tryz.ntmps25
    go_wp2_with (first | ((go_at_call 27); (with_reducible refine (HW.out _ _ (HG.out.alloc _) (HV.out.alloc _)).mono ?_); rintro e w1 ⟨rfl, hbw1⟩; obtain ⟨hcw1, hfw1⟩ := bcell hbw1; have hzw1 := hbw1.size; (try simp at hzw1); have hyw1 : w.heap.size < w1.heap.size := (by omega); (try have hyaw1 : w.heap.size + 1 < w1.heap.size := (by omega)); (try have hybw1 : w.heap.size + 2 < w1.heap.size := (by omega)); (try have hycw1 : w.heap.size + 3 < w1.heap.size := (by omega)); (try have hydw1 : w.heap.size + 4 < w1.heap.size := (by omega)); clear hzw1; have K0 := Blk.call (Blk.new w 37 #[.string s, .slice A l.length k]) hbw1; have lK0 := K0.lt; have qK0 := K0.q; have rK0 := K0.fz; have K0' := Lib.hid K0; clear K0; have K0 := K0'.out; clear K0'; have HG1 := Lib.hid ((HG.out.alloc _).below hbw1); have HV1 := Lib.hid ((HV.out.alloc _).below hbw1)) | ((go_at_call 45); (with_reducible refine (HO.out _ HG1.out).mono ?_); rintro e w2 ⟨v2, rfl, ho2, hbw2⟩; obtain ⟨A2, k2, rfl⟩ := isB_slice ho2.isB; have K1 := Blk.call (K0) hbw2; have lK1 := K1.lt; have qK1 := K1.q; have rK1 := K1.fz; have K1' := Lib.hid K1; clear K1; have K1 := K1'.out; clear K1'; have HO2 := Lib.hid ho2; have HV2 := Lib.hid (HV1.out.below hbw2); clear ho2) | ((go_at_call 39); (with_reducible refine (HW1.out _ _ (isBs_one (by simp) HO2.out.isB)).mono ?_); rintro e w3 ⟨v3, rfl, ho3, hbw3⟩; obtain ⟨A3, k3, rfl⟩ := isB_slice ho3.isB; have K2 := Blk.call (K1.alloc _) hbw3; have lK2 := K2.lt; have qK2 := K2.q; have rK2 := K2.fz; have K2' := Lib.hid K2; clear K2; have K2 := K2'.out; clear K2'; have HO3 := Lib.hid ho3; have HV3 := Lib.hid ((HV2.out.alloc _).below hbw3); clear ho3) | ((go_at_call 46); (with_reducible refine (HS1.out _ _ (isBs_two (by simp) HO3.out.isB HV3.out)).mono ?_); rintro e w4 ⟨v4, rfl, ho4, hbw4⟩; have HO4 := Lib.hid ho4; clear ho4))
    go_ret2
    have s1 := hbw1.size; have s2 := hbw2.size; have s3 := hbw3.size; have s4 := hbw4.size
    simp at s1 s2 s3 s4
    refine ⟨?_, .inr ⟨b, _, rfl, rfl, HO4.out.more (by simp; omega)⟩⟩
    have b1 : Below w.heap.size w w1 := ((Below.refl _ w).alloc (Nat.le_refl _) _).trans (hbw1.mono (by simp))
    exact ((((b1.trans (hbw2.mono (by omega))).alloc (by omega) _).trans (hbw3.mono (by simp; omega))).alloc (by omega) _).trans (hbw4.mono (by simp; omega))
end Go.Proofs.YtejmkefdcjachaaGreatDoor
end

/- Walks over the reference's Valid, Marshal. -/
section
set_option linter.unusedSimpArgs false
set_option linter.unusedVariables false
namespace Go.Proofs.YtejmkefdcjachaaGreatDoor
open Go.RowKit Go.Cr

set_option maxRecDepth 100000 in
set_option maxHeartbeats 4000000 in
theorem rFewAttr (s : ByteArray) (v : Value) (l : List UInt8) (w : World) (hv : IsB w v l) (hs : s.size ≤ 9223372036854775807) :
    Calls Tryz.prog 24 #[.agg #[.string s, v]] w (RetB (.bool (decide (s.size ≤ 200 ∧ l.length ≤ 1000))) w) := by
  have hlen := hv.len ulB
  obtain ⟨A, k, rfl⟩ := isB_slice hv
  by_cases h1 : s.size ≤ 200
  · by_cases h2 : l.length ≤ 1000
    · rw [decide_eq_true ⟨h1, h2⟩]
      have e1 : (s.size : Int) ≤ 200 := by omega
      have e2 : (l.length : Int) ≤ 1000 := by omega
      have d2 : decide (l.length ≤ 1000) = true := decide_eq_true h2
      have d1 : decide (s.size ≤ 200) = true := decide_eq_true h1
      clear hv
      go_enter Tryz.func24, Tryz.ntmps24
      go_wp2_with fail
      go_ret
      exact ⟨rfl, by ((repeat' (first | (with_reducible exact Below.refl _ _) | (with_reducible assumption) | (with_reducible refine Below.setCell ?_ ?_ _) | (with_reducible refine Below.alloc ?_ ?_ _) | (with_reducible refine Below.drew ?_) | (with_reducible refine below_drewN ?_ _) | (with_reducible refine Below.step (by with_reducible assumption) ?_ ?_))) <;> (first | omega | (simp; done) | (simp; omega)))⟩
    · rw [decide_eq_false (fun h => h2 h.2)]
      have e1 : (s.size : Int) ≤ 200 := by omega
      have e2 : 1000 < (l.length : Int) := by omega
      have d1 : decide (s.size ≤ 200) = true := decide_eq_true h1
      clear hv
      go_enter Tryz.func24, Tryz.ntmps24
      go_wp2_with fail
      go_ret
      exact ⟨by simp; omega, by ((repeat' (first | (with_reducible exact Below.refl _ _) | (with_reducible assumption) | (with_reducible refine Below.setCell ?_ ?_ _) | (with_reducible refine Below.alloc ?_ ?_ _) | (with_reducible refine Below.drew ?_) | (with_reducible refine below_drewN ?_ _) | (with_reducible refine Below.step (by with_reducible assumption) ?_ ?_))) <;> (first | omega | (simp; done) | (simp; omega)))⟩
  · rw [decide_eq_false (fun h => h1 h.1)]
    have e1 : 200 < (s.size : Int) := by omega
    have d1 : decide (s.size ≤ 200) = false := decide_eq_false h1
    clear hv
    go_enter Tryz.func24, Tryz.ntmps24
    go_wp2_with fail
    go_ret
    exact ⟨rfl, by ((repeat' (first | (with_reducible exact Below.refl _ _) | (with_reducible assumption) | (with_reducible refine Below.setCell ?_ ?_ _) | (with_reducible refine Below.alloc ?_ ?_ _) | (with_reducible refine Below.drew ?_) | (with_reducible refine below_drewN ?_ _) | (with_reducible refine Below.step (by with_reducible assumption) ?_ ?_))) <;> (first | omega | (simp; done) | (simp; omega)))⟩

set_option maxRecDepth 100000 in
set_option maxHeartbeats 4000000 in
theorem rAttValid (s : ByteArray) (v : Value) (l : List UInt8) (w : World) (hv : IsB w v l) (hs : s.size ≤ 1000000) (hl : l.length ≤ 1000000) :
    Calls Tryz.prog 28 #[.agg #[.string s, v]] w (RetB (.bool (marA s.data.toList l).isSome) w) := by
  rw [marA_isSome]
  obtain ⟨A, k, rfl⟩ := isB_slice hv
  have HV := Lib.hid hv
  have HO : Hid (∀ W, Calls Tryz.prog 51 #[.string s] W (RetB (.bool (arcsL s.data.toList).isSome) W)) := fun W => rOidValid s W hs
  have H := Lib.hid (fun W u (h : IsB W u l) => rOpen_any u l W h hl)
  clear hv hs
  generalize (arcsL s.data.toList).isSome = B at *
  generalize decide (treeOK 16 l) = T at *
  cases B <;> cases T
  all_goals
    go_enter Tryz.func28, Tryz.ntmps28
    go_wp2_with (first | ((go_at_call 51); (with_reducible refine (HO.out _).mono ?_); rintro e w1 ⟨rfl, hbw1⟩; obtain ⟨hcw1, hfw1⟩ := bcell hbw1; have hzw1 := hbw1.size; (try simp at hzw1); have hyw1 : w.heap.size < w1.heap.size := (by omega); (try have hyaw1 : w.heap.size + 1 < w1.heap.size := (by omega)); (try have hybw1 : w.heap.size + 2 < w1.heap.size := (by omega)); (try have hycw1 : w.heap.size + 3 < w1.heap.size := (by omega)); (try have hydw1 : w.heap.size + 4 < w1.heap.size := (by omega)); clear hzw1; have K0 := Blk.call (Blk.new w 37 #[.string s, .slice A l.length k]) hbw1; have lK0 := K0.lt; have qK0 := K0.q; have rK0 := K0.fz; have K0' := Lib.hid K0; clear K0; have K0 := K0'.out; clear K0') | ((go_at_call 52); (with_reducible refine (H.out _ _ ((HV.out.alloc _).below hbw1)).mono ?_); rintro e w2 ⟨rfl, hbw2⟩; have hs2 := hbw2.size))
    go_ret
    exact ⟨rfl, by ((repeat' (first | (with_reducible exact Below.refl _ _) | (with_reducible assumption) | (with_reducible refine Below.setCell ?_ ?_ _) | (with_reducible refine Below.alloc ?_ ?_ _) | (with_reducible refine Below.drew ?_) | (with_reducible refine below_drewN ?_ _) | (with_reducible refine Below.step (by with_reducible assumption) ?_ ?_))) <;> (first | omega | (simp; done) | (simp; omega)))⟩

set_option maxRecDepth 100000 in
set_option maxHeartbeats 4000000 in
theorem rObject (s : ByteArray) (c : List UInt8) (w : World) (hs : s.size ≤ 100000) (hc : oidE s.data.toList = some c) :
    Calls Tryz.prog 48 #[.string s] w (RetO 5 (encO 0 false 6 c) w) := by
  have hsl : s.data.toList.length = s.size := rfl
  have hcl := oidE_len hc
  have HO : Hid (∀ W, Calls Tryz.prog 77 #[.string s] W (RetOidY c W)) := fun W => (rOidEnc s W (by omega)).mono fun e w' hh => by rw [hc] at hh; exact hh.yes
  have HP : Hid (∀ W u, IsB W u c → Calls Tryz.prog 41 #[.int .u8 6, u] W (RetO 5 (encO 0 false 6 c) W)) := fun W u h => rPut 6 u c W h (by omega)
  clear hs hc hsl hcl
  go_enter Tryz.func48, Tryz.ntmps48
  go_wp2_with (first | ((go_at_call 77); (with_reducible refine (HO.out _).mono ?_); rintro e w2 ⟨v2, rfl, ho2, hbw2⟩; obtain ⟨A2, k2, rfl⟩ := isB_slice ho2.isB; have HO2 := Lib.hid ho2; clear ho2) | ((go_at_call 41); (with_reducible refine (HP.out _ _ HO2.out.isB).mono ?_); rintro e w3 ⟨v3, rfl, ho3, hbw3⟩; have HO3 := Lib.hid ho3; clear ho3))
  go_ret
  exact ⟨_, rfl, HO3.out.more hbw2.size, hbw2.trans (hbw3.mono hbw2.size)⟩

set_option maxRecDepth 100000 in
set_option maxHeartbeats 4000000 in
theorem rAttMarshal (s : ByteArray) (v : Value) (l : List UInt8) (w : World) (hv : IsB w v l) (hs : s.size ≤ 100000) (hl : l.length ≤ 100000) :
    Calls Tryz.prog 26 #[.agg #[.string s, v]] w (RetOid (marA s.data.toList l) w) := by
  have HW := Lib.hid (fun W u (h : IsB W u l) => rAttValid s u l W h (by omega) (by omega))
  obtain ⟨A, k, rfl⟩ := isB_slice hv
  have HV := Lib.hid hv
  cases hm : marA s.data.toList l with
  | none =>
    rw [hm] at HW
    clear hv hs hl hm
    go_enter Tryz.func26, Tryz.ntmps26
    go_wp2_with (first | ((go_at_call 28); (with_reducible refine (HW.out _ _ (HV.out.alloc _)).mono ?_); rintro e w1 ⟨rfl, hbw1⟩))
    go_ret2
    exact ⟨by ((repeat' (first | (with_reducible exact Below.refl _ _) | (with_reducible assumption) | (with_reducible refine Below.setCell ?_ ?_ _) | (with_reducible refine Below.alloc ?_ ?_ _) | (with_reducible refine Below.drew ?_) | (with_reducible refine below_drewN ?_ _) | (with_reducible refine Below.step (by with_reducible assumption) ?_ ?_))) <;> (first | omega | (simp; done) | (simp; omega))), .inl ⟨rfl, rfl⟩⟩
  | some b =>
    obtain ⟨c, hc, ht, hb⟩ := marA_some hm
    have hcl := oidE_len hc
    have hsl : s.data.toList.length = s.size := rfl
    have HO := Lib.hid (fun W => rObject s c W hs hc)
    have hL := encO_len 0 6 false c
    have hlo := lenOct_len c.length
    have HP : Hid (∀ W u, IsBs W u [encO 0 false 6 c, l] → Calls Tryz.prog 47 #[.int .u8 48, u] W (RetO 5 b W)) := fun W u h => by
      have := rPuts 48 u [encO 0 false 6 c, l] W h (by simp; omega)
      have e : (48 :: (lenOct [encO 0 false 6 c, l].flatten.length ++ [encO 0 false 6 c, l].flatten)) = b := by rw [hb]; simp [encO]; rfl
      rwa [e] at this
    rw [hm] at HW
    clear hv hs hl hm hb hc ht hcl hL hlo
    generalize encO 0 false 6 c = E6 at *
    go_enter Tryz.func26, Tryz.ntmps26
    go_wp2_with (first | ((go_at_call 28); (with_reducible refine (HW.out _ _ (HV.out.alloc _)).mono ?_); rintro e w1 ⟨rfl, hbw1⟩; obtain ⟨hcw1, hfw1⟩ := bcell hbw1; have hzw1 := hbw1.size; (try simp at hzw1); have hyw1 : w.heap.size < w1.heap.size := (by omega); (try have hyaw1 : w.heap.size + 1 < w1.heap.size := (by omega)); (try have hybw1 : w.heap.size + 2 < w1.heap.size := (by omega)); (try have hycw1 : w.heap.size + 3 < w1.heap.size := (by omega)); (try have hydw1 : w.heap.size + 4 < w1.heap.size := (by omega)); clear hzw1; have K0 := Blk.call (Blk.new w 37 #[.string s, .slice A l.length k]) hbw1; have lK0 := K0.lt; have qK0 := K0.q; have rK0 := K0.fz; have K0' := Lib.hid K0; clear K0; have K0 := K0'.out; clear K0'; have HV1 := Lib.hid ((HV.out.alloc _).below hbw1)))
    go_region_held3 (fun W' => W'.cell? ⟨w.heap.size, 0, none⟩ = some (.string s) ∧ W'.cell? ⟨w.heap.size, 1, none⟩ = some (.slice A l.length k))
      (first | go_keep | (exact ⟨(hbw3.cell (by simp; omega)).trans (by simp [*]), (hbw3.cell (by simp; omega)).trans (by simp [*])⟩) | (exact ⟨(hbw2.cell lK0).trans (by simp [*]), (hbw2.cell lK0).trans (by simp [*])⟩))
      (first | ((go_at_call 48); (with_reducible refine (HO.out _).mono ?_); rintro e w2 ⟨v2, rfl, ho2, hbw2⟩; obtain ⟨A2, k2, rfl⟩ := isB_slice ho2.isB; have HO2 := Lib.hid ho2; clear ho2; have hy2 : w.heap.size < w2.heap.size := Nat.lt_of_lt_of_le lK0 hbw2.size) | ((go_at_call 47); (with_reducible refine (HP.out _ _ (isBs_two (by simp) HO2.out.isB ((HV1.out.drew).below hbw2))).mono ?_); rintro e w3 ⟨v3, rfl, ho3, hbw3⟩; have HO3 := Lib.hid ho3; clear ho3))
    go_wp2
    go_ret2
    have s2 := hbw2.size; have s3 := hbw3.size
    simp at s2 s3
    have b1 : Below w.heap.size w w1 := ((Below.refl _ w).alloc (Nat.le_refl _) _).trans (hbw1.mono (by simp))
    have b2 : Below w.heap.size w w2 := b1.drew.trans (hbw2.mono (by simp; omega))
    exact ⟨(b2.alloc (by omega) _).trans (hbw3.mono (by simp; omega)), .inr ⟨b, _, rfl, rfl, HO3.out.more (by simp; omega)⟩⟩
end Go.Proofs.YtejmkefdcjachaaGreatDoor
end

/- Walks over the reference's Read of an attribute. -/
section
set_option linter.unusedSimpArgs false
set_option linter.unusedVariables false
namespace Go.Proofs.YtejmkefdcjachaaGreatDoor
open Go.RowKit Go.Cr

/-- The kids of a node are those of its octets. -/
theorem isNode_open {S : Nat → Prop} {d : Nat} {w : World} {cs : List Value} {l : List UInt8} (h : IsNode S (d + 1) w cs l) :
    ∃ (c1 c2 : Int) (c3 : Bool) (v4 v5 : Value) (xs : List Value), cs = [.int .i64 c1, .int .i64 c2, .bool c3, v4, v5] ∧ IsB w v4 (kidC l) ∧ IsR w v5 5 (kidsT d l).length xs ∧
      (∀ j (hj : j < (kidsT d l).length), IsNode S d w ((xs.drop (j * 5)).take 5) (kidsT d l)[j]) ∧ (kidsT d l).flatten.length ≤ l.length := by
  obtain ⟨hd, v4, v5, ks, xs, h1, h2, h3, h4, h5, h6, h7⟩ := h
  have hkid : kidsT d l = ks := by
    unfold kidsT
    rw [h1]
    cases hc : hd.con with
    | false => rw [hc] at h6; simp only [Bool.false_eq_true, if_false] at h6; simp [hc, h6]
    | true =>
      rw [hc, if_pos rfl] at h6
      have hl := cont_len h1
      simp only [hc, Bool.true_eq_false, if_false]
      rw [← h6, scanL_of ks _ (fun p hp => by
        obtain ⟨j, hj, rfl⟩ := List.getElem_of_mem hp
        exact (h7 j hj).1) (by rw [h6]; omega)]
      rfl
  have hkc : kidC l = if hd.con then [] else cont l hd := by unfold kidC; rw [h1]
  have hkk := nextH_ok h1
  have hcl := cont_len h1
  refine ⟨hd.cls, hd.num, hd.con, v4, v5, xs, h3, ?_, ?_, ?_, ?_⟩
  · rw [hkc]; exact h4.isR.bytes
  · rw [hkid]; exact h5.isR
  · rw [hkid]; exact fun j hj => (h7 j hj).2
  · rw [hkid]
    cases hc : hd.con with
    | false => rw [hc] at h6; simp only [Bool.false_eq_true, if_false] at h6; simp [h6]
    | true => rw [hc, if_pos rfl] at h6; rw [h6]; omega
theorem kidC_len (p : List UInt8) : (kidC p).length ≤ p.length := by
  unfold kidC
  split
  · simp
  · rename_i h e
    have := nextH_ok e
    have := cont_len e
    split
    · simp
    · omega
theorem getD_len (ks : List (List UInt8)) (j : Nat) : (ks.getD j []).length ≤ ks.flatten.length := by
  induction ks generalizing j with
  | nil => simp
  | cons x t ih =>
    cases j with
    | zero => simp
    | succ j => have := ih j; simp only [List.getD_cons_succ, List.flatten_cons, List.length_append]; omega

set_option maxRecDepth 100000 in
set_option maxHeartbeats 4000000 in
theorem rKid0_none (c1 c2 : Int) (c3 : Bool) (v4 v5 : Value) (xs : List Value) (w : World) (h4 : v4.oneCell' = true) (h5 : IsR w v5 5 0 xs) :
    Calls Tryz.prog 84 #[.agg #[.int .i64 c1, .int .i64 c2, .bool c3, v4, v5], .int .i64 0] w (RetB (.agg #[.int .i64 0, .int .i64 0, .bool false, .slice none 0 0, .slice none 0 0]) w) := by
  have hl5 := h5.len (P := Tryz.prog) ulNodes
  obtain ⟨A5, k5, rfl⟩ : ∃ A5 k5, v5 = .slice A5 0 k5 := by obtain ⟨A5, k5, h, _⟩ := h5; exact ⟨A5, k5, h⟩
  clear h5
  go_enter Tryz.func84, Tryz.ntmps84
  go_wp2_with fail
  (refine bodyPost_retB (v := .agg #[.int .i64 0, .int .i64 0, .bool false, .slice none 0 0, .slice none 0 0]) (by (simp only [results, Tryz.results84]; try go_simp)) rfl rfl ?_; ((repeat' (first | (with_reducible exact Below.refl _ _) | (with_reducible assumption) | (with_reducible refine Below.setCell ?_ ?_ _) | (with_reducible refine Below.alloc ?_ ?_ _) | (with_reducible refine Below.drew ?_) | (with_reducible refine below_drewN ?_ _) | (with_reducible refine Below.step (by with_reducible assumption) ?_ ?_))) <;> (first | omega | (simp; done) | (simp; omega))))

set_option maxRecDepth 100000 in
set_option maxHeartbeats 4000000 in
theorem rKid0_some (c1 c2 : Int) (c3 : Bool) (v4 v5 : Value) (n : Nat) (xs : List Value) (w : World) (h4 : v4.oneCell' = true) (h5 : IsR w v5 5 n xs) (hn : 0 < n)
    (x1 x2 : Int) (x3 : Bool) (y4 y5 : Option Addr) (m4 z4 m5 z5 : Nat) (hx : (xs.drop (0 * 5)).take 5 = [.int .i64 x1, .int .i64 x2, .bool x3, .slice y4 m4 z4, .slice y5 m5 z5]) :
    Calls Tryz.prog 84 #[.agg #[.int .i64 c1, .int .i64 c2, .bool c3, v4, v5], .int .i64 0] w (RetB (.agg #[.int .i64 x1, .int .i64 x2, .bool x3, .slice y4 m4 z4, .slice y5 m5 z5]) w) := by
  have hl5 := h5.len (P := Tryz.prog) ulNodes
  obtain ⟨b, o, hi, hbl, hcx⟩ := h5.at_ (P := Tryz.prog) ulNodes szNode .i64 (i := 0) (by omega) (by omega)
  obtain ⟨A5, k5, rfl⟩ : ∃ A5 k5, v5 = .slice A5 n k5 := by obtain ⟨A5, k5, h, _⟩ := h5; exact ⟨A5, k5, h⟩
  have p0 := hcx 0 _ (take5_at hx 0 (by omega))
  have p1 := hcx 1 _ (take5_at hx 1 (by omega))
  have p2 := hcx 2 _ (take5_at hx 2 (by omega))
  have p3 := hcx 3 _ (take5_at hx 3 (by omega))
  have p4 := hcx 4 _ (take5_at hx 4 (by omega))
  rw [Nat.add_zero] at p0
  have hnI : (0 : Int) < n := by omega
  have hd1 : decide (n ≤ 0) = false := decide_eq_false (by omega)
  have hd2 : decide ((0 : Int) ≥ n) = false := decide_eq_false (by omega)
  clear h5 hcx hx
  go_enter Tryz.func84, Tryz.ntmps84
  go_wp2_with fail
  (refine bodyPost_retB (v := .agg #[.int .i64 x1, .int .i64 x2, .bool x3, .slice y4 m4 z4, .slice y5 m5 z5]) (by (simp only [results, Tryz.results84]; try go_simp)) rfl rfl ?_; ((repeat' (first | (with_reducible exact Below.refl _ _) | (with_reducible assumption) | (with_reducible refine Below.setCell ?_ ?_ _) | (with_reducible refine Below.alloc ?_ ?_ _) | (with_reducible refine Below.drew ?_) | (with_reducible refine below_drewN ?_ _) | (with_reducible refine Below.step (by with_reducible assumption) ?_ ?_))) <;> (first | omega | (simp; done) | (simp; omega))))

set_option maxRecDepth 100000 in
set_option maxHeartbeats 4000000 in
theorem rReadObj (c1 c2 : Int) (c3 : Bool) (v4 v5 : Value) (c : List UInt8) (w : World) (h4 : IsB w v4 c) (h5 : v5.oneCell' = true) (hl : c.length ≤ 4000) :
    Calls Tryz.prog 83 #[.agg #[.int .i64 c1, .int .i64 c2, .bool c3, v4, v5]] w (RetB (.string (bStr ((oidD c).getD []))) w) := by
  obtain ⟨A, k, rfl⟩ := isB_slice h4
  have HV := Lib.hid h4
  have H := Lib.hid (fun W u (h : IsB W u c) => rDec u c W h hl)
  clear h4
  generalize oidD c = r at *
  cases r with
  | none =>
    have e0 : bStr ((none : Option (List UInt8)).getD []) = ⟨#[]⟩ := rfl
    rw [e0]
    simp only [decV] at H
    go_enter Tryz.func83, Tryz.ntmps83
    go_wp2_with (first | ((go_at_call 111); (with_reducible refine (H.out _ _ (HV.out.alloc _)).mono ?_); rintro e w1 ⟨rfl, hbw1⟩; have hs1 := hbw1.size; simp at hs1))
    go_ret
    exact ⟨rfl, by ((repeat' (first | (with_reducible exact Below.refl _ _) | (with_reducible assumption) | (with_reducible refine Below.setCell ?_ ?_ _) | (with_reducible refine Below.alloc ?_ ?_ _) | (with_reducible refine Below.drew ?_) | (with_reducible refine below_drewN ?_ _) | (with_reducible refine Below.step (by with_reducible assumption) ?_ ?_))) <;> (first | omega | (simp; done) | (simp; omega)))⟩
  | some s =>
    have e0 : bStr ((some s).getD []) = bStr s := rfl
    rw [e0]
    simp only [decV] at H
    go_enter Tryz.func83, Tryz.ntmps83
    go_wp2_with (first | ((go_at_call 111); (with_reducible refine (H.out _ _ (HV.out.alloc _)).mono ?_); rintro e w1 ⟨rfl, hbw1⟩; have hs1 := hbw1.size; simp at hs1))
    go_ret
    exact ⟨rfl, by ((repeat' (first | (with_reducible exact Below.refl _ _) | (with_reducible assumption) | (with_reducible refine Below.setCell ?_ ?_ _) | (with_reducible refine Below.alloc ?_ ?_ _) | (with_reducible refine Below.drew ?_) | (with_reducible refine below_drewN ?_ _) | (with_reducible refine Below.step (by with_reducible assumption) ?_ ?_))) <;> (first | omega | (simp; done) | (simp; omega)))⟩

theorem isB_nil0 (w : World) : IsB w (.slice none 0 0) [] := ⟨none, 0, rfl, Nat.le_refl _, by decide, fun h => absurd h (by simp)⟩

set_option maxRecDepth 100000 in
set_option maxHeartbeats 4000000 in
theorem rOctets1 (d : Nat) (S : Nat → Prop) (c1 c2 : Int) (c3 : Bool) (v4 v5 : Value) (ks : List (List UInt8)) (xs : List Value) (w : World) (h4 : v4.oneCell' = true) (h5 : IsR w v5 5 ks.length xs)
    (hk : ∀ j (hj : j < ks.length), IsNode S d w ((xs.drop (j * 5)).take 5) ks[j]) (hL : (ks.getD 1 []).length ≤ 900000) :
    Calls Tryz.prog 85 #[.agg #[.int .i64 c1, .int .i64 c2, .bool c3, v4, v5], .int .i64 1] w (RetO 5 (ks.getD 1 []) w) := by
  have hl5 := h5.len (P := Tryz.prog) ulNodes
  by_cases hn : 1 < ks.length
  · obtain ⟨b, o, hi, hbl, hcx⟩ := h5.at_ (P := Tryz.prog) ulNodes szNode .i64 (i := 1) (by omega) (by omega)
    obtain ⟨A5, k5, rfl⟩ : ∃ A5 k5, v5 = .slice A5 ks.length k5 := by obtain ⟨A5, k5, h, _⟩ := h5; exact ⟨A5, k5, h⟩
    have hnd := hk 1 hn
    obtain ⟨x1, x2, x3, y4, y5, m4, z4, m5, z5, hx⟩ := hnd.shape
    rw [hx] at hnd
    have p0 := hcx 0 _ (take5_at hx 0 (by omega))
    have p1 := hcx 1 _ (take5_at hx 1 (by omega))
    have p2 := hcx 2 _ (take5_at hx 2 (by omega))
    have p3 := hcx 3 _ (take5_at hx 3 (by omega))
    have p4 := hcx 4 _ (take5_at hx 4 (by omega))
    rw [Nat.add_zero] at p0
    have hgd : ks.getD 1 [] = ks[1] := by simp [hn]
    rw [hgd] at hL ⊢
    have H := Lib.hid (fun W (h : IsNode S d W [.int .i64 x1, .int .i64 x2, .bool x3, .slice y4 m4 z4, .slice y5 m5 z5] ks[1]) => rBytes d S x1 x2 x3 y4 y5 m4 z4 m5 z5 ks[1] W h hL)
    have HN := Lib.hid hnd
    have hnI : (1 : Int) < ks.length := by omega
    have hd1 : decide (ks.length ≤ 1) = false := decide_eq_false (by omega)
    clear h5 hcx hx hk hgd hL hnd
    generalize ks[1] = p at *
    generalize ks.length = n at *
    go_enter Tryz.func85, Tryz.ntmps85
    go_wp2_with (first | ((go_at_call 112); (with_reducible refine (H.out _ (node_alloc HN.out _)).mono ?_); rintro e w1 ⟨v1, rfl, ho1, hbw1⟩; have HO1 := Lib.hid ho1; clear ho1; have hs1 := hbw1.size; simp at hs1))
    go_ret
    exact ⟨_, rfl, HO1.out.more (by simp), by ((repeat' (first | (with_reducible exact Below.refl _ _) | (with_reducible assumption) | (with_reducible refine Below.setCell ?_ ?_ _) | (with_reducible refine Below.alloc ?_ ?_ _) | (with_reducible refine Below.drew ?_) | (with_reducible refine below_drewN ?_ _) | (with_reducible refine Below.step (by with_reducible assumption) ?_ ?_))) <;> (first | omega | (simp; done) | (simp; omega)))⟩
  · obtain ⟨A5, k5, rfl⟩ : ∃ A5 k5, v5 = .slice A5 ks.length k5 := by obtain ⟨A5, k5, h, _⟩ := h5; exact ⟨A5, k5, h⟩
    have hgd : ks.getD 1 [] = [] := by simp [show ks.length ≤ 1 by omega]
    rw [hgd]
    have hnI : (ks.length : Int) ≤ 1 := by omega
    have hd1 : decide (ks.length ≤ 1) = true := decide_eq_true (by omega)
    clear h5 hk hgd hL
    generalize ks.length = n at *
    go_enter Tryz.func85, Tryz.ntmps85
    go_wp2_with fail
    go_ret
    exact ⟨_, rfl, OwB.nil_ _ _ _, by ((repeat' (first | (with_reducible exact Below.refl _ _) | (with_reducible assumption) | (with_reducible refine Below.setCell ?_ ?_ _) | (with_reducible refine Below.alloc ?_ ?_ _) | (with_reducible refine Below.drew ?_) | (with_reducible refine below_drewN ?_ _) | (with_reducible refine Below.step (by with_reducible assumption) ?_ ?_))) <;> (first | omega | (simp; done) | (simp; omega)))⟩

def RetAt (s l : List UInt8) (w : World) (e : Ending) (w' : World) : Prop := ∃ A k, e = .returned (.agg #[.string (bStr s), .slice A l.length k]) ∧ OwB w' w.heap.size 5 (.slice A l.length k) l ∧ Below w.heap.size w w'

theorem cells5 {W : World} {g : Nat} {t : TypeId} {a b c d e : Value} (h : Blk W g t #[a, b, c, d, e]) : W.cell? ⟨g, 0, none⟩ = some a ∧ W.cell? ⟨g, 1, none⟩ = some b ∧ W.cell? ⟨g, 2, none⟩ = some c ∧ W.cell? ⟨g, 3, none⟩ = some d ∧ W.cell? ⟨g, 4, none⟩ = some e :=
  ⟨h.q 0, h.q 1, h.q 2, h.q 3, h.q 4⟩
set_option maxRecDepth 100000 in
set_option maxHeartbeats 8000000 in
theorem rAttRead_step (c1 c2 : Int) (c3 : Bool) (a4 a5 : Option Addr) (n4 k4 n5 k5 : Nat) (x1 x2 : Int) (x3 : Bool) (y4 y5 : Option Addr) (m4 z4 m5 z5 : Nat) (s l : List UInt8) (w : World)
    (H1 : ∀ W, Below w.heap.size w W → Calls Tryz.prog 84 #[.agg #[.int .i64 c1, .int .i64 c2, .bool c3, .slice a4 n4 k4, .slice a5 n5 k5], .int .i64 0] W (RetB (.agg #[.int .i64 x1, .int .i64 x2, .bool x3, .slice y4 m4 z4, .slice y5 m5 z5]) W))
    (H2 : ∀ W, Below w.heap.size w W → Calls Tryz.prog 83 #[.agg #[.int .i64 x1, .int .i64 x2, .bool x3, .slice y4 m4 z4, .slice y5 m5 z5]] W (RetB (.string (bStr s)) W))
    (H3 : ∀ W, Below w.heap.size w W → Calls Tryz.prog 85 #[.agg #[.int .i64 c1, .int .i64 c2, .bool c3, .slice a4 n4 k4, .slice a5 n5 k5], .int .i64 1] W (RetO 5 l W)) :
    Calls Tryz.prog 58 #[.agg #[.int .i64 c1, .int .i64 c2, .bool c3, .slice a4 n4 k4, .slice a5 n5 k5]] w (RetAt s l w) := by
  have G1 := Lib.hid H1
  have G2 := Lib.hid H2
  have G3 := Lib.hid H3
  clear H1 H2 H3
  go_enter Tryz.func58, Tryz.ntmps58
  go_wp2_with fail
  have K0 : Blk ((w.alloc (.cells #[.int .i64 c1, .int .i64 c2, .bool c3, .slice a4 n4 k4, .slice a5 n5 k5] 59)).alloc (.cells #[.string ⟨#[]⟩, .slice none 0 0] 37)).drew w.heap.size 59 #[.int .i64 c1, .int .i64 c2, .bool c3, .slice a4 n4 k4, .slice a5 n5 k5] := ((Blk.new w _ _).alloc _).drew
  have K9 : Blk ((w.alloc (.cells #[.int .i64 c1, .int .i64 c2, .bool c3, .slice a4 n4 k4, .slice a5 n5 k5] 59)).alloc (.cells #[.string ⟨#[]⟩, .slice none 0 0] 37)).drew (w.heap.size + 1) 37 #[.string ⟨#[]⟩, .slice none 0 0] := (blk_in (by simp)).drew
  have hB0 : Below w.heap.size w ((w.alloc (.cells #[.int .i64 c1, .int .i64 c2, .bool c3, .slice a4 n4 k4, .slice a5 n5 k5] 59)).alloc (.cells #[.string ⟨#[]⟩, .slice none 0 0] 37)).drew := (((Below.refl _ w).alloc (Nat.le_refl _) _).alloc (by simp) _).drew
  have HB0 := Lib.hid hB0
  clear hB0
  go_region_held3 (fun W' => W'.cell? ⟨w.heap.size, 0, none⟩ = some (.int .i64 c1) ∧ W'.cell? ⟨w.heap.size, 1, none⟩ = some (.int .i64 c2) ∧ W'.cell? ⟨w.heap.size, 2, none⟩ = some (.bool c3) ∧ W'.cell? ⟨w.heap.size, 3, none⟩ = some (.slice a4 n4 k4) ∧ W'.cell? ⟨w.heap.size, 4, none⟩ = some (.slice a5 n5 k5))
    (first | go_keep | exact cells5 J3 | exact cells5 J2 | exact cells5 J1)
    (first | ((go_at_call 84); (with_reducible refine (G1.out _ HB0.out).mono ?_); rintro e w1 ⟨rfl, hbw1⟩; have J1 := K0.call hbw1; have J1' := K9.call hbw1; have HB1 := Lib.hid (HB0.out.trans (hbw1.mono HB0.out.size))) | ((go_at_call 83); (with_reducible refine (G2.out _ HB1.out).mono ?_); rintro e w2 ⟨rfl, hbw2⟩; have J2 := J1.call hbw2; have J2' := J1'.call hbw2; have HB2 := Lib.hid (HB1.out.trans (hbw2.mono HB1.out.size))) | ((go_at_call 85); (with_reducible refine (G3.out _ HB2.out).mono ?_); rintro e w3 ⟨v3, rfl, hv3, hbw3⟩; obtain ⟨A3, k3, rfl⟩ := isB_slice hv3.isB; have J3 := J2.call hbw3; have J3' := J2'.call hbw3; have HV3 := Lib.hid hv3; have HB3 := Lib.hid (HB2.out.trans (hbw3.mono HB2.out.size)); have q3 := J3'.q; have f3 := J3'.fz; have l3 := J3'.lt; clear hv3))
  go_wp2
  refine bodyPost_ret (v := .agg #[.string (bStr s), .slice A3 l.length k3]) (by simp only [results, Tryz.results58]; go_simp) rfl ?_
  have hb := HB3.out
  have hs := HB2.out.size
  have z1 := hbw1.size
  have z2 := hbw2.size
  simp at z1
  have hlo : w.heap.size + 1 < w2.heap.size := by omega
  refine ⟨A3, k3, rfl, ?_, by ((repeat' (first | (with_reducible exact Below.refl _ _) | (with_reducible assumption) | (with_reducible refine Below.setCell ?_ ?_ _) | (with_reducible refine Below.alloc ?_ ?_ _) | (with_reducible refine Below.drew ?_) | (with_reducible refine below_drewN ?_ _) | (with_reducible refine Below.step (by with_reducible assumption) ?_ ?_))) <;> (first | omega | (simp; done) | (simp; omega)))⟩
  exact OwB.more (base := w2.heap.size) (ownsRow_setCell_below (ownsRow_setCell_below HV3.out hlo _) hlo _) (by omega)

set_option maxRecDepth 100000 in
set_option maxHeartbeats 4000000 in
theorem rAttRead_yes (c1 c2 : Int) (c3 : Bool) (a4 a5 : Option Addr) (n4 k4 n5 k5 : Nat) (l : List UInt8) (w : World) (S : Nat → Prop) (hn : IsNode S 60 w [.int .i64 c1, .int .i64 c2, .bool c3, .slice a4 n4 k4, .slice a5 n5 k5] l) (hL : l.length ≤ 4000) :
    Calls Tryz.prog 58 #[.agg #[.int .i64 c1, .int .i64 c2, .bool c3, .slice a4 n4 k4, .slice a5 n5 k5]] w (RetAt (rdA (kidsT 59 l)).1 (rdA (kidsT 59 l)).2 w) := by
  obtain ⟨_, _, _, v4, v5, xs, e, h4, h5, hk, hfl⟩ := isNode_open hn
  injection e with e1 e; injection e with e2 e; injection e with e3 e; injection e with e4 e; injection e with e5 e
  subst e4 e5
  have hg0 := getD_len (kidsT 59 l) 0
  have hg1 := getD_len (kidsT 59 l) 1
  have hc0 := kidC_len ((kidsT 59 l).getD 0 [])
  clear hn
  generalize kidsT 59 l = ks at *
  unfold rdA
  by_cases hz : ks.length = 0
  · have hk0 : ks = [] := List.eq_nil_of_length_eq_zero hz
    subst hk0
    refine rAttRead_step _ _ _ _ _ _ _ _ _ 0 0 false none none 0 0 0 0 _ _ w (fun W hb => ?_) (fun W hb => ?_) (fun W hb => ?_)
    · exact rKid0_none _ _ _ _ _ xs W rfl (h5.below hb)
    · exact rReadObj 0 0 false _ _ [] W (isB_nil0 W) rfl (by simp)
    · exact rOctets1 59 S _ _ _ _ _ [] xs W rfl (h5.below hb) (fun j hj => absurd hj (by simp)) (by simp)
  · have hn0 : 0 < ks.length := by omega
    have hnd := hk 0 hn0
    obtain ⟨x1, x2, x3, y4, y5, m4, z4, m5, z5, hx⟩ := hnd.shape
    rw [hx] at hnd
    have hgd : ks.getD 0 [] = ks[0] := by simp [hn0]
    obtain ⟨_, _, _, v4', v5', xs', e', h4', _, _, _⟩ := isNode_open (d := 58) hnd
    injection e' with e1 e'; injection e' with e2 e'; injection e' with e3 e'; injection e' with e4 e'; injection e' with e5 e'
    subst e4 e5
    refine rAttRead_step _ _ _ _ _ _ _ _ _ x1 x2 x3 y4 y5 m4 z4 m5 z5 _ _ w (fun W hb => ?_) (fun W hb => ?_) (fun W hb => ?_)
    · exact rKid0_some _ _ _ _ _ _ xs W rfl (h5.below hb) hn0 x1 x2 x3 y4 y5 m4 z4 m5 z5 hx
    · simp only
      rw [hgd] at hc0 hg0 ⊢
      exact rReadObj x1 x2 x3 _ _ _ W (h4'.below hb) rfl (by omega)
    · exact rOctets1 59 S _ _ _ _ _ ks xs W rfl (h5.below hb) (fun j hj => (hk j hj).below hb) (by omega)

theorem rAttRead_no (w : World) : Calls Tryz.prog 58 #[.agg #[.int .i64 0, .int .i64 0, .bool false, .slice none 0 0, .slice none 0 0]] w (RetAt (rdA []).1 (rdA []).2 w) := by
  have hr : ∀ W, IsR W (.slice none 0 0) 5 ([] : List (List UInt8)).length [] := fun W => ⟨none, 0, rfl, Nat.le_refl _, by decide, rfl, fun h => absurd h (by simp)⟩
  refine rAttRead_step _ _ _ _ _ _ _ _ _ 0 0 false none none 0 0 0 0 _ _ w (fun W hb => ?_) (fun W hb => ?_) (fun W hb => ?_)
  · exact rKid0_none _ _ _ _ _ [] W rfl (hr W)
  · exact rReadObj 0 0 false _ _ [] W (isB_nil0 W) rfl (by simp)
  · exact rOctets1 59 (fun _ => True) _ _ _ _ _ [] [] W rfl (hr W) (fun j hj => absurd hj (by simp)) (by simp)
end Go.Proofs.YtejmkefdcjachaaGreatDoor
end

/- Walk over the reference's Parse of an attribute. -/
section
set_option linter.unusedSimpArgs false
set_option linter.unusedVariables false
namespace Go.Proofs.YtejmkefdcjachaaGreatDoor
open Go.RowKit Go.Cr

theorem sub_len (n : Nat) : 1 ≤ (subL n).length := by
  unfold subL b128
  split <;> simp
theorem flat_len_ge (ms : List Nat) : ms.length ≤ (ms.flatMap subL).length := by
  induction ms with
  | nil => simp
  | cons x t ih => have := sub_len x; simp only [List.flatMap_cons, List.length_append, List.length_cons]; omega
theorem oidD_len {c s : List UInt8} (h : oidD c = some s) : s.length ≤ 21 * (c.length + 1) := by
  have he := (oid_iff _ _).1 h
  unfold oidE at he
  cases ha : arcsL s with
  | none => rw [ha] at he; cases he
  | some ns =>
    rw [ha] at he
    injection he with he
    have h1 := arcsL_some ha
    have h2 := textL_len h1.2.2
    have h3 := flat_len_ge (subsL ns)
    have h4 : ns.length ≤ (subsL ns).length + 1 := by unfold subsL; split <;> simp
    have h5 : encL ns = (subsL ns).flatMap subL := rfl
    rw [← h5, he] at h3
    rw [h1.1] at h2
    omega

/-- What the parsers of attributes return. -/
def AtY (s l : List UInt8) (x : Value) (w : World) (e : Ending) (w' : World) : Prop := ∃ A k, e = .returned (.tuple #[.agg #[.string (bStr s), .slice A l.length k], x]) ∧ OwB w' w.heap.size 5 (.slice A l.length k) l ∧ Below w.heap.size w w'
def RetPA (r : Option (List UInt8 × List UInt8)) (w : World) (e : Ending) (w' : World) : Prop := match r with
  | none => RetB (.tuple #[.agg #[.string ⟨#[]⟩, .slice none 0 0], .bool false]) w e w'
  | some (s, l) => AtY s l (.bool true) w e w'
def RetDR (s l : List UInt8) (w : World) (e : Ending) (w' : World) : Prop := Below w.heap.size w w' ∧ ∃ (c1 c2 : Int) (c3 : Bool) (a4 a5 : Option Addr) (n4 k4 n5 k5 : Nat) (t : Bool),
  e = .returned (.tuple #[.agg #[.int .i64 c1, .int .i64 c2, .bool c3, .slice a4 n4 k4, .slice a5 n5 k5], .bool t]) ∧
    ∀ W, Below w'.heap.size w' W → Calls Tryz.prog 58 #[.agg #[.int .i64 c1, .int .i64 c2, .bool c3, .slice a4 n4 k4, .slice a5 n5 k5]] W (RetAt s l W)

theorem rDeepRead (v : Value) (b : List UInt8) (w : World) (hv : IsB w v b) (hL : b.length ≤ 4000) :
    Calls Tryz.prog 35 #[v] w (RetDR (rdA (kidsA b)).1 (rdA (kidsA b)).2 w) := by
  by_cases ht : treeOK 60 b
  · refine (rDeep_yes v b w hv (by omega) ht).mono fun e w' ⟨hb, c1, c2, c3, a4, a5, n4, k4, n5, k5, he, hn⟩ => ⟨hb, c1, c2, c3, a4, a5, n4, k4, n5, k5, true, he, fun W hW => ?_⟩
    have : kidsA b = kidsT 59 b := by unfold kidsA; rw [if_pos ht]
    rw [this]
    exact rAttRead_yes _ _ _ _ _ _ _ _ _ b W _ (hn.below hW) hL
  · refine (rDeep_no v b w hv (by omega) ht).mono fun e w' ⟨he, hb⟩ => ⟨hb, 0, 0, false, none, none, 0, 0, 0, 0, false, he, fun W hW => ?_⟩
    have : kidsA b = [] := by unfold kidsA; rw [if_neg ht]
    rw [this]
    exact rAttRead_no W

theorem kidsA_len (b : List UInt8) : (kidsA b).flatten.length ≤ b.length := by
  unfold kidsA
  split
  · unfold kidsT
    split
    · simp
    · rename_i h e
      split
      · simp
      · rename_i hc
        have hk := nextH_ok e
        have hl := cont_len e
        cases hs : scanL (readT 59) h.len.toNat (cont b h) with
        | none => simp
        | some ks =>
          have := scanL_flat _ hs
          simp only [Option.getD_some]
          rw [this]
          omega
  · simp

set_option maxRecDepth 100000 in
set_option maxHeartbeats 8000000 in
theorem rAttParse (v : Value) (b : List UInt8) (w : World) (hv : IsB w v b) (hL : b.length ≤ 4000) :
    Calls Tryz.prog 31 #[v] w (RetPA (rparA b) w) := by
  have HD := Lib.hid (fun W (h : IsB W v b) => rDeepRead v b W h hL)
  have HV := Lib.hid hv
  have hfl := kidsA_len b
  have hg0 := getD_len (kidsA b) 0
  have hg1 := getD_len (kidsA b) 1
  have hc0 := kidC_len ((kidsA b).getD 0 [])
  have hsl : (rdA (kidsA b)).1.length ≤ 90000 := by
    unfold rdA
    simp only
    cases ho : oidD (kidC ((kidsA b).getD 0 [])) with
    | none => simp
    | some s => have := oidD_len ho; simp only [Option.getD_some]; omega
  have hll : (rdA (kidsA b)).2.length ≤ 4000 := by unfold rdA; simp only; omega
  have hp : rparA b = if marA (rdA (kidsA b)).1 (rdA (kidsA b)).2 = some b then some ((rdA (kidsA b)).1, (rdA (kidsA b)).2) else none := rfl
  rw [hp]
  clear hp hfl hg0 hg1 hc0
  generalize (rdA (kidsA b)).1 = s at *
  generalize (rdA (kidsA b)).2 = l at *
  have hss : (bStr s).size ≤ 100000 := by show s.toArray.size ≤ 100000; simp; omega
  have HM : Hid (∀ W u, IsB W u l → Calls Tryz.prog 26 #[.agg #[.string (bStr s), u]] W (RetOid (marA s l) W)) := fun W u h => rAttMarshal (bStr s) u l W h hss (by omega)
  have HBy := Lib.hid (fun W u x (h : IsB W u x) (h2 : IsB W v b) => bytes_any u v x b W h h2)
  clear hv hss hL hsl hll
  cases hm : marA s l with
  | none =>
    rw [hm] at HM
    rw [if_neg (by simp)]
    have HM' : Hid (∀ W u, IsB W u l → Calls Tryz.prog 26 #[.agg #[.string (bStr s), u]] W (RetB (.tuple #[.slice none 0 0, .int .i64 8]) W)) := fun W u h => (HM.out W u h).mono fun e w' hh => by
      obtain ⟨hb, ⟨_, he⟩ | ⟨c, x, h, _⟩⟩ := hh
      · exact ⟨he, hb⟩
      · cases h
    clear hm
    go_enter Tryz.func31, Tryz.ntmps31
    go_wp2_with (first | ((go_at_call 35); (with_reducible refine (HD.out _ (HV.out.alloc _)).mono ?_); rintro e w1 ⟨hbw1, c1, c2, c3, a4, a5, n4, k4, n5, k5, t, rfl, hrd⟩; obtain ⟨hcw1, hfw1⟩ := bcell hbw1; have hzw1 := hbw1.size; (try simp at hzw1); have hyw1 : w.heap.size < w1.heap.size := (by omega); (try have hyaw1 : w.heap.size + 1 < w1.heap.size := (by omega)); (try have hybw1 : w.heap.size + 2 < w1.heap.size := (by omega)); (try have hycw1 : w.heap.size + 3 < w1.heap.size := (by omega)); (try have hydw1 : w.heap.size + 4 < w1.heap.size := (by omega)); clear hzw1; have K0 := Blk.call (Blk.new w 37 #[.string ⟨#[]⟩, .slice none 0 0]) hbw1; have lK0 := K0.lt; have qK0 := K0.q; have rK0 := K0.fz; have K0' := Lib.hid K0; clear K0; have K0 := K0'.out; clear K0'; have HRD := Lib.hid hrd; clear hrd) | ((go_at_call 58); (with_reducible refine (HRD.out _ ((Below.refl _ w1).alloc (Nat.le_refl _) _)).mono ?_); rintro e w2 ⟨A2, k2, rfl, ho2, hbw2⟩; have K1 := Blk.call (K0.alloc _) hbw2; have lK1 := K1.lt; have qK1 := K1.q; have rK1 := K1.fz; have K1' := Lib.hid K1; clear K1; have K1 := K1'.out; clear K1'; have HO2 := Lib.hid ho2; clear ho2) | ((go_at_call 26); (with_reducible refine (HM'.out _ _ (HO2.out.isB.alloc _)).mono ?_); rintro e w3 ⟨rfl, hbw3⟩; have K2 := Blk.call (K1.alloc _) hbw3; have lK2 := K2.lt; have qK2 := K2.q; have rK2 := K2.fz; have K2' := Lib.hid K2; clear K2; have K2 := K2'.out; clear K2'))
    refine bodyPost_ret (v := .tuple #[.agg #[.string ⟨#[]⟩, .slice none 0 0], .bool false]) (by simp only [results, Tryz.results31]; go_simp) rfl ?_
    have s1 := hbw1.size; have s2 := hbw2.size; have s3 := hbw3.size; (simp at s1 s2 s3); have b1 : Below w.heap.size w w1 := ((Below.refl _ w).alloc (Nat.le_refl _) _).trans (hbw1.mono (by simp)); have b2 : Below w.heap.size w w2 := (b1.alloc (by omega) _).trans (hbw2.mono (by simp; omega)); have b3 : Below w.heap.size w w3 := (b2.alloc (by omega) _).trans (hbw3.mono (by simp; omega))
    exact ⟨rfl, by ((repeat' (first | (with_reducible exact Below.refl _ _) | (with_reducible assumption) | (with_reducible refine Below.setCell ?_ ?_ _) | (with_reducible refine Below.alloc ?_ ?_ _) | (with_reducible refine Below.drew ?_) | (with_reducible refine below_drewN ?_ _) | (with_reducible refine Below.step (by with_reducible assumption) ?_ ?_))) <;> (first | omega | (simp; done) | (simp; omega)))⟩
  | some c =>
    rw [hm] at HM
    have HM' : Hid (∀ W u, IsB W u l → Calls Tryz.prog 26 #[.agg #[.string (bStr s), u]] W (RetOidY c W)) := fun W u h => (HM.out W u h).mono fun e w' hh => hh.yes
    clear hm HM
    by_cases hcb : c = b
    · rw [if_pos (by rw [hcb])]
      have HBt : Hid (∀ W u, IsB W u c → IsB W v b → Calls Tryz.prog 17 #[u, v] W (RetB (.bool true) W)) := fun W u h h2 => by
        have := HBy.out W u c h h2
        rwa [decide_eq_true hcb] at this
      clear hcb HBy
      go_enter Tryz.func31, Tryz.ntmps31
      go_wp2_with (first | ((go_at_call 35); (with_reducible refine (HD.out _ (HV.out.alloc _)).mono ?_); rintro e w1 ⟨hbw1, c1, c2, c3, a4, a5, n4, k4, n5, k5, t, rfl, hrd⟩; obtain ⟨hcw1, hfw1⟩ := bcell hbw1; have hzw1 := hbw1.size; (try simp at hzw1); have hyw1 : w.heap.size < w1.heap.size := (by omega); (try have hyaw1 : w.heap.size + 1 < w1.heap.size := (by omega)); (try have hybw1 : w.heap.size + 2 < w1.heap.size := (by omega)); (try have hycw1 : w.heap.size + 3 < w1.heap.size := (by omega)); (try have hydw1 : w.heap.size + 4 < w1.heap.size := (by omega)); clear hzw1; have K0 := Blk.call (Blk.new w 37 #[.string ⟨#[]⟩, .slice none 0 0]) hbw1; have lK0 := K0.lt; have qK0 := K0.q; have rK0 := K0.fz; have K0' := Lib.hid K0; clear K0; have K0 := K0'.out; clear K0'; have HRD := Lib.hid hrd; have HV1 := Lib.hid ((HV.out.alloc (.cells #[.string ⟨#[]⟩, .slice none 0 0] 37)).below hbw1); clear hrd) | ((go_at_call 58); (with_reducible refine (HRD.out _ ((Below.refl _ w1).alloc (Nat.le_refl _) _)).mono ?_); rintro e w2 ⟨A2, k2, rfl, ho2, hbw2⟩; have K1 := Blk.call (K0.alloc _) hbw2; have lK1 := K1.lt; have qK1 := K1.q; have rK1 := K1.fz; have K1' := Lib.hid K1; clear K1; have K1 := K1'.out; clear K1'; have HO2 := Lib.hid ho2; have HV2 := Lib.hid ((HV1.out.alloc _).below hbw2); clear ho2) | ((go_at_call 26); (with_reducible refine (HM'.out _ _ (HO2.out.isB.alloc _)).mono ?_); rintro e w3 ⟨v3, rfl, ho3, hbw3⟩; obtain ⟨A3, k3, rfl⟩ := isB_slice ho3.isB; have K2 := Blk.call (K1.alloc _) hbw3; have lK2 := K2.lt; have qK2 := K2.q; have rK2 := K2.fz; have K2' := Lib.hid K2; clear K2; have K2 := K2'.out; clear K2'; have KA := Blk.call (Blk.new w2 37 #[.string (bStr s), .slice A2 l.length k2]) hbw3; have lKA := KA.lt; have qKA := KA.q; have rKA := KA.fz; have KA' := Lib.hid KA; clear KA; have KA := KA'.out; clear KA'; have HO3 := Lib.hid ho3; have HV3 := Lib.hid ((HV2.out.alloc _).below hbw3); have HO23 := Lib.hid (OwB.below (OwB.alloc HO2.out _) hbw3); clear ho3) | ((go_at_call 17); (with_reducible refine (HBt.out _ _ HO3.out.isB HV3.out).mono ?_); rintro e w4 ⟨rfl, hbw4⟩; have K3 := Blk.call (K2) hbw4; have lK3 := K3.lt; have qK3 := K3.q; have rK3 := K3.fz; have K3' := Lib.hid K3; clear K3; have K3 := K3'.out; clear K3'; have KB := Blk.call (KA) hbw4; have lKB := KB.lt; have qKB := KB.q; have rKB := KB.fz; have KB' := Lib.hid KB; clear KB; have KB := KB'.out; clear KB'; have HO24 := Lib.hid (OwB.below HO23.out hbw4)))
      refine bodyPost_ret (v := .tuple #[.agg #[.string (bStr s), .slice A2 l.length k2], .bool true]) (by simp only [results, Tryz.results31]; go_simp) rfl ?_
      have s1 := hbw1.size; have s2 := hbw2.size; have s3 := hbw3.size; (simp at s1 s2 s3); have b1 : Below w.heap.size w w1 := ((Below.refl _ w).alloc (Nat.le_refl _) _).trans (hbw1.mono (by simp)); have b2 : Below w.heap.size w w2 := (b1.alloc (by omega) _).trans (hbw2.mono (by simp; omega)); have b3 : Below w.heap.size w w3 := (b2.alloc (by omega) _).trans (hbw3.mono (by simp; omega))
      have s4 := hbw4.size
      have b4 : Below w.heap.size w w4 := b3.trans (hbw4.mono (by omega))
      refine ⟨A2, k2, rfl, ?_, by ((repeat' (first | (with_reducible exact Below.refl _ _) | (with_reducible assumption) | (with_reducible refine Below.setCell ?_ ?_ _) | (with_reducible refine Below.alloc ?_ ?_ _) | (with_reducible refine Below.drew ?_) | (with_reducible refine below_drewN ?_ _) | (with_reducible refine Below.step (by with_reducible assumption) ?_ ?_))) <;> (first | omega | (simp; done) | (simp; omega)))⟩
      have hlo : w.heap.size < w1.heap.size + 1 := by omega
      have h := HO24.out
      simp at h
      exact OwB.more (base := w1.heap.size + 1) (ownsRow_setCell_below (ownsRow_setCell_below h hlo _) hlo _) (by omega)
    · rw [if_neg (fun h => hcb (Option.some.inj h))]
      have HBf : Hid (∀ W u, IsB W u c → IsB W v b → Calls Tryz.prog 17 #[u, v] W (RetB (.bool false) W)) := fun W u h h2 => by
        have := HBy.out W u c h h2
        rwa [decide_eq_false hcb] at this
      clear hcb HBy
      go_enter Tryz.func31, Tryz.ntmps31
      go_wp2_with (first | ((go_at_call 35); (with_reducible refine (HD.out _ (HV.out.alloc _)).mono ?_); rintro e w1 ⟨hbw1, c1, c2, c3, a4, a5, n4, k4, n5, k5, t, rfl, hrd⟩; obtain ⟨hcw1, hfw1⟩ := bcell hbw1; have hzw1 := hbw1.size; (try simp at hzw1); have hyw1 : w.heap.size < w1.heap.size := (by omega); (try have hyaw1 : w.heap.size + 1 < w1.heap.size := (by omega)); (try have hybw1 : w.heap.size + 2 < w1.heap.size := (by omega)); (try have hycw1 : w.heap.size + 3 < w1.heap.size := (by omega)); (try have hydw1 : w.heap.size + 4 < w1.heap.size := (by omega)); clear hzw1; have K0 := Blk.call (Blk.new w 37 #[.string ⟨#[]⟩, .slice none 0 0]) hbw1; have lK0 := K0.lt; have qK0 := K0.q; have rK0 := K0.fz; have K0' := Lib.hid K0; clear K0; have K0 := K0'.out; clear K0'; have HRD := Lib.hid hrd; have HV1 := Lib.hid ((HV.out.alloc (.cells #[.string ⟨#[]⟩, .slice none 0 0] 37)).below hbw1); clear hrd) | ((go_at_call 58); (with_reducible refine (HRD.out _ ((Below.refl _ w1).alloc (Nat.le_refl _) _)).mono ?_); rintro e w2 ⟨A2, k2, rfl, ho2, hbw2⟩; have K1 := Blk.call (K0.alloc _) hbw2; have lK1 := K1.lt; have qK1 := K1.q; have rK1 := K1.fz; have K1' := Lib.hid K1; clear K1; have K1 := K1'.out; clear K1'; have HO2 := Lib.hid ho2; have HV2 := Lib.hid ((HV1.out.alloc _).below hbw2); clear ho2) | ((go_at_call 26); (with_reducible refine (HM'.out _ _ (HO2.out.isB.alloc _)).mono ?_); rintro e w3 ⟨v3, rfl, ho3, hbw3⟩; obtain ⟨A3, k3, rfl⟩ := isB_slice ho3.isB; have K2 := Blk.call (K1.alloc _) hbw3; have lK2 := K2.lt; have qK2 := K2.q; have rK2 := K2.fz; have K2' := Lib.hid K2; clear K2; have K2 := K2'.out; clear K2'; have HO3 := Lib.hid ho3; have HV3 := Lib.hid ((HV2.out.alloc _).below hbw3); clear ho3) | ((go_at_call 17); (with_reducible refine (HBf.out _ _ HO3.out.isB HV3.out).mono ?_); rintro e w4 ⟨rfl, hbw4⟩; have K3 := Blk.call (K2) hbw4; have lK3 := K3.lt; have qK3 := K3.q; have rK3 := K3.fz; have K3' := Lib.hid K3; clear K3; have K3 := K3'.out; clear K3'))
      refine bodyPost_ret (v := .tuple #[.agg #[.string ⟨#[]⟩, .slice none 0 0], .bool false]) (by simp only [results, Tryz.results31]; go_simp) rfl ?_
      have s1 := hbw1.size; have s2 := hbw2.size; have s3 := hbw3.size; (simp at s1 s2 s3); have b1 : Below w.heap.size w w1 := ((Below.refl _ w).alloc (Nat.le_refl _) _).trans (hbw1.mono (by simp)); have b2 : Below w.heap.size w w2 := (b1.alloc (by omega) _).trans (hbw2.mono (by simp; omega)); have b3 : Below w.heap.size w w3 := (b2.alloc (by omega) _).trans (hbw3.mono (by simp; omega))
      have s4 := hbw4.size
      have b4 : Below w.heap.size w w4 := b3.trans (hbw4.mono (by omega))
      exact ⟨rfl, by ((repeat' (first | (with_reducible exact Below.refl _ _) | (with_reducible assumption) | (with_reducible refine Below.setCell ?_ ?_ _) | (with_reducible refine Below.alloc ?_ ?_ _) | (with_reducible refine Below.drew ?_) | (with_reducible refine below_drewN ?_ _) | (with_reducible refine Below.step (by with_reducible assumption) ?_ ?_))) <;> (first | omega | (simp; done) | (simp; omega)))⟩
end Go.Proofs.YtejmkefdcjachaaGreatDoor
end
