/- The parts FoldB, FoldC of one proof, one behind the other. -/
import Derived.Test.YtlmnmgokfnnbbaaGreatDoorM14
import Derived.Test.YtlmnmgokfnnbbaaGreatDoorM23
import Derived.Test.YtlmnmgokfnnbbaaGreatDoorM15
import Derived.Deep.RegionHeld3

/- Walk over charset.Same. -/
section
set_option linter.unusedSimpArgs false
set_option linter.unusedVariables false
namespace Go.Cr
open Go.RowKit
def sameT (a b : Int × List UInt8) : Bool := validT a.1 a.2 && validT b.1 b.2 && decide (foldP a.2 = foldP b.2)
end Go.Cr
namespace Go.Proofs.YtlmnmgokfnnbbaaGreatDoor
open Go.RowKit Go.Cr
theorem bstr_eq (a b : List UInt8) : ((bStr a).toList == (bStr b).toList) = decide (a = b) := by
  rw [ByteArray.toList_eq, ByteArray.toList_eq, Bool.eq_iff_iff, beq_iff_eq, decide_eq_true_eq]
  exact Iff.rfl
set_option maxRecDepth 100000 in
set_option maxHeartbeats 8000000 in
theorem same_any (k1 k2 : Int) (s1 s2 : ByteArray) (w : World) (hG : Glo w) (h1 : s1.size ≤ 1000000) (h2 : s2.size ≤ 1000000) :
    Calls Tryz.prog 106 #[.agg #[.int .i64 k1, .string s1], .agg #[.int .i64 k2, .string s2]] w (RetB (.bool (sameT (k1, s1.data.toList) (k2, s2.data.toList))) w) := by
  have HV1 := Lib.hid (fun W (g : Glo W) => valid_any k1 s1 W (kindOk_all _) g (by omega))
  have HV2 := Lib.hid (fun W (g : Glo W) => valid_any k2 s2 W (kindOk_all _) g (by omega))
  have HF1 := Lib.hid (fun W => fold_any s1 W h1)
  have HF2 := Lib.hid (fun W => fold_any s2 W h2)
  have hsm : sameT (k1, s1.data.toList) (k2, s2.data.toList) = (validT k1 s1.data.toList && validT k2 s2.data.toList && decide (foldP s1.data.toList = foldP s2.data.toList)) := rfl
  have hE := bstr_eq (foldP s1.data.toList) (foldP s2.data.toList)
  rw [hsm]
  generalize decide (foldP s1.data.toList = foldP s2.data.toList) = E at *
  generalize bStr (foldP s1.data.toList) = f1 at *
  generalize bStr (foldP s2.data.toList) = f2 at *
  generalize validT k1 s1.data.toList = B1 at *
  generalize validT k2 s2.data.toList = B2 at *
  have HG := Lib.hid hG
  clear h1 h2 hG hsm
  go_enter Tryz.func106, Tryz.ntmps106
  go_wp2_with fail
  have HK1 := Lib.hid ((Blk.new w 97 #[.int .i64 k1, .string s1]).alloc (.cells #[.int .i64 k2, .string s2] 97))
  have HK2 : Hid (Blk ((w.alloc (.cells #[.int .i64 k1, .string s1] 97)).alloc (.cells #[.int .i64 k2, .string s2] 97)) (w.heap.size + 1) 97 #[.int .i64 k2, .string s2]) := by
    have := Blk.new (w.alloc (.cells #[.int .i64 k1, .string s1] 97)) 97 #[.int .i64 k2, .string s2]
    exact Lib.hid (by simpa using this)
  have HW0 := Lib.hid (((Below.refl w.heap.size w).alloc (Nat.le_refl _) (.cells #[.int .i64 k1, .string s1] 97)).alloc (by simp) (.cells #[.int .i64 k2, .string s2] 97))
  have HG0 := Lib.hid ((HG.out.alloc (.cells #[.int .i64 k1, .string s1] 97)).alloc (.cells #[.int .i64 k2, .string s2] 97))
  generalize (w.alloc (.cells #[.int .i64 k1, .string s1] 97)).alloc (.cells #[.int .i64 k2, .string s2] 97) = w0 at *
  have hl1 := HK1.out.lt
  have hl2 := HK2.out.lt
  have HSS : Hid (∀ W, Below w0.heap.size w0 W → W.cell? ⟨w.heap.size, 0, none⟩ = some (.int .i64 k1) ∧ W.cell? ⟨w.heap.size, 1, none⟩ = some (.string s1) ∧ W.cell? ⟨w.heap.size + 1, 0, none⟩ = some (.int .i64 k2) ∧ W.cell? ⟨w.heap.size + 1, 1, none⟩ = some (.string s2)) := fun W hW => ⟨((HK1.out.call hW).q 0).trans rfl, ((HK1.out.call hW).q 1).trans rfl, ((HK2.out.call hW).q 0).trans rfl, ((HK2.out.call hW).q 1).trans rfl⟩
  obtain ⟨g0, g1, g2, g3⟩ := HSS.out w0 (Below.refl _ _)
  have hcur := Lib.hid ((Below.refl w0.heap.size w0).drew)
  cases B1 with
  | false =>
    first | go_region_with (first
        | ((go_at_call 139); (with_reducible refine (HV1.out _ (HG0.out.below hcur.out)).mono ?_); rintro e wz ⟨rfl, hbz⟩; have hcur := Lib.hid (hcur.out.trans (hbz.mono hcur.out.size)); obtain ⟨g0, g1, g2, g3⟩ := HSS.out _ hcur.out; clear hbz)
        | ((go_at_call 139); (with_reducible refine (HV2.out _ (HG0.out.below hcur.out)).mono ?_); rintro e wz ⟨rfl, hbz⟩; have hcur := Lib.hid (hcur.out.trans (hbz.mono hcur.out.size)); obtain ⟨g0, g1, g2, g3⟩ := HSS.out _ hcur.out; clear hbz)) | fail
    all_goals
      go_wp2_with fail
      go_ret
      exact ⟨by first | rfl | simp [*], HW0.out.trans (hcur.out.mono HW0.out.size)⟩
  | true =>
    cases B2 with
    | false =>
      first | go_region_with (first
          | ((go_at_call 139); (with_reducible refine (HV1.out _ (HG0.out.below hcur.out)).mono ?_); rintro e wz ⟨rfl, hbz⟩; have hcur := Lib.hid (hcur.out.trans (hbz.mono hcur.out.size)); obtain ⟨g0, g1, g2, g3⟩ := HSS.out _ hcur.out; clear hbz)
          | ((go_at_call 139); (with_reducible refine (HV2.out _ (HG0.out.below hcur.out)).mono ?_); rintro e wz ⟨rfl, hbz⟩; have hcur := Lib.hid (hcur.out.trans (hbz.mono hcur.out.size)); obtain ⟨g0, g1, g2, g3⟩ := HSS.out _ hcur.out; clear hbz)) | fail
      all_goals
        go_wp2_with fail
        go_ret
        exact ⟨by first | rfl | simp [*], HW0.out.trans (hcur.out.mono HW0.out.size)⟩
    | true =>
      go_region_held3 (fun W' => W'.cell? ⟨w.heap.size, 0, none⟩ = some (.int .i64 k1) ∧ W'.cell? ⟨w.heap.size, 1, none⟩ = some (.string s1) ∧ W'.cell? ⟨w.heap.size + 1, 0, none⟩ = some (.int .i64 k2) ∧ W'.cell? ⟨w.heap.size + 1, 1, none⟩ = some (.string s2))
        (first | go_keep | exact HSS.out _ hcur.out)
        (first
          | ((go_at_call 139); (with_reducible refine (HV1.out _ (HG0.out.below hcur.out)).mono ?_); rintro e wz ⟨rfl, hbz⟩; have hcur := Lib.hid (hcur.out.trans (hbz.mono hcur.out.size)); clear hbz)
          | ((go_at_call 139); (with_reducible refine (HV2.out _ (HG0.out.below hcur.out)).mono ?_); rintro e wz ⟨rfl, hbz⟩; have hcur := Lib.hid (hcur.out.trans (hbz.mono hcur.out.size)); clear hbz)
          | ((go_at_call 140); (with_reducible refine (HF1.out _).mono ?_); rintro e wz ⟨rfl, hbz⟩; have hcur := Lib.hid (hcur.out.trans (hbz.mono hcur.out.size)); clear hbz)
          | ((go_at_call 140); (with_reducible refine (HF2.out _).mono ?_); rintro e wz ⟨rfl, hbz⟩; have hcur := Lib.hid (hcur.out.trans (hbz.mono hcur.out.size)); clear hbz))
      all_goals
        go_wp2_with fail
        go_ret
        exact ⟨by first | rfl | simp [*], HW0.out.trans (hcur.out.mono HW0.out.size)⟩
end Go.Proofs.YtlmnmgokfnnbbaaGreatDoor
end

/- Walk over the reference's Fold; it is the program's. -/
section
set_option linter.unusedSimpArgs false
set_option linter.unusedVariables false
namespace Go.Cr
open Go.RowKit
def foldT (st : List UInt8 × Bool) (c : UInt8) : List UInt8 × Bool := if c = 32 then (st.1, true) else ((if st.2 && decide (0 < st.1.length) then st.1 ++ [32] else st.1) ++ [lowC c], false)
def foldQ (l : List UInt8) : List UInt8 × Bool := l.foldl foldT ([], false)
theorem foldQ_succ {l : List UInt8} {i : Nat} (h : i < l.length) : foldQ (l.take (i + 1)) = foldT (foldQ (l.take i)) l[i] := by
  unfold foldQ
  rw [List.take_succ_eq_append_getElem h, List.foldl_append]
  rfl
theorem low_32 {c : UInt8} (h : lowC c = 32) : c = 32 := by
  unfold lowC at h
  split at h
  · rename_i hc
    have h1 := congrArg UInt8.toNat h
    have h2 : (c + 32).toNat = c.toNat + 32 := by rw [UInt8.toNat_add]; simp; omega
    rw [h2] at h1
    simp at h1
    omega
  · exact h
def FoldInv (p : List UInt8) (st : List UInt8 × Bool) : Prop := p = st.1 ++ (if st.2 && decide (0 < st.1.length) then [32] else []) ∧ (0 < st.1.length → st.1.getD (st.1.length - 1) 0 ≠ 32)
theorem foldInv_step {p : List UInt8} {st : List UInt8 × Bool} (h : FoldInv p st) (c : UInt8) : FoldInv (foldS p c) (foldT st c) := by
  obtain ⟨o, sp⟩ := st
  obtain ⟨hp, hl⟩ := h
  simp only at hp hl
  by_cases hc : c = 32
  · subst hc
    have e : foldT (o, sp) 32 = (o, true) := by unfold foldT; rw [if_pos rfl]
    rw [e, fold_sp]
    refine ⟨?_, hl⟩
    by_cases h0 : 0 < o.length
    · have hd : decide (0 < o.length) = true := decide_eq_true h0
      rw [hd, Bool.and_true] at hp
      simp only [hd, Bool.and_true, if_true]
      cases sp with
      | true =>
        simp only [if_true] at hp
        rw [if_pos (.inr (by rw [hp]; simp)), hp]
      | false =>
        simp only [Bool.false_eq_true, if_false, List.append_nil] at hp
        subst hp
        rw [if_neg (fun hh => hh.elim (by omega) (hl h0))]
    · have ho : o = [] := List.eq_nil_of_length_eq_zero (by omega)
      subst ho
      simp at hp
      subst hp
      simp
  · have e : foldT (o, sp) c = ((if sp && decide (0 < o.length) then o ++ [32] else o) ++ [lowC c], false) := by unfold foldT; rw [if_neg hc]
    rw [e]
    have hs : foldS p c = p ++ [lowC c] := by
      unfold foldS
      rw [if_neg (fun hh => hc (low_32 hh.1))]
    rw [hs]
    refine ⟨?_, fun _ => ?_⟩
    · simp only [Bool.false_and, Bool.false_eq_true, if_false, List.append_nil]
      rw [hp]
      split <;> simp
    · simp only [List.length_append, List.length_singleton, Nat.add_sub_cancel]
      intro hh
      apply hc
      apply low_32
      simpa using hh
theorem foldInv_all (l : List UInt8) : FoldInv (foldO l) (foldQ l) := by
  have : ∀ (l p : List UInt8) (st : List UInt8 × Bool), FoldInv p st → FoldInv (l.foldl foldS p) (l.foldl foldT st) := fun l => by
    induction l with
    | nil => intro p st h; exact h
    | cons c t ih => intro p st h; exact ih _ _ (foldInv_step h c)
  exact this l [] ([], false) ⟨by simp, fun h => absurd h (by simp)⟩
theorem foldP_eq (l : List UInt8) : foldP l = (foldQ l).1 := by
  obtain ⟨h1, h2⟩ := foldInv_all l
  unfold foldP
  rw [h1]
  generalize foldQ l = st at *
  obtain ⟨o, sp⟩ := st
  simp only at h1 h2 ⊢
  by_cases hb : (sp && decide (0 < o.length)) = true
  · rw [if_pos hb]
    have : Lib.hasSuffix (o ++ [32]) [32] = true := by unfold Lib.hasSuffix; simp
    unfold Lib.trimSuffix
    rw [if_pos this]
    simp
  · rw [if_neg hb, List.append_nil]
    unfold Lib.trimSuffix
    split
    · rename_i hs
      exfalso
      unfold Lib.hasSuffix at hs
      obtain ⟨t, ht⟩ := List.isSuffixOf_iff_suffix.1 hs
      have h0 : 0 < o.length := by rw [← ht]; simp
      apply h2 h0
      rw [← ht]
      simp
    · rfl
theorem foldQ_len (l : List UInt8) : (foldQ l).1.length ≤ l.length := by
  have h1 := (foldInv_all l).1
  have h2 := foldO_len l
  rw [h1, List.length_append] at h2
  omega
end Go.Cr
namespace Go.Proofs.YtlmnmgokfnnbbaaGreatDoor
open Go.RowKit Go.Cr
def F7Rel (l : List UInt8) (w : World) (out sp ix : Value) (wr : World) : Prop := ∃ i : Nat, ix = .int .i64 (i : Int) ∧ i ≤ l.length ∧ OwB wr w.heap.size 5 out (foldQ (l.take i)).1 ∧ sp = .bool (foldQ (l.take i)).2 ∧ Below w.heap.size w wr
set_option maxRecDepth 100000 in
set_option maxHeartbeats 16000000 in
theorem rFold (s : ByteArray) (w : World) (hs : s.size ≤ 1000000) : Calls Tryz.prog 143 #[.string s] w (RetB (.string (bStr (foldP s.data.toList))) w) := by
  have hL : s.data.toList.length = s.size := rfl
  obtain ⟨l, hl⟩ : ∃ l, s.data.toList = l := ⟨_, rfl⟩
  have hbt : ∀ (k : Nat) (h : k < s.size) (h2 : k < l.length), ((s[k]'h).toNat : Int) = bi l[k] := by
    intro k h h2
    subst hl
    rfl
  rw [hl] at hL ⊢
  rw [foldP_eq]
  obtain ⟨R, hR⟩ : ∃ R, bStr (foldQ l).1 = R := ⟨_, rfl⟩
  rw [hR]
  have HRR := Lib.hid hR
  have HL := Lib.hid hL
  have HB := Lib.hid hbt
  clear hL hbt hl hR
  go_enter Tryz.func143, Tryz.ntmps143
  go_wp2_with fail
  go_loopw [3, 4, 5] (fun out sp ix wr => F7Rel l w out sp ix wr) (fun _ _ ix _ => l.length + 1 - (intOf ix).toNat)
  case atStart => exact ⟨0, rfl, Nat.zero_le _, World.ownsRow_nil _ _ _ _, rfl, Below.refl _ _⟩
  case round =>
    obtain ⟨i, rfl, hi, ho, hsp, hbel⟩ := hrel
    subst hsp
    have HO := Lib.hid ho
    have HBR := Lib.hid hbel
    have hLl := HL.out
    by_cases hlt : i < l.length
    · have hks : i < s.size := by omega
      have hltI : (i : Int) < s.size := by omega
      have hx := HB.out i hks hlt
      have HFS := Lib.hid (foldQ_succ hlt)
      have hpl : (foldQ (l.take i)).1.length ≤ 1000000 := by have := foldQ_len (l.take i); rw [List.length_take] at this; omega
      have hlen := ho.isB.len (P := Tryz.prog) ulB
      generalize foldQ (l.take i) = st at *
      obtain ⟨p, sp⟩ := st
      simp only at ho HO hpl hlen
      generalize l[i] = c at *
      have hc0 := bi_pos c
      have hc1 := bi_lt c
      have hbc : bi c = (c.toNat : Int) := rfl
      have HPL := Lib.hid hpl
      by_cases h32 : c = 32
      · subst h32
        have hb : bi 32 = 32 := rfl
        rw [hb] at hx
        have HF := Lib.hid (show foldT (p, sp) 32 = (p, true) by unfold foldT; rw [if_pos rfl])
        clear ho hbel hpl hbc hLl
        go_wp2_with fail
        go_roundw
        case rel => exact ⟨i + 1, by go_num, by omega, by rw [HFS.out, HF.out]; exact HO.out, by rw [HFS.out, HF.out], HBR.out⟩
        case measure => simp [intOf]; omega
      · have hn32 : (bi c == 32) = false := beq_eq_false_iff_ne.2 (fun e => h32 (bi_inj (e.trans rfl)))
        have hft : foldT (p, sp) c = ((if sp && decide (0 < p.length) then p ++ [32] else p) ++ [lowC c], false) := by unfold foldT; rw [if_neg h32]
        obtain ⟨y, hy, hcase⟩ : ∃ y, bi (lowC c) = y ∧ ((65 ≤ bi c ∧ bi c ≤ 90 ∧ IntKind.u8.wrap (bi c + 32) = y) ∨ (bi c < 65 ∧ y = bi c) ∨ (90 < bi c ∧ y = bi c)) := by
          by_cases hup : 65 ≤ c.toNat ∧ c.toNat ≤ 90
          · have := (fold_up [] hup).2
            refine ⟨bi c + 32, by unfold lowC; rw [if_pos hup]; exact this, .inl ⟨by omega, by omega, by rw [IntKind.wrap_u8]; omega⟩⟩
          · refine ⟨bi c, by unfold lowC; rw [if_neg hup], ?_⟩
            rcases (show bi c < 65 ∨ 90 < bi c by omega) with h | h
            · exact .inr (.inl ⟨h, rfl⟩)
            · exact .inr (.inr ⟨h, rfl⟩)
        have HY := Lib.hid hy
        clear ho hbel hbc hLl hy h32
        by_cases h0 : 0 < p.length
        · have h0I : (0 : Int) < p.length := by omega
          rw [decide_eq_true h0, Bool.and_true] at hft
          have hd1 : decide (0 < p.length) = true := decide_eq_true h0
          cases sp with
          | true =>
            simp only [if_true] at hft
            have HF := Lib.hid hft
            clear hft hpl
            rcases hcase with ⟨h1, h2, h3⟩ | ⟨h1, rfl⟩ | ⟨h1, rfl⟩
            all_goals
              generalize bi c = b at *
              go_wp2_with (at_builtin; refine wpList_appB _ rfl _ _ 33 rfl w.heap.size 5 ulB infoB _ _ rfl (HO.out.alloc _) _ _ rfl (isB_new _ _ 32 _ rfl) ?k1 ?k2 ?_)
              case k1 => have := HPL.out; simp; omega
              case k2 => have := HBR.out.size; simp; omega
              intro v2 w2 ho2 _ hb2
              have HO2 := Lib.hid ho2
              have HB2 := Lib.hid ((HBR.out.alloc HBR.out.size (.cells #[.int .u8 32] 5)).trans hb2)
              clear ho2 hb2
              go_wp2_with (at_builtin; refine wpList_appB _ rfl _ _ 33 rfl w.heap.size 5 ulB infoB _ _ rfl (HO2.out.alloc _) _ _ rfl (isB_new _ _ _ _ HY.out) ?k1 ?k2 ?_)
              case k1 => have := HPL.out; simp; omega
              case k2 => have := HB2.out.size; simp; omega
              intro v3 w3 ho3 _ hb3
              have HO3 := Lib.hid ho3
              have HB3 := Lib.hid ((HB2.out.alloc HB2.out.size _).trans hb3)
              clear ho3 hb3
              go_wp2
              go_roundw
              case rel => exact ⟨i + 1, by go_num, by omega, by rw [HFS.out, HF.out]; first | exact HO3.out | simpa using HO3.out, by rw [HFS.out, HF.out], HB3.out⟩
              case measure => simp [intOf]; omega
          | false =>
            simp only [Bool.false_eq_true, if_false] at hft
            have HF := Lib.hid hft
            clear hft hpl
            rcases hcase with ⟨h1, h2, h3⟩ | ⟨h1, rfl⟩ | ⟨h1, rfl⟩
            all_goals
              generalize bi c = b at *
              go_wp2_with (at_builtin; refine wpList_appB _ rfl _ _ 33 rfl w.heap.size 5 ulB infoB _ _ rfl (HO.out.alloc _) _ _ rfl (isB_new _ _ _ _ HY.out) ?k1 ?k2 ?_)
              case k1 => have := HPL.out; simp; omega
              case k2 => have := HBR.out.size; simp; omega
              intro v3 w3 ho3 _ hb3
              have HO3 := Lib.hid ho3
              have HB3 := Lib.hid ((HBR.out.alloc HBR.out.size _).trans hb3)
              clear ho3 hb3
              go_wp2
              go_roundw
              case rel => exact ⟨i + 1, by go_num, by omega, by rw [HFS.out, HF.out]; first | exact HO3.out | simpa using HO3.out, by rw [HFS.out, HF.out], HB3.out⟩
              case measure => simp [intOf]; omega
        · have h0I : (p.length : Int) ≤ 0 := by omega
          have hp0 : (p.length : Int) = 0 := by omega
          have hd1 : decide (0 < p.length) = false := decide_eq_false h0
          rw [hd1, Bool.and_false] at hft
          simp only [Bool.false_eq_true, if_false] at hft
          have HF := Lib.hid hft
          clear hft hpl
          cases sp <;> rcases hcase with ⟨h1, h2, h3⟩ | ⟨h1, rfl⟩ | ⟨h1, rfl⟩
          all_goals
            generalize bi c = b at *
            go_wp2_with (at_builtin; refine wpList_appB _ rfl _ _ 33 rfl w.heap.size 5 ulB infoB _ _ rfl (HO.out.alloc _) _ _ rfl (isB_new _ _ _ _ HY.out) ?k1 ?k2 ?_)
            case k1 => have := HPL.out; simp; omega
            case k2 => have := HBR.out.size; simp; omega
            intro v3 w3 ho3 _ hb3
            have HO3 := Lib.hid ho3
            have HB3 := Lib.hid ((HBR.out.alloc HBR.out.size _).trans hb3)
            clear ho3 hb3
            go_wp2
            go_roundw
            case rel => exact ⟨i + 1, by go_num, by omega, by rw [HFS.out, HF.out]; first | exact HO3.out | simpa using HO3.out, by rw [HFS.out, HF.out], HB3.out⟩
            case measure => simp [intOf]; omega
    · have hie : i = l.length := by omega
      have hge : (s.size : Int) ≤ i := by omega
      rw [hie, List.take_length] at ho
      have hcv := isB_bstr ho.isB
      rw [HRR.out] at hcv
      obtain ⟨A3, k3, hv3⟩ := isB_slice ho.isB
      subst hv3
      clear ho hie hlt hi hbel
      go_wp2_with fail
      go_ret
      exact ⟨rfl, HBR.out⟩
end Go.Proofs.YtlmnmgokfnnbbaaGreatDoor
end
