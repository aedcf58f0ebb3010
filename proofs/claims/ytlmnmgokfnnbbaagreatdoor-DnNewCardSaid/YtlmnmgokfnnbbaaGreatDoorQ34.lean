/- The parts MatA, MatB, MatC, TxtA, TxtC, AwkD, AwkE, DnK of one proof, one behind the other. -/
import Derived.Test.YtlmnmgokfnnbbaaGreatDoorQ24
import Derived.Test.YtlmnmgokfnnbbaaGreatDoorQ28
import Derived.Test.YtlmnmgokfnnbbaaGreatDoorQ29
import Derived.Test.YtlmnmgokfnnbbaaGreatDoorQ33
import Derived.Test.YtlmnmgokfnnbbaaGreatDoorQ03
import Derived.Test.YtlmnmgokfnnbbaaGreatDoorQ11
import Derived.Test.YtlmnmgokfnnbbaaGreatDoorQ22
import Derived.Test.YtlmnmgokfnnbbaaGreatDoorQ08
import Derived.Test.YtlmnmgokfnnbbaaGreatDoorQ05
import Derived.Laws.AppendOwn
import Derived.Test.YtlmnmgokfnnbbaaGreatDoorQ09

/- Walks over bytes.Equal and dn.match. -/
section
set_option linter.unusedSimpArgs false
set_option linter.unusedVariables false
namespace Go.Proofs.YtlmnmgokfnnbbaaGreatDoor
open Go.RowKit Go.Cr
def sameO : Option (Int × List UInt8) → Option (Int × List UInt8) → Bool
  | some s, some t => sameT s t
  | _, _ => false
def matchX (a b : At) : Bool := decide (a.1 = b.1) && (sameO (dirD a.2) (dirD b.2) || decide (a.2 = b.2))

set_option maxRecDepth 100000 in
set_option maxHeartbeats 2000000 in
theorem equal_any (a b : Value) (la lb : List UInt8) (w : World) (ha : IsB w a la) (hb : IsB w b lb) : Calls Tryz.prog 107 #[a, b] w (RetB (.bool (decide (la = lb))) w) := by
  have h1 := isB_bstr ha
  have h2 := isB_bstr hb
  have hE := bstr_eq la lb
  clear ha hb
  generalize decide (la = lb) = E at *
  generalize bStr la = s at *
  generalize bStr lb = s' at *
  go_enter Tryz.func107, Tryz.ntmps107
  go_wp2
  go_ret
  exact ⟨by first | rfl | simp [*], by ((repeat' (first | (with_reducible exact Below.refl _ _) | (with_reducible assumption) | (with_reducible refine Below.setCell ?_ ?_ _) | (with_reducible refine Below.alloc ?_ ?_ _) | (with_reducible refine Below.drew ?_) | (with_reducible refine below_drewN ?_ _) | (with_reducible refine Below.step (by with_reducible assumption) ?_ ?_))) <;> (first | omega | (simp; done) | (simp; omega)))⟩
theorem dir_uni (o : Option (Int × List UInt8)) : ∃ kk ss, txV o = .agg #[.int .i64 kk, .string ss] ∧ ∀ k s, o = some (k, s) → kk = k ∧ ss = bStr s := by
  cases o with
  | none => exact ⟨0, ⟨#[]⟩, rfl, fun k s h => by cases h⟩
  | some p => obtain ⟨k, s⟩ := p; exact ⟨k, bStr s, rfl, fun k' s' h => by injection h with h; injection h with h1 h2; subst h1 h2; exact ⟨rfl, rfl⟩⟩
theorem dirD_str {b : List UInt8} {p : Int × List UInt8} (h : dirD b = some p) : strD b = some p := by
  unfold dirD at h
  split at h
  · cases h
  · rename_i k s hs
    split at h
    · cases h
    · rw [hs]; exact h
set_option maxRecDepth 100000 in
set_option maxHeartbeats 8000000 in
theorem match_any (s1 s2 : ByteArray) (v1 v2 : Value) (l1 l2 : List UInt8) (w : World) (hG : Glo w) (h1 : IsB w v1 l1) (h2 : IsB w v2 l2) (n1 : l1.length ≤ 100000) (n2 : l2.length ≤ 100000) :
    Calls Tryz.prog 71 #[.agg #[.string s1, v1], .agg #[.string s2, v2]] w (RetB (.bool (matchX (s1, l1) (s2, l2))) w) := by
  have HD1 : Hid (∀ W, Glo W → IsB W v1 l1 → Calls Tryz.prog 105 #[v1] W (RetStr (dirD l1) W)) := fun W g h => directory_any v1 l1 W g h (by omega) (fun x _ => kindOk_all _)
  have HD2 : Hid (∀ W, Glo W → IsB W v2 l2 → Calls Tryz.prog 105 #[v2] W (RetStr (dirD l2) W)) := fun W g h => directory_any v2 l2 W g h (by omega) (fun x _ => kindOk_all _)
  obtain ⟨kk1, ss1, ht1, hs1⟩ := dir_uni (dirD l1)
  obtain ⟨kk2, ss2, ht2, hs2⟩ := dir_uni (dirD l2)
  have HS : Hid ((dirD l1).isSome = true → (dirD l2).isSome = true → ∀ W, Glo W → Calls Tryz.prog 106 #[.agg #[.int .i64 kk1, .string ss1], .agg #[.int .i64 kk2, .string ss2]] W (RetB (.bool (sameO (dirD l1) (dirD l2))) W)) := fun i1 i2 W g => by
    obtain ⟨⟨k1, t1⟩, e1⟩ := Option.isSome_iff_exists.1 i1
    obtain ⟨⟨k2, t2⟩, e2⟩ := Option.isSome_iff_exists.1 i2
    obtain ⟨rfl, rfl⟩ := hs1 _ _ e1
    obtain ⟨rfl, rfl⟩ := hs2 _ _ e2
    have z1 := strD_len (by omega) (dirD_str e1)
    have z2 := strD_len (by omega) (dirD_str e2)
    have e0 : ∀ s : List UInt8, (bStr s).size = s.length := fun s => by show s.toArray.size = _; simp
    have d0 : ∀ s : List UInt8, (bStr s).data.toList = s := fun s => by simp [bStr]
    have := same_any kk1 kk2 (bStr t1) (bStr t2) W g (by rw [e0]; omega) (by rw [e0]; omega)
    rw [d0, d0] at this
    rw [e1, e2]
    exact this
  have hno : (dirD l1).isSome = false ∨ (dirD l2).isSome = false → sameO (dirD l1) (dirD l2) = false := fun h => by
    cases hd1 : dirD l1 <;> cases hd2 : dirD l2 <;> rw [hd1, hd2] at h <;> simp [sameO] at h ⊢
  have HNO := Lib.hid hno
  unfold RetStr at HD1 HD2
  rw [ht1] at HD1
  rw [ht2] at HD2
  have HEQ := Lib.hid (fun W (a : IsB W v1 l1) (b : IsB W v2 l2) => equal_any v1 v2 l1 l2 W a b)
  have hm : matchX (s1, l1) (s2, l2) = (decide (s1 = s2) && (sameO (dirD l1) (dirD l2) || decide (l1 = l2))) := rfl
  rw [hm]
  generalize sameO (dirD l1) (dirD l2) = S at *
  generalize (dirD l1).isSome = B1 at *
  generalize (dirD l2).isSome = B2 at *
  generalize decide (l1 = l2) = E at *
  obtain ⟨A1, c1, rfl⟩ := isB_slice h1
  obtain ⟨A2, c2, rfl⟩ := isB_slice h2
  have HV1 := Lib.hid h1
  have HV2 := Lib.hid h2
  have HG := Lib.hid hG
  by_cases hs : s1 = s2
  · subst hs
    have hse : (s1.toList != s1.toList) = false := by simp
    have hse2 : (s1.toList == s1.toList) = true := by simp
    rw [decide_eq_true rfl, Bool.true_and]
    clear hs1 hs2 ht1 ht2 hno hm n1 n2 h1 h2 hG
    cases B1 <;> cases B2 <;> cases S
    all_goals (first | (exact absurd (HNO.out (by decide)) (by decide)) | skip)
    all_goals
      go_enter Tryz.func71, Tryz.ntmps71
      have HK2 := Lib.hid (show Blk ((w.alloc (.cells #[.string s1, .slice A1 l1.length c1] 58)).alloc (.cells #[.string s1, .slice A2 l2.length c2] 58)) (w.heap.size + 1) 58 #[.string s1, .slice A2 l2.length c2] by
        have := Blk.new (w.alloc (.cells #[.string s1, .slice A1 l1.length c1] 58)) 58 #[.string s1, .slice A2 l2.length c2]
        simpa using this)
      go_wp2_with (first
        | ((go_at_call 105); (with_reducible refine (HD1.out _ ((HG.out.alloc _).alloc _) ((HV1.out.alloc _).alloc _)).mono ?_); rintro e w1 ⟨rfl, hb1⟩; have K1 := Lib.hid (((Blk.new w 58 #[.string s1, .slice A1 l1.length c1]).alloc (.cells #[.string s1, .slice A2 l2.length c2] 58)).call hb1); have K2 := Lib.hid (HK2.out.call hb1); have q1 := K1.out.q; have q2 := K2.out.q; have k1 := K1.out.lt; have k2 := K2.out.lt; have HG1 := Lib.hid (((HG.out.alloc (.cells #[.string s1, .slice A1 l1.length c1] 58)).alloc (.cells #[.string s1, .slice A2 l2.length c2] 58)).below hb1); have HV11 := Lib.hid (((HV1.out.alloc (.cells #[.string s1, .slice A1 l1.length c1] 58)).alloc (.cells #[.string s1, .slice A2 l2.length c2] 58)).below hb1); have HV21 := Lib.hid (((HV2.out.alloc (.cells #[.string s1, .slice A1 l1.length c1] 58)).alloc (.cells #[.string s1, .slice A2 l2.length c2] 58)).below hb1); have hcur := Lib.hid ((((Below.refl w.heap.size w).alloc (Nat.le_refl _) (.cells #[.string s1, .slice A1 l1.length c1] 58)).alloc (by simp) (.cells #[.string s1, .slice A2 l2.length c2] 58)).trans (hb1.mono (by simp; omega))); clear hb1)
        | ((go_at_call 105); (with_reducible refine (HD2.out _ (HG1.out.alloc _) (HV21.out.alloc _)).mono ?_); rintro e w2 ⟨rfl, hb2⟩; have KT := Lib.hid ((Blk.new w1 97 #[.int .i64 kk1, .string ss1]).call hb2); have K1 := Lib.hid ((K1.out.alloc (.cells #[.int .i64 kk1, .string ss1] 97)).call hb2); have K2 := Lib.hid ((K2.out.alloc (.cells #[.int .i64 kk1, .string ss1] 97)).call hb2); have q1 := K1.out.q; have q2 := K2.out.q; have k1 := K1.out.lt; have k2 := K2.out.lt; have qT := KT.out.q; have kT := KT.out.lt; have HG2 := Lib.hid ((HG1.out.alloc (.cells #[.int .i64 kk1, .string ss1] 97)).below hb2); have HV12 := Lib.hid ((HV11.out.alloc (.cells #[.int .i64 kk1, .string ss1] 97)).below hb2); have HV22 := Lib.hid ((HV21.out.alloc (.cells #[.int .i64 kk1, .string ss1] 97)).below hb2); have hz1 := hcur.out.size; have hcur := Lib.hid ((hcur.out.alloc hz1 (.cells #[.int .i64 kk1, .string ss1] 97)).trans (hb2.mono (by simp; omega))); clear hb2)
        | ((go_at_call 106); (with_reducible refine (HS.out (by trivial) (by trivial) _ (HG2.out.alloc _)).mono ?_); rintro e w3 ⟨rfl, hb3⟩; have K1 := Lib.hid ((K1.out.alloc (.cells #[.int .i64 kk2, .string ss2] 97)).call hb3); have K2 := Lib.hid ((K2.out.alloc (.cells #[.int .i64 kk2, .string ss2] 97)).call hb3); have q1 := K1.out.q; have q2 := K2.out.q; have k1 := K1.out.lt; have k2 := K2.out.lt; have HV13 := Lib.hid ((HV12.out.alloc (.cells #[.int .i64 kk2, .string ss2] 97)).below hb3); have HV23 := Lib.hid ((HV22.out.alloc (.cells #[.int .i64 kk2, .string ss2] 97)).below hb3); have hz2 := hcur.out.size; have hcur := Lib.hid ((hcur.out.alloc hz2 (.cells #[.int .i64 kk2, .string ss2] 97)).trans (hb3.mono (by simp; omega))); clear hb3)
        | ((go_at_call 107); (with_reducible refine (HEQ.out _ HV13.out HV23.out).mono ?_); rintro e w4 ⟨rfl, hb4⟩; have hcur := Lib.hid (hcur.out.trans (hb4.mono hcur.out.size)); clear hb4)
        | ((go_at_call 107); (with_reducible refine (HEQ.out _ (HV12.out.alloc _) (HV22.out.alloc _)).mono ?_); rintro e w4 ⟨rfl, hb4⟩; have hz2 := hcur.out.size; have hcur := Lib.hid ((hcur.out.alloc hz2 (.cells #[.int .i64 kk2, .string ss2] 97)).trans (hb4.mono (by simp; omega))); clear hb4))
      go_ret
      exact ⟨by first | rfl | simp [*], hcur.out⟩
  · have hse : (s1.toList == s2.toList) = false := str_ne hs
    have hse2 : (s1.toList != s2.toList) = true := by simp [bne, hse]
    rw [decide_eq_false hs, Bool.false_and]
    clear hs1 hs2 ht1 ht2 hno hm n1 n2 h1 h2 hG hs
    go_enter Tryz.func71, Tryz.ntmps71
    go_wp2_with fail
    go_ret
    exact ⟨rfl, by ((repeat' (first | (with_reducible exact Below.refl _ _) | (with_reducible assumption) | (with_reducible refine Below.setCell ?_ ?_ _) | (with_reducible refine Below.alloc ?_ ?_ _) | (with_reducible refine Below.drew ?_) | (with_reducible refine below_drewN ?_ _) | (with_reducible refine Below.step (by with_reducible assumption) ?_ ?_))) <;> (first | omega | (simp; done) | (simp; omega)))⟩
end Go.Proofs.YtlmnmgokfnnbbaaGreatDoor
end

/- Walks over dn.covers and what it hands to slices.ContainsFunc. -/
section
set_option linter.unusedSimpArgs false
set_option linter.unusedVariables false
namespace Go.Proofs.YtlmnmgokfnnbbaaGreatDoor
open Go.RowKit Go.Cr
def coversX (r s : Rdn) : Bool := !(r.any fun a => !(s.any fun b => matchX a b))
def RetIq (b : Bool) (w : World) (e : Ending) (w' : World) : Prop := ∃ r : Int, e = .returned (.int .i64 r) ∧ decide (r ≥ 0) = b ∧ Below w.heap.size w w'
def IqRel (p : Nat → Bool) (n : Nat) (w : World) (ix : Value) (wr : World) : Prop := ∃ i : Nat, ix = .int .i64 (i : Int) ∧ i ≤ n ∧ (∀ j, j < i → p j = false) ∧ Below w.heap.size w wr
set_option maxRecDepth 100000 in
set_option maxHeartbeats 4000000 in
theorem idxR (k g : Nat) (I : World → Prop) (p : At → Bool) (v : Value) (r : Rdn) (w : World) (he : ∀ args W, (callFunc k args).run Tryz.prog W = .ok (.enter k args) W) (hI : ∀ W, Below w.heap.size w W → I W) (hv : IsQs w v r) (hn : r.length ≤ 10000)
    (hF : ∀ i (_ : i < r.length) A c W, I W → IsB W (.slice A r[i].2.length c) r[i].2 → Calls Tryz.prog k #[.agg #[.string r[i].1, .slice A r[i].2.length c], .pointer (some ⟨g, 0, none⟩)] W (RetB (.bool (p r[i])) W)) :
    Calls Tryz.prog 104 #[v, .func (.func k) #[] #[.pointer (some ⟨g, 0, none⟩)]] w (RetIq (r.any p) w) := by
  have hlen := hv.len (P := Tryz.prog) ulRdn
  have HI := Lib.hid hI
  have HF := Lib.hid hF
  have HV := Lib.hid hv
  obtain ⟨A, c, rfl⟩ := isQs_slice hv
  obtain ⟨B, hB⟩ : ∃ B, r.any p = B := ⟨_, rfl⟩
  rw [hB]
  have HBB := Lib.hid hB
  have hnI : (r.length : Int) ≤ 10000 := by omega
  clear hI hF hv hn hB
  go_enter Tryz.func104, Tryz.ntmps104
  go_wp2_with fail
  go_loopw [8] (fun ix wr => IqRel (fun j => p (r.getD j default)) r.length w ix wr) (fun ix _ => r.length + 1 - (intOf ix).toNat)
  case atStart => exact ⟨0, rfl, Nat.zero_le _, fun j h => by omega, Below.refl _ _⟩
  case round =>
    obtain ⟨i, rfl, hi, hall, hbel⟩ := hrel
    have HALL := Lib.hid hall
    have HBR := Lib.hid hbel
    clear hall
    by_cases hlt : i < r.length
    · obtain ⟨b2, o2, A2, k2, hi2, hl2, hc1, hc2, hIB⟩ := (HV.out.below hbel).at_ (P := Tryz.prog) ulRdn szAtt .i64 i hlt
      have hgd : r.getD i default = r[i] := by simp [hlt]
      have hltI : (i : Int) < r.length := by omega
      have HC := Lib.hid (HF.out i hlt A2 k2 wr (HI.out wr hbel) hIB)
      have HM : Hid (p r[i] = true → B = true) := Lib.hid (fun h => by rw [← HBB.out, List.any_eq_true]; exact ⟨r[i], List.getElem_mem hlt, h⟩)
      obtain ⟨C, hC⟩ : ∃ C, p r[i] = C := ⟨_, rfl⟩
      rw [hC] at HC HM
      have HCC := Lib.hid (show p (r.getD i default) = C by rw [hgd, hC])
      clear hC hgd hIB hbel
      generalize r[i] = a at *
      obtain ⟨s0, l0⟩ := a
      simp only at HC hc1 hc2
      cases C with
      | false =>
        go_wp2_with (go_at_fn k; refine HC.out.mono ?_; rintro e w3 ⟨rfl, hbw3⟩; have HB3 := Lib.hid (HBR.out.trans (hbw3.mono HBR.out.size)); clear hbw3)
        go_roundw
        case rel =>
          refine ⟨i + 1, by go_num, by omega, fun j hj => ?_, HB3.out⟩
          by_cases hji : j < i
          · exact HALL.out j hji
          · obtain rfl : j = i := by omega
            exact HCC.out
        case measure => simp [intOf]; omega
      | true =>
        have HBT := Lib.hid (HM.out rfl)
        go_wp2_with (go_at_fn k; refine HC.out.mono ?_; rintro e w3 ⟨rfl, hbw3⟩; have HB3 := Lib.hid (HBR.out.trans (hbw3.mono HBR.out.size)); clear hbw3)
        go_ret
        exact ⟨_, rfl, by rw [HBT.out]; exact decide_eq_true (by omega), HB3.out⟩
    · have hBf : B = false := by
        rw [← HBB.out, Bool.eq_false_iff]
        intro h
        obtain ⟨x, hx, hh⟩ := List.any_eq_true.1 h
        obtain ⟨j, hj, rfl⟩ := List.getElem_of_mem hx
        have := HALL.out j (by omega)
        simp only [show r.getD j default = r[j] by simp [hj], hh] at this
        cases this
      have HBF := Lib.hid hBf
      have hge : (r.length : Int) ≤ i := by omega
      clear hlt hi hBf hbel
      go_wp2_with fail
      go_ret
      exact ⟨_, rfl, by rw [HBF.out]; rfl, HBR.out⟩
set_option maxRecDepth 100000 in
set_option maxHeartbeats 4000000 in
theorem anyR (k g : Nat) (I : World → Prop) (p : At → Bool) (v : Value) (r : Rdn) (w : World) (he : ∀ args W, (callFunc k args).run Tryz.prog W = .ok (.enter k args) W) (hI : ∀ W, Below w.heap.size w W → I W) (hv : IsQs w v r) (hn : r.length ≤ 10000)
    (hF : ∀ i (_ : i < r.length) A c W, I W → IsB W (.slice A r[i].2.length c) r[i].2 → Calls Tryz.prog k #[.agg #[.string r[i].1, .slice A r[i].2.length c], .pointer (some ⟨g, 0, none⟩)] W (RetB (.bool (p r[i])) W)) :
    Calls Tryz.prog 68 #[v, .func (.func k) #[] #[.pointer (some ⟨g, 0, none⟩)]] w (RetB (.bool (r.any p)) w) := by
  have HI := Lib.hid (idxR k g I p v r w he hI hv hn hF)
  obtain ⟨A, c, rfl⟩ := isQs_slice hv
  clear hv hn hF hI he
  generalize r.any p = B at *
  go_enter Tryz.func68, Tryz.ntmps68
  go_wp2_with (((go_at_call 104); (with_reducible refine (HI.out).mono ?_); rintro e w1 ⟨r, rfl, hr, hbw1⟩))
  go_ret
  exact ⟨by (first | rw [← hr]; rfl | simp [hr]), hbw1⟩
theorem enCv1 : ∀ args W, (callFunc 69 args).run Tryz.prog W = .ok (.enter 69 args) W := enters_of Tryz.func69 (by kernel_rfl) rfl
theorem enCv2 : ∀ args W, (callFunc 70 args).run Tryz.prog W = .ok (.enter 70 args) W := enters_of Tryz.func70 (by kernel_rfl) rfl
set_option maxRecDepth 100000 in
set_option maxHeartbeats 4000000 in
theorem cov11 (sb sa : ByteArray) (vb va : Value) (lb la : List UInt8) (g : Nat) (w : World) (hG : Glo w) (hg : Blk w g 58 #[.string sa, va]) (ha : IsB w va la) (hb : IsB w vb lb) (na : la.length ≤ 100000) (nb : lb.length ≤ 100000) :
    Calls Tryz.prog 70 #[.agg #[.string sb, vb], .pointer (some ⟨g, 0, none⟩)] w (RetB (.bool (matchX (sa, la) (sb, lb))) w) := by
  have HM := Lib.hid (match_any sa sb va vb la lb (w.alloc (.cells #[.string sb, vb] 58)) (hG.alloc _) (ha.alloc _) (hb.alloc _) na nb)
  obtain ⟨A1, c1, rfl⟩ := isB_slice ha
  obtain ⟨A2, c2, rfl⟩ := isB_slice hb
  have K := hg.alloc (.cells #[.string sb, .slice A2 lb.length c2] 58)
  have q0 := hg.q
  have l0 := hg.lt
  clear hG hg ha hb na nb K
  generalize matchX (sa, la) (sb, lb) = B at *
  go_enter Tryz.func70, Tryz.ntmps70
  go_wp2_with (((go_at_call 71); (with_reducible refine HM.out.mono ?_); rintro e w1 ⟨rfl, hb1⟩))
  go_ret
  exact ⟨rfl, ((Below.refl w.heap.size w).alloc (Nat.le_refl _) _).trans (hb1.mono (by simp))⟩
set_option maxRecDepth 100000 in
set_option maxHeartbeats 4000000 in
theorem cov1 (sa : ByteArray) (va : Value) (la : List UInt8) (vs : Value) (s : Rdn) (g : Nat) (w : World) (hG : Glo w) (hg : Blk w g 30 #[vs]) (ha : IsB w va la) (hs : IsQs w vs s) (na : la.length ≤ 100000) (ns : SzR s) :
    Calls Tryz.prog 69 #[.agg #[.string sa, va], .pointer (some ⟨g, 0, none⟩)] w (RetB (.bool (!(s.any fun b => matchX (sa, la) b))) w) := by
  obtain ⟨A1, c1, rfl⟩ := isB_slice ha
  have HC := Lib.hid (anyR 70 w.heap.size (fun W => Glo W ∧ Blk W w.heap.size 58 #[.string sa, .slice A1 la.length c1] ∧ IsB W (.slice A1 la.length c1) la) (fun b => matchX (sa, la) b) vs s (w.alloc (.cells #[.string sa, .slice A1 la.length c1] 58)) enCv2
    (fun W hW => ⟨(hG.alloc _).below hW, (Blk.new _ _ _).call hW, (ha.alloc _).below hW⟩) (hs.alloc _) ns.1
    (fun i hi A c W ⟨k1, k2, k3⟩ hB => cov11 _ sa _ _ _ la _ W k1 k2 k3 hB na (ns.2.1 _ (List.getElem_mem hi)).2))
  obtain ⟨A2, c2, rfl⟩ := isQs_slice hs
  have q0 := hg.q
  have l0 := hg.lt
  clear hG hg ha hs na ns
  generalize (s.any fun b => matchX (sa, la) b) = B at *
  go_enter Tryz.func69, Tryz.ntmps69
  go_wp2_with (((go_at_call 68); (with_reducible refine HC.out.mono ?_); rintro e w1 ⟨rfl, hb1⟩))
  go_ret
  exact ⟨rfl, ((Below.refl w.heap.size w).alloc (Nat.le_refl _) _).trans (hb1.mono (by simp))⟩
set_option maxRecDepth 100000 in
set_option maxHeartbeats 4000000 in
theorem covers_any (vr vs : Value) (r s : Rdn) (w : World) (hG : Glo w) (hr : IsQs w vr r) (hs : IsQs w vs s) (nr : SzR r) (ns : SzR s) : Calls Tryz.prog 42 #[vr, vs] w (RetB (.bool (coversX r s)) w) := by
  have HC := Lib.hid (anyR 69 w.heap.size (fun W => Glo W ∧ Blk W w.heap.size 30 #[vs] ∧ IsQs W vs s) (fun a => !(s.any fun b => matchX a b)) vr r (w.alloc (.cells #[vs] 30)) enCv1
    (fun W hW => ⟨(hG.alloc _).below hW, (Blk.new _ _ _).call hW, (hs.alloc _).below hW⟩) (hr.alloc _) nr.1
    (fun i hi A c W ⟨k1, k2, k3⟩ hB => cov1 _ _ _ vs s _ W k1 k2 hB k3 (nr.2.1 _ (List.getElem_mem hi)).2 ns))
  obtain ⟨A1, c1, rfl⟩ := isQs_slice hr
  obtain ⟨A2, c2, rfl⟩ := isQs_slice hs
  have hc : coversX r s = !(r.any fun a => !(s.any fun b => matchX a b)) := rfl
  rw [hc]
  clear hG hr hs nr ns hc
  generalize (r.any fun a => !(s.any fun b => matchX a b)) = B at *
  go_enter Tryz.func42, Tryz.ntmps42
  go_wp2_with (((go_at_call 68); (with_reducible refine HC.out.mono ?_); rintro e w1 ⟨rfl, hb1⟩))
  go_ret
  exact ⟨rfl, ((Below.refl w.heap.size w).alloc (Nat.le_refl _) _).trans (hb1.mono (by simp))⟩
end Go.Proofs.YtlmnmgokfnnbbaaGreatDoor
end

/- Walks over dn.Under and dn.Same. -/
section
set_option linter.unusedSimpArgs false
set_option linter.unusedVariables false
namespace Go.Proofs.YtlmnmgokfnnbbaaGreatDoor
open Go.RowKit Go.Cr
def cov2 (r s : Rdn) : Bool := decide (r.length = s.length) && (coversX r s && coversX s r)
def underX (n b : Nam) : Bool := ((marNm n).isSome && (marNm b).isSome && decide (b.length ≤ n.length)) && (List.range b.length).all fun i => cov2 (n.getD i []) (b.getD i [])
def sameX (a b : Nam) : Bool := decide (a.length = b.length) && underX a b
def UdRel (n b : Nam) (w : World) (ix : Value) (wr : World) : Prop := ∃ i : Nat, ix = .int .i64 (i : Int) ∧ i ≤ b.length ∧ (∀ j, j < i → cov2 (n.getD j []) (b.getD j []) = true) ∧ Below w.heap.size w wr
set_option maxRecDepth 100000 in
set_option maxHeartbeats 8000000 in
theorem under_any (vn vb : Value) (n b : Nam) (w : World) (hG : Glo w) (hn : IsNm w vn n) (hb : IsNm w vb b) (zn : SzNm n) (zb : SzNm b) : Calls Tryz.prog 18 #[vn, vb] w (RetB (.bool (underX n b)) w) := by
  have hlenn := hn.len (P := Tryz.prog) ulNam
  have hlenb := hb.len (P := Tryz.prog) ulNam
  have HV1 := Lib.hid (dnValid vn n w hG hn zn)
  have HV2 := Lib.hid (fun W (hW : Below w.heap.size w W) => dnValid vb b W (hG.below hW) (hb.below hW) zb)
  have HCV := Lib.hid (fun W vr vs r s (g : Glo W) (h1 : IsQs W vr r) (h2 : IsQs W vs s) (z1 : SzR r) (z2 : SzR s) => covers_any vr vs r s W g h1 h2 z1 z2)
  have HN := Lib.hid hn
  have HB := Lib.hid hb
  have HG := Lib.hid hG
  have HZN := Lib.hid zn.2.1
  have HZB := Lib.hid zb.2.1
  have zn1 := zn.1
  have zb1 := zb.1
  obtain ⟨A, c, rfl⟩ := isNm_slice hn
  obtain ⟨A', c', rfl⟩ := isNm_slice hb
  have hu : underX n b = (((marNm n).isSome && (marNm b).isSome && decide (b.length ≤ n.length)) && (List.range b.length).all fun i => cov2 (n.getD i []) (b.getD i [])) := rfl
  rw [hu]
  obtain ⟨R, hR⟩ : ∃ R, ((List.range b.length).all fun i => cov2 (n.getD i []) (b.getD i [])) = R := ⟨_, rfl⟩
  rw [hR]
  have HRY : Hid ((∀ j, j < b.length → cov2 (n.getD j []) (b.getD j []) = true) → R = true) := Lib.hid (fun h => by
    rw [← hR, List.all_eq_true]
    exact fun j hj => h j (List.mem_range.1 hj))
  have HRN : Hid (∀ j, j < b.length → cov2 (n.getD j []) (b.getD j []) = false → R = false) := Lib.hid (fun j hj h => by
    rw [← hR, Bool.eq_false_iff]
    intro ha
    have := List.all_eq_true.1 ha j (List.mem_range.2 hj)
    rw [h] at this
    cases this)
  clear hR hu hn hb hG zn zb
  generalize (marNm n).isSome = V1 at *
  generalize (marNm b).isSome = V2 at *
  cases V1 with
  | false =>
    go_enter Tryz.func18, Tryz.ntmps18
    go_wp2_with (((go_at_call 35); (with_reducible refine HV1.out.mono ?_); rintro e w1 ⟨rfl, hb1⟩))
    go_ret
    exact ⟨rfl, hb1⟩
  | true =>
    cases V2 with
    | false =>
      go_enter Tryz.func18, Tryz.ntmps18
      go_wp2_with (first | ((go_at_call 35); (with_reducible refine HV1.out.mono ?_); rintro e w1 ⟨rfl, hb1⟩; have hcur := Lib.hid hb1; clear hb1) | ((go_at_call 35); (with_reducible refine (HV2.out _ hcur.out).mono ?_); rintro e w2 ⟨rfl, hb2⟩; have hcur := Lib.hid (hcur.out.trans (hb2.mono hcur.out.size)); clear hb2))
      go_ret
      exact ⟨rfl, hcur.out⟩
    | true =>
      by_cases hL : b.length ≤ n.length
      · have hLI : (b.length : Int) ≤ n.length := by omega
        have hd1 : decide (n.length < b.length) = false := decide_eq_false (by omega)
        have hd2 : decide ((n.length : Int) < (b.length : Int)) = false := decide_eq_false (by omega)
        rw [decide_eq_true hL]
        simp only [Bool.and_self, Bool.true_and]
        go_enter Tryz.func18, Tryz.ntmps18
        go_wp2_with (first | ((go_at_call 35); (with_reducible refine HV1.out.mono ?_); rintro e w1 ⟨rfl, hb1⟩; have hcur := Lib.hid hb1; clear hb1) | ((go_at_call 35); (with_reducible refine (HV2.out _ hcur.out).mono ?_); rintro e w2 ⟨rfl, hb2⟩; have hcur := Lib.hid (hcur.out.trans (hb2.mono hcur.out.size)); clear hb2))
        go_loopw [25] (fun ix wr => UdRel n b w ix wr) (fun ix _ => b.length + 1 - (intOf ix).toNat)
        case atStart => exact ⟨0, rfl, Nat.zero_le _, fun j h => by omega, hcur.out⟩
        case round =>
          obtain ⟨i, rfl, hi, hall, hbel⟩ := hrel
          have HALL := Lib.hid hall
          have HBR := Lib.hid hbel
          clear hall
          by_cases hlt : i < b.length
          · have hltI : (i : Int) < b.length := by omega
            have hltn : i < n.length := by omega
            have hltnI : (i : Int) < n.length := by omega
            obtain ⟨b2, o2, A2, k2, hi2, hl2, hc2, hI2⟩ := (HN.out.below hbel).at_ (P := Tryz.prog) ulNam szRdn .i64 i hltn
            obtain ⟨b3, o3, A3, k3, hi3, hl3, hc3, hI3⟩ := (HB.out.below hbel).at_ (P := Tryz.prog) ulNam szRdn .i64 i hlt
            have zr := HZN.out _ (List.getElem_mem hltn)
            have zs := HZB.out _ (List.getElem_mem hlt)
            have hgn : n.getD i [] = n[i] := by simp [hltn]
            have hgb : b.getD i [] = b[i] := by simp [hlt]
            have HNO := Lib.hid (HRN.out i hlt)
            rw [hgn, hgb] at HNO
            have HGN := Lib.hid hgn
            have HGB := Lib.hid hgb
            have hlr := hI2.len (P := Tryz.prog) ulRdn
            have hls := hI3.len (P := Tryz.prog) ulRdn
            have HC1 := Lib.hid (HCV.out wr _ _ _ _ (HG.out.below hbel) hI2 hI3 zr zs)
            have HC2 : Hid (∀ W, Below wr.heap.size wr W → Calls Tryz.prog 42 #[.slice A3 b[i].length k3, .slice A2 n[i].length k2] W (RetB (.bool (coversX b[i] n[i])) W)) := Lib.hid (fun W hW => HCV.out W _ _ _ _ ((HG.out.below hbel).below hW) (hI3.below hW) (hI2.below hW) zs zr)
            clear hbel hgn hgb hI2 hI3 zr zs
            generalize n[i] = r at *
            generalize b[i] = s at *
            have hcv : cov2 r s = (decide (r.length = s.length) && (coversX r s && coversX s r)) := rfl
            have HCV2 := Lib.hid hcv
            clear hcv
            by_cases heq : r.length = s.length
            · have hE : ((r.length : Int) == (s.length : Int)) = true := by simp [heq]
              have hE2 : ((r.length : Int) != (s.length : Int)) = false := by simp [heq]
              have HEQ := Lib.hid heq
              clear heq
              generalize coversX r s = C1 at *
              generalize coversX s r = C2 at *
              cases C1 with
              | false =>
                have hf : cov2 r s = false := by rw [HCV2.out]; simp
                have HRF := Lib.hid (HNO.out hf)
                clear hf
                go_wp2_with (((go_at_call 42); (with_reducible refine HC1.out.mono ?_); rintro e w3 ⟨rfl, hb3⟩; have hcur := Lib.hid (HBR.out.trans (hb3.mono HBR.out.size)); clear hb3))
                go_ret
                exact ⟨by rw [HRF.out]; rfl, hcur.out⟩
              | true =>
                cases C2 with
                | false =>
                  have hf : cov2 r s = false := by rw [HCV2.out]; simp
                  have HRF := Lib.hid (HNO.out hf)
                  clear hf
                  go_wp2_with (first | ((go_at_call 42); (with_reducible refine HC1.out.mono ?_); rintro e w3 ⟨rfl, hb3⟩; have HB3 := Lib.hid hb3; have hcur := Lib.hid (HBR.out.trans (hb3.mono HBR.out.size)); clear hb3) | ((go_at_call 42); (with_reducible refine (HC2.out _ HB3.out).mono ?_); rintro e w4 ⟨rfl, hb4⟩; have hcur := Lib.hid (hcur.out.trans (hb4.mono hcur.out.size)); clear hb4))
                  go_ret
                  exact ⟨by rw [HRF.out]; rfl, hcur.out⟩
                | true =>
                  have ht : cov2 r s = true := by rw [HCV2.out, decide_eq_true HEQ.out]; rfl
                  have HT := Lib.hid ht
                  clear ht
                  go_wp2_with (first | ((go_at_call 42); (with_reducible refine HC1.out.mono ?_); rintro e w3 ⟨rfl, hb3⟩; have HB3 := Lib.hid hb3; have hcur := Lib.hid (HBR.out.trans (hb3.mono HBR.out.size)); clear hb3) | ((go_at_call 42); (with_reducible refine (HC2.out _ HB3.out).mono ?_); rintro e w4 ⟨rfl, hb4⟩; have hcur := Lib.hid (hcur.out.trans (hb4.mono hcur.out.size)); clear hb4))
                  go_roundw
                  case rel =>
                    refine ⟨i + 1, by go_num, by omega, fun j hj => ?_, hcur.out⟩
                    by_cases hji : j < i
                    · exact HALL.out j hji
                    · obtain rfl : j = i := by omega
                      rw [HGN.out, HGB.out]
                      exact HT.out
                  case measure => simp [intOf]; omega
            · have hE : ((r.length : Int) == (s.length : Int)) = false := beq_eq_false_iff_ne.2 (by omega)
              have hE2 : ((r.length : Int) != (s.length : Int)) = true := by simp [bne, hE]
              have hf : cov2 r s = false := by rw [HCV2.out, decide_eq_false heq]; rfl
              have HRF := Lib.hid (HNO.out hf)
              clear hf heq
              go_wp2_with fail
              go_ret
              exact ⟨by rw [HRF.out]; rfl, HBR.out⟩
          · have hge : (b.length : Int) ≤ i := by omega
            have HRT := Lib.hid (HRY.out (fun j hj => HALL.out j (by omega)))
            clear hlt hi hbel
            go_wp2_with fail
            go_ret
            exact ⟨by rw [HRT.out]; rfl, HBR.out⟩
      · have hLI : (n.length : Int) < b.length := by omega
        rw [decide_eq_false hL]
        simp only [Bool.and_self, Bool.and_false, Bool.false_and]
        go_enter Tryz.func18, Tryz.ntmps18
        go_wp2_with (first | ((go_at_call 35); (with_reducible refine HV1.out.mono ?_); rintro e w1 ⟨rfl, hb1⟩; have hcur := Lib.hid hb1; clear hb1) | ((go_at_call 35); (with_reducible refine (HV2.out _ hcur.out).mono ?_); rintro e w2 ⟨rfl, hb2⟩; have hcur := Lib.hid (hcur.out.trans (hb2.mono hcur.out.size)); clear hb2))
        go_ret
        exact ⟨rfl, hcur.out⟩
set_option maxRecDepth 100000 in
set_option maxHeartbeats 4000000 in
theorem dnSame (va vb : Value) (a b : Nam) (w : World) (hG : Glo w) (ha : IsNm w va a) (hb : IsNm w vb b) (za : SzNm a) (zb : SzNm b) : Calls Tryz.prog 16 #[va, vb] w (RetB (.bool (sameX a b)) w) := by
  have HU := Lib.hid (under_any va vb a b w hG ha hb za zb)
  have hla := ha.len (P := Tryz.prog) ulNam
  have hlb := hb.len (P := Tryz.prog) ulNam
  obtain ⟨A, c, rfl⟩ := isNm_slice ha
  obtain ⟨A', c', rfl⟩ := isNm_slice hb
  have hs : sameX a b = (decide (a.length = b.length) && underX a b) := rfl
  rw [hs]
  clear hs ha hb za zb hG
  generalize underX a b = U at *
  by_cases heq : a.length = b.length
  · have hE : ((a.length : Int) == (b.length : Int)) = true := by simp [heq]
    rw [decide_eq_true heq, Bool.true_and]
    clear heq
    go_enter Tryz.func16, Tryz.ntmps16
    go_wp2_with (((go_at_call 18); (with_reducible refine HU.out.mono ?_); rintro e w1 ⟨rfl, hb1⟩))
    go_ret
    exact ⟨rfl, hb1⟩
  · have hE : ((a.length : Int) == (b.length : Int)) = false := beq_eq_false_iff_ne.2 (by omega)
    rw [decide_eq_false heq, Bool.false_and]
    clear heq
    go_enter Tryz.func16, Tryz.ntmps16
    go_wp2_with fail
    go_ret
    exact ⟨rfl, Below.refl _ _⟩
end Go.Proofs.YtlmnmgokfnnbbaaGreatDoor
end

/- Walk over dn.value. -/
section
set_option linter.unusedSimpArgs false
set_option linter.unusedVariables false
namespace Go.Cr
open Go.RowKit
def specC (c : UInt8) : Bool := [44, 43, 61, 34, 92, 60, 62, 59, 35].contains c
def escC (c : UInt8) : List UInt8 := if specC c then [92, c] else [c]
def escL (s : List UInt8) : List UInt8 := s.flatMap escC
theorem escL_succ {s : List UInt8} {i : Nat} (h : i < s.length) : escL (s.take (i + 1)) = escL (s.take i) ++ escC s[i] := by
  unfold escL
  rw [List.take_succ_eq_append_getElem h, List.flatMap_append]
  simp
theorem escL_len (s : List UInt8) : (escL s).length ≤ 2 * s.length := by
  unfold escL
  induction s with
  | nil => simp
  | cons c t ih =>
    have : (escC c).length ≤ 2 := by unfold escC; split <;> simp
    simp only [List.flatMap_cons, List.length_append, List.length_cons]
    omega
theorem idx_ge (l : List UInt8) (c : UInt8) : decide (Lib.indexByte l c ≥ 0) = l.contains c := by
  induction l with
  | nil => rfl
  | cons b t ih =>
    unfold Lib.indexByte
    have hg := Lib.indexByte_ge t c
    by_cases hb : b = c
    · subst hb
      simp
    · have h1 : (b == c) = false := beq_eq_false_iff_ne.2 hb
      have h2 : (c == b) = false := beq_eq_false_iff_ne.2 (Ne.symm hb)
      rw [h1, List.contains_cons, h2, Bool.false_or, ← ih]
      simp only [Bool.false_eq_true, if_false]
      by_cases hm : Lib.indexByte t c = -1
      · rw [hm]; rfl
      · have h3 : (Lib.indexByte t c == -1) = false := beq_eq_false_iff_ne.2 hm
        rw [h3]
        simp only [Bool.false_eq_true, if_false]
        rw [decide_eq_decide]
        omega
end Go.Cr
namespace Go.Proofs.YtlmnmgokfnnbbaaGreatDoor
open Go.RowKit Go.Cr
def VeRel (s : List UInt8) (w : World) (out ix : Value) (wr : World) : Prop := ∃ i : Nat, ix = .int .i64 (i : Int) ∧ i ≤ s.length ∧ OwB wr w.heap.size 5 out (escL (s.take i)) ∧ Below w.heap.size w wr
set_option maxRecDepth 100000 in
set_option maxHeartbeats 8000000 in
theorem value_yes (v : Value) (b : List UInt8) (k : Int) (s : List UInt8) (w : World) (hG : Glo w) (hv : IsB w v b) (hb : b.length ≤ 100000) (hs : strD b = some (k, s)) : Calls Tryz.prog 45 #[v] w (RetB (.string (bStr (escL s))) w) := by
  have HST := Lib.hid (string_any v b w hG hv (by omega) (fun x _ => kindOk_all _))
  rw [hs] at HST
  unfold RetStr txV at HST
  simp only [Option.isSome_some] at HST
  have hsl := strD_len (by omega) hs
  have hsz : (bStr s).size = s.length := by show s.toArray.size = _; simp
  have hbt : ∀ (j : Nat) (h : j < (bStr s).size) (h2 : j < s.length), (((bStr s)[j]'h).toNat : Int) = bi s[j] := fun j h h2 => rfl
  have HBT := Lib.hid hbt
  have HIX : Hid (∀ (c : UInt8) W, ∃ X : Int, (decide (X ≥ 0) = specC c) ∧ Calls Tryz.prog 75 #[.string ⟨#[44, 43, 61, 34, 92, 60, 62, 59, 35]⟩, .int .u8 (bi c)] W (RetB (.int .i64 X) W)) := Lib.hid (fun c W => ⟨Lib.indexByte [44, 43, 61, 34, 92, 60, 62, 59, 35] c, idx_ge _ c, by
    refine (Tryz.strings_IndexByte ⟨#[44, 43, 61, 34, 92, 60, 62, 59, 35]⟩ (bi c) W).mono fun e w' ⟨he, hw⟩ => ?_
    subst hw
    refine ⟨?_, Below.refl _ _⟩
    rw [he]
    have : (bi c).toNat.toUInt8 = c := by unfold bi; rw [Int.toNat_natCast]; simp
    rw [this]⟩)
  obtain ⟨S, hS⟩ : ∃ S, bStr s = S := ⟨_, rfl⟩
  rw [hS] at HST hsz HBT
  have HSZ := Lib.hid hsz
  obtain ⟨R, hR⟩ : ∃ R, bStr (escL s) = R := ⟨_, rfl⟩
  rw [hR]
  have HR := Lib.hid hR
  obtain ⟨A, c, rfl⟩ := isB_slice hv
  clear hG hv hs hbt hS hR hsz
  go_enter Tryz.func45, Tryz.ntmps45
  go_wp2_with (((go_at_call 74); (with_reducible refine HST.out.mono ?_); rintro e w1 ⟨rfl, hb1⟩; have HB1 := Lib.hid hb1; clear hb1))
  have HK := Lib.hid (Blk.new w1 97 #[.int .i64 k, .string S])
  have HW0 := Lib.hid (HB1.out.alloc HB1.out.size (.cells #[.int .i64 k, .string S] 97))
  have hlk := HK.out.lt
  generalize w1.alloc (.cells #[.int .i64 k, .string S] 97) = w0 at *
  go_loopw [3, 38] (fun out ix wr => VeRel s w0 out ix wr) (fun _ ix _ => s.length + 1 - (intOf ix).toNat)
  case atStart => exact ⟨0, rfl, Nat.zero_le _, World.ownsRow_nil _ _ _ _, Below.refl _ _⟩
  case round =>
    obtain ⟨i, rfl, hi, ho, hbel⟩ := hrel
    have HO := Lib.hid ho
    have HBR := Lib.hid hbel
    have hszr := hbel.size
    have KJ := HK.out.below hbel hlk
    have qJ := KJ.q
    have hSl := HSZ.out
    by_cases hlt : i < s.length
    · have hks : i < S.size := by omega
      have hltI : (i : Int) < S.size := by omega
      have hx := HBT.out i hks hlt
      have HFS := Lib.hid (escL_succ hlt)
      have hpl : (escL (s.take i)).length ≤ 1000000 := by have := escL_len (s.take i); rw [List.length_take] at this; omega
      generalize escL (s.take i) = p at *
      generalize s[i] = c at *
      have hc0 := bi_pos c
      have hc1 := bi_lt c
      have HPL := Lib.hid hpl
      obtain ⟨X, hX, hcall⟩ := HIX.out c wr
      have HC := Lib.hid hcall
      have hec : escC c = if specC c then [92, c] else [c] := rfl
      cases hsp : specC c with
      | true =>
        rw [hsp] at hX hec
        have hXI : (0 : Int) ≤ X := of_decide_eq_true hX
        have HF := Lib.hid hec
        clear ho hbel hpl hcall hX hsp hec KJ hSl
        generalize hbq : bi c = y at *
        have HBQ := Lib.hid hbq
        clear hbq
        go_wp2_with (first | ((go_at_call 75); (with_reducible refine HC.out.mono ?_); rintro e w2 ⟨rfl, hb2⟩; have HO2 := Lib.hid (HO.out.below hb2); have HB2 := Lib.hid (HBR.out.trans (hb2.mono hszr)); have HK2 := Lib.hid (HK.out.below HB2.out hlk); have q2 := HK2.out.q; clear hb2) | (at_builtin; refine wpList_appB _ rfl _ _ 33 rfl w0.heap.size 5 ulB infoB _ _ rfl (HO2.out.alloc _) _ _ rfl (isB_new _ _ 92 _ rfl) ?k1 ?k2 ?_))
        case k1 => have := HPL.out; simp; omega
        case k2 => have := HB2.out.size; simp; omega
        intro v3 w3 ho3 _ hb3
        have HO3 := Lib.hid ho3
        have HB3 := Lib.hid ((HB2.out.alloc HB2.out.size (.cells #[.int .u8 92] 5)).trans hb3)
        have HK3 := Lib.hid (HK.out.below HB3.out hlk)
        have q3 := HK3.out.q
        clear ho3 hb3
        go_wp2_with (at_builtin; refine wpList_appB _ rfl _ _ 33 rfl w0.heap.size 5 ulB infoB _ _ rfl (HO3.out.alloc _) _ _ rfl (isB_new _ _ _ _ HBQ.out) ?k1 ?k2 ?_)
        case k1 => have := HPL.out; simp; omega
        case k2 => have := HB3.out.size; simp; omega
        intro v4 w4 ho4 _ hb4
        have HO4 := Lib.hid ho4
        have HB4 := Lib.hid ((HB3.out.alloc HB3.out.size (.cells #[.int .u8 y] 5)).trans hb4)
        clear ho4 hb4
        go_wp2
        go_roundw
        case rel => exact ⟨i + 1, by go_num, by omega, by rw [HFS.out, HF.out]; simpa using HO4.out, HB4.out⟩
        case measure => simp [intOf]; omega
      | false =>
        rw [hsp] at hX hec
        have hXI : X < (0 : Int) := by have := of_decide_eq_false hX; omega
        have HF := Lib.hid hec
        clear ho hbel hpl hcall hX hsp hec KJ hSl
        generalize hbq : bi c = y at *
        have HBQ := Lib.hid hbq
        clear hbq
        go_wp2_with (first | ((go_at_call 75); (with_reducible refine HC.out.mono ?_); rintro e w2 ⟨rfl, hb2⟩; have HO2 := Lib.hid (HO.out.below hb2); have HB2 := Lib.hid (HBR.out.trans (hb2.mono hszr)); have HK2 := Lib.hid (HK.out.below HB2.out hlk); have q2 := HK2.out.q; clear hb2) | (at_builtin; refine wpList_appB _ rfl _ _ 33 rfl w0.heap.size 5 ulB infoB _ _ rfl (HO2.out.alloc _) _ _ rfl (isB_new _ _ _ _ HBQ.out) ?k1 ?k2 ?_))
        case k1 => have := HPL.out; simp; omega
        case k2 => have := HB2.out.size; simp; omega
        intro v4 w4 ho4 _ hb4
        have HO4 := Lib.hid ho4
        have HB4 := Lib.hid ((HB2.out.alloc HB2.out.size (.cells #[.int .u8 y] 5)).trans hb4)
        clear ho4 hb4
        go_wp2
        go_roundw
        case rel => exact ⟨i + 1, by go_num, by omega, by rw [HFS.out, HF.out]; simpa using HO4.out, HB4.out⟩
        case measure => simp [intOf]; omega
    · have hie : i = s.length := by omega
      have hge : (S.size : Int) ≤ i := by omega
      rw [hie, List.take_length] at ho
      have hcv := isB_bstr ho.isB
      rw [HR.out] at hcv
      obtain ⟨A3, k3, hv3⟩ := isB_slice ho.isB
      subst hv3
      clear ho hie hlt hi hbel KJ hSl
      go_wp2_with fail
      go_ret
      have s0 := HB1.out.size
      exact ⟨rfl, HW0.out.trans (HBR.out.mono HW0.out.size)⟩
end Go.Proofs.YtlmnmgokfnnbbaaGreatDoor
end

/- Walk over dn.Text. -/
section
set_option linter.unusedSimpArgs false
set_option linter.unusedVariables false
namespace Go.Proofs.YtlmnmgokfnnbbaaGreatDoor
open Go.RowKit Go.Cr
def hexD (n : Nat) : UInt8 := UInt8.ofNat (if n < 10 then 48 + n else 87 + n)
def hexC (c : UInt8) : List UInt8 := [hexD (c.toNat / 16), hexD (c.toNat % 16)]
def hexL (s : List UInt8) : List UInt8 := s.flatMap hexC
theorem hexL_len (s : List UInt8) : (hexL s).length = 2 * s.length := by
  unfold hexL
  induction s with
  | nil => simp
  | cons c t ih =>
    simp only [List.flatMap_cons, List.length_append, List.length_cons, hexC, List.length_nil]
    omega
def valX (b : List UInt8) : List UInt8 := match strD b with
  | some (_, s) => escL s
  | none => 35 :: hexL b
def labX (s : ByteArray) : ByteArray := if labelOf s = ⟨#[]⟩ then s else labelOf s
def attT (a : At) : ByteArray := labX a.1 ++ (⟨#[61]⟩ : ByteArray) ++ bStr (valX a.2)
def rdnT (r : Rdn) : ByteArray := bStr (Lib.join ((r.map attT).map (·.data.toList)) [43])
def textX (n : Nam) : ByteArray := bStr (Lib.join ((n.map rdnT).map (·.data.toList)) [44, 32])
def ValOk (b : List UInt8) : Prop := ∀ (v : Value) (W : World), Glo W → IsB W v b → Calls Tryz.prog 45 #[v] W (RetB (.string (bStr (valX b))) W)
theorem valX_len {b : List UInt8} (hb : b.length ≤ 100000) : (valX b).length ≤ 800001 := by
  unfold valX
  split
  · rename_i k s hs
    have h1 := strD_len (by omega) hs
    have h2 := escL_len s
    omega
  · have := hexL_len b
    simp only [List.length_cons]
    omega
theorem labelOf_len (s : ByteArray) : (labelOf s).size ≤ 2 := by
  have hall : ∀ p ∈ labelsL, p.1.size ≤ 2 := by decide
  unfold labelOf
  cases hf : labelsL.find? (fun p => decide (p.2 = s)) with
  | none => exact (show (0 : Nat) ≤ 2 by decide)
  | some p => exact hall p (List.mem_of_find?_eq_some hf)
theorem bstr_size (l : List UInt8) : (bStr l).size = l.length := by show l.toArray.size = _; simp
theorem attT_len {a : At} (h1 : a.1.size ≤ 100000) (h2 : a.2.length ≤ 100000) : (attT a).data.toList.length ≤ 900002 := by
  have e : (attT a).data.toList.length = (attT a).size := rfl
  have hl : (labX a.1).size ≤ 100000 := by
    unfold labX
    split
    · exact h1
    · have := labelOf_len a.1; omega
  have hv := valX_len h2
  have h3 : (⟨#[61]⟩ : ByteArray).size = 1 := rfl
  rw [e]
  unfold attT
  rw [ByteArray.size_append, ByteArray.size_append, bstr_size, h3]
  omega
theorem rdnT_len {r : Rdn} (hz : SzR r) : (Lib.join ((r.map attT).map (·.data.toList)) [43]).length ≤ 9000030000 := by
  have := join_le 900002 [43] ((r.map attT).map (·.data.toList)) (fun x hx => by
    obtain ⟨y, hy, rfl⟩ := List.mem_map.1 hx
    obtain ⟨a, ha, rfl⟩ := List.mem_map.1 hy
    have := hz.2.1 a ha
    exact attT_len this.1 this.2)
  have hl := hz.1
  simp only [List.length_map, List.length_cons, List.length_nil] at this
  omega
theorem textX_len {n : Nam} (hz : SzNm n) : (Lib.join ((n.map rdnT).map (·.data.toList)) [44, 32]).length ≤ 140737488355328 := by
  have := join_le 9000030000 [44, 32] ((n.map rdnT).map (·.data.toList)) (fun x hx => by
    obtain ⟨y, hy, rfl⟩ := List.mem_map.1 hx
    obtain ⟨r, hr, rfl⟩ := List.mem_map.1 hy
    have h1 := rdnT_len (hz.2.1 r hr)
    have e : (rdnT r).data.toList = Lib.join ((r.map attT).map (·.data.toList)) [43] := by unfold rdnT; simp [bStr]
    rw [e]
    exact h1)
  have hl := hz.1
  simp only [List.length_map, List.length_cons, List.length_nil] at this
  omega
def TxO (n : Nam) (w : World) (ov ix : Value) (wr : World) : Prop := ∃ i : Nat, ix = .int .i64 (i : Int) ∧ i ≤ n.length ∧ wr.ownsRow w.heap.size 9 1 ov i (((n.take i).map rdnT).map Value.string) ∧ Below w.heap.size w wr
def TxI (r : Rdn) (w : World) (ov ix : Value) (wr : World) : Prop := ∃ i : Nat, ix = .int .i64 (i : Int) ∧ i ≤ r.length ∧ wr.ownsRow w.heap.size 9 1 ov i (((r.take i).map attT).map Value.string) ∧ Below w.heap.size w wr
set_option maxRecDepth 100000 in
set_option maxHeartbeats 16000000 in
theorem dnText (v : Value) (n : Nam) (w : World) (hG : Glo w) (hv : IsNm w v n) (hz : SzNm n) (hval : ∀ r ∈ n, ∀ a ∈ r, ValOk a.2) : Calls Tryz.prog 21 #[v] w (RetB (.string (if (marNm n).isSome then textX n else ⟨#[]⟩)) w) := by
  have HVA := Lib.hid (dnValid v n w hG hv hz)
  have hlen := hv.len (P := Tryz.prog) ulNam
  have HV := Lib.hid hv
  have HG := Lib.hid hG
  have HZ := Lib.hid hz
  have HVL := Lib.hid hval
  have hnl := hz.1
  have hnlI : (n.length : Int) ≤ 10000 := by omega
  have HL : Hid (∀ s W, Calls Tryz.prog 44 #[.string s] W (RetB (.string (labelOf s)) W)) := fun s W => labelAt s W
  have HJ1 : Hid (∀ r, SzR r → ∀ W x, IsS W x (r.map attT) → Calls Tryz.prog 46 #[x, .string ⟨#[43]⟩] W (RetB (.string (rdnT r)) W)) := fun r z W x hx => by
    have := rdnT_len z
    exact joinS_any x (r.map attT) ⟨#[43]⟩ W hx (by rw [List.length_map]; have := z.1; omega) (by show (Lib.join _ [43]).length ≤ _; omega)
  have HJ2 : Hid (∀ W x, IsS W x (n.map rdnT) → Calls Tryz.prog 46 #[x, .string ⟨#[44, 32]⟩] W (RetB (.string (textX n)) W)) := fun W x hx => by
    have := textX_len hz
    exact joinS_any x (n.map rdnT) ⟨#[44, 32]⟩ W hx (by rw [List.length_map]; omega) (by show (Lib.join _ [44, 32]).length ≤ _; omega)
  obtain ⟨A, c, rfl⟩ := isNm_slice hv
  obtain ⟨i0, hi0, hz0, hz1, hz2⟩ := info_parts infoStr
  clear hG hv hz hval
  generalize (marNm n).isSome = V at *
  cases V with
  | false =>
    rw [if_neg (by decide)]
    go_enter Tryz.func21, Tryz.ntmps21
    go_wp2_with (((go_at_call 35); (with_reducible refine HVA.out.mono ?_); rintro e w1 ⟨rfl, hb1⟩))
    go_ret
    exact ⟨rfl, hb1⟩
  | true =>
    rw [if_pos rfl]
    go_enter Tryz.func21, Tryz.ntmps21
    go_wp2_with (((go_at_call 35); (with_reducible refine HVA.out.mono ?_); rintro e w1 ⟨rfl, hb1⟩; have HB1 := Lib.hid hb1; clear hb1))
    go_loopw [3, 15] (fun ov ix wr => TxO n w1 ov ix wr) (fun _ ix _ => n.length + 1 - (intOf ix).toNat)
    case atStart => exact ⟨0, rfl, Nat.zero_le _, World.ownsRow_nil _ _ _ _, Below.refl _ _⟩
    case round =>
      obtain ⟨i, rfl, hi, ho, hbel⟩ := hrel
      obtain ⟨wo, rfl⟩ : ∃ wo, wo = wr := ⟨_, rfl⟩
      have HO := Lib.hid ho
      have HBR := Lib.hid hbel
      have HCU := Lib.hid (HB1.out.trans (hbel.mono HB1.out.size))
      by_cases hlt : i < n.length
      · have hltI : (i : Int) < n.length := by omega
        obtain ⟨b2, o2, A2, k2, hi2, hl2, hc2, hIR⟩ := (HV.out.below HCU.out).at_ (P := Tryz.prog) ulNam szRdn .i64 i hlt
        have zr := HZ.out.2.1 _ (List.getElem_mem hlt)
        have HVR := Lib.hid (HVL.out _ (List.getElem_mem hlt))
        have HTK := Lib.hid (show ((n.take (i + 1)).map rdnT).map Value.string = ((n.take i).map rdnT).map Value.string ++ [.string (rdnT n[i])] by rw [List.take_succ_eq_append_getElem hlt, List.map_append, List.map_append]; rfl)
        clear ho
        generalize ((n.take i).map rdnT).map Value.string = MM at *
        generalize n[i] = r at *
        have hrlen := hIR.len (P := Tryz.prog) ulRdn
        have HIR := Lib.hid hIR
        have HZR := Lib.hid zr
        have hrl := zr.1
        have hrlI : (r.length : Int) ≤ 10000 := by omega
        clear hIR zr hbel
        go_wp2_with fail
        go_loopw [6, 21] (fun ov ix wq => TxI r wo ov ix wq) (fun _ ix _ => r.length + 1 - (intOf ix).toNat)
        case atStart => exact ⟨0, rfl, Nat.zero_le _, World.ownsRow_nil _ _ _ _, Below.refl _ _⟩
        case round =>
          obtain ⟨k, rfl, hk, hoi, hbi⟩ := hrel
          obtain ⟨wm, rfl⟩ : ∃ wm, wm = wr := ⟨_, rfl⟩
          have HOI := Lib.hid hoi
          have HBI := Lib.hid hbi
          have HCM := Lib.hid (HCU.out.trans (hbi.mono HCU.out.size))
          have HGm := Lib.hid (HG.out.below HCM.out)
          by_cases hkl : k < r.length
          · have hklI : (k : Int) < r.length := by omega
            obtain ⟨b4, o4, A4, k4, hi4, hl4, hd1, hd2, hIB⟩ := (HIR.out.below hbi).at_ (P := Tryz.prog) ulRdn szAtt .i64 k hkl
            have HVC := Lib.hid (HVR.out _ (List.getElem_mem hkl))
            have HTI := Lib.hid (show ((r.take (k + 1)).map attT).map Value.string = ((r.take k).map attT).map Value.string ++ [.string (attT r[k])] by rw [List.take_succ_eq_append_getElem hkl, List.map_append, List.map_append]; rfl)
            have hzk := HZR.out.2.1 _ (List.getElem_mem hkl)
            clear hoi
            generalize ((r.take k).map attT).map Value.string = LL at *
            generalize r[k] = a at *
            obtain ⟨s, l⟩ := a
            simp only at hd1 hd2 hIB HVC hzk
            have hvz : (bStr (valX l)).size ≤ 800001 := by rw [bstr_size]; exact valX_len hzk.2
            have hsz := hzk.1
            have hlz := labelOf_len s
            have hat : attT (s, l) = labX s ++ (⟨#[61]⟩ : ByteArray) ++ bStr (valX l) := rfl
            unfold ValOk at HVC
            generalize bStr (valX l) = VX at *
            have HIB := Lib.hid hIB
            by_cases hle : labelOf s = ⟨#[]⟩
            · have hlx : labX s = s := if_pos hle
              rw [hlx] at hat
              have HAT := Lib.hid hat
              have HLE := Lib.hid hle
              have HL1 : Hid (∀ W, Calls Tryz.prog 44 #[.string s] W (RetB (.string ⟨#[]⟩) W)) := Lib.hid (fun W => by have := HL.out s W; rwa [hle] at this)
              have z1 : ¬ (9223372036854775807 < s.size + 1) := by omega
              have z2 : ¬ (9223372036854775807 < s.size + 1 + VX.size) := by omega
              have z3 : s.size + 1 ≤ 9223372036854775807 := by omega
              have z4 : s.size + 1 + VX.size ≤ 9223372036854775807 := by omega
              clear hbi hIB hat hlx hle hzk
              go_wp2_with (first
                | ((go_at_call 44); (with_reducible refine (HL1.out _).mono ?_); rintro e w2 ⟨rfl, hb2⟩; have K2 := Lib.hid ((Blk.new wm 58 #[.string s, .slice A4 l.length k4]).call hb2); have q2 := K2.out.q; have k2l := K2.out.lt; have HM2 := Lib.hid (((Below.refl wm.heap.size wm).alloc (Nat.le_refl _) (.cells #[.string s, .slice A4 l.length k4] 58)).trans (hb2.mono (by simp))); clear hb2)
                | ((go_at_call 45); (with_reducible refine (HVC.out _ _ (HGm.out.below HM2.out) (HIB.out.below HM2.out)).mono ?_); rintro e w3 ⟨rfl, hb3⟩; have HM3 := Lib.hid (HM2.out.trans (hb3.mono HM2.out.size)); clear hb3)
                | (at_builtin; refine wpList_app _ rfl _ _ 61 rfl wo.heap.size 9 i0 (.string ByteArray.empty) 1 16 ulStrs hi0 hz0 hz1 hz2 rfl (by decide) _ _ _ rfl ((ownsRow_below HOI.out HM3.out).alloc _) _ 1 [.string (s ++ (⟨#[61]⟩ : ByteArray) ++ VX)] rfl ?k0 ?k01 ?k1 ?k2 ?k3 ?_))
              case k0 => exact isR_at rfl rfl
              case k01 => intro u hu; simp at hu; subst hu; rfl
              case k1 => unfold maxLen; omega
              case k2 => omega
              case k3 => have := HBI.out.size; have := HM3.out.size; simp; omega
              intro v5 w5 ho5 _ hb5
              have HO5 := Lib.hid ho5
              have HB5 := Lib.hid (((HBI.out.trans (HM3.out.mono HBI.out.size)).alloc (by have := HBI.out.size; have := HM3.out.size; omega) (.cells #[.string (s ++ (⟨#[61]⟩ : ByteArray) ++ VX)] 9)).trans hb5)
              clear ho5 hb5
              go_wp2
              go_roundw
              case rel => exact ⟨k + 1, by go_num, by omega, by rw [HTI.out, HAT.out]; exact HO5.out, HB5.out⟩
              case measure => simp [intOf]; omega
            · have hlx : labX s = labelOf s := if_neg hle
              rw [hlx] at hat
              have HAT := Lib.hid hat
              have he : ((labelOf s).toList == (⟨#[]⟩ : ByteArray).toList) = false := by
                rw [ByteArray.toList_eq, ByteArray.toList_eq]
                exact beq_eq_false_iff_ne.2 (fun h => hle (ByteArray.ext (Array.ext' h)))
              have he3 : ¬ ((labelOf s).toList = []) := by
                rw [ByteArray.toList_eq]
                exact fun h => hle (ByteArray.ext (Array.ext' h))
              have he2 : (labelOf s).toList.isEmpty = false := by
                cases hq : (labelOf s).toList with
                | nil => exact absurd hq he3
                | cons _ _ => rfl
              have HL1 : Hid (∀ W, Calls Tryz.prog 44 #[.string s] W (RetB (.string (labelOf s)) W)) := Lib.hid (fun W => HL.out s W)
              clear hbi hIB hat hlx hle hzk
              generalize labelOf s = LX at *
              have z1 : ¬ (9223372036854775807 < LX.size + 1) := by omega
              have z2 : ¬ (9223372036854775807 < LX.size + 1 + VX.size) := by omega
              have z3 : LX.size + 1 ≤ 9223372036854775807 := by omega
              have z4 : LX.size + 1 + VX.size ≤ 9223372036854775807 := by omega
              go_wp2_with (first
                | ((go_at_call 44); (with_reducible refine (HL1.out _).mono ?_); rintro e w2 ⟨rfl, hb2⟩; have K2 := Lib.hid ((Blk.new wm 58 #[.string s, .slice A4 l.length k4]).call hb2); have q2 := K2.out.q; have k2l := K2.out.lt; have HM2 := Lib.hid (((Below.refl wm.heap.size wm).alloc (Nat.le_refl _) (.cells #[.string s, .slice A4 l.length k4] 58)).trans (hb2.mono (by simp))); clear hb2)
                | ((go_at_call 45); (with_reducible refine (HVC.out _ _ (HGm.out.below HM2.out) (HIB.out.below HM2.out)).mono ?_); rintro e w3 ⟨rfl, hb3⟩; have HM3 := Lib.hid (HM2.out.trans (hb3.mono HM2.out.size)); clear hb3)
                | (at_builtin; refine wpList_app _ rfl _ _ 61 rfl wo.heap.size 9 i0 (.string ByteArray.empty) 1 16 ulStrs hi0 hz0 hz1 hz2 rfl (by decide) _ _ _ rfl ((ownsRow_below HOI.out HM3.out).alloc _) _ 1 [.string (LX ++ (⟨#[61]⟩ : ByteArray) ++ VX)] rfl ?k0 ?k01 ?k1 ?k2 ?k3 ?_))
              case k0 => exact isR_at rfl rfl
              case k01 => intro u hu; simp at hu; subst hu; rfl
              case k1 => unfold maxLen; omega
              case k2 => omega
              case k3 => have := HBI.out.size; have := HM3.out.size; simp; omega
              intro v5 w5 ho5 _ hb5
              have HO5 := Lib.hid ho5
              have HB5 := Lib.hid (((HBI.out.trans (HM3.out.mono HBI.out.size)).alloc (by have := HBI.out.size; have := HM3.out.size; omega) (.cells #[.string (LX ++ (⟨#[61]⟩ : ByteArray) ++ VX)] 9)).trans hb5)
              clear ho5 hb5
              go_wp2
              go_roundw
              case rel => exact ⟨k + 1, by go_num, by omega, by rw [HTI.out, HAT.out]; exact HO5.out, HB5.out⟩
              case measure => simp [intOf]; omega
          · have hke : k = r.length := by omega
            have hge : (r.length : Int) ≤ k := by omega
            have hu : IsS wm u6 (r.map attT) := by
              have := IsR.of_own HOI.out
              rw [hke, List.take_length] at this
              unfold IsS
              rw [List.length_map]
              exact this
            have HU := Lib.hid hu
            have HJR := Lib.hid (fun W x (h : IsS W x (r.map attT)) => HJ1.out r HZR.out W x h)
            clear hu hke hkl hoi hbi
            generalize rdnT r = RT at *
            go_wp2_with (first
              | ((go_at_call 46); (with_reducible refine (HJR.out _ _ HU.out).mono ?_); rintro e w3 ⟨rfl, hb3⟩; have HW3 := Lib.hid (HBI.out.trans (hb3.mono HBI.out.size)); clear hb3)
              | (at_builtin; refine wpList_app _ rfl _ _ 61 rfl w1.heap.size 9 i0 (.string ByteArray.empty) 1 16 ulStrs hi0 hz0 hz1 hz2 rfl (by decide) _ _ _ rfl ((ownsRow_below HO.out HW3.out).alloc _) _ 1 [.string RT] rfl ?k0 ?k01 ?k1 ?k2 ?k3 ?_))
            case k0 => exact isR_at rfl rfl
            case k01 => intro u hu; simp at hu; subst hu; rfl
            case k1 => unfold maxLen; omega
            case k2 => omega
            case k3 => have := HBR.out.size; have := HW3.out.size; simp; omega
            intro v5 w5 ho5 _ hb5
            have HO5 := Lib.hid ho5
            have HB5 := Lib.hid (((HBR.out.trans (HW3.out.mono HBR.out.size)).alloc (by have := HBR.out.size; have := HW3.out.size; omega) (.cells #[.string RT] 9)).trans hb5)
            clear ho5 hb5
            go_wp2
            go_roundw
            case rel => exact ⟨i + 1, by go_num, by omega, by rw [HTK.out]; exact HO5.out, HB5.out⟩
            case measure => simp [intOf]; omega
      · have hie : i = n.length := by omega
        have hge : (n.length : Int) ≤ i := by omega
        have hu : IsS wo u3 (n.map rdnT) := by
          have := IsR.of_own HO.out
          rw [hie, List.take_length] at this
          unfold IsS
          rw [List.length_map]
          exact this
        have HU := Lib.hid hu
        clear hu hie hlt ho hbel
        go_wp2_with (((go_at_call 46); (with_reducible refine (HJ2.out _ _ HU.out).mono ?_); rintro e w3 ⟨rfl, hb3⟩))
        go_ret
        exact ⟨rfl, HCU.out.trans (hb3.mono HCU.out.size)⟩
end Go.Proofs.YtlmnmgokfnnbbaaGreatDoor
end

/- The fixed results of chapter 12: the names that it makes. -/
section
set_option linter.unusedSimpArgs false
set_option linter.unusedVariables false
namespace Go.Proofs.YtlmnmgokfnnbbaaGreatDoor
open Go.RowKit Go.Cr
def cnO : ByteArray := ⟨#[50, 46, 53, 46, 52, 46, 51]⟩
def oneN (l : List UInt8) : Nam := [[(cnO, l)]]
def RetOne (n : Nam) (w : World) (e : Ending) (w' : World) : Prop := ∃ A k, e = .returned (.slice A n.length k) ∧ IsNm w' (.slice A n.length k) n ∧ Below w.heap.size w w'
theorem isNm_one (w : World) (v : Value) (l : List UInt8) (ta tr : TypeId) (h : IsB w v l) : IsNm ((w.alloc (.cells #[.string cnO, v] ta)).alloc (.cells #[.slice (some ⟨w.heap.size, 0, none⟩) 1 1] tr)) (.slice (some ⟨w.heap.size + 1, 0, none⟩) 1 1) (oneN l) := by
  refine ⟨[.slice (some ⟨w.heap.size, 0, none⟩) 1 1], isR_at rfl (by simp), fun j hj => ?_⟩
  obtain rfl : j = 0 := by simp [oneN] at hj; omega
  show IsQs _ (.slice (some ⟨w.heap.size, 0, none⟩) 1 1) [(cnO, l)]
  refine ⟨[.string cnO, v], (isR_at rfl rfl).below ((Below.refl _ _).alloc (Nat.le_refl _) _), fun j hj => ?_⟩
  obtain rfl : j = 0 := by simp at hj; omega
  exact ⟨v, rfl, (h.alloc _).alloc _⟩
set_option maxRecDepth 100000 in
set_option maxHeartbeats 4000000 in
theorem one_ab (w : World) : Calls Tryz.prog 41 #[.int .i64 12, .string ⟨#[65, 98]⟩] w (RetOne (oneN [12, 2, 65, 98]) w) := by
  have g1 := grownCap_ge w 4 2 5
  have g2 := grownCap_le_maxLen w 4 2 5 (by decide)
  unfold grownCap at g1 g2
  go_enter Tryz.func41, Tryz.ntmps41
  go_wp2_with fail
  generalize (Question.appendCap 4 2 5).cut (w.tape w.drawn (Question.appendCap 4 2 5)) = C at *
  go_ret
  have hB : IsB ((w.alloc (.cells #[.int .u8 12, .int .u8 2] 5)).alloc (.cells (#[.int .u8 12, .int .u8 2] ++ (#[.int .u8 65, .int .u8 98] ++ Builtin.zeroCells #[.int .u8 0] (C - 4))) 5)) (.slice (some ⟨w.heap.size + 1, 0, none⟩) 4 C) [12, 2, 65, 98] := by
    refine ⟨_, C, rfl, g1, g2, fun _ => ⟨w.heap.size + 1, 0, rfl, by simp, fun j hj => ?_⟩⟩
    have hs : (w.alloc (.cells #[.int .u8 12, .int .u8 2] 5)).heap.size = w.heap.size + 1 := by simp
    rw [Nat.zero_add, ← hs, World.cell?_alloc_new]
    simp at hj
    rcases (show j = 0 ∨ j = 1 ∨ j = 2 ∨ j = 3 by omega) with rfl | rfl | rfl | rfl <;> simp [Array.getElem?_append] <;> rfl
  refine ⟨some ⟨w.heap.size + 1 + 1 + 1, 0, none⟩, 1, rfl, ?_, by ((repeat' (first | (with_reducible exact Below.refl _ _) | (with_reducible assumption) | (with_reducible refine Below.setCell ?_ ?_ _) | (with_reducible refine Below.alloc ?_ ?_ _) | (with_reducible refine Below.drew ?_) | (with_reducible refine below_drewN ?_ _) | (with_reducible refine Below.step (by with_reducible assumption) ?_ ?_))) <;> (first | omega | (simp; done) | (simp; omega)))⟩
  have := isNm_one _ _ _ 58 30 hB
  simp at this
  exact this.below (Below.refl _ _).drew
set_option maxRecDepth 100000 in
set_option maxHeartbeats 4000000 in
theorem one_sp (w : World) : Calls Tryz.prog 41 #[.int .i64 19, .string ⟨#[32, 97, 66]⟩] w (RetOne (oneN [19, 3, 32, 97, 66]) w) := by
  have g1 := grownCap_ge w 5 2 5
  have g2 := grownCap_le_maxLen w 5 2 5 (by decide)
  unfold grownCap at g1 g2
  go_enter Tryz.func41, Tryz.ntmps41
  go_wp2_with fail
  generalize (Question.appendCap 5 2 5).cut (w.tape w.drawn (Question.appendCap 5 2 5)) = C at *
  go_ret
  have hB : IsB ((w.alloc (.cells #[.int .u8 19, .int .u8 3] 5)).alloc (.cells (#[.int .u8 19, .int .u8 3] ++ (#[.int .u8 32, .int .u8 97, .int .u8 66] ++ Builtin.zeroCells #[.int .u8 0] (C - 5))) 5)) (.slice (some ⟨w.heap.size + 1, 0, none⟩) 5 C) [19, 3, 32, 97, 66] := by
    refine ⟨_, C, rfl, g1, g2, fun _ => ⟨w.heap.size + 1, 0, rfl, by simp, fun j hj => ?_⟩⟩
    have hs : (w.alloc (.cells #[.int .u8 19, .int .u8 3] 5)).heap.size = w.heap.size + 1 := by simp
    rw [Nat.zero_add, ← hs, World.cell?_alloc_new]
    simp at hj
    rcases (show j = 0 ∨ j = 1 ∨ j = 2 ∨ j = 3 ∨ j = 4 by omega) with rfl | rfl | rfl | rfl | rfl <;> simp [Array.getElem?_append] <;> rfl
  refine ⟨some ⟨w.heap.size + 1 + 1 + 1, 0, none⟩, 1, rfl, ?_, by ((repeat' (first | (with_reducible exact Below.refl _ _) | (with_reducible assumption) | (with_reducible refine Below.setCell ?_ ?_ _) | (with_reducible refine Below.alloc ?_ ?_ _) | (with_reducible refine Below.drew ?_) | (with_reducible refine below_drewN ?_ _) | (with_reducible refine Below.step (by with_reducible assumption) ?_ ?_))) <;> (first | omega | (simp; done) | (simp; omega)))⟩
  have := isNm_one _ _ _ 58 30 hB
  simp at this
  exact this.below (Below.refl _ _).drew
end Go.Proofs.YtlmnmgokfnnbbaaGreatDoor
end

/- The fixed results of chapter 12. -/
section
set_option linter.unusedSimpArgs false
set_option linter.unusedVariables false
namespace Go.Proofs.YtlmnmgokfnnbbaaGreatDoor
open Go.RowKit Go.Cr
theorem ak1 : optL marX [(cnO, [12, 2, 65, 98])] = some [[48, 9, 6, 3, 85, 4, 3, 12, 2, 65, 98]] := by kernel_rfl
theorem ak1' : optL marX [(cnO, [19, 3, 32, 97, 66])] = some [[48, 10, 6, 3, 85, 4, 3, 19, 3, 32, 97, 66]] := by kernel_rfl
theorem ak2 : optL marR (oneN [12, 2, 65, 98]) = some [[49, 11, 48, 9, 6, 3, 85, 4, 3, 12, 2, 65, 98]] := by kernel_rfl
theorem ak2' : optL marR (oneN [19, 3, 32, 97, 66]) = some [[49, 12, 48, 10, 6, 3, 85, 4, 3, 19, 3, 32, 97, 66]] := by kernel_rfl
theorem ak3 : marNm (oneN [12, 2, 65, 98]) = some [48, 13, 49, 11, 48, 9, 6, 3, 85, 4, 3, 12, 2, 65, 98] := by kernel_rfl
theorem ak4 : marNm [] = some [48, 0] := by kernel_rfl
theorem ak5 : strD [12, 2, 65, 98] = some (12, [65, 98]) := by kernel_rfl
theorem ak6 : textX (oneN [12, 2, 65, 98]) = ⟨#[67, 78, 61, 65, 98]⟩ := by kernel_rfl
theorem ak7 : sameX (oneN [12, 2, 65, 98]) (oneN [19, 3, 32, 97, 66]) = true := by kernel_rfl
theorem sz_one {l : List UInt8} {p q : List (List UInt8)} (h1 : l.length ≤ 100000) (hp : optL marX [(cnO, l)] = some p) (hq : optL marR (oneN l) = some q) (h2 : p.flatten.length ≤ 900000) (h3 : q.flatten.length ≤ 900000) : SzNm (oneN l) := by
  refine ⟨by simp [oneN], fun r hr => ?_, fun ps h => ?_⟩
  · have : r = [(cnO, l)] := by simpa [oneN] using hr
    subst this
    refine ⟨by simp, fun a ha => ?_, fun ps h => ?_⟩
    · have : a = (cnO, l) := by simpa using ha
      subst this
      exact ⟨by show (7 : Nat) ≤ 100000; decide, h1⟩
    · rw [hp] at h; injection h with h; subst h; exact h2
  · rw [hq] at h; injection h with h; subst h; exact h3
theorem sz_ab : SzNm (oneN [12, 2, 65, 98]) := sz_one (by decide) ak1 ak2 (by decide) (by decide)
theorem sz_sp : SzNm (oneN [19, 3, 32, 97, 66]) := sz_one (by decide) ak1' ak2' (by decide) (by decide)
theorem sz_nil : SzNm [] := ⟨by simp, fun r hr => (by cases hr), fun ps h => by injection h with h; subst h; simp⟩
theorem isB_q15 {w : World} {t : TypeId} {g : Nat} (hg : g = w.heap.size) : IsB (w.alloc (.cells #[.int .u8 48, .int .u8 13, .int .u8 49, .int .u8 11, .int .u8 48, .int .u8 9, .int .u8 6, .int .u8 3, .int .u8 85, .int .u8 4, .int .u8 3, .int .u8 12, .int .u8 2, .int .u8 65, .int .u8 98] t)) (.slice (some ⟨g, 0, none⟩) 15 15) [48, 13, 49, 11, 48, 9, 6, 3, 85, 4, 3, 12, 2, 65, 98] := isB_lit hg rfl rfl (by decide)
theorem isB_q2 {w : World} {t : TypeId} {g : Nat} (hg : g = w.heap.size) : IsB (w.alloc (.cells #[.int .u8 48, .int .u8 0] t)) (.slice (some ⟨g, 0, none⟩) 2 2) [48, 0] := isB_lit hg rfl rfl (by decide)
set_option maxRecDepth 100000 in
set_option maxHeartbeats 8000000 in
theorem awakeD (w : World) (hG : Glo w) : Calls Tryz.prog 14 #[] w (RetB (.bool true) w) := by
  have HG := Lib.hid hG
  have HO1 := Lib.hid one_ab
  have HO2 := Lib.hid one_sp
  unfold RetOne at HO1 HO2
  have HM1 : Hid (∀ W v, Glo W → IsNm W v (oneN [12, 2, 65, 98]) → Calls Tryz.prog 33 #[v] W (RetOidY [48, 13, 49, 11, 48, 9, 6, 3, 85, 4, 3, 12, 2, 65, 98] W)) := Lib.hid (fun W v g h => (dnMarshal v _ W g h sz_ab).mono fun e w' hh => by rw [ak3] at hh; exact hh.yes)
  have HM2 : Hid (∀ W, Glo W → Calls Tryz.prog 33 #[.slice none 0 0] W (RetOidY [48, 0] W)) := Lib.hid (fun W g => (dnMarshal _ [] W g (IsNm.nil_ W) sz_nil).mono fun e w' hh => by rw [ak4] at hh; exact hh.yes)
  have HT : Hid (∀ W v, Glo W → IsNm W v (oneN [12, 2, 65, 98]) → Calls Tryz.prog 21 #[v] W (RetB (.string ⟨#[67, 78, 61, 65, 98]⟩) W)) := Lib.hid (fun W v g h => by
    have := dnText v _ W g h sz_ab (fun r hr a ha => by
      have e1 : r = [(cnO, [12, 2, 65, 98])] := by simpa [oneN] using hr
      subst e1
      have e2 : a = (cnO, [12, 2, 65, 98]) := by simpa using ha
      subst e2
      intro v' W' g' h'
      have e3 : valX [12, 2, 65, 98] = escL [65, 98] := by unfold valX; rw [ak5]
      show Calls _ _ _ _ (RetB (.string (bStr (valX [12, 2, 65, 98]))) W')
      rw [e3]
      exact value_yes v' _ 12 _ W' g' h' (by decide) ak5)
    rw [ak3, ak6] at this
    exact this)
  have HS : Hid (∀ W u v, Glo W → IsNm W u (oneN [12, 2, 65, 98]) → IsNm W v (oneN [19, 3, 32, 97, 66]) → Calls Tryz.prog 16 #[u, v] W (RetB (.bool true) W)) := Lib.hid (fun W u v g h h2 => by have := dnSame u v _ _ W g h h2 sz_ab sz_sp; rwa [ak7] at this)
  have HY1 : Hid (∀ W u v, IsB W u [48, 13, 49, 11, 48, 9, 6, 3, 85, 4, 3, 12, 2, 65, 98] → IsB W v [48, 13, 49, 11, 48, 9, 6, 3, 85, 4, 3, 12, 2, 65, 98] → Calls Tryz.prog 28 #[u, v] W (RetB (.bool true) W)) := Lib.hid (fun W u v h h2 => by have := bytes_any u v _ _ W h h2; rwa [decide_eq_true rfl] at this)
  have HY2 : Hid (∀ W u v, IsB W u [48, 0] → IsB W v [48, 0] → Calls Tryz.prog 28 #[u, v] W (RetB (.bool true) W)) := Lib.hid (fun W u v h h2 => by have := bytes_any u v _ _ W h h2; rwa [decide_eq_true rfl] at this)
  have hcur := Lib.hid (Below.refl w.heap.size w)
  clear hG
  go_enter Tryz.func14, Tryz.ntmps14
  go_wp2_with (first
    | ((go_at_call 41); (with_reducible refine (HO1.out _).mono ?_); rintro e wz ⟨Az, kz, rfl, hn, hbz⟩; have HNa := Lib.hid hn; have hcur := Lib.hid (hcur.out.trans (hbz.mono hcur.out.size)); (try have HB1 := Lib.hid (HB1.out.below hbz)); (try have HB2 := Lib.hid (HB2.out.below hbz)); clear hn hbz)
    | ((go_at_call 41); (with_reducible refine (HO2.out _).mono ?_); rintro e wz ⟨As, ks, rfl, hn, hbz⟩; have HNs := Lib.hid hn; have HNa := Lib.hid (HNa.out.below hbz); have hcur := Lib.hid (hcur.out.trans (hbz.mono hcur.out.size)); clear hn hbz)
    | ((go_at_call 33); (with_reducible refine (HM1.out _ _ (HG.out.below hcur.out) HNa.out).mono ?_); rintro e wz ⟨vz, rfl, hoz, hbz⟩; obtain ⟨Am, km, rfl⟩ := isB_slice hoz.isB; have HB1 := Lib.hid (show IsB wz (.slice Am 15 km) [48, 13, 49, 11, 48, 9, 6, 3, 85, 4, 3, 12, 2, 65, 98] from hoz.isB); have hcur := Lib.hid (hcur.out.trans (hbz.mono hcur.out.size)); clear hoz hbz)
    | ((go_at_call 33); (with_reducible refine (HM2.out _ (HG.out.below hcur.out)).mono ?_); rintro e wz ⟨vz, rfl, hoz, hbz⟩; obtain ⟨An, kn, rfl⟩ := isB_slice hoz.isB; have HB2 := Lib.hid (show IsB wz (.slice An 2 kn) [48, 0] from hoz.isB); have HB1 := Lib.hid (HB1.out.below hbz); have hcur := Lib.hid (hcur.out.trans (hbz.mono hcur.out.size)); clear hoz hbz)
    | ((go_at_call 28); (with_reducible refine (HY1.out _ _ _ (HB1.out.alloc _) (isB_q15 rfl)).mono ?_); rintro e wz ⟨rfl, hbz⟩; have HB2 := Lib.hid (HB2.out.below (below_a hbz)); have hcur := Lib.hid (hcur.out.trans ((below_a hbz).mono hcur.out.size)); clear hbz)
    | ((go_at_call 28); (with_reducible refine (HY2.out _ _ _ (HB2.out.alloc _) (isB_q2 rfl)).mono ?_); rintro e wz ⟨rfl, hbz⟩; have hcur := Lib.hid (hcur.out.trans ((below_a hbz).mono hcur.out.size)); clear hbz)
    | ((go_at_call 21); (with_reducible refine (HT.out _ _ (HG.out.below hcur.out) HNa.out).mono ?_); rintro e wz ⟨rfl, hbz⟩; have hcur := Lib.hid (hcur.out.trans (hbz.mono hcur.out.size)); clear hbz)
    | ((go_at_call 16); (with_reducible refine (HS.out _ _ _ (HG.out.below hcur.out) HNa.out HNs.out).mono ?_); rintro e wz ⟨rfl, hbz⟩; have hcur := Lib.hid (hcur.out.trans (hbz.mono hcur.out.size)); clear hbz))
  go_ret
  exact ⟨by first | rfl | simp, hcur.out⟩
end Go.Proofs.YtlmnmgokfnnbbaaGreatDoor
end

/- What the laws of chapter 12 lean on. -/
section
set_option linter.unusedSimpArgs false
set_option linter.unusedVariables false
namespace Go.Cr
open Go.RowKit Go.Proofs.YtlmnmgokfnnbbaaGreatDoor
theorem optX_flat {r : Rdn} {ps : List (List UInt8)} (h : optL marX r = some ps) (hs : ∀ a ∈ r, a.1.size ≤ 200) : ps.flatten.length ≤ sumV r + 1025 * r.length := by
  induction r generalizing ps with
  | nil => injection h with h; subst h; simp
  | cons a t ih =>
    obtain ⟨y, u, h1, h2, rfl⟩ := optL_cons h
    have h3 := ih h2 (fun x hx => hs x (by simp [hx]))
    obtain ⟨c, hc, hy⟩ := marX_le h1
    have h4 := oidE_len hc
    have h5 := hs a (by simp)
    have h6 : a.1.data.toList.length = a.1.size := rfl
    have h7 : sumV (a :: t) = a.2.length + sumV t := by simp [sumV]
    simp only [List.flatten_cons, List.length_append, List.length_cons, Nat.mul_add]
    omega
theorem FwR.flat {r : Rdn} (h : FwR r) {ps : List (List UInt8)} (ho : optL marX r = some ps) : ps.flatten.length ≤ sumV r + 8200 := by
  have h1 := optX_flat ho (fun a ha => (h.2.1 a ha).1)
  have h2 := h.1
  omega
theorem FwR.marl {r : Rdn} (h : FwR r) {y : List UInt8} (hm : marR r = some y) : y.length ≤ sumV r + 8210 := by
  obtain ⟨ps, ho, _, _, rfl⟩ := marR_some hm
  have h1 := h.flat ho
  have h2 := encO_leD 0 17 true ps.flatten
  unfold conB
  omega
theorem FwR.sz {r : Rdn} (h : FwR r) : SzR r := by
  refine ⟨by have := h.1; omega, fun a ha => ?_, fun ps ho => ?_⟩
  · have := h.2.1 a ha
    unfold FewA at this
    omega
  · have h1 := h.flat ho
    have h2 := h.2.2
    omega
theorem optR_flat {n : Nam} {ps : List (List UInt8)} (h : optL marR n = some ps) (hs : ∀ r ∈ n, FwR r) : ps.flatten.length ≤ sumN n + 8210 * n.length := by
  induction n generalizing ps with
  | nil => injection h with h; subst h; simp
  | cons r t ih =>
    obtain ⟨y, u, h1, h2, rfl⟩ := optL_cons h
    have h3 := ih h2 (fun x hx => hs x (by simp [hx]))
    have h4 := (hs r (by simp)).marl h1
    have h7 : sumN (r :: t) = sumV r + sumN t := by simp [sumN]
    simp only [List.flatten_cons, List.length_append, List.length_cons, Nat.mul_add]
    omega
theorem FwNm.flat {n : Nam} (h : FwNm n) {ps : List (List UInt8)} (ho : optL marR n = some ps) : ps.flatten.length ≤ 84100 := by
  have h1 := optR_flat ho h.2.1
  have h2 := h.1
  have h3 := h.2.2
  omega
theorem FwNm.sz {n : Nam} (h : FwNm n) : SzNm n := ⟨by have := h.1; omega, fun r hr => (h.2.1 r hr).sz, fun ps ho => by have := h.flat ho; omega⟩
end Go.Cr
namespace Go.Proofs.YtlmnmgokfnnbbaaGreatDoor
open Go.RowKit Go.Cr
theorem isQs_nil (w : World) : IsQs w (.slice none 0 0) [] := ⟨[], ⟨none, 0, rfl, Nat.le_refl _, by decide, rfl, fun h => absurd h (by simp)⟩, fun j h => absurd h (by simp)⟩
def RetPn (L : Nat) (w : World) (e : Ending) (w' : World) : Prop := ∃ ec eo : Int, 0 < ec ∧ 0 ≤ eo ∧ eo ≤ L ∧ e = .returned (.tuple #[.slice none 0 0, errV (ec, eo)]) ∧ Below w.heap.size w w'
def RetPyR (r : Rdn) (w : World) (e : Ending) (w' : World) : Prop := ∃ A k, e = .returned (.tuple #[.slice A r.length k, errV (0, 0)]) ∧ IsQs w' (.slice A r.length k) r ∧ Below w.heap.size w w'
def RetPyN (r : Nam) (w : World) (e : Ending) (w' : World) : Prop := ∃ A k, e = .returned (.tuple #[.slice A r.length k, errV (0, 0)]) ∧ IsNm w' (.slice A r.length k) r ∧ Below w.heap.size w w'
theorem RetPR.yes {r : Rdn} {L : Nat} {w w' : World} {e : Ending} (h : RetPR (some r) L w e w') : RetPyR r w e w' := by
  obtain ⟨hb, A, k, he, ho⟩ := h
  exact ⟨A, k, he, isAs_of ho.isL, hb⟩
theorem RetPR.no {L : Nat} {w w' : World} {e : Ending} (h : RetPR none L w e w') : RetPn L w e w' := by
  obtain ⟨hb, ec, eo, h1, h2, h3, he⟩ := h
  exact ⟨ec, eo, h1, h2, h3, he, hb⟩
theorem RetPNm.yes {r : Nam} {L : Nat} {w w' : World} {e : Ending} (h : RetPNm (some r) L w e w') : RetPyN r w e w' := by
  obtain ⟨hb, A, k, he, ho⟩ := h
  exact ⟨A, k, he, isNm_of ho.isL, hb⟩
theorem RetPNm.no {L : Nat} {w w' : World} {e : Ending} (h : RetPNm none L w e w') : RetPn L w e w' := by
  obtain ⟨hb, ec, eo, h1, h2, h3, he⟩ := h
  exact ⟨ec, eo, h1, h2, h3, he, hb⟩
def RetRyR (r : Rdn) (w : World) (e : Ending) (w' : World) : Prop := ∃ A k, e = .returned (.tuple #[.slice A r.length k, .bool true]) ∧ IsQs w' (.slice A r.length k) r ∧ Below w.heap.size w w'
def RetRyN (r : Nam) (w : World) (e : Ending) (w' : World) : Prop := ∃ A k, e = .returned (.tuple #[.slice A r.length k, .bool true]) ∧ IsNm w' (.slice A r.length k) r ∧ Below w.heap.size w w'
theorem RetDr.yes {r : Rdn} {w w' : World} {e : Ending} (h : RetDr (some r) w e w') : RetRyR r w e w' := by
  obtain ⟨hb, A, k, he, ho⟩ := h
  exact ⟨A, k, he, ho, hb⟩
theorem RetDr.no {w w' : World} {e : Ending} (h : RetDr none w e w') : RetB (.tuple #[.slice none 0 0, .bool false]) w e w' := ⟨h.2, h.1⟩
theorem RetDn.yes {r : Nam} {w w' : World} {e : Ending} (h : RetDn (some r) w e w') : RetRyN r w e w' := by
  obtain ⟨hb, A, k, he, ho⟩ := h
  exact ⟨A, k, he, ho, hb⟩
theorem RetDn.no {w w' : World} {e : Ending} (h : RetDn none w e w') : RetB (.tuple #[.slice none 0 0, .bool false]) w e w' := ⟨h.2, h.1⟩
end Go.Proofs.YtlmnmgokfnnbbaaGreatDoor
end
