/- The parts MatD, MatE, MatF of one proof, one behind the other. -/
import Derived.Test.YtlmnmgokfnnbbaaGreatDoorM39
import Derived.Test.YtlmnmgokfnnbbaaGreatDoorM34
import Derived.Test.YtlmnmgokfnnbbaaGreatDoorM33
import Derived.Deep.DeepCutAuto
import Derived.Test.YtlmnmgokfnnbbaaGreatDoorM11

/- Walk over the reference's match of attributes. -/
section
set_option linter.unusedSimpArgs false
set_option linter.unusedVariables false
namespace Go.Proofs.YtlmnmgokfnnbbaaGreatDoor
open Go.RowKit Go.Cr
set_option maxRecDepth 100000 in
set_option maxHeartbeats 8000000 in
theorem rMatch (s1 s2 : ByteArray) (v1 v2 : Value) (l1 l2 : List UInt8) (w : World) (h1 : IsB w v1 l1) (h2 : IsB w v2 l2) (n1 : l1.length ≤ 4000) (n2 : l2.length ≤ 4000) :
    Calls Tryz.prog 72 #[.agg #[.string s1, v1], .agg #[.string s2, v2]] w (RetB (.bool (matchX (s1, l1) (s2, l2))) w) := by
  have HD1 : Hid (∀ W, IsB W v1 l1 → Calls Tryz.prog 108 #[v1] W (RetStr (dirD l1) W)) := fun W h => rDirectory v1 l1 W h n1
  have HD2 : Hid (∀ W, IsB W v2 l2 → Calls Tryz.prog 108 #[v2] W (RetStr (dirD l2) W)) := fun W h => rDirectory v2 l2 W h n2
  obtain ⟨kk1, ss1, ht1, hs1⟩ := dir_uni (dirD l1)
  obtain ⟨kk2, ss2, ht2, hs2⟩ := dir_uni (dirD l2)
  have HS : Hid ((dirD l1).isSome = true → (dirD l2).isSome = true → ∀ W, Calls Tryz.prog 109 #[.agg #[.int .i64 kk1, .string ss1], .agg #[.int .i64 kk2, .string ss2]] W (RetB (.bool (sameO (dirD l1) (dirD l2))) W)) := fun i1 i2 W => by
    obtain ⟨⟨k1, t1⟩, e1⟩ := Option.isSome_iff_exists.1 i1
    obtain ⟨⟨k2, t2⟩, e2⟩ := Option.isSome_iff_exists.1 i2
    obtain ⟨rfl, rfl⟩ := hs1 _ _ e1
    obtain ⟨rfl, rfl⟩ := hs2 _ _ e2
    have z1 := strD_len (by omega) (dirD_str e1)
    have z2 := strD_len (by omega) (dirD_str e2)
    have e0 : ∀ s : List UInt8, (bStr s).size = s.length := fun s => by show s.toArray.size = _; simp
    have d0 : ∀ s : List UInt8, (bStr s).data.toList = s := fun s => by simp [bStr]
    have := rSame7 kk1 kk2 (bStr t1) (bStr t2) W (by rw [e0]; omega) (by rw [e0]; omega)
    rw [d0, d0] at this
    rw [e1, e2]
    exact this
  have hno : (dirD l1).isSome = false ∨ (dirD l2).isSome = false → sameO (dirD l1) (dirD l2) = false := fun h => by
    cases hd1 : dirD l1 <;> cases hd2 : dirD l2 <;> rw [hd1, hd2] at h <;> simp [sameO] at h ⊢
  have HNO := Lib.hid hno
  unfold RetStr at HD1 HD2
  rw [ht1] at HD1
  rw [ht2] at HD2
  have HEQ := Lib.hid (fun W (a : IsB W v1 l1) (b : IsB W v2 l2) => bytes_any v1 v2 l1 l2 W a b)
  have hm : matchX (s1, l1) (s2, l2) = (decide (s1 = s2) && (sameO (dirD l1) (dirD l2) || decide (l1 = l2))) := rfl
  rw [hm]
  have hse : (s1.toList == s2.toList) = decide (s1 = s2) := by
    by_cases h : s1 = s2
    · subst h; simp
    · rw [decide_eq_false h]; exact str_ne h
  generalize decide (s1 = s2) = D at *
  generalize sameO (dirD l1) (dirD l2) = S at *
  generalize (dirD l1).isSome = B1 at *
  generalize (dirD l2).isSome = B2 at *
  generalize decide (l1 = l2) = E at *
  obtain ⟨A1, c1, rfl⟩ := isB_slice h1
  obtain ⟨A2, c2, rfl⟩ := isB_slice h2
  have HV1 := Lib.hid h1
  have HV2 := Lib.hid h2
  clear hs1 hs2 ht1 ht2 hno hm n1 n2 h1 h2
  cases B1 <;> cases B2 <;> cases S
  all_goals (first | (exact absurd (HNO.out (by decide)) (by decide)) | skip)
  all_goals
    cases D <;> cases E
  all_goals
    have HK2 := Lib.hid (show Blk ((w.alloc (.cells #[.string s1, .slice A1 l1.length c1] 58)).alloc (.cells #[.string s2, .slice A2 l2.length c2] 58)) (w.heap.size + 1) 58 #[.string s2, .slice A2 l2.length c2] by
      have := Blk.new (w.alloc (.cells #[.string s1, .slice A1 l1.length c1] 58)) 58 #[.string s2, .slice A2 l2.length c2]
      simpa using this)
    go_enter Tryz.func72, Tryz.ntmps72
    go_wp2_with (first
      | ((go_at_call 108); (with_reducible refine (HD1.out _ ((HV1.out.alloc _).alloc _)).mono ?_); rintro e w1 ⟨rfl, hb1⟩; have K1 := Lib.hid (((Blk.new w 58 #[.string s1, .slice A1 l1.length c1]).alloc (.cells #[.string s2, .slice A2 l2.length c2] 58)).call hb1); have K2 := Lib.hid (HK2.out.call hb1); have q1 := K1.out.q; have q2 := K2.out.q; have k1 := K1.out.lt; have k2 := K2.out.lt; have HV11 := Lib.hid (((HV1.out.alloc (.cells #[.string s1, .slice A1 l1.length c1] 58)).alloc (.cells #[.string s2, .slice A2 l2.length c2] 58)).below hb1); have HV21 := Lib.hid (((HV2.out.alloc (.cells #[.string s1, .slice A1 l1.length c1] 58)).alloc (.cells #[.string s2, .slice A2 l2.length c2] 58)).below hb1); have hcur := Lib.hid ((((Below.refl w.heap.size w).alloc (Nat.le_refl _) (.cells #[.string s1, .slice A1 l1.length c1] 58)).alloc (by simp) (.cells #[.string s2, .slice A2 l2.length c2] 58)).trans (hb1.mono (by simp; omega))); clear hb1)
      | ((go_at_call 108); (with_reducible refine (HD2.out _ (HV21.out.alloc _)).mono ?_); rintro e w2 ⟨rfl, hb2⟩; have KT := Lib.hid ((Blk.new w1 97 #[.int .i64 kk1, .string ss1]).call hb2); have K1 := Lib.hid ((K1.out.alloc (.cells #[.int .i64 kk1, .string ss1] 97)).call hb2); have K2 := Lib.hid ((K2.out.alloc (.cells #[.int .i64 kk1, .string ss1] 97)).call hb2); have q1 := K1.out.q; have q2 := K2.out.q; have k1 := K1.out.lt; have k2 := K2.out.lt; have qT := KT.out.q; have kT := KT.out.lt; have HV12 := Lib.hid ((HV11.out.alloc (.cells #[.int .i64 kk1, .string ss1] 97)).below hb2); have HV22 := Lib.hid ((HV21.out.alloc (.cells #[.int .i64 kk1, .string ss1] 97)).below hb2); have hz1 := hcur.out.size; have hcur := Lib.hid ((hcur.out.alloc hz1 (.cells #[.int .i64 kk1, .string ss1] 97)).trans (hb2.mono (by simp; omega))); have KU := Lib.hid (Blk.new w2 97 #[.int .i64 kk2, .string ss2]); clear hb2)
      | ((go_at_call 28); (with_reducible refine (HEQ.out _ (HV12.out.alloc _) (HV22.out.alloc _)).mono ?_); rintro e w4 ⟨rfl, hb4⟩; have KT := Lib.hid ((KT.out.alloc (.cells #[.int .i64 kk2, .string ss2] 97)).call hb4); have KU := Lib.hid (KU.out.call hb4); have qT := KT.out.q; have kT := KT.out.lt; have qU := KU.out.q; have kU := KU.out.lt; have hz2 := hcur.out.size; have hcur := Lib.hid ((hcur.out.alloc hz2 (.cells #[.int .i64 kk2, .string ss2] 97)).trans (hb4.mono (by simp; omega))); clear hb4)
      | ((go_at_call 109); (with_reducible refine (HS.out (by trivial) (by trivial) _).mono ?_); rintro e w3 ⟨rfl, hb3⟩; have hcur := Lib.hid (hcur.out.trans (hb3.mono hcur.out.size)); clear hb3))
    go_ret
    first | exact ⟨by first | rfl | simp [*], hcur.out⟩ | exact ⟨by first | rfl | simp [*], hcur.out.alloc hcur.out.size _⟩
end Go.Proofs.YtlmnmgokfnnbbaaGreatDoor
end

/- Walk over the reference's matchRDN. -/
section
set_option linter.unusedSimpArgs false
set_option linter.unusedVariables false
namespace Go.Proofs.YtlmnmgokfnnbbaaGreatDoor
open Go.RowKit Go.Cr
theorem any_succ {α : Type} (p : α → Bool) {l : List α} {k : Nat} (h : k < l.length) : (l.take (k + 1)).any p = ((l.take k).any p || p l[k]) := by
  rw [List.take_succ_eq_append_getElem h, List.any_append]
  simp
theorem cov_no {r s : Rdn} {i : Nat} (h : i < r.length) (hn : (s.any fun b => matchX r[i] b) = false) : coversX r s = false := by
  unfold coversX
  have : (r.any fun a => !(s.any fun b => matchX a b)) = true := List.any_eq_true.2 ⟨r[i], List.getElem_mem h, by rw [hn]; rfl⟩
  rw [this]
  rfl
theorem cov_yes {r s : Rdn} (h : ∀ i (hi : i < r.length), (s.any fun b => matchX r[i] b) = true) : coversX r s = true := by
  unfold coversX
  rw [Bool.not_eq_true', Bool.eq_false_iff]
  intro ha
  obtain ⟨a, hm, hb⟩ := List.any_eq_true.1 ha
  obtain ⟨i, hi, rfl⟩ := List.getElem_of_mem hm
  rw [h i hi] at hb
  cases hb
def MoRel (r s : Rdn) (w : World) (ix : Value) (wr : World) : Prop := ∃ i : Nat, ix = .int .i64 (i : Int) ∧ i ≤ r.length ∧ (∀ j (h1 : j < r.length) (h2 : j < s.length), j < i → (s.any fun b => matchX r[j] b) = true ∧ (r.any fun b => matchX s[j] b) = true) ∧ Below w.heap.size w wr
def MiRel (r s : Rdn) (a b : At) (w : World) (f g kx : Value) (wr : World) : Prop := ∃ k : Nat, kx = .int .i64 (k : Int) ∧ k ≤ s.length ∧ f = .bool ((s.take k).any (matchX a)) ∧ g = .bool ((r.take k).any (matchX b)) ∧ Below w.heap.size w wr
set_option maxRecDepth 100000 in
set_option maxHeartbeats 16000000 in
theorem rMatchRDN (vr vs : Value) (r s : Rdn) (w : World) (hr : IsQs w vr r) (hs : IsQs w vs s) (nr : ∀ a ∈ r, a.2.length ≤ 4000) (ns : ∀ a ∈ s, a.2.length ≤ 4000) (heq : r.length = s.length) : Calls Tryz.prog 43 #[vr, vs] w (RetB (.bool (cov2 r s)) w) := by
  have hlr := hr.len (P := Tryz.prog) ulRdn
  have hls := hs.len (P := Tryz.prog) ulRdn
  have hmx := hr.maxl
  have HR := Lib.hid hr
  have HS := Lib.hid hs
  have HNR := Lib.hid nr
  have HNS := Lib.hid ns
  obtain ⟨A, c, rfl⟩ := isQs_slice hr
  obtain ⟨A', c', rfl⟩ := isQs_slice hs
  have HCV := Lib.hid (show cov2 r s = (decide (r.length = s.length) && (coversX r s && coversX s r)) from rfl)
  have HEQ := Lib.hid heq
  obtain ⟨N, hN⟩ : ∃ N, s.length = N := ⟨_, rfl⟩
  have hNr : r.length = N := by omega
  rw [hN] at hls ⊢
  rw [hNr] at hlr hmx ⊢
  have HNn := Lib.hid hN
  have HNr := Lib.hid hNr
  clear hr hs nr ns heq hN hNr
  go_enter Tryz.func43, Tryz.ntmps43
  go_wp2_with fail
  go_loopw [5] (fun ix wr => MoRel r s w ix wr) (fun ix _ => N + 1 - (intOf ix).toNat)
  case atStart => exact ⟨0, rfl, Nat.zero_le _, fun j _ _ h => by omega, Below.refl _ _⟩
  case round =>
    obtain ⟨i, rfl, hi, hall, hbel⟩ := hrel
    have HALL := Lib.hid hall
    have HBR := Lib.hid hbel
    rw [HNr.out] at hi
    clear hall
    by_cases hlt : i < N
    · have hltI : (i : Int) < N := by omega
      have hir : i < r.length := by rw [HNr.out]; exact hlt
      have his : i < s.length := by rw [HNn.out]; exact hlt
      obtain ⟨b4, o4, A4, k4, hi4, hl4, hc4, hd4, hI4⟩ := HR.out.at_ (P := Tryz.prog) ulRdn szAtt .i64 i hir
      obtain ⟨b6, o6, A6, k6, hi6, hl6, hc6, hd6, hI6⟩ := HS.out.at_ (P := Tryz.prog) ulRdn szAtt .i64 i his
      rw [HNr.out] at hi4
      rw [HNn.out] at hi6
      have hz4 := HNR.out _ (List.getElem_mem hir)
      have hz6 := HNS.out _ (List.getElem_mem his)
      have HNO1 : Hid ((s.any fun b => matchX r[i] b) = false → cov2 r s = false) := Lib.hid (fun h => by rw [HCV.out, cov_no hir h]; simp)
      have HNO2 : Hid ((r.any fun b => matchX s[i] b) = false → cov2 r s = false) := Lib.hid (fun h => by rw [HCV.out, cov_no his h]; simp)
      have HYES : Hid ((s.any fun b => matchX r[i] b) = true → (r.any fun b => matchX s[i] b) = true → ∀ j (h1 : j < r.length) (h2 : j < s.length), j < i + 1 → (s.any fun b => matchX r[j] b) = true ∧ (r.any fun b => matchX s[j] b) = true) := Lib.hid (fun y1 y2 j h1 h2 hj => by
        by_cases hji : j < i
        · exact HALL.out j h1 h2 hji
        · obtain rfl : j = i := by omega
          exact ⟨y1, y2⟩)
      generalize r[i] = a at *
      generalize s[i] = b at *
      have HI4 := Lib.hid hI4
      have HI6 := Lib.hid hI6
      have HC4 := Lib.hid (And.intro hc4 hd4)
      have HC6 := Lib.hid (And.intro hc6 hd6)
      clear hc4 hd4 hc6 hd6 hI4 hI6 hbel
      go_wp2_with fail
      go_loopw [6, 7, 8] (fun f g kx wq => MiRel r s a b w f g kx wq) (fun _ _ kx _ => N + 1 - (intOf kx).toNat)
      case atStart => exact ⟨0, rfl, Nat.zero_le _, by simp, by simp, HBR.out⟩
      case round =>
        obtain ⟨k, rfl, hk, hf, hg, hbi⟩ := hrel
        subst hf hg
        obtain ⟨wm, rfl⟩ : ∃ wm, wm = wr := ⟨_, rfl⟩
        rw [HNn.out] at hk
        have hcur := Lib.hid hbi
        by_cases hkl : k < N
        · have hklI : (k : Int) < N := by omega
          have hkr : k < r.length := by rw [HNr.out]; exact hkl
          have hks : k < s.length := by rw [HNn.out]; exact hkl
          obtain ⟨b5, o5, A5, k5, hi5, hl5, hc5, hd5, hI5⟩ := HS.out.at_ (P := Tryz.prog) ulRdn szAtt .i64 k hks
          obtain ⟨b7, o7, A7, k7, hi7, hl7, hc7, hd7, hI7⟩ := HR.out.at_ (P := Tryz.prog) ulRdn szAtt .i64 k hkr
          rw [HNn.out] at hi5
          rw [HNr.out] at hi7
          have hz5 := HNS.out _ (List.getElem_mem hks)
          have hz7 := HNR.out _ (List.getElem_mem hkr)
          have HS1 := Lib.hid (any_succ (matchX a) hks)
          have HS2 := Lib.hid (any_succ (matchX b) hkr)
          generalize s[k] = p at *
          generalize r[k] = q at *
          generalize (s.take k).any (matchX a) = F at *
          generalize (r.take k).any (matchX b) = G at *
          obtain ⟨sa, la⟩ := a
          obtain ⟨sb, lb⟩ := b
          obtain ⟨sp, lp⟩ := p
          obtain ⟨sq, lq⟩ := q
          have HC5 := Lib.hid (And.intro hc5 hd5)
          have HC7 := Lib.hid (And.intro hc7 hd7)
          have HM1 := Lib.hid (fun W (h1 : IsB W (.slice A4 la.length k4) la) (h2 : IsB W (.slice A5 lp.length k5) lp) => rMatch sa sp _ _ la lp W h1 h2 hz4 hz5)
          have HM2 := Lib.hid (fun W (h1 : IsB W (.slice A6 lb.length k6) lb) (h2 : IsB W (.slice A7 lq.length k7) lq) => rMatch sb sq _ _ lb lq W h1 h2 hz6 hz7)
          generalize matchX (sa, la) (sp, lp) = C1 at *
          generalize matchX (sb, lb) (sq, lq) = C2 at *
          have HI5 := Lib.hid hI5
          have HI7 := Lib.hid hI7
          have HT1 : Hid (∀ W, Below w.heap.size w W → W.cell? ⟨b4, o4, none⟩ = some (.string sa) ∧ W.cell? ⟨b4, o4 + 1, none⟩ = some (.slice A4 la.length k4) ∧ W.cell? ⟨b5, o5, none⟩ = some (.string sp) ∧ W.cell? ⟨b5, o5 + 1, none⟩ = some (.slice A5 lp.length k5)) := Lib.hid (fun W hW => ⟨(hW.cell (p := ⟨b4, o4, none⟩) hl4).trans HC4.out.1, (hW.cell (p := ⟨b4, o4 + 1, none⟩) hl4).trans HC4.out.2, (hW.cell (p := ⟨b5, o5, none⟩) hl5).trans HC5.out.1, (hW.cell (p := ⟨b5, o5 + 1, none⟩) hl5).trans HC5.out.2⟩)
          have HT2 : Hid (∀ W, Below w.heap.size w W → W.cell? ⟨b6, o6, none⟩ = some (.string sb) ∧ W.cell? ⟨b6, o6 + 1, none⟩ = some (.slice A6 lb.length k6) ∧ W.cell? ⟨b7, o7, none⟩ = some (.string sq) ∧ W.cell? ⟨b7, o7 + 1, none⟩ = some (.slice A7 lq.length k7)) := Lib.hid (fun W hW => ⟨(hW.cell (p := ⟨b6, o6, none⟩) hl6).trans HC6.out.1, (hW.cell (p := ⟨b6, o6 + 1, none⟩) hl6).trans HC6.out.2, (hW.cell (p := ⟨b7, o7, none⟩) hl7).trans HC7.out.1, (hW.cell (p := ⟨b7, o7 + 1, none⟩) hl7).trans HC7.out.2⟩)
          obtain ⟨e0, e1, e2, e3⟩ := HT1.out _ hcur.out
          clear hc5 hd5 hc7 hd7 hI5 hI7 hbi hz4 hz5 hz6 hz7
          go_upto_region 9 with fail
          go_cut [6] (fun t6 wx => t6 = .bool (F || C1) ∧ Below w.heap.size w wx)
          case first =>
            cases F with
            | true =>
              have hcur := Lib.hid hcur.out.drew
              refine wp_region_held_drew (S := (fun _ : World => True)) (by kernel_rfl) trivial (fun hHeld => ?_)
              (refine take_want (i := 0) (d := some 28) ?_ (by kernel_rfl) (by kernel_rfl) (by kernel_rfl) (fun _ _ _ h => h) (by assumption) ?_ (by kernel_rfl) ?_; rotate_left; (· (intro o ho; simp only [List.getElem?_toArray, List.getElem?_cons_succ, List.getElem?_cons_zero, Option.some.injEq] at ho; subst ho; refine ⟨rfl, by rfl, fun w hSw => ?_⟩; (try dsimp only at hSw); go_simp; (first | done | with_reducible rfl))); simp only [Act.put, List.setIfInBounds_toArray, List.set_cons_zero, List.set_cons_succ])
              (refine take_want (i := 1) (d := some 29) ?_ (by kernel_rfl) (by kernel_rfl) (by kernel_rfl) (fun _ _ _ h => h) (by assumption) ?_ (by kernel_rfl) ?_; rotate_left; (· (intro o ho; simp only [List.getElem?_toArray, List.getElem?_cons_succ, List.getElem?_cons_zero, Option.some.injEq] at ho; subst ho; refine ⟨rfl, by rfl, fun w hSw => ?_⟩; (try dsimp only at hSw); go_simp; (first | done | with_reducible rfl))); simp only [Act.put, List.setIfInBounds_toArray, List.set_cons_zero, List.set_cons_succ])
              (refine take_skip (i := 2) (d := some 30) (by kernel_rfl) (by kernel_rfl) (by kernel_rfl) (fun _ _ _ h => h) (by assumption) (by intro o ho; simp only [List.getElem?_toArray, List.getElem?_cons_succ, List.getElem?_cons_zero, Option.some.injEq] at ho; subst ho; exact ⟨rfl, by rfl⟩) (by kernel_rfl) ?_; simp only [Act.put, List.setIfInBounds_toArray, List.set_cons_zero, List.set_cons_succ])
              (refine take_skip (i := 3) (d := some 31) (by kernel_rfl) (by kernel_rfl) (by kernel_rfl) (fun _ _ _ h => h) (by assumption) (by intro o ho; simp only [List.getElem?_toArray, List.getElem?_cons_succ, List.getElem?_cons_zero, Option.some.injEq] at ho; subst ho; exact ⟨rfl, by rfl⟩) (by kernel_rfl) ?_; simp only [Act.put, List.setIfInBounds_toArray, List.set_cons_zero, List.set_cons_succ])
              (refine take_skip (i := 4) (d := some 32) (by kernel_rfl) (by kernel_rfl) (by kernel_rfl) (fun _ _ _ h => h) (by assumption) (by intro o ho; simp only [List.getElem?_toArray, List.getElem?_cons_succ, List.getElem?_cons_zero, Option.some.injEq] at ho; subst ho; exact ⟨rfl, by rfl⟩) (by kernel_rfl) ?_; simp only [Act.put, List.setIfInBounds_toArray, List.set_cons_zero, List.set_cons_succ])
              (refine take_skip (i := 5) (d := some 33) (by kernel_rfl) (by kernel_rfl) (by kernel_rfl) (fun _ _ _ h => h) (by assumption) (by intro o ho; simp only [List.getElem?_toArray, List.getElem?_cons_succ, List.getElem?_cons_zero, Option.some.injEq] at ho; subst ho; exact ⟨rfl, by rfl⟩) (by kernel_rfl) ?_; simp only [Act.put, List.setIfInBounds_toArray, List.set_cons_zero, List.set_cons_succ])
              (refine take_skip (i := 6) (d := some 34) (by kernel_rfl) (by kernel_rfl) (by kernel_rfl) (fun _ _ _ h => h) (by assumption) (by intro o ho; simp only [List.getElem?_toArray, List.getElem?_cons_succ, List.getElem?_cons_zero, Option.some.injEq] at ho; subst ho; exact ⟨rfl, by rfl⟩) (by kernel_rfl) ?_; simp only [Act.put, List.setIfInBounds_toArray, List.set_cons_zero, List.set_cons_succ])
              (refine take_skip (i := 7) (d := some 35) (by kernel_rfl) (by kernel_rfl) (by kernel_rfl) (fun _ _ _ h => h) (by assumption) (by intro o ho; simp only [List.getElem?_toArray, List.getElem?_cons_succ, List.getElem?_cons_zero, Option.some.injEq] at ho; subst ho; exact ⟨rfl, by rfl⟩) (by kernel_rfl) ?_; simp only [Act.put, List.setIfInBounds_toArray, List.set_cons_zero, List.set_cons_succ])
              (refine take_skip (i := 8) (d := some 36) (by kernel_rfl) (by kernel_rfl) (by kernel_rfl) (fun _ _ _ h => h) (by assumption) (by intro o ho; simp only [List.getElem?_toArray, List.getElem?_cons_succ, List.getElem?_cons_zero, Option.some.injEq] at ho; subst ho; exact ⟨rfl, by rfl⟩) (by kernel_rfl) ?_; simp only [Act.put, List.setIfInBounds_toArray, List.set_cons_zero, List.set_cons_succ])
              (refine take_skip (i := 9) (d := some 37) (by kernel_rfl) (by kernel_rfl) (by kernel_rfl) (fun _ _ _ h => h) (by assumption) (by intro o ho; simp only [List.getElem?_toArray, List.getElem?_cons_succ, List.getElem?_cons_zero, Option.some.injEq] at ho; subst ho; exact ⟨rfl, by rfl⟩) (by kernel_rfl) ?_; simp only [Act.put, List.setIfInBounds_toArray, List.set_cons_zero, List.set_cons_succ])
              (refine take_skip (i := 10) (d := some 38) (by kernel_rfl) (by kernel_rfl) (by kernel_rfl) (fun _ _ _ h => h) (by assumption) (by intro o ho; simp only [List.getElem?_toArray, List.getElem?_cons_succ, List.getElem?_cons_zero, Option.some.injEq] at ho; subst ho; exact ⟨rfl, by rfl⟩) (by kernel_rfl) ?_; simp only [Act.put, List.setIfInBounds_toArray, List.set_cons_zero, List.set_cons_succ])
              (refine take_want (i := 11) (d := some 39) ?_ (by kernel_rfl) (by kernel_rfl) (by kernel_rfl) (fun _ _ _ h => h) (by assumption) ?_ (by kernel_rfl) ?_; rotate_left; (· (intro o ho; simp only [List.getElem?_toArray, List.getElem?_cons_succ, List.getElem?_cons_zero, Option.some.injEq] at ho; subst ho; refine ⟨rfl, by rfl, fun w hSw => ?_⟩; (try dsimp only at hSw); go_simp; (first | done | with_reducible rfl))); simp only [Act.put, List.setIfInBounds_toArray, List.set_cons_zero, List.set_cons_succ])
              (refine take_want (i := 12) (d := some 6) ?_ (by kernel_rfl) (by kernel_rfl) (by kernel_rfl) (fun _ _ _ h => h) (by assumption) ?_ (by kernel_rfl) ?_; rotate_left; (· (intro o ho; simp only [List.getElem?_toArray, List.getElem?_cons_succ, List.getElem?_cons_zero, Option.some.injEq] at ho; subst ho; refine ⟨rfl, by rfl, fun w hSw => ?_⟩; (try dsimp only at hSw); go_simp; (first | done | with_reducible rfl))); simp only [Act.put, List.setIfInBounds_toArray, List.set_cons_zero, List.set_cons_succ])
              refine wpAnyH_done (by kernel_rfl) ?_ _
              go_wp2_with fail
              go_meet
              case rel => exact ⟨rfl, hcur.out⟩
            | false =>
              have hcur := Lib.hid hcur.out.drew
              go_region_held3 (fun W' => W'.cell? ⟨b4, o4, none⟩ = some (.string sa) ∧ W'.cell? ⟨b4, o4 + 1, none⟩ = some (.slice A4 la.length k4) ∧ W'.cell? ⟨b5, o5, none⟩ = some (.string sp) ∧ W'.cell? ⟨b5, o5 + 1, none⟩ = some (.slice A5 lp.length k5))
                (first | go_keep | exact HT1.out _ hcur.out)
                (first | ((go_at_call 72); (with_reducible refine (HM1.out _ (HI4.out.below hcur.out) (HI5.out.below hcur.out)).mono ?_); rintro e wz ⟨rfl, hbz⟩; have hcur := Lib.hid (hcur.out.trans (hbz.mono hcur.out.size)); clear hbz))
              all_goals
                go_wp2_with fail
                go_meet
                case rel => exact ⟨rfl, hcur.out⟩
          case rest =>
          obtain ⟨rfl, hcx⟩ := hcut
          have hcur := Lib.hid hcx
          clear hcx e0 e1 e2 e3
          generalize hFC : (F || C1) = F' at *
          have HFC := Lib.hid hFC
          clear hFC
          obtain ⟨f0, f1, f2, f3⟩ := HT2.out _ hcur.out
          go_wp2_with fail
          cases G with
          | true =>
            have hcur := Lib.hid hcur.out.drew
            refine wp_region_held_drew (S := (fun _ : World => True)) (by kernel_rfl) trivial (fun hHeld => ?_)
            (refine take_want (i := 0) (d := some 40) ?_ (by kernel_rfl) (by kernel_rfl) (by kernel_rfl) (fun _ _ _ h => h) (by assumption) ?_ (by kernel_rfl) ?_; rotate_left; (· (intro o ho; simp only [List.getElem?_toArray, List.getElem?_cons_succ, List.getElem?_cons_zero, Option.some.injEq] at ho; subst ho; refine ⟨rfl, by rfl, fun w hSw => ?_⟩; (try dsimp only at hSw); go_simp; (first | done | with_reducible rfl))); simp only [Act.put, List.setIfInBounds_toArray, List.set_cons_zero, List.set_cons_succ])
            (refine take_want (i := 1) (d := some 41) ?_ (by kernel_rfl) (by kernel_rfl) (by kernel_rfl) (fun _ _ _ h => h) (by assumption) ?_ (by kernel_rfl) ?_; rotate_left; (· (intro o ho; simp only [List.getElem?_toArray, List.getElem?_cons_succ, List.getElem?_cons_zero, Option.some.injEq] at ho; subst ho; refine ⟨rfl, by rfl, fun w hSw => ?_⟩; (try dsimp only at hSw); go_simp; (first | done | with_reducible rfl))); simp only [Act.put, List.setIfInBounds_toArray, List.set_cons_zero, List.set_cons_succ])
            (refine take_skip (i := 2) (d := some 42) (by kernel_rfl) (by kernel_rfl) (by kernel_rfl) (fun _ _ _ h => h) (by assumption) (by intro o ho; simp only [List.getElem?_toArray, List.getElem?_cons_succ, List.getElem?_cons_zero, Option.some.injEq] at ho; subst ho; exact ⟨rfl, by rfl⟩) (by kernel_rfl) ?_; simp only [Act.put, List.setIfInBounds_toArray, List.set_cons_zero, List.set_cons_succ])
            (refine take_skip (i := 3) (d := some 43) (by kernel_rfl) (by kernel_rfl) (by kernel_rfl) (fun _ _ _ h => h) (by assumption) (by intro o ho; simp only [List.getElem?_toArray, List.getElem?_cons_succ, List.getElem?_cons_zero, Option.some.injEq] at ho; subst ho; exact ⟨rfl, by rfl⟩) (by kernel_rfl) ?_; simp only [Act.put, List.setIfInBounds_toArray, List.set_cons_zero, List.set_cons_succ])
            (refine take_skip (i := 4) (d := some 44) (by kernel_rfl) (by kernel_rfl) (by kernel_rfl) (fun _ _ _ h => h) (by assumption) (by intro o ho; simp only [List.getElem?_toArray, List.getElem?_cons_succ, List.getElem?_cons_zero, Option.some.injEq] at ho; subst ho; exact ⟨rfl, by rfl⟩) (by kernel_rfl) ?_; simp only [Act.put, List.setIfInBounds_toArray, List.set_cons_zero, List.set_cons_succ])
            (refine take_skip (i := 5) (d := some 45) (by kernel_rfl) (by kernel_rfl) (by kernel_rfl) (fun _ _ _ h => h) (by assumption) (by intro o ho; simp only [List.getElem?_toArray, List.getElem?_cons_succ, List.getElem?_cons_zero, Option.some.injEq] at ho; subst ho; exact ⟨rfl, by rfl⟩) (by kernel_rfl) ?_; simp only [Act.put, List.setIfInBounds_toArray, List.set_cons_zero, List.set_cons_succ])
            (refine take_skip (i := 6) (d := some 46) (by kernel_rfl) (by kernel_rfl) (by kernel_rfl) (fun _ _ _ h => h) (by assumption) (by intro o ho; simp only [List.getElem?_toArray, List.getElem?_cons_succ, List.getElem?_cons_zero, Option.some.injEq] at ho; subst ho; exact ⟨rfl, by rfl⟩) (by kernel_rfl) ?_; simp only [Act.put, List.setIfInBounds_toArray, List.set_cons_zero, List.set_cons_succ])
            (refine take_skip (i := 7) (d := some 47) (by kernel_rfl) (by kernel_rfl) (by kernel_rfl) (fun _ _ _ h => h) (by assumption) (by intro o ho; simp only [List.getElem?_toArray, List.getElem?_cons_succ, List.getElem?_cons_zero, Option.some.injEq] at ho; subst ho; exact ⟨rfl, by rfl⟩) (by kernel_rfl) ?_; simp only [Act.put, List.setIfInBounds_toArray, List.set_cons_zero, List.set_cons_succ])
            (refine take_skip (i := 8) (d := some 48) (by kernel_rfl) (by kernel_rfl) (by kernel_rfl) (fun _ _ _ h => h) (by assumption) (by intro o ho; simp only [List.getElem?_toArray, List.getElem?_cons_succ, List.getElem?_cons_zero, Option.some.injEq] at ho; subst ho; exact ⟨rfl, by rfl⟩) (by kernel_rfl) ?_; simp only [Act.put, List.setIfInBounds_toArray, List.set_cons_zero, List.set_cons_succ])
            (refine take_skip (i := 9) (d := some 49) (by kernel_rfl) (by kernel_rfl) (by kernel_rfl) (fun _ _ _ h => h) (by assumption) (by intro o ho; simp only [List.getElem?_toArray, List.getElem?_cons_succ, List.getElem?_cons_zero, Option.some.injEq] at ho; subst ho; exact ⟨rfl, by rfl⟩) (by kernel_rfl) ?_; simp only [Act.put, List.setIfInBounds_toArray, List.set_cons_zero, List.set_cons_succ])
            (refine take_skip (i := 10) (d := some 50) (by kernel_rfl) (by kernel_rfl) (by kernel_rfl) (fun _ _ _ h => h) (by assumption) (by intro o ho; simp only [List.getElem?_toArray, List.getElem?_cons_succ, List.getElem?_cons_zero, Option.some.injEq] at ho; subst ho; exact ⟨rfl, by rfl⟩) (by kernel_rfl) ?_; simp only [Act.put, List.setIfInBounds_toArray, List.set_cons_zero, List.set_cons_succ])
            (refine take_want (i := 11) (d := some 51) ?_ (by kernel_rfl) (by kernel_rfl) (by kernel_rfl) (fun _ _ _ h => h) (by assumption) ?_ (by kernel_rfl) ?_; rotate_left; (· (intro o ho; simp only [List.getElem?_toArray, List.getElem?_cons_succ, List.getElem?_cons_zero, Option.some.injEq] at ho; subst ho; refine ⟨rfl, by rfl, fun w hSw => ?_⟩; (try dsimp only at hSw); go_simp; (first | done | with_reducible rfl))); simp only [Act.put, List.setIfInBounds_toArray, List.set_cons_zero, List.set_cons_succ])
            (refine take_want (i := 12) (d := some 7) ?_ (by kernel_rfl) (by kernel_rfl) (by kernel_rfl) (fun _ _ _ h => h) (by assumption) ?_ (by kernel_rfl) ?_; rotate_left; (· (intro o ho; simp only [List.getElem?_toArray, List.getElem?_cons_succ, List.getElem?_cons_zero, Option.some.injEq] at ho; subst ho; refine ⟨rfl, by rfl, fun w hSw => ?_⟩; (try dsimp only at hSw); go_simp; (first | done | with_reducible rfl))); simp only [Act.put, List.setIfInBounds_toArray, List.set_cons_zero, List.set_cons_succ])
            refine wpAnyH_done (by kernel_rfl) ?_ _
            go_wp2_with fail
            go_roundw
            case rel =>
              exact ⟨k + 1, by go_num, by omega, by rw [HS1.out], by rw [HS2.out]; first | rfl | simp, hcur.out⟩
            case measure => simp [intOf]; omega
          | false =>
            have hcur := Lib.hid hcur.out.drew
            go_region_held3 (fun W' => W'.cell? ⟨b6, o6, none⟩ = some (.string sb) ∧ W'.cell? ⟨b6, o6 + 1, none⟩ = some (.slice A6 lb.length k6) ∧ W'.cell? ⟨b7, o7, none⟩ = some (.string sq) ∧ W'.cell? ⟨b7, o7 + 1, none⟩ = some (.slice A7 lq.length k7))
              (first | go_keep | exact HT2.out _ hcur.out)
              (first | ((go_at_call 72); (with_reducible refine (HM2.out _ (HI6.out.below hcur.out) (HI7.out.below hcur.out)).mono ?_); rintro e wz ⟨rfl, hbz⟩; have hcur := Lib.hid (hcur.out.trans (hbz.mono hcur.out.size)); clear hbz))
            all_goals
              go_wp2_with fail
              go_roundw
              case rel =>
                exact ⟨k + 1, by go_num, by omega, by rw [HS1.out], by rw [HS2.out]; first | rfl | simp, hcur.out⟩
              case measure => simp [intOf]; omega
        · have hke : k = N := by omega
          have hge : (N : Int) ≤ k := by omega
          have hF : (s.take k).any (matchX a) = s.any (matchX a) := by rw [List.take_of_length_le (by rw [HNn.out]; omega)]
          have hG : (r.take k).any (matchX b) = r.any (matchX b) := by rw [List.take_of_length_le (by rw [HNr.out]; omega)]
          rw [hF, hG]
          have HN1 : Hid (s.any (matchX a) = false → cov2 r s = false) := Lib.hid (fun h => HNO1.out h)
          have HN2 : Hid (r.any (matchX b) = false → cov2 r s = false) := Lib.hid (fun h => HNO2.out h)
          have HY0 : Hid (s.any (matchX a) = true → r.any (matchX b) = true → ∀ j (h1 : j < r.length) (h2 : j < s.length), j < i + 1 → (s.any fun b => matchX r[j] b) = true ∧ (r.any fun b => matchX s[j] b) = true) := Lib.hid (fun h1 h2 => HYES.out h1 h2)
          clear hF hG HNO1 HNO2 HYES hbi hke hkl
          generalize s.any (matchX a) = F at *
          generalize r.any (matchX b) = G at *
          cases F with
          | false =>
            have HZ := Lib.hid (HN1.out rfl)
            go_wp2_with fail
            go_ret
            exact ⟨by rw [HZ.out]; rfl, hcur.out⟩
          | true =>
            cases G with
            | false =>
              have HZ := Lib.hid (HN2.out rfl)
              go_wp2_with fail
              go_ret
              exact ⟨by rw [HZ.out]; rfl, hcur.out⟩
            | true =>
              have HZ := Lib.hid (HY0.out rfl rfl)
              go_wp2_with fail
              go_roundw
              case rel => exact ⟨i + 1, by go_num, by rw [HNr.out]; omega, HZ.out, hcur.out⟩
              case measure => simp [intOf]; omega
    · have hie : i = N := by omega
      have hge : (N : Int) ≤ i := by omega
      have HFIN : Hid (cov2 r s = true) := Lib.hid (by
        rw [HCV.out, decide_eq_true HEQ.out, cov_yes fun j hj => (HALL.out j hj (by rw [← HEQ.out]; exact hj) (by have := HNr.out; omega)).1, cov_yes fun j hj => (HALL.out j (by rw [HEQ.out]; exact hj) hj (by have := HNn.out; omega)).2]
        rfl)
      clear hlt hi hie hbel
      go_wp2_with fail
      go_ret
      exact ⟨by rw [HFIN.out]; first | rfl | simp, HBR.out⟩
end Go.Proofs.YtlmnmgokfnnbbaaGreatDoor
end

/- Walks over the reference's Under and Same of names. -/
section
set_option linter.unusedSimpArgs false
set_option linter.unusedVariables false
namespace Go.Proofs.YtlmnmgokfnnbbaaGreatDoor
open Go.RowKit Go.Cr
theorem rMatchRDN_all (vr vs : Value) (r s : Rdn) (w : World) (hr : IsQs w vr r) (hs : IsQs w vs s) (nr : ∀ a ∈ r, a.2.length ≤ 4000) (ns : ∀ a ∈ s, a.2.length ≤ 4000) : Calls Tryz.prog 43 #[vr, vs] w (RetB (.bool (cov2 r s)) w) := by
  by_cases h : r.length = s.length
  · exact rMatchRDN vr vs r s w hr hs nr ns h
  · exact rMatchRDN_ne vr vs r s w hr hs h
set_option maxRecDepth 100000 in
set_option maxHeartbeats 8000000 in
theorem rUnder_any (vn vb : Value) (n b : Nam) (w : World) (hn : IsNm w vn n) (hb : IsNm w vb b) (zn : SzNm n) (zb : SzNm b) (yn : ∀ r ∈ n, ∀ a ∈ r, a.2.length ≤ 4000) (yb : ∀ r ∈ b, ∀ a ∈ r, a.2.length ≤ 4000) : Calls Tryz.prog 19 #[vn, vb] w (RetB (.bool (underX n b)) w) := by
  have hlenn := hn.len (P := Tryz.prog) ulNam
  have hlenb := hb.len (P := Tryz.prog) ulNam
  have HV1 := Lib.hid (rValidNm vn n w hn zn)
  have HV2 := Lib.hid (fun W (hW : Below w.heap.size w W) => rValidNm vb b W (hb.below hW) zb)
  have HCV := Lib.hid (fun W vr vs r s (h1 : IsQs W vr r) (h2 : IsQs W vs s) (z1 : ∀ a ∈ r, a.2.length ≤ 4000) (z2 : ∀ a ∈ s, a.2.length ≤ 4000) => rMatchRDN_all vr vs r s W h1 h2 z1 z2)
  have HN := Lib.hid hn
  have HB := Lib.hid hb
  have HZN := Lib.hid yn
  have HZB := Lib.hid yb
  have zn1 := zn.1
  have zb1 := zb.1
  obtain ⟨A, c, rfl⟩ := isNm_slice hn
  obtain ⟨A', c', rfl⟩ := isNm_slice hb
  have hu : underX n b = (((marNm n).isSome && (marNm b).isSome && decide (b.length ≤ n.length)) && (List.range b.length).all fun i => cov2 (n.getD i []) (b.getD i [])) := rfl
  rw [hu]
  obtain ⟨R, hR⟩ : ∃ R, ((List.range b.length).all fun i => cov2 (n.getD i []) (b.getD i [])) = R := ⟨_, rfl⟩
  rw [hR]
  have HRY : Hid ((∀ j, j < b.length → cov2 (n.getD j []) (b.getD j []) = true) → R = true) := Lib.hid (fun h => by
    rw [← hR, List.all_eq_true]
    exact fun j hj => h j (List.mem_range.1 hj))
  have HRN : Hid (∀ j, j < b.length → cov2 (n.getD j []) (b.getD j []) = false → R = false) := Lib.hid (fun j hj h => by
    rw [← hR, Bool.eq_false_iff]
    intro ha
    have := List.all_eq_true.1 ha j (List.mem_range.2 hj)
    rw [h] at this
    cases this)
  clear hR hu hn hb zn zb yn yb
  generalize (marNm n).isSome = V1 at *
  generalize (marNm b).isSome = V2 at *
  cases V1 with
  | false =>
    go_enter Tryz.func19, Tryz.ntmps19
    go_wp2_with (((go_at_call 20); (with_reducible refine HV1.out.mono ?_); rintro e w1 ⟨rfl, hb1⟩))
    go_ret
    exact ⟨rfl, hb1⟩
  | true =>
    cases V2 with
    | false =>
      go_enter Tryz.func19, Tryz.ntmps19
      go_wp2_with (first | ((go_at_call 20); (with_reducible refine HV1.out.mono ?_); rintro e w1 ⟨rfl, hb1⟩; have hcur := Lib.hid hb1; clear hb1) | ((go_at_call 20); (with_reducible refine (HV2.out _ hcur.out).mono ?_); rintro e w2 ⟨rfl, hb2⟩; have hcur := Lib.hid (hcur.out.trans (hb2.mono hcur.out.size)); clear hb2))
      go_ret
      exact ⟨rfl, hcur.out⟩
    | true =>
      by_cases hL : b.length ≤ n.length
      · have hLI : (b.length : Int) ≤ n.length := by omega
        have hd1 : decide (n.length < b.length) = false := decide_eq_false (by omega)
        have hd2 : decide ((n.length : Int) < (b.length : Int)) = false := decide_eq_false (by omega)
        rw [decide_eq_true hL]
        simp only [Bool.and_self, Bool.true_and]
        go_enter Tryz.func19, Tryz.ntmps19
        go_wp2_with (first | ((go_at_call 20); (with_reducible refine HV1.out.mono ?_); rintro e w1 ⟨rfl, hb1⟩; have hcur := Lib.hid hb1; clear hb1) | ((go_at_call 20); (with_reducible refine (HV2.out _ hcur.out).mono ?_); rintro e w2 ⟨rfl, hb2⟩; have hcur := Lib.hid (hcur.out.trans (hb2.mono hcur.out.size)); clear hb2))
        go_loopw [5] (fun ix wr => UdRel n b w ix wr) (fun ix _ => b.length + 1 - (intOf ix).toNat)
        case atStart => exact ⟨0, rfl, Nat.zero_le _, fun j h => by omega, hcur.out⟩
        case round =>
          obtain ⟨i, rfl, hi, hall, hbel⟩ := hrel
          have HALL := Lib.hid hall
          have HBR := Lib.hid hbel
          clear hall
          by_cases hlt : i < b.length
          · have hltI : (i : Int) < b.length := by omega
            have hltn : i < n.length := by omega
            have hltnI : (i : Int) < n.length := by omega
            obtain ⟨b2, o2, A2, k2, hi2, hl2, hc2, hI2⟩ := (HN.out.below hbel).at_ (P := Tryz.prog) ulNam szRdn .i64 i hltn
            obtain ⟨b3, o3, A3, k3, hi3, hl3, hc3, hI3⟩ := (HB.out.below hbel).at_ (P := Tryz.prog) ulNam szRdn .i64 i hlt
            have zr := HZN.out _ (List.getElem_mem hltn)
            have zs := HZB.out _ (List.getElem_mem hlt)
            have hgn : n.getD i [] = n[i] := by simp [hltn]
            have hgb : b.getD i [] = b[i] := by simp [hlt]
            have HNO := Lib.hid (HRN.out i hlt)
            rw [hgn, hgb] at HNO
            have HGN := Lib.hid hgn
            have HGB := Lib.hid hgb
            have HC1 : Hid (∀ W, Below wr.heap.size wr W → Calls Tryz.prog 43 #[.slice A2 n[i].length k2, .slice A3 b[i].length k3] W (RetB (.bool (cov2 n[i] b[i])) W)) := Lib.hid (fun W hW => HCV.out W _ _ _ _ (hI2.below hW) (hI3.below hW) zr zs)
            have HSS : Hid (∀ W, Below wr.heap.size wr W → W.cell? ⟨b2, o2, none⟩ = some (.slice A2 n[i].length k2) ∧ W.cell? ⟨b3, o3, none⟩ = some (.slice A3 b[i].length k3)) := Lib.hid (fun W hW => ⟨(hW.cell (p := ⟨b2, o2, none⟩) hl2).trans hc2, (hW.cell (p := ⟨b3, o3, none⟩) hl3).trans hc3⟩)
            clear hbel hgn hgb hI2 hI3 zr zs hc2 hc3
            generalize n[i] = r at *
            generalize b[i] = s at *
            obtain ⟨C, hC⟩ : ∃ C, cov2 r s = C := ⟨_, rfl⟩
            rw [hC] at HNO HC1
            have HCC := Lib.hid hC
            clear hC
            obtain ⟨wo, rfl⟩ : ∃ wo, wo = wr := ⟨_, rfl⟩
            obtain ⟨g0, g1⟩ := HSS.out wo (Below.refl _ _)
            cases C with
            | false =>
              have HRF := Lib.hid (HNO.out rfl)
              go_wp2_with fail
              have hcu := Lib.hid ((Below.refl wo.heap.size wo).drew)
              go_region_held3 (fun W' => W'.cell? ⟨b2, o2, none⟩ = some (.slice A2 r.length k2) ∧ W'.cell? ⟨b3, o3, none⟩ = some (.slice A3 s.length k3))
                (first | go_keep | exact HSS.out _ hcu.out)
                (((go_at_call 43); (with_reducible refine (HC1.out _ hcu.out).mono ?_); rintro e w3 ⟨rfl, hb3⟩; have hcu := Lib.hid (hcu.out.trans (hb3.mono hcu.out.size)); have hcur := Lib.hid (HBR.out.trans (hcu.out.mono HBR.out.size)); clear hb3))
              all_goals
                go_wp2_with fail
                go_ret
                exact ⟨by rw [HRF.out]; rfl, hcur.out⟩
            | true =>
              go_wp2_with fail
              have hcu := Lib.hid ((Below.refl wo.heap.size wo).drew)
              go_region_held3 (fun W' => W'.cell? ⟨b2, o2, none⟩ = some (.slice A2 r.length k2) ∧ W'.cell? ⟨b3, o3, none⟩ = some (.slice A3 s.length k3))
                (first | go_keep | exact HSS.out _ hcu.out)
                (((go_at_call 43); (with_reducible refine (HC1.out _ hcu.out).mono ?_); rintro e w3 ⟨rfl, hb3⟩; have hcu := Lib.hid (hcu.out.trans (hb3.mono hcu.out.size)); have hcur := Lib.hid (HBR.out.trans (hcu.out.mono HBR.out.size)); clear hb3))
              all_goals
                go_wp2_with fail
                go_roundw
                case rel =>
                  refine ⟨i + 1, by go_num, by omega, fun j hj => ?_, hcur.out⟩
                  by_cases hji : j < i
                  · exact HALL.out j hji
                  · obtain rfl : j = i := by omega
                    rw [HGN.out, HGB.out]
                    exact HCC.out
                case measure => simp [intOf]; omega
          · have hge : (b.length : Int) ≤ i := by omega
            have HRT := Lib.hid (HRY.out (fun j hj => HALL.out j (by omega)))
            clear hlt hi hbel
            go_wp2_with fail
            go_ret
            exact ⟨by rw [HRT.out]; rfl, HBR.out⟩
      · have hLI : (n.length : Int) < b.length := by omega
        rw [decide_eq_false hL]
        simp only [Bool.and_self, Bool.and_false, Bool.false_and]
        go_enter Tryz.func19, Tryz.ntmps19
        go_wp2_with (first | ((go_at_call 20); (with_reducible refine HV1.out.mono ?_); rintro e w1 ⟨rfl, hb1⟩; have hcur := Lib.hid hb1; clear hb1) | ((go_at_call 20); (with_reducible refine (HV2.out _ hcur.out).mono ?_); rintro e w2 ⟨rfl, hb2⟩; have hcur := Lib.hid (hcur.out.trans (hb2.mono hcur.out.size)); clear hb2))
        go_ret
        exact ⟨rfl, hcur.out⟩
set_option maxRecDepth 100000 in
set_option maxHeartbeats 4000000 in
theorem rSameNm (va vb : Value) (a b : Nam) (w : World) (ha : IsNm w va a) (hb : IsNm w vb b) (za : SzNm a) (zb : SzNm b) (ya : ∀ r ∈ a, ∀ x ∈ r, x.2.length ≤ 4000) (yb : ∀ r ∈ b, ∀ x ∈ r, x.2.length ≤ 4000) : Calls Tryz.prog 17 #[va, vb] w (RetB (.bool (sameX a b)) w) := by
  have HU := Lib.hid (rUnder_any va vb a b w ha hb za zb ya yb)
  have HU2 := Lib.hid (fun W (h : Below w.heap.size w W) => rUnder_any vb va b a W (hb.below h) (ha.below h) zb za yb ya)
  obtain ⟨A, c, rfl⟩ := isNm_slice ha
  obtain ⟨A', c', rfl⟩ := isNm_slice hb
  rw [← sameX_both]
  clear ha hb za zb ya yb
  generalize underX a b = U at *
  generalize underX b a = U2 at *
  cases U with
  | false =>
    go_enter Tryz.func17, Tryz.ntmps17
    go_wp2_with (((go_at_call 19); (with_reducible refine HU.out.mono ?_); rintro e w1 ⟨rfl, hb1⟩))
    go_ret
    exact ⟨rfl, hb1⟩
  | true =>
    go_enter Tryz.func17, Tryz.ntmps17
    go_wp2_with (first | ((go_at_call 19); (with_reducible refine HU.out.mono ?_); rintro e w1 ⟨rfl, hb1⟩; have hcur := Lib.hid hb1; clear hb1) | ((go_at_call 19); (with_reducible refine (HU2.out _ hcur.out).mono ?_); rintro e w2 ⟨rfl, hb2⟩; have hcur := Lib.hid (hcur.out.trans (hb2.mono hcur.out.size)); clear hb2))
    go_ret
    exact ⟨rfl, hcur.out⟩
end Go.Proofs.YtlmnmgokfnnbbaaGreatDoor
end
