/- The parts AttrW, DnB, DnC, AttrR, DrB, AttrS, AttrT, DnD, NewP, AttrP, DnE, DrC, DnG, NdV, DrF, AttrQ, DrA of one proof, one behind the other. -/
import Derived.Test.YtlmnmgokfnnbbaaGreatDoorQ03
import Derived.Test.YtlmnmgokfnnbbaaGreatDoorQ10
import Derived.Test.YtlmnmgokfnnbbaaGreatDoorQ08
import Derived.Test.YtlmnmgokfnnbbaaGreatDoorQ09
import Derived.Test.YtlmnmgokfnnbbaaGreatDoorQ05
import Derived.Deep.RegionHeld3
import Derived.Test.YtlmnmgokfnnbbaaGreatDoorQ01
import Derived.RegionTactic
import Derived.ChangeAlike

/- Walks over attribute.Valid and Marshal, and the reference's. -/
section
set_option linter.unusedSimpArgs false
set_option linter.unusedVariables false
namespace Go.Proofs.YtlmnmgokfnnbbaaGreatDoor
open Go.RowKit Go.Cr
theorem marA_isSome (s v : List UInt8) : (marA s v).isSome = ((arcsL s).isSome && decide (treeOK 16 v)) := by
  unfold marA oidE
  cases arcsL s with
  | none => rfl
  | some ns => simp only [Option.map_some]; by_cases h : treeOK 16 v <;> simp [h]

set_option maxRecDepth 100000 in
set_option maxHeartbeats 4000000 in
theorem attValid (s : ByteArray) (v : Value) (l : List UInt8) (w : World) (hG : Glo w) (hv : IsB w v l) (hs : s.size ≤ 1000000) (hl : l.length ≤ 1000000) :
    Calls Tryz.prog 83 #[.agg #[.string s, v]] w (RetB (.bool (marA s.data.toList l).isSome) w) := by
  rw [marA_isSome]
  obtain ⟨A, k, rfl⟩ := isB_slice hv
  have HG := Lib.hid hG
  have HV := Lib.hid hv
  have HO : Hid (∀ W, Glo W → Calls Tryz.prog 118 #[.string s] W (RetB (.bool (arcsL s.data.toList).isSome) W)) := fun W h => oidValid s W h hs
  by_cases ht : treeOK 16 l
  · have H := Lib.hid (fun W u (h : IsB W u l) => parse_yes u l W h hl ht)
    rw [decide_eq_true ht, Bool.and_true]
    clear hG hv hs ht
    generalize (arcsL s.data.toList).isSome = B at *
    cases B
    all_goals
      go_enter Tryz.func83, Tryz.ntmps83
      go_wp2_with (first | ((go_at_call 92); (with_reducible refine (H.out _ _ (HV.out.alloc _)).mono ?_); rintro e w1 ⟨hbw1, x1, x2, x3, y4, y5, m4, z4, m5, z5, rfl⟩; obtain ⟨hcw1, hfw1⟩ := bcell hbw1; have hzw1 := hbw1.size; (try simp at hzw1); have hyw1 : w.heap.size < w1.heap.size := (by omega); (try have hyaw1 : w.heap.size + 1 < w1.heap.size := (by omega)); (try have hybw1 : w.heap.size + 2 < w1.heap.size := (by omega)); (try have hycw1 : w.heap.size + 3 < w1.heap.size := (by omega)); (try have hydw1 : w.heap.size + 4 < w1.heap.size := (by omega)); clear hzw1; have K0 := Blk.call (Blk.new w 58 #[.string s, .slice A l.length k]) hbw1; have lK0 := K0.lt; have qK0 := K0.q; have rK0 := K0.fz; have K0' := Lib.hid K0; clear K0; have K0 := K0'.out; clear K0') | ((go_at_call 118); (with_reducible refine (HO.out _ ((((HG.out.alloc _).below hbw1).alloc _).alloc _)).mono ?_); rintro e w2 ⟨rfl, hbw2⟩; obtain ⟨hcw2, hfw2⟩ := bcell hbw2; have hs2 := hbw2.size; simp at hs2))
      go_ret
      exact ⟨rfl, by ((repeat' (first | (with_reducible exact Below.refl _ _) | (with_reducible assumption) | (with_reducible refine Below.setCell ?_ ?_ _) | (with_reducible refine Below.alloc ?_ ?_ _) | (with_reducible refine Below.drew ?_) | (with_reducible refine below_drewN ?_ _) | (with_reducible refine Below.step (by with_reducible assumption) ?_ ?_))) <;> (first | omega | (simp; done) | (simp; omega)))⟩
  · have H := Lib.hid (fun W u (h : IsB W u l) => parse_no u l W h hl ht)
    rw [decide_eq_false ht, Bool.and_false]
    clear hG hv hs ht
    generalize (arcsL s.data.toList).isSome = B at *
    cases B
    all_goals
      go_enter Tryz.func83, Tryz.ntmps83
      go_wp2_with (first | ((go_at_call 92); (with_reducible refine (H.out _ _ (HV.out.alloc _)).mono ?_); rintro e w1 ⟨hbw1, ec, eo, hec, heo, heo2, rfl⟩; obtain ⟨hcw1, hfw1⟩ := bcell hbw1; have hzw1 := hbw1.size; (try simp at hzw1); have hyw1 : w.heap.size < w1.heap.size := (by omega); (try have hyaw1 : w.heap.size + 1 < w1.heap.size := (by omega)); (try have hybw1 : w.heap.size + 2 < w1.heap.size := (by omega)); (try have hycw1 : w.heap.size + 3 < w1.heap.size := (by omega)); (try have hydw1 : w.heap.size + 4 < w1.heap.size := (by omega)); clear hzw1; have K0 := Blk.call (Blk.new w 58 #[.string s, .slice A l.length k]) hbw1; have lK0 := K0.lt; have qK0 := K0.q; have rK0 := K0.fz; have K0' := Lib.hid K0; clear K0; have K0 := K0'.out; clear K0'; have hn : (ec == 0) = false := beq_eq_false_iff_ne.2 (by omega)) | ((go_at_call 118); (with_reducible refine (HO.out _ ((((HG.out.alloc _).below hbw1).alloc _).alloc _)).mono ?_); rintro e w2 ⟨rfl, hbw2⟩; obtain ⟨hcw2, hfw2⟩ := bcell hbw2; have hs2 := hbw2.size; simp at hs2))
      go_ret
      exact ⟨rfl, by ((repeat' (first | (with_reducible exact Below.refl _ _) | (with_reducible assumption) | (with_reducible refine Below.setCell ?_ ?_ _) | (with_reducible refine Below.alloc ?_ ?_ _) | (with_reducible refine Below.drew ?_) | (with_reducible refine below_drewN ?_ _) | (with_reducible refine Below.step (by with_reducible assumption) ?_ ?_))) <;> (first | omega | (simp; done) | (simp; omega)))⟩

theorem oidE_len {l c : List UInt8} (h : oidE l = some c) : c.length ≤ 5 * (l.length + 1) := by
  unfold oidE at h
  cases ha : arcsL l with
  | none => rw [ha] at h; cases h
  | some ns =>
    rw [ha] at h
    injection h with h
    subst h
    have h1 := arcsL_len ha
    have h2 := flat_take_len (subsL ns) (subsL ns).length
    rw [List.take_length] at h2
    have h3 : (subsL ns).length ≤ ns.length := by unfold subsL; split <;> simp
    unfold encL
    omega

theorem isBs_one {w : World} {t : TypeId} {g : Nat} {a : Value} {la : List UInt8} (hg : g = w.heap.size) (ha : IsB w a la) : IsBs (w.alloc (.cells #[a] t)) (.slice (some ⟨g, 0, none⟩) 1 1) [la] := by
  subst hg
  refine ⟨[a], ⟨some ⟨w.heap.size, 0, none⟩, 1, rfl, Nat.le_refl _, by decide, rfl, fun _ => ⟨w.heap.size, 0, rfl, by simp, fun j x hj => ?_⟩⟩, fun j hj => ?_⟩
  · rw [Nat.zero_add, World.cell?_alloc_new]
    simpa using hj
  · match j, hj with
    | 0, _ => exact ha.alloc _
theorem isBs_two {w : World} {t : TypeId} {g : Nat} {a b : Value} {la lb : List UInt8} (hg : g = w.heap.size) (ha : IsB w a la) (hb : IsB w b lb) : IsBs (w.alloc (.cells #[a, b] t)) (.slice (some ⟨g, 0, none⟩) 2 2) [la, lb] := by
  subst hg
  refine ⟨[a, b], ⟨some ⟨w.heap.size, 0, none⟩, 2, rfl, Nat.le_refl _, by decide, rfl, fun _ => ⟨w.heap.size, 0, rfl, by simp, fun j x hj => ?_⟩⟩, fun j hj => ?_⟩
  · rw [Nat.zero_add, World.cell?_alloc_new]
    simpa using hj
  · match j, hj with
    | 0, _ => exact ha.alloc _
    | 1, _ => exact hb.alloc _

set_option maxRecDepth 100000 in
set_option maxHeartbeats 4000000 in
theorem attMarshal (s : ByteArray) (v : Value) (l : List UInt8) (w : World) (hG : Glo w) (hv : IsB w v l) (hs : s.size ≤ 100000) (hl : l.length ≤ 100000) :
    Calls Tryz.prog 52 #[.agg #[.string s, v]] w (RetOid (marA s.data.toList l) w) := by
  have HW := Lib.hid (fun W u (hg : Glo W) (h : IsB W u l) => attValid s u l W hg h (by omega) (by omega))
  obtain ⟨A, k, rfl⟩ := isB_slice hv
  have HG := Lib.hid hG
  have HV := Lib.hid hv
  cases hm : marA s.data.toList l with
  | none =>
    rw [hm] at HW
    clear hG hv hs hl hm
    go_enter Tryz.func52, Tryz.ntmps52
    go_wp2_with (first | ((go_at_call 83); (with_reducible refine (HW.out _ _ (HG.out.alloc _) (HV.out.alloc _)).mono ?_); rintro e w1 ⟨rfl, hbw1⟩))
    go_ret2
    exact ⟨by ((repeat' (first | (with_reducible exact Below.refl _ _) | (with_reducible assumption) | (with_reducible refine Below.setCell ?_ ?_ _) | (with_reducible refine Below.alloc ?_ ?_ _) | (with_reducible refine Below.drew ?_) | (with_reducible refine below_drewN ?_ _) | (with_reducible refine Below.step (by with_reducible assumption) ?_ ?_))) <;> (first | omega | (simp; done) | (simp; omega))), .inl ⟨rfl, rfl⟩⟩
  | some b =>
    obtain ⟨c, hc, ht, hb⟩ := marA_some hm
    have hcl := oidE_len hc
    have hsl : s.data.toList.length = s.size := rfl
    have HO : Hid (∀ W, Glo W → Calls Tryz.prog 84 #[.string s] W (RetOidY c W)) := fun W h => (enc_any s W h (by omega)).mono fun e w' hh => by rw [hc] at hh; exact hh.yes
    have HW1 : Hid (∀ W u, IsBs W u [c] → Calls Tryz.prog 82 #[.int .i64 0, .bool false, .int .i64 6, u] W (RetOK 5 (encO 0 false 6 c) W)) := fun W u h => by
      have := pWrap 0 6 false u [c] W h (by simp; omega)
      unfold RetW at this
      simpa using this
    have hL := encO_len 0 6 false c
    have hlo := lenOct_len c.length
    have HS1 : Hid (∀ W u, IsBs W u [encO 0 false 6 c, l] → Calls Tryz.prog 85 #[u] W (RetOK 5 b W)) := fun W u h => by
      have := pSeq u [encO 0 false 6 c, l] W h (by simp; omega)
      unfold RetW at this
      simpa [hb] using this
    rw [hm] at HW
    clear hG hv hs hl hm hb hc ht hcl hL hlo
    generalize encO 0 false 6 c = E6 at *
    go_enter Tryz.func52, Tryz.ntmps52
    go_wp2_with (first | ((go_at_call 83); (with_reducible refine (HW.out _ _ (HG.out.alloc _) (HV.out.alloc _)).mono ?_); rintro e w1 ⟨rfl, hbw1⟩; obtain ⟨hcw1, hfw1⟩ := bcell hbw1; have hzw1 := hbw1.size; (try simp at hzw1); have hyw1 : w.heap.size < w1.heap.size := (by omega); (try have hyaw1 : w.heap.size + 1 < w1.heap.size := (by omega)); (try have hybw1 : w.heap.size + 2 < w1.heap.size := (by omega)); (try have hycw1 : w.heap.size + 3 < w1.heap.size := (by omega)); (try have hydw1 : w.heap.size + 4 < w1.heap.size := (by omega)); clear hzw1; have K0 := Blk.call (Blk.new w 58 #[.string s, .slice A l.length k]) hbw1; have lK0 := K0.lt; have qK0 := K0.q; have rK0 := K0.fz; have K0' := Lib.hid K0; clear K0; have K0 := K0'.out; clear K0'; have HG1 := Lib.hid ((HG.out.alloc _).below hbw1); have HV1 := Lib.hid ((HV.out.alloc _).below hbw1)) | ((go_at_call 84); (with_reducible refine (HO.out _ HG1.out).mono ?_); rintro e w2 ⟨v2, rfl, ho2, hbw2⟩; obtain ⟨A2, k2, rfl⟩ := isB_slice ho2.isB; have K1 := Blk.call (K0) hbw2; have lK1 := K1.lt; have qK1 := K1.q; have rK1 := K1.fz; have K1' := Lib.hid K1; clear K1; have K1 := K1'.out; clear K1'; have HO2 := Lib.hid ho2; have HV2 := Lib.hid (HV1.out.below hbw2); clear ho2) | ((go_at_call 82); (with_reducible refine (HW1.out _ _ (isBs_one (by simp) HO2.out.isB)).mono ?_); rintro e w3 ⟨v3, rfl, ho3, hbw3⟩; obtain ⟨A3, k3, rfl⟩ := isB_slice ho3.isB; have K2 := Blk.call (K1.alloc _) hbw3; have lK2 := K2.lt; have qK2 := K2.q; have rK2 := K2.fz; have K2' := Lib.hid K2; clear K2; have K2 := K2'.out; clear K2'; have HO3 := Lib.hid ho3; have HV3 := Lib.hid ((HV2.out.alloc _).below hbw3); clear ho3) | ((go_at_call 85); (with_reducible refine (HS1.out _ _ (isBs_two (by simp) HO3.out.isB HV3.out)).mono ?_); rintro e w4 ⟨v4, rfl, ho4, hbw4⟩; have HO4 := Lib.hid ho4; clear ho4))
    go_ret2
    have s1 := hbw1.size; have s2 := hbw2.size; have s3 := hbw3.size; have s4 := hbw4.size
    simp at s1 s2 s3 s4
    refine ⟨?_, .inr ⟨b, _, rfl, rfl, HO4.out.more (by simp; omega)⟩⟩
    have b1 : Below w.heap.size w w1 := ((Below.refl _ w).alloc (Nat.le_refl _) _).trans (hbw1.mono (by simp))
    exact ((((b1.trans (hbw2.mono (by omega))).alloc (by omega) _).trans (hbw3.mono (by simp; omega))).alloc (by omega) _).trans (hbw4.mono (by simp; omega))
end Go.Proofs.YtlmnmgokfnnbbaaGreatDoor
end

/- Walk over (dn.shape).marshal: what it does with a function value that encodes each element. -/
section
set_option linter.unusedSimpArgs false
set_option linter.unusedVariables false
namespace Go.Proofs.YtlmnmgokfnnbbaaGreatDoor
open Go.RowKit Go.Cr
theorem infoBsD : (Tryz.prog.info? 33).map (fun i => (i.zero, i.size, i.bytes)) = some (some (.slice none 0 0), 1, 24) := by kernel_rfl
def OneFn (k : Nat) (lb : Array Value) (I : World → Prop) (N : Nat) (os : Nat → Option (List UInt8)) : Prop :=
  ∀ i, i < N → ∀ W, I W → Calls Tryz.prog k (#[.int .i64 (i : Int)] ++ lb) W (RetOid (os i) W)
def ShRel (m : Nat) (ps : List (List UInt8)) (w : World) (out ix : Value) (wr : World) : Prop := ∃ i : Nat, ix = .int .i64 (i : Int) ∧ i ≤ m ∧ OwP wr w.heap.size 33 out (ps.take i) ∧ Below w.heap.size w wr
set_option maxRecDepth 100000 in
set_option maxHeartbeats 4000000 in
theorem shape_bad (num : Int) (sorted : Bool) (N m : Nat) (k : Nat) (lb : Array Value) (I : World → Prop) (os : Nat → Option (List UInt8)) (ps : List (List UInt8)) (w : World)
    (he : ∀ args W, (callFunc k args).run Tryz.prog W = .ok (.enter k args) W) (hI : ∀ W, Below w.heap.size w W → I W) (hF : OneFn k lb I N os) (hN : N ≤ 100000) (hm : m < N) (hpl : ps.length = m) (hos : ∀ j (_ : j < ps.length), os j = some ps[j]) (hbad : os m = none) :
    Calls Tryz.prog 50 #[.agg #[.int .i64 num, .bool sorted], .int .i64 (N : Int), .func (.func k) #[] lb] w (RetB (.tuple #[.slice none 0 0, .int .i64 8]) w) := by
  have HFN := Lib.hid hF
  have HI := Lib.hid hI
  have HOS := Lib.hid hos
  have HBD := Lib.hid hbad
  have HPL := Lib.hid hpl
  have hNI : (N : Int) ≤ 100000 := by omega
  clear hF hI hos hbad hpl
  go_enter Tryz.func50, Tryz.ntmps50
  go_wp2_with fail
  have HW0 := Lib.hid ((Below.refl w.heap.size w).alloc (Nat.le_refl _) (.cells #[.int .i64 num, .bool sorted] 68))
  have hw0 : w.heap.size < (w.alloc (.cells #[.int .i64 num, .bool sorted] 68)).heap.size := by simp
  generalize w.alloc (.cells #[.int .i64 num, .bool sorted] 68) = w0 at *
  go_loopw [8, 13] (fun out ix wr => ShRel m ps w0 out ix wr) (fun _ ix _ => m + 1 - (intOf ix).toNat)
  case atStart => exact ⟨0, rfl, Nat.zero_le _, OwP.nil_ _ _ _, Below.refl _ _⟩
  case round =>
    obtain ⟨i, rfl, hi, how, hbel⟩ := hrel
    have HOW := Lib.hid how
    have HBR := Lib.hid hbel
    have hcur : Below w.heap.size w wr := HW0.out.trans (hbel.mono (Nat.le_of_lt hw0))
    have hltI : (i : Int) < N := by omega
    have hszr : w0.heap.size ≤ wr.heap.size := hbel.size
    by_cases hlt : i < m
    · have hip : i < ps.length := by have := HPL.out; omega
      have hcall := HFN.out i (by omega) wr (HI.out _ hcur)
      rw [HOS.out i hip] at hcall
      have HTK := Lib.hid (show ps.take (i + 1) = ps.take i ++ [ps[i]] by rw [List.take_succ_eq_append_getElem hip])
      have hll : (ps.take i).length ≤ 100000 := by rw [List.length_take]; omega
      have HLL := Lib.hid hll
      have HCALL := Lib.hid (hcall.mono fun e w' h => h.yes)
      unfold RetOidY at HCALL
      clear how hbel hcall hll
      generalize ps[i] = pl at *
      generalize hLg : ps.take i = LL at *
      go_wp2_with (first | (go_at_fn k; refine HCALL.out.mono ?_; rintro e wd ⟨vd, rfl, hod, hbwd⟩; obtain ⟨Ad, kd, rfl⟩ := isB_slice hod.isB; have HPD := Lib.hid (part_newD hod HOW.out hszr); have HAD := Lib.hid (HOW.out.below hbwd); have HWD := Lib.hid (HBR.out.trans (hbwd.mono hszr)); clear hod hbwd) | (at_builtin; refine wpList_appP _ rfl _ _ 74 rfl w0.heap.size 33 ulBs infoBsD _ LL rfl (HAD.out.alloc _) _ (.slice Ad pl.length kd) pl rfl isR_oneD (HPD.out.alloc _) ?n2 ?b2 ?_))
      case n2 => have := HLL.out; omega
      case b2 => have := HWD.out.size; simp; omega
      intro v6 w6 ho6 hb6 _
      have HO6 := Lib.hid ho6
      have HB6 := Lib.hid ((HWD.out.alloc HWD.out.size (.cells #[.slice Ad pl.length kd] 33)).trans hb6)
      clear ho6 hb6
      go_wp2
      go_roundw
      case rel => exact ⟨i + 1, by go_num, by omega, by rw [HTK.out]; exact HO6.out, HB6.out⟩
      case measure => simp [intOf]; omega
    · obtain rfl : i = m := by omega
      have hcall := HFN.out i hm wr (HI.out _ hcur)
      rw [HBD.out] at hcall
      have HCALL := Lib.hid (hcall.mono fun e w' h => h.no)
      have HCU := Lib.hid hcur
      clear how hbel hcall hcur
      go_wp2_with (go_at_fn k; refine HCALL.out.mono ?_; rintro e wd ⟨rfl, hbwd⟩; have HWD := Lib.hid (HCU.out.trans (hbwd.mono HCU.out.size)); clear hbwd)
      go_ret2
      exact ⟨rfl, HWD.out⟩
theorem shape_good (num : Int) (sorted : Bool) (N : Nat) (k : Nat) (lb : Array Value) (I : World → Prop) (os : Nat → Option (List UInt8)) (ps : List (List UInt8)) (w : World)
    (he : ∀ args W, (callFunc k args).run Tryz.prog W = .ok (.enter k args) W) (hI : ∀ W, Below w.heap.size w W → I W) (hF : OneFn k lb I N os) (hN : N ≤ 100000) (hpl : ps.length = N) (hos : ∀ j (_ : j < ps.length), os j = some ps[j]) (hnum : 0 ≤ num ∧ num < 31) (hfl : ps.flatten.length ≤ 900000) :
    Calls Tryz.prog 50 #[.agg #[.int .i64 num, .bool sorted], .int .i64 (N : Int), .func (.func k) #[] lb] w (if sorted && !ascB ps then RetB (.tuple #[.slice none 0 0, .int .i64 8]) w else RetOidY (encO 0 true num ps.flatten) w) := by
  have HFN := Lib.hid hF
  have HI := Lib.hid hI
  have HOS := Lib.hid hos
  have HPL := Lib.hid hpl
  have HORD := Lib.hid (fun v W (h : IsBs W v ps) => pOrdered v ps W h)
  have HWR : Hid (∀ v W, IsBs W v ps → Calls Tryz.prog 82 #[.int .i64 0, .bool true, .int .i64 num, v] W (RetOidY (encO 0 true num ps.flatten) W)) := fun v W h => by
    refine (pWrap 0 num true v ps W h hfl).mono fun e w' hh => ?_
    unfold RetW at hh
    rw [if_pos ⟨by decide, by decide, hnum.1, hnum.2⟩] at hh
    obtain ⟨u, h1, h2, h3⟩ := hh
    exact ⟨u, h1, h2, h3⟩
  generalize encO 0 true num ps.flatten = R at *
  have hNI : (N : Int) ≤ 100000 := by omega
  clear hF hI hos hpl hfl
  obtain ⟨B, hB⟩ : ∃ B, ascB ps = B := ⟨_, rfl⟩
  rw [hB] at HORD ⊢
  clear hB
  have hpost : ∀ C, Calls Tryz.prog 50 #[.agg #[.int .i64 num, .bool sorted], .int .i64 (N : Int), .func (.func k) #[] lb] w C → C = (if sorted && !B then RetB (.tuple #[.slice none 0 0, .int .i64 8]) w else RetOidY R w) → Calls Tryz.prog 50 #[.agg #[.int .i64 num, .bool sorted], .int .i64 (N : Int), .func (.func k) #[] lb] w (if sorted && !B then RetB (.tuple #[.slice none 0 0, .int .i64 8]) w else RetOidY R w) := fun C h e => e ▸ h
  cases hbad : (sorted && !B) with
  | true =>
    obtain ⟨rfl, rfl⟩ : sorted = true ∧ B = false := by cases sorted <;> cases B <;> simp_all
    simp only [if_true]
    clear hpost
    go_enter Tryz.func50, Tryz.ntmps50
    go_wp2_with fail
    have HK0 := Lib.hid (Blk.new w 68 #[.int .i64 num, .bool true])
    have HW0 := Lib.hid ((Below.refl w.heap.size w).alloc (Nat.le_refl _) (.cells #[.int .i64 num, .bool true] 68))
    have hw0 : w.heap.size < (w.alloc (.cells #[.int .i64 num, .bool true] 68)).heap.size := by simp
    generalize w.alloc (.cells #[.int .i64 num, .bool true] 68) = w0 at *
    go_loopw [8, 13] (fun out ix wr => ShRel N ps w0 out ix wr) (fun _ ix _ => N + 1 - (intOf ix).toNat)
    case atStart => exact ⟨0, rfl, Nat.zero_le _, OwP.nil_ _ _ _, Below.refl _ _⟩
    case round =>
      obtain ⟨i, rfl, hi, how, hbel⟩ := hrel
      have HOW := Lib.hid how
      have HBR := Lib.hid hbel
      have hcur : Below w.heap.size w wr := HW0.out.trans (hbel.mono (Nat.le_of_lt hw0))
      have hszr : w0.heap.size ≤ wr.heap.size := hbel.size
      have HKR := Lib.hid (HK0.out.below hbel hw0)
      by_cases hlt : i < N
      · have hltI : (i : Int) < N := by omega
        have hip : i < ps.length := by have := HPL.out; omega
        have hcall := HFN.out i (by omega) wr (HI.out _ hcur)
        rw [HOS.out i hip] at hcall
        have HTK := Lib.hid (show ps.take (i + 1) = ps.take i ++ [ps[i]] by rw [List.take_succ_eq_append_getElem hip])
        have hll : (ps.take i).length ≤ 100000 := by rw [List.length_take]; omega
        have HLL := Lib.hid hll
        have HCALL := Lib.hid (hcall.mono fun e w' h => h.yes)
        unfold RetOidY at HCALL
        clear how hbel hcall hll
        generalize ps[i] = pl at *
        generalize hLg : ps.take i = LL at *
        go_wp2_with (first | (go_at_fn k; refine HCALL.out.mono ?_; rintro e wd ⟨vd, rfl, hod, hbwd⟩; obtain ⟨Ad, kd, rfl⟩ := isB_slice hod.isB; have HPD := Lib.hid (part_newD hod HOW.out hszr); have HAD := Lib.hid (HOW.out.below hbwd); have HWD := Lib.hid (HBR.out.trans (hbwd.mono hszr)); clear hod hbwd) | (at_builtin; refine wpList_appP _ rfl _ _ 74 rfl w0.heap.size 33 ulBs infoBsD _ LL rfl (HAD.out.alloc _) _ (.slice Ad pl.length kd) pl rfl isR_oneD (HPD.out.alloc _) ?n2 ?b2 ?_))
        case n2 => have := HLL.out; omega
        case b2 => have := HWD.out.size; simp; omega
        intro v6 w6 ho6 hb6 _
        have HO6 := Lib.hid ho6
        have HB6 := Lib.hid ((HWD.out.alloc HWD.out.size (.cells #[.slice Ad pl.length kd] 33)).trans hb6)
        clear ho6 hb6
        go_wp2
        go_roundw
        case rel => exact ⟨i + 1, by go_num, by omega, by rw [HTK.out]; exact HO6.out, HB6.out⟩
        case measure => simp [intOf]; omega
      · have hie : i = N := by omega
        have how := HOW.out
        rw [hie, ← HPL.out, List.take_length] at how
        have HNB := Lib.hid how.isBs
        have hge : (N : Int) ≤ i := by omega
        have HCU := Lib.hid hcur
        have qR := HKR.out.q
        have lR := HKR.out.lt
        obtain ⟨Ao, ko, hoe⟩ := how.slice
        have hlp := HPL.out
        rw [hlp, ← hie] at hoe
        subst hoe
        clear how hlt hi hie hbel hcur hlp
        go_wp2_with (((go_at_call 55); (with_reducible refine (HORD.out _ _ HNB.out).mono ?_); rintro e wd ⟨rfl, hbwd⟩; have HWD := Lib.hid (HCU.out.trans (hbwd.mono HCU.out.size)); clear hbwd))
        go_ret2
        exact ⟨rfl, HWD.out⟩
  | false =>
    simp only [Bool.false_eq_true, if_false]
    clear hpost
    cases sorted with
    | true =>
      obtain rfl : B = true := by cases B <;> simp_all
      clear hbad
      go_enter Tryz.func50, Tryz.ntmps50
      go_wp2_with fail
      have HK0 := Lib.hid (Blk.new w 68 #[.int .i64 num, .bool true])
      have HW0 := Lib.hid ((Below.refl w.heap.size w).alloc (Nat.le_refl _) (.cells #[.int .i64 num, .bool true] 68))
      have hw0 : w.heap.size < (w.alloc (.cells #[.int .i64 num, .bool true] 68)).heap.size := by simp
      generalize w.alloc (.cells #[.int .i64 num, .bool true] 68) = w0 at *
      go_loopw [8, 13] (fun out ix wr => ShRel N ps w0 out ix wr) (fun _ ix _ => N + 1 - (intOf ix).toNat)
      case atStart => exact ⟨0, rfl, Nat.zero_le _, OwP.nil_ _ _ _, Below.refl _ _⟩
      case round =>
        obtain ⟨i, rfl, hi, how, hbel⟩ := hrel
        have HOW := Lib.hid how
        have HBR := Lib.hid hbel
        have hcur : Below w.heap.size w wr := HW0.out.trans (hbel.mono (Nat.le_of_lt hw0))
        have hszr : w0.heap.size ≤ wr.heap.size := hbel.size
        have HKR := Lib.hid (HK0.out.below hbel hw0)
        by_cases hlt : i < N
        · have hltI : (i : Int) < N := by omega
          have hip : i < ps.length := by have := HPL.out; omega
          have hcall := HFN.out i (by omega) wr (HI.out _ hcur)
          rw [HOS.out i hip] at hcall
          have HTK := Lib.hid (show ps.take (i + 1) = ps.take i ++ [ps[i]] by rw [List.take_succ_eq_append_getElem hip])
          have hll : (ps.take i).length ≤ 100000 := by rw [List.length_take]; omega
          have HLL := Lib.hid hll
          have HCALL := Lib.hid (hcall.mono fun e w' h => h.yes)
          unfold RetOidY at HCALL
          clear how hbel hcall hll
          generalize ps[i] = pl at *
          generalize hLg : ps.take i = LL at *
          go_wp2_with (first | (go_at_fn k; refine HCALL.out.mono ?_; rintro e wd ⟨vd, rfl, hod, hbwd⟩; obtain ⟨Ad, kd, rfl⟩ := isB_slice hod.isB; have HPD := Lib.hid (part_newD hod HOW.out hszr); have HAD := Lib.hid (HOW.out.below hbwd); have HWD := Lib.hid (HBR.out.trans (hbwd.mono hszr)); clear hod hbwd) | (at_builtin; refine wpList_appP _ rfl _ _ 74 rfl w0.heap.size 33 ulBs infoBsD _ LL rfl (HAD.out.alloc _) _ (.slice Ad pl.length kd) pl rfl isR_oneD (HPD.out.alloc _) ?n2 ?b2 ?_))
          case n2 => have := HLL.out; omega
          case b2 => have := HWD.out.size; simp; omega
          intro v6 w6 ho6 hb6 _
          have HO6 := Lib.hid ho6
          have HB6 := Lib.hid ((HWD.out.alloc HWD.out.size (.cells #[.slice Ad pl.length kd] 33)).trans hb6)
          clear ho6 hb6
          go_wp2
          go_roundw
          case rel => exact ⟨i + 1, by go_num, by omega, by rw [HTK.out]; exact HO6.out, HB6.out⟩
          case measure => simp [intOf]; omega
        · have hie : i = N := by omega
          have how := HOW.out
          rw [hie, ← HPL.out, List.take_length] at how
          have HNB := Lib.hid how.isBs
          have hge : (N : Int) ≤ i := by omega
          have HCU := Lib.hid hcur
          have qR := HKR.out.q
          have lR := HKR.out.lt
          obtain ⟨Ao, ko, hoe⟩ := how.slice
          have hlp := HPL.out
          rw [hlp, ← hie] at hoe
          subst hoe
          clear how hlt hi hie hbel hcur hlp
          go_wp2_with (first | ((go_at_call 55); (with_reducible refine (HORD.out _ _ HNB.out).mono ?_); rintro e wd ⟨rfl, hbwd⟩; have HWD := Lib.hid (HCU.out.trans (hbwd.mono HCU.out.size)); have HNB2 := Lib.hid (HNB.out.below hbwd); have KD := HKR.out.call hbwd; have qD := KD.q; have lD := KD.lt; clear hbwd KD) | ((go_at_call 82); (with_reducible refine (HWR.out _ _ HNB2.out).mono ?_); rintro e we ⟨ve, rfl, hoe, hbwe⟩; obtain ⟨Ae, ke, rfl⟩ := isB_slice hoe.isB; have HOE := Lib.hid hoe; have HWE := Lib.hid (HWD.out.trans (hbwe.mono HWD.out.size)); have HSE := Lib.hid HWD.out.size; clear hoe hbwe))
          go_ret2
          exact ⟨_, rfl, HOE.out.more HSE.out, HWE.out⟩
    | false =>
      clear hbad
      go_enter Tryz.func50, Tryz.ntmps50
      go_wp2_with fail
      have HK0 := Lib.hid (Blk.new w 68 #[.int .i64 num, .bool false])
      have HW0 := Lib.hid ((Below.refl w.heap.size w).alloc (Nat.le_refl _) (.cells #[.int .i64 num, .bool false] 68))
      have hw0 : w.heap.size < (w.alloc (.cells #[.int .i64 num, .bool false] 68)).heap.size := by simp
      generalize w.alloc (.cells #[.int .i64 num, .bool false] 68) = w0 at *
      go_loopw [8, 13] (fun out ix wr => ShRel N ps w0 out ix wr) (fun _ ix _ => N + 1 - (intOf ix).toNat)
      case atStart => exact ⟨0, rfl, Nat.zero_le _, OwP.nil_ _ _ _, Below.refl _ _⟩
      case round =>
        obtain ⟨i, rfl, hi, how, hbel⟩ := hrel
        have HOW := Lib.hid how
        have HBR := Lib.hid hbel
        have hcur : Below w.heap.size w wr := HW0.out.trans (hbel.mono (Nat.le_of_lt hw0))
        have hszr : w0.heap.size ≤ wr.heap.size := hbel.size
        have HKR := Lib.hid (HK0.out.below hbel hw0)
        by_cases hlt : i < N
        · have hltI : (i : Int) < N := by omega
          have hip : i < ps.length := by have := HPL.out; omega
          have hcall := HFN.out i (by omega) wr (HI.out _ hcur)
          rw [HOS.out i hip] at hcall
          have HTK := Lib.hid (show ps.take (i + 1) = ps.take i ++ [ps[i]] by rw [List.take_succ_eq_append_getElem hip])
          have hll : (ps.take i).length ≤ 100000 := by rw [List.length_take]; omega
          have HLL := Lib.hid hll
          have HCALL := Lib.hid (hcall.mono fun e w' h => h.yes)
          unfold RetOidY at HCALL
          clear how hbel hcall hll
          generalize ps[i] = pl at *
          generalize hLg : ps.take i = LL at *
          go_wp2_with (first | (go_at_fn k; refine HCALL.out.mono ?_; rintro e wd ⟨vd, rfl, hod, hbwd⟩; obtain ⟨Ad, kd, rfl⟩ := isB_slice hod.isB; have HPD := Lib.hid (part_newD hod HOW.out hszr); have HAD := Lib.hid (HOW.out.below hbwd); have HWD := Lib.hid (HBR.out.trans (hbwd.mono hszr)); clear hod hbwd) | (at_builtin; refine wpList_appP _ rfl _ _ 74 rfl w0.heap.size 33 ulBs infoBsD _ LL rfl (HAD.out.alloc _) _ (.slice Ad pl.length kd) pl rfl isR_oneD (HPD.out.alloc _) ?n2 ?b2 ?_))
          case n2 => have := HLL.out; omega
          case b2 => have := HWD.out.size; simp; omega
          intro v6 w6 ho6 hb6 _
          have HO6 := Lib.hid ho6
          have HB6 := Lib.hid ((HWD.out.alloc HWD.out.size (.cells #[.slice Ad pl.length kd] 33)).trans hb6)
          clear ho6 hb6
          go_wp2
          go_roundw
          case rel => exact ⟨i + 1, by go_num, by omega, by rw [HTK.out]; exact HO6.out, HB6.out⟩
          case measure => simp [intOf]; omega
        · have hie : i = N := by omega
          have how := HOW.out
          rw [hie, ← HPL.out, List.take_length] at how
          have HNB := Lib.hid how.isBs
          have hge : (N : Int) ≤ i := by omega
          have HCU := Lib.hid hcur
          have qR := HKR.out.q
          have lR := HKR.out.lt
          obtain ⟨Ao, ko, hoe⟩ := how.slice
          have hlp := HPL.out
          rw [hlp, ← hie] at hoe
          subst hoe
          clear how hlt hi hie hbel hcur hlp
          go_wp2_with (((go_at_call 82); (with_reducible refine (HWR.out _ _ HNB.out).mono ?_); rintro e we ⟨ve, rfl, hoe, hbwe⟩; obtain ⟨Ae, ke, rfl⟩ := isB_slice hoe.isB; have HOE := Lib.hid hoe; have HWE := Lib.hid (HCU.out.trans (hbwe.mono HCU.out.size)); have HSE := Lib.hid HCU.out.size; clear hoe hbwe))
          go_ret2
          exact ⟨_, rfl, HOE.out.more HSE.out, HWE.out⟩
end Go.Proofs.YtlmnmgokfnnbbaaGreatDoor
end

/- Walks over dn.MarshalRDN, ValidRDN, Marshal, Valid. -/
section
set_option linter.unusedSimpArgs false
set_option linter.unusedVariables false
namespace Go.Cr
open Go.RowKit
theorem first_none {α : Type} (f : Nat → Option α) : ∀ n, (∃ i, i < n ∧ f i = none) → ∃ m, m < n ∧ f m = none ∧ ∀ j, j < m → (f j).isSome = true
  | 0, ⟨i, hi, _⟩ => absurd hi (by omega)
  | n + 1, ⟨i, hi, he⟩ => by
    by_cases h : ∃ i, i < n ∧ f i = none
    · obtain ⟨m, h1, h2, h3⟩ := first_none f n h
      exact ⟨m, by omega, h2, h3⟩
    · have hin : i = n := by
        rcases Nat.lt_or_ge i n with h1 | h1
        · exact absurd ⟨i, h1, he⟩ h
        · omega
      subst hin
      refine ⟨i, by omega, he, fun j hj => ?_⟩
      cases hf : f j with
      | some _ => rfl
      | none => exact absurd ⟨j, hj, hf⟩ h
theorem optL_first {α : Type} {f : α → Option (List UInt8)} {l : List α} (h : optL f l = none) : ∃ m, m < l.length ∧ (∃ hm : m < l.length, f l[m] = none) ∧ ∃ ps : List (List UInt8), ps.length = m ∧ ∀ j (h1 : j < ps.length) (h2 : j < l.length), f l[j] = some ps[j] := by
  obtain ⟨i, hi, he⟩ := optL_none h
  obtain ⟨m, h1, h2, h3⟩ := first_none (fun j => match l[j]? with | some a => f a | none => some []) l.length ⟨i, hi, by simp [hi, he]⟩
  refine ⟨m, h1, ⟨h1, by simpa [h1] using h2⟩, (l.take m).map (fun a => (f a).getD []), by simp; omega, fun j hj hl => ?_⟩
  have hjm : j < m := by simp at hj; omega
  have := h3 j hjm
  simp only [List.getElem?_eq_getElem hl] at this
  obtain ⟨c, hc⟩ := Option.isSome_iff_exists.1 this
  simp [hc]
def SzR (r : Rdn) : Prop := r.length ≤ 10000 ∧ (∀ a ∈ r, a.1.size ≤ 100000 ∧ a.2.length ≤ 100000) ∧ ∀ ps, optL marX r = some ps → ps.flatten.length ≤ 900000
def SzNm (n : Nam) : Prop := n.length ≤ 10000 ∧ (∀ r ∈ n, SzR r) ∧ ∀ ps, optL marR n = some ps → ps.flatten.length ≤ 900000
end Go.Cr
namespace Go.Proofs.YtlmnmgokfnnbbaaGreatDoor
open Go.RowKit Go.Cr
theorem ulRdn : Tryz.prog.underlying 30 = some (.slice 58) := by kernel_rfl
theorem ulNam : Tryz.prog.underlying 23 = some (.slice 30) := by kernel_rfl
theorem szAtt (W : World) : (sizeOf 58).run Tryz.prog W = .ok 2 W := by kernel_rfl
theorem szRdn (W : World) : (sizeOf 30).run Tryz.prog W = .ok 1 W := by kernel_rfl
theorem enMR1 : ∀ args W, (callFunc 51 args).run Tryz.prog W = .ok (.enter 51 args) W := enters_of Tryz.func51 (by kernel_rfl) rfl
theorem enMN1 : ∀ args W, (callFunc 63 args).run Tryz.prog W = .ok (.enter 63 args) W := enters_of Tryz.func63 (by kernel_rfl) rfl
theorem enSh : ∀ args W, (callFunc 50 args).run Tryz.prog W = .ok (.enter 50 args) W := enters_of Tryz.func50 (by kernel_rfl) rfl
theorem RetOid.mk_no {w w' : World} {e : Ending} (h : RetB (.tuple #[.slice none 0 0, .int .i64 8]) w e w') : RetOid none w e w' := ⟨h.2, .inl ⟨rfl, h.1⟩⟩
theorem RetOid.mk_yes {c : List UInt8} {w w' : World} {e : Ending} (h : RetOidY c w e w') : RetOid (some c) w e w' := by
  obtain ⟨v, h1, h2, h3⟩ := h
  exact ⟨h3, .inr ⟨c, v, rfl, h1, h2⟩⟩
set_option maxRecDepth 100000 in
set_option maxHeartbeats 4000000 in
theorem mr1 (i : Nat) (g : Nat) (A : Option Addr) (c : Nat) (r : Rdn) (w : World) (hi : i < r.length) (hG : Glo w) (hk : Blk w g 30 #[.slice A r.length c]) (hv : IsQs w (.slice A r.length c) r) (hz : SzR r) :
    Calls Tryz.prog 51 #[.int .i64 (i : Int), .pointer (some ⟨g, 0, none⟩)] w (RetOid (marX r[i]) w) := by
  obtain ⟨b, o, A2, c2, hi2, hbl, h0, h1, hIB⟩ := hv.at_ (P := Tryz.prog) ulRdn szAtt .i64 i hi
  have hzi := hz.2.1 _ (List.getElem_mem hi)
  have HM := Lib.hid (attMarshal r[i].1 _ r[i].2 w hG hIB (by omega) (by omega))
  have q0 : w.cell? ⟨g, 0, none⟩ = some (.slice A r.length c) := (hk.q 0).trans rfl
  have hiI : (i : Int) < r.length := by omega
  have he : marA r[i].1.data.toList r[i].2 = marX r[i] := rfl
  rw [he] at HM
  clear hv hz hG hzi hIB he
  cases hm : marX r[i] with
  | none =>
    rw [hm] at HM
    have HM2 := Lib.hid (HM.out.mono fun e w' h => h.no)
    clear HM hm
    generalize r[i] = a at *
    go_enter Tryz.func51, Tryz.ntmps51
    go_wp2_with (((go_at_call 52); (with_reducible refine HM2.out.mono ?_); rintro e w1 ⟨rfl, hb1⟩))
    go_ret2
    exact RetOid.mk_no ⟨rfl, hb1⟩
  | some y =>
    rw [hm] at HM
    have HM2 := Lib.hid (HM.out.mono fun e w' h => h.yes)
    unfold RetOidY at HM2
    clear HM hm
    generalize r[i] = a at *
    go_enter Tryz.func51, Tryz.ntmps51
    go_wp2_with (((go_at_call 52); (with_reducible refine HM2.out.mono ?_); rintro e w1 ⟨v1, rfl, ho1, hb1⟩; obtain ⟨A1, k1, rfl⟩ := isB_slice ho1.isB))
    go_ret2
    exact RetOid.mk_yes ⟨_, rfl, ho1, hb1⟩
theorem shR (g : Nat) (A : Option Addr) (c : Nat) (r : Rdn) (w : World) (hG : Glo w) (hk : Blk w g 30 #[.slice A r.length c]) (hv : IsQs w (.slice A r.length c) r) (hz : SzR r) (h0 : r.length ≠ 0) :
    Calls Tryz.prog 50 #[.agg #[.int .i64 17, .bool true], .int .i64 (r.length : Int), .func (.func 51) #[] #[.pointer (some ⟨g, 0, none⟩)]] w (RetOid (marR r) w) := by
  have hI : ∀ W, Below w.heap.size w W → Glo W ∧ Blk W g 30 #[.slice A r.length c] ∧ IsQs W (.slice A r.length c) r := fun W h => ⟨hG.below h, hk.call h, hv.below h⟩
  have hF : OneFn 51 #[.pointer (some ⟨g, 0, none⟩)] (fun W => Glo W ∧ Blk W g 30 #[.slice A r.length c] ∧ IsQs W (.slice A r.length c) r) r.length (fun i => match r[i]? with | some a => marX a | none => some []) := fun i hi W ⟨k1, k2, k3⟩ => by
    have := mr1 i g A c r W hi k1 k2 k3 hz
    simpa [hi] using this
  have hzl := hz.1
  unfold marR
  cases ho : optL marX r with
  | none =>
    obtain ⟨m, h1, ⟨_, h2⟩, ps, h3, h4⟩ := optL_first ho
    have ho2 : ∀ (j : Nat) (h : j < ps.length), (match r[j]? with | some a => marX a | none => some []) = some ps[j] := fun j hj => by
      have hjl : j < r.length := by omega
      simpa [hjl] using h4 j hj hjl
    exact (shape_bad 17 true r.length m _ _ _ _ ps w enMR1 hI hF (by omega) h1 h3 ho2 (by simpa [h1] using h2)).mono fun e w' h => RetOid.mk_no h
  | some ps =>
    have hl := optL_len ho
    have ho2 : ∀ (j : Nat) (h : j < ps.length), (match r[j]? with | some a => marX a | none => some []) = some ps[j] := fun j hj => by
      have hjl : j < r.length := by omega
      simpa [hjl] using optL_at ho j hjl hj
    refine (shape_good 17 true r.length _ _ _ _ ps w enMR1 hI hF (by omega) hl ho2 (by decide) (hz.2.2 ps ho)).mono fun e w' h => ?_
    simp only
    cases ha : ascB ps with
    | true =>
      rw [ha] at h
      rw [if_pos ⟨h0, rfl⟩]
      exact RetOid.mk_yes h
    | false =>
      rw [ha] at h
      rw [if_neg (by simp)]
      exact RetOid.mk_no h
set_option maxRecDepth 100000 in
set_option maxHeartbeats 4000000 in
theorem dnMarshalRDN (v : Value) (r : Rdn) (w : World) (hG : Glo w) (hv : IsQs w v r) (hz : SzR r) : Calls Tryz.prog 24 #[v] w (RetOid (marR r) w) := by
  have hlen := hv.len (P := Tryz.prog) ulRdn
  obtain ⟨A, c, rfl⟩ := isQs_slice hv
  by_cases h0 : r.length = 0
  · have hm : marR r = none := by
      unfold marR
      split
      · rfl
      · rw [if_neg (fun h => h.1 h0)]
    rw [hm]
    rw [h0] at hlen ⊢
    clear hv hz hG hm h0
    go_enter Tryz.func24, Tryz.ntmps24
    go_wp2_with fail
    go_ret2
    exact RetOid.mk_no ⟨rfl, (Below.refl _ _).alloc (Nat.le_refl _) _⟩
  · have HS := Lib.hid (shR w.heap.size A c r (w.alloc (.cells #[.slice A r.length c] 30)) (hG.alloc _) (Blk.new _ _ _) (hv.alloc _) hz h0)
    have h0I : ((r.length : Int) == 0) = false := beq_eq_false_iff_ne.2 (by omega)
    have hen := enSh
    cases hm : marR r with
    | none =>
      rw [hm] at HS
      have HS2 := Lib.hid (HS.out.mono fun e w' h => h.no)
      clear hv hz hG hm h0 HS
      go_enter Tryz.func24, Tryz.ntmps24
      go_wp2_with (go_at_fn 50; refine HS2.out.mono ?_; rintro e w1 ⟨rfl, hb1⟩)
      go_ret2
      exact RetOid.mk_no ⟨rfl, ((Below.refl w.heap.size w).alloc (Nat.le_refl _) _).trans (hb1.mono (by simp))⟩
    | some y =>
      rw [hm] at HS
      have HS2 := Lib.hid (HS.out.mono fun e w' h => h.yes)
      unfold RetOidY at HS2
      clear hv hz hG hm h0 HS
      go_enter Tryz.func24, Tryz.ntmps24
      go_wp2_with (go_at_fn 50; refine HS2.out.mono ?_; rintro e w1 ⟨v1, rfl, ho1, hb1⟩; obtain ⟨A1, k1, rfl⟩ := isB_slice ho1.isB)
      go_ret2
      exact RetOid.mk_yes ⟨_, rfl, ho1.more (by simp), ((Below.refl w.heap.size w).alloc (Nat.le_refl _) _).trans (hb1.mono (by simp))⟩
end Go.Proofs.YtlmnmgokfnnbbaaGreatDoor
end

/- Walks over the reference's Valid, Marshal. -/
section
set_option linter.unusedSimpArgs false
set_option linter.unusedVariables false
namespace Go.Proofs.YtlmnmgokfnnbbaaGreatDoor
open Go.RowKit Go.Cr
set_option maxRecDepth 100000 in
set_option maxHeartbeats 4000000 in
theorem rFewAttr (s : ByteArray) (v : Value) (l : List UInt8) (w : World) (hv : IsB w v l) (hs : s.size ≤ 9223372036854775807) :
    Calls Tryz.prog 49 #[.agg #[.string s, v]] w (RetB (.bool (decide (s.size ≤ 200 ∧ l.length ≤ 1000))) w) := by
  have hlen := hv.len ulB
  obtain ⟨A, k, rfl⟩ := isB_slice hv
  by_cases h1 : s.size ≤ 200
  · by_cases h2 : l.length ≤ 1000
    · rw [decide_eq_true ⟨h1, h2⟩]
      have e1 : (s.size : Int) ≤ 200 := by omega
      have e2 : (l.length : Int) ≤ 1000 := by omega
      have d2 : decide (l.length ≤ 1000) = true := decide_eq_true h2
      have d1 : decide (s.size ≤ 200) = true := decide_eq_true h1
      clear hv
      go_enter Tryz.func49, Tryz.ntmps49
      go_wp2_with fail
      go_ret
      exact ⟨rfl, by ((repeat' (first | (with_reducible exact Below.refl _ _) | (with_reducible assumption) | (with_reducible refine Below.setCell ?_ ?_ _) | (with_reducible refine Below.alloc ?_ ?_ _) | (with_reducible refine Below.drew ?_) | (with_reducible refine below_drewN ?_ _) | (with_reducible refine Below.step (by with_reducible assumption) ?_ ?_))) <;> (first | omega | (simp; done) | (simp; omega)))⟩
    · rw [decide_eq_false (fun h => h2 h.2)]
      have e1 : (s.size : Int) ≤ 200 := by omega
      have e2 : 1000 < (l.length : Int) := by omega
      have d1 : decide (s.size ≤ 200) = true := decide_eq_true h1
      clear hv
      go_enter Tryz.func49, Tryz.ntmps49
      go_wp2_with fail
      go_ret
      exact ⟨by simp; omega, by ((repeat' (first | (with_reducible exact Below.refl _ _) | (with_reducible assumption) | (with_reducible refine Below.setCell ?_ ?_ _) | (with_reducible refine Below.alloc ?_ ?_ _) | (with_reducible refine Below.drew ?_) | (with_reducible refine below_drewN ?_ _) | (with_reducible refine Below.step (by with_reducible assumption) ?_ ?_))) <;> (first | omega | (simp; done) | (simp; omega)))⟩
  · rw [decide_eq_false (fun h => h1 h.1)]
    have e1 : 200 < (s.size : Int) := by omega
    have d1 : decide (s.size ≤ 200) = false := decide_eq_false h1
    clear hv
    go_enter Tryz.func49, Tryz.ntmps49
    go_wp2_with fail
    go_ret
    exact ⟨rfl, by ((repeat' (first | (with_reducible exact Below.refl _ _) | (with_reducible assumption) | (with_reducible refine Below.setCell ?_ ?_ _) | (with_reducible refine Below.alloc ?_ ?_ _) | (with_reducible refine Below.drew ?_) | (with_reducible refine below_drewN ?_ _) | (with_reducible refine Below.step (by with_reducible assumption) ?_ ?_))) <;> (first | omega | (simp; done) | (simp; omega)))⟩

set_option maxRecDepth 100000 in
set_option maxHeartbeats 4000000 in
theorem rAttValid (s : ByteArray) (v : Value) (l : List UInt8) (w : World) (hv : IsB w v l) (hs : s.size ≤ 1000000) (hl : l.length ≤ 1000000) :
    Calls Tryz.prog 59 #[.agg #[.string s, v]] w (RetB (.bool (marA s.data.toList l).isSome) w) := by
  rw [marA_isSome]
  obtain ⟨A, k, rfl⟩ := isB_slice hv
  have HV := Lib.hid hv
  have HO : Hid (∀ W, Calls Tryz.prog 96 #[.string s] W (RetB (.bool (arcsL s.data.toList).isSome) W)) := fun W => rOidValid s W hs
  have H := Lib.hid (fun W u (h : IsB W u l) => rOpen_any u l W h hl)
  clear hv hs
  generalize (arcsL s.data.toList).isSome = B at *
  generalize decide (treeOK 16 l) = T at *
  cases B <;> cases T
  all_goals
    go_enter Tryz.func59, Tryz.ntmps59
    go_wp2_with (first | ((go_at_call 96); (with_reducible refine (HO.out _).mono ?_); rintro e w1 ⟨rfl, hbw1⟩; obtain ⟨hcw1, hfw1⟩ := bcell hbw1; have hzw1 := hbw1.size; (try simp at hzw1); have hyw1 : w.heap.size < w1.heap.size := (by omega); (try have hyaw1 : w.heap.size + 1 < w1.heap.size := (by omega)); (try have hybw1 : w.heap.size + 2 < w1.heap.size := (by omega)); (try have hycw1 : w.heap.size + 3 < w1.heap.size := (by omega)); (try have hydw1 : w.heap.size + 4 < w1.heap.size := (by omega)); clear hzw1; have K0 := Blk.call (Blk.new w 58 #[.string s, .slice A l.length k]) hbw1; have lK0 := K0.lt; have qK0 := K0.q; have rK0 := K0.fz; have K0' := Lib.hid K0; clear K0; have K0 := K0'.out; clear K0') | ((go_at_call 97); (with_reducible refine (H.out _ _ ((HV.out.alloc _).below hbw1)).mono ?_); rintro e w2 ⟨rfl, hbw2⟩; have hs2 := hbw2.size))
    go_ret
    exact ⟨rfl, by ((repeat' (first | (with_reducible exact Below.refl _ _) | (with_reducible assumption) | (with_reducible refine Below.setCell ?_ ?_ _) | (with_reducible refine Below.alloc ?_ ?_ _) | (with_reducible refine Below.drew ?_) | (with_reducible refine below_drewN ?_ _) | (with_reducible refine Below.step (by with_reducible assumption) ?_ ?_))) <;> (first | omega | (simp; done) | (simp; omega)))⟩

set_option maxRecDepth 100000 in
set_option maxHeartbeats 4000000 in
theorem rObject (s : ByteArray) (c : List UInt8) (w : World) (hs : s.size ≤ 100000) (hc : oidE s.data.toList = some c) :
    Calls Tryz.prog 129 #[.string s] w (RetO 5 (encO 0 false 6 c) w) := by
  have hsl : s.data.toList.length = s.size := rfl
  have hcl := oidE_len hc
  have HO : Hid (∀ W, Calls Tryz.prog 163 #[.string s] W (RetOidY c W)) := fun W => (rOidEnc s W (by omega)).mono fun e w' hh => by rw [hc] at hh; exact hh.yes
  have HP : Hid (∀ W u, IsB W u c → Calls Tryz.prog 94 #[.int .u8 6, u] W (RetO 5 (encO 0 false 6 c) W)) := fun W u h => rPut 6 u c W h (by omega)
  clear hs hc hsl hcl
  go_enter Tryz.func129, Tryz.ntmps129
  go_wp2_with (first | ((go_at_call 163); (with_reducible refine (HO.out _).mono ?_); rintro e w2 ⟨v2, rfl, ho2, hbw2⟩; obtain ⟨A2, k2, rfl⟩ := isB_slice ho2.isB; have HO2 := Lib.hid ho2; clear ho2) | ((go_at_call 94); (with_reducible refine (HP.out _ _ HO2.out.isB).mono ?_); rintro e w3 ⟨v3, rfl, ho3, hbw3⟩; have HO3 := Lib.hid ho3; clear ho3))
  go_ret
  exact ⟨_, rfl, HO3.out.more hbw2.size, hbw2.trans (hbw3.mono hbw2.size)⟩

set_option maxRecDepth 100000 in
set_option maxHeartbeats 4000000 in
theorem rAttMarshal (s : ByteArray) (v : Value) (l : List UInt8) (w : World) (hv : IsB w v l) (hs : s.size ≤ 100000) (hl : l.length ≤ 100000) :
    Calls Tryz.prog 95 #[.agg #[.string s, v]] w (RetOid (marA s.data.toList l) w) := by
  have HW := Lib.hid (fun W u (h : IsB W u l) => rAttValid s u l W h (by omega) (by omega))
  obtain ⟨A, k, rfl⟩ := isB_slice hv
  have HV := Lib.hid hv
  cases hm : marA s.data.toList l with
  | none =>
    rw [hm] at HW
    clear hv hs hl hm
    go_enter Tryz.func95, Tryz.ntmps95
    go_wp2_with (first | ((go_at_call 59); (with_reducible refine (HW.out _ _ (HV.out.alloc _)).mono ?_); rintro e w1 ⟨rfl, hbw1⟩))
    go_ret2
    exact ⟨by ((repeat' (first | (with_reducible exact Below.refl _ _) | (with_reducible assumption) | (with_reducible refine Below.setCell ?_ ?_ _) | (with_reducible refine Below.alloc ?_ ?_ _) | (with_reducible refine Below.drew ?_) | (with_reducible refine below_drewN ?_ _) | (with_reducible refine Below.step (by with_reducible assumption) ?_ ?_))) <;> (first | omega | (simp; done) | (simp; omega))), .inl ⟨rfl, rfl⟩⟩
  | some b =>
    obtain ⟨c, hc, ht, hb⟩ := marA_some hm
    have hcl := oidE_len hc
    have hsl : s.data.toList.length = s.size := rfl
    have HO := Lib.hid (fun W => rObject s c W hs hc)
    have hL := encO_len 0 6 false c
    have hlo := lenOct_len c.length
    have HP : Hid (∀ W u, IsBs W u [encO 0 false 6 c, l] → Calls Tryz.prog 57 #[.int .u8 48, u] W (RetO 5 b W)) := fun W u h => by
      have := rPuts 48 u [encO 0 false 6 c, l] W h (by simp; omega)
      have e : (48 :: (lenOct [encO 0 false 6 c, l].flatten.length ++ [encO 0 false 6 c, l].flatten)) = b := by rw [hb]; simp [encO]; rfl
      rwa [e] at this
    rw [hm] at HW
    clear hv hs hl hm hb hc ht hcl hL hlo
    generalize encO 0 false 6 c = E6 at *
    go_enter Tryz.func95, Tryz.ntmps95
    go_wp2_with (first | ((go_at_call 59); (with_reducible refine (HW.out _ _ (HV.out.alloc _)).mono ?_); rintro e w1 ⟨rfl, hbw1⟩; obtain ⟨hcw1, hfw1⟩ := bcell hbw1; have hzw1 := hbw1.size; (try simp at hzw1); have hyw1 : w.heap.size < w1.heap.size := (by omega); (try have hyaw1 : w.heap.size + 1 < w1.heap.size := (by omega)); (try have hybw1 : w.heap.size + 2 < w1.heap.size := (by omega)); (try have hycw1 : w.heap.size + 3 < w1.heap.size := (by omega)); (try have hydw1 : w.heap.size + 4 < w1.heap.size := (by omega)); clear hzw1; have K0 := Blk.call (Blk.new w 58 #[.string s, .slice A l.length k]) hbw1; have lK0 := K0.lt; have qK0 := K0.q; have rK0 := K0.fz; have K0' := Lib.hid K0; clear K0; have K0 := K0'.out; clear K0'; have HV1 := Lib.hid ((HV.out.alloc _).below hbw1)))
    go_region_held3 (fun W' => W'.cell? ⟨w.heap.size, 0, none⟩ = some (.string s) ∧ W'.cell? ⟨w.heap.size, 1, none⟩ = some (.slice A l.length k))
      (first | go_keep | (exact ⟨(hbw3.cell (by simp; omega)).trans (by simp [*]), (hbw3.cell (by simp; omega)).trans (by simp [*])⟩) | (exact ⟨(hbw2.cell lK0).trans (by simp [*]), (hbw2.cell lK0).trans (by simp [*])⟩))
      (first | ((go_at_call 129); (with_reducible refine (HO.out _).mono ?_); rintro e w2 ⟨v2, rfl, ho2, hbw2⟩; obtain ⟨A2, k2, rfl⟩ := isB_slice ho2.isB; have HO2 := Lib.hid ho2; clear ho2; have hy2 : w.heap.size < w2.heap.size := Nat.lt_of_lt_of_le lK0 hbw2.size) | ((go_at_call 57); (with_reducible refine (HP.out _ _ (isBs_two (by simp) HO2.out.isB ((HV1.out.drew).below hbw2))).mono ?_); rintro e w3 ⟨v3, rfl, ho3, hbw3⟩; have HO3 := Lib.hid ho3; clear ho3))
    go_wp2
    go_ret2
    have s2 := hbw2.size; have s3 := hbw3.size
    simp at s2 s3
    have b1 : Below w.heap.size w w1 := ((Below.refl _ w).alloc (Nat.le_refl _) _).trans (hbw1.mono (by simp))
    have b2 : Below w.heap.size w w2 := b1.drew.trans (hbw2.mono (by simp; omega))
    exact ⟨(b2.alloc (by omega) _).trans (hbw3.mono (by simp; omega)), .inr ⟨b, _, rfl, rfl, HO3.out.more (by simp; omega)⟩⟩
end Go.Proofs.YtlmnmgokfnnbbaaGreatDoor
end

/- Walks over the reference's FewRDN and Few. -/
section
set_option linter.unusedSimpArgs false
set_option linter.unusedVariables false
namespace Go.Cr
open Go.RowKit
def sumV (r : Rdn) : Nat := (r.map fun a => a.2.length).sum
theorem sumV_succ (r : Rdn) {i : Nat} (h : i < r.length) : sumV (r.take (i + 1)) = sumV (r.take i) + r[i].2.length := by
  unfold sumV
  rw [List.take_succ_eq_append_getElem h, List.map_append, List.sum_append]
  simp
def FewA (a : At) : Prop := a.1.size ≤ 200 ∧ a.2.length ≤ 1000
theorem sumV_le {r : Rdn} {i : Nat} (h : ∀ j, j < i → FewA (r.getD j default)) (hi : i ≤ r.length) : sumV (r.take i) ≤ i * 1000 := by
  induction i with
  | zero => simp [sumV]
  | succ k ih =>
    have h1 := ih (fun j hj => h j (by omega)) (by omega)
    have h2 := (h k (by omega)).2
    have h3 : r.getD k default = r[k] := by simp [show k < r.length by omega]
    rw [h3] at h2
    rw [sumV_succ r (by omega)]
    omega
def BdR (M : Nat) (r : Rdn) : Prop := ∀ a ∈ r, a.1.size ≤ M ∧ a.2.length ≤ M
def FwR (r : Rdn) : Prop := r.length ≤ 8 ∧ (∀ a ∈ r, FewA a) ∧ sumV r ≤ 2000
def sumN (n : Nam) : Nat := (n.map sumV).sum
def FwNm (n : Nam) : Prop := n.length ≤ 10 ∧ (∀ r ∈ n, FwR r) ∧ sumN n ≤ 2000
theorem all_getDx {α : Type} [Inhabited α] {P : α → Prop} {l : List α} (h : ∀ j, j < l.length → P (l.getD j default)) : ∀ a ∈ l, P a := fun a ha => by
  obtain ⟨j, hj, rfl⟩ := List.mem_iff_getElem.1 ha
  have := h j hj
  simpa [hj] using this
theorem wr64d {x : Int} (h0 : 0 ≤ x) (h1 : x ≤ 9223372036854775807) : IntKind.i64.wrap x = x := by rw [IntKind.wrap_i64]; omega
end Go.Cr
namespace Go.Proofs.YtlmnmgokfnnbbaaGreatDoor
open Go.RowKit Go.Cr
def RetFr (r : Rdn) (w : World) (e : Ending) (w' : World) : Prop := ∃ b : Bool, e = .returned (.bool b) ∧ (b = true → FwR r) ∧ Below w.heap.size w w'
def FrRel (r : Rdn) (w : World) (nv ix : Value) (wr : World) : Prop := ∃ i n : Nat, ix = .int .i64 (i : Int) ∧ nv = .int .i64 (n : Int) ∧ n = sumV (r.take i) ∧ i ≤ r.length ∧ i ≤ 10 ∧ (∀ j, j < i → FewA (r.getD j default)) ∧ Below w.heap.size w wr
set_option maxRecDepth 100000 in
set_option maxHeartbeats 8000000 in
theorem rFewRDN (v : Value) (r : Rdn) (w : World) (hv : IsQs w v r) (hM : BdR 140737488351232 r) : Calls Tryz.prog 23 #[v] w (RetFr r w) := by
  have hlen := hv.len (P := Tryz.prog) ulRdn
  have hmx := hv.maxl
  have HV := Lib.hid hv
  have HM := Lib.hid hM
  obtain ⟨A, c, rfl⟩ := isQs_slice hv
  clear hv hM
  go_enter Tryz.func23, Tryz.ntmps23
  go_wp2_with fail
  go_loopw [3, 4] (fun nv ix wr => FrRel r w nv ix wr) (fun _ ix _ => r.length + 1 - (intOf ix).toNat)
  case atStart => exact ⟨0, 0, rfl, rfl, rfl, Nat.zero_le _, by omega, fun j h => by omega, Below.refl _ _⟩
  case round =>
    obtain ⟨i, n, rfl, rfl, hn, hi, hi10, hall, hbel⟩ := hrel
    have HN := Lib.hid hn
    have HALL := Lib.hid hall
    have HB := Lib.hid hbel
    have hnb : n ≤ 10000 := by rw [hn]; have := sumV_le hall hi; omega
    clear hn hall
    by_cases hlt : i < r.length
    · have hltI : (i : Int) < r.length := by omega
      by_cases h10 : i < 10
      · have h10I : (i : Int) < 10 := by omega
        obtain ⟨b, o, A2, k2, hi2, hl2, hc2, hd2, hIB⟩ := HV.out.at_ (P := Tryz.prog) ulRdn szAtt .i64 i hlt
        have hz := HM.out _ (List.getElem_mem hlt)
        have g0 := (hbel.cell (p := ⟨b, o, none⟩) hl2).trans hc2
        have g1 := (hbel.cell (p := ⟨b, o + 1, none⟩) hl2).trans hd2
        have HIB := Lib.hid (hIB.below hbel)
        have hbl := hIB.len (P := Tryz.prog) ulB
        have HF := Lib.hid (fun W (h : IsB W (.slice A2 r[i].2.length k2) r[i].2) => rFewAttr r[i].1 _ r[i].2 W h (by omega))
        have hga : r.getD i default = r[i] := by simp [hlt]
        have HGA := Lib.hid hga
        have HSU := Lib.hid (sumV_succ r hlt)
        clear hc2 hd2 hIB hz hga hbel
        by_cases hf : r[i].1.size ≤ 200 ∧ r[i].2.length ≤ 1000
        · rw [decide_eq_true hf] at HF
          have hf2 := hf.2
          have HFA := Lib.hid hf
          clear hf
          generalize r[i] = a at *
          obtain ⟨s, l⟩ := a
          simp only at HF g0 g1 HIB hbl hf2 HSU
          have hsum : IntKind.i64.wrap ((n : Int) + (l.length : Int)) = (n : Int) + (l.length : Int) := wr64d (by omega) (by omega)
          obtain ⟨n2, hn2⟩ : ∃ n2 : Nat, n2 = n + l.length := ⟨_, rfl⟩
          have hs2 : (n : Int) + (l.length : Int) = (n2 : Int) := by omega
          rw [hs2] at hsum
          have HN2 := Lib.hid hn2
          clear hn2
          go_wp2_with (((go_at_call 49); (with_reducible refine (HF.out _ HIB.out).mono ?_); rintro e w1 ⟨rfl, hb1⟩; have g1' := (hb1.cell (p := ⟨b, o + 1, none⟩) (Nat.lt_of_lt_of_le hl2 HB.out.size)).trans g1; have HB1 := Lib.hid (HB.out.trans (hb1.mono HB.out.size)); clear hb1))
          go_roundw
          case rel =>
            refine ⟨i + 1, n2, by go_num, by first | rfl | exact congrArg (Value.int .i64) hsum | (rw [← hs2]; rfl), by rw [HSU.out, HN2.out, HN.out], by omega, by omega, fun j hj => ?_, HB1.out⟩
            by_cases hji : j < i
            · exact HALL.out j hji
            · obtain rfl : j = i := by omega
              rw [HGA.out]
              exact HFA.out
          case measure => simp [intOf]; omega
        · rw [decide_eq_false hf] at HF
          clear hf
          generalize r[i] = a at *
          obtain ⟨s, l⟩ := a
          simp only at HF g0 g1 HIB hbl HSU
          go_wp2_with (((go_at_call 49); (with_reducible refine (HF.out _ HIB.out).mono ?_); rintro e w1 ⟨rfl, hb1⟩; have HB1 := Lib.hid (HB.out.trans (hb1.mono HB.out.size)); clear hb1))
          go_ret
          exact ⟨false, rfl, (fun h => by cases h), HB1.out⟩
      · have h10I : (10 : Int) ≤ i := by omega
        have h8 : (8 : Int) < r.length := by omega
        clear h10 hlt hi
        go_wp2_with fail
        go_ret
        exact ⟨false, by first | rfl | simp [*], (fun h => by cases h), HB.out⟩
    · have hge : (r.length : Int) ≤ i := by omega
      have hie : i = r.length := by omega
      have hfull : n = sumV r := by rw [HN.out, hie, List.take_length]
      by_cases hA : r.length ≤ 8
      · have hAI : (r.length : Int) ≤ 8 := by omega
        by_cases hB : n ≤ 2000
        · have hBI : (n : Int) ≤ 2000 := by omega
          have hR := Lib.hid (show FwR r from ⟨hA, all_getDx fun j hj => HALL.out j (by omega), by omega⟩)
          clear hlt hi hA hB hie hfull
          go_wp2_with fail
          go_ret
          exact ⟨true, by first | rfl | simp [*], fun _ => hR.out, HB.out⟩
        · have hBI : (2000 : Int) < n := by omega
          clear hlt hi hA hB hie hfull
          go_wp2_with fail
          go_ret
          exact ⟨false, by first | rfl | simp [*], (fun h => by cases h), HB.out⟩
      · have hAI : (8 : Int) < r.length := by omega
        clear hlt hi hA hie hfull
        go_wp2_with fail
        go_ret
        exact ⟨false, by first | rfl | simp [*], (fun h => by cases h), HB.out⟩
end Go.Proofs.YtlmnmgokfnnbbaaGreatDoor
end

/- Walks over the reference's Read of an attribute. -/
section
set_option linter.unusedSimpArgs false
set_option linter.unusedVariables false
namespace Go.Proofs.YtlmnmgokfnnbbaaGreatDoor
open Go.RowKit Go.Cr
theorem isNode_open {S : Nat → Prop} {d : Nat} {w : World} {cs : List Value} {l : List UInt8} (h : IsNode S (d + 1) w cs l) :
    ∃ (c1 c2 : Int) (c3 : Bool) (v4 v5 : Value) (xs : List Value), cs = [.int .i64 c1, .int .i64 c2, .bool c3, v4, v5] ∧ IsB w v4 (kidC l) ∧ IsR w v5 5 (kidsT d l).length xs ∧
      (∀ j (hj : j < (kidsT d l).length), IsNode S d w ((xs.drop (j * 5)).take 5) (kidsT d l)[j]) ∧ (kidsT d l).flatten.length ≤ l.length := by
  obtain ⟨hd, v4, v5, ks, xs, h1, h2, h3, h4, h5, h6, h7⟩ := h
  have hkid : kidsT d l = ks := by
    unfold kidsT
    rw [h1]
    cases hc : hd.con with
    | false => rw [hc] at h6; simp only [Bool.false_eq_true, if_false] at h6; simp [hc, h6]
    | true =>
      rw [hc, if_pos rfl] at h6
      have hl := cont_len h1
      simp only [hc, Bool.true_eq_false, if_false]
      rw [← h6, scanL_of ks _ (fun p hp => by
        obtain ⟨j, hj, rfl⟩ := List.getElem_of_mem hp
        exact (h7 j hj).1) (by rw [h6]; omega)]
      rfl
  have hkc : kidC l = if hd.con then [] else cont l hd := by unfold kidC; rw [h1]
  have hkk := nextH_ok h1
  have hcl := cont_len h1
  refine ⟨hd.cls, hd.num, hd.con, v4, v5, xs, h3, ?_, ?_, ?_, ?_⟩
  · rw [hkc]; exact h4.isR.bytes
  · rw [hkid]; exact h5.isR
  · rw [hkid]; exact fun j hj => (h7 j hj).2
  · rw [hkid]
    cases hc : hd.con with
    | false => rw [hc] at h6; simp only [Bool.false_eq_true, if_false] at h6; simp [h6]
    | true => rw [hc, if_pos rfl] at h6; rw [h6]; omega
theorem kidC_len (p : List UInt8) : (kidC p).length ≤ p.length := by
  unfold kidC
  split
  · simp
  · rename_i h e
    have := nextH_ok e
    have := cont_len e
    split
    · simp
    · omega
theorem getD_len (ks : List (List UInt8)) (j : Nat) : (ks.getD j []).length ≤ ks.flatten.length := by
  induction ks generalizing j with
  | nil => simp
  | cons x t ih =>
    cases j with
    | zero => simp
    | succ j => have := ih j; simp only [List.getD_cons_succ, List.flatten_cons, List.length_append]; omega

set_option maxRecDepth 100000 in
set_option maxHeartbeats 4000000 in
theorem rKid0_none (c1 c2 : Int) (c3 : Bool) (v4 v5 : Value) (xs : List Value) (w : World) (h4 : v4.oneCell' = true) (h5 : IsR w v5 5 0 xs) :
    Calls Tryz.prog 134 #[.agg #[.int .i64 c1, .int .i64 c2, .bool c3, v4, v5], .int .i64 0] w (RetB (.agg #[.int .i64 0, .int .i64 0, .bool false, .slice none 0 0, .slice none 0 0]) w) := by
  have hl5 := h5.len (P := Tryz.prog) ulNodes
  obtain ⟨A5, k5, rfl⟩ : ∃ A5 k5, v5 = .slice A5 0 k5 := by obtain ⟨A5, k5, h, _⟩ := h5; exact ⟨A5, k5, h⟩
  clear h5
  go_enter Tryz.func134, Tryz.ntmps134
  go_wp2_with fail
  (refine bodyPost_retB (v := .agg #[.int .i64 0, .int .i64 0, .bool false, .slice none 0 0, .slice none 0 0]) (by (simp only [results, Tryz.results134]; try go_simp)) rfl rfl ?_; ((repeat' (first | (with_reducible exact Below.refl _ _) | (with_reducible assumption) | (with_reducible refine Below.setCell ?_ ?_ _) | (with_reducible refine Below.alloc ?_ ?_ _) | (with_reducible refine Below.drew ?_) | (with_reducible refine below_drewN ?_ _) | (with_reducible refine Below.step (by with_reducible assumption) ?_ ?_))) <;> (first | omega | (simp; done) | (simp; omega))))

set_option maxRecDepth 100000 in
set_option maxHeartbeats 4000000 in
theorem rKid0_some (c1 c2 : Int) (c3 : Bool) (v4 v5 : Value) (n : Nat) (xs : List Value) (w : World) (h4 : v4.oneCell' = true) (h5 : IsR w v5 5 n xs) (hn : 0 < n)
    (x1 x2 : Int) (x3 : Bool) (y4 y5 : Option Addr) (m4 z4 m5 z5 : Nat) (hx : (xs.drop (0 * 5)).take 5 = [.int .i64 x1, .int .i64 x2, .bool x3, .slice y4 m4 z4, .slice y5 m5 z5]) :
    Calls Tryz.prog 134 #[.agg #[.int .i64 c1, .int .i64 c2, .bool c3, v4, v5], .int .i64 0] w (RetB (.agg #[.int .i64 x1, .int .i64 x2, .bool x3, .slice y4 m4 z4, .slice y5 m5 z5]) w) := by
  have hl5 := h5.len (P := Tryz.prog) ulNodes
  obtain ⟨b, o, hi, hbl, hcx⟩ := h5.at_ (P := Tryz.prog) ulNodes szNode .i64 (i := 0) (by omega) (by omega)
  obtain ⟨A5, k5, rfl⟩ : ∃ A5 k5, v5 = .slice A5 n k5 := by obtain ⟨A5, k5, h, _⟩ := h5; exact ⟨A5, k5, h⟩
  have p0 := hcx 0 _ (take5_at hx 0 (by omega))
  have p1 := hcx 1 _ (take5_at hx 1 (by omega))
  have p2 := hcx 2 _ (take5_at hx 2 (by omega))
  have p3 := hcx 3 _ (take5_at hx 3 (by omega))
  have p4 := hcx 4 _ (take5_at hx 4 (by omega))
  rw [Nat.add_zero] at p0
  have hnI : (0 : Int) < n := by omega
  have hd1 : decide (n ≤ 0) = false := decide_eq_false (by omega)
  have hd2 : decide ((0 : Int) ≥ n) = false := decide_eq_false (by omega)
  clear h5 hcx hx
  go_enter Tryz.func134, Tryz.ntmps134
  go_wp2_with fail
  (refine bodyPost_retB (v := .agg #[.int .i64 x1, .int .i64 x2, .bool x3, .slice y4 m4 z4, .slice y5 m5 z5]) (by (simp only [results, Tryz.results134]; try go_simp)) rfl rfl ?_; ((repeat' (first | (with_reducible exact Below.refl _ _) | (with_reducible assumption) | (with_reducible refine Below.setCell ?_ ?_ _) | (with_reducible refine Below.alloc ?_ ?_ _) | (with_reducible refine Below.drew ?_) | (with_reducible refine below_drewN ?_ _) | (with_reducible refine Below.step (by with_reducible assumption) ?_ ?_))) <;> (first | omega | (simp; done) | (simp; omega))))

set_option maxRecDepth 100000 in
set_option maxHeartbeats 4000000 in
theorem rReadObj (c1 c2 : Int) (c3 : Bool) (v4 v5 : Value) (c : List UInt8) (w : World) (h4 : IsB w v4 c) (h5 : v5.oneCell' = true) (hl : c.length ≤ 4000) :
    Calls Tryz.prog 133 #[.agg #[.int .i64 c1, .int .i64 c2, .bool c3, v4, v5]] w (RetB (.string (bStr ((oidD c).getD []))) w) := by
  obtain ⟨A, k, rfl⟩ := isB_slice h4
  have HV := Lib.hid h4
  have H := Lib.hid (fun W u (h : IsB W u c) => rDec u c W h hl)
  clear h4
  generalize oidD c = r at *
  cases r with
  | none =>
    have e0 : bStr ((none : Option (List UInt8)).getD []) = ⟨#[]⟩ := rfl
    rw [e0]
    simp only [decV] at H
    go_enter Tryz.func133, Tryz.ntmps133
    go_wp2_with (first | ((go_at_call 167); (with_reducible refine (H.out _ _ (HV.out.alloc _)).mono ?_); rintro e w1 ⟨rfl, hbw1⟩; have hs1 := hbw1.size; simp at hs1))
    go_ret
    exact ⟨rfl, by ((repeat' (first | (with_reducible exact Below.refl _ _) | (with_reducible assumption) | (with_reducible refine Below.setCell ?_ ?_ _) | (with_reducible refine Below.alloc ?_ ?_ _) | (with_reducible refine Below.drew ?_) | (with_reducible refine below_drewN ?_ _) | (with_reducible refine Below.step (by with_reducible assumption) ?_ ?_))) <;> (first | omega | (simp; done) | (simp; omega)))⟩
  | some s =>
    have e0 : bStr ((some s).getD []) = bStr s := rfl
    rw [e0]
    simp only [decV] at H
    go_enter Tryz.func133, Tryz.ntmps133
    go_wp2_with (first | ((go_at_call 167); (with_reducible refine (H.out _ _ (HV.out.alloc _)).mono ?_); rintro e w1 ⟨rfl, hbw1⟩; have hs1 := hbw1.size; simp at hs1))
    go_ret
    exact ⟨rfl, by ((repeat' (first | (with_reducible exact Below.refl _ _) | (with_reducible assumption) | (with_reducible refine Below.setCell ?_ ?_ _) | (with_reducible refine Below.alloc ?_ ?_ _) | (with_reducible refine Below.drew ?_) | (with_reducible refine below_drewN ?_ _) | (with_reducible refine Below.step (by with_reducible assumption) ?_ ?_))) <;> (first | omega | (simp; done) | (simp; omega)))⟩

theorem isB_nil0 (w : World) : IsB w (.slice none 0 0) [] := ⟨none, 0, rfl, Nat.le_refl _, by decide, fun h => absurd h (by simp)⟩

set_option maxRecDepth 100000 in
set_option maxHeartbeats 4000000 in
theorem rOctets1 (d : Nat) (S : Nat → Prop) (c1 c2 : Int) (c3 : Bool) (v4 v5 : Value) (ks : List (List UInt8)) (xs : List Value) (w : World) (h4 : v4.oneCell' = true) (h5 : IsR w v5 5 ks.length xs)
    (hk : ∀ j (hj : j < ks.length), IsNode S d w ((xs.drop (j * 5)).take 5) ks[j]) (hL : (ks.getD 1 []).length ≤ 900000) :
    Calls Tryz.prog 135 #[.agg #[.int .i64 c1, .int .i64 c2, .bool c3, v4, v5], .int .i64 1] w (RetO 5 (ks.getD 1 []) w) := by
  have hl5 := h5.len (P := Tryz.prog) ulNodes
  by_cases hn : 1 < ks.length
  · obtain ⟨b, o, hi, hbl, hcx⟩ := h5.at_ (P := Tryz.prog) ulNodes szNode .i64 (i := 1) (by omega) (by omega)
    obtain ⟨A5, k5, rfl⟩ : ∃ A5 k5, v5 = .slice A5 ks.length k5 := by obtain ⟨A5, k5, h, _⟩ := h5; exact ⟨A5, k5, h⟩
    have hnd := hk 1 hn
    obtain ⟨x1, x2, x3, y4, y5, m4, z4, m5, z5, hx⟩ := hnd.shape
    rw [hx] at hnd
    have p0 := hcx 0 _ (take5_at hx 0 (by omega))
    have p1 := hcx 1 _ (take5_at hx 1 (by omega))
    have p2 := hcx 2 _ (take5_at hx 2 (by omega))
    have p3 := hcx 3 _ (take5_at hx 3 (by omega))
    have p4 := hcx 4 _ (take5_at hx 4 (by omega))
    rw [Nat.add_zero] at p0
    have hgd : ks.getD 1 [] = ks[1] := by simp [hn]
    rw [hgd] at hL ⊢
    have H := Lib.hid (fun W (h : IsNode S d W [.int .i64 x1, .int .i64 x2, .bool x3, .slice y4 m4 z4, .slice y5 m5 z5] ks[1]) => rBytes d S x1 x2 x3 y4 y5 m4 z4 m5 z5 ks[1] W h hL)
    have HN := Lib.hid hnd
    have hnI : (1 : Int) < ks.length := by omega
    have hd1 : decide (ks.length ≤ 1) = false := decide_eq_false (by omega)
    clear h5 hcx hx hk hgd hL hnd
    generalize ks[1] = p at *
    generalize ks.length = n at *
    go_enter Tryz.func135, Tryz.ntmps135
    go_wp2_with (first | ((go_at_call 168); (with_reducible refine (H.out _ (node_alloc HN.out _)).mono ?_); rintro e w1 ⟨v1, rfl, ho1, hbw1⟩; have HO1 := Lib.hid ho1; clear ho1; have hs1 := hbw1.size; simp at hs1))
    go_ret
    exact ⟨_, rfl, HO1.out.more (by simp), by ((repeat' (first | (with_reducible exact Below.refl _ _) | (with_reducible assumption) | (with_reducible refine Below.setCell ?_ ?_ _) | (with_reducible refine Below.alloc ?_ ?_ _) | (with_reducible refine Below.drew ?_) | (with_reducible refine below_drewN ?_ _) | (with_reducible refine Below.step (by with_reducible assumption) ?_ ?_))) <;> (first | omega | (simp; done) | (simp; omega)))⟩
  · obtain ⟨A5, k5, rfl⟩ : ∃ A5 k5, v5 = .slice A5 ks.length k5 := by obtain ⟨A5, k5, h, _⟩ := h5; exact ⟨A5, k5, h⟩
    have hgd : ks.getD 1 [] = [] := by simp [show ks.length ≤ 1 by omega]
    rw [hgd]
    have hnI : (ks.length : Int) ≤ 1 := by omega
    have hd1 : decide (ks.length ≤ 1) = true := decide_eq_true (by omega)
    clear h5 hk hgd hL
    generalize ks.length = n at *
    go_enter Tryz.func135, Tryz.ntmps135
    go_wp2_with fail
    go_ret
    exact ⟨_, rfl, OwB.nil_ _ _ _, by ((repeat' (first | (with_reducible exact Below.refl _ _) | (with_reducible assumption) | (with_reducible refine Below.setCell ?_ ?_ _) | (with_reducible refine Below.alloc ?_ ?_ _) | (with_reducible refine Below.drew ?_) | (with_reducible refine below_drewN ?_ _) | (with_reducible refine Below.step (by with_reducible assumption) ?_ ?_))) <;> (first | omega | (simp; done) | (simp; omega)))⟩

def RetAt (s l : List UInt8) (w : World) (e : Ending) (w' : World) : Prop := ∃ A k, e = .returned (.agg #[.string (bStr s), .slice A l.length k]) ∧ OwB w' w.heap.size 5 (.slice A l.length k) l ∧ Below w.heap.size w w'

theorem cells5 {W : World} {g : Nat} {t : TypeId} {a b c d e : Value} (h : Blk W g t #[a, b, c, d, e]) : W.cell? ⟨g, 0, none⟩ = some a ∧ W.cell? ⟨g, 1, none⟩ = some b ∧ W.cell? ⟨g, 2, none⟩ = some c ∧ W.cell? ⟨g, 3, none⟩ = some d ∧ W.cell? ⟨g, 4, none⟩ = some e :=
  ⟨h.q 0, h.q 1, h.q 2, h.q 3, h.q 4⟩
set_option maxRecDepth 100000 in
set_option maxHeartbeats 8000000 in
theorem rAttRead_step (c1 c2 : Int) (c3 : Bool) (a4 a5 : Option Addr) (n4 k4 n5 k5 : Nat) (x1 x2 : Int) (x3 : Bool) (y4 y5 : Option Addr) (m4 z4 m5 z5 : Nat) (s l : List UInt8) (w : World)
    (H1 : ∀ W, Below w.heap.size w W → Calls Tryz.prog 134 #[.agg #[.int .i64 c1, .int .i64 c2, .bool c3, .slice a4 n4 k4, .slice a5 n5 k5], .int .i64 0] W (RetB (.agg #[.int .i64 x1, .int .i64 x2, .bool x3, .slice y4 m4 z4, .slice y5 m5 z5]) W))
    (H2 : ∀ W, Below w.heap.size w W → Calls Tryz.prog 133 #[.agg #[.int .i64 x1, .int .i64 x2, .bool x3, .slice y4 m4 z4, .slice y5 m5 z5]] W (RetB (.string (bStr s)) W))
    (H3 : ∀ W, Below w.heap.size w W → Calls Tryz.prog 135 #[.agg #[.int .i64 c1, .int .i64 c2, .bool c3, .slice a4 n4 k4, .slice a5 n5 k5], .int .i64 1] W (RetO 5 l W)) :
    Calls Tryz.prog 100 #[.agg #[.int .i64 c1, .int .i64 c2, .bool c3, .slice a4 n4 k4, .slice a5 n5 k5]] w (RetAt s l w) := by
  have G1 := Lib.hid H1
  have G2 := Lib.hid H2
  have G3 := Lib.hid H3
  clear H1 H2 H3
  go_enter Tryz.func100, Tryz.ntmps100
  go_wp2_with fail
  have K0 : Blk ((w.alloc (.cells #[.int .i64 c1, .int .i64 c2, .bool c3, .slice a4 n4 k4, .slice a5 n5 k5] 85)).alloc (.cells #[.string ⟨#[]⟩, .slice none 0 0] 58)).drew w.heap.size 85 #[.int .i64 c1, .int .i64 c2, .bool c3, .slice a4 n4 k4, .slice a5 n5 k5] := ((Blk.new w _ _).alloc _).drew
  have K9 : Blk ((w.alloc (.cells #[.int .i64 c1, .int .i64 c2, .bool c3, .slice a4 n4 k4, .slice a5 n5 k5] 85)).alloc (.cells #[.string ⟨#[]⟩, .slice none 0 0] 58)).drew (w.heap.size + 1) 58 #[.string ⟨#[]⟩, .slice none 0 0] := (blk_in (by simp)).drew
  have hB0 : Below w.heap.size w ((w.alloc (.cells #[.int .i64 c1, .int .i64 c2, .bool c3, .slice a4 n4 k4, .slice a5 n5 k5] 85)).alloc (.cells #[.string ⟨#[]⟩, .slice none 0 0] 58)).drew := (((Below.refl _ w).alloc (Nat.le_refl _) _).alloc (by simp) _).drew
  have HB0 := Lib.hid hB0
  clear hB0
  go_region_held3 (fun W' => W'.cell? ⟨w.heap.size, 0, none⟩ = some (.int .i64 c1) ∧ W'.cell? ⟨w.heap.size, 1, none⟩ = some (.int .i64 c2) ∧ W'.cell? ⟨w.heap.size, 2, none⟩ = some (.bool c3) ∧ W'.cell? ⟨w.heap.size, 3, none⟩ = some (.slice a4 n4 k4) ∧ W'.cell? ⟨w.heap.size, 4, none⟩ = some (.slice a5 n5 k5))
    (first | go_keep | exact cells5 J3 | exact cells5 J2 | exact cells5 J1)
    (first | ((go_at_call 134); (with_reducible refine (G1.out _ HB0.out).mono ?_); rintro e w1 ⟨rfl, hbw1⟩; have J1 := K0.call hbw1; have J1' := K9.call hbw1; have HB1 := Lib.hid (HB0.out.trans (hbw1.mono HB0.out.size))) | ((go_at_call 133); (with_reducible refine (G2.out _ HB1.out).mono ?_); rintro e w2 ⟨rfl, hbw2⟩; have J2 := J1.call hbw2; have J2' := J1'.call hbw2; have HB2 := Lib.hid (HB1.out.trans (hbw2.mono HB1.out.size))) | ((go_at_call 135); (with_reducible refine (G3.out _ HB2.out).mono ?_); rintro e w3 ⟨v3, rfl, hv3, hbw3⟩; obtain ⟨A3, k3, rfl⟩ := isB_slice hv3.isB; have J3 := J2.call hbw3; have J3' := J2'.call hbw3; have HV3 := Lib.hid hv3; have HB3 := Lib.hid (HB2.out.trans (hbw3.mono HB2.out.size)); have q3 := J3'.q; have f3 := J3'.fz; have l3 := J3'.lt; clear hv3))
  go_wp2
  refine bodyPost_ret (v := .agg #[.string (bStr s), .slice A3 l.length k3]) (by simp only [results, Tryz.results100]; go_simp) rfl ?_
  have hb := HB3.out
  have hs := HB2.out.size
  have z1 := hbw1.size
  have z2 := hbw2.size
  simp at z1
  have hlo : w.heap.size + 1 < w2.heap.size := by omega
  refine ⟨A3, k3, rfl, ?_, by ((repeat' (first | (with_reducible exact Below.refl _ _) | (with_reducible assumption) | (with_reducible refine Below.setCell ?_ ?_ _) | (with_reducible refine Below.alloc ?_ ?_ _) | (with_reducible refine Below.drew ?_) | (with_reducible refine below_drewN ?_ _) | (with_reducible refine Below.step (by with_reducible assumption) ?_ ?_))) <;> (first | omega | (simp; done) | (simp; omega)))⟩
  exact OwB.more (base := w2.heap.size) (ownsRow_setCell_below (ownsRow_setCell_below HV3.out hlo _) hlo _) (by omega)

set_option maxRecDepth 100000 in
set_option maxHeartbeats 4000000 in
theorem rAttRead_yes (c1 c2 : Int) (c3 : Bool) (a4 a5 : Option Addr) (n4 k4 n5 k5 : Nat) (l : List UInt8) (w : World) (S : Nat → Prop) (hn : IsNode S 60 w [.int .i64 c1, .int .i64 c2, .bool c3, .slice a4 n4 k4, .slice a5 n5 k5] l) (hL : l.length ≤ 4000) :
    Calls Tryz.prog 100 #[.agg #[.int .i64 c1, .int .i64 c2, .bool c3, .slice a4 n4 k4, .slice a5 n5 k5]] w (RetAt (rdA (kidsT 59 l)).1 (rdA (kidsT 59 l)).2 w) := by
  obtain ⟨_, _, _, v4, v5, xs, e, h4, h5, hk, hfl⟩ := isNode_open hn
  injection e with e1 e; injection e with e2 e; injection e with e3 e; injection e with e4 e; injection e with e5 e
  subst e4 e5
  have hg0 := getD_len (kidsT 59 l) 0
  have hg1 := getD_len (kidsT 59 l) 1
  have hc0 := kidC_len ((kidsT 59 l).getD 0 [])
  clear hn
  generalize kidsT 59 l = ks at *
  unfold rdA
  by_cases hz : ks.length = 0
  · have hk0 : ks = [] := List.eq_nil_of_length_eq_zero hz
    subst hk0
    refine rAttRead_step _ _ _ _ _ _ _ _ _ 0 0 false none none 0 0 0 0 _ _ w (fun W hb => ?_) (fun W hb => ?_) (fun W hb => ?_)
    · exact rKid0_none _ _ _ _ _ xs W rfl (h5.below hb)
    · exact rReadObj 0 0 false _ _ [] W (isB_nil0 W) rfl (by simp)
    · exact rOctets1 59 S _ _ _ _ _ [] xs W rfl (h5.below hb) (fun j hj => absurd hj (by simp)) (by simp)
  · have hn0 : 0 < ks.length := by omega
    have hnd := hk 0 hn0
    obtain ⟨x1, x2, x3, y4, y5, m4, z4, m5, z5, hx⟩ := hnd.shape
    rw [hx] at hnd
    have hgd : ks.getD 0 [] = ks[0] := by simp [hn0]
    obtain ⟨_, _, _, v4', v5', xs', e', h4', _, _, _⟩ := isNode_open (d := 58) hnd
    injection e' with e1 e'; injection e' with e2 e'; injection e' with e3 e'; injection e' with e4 e'; injection e' with e5 e'
    subst e4 e5
    refine rAttRead_step _ _ _ _ _ _ _ _ _ x1 x2 x3 y4 y5 m4 z4 m5 z5 _ _ w (fun W hb => ?_) (fun W hb => ?_) (fun W hb => ?_)
    · exact rKid0_some _ _ _ _ _ _ xs W rfl (h5.below hb) hn0 x1 x2 x3 y4 y5 m4 z4 m5 z5 hx
    · simp only
      rw [hgd] at hc0 hg0 ⊢
      exact rReadObj x1 x2 x3 _ _ _ W (h4'.below hb) rfl (by omega)
    · exact rOctets1 59 S _ _ _ _ _ ks xs W rfl (h5.below hb) (fun j hj => (hk j hj).below hb) (by omega)

theorem rAttRead_no (w : World) : Calls Tryz.prog 100 #[.agg #[.int .i64 0, .int .i64 0, .bool false, .slice none 0 0, .slice none 0 0]] w (RetAt (rdA []).1 (rdA []).2 w) := by
  have hr : ∀ W, IsR W (.slice none 0 0) 5 ([] : List (List UInt8)).length [] := fun W => ⟨none, 0, rfl, Nat.le_refl _, by decide, rfl, fun h => absurd h (by simp)⟩
  refine rAttRead_step _ _ _ _ _ _ _ _ _ 0 0 false none none 0 0 0 0 _ _ w (fun W hb => ?_) (fun W hb => ?_) (fun W hb => ?_)
  · exact rKid0_none _ _ _ _ _ [] W rfl (hr W)
  · exact rReadObj 0 0 false _ _ [] W (isB_nil0 W) rfl (by simp)
  · exact rOctets1 59 (fun _ => True) _ _ _ _ _ [] [] W rfl (hr W) (fun j hj => absurd hj (by simp)) (by simp)
end Go.Proofs.YtlmnmgokfnnbbaaGreatDoor
end

/- Walk over the reference's Parse of an attribute. -/
section
set_option linter.unusedSimpArgs false
set_option linter.unusedVariables false
namespace Go.Proofs.YtlmnmgokfnnbbaaGreatDoor
open Go.RowKit Go.Cr
theorem sub_len (n : Nat) : 1 ≤ (subL n).length := by
  unfold subL b128
  split <;> simp
theorem flat_len_ge (ms : List Nat) : ms.length ≤ (ms.flatMap subL).length := by
  induction ms with
  | nil => simp
  | cons x t ih => have := sub_len x; simp only [List.flatMap_cons, List.length_append, List.length_cons]; omega
theorem oidD_len {c s : List UInt8} (h : oidD c = some s) : s.length ≤ 21 * (c.length + 1) := by
  have he := (oid_iff _ _).1 h
  unfold oidE at he
  cases ha : arcsL s with
  | none => rw [ha] at he; cases he
  | some ns =>
    rw [ha] at he
    injection he with he
    have h1 := arcsL_some ha
    have h2 := textL_len h1.2.2
    have h3 := flat_len_ge (subsL ns)
    have h4 : ns.length ≤ (subsL ns).length + 1 := by unfold subsL; split <;> simp
    have h5 : encL ns = (subsL ns).flatMap subL := rfl
    rw [← h5, he] at h3
    rw [h1.1] at h2
    omega

def AtY (s l : List UInt8) (x : Value) (w : World) (e : Ending) (w' : World) : Prop := ∃ A k, e = .returned (.tuple #[.agg #[.string (bStr s), .slice A l.length k], x]) ∧ OwB w' w.heap.size 5 (.slice A l.length k) l ∧ Below w.heap.size w w'
def RetPA (r : Option (List UInt8 × List UInt8)) (w : World) (e : Ending) (w' : World) : Prop := match r with
  | none => RetB (.tuple #[.agg #[.string ⟨#[]⟩, .slice none 0 0], .bool false]) w e w'
  | some (s, l) => AtY s l (.bool true) w e w'
def RetDR (s l : List UInt8) (w : World) (e : Ending) (w' : World) : Prop := Below w.heap.size w w' ∧ ∃ (c1 c2 : Int) (c3 : Bool) (a4 a5 : Option Addr) (n4 k4 n5 k5 : Nat) (t : Bool),
  e = .returned (.tuple #[.agg #[.int .i64 c1, .int .i64 c2, .bool c3, .slice a4 n4 k4, .slice a5 n5 k5], .bool t]) ∧
    ∀ W, Below w'.heap.size w' W → Calls Tryz.prog 100 #[.agg #[.int .i64 c1, .int .i64 c2, .bool c3, .slice a4 n4 k4, .slice a5 n5 k5]] W (RetAt s l W)

theorem rDeepRead (v : Value) (b : List UInt8) (w : World) (hv : IsB w v b) (hL : b.length ≤ 4000) :
    Calls Tryz.prog 61 #[v] w (RetDR (rdA (kidsA b)).1 (rdA (kidsA b)).2 w) := by
  by_cases ht : treeOK 60 b
  · refine (rDeep_yes v b w hv (by omega) ht).mono fun e w' ⟨hb, c1, c2, c3, a4, a5, n4, k4, n5, k5, he, hn⟩ => ⟨hb, c1, c2, c3, a4, a5, n4, k4, n5, k5, true, he, fun W hW => ?_⟩
    have : kidsA b = kidsT 59 b := by unfold kidsA; rw [if_pos ht]
    rw [this]
    exact rAttRead_yes _ _ _ _ _ _ _ _ _ b W _ (hn.below hW) hL
  · refine (rDeep_no v b w hv (by omega) ht).mono fun e w' ⟨he, hb⟩ => ⟨hb, 0, 0, false, none, none, 0, 0, 0, 0, false, he, fun W hW => ?_⟩
    have : kidsA b = [] := by unfold kidsA; rw [if_neg ht]
    rw [this]
    exact rAttRead_no W

theorem kidsA_len (b : List UInt8) : (kidsA b).flatten.length ≤ b.length := by
  unfold kidsA
  split
  · unfold kidsT
    split
    · simp
    · rename_i h e
      split
      · simp
      · rename_i hc
        have hk := nextH_ok e
        have hl := cont_len e
        cases hs : scanL (readT 59) h.len.toNat (cont b h) with
        | none => simp
        | some ks =>
          have := scanL_flat _ hs
          simp only [Option.getD_some]
          rw [this]
          omega
  · simp

set_option maxRecDepth 100000 in
set_option maxHeartbeats 8000000 in
theorem rAttParse (v : Value) (b : List UInt8) (w : World) (hv : IsB w v b) (hL : b.length ≤ 4000) :
    Calls Tryz.prog 67 #[v] w (RetPA (rparA b) w) := by
  have HD := Lib.hid (fun W (h : IsB W v b) => rDeepRead v b W h hL)
  have HV := Lib.hid hv
  have hfl := kidsA_len b
  have hg0 := getD_len (kidsA b) 0
  have hg1 := getD_len (kidsA b) 1
  have hc0 := kidC_len ((kidsA b).getD 0 [])
  have hsl : (rdA (kidsA b)).1.length ≤ 90000 := by
    unfold rdA
    simp only
    cases ho : oidD (kidC ((kidsA b).getD 0 [])) with
    | none => simp
    | some s => have := oidD_len ho; simp only [Option.getD_some]; omega
  have hll : (rdA (kidsA b)).2.length ≤ 4000 := by unfold rdA; simp only; omega
  have hp : rparA b = if marA (rdA (kidsA b)).1 (rdA (kidsA b)).2 = some b then some ((rdA (kidsA b)).1, (rdA (kidsA b)).2) else none := rfl
  rw [hp]
  clear hp hfl hg0 hg1 hc0
  generalize (rdA (kidsA b)).1 = s at *
  generalize (rdA (kidsA b)).2 = l at *
  have hss : (bStr s).size ≤ 100000 := by show s.toArray.size ≤ 100000; simp; omega
  have HM : Hid (∀ W u, IsB W u l → Calls Tryz.prog 95 #[.agg #[.string (bStr s), u]] W (RetOid (marA s l) W)) := fun W u h => rAttMarshal (bStr s) u l W h hss (by omega)
  have HBy := Lib.hid (fun W u x (h : IsB W u x) (h2 : IsB W v b) => bytes_any u v x b W h h2)
  clear hv hss hL hsl hll
  cases hm : marA s l with
  | none =>
    rw [hm] at HM
    rw [if_neg (by simp)]
    have HM' : Hid (∀ W u, IsB W u l → Calls Tryz.prog 95 #[.agg #[.string (bStr s), u]] W (RetB (.tuple #[.slice none 0 0, .int .i64 8]) W)) := fun W u h => (HM.out W u h).mono fun e w' hh => by
      obtain ⟨hb, ⟨_, he⟩ | ⟨c, x, h, _⟩⟩ := hh
      · exact ⟨he, hb⟩
      · cases h
    clear hm
    go_enter Tryz.func67, Tryz.ntmps67
    go_wp2_with (first | ((go_at_call 61); (with_reducible refine (HD.out _ (HV.out.alloc _)).mono ?_); rintro e w1 ⟨hbw1, c1, c2, c3, a4, a5, n4, k4, n5, k5, t, rfl, hrd⟩; obtain ⟨hcw1, hfw1⟩ := bcell hbw1; have hzw1 := hbw1.size; (try simp at hzw1); have hyw1 : w.heap.size < w1.heap.size := (by omega); (try have hyaw1 : w.heap.size + 1 < w1.heap.size := (by omega)); (try have hybw1 : w.heap.size + 2 < w1.heap.size := (by omega)); (try have hycw1 : w.heap.size + 3 < w1.heap.size := (by omega)); (try have hydw1 : w.heap.size + 4 < w1.heap.size := (by omega)); clear hzw1; have K0 := Blk.call (Blk.new w 58 #[.string ⟨#[]⟩, .slice none 0 0]) hbw1; have lK0 := K0.lt; have qK0 := K0.q; have rK0 := K0.fz; have K0' := Lib.hid K0; clear K0; have K0 := K0'.out; clear K0'; have HRD := Lib.hid hrd; clear hrd) | ((go_at_call 100); (with_reducible refine (HRD.out _ ((Below.refl _ w1).alloc (Nat.le_refl _) _)).mono ?_); rintro e w2 ⟨A2, k2, rfl, ho2, hbw2⟩; have K1 := Blk.call (K0.alloc _) hbw2; have lK1 := K1.lt; have qK1 := K1.q; have rK1 := K1.fz; have K1' := Lib.hid K1; clear K1; have K1 := K1'.out; clear K1'; have HO2 := Lib.hid ho2; clear ho2) | ((go_at_call 95); (with_reducible refine (HM'.out _ _ (HO2.out.isB.alloc _)).mono ?_); rintro e w3 ⟨rfl, hbw3⟩; have K2 := Blk.call (K1.alloc _) hbw3; have lK2 := K2.lt; have qK2 := K2.q; have rK2 := K2.fz; have K2' := Lib.hid K2; clear K2; have K2 := K2'.out; clear K2'))
    refine bodyPost_ret (v := .tuple #[.agg #[.string ⟨#[]⟩, .slice none 0 0], .bool false]) (by simp only [results, Tryz.results67]; go_simp) rfl ?_
    have s1 := hbw1.size; have s2 := hbw2.size; have s3 := hbw3.size; (simp at s1 s2 s3); have b1 : Below w.heap.size w w1 := ((Below.refl _ w).alloc (Nat.le_refl _) _).trans (hbw1.mono (by simp)); have b2 : Below w.heap.size w w2 := (b1.alloc (by omega) _).trans (hbw2.mono (by simp; omega)); have b3 : Below w.heap.size w w3 := (b2.alloc (by omega) _).trans (hbw3.mono (by simp; omega))
    exact ⟨rfl, by ((repeat' (first | (with_reducible exact Below.refl _ _) | (with_reducible assumption) | (with_reducible refine Below.setCell ?_ ?_ _) | (with_reducible refine Below.alloc ?_ ?_ _) | (with_reducible refine Below.drew ?_) | (with_reducible refine below_drewN ?_ _) | (with_reducible refine Below.step (by with_reducible assumption) ?_ ?_))) <;> (first | omega | (simp; done) | (simp; omega)))⟩
  | some c =>
    rw [hm] at HM
    have HM' : Hid (∀ W u, IsB W u l → Calls Tryz.prog 95 #[.agg #[.string (bStr s), u]] W (RetOidY c W)) := fun W u h => (HM.out W u h).mono fun e w' hh => hh.yes
    clear hm HM
    by_cases hcb : c = b
    · rw [if_pos (by rw [hcb])]
      have HBt : Hid (∀ W u, IsB W u c → IsB W v b → Calls Tryz.prog 28 #[u, v] W (RetB (.bool true) W)) := fun W u h h2 => by
        have := HBy.out W u c h h2
        rwa [decide_eq_true hcb] at this
      clear hcb HBy
      go_enter Tryz.func67, Tryz.ntmps67
      go_wp2_with (first | ((go_at_call 61); (with_reducible refine (HD.out _ (HV.out.alloc _)).mono ?_); rintro e w1 ⟨hbw1, c1, c2, c3, a4, a5, n4, k4, n5, k5, t, rfl, hrd⟩; obtain ⟨hcw1, hfw1⟩ := bcell hbw1; have hzw1 := hbw1.size; (try simp at hzw1); have hyw1 : w.heap.size < w1.heap.size := (by omega); (try have hyaw1 : w.heap.size + 1 < w1.heap.size := (by omega)); (try have hybw1 : w.heap.size + 2 < w1.heap.size := (by omega)); (try have hycw1 : w.heap.size + 3 < w1.heap.size := (by omega)); (try have hydw1 : w.heap.size + 4 < w1.heap.size := (by omega)); clear hzw1; have K0 := Blk.call (Blk.new w 58 #[.string ⟨#[]⟩, .slice none 0 0]) hbw1; have lK0 := K0.lt; have qK0 := K0.q; have rK0 := K0.fz; have K0' := Lib.hid K0; clear K0; have K0 := K0'.out; clear K0'; have HRD := Lib.hid hrd; have HV1 := Lib.hid ((HV.out.alloc (.cells #[.string ⟨#[]⟩, .slice none 0 0] 58)).below hbw1); clear hrd) | ((go_at_call 100); (with_reducible refine (HRD.out _ ((Below.refl _ w1).alloc (Nat.le_refl _) _)).mono ?_); rintro e w2 ⟨A2, k2, rfl, ho2, hbw2⟩; have K1 := Blk.call (K0.alloc _) hbw2; have lK1 := K1.lt; have qK1 := K1.q; have rK1 := K1.fz; have K1' := Lib.hid K1; clear K1; have K1 := K1'.out; clear K1'; have HO2 := Lib.hid ho2; have HV2 := Lib.hid ((HV1.out.alloc _).below hbw2); clear ho2) | ((go_at_call 95); (with_reducible refine (HM'.out _ _ (HO2.out.isB.alloc _)).mono ?_); rintro e w3 ⟨v3, rfl, ho3, hbw3⟩; obtain ⟨A3, k3, rfl⟩ := isB_slice ho3.isB; have K2 := Blk.call (K1.alloc _) hbw3; have lK2 := K2.lt; have qK2 := K2.q; have rK2 := K2.fz; have K2' := Lib.hid K2; clear K2; have K2 := K2'.out; clear K2'; have KA := Blk.call (Blk.new w2 58 #[.string (bStr s), .slice A2 l.length k2]) hbw3; have lKA := KA.lt; have qKA := KA.q; have rKA := KA.fz; have KA' := Lib.hid KA; clear KA; have KA := KA'.out; clear KA'; have HO3 := Lib.hid ho3; have HV3 := Lib.hid ((HV2.out.alloc _).below hbw3); have HO23 := Lib.hid (OwB.below (OwB.alloc HO2.out _) hbw3); clear ho3) | ((go_at_call 28); (with_reducible refine (HBt.out _ _ HO3.out.isB HV3.out).mono ?_); rintro e w4 ⟨rfl, hbw4⟩; have K3 := Blk.call (K2) hbw4; have lK3 := K3.lt; have qK3 := K3.q; have rK3 := K3.fz; have K3' := Lib.hid K3; clear K3; have K3 := K3'.out; clear K3'; have KB := Blk.call (KA) hbw4; have lKB := KB.lt; have qKB := KB.q; have rKB := KB.fz; have KB' := Lib.hid KB; clear KB; have KB := KB'.out; clear KB'; have HO24 := Lib.hid (OwB.below HO23.out hbw4)))
      refine bodyPost_ret (v := .tuple #[.agg #[.string (bStr s), .slice A2 l.length k2], .bool true]) (by simp only [results, Tryz.results67]; go_simp) rfl ?_
      have s1 := hbw1.size; have s2 := hbw2.size; have s3 := hbw3.size; (simp at s1 s2 s3); have b1 : Below w.heap.size w w1 := ((Below.refl _ w).alloc (Nat.le_refl _) _).trans (hbw1.mono (by simp)); have b2 : Below w.heap.size w w2 := (b1.alloc (by omega) _).trans (hbw2.mono (by simp; omega)); have b3 : Below w.heap.size w w3 := (b2.alloc (by omega) _).trans (hbw3.mono (by simp; omega))
      have s4 := hbw4.size
      have b4 : Below w.heap.size w w4 := b3.trans (hbw4.mono (by omega))
      refine ⟨A2, k2, rfl, ?_, by ((repeat' (first | (with_reducible exact Below.refl _ _) | (with_reducible assumption) | (with_reducible refine Below.setCell ?_ ?_ _) | (with_reducible refine Below.alloc ?_ ?_ _) | (with_reducible refine Below.drew ?_) | (with_reducible refine below_drewN ?_ _) | (with_reducible refine Below.step (by with_reducible assumption) ?_ ?_))) <;> (first | omega | (simp; done) | (simp; omega)))⟩
      have hlo : w.heap.size < w1.heap.size + 1 := by omega
      have h := HO24.out
      simp at h
      exact OwB.more (base := w1.heap.size + 1) (ownsRow_setCell_below (ownsRow_setCell_below h hlo _) hlo _) (by omega)
    · rw [if_neg (fun h => hcb (Option.some.inj h))]
      have HBf : Hid (∀ W u, IsB W u c → IsB W v b → Calls Tryz.prog 28 #[u, v] W (RetB (.bool false) W)) := fun W u h h2 => by
        have := HBy.out W u c h h2
        rwa [decide_eq_false hcb] at this
      clear hcb HBy
      go_enter Tryz.func67, Tryz.ntmps67
      go_wp2_with (first | ((go_at_call 61); (with_reducible refine (HD.out _ (HV.out.alloc _)).mono ?_); rintro e w1 ⟨hbw1, c1, c2, c3, a4, a5, n4, k4, n5, k5, t, rfl, hrd⟩; obtain ⟨hcw1, hfw1⟩ := bcell hbw1; have hzw1 := hbw1.size; (try simp at hzw1); have hyw1 : w.heap.size < w1.heap.size := (by omega); (try have hyaw1 : w.heap.size + 1 < w1.heap.size := (by omega)); (try have hybw1 : w.heap.size + 2 < w1.heap.size := (by omega)); (try have hycw1 : w.heap.size + 3 < w1.heap.size := (by omega)); (try have hydw1 : w.heap.size + 4 < w1.heap.size := (by omega)); clear hzw1; have K0 := Blk.call (Blk.new w 58 #[.string ⟨#[]⟩, .slice none 0 0]) hbw1; have lK0 := K0.lt; have qK0 := K0.q; have rK0 := K0.fz; have K0' := Lib.hid K0; clear K0; have K0 := K0'.out; clear K0'; have HRD := Lib.hid hrd; have HV1 := Lib.hid ((HV.out.alloc (.cells #[.string ⟨#[]⟩, .slice none 0 0] 58)).below hbw1); clear hrd) | ((go_at_call 100); (with_reducible refine (HRD.out _ ((Below.refl _ w1).alloc (Nat.le_refl _) _)).mono ?_); rintro e w2 ⟨A2, k2, rfl, ho2, hbw2⟩; have K1 := Blk.call (K0.alloc _) hbw2; have lK1 := K1.lt; have qK1 := K1.q; have rK1 := K1.fz; have K1' := Lib.hid K1; clear K1; have K1 := K1'.out; clear K1'; have HO2 := Lib.hid ho2; have HV2 := Lib.hid ((HV1.out.alloc _).below hbw2); clear ho2) | ((go_at_call 95); (with_reducible refine (HM'.out _ _ (HO2.out.isB.alloc _)).mono ?_); rintro e w3 ⟨v3, rfl, ho3, hbw3⟩; obtain ⟨A3, k3, rfl⟩ := isB_slice ho3.isB; have K2 := Blk.call (K1.alloc _) hbw3; have lK2 := K2.lt; have qK2 := K2.q; have rK2 := K2.fz; have K2' := Lib.hid K2; clear K2; have K2 := K2'.out; clear K2'; have HO3 := Lib.hid ho3; have HV3 := Lib.hid ((HV2.out.alloc _).below hbw3); clear ho3) | ((go_at_call 28); (with_reducible refine (HBf.out _ _ HO3.out.isB HV3.out).mono ?_); rintro e w4 ⟨rfl, hbw4⟩; have K3 := Blk.call (K2) hbw4; have lK3 := K3.lt; have qK3 := K3.q; have rK3 := K3.fz; have K3' := Lib.hid K3; clear K3; have K3 := K3'.out; clear K3'))
      refine bodyPost_ret (v := .tuple #[.agg #[.string ⟨#[]⟩, .slice none 0 0], .bool false]) (by simp only [results, Tryz.results67]; go_simp) rfl ?_
      have s1 := hbw1.size; have s2 := hbw2.size; have s3 := hbw3.size; (simp at s1 s2 s3); have b1 : Below w.heap.size w w1 := ((Below.refl _ w).alloc (Nat.le_refl _) _).trans (hbw1.mono (by simp)); have b2 : Below w.heap.size w w2 := (b1.alloc (by omega) _).trans (hbw2.mono (by simp; omega)); have b3 : Below w.heap.size w w3 := (b2.alloc (by omega) _).trans (hbw3.mono (by simp; omega))
      have s4 := hbw4.size
      have b4 : Below w.heap.size w w4 := b3.trans (hbw4.mono (by omega))
      exact ⟨rfl, by ((repeat' (first | (with_reducible exact Below.refl _ _) | (with_reducible assumption) | (with_reducible refine Below.setCell ?_ ?_ _) | (with_reducible refine Below.alloc ?_ ?_ _) | (with_reducible refine Below.drew ?_) | (with_reducible refine below_drewN ?_ _) | (with_reducible refine Below.step (by with_reducible assumption) ?_ ?_))) <;> (first | omega | (simp; done) | (simp; omega)))⟩
end Go.Proofs.YtlmnmgokfnnbbaaGreatDoor
end

/- Walks over dn.ValidRDN, Marshal, Valid. -/
section
set_option linter.unusedSimpArgs false
set_option linter.unusedVariables false
namespace Go.Proofs.YtlmnmgokfnnbbaaGreatDoor
open Go.RowKit Go.Cr
set_option maxRecDepth 100000 in
set_option maxHeartbeats 4000000 in
theorem dnValidRDN (v : Value) (r : Rdn) (w : World) (hG : Glo w) (hv : IsQs w v r) (hz : SzR r) : Calls Tryz.prog 30 #[v] w (RetB (.bool (marR r).isSome) w) := by
  have HS := Lib.hid (dnMarshalRDN v r w hG hv hz)
  obtain ⟨A, c, rfl⟩ := isQs_slice hv
  cases hm : marR r with
  | none =>
    rw [hm] at HS
    have HS2 := Lib.hid (HS.out.mono fun e w' h => h.no)
    clear hv hz hG hm HS
    go_enter Tryz.func30, Tryz.ntmps30
    go_wp2_with (((go_at_call 24); (with_reducible refine HS2.out.mono ?_); rintro e w1 ⟨rfl, hb1⟩))
    go_ret
    exact ⟨rfl, hb1⟩
  | some y =>
    rw [hm] at HS
    have HS2 := Lib.hid (HS.out.mono fun e w' h => h.yes)
    unfold RetOidY at HS2
    clear hv hz hG hm HS
    go_enter Tryz.func30, Tryz.ntmps30
    go_wp2_with (((go_at_call 24); (with_reducible refine HS2.out.mono ?_); rintro e w1 ⟨v1, rfl, ho1, hb1⟩; obtain ⟨A1, k1, rfl⟩ := isB_slice ho1.isB))
    go_ret
    exact ⟨rfl, hb1⟩
set_option maxRecDepth 100000 in
set_option maxHeartbeats 4000000 in
theorem mn1 (i : Nat) (g : Nat) (A : Option Addr) (c : Nat) (n : Nam) (w : World) (hi : i < n.length) (hG : Glo w) (hk : Blk w g 23 #[.slice A n.length c]) (hv : IsNm w (.slice A n.length c) n) (hz : SzNm n) :
    Calls Tryz.prog 63 #[.int .i64 (i : Int), .pointer (some ⟨g, 0, none⟩)] w (RetOid (marR n[i]) w) := by
  obtain ⟨b, o, A2, c2, hi2, hbl, h0, hIR⟩ := hv.at_ (P := Tryz.prog) ulNam szRdn .i64 i hi
  have HM := Lib.hid (dnMarshalRDN _ n[i] w hG hIR (hz.2.1 _ (List.getElem_mem hi)))
  have q0 : w.cell? ⟨g, 0, none⟩ = some (.slice A n.length c) := (hk.q 0).trans rfl
  have hiI : (i : Int) < n.length := by omega
  clear hv hz hG hIR
  cases hm : marR n[i] with
  | none =>
    rw [hm] at HM
    have HM2 := Lib.hid (HM.out.mono fun e w' h => h.no)
    clear HM hm
    generalize n[i] = a at *
    go_enter Tryz.func63, Tryz.ntmps63
    go_wp2_with (((go_at_call 24); (with_reducible refine HM2.out.mono ?_); rintro e w1 ⟨rfl, hb1⟩))
    go_ret2
    exact RetOid.mk_no ⟨rfl, hb1⟩
  | some y =>
    rw [hm] at HM
    have HM2 := Lib.hid (HM.out.mono fun e w' h => h.yes)
    unfold RetOidY at HM2
    clear HM hm
    generalize n[i] = a at *
    go_enter Tryz.func63, Tryz.ntmps63
    go_wp2_with (((go_at_call 24); (with_reducible refine HM2.out.mono ?_); rintro e w1 ⟨v1, rfl, ho1, hb1⟩; obtain ⟨A1, k1, rfl⟩ := isB_slice ho1.isB))
    go_ret2
    exact RetOid.mk_yes ⟨_, rfl, ho1, hb1⟩
theorem shN (g : Nat) (A : Option Addr) (c : Nat) (n : Nam) (w : World) (hG : Glo w) (hk : Blk w g 23 #[.slice A n.length c]) (hv : IsNm w (.slice A n.length c) n) (hz : SzNm n) :
    Calls Tryz.prog 50 #[.agg #[.int .i64 16, .bool false], .int .i64 (n.length : Int), .func (.func 63) #[] #[.pointer (some ⟨g, 0, none⟩)]] w (RetOid (marNm n) w) := by
  have hI : ∀ W, Below w.heap.size w W → Glo W ∧ Blk W g 23 #[.slice A n.length c] ∧ IsNm W (.slice A n.length c) n := fun W h => ⟨hG.below h, hk.call h, hv.below h⟩
  have hF : OneFn 63 #[.pointer (some ⟨g, 0, none⟩)] (fun W => Glo W ∧ Blk W g 23 #[.slice A n.length c] ∧ IsNm W (.slice A n.length c) n) n.length (fun i => match n[i]? with | some a => marR a | none => some []) := fun i hi W ⟨k1, k2, k3⟩ => by
    have := mn1 i g A c n W hi k1 k2 k3 hz
    simpa [hi] using this
  have hzl := hz.1
  unfold marNm
  cases ho : optL marR n with
  | none =>
    obtain ⟨m, h1, ⟨_, h2⟩, ps, h3, h4⟩ := optL_first ho
    have ho2 : ∀ (j : Nat) (h : j < ps.length), (match n[j]? with | some a => marR a | none => some []) = some ps[j] := fun j hj => by
      have hjl : j < n.length := by omega
      simpa [hjl] using h4 j hj hjl
    exact (shape_bad 16 false n.length m _ _ _ _ ps w enMN1 hI hF (by omega) h1 h3 ho2 (by simpa [h1] using h2)).mono fun e w' h => RetOid.mk_no h
  | some ps =>
    have hl := optL_len ho
    have ho2 : ∀ (j : Nat) (h : j < ps.length), (match n[j]? with | some a => marR a | none => some []) = some ps[j] := fun j hj => by
      have hjl : j < n.length := by omega
      simpa [hjl] using optL_at ho j hjl hj
    refine (shape_good 16 false n.length _ _ _ _ ps w enMN1 hI hF (by omega) hl ho2 (by decide) (hz.2.2 ps ho)).mono fun e w' h => ?_
    exact RetOid.mk_yes h
set_option maxRecDepth 100000 in
set_option maxHeartbeats 4000000 in
theorem dnMarshal (v : Value) (n : Nam) (w : World) (hG : Glo w) (hv : IsNm w v n) (hz : SzNm n) : Calls Tryz.prog 33 #[v] w (RetOid (marNm n) w) := by
  have hlen := hv.len (P := Tryz.prog) ulNam
  obtain ⟨A, c, rfl⟩ := isNm_slice hv
  have HS := Lib.hid (shN w.heap.size A c n (w.alloc (.cells #[.slice A n.length c] 23)) (hG.alloc _) (Blk.new _ _ _) (hv.alloc _) hz)
  have hen := enSh
  cases hm : marNm n with
  | none =>
    rw [hm] at HS
    have HS2 := Lib.hid (HS.out.mono fun e w' h => h.no)
    clear hv hz hG hm HS
    go_enter Tryz.func33, Tryz.ntmps33
    go_wp2_with (go_at_fn 50; refine HS2.out.mono ?_; rintro e w1 ⟨rfl, hb1⟩)
    go_ret2
    exact RetOid.mk_no ⟨rfl, ((Below.refl w.heap.size w).alloc (Nat.le_refl _) _).trans (hb1.mono (by simp))⟩
  | some y =>
    rw [hm] at HS
    have HS2 := Lib.hid (HS.out.mono fun e w' h => h.yes)
    unfold RetOidY at HS2
    clear hv hz hG hm HS
    go_enter Tryz.func33, Tryz.ntmps33
    go_wp2_with (go_at_fn 50; refine HS2.out.mono ?_; rintro e w1 ⟨v1, rfl, ho1, hb1⟩; obtain ⟨A1, k1, rfl⟩ := isB_slice ho1.isB)
    go_ret2
    exact RetOid.mk_yes ⟨_, rfl, ho1.more (by simp), ((Below.refl w.heap.size w).alloc (Nat.le_refl _) _).trans (hb1.mono (by simp))⟩
set_option maxRecDepth 100000 in
set_option maxHeartbeats 4000000 in
theorem dnValid (v : Value) (n : Nam) (w : World) (hG : Glo w) (hv : IsNm w v n) (hz : SzNm n) : Calls Tryz.prog 35 #[v] w (RetB (.bool (marNm n).isSome) w) := by
  have HS := Lib.hid (dnMarshal v n w hG hv hz)
  obtain ⟨A, c, rfl⟩ := isNm_slice hv
  cases hm : marNm n with
  | none =>
    rw [hm] at HS
    have HS2 := Lib.hid (HS.out.mono fun e w' h => h.no)
    clear hv hz hG hm HS
    go_enter Tryz.func35, Tryz.ntmps35
    go_wp2_with (((go_at_call 33); (with_reducible refine HS2.out.mono ?_); rintro e w1 ⟨rfl, hb1⟩))
    go_ret
    exact ⟨rfl, hb1⟩
  | some y =>
    rw [hm] at HS
    have HS2 := Lib.hid (HS.out.mono fun e w' h => h.yes)
    unfold RetOidY at HS2
    clear hv hz hG hm HS
    go_enter Tryz.func35, Tryz.ntmps35
    go_wp2_with (((go_at_call 33); (with_reducible refine HS2.out.mono ?_); rintro e w1 ⟨v1, rfl, ho1, hb1⟩; obtain ⟨A1, k1, rfl⟩ := isB_slice ho1.isB))
    go_ret
    exact ⟨rfl, hb1⟩
end Go.Proofs.YtlmnmgokfnnbbaaGreatDoor
end

/- dn.New: the plain law. -/
section
set_option linter.unusedSimpArgs false
set_option linter.unusedVariables false
namespace Go.Proofs.YtlmnmgokfnnbbaaGreatDoor
open Go.RowKit Go.Cr
def NewOf (l r : Rdn) : Prop := ∃ ps ss, optL marX l = some ps ∧ SortOf ps ss ∧ optL parX ss = some r
theorem optL_mem {α β : Type} {f : α → Option β} {l : List α} {bs : List β} (h : optL f l = some bs) (x : β) : x ∈ bs ↔ ∃ a ∈ l, f a = some x := by
  constructor
  · intro hx
    obtain ⟨i, hi, rfl⟩ := List.mem_iff_getElem.1 hx
    have hl : i < l.length := by rw [← optL_len h]; exact hi
    exact ⟨l[i], List.getElem_mem hl, optL_at h i hl hi⟩
  · rintro ⟨a, ha, he⟩
    obtain ⟨i, hi, rfl⟩ := List.mem_iff_getElem.1 ha
    have hb : i < bs.length := by rw [optL_len h]; exact hi
    have := optL_at h i hi hb
    rw [he] at this
    injection this with this
    rw [this]
    exact List.getElem_mem hb
theorem optL_all {α β : Type} {f : α → Option β} : ∀ {l : List α}, (∀ a ∈ l, (f a).isSome = true) → ∃ bs, optL f l = some bs
  | [], _ => ⟨[], rfl⟩
  | a :: t, h => by
    obtain ⟨b, hb⟩ := Option.isSome_iff_exists.1 (h a (by simp))
    obtain ⟨u, hu⟩ := optL_all (l := t) fun x hx => h x (by simp [hx])
    exact ⟨b :: u, by unfold optL; rw [hb, hu]⟩
theorem NewOf.uniq {l r r' : Rdn} (h : NewOf l r) (h' : NewOf l r') : r = r' := by
  obtain ⟨ps, ss, h1, h2, h3⟩ := h
  obtain ⟨ps', ss', h1', h2', h3'⟩ := h'
  rw [h1] at h1'
  injection h1' with h1'
  subst h1'
  obtain rfl := h2.uniq h2'
  rw [h3] at h3'
  injection h3'
theorem NewOf.of {l : Rdn} {ps ss : List (List UInt8)} (hm : optL marX l = some ps) (hs : SortOf ps ss) (hl : ∀ p ∈ ps, p.length ≤ 1000000) : ∃ r, optL parX ss = some r ∧ NewOf l r := by
  have : ∃ r, optL parX ss = some r := optL_all fun x hx => by
    have hx' := (hs.2 x).1 hx
    obtain ⟨a, _, ha⟩ := (optL_mem hm x).1 hx'
    rw [mar_parX ha (hl _ hx')]
    rfl
  obtain ⟨r, hr⟩ := this
  exact ⟨r, hr, ps, ss, hm, hs, hr⟩
theorem newOf_mar {l r : Rdn} (h : NewOf l r) : ∃ ss ps, optL marX r = some ss ∧ ascB ss = true ∧ optL marX l = some ps ∧ SortOf ps ss := by
  obtain ⟨ps, ss, h1, h2, h3⟩ := h
  exact ⟨ss, ps, optL_back (g := marX) h3 fun i _ _ e => parX_mar e, (ascB_iff ss).2 h2.1, h1, h2⟩
theorem NewOf.congr {l l' r r' : Rdn} (h : NewOf l r) (h' : NewOf l' r') (hm : ∀ a, a ∈ l' ↔ a ∈ l) : r' = r := by
  obtain ⟨ps, ss, h1, h2, h3⟩ := h
  obtain ⟨ps', ss', h1', h2', h3'⟩ := h'
  have hps : ∀ x, x ∈ ps' ↔ x ∈ ps := fun x => by
    rw [optL_mem h1, optL_mem h1']
    exact ⟨fun ⟨a, ha, e⟩ => ⟨a, (hm a).1 ha, e⟩, fun ⟨a, ha, e⟩ => ⟨a, (hm a).2 ha, e⟩⟩
  have h2'' : SortOf ps ss' := ⟨h2'.1, fun x => (h2'.2 x).trans (hps x)⟩
  obtain rfl := h2.uniq h2''
  rw [h3] at h3'
  injection h3' with h3'
  exact h3'.symm
theorem NewOf.mem {l r : Rdn} (h : NewOf l r) (hl : ∀ ps, optL marX l = some ps → ∀ p ∈ ps, p.length ≤ 1000000) : ∀ a ∈ r, a ∈ l := by
  intro a ha
  obtain ⟨ps, ss, h1, h2, h3⟩ := h
  obtain ⟨i, hi, rfl⟩ := List.mem_iff_getElem.1 ha
  have hi' : i < ss.length := by rw [← optL_len h3]; exact hi
  have e := optL_at h3 i hi' hi
  have hp := (h2.2 _).1 (List.getElem_mem hi')
  obtain ⟨b, hb, he⟩ := (optL_mem h1 _).1 hp
  have := mar_parX he (hl ps h1 _ hp)
  rw [e] at this
  injection this with this
  rw [this]
  exact hb
theorem NewOf.len {l r : Rdn} (h : NewOf l r) : r.length ≤ l.length := by
  obtain ⟨ps, ss, h1, h2, h3⟩ := h
  rw [optL_len h3, ← optL_len h1]
  exact asc_len h2.1 fun x hx => (h2.2 x).1 hx
theorem NewOf.ne {l r : Rdn} (h : NewOf l r) (h0 : l.length ≠ 0) : r.length ≠ 0 := by
  obtain ⟨ps, ss, h1, h2, h3⟩ := h
  rw [optL_len h3]
  intro hz
  have hn : ss = [] := List.eq_nil_of_length_eq_zero hz
  subst hn
  have hp : 0 < ps.length := by rw [optL_len h1]; omega
  exact absurd ((h2.2 _).2 (List.getElem_mem hp)) (by simp)
theorem asc_flat {ls : List (List UInt8)} : ∀ {r : List (List UInt8)}, Asc r → (∀ x ∈ r, x ∈ ls) → r.flatten.length ≤ ls.flatten.length := by
  intro r
  induction r generalizing ls with
  | nil => intro _ _; simp
  | cons x t ih =>
    intro ha hm
    have hx := hm x (by simp)
    obtain ⟨u, v, rfl⟩ := List.append_of_mem hx
    have ht : ∀ y ∈ t, y ∈ u ++ v := fun y hy => by
      have h1 := hm y (by simp [hy])
      have h2 := ha.lt y hy
      simp only [List.mem_append, List.mem_cons] at h1 ⊢
      rcases h1 with h | rfl | h
      · exact .inl h
      · exact absurd h2 (cmpL_irrefl _)
      · exact .inr h
    have := ih (ls := u ++ v) ha.tail ht
    simp only [List.flatten_cons, List.flatten_append, List.length_append] at this ⊢
    omega
theorem NewOf.sz {l r : Rdn} (h : NewOf l r) (hz : SzR l) : SzR r := by
  have hmem := h.mem fun ps hps p hp => by have h1 := hz.2.2 ps hps; have h2 := mem_flat_len hp; omega
  refine ⟨Nat.le_trans h.len hz.1, fun a ha => hz.2.1 a (hmem a ha), fun ss hss => ?_⟩
  obtain ⟨ss', ps, h1, _, h3, h4⟩ := newOf_mar h
  rw [hss] at h1
  injection h1 with h1
  subst h1
  exact Nat.le_trans (asc_flat h4.1 fun x hx => (h4.2 x).1 hx) (hz.2.2 ps h3)
theorem NewOf.valid {l r : Rdn} (h : NewOf l r) (h0 : l.length ≠ 0) : (marR r).isSome = true := by
  obtain ⟨ss, ps, h1, h2, h3, h4⟩ := newOf_mar h
  unfold marR
  rw [h1]
  simp only
  rw [if_pos ⟨h.ne h0, h2⟩]
  rfl
end Go.Proofs.YtlmnmgokfnnbbaaGreatDoor
end

/- Walk over attribute.Parse. -/
section
set_option linter.unusedSimpArgs false
set_option linter.unusedVariables false
namespace Go.Proofs.YtlmnmgokfnnbbaaGreatDoor
open Go.RowKit Go.Cr
theorem partsE_err {l : List UInt8} {c n ec eo : Int} (h : partsE l c n = .error (ec, eo)) : 0 < ec ∧ 0 ≤ eo ∧ eo ≤ l.length := by
  unfold partsE at h
  split at h
  · rename_i er he
    injection h with h
    subst h
    have := oneE_err he
    omega
  · rename_i x hx
    have hb := oneE_ok hx
    split at h
    · unfold listE at h
      split at h
      · injection h with h; injection h with h1 h2; omega
      · have := listAcc_err _ (by omega) (by omega) (by omega) h
        omega
    · injection h with h; injection h with h1 h2; omega

def RetPE (L : Nat) (w : World) (e : Ending) (w' : World) : Prop := Below w.heap.size w w' ∧ ∃ c o : Int, 0 < c ∧ 0 ≤ o ∧ o ≤ L ∧ e = .returned (.tuple #[.agg #[.string ⟨#[]⟩, .slice none 0 0], errV (c, o)])
def RetPB (r : Option (List UInt8 × List UInt8)) (L : Nat) (w : World) (e : Ending) (w' : World) : Prop := match r with
  | none => RetPE L w e w'
  | some (s, l) => AtY s l (errV (0, 0)) w e w'

set_option maxRecDepth 100000 in
set_option maxHeartbeats 2000000 in
theorem attFail (c o : Int) (w : World) : Calls Tryz.prog 89 #[.int .i64 c, .int .i64 o] w (RetB (.tuple #[.agg #[.string ⟨#[]⟩, .slice none 0 0], errV (c, o)]) w) := by
  go_enter Tryz.func89, Tryz.ntmps89
  go_wp2_with fail
  (refine bodyPost_retB (v := .tuple #[.agg #[.string ⟨#[]⟩, .slice none 0 0], errV (c, o)]) (by (simp only [results, Tryz.results89]; try go_simp)) rfl rfl ?_; ((repeat' (first | (with_reducible exact Below.refl _ _) | (with_reducible assumption) | (with_reducible refine Below.setCell ?_ ?_ _) | (with_reducible refine Below.alloc ?_ ?_ _) | (with_reducible refine Below.drew ?_) | (with_reducible refine below_drewN ?_ _) | (with_reducible refine Below.step (by with_reducible assumption) ?_ ?_))) <;> (first | omega | (simp; done) | (simp; omega))))

set_option maxRecDepth 100000 in
set_option maxHeartbeats 4000000 in
theorem attParse_err (v : Value) (b : List UInt8) (w : World) (ec eo : Int) (hv : IsB w v b) (hL : b.length ≤ 100000) (hp : partsE b 0 16 = .error (ec, eo)) :
    Calls Tryz.prog 54 #[v] w (RetPE b.length w) := by
  obtain ⟨h1, h2, h3⟩ := partsE_err hp
  have HP : Hid (∀ W, IsB W v b → Calls Tryz.prog 53 #[v, .int .i64 0, .int .i64 16] W (RetB (.tuple #[.slice none 0 0, errV (ec, eo)]) W)) := fun W h => (parts_any v b 0 16 W h (by omega)).mono fun e w' hh => by
    rw [hp] at hh
    obtain ⟨hb, ⟨er, he, h⟩ | ⟨xs, o, he, _⟩⟩ := hh
    · injection he with he; subst he; exact ⟨h, hb⟩
    · cases he
  have HV := Lib.hid hv
  have HF := Lib.hid attFail
  simp only [errV] at HP HF
  have hn : (ec == 0) = false := beq_eq_false_iff_ne.2 (by omega)
  have hn' : (ec != 0) = true := by simp; omega
  clear hv hp
  go_enter Tryz.func54, Tryz.ntmps54
  go_wp2_with (first | ((go_at_call 53); (with_reducible refine (HP.out _ ((HV.out.alloc _).alloc _)).mono ?_); rintro e w1 ⟨rfl, hbw1⟩; obtain ⟨hcw1, hfw1⟩ := bcell hbw1; have hzw1 := hbw1.size; (try simp at hzw1); have hyw1 : w.heap.size < w1.heap.size := (by omega); (try have hyaw1 : w.heap.size + 1 < w1.heap.size := (by omega)); (try have hybw1 : w.heap.size + 2 < w1.heap.size := (by omega)); (try have hycw1 : w.heap.size + 3 < w1.heap.size := (by omega)); (try have hydw1 : w.heap.size + 4 < w1.heap.size := (by omega)); clear hzw1; have K0 := Blk.call ((Blk.new w 58 #[.string ⟨#[]⟩, .slice none 0 0]).alloc (.cells #[.int .i64 0, .int .i64 0] 38)) hbw1; have lK0 := K0.lt; have qK0 := K0.q; have rK0 := K0.fz; have K0' := Lib.hid K0; clear K0; have K0 := K0'.out; clear K0'; have K1 := Blk.call (blk_in (t := 38) (cs := #[.int .i64 0, .int .i64 0]) (w := w.alloc (.cells #[.string ⟨#[]⟩, .slice none 0 0] 58)) (g := w.heap.size + 1) (by simp)) hbw1; have lK1 := K1.lt; have qK1 := K1.q; have rK1 := K1.fz; have K1' := Lib.hid K1; clear K1; have K1 := K1'.out; clear K1') | ((go_at_call 89); (with_reducible refine (HF.out _ _ _).mono ?_); rintro e w2 ⟨rfl, hbw2⟩; have J0 := Blk.call (K0.alloc _) hbw2; have lJ0 := J0.lt; have qJ0 := J0.q; have rJ0 := J0.fz; have J0' := Lib.hid J0; clear J0; have J0 := J0'.out; clear J0'; have J1 := Blk.call (K1.alloc _) hbw2; have lJ1 := J1.lt; have qJ1 := J1.q; have rJ1 := J1.fz; have J1' := Lib.hid J1; clear J1; have J1 := J1'.out; clear J1'))
  refine bodyPost_ret (v := .tuple #[.agg #[.string ⟨#[]⟩, .slice none 0 0], errV (ec, eo)]) (by simp only [results, Tryz.results54]; go_simp) rfl ?_
  have s1 := hbw1.size; have s2 := hbw2.size
  simp at s1 s2
  have b1 : Below w.heap.size w w1 := (((Below.refl _ w).alloc (Nat.le_refl _) (.cells #[.string ⟨#[]⟩, .slice none 0 0] 58)).alloc (by simp) (.cells #[.int .i64 0, .int .i64 0] 38)).trans (hbw1.mono (by simp; omega))
  have b2 : Below w.heap.size w w2 := (b1.alloc (by omega) _).trans (hbw2.mono (by simp; omega))
  exact ⟨by ((repeat' (first | (with_reducible exact Below.refl _ _) | (with_reducible assumption) | (with_reducible refine Below.setCell ?_ ?_ _) | (with_reducible refine Below.alloc ?_ ?_ _) | (with_reducible refine Below.drew ?_) | (with_reducible refine below_drewN ?_ _) | (with_reducible refine Below.step (by with_reducible assumption) ?_ ?_))) <;> (first | omega | (simp; done) | (simp; omega))), ec, eo, h1, h2, h3, rfl⟩

def RetPs (xs : List Elem) (w : World) (e : Ending) (w' : World) : Prop := ∃ A k, e = .returned (.tuple #[.slice A xs.length k, errV (0, 0)]) ∧ IsRS (fun b => w.heap.size ≤ b) w' (.slice A xs.length k) 6 xs.length (elCells xs) ∧ Below w.heap.size w w'
theorem parts_ok {v : Value} {b : List UInt8} {c n : Int} {xs : List Elem} (hL : b.length ≤ 100000) (hp : partsE b c n = .ok xs) (W : World) (h : IsB W v b) : Calls Tryz.prog 53 #[v, .int .i64 c, .int .i64 n] W (RetPs xs W) :=
  (parts_any v b c n W h (by omega)).mono fun e w' hh => by
    rw [hp] at hh
    obtain ⟨hb, ⟨er, he, h⟩ | ⟨xs', o, he, h1, h2⟩⟩ := hh
    · cases he
    · injection he with he; subst he
      obtain ⟨A, k, rfl⟩ := own_slice h2
      exact ⟨A, k, h1, IsRS.of_own h2, hb⟩
theorem rs_at {S : Nat → Prop} {w : World} {v : Value} {k n : Nat} {xs : List Value} {t e : TypeId} (h : IsRS S w v k n xs) (ht : Tryz.prog.underlying t = some (.slice e)) (hs : ∀ W, (sizeOf e).run Tryz.prog W = .ok k W) (kd : IntKind) {i : Int} (h0 : 0 ≤ i) (h1 : i < n) :
    ∃ b o, (∀ W : World, (Instr.indexAt t v (.int kd i)).run Tryz.prog W = .ok (.pointer (some ⟨b, o, none⟩)) W) ∧ S b ∧ b < w.heap.size ∧ ∀ j x, xs[i.toNat * k + j]? = some x → w.cell? ⟨b, o + j, none⟩ = some x := by
  obtain ⟨A, c, rfl, h2, h3, h4, h5⟩ := h
  obtain ⟨b, off, rfl, hb, hS, hc⟩ := h5 (by omega)
  refine ⟨b, off + i.toNat * k, fun W => ?_, hS, hb, fun j x hj => by rw [Nat.add_assoc]; exact hc _ _ hj⟩
  have hi : (0 ≤ i ∧ i < (n : Int)) := ⟨h0, h1⟩
  simp only [Instr.indexAt, asIntOf, Sem.run_bind, Sem.run_pure, Result.andThen, run_underlying ht, if_pos hi, hs]
  simp [Addr.add]
theorem elc_at {xs : List Elem} {b o : Nat} {w : World} {k : Nat} (hk : k < xs.length) {x : Elem} (hx : xs[k] = x) (h : ∀ j y, (elCells xs)[k * 6 + j]? = some y → w.cell? ⟨b, o + j, none⟩ = some y) :
    w.cell? ⟨b, o, none⟩ = some (.int .i64 x.cls) ∧ w.cell? ⟨b, o + 1, none⟩ = some (.int .i64 x.num) ∧ w.cell? ⟨b, o + 2, none⟩ = some (.bool x.con) ∧ w.cell? ⟨b, o + 3, none⟩ = some (.int .i64 x.start) ∧ w.cell? ⟨b, o + 4, none⟩ = some (.int .i64 x.body) ∧ w.cell? ⟨b, o + 5, none⟩ = some (.int .i64 x.stop) := by
  subst hx
  exact ⟨h 0 _ (elCells_at xs k hk 0 (by omega)), h 1 _ (elCells_at xs k hk 1 (by omega)), h 2 _ (elCells_at xs k hk 2 (by omega)), h 3 _ (elCells_at xs k hk 3 (by omega)), h 4 _ (elCells_at xs k hk 4 (by omega)), h 5 _ (elCells_at xs k hk 5 (by omega))⟩

set_option maxRecDepth 100000 in
set_option maxHeartbeats 4000000 in
theorem attParse_few (v : Value) (b : List UInt8) (w : World) (xs : List Elem) (hv : IsB w v b) (hL : b.length ≤ 100000) (hp : partsE b 0 16 = .ok xs) (hn2 : xs.length < 2) :
    Calls Tryz.prog 54 #[v] w (RetPE b.length w) := by
  have hlen := hv.len ulB
  have HP := Lib.hid (fun W h => parts_ok (v := v) hL hp W h)
  have HV := Lib.hid hv
  have HF := Lib.hid attFail
  simp only [errV, RetPs] at HP HF
  have hnI : (xs.length : Int) < 2 := by omega
  have hd : decide (xs.length < 2) = true := decide_eq_true hn2
  clear hv hp
  go_enter Tryz.func54, Tryz.ntmps54
  go_wp2_with (first | ((go_at_call 53); (with_reducible refine (HP.out _ ((HV.out.alloc _).alloc _)).mono ?_); rintro e w1 ⟨A5, k5, rfl, hr, hbw1⟩; obtain ⟨hcw1, hfw1⟩ := bcell hbw1; have hzw1 := hbw1.size; (try simp at hzw1); have hyw1 : w.heap.size < w1.heap.size := (by omega); (try have hyaw1 : w.heap.size + 1 < w1.heap.size := (by omega)); (try have hybw1 : w.heap.size + 2 < w1.heap.size := (by omega)); (try have hycw1 : w.heap.size + 3 < w1.heap.size := (by omega)); (try have hydw1 : w.heap.size + 4 < w1.heap.size := (by omega)); clear hzw1; have K0 := Blk.call ((Blk.new w 58 #[.string ⟨#[]⟩, .slice none 0 0]).alloc (.cells #[.int .i64 0, .int .i64 0] 38)) hbw1; have lK0 := K0.lt; have qK0 := K0.q; have rK0 := K0.fz; have K0' := Lib.hid K0; clear K0; have K0 := K0'.out; clear K0'; have K1 := Blk.call (blk_in (t := 38) (cs := #[.int .i64 0, .int .i64 0]) (w := w.alloc (.cells #[.string ⟨#[]⟩, .slice none 0 0] 58)) (g := w.heap.size + 1) (by simp)) hbw1; have lK1 := K1.lt; have qK1 := K1.q; have rK1 := K1.fz; have K1' := Lib.hid K1; clear K1; have K1 := K1'.out; clear K1'; have hl5 := hr.isR.len (P := Tryz.prog) ulEl; clear hr) | ((go_at_call 89); (with_reducible refine (HF.out _ _ _).mono ?_); rintro e w2 ⟨rfl, hbw2⟩; have J0 := Blk.call (K0.alloc _) hbw2; have lJ0 := J0.lt; have qJ0 := J0.q; have rJ0 := J0.fz; have J0' := Lib.hid J0; clear J0; have J0 := J0'.out; clear J0'; have J1 := Blk.call (K1.alloc _) hbw2; have lJ1 := J1.lt; have qJ1 := J1.q; have rJ1 := J1.fz; have J1' := Lib.hid J1; clear J1; have J1 := J1'.out; clear J1'))
  refine bodyPost_ret (v := .tuple #[.agg #[.string ⟨#[]⟩, .slice none 0 0], errV (1, b.length)]) (by simp only [results, Tryz.results54]; go_simp) rfl ?_
  have s1 := hbw1.size; have s2 := hbw2.size
  simp at s1 s2
  have b1 : Below w.heap.size w w1 := (((Below.refl _ w).alloc (Nat.le_refl _) (.cells #[.string ⟨#[]⟩, .slice none 0 0] 58)).alloc (by simp) (.cells #[.int .i64 0, .int .i64 0] 38)).trans (hbw1.mono (by simp; omega))
  have b2 : Below w.heap.size w w2 := (b1.alloc (by omega) _).trans (hbw2.mono (by simp; omega))
  exact ⟨by ((repeat' (first | (with_reducible exact Below.refl _ _) | (with_reducible assumption) | (with_reducible refine Below.setCell ?_ ?_ _) | (with_reducible refine Below.alloc ?_ ?_ _) | (with_reducible refine Below.drew ?_) | (with_reducible refine below_drewN ?_ _) | (with_reducible refine Below.step (by with_reducible assumption) ?_ ?_))) <;> (first | omega | (simp; done) | (simp; omega))), 1, b.length, by omega, by omega, by omega, rfl⟩

set_option maxRecDepth 100000 in
set_option maxHeartbeats 4000000 in
theorem attParse_many (v : Value) (b : List UInt8) (w : World) (xs : List Elem) (hv : IsB w v b) (hL : b.length ≤ 100000) (hp : partsE b 0 16 = .ok xs) (hn2 : 2 < xs.length) :
    Calls Tryz.prog 54 #[v] w (RetPE b.length w) := by
  have hlen := hv.len ulB
  have hall := (partsE_ok hp).2.2.2.2.2
  obtain ⟨x, hx⟩ : ∃ x, xs[2] = x := ⟨_, rfl⟩
  obtain ⟨x0, x1, x2, x3, x4⟩ := hall x (hx ▸ List.getElem_mem hn2)
  clear x4
  have HX := Lib.hid hx
  have HP := Lib.hid (fun W h => parts_ok (v := v) hL hp W h)
  have HV := Lib.hid hv
  have HF := Lib.hid attFail
  simp only [errV, RetPs] at HP HF
  have hnI : 2 < (xs.length : Int) := by omega
  have hd : decide (xs.length < 2) = false := decide_eq_false (by omega)
  have hd2 : decide (2 < xs.length) = true := decide_eq_true hn2
  obtain ⟨xc, xn, xk, xs', xb, xe⟩ := x
  simp only at x0 x1 x2 x3
  clear hv hp hall hx
  go_enter Tryz.func54, Tryz.ntmps54
  go_wp2_with (first | ((go_at_call 53); (with_reducible refine (HP.out _ ((HV.out.alloc _).alloc _)).mono ?_); rintro e w1 ⟨A5, k5, rfl, hr, hbw1⟩; obtain ⟨hcw1, hfw1⟩ := bcell hbw1; have hzw1 := hbw1.size; (try simp at hzw1); have hyw1 : w.heap.size < w1.heap.size := (by omega); (try have hyaw1 : w.heap.size + 1 < w1.heap.size := (by omega)); (try have hybw1 : w.heap.size + 2 < w1.heap.size := (by omega)); (try have hycw1 : w.heap.size + 3 < w1.heap.size := (by omega)); (try have hydw1 : w.heap.size + 4 < w1.heap.size := (by omega)); clear hzw1; have K0 := Blk.call ((Blk.new w 58 #[.string ⟨#[]⟩, .slice none 0 0]).alloc (.cells #[.int .i64 0, .int .i64 0] 38)) hbw1; have lK0 := K0.lt; have qK0 := K0.q; have rK0 := K0.fz; have K0' := Lib.hid K0; clear K0; have K0 := K0'.out; clear K0'; have K1 := Blk.call (blk_in (t := 38) (cs := #[.int .i64 0, .int .i64 0]) (w := w.alloc (.cells #[.string ⟨#[]⟩, .slice none 0 0] 58)) (g := w.heap.size + 1) (by simp)) hbw1; have lK1 := K1.lt; have qK1 := K1.q; have rK1 := K1.fz; have K1' := Lib.hid K1; clear K1; have K1 := K1'.out; clear K1'; have hl5 := hr.isR.len (P := Tryz.prog) ulEl; obtain ⟨b2, o2, hi2, hbl2, hc2⟩ := hr.isR.at_ (P := Tryz.prog) ulEl szEl .i64 (i := 2) (by omega) (by omega); obtain ⟨_, _, _, p3, _, _⟩ := elc_at (k := 2) hn2 HX.out hc2; simp only at p3; clear hr hc2) | ((go_at_call 89); (with_reducible refine (HF.out _ _ _).mono ?_); rintro e w2 ⟨rfl, hbw2⟩; have J0 := Blk.call (K0.alloc _) hbw2; have lJ0 := J0.lt; have qJ0 := J0.q; have rJ0 := J0.fz; have J0' := Lib.hid J0; clear J0; have J0 := J0'.out; clear J0'; have J1 := Blk.call (K1.alloc _) hbw2; have lJ1 := J1.lt; have qJ1 := J1.q; have rJ1 := J1.fz; have J1' := Lib.hid J1; clear J1; have J1 := J1'.out; clear J1'))
  refine bodyPost_ret (v := .tuple #[.agg #[.string ⟨#[]⟩, .slice none 0 0], errV (2, xs')]) (by simp only [results, Tryz.results54]; go_simp) rfl ?_
  have s1 := hbw1.size; have s2 := hbw2.size
  simp at s1 s2
  have b1 : Below w.heap.size w w1 := (((Below.refl _ w).alloc (Nat.le_refl _) (.cells #[.string ⟨#[]⟩, .slice none 0 0] 58)).alloc (by simp) (.cells #[.int .i64 0, .int .i64 0] 38)).trans (hbw1.mono (by simp; omega))
  have b2 : Below w.heap.size w w2 := (b1.alloc (by omega) _).trans (hbw2.mono (by simp; omega))
  exact ⟨by ((repeat' (first | (with_reducible exact Below.refl _ _) | (with_reducible assumption) | (with_reducible refine Below.setCell ?_ ?_ _) | (with_reducible refine Below.alloc ?_ ?_ _) | (with_reducible refine Below.drew ?_) | (with_reducible refine below_drewN ?_ _) | (with_reducible refine Below.step (by with_reducible assumption) ?_ ?_))) <;> (first | omega | (simp; done) | (simp; omega))), 2, xs', by omega, x0, by omega, rfl⟩

theorem parts_two {v : Value} {b : List UInt8} {c n : Int} {x y : Elem} (hL : b.length ≤ 100000) (hp : partsE b c n = .ok [x, y]) (W : World) (h : IsB W v b) : Calls Tryz.prog 53 #[v, .int .i64 c, .int .i64 n] W
    (fun e w' => ∃ A k, e = .returned (.tuple #[.slice A 2 k, .agg #[.int .i64 0, .int .i64 0]]) ∧ IsRS (fun b => W.heap.size ≤ b) w' (.slice A 2 k) 6 2 (elCells [x, y]) ∧ Below W.heap.size W w') := parts_ok hL hp W h
theorem two_at {v : Value} {w : World} {x y : Elem} {B : Nat} (hr : IsRS (fun b => B ≤ b) w v 6 2 (elCells [x, y])) :
    (∃ b o, (∀ W : World, (Instr.indexAt 71 v (.int .i64 0)).run Tryz.prog W = .ok (.pointer (some ⟨b, o, none⟩)) W) ∧ B ≤ b ∧ b < w.heap.size ∧ w.cell? ⟨b, o, none⟩ = some (.int .i64 x.cls) ∧ w.cell? ⟨b, o + 1, none⟩ = some (.int .i64 x.num) ∧ w.cell? ⟨b, o + 2, none⟩ = some (.bool x.con) ∧ w.cell? ⟨b, o + 3, none⟩ = some (.int .i64 x.start) ∧ w.cell? ⟨b, o + 4, none⟩ = some (.int .i64 x.body) ∧ w.cell? ⟨b, o + 5, none⟩ = some (.int .i64 x.stop)) ∧
    (∃ b o, (∀ W : World, (Instr.indexAt 71 v (.int .i64 1)).run Tryz.prog W = .ok (.pointer (some ⟨b, o, none⟩)) W) ∧ B ≤ b ∧ b < w.heap.size ∧ w.cell? ⟨b, o, none⟩ = some (.int .i64 y.cls) ∧ w.cell? ⟨b, o + 1, none⟩ = some (.int .i64 y.num) ∧ w.cell? ⟨b, o + 2, none⟩ = some (.bool y.con) ∧ w.cell? ⟨b, o + 3, none⟩ = some (.int .i64 y.start) ∧ w.cell? ⟨b, o + 4, none⟩ = some (.int .i64 y.body) ∧ w.cell? ⟨b, o + 5, none⟩ = some (.int .i64 y.stop)) := by
  obtain ⟨b0, o0, hi0, hB0, hbl0, hc0⟩ := rs_at hr ulEl szEl .i64 (i := 0) (by omega) (by omega)
  obtain ⟨b1, o1, hi1, hB1, hbl1, hc1⟩ := rs_at hr ulEl szEl .i64 (i := 1) (by omega) (by omega)
  exact ⟨⟨b0, o0, hi0, hB0, hbl0, elc_at (xs := [x, y]) (k := 0) (by simp) rfl hc0⟩, ⟨b1, o1, hi1, hB1, hbl1, elc_at (xs := [x, y]) (k := 1) (by simp) rfl hc1⟩⟩

set_option maxRecDepth 100000 in
set_option maxHeartbeats 4000000 in
theorem attParse_tag (v : Value) (b : List UInt8) (w : World) (x y : Elem) (hv : IsB w v b) (hL : b.length ≤ 100000) (hp : partsE b 0 16 = .ok [x, y]) (his : isE x 0 false 6 = false) :
    Calls Tryz.prog 54 #[v] w (RetPE b.length w) := by
  have hlen := hv.len ulB
  have hall := (partsE_ok hp).2.2.2.2.2
  obtain ⟨x0, x1, x2, x3, x4⟩ := hall x (by simp)
  obtain ⟨y0, y1, y2, y3, y4⟩ := hall y (by simp)
  clear x4 y4
  have HP := Lib.hid (fun W h => parts_two (v := v) hL hp W h)
  have HV := Lib.hid hv
  have HF := Lib.hid attFail
  simp only [errV] at HF
  have HI : Hid (∀ W, Calls Tryz.prog 87 #[elV x, .int .i64 0, .bool false, .int .i64 6] W (RetB (.bool false) W)) := fun W => by have := is_any x 0 6 false W; rwa [his] at this
  obtain ⟨xc, xn, xk, xs', xb, xe⟩ := x
  obtain ⟨yc, yn, yk, ys', yb, ye⟩ := y
  simp only at x0 x1 x2 x3 y0 y1 y2 y3
  simp only [elV] at HI
  clear hv hp hall his
  go_enter Tryz.func54, Tryz.ntmps54
  go_wp2_with (first | ((go_at_call 53); (with_reducible refine (HP.out _ ((HV.out.alloc _).alloc _)).mono ?_); rintro e w1 ⟨A5, k5, rfl, hr, hbw1⟩; obtain ⟨hcw1, hfw1⟩ := bcell hbw1; have hzw1 := hbw1.size; (try simp at hzw1); have hyw1 : w.heap.size < w1.heap.size := (by omega); (try have hyaw1 : w.heap.size + 1 < w1.heap.size := (by omega)); (try have hybw1 : w.heap.size + 2 < w1.heap.size := (by omega)); (try have hycw1 : w.heap.size + 3 < w1.heap.size := (by omega)); (try have hydw1 : w.heap.size + 4 < w1.heap.size := (by omega)); clear hzw1; have K0 := Blk.call ((Blk.new w 58 #[.string ⟨#[]⟩, .slice none 0 0]).alloc (.cells #[.int .i64 0, .int .i64 0] 38)) hbw1; have lK0 := K0.lt; have qK0 := K0.q; have rK0 := K0.fz; have K0' := Lib.hid K0; clear K0; have K0 := K0'.out; clear K0'; have K1 := Blk.call (blk_in (t := 38) (cs := #[.int .i64 0, .int .i64 0]) (w := w.alloc (.cells #[.string ⟨#[]⟩, .slice none 0 0] 58)) (g := w.heap.size + 1) (by simp)) hbw1; have lK1 := K1.lt; have qK1 := K1.q; have rK1 := K1.fz; have K1' := Lib.hid K1; clear K1; have K1 := K1'.out; clear K1'; have hl5 := hr.isR.len (P := Tryz.prog) ulEl; obtain ⟨⟨b0, o0, hi0, hge0, hbl0, p00, p01, p02, p03, p04, p05⟩, ⟨b1, o1, hi1, hge1, hbl1, p10, p11, p12, p13, p14, p15⟩⟩ := two_at hr; clear hr; simp only at p00 p01 p02 p03 p04 p05 p10 p11 p12 p13 p14 p15) | ((go_at_call 87); (with_reducible refine (HI.out _).mono ?_); rintro e w2 ⟨rfl, hbw2⟩; have KA := Blk.call (K0.alloc _) hbw2; have lKA := KA.lt; have qKA := KA.q; have rKA := KA.fz; have KA' := Lib.hid KA; clear KA; have KA := KA'.out; clear KA'; have KB := Blk.call (K1.alloc _) hbw2; have lKB := KB.lt; have qKB := KB.q; have rKB := KB.fz; have KB' := Lib.hid KB; clear KB; have KB := KB'.out; clear KB'; obtain ⟨hcw2, hfw2⟩ := bcell hbw2) | ((go_at_call 89); (with_reducible refine (HF.out _ _ _).mono ?_); rintro e w3 ⟨rfl, hbw3⟩; have J0 := Blk.call (KA) hbw3; have lJ0 := J0.lt; have qJ0 := J0.q; have rJ0 := J0.fz; have J0' := Lib.hid J0; clear J0; have J0 := J0'.out; clear J0'; have J1 := Blk.call (KB) hbw3; have lJ1 := J1.lt; have qJ1 := J1.q; have rJ1 := J1.fz; have J1' := Lib.hid J1; clear J1; have J1 := J1'.out; clear J1'))
  refine bodyPost_ret (v := .tuple #[.agg #[.string ⟨#[]⟩, .slice none 0 0], errV (3, xs')]) (by simp only [results, Tryz.results54]; go_simp) rfl ?_
  have s1 := hbw1.size; have s2 := hbw2.size; have s3 := hbw3.size
  simp at s1 s2
  have b1 : Below w.heap.size w w1 := (((Below.refl _ w).alloc (Nat.le_refl _) (.cells #[.string ⟨#[]⟩, .slice none 0 0] 58)).alloc (by simp) (.cells #[.int .i64 0, .int .i64 0] 38)).trans (hbw1.mono (by simp; omega))
  have b2 : Below w.heap.size w w2 := (b1.alloc (by omega) _).trans (hbw2.mono (by simp; omega))
  have b3 : Below w.heap.size w w3 := b2.trans (hbw3.mono (by omega))
  exact ⟨by ((repeat' (first | (with_reducible exact Below.refl _ _) | (with_reducible assumption) | (with_reducible refine Below.setCell ?_ ?_ _) | (with_reducible refine Below.alloc ?_ ?_ _) | (with_reducible refine Below.drew ?_) | (with_reducible refine below_drewN ?_ _) | (with_reducible refine Below.step (by with_reducible assumption) ?_ ?_))) <;> (first | omega | (simp; done) | (simp; omega))), 3, xs', by omega, x0, by omega, rfl⟩

set_option maxRecDepth 100000 in
set_option maxHeartbeats 8000000 in
theorem attParse_oid (v : Value) (b : List UInt8) (w : World) (x y : Elem) (hG : Glo w) (hv : IsB w v b) (hL : b.length ≤ 90000) (hp : partsE b 0 16 = .ok [x, y]) (his : isE x 0 false 6 = true) (ho : oidD (seg b x.body x.stop) = none) :
    Calls Tryz.prog 54 #[v] w (RetPE b.length w) := by
  have hlen := hv.len ulB
  have hall := (partsE_ok hp).2.2.2.2.2
  obtain ⟨x0, x1, x2, x3, x4⟩ := hall x (by simp)
  obtain ⟨y0, y1, y2, y3, y4⟩ := hall y (by simp)
  clear x4 y4
  have HP := Lib.hid (fun W h => parts_two (v := v) (by omega) hp W h)
  have HV := Lib.hid hv
  have HG := Lib.hid hG
  have HF := Lib.hid attFail
  simp only [errV] at HF
  obtain ⟨vc, hcut, hvc⟩ := hv.cut (P := Tryz.prog) ulB szB .i64 .i64 (lo := x.body) (hi := x.stop) (by omega) x2 x3
  have hvc' : IsB w vc (seg b x.body x.stop) := hvc
  have hsl := seg_len b x.body x.stop (by omega) x2 x3
  have HVC := Lib.hid hvc'
  have HD : Hid (∀ W, Glo W → IsB W vc (seg b x.body x.stop) → Calls Tryz.prog 90 #[vc] W (RetB (.tuple #[.string ⟨#[]⟩, .int .i64 6]) W)) := fun W hg h => by have := dec_any vc _ W hg h (by omega); rwa [ho] at this
  have HI : Hid (∀ W, Calls Tryz.prog 87 #[elV x, .int .i64 0, .bool false, .int .i64 6] W (RetB (.bool true) W)) := fun W => by have := is_any x 0 6 false W; rwa [his] at this
  clear hsl
  generalize seg b x.body x.stop = C at *
  obtain ⟨xc, xn, xk, xs', xb, xe⟩ := x
  obtain ⟨yc, yn, yk, ys', yb, ye⟩ := y
  simp only at x0 x1 x2 x3 y0 y1 y2 y3 hcut
  simp only [elV] at HI
  clear hv hp hall his hG hvc hvc' ho
  go_enter Tryz.func54, Tryz.ntmps54
  go_wp2_with (first | ((go_at_call 53); (with_reducible refine (HP.out _ ((HV.out.alloc _).alloc _)).mono ?_); rintro e w1 ⟨A5, k5, rfl, hr, hbw1⟩; obtain ⟨hcw1, hfw1⟩ := bcell hbw1; have hzw1 := hbw1.size; (try simp at hzw1); have hyw1 : w.heap.size < w1.heap.size := (by omega); (try have hyaw1 : w.heap.size + 1 < w1.heap.size := (by omega)); (try have hybw1 : w.heap.size + 2 < w1.heap.size := (by omega)); (try have hycw1 : w.heap.size + 3 < w1.heap.size := (by omega)); (try have hydw1 : w.heap.size + 4 < w1.heap.size := (by omega)); clear hzw1; have K0 := Blk.call ((Blk.new w 58 #[.string ⟨#[]⟩, .slice none 0 0]).alloc (.cells #[.int .i64 0, .int .i64 0] 38)) hbw1; have lK0 := K0.lt; have qK0 := K0.q; have rK0 := K0.fz; have K0' := Lib.hid K0; clear K0; have K0 := K0'.out; clear K0'; have K1 := Blk.call (blk_in (t := 38) (cs := #[.int .i64 0, .int .i64 0]) (w := w.alloc (.cells #[.string ⟨#[]⟩, .slice none 0 0] 58)) (g := w.heap.size + 1) (by simp)) hbw1; have lK1 := K1.lt; have qK1 := K1.q; have rK1 := K1.fz; have K1' := Lib.hid K1; clear K1; have K1 := K1'.out; clear K1'; have hl5 := hr.isR.len (P := Tryz.prog) ulEl; obtain ⟨⟨b0, o0, hi0, hge0, hbl0, p00, p01, p02, p03, p04, p05⟩, ⟨b1, o1, hi1, hge1, hbl1, p10, p11, p12, p13, p14, p15⟩⟩ := two_at hr; clear hr; simp only at p00 p01 p02 p03 p04 p05 p10 p11 p12 p13 p14 p15) | ((go_at_call 87); (with_reducible refine (HI.out _).mono ?_); rintro e w2 ⟨rfl, hbw2⟩; have KA := Blk.call (K0.alloc _) hbw2; have lKA := KA.lt; have qKA := KA.q; have rKA := KA.fz; have KA' := Lib.hid KA; clear KA; have KA := KA'.out; clear KA'; have KB := Blk.call (K1.alloc _) hbw2; have lKB := KB.lt; have qKB := KB.q; have rKB := KB.fz; have KB' := Lib.hid KB; clear KB; have KB := KB'.out; clear KB'; obtain ⟨hcw2, hfw2⟩ := bcell hbw2))
  have s1 := hbw1.size; have s2 := hbw2.size
  simp at s1 s2
  have B1 : Below w.heap.size w w1 := (((Below.refl _ w).alloc (Nat.le_refl _) (.cells #[.string ⟨#[]⟩, .slice none 0 0] 58)).alloc (by simp) (.cells #[.int .i64 0, .int .i64 0] 38)).trans (hbw1.mono (by simp; omega))
  have B12 : Below w1.heap.size w1 w2 := ((Below.refl _ w1).alloc (Nat.le_refl _) _).trans (hbw2.mono (by simp))
  have B2 : Below w.heap.size w w2 := B1.trans (B12.mono (by omega))
  have q04 : w2.cell? ⟨b0, o0 + 4, none⟩ = some (.int .i64 xb) := (B12.cell (p := ⟨b0, o0 + 4, none⟩) hbl0).trans p04
  have q05 : w2.cell? ⟨b0, o0 + 5, none⟩ = some (.int .i64 xe) := (B12.cell (p := ⟨b0, o0 + 5, none⟩) hbl0).trans p05
  have hb02 : b0 < w2.heap.size := by omega
  have HB2 := Lib.hid B2
  have KKA := Lib.hid KA
  have KKB := Lib.hid KB
  clear hbw1 hbw2 hcw1 hfw1 hcw2 hfw2 B1 B2 K0 K1 qK0 rK0 qK1 rK1 lK0 lK1 KA KB qKA rKA lKA qKB rKB lKB p00 p01 p02 p03 p10 p11 p12 p13 p14 p15
  go_region_held3 (fun W' => W'.cell? ⟨b0, o0 + 4, none⟩ = some (.int .i64 xb) ∧ W'.cell? ⟨b0, o0 + 5, none⟩ = some (.int .i64 xe))
    (first | go_keep | exact ⟨(hbw3.cell (p := ⟨b0, o0 + 4, none⟩) hb02).trans (by simp [*]), (hbw3.cell (p := ⟨b0, o0 + 5, none⟩) hb02).trans (by simp [*])⟩)
    (((go_at_call 90); (with_reducible refine (HD.out _ (HG.out.below HB2.out.drew) (HVC.out.below HB2.out.drew)).mono ?_); rintro e w3 ⟨rfl, hbw3⟩))
  have B23 : Below w2.heap.size w2 w3 := ((Below.refl w2.heap.size w2).drew).trans (hbw3.mono (by simp))
  have q04' : w3.cell? ⟨b0, o0 + 4, none⟩ = some (.int .i64 xb) := (B23.cell (p := ⟨b0, o0 + 4, none⟩) hb02).trans q04
  have KA3 := Blk.call (KKA.out) B23; have lKA3 := KA3.lt; have qKA3 := KA3.q; have rKA3 := KA3.fz; have KA3' := Lib.hid KA3; clear KA3; have KA3 := KA3'.out; clear KA3'
  have KB3 := Blk.call (KKB.out) B23; have lKB3 := KB3.lt; have qKB3 := KB3.q; have rKB3 := KB3.fz; have KB3' := Lib.hid KB3; clear KB3; have KB3 := KB3'.out; clear KB3'
  have B3 : Below w.heap.size w w3 := HB2.out.trans (B23.mono (by omega))
  clear hbw3
  go_wp2_with (first | ((go_at_call 89); (with_reducible refine (HF.out _ _ _).mono ?_); rintro e w4 ⟨rfl, hbw4⟩; have J0 := Blk.call (KA3) hbw4; have lJ0 := J0.lt; have qJ0 := J0.q; have rJ0 := J0.fz; have J0' := Lib.hid J0; clear J0; have J0 := J0'.out; clear J0'; have J1 := Blk.call (KB3) hbw4; have lJ1 := J1.lt; have qJ1 := J1.q; have rJ1 := J1.fz; have J1' := Lib.hid J1; clear J1; have J1 := J1'.out; clear J1'))
  refine bodyPost_ret (v := .tuple #[.agg #[.string ⟨#[]⟩, .slice none 0 0], errV (6, xb)]) (by simp only [results, Tryz.results54]; go_simp) rfl ?_
  have s3 := B3.size; have s4 := hbw4.size
  have b4 : Below w.heap.size w w4 := B3.trans (hbw4.mono (by omega))
  exact ⟨by ((repeat' (first | (with_reducible exact Below.refl _ _) | (with_reducible assumption) | (with_reducible refine Below.setCell ?_ ?_ _) | (with_reducible refine Below.alloc ?_ ?_ _) | (with_reducible refine Below.drew ?_) | (with_reducible refine below_drewN ?_ _) | (with_reducible refine Below.step (by with_reducible assumption) ?_ ?_))) <;> (first | omega | (simp; done) | (simp; omega))), 6, xb, by omega, by omega, by omega, rfl⟩

set_option maxRecDepth 100000 in
set_option maxHeartbeats 8000000 in
theorem attParse_val (v : Value) (b : List UInt8) (w : World) (x y : Elem) (s : List UInt8) (hG : Glo w) (hv : IsB w v b) (hL : b.length ≤ 90000) (hp : partsE b 0 16 = .ok [x, y]) (his : isE x 0 false 6 = true) (ho : oidD (seg b x.body x.stop) = some s) :
    Calls Tryz.prog 54 #[v] w (if treeOK 16 (seg b y.start y.stop) then AtY s (seg b y.start y.stop) (errV (0, 0)) w else RetPE b.length w) := by
  have hlen := hv.len ulB
  have hall := (partsE_ok hp).2.2.2.2.2
  obtain ⟨x0, x1, x2, x3, x4⟩ := hall x (by simp)
  obtain ⟨y0, y1, y2, y3, y4⟩ := hall y (by simp)
  clear x4 y4
  have HP := Lib.hid (fun W h => parts_two (v := v) (by omega) hp W h)
  have HV := Lib.hid hv
  have HG := Lib.hid hG
  have HF := Lib.hid attFail
  simp only [errV] at HF
  obtain ⟨vc, hcut, hvc⟩ := hv.cut (P := Tryz.prog) ulB szB .i64 .i64 (lo := x.body) (hi := x.stop) (by omega) x2 x3
  have hvc' : IsB w vc (seg b x.body x.stop) := hvc
  have hsl := seg_len b x.body x.stop (by omega) x2 x3
  have HVC := Lib.hid hvc'
  obtain ⟨vy, hcuty, hvy⟩ := hv.cut (P := Tryz.prog) ulB szB .i64 .i64 (lo := y.start) (hi := y.stop) (by omega) (by omega) y3
  have hvy' : IsB w vy (seg b y.start y.stop) := hvy
  have hsy := seg_len b y.start y.stop (by omega) (by omega) y3
  have HVY := Lib.hid hvy'
  have HD : Hid (∀ W, Glo W → IsB W vc (seg b x.body x.stop) → Calls Tryz.prog 90 #[vc] W (RetB (.tuple #[.string (bStr s), .int .i64 0]) W)) := fun W hg h => by have := dec_any vc _ W hg h (by omega); rwa [ho] at this
  have HI : Hid (∀ W, Calls Tryz.prog 87 #[elV x, .int .i64 0, .bool false, .int .i64 6] W (RetB (.bool true) W)) := fun W => by have := is_any x 0 6 false W; rwa [his] at this
  have HCL : Hid (∀ W, IsB W vy (seg b y.start y.stop) → Calls Tryz.prog 91 #[vy] W (RetO 5 (seg b y.start y.stop) W)) := fun W h => clone_any vy _ W h (by omega)
  clear hsl
  generalize seg b x.body x.stop = C at *
  obtain ⟨xc, xn, xk, xs', xb, xe⟩ := x
  obtain ⟨yc, yn, yk, ys', yb, ye⟩ := y
  simp only at x0 x1 x2 x3 y0 y1 y2 y3 hcut hcuty hsy ⊢
  simp only [elV] at HI
  simp only at HVY HCL
  generalize seg b ys' ye = l at *
  obtain ⟨Q, hQ⟩ : ∃ Q, (if treeOK 16 l then AtY s l (errV (0, 0)) w else RetPE b.length w) = Q := ⟨_, rfl⟩
  rw [hQ]
  have HQ := Lib.hid hQ
  clear hv hp hall his hG hvc hvc' ho hvy hvy' hQ
  go_enter Tryz.func54, Tryz.ntmps54
  go_wp2_with (first | ((go_at_call 53); (with_reducible refine (HP.out _ ((HV.out.alloc _).alloc _)).mono ?_); rintro e w1 ⟨A5, k5, rfl, hr, hbw1⟩; obtain ⟨hcw1, hfw1⟩ := bcell hbw1; have hzw1 := hbw1.size; (try simp at hzw1); have hyw1 : w.heap.size < w1.heap.size := (by omega); (try have hyaw1 : w.heap.size + 1 < w1.heap.size := (by omega)); (try have hybw1 : w.heap.size + 2 < w1.heap.size := (by omega)); (try have hycw1 : w.heap.size + 3 < w1.heap.size := (by omega)); (try have hydw1 : w.heap.size + 4 < w1.heap.size := (by omega)); clear hzw1; have K0 := Blk.call ((Blk.new w 58 #[.string ⟨#[]⟩, .slice none 0 0]).alloc (.cells #[.int .i64 0, .int .i64 0] 38)) hbw1; have lK0 := K0.lt; have qK0 := K0.q; have rK0 := K0.fz; have K0' := Lib.hid K0; clear K0; have K0 := K0'.out; clear K0'; have K1 := Blk.call (blk_in (t := 38) (cs := #[.int .i64 0, .int .i64 0]) (w := w.alloc (.cells #[.string ⟨#[]⟩, .slice none 0 0] 58)) (g := w.heap.size + 1) (by simp)) hbw1; have lK1 := K1.lt; have qK1 := K1.q; have rK1 := K1.fz; have K1' := Lib.hid K1; clear K1; have K1 := K1'.out; clear K1'; have hl5 := hr.isR.len (P := Tryz.prog) ulEl; obtain ⟨⟨b0, o0, hi0, hge0, hbl0, p00, p01, p02, p03, p04, p05⟩, ⟨b1, o1, hi1, hge1, hbl1, p10, p11, p12, p13, p14, p15⟩⟩ := two_at hr; clear hr; simp only at p00 p01 p02 p03 p04 p05 p10 p11 p12 p13 p14 p15) | ((go_at_call 87); (with_reducible refine (HI.out _).mono ?_); rintro e w2 ⟨rfl, hbw2⟩; have KA := Blk.call (K0.alloc _) hbw2; have lKA := KA.lt; have qKA := KA.q; have rKA := KA.fz; have KA' := Lib.hid KA; clear KA; have KA := KA'.out; clear KA'; have KB := Blk.call (K1.alloc _) hbw2; have lKB := KB.lt; have qKB := KB.q; have rKB := KB.fz; have KB' := Lib.hid KB; clear KB; have KB := KB'.out; clear KB'; obtain ⟨hcw2, hfw2⟩ := bcell hbw2))
  have s1 := hbw1.size; have s2 := hbw2.size
  simp at s1 s2
  have B1 : Below w.heap.size w w1 := (((Below.refl _ w).alloc (Nat.le_refl _) (.cells #[.string ⟨#[]⟩, .slice none 0 0] 58)).alloc (by simp) (.cells #[.int .i64 0, .int .i64 0] 38)).trans (hbw1.mono (by simp; omega))
  have B12 : Below w1.heap.size w1 w2 := ((Below.refl _ w1).alloc (Nat.le_refl _) _).trans (hbw2.mono (by simp))
  have B2 : Below w.heap.size w w2 := B1.trans (B12.mono (by omega))
  have q04 : w2.cell? ⟨b0, o0 + 4, none⟩ = some (.int .i64 xb) := (B12.cell (p := ⟨b0, o0 + 4, none⟩) hbl0).trans p04
  have q05 : w2.cell? ⟨b0, o0 + 5, none⟩ = some (.int .i64 xe) := (B12.cell (p := ⟨b0, o0 + 5, none⟩) hbl0).trans p05
  have q13 : w2.cell? ⟨b1, o1 + 3, none⟩ = some (.int .i64 ys') := (B12.cell (p := ⟨b1, o1 + 3, none⟩) hbl1).trans p13
  have q15 : w2.cell? ⟨b1, o1 + 5, none⟩ = some (.int .i64 ye) := (B12.cell (p := ⟨b1, o1 + 5, none⟩) hbl1).trans p15
  have hb02 : b0 < w2.heap.size := by omega
  have hgb1 : w.heap.size + 1 < b1 := by simp at hge1; omega
  clear hge0 hge1
  have hb12 : b1 < w2.heap.size := by omega
  have HB2 := Lib.hid B2
  have KKA := Lib.hid KA
  have KKB := Lib.hid KB
  clear hbw1 hbw2 hcw1 hfw1 hcw2 hfw2 B1 B2 K0 K1 qK0 rK0 qK1 rK1 lK0 lK1 KA KB qKA rKA lKA qKB rKB lKB p00 p01 p02 p03 p04 p05 p10 p11 p12 p13 p14 p15 hbl0 hbl1
  go_region_held3 (fun W' => W'.cell? ⟨b0, o0 + 4, none⟩ = some (.int .i64 xb) ∧ W'.cell? ⟨b0, o0 + 5, none⟩ = some (.int .i64 xe))
    (first | go_keep | exact ⟨(hbw3.cell (p := ⟨b0, o0 + 4, none⟩) hb02).trans (by simp [*]), (hbw3.cell (p := ⟨b0, o0 + 5, none⟩) hb02).trans (by simp [*])⟩)
    (((go_at_call 90); (with_reducible refine (HD.out _ (HG.out.below HB2.out.drew) (HVC.out.below HB2.out.drew)).mono ?_); rintro e w3 ⟨rfl, hbw3⟩))
  have B23 : Below w2.heap.size w2 w3 := ((Below.refl w2.heap.size w2).drew).trans (hbw3.mono (by simp))
  have r13 : w3.cell? ⟨b1, o1 + 3, none⟩ = some (.int .i64 ys') := (B23.cell (p := ⟨b1, o1 + 3, none⟩) hb12).trans q13
  have r15 : w3.cell? ⟨b1, o1 + 5, none⟩ = some (.int .i64 ye) := (B23.cell (p := ⟨b1, o1 + 5, none⟩) hb12).trans q15
  have s3 := B23.size
  have hb13 : b1 < w3.heap.size := by omega
  have KKA3 := Lib.hid (KKA.out.call B23)
  have KKB3 := Lib.hid (KKB.out.call B23)
  have B3 := Lib.hid (HB2.out.trans (B23.mono (by omega)))
  clear hbw3 q04 q05 q13 q15 B12
  go_wp2_with fail
  have hbX : ∀ o : Obj, b1 < (w3.alloc o).drew.heap.size := fun o => by simp; omega
  have hbY : b1 < w3.drew.heap.size := by simp; omega
  have hne13 : ¬ (b1 = w3.heap.size) := by omega
  have hne13' : ¬ (w3.heap.size = b1) := by omega
  go_cut [9] from 90 (fun t9 wx => ∃ g A k, t9 = .pointer (some ⟨g, 0, none⟩) ∧ w3.heap.size ≤ g ∧ Blk wx g 58 #[.string (bStr s), .slice A l.length k] ∧ OwB wx w3.heap.size 5 (.slice A l.length k) l ∧ Below w3.heap.size w3 wx)
  case first =>
    go_region_held3 (fun W' => W'.cell? ⟨b1, o1 + 3, none⟩ = some (.int .i64 ys') ∧ W'.cell? ⟨b1, o1 + 5, none⟩ = some (.int .i64 ye))
      (first | go_keep | (refine ⟨(hbw4.cell (p := ⟨b1, o1 + 3, none⟩) hbY).trans ?_, (hbw4.cell (p := ⟨b1, o1 + 5, none⟩) hbY).trans ?_⟩ <;> (simp [*]; done)) | (refine ⟨(hbw4.cell (p := ⟨b1, o1 + 3, none⟩) (hbX _)).trans ?_, (hbw4.cell (p := ⟨b1, o1 + 5, none⟩) (hbX _)).trans ?_⟩ <;> (simp [*]; done)) | (refine ⟨(((Below.refl w4.heap.size w4).alloc (Nat.le_refl _) _).cell (p := ⟨b1, o1 + 3, none⟩) hb14).trans ?_, (((Below.refl w4.heap.size w4).alloc (Nat.le_refl _) _).cell (p := ⟨b1, o1 + 5, none⟩) hb14).trans ?_⟩ <;> (simp [*]; done)) | exact ⟨(((Below.refl w4.heap.size w4).alloc (Nat.le_refl _) _).cell (p := ⟨b1, o1 + 3, none⟩) hb14).trans ((hbw4.cell (p := ⟨b1, o1 + 3, none⟩) hbY).trans r13), (((Below.refl w4.heap.size w4).alloc (Nat.le_refl _) _).cell (p := ⟨b1, o1 + 5, none⟩) hb14).trans ((hbw4.cell (p := ⟨b1, o1 + 5, none⟩) hbY).trans r15)⟩ | (trace_state; fail))
      (first | ((go_at_call 91); (with_reducible refine (HCL.out _ (HVY.out.below B3.out.drew)).mono ?_); rintro e w4 ⟨v4, rfl, ho4, hbw4⟩; obtain ⟨A4, k4, rfl⟩ := isB_slice ho4.isB; have HO4 := Lib.hid ho4; have hb14 : b1 < w4.heap.size := Nat.lt_of_lt_of_le hbY hbw4.size; have hne14 : ¬ (b1 = w4.heap.size) := Nat.ne_of_lt hb14; have hne14' : ¬ (w4.heap.size = b1) := Nat.ne_of_gt hb14; clear ho4) | ((go_at_call 91); (with_reducible refine (HCL.out _ ((HVY.out.below B3.out).alloc _).drew).mono ?_); rintro e w4 ⟨v4, rfl, ho4, hbw4⟩; obtain ⟨A4, k4, rfl⟩ := isB_slice ho4.isB; have HO4 := Lib.hid ho4; have hb14 : b1 < w4.heap.size := Nat.lt_of_lt_of_le (hbX _) hbw4.size; have JZ := Blk.call (Blk.drew (Blk.new w3 58 #[.string ⟨#[]⟩, .slice none 0 0])) hbw4; have qZ := JZ.q; have fZ := JZ.fz; have lZ := JZ.lt; have hne14 : ¬ (b1 = w4.heap.size) := Nat.ne_of_lt hb14; have hne14' : ¬ (w4.heap.size = b1) := Nat.ne_of_gt hb14; clear ho4))
    · go_wp2_with fail
      go_meet
      case rel =>
        have s4 := hbw4.size
        simp at s4
        have b34 : Below w3.heap.size w3 w4 := ((Below.refl w3.heap.size w3).drew).trans (hbw4.mono (by simp))
        refine ⟨w4.heap.size, A4, k4, rfl, s4, Blk.new _ _ _, ?_, b34.alloc s4 _⟩
        have := HO4.out
        simp at this
        exact OwB.alloc this _
    · go_wp2_with fail
      go_meet
      case rel =>
        have s4 := hbw4.size
        simp at s4
        have b34 : Below w3.heap.size w3 w4 := (((Below.refl w3.heap.size w3).alloc (Nat.le_refl _) _).drew).trans (hbw4.mono (by simp))
        refine ⟨w3.heap.size, A4, k4, rfl, Nat.le_refl _, ?_, ?_, (b34.setCell (p := ⟨w3.heap.size, 0, none⟩) (Nat.le_refl _) _).setCell (p := ⟨w3.heap.size, 1, none⟩) (Nat.le_refl _) _⟩
        · have := (JZ.set_ 0 (.string (bStr s))).set_ 1 (.slice A4 l.length k4)
          simpa using this
        · have := HO4.out
          simp at this
          exact OwB.more (base := w3.heap.size + 1) (ownsRow_setCell_below (ownsRow_setCell_below this (Nat.lt_succ_self _) _) (Nat.lt_succ_self _) _) (Nat.le_succ _)
  case rest =>
    obtain ⟨g, A6, k6, rfl, hg, hK, hO, hB⟩ := hcut
    have sc := hB.size
    have gl := hK.lt
    have lw := KKB3.out.lt
    have sw := B3.out.size
    have HKg := Lib.hid hK
    have BC := Lib.hid (B3.out.trans (hB.mono sw))
    have KAc := Lib.hid (KKA3.out.below hB (by omega))
    have KBc := Lib.hid (KKB3.out.below hB lw)
    have c13 : wc.cell? ⟨b1, o1 + 3, none⟩ = some (.int .i64 ys') := (hB.cell (p := ⟨b1, o1 + 3, none⟩) hb13).trans r13
    have HOc := Lib.hid hO
    have hbc : b1 < wc.heap.size := by omega
    have qg := hK.q
    have fg := hK.fz
    clear hB r13 r15 hO hK hbX hbY hne13 hne13' hlen hcut hcuty HI HP HCL HD
    by_cases ht : treeOK 16 l
    · have H := Lib.hid (fun W u (h : IsB W u l) => parse_yes u l W h (by omega) ht)
      have HQt : Q = AtY s l (errV (0, 0)) w := by rw [← HQ.out, if_pos ht]
      have HQ2 := Lib.hid HQt
      clear ht HQ HQt
      go_wp2_with (first | ((go_at_call 92); (with_reducible refine (H.out _ _ HOc.out.isB).mono ?_); rintro e w5 ⟨hbw5, x1, x2, x3, y4, y5, m4, z4, m5, z5, rfl⟩; have Jg := Blk.call (HKg.out) hbw5; have lJg := Jg.lt; have qJg := Jg.q; have rJg := Jg.fz; have Jg' := Lib.hid Jg; clear Jg; have Jg := Jg'.out; clear Jg'; have J0 := Blk.call (KAc.out) hbw5; have lJ0 := J0.lt; have qJ0 := J0.q; have rJ0 := J0.fz; have J0' := Lib.hid J0; clear J0; have J0 := J0'.out; clear J0'; have J1 := Blk.call (KBc.out) hbw5; have lJ1 := J1.lt; have qJ1 := J1.q; have rJ1 := J1.fz; have J1' := Lib.hid J1; clear J1; have J1 := J1'.out; clear J1'; have HO5 := Lib.hid (OwB.below HOc.out hbw5)))
      rw [HQ2.out]
      refine bodyPost_ret (v := .tuple #[.agg #[.string (bStr s), .slice A6 l.length k6], errV (0, 0)]) (by simp only [results, Tryz.results54]; go_simp) rfl ?_
      have b5 : Below w.heap.size w w5 := BC.out.trans (hbw5.mono BC.out.size)
      have s5 := b5.size
      refine ⟨A6, k6, rfl, OwB.more (base := w3.heap.size) ?_ (by omega), by ((repeat' (first | (with_reducible exact Below.refl _ _) | (with_reducible assumption) | (with_reducible refine Below.setCell ?_ ?_ _) | (with_reducible refine Below.alloc ?_ ?_ _) | (with_reducible refine Below.drew ?_) | (with_reducible refine below_drewN ?_ _) | (with_reducible refine Below.step (by with_reducible assumption) ?_ ?_))) <;> (first | omega | (simp; done) | (simp; omega)))⟩
      refine OwB.alloc (OwB.alloc ?_ _) _
      have h0 : w.heap.size < w3.heap.size := by omega
      exact ownsRow_setCell_below (a := ⟨w.heap.size + 1, 1, none⟩) (ownsRow_setCell_below (a := ⟨w.heap.size + 1, 0, none⟩) (ownsRow_setCell_below (a := ⟨w.heap.size, 1, none⟩) (ownsRow_setCell_below (a := ⟨w.heap.size, 0, none⟩) HO5.out h0 _) h0 _) lw _) lw _
    · have H := Lib.hid (fun W u (h : IsB W u l) => parse_no u l W h (by omega) ht)
      have HQt : Q = RetPE b.length w := by rw [← HQ.out, if_neg ht]
      have HQ2 := Lib.hid HQt
      clear ht HQ HQt
      go_wp2_with (first | ((go_at_call 92); (with_reducible refine (H.out _ _ HOc.out.isB).mono ?_); rintro e w5 ⟨hbw5, ec, eo, hec, heo, heo2, rfl⟩; have Jg := Blk.call (HKg.out) hbw5; have lJg := Jg.lt; have qJg := Jg.q; have rJg := Jg.fz; have Jg' := Lib.hid Jg; clear Jg; have Jg := Jg'.out; clear Jg'; have J0 := Blk.call (KAc.out) hbw5; have lJ0 := J0.lt; have qJ0 := J0.q; have rJ0 := J0.fz; have J0' := Lib.hid J0; clear J0; have J0 := J0'.out; clear J0'; have J1 := Blk.call (KBc.out) hbw5; have lJ1 := J1.lt; have qJ1 := J1.q; have rJ1 := J1.fz; have J1' := Lib.hid J1; clear J1; have J1 := J1'.out; clear J1'; have hn : (ec == 0) = false := beq_eq_false_iff_ne.2 (by omega); have hn' : (ec != 0) = true := (by simp; omega)))
      have b5 : Below w.heap.size w w5 := BC.out.trans (hbw5.mono BC.out.size)
      have s5 := hbw5.size
      have bd : Below w.heap.size w ((w5.alloc (.cells #[.int .i64 0, .int .i64 0, .bool false, .slice none 0 0, .slice none 0 0] 85)).alloc (.cells #[.int .i64 ec, .int .i64 eo] 38)) := (b5.alloc b5.size _).alloc (by have := b5.size; simp; omega) _
      have KE : Blk ((w5.alloc (.cells #[.int .i64 0, .int .i64 0, .bool false, .slice none 0 0, .slice none 0 0] 85)).alloc (.cells #[.int .i64 ec, .int .i64 eo] 38)) (w5.heap.size + 1) 38 #[.int .i64 ec, .int .i64 eo] := blk_in (by simp)
      have D0 : Blk ((w5.alloc (.cells #[.int .i64 0, .int .i64 0, .bool false, .slice none 0 0, .slice none 0 0] 85)).alloc (.cells #[.int .i64 ec, .int .i64 eo] 38)) w.heap.size 58 _ := (J0.alloc _).alloc _
      have D1 : Blk ((w5.alloc (.cells #[.int .i64 0, .int .i64 0, .bool false, .slice none 0 0, .slice none 0 0] 85)).alloc (.cells #[.int .i64 ec, .int .i64 eo] 38)) (w.heap.size + 1) 38 _ := (J1.alloc _).alloc _
      have cB : ((w5.alloc (.cells #[.int .i64 0, .int .i64 0, .bool false, .slice none 0 0, .slice none 0 0] 85)).alloc (.cells #[.int .i64 ec, .int .i64 eo] 38)).cell? ⟨b1, o1 + 3, none⟩ = some (.int .i64 ys') := ((((Below.refl w5.heap.size w5).alloc (Nat.le_refl _) _).alloc (by simp) _).cell (p := ⟨b1, o1 + 3, none⟩) (Nat.lt_of_lt_of_le hbc s5)).trans ((hbw5.cell (p := ⟨b1, o1 + 3, none⟩) hbc).trans c13)
      have szd : ((w5.alloc (.cells #[.int .i64 0, .int .i64 0, .bool false, .slice none 0 0, .slice none 0 0] 85)).alloc (.cells #[.int .i64 ec, .int .i64 eo] 38)).heap.size = w5.heap.size + 1 + 1 := by simp
      generalize ((w5.alloc (.cells #[.int .i64 0, .int .i64 0, .bool false, .slice none 0 0, .slice none 0 0] 85)).alloc (.cells #[.int .i64 ec, .int .i64 eo] 38)) = wd at *
      generalize hge : w5.heap.size + 1 = ge at *
      have hws : IntKind.i64.wrap (ys' + eo) = ys' + eo := IntWalk.i64_in _ (by omega)
      have hgd : ge < wd.heap.size := by omega
      have hbd : b1 < wd.heap.size := by omega
      have n1 : ¬ (ge = w.heap.size) := by omega
      have n2 : ¬ (ge = w.heap.size + 1) := by omega
      have n3 : ¬ (b1 = w.heap.size) := by omega
      have n4 : ¬ (b1 = w.heap.size + 1) := by omega
      have n1' : ¬ (w.heap.size = ge) := by omega
      have n2' : ¬ (w.heap.size + 1 = ge) := by omega
      have n3' : ¬ (w.heap.size = b1) := by omega
      have n4' : ¬ (w.heap.size + 1 = b1) := by omega
      have qE := KE.q
      have fE := KE.fz
      have HD0 := Lib.hid D0
      have HD1 := Lib.hid D1
      have e0 := KE.q 0
      have e1 := KE.q 1
      clear D0 D1 qJ0 rJ0 qJ1 rJ1 J0 J1 lJ0 lJ1 hge qJg rJg Jg lJg qg fg
      go_region_held3 (fun W' => W'.cell? ⟨ge, 0, none⟩ = some (.int .i64 ec) ∧ W'.cell? ⟨ge, 1, none⟩ = some (.int .i64 eo) ∧ W'.cell? ⟨b1, o1 + 3, none⟩ = some (.int .i64 ys'))
        (first | go_keep | (refine ⟨(hbw6.cell (p := ⟨ge, 0, none⟩) hgd).trans ?_, (hbw6.cell (p := ⟨ge, 1, none⟩) hgd).trans ?_, (hbw6.cell (p := ⟨b1, o1 + 3, none⟩) hbd).trans ?_⟩ <;> (simp [*]; done)) | (trace_state; fail))
        (((go_at_call 89); (with_reducible refine (HF.out _ _ _).mono ?_); rintro e w6 ⟨rfl, hbw6⟩; have L0 := HD0.out.drew.call hbw6; have L1 := HD1.out.drew.call hbw6; have qL0 := L0.q; have fL0 := L0.fz; have lL0 := L0.lt; have qL1 := L1.q; have fL1 := L1.fz; have lL1 := L1.lt))
      go_wp2_with fail
      rw [HQ2.out]
      refine bodyPost_ret (v := .tuple #[.agg #[.string ⟨#[]⟩, .slice none 0 0], errV (ec, ys' + eo)]) (by simp only [results, Tryz.results54]; go_simp) rfl ?_
      have s6 := hbw6.size
      simp at s6
      have b6 : Below w.heap.size w w6 := bd.drew.trans (hbw6.mono (by simp; omega))
      exact ⟨by ((repeat' (first | (with_reducible exact Below.refl _ _) | (with_reducible assumption) | (with_reducible refine Below.setCell ?_ ?_ _) | (with_reducible refine Below.alloc ?_ ?_ _) | (with_reducible refine Below.drew ?_) | (with_reducible refine below_drewN ?_ _) | (with_reducible refine Below.step (by with_reducible assumption) ?_ ?_))) <;> (first | omega | (simp; done) | (simp; omega))), ec, ys' + eo, hec, by omega, by omega, rfl⟩

theorem attParse (v : Value) (b : List UInt8) (w : World) (hG : Glo w) (hv : IsB w v b) (hL : b.length ≤ 90000) :
    Calls Tryz.prog 54 #[v] w (RetPB (parA b) b.length w) := by
  unfold parA
  cases hp : partsE b 0 16 with
  | error er =>
    obtain ⟨ec, eo⟩ := er
    exact attParse_err v b w ec eo hv (by omega) hp
  | ok xs =>
    match xs, hp with
    | [], hp => exact attParse_few v b w [] hv (by omega) hp (by simp)
    | [x], hp => exact attParse_few v b w [x] hv (by omega) hp (by simp)
    | x :: y :: z :: t, hp => exact attParse_many v b w (x :: y :: z :: t) hv (by omega) hp (by simp)
    | [x, y], hp =>
      simp only
      cases his : isE x 0 false 6 with
      | false => simp only [Bool.false_eq_true, if_false]; exact attParse_tag v b w x y hv (by omega) hp his
      | true =>
        simp only [if_true]
        cases ho : oidD (seg b x.body x.stop) with
        | none => exact attParse_oid v b w x y hG hv hL hp his ho
        | some s =>
          have := attParse_val v b w x y s hG hv hL hp his ho
          simp only
          split
          · rename_i ht; rw [if_pos ht] at this; exact this
          · rename_i ht; rw [if_neg ht] at this; exact this
end Go.Proofs.YtlmnmgokfnnbbaaGreatDoor
end

/- Walk over dn.ParseRDN. -/
section
set_option linter.unusedSimpArgs false
set_option linter.unusedVariables false
namespace Go.Cr
open Go.RowKit
end Go.Cr
namespace Go.Proofs.YtlmnmgokfnnbbaaGreatDoor
open Go.RowKit Go.Cr
theorem infoAtt : (Tryz.prog.info? 58).map (fun i => (i.zero, i.size, i.bytes)) = some (some (.agg #[.string ⟨#[]⟩, .slice none 0 0]), 2, 40) := by kernel_rfl
def RetPR (r : Option Rdn) (L : Nat) (w : World) (e : Ending) (w' : World) : Prop := Below w.heap.size w w' ∧ match r with
  | none => ∃ ec eo : Int, 0 < ec ∧ 0 ≤ eo ∧ eo ≤ L ∧ e = .returned (.tuple #[.slice none 0 0, errV (ec, eo)])
  | some r => ∃ A k, e = .returned (.tuple #[.slice A r.length k, errV (0, 0)]) ∧ OwL repA (fun _ => True) w' w.heap.size 58 (.slice A r.length k) r
def RetPX (r : Option At) (L : Nat) (w : World) (e : Ending) (w' : World) : Prop := match r with
  | none => Below w.heap.size w w' ∧ ∃ c o : Int, 0 < c ∧ 0 ≤ o ∧ o ≤ L ∧ e = .returned (.tuple #[.agg #[.string ⟨#[]⟩, .slice none 0 0], errV (c, o)])
  | some a => ∃ A k, e = .returned (.tuple #[.agg #[.string a.1, .slice A a.2.length k], errV (0, 0)]) ∧ OwB w' w.heap.size 5 (.slice A a.2.length k) a.2 ∧ Below w.heap.size w w'
theorem attParseX (v : Value) (b : List UInt8) (w : World) (hG : Glo w) (hv : IsB w v b) (hL : b.length ≤ 90000) : Calls Tryz.prog 54 #[v] w (RetPX (parX b) b.length w) := by
  refine (attParse v b w hG hv hL).mono fun e w' h => ?_
  unfold parX
  cases hp : parA b with
  | none => rw [hp] at h; exact h
  | some p =>
    obtain ⟨s, l⟩ := p
    rw [hp] at h
    exact h
end Go.Proofs.YtlmnmgokfnnbbaaGreatDoor
end

/- Walks over the reference's parts, ValidRDN, MarshalRDN. -/
section
set_option linter.unusedSimpArgs false
set_option linter.unusedVariables false
namespace Go.Proofs.YtlmnmgokfnnbbaaGreatDoor
open Go.RowKit Go.Cr
theorem ulAts : Tryz.prog.underlying 29 = some (.slice 58) := by kernel_rfl
def RetQs (ps : List (List UInt8)) (w : World) (e : Ending) (w' : World) : Prop := ∃ A k, e = .returned (.slice A ps.length k) ∧ OwP w' w.heap.size 33 (.slice A ps.length k) ps ∧ Below w.heap.size w w'
def QsRel (ps : List (List UInt8)) (w : World) (out ix : Value) (wr : World) : Prop := ∃ i : Nat, ix = .int .i64 (i : Int) ∧ i ≤ ps.length ∧ OwP wr w.heap.size 33 out (ps.take i) ∧ Below w.heap.size w wr
set_option maxRecDepth 100000 in
set_option maxHeartbeats 8000000 in
theorem rPartsR (v : Value) (r : Rdn) (ps : List (List UInt8)) (w : World) (hv : IsQs w v r) (hz : ∀ a ∈ r, a.1.size ≤ 100000 ∧ a.2.length ≤ 100000) (hL : r.length ≤ 100000) (ho : optL marX r = some ps) : Calls Tryz.prog 58 #[v] w (RetQs ps w) := by
  have hlen := hv.len (P := Tryz.prog) ulAts
  have hmx := hv.maxl
  have HV := Lib.hid hv
  have HZ := Lib.hid hz
  have hpl := optL_len ho
  have HPL := Lib.hid hpl
  have HO := Lib.hid (fun i h1 h2 => optL_at ho i h1 h2)
  obtain ⟨A, c, rfl⟩ := isQs_slice hv
  clear hv hz ho
  go_enter Tryz.func58, Tryz.ntmps58
  go_wp2_with fail
  go_loopw [3, 4] (fun out ix wr => QsRel ps w out ix wr) (fun _ ix _ => r.length + 1 - (intOf ix).toNat)
  case atStart => exact ⟨0, rfl, Nat.zero_le _, OwP.nil_ _ _ _, Below.refl _ _⟩
  case round =>
    obtain ⟨i, rfl, hi, how, hbel⟩ := hrel
    have HOW := Lib.hid how
    have HBR := Lib.hid hbel
    have hszr := hbel.size
    by_cases hlt : i < r.length
    · have hltI : (i : Int) < r.length := by omega
      have hip : i < ps.length := by omega
      obtain ⟨b, o, A2, k2, hi2, hl2, hc2, hd2, hIB⟩ := HV.out.at_ (P := Tryz.prog) ulAts szAtt .i64 i hlt
      have g0 := (hbel.cell (p := ⟨b, o, none⟩) hl2).trans hc2
      have g1 := (hbel.cell (p := ⟨b, o + 1, none⟩) hl2).trans hd2
      have hzz := HZ.out _ (List.getElem_mem hlt)
      have hcall := rAttMarshal r[i].1 _ r[i].2 wr (hIB.below hbel) hzz.1 hzz.2
      have hmx2 : marA r[i].1.data.toList r[i].2 = some ps[i] := HO.out i hlt hip
      rw [hmx2] at hcall
      have HTK := Lib.hid (show ps.take (i + 1) = ps.take i ++ [ps[i]] by rw [List.take_succ_eq_append_getElem hip])
      have hll : (ps.take i).length ≤ 100000 := by rw [List.length_take]; omega
      have HLL := Lib.hid hll
      have HCALL := Lib.hid (hcall.mono fun e w' h => h.yes)
      unfold RetOidY at HCALL
      clear how hbel hcall hll hc2 hd2 hIB hzz hmx2 HO
      generalize ps[i] = pl at *
      generalize ps.take i = LL at *
      generalize r[i] = a at *
      obtain ⟨s0, l0⟩ := a
      simp only at g0 g1 HCALL
      go_wp2_with (first | ((go_at_call 95); (with_reducible refine HCALL.out.mono ?_); rintro e wd ⟨vd, rfl, hod, hbwd⟩; obtain ⟨Ad, kd, rfl⟩ := isB_slice hod.isB; have HPD := Lib.hid (part_newD hod HOW.out hszr); have HAD := Lib.hid (HOW.out.below hbwd); have HWD := Lib.hid (HBR.out.trans (hbwd.mono hszr)); clear hod hbwd) | (at_builtin; refine wpList_appP _ rfl _ _ 74 rfl w.heap.size 33 ulBs infoBsD _ LL rfl (HAD.out.alloc _) _ (.slice Ad pl.length kd) pl rfl isR_oneD (HPD.out.alloc _) ?n2 ?b2 ?_))
      case n2 => have := HLL.out; omega
      case b2 => have := HWD.out.size; simp; omega
      intro v6 w6 ho6 hb6 _
      have HO6 := Lib.hid ho6
      have HB6 := Lib.hid ((HWD.out.alloc HWD.out.size (.cells #[.slice Ad pl.length kd] 33)).trans hb6)
      clear ho6 hb6
      go_wp2
      go_roundw
      case rel => exact ⟨i + 1, by go_num, by omega, by rw [HTK.out]; exact HO6.out, HB6.out⟩
      case measure => simp [intOf]; omega
    · have hie : i = ps.length := by omega
      have how := HOW.out
      rw [hie, List.take_length] at how
      have HNB := Lib.hid how
      have hge : (r.length : Int) ≤ i := by omega
      obtain ⟨Ao, ko, hoe⟩ := how.slice
      subst hoe
      clear how hlt hi hie hbel
      go_wp2_with fail
      go_ret
      exact ⟨_, _, rfl, HNB.out, HBR.out⟩
def VrRel (M : Nat) (w : World) (ix : Value) (wr : World) : Prop := ∃ i : Nat, ix = .int .i64 (i : Int) ∧ i ≤ M ∧ Below w.heap.size w wr
end Go.Proofs.YtlmnmgokfnnbbaaGreatDoor
end

/- Walk over dn.Parse. -/
section
set_option linter.unusedSimpArgs false
set_option linter.unusedVariables false
namespace Go.Proofs.YtlmnmgokfnnbbaaGreatDoor
open Go.RowKit Go.Cr
def RetPNm (r : Option Nam) (L : Nat) (w : World) (e : Ending) (w' : World) : Prop := Below w.heap.size w w' ∧ match r with
  | none => ∃ ec eo : Int, 0 < ec ∧ 0 ≤ eo ∧ eo ≤ L ∧ e = .returned (.tuple #[.slice none 0 0, errV (ec, eo)])
  | some r => ∃ A k, e = .returned (.tuple #[.slice A r.length k, errV (0, 0)]) ∧ OwL (repL repA) (fun _ => True) w' w.heap.size 30 (.slice A r.length k) r
end Go.Proofs.YtlmnmgokfnnbbaaGreatDoor
end

/- Nodes as values: what the reference's readers do with a node, or with none. -/
section
set_option linter.unusedSimpArgs false
set_option linter.unusedVariables false
namespace Go.Proofs.YtlmnmgokfnnbbaaGreatDoor
open Go.RowKit Go.Cr
theorem nextH_nil : ∃ e, nextH [] = .error e := ⟨_, rfl⟩
theorem kidsT_nil (d : Nat) : kidsT d [] = [] := by obtain ⟨e, h⟩ := nextH_nil; unfold kidsT; rw [h]
theorem kidC_nil : kidC [] = [] := by obtain ⟨e, h⟩ := nextH_nil; unfold kidC; rw [h]
def NdV (d : Nat) (w : World) (nv : Value) (l : List UInt8) : Prop := ∃ (c1 c2 : Int) (c3 : Bool) (a4 a5 : Option Addr) (n4 k4 n5 k5 : Nat), nv = .agg #[.int .i64 c1, .int .i64 c2, .bool c3, .slice a4 n4 k4, .slice a5 n5 k5] ∧
  ((∃ S, IsNode S d w [.int .i64 c1, .int .i64 c2, .bool c3, .slice a4 n4 k4, .slice a5 n5 k5] l) ∨ (l = [] ∧ nv = .agg #[.int .i64 0, .int .i64 0, .bool false, .slice none 0 0, .slice none 0 0]))
theorem NdV.below {d : Nat} {w w' : World} {nv : Value} {l : List UInt8} (h : NdV d w nv l) (hb : Below w.heap.size w w') : NdV d w' nv l := by
  obtain ⟨c1, c2, c3, a4, a5, n4, k4, n5, k5, e, h⟩ := h
  refine ⟨c1, c2, c3, a4, a5, n4, k4, n5, k5, e, ?_⟩
  rcases h with ⟨S, h⟩ | h
  · exact .inl ⟨S, h.below hb⟩
  · exact .inr h
theorem NdV.zero (d : Nat) (w : World) : NdV d w (.agg #[.int .i64 0, .int .i64 0, .bool false, .slice none 0 0, .slice none 0 0]) [] := ⟨0, 0, false, none, none, 0, 0, 0, 0, rfl, .inr ⟨rfl, rfl⟩⟩
theorem NdV.of {S : Nat → Prop} {d : Nat} {w : World} {c1 c2 : Int} {c3 : Bool} {a4 a5 : Option Addr} {n4 k4 n5 k5 : Nat} {l : List UInt8} (h : IsNode S d w [.int .i64 c1, .int .i64 c2, .bool c3, .slice a4 n4 k4, .slice a5 n5 k5] l) : NdV d w (.agg #[.int .i64 c1, .int .i64 c2, .bool c3, .slice a4 n4 k4, .slice a5 n5 k5]) l :=
  ⟨_, _, _, _, _, _, _, _, _, rfl, .inl ⟨S, h⟩⟩
theorem NdV.open_ {d : Nat} {w : World} {nv : Value} {l : List UInt8} (h : NdV (d + 1) w nv l) :
    ∃ (c1 c2 : Int) (c3 : Bool) (a4 a5 : Option Addr) (n4 k4 n5 k5 : Nat) (S : Nat → Prop) (xs : List Value), nv = .agg #[.int .i64 c1, .int .i64 c2, .bool c3, .slice a4 n4 k4, .slice a5 n5 k5] ∧ IsB w (.slice a4 n4 k4) (kidC l) ∧ n5 = (kidsT d l).length ∧ IsR w (.slice a5 n5 k5) 5 n5 xs ∧
      (∀ j (hj : j < (kidsT d l).length), IsNode S d w ((xs.drop (j * 5)).take 5) (kidsT d l)[j]) ∧ (kidsT d l).flatten.length ≤ l.length := by
  obtain ⟨c1, c2, c3, a4, a5, n4, k4, n5, k5, e, h⟩ := h
  rcases h with ⟨S, h⟩ | ⟨hl, e2⟩
  · obtain ⟨x1, x2, x3, v4, v5, xs, he, h1, h2, h3, h4⟩ := isNode_open h
    injection he with e1 he; injection he with e2 he; injection he with e3 he; injection he with e4 he; injection he with e5 he
    subst e4 e5
    have hn : n5 = (kidsT d l).length := by
      obtain ⟨A, c, hv, _⟩ := h2
      injection hv
    subst hn
    exact ⟨c1, c2, c3, a4, a5, n4, k4, _, k5, S, xs, e, h1, rfl, h2, h3, h4⟩
  · subst hl
    rw [e] at e2
    injection e2 with e2
    injection e2 with e2
    injection e2 with e10 e2; injection e2 with e11 e2; injection e2 with e12 e2; injection e2 with e13 e2; injection e2 with e14 e2
    injection e13 with e15 e16 e17
    injection e14 with e18 e19 e20
    subst e15 e16 e17 e18 e19 e20
    refine ⟨c1, c2, c3, none, none, 0, 0, 0, 0, fun _ => True, [], e, by rw [kidC_nil]; exact isB_nil0 w, by rw [kidsT_nil]; rfl, ⟨none, 0, rfl, Nat.le_refl _, by decide, rfl, fun h => absurd h (by omega)⟩, ?_, by rw [kidsT_nil]; simp⟩
    rw [kidsT_nil]
    exact fun j hj => absurd hj (by simp)
theorem NdV.shape {d : Nat} {w : World} {nv : Value} {l : List UInt8} (h : NdV d w nv l) : ∃ (c1 c2 : Int) (c3 : Bool) (a4 a5 : Option Addr) (n4 k4 n5 k5 : Nat), nv = .agg #[.int .i64 c1, .int .i64 c2, .bool c3, .slice a4 n4 k4, .slice a5 n5 k5] := by
  obtain ⟨c1, c2, c3, a4, a5, n4, k4, n5, k5, e, _⟩ := h
  exact ⟨_, _, _, _, _, _, _, _, _, e⟩

theorem NdV.row {d : Nat} {nv : Value} {l : List UInt8} {w : World} (h : NdV (d + 1) w nv l) :
    ∃ (c1 c2 : Int) (c3 : Bool) (a4 a5 : Option Addr) (n4 k4 k5 : Nat), nv = .agg #[.int .i64 c1, .int .i64 c2, .bool c3, .slice a4 n4 k4, .slice a5 (kidsT d l).length k5] ∧ (∃ xs, IsR w (.slice a5 (kidsT d l).length k5) 5 (kidsT d l).length xs) ∧
      ∀ i (hi : i < (kidsT d l).length), ∃ (b o : Nat) (x1 x2 : Int) (x3 : Bool) (y4 y5 : Option Addr) (m4 z4 m5 z5 : Nat), (∀ W : World, (Instr.indexAt 83 (.slice a5 (kidsT d l).length k5) (.int .i64 (i : Int))).run Tryz.prog W = .ok (.pointer (some ⟨b, o, none⟩)) W) ∧ b < w.heap.size ∧
        w.cell? ⟨b, o, none⟩ = some (.int .i64 x1) ∧ w.cell? ⟨b, o + 1, none⟩ = some (.int .i64 x2) ∧ w.cell? ⟨b, o + 2, none⟩ = some (.bool x3) ∧ w.cell? ⟨b, o + 3, none⟩ = some (.slice y4 m4 z4) ∧ w.cell? ⟨b, o + 4, none⟩ = some (.slice y5 m5 z5) ∧
        NdV d w (.agg #[.int .i64 x1, .int .i64 x2, .bool x3, .slice y4 m4 z4, .slice y5 m5 z5]) (kidsT d l)[i] := by
  obtain ⟨c1, c2, c3, a4, a5, n4, k4, n5, k5, S, xs, rfl, h4, rfl, h5, hk, _⟩ := h.open_
  refine ⟨c1, c2, c3, a4, a5, n4, k4, k5, rfl, ⟨xs, h5⟩, fun i hi => ?_⟩
  obtain ⟨b, o, hia, hbl, hcx⟩ := h5.at_ (P := Tryz.prog) ulNodes szNode .i64 (i := (i : Int)) (by omega) (by omega)
  rw [Int.toNat_natCast] at hcx
  have hnd := hk i hi
  obtain ⟨x1, x2, x3, y4, y5, m4, z4, m5, z5, hx⟩ := hnd.shape
  rw [hx] at hnd
  have p0 := hcx 0 _ (take5_at hx 0 (by omega))
  have p1 := hcx 1 _ (take5_at hx 1 (by omega))
  have p2 := hcx 2 _ (take5_at hx 2 (by omega))
  have p3 := hcx 3 _ (take5_at hx 3 (by omega))
  have p4 := hcx 4 _ (take5_at hx 4 (by omega))
  rw [Nat.add_zero] at p0
  exact ⟨b, o, x1, x2, x3, y4, y5, m4, z4, m5, z5, hia, hbl, p0, p1, p2, p3, p4, NdV.of hnd⟩
end Go.Proofs.YtlmnmgokfnnbbaaGreatDoor
end

/- Walks over the reference's ParseRDN and Parse; how great what is read can be. -/
section
set_option linter.unusedSimpArgs false
set_option linter.unusedVariables false
namespace Go.Proofs.YtlmnmgokfnnbbaaGreatDoor
open Go.RowKit Go.Cr
theorem encO_leD (c n : Int) (k : Bool) (l : List UInt8) : (encO c k n l).length ≤ l.length + 10 := by
  rw [encO_len]
  have := (lenOct_len l.length).2
  omega
theorem marX_le {a : At} {y : List UInt8} (h : marX a = some y) : ∃ c, oidE a.1.data.toList = some c ∧ y.length ≤ c.length + a.2.length + 20 := by
  obtain ⟨c, hc, _, hb⟩ := marA_some h
  refine ⟨c, hc, ?_⟩
  have h1 := encO_leD 0 16 true (encO 0 false 6 c ++ a.2)
  have h2 := encO_leD 0 6 false c
  rw [List.length_append] at h1
  rw [hb]
  omega
def RetDr (r : Option Rdn) (w : World) (e : Ending) (w' : World) : Prop := Below w.heap.size w w' ∧ match r with
  | none => e = .returned (.tuple #[.slice none 0 0, .bool false])
  | some r => ∃ A k, e = .returned (.tuple #[.slice A r.length k, .bool true]) ∧ IsQs w' (.slice A r.length k) r
def RetDn (r : Option Nam) (w : World) (e : Ending) (w' : World) : Prop := Below w.heap.size w w' ∧ match r with
  | none => e = .returned (.tuple #[.slice none 0 0, .bool false])
  | some r => ∃ A k, e = .returned (.tuple #[.slice A r.length k, .bool true]) ∧ IsNm w' (.slice A r.length k) r
end Go.Proofs.YtlmnmgokfnnbbaaGreatDoor
end

/- Walks over the comparison of attributes; facts of the law's kind, plain. -/
section
set_option linter.unusedSimpArgs false
set_option linter.unusedVariables false
namespace Go.Proofs.YtlmnmgokfnnbbaaGreatDoor
open Go.RowKit Go.Cr
set_option maxRecDepth 100000 in
set_option maxHeartbeats 4000000 in
theorem attSame (s1 s2 : ByteArray) (v1 v2 : Value) (l1 l2 : List UInt8) (w : World) (h1 : IsB w v1 l1) (h2 : IsB w v2 l2) :
    Calls Tryz.prog 56 #[.agg #[.string s1, v1], .agg #[.string s2, v2]] w (RetB (.bool (decide (s1 = s2 ∧ l1 = l2))) w) := by
  obtain ⟨A1, k1, rfl⟩ := isB_slice h1
  obtain ⟨A2, k2, rfl⟩ := isB_slice h2
  have HB := Lib.hid (fun W (a : IsB W (.slice A1 l1.length k1) l1) (b : IsB W (.slice A2 l2.length k2) l2) => bytes_any _ _ l1 l2 W a b)
  have H1 := Lib.hid h1
  have H2 := Lib.hid h2
  clear h1 h2
  by_cases hs : s1 = s2
  · subst hs
    have e : decide (s1 = s1 ∧ l1 = l2) = decide (l1 = l2) := by simp
    rw [e]
    generalize decide (l1 = l2) = B at *
    go_enter Tryz.func56, Tryz.ntmps56
    go_wp2_with (first | ((go_at_call 28); (with_reducible refine (HB.out _ ((H1.out.alloc _).alloc _) ((H2.out.alloc _).alloc _)).mono ?_); rintro e w1 ⟨rfl, hbw1⟩; have hs1 := hbw1.size; simp at hs1))
    go_ret
    exact ⟨by cases B <;> rfl, by ((repeat' (first | (with_reducible exact Below.refl _ _) | (with_reducible assumption) | (with_reducible refine Below.setCell ?_ ?_ _) | (with_reducible refine Below.alloc ?_ ?_ _) | (with_reducible refine Below.drew ?_) | (with_reducible refine below_drewN ?_ _) | (with_reducible refine Below.step (by with_reducible assumption) ?_ ?_))) <;> (first | omega | (simp; done) | (simp; omega)))⟩
  · have hne : (s1.toList == s2.toList) = false := by
      rw [ByteArray.toList_eq, ByteArray.toList_eq]
      exact beq_eq_false_iff_ne.2 (fun h => hs (by obtain ⟨a⟩ := s1; obtain ⟨b⟩ := s2; simp at h; simp [h]))
    rw [decide_eq_false (fun h => hs h.1)]
    go_enter Tryz.func56, Tryz.ntmps56
    go_wp2_with fail
    go_ret
    exact ⟨by simp [hne], by ((repeat' (first | (with_reducible exact Below.refl _ _) | (with_reducible assumption) | (with_reducible refine Below.setCell ?_ ?_ _) | (with_reducible refine Below.alloc ?_ ?_ _) | (with_reducible refine Below.drew ?_) | (with_reducible refine below_drewN ?_ _) | (with_reducible refine Below.step (by with_reducible assumption) ?_ ?_))) <;> (first | omega | (simp; done) | (simp; omega)))⟩
end Go.Proofs.YtlmnmgokfnnbbaaGreatDoor
end

/- Walks over cretulabase.RDN and Name. -/
section
set_option linter.unusedSimpArgs false
set_option linter.unusedVariables false
namespace Go.Proofs.YtlmnmgokfnnbbaaGreatDoor
open Go.RowKit Go.Cr
def Rbr (la lb : Rdn) (w : World) (ix : Value) (wr : World) : Prop := ∃ i : Nat, ix = .int .i64 (i : Int) ∧ i ≤ la.length ∧ i ≤ lb.length ∧ (∀ j, j < i → la.getD j default = lb.getD j default) ∧ Below w.heap.size w wr
theorem rdns_eq {la lb : Rdn} (hn : la.length = lb.length) (h : ∀ j, j < la.length → la.getD j default = lb.getD j default) : la = lb := by
  apply List.ext_getElem hn
  intro j h1 h2
  have := h j h1
  simpa [h1, h2] using this
set_option maxRecDepth 100000 in
set_option maxHeartbeats 8000000 in
theorem basRdn (a b : Value) (la lb : Rdn) (w : World) (ha : IsQs w a la) (hb : IsQs w b lb) : Calls Tryz.prog 26 #[a, b] w (RetB (.bool (decide (la = lb))) w) := by
  have hlena := ha.len (P := Tryz.prog) ulRdn
  have hlenb := hb.len (P := Tryz.prog) ulRdn
  have hmxa := ha.maxl
  have hmxb := hb.maxl
  have HA := Lib.hid ha
  have HB := Lib.hid hb
  obtain ⟨A, c, rfl⟩ := isQs_slice ha
  obtain ⟨A', c', rfl⟩ := isQs_slice hb
  obtain ⟨R, hR⟩ : ∃ R, decide (la = lb) = R := ⟨_, rfl⟩
  rw [hR]
  have HR := Lib.hid hR
  clear ha hb hR
  go_enter Tryz.func26, Tryz.ntmps26
  go_wp2_with fail
  go_loopw [5] (fun ix wr => Rbr la lb w ix wr) (fun ix _ => la.length + 1 - (intOf ix).toNat)
  case atStart => exact ⟨0, rfl, Nat.zero_le _, Nat.zero_le _, fun j h => by omega, Below.refl _ _⟩
  case round =>
    obtain ⟨i, rfl, hi, hi', hall, hbel⟩ := hrel
    have HALL := Lib.hid hall
    have HBR := Lib.hid hbel
    clear hall
    by_cases hlt : i < la.length
    · have hltI : (i : Int) < la.length := by omega
      by_cases hlt' : i < lb.length
      · have hltI' : (i : Int) < lb.length := by omega
        obtain ⟨b2, o2, A2, k2, hi2, hl2', hc2', hd2', hI2'⟩ := HA.out.at_ (P := Tryz.prog) ulRdn szAtt .i64 i hlt
        obtain ⟨b3, o3, A3, k3, hi3, hl3', hc3', hd3', hI3'⟩ := HB.out.at_ (P := Tryz.prog) ulRdn szAtt .i64 i hlt'
        have hga : la.getD i default = la[i] := by simp [hlt]
        have hgb : lb.getD i default = lb[i] := by simp [hlt']
        rw [← hga] at hc2' hd2' hI2'
        rw [← hgb] at hc3' hd3' hI3'
        have hl2 := Nat.lt_of_lt_of_le hl2' hbel.size
        have hl3 := Nat.lt_of_lt_of_le hl3' hbel.size
        have hc2 := (hbel.cell (p := ⟨b2, o2, none⟩) hl2').trans hc2'
        have hd2 := (hbel.cell (p := ⟨b2, o2 + 1, none⟩) hl2').trans hd2'
        have hc3 := (hbel.cell (p := ⟨b3, o3, none⟩) hl3').trans hc3'
        have hd3 := (hbel.cell (p := ⟨b3, o3 + 1, none⟩) hl3').trans hd3'
        have HI2 := Lib.hid (hI2'.below hbel)
        have HI3 := Lib.hid (hI3'.below hbel)
        have HC := Lib.hid (fun W (h : IsB W (.slice A2 (la.getD i default).2.length k2) (la.getD i default).2) (h' : IsB W (.slice A3 (lb.getD i default).2.length k3) (lb.getD i default).2) => attSame (la.getD i default).1 (lb.getD i default).1 _ _ _ _ W h h')
        obtain ⟨C, hC⟩ : ∃ C, decide ((la.getD i default).1 = (lb.getD i default).1 ∧ (la.getD i default).2 = (lb.getD i default).2) = C := ⟨_, rfl⟩
        rw [hC] at HC
        have HSS : Hid (∀ W, Below wr.heap.size wr W → W.cell? ⟨b2, o2, none⟩ = some (.string (la.getD i default).1) ∧ W.cell? ⟨b2, o2 + 1, none⟩ = some (.slice A2 (la.getD i default).2.length k2) ∧ W.cell? ⟨b3, o3, none⟩ = some (.string (lb.getD i default).1) ∧ W.cell? ⟨b3, o3 + 1, none⟩ = some (.slice A3 (lb.getD i default).2.length k3)) := fun W hW => ⟨(hW.cell (p := ⟨b2, o2, none⟩) hl2).trans hc2, (hW.cell (p := ⟨b2, o2 + 1, none⟩) hl2).trans hd2, (hW.cell (p := ⟨b3, o3, none⟩) hl3).trans hc3, (hW.cell (p := ⟨b3, o3 + 1, none⟩) hl3).trans hd3⟩
        have hEQ : C = true → la.getD i default = lb.getD i default := fun h => by
          have h2 := of_decide_eq_true (hC.trans h)
          exact Prod.ext h2.1 h2.2
        have hNE : C = false → R = false := fun h => by
          rw [← HR.out]
          refine decide_eq_false fun he => ?_
          subst he
          rw [h] at hC
          exact absurd ⟨rfl, rfl⟩ (of_decide_eq_false hC)
        have HEQ := Lib.hid hEQ
        have HNE := Lib.hid hNE
        obtain ⟨g0, g1, g2, g3⟩ := HSS.out wr (Below.refl _ _)
        clear hI2' hI3' hC hbel hEQ hNE hc2 hd2 hc3 hd3 hc2' hd2' hc3' hd3' hl2' hl3' hga hgb
        generalize hgx : la.getD i default = x at *
        generalize hgy : lb.getD i default = y at *
        have HGX := Lib.hid hgx
        have HGY := Lib.hid hgy
        clear hgx hgy
        obtain ⟨s1, l1⟩ := x
        obtain ⟨s2, l2⟩ := y
        simp only at HC g0 g1 g2 g3 HI2 HI3 HSS
        go_wp2_with fail
        have hcur := Lib.hid ((Below.refl wr.heap.size wr).drew)
        go_region_held3 (fun W' => W'.cell? ⟨b2, o2, none⟩ = some (.string s1) ∧ W'.cell? ⟨b2, o2 + 1, none⟩ = some (.slice A2 l1.length k2) ∧ W'.cell? ⟨b3, o3, none⟩ = some (.string s2) ∧ W'.cell? ⟨b3, o3 + 1, none⟩ = some (.slice A3 l2.length k3))
          (first | go_keep | exact HSS.out _ hcur.out)
          (first | ((go_at_call 56); (with_reducible refine (HC.out _ (HI2.out.below hcur.out) (HI3.out.below hcur.out)).mono ?_); rintro e wz ⟨rfl, hbz⟩; have hcur := Lib.hid (hcur.out.trans (hbz.mono hcur.out.size)); clear hbz))
        cases C with
        | true =>
          go_wp2_with fail
          go_roundw
          case rel =>
            refine ⟨i + 1, by go_num, by omega, by omega, fun j hj => ?_, HBR.out.trans (hcur.out.mono HBR.out.size)⟩
            by_cases hji : j < i
            · exact HALL.out j hji
            · obtain rfl : j = i := by omega
              rw [HGX.out, HGY.out]
              exact HEQ.out (by trivial)
          case measure => simp [intOf]; omega
        | false =>
          go_wp2_with fail
          go_ret
          exact ⟨by rw [HNE.out (by trivial)]; rfl, HBR.out.trans (hcur.out.mono HBR.out.size)⟩
      · have hge' : (lb.length : Int) ≤ i := by omega
        have hRf : R = false := by
          rw [← HR.out]
          exact decide_eq_false (fun h => by subst h; omega)
        have HRF := Lib.hid hRf
        have hne : ((la.length : Int) == lb.length) = false := beq_eq_false_iff_ne.2 (by omega)
        clear hRf hlt hlt'
        go_wp2_with fail
        go_ret
        exact ⟨by rw [HRF.out]; first | rfl | simp [*], HBR.out⟩
    · have hge : (la.length : Int) ≤ i := by omega
      have hie : i = la.length := by omega
      obtain ⟨E, hE⟩ : ∃ E, ((la.length : Int) == lb.length) = E := ⟨_, rfl⟩
      have hRE : R = E := by
        rw [← HR.out, ← hE]
        rw [Bool.eq_iff_iff, decide_eq_true_eq, beq_iff_eq]
        exact ⟨fun h => by rw [h], fun h => rdns_eq (by omega) fun j hj => HALL.out j (by omega)⟩
      have HRE := Lib.hid hRE
      clear hlt hi hRE hbel hi'
      go_wp2_with fail
      go_ret
      exact ⟨by rw [HRE.out]; first | rfl | simp [*], HBR.out⟩
end Go.Proofs.YtlmnmgokfnnbbaaGreatDoor
end
