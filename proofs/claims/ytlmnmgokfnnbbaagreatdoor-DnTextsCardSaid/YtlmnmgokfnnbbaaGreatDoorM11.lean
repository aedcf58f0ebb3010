/- The parts AttrW, DnB, DnC, AttrR, DrB, AttrS, DnD, DrC, DrD, DnE, DnG, NdV, DrF of one proof, one behind the other. -/
import Derived.Test.YtlmnmgokfnnbbaaGreatDoorM03
import Derived.Test.YtlmnmgokfnnbbaaGreatDoorM10
import Derived.Test.YtlmnmgokfnnbbaaGreatDoorM08
import Derived.Test.YtlmnmgokfnnbbaaGreatDoorM09
import Derived.Test.YtlmnmgokfnnbbaaGreatDoorM05
import Derived.Deep.RegionHeld3
import Derived.RegionTactic
import Derived.ChangeAlike

/- Walks over attribute.Valid and Marshal, and the reference's. -/
section
set_option linter.unusedSimpArgs false
set_option linter.unusedVariables false
namespace Go.Proofs.YtlmnmgokfnnbbaaGreatDoor
open Go.RowKit Go.Cr
theorem marA_isSome (s v : List UInt8) : (marA s v).isSome = ((arcsL s).isSome && decide (treeOK 16 v)) := by
  unfold marA oidE
  cases arcsL s with
  | none => rfl
  | some ns => simp only [Option.map_some]; by_cases h : treeOK 16 v <;> simp [h]

set_option maxRecDepth 100000 in
set_option maxHeartbeats 4000000 in
theorem attValid (s : ByteArray) (v : Value) (l : List UInt8) (w : World) (hG : Glo w) (hv : IsB w v l) (hs : s.size ≤ 1000000) (hl : l.length ≤ 1000000) :
    Calls Tryz.prog 83 #[.agg #[.string s, v]] w (RetB (.bool (marA s.data.toList l).isSome) w) := by
  rw [marA_isSome]
  obtain ⟨A, k, rfl⟩ := isB_slice hv
  have HG := Lib.hid hG
  have HV := Lib.hid hv
  have HO : Hid (∀ W, Glo W → Calls Tryz.prog 118 #[.string s] W (RetB (.bool (arcsL s.data.toList).isSome) W)) := fun W h => oidValid s W h hs
  by_cases ht : treeOK 16 l
  · have H := Lib.hid (fun W u (h : IsB W u l) => parse_yes u l W h hl ht)
    rw [decide_eq_true ht, Bool.and_true]
    clear hG hv hs ht
    generalize (arcsL s.data.toList).isSome = B at *
    cases B
    all_goals
      go_enter Tryz.func83, Tryz.ntmps83
      go_wp2_with (first | ((go_at_call 92); (with_reducible refine (H.out _ _ (HV.out.alloc _)).mono ?_); rintro e w1 ⟨hbw1, x1, x2, x3, y4, y5, m4, z4, m5, z5, rfl⟩; obtain ⟨hcw1, hfw1⟩ := bcell hbw1; have hzw1 := hbw1.size; (try simp at hzw1); have hyw1 : w.heap.size < w1.heap.size := (by omega); (try have hyaw1 : w.heap.size + 1 < w1.heap.size := (by omega)); (try have hybw1 : w.heap.size + 2 < w1.heap.size := (by omega)); (try have hycw1 : w.heap.size + 3 < w1.heap.size := (by omega)); (try have hydw1 : w.heap.size + 4 < w1.heap.size := (by omega)); clear hzw1; have K0 := Blk.call (Blk.new w 58 #[.string s, .slice A l.length k]) hbw1; have lK0 := K0.lt; have qK0 := K0.q; have rK0 := K0.fz; have K0' := Lib.hid K0; clear K0; have K0 := K0'.out; clear K0') | ((go_at_call 118); (with_reducible refine (HO.out _ ((((HG.out.alloc _).below hbw1).alloc _).alloc _)).mono ?_); rintro e w2 ⟨rfl, hbw2⟩; obtain ⟨hcw2, hfw2⟩ := bcell hbw2; have hs2 := hbw2.size; simp at hs2))
      go_ret
      exact ⟨rfl, by ((repeat' (first | (with_reducible exact Below.refl _ _) | (with_reducible assumption) | (with_reducible refine Below.setCell ?_ ?_ _) | (with_reducible refine Below.alloc ?_ ?_ _) | (with_reducible refine Below.drew ?_) | (with_reducible refine below_drewN ?_ _) | (with_reducible refine Below.step (by with_reducible assumption) ?_ ?_))) <;> (first | omega | (simp; done) | (simp; omega)))⟩
  · have H := Lib.hid (fun W u (h : IsB W u l) => parse_no u l W h hl ht)
    rw [decide_eq_false ht, Bool.and_false]
    clear hG hv hs ht
    generalize (arcsL s.data.toList).isSome = B at *
    cases B
    all_goals
      go_enter Tryz.func83, Tryz.ntmps83
      go_wp2_with (first | ((go_at_call 92); (with_reducible refine (H.out _ _ (HV.out.alloc _)).mono ?_); rintro e w1 ⟨hbw1, ec, eo, hec, heo, heo2, rfl⟩; obtain ⟨hcw1, hfw1⟩ := bcell hbw1; have hzw1 := hbw1.size; (try simp at hzw1); have hyw1 : w.heap.size < w1.heap.size := (by omega); (try have hyaw1 : w.heap.size + 1 < w1.heap.size := (by omega)); (try have hybw1 : w.heap.size + 2 < w1.heap.size := (by omega)); (try have hycw1 : w.heap.size + 3 < w1.heap.size := (by omega)); (try have hydw1 : w.heap.size + 4 < w1.heap.size := (by omega)); clear hzw1; have K0 := Blk.call (Blk.new w 58 #[.string s, .slice A l.length k]) hbw1; have lK0 := K0.lt; have qK0 := K0.q; have rK0 := K0.fz; have K0' := Lib.hid K0; clear K0; have K0 := K0'.out; clear K0'; have hn : (ec == 0) = false := beq_eq_false_iff_ne.2 (by omega)) | ((go_at_call 118); (with_reducible refine (HO.out _ ((((HG.out.alloc _).below hbw1).alloc _).alloc _)).mono ?_); rintro e w2 ⟨rfl, hbw2⟩; obtain ⟨hcw2, hfw2⟩ := bcell hbw2; have hs2 := hbw2.size; simp at hs2))
      go_ret
      exact ⟨rfl, by ((repeat' (first | (with_reducible exact Below.refl _ _) | (with_reducible assumption) | (with_reducible refine Below.setCell ?_ ?_ _) | (with_reducible refine Below.alloc ?_ ?_ _) | (with_reducible refine Below.drew ?_) | (with_reducible refine below_drewN ?_ _) | (with_reducible refine Below.step (by with_reducible assumption) ?_ ?_))) <;> (first | omega | (simp; done) | (simp; omega)))⟩

theorem oidE_len {l c : List UInt8} (h : oidE l = some c) : c.length ≤ 5 * (l.length + 1) := by
  unfold oidE at h
  cases ha : arcsL l with
  | none => rw [ha] at h; cases h
  | some ns =>
    rw [ha] at h
    injection h with h
    subst h
    have h1 := arcsL_len ha
    have h2 := flat_take_len (subsL ns) (subsL ns).length
    rw [List.take_length] at h2
    have h3 : (subsL ns).length ≤ ns.length := by unfold subsL; split <;> simp
    unfold encL
    omega

theorem isBs_one {w : World} {t : TypeId} {g : Nat} {a : Value} {la : List UInt8} (hg : g = w.heap.size) (ha : IsB w a la) : IsBs (w.alloc (.cells #[a] t)) (.slice (some ⟨g, 0, none⟩) 1 1) [la] := by
  subst hg
  refine ⟨[a], ⟨some ⟨w.heap.size, 0, none⟩, 1, rfl, Nat.le_refl _, by decide, rfl, fun _ => ⟨w.heap.size, 0, rfl, by simp, fun j x hj => ?_⟩⟩, fun j hj => ?_⟩
  · rw [Nat.zero_add, World.cell?_alloc_new]
    simpa using hj
  · match j, hj with
    | 0, _ => exact ha.alloc _
theorem isBs_two {w : World} {t : TypeId} {g : Nat} {a b : Value} {la lb : List UInt8} (hg : g = w.heap.size) (ha : IsB w a la) (hb : IsB w b lb) : IsBs (w.alloc (.cells #[a, b] t)) (.slice (some ⟨g, 0, none⟩) 2 2) [la, lb] := by
  subst hg
  refine ⟨[a, b], ⟨some ⟨w.heap.size, 0, none⟩, 2, rfl, Nat.le_refl _, by decide, rfl, fun _ => ⟨w.heap.size, 0, rfl, by simp, fun j x hj => ?_⟩⟩, fun j hj => ?_⟩
  · rw [Nat.zero_add, World.cell?_alloc_new]
    simpa using hj
  · match j, hj with
    | 0, _ => exact ha.alloc _
    | 1, _ => exact hb.alloc _

set_option maxRecDepth 100000 in
set_option maxHeartbeats 4000000 in
theorem attMarshal (s : ByteArray) (v : Value) (l : List UInt8) (w : World) (hG : Glo w) (hv : IsB w v l) (hs : s.size ≤ 100000) (hl : l.length ≤ 100000) :
    Calls Tryz.prog 52 #[.agg #[.string s, v]] w (RetOid (marA s.data.toList l) w) := by
  have HW := Lib.hid (fun W u (hg : Glo W) (h : IsB W u l) => attValid s u l W hg h (by omega) (by omega))
  obtain ⟨A, k, rfl⟩ := isB_slice hv
  have HG := Lib.hid hG
  have HV := Lib.hid hv
  cases hm : marA s.data.toList l with
  | none =>
    rw [hm] at HW
    clear hG hv hs hl hm
    go_enter Tryz.func52, Tryz.ntmps52
    go_wp2_with (first | ((go_at_call 83); (with_reducible refine (HW.out _ _ (HG.out.alloc _) (HV.out.alloc _)).mono ?_); rintro e w1 ⟨rfl, hbw1⟩))
    go_ret2
    exact ⟨by ((repeat' (first | (with_reducible exact Below.refl _ _) | (with_reducible assumption) | (with_reducible refine Below.setCell ?_ ?_ _) | (with_reducible refine Below.alloc ?_ ?_ _) | (with_reducible refine Below.drew ?_) | (with_reducible refine below_drewN ?_ _) | (with_reducible refine Below.step (by with_reducible assumption) ?_ ?_))) <;> (first | omega | (simp; done) | (simp; omega))), .inl ⟨rfl, rfl⟩⟩
  | some b =>
    obtain ⟨c, hc, ht, hb⟩ := marA_some hm
    have hcl := oidE_len hc
    have hsl : s.data.toList.length = s.size := rfl
    have HO : Hid (∀ W, Glo W → Calls Tryz.prog 84 #[.string s] W (RetOidY c W)) := fun W h => (enc_any s W h (by omega)).mono fun e w' hh => by rw [hc] at hh; exact hh.yes
    have HW1 : Hid (∀ W u, IsBs W u [c] → Calls Tryz.prog 82 #[.int .i64 0, .bool false, .int .i64 6, u] W (RetOK 5 (encO 0 false 6 c) W)) := fun W u h => by
      have := pWrap 0 6 false u [c] W h (by simp; omega)
      unfold RetW at this
      simpa using this
    have hL := encO_len 0 6 false c
    have hlo := lenOct_len c.length
    have HS1 : Hid (∀ W u, IsBs W u [encO 0 false 6 c, l] → Calls Tryz.prog 85 #[u] W (RetOK 5 b W)) := fun W u h => by
      have := pSeq u [encO 0 false 6 c, l] W h (by simp; omega)
      unfold RetW at this
      simpa [hb] using this
    rw [hm] at HW
    clear hG hv hs hl hm hb hc ht hcl hL hlo
    generalize encO 0 false 6 c = E6 at *
    go_enter Tryz.func52, Tryz.ntmps52
    go_wp2_with (first | ((go_at_call 83); (with_reducible refine (HW.out _ _ (HG.out.alloc _) (HV.out.alloc _)).mono ?_); rintro e w1 ⟨rfl, hbw1⟩; obtain ⟨hcw1, hfw1⟩ := bcell hbw1; have hzw1 := hbw1.size; (try simp at hzw1); have hyw1 : w.heap.size < w1.heap.size := (by omega); (try have hyaw1 : w.heap.size + 1 < w1.heap.size := (by omega)); (try have hybw1 : w.heap.size + 2 < w1.heap.size := (by omega)); (try have hycw1 : w.heap.size + 3 < w1.heap.size := (by omega)); (try have hydw1 : w.heap.size + 4 < w1.heap.size := (by omega)); clear hzw1; have K0 := Blk.call (Blk.new w 58 #[.string s, .slice A l.length k]) hbw1; have lK0 := K0.lt; have qK0 := K0.q; have rK0 := K0.fz; have K0' := Lib.hid K0; clear K0; have K0 := K0'.out; clear K0'; have HG1 := Lib.hid ((HG.out.alloc _).below hbw1); have HV1 := Lib.hid ((HV.out.alloc _).below hbw1)) | ((go_at_call 84); (with_reducible refine (HO.out _ HG1.out).mono ?_); rintro e w2 ⟨v2, rfl, ho2, hbw2⟩; obtain ⟨A2, k2, rfl⟩ := isB_slice ho2.isB; have K1 := Blk.call (K0) hbw2; have lK1 := K1.lt; have qK1 := K1.q; have rK1 := K1.fz; have K1' := Lib.hid K1; clear K1; have K1 := K1'.out; clear K1'; have HO2 := Lib.hid ho2; have HV2 := Lib.hid (HV1.out.below hbw2); clear ho2) | ((go_at_call 82); (with_reducible refine (HW1.out _ _ (isBs_one (by simp) HO2.out.isB)).mono ?_); rintro e w3 ⟨v3, rfl, ho3, hbw3⟩; obtain ⟨A3, k3, rfl⟩ := isB_slice ho3.isB; have K2 := Blk.call (K1.alloc _) hbw3; have lK2 := K2.lt; have qK2 := K2.q; have rK2 := K2.fz; have K2' := Lib.hid K2; clear K2; have K2 := K2'.out; clear K2'; have HO3 := Lib.hid ho3; have HV3 := Lib.hid ((HV2.out.alloc _).below hbw3); clear ho3) | ((go_at_call 85); (with_reducible refine (HS1.out _ _ (isBs_two (by simp) HO3.out.isB HV3.out)).mono ?_); rintro e w4 ⟨v4, rfl, ho4, hbw4⟩; have HO4 := Lib.hid ho4; clear ho4))
    go_ret2
    have s1 := hbw1.size; have s2 := hbw2.size; have s3 := hbw3.size; have s4 := hbw4.size
    simp at s1 s2 s3 s4
    refine ⟨?_, .inr ⟨b, _, rfl, rfl, HO4.out.more (by simp; omega)⟩⟩
    have b1 : Below w.heap.size w w1 := ((Below.refl _ w).alloc (Nat.le_refl _) _).trans (hbw1.mono (by simp))
    exact ((((b1.trans (hbw2.mono (by omega))).alloc (by omega) _).trans (hbw3.mono (by simp; omega))).alloc (by omega) _).trans (hbw4.mono (by simp; omega))
end Go.Proofs.YtlmnmgokfnnbbaaGreatDoor
end

/- Walk over (dn.shape).marshal: what it does with a function value that encodes each element. -/
section
set_option linter.unusedSimpArgs false
set_option linter.unusedVariables false
namespace Go.Proofs.YtlmnmgokfnnbbaaGreatDoor
open Go.RowKit Go.Cr
theorem infoBsD : (Tryz.prog.info? 33).map (fun i => (i.zero, i.size, i.bytes)) = some (some (.slice none 0 0), 1, 24) := by kernel_rfl
def OneFn (k : Nat) (lb : Array Value) (I : World → Prop) (N : Nat) (os : Nat → Option (List UInt8)) : Prop :=
  ∀ i, i < N → ∀ W, I W → Calls Tryz.prog k (#[.int .i64 (i : Int)] ++ lb) W (RetOid (os i) W)
def ShRel (m : Nat) (ps : List (List UInt8)) (w : World) (out ix : Value) (wr : World) : Prop := ∃ i : Nat, ix = .int .i64 (i : Int) ∧ i ≤ m ∧ OwP wr w.heap.size 33 out (ps.take i) ∧ Below w.heap.size w wr
set_option maxRecDepth 100000 in
set_option maxHeartbeats 4000000 in
theorem shape_bad (num : Int) (sorted : Bool) (N m : Nat) (k : Nat) (lb : Array Value) (I : World → Prop) (os : Nat → Option (List UInt8)) (ps : List (List UInt8)) (w : World)
    (he : ∀ args W, (callFunc k args).run Tryz.prog W = .ok (.enter k args) W) (hI : ∀ W, Below w.heap.size w W → I W) (hF : OneFn k lb I N os) (hN : N ≤ 100000) (hm : m < N) (hpl : ps.length = m) (hos : ∀ j (_ : j < ps.length), os j = some ps[j]) (hbad : os m = none) :
    Calls Tryz.prog 50 #[.agg #[.int .i64 num, .bool sorted], .int .i64 (N : Int), .func (.func k) #[] lb] w (RetB (.tuple #[.slice none 0 0, .int .i64 8]) w) := by
  have HFN := Lib.hid hF
  have HI := Lib.hid hI
  have HOS := Lib.hid hos
  have HBD := Lib.hid hbad
  have HPL := Lib.hid hpl
  have hNI : (N : Int) ≤ 100000 := by omega
  clear hF hI hos hbad hpl
  go_enter Tryz.func50, Tryz.ntmps50
  go_wp2_with fail
  have HW0 := Lib.hid ((Below.refl w.heap.size w).alloc (Nat.le_refl _) (.cells #[.int .i64 num, .bool sorted] 68))
  have hw0 : w.heap.size < (w.alloc (.cells #[.int .i64 num, .bool sorted] 68)).heap.size := by simp
  generalize w.alloc (.cells #[.int .i64 num, .bool sorted] 68) = w0 at *
  go_loopw [8, 13] (fun out ix wr => ShRel m ps w0 out ix wr) (fun _ ix _ => m + 1 - (intOf ix).toNat)
  case atStart => exact ⟨0, rfl, Nat.zero_le _, OwP.nil_ _ _ _, Below.refl _ _⟩
  case round =>
    obtain ⟨i, rfl, hi, how, hbel⟩ := hrel
    have HOW := Lib.hid how
    have HBR := Lib.hid hbel
    have hcur : Below w.heap.size w wr := HW0.out.trans (hbel.mono (Nat.le_of_lt hw0))
    have hltI : (i : Int) < N := by omega
    have hszr : w0.heap.size ≤ wr.heap.size := hbel.size
    by_cases hlt : i < m
    · have hip : i < ps.length := by have := HPL.out; omega
      have hcall := HFN.out i (by omega) wr (HI.out _ hcur)
      rw [HOS.out i hip] at hcall
      have HTK := Lib.hid (show ps.take (i + 1) = ps.take i ++ [ps[i]] by rw [List.take_succ_eq_append_getElem hip])
      have hll : (ps.take i).length ≤ 100000 := by rw [List.length_take]; omega
      have HLL := Lib.hid hll
      have HCALL := Lib.hid (hcall.mono fun e w' h => h.yes)
      unfold RetOidY at HCALL
      clear how hbel hcall hll
      generalize ps[i] = pl at *
      generalize hLg : ps.take i = LL at *
      go_wp2_with (first | (go_at_fn k; refine HCALL.out.mono ?_; rintro e wd ⟨vd, rfl, hod, hbwd⟩; obtain ⟨Ad, kd, rfl⟩ := isB_slice hod.isB; have HPD := Lib.hid (part_newD hod HOW.out hszr); have HAD := Lib.hid (HOW.out.below hbwd); have HWD := Lib.hid (HBR.out.trans (hbwd.mono hszr)); clear hod hbwd) | (at_builtin; refine wpList_appP _ rfl _ _ 74 rfl w0.heap.size 33 ulBs infoBsD _ LL rfl (HAD.out.alloc _) _ (.slice Ad pl.length kd) pl rfl isR_oneD (HPD.out.alloc _) ?n2 ?b2 ?_))
      case n2 => have := HLL.out; omega
      case b2 => have := HWD.out.size; simp; omega
      intro v6 w6 ho6 hb6 _
      have HO6 := Lib.hid ho6
      have HB6 := Lib.hid ((HWD.out.alloc HWD.out.size (.cells #[.slice Ad pl.length kd] 33)).trans hb6)
      clear ho6 hb6
      go_wp2
      go_roundw
      case rel => exact ⟨i + 1, by go_num, by omega, by rw [HTK.out]; exact HO6.out, HB6.out⟩
      case measure => simp [intOf]; omega
    · obtain rfl : i = m := by omega
      have hcall := HFN.out i hm wr (HI.out _ hcur)
      rw [HBD.out] at hcall
      have HCALL := Lib.hid (hcall.mono fun e w' h => h.no)
      have HCU := Lib.hid hcur
      clear how hbel hcall hcur
      go_wp2_with (go_at_fn k; refine HCALL.out.mono ?_; rintro e wd ⟨rfl, hbwd⟩; have HWD := Lib.hid (HCU.out.trans (hbwd.mono HCU.out.size)); clear hbwd)
      go_ret2
      exact ⟨rfl, HWD.out⟩
theorem shape_good (num : Int) (sorted : Bool) (N : Nat) (k : Nat) (lb : Array Value) (I : World → Prop) (os : Nat → Option (List UInt8)) (ps : List (List UInt8)) (w : World)
    (he : ∀ args W, (callFunc k args).run Tryz.prog W = .ok (.enter k args) W) (hI : ∀ W, Below w.heap.size w W → I W) (hF : OneFn k lb I N os) (hN : N ≤ 100000) (hpl : ps.length = N) (hos : ∀ j (_ : j < ps.length), os j = some ps[j]) (hnum : 0 ≤ num ∧ num < 31) (hfl : ps.flatten.length ≤ 900000) :
    Calls Tryz.prog 50 #[.agg #[.int .i64 num, .bool sorted], .int .i64 (N : Int), .func (.func k) #[] lb] w (if sorted && !ascB ps then RetB (.tuple #[.slice none 0 0, .int .i64 8]) w else RetOidY (encO 0 true num ps.flatten) w) := by
  have HFN := Lib.hid hF
  have HI := Lib.hid hI
  have HOS := Lib.hid hos
  have HPL := Lib.hid hpl
  have HORD := Lib.hid (fun v W (h : IsBs W v ps) => pOrdered v ps W h)
  have HWR : Hid (∀ v W, IsBs W v ps → Calls Tryz.prog 82 #[.int .i64 0, .bool true, .int .i64 num, v] W (RetOidY (encO 0 true num ps.flatten) W)) := fun v W h => by
    refine (pWrap 0 num true v ps W h hfl).mono fun e w' hh => ?_
    unfold RetW at hh
    rw [if_pos ⟨by decide, by decide, hnum.1, hnum.2⟩] at hh
    obtain ⟨u, h1, h2, h3⟩ := hh
    exact ⟨u, h1, h2, h3⟩
  generalize encO 0 true num ps.flatten = R at *
  have hNI : (N : Int) ≤ 100000 := by omega
  clear hF hI hos hpl hfl
  obtain ⟨B, hB⟩ : ∃ B, ascB ps = B := ⟨_, rfl⟩
  rw [hB] at HORD ⊢
  clear hB
  have hpost : ∀ C, Calls Tryz.prog 50 #[.agg #[.int .i64 num, .bool sorted], .int .i64 (N : Int), .func (.func k) #[] lb] w C → C = (if sorted && !B then RetB (.tuple #[.slice none 0 0, .int .i64 8]) w else RetOidY R w) → Calls Tryz.prog 50 #[.agg #[.int .i64 num, .bool sorted], .int .i64 (N : Int), .func (.func k) #[] lb] w (if sorted && !B then RetB (.tuple #[.slice none 0 0, .int .i64 8]) w else RetOidY R w) := fun C h e => e ▸ h
  cases hbad : (sorted && !B) with
  | true =>
    obtain ⟨rfl, rfl⟩ : sorted = true ∧ B = false := by cases sorted <;> cases B <;> simp_all
    simp only [if_true]
    clear hpost
    go_enter Tryz.func50, Tryz.ntmps50
    go_wp2_with fail
    have HK0 := Lib.hid (Blk.new w 68 #[.int .i64 num, .bool true])
    have HW0 := Lib.hid ((Below.refl w.heap.size w).alloc (Nat.le_refl _) (.cells #[.int .i64 num, .bool true] 68))
    have hw0 : w.heap.size < (w.alloc (.cells #[.int .i64 num, .bool true] 68)).heap.size := by simp
    generalize w.alloc (.cells #[.int .i64 num, .bool true] 68) = w0 at *
    go_loopw [8, 13] (fun out ix wr => ShRel N ps w0 out ix wr) (fun _ ix _ => N + 1 - (intOf ix).toNat)
    case atStart => exact ⟨0, rfl, Nat.zero_le _, OwP.nil_ _ _ _, Below.refl _ _⟩
    case round =>
      obtain ⟨i, rfl, hi, how, hbel⟩ := hrel
      have HOW := Lib.hid how
      have HBR := Lib.hid hbel
      have hcur : Below w.heap.size w wr := HW0.out.trans (hbel.mono (Nat.le_of_lt hw0))
      have hszr : w0.heap.size ≤ wr.heap.size := hbel.size
      have HKR := Lib.hid (HK0.out.below hbel hw0)
      by_cases hlt : i < N
      · have hltI : (i : Int) < N := by omega
        have hip : i < ps.length := by have := HPL.out; omega
        have hcall := HFN.out i (by omega) wr (HI.out _ hcur)
        rw [HOS.out i hip] at hcall
        have HTK := Lib.hid (show ps.take (i + 1) = ps.take i ++ [ps[i]] by rw [List.take_succ_eq_append_getElem hip])
        have hll : (ps.take i).length ≤ 100000 := by rw [List.length_take]; omega
        have HLL := Lib.hid hll
        have HCALL := Lib.hid (hcall.mono fun e w' h => h.yes)
        unfold RetOidY at HCALL
        clear how hbel hcall hll
        generalize ps[i] = pl at *
        generalize hLg : ps.take i = LL at *
        go_wp2_with (first | (go_at_fn k; refine HCALL.out.mono ?_; rintro e wd ⟨vd, rfl, hod, hbwd⟩; obtain ⟨Ad, kd, rfl⟩ := isB_slice hod.isB; have HPD := Lib.hid (part_newD hod HOW.out hszr); have HAD := Lib.hid (HOW.out.below hbwd); have HWD := Lib.hid (HBR.out.trans (hbwd.mono hszr)); clear hod hbwd) | (at_builtin; refine wpList_appP _ rfl _ _ 74 rfl w0.heap.size 33 ulBs infoBsD _ LL rfl (HAD.out.alloc _) _ (.slice Ad pl.length kd) pl rfl isR_oneD (HPD.out.alloc _) ?n2 ?b2 ?_))
        case n2 => have := HLL.out; omega
        case b2 => have := HWD.out.size; simp; omega
        intro v6 w6 ho6 hb6 _
        have HO6 := Lib.hid ho6
        have HB6 := Lib.hid ((HWD.out.alloc HWD.out.size (.cells #[.slice Ad pl.length kd] 33)).trans hb6)
        clear ho6 hb6
        go_wp2
        go_roundw
        case rel => exact ⟨i + 1, by go_num, by omega, by rw [HTK.out]; exact HO6.out, HB6.out⟩
        case measure => simp [intOf]; omega
      · have hie : i = N := by omega
        have how := HOW.out
        rw [hie, ← HPL.out, List.take_length] at how
        have HNB := Lib.hid how.isBs
        have hge : (N : Int) ≤ i := by omega
        have HCU := Lib.hid hcur
        have qR := HKR.out.q
        have lR := HKR.out.lt
        obtain ⟨Ao, ko, hoe⟩ := how.slice
        have hlp := HPL.out
        rw [hlp, ← hie] at hoe
        subst hoe
        clear how hlt hi hie hbel hcur hlp
        go_wp2_with (((go_at_call 55); (with_reducible refine (HORD.out _ _ HNB.out).mono ?_); rintro e wd ⟨rfl, hbwd⟩; have HWD := Lib.hid (HCU.out.trans (hbwd.mono HCU.out.size)); clear hbwd))
        go_ret2
        exact ⟨rfl, HWD.out⟩
  | false =>
    simp only [Bool.false_eq_true, if_false]
    clear hpost
    cases sorted with
    | true =>
      obtain rfl : B = true := by cases B <;> simp_all
      clear hbad
      go_enter Tryz.func50, Tryz.ntmps50
      go_wp2_with fail
      have HK0 := Lib.hid (Blk.new w 68 #[.int .i64 num, .bool true])
      have HW0 := Lib.hid ((Below.refl w.heap.size w).alloc (Nat.le_refl _) (.cells #[.int .i64 num, .bool true] 68))
      have hw0 : w.heap.size < (w.alloc (.cells #[.int .i64 num, .bool true] 68)).heap.size := by simp
      generalize w.alloc (.cells #[.int .i64 num, .bool true] 68) = w0 at *
      go_loopw [8, 13] (fun out ix wr => ShRel N ps w0 out ix wr) (fun _ ix _ => N + 1 - (intOf ix).toNat)
      case atStart => exact ⟨0, rfl, Nat.zero_le _, OwP.nil_ _ _ _, Below.refl _ _⟩
      case round =>
        obtain ⟨i, rfl, hi, how, hbel⟩ := hrel
        have HOW := Lib.hid how
        have HBR := Lib.hid hbel
        have hcur : Below w.heap.size w wr := HW0.out.trans (hbel.mono (Nat.le_of_lt hw0))
        have hszr : w0.heap.size ≤ wr.heap.size := hbel.size
        have HKR := Lib.hid (HK0.out.below hbel hw0)
        by_cases hlt : i < N
        · have hltI : (i : Int) < N := by omega
          have hip : i < ps.length := by have := HPL.out; omega
          have hcall := HFN.out i (by omega) wr (HI.out _ hcur)
          rw [HOS.out i hip] at hcall
          have HTK := Lib.hid (show ps.take (i + 1) = ps.take i ++ [ps[i]] by rw [List.take_succ_eq_append_getElem hip])
          have hll : (ps.take i).length ≤ 100000 := by rw [List.length_take]; omega
          have HLL := Lib.hid hll
          have HCALL := Lib.hid (hcall.mono fun e w' h => h.yes)
          unfold RetOidY at HCALL
          clear how hbel hcall hll
          generalize ps[i] = pl at *
          generalize hLg : ps.take i = LL at *
          go_wp2_with (first | (go_at_fn k; refine HCALL.out.mono ?_; rintro e wd ⟨vd, rfl, hod, hbwd⟩; obtain ⟨Ad, kd, rfl⟩ := isB_slice hod.isB; have HPD := Lib.hid (part_newD hod HOW.out hszr); have HAD := Lib.hid (HOW.out.below hbwd); have HWD := Lib.hid (HBR.out.trans (hbwd.mono hszr)); clear hod hbwd) | (at_builtin; refine wpList_appP _ rfl _ _ 74 rfl w0.heap.size 33 ulBs infoBsD _ LL rfl (HAD.out.alloc _) _ (.slice Ad pl.length kd) pl rfl isR_oneD (HPD.out.alloc _) ?n2 ?b2 ?_))
          case n2 => have := HLL.out; omega
          case b2 => have := HWD.out.size; simp; omega
          intro v6 w6 ho6 hb6 _
          have HO6 := Lib.hid ho6
          have HB6 := Lib.hid ((HWD.out.alloc HWD.out.size (.cells #[.slice Ad pl.length kd] 33)).trans hb6)
          clear ho6 hb6
          go_wp2
          go_roundw
          case rel => exact ⟨i + 1, by go_num, by omega, by rw [HTK.out]; exact HO6.out, HB6.out⟩
          case measure => simp [intOf]; omega
        · have hie : i = N := by omega
          have how := HOW.out
          rw [hie, ← HPL.out, List.take_length] at how
          have HNB := Lib.hid how.isBs
          have hge : (N : Int) ≤ i := by omega
          have HCU := Lib.hid hcur
          have qR := HKR.out.q
          have lR := HKR.out.lt
          obtain ⟨Ao, ko, hoe⟩ := how.slice
          have hlp := HPL.out
          rw [hlp, ← hie] at hoe
          subst hoe
          clear how hlt hi hie hbel hcur hlp
          go_wp2_with (first | ((go_at_call 55); (with_reducible refine (HORD.out _ _ HNB.out).mono ?_); rintro e wd ⟨rfl, hbwd⟩; have HWD := Lib.hid (HCU.out.trans (hbwd.mono HCU.out.size)); have HNB2 := Lib.hid (HNB.out.below hbwd); have KD := HKR.out.call hbwd; have qD := KD.q; have lD := KD.lt; clear hbwd KD) | ((go_at_call 82); (with_reducible refine (HWR.out _ _ HNB2.out).mono ?_); rintro e we ⟨ve, rfl, hoe, hbwe⟩; obtain ⟨Ae, ke, rfl⟩ := isB_slice hoe.isB; have HOE := Lib.hid hoe; have HWE := Lib.hid (HWD.out.trans (hbwe.mono HWD.out.size)); have HSE := Lib.hid HWD.out.size; clear hoe hbwe))
          go_ret2
          exact ⟨_, rfl, HOE.out.more HSE.out, HWE.out⟩
    | false =>
      clear hbad
      go_enter Tryz.func50, Tryz.ntmps50
      go_wp2_with fail
      have HK0 := Lib.hid (Blk.new w 68 #[.int .i64 num, .bool false])
      have HW0 := Lib.hid ((Below.refl w.heap.size w).alloc (Nat.le_refl _) (.cells #[.int .i64 num, .bool false] 68))
      have hw0 : w.heap.size < (w.alloc (.cells #[.int .i64 num, .bool false] 68)).heap.size := by simp
      generalize w.alloc (.cells #[.int .i64 num, .bool false] 68) = w0 at *
      go_loopw [8, 13] (fun out ix wr => ShRel N ps w0 out ix wr) (fun _ ix _ => N + 1 - (intOf ix).toNat)
      case atStart => exact ⟨0, rfl, Nat.zero_le _, OwP.nil_ _ _ _, Below.refl _ _⟩
      case round =>
        obtain ⟨i, rfl, hi, how, hbel⟩ := hrel
        have HOW := Lib.hid how
        have HBR := Lib.hid hbel
        have hcur : Below w.heap.size w wr := HW0.out.trans (hbel.mono (Nat.le_of_lt hw0))
        have hszr : w0.heap.size ≤ wr.heap.size := hbel.size
        have HKR := Lib.hid (HK0.out.below hbel hw0)
        by_cases hlt : i < N
        · have hltI : (i : Int) < N := by omega
          have hip : i < ps.length := by have := HPL.out; omega
          have hcall := HFN.out i (by omega) wr (HI.out _ hcur)
          rw [HOS.out i hip] at hcall
          have HTK := Lib.hid (show ps.take (i + 1) = ps.take i ++ [ps[i]] by rw [List.take_succ_eq_append_getElem hip])
          have hll : (ps.take i).length ≤ 100000 := by rw [List.length_take]; omega
          have HLL := Lib.hid hll
          have HCALL := Lib.hid (hcall.mono fun e w' h => h.yes)
          unfold RetOidY at HCALL
          clear how hbel hcall hll
          generalize ps[i] = pl at *
          generalize hLg : ps.take i = LL at *
          go_wp2_with (first | (go_at_fn k; refine HCALL.out.mono ?_; rintro e wd ⟨vd, rfl, hod, hbwd⟩; obtain ⟨Ad, kd, rfl⟩ := isB_slice hod.isB; have HPD := Lib.hid (part_newD hod HOW.out hszr); have HAD := Lib.hid (HOW.out.below hbwd); have HWD := Lib.hid (HBR.out.trans (hbwd.mono hszr)); clear hod hbwd) | (at_builtin; refine wpList_appP _ rfl _ _ 74 rfl w0.heap.size 33 ulBs infoBsD _ LL rfl (HAD.out.alloc _) _ (.slice Ad pl.length kd) pl rfl isR_oneD (HPD.out.alloc _) ?n2 ?b2 ?_))
          case n2 => have := HLL.out; omega
          case b2 => have := HWD.out.size; simp; omega
          intro v6 w6 ho6 hb6 _
          have HO6 := Lib.hid ho6
          have HB6 := Lib.hid ((HWD.out.alloc HWD.out.size (.cells #[.slice Ad pl.length kd] 33)).trans hb6)
          clear ho6 hb6
          go_wp2
          go_roundw
          case rel => exact ⟨i + 1, by go_num, by omega, by rw [HTK.out]; exact HO6.out, HB6.out⟩
          case measure => simp [intOf]; omega
        · have hie : i = N := by omega
          have how := HOW.out
          rw [hie, ← HPL.out, List.take_length] at how
          have HNB := Lib.hid how.isBs
          have hge : (N : Int) ≤ i := by omega
          have HCU := Lib.hid hcur
          have qR := HKR.out.q
          have lR := HKR.out.lt
          obtain ⟨Ao, ko, hoe⟩ := how.slice
          have hlp := HPL.out
          rw [hlp, ← hie] at hoe
          subst hoe
          clear how hlt hi hie hbel hcur hlp
          go_wp2_with (((go_at_call 82); (with_reducible refine (HWR.out _ _ HNB.out).mono ?_); rintro e we ⟨ve, rfl, hoe, hbwe⟩; obtain ⟨Ae, ke, rfl⟩ := isB_slice hoe.isB; have HOE := Lib.hid hoe; have HWE := Lib.hid (HCU.out.trans (hbwe.mono HCU.out.size)); have HSE := Lib.hid HCU.out.size; clear hoe hbwe))
          go_ret2
          exact ⟨_, rfl, HOE.out.more HSE.out, HWE.out⟩
end Go.Proofs.YtlmnmgokfnnbbaaGreatDoor
end

/- Walks over dn.MarshalRDN, ValidRDN, Marshal, Valid. -/
section
set_option linter.unusedSimpArgs false
set_option linter.unusedVariables false
namespace Go.Cr
open Go.RowKit
theorem first_none {α : Type} (f : Nat → Option α) : ∀ n, (∃ i, i < n ∧ f i = none) → ∃ m, m < n ∧ f m = none ∧ ∀ j, j < m → (f j).isSome = true
  | 0, ⟨i, hi, _⟩ => absurd hi (by omega)
  | n + 1, ⟨i, hi, he⟩ => by
    by_cases h : ∃ i, i < n ∧ f i = none
    · obtain ⟨m, h1, h2, h3⟩ := first_none f n h
      exact ⟨m, by omega, h2, h3⟩
    · have hin : i = n := by
        rcases Nat.lt_or_ge i n with h1 | h1
        · exact absurd ⟨i, h1, he⟩ h
        · omega
      subst hin
      refine ⟨i, by omega, he, fun j hj => ?_⟩
      cases hf : f j with
      | some _ => rfl
      | none => exact absurd ⟨j, hj, hf⟩ h
theorem optL_first {α : Type} {f : α → Option (List UInt8)} {l : List α} (h : optL f l = none) : ∃ m, m < l.length ∧ (∃ hm : m < l.length, f l[m] = none) ∧ ∃ ps : List (List UInt8), ps.length = m ∧ ∀ j (h1 : j < ps.length) (h2 : j < l.length), f l[j] = some ps[j] := by
  obtain ⟨i, hi, he⟩ := optL_none h
  obtain ⟨m, h1, h2, h3⟩ := first_none (fun j => match l[j]? with | some a => f a | none => some []) l.length ⟨i, hi, by simp [hi, he]⟩
  refine ⟨m, h1, ⟨h1, by simpa [h1] using h2⟩, (l.take m).map (fun a => (f a).getD []), by simp; omega, fun j hj hl => ?_⟩
  have hjm : j < m := by simp at hj; omega
  have := h3 j hjm
  simp only [List.getElem?_eq_getElem hl] at this
  obtain ⟨c, hc⟩ := Option.isSome_iff_exists.1 this
  simp [hc]
def SzR (r : Rdn) : Prop := r.length ≤ 10000 ∧ (∀ a ∈ r, a.1.size ≤ 100000 ∧ a.2.length ≤ 100000) ∧ ∀ ps, optL marX r = some ps → ps.flatten.length ≤ 900000
def SzNm (n : Nam) : Prop := n.length ≤ 10000 ∧ (∀ r ∈ n, SzR r) ∧ ∀ ps, optL marR n = some ps → ps.flatten.length ≤ 900000
end Go.Cr
namespace Go.Proofs.YtlmnmgokfnnbbaaGreatDoor
open Go.RowKit Go.Cr
theorem ulRdn : Tryz.prog.underlying 30 = some (.slice 58) := by kernel_rfl
theorem ulNam : Tryz.prog.underlying 23 = some (.slice 30) := by kernel_rfl
theorem szAtt (W : World) : (sizeOf 58).run Tryz.prog W = .ok 2 W := by kernel_rfl
theorem szRdn (W : World) : (sizeOf 30).run Tryz.prog W = .ok 1 W := by kernel_rfl
theorem enMR1 : ∀ args W, (callFunc 51 args).run Tryz.prog W = .ok (.enter 51 args) W := enters_of Tryz.func51 (by kernel_rfl) rfl
theorem enMN1 : ∀ args W, (callFunc 63 args).run Tryz.prog W = .ok (.enter 63 args) W := enters_of Tryz.func63 (by kernel_rfl) rfl
theorem enSh : ∀ args W, (callFunc 50 args).run Tryz.prog W = .ok (.enter 50 args) W := enters_of Tryz.func50 (by kernel_rfl) rfl
theorem RetOid.mk_no {w w' : World} {e : Ending} (h : RetB (.tuple #[.slice none 0 0, .int .i64 8]) w e w') : RetOid none w e w' := ⟨h.2, .inl ⟨rfl, h.1⟩⟩
theorem RetOid.mk_yes {c : List UInt8} {w w' : World} {e : Ending} (h : RetOidY c w e w') : RetOid (some c) w e w' := by
  obtain ⟨v, h1, h2, h3⟩ := h
  exact ⟨h3, .inr ⟨c, v, rfl, h1, h2⟩⟩
set_option maxRecDepth 100000 in
set_option maxHeartbeats 4000000 in
theorem mr1 (i : Nat) (g : Nat) (A : Option Addr) (c : Nat) (r : Rdn) (w : World) (hi : i < r.length) (hG : Glo w) (hk : Blk w g 30 #[.slice A r.length c]) (hv : IsQs w (.slice A r.length c) r) (hz : SzR r) :
    Calls Tryz.prog 51 #[.int .i64 (i : Int), .pointer (some ⟨g, 0, none⟩)] w (RetOid (marX r[i]) w) := by
  obtain ⟨b, o, A2, c2, hi2, hbl, h0, h1, hIB⟩ := hv.at_ (P := Tryz.prog) ulRdn szAtt .i64 i hi
  have hzi := hz.2.1 _ (List.getElem_mem hi)
  have HM := Lib.hid (attMarshal r[i].1 _ r[i].2 w hG hIB (by omega) (by omega))
  have q0 : w.cell? ⟨g, 0, none⟩ = some (.slice A r.length c) := (hk.q 0).trans rfl
  have hiI : (i : Int) < r.length := by omega
  have he : marA r[i].1.data.toList r[i].2 = marX r[i] := rfl
  rw [he] at HM
  clear hv hz hG hzi hIB he
  cases hm : marX r[i] with
  | none =>
    rw [hm] at HM
    have HM2 := Lib.hid (HM.out.mono fun e w' h => h.no)
    clear HM hm
    generalize r[i] = a at *
    go_enter Tryz.func51, Tryz.ntmps51
    go_wp2_with (((go_at_call 52); (with_reducible refine HM2.out.mono ?_); rintro e w1 ⟨rfl, hb1⟩))
    go_ret2
    exact RetOid.mk_no ⟨rfl, hb1⟩
  | some y =>
    rw [hm] at HM
    have HM2 := Lib.hid (HM.out.mono fun e w' h => h.yes)
    unfold RetOidY at HM2
    clear HM hm
    generalize r[i] = a at *
    go_enter Tryz.func51, Tryz.ntmps51
    go_wp2_with (((go_at_call 52); (with_reducible refine HM2.out.mono ?_); rintro e w1 ⟨v1, rfl, ho1, hb1⟩; obtain ⟨A1, k1, rfl⟩ := isB_slice ho1.isB))
    go_ret2
    exact RetOid.mk_yes ⟨_, rfl, ho1, hb1⟩
theorem shR (g : Nat) (A : Option Addr) (c : Nat) (r : Rdn) (w : World) (hG : Glo w) (hk : Blk w g 30 #[.slice A r.length c]) (hv : IsQs w (.slice A r.length c) r) (hz : SzR r) (h0 : r.length ≠ 0) :
    Calls Tryz.prog 50 #[.agg #[.int .i64 17, .bool true], .int .i64 (r.length : Int), .func (.func 51) #[] #[.pointer (some ⟨g, 0, none⟩)]] w (RetOid (marR r) w) := by
  have hI : ∀ W, Below w.heap.size w W → Glo W ∧ Blk W g 30 #[.slice A r.length c] ∧ IsQs W (.slice A r.length c) r := fun W h => ⟨hG.below h, hk.call h, hv.below h⟩
  have hF : OneFn 51 #[.pointer (some ⟨g, 0, none⟩)] (fun W => Glo W ∧ Blk W g 30 #[.slice A r.length c] ∧ IsQs W (.slice A r.length c) r) r.length (fun i => match r[i]? with | some a => marX a | none => some []) := fun i hi W ⟨k1, k2, k3⟩ => by
    have := mr1 i g A c r W hi k1 k2 k3 hz
    simpa [hi] using this
  have hzl := hz.1
  unfold marR
  cases ho : optL marX r with
  | none =>
    obtain ⟨m, h1, ⟨_, h2⟩, ps, h3, h4⟩ := optL_first ho
    have ho2 : ∀ (j : Nat) (h : j < ps.length), (match r[j]? with | some a => marX a | none => some []) = some ps[j] := fun j hj => by
      have hjl : j < r.length := by omega
      simpa [hjl] using h4 j hj hjl
    exact (shape_bad 17 true r.length m _ _ _ _ ps w enMR1 hI hF (by omega) h1 h3 ho2 (by simpa [h1] using h2)).mono fun e w' h => RetOid.mk_no h
  | some ps =>
    have hl := optL_len ho
    have ho2 : ∀ (j : Nat) (h : j < ps.length), (match r[j]? with | some a => marX a | none => some []) = some ps[j] := fun j hj => by
      have hjl : j < r.length := by omega
      simpa [hjl] using optL_at ho j hjl hj
    refine (shape_good 17 true r.length _ _ _ _ ps w enMR1 hI hF (by omega) hl ho2 (by decide) (hz.2.2 ps ho)).mono fun e w' h => ?_
    simp only
    cases ha : ascB ps with
    | true =>
      rw [ha] at h
      rw [if_pos ⟨h0, rfl⟩]
      exact RetOid.mk_yes h
    | false =>
      rw [ha] at h
      rw [if_neg (by simp)]
      exact RetOid.mk_no h
set_option maxRecDepth 100000 in
set_option maxHeartbeats 4000000 in
theorem dnMarshalRDN (v : Value) (r : Rdn) (w : World) (hG : Glo w) (hv : IsQs w v r) (hz : SzR r) : Calls Tryz.prog 24 #[v] w (RetOid (marR r) w) := by
  have hlen := hv.len (P := Tryz.prog) ulRdn
  obtain ⟨A, c, rfl⟩ := isQs_slice hv
  by_cases h0 : r.length = 0
  · have hm : marR r = none := by
      unfold marR
      split
      · rfl
      · rw [if_neg (fun h => h.1 h0)]
    rw [hm]
    rw [h0] at hlen ⊢
    clear hv hz hG hm h0
    go_enter Tryz.func24, Tryz.ntmps24
    go_wp2_with fail
    go_ret2
    exact RetOid.mk_no ⟨rfl, (Below.refl _ _).alloc (Nat.le_refl _) _⟩
  · have HS := Lib.hid (shR w.heap.size A c r (w.alloc (.cells #[.slice A r.length c] 30)) (hG.alloc _) (Blk.new _ _ _) (hv.alloc _) hz h0)
    have h0I : ((r.length : Int) == 0) = false := beq_eq_false_iff_ne.2 (by omega)
    have hen := enSh
    cases hm : marR r with
    | none =>
      rw [hm] at HS
      have HS2 := Lib.hid (HS.out.mono fun e w' h => h.no)
      clear hv hz hG hm h0 HS
      go_enter Tryz.func24, Tryz.ntmps24
      go_wp2_with (go_at_fn 50; refine HS2.out.mono ?_; rintro e w1 ⟨rfl, hb1⟩)
      go_ret2
      exact RetOid.mk_no ⟨rfl, ((Below.refl w.heap.size w).alloc (Nat.le_refl _) _).trans (hb1.mono (by simp))⟩
    | some y =>
      rw [hm] at HS
      have HS2 := Lib.hid (HS.out.mono fun e w' h => h.yes)
      unfold RetOidY at HS2
      clear hv hz hG hm h0 HS
      go_enter Tryz.func24, Tryz.ntmps24
      go_wp2_with (go_at_fn 50; refine HS2.out.mono ?_; rintro e w1 ⟨v1, rfl, ho1, hb1⟩; obtain ⟨A1, k1, rfl⟩ := isB_slice ho1.isB)
      go_ret2
      exact RetOid.mk_yes ⟨_, rfl, ho1.more (by simp), ((Below.refl w.heap.size w).alloc (Nat.le_refl _) _).trans (hb1.mono (by simp))⟩
end Go.Proofs.YtlmnmgokfnnbbaaGreatDoor
end

/- Walks over the reference's Valid, Marshal. -/
section
set_option linter.unusedSimpArgs false
set_option linter.unusedVariables false
namespace Go.Proofs.YtlmnmgokfnnbbaaGreatDoor
open Go.RowKit Go.Cr
set_option maxRecDepth 100000 in
set_option maxHeartbeats 4000000 in
theorem rFewAttr (s : ByteArray) (v : Value) (l : List UInt8) (w : World) (hv : IsB w v l) (hs : s.size ≤ 9223372036854775807) :
    Calls Tryz.prog 49 #[.agg #[.string s, v]] w (RetB (.bool (decide (s.size ≤ 200 ∧ l.length ≤ 1000))) w) := by
  have hlen := hv.len ulB
  obtain ⟨A, k, rfl⟩ := isB_slice hv
  by_cases h1 : s.size ≤ 200
  · by_cases h2 : l.length ≤ 1000
    · rw [decide_eq_true ⟨h1, h2⟩]
      have e1 : (s.size : Int) ≤ 200 := by omega
      have e2 : (l.length : Int) ≤ 1000 := by omega
      have d2 : decide (l.length ≤ 1000) = true := decide_eq_true h2
      have d1 : decide (s.size ≤ 200) = true := decide_eq_true h1
      clear hv
      go_enter Tryz.func49, Tryz.ntmps49
      go_wp2_with fail
      go_ret
      exact ⟨rfl, by ((repeat' (first | (with_reducible exact Below.refl _ _) | (with_reducible assumption) | (with_reducible refine Below.setCell ?_ ?_ _) | (with_reducible refine Below.alloc ?_ ?_ _) | (with_reducible refine Below.drew ?_) | (with_reducible refine below_drewN ?_ _) | (with_reducible refine Below.step (by with_reducible assumption) ?_ ?_))) <;> (first | omega | (simp; done) | (simp; omega)))⟩
    · rw [decide_eq_false (fun h => h2 h.2)]
      have e1 : (s.size : Int) ≤ 200 := by omega
      have e2 : 1000 < (l.length : Int) := by omega
      have d1 : decide (s.size ≤ 200) = true := decide_eq_true h1
      clear hv
      go_enter Tryz.func49, Tryz.ntmps49
      go_wp2_with fail
      go_ret
      exact ⟨by simp; omega, by ((repeat' (first | (with_reducible exact Below.refl _ _) | (with_reducible assumption) | (with_reducible refine Below.setCell ?_ ?_ _) | (with_reducible refine Below.alloc ?_ ?_ _) | (with_reducible refine Below.drew ?_) | (with_reducible refine below_drewN ?_ _) | (with_reducible refine Below.step (by with_reducible assumption) ?_ ?_))) <;> (first | omega | (simp; done) | (simp; omega)))⟩
  · rw [decide_eq_false (fun h => h1 h.1)]
    have e1 : 200 < (s.size : Int) := by omega
    have d1 : decide (s.size ≤ 200) = false := decide_eq_false h1
    clear hv
    go_enter Tryz.func49, Tryz.ntmps49
    go_wp2_with fail
    go_ret
    exact ⟨rfl, by ((repeat' (first | (with_reducible exact Below.refl _ _) | (with_reducible assumption) | (with_reducible refine Below.setCell ?_ ?_ _) | (with_reducible refine Below.alloc ?_ ?_ _) | (with_reducible refine Below.drew ?_) | (with_reducible refine below_drewN ?_ _) | (with_reducible refine Below.step (by with_reducible assumption) ?_ ?_))) <;> (first | omega | (simp; done) | (simp; omega)))⟩

set_option maxRecDepth 100000 in
set_option maxHeartbeats 4000000 in
theorem rAttValid (s : ByteArray) (v : Value) (l : List UInt8) (w : World) (hv : IsB w v l) (hs : s.size ≤ 1000000) (hl : l.length ≤ 1000000) :
    Calls Tryz.prog 59 #[.agg #[.string s, v]] w (RetB (.bool (marA s.data.toList l).isSome) w) := by
  rw [marA_isSome]
  obtain ⟨A, k, rfl⟩ := isB_slice hv
  have HV := Lib.hid hv
  have HO : Hid (∀ W, Calls Tryz.prog 96 #[.string s] W (RetB (.bool (arcsL s.data.toList).isSome) W)) := fun W => rOidValid s W hs
  have H := Lib.hid (fun W u (h : IsB W u l) => rOpen_any u l W h hl)
  clear hv hs
  generalize (arcsL s.data.toList).isSome = B at *
  generalize decide (treeOK 16 l) = T at *
  cases B <;> cases T
  all_goals
    go_enter Tryz.func59, Tryz.ntmps59
    go_wp2_with (first | ((go_at_call 96); (with_reducible refine (HO.out _).mono ?_); rintro e w1 ⟨rfl, hbw1⟩; obtain ⟨hcw1, hfw1⟩ := bcell hbw1; have hzw1 := hbw1.size; (try simp at hzw1); have hyw1 : w.heap.size < w1.heap.size := (by omega); (try have hyaw1 : w.heap.size + 1 < w1.heap.size := (by omega)); (try have hybw1 : w.heap.size + 2 < w1.heap.size := (by omega)); (try have hycw1 : w.heap.size + 3 < w1.heap.size := (by omega)); (try have hydw1 : w.heap.size + 4 < w1.heap.size := (by omega)); clear hzw1; have K0 := Blk.call (Blk.new w 58 #[.string s, .slice A l.length k]) hbw1; have lK0 := K0.lt; have qK0 := K0.q; have rK0 := K0.fz; have K0' := Lib.hid K0; clear K0; have K0 := K0'.out; clear K0') | ((go_at_call 97); (with_reducible refine (H.out _ _ ((HV.out.alloc _).below hbw1)).mono ?_); rintro e w2 ⟨rfl, hbw2⟩; have hs2 := hbw2.size))
    go_ret
    exact ⟨rfl, by ((repeat' (first | (with_reducible exact Below.refl _ _) | (with_reducible assumption) | (with_reducible refine Below.setCell ?_ ?_ _) | (with_reducible refine Below.alloc ?_ ?_ _) | (with_reducible refine Below.drew ?_) | (with_reducible refine below_drewN ?_ _) | (with_reducible refine Below.step (by with_reducible assumption) ?_ ?_))) <;> (first | omega | (simp; done) | (simp; omega)))⟩

set_option maxRecDepth 100000 in
set_option maxHeartbeats 4000000 in
theorem rObject (s : ByteArray) (c : List UInt8) (w : World) (hs : s.size ≤ 100000) (hc : oidE s.data.toList = some c) :
    Calls Tryz.prog 129 #[.string s] w (RetO 5 (encO 0 false 6 c) w) := by
  have hsl : s.data.toList.length = s.size := rfl
  have hcl := oidE_len hc
  have HO : Hid (∀ W, Calls Tryz.prog 163 #[.string s] W (RetOidY c W)) := fun W => (rOidEnc s W (by omega)).mono fun e w' hh => by rw [hc] at hh; exact hh.yes
  have HP : Hid (∀ W u, IsB W u c → Calls Tryz.prog 94 #[.int .u8 6, u] W (RetO 5 (encO 0 false 6 c) W)) := fun W u h => rPut 6 u c W h (by omega)
  clear hs hc hsl hcl
  go_enter Tryz.func129, Tryz.ntmps129
  go_wp2_with (first | ((go_at_call 163); (with_reducible refine (HO.out _).mono ?_); rintro e w2 ⟨v2, rfl, ho2, hbw2⟩; obtain ⟨A2, k2, rfl⟩ := isB_slice ho2.isB; have HO2 := Lib.hid ho2; clear ho2) | ((go_at_call 94); (with_reducible refine (HP.out _ _ HO2.out.isB).mono ?_); rintro e w3 ⟨v3, rfl, ho3, hbw3⟩; have HO3 := Lib.hid ho3; clear ho3))
  go_ret
  exact ⟨_, rfl, HO3.out.more hbw2.size, hbw2.trans (hbw3.mono hbw2.size)⟩

set_option maxRecDepth 100000 in
set_option maxHeartbeats 4000000 in
theorem rAttMarshal (s : ByteArray) (v : Value) (l : List UInt8) (w : World) (hv : IsB w v l) (hs : s.size ≤ 100000) (hl : l.length ≤ 100000) :
    Calls Tryz.prog 95 #[.agg #[.string s, v]] w (RetOid (marA s.data.toList l) w) := by
  have HW := Lib.hid (fun W u (h : IsB W u l) => rAttValid s u l W h (by omega) (by omega))
  obtain ⟨A, k, rfl⟩ := isB_slice hv
  have HV := Lib.hid hv
  cases hm : marA s.data.toList l with
  | none =>
    rw [hm] at HW
    clear hv hs hl hm
    go_enter Tryz.func95, Tryz.ntmps95
    go_wp2_with (first | ((go_at_call 59); (with_reducible refine (HW.out _ _ (HV.out.alloc _)).mono ?_); rintro e w1 ⟨rfl, hbw1⟩))
    go_ret2
    exact ⟨by ((repeat' (first | (with_reducible exact Below.refl _ _) | (with_reducible assumption) | (with_reducible refine Below.setCell ?_ ?_ _) | (with_reducible refine Below.alloc ?_ ?_ _) | (with_reducible refine Below.drew ?_) | (with_reducible refine below_drewN ?_ _) | (with_reducible refine Below.step (by with_reducible assumption) ?_ ?_))) <;> (first | omega | (simp; done) | (simp; omega))), .inl ⟨rfl, rfl⟩⟩
  | some b =>
    obtain ⟨c, hc, ht, hb⟩ := marA_some hm
    have hcl := oidE_len hc
    have hsl : s.data.toList.length = s.size := rfl
    have HO := Lib.hid (fun W => rObject s c W hs hc)
    have hL := encO_len 0 6 false c
    have hlo := lenOct_len c.length
    have HP : Hid (∀ W u, IsBs W u [encO 0 false 6 c, l] → Calls Tryz.prog 57 #[.int .u8 48, u] W (RetO 5 b W)) := fun W u h => by
      have := rPuts 48 u [encO 0 false 6 c, l] W h (by simp; omega)
      have e : (48 :: (lenOct [encO 0 false 6 c, l].flatten.length ++ [encO 0 false 6 c, l].flatten)) = b := by rw [hb]; simp [encO]; rfl
      rwa [e] at this
    rw [hm] at HW
    clear hv hs hl hm hb hc ht hcl hL hlo
    generalize encO 0 false 6 c = E6 at *
    go_enter Tryz.func95, Tryz.ntmps95
    go_wp2_with (first | ((go_at_call 59); (with_reducible refine (HW.out _ _ (HV.out.alloc _)).mono ?_); rintro e w1 ⟨rfl, hbw1⟩; obtain ⟨hcw1, hfw1⟩ := bcell hbw1; have hzw1 := hbw1.size; (try simp at hzw1); have hyw1 : w.heap.size < w1.heap.size := (by omega); (try have hyaw1 : w.heap.size + 1 < w1.heap.size := (by omega)); (try have hybw1 : w.heap.size + 2 < w1.heap.size := (by omega)); (try have hycw1 : w.heap.size + 3 < w1.heap.size := (by omega)); (try have hydw1 : w.heap.size + 4 < w1.heap.size := (by omega)); clear hzw1; have K0 := Blk.call (Blk.new w 58 #[.string s, .slice A l.length k]) hbw1; have lK0 := K0.lt; have qK0 := K0.q; have rK0 := K0.fz; have K0' := Lib.hid K0; clear K0; have K0 := K0'.out; clear K0'; have HV1 := Lib.hid ((HV.out.alloc _).below hbw1)))
    go_region_held3 (fun W' => W'.cell? ⟨w.heap.size, 0, none⟩ = some (.string s) ∧ W'.cell? ⟨w.heap.size, 1, none⟩ = some (.slice A l.length k))
      (first | go_keep | (exact ⟨(hbw3.cell (by simp; omega)).trans (by simp [*]), (hbw3.cell (by simp; omega)).trans (by simp [*])⟩) | (exact ⟨(hbw2.cell lK0).trans (by simp [*]), (hbw2.cell lK0).trans (by simp [*])⟩))
      (first | ((go_at_call 129); (with_reducible refine (HO.out _).mono ?_); rintro e w2 ⟨v2, rfl, ho2, hbw2⟩; obtain ⟨A2, k2, rfl⟩ := isB_slice ho2.isB; have HO2 := Lib.hid ho2; clear ho2; have hy2 : w.heap.size < w2.heap.size := Nat.lt_of_lt_of_le lK0 hbw2.size) | ((go_at_call 57); (with_reducible refine (HP.out _ _ (isBs_two (by simp) HO2.out.isB ((HV1.out.drew).below hbw2))).mono ?_); rintro e w3 ⟨v3, rfl, ho3, hbw3⟩; have HO3 := Lib.hid ho3; clear ho3))
    go_wp2
    go_ret2
    have s2 := hbw2.size; have s3 := hbw3.size
    simp at s2 s3
    have b1 : Below w.heap.size w w1 := ((Below.refl _ w).alloc (Nat.le_refl _) _).trans (hbw1.mono (by simp))
    have b2 : Below w.heap.size w w2 := b1.drew.trans (hbw2.mono (by simp; omega))
    exact ⟨(b2.alloc (by omega) _).trans (hbw3.mono (by simp; omega)), .inr ⟨b, _, rfl, rfl, HO3.out.more (by simp; omega)⟩⟩
end Go.Proofs.YtlmnmgokfnnbbaaGreatDoor
end

/- Walks over the reference's FewRDN and Few. -/
section
set_option linter.unusedSimpArgs false
set_option linter.unusedVariables false
namespace Go.Cr
open Go.RowKit
def sumV (r : Rdn) : Nat := (r.map fun a => a.2.length).sum
theorem sumV_succ (r : Rdn) {i : Nat} (h : i < r.length) : sumV (r.take (i + 1)) = sumV (r.take i) + r[i].2.length := by
  unfold sumV
  rw [List.take_succ_eq_append_getElem h, List.map_append, List.sum_append]
  simp
def FewA (a : At) : Prop := a.1.size ≤ 200 ∧ a.2.length ≤ 1000
theorem sumV_le {r : Rdn} {i : Nat} (h : ∀ j, j < i → FewA (r.getD j default)) (hi : i ≤ r.length) : sumV (r.take i) ≤ i * 1000 := by
  induction i with
  | zero => simp [sumV]
  | succ k ih =>
    have h1 := ih (fun j hj => h j (by omega)) (by omega)
    have h2 := (h k (by omega)).2
    have h3 : r.getD k default = r[k] := by simp [show k < r.length by omega]
    rw [h3] at h2
    rw [sumV_succ r (by omega)]
    omega
def BdR (M : Nat) (r : Rdn) : Prop := ∀ a ∈ r, a.1.size ≤ M ∧ a.2.length ≤ M
def BdNm (M : Nat) (n : Nam) : Prop := ∀ r ∈ n, BdR M r
def FwR (r : Rdn) : Prop := r.length ≤ 8 ∧ (∀ a ∈ r, FewA a) ∧ sumV r ≤ 2000
def sumN (n : Nam) : Nat := (n.map sumV).sum
theorem sumN_succ (n : Nam) {i : Nat} (h : i < n.length) : sumN (n.take (i + 1)) = sumN (n.take i) + sumV n[i] := by
  unfold sumN
  rw [List.take_succ_eq_append_getElem h, List.map_append, List.sum_append]
  simp
def FwNm (n : Nam) : Prop := n.length ≤ 10 ∧ (∀ r ∈ n, FwR r) ∧ sumN n ≤ 2000
theorem all_getDx {α : Type} [Inhabited α] {P : α → Prop} {l : List α} (h : ∀ j, j < l.length → P (l.getD j default)) : ∀ a ∈ l, P a := fun a ha => by
  obtain ⟨j, hj, rfl⟩ := List.mem_iff_getElem.1 ha
  have := h j hj
  simpa [hj] using this
theorem wr64d {x : Int} (h0 : 0 ≤ x) (h1 : x ≤ 9223372036854775807) : IntKind.i64.wrap x = x := by rw [IntKind.wrap_i64]; omega
theorem sumN_le {n : Nam} {i : Nat} (h : ∀ j, j < i → FwR (n.getD j [])) (hi : i ≤ n.length) : sumN (n.take i) ≤ i * 2000 := by
  induction i with
  | zero => simp [sumN]
  | succ k ih =>
    have h1 := ih (fun j hj => h j (by omega)) (by omega)
    have h2 := (h k (by omega)).2.2
    have h3 : n.getD k [] = n[k] := by simp [show k < n.length by omega]
    rw [h3] at h2
    rw [sumN_succ n (by omega)]
    omega
theorem FwR.le {r : Rdn} (h : FwR r) {k : Nat} (hk : k ≤ r.length) : sumV (r.take k) ≤ k * 1000 := by
  refine sumV_le (fun j hj => ?_) hk
  have hj2 : j < r.length := by omega
  have : r.getD j default = r[j] := by simp [hj2]
  rw [this]
  exact h.2.1 _ (List.getElem_mem hj2)
end Go.Cr
namespace Go.Proofs.YtlmnmgokfnnbbaaGreatDoor
open Go.RowKit Go.Cr
def RetFr (r : Rdn) (w : World) (e : Ending) (w' : World) : Prop := ∃ b : Bool, e = .returned (.bool b) ∧ (b = true → FwR r) ∧ Below w.heap.size w w'
def FrRel (r : Rdn) (w : World) (nv ix : Value) (wr : World) : Prop := ∃ i n : Nat, ix = .int .i64 (i : Int) ∧ nv = .int .i64 (n : Int) ∧ n = sumV (r.take i) ∧ i ≤ r.length ∧ i ≤ 10 ∧ (∀ j, j < i → FewA (r.getD j default)) ∧ Below w.heap.size w wr
set_option maxRecDepth 100000 in
set_option maxHeartbeats 8000000 in
theorem rFewRDN (v : Value) (r : Rdn) (w : World) (hv : IsQs w v r) (hM : BdR 140737488351232 r) : Calls Tryz.prog 23 #[v] w (RetFr r w) := by
  have hlen := hv.len (P := Tryz.prog) ulRdn
  have hmx := hv.maxl
  have HV := Lib.hid hv
  have HM := Lib.hid hM
  obtain ⟨A, c, rfl⟩ := isQs_slice hv
  clear hv hM
  go_enter Tryz.func23, Tryz.ntmps23
  go_wp2_with fail
  go_loopw [3, 4] (fun nv ix wr => FrRel r w nv ix wr) (fun _ ix _ => r.length + 1 - (intOf ix).toNat)
  case atStart => exact ⟨0, 0, rfl, rfl, rfl, Nat.zero_le _, by omega, fun j h => by omega, Below.refl _ _⟩
  case round =>
    obtain ⟨i, n, rfl, rfl, hn, hi, hi10, hall, hbel⟩ := hrel
    have HN := Lib.hid hn
    have HALL := Lib.hid hall
    have HB := Lib.hid hbel
    have hnb : n ≤ 10000 := by rw [hn]; have := sumV_le hall hi; omega
    clear hn hall
    by_cases hlt : i < r.length
    · have hltI : (i : Int) < r.length := by omega
      by_cases h10 : i < 10
      · have h10I : (i : Int) < 10 := by omega
        obtain ⟨b, o, A2, k2, hi2, hl2, hc2, hd2, hIB⟩ := HV.out.at_ (P := Tryz.prog) ulRdn szAtt .i64 i hlt
        have hz := HM.out _ (List.getElem_mem hlt)
        have g0 := (hbel.cell (p := ⟨b, o, none⟩) hl2).trans hc2
        have g1 := (hbel.cell (p := ⟨b, o + 1, none⟩) hl2).trans hd2
        have HIB := Lib.hid (hIB.below hbel)
        have hbl := hIB.len (P := Tryz.prog) ulB
        have HF := Lib.hid (fun W (h : IsB W (.slice A2 r[i].2.length k2) r[i].2) => rFewAttr r[i].1 _ r[i].2 W h (by omega))
        have hga : r.getD i default = r[i] := by simp [hlt]
        have HGA := Lib.hid hga
        have HSU := Lib.hid (sumV_succ r hlt)
        clear hc2 hd2 hIB hz hga hbel
        by_cases hf : r[i].1.size ≤ 200 ∧ r[i].2.length ≤ 1000
        · rw [decide_eq_true hf] at HF
          have hf2 := hf.2
          have HFA := Lib.hid hf
          clear hf
          generalize r[i] = a at *
          obtain ⟨s, l⟩ := a
          simp only at HF g0 g1 HIB hbl hf2 HSU
          have hsum : IntKind.i64.wrap ((n : Int) + (l.length : Int)) = (n : Int) + (l.length : Int) := wr64d (by omega) (by omega)
          obtain ⟨n2, hn2⟩ : ∃ n2 : Nat, n2 = n + l.length := ⟨_, rfl⟩
          have hs2 : (n : Int) + (l.length : Int) = (n2 : Int) := by omega
          rw [hs2] at hsum
          have HN2 := Lib.hid hn2
          clear hn2
          go_wp2_with (((go_at_call 49); (with_reducible refine (HF.out _ HIB.out).mono ?_); rintro e w1 ⟨rfl, hb1⟩; have g1' := (hb1.cell (p := ⟨b, o + 1, none⟩) (Nat.lt_of_lt_of_le hl2 HB.out.size)).trans g1; have HB1 := Lib.hid (HB.out.trans (hb1.mono HB.out.size)); clear hb1))
          go_roundw
          case rel =>
            refine ⟨i + 1, n2, by go_num, by first | rfl | exact congrArg (Value.int .i64) hsum | (rw [← hs2]; rfl), by rw [HSU.out, HN2.out, HN.out], by omega, by omega, fun j hj => ?_, HB1.out⟩
            by_cases hji : j < i
            · exact HALL.out j hji
            · obtain rfl : j = i := by omega
              rw [HGA.out]
              exact HFA.out
          case measure => simp [intOf]; omega
        · rw [decide_eq_false hf] at HF
          clear hf
          generalize r[i] = a at *
          obtain ⟨s, l⟩ := a
          simp only at HF g0 g1 HIB hbl HSU
          go_wp2_with (((go_at_call 49); (with_reducible refine (HF.out _ HIB.out).mono ?_); rintro e w1 ⟨rfl, hb1⟩; have HB1 := Lib.hid (HB.out.trans (hb1.mono HB.out.size)); clear hb1))
          go_ret
          exact ⟨false, rfl, (fun h => by cases h), HB1.out⟩
      · have h10I : (10 : Int) ≤ i := by omega
        have h8 : (8 : Int) < r.length := by omega
        clear h10 hlt hi
        go_wp2_with fail
        go_ret
        exact ⟨false, by first | rfl | simp [*], (fun h => by cases h), HB.out⟩
    · have hge : (r.length : Int) ≤ i := by omega
      have hie : i = r.length := by omega
      have hfull : n = sumV r := by rw [HN.out, hie, List.take_length]
      by_cases hA : r.length ≤ 8
      · have hAI : (r.length : Int) ≤ 8 := by omega
        by_cases hB : n ≤ 2000
        · have hBI : (n : Int) ≤ 2000 := by omega
          have hR := Lib.hid (show FwR r from ⟨hA, all_getDx fun j hj => HALL.out j (by omega), by omega⟩)
          clear hlt hi hA hB hie hfull
          go_wp2_with fail
          go_ret
          exact ⟨true, by first | rfl | simp [*], fun _ => hR.out, HB.out⟩
        · have hBI : (2000 : Int) < n := by omega
          clear hlt hi hA hB hie hfull
          go_wp2_with fail
          go_ret
          exact ⟨false, by first | rfl | simp [*], (fun h => by cases h), HB.out⟩
      · have hAI : (8 : Int) < r.length := by omega
        clear hlt hi hA hie hfull
        go_wp2_with fail
        go_ret
        exact ⟨false, by first | rfl | simp [*], (fun h => by cases h), HB.out⟩
def RetFnm (n : Nam) (w : World) (e : Ending) (w' : World) : Prop := ∃ b : Bool, e = .returned (.bool b) ∧ (b = true → FwNm n) ∧ Below w.heap.size w w'
def FnRel (x : Nam) (w : World) (nv ix : Value) (wr : World) : Prop := ∃ i n : Nat, ix = .int .i64 (i : Int) ∧ nv = .int .i64 (n : Int) ∧ n = sumN (x.take i) ∧ i ≤ x.length ∧ i ≤ 20 ∧ (∀ j, j < i → FwR (x.getD j [])) ∧ Below w.heap.size w wr
def FkRel (r : Rdn) (n0 : Nat) (w : World) (nv kx : Value) (wr : World) : Prop := ∃ k n : Nat, kx = .int .i64 (k : Int) ∧ nv = .int .i64 (n : Int) ∧ n = n0 + sumV (r.take k) ∧ k ≤ r.length ∧ Below w.heap.size w wr
set_option maxRecDepth 100000 in
set_option maxHeartbeats 16000000 in
theorem rFewNm (v : Value) (x : Nam) (w : World) (hv : IsNm w v x) (hM : BdNm 140737488351232 x) : Calls Tryz.prog 15 #[v] w (RetFnm x w) := by
  have hlen := hv.len (P := Tryz.prog) ulNam
  have hmx := hv.maxl
  have HV := Lib.hid hv
  have HM := Lib.hid hM
  obtain ⟨A, c, rfl⟩ := isNm_slice hv
  clear hv hM
  go_enter Tryz.func15, Tryz.ntmps15
  go_wp2_with fail
  go_loopw [3, 4] (fun nv ix wr => FnRel x w nv ix wr) (fun _ ix _ => x.length + 1 - (intOf ix).toNat)
  case atStart => exact ⟨0, 0, rfl, rfl, rfl, Nat.zero_le _, by omega, fun j h => by omega, Below.refl _ _⟩
  case round =>
    obtain ⟨i, n, rfl, rfl, hn, hi, hi20, hall, hbel⟩ := hrel
    obtain ⟨wo, rfl⟩ : ∃ wo, wo = wr := ⟨_, rfl⟩
    have HN := Lib.hid hn
    have HALL := Lib.hid hall
    have HBR := Lib.hid hbel
    have hnb : n ≤ 40000 := by rw [hn]; have := sumN_le hall hi; omega
    clear hn hall
    by_cases hlt : i < x.length
    · have hltI : (i : Int) < x.length := by omega
      by_cases h20 : i < 20
      · have h20I : (i : Int) < 20 := by omega
        obtain ⟨b2, o2, A2, k2, hi2, hl2, hc2, hIR⟩ := HV.out.at_ (P := Tryz.prog) ulNam szRdn .i64 i hlt
        have hmem := HM.out _ (List.getElem_mem hlt)
        have hga : x.getD i [] = x[i] := by simp [hlt]
        have hsu := sumN_succ x hlt
        generalize x[i] = r at *
        have hrlen := hIR.len (P := Tryz.prog) ulRdn
        have h2o : wo.cell? ⟨b2, o2, none⟩ = some (.slice A2 r.length k2) := (hbel.cell (p := ⟨b2, o2, none⟩) hl2).trans hc2
        have HC2 := Lib.hid hc2
        have HIR := Lib.hid hIR
        have HGA := Lib.hid hga
        have HSU := Lib.hid hsu
        have hrmx := hIR.maxl
        have HF := Lib.hid (rFewRDN _ r wo (hIR.below hbel) hmem)
        unfold RetFr at HF
        clear hc2 hIR hmem hga hsu hbel
        go_wp2_with (((go_at_call 23); (with_reducible refine HF.out.mono ?_); rintro e w1 ⟨b, rfl, hfr, hb1⟩; have HB1 := Lib.hid (HBR.out.trans (hb1.mono HBR.out.size)); have h2k := (HB1.out.cell (p := ⟨b2, o2, none⟩) hl2).trans HC2.out; have HFR := Lib.hid hfr; clear hfr hb1; cases b))
        · go_ret
          exact ⟨false, rfl, (fun h => by cases h), HB1.out⟩
        · have hfr := HFR.out (by trivial)
          have HFW := Lib.hid hfr
          have hsl := hfr.2.2
          clear hfr h2o HF HFR
          go_loopw [3, 5] (fun nv kx wq => FkRel r n w nv kx wq) (fun _ kx _ => r.length + 1 - (intOf kx).toNat)
          case atStart => exact ⟨0, n, rfl, rfl, by simp [sumV], Nat.zero_le _, HB1.out⟩
          case round =>
            obtain ⟨k, n2, rfl, rfl, hn2, hk, hbm⟩ := hrel
            obtain ⟨wm, rfl⟩ : ∃ wm, wm = wr := ⟨_, rfl⟩
            have HBM := Lib.hid hbm
            have HN2 := Lib.hid hn2
            have h2m : wm.cell? ⟨b2, o2, none⟩ = some (.slice A2 r.length k2) := (hbm.cell (p := ⟨b2, o2, none⟩) hl2).trans HC2.out
            have hkb : n2 ≤ 50000 := by have := HFW.out.le hk; have := HFW.out.1; omega
            clear hn2 h2k
            by_cases hkl : k < r.length
            · obtain ⟨b4, o4, A4, k4, hi4, hl4, hd1, hd2, hIB⟩ := HIR.out.at_ (P := Tryz.prog) ulRdn szAtt .i64 k hkl
              have h4m : wm.cell? ⟨b4, o4 + 1, none⟩ = some (.slice A4 r[k].2.length k4) := (hbm.cell (p := ⟨b4, o4 + 1, none⟩) hl4).trans hd2
              have HGM := Lib.hid (sumV_succ r hkl)
              have hkI : (k : Int) < r.length := by omega
              have hm2 := (HFW.out.2.1 _ (List.getElem_mem hkl)).2
              have hblen := hIB.len (P := Tryz.prog) ulB
              clear hd1 hd2 hIB hbm
              generalize r[k] = q at *
              obtain ⟨t0, l0⟩ := q
              simp only at h4m hm2 hblen HGM
              have x2 : IntKind.i64.wrap ((n2 : Int) + (l0.length : Int)) = (n2 : Int) + (l0.length : Int) := wr64d (by omega) (by omega)
              obtain ⟨n3, hn3⟩ : ∃ n3 : Nat, n3 = n2 + l0.length := ⟨_, rfl⟩
              have x3 : (n2 : Int) + (l0.length : Int) = (n3 : Int) := by omega
              rw [x3] at x2
              have HN3 := Lib.hid hn3
              clear hn3
              go_wp2_with fail
              go_roundw
              case rel => exact ⟨k + 1, n3, by go_num, by first | rfl | exact congrArg (Value.int .i64) x2 | (rw [← x3]; rfl), by rw [HN3.out, HN2.out, HGM.out]; omega, by omega, HBM.out⟩
              case measure => simp [intOf]; omega
            · obtain rfl : k = r.length := by omega
              have hkI : (r.length : Int) ≤ r.length := Int.le_refl _
              go_wp2_with fail
              go_roundw
              case rel =>
                refine ⟨i + 1, n2, by go_num, rfl, by rw [HN2.out, HSU.out, HN.out, List.take_length], by omega, by omega, fun j hj => ?_, HBM.out⟩
                by_cases hji : j < i
                · exact HALL.out j hji
                · obtain rfl : j = i := by omega
                  rw [HGA.out]
                  exact HFW.out
              case measure => simp [intOf]; omega
      · have h20I : (20 : Int) ≤ i := by omega
        have h10 : (10 : Int) < x.length := by omega
        clear h20 hlt hi
        go_wp2_with fail
        go_ret
        exact ⟨false, by first | rfl | simp [*], (fun h => by cases h), HBR.out⟩
    · have hge : (x.length : Int) ≤ i := by omega
      have hie : i = x.length := by omega
      have hfull : n = sumN x := by rw [HN.out, hie, List.take_length]
      by_cases hA : x.length ≤ 10
      · have hAI : (x.length : Int) ≤ 10 := by omega
        by_cases hB : n ≤ 2000
        · have hBI : (n : Int) ≤ 2000 := by omega
          have hR := Lib.hid (show FwNm x from ⟨hA, fun r hr => by obtain ⟨j, hj, rfl⟩ := List.mem_iff_getElem.1 hr; have := HALL.out j (by omega); simpa [hj] using this, by omega⟩)
          clear hlt hi hA hB hie hfull
          go_wp2_with fail
          go_ret
          exact ⟨true, by first | rfl | simp [*], fun _ => hR.out, HBR.out⟩
        · have hBI : (2000 : Int) < n := by omega
          clear hlt hi hA hB hie hfull
          go_wp2_with fail
          go_ret
          exact ⟨false, by first | rfl | simp [*], (fun h => by cases h), HBR.out⟩
      · have hAI : (10 : Int) < x.length := by omega
        clear hlt hi hA hie hfull
        go_wp2_with fail
        go_ret
        exact ⟨false, by first | rfl | simp [*], (fun h => by cases h), HBR.out⟩
end Go.Proofs.YtlmnmgokfnnbbaaGreatDoor
end

/- Walks over the reference's Read of an attribute. -/
section
set_option linter.unusedSimpArgs false
set_option linter.unusedVariables false
namespace Go.Proofs.YtlmnmgokfnnbbaaGreatDoor
open Go.RowKit Go.Cr
theorem isNode_open {S : Nat → Prop} {d : Nat} {w : World} {cs : List Value} {l : List UInt8} (h : IsNode S (d + 1) w cs l) :
    ∃ (c1 c2 : Int) (c3 : Bool) (v4 v5 : Value) (xs : List Value), cs = [.int .i64 c1, .int .i64 c2, .bool c3, v4, v5] ∧ IsB w v4 (kidC l) ∧ IsR w v5 5 (kidsT d l).length xs ∧
      (∀ j (hj : j < (kidsT d l).length), IsNode S d w ((xs.drop (j * 5)).take 5) (kidsT d l)[j]) ∧ (kidsT d l).flatten.length ≤ l.length := by
  obtain ⟨hd, v4, v5, ks, xs, h1, h2, h3, h4, h5, h6, h7⟩ := h
  have hkid : kidsT d l = ks := by
    unfold kidsT
    rw [h1]
    cases hc : hd.con with
    | false => rw [hc] at h6; simp only [Bool.false_eq_true, if_false] at h6; simp [hc, h6]
    | true =>
      rw [hc, if_pos rfl] at h6
      have hl := cont_len h1
      simp only [hc, Bool.true_eq_false, if_false]
      rw [← h6, scanL_of ks _ (fun p hp => by
        obtain ⟨j, hj, rfl⟩ := List.getElem_of_mem hp
        exact (h7 j hj).1) (by rw [h6]; omega)]
      rfl
  have hkc : kidC l = if hd.con then [] else cont l hd := by unfold kidC; rw [h1]
  have hkk := nextH_ok h1
  have hcl := cont_len h1
  refine ⟨hd.cls, hd.num, hd.con, v4, v5, xs, h3, ?_, ?_, ?_, ?_⟩
  · rw [hkc]; exact h4.isR.bytes
  · rw [hkid]; exact h5.isR
  · rw [hkid]; exact fun j hj => (h7 j hj).2
  · rw [hkid]
    cases hc : hd.con with
    | false => rw [hc] at h6; simp only [Bool.false_eq_true, if_false] at h6; simp [h6]
    | true => rw [hc, if_pos rfl] at h6; rw [h6]; omega
theorem kidC_len (p : List UInt8) : (kidC p).length ≤ p.length := by
  unfold kidC
  split
  · simp
  · rename_i h e
    have := nextH_ok e
    have := cont_len e
    split
    · simp
    · omega
theorem isB_nil0 (w : World) : IsB w (.slice none 0 0) [] := ⟨none, 0, rfl, Nat.le_refl _, by decide, fun h => absurd h (by simp)⟩

end Go.Proofs.YtlmnmgokfnnbbaaGreatDoor
end

/- Walks over dn.ValidRDN, Marshal, Valid. -/
section
set_option linter.unusedSimpArgs false
set_option linter.unusedVariables false
namespace Go.Proofs.YtlmnmgokfnnbbaaGreatDoor
open Go.RowKit Go.Cr
set_option maxRecDepth 100000 in
set_option maxHeartbeats 4000000 in
theorem mn1 (i : Nat) (g : Nat) (A : Option Addr) (c : Nat) (n : Nam) (w : World) (hi : i < n.length) (hG : Glo w) (hk : Blk w g 23 #[.slice A n.length c]) (hv : IsNm w (.slice A n.length c) n) (hz : SzNm n) :
    Calls Tryz.prog 63 #[.int .i64 (i : Int), .pointer (some ⟨g, 0, none⟩)] w (RetOid (marR n[i]) w) := by
  obtain ⟨b, o, A2, c2, hi2, hbl, h0, hIR⟩ := hv.at_ (P := Tryz.prog) ulNam szRdn .i64 i hi
  have HM := Lib.hid (dnMarshalRDN _ n[i] w hG hIR (hz.2.1 _ (List.getElem_mem hi)))
  have q0 : w.cell? ⟨g, 0, none⟩ = some (.slice A n.length c) := (hk.q 0).trans rfl
  have hiI : (i : Int) < n.length := by omega
  clear hv hz hG hIR
  cases hm : marR n[i] with
  | none =>
    rw [hm] at HM
    have HM2 := Lib.hid (HM.out.mono fun e w' h => h.no)
    clear HM hm
    generalize n[i] = a at *
    go_enter Tryz.func63, Tryz.ntmps63
    go_wp2_with (((go_at_call 24); (with_reducible refine HM2.out.mono ?_); rintro e w1 ⟨rfl, hb1⟩))
    go_ret2
    exact RetOid.mk_no ⟨rfl, hb1⟩
  | some y =>
    rw [hm] at HM
    have HM2 := Lib.hid (HM.out.mono fun e w' h => h.yes)
    unfold RetOidY at HM2
    clear HM hm
    generalize n[i] = a at *
    go_enter Tryz.func63, Tryz.ntmps63
    go_wp2_with (((go_at_call 24); (with_reducible refine HM2.out.mono ?_); rintro e w1 ⟨v1, rfl, ho1, hb1⟩; obtain ⟨A1, k1, rfl⟩ := isB_slice ho1.isB))
    go_ret2
    exact RetOid.mk_yes ⟨_, rfl, ho1, hb1⟩
theorem shN (g : Nat) (A : Option Addr) (c : Nat) (n : Nam) (w : World) (hG : Glo w) (hk : Blk w g 23 #[.slice A n.length c]) (hv : IsNm w (.slice A n.length c) n) (hz : SzNm n) :
    Calls Tryz.prog 50 #[.agg #[.int .i64 16, .bool false], .int .i64 (n.length : Int), .func (.func 63) #[] #[.pointer (some ⟨g, 0, none⟩)]] w (RetOid (marNm n) w) := by
  have hI : ∀ W, Below w.heap.size w W → Glo W ∧ Blk W g 23 #[.slice A n.length c] ∧ IsNm W (.slice A n.length c) n := fun W h => ⟨hG.below h, hk.call h, hv.below h⟩
  have hF : OneFn 63 #[.pointer (some ⟨g, 0, none⟩)] (fun W => Glo W ∧ Blk W g 23 #[.slice A n.length c] ∧ IsNm W (.slice A n.length c) n) n.length (fun i => match n[i]? with | some a => marR a | none => some []) := fun i hi W ⟨k1, k2, k3⟩ => by
    have := mn1 i g A c n W hi k1 k2 k3 hz
    simpa [hi] using this
  have hzl := hz.1
  unfold marNm
  cases ho : optL marR n with
  | none =>
    obtain ⟨m, h1, ⟨_, h2⟩, ps, h3, h4⟩ := optL_first ho
    have ho2 : ∀ (j : Nat) (h : j < ps.length), (match n[j]? with | some a => marR a | none => some []) = some ps[j] := fun j hj => by
      have hjl : j < n.length := by omega
      simpa [hjl] using h4 j hj hjl
    exact (shape_bad 16 false n.length m _ _ _ _ ps w enMN1 hI hF (by omega) h1 h3 ho2 (by simpa [h1] using h2)).mono fun e w' h => RetOid.mk_no h
  | some ps =>
    have hl := optL_len ho
    have ho2 : ∀ (j : Nat) (h : j < ps.length), (match n[j]? with | some a => marR a | none => some []) = some ps[j] := fun j hj => by
      have hjl : j < n.length := by omega
      simpa [hjl] using optL_at ho j hjl hj
    refine (shape_good 16 false n.length _ _ _ _ ps w enMN1 hI hF (by omega) hl ho2 (by decide) (hz.2.2 ps ho)).mono fun e w' h => ?_
    exact RetOid.mk_yes h
set_option maxRecDepth 100000 in
set_option maxHeartbeats 4000000 in
theorem dnMarshal (v : Value) (n : Nam) (w : World) (hG : Glo w) (hv : IsNm w v n) (hz : SzNm n) : Calls Tryz.prog 33 #[v] w (RetOid (marNm n) w) := by
  have hlen := hv.len (P := Tryz.prog) ulNam
  obtain ⟨A, c, rfl⟩ := isNm_slice hv
  have HS := Lib.hid (shN w.heap.size A c n (w.alloc (.cells #[.slice A n.length c] 23)) (hG.alloc _) (Blk.new _ _ _) (hv.alloc _) hz)
  have hen := enSh
  cases hm : marNm n with
  | none =>
    rw [hm] at HS
    have HS2 := Lib.hid (HS.out.mono fun e w' h => h.no)
    clear hv hz hG hm HS
    go_enter Tryz.func33, Tryz.ntmps33
    go_wp2_with (go_at_fn 50; refine HS2.out.mono ?_; rintro e w1 ⟨rfl, hb1⟩)
    go_ret2
    exact RetOid.mk_no ⟨rfl, ((Below.refl w.heap.size w).alloc (Nat.le_refl _) _).trans (hb1.mono (by simp))⟩
  | some y =>
    rw [hm] at HS
    have HS2 := Lib.hid (HS.out.mono fun e w' h => h.yes)
    unfold RetOidY at HS2
    clear hv hz hG hm HS
    go_enter Tryz.func33, Tryz.ntmps33
    go_wp2_with (go_at_fn 50; refine HS2.out.mono ?_; rintro e w1 ⟨v1, rfl, ho1, hb1⟩; obtain ⟨A1, k1, rfl⟩ := isB_slice ho1.isB)
    go_ret2
    exact RetOid.mk_yes ⟨_, rfl, ho1.more (by simp), ((Below.refl w.heap.size w).alloc (Nat.le_refl _) _).trans (hb1.mono (by simp))⟩
set_option maxRecDepth 100000 in
set_option maxHeartbeats 4000000 in
theorem dnValid (v : Value) (n : Nam) (w : World) (hG : Glo w) (hv : IsNm w v n) (hz : SzNm n) : Calls Tryz.prog 35 #[v] w (RetB (.bool (marNm n).isSome) w) := by
  have HS := Lib.hid (dnMarshal v n w hG hv hz)
  obtain ⟨A, c, rfl⟩ := isNm_slice hv
  cases hm : marNm n with
  | none =>
    rw [hm] at HS
    have HS2 := Lib.hid (HS.out.mono fun e w' h => h.no)
    clear hv hz hG hm HS
    go_enter Tryz.func35, Tryz.ntmps35
    go_wp2_with (((go_at_call 33); (with_reducible refine HS2.out.mono ?_); rintro e w1 ⟨rfl, hb1⟩))
    go_ret
    exact ⟨rfl, hb1⟩
  | some y =>
    rw [hm] at HS
    have HS2 := Lib.hid (HS.out.mono fun e w' h => h.yes)
    unfold RetOidY at HS2
    clear hv hz hG hm HS
    go_enter Tryz.func35, Tryz.ntmps35
    go_wp2_with (((go_at_call 33); (with_reducible refine HS2.out.mono ?_); rintro e w1 ⟨v1, rfl, ho1, hb1⟩; obtain ⟨A1, k1, rfl⟩ := isB_slice ho1.isB))
    go_ret
    exact ⟨rfl, hb1⟩
end Go.Proofs.YtlmnmgokfnnbbaaGreatDoor
end

/- Walks over the reference's parts, ValidRDN, MarshalRDN. -/
section
set_option linter.unusedSimpArgs false
set_option linter.unusedVariables false
namespace Go.Proofs.YtlmnmgokfnnbbaaGreatDoor
open Go.RowKit Go.Cr
theorem ulAts : Tryz.prog.underlying 29 = some (.slice 58) := by kernel_rfl
def RetQs (ps : List (List UInt8)) (w : World) (e : Ending) (w' : World) : Prop := ∃ A k, e = .returned (.slice A ps.length k) ∧ OwP w' w.heap.size 33 (.slice A ps.length k) ps ∧ Below w.heap.size w w'
def QsRel (ps : List (List UInt8)) (w : World) (out ix : Value) (wr : World) : Prop := ∃ i : Nat, ix = .int .i64 (i : Int) ∧ i ≤ ps.length ∧ OwP wr w.heap.size 33 out (ps.take i) ∧ Below w.heap.size w wr
set_option maxRecDepth 100000 in
set_option maxHeartbeats 8000000 in
theorem rPartsR (v : Value) (r : Rdn) (ps : List (List UInt8)) (w : World) (hv : IsQs w v r) (hz : ∀ a ∈ r, a.1.size ≤ 100000 ∧ a.2.length ≤ 100000) (hL : r.length ≤ 100000) (ho : optL marX r = some ps) : Calls Tryz.prog 58 #[v] w (RetQs ps w) := by
  have hlen := hv.len (P := Tryz.prog) ulAts
  have hmx := hv.maxl
  have HV := Lib.hid hv
  have HZ := Lib.hid hz
  have hpl := optL_len ho
  have HPL := Lib.hid hpl
  have HO := Lib.hid (fun i h1 h2 => optL_at ho i h1 h2)
  obtain ⟨A, c, rfl⟩ := isQs_slice hv
  clear hv hz ho
  go_enter Tryz.func58, Tryz.ntmps58
  go_wp2_with fail
  go_loopw [3, 4] (fun out ix wr => QsRel ps w out ix wr) (fun _ ix _ => r.length + 1 - (intOf ix).toNat)
  case atStart => exact ⟨0, rfl, Nat.zero_le _, OwP.nil_ _ _ _, Below.refl _ _⟩
  case round =>
    obtain ⟨i, rfl, hi, how, hbel⟩ := hrel
    have HOW := Lib.hid how
    have HBR := Lib.hid hbel
    have hszr := hbel.size
    by_cases hlt : i < r.length
    · have hltI : (i : Int) < r.length := by omega
      have hip : i < ps.length := by omega
      obtain ⟨b, o, A2, k2, hi2, hl2, hc2, hd2, hIB⟩ := HV.out.at_ (P := Tryz.prog) ulAts szAtt .i64 i hlt
      have g0 := (hbel.cell (p := ⟨b, o, none⟩) hl2).trans hc2
      have g1 := (hbel.cell (p := ⟨b, o + 1, none⟩) hl2).trans hd2
      have hzz := HZ.out _ (List.getElem_mem hlt)
      have hcall := rAttMarshal r[i].1 _ r[i].2 wr (hIB.below hbel) hzz.1 hzz.2
      have hmx2 : marA r[i].1.data.toList r[i].2 = some ps[i] := HO.out i hlt hip
      rw [hmx2] at hcall
      have HTK := Lib.hid (show ps.take (i + 1) = ps.take i ++ [ps[i]] by rw [List.take_succ_eq_append_getElem hip])
      have hll : (ps.take i).length ≤ 100000 := by rw [List.length_take]; omega
      have HLL := Lib.hid hll
      have HCALL := Lib.hid (hcall.mono fun e w' h => h.yes)
      unfold RetOidY at HCALL
      clear how hbel hcall hll hc2 hd2 hIB hzz hmx2 HO
      generalize ps[i] = pl at *
      generalize ps.take i = LL at *
      generalize r[i] = a at *
      obtain ⟨s0, l0⟩ := a
      simp only at g0 g1 HCALL
      go_wp2_with (first | ((go_at_call 95); (with_reducible refine HCALL.out.mono ?_); rintro e wd ⟨vd, rfl, hod, hbwd⟩; obtain ⟨Ad, kd, rfl⟩ := isB_slice hod.isB; have HPD := Lib.hid (part_newD hod HOW.out hszr); have HAD := Lib.hid (HOW.out.below hbwd); have HWD := Lib.hid (HBR.out.trans (hbwd.mono hszr)); clear hod hbwd) | (at_builtin; refine wpList_appP _ rfl _ _ 74 rfl w.heap.size 33 ulBs infoBsD _ LL rfl (HAD.out.alloc _) _ (.slice Ad pl.length kd) pl rfl isR_oneD (HPD.out.alloc _) ?n2 ?b2 ?_))
      case n2 => have := HLL.out; omega
      case b2 => have := HWD.out.size; simp; omega
      intro v6 w6 ho6 hb6 _
      have HO6 := Lib.hid ho6
      have HB6 := Lib.hid ((HWD.out.alloc HWD.out.size (.cells #[.slice Ad pl.length kd] 33)).trans hb6)
      clear ho6 hb6
      go_wp2
      go_roundw
      case rel => exact ⟨i + 1, by go_num, by omega, by rw [HTK.out]; exact HO6.out, HB6.out⟩
      case measure => simp [intOf]; omega
    · have hie : i = ps.length := by omega
      have how := HOW.out
      rw [hie, List.take_length] at how
      have HNB := Lib.hid how
      have hge : (r.length : Int) ≤ i := by omega
      obtain ⟨Ao, ko, hoe⟩ := how.slice
      subst hoe
      clear how hlt hi hie hbel
      go_wp2_with fail
      go_ret
      exact ⟨_, _, rfl, HNB.out, HBR.out⟩
def VrRel (M : Nat) (w : World) (ix : Value) (wr : World) : Prop := ∃ i : Nat, ix = .int .i64 (i : Int) ∧ i ≤ M ∧ Below w.heap.size w wr
set_option maxRecDepth 100000 in
set_option maxHeartbeats 8000000 in
theorem rValidRDN (v : Value) (r : Rdn) (w : World) (hv : IsQs w v r) (hz : SzR r) : Calls Tryz.prog 31 #[v] w (RetB (.bool (marR r).isSome) w) := by
  have hlen := hv.len (P := Tryz.prog) ulRdn
  have hmx := hv.maxl
  have HV := Lib.hid hv
  have HZ := Lib.hid hz.2.1
  have hrl := hz.1
  obtain ⟨A, c, rfl⟩ := isQs_slice hv
  cases ho : optL marX r with
  | none =>
    obtain ⟨m, h1, ⟨_, h2⟩, ps, h3, h4⟩ := optL_first ho
    have hm : marR r = none := by unfold marR; rw [ho]
    rw [hm]
    have HS : Hid (∀ j, j < m → ∀ a, r[j]? = some a → (marA a.1.data.toList a.2).isSome = true) := fun j hj a ha => by
      have hjl : j < r.length := by omega
      have := h4 j (by omega) hjl
      rw [List.getElem?_eq_getElem hjl] at ha
      injection ha with ha
      unfold marX at this
      rw [← ha, this]
      rfl
    have HN := Lib.hid h2
    clear hv hz ho h2 h4 h3 hm
    go_enter Tryz.func31, Tryz.ntmps31
    go_wp2_with fail
    go_loopw [3] (fun ix wr => VrRel m w ix wr) (fun ix _ => r.length + 1 - (intOf ix).toNat)
    case atStart => exact ⟨0, rfl, Nat.zero_le _, Below.refl _ _⟩
    case round =>
      obtain ⟨i, rfl, hi, hbel⟩ := hrel
      have HBR := Lib.hid hbel
      have hlt : i < r.length := by omega
      have hltI : (i : Int) < r.length := by omega
      obtain ⟨b, o, A2, k2, hi2, hl2, hc2, hd2, hIB⟩ := HV.out.at_ (P := Tryz.prog) ulRdn szAtt .i64 i hlt
      have g0 := (hbel.cell (p := ⟨b, o, none⟩) hl2).trans hc2
      have g1 := (hbel.cell (p := ⟨b, o + 1, none⟩) hl2).trans hd2
      have hzz := HZ.out _ (List.getElem_mem hlt)
      have HCALL := Lib.hid (rAttValid r[i].1 _ r[i].2 wr (hIB.below hbel) (by omega) (by omega))
      by_cases him : i < m
      · have hs : (marA r[i].1.data.toList r[i].2).isSome = true := HS.out i him _ (List.getElem?_eq_getElem hlt)
        rw [hs] at HCALL
        clear hbel hc2 hd2 hIB hzz hs
        generalize r[i] = a at *
        obtain ⟨s0, l0⟩ := a
        simp only at g0 g1 HCALL
        go_wp2_with (((go_at_call 59); (with_reducible refine HCALL.out.mono ?_); rintro e wd ⟨rfl, hbwd⟩; have HWD := Lib.hid (HBR.out.trans (hbwd.mono HBR.out.size)); clear hbwd))
        go_roundw
        case rel => exact ⟨i + 1, by go_num, by omega, HWD.out⟩
        case measure => simp [intOf]; omega
      · obtain rfl : i = m := by omega
        have hs : (marA r[i].1.data.toList r[i].2).isSome = false := by have := HN.out; unfold marX at this; rw [this]; rfl
        rw [hs] at HCALL
        clear hbel hc2 hd2 hIB hzz hs HN
        generalize r[i] = a at *
        obtain ⟨s0, l0⟩ := a
        simp only at g0 g1 HCALL
        go_wp2_with (((go_at_call 59); (with_reducible refine HCALL.out.mono ?_); rintro e wd ⟨rfl, hbwd⟩; have HWD := Lib.hid (HBR.out.trans (hbwd.mono HBR.out.size)); clear hbwd))
        go_ret
        exact ⟨rfl, HWD.out⟩
  | some ps =>
    have HP : Hid (∀ W, IsQs W (.slice A r.length c) r → Calls Tryz.prog 58 #[.slice A r.length c] W (RetQs ps W)) := fun W h => rPartsR _ r ps W h hz.2.1 (by omega) ho
    unfold RetQs at HP
    have HS : Hid (∀ j, j < r.length → ∀ a, r[j]? = some a → (marA a.1.data.toList a.2).isSome = true) := fun j hj a ha => by
      have := optL_at ho j hj (by rw [optL_len ho]; exact hj)
      rw [List.getElem?_eq_getElem hj] at ha
      injection ha with ha
      unfold marX at this
      rw [← ha, this]
      rfl
    have HORD := Lib.hid (fun u W (h : IsBs W u ps) => rOrdered u ps W h)
    have hm : (marR r).isSome = (decide (0 < r.length) && ascB ps) := by
      unfold marR
      rw [ho]
      simp only
      by_cases h0 : 0 < r.length
      · cases ha : ascB ps with
        | true => rw [if_pos ⟨by omega, rfl⟩]; simp [h0]
        | false => rw [if_neg (by simp)]; simp
      · rw [if_neg (fun h => h.1 (by omega))]; simp [h0]
    rw [hm]
    clear hv hz ho hm
    generalize ascB ps = B at *
    obtain ⟨D, hD⟩ : ∃ D, decide (0 < r.length) = D := ⟨_, rfl⟩
    rw [hD]
    have HD := Lib.hid hD
    clear hD
    go_enter Tryz.func31, Tryz.ntmps31
    go_wp2_with fail
    go_loopw [3] (fun ix wr => VrRel r.length w ix wr) (fun ix _ => r.length + 1 - (intOf ix).toNat)
    case atStart => exact ⟨0, rfl, Nat.zero_le _, Below.refl _ _⟩
    case round =>
      obtain ⟨i, rfl, hi, hbel⟩ := hrel
      have HBR := Lib.hid hbel
      by_cases hlt : i < r.length
      · have hltI : (i : Int) < r.length := by omega
        obtain ⟨b, o, A2, k2, hi2, hl2, hc2, hd2, hIB⟩ := HV.out.at_ (P := Tryz.prog) ulRdn szAtt .i64 i hlt
        have g0 := (hbel.cell (p := ⟨b, o, none⟩) hl2).trans hc2
        have g1 := (hbel.cell (p := ⟨b, o + 1, none⟩) hl2).trans hd2
        have hzz := HZ.out _ (List.getElem_mem hlt)
        have HCALL := Lib.hid (rAttValid r[i].1 _ r[i].2 wr (hIB.below hbel) (by omega) (by omega))
        have hs : (marA r[i].1.data.toList r[i].2).isSome = true := HS.out i hlt _ (List.getElem?_eq_getElem hlt)
        rw [hs] at HCALL
        clear hbel hc2 hd2 hIB hzz hs
        generalize r[i] = a at *
        obtain ⟨s0, l0⟩ := a
        simp only at g0 g1 HCALL
        go_wp2_with (((go_at_call 59); (with_reducible refine HCALL.out.mono ?_); rintro e wd ⟨rfl, hbwd⟩; have HWD := Lib.hid (HBR.out.trans (hbwd.mono HBR.out.size)); clear hbwd))
        go_roundw
        case rel => exact ⟨i + 1, by go_num, by omega, HWD.out⟩
        case measure => simp [intOf]; omega
      · have hge : (r.length : Int) ≤ i := by omega
        have HVR := Lib.hid (HV.out.below hbel)
        by_cases h0 : 0 < r.length
        · have h0I : (0 : Int) < r.length := by omega
          have hd := HD.out
          rw [decide_eq_true h0] at hd
          subst hd
          clear hlt hi hbel h0
          go_wp2_with (first | ((go_at_call 58); (with_reducible refine (HP.out _ HVR.out).mono ?_); rintro e wd ⟨Ad, kd, rfl, hod, hbwd⟩; have HWD := Lib.hid (HBR.out.trans (hbwd.mono HBR.out.size)); have HOD := Lib.hid hod.isBs; clear hbwd hod) | ((go_at_call 60); (with_reducible refine (HORD.out _ _ HOD.out).mono ?_); rintro e we ⟨rfl, hbwe⟩; have HWE := Lib.hid (HWD.out.trans (hbwe.mono HWD.out.size)); clear hbwe))
          go_ret
          exact ⟨rfl, HWE.out⟩
        · have h0I : (r.length : Int) ≤ 0 := by omega
          have hd := HD.out
          rw [decide_eq_false h0] at hd
          subst hd
          clear hlt hi hbel h0
          go_wp2_with fail
          go_ret
          exact ⟨rfl, HBR.out⟩
end Go.Proofs.YtlmnmgokfnnbbaaGreatDoor
end

/- Walks over the reference's Valid and Marshal of names. -/
section
set_option linter.unusedSimpArgs false
set_option linter.unusedVariables false
namespace Go.Proofs.YtlmnmgokfnnbbaaGreatDoor
open Go.RowKit Go.Cr
set_option maxRecDepth 100000 in
set_option maxHeartbeats 8000000 in
theorem rValidNm (v : Value) (x : Nam) (w : World) (hv : IsNm w v x) (hz : SzNm x) : Calls Tryz.prog 20 #[v] w (RetB (.bool (marNm x).isSome) w) := by
  have hlen := hv.len (P := Tryz.prog) ulNam
  have hmx := hv.maxl
  have HV := Lib.hid hv
  have HZ := Lib.hid hz.2.1
  have hrl := hz.1
  obtain ⟨A, c, rfl⟩ := isNm_slice hv
  cases ho : optL marR x with
  | none =>
    obtain ⟨m, h1, ⟨_, h2⟩, ps, h3, h4⟩ := optL_first ho
    have hm : marNm x = none := by unfold marNm; rw [ho]
    rw [hm]
    have HS : Hid (∀ j, j < m → ∀ a, x[j]? = some a → (marR a).isSome = true) := fun j hj a ha => by
      have hjl : j < x.length := by omega
      have := h4 j (by omega) hjl
      rw [List.getElem?_eq_getElem hjl] at ha
      injection ha with ha
      rw [← ha, this]
      rfl
    have HN := Lib.hid h2
    clear hv hz ho h2 h4 h3 hm
    go_enter Tryz.func20, Tryz.ntmps20
    go_wp2_with fail
    go_loopw [3] (fun ix wr => VrRel m w ix wr) (fun ix _ => x.length + 1 - (intOf ix).toNat)
    case atStart => exact ⟨0, rfl, Nat.zero_le _, Below.refl _ _⟩
    case round =>
      obtain ⟨i, rfl, hi, hbel⟩ := hrel
      have HBR := Lib.hid hbel
      have hlt : i < x.length := by omega
      have hltI : (i : Int) < x.length := by omega
      obtain ⟨b, o, A2, k2, hi2, hl2, hc2, hIR⟩ := HV.out.at_ (P := Tryz.prog) ulNam szRdn .i64 i hlt
      have g0 := (hbel.cell (p := ⟨b, o, none⟩) hl2).trans hc2
      have HCALL := Lib.hid (rValidRDN _ x[i] wr (hIR.below hbel) (HZ.out _ (List.getElem_mem hlt)))
      by_cases him : i < m
      · have hs : (marR x[i]).isSome = true := HS.out i him _ (List.getElem?_eq_getElem hlt)
        rw [hs] at HCALL
        clear hbel hc2 hIR hs
        generalize x[i] = a at *
        go_wp2_with (((go_at_call 31); (with_reducible refine HCALL.out.mono ?_); rintro e wd ⟨rfl, hbwd⟩; have HWD := Lib.hid (HBR.out.trans (hbwd.mono HBR.out.size)); clear hbwd))
        go_roundw
        case rel => exact ⟨i + 1, by go_num, by omega, HWD.out⟩
        case measure => simp [intOf]; omega
      · obtain rfl : i = m := by omega
        have hs : (marR x[i]).isSome = false := by rw [HN.out]; rfl
        rw [hs] at HCALL
        clear hbel hc2 hIR hs HN
        generalize x[i] = a at *
        go_wp2_with (((go_at_call 31); (with_reducible refine HCALL.out.mono ?_); rintro e wd ⟨rfl, hbwd⟩; have HWD := Lib.hid (HBR.out.trans (hbwd.mono HBR.out.size)); clear hbwd))
        go_ret
        exact ⟨rfl, HWD.out⟩
  | some ps =>
    have HS : Hid (∀ j, j < x.length → ∀ a, x[j]? = some a → (marR a).isSome = true) := fun j hj a ha => by
      have := optL_at ho j hj (by rw [optL_len ho]; exact hj)
      rw [List.getElem?_eq_getElem hj] at ha
      injection ha with ha
      rw [← ha, this]
      rfl
    have hm : marNm x = some (conB 16 ps) := by unfold marNm; rw [ho]
    rw [hm]
    clear hv hz ho hm
    go_enter Tryz.func20, Tryz.ntmps20
    go_wp2_with fail
    go_loopw [3] (fun ix wr => VrRel x.length w ix wr) (fun ix _ => x.length + 1 - (intOf ix).toNat)
    case atStart => exact ⟨0, rfl, Nat.zero_le _, Below.refl _ _⟩
    case round =>
      obtain ⟨i, rfl, hi, hbel⟩ := hrel
      have HBR := Lib.hid hbel
      by_cases hlt : i < x.length
      · have hltI : (i : Int) < x.length := by omega
        obtain ⟨b, o, A2, k2, hi2, hl2, hc2, hIR⟩ := HV.out.at_ (P := Tryz.prog) ulNam szRdn .i64 i hlt
        have g0 := (hbel.cell (p := ⟨b, o, none⟩) hl2).trans hc2
        have HCALL := Lib.hid (rValidRDN _ x[i] wr (hIR.below hbel) (HZ.out _ (List.getElem_mem hlt)))
        have hs : (marR x[i]).isSome = true := HS.out i hlt _ (List.getElem?_eq_getElem hlt)
        rw [hs] at HCALL
        clear hbel hc2 hIR hs
        generalize x[i] = a at *
        go_wp2_with (((go_at_call 31); (with_reducible refine HCALL.out.mono ?_); rintro e wd ⟨rfl, hbwd⟩; have HWD := Lib.hid (HBR.out.trans (hbwd.mono HBR.out.size)); clear hbwd))
        go_roundw
        case rel => exact ⟨i + 1, by go_num, by omega, HWD.out⟩
        case measure => simp [intOf]; omega
      · have hge : (x.length : Int) ≤ i := by omega
        clear hlt hi hbel
        go_wp2_with fail
        go_ret
        exact ⟨rfl, HBR.out⟩
end Go.Proofs.YtlmnmgokfnnbbaaGreatDoor
end

/- Walk over dn.ParseRDN. -/
section
set_option linter.unusedSimpArgs false
set_option linter.unusedVariables false
namespace Go.Cr
open Go.RowKit
end Go.Cr
namespace Go.Proofs.YtlmnmgokfnnbbaaGreatDoor
open Go.RowKit Go.Cr
def RetPR (r : Option Rdn) (L : Nat) (w : World) (e : Ending) (w' : World) : Prop := Below w.heap.size w w' ∧ match r with
  | none => ∃ ec eo : Int, 0 < ec ∧ 0 ≤ eo ∧ eo ≤ L ∧ e = .returned (.tuple #[.slice none 0 0, errV (ec, eo)])
  | some r => ∃ A k, e = .returned (.tuple #[.slice A r.length k, errV (0, 0)]) ∧ OwL repA (fun _ => True) w' w.heap.size 58 (.slice A r.length k) r
end Go.Proofs.YtlmnmgokfnnbbaaGreatDoor
end

/- Walk over dn.Parse. -/
section
set_option linter.unusedSimpArgs false
set_option linter.unusedVariables false
namespace Go.Proofs.YtlmnmgokfnnbbaaGreatDoor
open Go.RowKit Go.Cr
def RetPNm (r : Option Nam) (L : Nat) (w : World) (e : Ending) (w' : World) : Prop := Below w.heap.size w w' ∧ match r with
  | none => ∃ ec eo : Int, 0 < ec ∧ 0 ≤ eo ∧ eo ≤ L ∧ e = .returned (.tuple #[.slice none 0 0, errV (ec, eo)])
  | some r => ∃ A k, e = .returned (.tuple #[.slice A r.length k, errV (0, 0)]) ∧ OwL (repL repA) (fun _ => True) w' w.heap.size 30 (.slice A r.length k) r
end Go.Proofs.YtlmnmgokfnnbbaaGreatDoor
end

/- Nodes as values: what the reference's readers do with a node, or with none. -/
section
set_option linter.unusedSimpArgs false
set_option linter.unusedVariables false
namespace Go.Proofs.YtlmnmgokfnnbbaaGreatDoor
open Go.RowKit Go.Cr
theorem nextH_nil : ∃ e, nextH [] = .error e := ⟨_, rfl⟩
theorem kidsT_nil (d : Nat) : kidsT d [] = [] := by obtain ⟨e, h⟩ := nextH_nil; unfold kidsT; rw [h]
theorem kidC_nil : kidC [] = [] := by obtain ⟨e, h⟩ := nextH_nil; unfold kidC; rw [h]
def NdV (d : Nat) (w : World) (nv : Value) (l : List UInt8) : Prop := ∃ (c1 c2 : Int) (c3 : Bool) (a4 a5 : Option Addr) (n4 k4 n5 k5 : Nat), nv = .agg #[.int .i64 c1, .int .i64 c2, .bool c3, .slice a4 n4 k4, .slice a5 n5 k5] ∧
  ((∃ S, IsNode S d w [.int .i64 c1, .int .i64 c2, .bool c3, .slice a4 n4 k4, .slice a5 n5 k5] l) ∨ (l = [] ∧ nv = .agg #[.int .i64 0, .int .i64 0, .bool false, .slice none 0 0, .slice none 0 0]))
theorem NdV.below {d : Nat} {w w' : World} {nv : Value} {l : List UInt8} (h : NdV d w nv l) (hb : Below w.heap.size w w') : NdV d w' nv l := by
  obtain ⟨c1, c2, c3, a4, a5, n4, k4, n5, k5, e, h⟩ := h
  refine ⟨c1, c2, c3, a4, a5, n4, k4, n5, k5, e, ?_⟩
  rcases h with ⟨S, h⟩ | h
  · exact .inl ⟨S, h.below hb⟩
  · exact .inr h
theorem NdV.zero (d : Nat) (w : World) : NdV d w (.agg #[.int .i64 0, .int .i64 0, .bool false, .slice none 0 0, .slice none 0 0]) [] := ⟨0, 0, false, none, none, 0, 0, 0, 0, rfl, .inr ⟨rfl, rfl⟩⟩
theorem NdV.of {S : Nat → Prop} {d : Nat} {w : World} {c1 c2 : Int} {c3 : Bool} {a4 a5 : Option Addr} {n4 k4 n5 k5 : Nat} {l : List UInt8} (h : IsNode S d w [.int .i64 c1, .int .i64 c2, .bool c3, .slice a4 n4 k4, .slice a5 n5 k5] l) : NdV d w (.agg #[.int .i64 c1, .int .i64 c2, .bool c3, .slice a4 n4 k4, .slice a5 n5 k5]) l :=
  ⟨_, _, _, _, _, _, _, _, _, rfl, .inl ⟨S, h⟩⟩
theorem NdV.open_ {d : Nat} {w : World} {nv : Value} {l : List UInt8} (h : NdV (d + 1) w nv l) :
    ∃ (c1 c2 : Int) (c3 : Bool) (a4 a5 : Option Addr) (n4 k4 n5 k5 : Nat) (S : Nat → Prop) (xs : List Value), nv = .agg #[.int .i64 c1, .int .i64 c2, .bool c3, .slice a4 n4 k4, .slice a5 n5 k5] ∧ IsB w (.slice a4 n4 k4) (kidC l) ∧ n5 = (kidsT d l).length ∧ IsR w (.slice a5 n5 k5) 5 n5 xs ∧
      (∀ j (hj : j < (kidsT d l).length), IsNode S d w ((xs.drop (j * 5)).take 5) (kidsT d l)[j]) ∧ (kidsT d l).flatten.length ≤ l.length := by
  obtain ⟨c1, c2, c3, a4, a5, n4, k4, n5, k5, e, h⟩ := h
  rcases h with ⟨S, h⟩ | ⟨hl, e2⟩
  · obtain ⟨x1, x2, x3, v4, v5, xs, he, h1, h2, h3, h4⟩ := isNode_open h
    injection he with e1 he; injection he with e2 he; injection he with e3 he; injection he with e4 he; injection he with e5 he
    subst e4 e5
    have hn : n5 = (kidsT d l).length := by
      obtain ⟨A, c, hv, _⟩ := h2
      injection hv
    subst hn
    exact ⟨c1, c2, c3, a4, a5, n4, k4, _, k5, S, xs, e, h1, rfl, h2, h3, h4⟩
  · subst hl
    rw [e] at e2
    injection e2 with e2
    injection e2 with e2
    injection e2 with e10 e2; injection e2 with e11 e2; injection e2 with e12 e2; injection e2 with e13 e2; injection e2 with e14 e2
    injection e13 with e15 e16 e17
    injection e14 with e18 e19 e20
    subst e15 e16 e17 e18 e19 e20
    refine ⟨c1, c2, c3, none, none, 0, 0, 0, 0, fun _ => True, [], e, by rw [kidC_nil]; exact isB_nil0 w, by rw [kidsT_nil]; rfl, ⟨none, 0, rfl, Nat.le_refl _, by decide, rfl, fun h => absurd h (by omega)⟩, ?_, by rw [kidsT_nil]; simp⟩
    rw [kidsT_nil]
    exact fun j hj => absurd hj (by simp)
theorem NdV.shape {d : Nat} {w : World} {nv : Value} {l : List UInt8} (h : NdV d w nv l) : ∃ (c1 c2 : Int) (c3 : Bool) (a4 a5 : Option Addr) (n4 k4 n5 k5 : Nat), nv = .agg #[.int .i64 c1, .int .i64 c2, .bool c3, .slice a4 n4 k4, .slice a5 n5 k5] := by
  obtain ⟨c1, c2, c3, a4, a5, n4, k4, n5, k5, e, _⟩ := h
  exact ⟨_, _, _, _, _, _, _, _, _, e⟩

theorem NdV.row {d : Nat} {nv : Value} {l : List UInt8} {w : World} (h : NdV (d + 1) w nv l) :
    ∃ (c1 c2 : Int) (c3 : Bool) (a4 a5 : Option Addr) (n4 k4 k5 : Nat), nv = .agg #[.int .i64 c1, .int .i64 c2, .bool c3, .slice a4 n4 k4, .slice a5 (kidsT d l).length k5] ∧ (∃ xs, IsR w (.slice a5 (kidsT d l).length k5) 5 (kidsT d l).length xs) ∧
      ∀ i (hi : i < (kidsT d l).length), ∃ (b o : Nat) (x1 x2 : Int) (x3 : Bool) (y4 y5 : Option Addr) (m4 z4 m5 z5 : Nat), (∀ W : World, (Instr.indexAt 83 (.slice a5 (kidsT d l).length k5) (.int .i64 (i : Int))).run Tryz.prog W = .ok (.pointer (some ⟨b, o, none⟩)) W) ∧ b < w.heap.size ∧
        w.cell? ⟨b, o, none⟩ = some (.int .i64 x1) ∧ w.cell? ⟨b, o + 1, none⟩ = some (.int .i64 x2) ∧ w.cell? ⟨b, o + 2, none⟩ = some (.bool x3) ∧ w.cell? ⟨b, o + 3, none⟩ = some (.slice y4 m4 z4) ∧ w.cell? ⟨b, o + 4, none⟩ = some (.slice y5 m5 z5) ∧
        NdV d w (.agg #[.int .i64 x1, .int .i64 x2, .bool x3, .slice y4 m4 z4, .slice y5 m5 z5]) (kidsT d l)[i] := by
  obtain ⟨c1, c2, c3, a4, a5, n4, k4, n5, k5, S, xs, rfl, h4, rfl, h5, hk, _⟩ := h.open_
  refine ⟨c1, c2, c3, a4, a5, n4, k4, k5, rfl, ⟨xs, h5⟩, fun i hi => ?_⟩
  obtain ⟨b, o, hia, hbl, hcx⟩ := h5.at_ (P := Tryz.prog) ulNodes szNode .i64 (i := (i : Int)) (by omega) (by omega)
  rw [Int.toNat_natCast] at hcx
  have hnd := hk i hi
  obtain ⟨x1, x2, x3, y4, y5, m4, z4, m5, z5, hx⟩ := hnd.shape
  rw [hx] at hnd
  have p0 := hcx 0 _ (take5_at hx 0 (by omega))
  have p1 := hcx 1 _ (take5_at hx 1 (by omega))
  have p2 := hcx 2 _ (take5_at hx 2 (by omega))
  have p3 := hcx 3 _ (take5_at hx 3 (by omega))
  have p4 := hcx 4 _ (take5_at hx 4 (by omega))
  rw [Nat.add_zero] at p0
  exact ⟨b, o, x1, x2, x3, y4, y5, m4, z4, m5, z5, hia, hbl, p0, p1, p2, p3, p4, NdV.of hnd⟩
end Go.Proofs.YtlmnmgokfnnbbaaGreatDoor
end

/- Walks over the reference's ParseRDN and Parse; how great what is read can be. -/
section
set_option linter.unusedSimpArgs false
set_option linter.unusedVariables false
namespace Go.Proofs.YtlmnmgokfnnbbaaGreatDoor
open Go.RowKit Go.Cr
theorem encO_leD (c n : Int) (k : Bool) (l : List UInt8) : (encO c k n l).length ≤ l.length + 10 := by
  rw [encO_len]
  have := (lenOct_len l.length).2
  omega
theorem marX_le {a : At} {y : List UInt8} (h : marX a = some y) : ∃ c, oidE a.1.data.toList = some c ∧ y.length ≤ c.length + a.2.length + 20 := by
  obtain ⟨c, hc, _, hb⟩ := marA_some h
  refine ⟨c, hc, ?_⟩
  have h1 := encO_leD 0 16 true (encO 0 false 6 c ++ a.2)
  have h2 := encO_leD 0 6 false c
  rw [List.length_append] at h1
  rw [hb]
  omega
def RetDr (r : Option Rdn) (w : World) (e : Ending) (w' : World) : Prop := Below w.heap.size w w' ∧ match r with
  | none => e = .returned (.tuple #[.slice none 0 0, .bool false])
  | some r => ∃ A k, e = .returned (.tuple #[.slice A r.length k, .bool true]) ∧ IsQs w' (.slice A r.length k) r
def RetDn (r : Option Nam) (w : World) (e : Ending) (w' : World) : Prop := Below w.heap.size w w' ∧ match r with
  | none => e = .returned (.tuple #[.slice none 0 0, .bool false])
  | some r => ∃ A k, e = .returned (.tuple #[.slice A r.length k, .bool true]) ∧ IsNm w' (.slice A r.length k) r
end Go.Proofs.YtlmnmgokfnnbbaaGreatDoor
end
