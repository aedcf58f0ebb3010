/- The parts RefY, RefZ of one proof, one behind the other. -/
import Derived.Test.YtlmnmgokfnnbbaaGreatDoorM32
import Derived.Test.YtlmnmgokfnnbbaaGreatDoorM28
import Derived.Test.YtlmnmgokfnnbbaaGreatDoorM11

/- Walks over the reference's character strings (cretularef11): FromString, ReadString, String, Filled, Directory. -/
section
set_option linter.unusedSimpArgs false
set_option linter.unusedVariables false
namespace Go.Proofs.YtlmnmgokfnnbbaaGreatDoor
open Go.RowKit Go.Cr
/-! ### The plain law -/
def numK (p : List UInt8) : Int := match nextH p with
  | .error _ => 0
  | .ok h => h.num
def rdS (b : List UInt8) : Int × List UInt8 := if treeOK 60 b then (numK b, kidC b) else (0, [])
def optS (p : Int × List UInt8) : Option (Int × List UInt8) := (decT p.1 p.2).map fun s => (p.1, s)
def elS : Option (Int × List UInt8) → Option (List UInt8)
  | none => none
  | some (k, s) => strE k s
def rstr (b : List UInt8) : Option (Int × List UInt8) := if elS (optS (rdS b)) = some b then optS (rdS b) else none
theorem numK_enc (c n : Int) (l : List UInt8) (h : 0 ≤ c) (h1 : c ≤ 3) (h2 : 0 ≤ n) (h3 : n < 31) (hl : l.length ≤ 2147483647) : numK (encO c false n l) = n := by
  have e1 := nextH_enc c n false l [] h h1 h2 h3 hl
  rw [List.append_nil] at e1
  unfold numK
  rw [e1]
theorem rstr_eq {b : List UInt8} (hl : b.length ≤ 1000000) : rstr b = strD b := by
  by_cases hA : ∃ x, oneE b = .ok x ∧ x.cls = 0 ∧ x.con = false
  · obtain ⟨x, hx, hc0, hcf⟩ := hA
    have hcan := oneE_canon hx
    rw [hc0, hcf] at hcan
    obtain ⟨he, _, _, _, _, h5, h6⟩ := hcan
    have hsd : strD b = (decT x.num (seg b x.body x.stop)).map (fun s => (x.num, s)) := by
      unfold strD
      rw [hx]
      simp only
      rw [if_pos ⟨hc0, hcf⟩]
    rw [hsd]
    generalize hcc : seg b x.body x.stop = c at *
    generalize x.num = n at *
    have hcl := encO_len 0 n false c
    rw [he] at hcl
    have ht : treeOK 60 b := by rw [← he]; exact treeOK_prim 0 n c (by decide) (by decide) h5 h6 (by omega)
    have hrd : rdS b = (n, c) := by
      unfold rdS
      rw [if_pos ht, ← he, numK_enc 0 n c (by decide) (by decide) h5 h6 (by omega), kidC_enc 0 n c (by decide) (by decide) h5 h6 (by omega)]
    unfold rstr
    rw [hrd]
    unfold optS
    simp only
    cases hd : decT n c with
    | none => rfl
    | some s =>
      have he2 := decT_iff.1 hd
      have : elS (some (n, s)) = some b := by
        unfold elS strE
        simp only [he2, Option.map_some, he]
      simp only [Option.map_some]
      rw [if_pos this]
  · have hsd : strD b = none := by
      unfold strD
      cases hx : oneE b with
      | error e => rfl
      | ok x =>
        simp only
        rw [if_neg (fun h => hA ⟨x, hx, h.1, h.2⟩)]
    rw [hsd]
    unfold rstr
    split
    · rename_i he
      exfalso
      cases ho : optS (rdS b) with
      | none => rw [ho] at he; cases he
      | some p =>
        obtain ⟨k, s⟩ := p
        rw [ho] at he
        unfold elS strE at he
        simp only at he
        cases hc : encT k s with
        | none => rw [hc] at he; cases he
        | some c =>
          rw [hc] at he
          simp only [Option.map_some, Option.some.injEq] at he
          have hr := widthK_range (validT_iff.1 (encT_valid hc)).1
          have hcl := encO_len 0 k false c
          rw [he] at hcl
          have h1 := oneE_enc 0 k false c (by decide) (by decide) (by omega) (by omega) (by omega)
          rw [he] at h1
          exact hA ⟨_, h1, rfl, rfl⟩
    · rfl

/-! ### The walks -/
set_option maxRecDepth 100000 in
set_option maxHeartbeats 4000000 in
theorem rFromS (k : Int) (s : ByteArray) (w : World) (hs : s.size ≤ 100000) : Calls Tryz.prog 115 #[.agg #[.int .i64 k, .string s]] w (RetEu (strE k s.data.toList) w) := by
  have HE := fun W => rEncode7 k s W hs
  unfold strE
  cases he : encT k s.data.toList with
  | none =>
    have HE' : Hid (∀ W, Calls Tryz.prog 151 #[.agg #[.int .i64 k, .string s]] W (RetB (.tuple #[.slice none 0 0, .int .i64 8]) W)) := fun W => by have := HE W; rw [he] at this; exact this
    clear HE hs he
    go_enter Tryz.func115, Tryz.ntmps115
    go_wp2_with (((go_at_call 151); (with_reducible refine (HE'.out _).mono ?_); rintro e w1 ⟨rfl, hbw1⟩))
    go_ret2
    exact ⟨none, 0, 0, 8, rfl, by ((repeat' (first | (with_reducible exact Below.refl _ _) | (with_reducible assumption) | (with_reducible refine Below.setCell ?_ ?_ _) | (with_reducible refine Below.alloc ?_ ?_ _) | (with_reducible refine Below.drew ?_) | (with_reducible refine below_drewN ?_ _) | (with_reducible refine Below.step (by with_reducible assumption) ?_ ?_))) <;> (first | omega | (simp; done) | (simp; omega))), .inl ⟨rfl, rfl⟩⟩
  | some c =>
    have HE' : Hid (∀ W, Calls Tryz.prog 151 #[.agg #[.int .i64 k, .string s]] W (RetEeY c W)) := fun W => by have := HE W; rw [he] at this; exact this
    have hr := widthK_range (validT_iff.1 (encT_valid he)).1
    have hcl := encT_len he
    have hsl : s.data.toList.length = s.size := rfl
    have hidb : idB 0 false k = UInt8.ofNat k.toNat := by unfold idB; congr 1; simp
    have hbk : bi (UInt8.ofNat k.toNat) = k := by rw [bi_ofNat]; omega
    have HP : Hid (∀ W u, IsB W u c → Calls Tryz.prog 94 #[.int .u8 k, u] W (RetO 5 (encO 0 false k c) W)) := fun W u h => by
      have := rPut (UInt8.ofNat k.toNat) u c W h (by omega)
      rw [hbk] at this
      unfold encO
      rw [hidb]
      exact this
    have hk0 : 12 ≤ k := hr.1
    have hk1 : k ≤ 30 := hr.2
    clear HE hs he hr hcl hsl hidb hbk
    go_enter Tryz.func115, Tryz.ntmps115
    go_wp2_with (first | ((go_at_call 151); (with_reducible refine (HE'.out _).mono ?_); rintro e w1 ⟨A1, k1, rfl, hv1, hbw1⟩; have K0 := Blk.call (Blk.new w 97 #[.int .i64 k, .string s]) hbw1; have lK0 := K0.lt; have qK0 := K0.q; have rK0 := K0.fz; have K0' := Lib.hid K0; clear K0; have K0 := K0'.out; clear K0'; have HV1 := Lib.hid hv1; clear hv1) | ((go_at_call 94); (with_reducible refine (HP.out _ _ HV1.out).mono ?_); rintro e w3 ⟨v3, rfl, ho3, hbw3⟩; obtain ⟨A3, k3, rfl⟩ := isB_slice ho3.isB; have HO3 := Lib.hid ho3; clear ho3))
    go_ret2
    have s1 := hbw1.size; have s3 := hbw3.size
    simp at s1 s3
    have b1 : Below w.heap.size w w1 := ((Below.refl _ w).alloc (Nat.le_refl _) _).trans (hbw1.mono (by simp))
    exact ⟨A3, _, k3, 0, rfl, b1.trans (hbw3.mono (by omega)), .inr ⟨_, rfl, rfl, HO3.out.isB⟩⟩

def RetTx (o : Option (Int × List UInt8)) (w : World) (e : Ending) (w' : World) : Prop := ∃ (kk : Int) (ss : ByteArray), e = .returned (.agg #[.int .i64 kk, .string ss]) ∧ .agg #[.int .i64 kk, .string ss] = txV o ∧ Below w.heap.size w w'
set_option maxRecDepth 100000 in
set_option maxHeartbeats 4000000 in
theorem rReadS (c1 c2 : Int) (c3 : Bool) (v4 v5 : Value) (c : List UInt8) (w : World) (h4 : IsB w v4 c) (h5 : v5.oneCell' = true) (hl : c.length ≤ 20000) :
    Calls Tryz.prog 114 #[.agg #[.int .i64 c1, .int .i64 c2, .bool c3, v4, v5]] w (RetTx (optS (c2, c)) w) := by
  obtain ⟨A, k, rfl⟩ := isB_slice h4
  have HV := Lib.hid h4
  have HD : Hid (∀ W, IsB W (.slice A c.length k) c → Calls Tryz.prog 150 #[.int .i64 c2, .slice A c.length k] W (RetDe c2 (decT c2 c) W)) := fun W h => rDecode7 c2 _ c W h hl
  unfold optS
  simp only
  clear h4
  generalize decT c2 c = DO at *
  go_enter Tryz.func114, Tryz.ntmps114
  go_wp2_with (((go_at_call 150); (with_reducible refine (HD.out _ ((HV.out.alloc _).alloc _)).mono ?_); rintro e w1 hre; obtain ⟨kk, ss, ec, rfl, hz, htx, hbw1⟩ := RetDe.uni hre; have HTX := Lib.hid htx; clear hre htx hz; have I0 := Blk.call ((blk_in (w := w.alloc (.cells #[.int .i64 c1, .int .i64 c2, .bool c3, .slice A c.length k, v5] 85)) (g := w.heap.size + 1) (t := 97) (cs := #[.int .i64 0, .string ⟨#[]⟩]) (by simp))) hbw1; have q0 := I0.q; have f0 := I0.fz; have l0 := I0.lt))
  refine bodyPost_ret (v := .agg #[.int .i64 kk, .string ss]) (by simp only [results, Tryz.results114]; go_simp) rfl ?_
  have s1 := hbw1.size
  simp at s1
  have b1 : Below w.heap.size w w1 := (((Below.refl _ w).alloc (Nat.le_refl _) _).alloc (by simp) _).trans (hbw1.mono (by simp; omega))
  exact ⟨kk, ss, rfl, HTX.out, by ((repeat' (first | (with_reducible exact Below.refl _ _) | (with_reducible assumption) | (with_reducible refine Below.setCell ?_ ?_ _) | (with_reducible refine Below.alloc ?_ ?_ _) | (with_reducible refine Below.drew ?_) | (with_reducible refine below_drewN ?_ _) | (with_reducible refine Below.step (by with_reducible assumption) ?_ ?_))) <;> (first | omega | (simp; done) | (simp; omega)))⟩

theorem optS_len {p : Int × List UInt8} {k : Int} {s : List UInt8} (h : optS p = some (k, s)) : s.length ≤ 4 * p.2.length := by
  unfold optS at h
  cases hd : decT p.1 p.2 with
  | none => rw [hd] at h; cases h
  | some t =>
    rw [hd] at h
    simp only [Option.map_some, Option.some.injEq, Prod.mk.injEq] at h
    obtain ⟨_, rfl⟩ := h
    cases hw : widthK p.1 with
    | none => unfold decT at hd; rw [hw] at hd; cases hd
    | some n =>
      have h1 := ((decT_back hw).1 t hd).1
      have h2 := backR_len n p.2 (by have := widthK_small hw; omega)
      rw [h1]
      exact h2
theorem rdS_len (b : List UInt8) : (rdS b).2.length ≤ b.length := by
  unfold rdS
  split
  · exact kidC_len b
  · simp
def RetDS (o : Option (Int × List UInt8)) (w : World) (e : Ending) (w' : World) : Prop := Below w.heap.size w w' ∧ ∃ (c1 c2 : Int) (c3 : Bool) (a4 a5 : Option Addr) (n4 k4 n5 k5 : Nat) (t : Bool),
  e = .returned (.tuple #[.agg #[.int .i64 c1, .int .i64 c2, .bool c3, .slice a4 n4 k4, .slice a5 n5 k5], .bool t]) ∧
    ∀ W, Below w'.heap.size w' W → Calls Tryz.prog 114 #[.agg #[.int .i64 c1, .int .i64 c2, .bool c3, .slice a4 n4 k4, .slice a5 n5 k5]] W (RetTx o W)
theorem rDeepS (v : Value) (b : List UInt8) (w : World) (hv : IsB w v b) (hL : b.length ≤ 4000) : Calls Tryz.prog 61 #[v] w (RetDS (optS (rdS b)) w) := by
  by_cases ht : treeOK 60 b
  · refine (rDeep_yes v b w hv (by omega) ht).mono fun e w' ⟨hb, c1, c2, c3, a4, a5, n4, k4, n5, k5, he, hn⟩ => ⟨hb, c1, c2, c3, a4, a5, n4, k4, n5, k5, true, he, fun W hW => ?_⟩
    have hrd : rdS b = (numK b, kidC b) := by unfold rdS; rw [if_pos ht]
    obtain ⟨hd, v4, v5, ks, xs, h1, h2, h3, h4, h5, h6, h7⟩ := hn
    have hnk : numK b = hd.num := by unfold numK; rw [h1]
    have hkc : kidC b = if hd.con then [] else cont b hd := by unfold kidC; rw [h1]
    simp only [List.cons.injEq, Value.int.injEq, Value.bool.injEq, and_true, true_and] at h3
    obtain ⟨_, e2, _, e4, e5⟩ := h3
    rw [hrd, hnk, ← e2]
    subst e4 e5
    have hB := h4.isR.bytes
    rw [← hkc] at hB
    exact rReadS c1 c2 c3 _ _ (kidC b) W (hB.below hW) rfl (by have := kidC_len b; omega)
  · refine (rDeep_no v b w hv (by omega) ht).mono fun e w' ⟨he, hb⟩ => ⟨hb, 0, 0, false, none, none, 0, 0, 0, 0, false, he, fun W hW => ?_⟩
    have hrd : rdS b = (0, []) := by unfold rdS; rw [if_neg ht]
    rw [hrd]
    exact rReadS 0 0 false _ _ [] W (IsB.none_ W) rfl (by simp)
theorem rFromTx (o : Option (Int × List UInt8)) (ho : ∀ k s, o = some (k, s) → s.length ≤ 100000) (kk : Int) (ss : ByteArray) (h : .agg #[.int .i64 kk, .string ss] = txV o) (W : World) : Calls Tryz.prog 115 #[.agg #[.int .i64 kk, .string ss]] W (RetEu (elS o) W) := by
  cases o with
  | none =>
    unfold txV at h
    injection h with h
    simp only [List.toArray_inj, List.cons.injEq, Array.mk.injEq, Value.int.injEq, Value.string.injEq, and_true, true_and] at h
    obtain ⟨rfl, rfl⟩ := h
    exact rFromS 0 ⟨#[]⟩ W (by decide)
  | some p =>
    obtain ⟨k, s⟩ := p
    unfold txV at h
    injection h with h
    simp only [List.toArray_inj, List.cons.injEq, Array.mk.injEq, Value.int.injEq, Value.string.injEq, and_true, true_and] at h
    obtain ⟨rfl, rfl⟩ := h
    have h1 := rFromS kk (bStr s) W (by have := ho kk s rfl; show s.toArray.size ≤ 100000; simpa using this)
    have e : (bStr s).data.toList = s := by simp [bStr]
    rw [e] at h1
    exact h1
set_option maxRecDepth 100000 in
set_option maxHeartbeats 4000000 in
theorem rString (v : Value) (b : List UInt8) (w : World) (hv : IsB w v b) (hL : b.length ≤ 4000) : Calls Tryz.prog 80 #[v] w (RetStr (strD b) w) := by
  have hq := rstr_eq (b := b) (by omega)
  rw [← hq]
  have hrl := rdS_len b
  have HD : Hid (∀ W, IsB W v b → Calls Tryz.prog 61 #[v] W (RetDS (optS (rdS b)) W)) := fun W h => rDeepS v b W h hL
  have HF := Lib.hid (rFromTx (optS (rdS b)) (fun k s h => by have := optS_len h; omega))
  have HY := Lib.hid (fun W u x (h : IsB W u x) (h2 : IsB W v b) => bytes_any u v x b W h h2)
  have hR1 : elS (optS (rdS b)) = some b → rstr b = optS (rdS b) := fun h => by unfold rstr; rw [if_pos h]
  have hR2 : elS (optS (rdS b)) ≠ some b → rstr b = none := fun h => by unfold rstr; rw [if_neg h]
  have hR3 : elS (optS (rdS b)) = some b → (optS (rdS b)).isSome = true := fun h => by
    cases ho : optS (rdS b) with
    | none => rw [ho] at h; cases h
    | some p => rfl
  have HR1 := Lib.hid hR1
  have HR2 := Lib.hid hR2
  have HR3 := Lib.hid hR3
  have HV := Lib.hid hv
  obtain ⟨A, c, rfl⟩ := isB_slice hv
  clear hq hrl hR1 hR2 hR3 hv hL
  generalize rstr b = RR at *
  generalize optS (rdS b) = OO at *
  go_enter Tryz.func80, Tryz.ntmps80
  go_upto_region 4 with (first | ((go_at_call 61); (with_reducible refine (HD.out _ (HV.out.alloc _)).mono ?_); rintro e w1 ⟨hbw1, c1, c2, c3, a4, a5, n4, k4, n5, k5, t, rfl, hrd⟩; obtain ⟨hcw1, hfw1⟩ := bcell hbw1; have hzw1 := hbw1.size; (try simp at hzw1); have hyw1 : w.heap.size < w1.heap.size := (by omega); (try have hyaw1 : w.heap.size + 1 < w1.heap.size := (by omega)); (try have hybw1 : w.heap.size + 2 < w1.heap.size := (by omega)); (try have hycw1 : w.heap.size + 3 < w1.heap.size := (by omega)); (try have hydw1 : w.heap.size + 4 < w1.heap.size := (by omega)); clear hzw1; have K0 := Blk.call (Blk.new w 97 #[.int .i64 0, .string ⟨#[]⟩]) hbw1; have lK0 := K0.lt; have qK0 := K0.q; have rK0 := K0.fz; have K0' := Lib.hid K0; clear K0; have K0 := K0'.out; clear K0'; have HRD := Lib.hid hrd; have HV1 := Lib.hid ((HV.out.alloc (.cells #[.int .i64 0, .string ⟨#[]⟩] 97)).below hbw1); clear hrd) | ((go_at_call 114); (with_reducible refine (HRD.out _ ((Below.refl _ w1).alloc (Nat.le_refl _) _)).mono ?_); rintro e w2 ⟨kk, ss, rfl, htx, hbw2⟩; have K1 := Blk.call (K0.alloc _) hbw2; have lK1 := K1.lt; have qK1 := K1.q; have rK1 := K1.fz; have K1' := Lib.hid K1; clear K1; have K1 := K1'.out; clear K1'; have HTX := Lib.hid htx; have HV2 := Lib.hid ((HV1.out.alloc _).below hbw2); clear htx) | ((go_at_call 115); (with_reducible refine (HF.out _ _ HTX.out _).mono ?_); rintro e w3 ⟨A3, n3, k3, ec, rfl, hbw3, hres⟩; have K2 := Blk.call (K1.alloc _) hbw3; have lK2 := K2.lt; have qK2 := K2.q; have rK2 := K2.fz; have K2' := Lib.hid K2; clear K2; have K2 := K2'.out; clear K2'; have KA := Blk.call (Blk.new w2 97 #[.int .i64 kk, .string ss]) hbw3; have lKA := KA.lt; have qKA := KA.q; have rKA := KA.fz; have KA' := Lib.hid KA; clear KA; have KA := KA'.out; clear KA'; have HV3 := Lib.hid ((HV2.out.alloc _).below hbw3)))
  have s1 := hbw1.size; have s2 := hbw2.size; have s3 := hbw3.size; (simp at s1 s2 s3); have b1 : Below w.heap.size w w1 := ((Below.refl _ w).alloc (Nat.le_refl _) _).trans (hbw1.mono (by simp)); have b2 : Below w.heap.size w w2 := (b1.alloc (by omega) _).trans (hbw2.mono (by simp; omega)); have b3 : Below w.heap.size w w3 := (b2.alloc (by omega) _).trans (hbw3.mono (by simp; omega))
  rcases hres with ⟨hn, rfl⟩ | ⟨x, hx, rfl, hvx⟩
  · have HRR := Lib.hid (HR2.out (by rw [hn]; simp))
    clear hn
    go_wp2_with fail
    refine bodyPost_ret (v := .tuple #[.agg #[.int .i64 0, .string ⟨#[]⟩], .bool false]) (by simp only [results, Tryz.results80]; go_simp) rfl ?_
    exact ⟨by rw [HRR.out]; rfl, by ((repeat' (first | (with_reducible exact Below.refl _ _) | (with_reducible assumption) | (with_reducible refine Below.setCell ?_ ?_ _) | (with_reducible refine Below.alloc ?_ ?_ _) | (with_reducible refine Below.drew ?_) | (with_reducible refine below_drewN ?_ _) | (with_reducible refine Below.step (by with_reducible assumption) ?_ ?_))) <;> (first | omega | (simp; done) | (simp; omega)))⟩
  · have HX := Lib.hid hvx
    clear hvx
    have HYx := Lib.hid (HY.out w3 (.slice A3 n3 k3) x HX.out HV3.out)
    by_cases hxc : x = b
    · have HRR := Lib.hid (HR1.out (by rw [hx, hxc]))
      have HRS := Lib.hid (HR3.out (by rw [hx, hxc]))
      rw [decide_eq_true hxc] at HYx
      clear hx hxc
      go_wp2_with (((go_at_call 28); (with_reducible refine (HYx.out).mono ?_); rintro e w4 ⟨rfl, hbw4⟩; have K3 := Blk.call (K2) hbw4; have lK3 := K3.lt; have qK3 := K3.q; have rK3 := K3.fz; have K3' := Lib.hid K3; clear K3; have K3 := K3'.out; clear K3'; have KB := Blk.call (KA) hbw4; have lKB := KB.lt; have qKB := KB.q; have rKB := KB.fz; have KB' := Lib.hid KB; clear KB; have KB := KB'.out; clear KB'))
      refine bodyPost_ret (v := .tuple #[.agg #[.int .i64 kk, .string ss], .bool true]) (by simp only [results, Tryz.results80]; go_simp) rfl ?_
      have b4 : Below w.heap.size w w4 := b3.trans (hbw4.mono (by omega))
      exact ⟨by rw [HRR.out, HTX.out, HRS.out], by ((repeat' (first | (with_reducible exact Below.refl _ _) | (with_reducible assumption) | (with_reducible refine Below.setCell ?_ ?_ _) | (with_reducible refine Below.alloc ?_ ?_ _) | (with_reducible refine Below.drew ?_) | (with_reducible refine below_drewN ?_ _) | (with_reducible refine Below.step (by with_reducible assumption) ?_ ?_))) <;> (first | omega | (simp; done) | (simp; omega)))⟩
    · have HRR := Lib.hid (HR2.out (by rw [hx]; exact fun h => hxc (Option.some.inj h)))
      rw [decide_eq_false hxc] at HYx
      clear hx hxc
      go_wp2_with (((go_at_call 28); (with_reducible refine (HYx.out).mono ?_); rintro e w4 ⟨rfl, hbw4⟩; have K3 := Blk.call (K2) hbw4; have lK3 := K3.lt; have qK3 := K3.q; have rK3 := K3.fz; have K3' := Lib.hid K3; clear K3; have K3 := K3'.out; clear K3'))
      refine bodyPost_ret (v := .tuple #[.agg #[.int .i64 0, .string ⟨#[]⟩], .bool false]) (by simp only [results, Tryz.results80]; go_simp) rfl ?_
      have b4 : Below w.heap.size w w4 := b3.trans (hbw4.mono (by omega))
      exact ⟨by rw [HRR.out]; rfl, by ((repeat' (first | (with_reducible exact Below.refl _ _) | (with_reducible assumption) | (with_reducible refine Below.setCell ?_ ?_ _) | (with_reducible refine Below.alloc ?_ ?_ _) | (with_reducible refine Below.drew ?_) | (with_reducible refine below_drewN ?_ _) | (with_reducible refine Below.step (by with_reducible assumption) ?_ ?_))) <;> (first | omega | (simp; done) | (simp; omega)))⟩
end Go.Proofs.YtlmnmgokfnnbbaaGreatDoor
end

/- Walks over the reference's Filled and Directory. -/
section
set_option linter.unusedSimpArgs false
set_option linter.unusedVariables false
namespace Go.Proofs.YtlmnmgokfnnbbaaGreatDoor
open Go.RowKit Go.Cr
def filledS (k : Int) (s : List UInt8) : Bool := validT k s && !s.isEmpty && decide (k = 12 ∨ k = 19 ∨ k = 20 ∨ k = 28 ∨ k = 30)
theorem filled_iff {k : Int} {s : List UInt8} (hv : validT k s = true) : filledS k s = true ↔ ¬ (s = [] ∨ k = 22 ∨ k = 26) := by
  have hw := (validT_iff.1 hv).1
  have hk : k = 12 ∨ k = 19 ∨ k = 20 ∨ k = 28 ∨ k = 30 ∨ k = 22 ∨ k = 26 := by
    rcases kinds k with h | ⟨n1, n2, n3, n4, n5, n6, n7⟩
    · omega
    · unfold widthK at hw
      rw [if_neg n1, if_neg (by omega), if_neg n2, if_neg n3] at hw
      cases hw
  unfold filledS
  rw [hv]
  simp only [Bool.true_and, Bool.and_eq_true, Bool.not_eq_true', decide_eq_true_eq, List.isEmpty_eq_false_iff, not_or]
  constructor
  · rintro ⟨h1, h2⟩
    exact ⟨h1, by omega, by omega⟩
  · rintro ⟨h1, h2, h3⟩
    exact ⟨h1, by omega⟩
theorem strD_valid {b : List UInt8} {k : Int} {s : List UInt8} (h : strD b = some (k, s)) : validT k s = true := by
  unfold strD at h
  split at h
  · split at h
    · rename_i x _ _
      cases hd : decT x.num (seg b x.body x.stop) with
      | none => rw [hd] at h; cases h
      | some t =>
        rw [hd] at h
        simp only [Option.map_some, Option.some.injEq, Prod.mk.injEq] at h
        obtain ⟨rfl, rfl⟩ := h
        exact encT_valid (decT_iff.1 hd)
    · cases h
  · cases h
theorem strD_len {b : List UInt8} {k : Int} {s : List UInt8} (hl : b.length ≤ 1000000) (h : strD b = some (k, s)) : s.length ≤ 4 * b.length := by
  rw [← rstr_eq hl] at h
  unfold rstr at h
  split at h
  · have h1 := optS_len h
    have h2 := rdS_len b
    omega
  · cases h
theorem dirD_filled (b : List UInt8) : dirD b = match strD b with
  | none => none
  | some (k, s) => if filledS k s = true then some (k, s) else none := by
  unfold dirD
  cases h : strD b with
  | none => rfl
  | some p =>
    obtain ⟨k, s⟩ := p
    simp only
    have hf := filled_iff (strD_valid h)
    by_cases hc : s = [] ∨ k = 22 ∨ k = 26
    · rw [if_pos hc, if_neg (fun h => (hf.1 h) hc)]
    · rw [if_neg hc, if_pos (hf.2 hc)]
set_option maxRecDepth 100000 in
set_option maxHeartbeats 4000000 in
theorem rFilled (k : Int) (s : ByteArray) (w : World) (hs : s.size ≤ 100000) : Calls Tryz.prog 141 #[.agg #[.int .i64 k, .string s]] w (RetB (.bool (filledS k s.data.toList)) w) := by
  have HV := fun W => rValid7 k s W (by omega)
  cases hv : validT k s.data.toList with
  | false =>
    have HV' : Hid (∀ W, Calls Tryz.prog 142 #[.agg #[.int .i64 k, .string s]] W (RetB (.bool false) W)) := fun W => by have := HV W; rw [hv] at this; exact this
    have hf : filledS k s.data.toList = false := by unfold filledS; rw [hv]; rfl
    rw [hf]
    clear HV hv hf hs
    go_enter Tryz.func141, Tryz.ntmps141
    go_wp2_with (((go_at_call 142); (with_reducible refine (HV'.out _).mono ?_); rintro e w1 ⟨rfl, hbw1⟩))
    go_ret
    exact ⟨rfl, by ((repeat' (first | (with_reducible exact Below.refl _ _) | (with_reducible assumption) | (with_reducible refine Below.setCell ?_ ?_ _) | (with_reducible refine Below.alloc ?_ ?_ _) | (with_reducible refine Below.drew ?_) | (with_reducible refine below_drewN ?_ _) | (with_reducible refine Below.step (by with_reducible assumption) ?_ ?_))) <;> (first | omega | (simp; done) | (simp; omega)))⟩
  | true =>
    have HV' : Hid (∀ W, Calls Tryz.prog 142 #[.agg #[.int .i64 k, .string s]] W (RetB (.bool true) W)) := fun W => by have := HV W; rw [hv] at this; exact this
    have hfi := filled_iff hv
    have hw := (validT_iff.1 hv).1
    by_cases hse : s.data.toList = []
    · have hf : filledS k s.data.toList = false := by rw [Bool.eq_false_iff]; exact fun h => hfi.1 h (.inl hse)
      have hs0 : s = ⟨#[]⟩ := by
        apply ByteArray.ext
        apply Array.toList_inj.1
        simpa using hse
      rw [hf]
      subst hs0
      clear HV hv hf hs hfi hse hw
      go_enter Tryz.func141, Tryz.ntmps141
      go_wp2_with (((go_at_call 142); (with_reducible refine (HV'.out _).mono ?_); rintro e w1 ⟨rfl, hbw1⟩; have I0 := Blk.call (Blk.new w 97 #[.int .i64 k, .string ⟨#[]⟩]) hbw1; have q0 := I0.q))
      go_ret
      exact ⟨rfl, by ((repeat' (first | (with_reducible exact Below.refl _ _) | (with_reducible assumption) | (with_reducible refine Below.setCell ?_ ?_ _) | (with_reducible refine Below.alloc ?_ ?_ _) | (with_reducible refine Below.drew ?_) | (with_reducible refine below_drewN ?_ _) | (with_reducible refine Below.step (by with_reducible assumption) ?_ ?_))) <;> (first | omega | (simp; done) | (simp; omega)))⟩
    · have he3 : ¬ (s.toList = []) := by rw [ByteArray.toList_eq]; exact hse
      have he : (s.toList == (⟨#[]⟩ : ByteArray).toList) = false := by
        rw [show (⟨#[]⟩ : ByteArray).toList = [] by rw [ByteArray.toList_eq]]
        exact beq_eq_false_iff_ne.2 he3
      have he2 : s.toList.isEmpty = false := by
        cases hx : s.toList with
        | nil => exact absurd hx he3
        | cons x t => rfl
      obtain ⟨B, hB⟩ : ∃ B, filledS k s.data.toList = B := ⟨_, rfl⟩
      rw [hB] at hfi ⊢
      have hkk : (B = true ∧ (k = 12 ∨ k = 19 ∨ k = 20 ∨ k = 28 ∨ k = 30)) ∨ (B = false ∧ (k = 22 ∨ k = 26)) := by
        by_cases h26 : k = 22 ∨ k = 26
        · right
          refine ⟨?_, h26⟩
          rw [Bool.eq_false_iff]
          exact fun h => hfi.1 h (.inr h26)
        · left
          refine ⟨hfi.2 (fun h => h.elim hse h26), ?_⟩
          rcases kinds k with h | ⟨n1, n2, n3, n4, n5, n6, n7⟩
          · omega
          · unfold widthK at hw
            rw [if_neg n1, if_neg (by omega), if_neg n2, if_neg n3] at hw
            cases hw
      clear HV hv hs hfi hse hw hB
      rcases hkk with ⟨rfl, rfl | rfl | rfl | rfl | rfl⟩ | ⟨rfl, rfl | rfl⟩
      all_goals
        go_enter Tryz.func141, Tryz.ntmps141
        go_wp2_with (((go_at_call 142); (with_reducible refine (HV'.out _).mono ?_); rintro e w1 ⟨rfl, hbw1⟩; have I0 := Blk.call (Blk.new w 97 #[.int .i64 _, .string s]) hbw1; have q0 := I0.q))
        go_ret
        exact ⟨rfl, by ((repeat' (first | (with_reducible exact Below.refl _ _) | (with_reducible assumption) | (with_reducible refine Below.setCell ?_ ?_ _) | (with_reducible refine Below.alloc ?_ ?_ _) | (with_reducible refine Below.drew ?_) | (with_reducible refine below_drewN ?_ _) | (with_reducible refine Below.step (by with_reducible assumption) ?_ ?_))) <;> (first | omega | (simp; done) | (simp; omega)))⟩
set_option maxRecDepth 100000 in
set_option maxHeartbeats 4000000 in
theorem rDirectory (v : Value) (b : List UInt8) (w : World) (hv : IsB w v b) (hL : b.length ≤ 4000) : Calls Tryz.prog 108 #[v] w (RetStr (dirD b) w) := by
  have HS : Hid (∀ W, IsB W v b → Calls Tryz.prog 80 #[v] W (RetStr (strD b) W)) := fun W h => rString v b W h hL
  have HV := Lib.hid hv
  rw [dirD_filled]
  have hsl := fun k s h => strD_len (b := b) (k := k) (s := s) (by omega) h
  obtain ⟨A, c, rfl⟩ := isB_slice hv
  clear hv
  generalize strD b = SD at *
  cases SD with
  | none =>
    have HS' : Hid (∀ W, IsB W (.slice A b.length c) b → Calls Tryz.prog 80 #[.slice A b.length c] W (RetB (.tuple #[.agg #[.int .i64 0, .string ⟨#[]⟩], .bool false]) W)) := fun W h2 => HS.out W h2
    clear HS hsl
    go_enter Tryz.func108, Tryz.ntmps108
    go_wp2_with (((go_at_call 80); (with_reducible refine (HS'.out _ (HV.out.alloc _)).mono ?_); rintro e w1 ⟨rfl, hbw1⟩; have I0 := Blk.call (Blk.new w 97 #[.int .i64 0, .string ⟨#[]⟩]) hbw1; have q0 := I0.q; have f0 := I0.fz; have l0 := I0.lt))
    refine bodyPost_ret (v := .tuple #[.agg #[.int .i64 0, .string ⟨#[]⟩], .bool false]) (by simp only [results, Tryz.results108]; go_simp) rfl ?_
    have b1 : Below w.heap.size w w1 := ((Below.refl _ w).alloc (Nat.le_refl _) _).trans (hbw1.mono (by simp))
    exact ⟨rfl, by ((repeat' (first | (with_reducible exact Below.refl _ _) | (with_reducible assumption) | (with_reducible refine Below.setCell ?_ ?_ _) | (with_reducible refine Below.alloc ?_ ?_ _) | (with_reducible refine Below.drew ?_) | (with_reducible refine below_drewN ?_ _) | (with_reducible refine Below.step (by with_reducible assumption) ?_ ?_))) <;> (first | omega | (simp; done) | (simp; omega)))⟩
  | some p =>
    obtain ⟨k, s⟩ := p
    have hl := hsl k s rfl
    have HS' : Hid (∀ W, IsB W (.slice A b.length c) b → Calls Tryz.prog 80 #[.slice A b.length c] W (RetB (.tuple #[.agg #[.int .i64 k, .string (bStr s)], .bool true]) W)) := fun W h2 => HS.out W h2
    have HF : Hid (∀ W, Calls Tryz.prog 141 #[.agg #[.int .i64 k, .string (bStr s)]] W (RetB (.bool (filledS k s)) W)) := fun W => by
      have h1 := rFilled k (bStr s) W (by show s.toArray.size ≤ 100000; simp; omega)
      rwa [show (bStr s).data.toList = s by simp [bStr]] at h1
    simp only
    clear HS hsl hl
    generalize filledS k s = B at *
    cases B with
    | true =>
      rw [if_pos rfl]
      generalize hS : bStr s = S at *
      have HSS := Lib.hid hS
      clear hS
      go_enter Tryz.func108, Tryz.ntmps108
      go_wp2_with (first | ((go_at_call 80); (with_reducible refine (HS'.out _ (HV.out.alloc _)).mono ?_); rintro e w1 ⟨rfl, hbw1⟩; have I0 := Blk.call (Blk.new w 97 #[.int .i64 0, .string ⟨#[]⟩]) hbw1; have q0 := I0.q; have f0 := I0.fz; have l0 := I0.lt; have HI0 := Lib.hid I0; clear I0) | ((go_at_call 141); (with_reducible refine (HF.out _).mono ?_); rintro e w2 ⟨rfl, hbw2⟩; have I2 := Blk.call (HI0.out.alloc _) hbw2; have q2 := I2.q; have f2 := I2.fz; have l2 := I2.lt; have J2 := Blk.call (Blk.new w1 97 #[.int .i64 k, .string S]) hbw2; have p2 := J2.q))
      refine bodyPost_ret (v := .tuple #[.agg #[.int .i64 k, .string S], .bool true]) (by simp only [results, Tryz.results108]; go_simp) rfl ?_
      have b1 : Below w.heap.size w w1 := ((Below.refl _ w).alloc (Nat.le_refl _) _).trans (hbw1.mono (by simp))
      have b2 : Below w.heap.size w w2 := (b1.alloc b1.size _).trans (hbw2.mono (by have := b1.size; simp; omega))
      exact ⟨by rw [← HSS.out]; rfl, by ((repeat' (first | (with_reducible exact Below.refl _ _) | (with_reducible assumption) | (with_reducible refine Below.setCell ?_ ?_ _) | (with_reducible refine Below.alloc ?_ ?_ _) | (with_reducible refine Below.drew ?_) | (with_reducible refine below_drewN ?_ _) | (with_reducible refine Below.step (by with_reducible assumption) ?_ ?_))) <;> (first | omega | (simp; done) | (simp; omega)))⟩
    | false =>
      rw [if_neg (by simp)]
      generalize bStr s = S at *
      go_enter Tryz.func108, Tryz.ntmps108
      go_wp2_with (first | ((go_at_call 80); (with_reducible refine (HS'.out _ (HV.out.alloc _)).mono ?_); rintro e w1 ⟨rfl, hbw1⟩; have I0 := Blk.call (Blk.new w 97 #[.int .i64 0, .string ⟨#[]⟩]) hbw1; have q0 := I0.q; have f0 := I0.fz; have l0 := I0.lt; have HI0 := Lib.hid I0; clear I0) | ((go_at_call 141); (with_reducible refine (HF.out _).mono ?_); rintro e w2 ⟨rfl, hbw2⟩; have I2 := Blk.call (HI0.out.alloc _) hbw2; have q2 := I2.q; have f2 := I2.fz; have l2 := I2.lt))
      refine bodyPost_ret (v := .tuple #[.agg #[.int .i64 0, .string ⟨#[]⟩], .bool false]) (by simp only [results, Tryz.results108]; go_simp) rfl ?_
      have b1 : Below w.heap.size w w1 := ((Below.refl _ w).alloc (Nat.le_refl _) _).trans (hbw1.mono (by simp))
      have b2 : Below w.heap.size w w2 := (b1.alloc b1.size _).trans (hbw2.mono (by have := b1.size; simp; omega))
      exact ⟨rfl, by ((repeat' (first | (with_reducible exact Below.refl _ _) | (with_reducible assumption) | (with_reducible refine Below.setCell ?_ ?_ _) | (with_reducible refine Below.alloc ?_ ?_ _) | (with_reducible refine Below.drew ?_) | (with_reducible refine below_drewN ?_ _) | (with_reducible refine Below.step (by with_reducible assumption) ?_ ?_))) <;> (first | omega | (simp; done) | (simp; omega)))⟩
end Go.Proofs.YtlmnmgokfnnbbaaGreatDoor
end
