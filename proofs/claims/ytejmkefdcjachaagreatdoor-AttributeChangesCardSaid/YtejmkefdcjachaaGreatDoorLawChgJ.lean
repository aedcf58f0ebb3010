/- AttributeChanges: the encoding of an attribute, with one octet replaced, is that of another attribute, or of none. No condition beyond the row's own. -/
import Derived.Test.YtejmkefdcjachaaGreatDoorJ43
import Derived.Test.YtejmkefdcjachaaGreatDoorTie
import Derived.Test.YtejmkefdcjachaaGreatDoorCards
import Derived.SevenTiedAt
import Derived.JoinedCond
set_option linter.unusedSimpArgs false
set_option linter.unusedVariables false
namespace Go.Proofs.YtejmkefdcjachaaGreatDoor.ChgDone
open Go.RowKit Go.Cr Go.ChangeShapes Go.WideShapes Go.ChangeAt Go.Lib

theorem set8 {w W : World} {s : ByteArray} {A : Option Addr} {l : List UInt8} {k g : Nat} {x : Int} (h : Sit w W s A l k) (i : Nat) (_ : 0 ≤ x ∧ x < 256) (hg : w.heap.size < g) (hG : Glo w) (h0 : IsB w (.slice A l.length k) l) : Sit w (W.setCell ⟨g, i, none⟩ (.int .u8 x)) s A l k := h.set hg hG h0

set_option maxRecDepth 100000 in
set_option maxHeartbeats 4000000 in
theorem few_no (s : ByteArray) (v : Value) (l : List UInt8) (a x : Int) (w : World) (hv : IsB w v l) (hs : s.size ≤ 9223372036854775807) (hG : Glo w) (hf : ¬ (s.size ≤ 200 ∧ l.length ≤ 1000)) : Calls Tryz.prog 8 #[.agg #[.string s, v], .int .u16 a, .int .u8 x] w (RetB (.bool true) w) := by
  obtain ⟨A, k, rfl⟩ := isB_slice hv
  have HA : Hid (∀ W, Glo W → Calls Tryz.prog 11 #[] W (RetB (.bool true) W)) := awake_any
  have HF : Hid (∀ W, IsB W (.slice A l.length k) l → Calls Tryz.prog 24 #[.agg #[.string s, .slice A l.length k]] W (RetB (.bool false) W)) := fun W h => by have := rFewAttr s _ l W h hs; rwa [decide_eq_false hf] at this
  have HS := Lib.hid (Sit.new (s := s) hG hv)
  clear hv hs hG hf
  go_enter Tryz.func8, Tryz.ntmps8
  go_wp2_with (first | ((go_at_call 11); (with_reducible refine (HA.out _ HS.out.glo).mono ?_); rintro e w1 ⟨rfl, hbw1⟩; have HS1 := Lib.hid (HS.out.call hbw1); have c0 := HS1.out.q0; have c1 := HS1.out.q1) | ((go_at_call 24); (with_reducible refine (HF.out _ HS1.out.isb).mono ?_); rintro e w2 ⟨rfl, hbw2⟩; have HS2 := Lib.hid (HS1.out.call hbw2)) | ((go_at_call 11); (with_reducible refine (HA.out _ HS2.out.glo).mono ?_); rintro e w3 ⟨rfl, hbw3⟩; have HS3 := Lib.hid (HS2.out.call hbw3)))
  go_ret
  exact ⟨rfl, HS3.out.bel⟩

set_option maxRecDepth 100000 in
set_option maxHeartbeats 8000000 in
theorem mar_no (s : ByteArray) (v : Value) (l : List UInt8) (a x : Int) (w : World) (hv : IsB w v l) (hG : Glo w) (hf : s.size ≤ 200 ∧ l.length ≤ 1000) (hm : marA s.data.toList l = none) : Calls Tryz.prog 8 #[.agg #[.string s, v], .int .u16 a, .int .u8 x] w (RetB (.bool true) w) := by
  obtain ⟨A, k, rfl⟩ := isB_slice hv
  have HA : Hid (∀ W, Glo W → Calls Tryz.prog 11 #[] W (RetB (.bool true) W)) := awake_any
  have HF : Hid (∀ W, IsB W (.slice A l.length k) l → Calls Tryz.prog 24 #[.agg #[.string s, .slice A l.length k]] W (RetB (.bool true) W)) := fun W h => by have := rFewAttr s _ l W h (by omega); rwa [decide_eq_true hf] at this
  have HM : Hid (∀ W, Glo W → IsB W (.slice A l.length k) l → Calls Tryz.prog 25 #[.agg #[.string s, .slice A l.length k]] W (RetB (.tuple #[.slice none 0 0, .int .i64 8]) W)) := fun W g h => (attMarshal s _ l W g h (by omega) (by omega)).mono fun e w' hh => by rw [hm] at hh; exact hh.no
  have HS := Lib.hid (Sit.new (s := s) hG hv)
  clear hv hG hf hm
  go_enter Tryz.func8, Tryz.ntmps8
  go_wp2_with (first | ((go_at_call 11); (with_reducible refine (HA.out _ HS.out.glo).mono ?_); rintro e w1 ⟨rfl, hbw1⟩; have HS1 := Lib.hid (HS.out.call hbw1); have c0 := HS1.out.q0; have c1 := HS1.out.q1) | ((go_at_call 24); (with_reducible refine (HF.out _ HS1.out.isb).mono ?_); rintro e w2 ⟨rfl, hbw2⟩; have HS2 := Lib.hid (HS1.out.call hbw2); have d0 := HS2.out.q0; have d1 := HS2.out.q1) | ((go_at_call 25); (with_reducible refine (HM.out _ HS2.out.glo HS2.out.isb).mono ?_); rintro e w3 ⟨rfl, hbw3⟩; have HS3 := Lib.hid (HS2.out.call hbw3)))
  go_ret
  exact ⟨rfl, HS3.out.bel⟩

set_option maxRecDepth 100000 in
set_option maxHeartbeats 8000000 in
theorem chg_no (s : ByteArray) (v : Value) (l c : List UInt8) (a x : Int) (i : Nat) (w : World) (hv : IsB w v l) (hG : Glo w) (hf : s.size ≤ 200 ∧ l.length ≤ 1000) (hm : marA s.data.toList l = some c) (hc2 : 2 ≤ c.length) (hc3 : c.length ≤ 3000)
    (ha : 0 ≤ a ∧ a < 65536) (hx : 0 ≤ x ∧ x < 256) (hi : a.toNat % c.length = i) (hp : parA (c.set i (UInt8.ofNat x.toNat)) = none) : Calls Tryz.prog 8 #[.agg #[.string s, v], .int .u16 a, .int .u8 x] w (RetB (.bool true) w) := by
  obtain ⟨A, k, rfl⟩ := isB_slice hv
  have hil : i < c.length := by rw [← hi]; exact Nat.mod_lt _ (by omega)
  have hne : ¬ (x = bat c i) := fun h => by
    have e : c.set i (UInt8.ofNat x.toNat) = c := by
      rw [h, bat_eq c i hil]
      have : UInt8.ofNat (bi c[i]).toNat = c[i] := by simp [bi]
      rw [this, List.set_getElem_self]
    rw [e, mar_parA hm (by omega)] at hp
    cases hp
  have HA : Hid (∀ W, Glo W → Calls Tryz.prog 11 #[] W (RetB (.bool true) W)) := awake_any
  have HF : Hid (∀ W, IsB W (.slice A l.length k) l → Calls Tryz.prog 24 #[.agg #[.string s, .slice A l.length k]] W (RetB (.bool true) W)) := fun W h => by have := rFewAttr s _ l W h (by omega); rwa [decide_eq_true hf] at this
  have HM : Hid (∀ W, Glo W → IsB W (.slice A l.length k) l → Calls Tryz.prog 25 #[.agg #[.string s, .slice A l.length k]] W (RetOidY c W)) := fun W g h => (attMarshal s _ l W g h (by omega) (by omega)).mono fun e w' hh => by rw [hm] at hh; exact hh.yes
  have HP : Hid (∀ W u, Glo W → IsB W u (c.set i (UInt8.ofNat x.toNat)) → Calls Tryz.prog 29 #[u] W (RetPE c.length W)) := fun W u g h => by have := attParse u _ W g h (by simp; omega); rwa [hp, List.length_set] at this
  have HQ : Hid (∀ W, Calls Tryz.prog 30 #[.agg #[.string ⟨#[]⟩, .slice none 0 0], .agg #[.string ⟨#[]⟩, .slice none 0 0]] W (RetB (.bool true) W)) := fun W => by have := attSame ⟨#[]⟩ ⟨#[]⟩ _ _ [] [] W (isB_nil0 W) (isB_nil0 W); rwa [decide_eq_true ⟨rfl, rfl⟩] at this
  have HW : Hid (∀ (q o : Int) W, 0 < q → 0 ≤ o → o ≤ c.length → Calls Tryz.prog 32 #[.agg #[.int .i64 q, .int .i64 o], .int .i64 c.length] W (RetB (.bool true) W)) := fun q o W h1 h2 h3 => withinErr q o c.length W h1 h2 h3
  have HG0 := Lib.hid hG
  have HV0 := Lib.hid hv
  have HS := Lib.hid (Sit.new (s := s) hG hv)
  have HXX := Lib.hid hx
  have hmod : a.tmod (c.length : Int) = (i : Int) := by rw [Int.tmod_eq_emod_of_nonneg ha.1, ← hi, Int.natCast_emod, Int.toNat_of_nonneg ha.1]
  have hc0 : ¬ ((c.length : Int) = 0) := by omega
  have hwr : IntKind.i64.wrap a = a := by rw [IntKind.wrap_i64]; omega
  have hiI : (i : Int) < c.length := by omega
  clear hv hG hf hm hp hx hi
  go_enter Tryz.func8, Tryz.ntmps8
  go_wp2_with (first | ((go_at_call 11); (with_reducible refine (HA.out _ HS.out.glo).mono ?_); rintro e w1 ⟨rfl, hbw1⟩; have HS1 := Lib.hid (HS.out.call hbw1); have c0 := HS1.out.q0; have c1 := HS1.out.q1) | ((go_at_call 24); (with_reducible refine (HF.out _ HS1.out.isb).mono ?_); rintro e w2 ⟨rfl, hbw2⟩; have HS2 := Lib.hid (HS1.out.call hbw2); have d0 := HS2.out.q0; have d1 := HS2.out.q1) | ((go_at_call 25); (with_reducible refine (HM.out _ HS2.out.glo HS2.out.isb).mono ?_); rintro e w3 ⟨v3, rfl, ho3, hbw3⟩; obtain ⟨g, kc, rfl, hbg, hgl, hcell, hfz⟩ := OwB.row (w := w3) (base := w2.heap.size) ho3 (by omega); have HO3 := Lib.hid (show OwB w3 w2.heap.size 5 (.slice (some ⟨g, 0, none⟩) c.length kc) c from ho3); have hw0 := HS2.out.lt; have HS3 := Lib.hid (HS2.out.call hbw3); have cb := hcell i hil; have fb := hfz i; clear hcell hfz ho3; have HT3 := Lib.hid (HS3.out.set (i := i) (u := .int .u8 x) (Nat.lt_of_lt_of_le hw0 hbg) HG0.out HV0.out); have HI3 := Lib.hid ((OwB.put HO3.out i x HXX.out.1 HXX.out.2).isB)) | ((go_at_call 29); (refine (HP.out _ _ HT3.out.glo HI3.out).mono ?_); rintro e w4 ⟨hbw4, q, o, hq1, ho0, ho1, rfl⟩; have hq0 : ¬ (q = 0) := (by omega); have HS4 := Lib.hid (HT3.out.call hbw4)) | ((go_at_call 30); (with_reducible refine (HQ.out _).mono ?_); rintro e w5 ⟨rfl, hbw5⟩; obtain ⟨K5, K6, l5, l6⟩ := twoOld hbw5; have q5 := K5.q; have q6 := K6.q; clear K5 K6; have HS5 := Lib.hid (((HS4.out.alloc _).alloc _).call hbw5)) | ((go_at_call 32); (with_reducible refine (HW.out _ _ _ hq1 ho0 ho1).mono ?_); rintro e w6 ⟨rfl, hbw6⟩; have HS6 := Lib.hid (HS5.out.call hbw6)))
  go_ret
  exact ⟨by simp [*], HS6.out.bel⟩

set_option maxRecDepth 100000 in
set_option maxHeartbeats 16000000 in
theorem chg_yes (s : ByteArray) (v : Value) (l c s' l' : List UInt8) (a x : Int) (i : Nat) (w : World) (hv : IsB w v l) (hG : Glo w) (hf : s.size ≤ 200 ∧ l.length ≤ 1000) (hm : marA s.data.toList l = some c) (hc2 : 2 ≤ c.length) (hc3 : c.length ≤ 3000)
    (ha : 0 ≤ a ∧ a < 65536) (hx : 0 ≤ x ∧ x < 256) (hi : a.toNat % c.length = i) (hp : parA (c.set i (UInt8.ofNat x.toNat)) = some (s', l')) : Calls Tryz.prog 8 #[.agg #[.string s, v], .int .u16 a, .int .u8 x] w (RetB (.bool true) w) := by
  obtain ⟨A, k, rfl⟩ := isB_slice hv
  have hil : i < c.length := by rw [← hi]; exact Nat.mod_lt _ (by omega)
  have hX : bi (UInt8.ofNat x.toNat) = x := by rw [bi_ofNat]; omega
  have hD : decide (bStr s' = s ∧ l' = l) = decide (x = bat c i) := by
    refine decide_eq_decide.2 ⟨fun ⟨h1, h2⟩ => ?_, fun h => ?_⟩
    · have h3 := parA_mar hp
      have h4 : s' = s.data.toList := by rw [← h1]; rfl
      rw [h4, h2, hm] at h3
      injection h3 with h3
      have h5 : c[i] = (c.set i (UInt8.ofNat x.toNat))[i]'(by simpa using hil) := by congr 1
      rw [bat_eq c i hil, h5, List.getElem_set_self, hX]
    · have e : c.set i (UInt8.ofNat x.toNat) = c := by
        rw [h, bat_eq c i hil]
        have : UInt8.ofNat (bi c[i]).toNat = c[i] := by simp [bi]
        rw [this, List.set_getElem_self]
      rw [e, mar_parA hm (by omega)] at hp
      injection hp with hp
      injection hp with h1 h2
      exact ⟨by rw [← h1, bStr_eq], h2.symm⟩
  have hm' := parA_mar hp
  obtain ⟨hsz, hll⟩ := marBnd hm' (by simp; omega)
  have HA : Hid (∀ W, Glo W → Calls Tryz.prog 11 #[] W (RetB (.bool true) W)) := awake_any
  have HF : Hid (∀ W, IsB W (.slice A l.length k) l → Calls Tryz.prog 24 #[.agg #[.string s, .slice A l.length k]] W (RetB (.bool true) W)) := fun W h => by have := rFewAttr s _ l W h (by omega); rwa [decide_eq_true hf] at this
  have HM : Hid (∀ W, Glo W → IsB W (.slice A l.length k) l → Calls Tryz.prog 25 #[.agg #[.string s, .slice A l.length k]] W (RetOidY c W)) := fun W g h => (attMarshal s _ l W g h (by omega) (by omega)).mono fun e w' hh => by rw [hm] at hh; exact hh.yes
  have HP : Hid (∀ W u, Glo W → IsB W u (c.set i (UInt8.ofNat x.toNat)) → Calls Tryz.prog 29 #[u] W (AtS (bStr s') l' (.agg #[.int .i64 0, .int .i64 0]) W)) := fun W u g h => by have := attParse u _ W g h (by simp; omega); rwa [hp] at this
  have HM2 : Hid (∀ W u, Glo W → IsB W u l' → Calls Tryz.prog 25 #[.agg #[.string (bStr s'), u]] W (RetOidY (c.set i (UInt8.ofNat x.toNat)) W)) := fun W u g h => (attMarshal (bStr s') u l' W g h hsz (by omega)).mono fun e w' hh => by rw [bStr_list, hm'] at hh; exact hh.yes
  have HQ0 : Hid (∀ W A2 k2, IsB W (.slice A2 l'.length k2) l' → IsB W (.slice A l.length k) l → Calls Tryz.prog 30 #[.agg #[.string (bStr s'), .slice A2 l'.length k2], .agg #[.string s, .slice A l.length k]] W (RetB (.bool (decide (x = bat c i))) W)) := fun W A2 k2 h1 h2 => by have := attSame (bStr s') s _ _ l' l W h1 h2; rwa [hD] at this
  have HB : Hid (∀ W y z, IsB W y (c.set i (UInt8.ofNat x.toNat)) → IsB W z (c.set i (UInt8.ofNat x.toNat)) → Calls Tryz.prog 17 #[y, z] W (RetB (.bool true) W)) := fun W y z h1 h2 => by have := bytes_any y z _ _ W h1 h2; rwa [decide_eq_true rfl] at this
  have HG0 := Lib.hid hG
  have HV0 := Lib.hid hv
  have HS := Lib.hid (Sit.new (s := s) hG hv)
  have HXX := Lib.hid hx
  have hmod : a.tmod (c.length : Int) = (i : Int) := by rw [Int.tmod_eq_emod_of_nonneg ha.1, ← hi, Int.natCast_emod, Int.toNat_of_nonneg ha.1]
  have hc0 : ¬ ((c.length : Int) = 0) := by omega
  have hwr : IntKind.i64.wrap a = a := by rw [IntKind.wrap_i64]; omega
  have hiI : (i : Int) < c.length := by omega
  clear hv hG hf hm hp hx hi hD hm' hX hsz hll
  generalize bStr s' = S at *
  by_cases hxo : x = bat c i
  all_goals
    have HQ := HQ0.out
    first | rw [decide_eq_true hxo] at HQ | rw [decide_eq_false hxo] at HQ
    replace HQ := Lib.hid HQ
    clear HQ0
    try subst hxo
    go_enter Tryz.func8, Tryz.ntmps8
    go_wp2_with (first | ((go_at_call 11); (with_reducible refine (HA.out _ HS.out.glo).mono ?_); rintro e w1 ⟨rfl, hbw1⟩; have HS1 := Lib.hid (HS.out.call hbw1); have c0 := HS1.out.q0; have c1 := HS1.out.q1) | ((go_at_call 24); (with_reducible refine (HF.out _ HS1.out.isb).mono ?_); rintro e w2 ⟨rfl, hbw2⟩; have HS2 := Lib.hid (HS1.out.call hbw2); have d0 := HS2.out.q0; have d1 := HS2.out.q1) | ((go_at_call 25); (with_reducible refine (HM.out _ HS2.out.glo HS2.out.isb).mono ?_); rintro e w3 ⟨v3, rfl, ho3, hbw3⟩; obtain ⟨g, kc, rfl, hbg, hgl, hcell, hfz⟩ := OwB.row (w := w3) (base := w2.heap.size) ho3 (by omega); have HO3 := Lib.hid (show OwB w3 w2.heap.size 5 (.slice (some ⟨g, 0, none⟩) c.length kc) c from ho3); have hw0 := HS2.out.lt; have HS3 := Lib.hid (HS2.out.call hbw3); have cb := hcell i hil; have fb := hfz i; clear hcell hfz ho3; have HT3 := Lib.hid (set8 HS3.out i HXX.out (Nat.lt_of_lt_of_le hw0 hbg) HG0.out HV0.out); have HI3 := Lib.hid ((OwB.put HO3.out i _ HXX.out.1 HXX.out.2).isB)) | ((go_at_call 29); (refine (HP.out _ _ HT3.out.glo HI3.out).mono ?_); rintro e w4 ⟨A4, k4, rfl, ho4, hbw4⟩; have HI4 := Lib.hid (IsR.of_own ho4).bytes; have HJ4 := Lib.hid (HI3.out.below hbw4); have HS4 := Lib.hid (HT3.out.call hbw4); clear ho4) | ((go_at_call 25); (refine (HM2.out _ _ ((HS4.out.alloc _).alloc _).glo ((HI4.out.alloc _).alloc _)).mono ?_); rintro e w5 ⟨v5, rfl, ho5, hbw5⟩; obtain ⟨A5, k5, rfl⟩ := isB_slice (IsR.of_own ho5).bytes; have hi5 := (IsR.of_own ho5).bytes; rw [List.length_set] at hi5; have HI5 := Lib.hid hi5; clear hi5; obtain ⟨K5, K6, l5, l6⟩ := twoOld hbw5; have q5 := K5.q; have q6 := K6.q; have HK5 := Lib.hid K5; clear K5 K6 ho5; have HS5 := Lib.hid (((HS4.out.alloc _).alloc _).call hbw5); have HJ5 := Lib.hid (((HJ4.out.alloc _).alloc _).below hbw5); have HL5 := Lib.hid (((HI4.out.alloc _).alloc _).below hbw5)) | ((go_at_call 17); (refine (HB.out _ _ _ HI5.out HJ5.out).mono ?_); rintro e w6 ⟨rfl, hbw6⟩; have HK6 := Lib.hid (HK5.out.call hbw6); have q7 := HK6.out.q; have HS6 := Lib.hid (HS5.out.call hbw6); have q8 := HS6.out.q0; have q9 := HS6.out.q1; have HL6 := Lib.hid (HL5.out.below hbw6)) | ((go_at_call 30); (refine (HQ.out _ _ _ HL6.out HS6.out.isb).mono ?_); rintro e w7 ⟨rfl, hbw7⟩; have HS7 := Lib.hid (HS6.out.call hbw7)))
    go_ret
    exact ⟨by simp [*], HS7.out.bel⟩

theorem wf_u16 {a : Int} (h : (Lit.int .u16 a).wf = true) : 0 ≤ a ∧ a < 65536 := by have e1 : IntKind.u16.min = 0 := rfl; have e2 : IntKind.u16.max = 65535 := rfl; simp [Lit.wf] at h; omega
theorem wf_u8 {a : Int} (h : (Lit.int .u8 a).wf = true) : 0 ≤ a ∧ a < 256 := by have e1 : IntKind.u8.min = 0 := rfl; have e2 : IntKind.u8.max = 255 := rfl; simp [Lit.wf] at h; omega
theorem walk (s : ByteArray) (v : Value) (l : List UInt8) (a x : Int) (w : World) (hv : IsB w v l) (hs : s.size ≤ maxLen) (ha : (Lit.int .u16 a).wf = true) (hx : (Lit.int .u8 x).wf = true) (hG : Glo w) : Calls Tryz.prog 8 #[.agg #[.string s, v], .int .u16 a, .int .u8 x] w (RetB (.bool true) w) := by
  by_cases hf : s.size ≤ 200 ∧ l.length ≤ 1000
  · cases hm : marA s.data.toList l with
    | none => exact mar_no s v l a x w hv hG hf hm
    | some c =>
      obtain ⟨h2, h3⟩ := marLen hm hf.1 hf.2
      cases hp : parA (c.set (a.toNat % c.length) (UInt8.ofNat x.toNat)) with
      | none => exact chg_no s v l c a x _ w hv hG hf hm h2 h3 (wf_u16 ha) (wf_u8 hx) rfl hp
      | some y => exact chg_yes s v l c y.1 y.2 a x _ w hv hG hf hm h2 h3 (wf_u16 ha) (wf_u8 hx) rfl hp
  · exact few_no s v l a x w hv (by unfold maxLen at hs; omega) hG hf

theorem witness_row (os : Os) {H : Type} (enc : TypeId × Value → H) :
    (OpenSpec.ofChange Rows.attributeChangesSpec).preRow enc Tryz.prog Tryz.f8 Rows.attributeChangesRow.domain false Rows.attributeChangesRow.laid ((laidW os).forCall (fun _ _ => 0) ⟨#[], #[.agg #[.string ⟨#[]⟩, .slice none 0 0], .int .u16 0, .int .u8 0], []⟩).memory #[.agg #[.string ⟨#[]⟩, .slice none 0 0], .int .u16 0, .int .u8 0] := by
  have hw : (DataW.whole enc Tryz.prog ((laidW os).forCall (fun _ _ => 0) ⟨#[], #[.agg #[.string ⟨#[]⟩, .slice none 0 0], .int .u16 0, .int .u8 0], []⟩).memory Tryz.f8.params.toList (OpenSpec.ofChange Rows.attributeChangesSpec).vars false #[(.agg #[.string ⟨#[]⟩, .slice none 0 0] : Value), (.int .u16 0 : Value), (.int .u8 0 : Value)].toList 8).map (fun x => (x.1, x.2.1)) =
      some ([.agg [.lit (.string []), .nil], .lit (.int .u16 0), .lit (.int .u8 0)], []) := by kernel_rfl
  obtain ⟨⟨x1, x2, x3⟩, hx, hx1⟩ := Option.map_eq_some_iff.1 hw
  simp only [Prod.mk.injEq] at hx1
  obtain ⟨rfl, rfl⟩ := hx1
  exact OpenSpec.preRow_of_cond 8 hx (by kernel_rfl) (fun k hk => by cases hk) (by kernel_rfl) (laidW_met os _)

set_option maxRecDepth 100000 in
set_option maxHeartbeats 2000000 in
theorem lifted (os : Os) (started : os.Started) (H : Type) (enc : TypeId × Value → H) (F : Stop.Interp) :
    ReturnsInHanded {} Tryz.checked os 8 .any ((OpenSpec.ofChange Rows.attributeChangesSpec).preRow enc Tryz.prog Tryz.f8 Rows.attributeChangesRow.domain false Rows.attributeChangesRow.laid) (((OpenSpec.ofChange Rows.attributeChangesSpec).at F).post enc Tryz.prog Tryz.f8 false true false false) := by
  refine returnsInHanded_of_row (C := Tryz.checked) (s := OpenSpec.ofChange Rows.attributeChangesSpec) lw_own started (by kernel_rfl) Tryz.func8
    (witness_laid #[.agg #[.string ⟨#[]⟩, .slice none 0 0], .int .u16 0, .int .u8 0] (by kernel_rfl) (witness_row os enc)) ?_
  intro W base args ds gs before hval0 hW hcnd _ hz0 hL hsh _
  have hG : Glo W := glo_of W hL hsh
  have hval : ∀ (j : Nat) t v, Tryz.f8.params[j]? = some t → args[j]? = some v → Value.okWide Tryz.prog W .any base t v := hval0
  have hW' := hW
  obtain ⟨p, q, hA0, hV, rfl, hfz, hnd⟩ := hW
  have hA : DataW.TrodAll enc Tryz.prog W 0 (fun _ => true) true Tryz.f8.params.toList args.toList ds p := hA0
  rw [Tryz.params8] at hA hval
  obtain ⟨v0, vs0, d0, ds0, p0, q0, hargs, rfl, rfl, h0, r0⟩ := trodAll_cons hA
  obtain ⟨v1, vs1, d1, ds1, p1, q1, rfl, rfl, rfl, h1, r1⟩ := trodAll_cons r0
  obtain ⟨v2, vs2, d2, ds2, p2, q2, rfl, rfl, rfl, h2, r2⟩ := trodAll_cons r1
  obtain ⟨rfl, rfl, rfl⟩ := trodAll_nil r2
  obtain rfl : args = #[v0, v1, v2] := by cases args; simp_all
  obtain ⟨rfl, rfl⟩ := trodVars_none hV
  have lt0 : ∀ x ∈ p0, x.block < W.heap.size := by obtain ⟨m, hm⟩ := h0; exact DataW.trod_lt m _ _ _ hm
  obtain ⟨s0, x0, l0, rfl, z0, w0⟩ := open_attr (hval 0 37 v0 rfl rfl) h0
  obtain ⟨a1, rfl, rfl, rfl, w1⟩ := open_int (by kernel_rfl : Tryz.prog.underlying 48 = some (.int .u16)) (hval 1 48 v1 rfl rfl) h1
  obtain ⟨a2, rfl, rfl, rfl, w2⟩ := open_int (by kernel_rfl : Tryz.prog.underlying 5 = some (.int .u8)) (hval 2 5 v2 rfl rfl) h2
  clear hA0 hval0
  refine (walk s0 x0 l0 a1 a2 W w0 z0 w1 w2 hG).mono fun e W' ⟨he, bel⟩ => ?_
  subst he
  exact ⟨_, rfl, _, _, _, [], _, [], hW', trodAll_mk1 (shut_bool (by kernel_rfl : Tryz.prog.underlying 4 = some .bool) _), (trodAll_cons_mk (Below.trod lw_laidOut (by kernel_rfl) (of_decide_eq_true (by kernel_rfl)) h0 bel lt0) (trodAll_cons_mk (shut_int (by kernel_rfl : Tryz.prog.underlying 48 = some (.int .u16)) w1) (trodAll_cons_mk (shut_int (by kernel_rfl : Tryz.prog.underlying 5 = some (.int .u8)) w2) trodAll_mk0))), rfl, bel.frame _, fun h => by cases h⟩

theorem holds : Rows.AttributeChangesSaid :=
  OpenClaim.holds_of_cond 8 Tryz.f8 rfl rfl rfl rfl rfl rfl rfl ⟨rfl, rfl, rfl, rfl, rfl⟩ rfl rfl rfl rfl rfl (by kernel_rfl) Tryz.func8 (by kernel_rfl)
    (of_decide_eq_true (by kernel_rfl)) (by unfold Func.isWrapper; first | (rw [if_pos (by decide +kernel)]; kernel_rfl) | (rw [if_neg (by decide +kernel)]; exact ⟨rfl, rfl⟩))
    (fun os started H enc _ F0 => by rw [OpenClaim.pre_eq_preRow]; exact lifted os started H enc F0)

theorem proved : Rows.AttributeChangesCardSaid :=
  Claim7.holds_tied_plain_at .later [] [.data, .data, .data, .data, .sentinel, .sentinel, .pinned] true (true, "a669af08838cfad0aa38966214e8cb1e037c880dbfa1422bd235b91a679aa7b7") true holds (fun _ h => by cases h) (by kernel_rfl) (fun _ h => by cases h) attributeChanges_row_tie rfl ⟨rfl, rfl⟩ (by kernel_rfl) rfl
    (fun f fn hf hfn => by
      obtain rfl : f = 8 := Option.some.inj ((show Tryz.prog.funcNamed "cretula/cretulalaw11.AttributeChanges" = some 8 by kernel_rfl).symm.trans hf) |>.symm
      obtain rfl : fn = Tryz.f8 := (Option.some.inj (Tryz.func8.symm.trans hfn)).symm
      exact ⟨by kernel_rfl, fun j t ht => by
        rw [Tryz.params8] at ht
        have hm : t ∈ [37, 48, 5] := by simpa using Array.mem_of_getElem? ht
        have hall : ([37, 48, 5].all fun u => !Tryz.prog.wantsStandIn u) = true := by kernel_rfl
        exact (show Tryz.prog.wantsStandIn t = false by simpa using List.all_eq_true.1 hall t hm)⟩)
    (by kernel_rfl)
#print axioms proved
end Go.Proofs.YtejmkefdcjachaaGreatDoor.ChgDone
