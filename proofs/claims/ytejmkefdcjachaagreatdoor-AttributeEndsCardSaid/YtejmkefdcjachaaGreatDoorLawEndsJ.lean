/- AttributeEnds: neither a proper beginning of the encoding of an attribute, nor what begins with it and is longer, is parsed. No condition beyond the row's own. -/
import Derived.Test.YtejmkefdcjachaaGreatDoorJ43
import Derived.Test.YtejmkefdcjachaaGreatDoorTie
import Derived.Test.YtejmkefdcjachaaGreatDoorCards
import Derived.SevenTiedAt
import Derived.JoinedCond
set_option linter.unusedSimpArgs false
set_option linter.unusedVariables false
namespace Go.Proofs.YtejmkefdcjachaaGreatDoor.EndsDone
open Go.RowKit Go.Cr Go.ChangeShapes Go.WideShapes Go.ChangeAt Go.Lib

theorem head_len {C Y r : List UInt8} (hc : C.length ≤ 100000) (hy : Y.length ≤ 100000) (h : encO 0 true 16 C = encO 0 true 16 Y ++ r) : r = [] := by
  have h1 := nextH_enc 0 16 true C [] (by decide) (by decide) (by decide) (by decide) (by omega)
  have h2 := nextH_enc 0 16 true Y r (by decide) (by decide) (by decide) (by decide) (by omega)
  rw [List.append_nil, h, h2] at h1
  injection h1 with h1
  injection h1 with _ _ _ e _
  have e1 := encO_len 0 16 true C
  have e2 := encO_len 0 16 true Y
  rw [h, List.length_append, e2, show Y.length = C.length by omega] at e1
  exact List.eq_nil_of_length_eq_zero (by omega)
theorem parA_take {s l c : List UInt8} {i : Nat} (h : marA s l = some c) (hc : c.length ≤ 3000) (hi : i < c.length) : parA (c.take i) = none := by
  cases hp : parA (c.take i) with
  | none => rfl
  | some y =>
    exfalso
    obtain ⟨o, _, _, e⟩ := marA_some h
    obtain ⟨o', _, _, e'⟩ := marA_some (parA_mar hp)
    have l1 := encO_len 0 16 true (encO 0 false 6 o ++ l)
    have l2 := encO_len 0 16 true (encO 0 false 6 o' ++ y.2)
    rw [← e] at l1
    rw [← e', List.length_take] at l2
    have h3 : encO 0 true 16 (encO 0 false 6 o ++ l) = encO 0 true 16 (encO 0 false 6 o' ++ y.2) ++ c.drop i := by rw [← e, ← e', List.take_append_drop]
    have h4 := head_len (by omega) (by omega) h3
    have h5 := congrArg List.length h4
    simp at h5
    omega
theorem parA_more {s l c m : List UInt8} (h : marA s l = some c) (hc : c.length ≤ 3000) (hm : m.length ≤ 2000) (h0 : m ≠ []) : parA (c ++ m) = none := by
  cases hp : parA (c ++ m) with
  | none => rfl
  | some y =>
    exfalso
    obtain ⟨o, _, _, e⟩ := marA_some h
    obtain ⟨o', _, _, e'⟩ := marA_some (parA_mar hp)
    have l1 := encO_len 0 16 true (encO 0 false 6 o ++ l)
    have l2 := encO_len 0 16 true (encO 0 false 6 o' ++ y.2)
    rw [← e] at l1
    rw [← e', List.length_append] at l2
    have h3 : encO 0 true 16 (encO 0 false 6 o' ++ y.2) = encO 0 true 16 (encO 0 false 6 o ++ l) ++ m := by rw [← e, ← e']
    exact h0 (head_len (by omega) (by omega) h3)

set_option maxRecDepth 100000 in
set_option maxHeartbeats 4000000 in
theorem few_no (s : ByteArray) (v m : Value) (l ml : List UInt8) (a : Int) (w : World) (hv : IsB w v l) (hs : s.size ≤ 9223372036854775807) (hG : Glo w) (hf : ¬ (s.size ≤ 200 ∧ l.length ≤ 1000)) : Calls Tryz.prog 9 #[.agg #[.string s, v], .int .u16 a, m] w (RetB (.bool true) w) := by
  obtain ⟨A, k, rfl⟩ := isB_slice hv
  have HA : Hid (∀ W, Glo W → Calls Tryz.prog 11 #[] W (RetB (.bool true) W)) := awake_any
  have HF : Hid (∀ W, IsB W (.slice A l.length k) l → Calls Tryz.prog 24 #[.agg #[.string s, .slice A l.length k]] W (RetB (.bool false) W)) := fun W h => by have := rFewAttr s _ l W h hs; rwa [decide_eq_false hf] at this
  have HS := Lib.hid (Sit.new (s := s) hG hv)
  clear hv hs hG hf
  go_enter Tryz.func9, Tryz.ntmps9
  go_wp2_with (first | ((go_at_call 11); (with_reducible refine (HA.out _ HS.out.glo).mono ?_); rintro e w1 ⟨rfl, hbw1⟩; have HS1 := Lib.hid (HS.out.call hbw1); have c0 := HS1.out.q0; have c1 := HS1.out.q1) | ((go_at_call 24); (with_reducible refine (HF.out _ HS1.out.isb).mono ?_); rintro e w2 ⟨rfl, hbw2⟩; have HS2 := Lib.hid (HS1.out.call hbw2)) | ((go_at_call 11); (with_reducible refine (HA.out _ HS2.out.glo).mono ?_); rintro e w3 ⟨rfl, hbw3⟩; have HS3 := Lib.hid (HS2.out.call hbw3)))
  go_ret
  exact ⟨rfl, HS3.out.bel⟩

set_option maxRecDepth 100000 in
set_option maxHeartbeats 4000000 in
theorem long (s : ByteArray) (v m : Value) (l ml : List UInt8) (a : Int) (w : World) (hv : IsB w v l) (hm : IsB w m ml) (hG : Glo w) (hf : s.size ≤ 200 ∧ l.length ≤ 1000) (h2 : 2000 < ml.length) : Calls Tryz.prog 9 #[.agg #[.string s, v], .int .u16 a, m] w (RetB (.bool true) w) := by
  have hlen := hm.len ulB
  obtain ⟨A, k, rfl⟩ := isB_slice hv
  obtain ⟨AM, kM, rfl⟩ := isB_slice hm
  have HA : Hid (∀ W, Glo W → Calls Tryz.prog 11 #[] W (RetB (.bool true) W)) := awake_any
  have HF : Hid (∀ W, IsB W (.slice A l.length k) l → Calls Tryz.prog 24 #[.agg #[.string s, .slice A l.length k]] W (RetB (.bool true) W)) := fun W h => by have := rFewAttr s _ l W h (by omega); rwa [decide_eq_true hf] at this
  have h2' : (2000 : Int) < ml.length := by omega
  have HS := Lib.hid (Sit.new (s := s) hG hv)
  clear hv hG hf hm h2
  go_enter Tryz.func9, Tryz.ntmps9
  go_wp2_with (first | ((go_at_call 11); (with_reducible refine (HA.out _ HS.out.glo).mono ?_); rintro e w1 ⟨rfl, hbw1⟩; have HS1 := Lib.hid (HS.out.call hbw1); have c0 := HS1.out.q0; have c1 := HS1.out.q1) | ((go_at_call 24); (with_reducible refine (HF.out _ HS1.out.isb).mono ?_); rintro e w2 ⟨rfl, hbw2⟩; have HS2 := Lib.hid (HS1.out.call hbw2)) | ((go_at_call 11); (with_reducible refine (HA.out _ HS2.out.glo).mono ?_); rintro e w3 ⟨rfl, hbw3⟩; have HS3 := Lib.hid (HS2.out.call hbw3)))
  go_ret
  exact ⟨rfl, HS3.out.bel⟩

set_option maxRecDepth 100000 in
set_option maxHeartbeats 8000000 in
theorem mar_no (s : ByteArray) (v m : Value) (l ml : List UInt8) (a : Int) (w : World) (hv : IsB w v l) (hM : IsB w m ml) (hG : Glo w) (hf : s.size ≤ 200 ∧ l.length ≤ 1000) (h2 : ml.length ≤ 2000) (hm : marA s.data.toList l = none) : Calls Tryz.prog 9 #[.agg #[.string s, v], .int .u16 a, m] w (RetB (.bool true) w) := by
  have hlen := hM.len ulB
  obtain ⟨A, k, rfl⟩ := isB_slice hv
  obtain ⟨AM, kM, rfl⟩ := isB_slice hM
  have HA : Hid (∀ W, Glo W → Calls Tryz.prog 11 #[] W (RetB (.bool true) W)) := awake_any
  have HF : Hid (∀ W, IsB W (.slice A l.length k) l → Calls Tryz.prog 24 #[.agg #[.string s, .slice A l.length k]] W (RetB (.bool true) W)) := fun W h => by have := rFewAttr s _ l W h (by omega); rwa [decide_eq_true hf] at this
  have HM : Hid (∀ W, Glo W → IsB W (.slice A l.length k) l → Calls Tryz.prog 25 #[.agg #[.string s, .slice A l.length k]] W (RetB (.tuple #[.slice none 0 0, .int .i64 8]) W)) := fun W g h => (attMarshal s _ l W g h (by omega) (by omega)).mono fun e w' hh => by rw [hm] at hh; exact hh.no
  have h2' : (ml.length : Int) ≤ 2000 := by omega
  have HS := Lib.hid (Sit.new (s := s) hG hv)
  clear hv hG hf hm hM h2
  go_enter Tryz.func9, Tryz.ntmps9
  go_wp2_with (first | ((go_at_call 11); (with_reducible refine (HA.out _ HS.out.glo).mono ?_); rintro e w1 ⟨rfl, hbw1⟩; have HS1 := Lib.hid (HS.out.call hbw1); have c0 := HS1.out.q0; have c1 := HS1.out.q1) | ((go_at_call 24); (with_reducible refine (HF.out _ HS1.out.isb).mono ?_); rintro e w2 ⟨rfl, hbw2⟩; have HS2 := Lib.hid (HS1.out.call hbw2); have d0 := HS2.out.q0; have d1 := HS2.out.q1) | ((go_at_call 25); (with_reducible refine (HM.out _ HS2.out.glo HS2.out.isb).mono ?_); rintro e w3 ⟨rfl, hbw3⟩; have HS3 := Lib.hid (HS2.out.call hbw3)))
  go_ret
  exact ⟨rfl, HS3.out.bel⟩

theorem grow {W w5 : World} {B : Nat} {o : Obj} (hB : W.heap.size = B) (hb : Below B (W.alloc o) w5) : Below W.heap.size W w5 := by
  subst hB
  exact ((Below.refl _ _).alloc (Nat.le_refl _) o).trans hb
theorem emptyOw (W : World) : OwB (W.alloc (.cells #[] 5)) W.heap.size 5 (.slice (some ⟨W.heap.size, 0, none⟩) 0 0) [] := by
  have := World.ownsRow_lit (base := W.heap.size) (e := 5) (size := 1) W #[] 0 (Nat.le_refl _) (by decide) rfl
  show OwB _ _ _ _ _
  simpa [OwB, bCells] using this

set_option maxRecDepth 100000 in
set_option maxHeartbeats 16000000 in
theorem ends (s : ByteArray) (v m : Value) (l ml c : List UInt8) (a : Int) (i : Nat) (w : World) (hv : IsB w v l) (hM : IsB w m ml) (hG : Glo w) (hf : s.size ≤ 200 ∧ l.length ≤ 1000) (h2 : ml.length ≤ 2000) (hm : marA s.data.toList l = some c) (hc2 : 2 ≤ c.length) (hc3 : c.length ≤ 3000)
    (ha : 0 ≤ a ∧ a < 65536) (hi : a.toNat % c.length = i) : Calls Tryz.prog 9 #[.agg #[.string s, v], .int .u16 a, m] w (RetB (.bool true) w) := by
  have hlen := hM.len ulB
  obtain ⟨A, k, rfl⟩ := isB_slice hv
  obtain ⟨AM, kM, rfl⟩ := isB_slice hM
  have hil : i < c.length := by rw [← hi]; exact Nat.mod_lt _ (by omega)
  have hp1 := parA_take hm hc3 hil
  have hil' : (c.take i).length ≤ c.length := by simp; omega
  have HA : Hid (∀ W, Glo W → Calls Tryz.prog 11 #[] W (RetB (.bool true) W)) := awake_any
  have HF : Hid (∀ W, IsB W (.slice A l.length k) l → Calls Tryz.prog 24 #[.agg #[.string s, .slice A l.length k]] W (RetB (.bool true) W)) := fun W h => by have := rFewAttr s _ l W h (by omega); rwa [decide_eq_true hf] at this
  have HM : Hid (∀ W, Glo W → IsB W (.slice A l.length k) l → Calls Tryz.prog 25 #[.agg #[.string s, .slice A l.length k]] W (RetOidY c W)) := fun W g h => (attMarshal s _ l W g h (by omega) (by omega)).mono fun e w' hh => by rw [hm] at hh; exact hh.yes
  have HP1 : Hid (∀ W u, Glo W → IsB W u (c.take i) → Calls Tryz.prog 29 #[u] W (RetPE (c.take i).length W)) := fun W u g h => by have := attParse u _ W g h (by omega); rwa [hp1] at this
  have HP2 : Hid (∀ W u, Glo W → IsB W u (c ++ ml) → Calls Tryz.prog 29 #[u] W (fun e w' => Below W.heap.size W w' ∧ ∃ (S : ByteArray) (A : Option Addr) (n k : Nat) (q o : Int), e = .returned (.tuple #[.agg #[.string S, .slice A n k], .agg #[.int .i64 q, .int .i64 o]]) ∧ (q == 0) = ((ml.length : Int) == 0))) := fun W u g h => by
    have := attParse u _ W g h (by simp; omega)
    by_cases h0 : ml = []
    · subst h0
      rw [List.append_nil, mar_parA hm (by omega)] at this
      exact this.mono fun e w' ⟨A, k, he, _, hb⟩ => ⟨hb, _, _, _, _, 0, 0, he, rfl⟩
    · rw [parA_more hm hc3 h2 h0] at this
      refine this.mono fun e w' ⟨hb, q, o, hq, _, _, he⟩ => ⟨hb, _, _, _, _, q, o, he, ?_⟩
      have : ml.length ≠ 0 := fun h => h0 (List.eq_nil_of_length_eq_zero h)
      rw [beq_eq_false_iff_ne.2 (by omega : q ≠ 0), beq_eq_false_iff_ne.2 (by omega : (ml.length : Int) ≠ 0)]
  have HMM := Lib.hid hM
  have HS := Lib.hid (Sit.new (s := s) hG hv)
  have hmod : a.tmod (c.length : Int) = (i : Int) := by rw [Int.tmod_eq_emod_of_nonneg ha.1, ← hi, Int.natCast_emod, Int.toNat_of_nonneg ha.1]
  have hc0 : ¬ ((c.length : Int) = 0) := by omega
  have hwr : IntKind.i64.wrap a = a := by rw [IntKind.wrap_i64]; omega
  have hiI : (i : Int) ≤ c.length := by omega
  have h2' : (ml.length : Int) ≤ 2000 := by omega
  clear hv hG hf hm hi hp1 hM
  generalize hT : c.take i = T at *
  go_enter Tryz.func9, Tryz.ntmps9
  go_wp2_with (first | ((go_at_call 11); (with_reducible refine (HA.out _ HS.out.glo).mono ?_); rintro e w1 ⟨rfl, hbw1⟩; have HS1 := Lib.hid (HS.out.call hbw1); have c0 := HS1.out.q0; have c1 := HS1.out.q1) | ((go_at_call 24); (with_reducible refine (HF.out _ HS1.out.isb).mono ?_); rintro e w2 ⟨rfl, hbw2⟩; have HS2 := Lib.hid (HS1.out.call hbw2); have d0 := HS2.out.q0; have d1 := HS2.out.q1) | ((go_at_call 25); (with_reducible refine (HM.out _ HS2.out.glo HS2.out.isb).mono ?_); rintro e w3 ⟨v3, rfl, ho3, hbw3⟩; have hI3 := (IsR.of_own ho3).bytes; obtain ⟨A3, k3, rfl⟩ := isB_slice hI3; have HI3 := Lib.hid hI3; have HS3 := Lib.hid (HS2.out.call hbw3); obtain ⟨u3, hcut, hU⟩ := isB_cutHi (P := Tryz.prog) hI3 ulB szB .i64 (hi := (i : Int)) (by omega) hiI; rw [Int.toNat_natCast, hT] at hU; obtain ⟨A4, k4, rfl⟩ := isB_slice hU; have HU := Lib.hid hU; clear ho3 hI3 hU) | ((go_at_call 29); (with_reducible refine (HP1.out _ _ HS3.out.glo HU.out).mono ?_); rintro e w4 ⟨hbw4, q, o, hq1, ho0, ho1, rfl⟩; have hq0 : ¬ (q = 0) := (by omega); have HS4 := Lib.hid (((HS3.out.call hbw4).alloc (.cells #[.string ⟨#[]⟩, .slice none 0 0] 37)).alloc (.cells #[.int .i64 q, .int .i64 o] 41)); have HI4 := Lib.hid (((HI3.out.below hbw4).alloc (.cells #[.string ⟨#[]⟩, .slice none 0 0] 37)).alloc (.cells #[.int .i64 q, .int .i64 o] 41)); have hz4 : ((w4.alloc (.cells #[.string ⟨#[]⟩, .slice none 0 0] 37)).alloc (.cells #[.int .i64 q, .int .i64 o] 41)).heap.size = w4.heap.size + 1 + 1 := (by simp); have he4 := emptyOw ((w4.alloc (.cells #[.string ⟨#[]⟩, .slice none 0 0] 37)).alloc (.cells #[.int .i64 q, .int .i64 o] 41)); rw [hz4] at he4; have HE4 := Lib.hid he4; have HK4 := Lib.hid (twoOld (w2 := w4) (X := #[.string ⟨#[]⟩, .slice none 0 0]) (Y := #[.int .i64 q, .int .i64 o]) (t := 37) (u := 41) (Below.refl _ _)).2.1; clear he4) | (at_builtin; refine wpList_appB _ rfl _ _ 22 rfl (w4.heap.size + 1 + 1) 5 ulB infoB _ c rfl HO5.out _ ml rfl (HMM.out.below HS5.out.bel) (by omega) (by omega) ?_; intro u6 w6 ho6 _ hb6; have hI6 := (IsR.of_own ho6).bytes; obtain ⟨A6, k6, rfl⟩ := isB_slice hI6; rw [List.length_append] at hI6; have HI6 := Lib.hid hI6; have HS6 := Lib.hid (HS4.out.call (grow hz4 (HB5.out.trans hb6))); have HK6 := Lib.hid (HK5.out.below hb6 (Nat.lt_succ_self _)); clear ho6 hb6 hI6) | (at_builtin; refine wpList_appB _ rfl _ _ 22 rfl (w4.heap.size + 1 + 1) 5 ulB infoB _ [] rfl HE4.out _ c rfl (HI4.out.alloc _) (by simp; omega) (by simp) ?_; intro u5 w5 ho5 _ hb5; rw [List.nil_append] at ho5; obtain ⟨A5, k5, rfl⟩ := isB_slice (IsR.of_own ho5).bytes; have HO5 := Lib.hid ho5; have HB5 := Lib.hid hb5; have HS5 := Lib.hid (HS4.out.call (grow hz4 hb5)); have HK5 := Lib.hid ((HK4.out.alloc (.cells #[] 5)).below hb5 (Nat.lt_succ_self _)); have hs5 := hb5.size; simp at hs5; clear ho5 hb5) | ((go_at_call 29); (with_reducible refine (HP2.out _ _ HS6.out.glo HI6.out).mono ?_); rintro e w7 ⟨hbw7, S7, A7, n7, k7, q7, o7, rfl, hq7⟩; have HK7 := Lib.hid (HK6.out.call hbw7); have l7 := HK7.out.lt; have l7b : w4.heap.size < w7.heap.size := (by omega); have l7c : ¬ (w4.heap.size = w7.heap.size) := (by omega); have q7' := HK7.out.q; have HS7 := Lib.hid (HS6.out.call hbw7)))
  go_ret
  exact ⟨by simp [hq0, bne, beq_eq_false_iff_ne.2 hq0], ((HS7.out.alloc _).alloc _).bel⟩

theorem wf_u16 {a : Int} (h : (Lit.int .u16 a).wf = true) : 0 ≤ a ∧ a < 65536 := by have e1 : IntKind.u16.min = 0 := rfl; have e2 : IntKind.u16.max = 65535 := rfl; simp [Lit.wf] at h; omega
theorem walk (s : ByteArray) (v : Value) (l : List UInt8) (a : Int) (m : Value) (ml : List UInt8) (w : World) (hv : IsB w v l) (hs : s.size ≤ maxLen) (ha : (Lit.int .u16 a).wf = true) (hM : IsB w m ml) (hG : Glo w) : Calls Tryz.prog 9 #[.agg #[.string s, v], .int .u16 a, m] w (RetB (.bool true) w) := by
  by_cases hf : s.size ≤ 200 ∧ l.length ≤ 1000
  · by_cases h2 : ml.length ≤ 2000
    · cases hm : marA s.data.toList l with
      | none => exact mar_no s v m l ml a w hv hM hG hf h2 hm
      | some c =>
        obtain ⟨h3, h4⟩ := marLen hm hf.1 hf.2
        exact ends s v m l ml c a _ w hv hM hG hf h2 hm h3 h4 (wf_u16 ha) rfl
    · exact long s v m l ml a w hv hM hG hf (by omega)
  · exact few_no s v m l ml a w hv (by unfold maxLen at hs; omega) hG hf

theorem witness_row (os : Os) {H : Type} (enc : TypeId × Value → H) :
    (OpenSpec.ofChange Rows.attributeEndsSpec).preRow enc Tryz.prog Tryz.f9 Rows.attributeEndsRow.domain false Rows.attributeEndsRow.laid ((laidW os).forCall (fun _ _ => 0) ⟨#[], #[.agg #[.string ⟨#[]⟩, .slice none 0 0], .int .u16 0, .slice none 0 0], []⟩).memory #[.agg #[.string ⟨#[]⟩, .slice none 0 0], .int .u16 0, .slice none 0 0] := by
  have hw : (DataW.whole enc Tryz.prog ((laidW os).forCall (fun _ _ => 0) ⟨#[], #[.agg #[.string ⟨#[]⟩, .slice none 0 0], .int .u16 0, .slice none 0 0], []⟩).memory Tryz.f9.params.toList (OpenSpec.ofChange Rows.attributeEndsSpec).vars false #[(.agg #[.string ⟨#[]⟩, .slice none 0 0] : Value), (.int .u16 0 : Value), (.slice none 0 0 : Value)].toList 8).map (fun x => (x.1, x.2.1)) =
      some ([.agg [.lit (.string []), .nil], .lit (.int .u16 0), .nil], []) := by kernel_rfl
  obtain ⟨⟨x1, x2, x3⟩, hx, hx1⟩ := Option.map_eq_some_iff.1 hw
  simp only [Prod.mk.injEq] at hx1
  obtain ⟨rfl, rfl⟩ := hx1
  exact OpenSpec.preRow_of_cond 8 hx (by kernel_rfl) (fun k hk => by cases hk) (by kernel_rfl) (laidW_met os _)

set_option maxRecDepth 100000 in
set_option maxHeartbeats 2000000 in
theorem lifted (os : Os) (started : os.Started) (H : Type) (enc : TypeId × Value → H) (F : Stop.Interp) :
    ReturnsInHanded {} Tryz.checked os 9 .any ((OpenSpec.ofChange Rows.attributeEndsSpec).preRow enc Tryz.prog Tryz.f9 Rows.attributeEndsRow.domain false Rows.attributeEndsRow.laid) (((OpenSpec.ofChange Rows.attributeEndsSpec).at F).post enc Tryz.prog Tryz.f9 false true false false) := by
  refine returnsInHanded_of_row (C := Tryz.checked) (s := OpenSpec.ofChange Rows.attributeEndsSpec) lw_own started (by kernel_rfl) Tryz.func9
    (witness_laid #[.agg #[.string ⟨#[]⟩, .slice none 0 0], .int .u16 0, .slice none 0 0] (by kernel_rfl) (witness_row os enc)) ?_
  intro W base args ds gs before hval0 hW hcnd _ hz0 hL hsh _
  have hG : Glo W := glo_of W hL hsh
  have hval : ∀ (j : Nat) t v, Tryz.f9.params[j]? = some t → args[j]? = some v → Value.okWide Tryz.prog W .any base t v := hval0
  have hW' := hW
  obtain ⟨p, q, hA0, hV, rfl, hfz, hnd⟩ := hW
  have hA : DataW.TrodAll enc Tryz.prog W 0 (fun _ => true) true Tryz.f9.params.toList args.toList ds p := hA0
  rw [Tryz.params9] at hA hval
  obtain ⟨v0, vs0, d0, ds0, p0, q0, hargs, rfl, rfl, h0, r0⟩ := trodAll_cons hA
  obtain ⟨v1, vs1, d1, ds1, p1, q1, rfl, rfl, rfl, h1, r1⟩ := trodAll_cons r0
  obtain ⟨v2, vs2, d2, ds2, p2, q2, rfl, rfl, rfl, h2, r2⟩ := trodAll_cons r1
  obtain ⟨rfl, rfl, rfl⟩ := trodAll_nil r2
  obtain rfl : args = #[v0, v1, v2] := by cases args; simp_all
  obtain ⟨rfl, rfl⟩ := trodVars_none hV
  have lt0 : ∀ x ∈ p0, x.block < W.heap.size := by obtain ⟨m, hm⟩ := h0; exact DataW.trod_lt m _ _ _ hm
  obtain ⟨s0, x0, l0, rfl, z0, w0⟩ := open_attr (hval 0 37 v0 rfl rfl) h0
  obtain ⟨a1, rfl, rfl, rfl, w1⟩ := open_int (by kernel_rfl : Tryz.prog.underlying 48 = some (.int .u16)) (hval 1 48 v1 rfl rfl) h1
  have lt2 : ∀ x ∈ p2, x.block < W.heap.size := by obtain ⟨m, hm⟩ := h2; exact DataW.trod_lt m _ _ _ hm
  obtain ⟨l2, w2⟩ := open_bytes (hval 2 22 v2 rfl rfl) h2
  clear hA0 hval0
  refine (walk s0 x0 l0 a1 _ l2 W w0 z0 w1 w2 hG).mono fun e W' ⟨he, bel⟩ => ?_
  subst he
  exact ⟨_, rfl, _, _, _, [], _, [], hW', trodAll_mk1 (shut_bool (by kernel_rfl : Tryz.prog.underlying 4 = some .bool) _), (trodAll_cons_mk (Below.trod lw_laidOut (by kernel_rfl) (of_decide_eq_true (by kernel_rfl)) h0 bel lt0) (trodAll_cons_mk (shut_int (by kernel_rfl : Tryz.prog.underlying 48 = some (.int .u16)) w1) (trodAll_cons_mk (Below.trod lw_laidOut (by kernel_rfl) (of_decide_eq_true (by kernel_rfl)) h2 bel lt2) trodAll_mk0))), rfl, bel.frame _, fun h => by cases h⟩

theorem holds : Rows.AttributeEndsSaid :=
  OpenClaim.holds_of_cond 9 Tryz.f9 rfl rfl rfl rfl rfl rfl rfl ⟨rfl, rfl, rfl, rfl, rfl⟩ rfl rfl rfl rfl rfl (by kernel_rfl) Tryz.func9 (by kernel_rfl)
    (of_decide_eq_true (by kernel_rfl)) (by unfold Func.isWrapper; first | (rw [if_pos (by decide +kernel)]; kernel_rfl) | (rw [if_neg (by decide +kernel)]; exact ⟨rfl, rfl⟩))
    (fun os started H enc _ F0 => by rw [OpenClaim.pre_eq_preRow]; exact lifted os started H enc F0)

theorem proved : Rows.AttributeEndsCardSaid :=
  Claim7.holds_tied_plain_at .later [] [.data, .data, .data, .data, .sentinel, .sentinel, .pinned] true (true, "a669af08838cfad0aa38966214e8cb1e037c880dbfa1422bd235b91a679aa7b7") true holds (fun _ h => by cases h) (by kernel_rfl) (fun _ h => by cases h) attributeEnds_row_tie rfl ⟨rfl, rfl⟩ (by kernel_rfl) rfl
    (fun f fn hf hfn => by
      obtain rfl : f = 9 := Option.some.inj ((show Tryz.prog.funcNamed "cretula/cretulalaw11.AttributeEnds" = some 9 by kernel_rfl).symm.trans hf) |>.symm
      obtain rfl : fn = Tryz.f9 := (Option.some.inj (Tryz.func9.symm.trans hfn)).symm
      exact ⟨by kernel_rfl, fun j t ht => by
        rw [Tryz.params9] at ht
        have hm : t ∈ [37, 48, 22] := by simpa using Array.mem_of_getElem? ht
        have hall : ([37, 48, 22].all fun u => !Tryz.prog.wantsStandIn u) = true := by kernel_rfl
        exact (show Tryz.prog.wantsStandIn t = false by simpa using List.all_eq_true.1 hall t hm)⟩)
    (by kernel_rfl)
#print axioms proved
end Go.Proofs.YtejmkefdcjachaaGreatDoor.EndsDone
