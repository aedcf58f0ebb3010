/- AttributeMarshals: any attribute is valid, and is marshalled, as in the reference implementation; what is marshalled is parsed as the same attribute. No condition beyond the row's own. -/
import Derived.Test.YtejmkefdcjachaaGreatDoorJ41
import Derived.Test.YtejmkefdcjachaaGreatDoorJ42
import Derived.Test.YtejmkefdcjachaaGreatDoorTie
import Derived.Test.YtejmkefdcjachaaGreatDoorCards
import Derived.Deep.RegionHeld3
import Derived.SevenTiedAt
import Derived.JoinedCond
set_option linter.unusedSimpArgs false
set_option linter.unusedVariables false
namespace Go.Proofs.YtejmkefdcjachaaGreatDoor.MarshDone
open Go.RowKit Go.Cr Go.ChangeShapes Go.WideShapes Go.ChangeAt Go.Lib

structure SB (w : World) (s : ByteArray) (A : Option Addr) (l : List UInt8) (k : Nat) (x y : Value) (c : List UInt8) (W : World) : Prop where
  sit : Sit w W s A l k
  ix : IsB W x c
  iy : IsB W y c
theorem SB.call {w : World} {s : ByteArray} {A : Option Addr} {l : List UInt8} {k : Nat} {x y : Value} {c : List UInt8} {W W' : World} (h : SB w s A l k x y c W) (hb : Below W.heap.size W W') : SB w s A l k x y c W' := ⟨h.sit.call hb, h.ix.below hb, h.iy.below hb⟩
theorem SB.drew {w : World} {s : ByteArray} {A : Option Addr} {l : List UInt8} {k : Nat} {x y : Value} {c : List UInt8} {W : World} (h : SB w s A l k x y c W) : SB w s A l k x y c W.drew := h.call (Below.refl _ _).drew
theorem SB.alloc {w : World} {s : ByteArray} {A : Option Addr} {l : List UInt8} {k : Nat} {x y : Value} {c : List UInt8} {W : World} (h : SB w s A l k x y c W) (o : Obj) : SB w s A l k x y c (W.alloc o) := h.call ((Below.refl _ _).alloc (Nat.le_refl _) o)
theorem SB.all {w : World} {s : ByteArray} {A : Option Addr} {l : List UInt8} {k : Nat} {x y : Value} {c : List UInt8} {W : World} (h : SB w s A l k x y c W) : SB w s A l k x y c W ∧ W.cell? ⟨w.heap.size, 0, none⟩ = some (.string s) ∧ W.cell? ⟨w.heap.size, 1, none⟩ = some (.slice A l.length k) := ⟨h, h.sit.q0, h.sit.q1⟩

theorem marA_len {s : ByteArray} {l c : List UInt8} (h : marA s.data.toList l = some c) (hs : s.size ≤ 200) (hl : l.length ≤ 1000) : c.length ≤ 3000 := by
  obtain ⟨o, ho, _, rfl⟩ := marA_some h
  have h1 := oidE_len ho
  have h2 : s.data.toList.length = s.size := rfl
  have h3 := encO_len 0 16 true (encO 0 false 6 o ++ l)
  have h4 := encO_len 0 6 false o
  have h5 := lenOct_len o.length
  have h6 := lenOct_len (encO 0 false 6 o ++ l).length
  rw [List.length_append] at h3 h6
  omega

set_option maxRecDepth 100000 in
set_option maxHeartbeats 4000000 in
theorem few_no (s : ByteArray) (v : Value) (l : List UInt8) (w : World) (hv : IsB w v l) (hs : s.size ≤ 9223372036854775807) (hG : Glo w) (hf : ¬ (s.size ≤ 200 ∧ l.length ≤ 1000)) : Calls Tryz.prog 6 #[.agg #[.string s, v]] w (RetB (.bool true) w) := by
  obtain ⟨A, k, rfl⟩ := isB_slice hv
  have HA : Hid (∀ W, Glo W → Calls Tryz.prog 11 #[] W (RetB (.bool true) W)) := awake_any
  have HF : Hid (∀ W, IsB W (.slice A l.length k) l → Calls Tryz.prog 24 #[.agg #[.string s, .slice A l.length k]] W (RetB (.bool false) W)) := fun W h => by have := rFewAttr s _ l W h hs; rwa [decide_eq_false hf] at this
  have HS := Lib.hid (Sit.new (s := s) hG hv)
  clear hv hs hG hf
  go_enter Tryz.func6, Tryz.ntmps6
  go_wp2_with (first | ((go_at_call 11); (with_reducible refine (HA.out _ HS.out.glo).mono ?_); rintro e w1 ⟨rfl, hbw1⟩; have HS1 := Lib.hid (HS.out.call hbw1); have c0 := HS1.out.q0; have c1 := HS1.out.q1) | ((go_at_call 24); (with_reducible refine (HF.out _ HS1.out.isb).mono ?_); rintro e w2 ⟨rfl, hbw2⟩; have HS2 := Lib.hid (HS1.out.call hbw2)) | ((go_at_call 11); (with_reducible refine (HA.out _ HS2.out.glo).mono ?_); rintro e w3 ⟨rfl, hbw3⟩; have HS3 := Lib.hid (HS2.out.call hbw3)))
  go_ret
  exact ⟨rfl, HS3.out.bel⟩

set_option maxRecDepth 100000 in
set_option maxHeartbeats 8000000 in
theorem mar_no (s : ByteArray) (v : Value) (l : List UInt8) (w : World) (hv : IsB w v l) (hG : Glo w) (hf : s.size ≤ 200 ∧ l.length ≤ 1000) (hm : marA s.data.toList l = none) : Calls Tryz.prog 6 #[.agg #[.string s, v]] w (RetB (.bool true) w) := by
  obtain ⟨A, k, rfl⟩ := isB_slice hv
  have HA : Hid (∀ W, Glo W → Calls Tryz.prog 11 #[] W (RetB (.bool true) W)) := awake_any
  have HF : Hid (∀ W, IsB W (.slice A l.length k) l → Calls Tryz.prog 24 #[.agg #[.string s, .slice A l.length k]] W (RetB (.bool true) W)) := fun W h => by have := rFewAttr s _ l W h (by omega); rwa [decide_eq_true hf] at this
  have HM : Hid (∀ W, Glo W → IsB W (.slice A l.length k) l → Calls Tryz.prog 25 #[.agg #[.string s, .slice A l.length k]] W (RetB (.tuple #[.slice none 0 0, .int .i64 8]) W)) := fun W g h => (attMarshal s _ l W g h (by omega) (by omega)).mono fun e w' hh => by rw [hm] at hh; exact hh.no
  have HR : Hid (∀ W, IsB W (.slice A l.length k) l → Calls Tryz.prog 26 #[.agg #[.string s, .slice A l.length k]] W (RetB (.tuple #[.slice none 0 0, .int .i64 8]) W)) := fun W h => (rAttMarshal s _ l W h (by omega) (by omega)).mono fun e w' hh => by rw [hm] at hh; exact hh.no
  have HV : Hid (∀ W, Glo W → IsB W (.slice A l.length k) l → Calls Tryz.prog 27 #[.agg #[.string s, .slice A l.length k]] W (RetB (.bool false) W)) := fun W g h => by have := attValid s _ l W g h (by omega) (by omega); rwa [hm] at this
  have HW : Hid (∀ W, IsB W (.slice A l.length k) l → Calls Tryz.prog 28 #[.agg #[.string s, .slice A l.length k]] W (RetB (.bool false) W)) := fun W h => by have := rAttValid s _ l W h (by omega) (by omega); rwa [hm] at this
  have HB : Hid (∀ W, Calls Tryz.prog 17 #[.slice none 0 0, .slice none 0 0] W (RetB (.bool true) W)) := fun W => by have := bytes_any _ _ [] [] W (isB_nil0 W) (isB_nil0 W); rwa [decide_eq_true rfl] at this
  have HS := Lib.hid (Sit.new (s := s) hG hv)
  clear hv hG hf hm
  go_enter Tryz.func6, Tryz.ntmps6
  go_wp2_with (first | ((go_at_call 11); (with_reducible refine (HA.out _ HS.out.glo).mono ?_); rintro e w1 ⟨rfl, hbw1⟩; have HS1 := Lib.hid (HS.out.call hbw1); have c0 := HS1.out.q0; have c1 := HS1.out.q1) | ((go_at_call 24); (with_reducible refine (HF.out _ HS1.out.isb).mono ?_); rintro e w2 ⟨rfl, hbw2⟩; have HS2 := Lib.hid (HS1.out.call hbw2); have d0 := HS2.out.q0; have d1 := HS2.out.q1) | ((go_at_call 25); (with_reducible refine (HM.out _ HS2.out.glo HS2.out.isb).mono ?_); rintro e w3 ⟨rfl, hbw3⟩; have HS3 := Lib.hid (HS2.out.call hbw3); have e0 := HS3.out.q0; have e1 := HS3.out.q1) | ((go_at_call 26); (with_reducible refine (HR.out _ HS3.out.isb).mono ?_); rintro e w4 ⟨rfl, hbw4⟩; have HS4 := Lib.hid (HS3.out.call hbw4); have f0 := HS4.out.q0; have f1 := HS4.out.q1))
  go_region_held3 (fun W' => Sit w W' s A l k ∧ W'.cell? ⟨w.heap.size, 0, none⟩ = some (.string s) ∧ W'.cell? ⟨w.heap.size, 1, none⟩ = some (.slice A l.length k))
    (first | exact HS7.out.all | exact HS6.out.all | exact HS5.out.all | exact HS4.out.all | exact HS4.out.drew.all)
    (first | ((go_at_call 17); (with_reducible refine (HB.out _).mono ?_); rintro e w5 ⟨rfl, hbw5⟩; have HS5 := Lib.hid (HS4.out.drew.call hbw5)) | ((go_at_call 27); (with_reducible refine (HV.out _ HS5.out.glo HS5.out.isb).mono ?_); rintro e w6 ⟨rfl, hbw6⟩; have HS6 := Lib.hid (HS5.out.call hbw6)) | ((go_at_call 28); (with_reducible refine (HW.out _ HS6.out.isb).mono ?_); rintro e w7 ⟨rfl, hbw7⟩; have HS7 := Lib.hid (HS6.out.call hbw7)))
  go_wp2
  go_region_held3 (fun W' => Sit w W' s A l k ∧ W'.cell? ⟨w.heap.size, 0, none⟩ = some (.string s) ∧ W'.cell? ⟨w.heap.size, 1, none⟩ = some (.slice A l.length k))
    (first | exact HS10.out.all | exact HS9.out.all | exact HS8.out.all | exact HS7.out.all | exact HS7.out.drew.all)
    (first | ((go_at_call 17); (with_reducible refine (HB.out _).mono ?_); rintro e w8 ⟨rfl, hbw8⟩; have HS8 := Lib.hid (HS7.out.drew.call hbw8)) | ((go_at_call 27); (with_reducible refine (HV.out _ HS8.out.glo HS8.out.isb).mono ?_); rintro e w9 ⟨rfl, hbw9⟩; have HS9 := Lib.hid (HS8.out.call hbw9)) | ((go_at_call 28); (with_reducible refine (HW.out _ HS9.out.isb).mono ?_); rintro e w10 ⟨rfl, hbw10⟩; have HS10 := Lib.hid (HS9.out.call hbw10)))
  go_wp2
  go_ret
  exact ⟨rfl, HS10.out.bel⟩

set_option maxRecDepth 100000 in
set_option maxHeartbeats 8000000 in
theorem mar_yes (s : ByteArray) (v : Value) (l c : List UInt8) (w : World) (hv : IsB w v l) (hG : Glo w) (hf : s.size ≤ 200 ∧ l.length ≤ 1000) (hm : marA s.data.toList l = some c) (hc : c.length ≤ 90000) : Calls Tryz.prog 6 #[.agg #[.string s, v]] w (RetB (.bool true) w) := by
  obtain ⟨A, k, rfl⟩ := isB_slice hv
  have HA : Hid (∀ W, Glo W → Calls Tryz.prog 11 #[] W (RetB (.bool true) W)) := awake_any
  have HF : Hid (∀ W, IsB W (.slice A l.length k) l → Calls Tryz.prog 24 #[.agg #[.string s, .slice A l.length k]] W (RetB (.bool true) W)) := fun W h => by have := rFewAttr s _ l W h (by omega); rwa [decide_eq_true hf] at this
  have HM : Hid (∀ W, Glo W → IsB W (.slice A l.length k) l → Calls Tryz.prog 25 #[.agg #[.string s, .slice A l.length k]] W (RetOidY c W)) := fun W g h => (attMarshal s _ l W g h (by omega) (by omega)).mono fun e w' hh => by rw [hm] at hh; exact hh.yes
  have HR : Hid (∀ W, IsB W (.slice A l.length k) l → Calls Tryz.prog 26 #[.agg #[.string s, .slice A l.length k]] W (RetOidY c W)) := fun W h => (rAttMarshal s _ l W h (by omega) (by omega)).mono fun e w' hh => by rw [hm] at hh; exact hh.yes
  have HV : Hid (∀ W, Glo W → IsB W (.slice A l.length k) l → Calls Tryz.prog 27 #[.agg #[.string s, .slice A l.length k]] W (RetB (.bool true) W)) := fun W g h => by have := attValid s _ l W g h (by omega) (by omega); rwa [hm] at this
  have HW : Hid (∀ W, IsB W (.slice A l.length k) l → Calls Tryz.prog 28 #[.agg #[.string s, .slice A l.length k]] W (RetB (.bool true) W)) := fun W h => by have := rAttValid s _ l W h (by omega) (by omega); rwa [hm] at this
  have HB : Hid (∀ W x y, IsB W x c → IsB W y c → Calls Tryz.prog 17 #[x, y] W (RetB (.bool true) W)) := fun W x y h1 h2 => by have := bytes_any x y c c W h1 h2; rwa [decide_eq_true rfl] at this
  have HP : Hid (∀ W x, Glo W → IsB W x c → Calls Tryz.prog 29 #[x] W (fun e w' => ∃ A k, e = .returned (.tuple #[.agg #[.string s, .slice A l.length k], errV (0, 0)]) ∧ OwB w' W.heap.size 5 (.slice A l.length k) l ∧ Below W.heap.size W w')) := fun W x g h => by have := attParse x c W g h hc; rw [mar_parA hm (by omega)] at this; exact this.mono fun e w' ⟨A, k, he, ho, hb⟩ => ⟨A, k, by rw [he, bStr_eq], ho, hb⟩
  have HQ : Hid (∀ W x, IsB W x l → IsB W (.slice A l.length k) l → Calls Tryz.prog 30 #[.agg #[.string s, x], .agg #[.string s, .slice A l.length k]] W (RetB (.bool true) W)) := fun W x h1 h2 => by have := attSame s s x _ l l W h1 h2; rwa [decide_eq_true ⟨rfl, rfl⟩] at this
  have HS := Lib.hid (Sit.new (s := s) hG hv)
  clear hv hG hf hm hc
  go_enter Tryz.func6, Tryz.ntmps6
  go_wp2_with (first | ((go_at_call 11); (with_reducible refine (HA.out _ HS.out.glo).mono ?_); rintro e w1 ⟨rfl, hbw1⟩; have HS1 := Lib.hid (HS.out.call hbw1); have c0 := HS1.out.q0; have c1 := HS1.out.q1) | ((go_at_call 24); (with_reducible refine (HF.out _ HS1.out.isb).mono ?_); rintro e w2 ⟨rfl, hbw2⟩; have HS2 := Lib.hid (HS1.out.call hbw2); have d0 := HS2.out.q0; have d1 := HS2.out.q1) | ((go_at_call 25); (with_reducible refine (HM.out _ HS2.out.glo HS2.out.isb).mono ?_); rintro e w3 ⟨v3, rfl, ho3, hbw3⟩; obtain ⟨A3, k3, rfl⟩ := isB_slice ho3.isB; have HI3 := Lib.hid ho3.isB; have HS3 := Lib.hid (HS2.out.call hbw3); have e0 := HS3.out.q0; have e1 := HS3.out.q1; clear ho3) | ((go_at_call 26); (with_reducible refine (HR.out _ HS3.out.isb).mono ?_); rintro e w4 ⟨v4, rfl, ho4, hbw4⟩; obtain ⟨A4, k4, rfl⟩ := isB_slice ho4.isB; have HS4 := Lib.hid (show SB w s A l k (.slice A3 c.length k3) (.slice A4 c.length k4) c w4 from ⟨HS3.out.call hbw4, HI3.out.below hbw4, ho4.isB⟩); clear ho4))
  go_region_held3 (fun W' => SB w s A l k (.slice A3 c.length k3) (.slice A4 c.length k4) c W' ∧ W'.cell? ⟨w.heap.size, 0, none⟩ = some (.string s) ∧ W'.cell? ⟨w.heap.size, 1, none⟩ = some (.slice A l.length k))
    (first | exact HS7.out.all | exact HS6.out.all | exact HS5.out.all | exact HS4.out.all | exact HS4.out.drew.all)
    (first | ((go_at_call 17); (with_reducible refine (HB.out _ _ _ HS4.out.drew.ix HS4.out.drew.iy).mono ?_); rintro e w5 ⟨rfl, hbw5⟩; have HS5 := Lib.hid (HS4.out.drew.call hbw5)) | ((go_at_call 27); (with_reducible refine (HV.out _ HS5.out.sit.glo HS5.out.sit.isb).mono ?_); rintro e w6 ⟨rfl, hbw6⟩; have HS6 := Lib.hid (HS5.out.call hbw6)) | ((go_at_call 28); (with_reducible refine (HW.out _ HS6.out.sit.isb).mono ?_); rintro e w7 ⟨rfl, hbw7⟩; have HS7 := Lib.hid (HS6.out.call hbw7)))
  go_wp2_with (first | ((go_at_call 29); (with_reducible refine (HP.out _ _ HS7.out.sit.glo HS7.out.ix).mono ?_); rintro e w8 ⟨A8, k8, rfl, ho8, hbw8⟩; have HS8 := Lib.hid (HS7.out.call hbw8); have HI8 := Lib.hid ho8.isB; have K8 := HS8.out.sit.blk; have lK8 := K8.lt; have qK8 := K8.q; clear ho8) | ((go_at_call 30); (with_reducible refine (HQ.out _ _ ((HI8.out.alloc _).alloc _) ((HS8.out.sit.isb.alloc _).alloc _)).mono ?_); rintro e w9 ⟨rfl, hbw9⟩; have HS9 := Lib.hid (((HS8.out.alloc _).alloc _).call hbw9)))
  go_ret
  exact ⟨rfl, HS9.out.sit.bel⟩

theorem walk (s : ByteArray) (x : Value) (l : List UInt8) (w : World) (hv : IsB w x l) (hs : s.size ≤ maxLen) (hG : Glo w) : Calls Tryz.prog 6 #[.agg #[.string s, x]] w (RetB (.bool true) w) := by
  by_cases hf : s.size ≤ 200 ∧ l.length ≤ 1000
  · cases hm : marA s.data.toList l with
    | none => exact mar_no s x l w hv hG hf hm
    | some c => exact mar_yes s x l c w hv hG hf hm (Nat.le_trans (marA_len hm hf.1 hf.2) (by decide))
  · exact few_no s x l w hv (by unfold maxLen at hs; omega) hG hf

theorem witness_row (os : Os) {H : Type} (enc : TypeId × Value → H) :
    (OpenSpec.ofChange Rows.attributeMarshalsSpec).preRow enc Tryz.prog Tryz.f6 Rows.attributeMarshalsRow.domain false Rows.attributeMarshalsRow.laid ((laidW os).forCall (fun _ _ => 0) ⟨#[], #[.agg #[.string ⟨#[]⟩, .slice none 0 0]], []⟩).memory #[.agg #[.string ⟨#[]⟩, .slice none 0 0]] := by
  have hw : (DataW.whole enc Tryz.prog ((laidW os).forCall (fun _ _ => 0) ⟨#[], #[.agg #[.string ⟨#[]⟩, .slice none 0 0]], []⟩).memory Tryz.f6.params.toList (OpenSpec.ofChange Rows.attributeMarshalsSpec).vars false #[(.agg #[.string ⟨#[]⟩, .slice none 0 0] : Value)].toList 8).map (fun x => (x.1, x.2.1)) =
      some ([.agg [.lit (.string []), .nil]], []) := by kernel_rfl
  obtain ⟨⟨x1, x2, x3⟩, hx, hx1⟩ := Option.map_eq_some_iff.1 hw
  simp only [Prod.mk.injEq] at hx1
  obtain ⟨rfl, rfl⟩ := hx1
  exact OpenSpec.preRow_of_cond 8 hx (by kernel_rfl) (fun k hk => by cases hk) (by kernel_rfl) (laidW_met os _)

set_option maxRecDepth 100000 in
set_option maxHeartbeats 2000000 in
theorem lifted (os : Os) (started : os.Started) (H : Type) (enc : TypeId × Value → H) (F : Stop.Interp) :
    ReturnsInHanded {} Tryz.checked os 6 .any ((OpenSpec.ofChange Rows.attributeMarshalsSpec).preRow enc Tryz.prog Tryz.f6 Rows.attributeMarshalsRow.domain false Rows.attributeMarshalsRow.laid) (((OpenSpec.ofChange Rows.attributeMarshalsSpec).at F).post enc Tryz.prog Tryz.f6 false true false false) := by
  refine returnsInHanded_of_row (C := Tryz.checked) (s := OpenSpec.ofChange Rows.attributeMarshalsSpec) lw_own started (by kernel_rfl) Tryz.func6
    (witness_laid #[.agg #[.string ⟨#[]⟩, .slice none 0 0]] (by kernel_rfl) (witness_row os enc)) ?_
  intro W base args ds gs before hval0 hW hcnd _ hz0 hL hsh _
  have hG : Glo W := glo_of W hL hsh
  have hval : ∀ (j : Nat) t v, Tryz.f6.params[j]? = some t → args[j]? = some v → Value.okWide Tryz.prog W .any base t v := hval0
  have hW' := hW
  obtain ⟨p, q, hA0, hV, rfl, hfz, hnd⟩ := hW
  have hA : DataW.TrodAll enc Tryz.prog W 0 (fun _ => true) true Tryz.f6.params.toList args.toList ds p := hA0
  rw [Tryz.params6] at hA hval
  obtain ⟨v0, vs0, d0, ds0, p0, q0, hargs, rfl, rfl, h0, r0⟩ := trodAll_cons hA
  obtain ⟨rfl, rfl, rfl⟩ := trodAll_nil r0
  obtain rfl : args = #[v0] := by cases args; simp_all
  obtain ⟨rfl, rfl⟩ := trodVars_none hV
  have lt0 : ∀ x ∈ p0, x.block < W.heap.size := by obtain ⟨m, hm⟩ := h0; exact DataW.trod_lt m _ _ _ hm
  obtain ⟨s0, x0, l0, rfl, z0, w0⟩ := open_attr (hval 0 37 v0 rfl rfl) h0
  clear hA0 hval0
  refine (walk s0 x0 l0 W w0 z0 hG).mono fun e W' ⟨he, bel⟩ => ?_
  subst he
  exact ⟨_, rfl, _, _, _, [], _, [], hW', trodAll_mk1 (shut_bool (by kernel_rfl : Tryz.prog.underlying 4 = some .bool) _), (trodAll_cons_mk (Below.trod lw_laidOut (by kernel_rfl) (of_decide_eq_true (by kernel_rfl)) h0 bel lt0) trodAll_mk0), rfl, bel.frame _, fun h => by cases h⟩

theorem holds : Rows.AttributeMarshalsSaid :=
  OpenClaim.holds_of_cond 6 Tryz.f6 rfl rfl rfl rfl rfl rfl rfl ⟨rfl, rfl, rfl, rfl, rfl⟩ rfl rfl rfl rfl rfl (by kernel_rfl) Tryz.func6 (by kernel_rfl)
    (of_decide_eq_true (by kernel_rfl)) (by unfold Func.isWrapper; first | (rw [if_pos (by decide +kernel)]; kernel_rfl) | (rw [if_neg (by decide +kernel)]; exact ⟨rfl, rfl⟩))
    (fun os started H enc _ F0 => by rw [OpenClaim.pre_eq_preRow]; exact lifted os started H enc F0)

theorem proved : Rows.AttributeMarshalsCardSaid :=
  Claim7.holds_tied_plain_at .later [] [.data, .data, .data, .data, .sentinel, .sentinel, .pinned] true (true, "a669af08838cfad0aa38966214e8cb1e037c880dbfa1422bd235b91a679aa7b7") true holds (fun _ h => by cases h) (by kernel_rfl) (fun _ h => by cases h) attributeMarshals_row_tie rfl ⟨rfl, rfl⟩ (by kernel_rfl) rfl
    (fun f fn hf hfn => by
      obtain rfl : f = 6 := Option.some.inj ((show Tryz.prog.funcNamed "cretula/cretulalaw11.AttributeMarshals" = some 6 by kernel_rfl).symm.trans hf) |>.symm
      obtain rfl : fn = Tryz.f6 := (Option.some.inj (Tryz.func6.symm.trans hfn)).symm
      exact ⟨by kernel_rfl, fun j t ht => by
        rw [Tryz.params6] at ht
        have hm : t ∈ [37] := by simpa using Array.mem_of_getElem? ht
        have hall : ([37].all fun u => !Tryz.prog.wantsStandIn u) = true := by kernel_rfl
        exact (show Tryz.prog.wantsStandIn t = false by simpa using List.all_eq_true.1 hall t hm)⟩)
    (by kernel_rfl)
#print axioms proved
end Go.Proofs.YtejmkefdcjachaaGreatDoor.MarshDone
