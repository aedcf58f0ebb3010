/- The parts OidW, Arcs, RefO, RefP, Text of one proof, one behind the other. -/
import Derived.Test.YtlmnmgokfnnbbaaGreatDoorQ07
import Derived.Test.YtlmnmgokfnnbbaaGreatDoorQ02
import Derived.Lib.AppendIntMem
import Derived.Lib.ConvBytes
import Derived.Lib.SmallJoins
import Derived.BigCall
import Derived.BigGuard
import Derived.Test.YtlmnmgokfnnbbaaGreatDoorQ05

/- Walks over layer 5 (oid), first part: decimal numbers, right, Arcs. -/
section
set_option linter.unusedSimpArgs false
set_option linter.unusedVariables false
namespace Go.Proofs.YtlmnmgokfnnbbaaGreatDoor
open Go.RowKit Go.Cr Go.Sort Go.Shelf
theorem ulU32s : Tryz.prog.underlying 140 = some (.slice 143) := by kernel_rfl
theorem szU32 (W : World) : (sizeOf 143).run Tryz.prog W = .ok 1 W := by kernel_rfl
theorem infoU32 : (Tryz.prog.info? 143).map (fun i => (i.zero, i.size, i.bytes)) = some (some (.int .u32 0), 1, 4) := by kernel_rfl

def bStr (l : List UInt8) : ByteArray := ⟨l.toArray⟩
theorem bStr_list (l : List UInt8) : (bStr l).data.toList = l := rfl
theorem bStr_eq (s : ByteArray) : bStr s.data.toList = s := by obtain ⟨a⟩ := s; simp [bStr]

theorem ret_bool {a b : Bool} (h : a = b) : Ending.returned (.bool a) = .returned (.bool b) := by rw [h]
set_option maxRecDepth 100000 in
set_option maxHeartbeats 2000000 in
theorem fmtIn (u : Nat) (w : World) (hG : Glo w) (hu : u < 18446744073709551616) :
    Calls Tryz.prog 197 #[.int .u64 u, .int .i64 10] w (RetB (.string (bStr (Lib.decDigits u))) w) := by
  have htab := hG.pow
  by_cases hi : u < 100
  · have HV : Hid (Value.string (bStr (Lib.decDigits u)) = .string ⟨(Lib.decDigits u).toArray⟩) := rfl
    clear hG htab
    go_enter Tryz.func197, Tryz.ntmps197
    go_wp2_with (first | (go_at_call 225; (with_reducible refine (Tryz.internal_strconv_small u hi _).mono ?_); rintro e w' ⟨rfl, rfl⟩))
    rw [HV.out]
    go_ret
    exact ⟨rfl, Below.refl _ _⟩
  · have hu1 : 1 ≤ u := by omega
    have hge : (100 : Int) ≤ u := by omega
    have hnd20 : Lib.nDigits u ≤ 20 := by have := Lib.numDigits_eq u hu1 hu; split at this <;> omega
    have hal : Tryz.prog.arrayLen 248 = 24 := by kernel_rfl
    have hsl1 : ∀ W, (Instr.sliceAt 248 (.pointer (some ⟨w.heap.size, 0, none⟩)) none (some (.int .i64 (Lib.nDigits u : Int))) none).run Tryz.prog W = .ok (.slice (some ⟨w.heap.size, 0, none⟩) (Lib.nDigits u) 24) W := fun W => by
      rw [run_sliceAt_array_h W 248 ⟨w.heap.size, 0, none⟩ (by kernel_rfl) .i64 (Lib.nDigits u : Int) (by omega) (by rw [hal]; omega)]
      rw [show (sizeOf (Tryz.prog.elem 248)).run Tryz.prog W = .ok 1 W by kernel_rfl]
      simp [Result.andThen, slicedAt, hal, Addr.add]
    have hH0 := Lib.holds_zero0 w 248 (Lib.nDigits u) (by omega)
    have hfmt := Tryz.internal_strconv_formatBase10 w.heap.size 0 24 u (Array.replicate (Lib.nDigits u) 0) (w.alloc (.cells Lib.zeros24 248)) hH0 (by rw [Array.size_replicate]; exact Lib.lt_pow_nDigits u) hu (by rw [Array.size_replicate]; omega)
    rw [Array.size_replicate] at hfmt
    have HH0 := Lib.hid hH0
    have HZ := Lib.hid htab
    clear hH0 hal hG htab
    go_enter Tryz.func197, Tryz.ntmps197
    go_wp2_with (first | (go_at_call 226; (with_reducible refine (Tryz.internal_strconv_numDigits u hu1 hu _ (Lib.tabIs_alloc HZ.out _)).mono ?_); rintro e w' ⟨rfl, rfl⟩))
    go_at_call 227
    refine hfmt.mono ?_
    rintro e w' ⟨rfl, k, v', dk, rfl, hF⟩
    have hcv : (convert 33 9 (.slice (some ⟨w.heap.size, 0, none⟩) (Lib.nDigits u) 24)).run Tryz.prog ((putRow (fun (b : UInt8) => Value.int .u8 (b.toNat : Int)) (w.alloc (.cells Lib.zeros24 248)) w.heap.size 0 dk).drewN k) = .ok (.string ⟨(Lib.decDigits u).toArray⟩) ((putRow (fun (b : UInt8) => Value.int .u8 (b.toNat : Int)) (w.alloc (.cells Lib.zeros24 248)) w.heap.size 0 dk).drewN k) := by
      have h := run_convert_bytes_back (P := Tryz.prog) ((putRow (fun (b : UInt8) => Value.int .u8 (b.toNat : Int)) (w.alloc (.cells Lib.zeros24 248)) w.heap.size 0 dk).drewN k) 33 9 5 ⟨w.heap.size, 0, none⟩ 24 (Lib.decDigits u) (by kernel_rfl) (by kernel_rfl) (by kernel_rfl) (fun j hj => by
        rw [Lib.row_is_numeral hF j hj, Lib.add_plain, World.cell?_drewN]
        exact cell?_putRow (fun (b : UInt8) => Value.int .u8 (b.toNat : Int)) _ w.heap.size 0 _ dk HH0.out (by rw [hF.size, Array.size_replicate]) j (by rw [hF.size]; rw [Lib.decDigits_length] at hj; exact hj))
      rw [Lib.decDigits_length] at h
      exact h
    go_wp2
    go_ret
    obtain ⟨os, eo⟩ := Lib.fin_at w (.cells Lib.zeros24 248) dk k 0
    refine ⟨rfl, ?_⟩
    rw [eo]
    exact Lib.below_grow _ _ (Nat.le_refl _) _ _

set_option maxRecDepth 100000 in
set_option maxHeartbeats 2000000 in
theorem fmt_any (u : Nat) (w : World) (hG : Glo w) (hu : u < 18446744073709551616) :
    Calls Tryz.prog 157 #[.int .u64 u, .int .i64 10] w (RetB (.string (bStr (Lib.decDigits u))) w) := by
  have HC := Lib.hid (fmtIn u w hG hu)
  clear hG hu
  generalize bStr (Lib.decDigits u) = S at *
  go_enter Tryz.func157, Tryz.ntmps157
  go_wp2_with (first | (go_at_call 197; (with_reducible refine (HC.out).mono ?_); rintro e w' ⟨rfl, hb⟩))
  go_ret
  exact ⟨rfl, hb⟩

theorem pu_ok (s : ByteArray) (u : Nat) (w : World) (hs : s.size ≤ 1000000) (h : Lib.parseUintB 32 s.data.toList = .ok u) :
    Calls Tryz.prog 156 #[.string s, .int .i64 10, .int .i64 32] w (RetB (.tuple #[.int .u64 u, .nilIface]) w) := by
  refine (Tryz.strconv_ParseUint_10_at32_ok s (by omega) u h w).mono ?_
  rintro e w' ⟨rfl, rfl | rfl⟩
  · exact ⟨rfl, Below.refl _ _⟩
  · exact ⟨rfl, Joins.below_bytesWorld _ _ _ _ (Nat.le_refl _)⟩
def RetNo (w : World) (e : Ending) (w' : World) : Prop := ∃ (t : TypeId) (N : Nat) (k : Int), e = .returned (.tuple #[.int .u64 k, .iface t (.pointer (some ⟨N, 0, none⟩))]) ∧ Below w.heap.size w w'
theorem pu_no (s : ByteArray) (w : World) (hG : Glo w) (hs : s.size ≤ 1000000) (h : ∀ u, Lib.parseUintB 32 s.data.toList ≠ .ok u) :
    Calls Tryz.prog 156 #[.string s, .int .i64 10, .int .i64 32] w (RetNo w) := by
  obtain ⟨t, p, h1⟩ := hG.syn
  obtain ⟨t', p', h2⟩ := hG.rng
  rcases hp : Lib.parseUintB 32 s.data.toList with u | _ | _
  · exact absurd hp (h u)
  · refine (Any.strconv_ParseUint_10_at32_syntax Tryz.laysPu14 s (by omega) hp _ w h1 (.inr ⟨t, p, rfl⟩)).mono ?_
    rintro e w' ⟨N, rfl, _, _, hb⟩
    exact ⟨_, N, _, rfl, hb⟩
  · refine (Tryz.strconv_ParseUint_10_at32_range s (by omega) hp _ w h2 (.inr ⟨t', p', rfl⟩)).mono ?_
    rintro e w' ⟨N, rfl, _, _, hb⟩
    exact ⟨_, N, _, rfl, hb⟩

set_option maxRecDepth 100000 in
set_option maxHeartbeats 2000000 in
theorem right_any (v : Value) (ns : List Nat) (w : World) (hv : IsU .u32 w v ns) :
    Calls Tryz.prog 158 #[v] w fun e w' => e = .returned (.bool (rightL ns)) ∧ w = w' := by
  have hlen := hv.len ulU32s
  by_cases h2 : ns.length < 2
  · have HV : Hid (rightL ns = false) := by
      show rightL ns = false
      match ns, h2 with
      | [], _ => rfl
      | [_], _ => rfl
    have h2' : (ns.length : Int) < 2 := by omega
    clear hv
    go_enter Tryz.func158, Tryz.ntmps158
    rw [HV.out]
    go_wp2
    go_ret
    exact ⟨rfl, rfl⟩
  · obtain ⟨b0, o0, hi0, hl0, hc0⟩ := hv.at_ (P := Tryz.prog) ulU32s szU32 .i64 (i := 0) (by omega) (by omega)
    obtain ⟨b1, o1, hi1, hl1, hc1⟩ := hv.at_ (P := Tryz.prog) ulU32s szU32 .i64 (i := 1) (by omega) (by omega)
    obtain ⟨x, y, t, rfl⟩ : ∃ x y t, ns = x :: y :: t := by
      match ns, h2 with
      | [], h => simp at h
      | [_], h => simp at h
      | x :: y :: t, _ => exact ⟨x, y, t, rfl⟩
    have e0 : ((x :: y :: t).getD (0 : Int).toNat 0 : Nat) = x := rfl
    have e1 : ((x :: y :: t).getD (1 : Int).toNat 0 : Nat) = y := rfl
    rw [e0] at hc0
    rw [e1] at hc1
    have h2' : (2 : Int) ≤ ((x :: y :: t).length : Int) := by omega
    have HR : Hid (rightL (x :: y :: t) = (decide (x ≤ 2) && (if x < 2 then decide (y < 40) else decide (y ≤ 4294967215)))) := rfl
    generalize (x :: y :: t) = L at *
    clear hv h2 e0 e1
    rcases (show (x : Int) < 2 ∨ (x : Int) = 2 ∨ (2 : Int) < x by omega) with hx | hx | hx
    · go_enter Tryz.func158, Tryz.ntmps158
      go_wp2
      go_ret
      refine ⟨ret_bool (a := decide ((y : Int) < 40)) ?_, rfl⟩
      rw [HR.out, if_pos (by omega), decide_eq_true (by omega : x ≤ 2), Bool.true_and]
      exact decide_eq_decide.2 (by omega)
    · have hx1 : (2 : Int) ≤ x := by omega
      have hx2 : (x : Int) ≤ 2 := by omega
      clear hx
      go_enter Tryz.func158, Tryz.ntmps158
      go_wp2
      go_ret
      refine ⟨ret_bool (a := decide ((y : Int) ≤ 4294967215)) ?_, rfl⟩
      rw [HR.out, if_neg (by omega), decide_eq_true (by omega : x ≤ 2), Bool.true_and]
      exact decide_eq_decide.2 (by omega)
    · go_enter Tryz.func158, Tryz.ntmps158
      go_wp2
      go_ret
      refine ⟨ret_bool (a := false) ?_, rfl⟩
      rw [HR.out, decide_eq_false (by omega : ¬ x ≤ 2), Bool.false_and]
end Go.Proofs.YtlmnmgokfnnbbaaGreatDoor
end

/- Walks over oid.Arcs, oid.Valid. -/
section
set_option linter.unusedSimpArgs false
set_option linter.unusedVariables false
namespace Go.Proofs.YtlmnmgokfnnbbaaGreatDoor
open Go.RowKit Go.Cr Go.Sort Go.Shelf
theorem ulStrs : Tryz.prog.underlying 61 = some (.slice 9) := by kernel_rfl
theorem szStr (W : World) : (sizeOf 9).run Tryz.prog W = .ok 1 W := by kernel_rfl

def IsS (w : World) (v : Value) (ss : List ByteArray) : Prop := IsR w v 1 ss.length (ss.map Value.string)
theorem IsS.below {w w' : World} {v : Value} {ss : List ByteArray} (h : IsS w v ss) (hb : Below w.heap.size w w') : IsS w' v ss := IsR.below h hb
theorem IsS.len {w : World} {v : Value} {ss : List ByteArray} (h : IsS w v ss) : ∀ (ty : TypeId) (W : World), (Builtin.len_ #[61] ty #[v]).run Tryz.prog W = .ok (.int .i64 ss.length) W := IsR.len h ulStrs
theorem IsS.maxl {w : World} {v : Value} {ss : List ByteArray} (h : IsS w v ss) : (ss.length : Int) ≤ 9223372036854775807 := IsR.maxl h
theorem IsS.at_ {w : World} {v : Value} {ss : List ByteArray} (h : IsS w v ss) (kd : IntKind) {i : Int} (h0 : 0 ≤ i) (h1 : i < ss.length) :
    ∃ b o, (∀ W : World, (Instr.indexAt 61 v (.int kd i)).run Tryz.prog W = .ok (.pointer (some ⟨b, o, none⟩)) W) ∧ b < w.heap.size ∧ w.cell? ⟨b, o, none⟩ = some (.string (ss.getD i.toNat ByteArray.empty)) := by
  obtain ⟨b, o, hi, hb, hc⟩ := IsR.at_ h ulStrs szStr kd h0 h1
  refine ⟨b, o, hi, hb, ?_⟩
  have hlt : i.toNat < ss.length := by omega
  have := hc 0 (.string (ss.getD i.toNat ByteArray.empty)) (by simp [hlt])
  simpa using this

def pcs (s : ByteArray) : List ByteArray := Lib.splitB ⟨#[46]⟩ 0 (Lib.countB s ⟨#[46]⟩) s
theorem pcs_map (s : ByteArray) : (pcs s).map (·.data.toList) = pieces s.data.toList := by
  unfold pcs
  rw [Lib.splitB_data]
  exact split_pieces _
theorem split_any (s : ByteArray) (w : World) (hG : Glo w) (hs : s.size ≤ 1000000) :
    Calls Tryz.prog 155 #[.string s, .string ⟨#[46]⟩] w fun e w' => ∃ v, e = .returned v ∧ IsS w' v (pcs s) ∧ Below w.heap.size w w' := by
  obtain ⟨m, hm⟩ := hG.maxlen
  refine (Tryz.strings_Split s ⟨#[46]⟩ m w (by omega) hm (by decide)).mono ?_
  rintro e w' ⟨rfl, rfl⟩
  have hN := Lib.splitB_all ⟨#[46]⟩ (by decide) 0 _ s rfl
  have hle := Lib.countB_le ⟨#[46]⟩ (by decide) _ s (Nat.le_refl _)
  refine ⟨_, rfl, ⟨some ⟨w.heap.size, 0, none⟩, Lib.countB s ⟨#[46]⟩ + 1, ?_, ?_, ?_, by simp, fun _ => ⟨w.heap.size, 0, rfl, by simp, fun j x hj => ?_⟩⟩, (Below.refl _ _).alloc (Nat.le_refl _) _⟩
  · show Value.slice _ _ _ = Value.slice _ (pcs s).length _
    rw [show (pcs s).length = _ from hN]
  · rw [show (pcs s).length = _ from hN]; omega
  · unfold maxLen; omega
  · rw [Nat.zero_add, World.cell?_alloc_new]
    simpa [pcs] using hj

theorem numsL_snoc (ps : List (List UInt8)) (p : List UInt8) : numsL (ps ++ [p]) = match numsL ps, numL p with
    | some ns, some n => some (ns ++ [n])
    | _, _ => none := by
  induction ps with
  | nil => simp only [List.nil_append, numsL]; cases numL p <;> rfl
  | cons q t ih =>
    simp only [List.cons_append, numsL]
    cases numL q with
    | none => rfl
    | some m =>
      simp only [ih]
      cases numsL t <;> cases numL p <;> rfl
theorem numsL_stop {ps : List (List UInt8)} {k : Nat} (hk : k < ps.length) (h : numL ps[k] = none) : numsL ps = none := by
  induction ps generalizing k with
  | nil => simp at hk
  | cons q t ih =>
    simp only [numsL]
    cases k with
    | zero => simp only [List.getElem_cons_zero] at h; rw [h]
    | succ k =>
      simp only [List.getElem_cons_succ] at h
      rw [ih (by simpa using hk) h]
      cases numL q <;> rfl

def RetArcs (r : Option (List Nat)) (w : World) (e : Ending) (w' : World) : Prop :=
  Below w.heap.size w w' ∧ ((r = none ∧ e = .returned (.tuple #[.slice none 0 0, .int .i64 11])) ∨ ∃ ns v, r = some ns ∧ e = .returned (.tuple #[v, .int .i64 0]) ∧ IsU .u32 w' v ns)
def ARel (ps : List ByteArray) (w1 : World) (out ix : Value) (wr : World) : Prop :=
  ∃ (k : Nat) (ns : List Nat), ix = .int .i64 k ∧ k ≤ ps.length ∧ ns.length = k ∧ numsL ((ps.take k).map (·.data.toList)) = some ns ∧ wr.ownsRow w1.heap.size 143 1 out ns.length (uCells .u32 ns) ∧ Below w1.heap.size w1 wr

set_option maxRecDepth 100000 in
set_option maxHeartbeats 4000000 in
theorem arcs_any (s : ByteArray) (w : World) (hG : Glo w) (hs : s.size ≤ 1000000) :
    Calls Tryz.prog 119 #[.string s] w (RetArcs (arcsL s.data.toList) w) := by
  have hN : (pcs s).length ≤ 1000001 := by
    have h1 := congrArg List.length (pcs_map s)
    have h2 := pieces_len s.data.toList
    simp only [List.length_map] at h1
    have h3 : s.data.toList.length = s.size := rfl
    omega
  have hps : ∀ (j : Nat) (h : j < (pcs s).length), ((pcs s)[j]).size ≤ 1000000 := by
    intro j h
    have h1 := pieces_mem_len s.data.toList (pcs s)[j].data.toList (by rw [← pcs_map]; exact List.mem_map_of_mem (List.getElem_mem h))
    have h3 : s.data.toList.length = s.size := rfl
    have h4 : (pcs s)[j].data.toList.length = (pcs s)[j].size := rfl
    omega
  have HM := Lib.hid (pcs_map s)
  have HA : Hid (arcsL s.data.toList = match numsL (pieces s.data.toList) with | none => none | some ns => if rightL ns then some ns else none) := rfl
  have HS := Lib.hid (split_any s w hG hs)
  have HG := Lib.hid hG
  have HP := Lib.hid hps
  clear hG hps
  generalize pcs s = ps at *
  generalize pieces s.data.toList = qs at *
  generalize arcsL s.data.toList = r at *
  go_enter Tryz.func119, Tryz.ntmps119
  go_wp2_with (first | ((go_at_call 155); ((with_reducible refine (HS.out).mono ?_)); rintro e w1 ⟨v, rfl, hv, hb1⟩; have HV := Lib.hid hv; have HB1 := Lib.hid hb1; have hlen := hv.len; clear hv hb1))
  go_loopw [4, 12] (fun out ix wr => ARel ps w1 out ix wr) (fun _ ix _ => ps.length - (intOf ix).toNat)
  case atStart => exact ⟨0, [], rfl, Nat.zero_le _, rfl, rfl, World.ownsRow_nil _ _ _ _, Below.refl _ _⟩
  case round =>
    obtain ⟨k, ns, rfl, hk, hkn, hnums, hown, hbel⟩ := hrel
    have HO := Lib.hid hown
    have HN := Lib.hid hnums
    have HK := Lib.hid hkn
    have HBR := Lib.hid hbel
    clear hlen hown hnums hkn
    by_cases hlt : k < ps.length
    · obtain ⟨b, o, hi, hbl, hc⟩ := HV.out.at_ .i64 (i := k) (by omega) (by omega)
      simp only [Int.toNat_natCast] at hc
      have hc' : wr.cell? ⟨b, o, none⟩ = some (.string (ps.getD k ByteArray.empty)) := (hbel.cell hbl).trans hc
      have hgw : Glo wr := (HG.out.below HB1.out).below hbel
      have hsz := HP.out k hlt
      have hgp : ps.getD k ByteArray.empty = ps[k] := by simp [hlt]
      rw [hgp] at hc'
      have hqk : ∃ h : k < qs.length, qs[k] = ps[k].data.toList := by
        have := HM.out
        subst this
        exact ⟨by simpa using hlt, by simp⟩
      obtain ⟨hql, hqe⟩ := hqk
      have HQ := Lib.hid hqe
      clear hc hgp hbel hqe
      have hlt' : (k : Int) < ps.length := by omega
      by_cases hok : ∃ u, Lib.parseUintB 32 ps[k].data.toList = .ok u
      · obtain ⟨u, hu⟩ := hok
        have hule : u ≤ 4294967295 := Lib.parseUintB_le hu
        have HPU := Lib.hid (pu_ok ps[k] u · hsz hu)
        have HFM := Lib.hid (fmt_any u · · (by omega))
        by_cases hd : Lib.decDigits u = ps[k].data.toList
        · have hnum : numL qs[k] = some u := by rw [HQ.out]; unfold numL; rw [hu]; simp [hd]
          have hsnoc : numsL ((ps.take (k + 1)).map (·.data.toList)) = some (ns ++ [u]) := by
            rw [List.take_succ_eq_append_getElem hlt, List.map_append, List.map_cons, List.map_nil, numsL_snoc, HN.out]
            rw [HQ.out] at hnum
            rw [hnum]
          have HS2 := Lib.hid hsnoc
          have hbs : bStr (Lib.decDigits u) = ps[k] := by rw [hd, bStr_eq]
          rw [hbs] at HFM
          have hwrap : IntKind.u32.wrap (u : Int) = u := by rw [IntKind.wrap_u32]; omega
          have HW := Lib.hid hwrap
          clear hu hd hnum hsnoc hbs hwrap
          generalize ps[k] = p at *
          obtain ⟨i0, hi0, hz0, hz1, hz2⟩ := info_parts infoU32
          go_wp2_with (first | ((go_at_call 156); ((with_reducible refine (HPU.out _).mono ?_)); rintro e w2 ⟨rfl, hb2⟩) | ((go_at_call 157); ((with_reducible refine (HFM.out _ (hgw.below hb2)).mono ?_)); rintro e w3 ⟨rfl, hb3⟩) | (at_builtin; refine wpList_app _ rfl _ _ 140 rfl w1.heap.size 143 i0 (.int .u32 0) 1 4 ulU32s hi0 hz0 hz1 hz2 rfl (by decide) _ _ _ rfl ((ownsRow_below (ownsRow_below HO.out hb2) hb3).alloc _) _ 1 (uCells .u32 [u]) rfl ?k0 (uCells_one _ _) ?k1 ?k2 ?k3 ?_))
          case k0 => exact isR_at rfl rfl
          case k1 => have := HK.out; unfold maxLen; omega
          case k2 => have := HK.out; omega
          case k3 => have := HBR.out.size; have := hb2.size; have := hb3.size; simp; omega
          intro out' w4 hown' _ hbel'
          have hbel2 : Below w1.heap.size w1 w4 := (HBR.out.trans ((hb2.mono HBR.out.size).trans ((hb3.mono (by have := HBR.out.size; have := hb2.size; omega)).trans ((Below.refl _ _).alloc (by have := HBR.out.size; have := hb2.size; have := hb3.size; omega) _)))).trans hbel'
          have hown2 : w4.ownsRow w1.heap.size 143 1 out' (ns ++ [u]).length (uCells .u32 (ns ++ [u])) := by
            rw [uCells_app, List.length_append]; exact hown'
          have HO2 := Lib.hid hown2
          clear hown' hown2 hbel'
          go_wp2
          go_roundw
          case rel => exact ⟨k + 1, ns ++ [u], by go_num, by omega, by have := HK.out; simp; omega, HS2.out, HO2.out, hbel2⟩
          case measure => simp [intOf]; omega
        · have hnum : numL qs[k] = none := by rw [HQ.out]; unfold numL; rw [hu]; simp [hd]
          have hr : r = none := by rw [HA.out, numsL_stop hql hnum]
          have HR := Lib.hid hr
          have hbs : ((bStr (Lib.decDigits u)).toList == ps[k].toList) = false := by rw [ByteArray.toList_eq, ByteArray.toList_eq]; exact beq_eq_false_iff_ne.2 hd
          clear hu hd hnum hr
          generalize ps[k] = p at *
          generalize bStr (Lib.decDigits u) = p' at *
          go_wp2_with (first | ((go_at_call 156); ((with_reducible refine (HPU.out _).mono ?_)); rintro e w2 ⟨rfl, hb2⟩) | ((go_at_call 157); ((with_reducible refine (HFM.out _ (hgw.below hb2)).mono ?_)); rintro e w3 ⟨rfl, hb3⟩))
          go_ret2
          exact ⟨(HB1.out.trans (HBR.out.mono HB1.out.size)).trans ((hb2.mono (by have := HBR.out.size; have := HB1.out.size; omega)).trans (hb3.mono (by have := HBR.out.size; have := HB1.out.size; have := hb2.size; omega))), .inl ⟨HR.out, rfl⟩⟩
      · have hok' : ∀ u, Lib.parseUintB 32 ps[k].data.toList ≠ .ok u := fun u hu => hok ⟨u, hu⟩
        have hnum : numL qs[k] = none := by
          rw [HQ.out]
          unfold numL
          split
          · rename_i u hu; exact absurd hu (hok' u)
          · rfl
        have hr : r = none := by rw [HA.out, numsL_stop hql hnum]
        have HR := Lib.hid hr
        have HPU := Lib.hid (pu_no ps[k] · · hsz hok')
        clear hok hok' hnum hr
        generalize ps[k] = p at *
        go_wp2_with (first | ((go_at_call 156); ((with_reducible refine (HPU.out _ hgw).mono ?_)); rintro e w2 ⟨t, N, x, rfl, hb2⟩))
        go_ret2
        exact ⟨(HB1.out.trans (HBR.out.mono HB1.out.size)).trans (hb2.mono (by have := HBR.out.size; have := HB1.out.size; omega)), .inl ⟨HR.out, rfl⟩⟩
    · have hkl : k = ps.length := by omega
      have hall : numsL qs = some ns := by
        have := HN.out
        rwa [hkl, List.take_length, HM.out] at this
      have hge : ((ps.length : Nat) : Int) ≤ (k : Int) := by omega
      have HU := Lib.hid (IsU.of_own HO.out)
      have HRT := Lib.hid (right_any · ns)
      have hr : r = if rightL ns then some ns else none := by rw [HA.out, hall]
      clear hall hkl hlt hbel
      cases hrl : rightL ns with
      | true =>
        rw [hrl] at hr
        have HR := Lib.hid hr
        rw [hrl] at HRT
        clear hr hrl
        go_wp2_with (first | ((go_at_call 158); ((with_reducible refine (HRT.out _ _ HU.out).mono ?_)); rintro e w2 ⟨rfl, rfl⟩))
        go_ret2
        exact ⟨HB1.out.trans (HBR.out.mono HB1.out.size), .inr ⟨ns, _, HR.out, rfl, HU.out⟩⟩
      | false =>
        rw [hrl] at hr
        have HR := Lib.hid hr
        rw [hrl] at HRT
        clear hr hrl
        go_wp2_with (first | ((go_at_call 158); ((with_reducible refine (HRT.out _ _ HU.out).mono ?_)); rintro e w2 ⟨rfl, rfl⟩))
        go_ret2
        exact ⟨HB1.out.trans (HBR.out.mono HB1.out.size), .inl ⟨HR.out, rfl⟩⟩

set_option maxRecDepth 100000 in
set_option maxHeartbeats 4000000 in
theorem oidValid (s : ByteArray) (w : World) (hG : Glo w) (hs : s.size ≤ 1000000) :
    Calls Tryz.prog 118 #[.string s] w (RetB (.bool (arcsL s.data.toList).isSome) w) := by
  have HC := Lib.hid (arcs_any s w hG hs)
  clear hG hs
  generalize arcsL s.data.toList = r at *
  cases r with
  | none =>
    go_enter Tryz.func118, Tryz.ntmps118
    go_wp2_with (first | ((go_at_call 119); ((with_reducible refine (HC.out).mono ?_)); rintro e w1 ⟨hb, ⟨_, rfl⟩ | ⟨ns, v, h, _, _⟩⟩; (first | (cases h) | skip)))
    go_ret
    exact ⟨rfl, hb⟩
  | some ns0 =>
    go_enter Tryz.func118, Tryz.ntmps118
    go_wp2_with (first | ((go_at_call 119); ((with_reducible refine (HC.out).mono ?_)); rintro e w1 ⟨hb, ⟨h, _⟩ | ⟨ns, v, h, rfl, _⟩⟩; (first | (cases h; done) | skip)))
    go_ret
    exact ⟨rfl, hb⟩
end Go.Proofs.YtlmnmgokfnnbbaaGreatDoor
end

/- Walks over the reference's layer 5 (oid): digits, number, Right, Arcs, Valid. -/
section
set_option linter.unusedSimpArgs false
set_option linter.unusedVariables false
namespace Go.Proofs.YtlmnmgokfnnbbaaGreatDoor
open Go.RowKit Go.Cr Go.Sort Go.Shelf
theorem ulS : Tryz.prog.underlying 9 = some .string := by kernel_rfl
theorem bStr_app (a b : List UInt8) : bStr a ++ bStr b = bStr (a ++ b) := by
  apply ByteArray.ext
  simp [bStr]
theorem ten_cut (d : Nat) (h : d < 10) (W : World) : (Instr.slice 9 (.string ⟨#[48, 49, 50, 51, 52, 53, 54, 55, 56, 57]⟩) (some (.int .u64 (d : Int))) (some (.int .u64 ((d : Int) + 1))) none).run Tryz.prog W = .ok (.string (bStr [UInt8.ofNat (48 + d)])) W := by
  have hsz : (⟨#[48, 49, 50, 51, 52, 53, 54, 55, 56, 57]⟩ : ByteArray).size = 10 := rfl
  rw [run_slice_string W 9 _ .u64 .u64 _ _ ulS (by omega) (by omega) (by rw [hsz]; omega)]
  congr 2
  have key : ∀ d : Fin 10, (⟨#[48, 49, 50, 51, 52, 53, 54, 55, 56, 57]⟩ : ByteArray).extract d.val (d.val + 1) = bStr [UInt8.ofNat (48 + d.val)] := by decide +kernel
  rw [show ((d : Int)).toNat = d by omega, show ((d : Int) + 1).toNat = d + 1 by omega]
  exact key ⟨d, h⟩

set_option maxRecDepth 100000 in
set_option maxHeartbeats 2000000 in
theorem dig_any (k : Nat) : ∀ (n : Nat) (w : World), n < 10 ^ (k + 1) → k ≤ 12 →
    Calls Tryz.prog 202 #[.int .u64 n] w fun e w' => e = .returned (.string (bStr (Lib.decDigits n))) ∧ w = w' := by
  induction k with
  | zero =>
    intro n w hn _
    have hn10 : n < 10 := by simpa using hn
    have HV : Hid (Lib.decDigits n = [UInt8.ofNat (48 + n)]) := by show _ = _; exact Lib.decDigits_one hn10
    have HT := Lib.hid (ten_cut n hn10)
    have hm : (n : Int) % 10 = n := by omega
    have hlt : (n : Int) < 10 := by omega
    clear hn
    generalize UInt8.ofNat (48 + n) = x at *
    go_enter Tryz.func202, Tryz.ntmps202
    rw [HV.out]
    have hT := HT.out
    clear HT
    go_wp2_with fail
    go_ret
    exact ⟨rfl, rfl⟩
  | succ k ih =>
    intro n w hn hk
    by_cases hn10 : n < 10
    · exact ih n w (Nat.lt_of_lt_of_le hn10 (by
        have : 10 ^ 1 ≤ 10 ^ (k + 1) := Nat.pow_le_pow_right (by decide) (by omega)
        simpa using this)) (by omega)
    · have hq := fun w => ih (n / 10) w (by rw [Nat.pow_succ] at hn; omega) (by omega)
      have HV : Hid (Lib.decDigits n = Lib.decDigits (n / 10) ++ [UInt8.ofNat (48 + n % 10)]) := by show _ = _; rw [Lib.decDigits, dif_neg hn10]
      have HT := Lib.hid (ten_cut (n % 10) (by omega))
      have hm : (n : Int) % 10 = ((n % 10 : Nat) : Int) := by omega
      have hd : (n : Int) / 10 = ((n / 10 : Nat) : Int) := by omega
      have hlt : (10 : Int) ≤ n := by omega
      have hd9 : ((n % 10 : Nat) : Int) ≤ 9 := by omega
      have hd0 : 0 ≤ ((n % 10 : Nat) : Int) := by omega
      have hwq : IntKind.u64.wrap (((n / 10 : Nat) : Int)) = ((n / 10 : Nat) : Int) := by
        have : (10 : Nat) ^ (k + 1 + 1) ≤ 10 ^ 14 := Nat.pow_le_pow_right (by decide) (by omega)
        have h14 : (10 : Nat) ^ 14 = 100000000000000 := by decide
        rw [IntKind.wrap_u64]
        omega
      have hsz : (bStr (Lib.decDigits (n / 10))).size + (bStr [UInt8.ofNat (48 + n % 10)]).size ≤ 9223372036854775807 := by
        show (Lib.decDigits (n / 10)).length + 1 ≤ _
        rw [Lib.decDigits_length]
        have : (10 : Nat) ^ (k + 1 + 1) ≤ 10 ^ 14 := Nat.pow_le_pow_right (by decide) (by omega)
        have h14 : (10 : Nat) ^ 14 = 100000000000000 := by decide
        have := Lib.numDigits_eq (n / 10) (by omega) (by omega)
        split at this <;> omega
      have HQ := Lib.hid hq
      clear hq ih hn
      generalize UInt8.ofNat (48 + n % 10) = x at *
      generalize n % 10 = d at *
      generalize n / 10 = q at *
      rw [HV.out, ← bStr_app]
      generalize bStr (Lib.decDigits q) = S at *
      generalize bStr [x] = X at *
      go_enter Tryz.func202, Tryz.ntmps202
      have hT := HT.out
      clear HT
      go_wp2_with (first | ((go_at_call 202); ((with_reducible refine (HQ.out _).mono ?_)); rintro e w1 ⟨rfl, rfl⟩))
      go_ret
      exact ⟨rfl, rfl⟩

def RetNum (r : Option Nat) (w : World) (e : Ending) (w' : World) : Prop := w = w' ∧ ((∃ n, r = some n ∧ e = .returned (.tuple #[.int .u64 (n : Nat), .bool true])) ∨ (r = none ∧ ∃ n : Nat, e = .returned (.tuple #[.int .u64 n, .bool false])))
def NRel (l : List UInt8) (r : Option Nat) (n i : Value) : Prop := ∃ (k a : Nat), i = .int .i64 k ∧ n = .int .u64 a ∧ k ≤ l.length ∧ (a : Int) ≤ 42949672959 ∧ numR a (l.drop k) = r

set_option maxRecDepth 100000 in
set_option maxHeartbeats 2000000 in
theorem number_any (s : ByteArray) (w : World) (hs : s.size ≤ 1000000) :
    Calls Tryz.prog 164 #[.string s] w (RetNum (numRef s.data.toList) w) := by
  have HV : Hid (numRef s.data.toList = match numR 0 s.data.toList with | none => none | some n => if s.data.toList ≠ [] ∧ n ≤ 4294967295 ∧ Lib.decDigits n = s.data.toList then some n else none) := rfl
  have hL : s.data.toList.length = s.size := rfl
  obtain ⟨l, hl⟩ : ∃ l, s.data.toList = l := ⟨_, rfl⟩
  have hbt : ∀ (k : Nat) (h : k < s.size), ((s[k]'h).toNat : Int) = bat l k := by
    intro k h
    rw [← hl, bat_eq _ _ (by omega)]
    rfl
  have HB := Lib.hid hbt
  have HS := Lib.hid hl
  rw [hl] at HV hL
  have HL := Lib.hid hL
  rw [hl]
  obtain ⟨r, hr⟩ : ∃ r, numR 0 l = r := ⟨_, rfl⟩
  rw [hr] at HV
  have HR := Lib.hid hr
  have HD := Lib.hid (fun n => dig_any 11 n)
  clear hbt hl hL hr
  generalize numRef l = R at *
  go_enter Tryz.func164, Tryz.ntmps164
  go_wp2_with fail
  go_loop [4, 5] (fun n i => NRel l r n i) (fun _ i => s.size - (intOf i).toNat)
  case atStart => exact ⟨0, 0, rfl, rfl, Nat.zero_le _, by decide, by rw [List.drop_zero]; exact HR.out⟩
  case round =>
    obtain ⟨k, a, rfl, rfl, hk, ha, hn⟩ := hrel
    by_cases hlt : k < s.size
    · have hll := HL.out
      have hdrop : l.drop k = l[k] :: l.drop (k + 1) := List.drop_eq_getElem_cons (by omega)
      have hx := HB.out k hlt
      have hxb : bat l k = ((l[k]'(by omega)).toNat : Int) := bat_eq l k (by omega)
      rw [hdrop] at hn
      simp only [numR] at hn
      have hb0 := bat_pos l k
      have hb1 := bat_lt l k
      have hlt' : (k : Int) < s.size := by omega
      have HN := Lib.hid hn
      by_cases hbad : bat l k < 48 ∨ 57 < bat l k ∨ 4294967295 < (a : Int)
      · have hr : r = none := by rw [← HN.out, if_pos (by omega)]
        have hR : R = none := by rw [HV.out, hr]
        have HR' := Lib.hid hR
        clear hn HN hxb hr hR hdrop hll
        generalize bat l k = x at *
        rcases hbad with h | h | h
        · go_wp2_with fail
          go_ret2
          exact ⟨rfl, .inr ⟨HR'.out, 0, rfl⟩⟩
        · have h48 : 48 ≤ x := by omega
          go_wp2_with fail
          go_ret2
          exact ⟨rfl, .inr ⟨HR'.out, 0, rfl⟩⟩
        · rcases (show x < 48 ∨ (48 ≤ x ∧ 57 < x) ∨ (48 ≤ x ∧ x ≤ 57) by omega) with h1 | ⟨h1, h2⟩ | ⟨h1, h2⟩ <;>
          · go_wp2_with fail
            go_ret2
            exact ⟨rfl, .inr ⟨HR'.out, 0, rfl⟩⟩
      · have h1 : 48 ≤ bat l k := by omega
        have h2 : bat l k ≤ 57 := by omega
        have h3 : (a : Int) ≤ 4294967295 := by omega
        have hn' : numR (a * 10 + (l[k].toNat - 48)) (l.drop (k + 1)) = r := by rw [← HN.out, if_neg (by omega)]
        have hnx : (((a * 10 + (l[k].toNat - 48) : Nat)) : Int) = (a : Int) * 10 + (bat l k - 48) := by omega
        obtain ⟨a', ha'⟩ : ∃ a', a * 10 + (l[k].toNat - 48) = a' := ⟨_, rfl⟩
        rw [ha'] at hn' hnx
        have HN' := Lib.hid hn'
        have HX := Lib.hid hnx
        have hle' : (a' : Int) ≤ 42949672959 := by omega
        clear hn HN hxb hdrop hbad hn' hnx ha' hll
        generalize bat l k = x at *
        go_wp2_with fail
        go_round
        case rel => exact ⟨k + 1, a', by go_num, by rw [HX.out], by have := HL.out; omega, hle', HN'.out⟩
        case measure => simp [intOf]; omega
    · have hkl : k = s.size := by have := HL.out; omega
      have hr : r = some a := by rw [← hn, hkl, ← HL.out, List.drop_length]; rfl
      have hge : ((s.size : Nat) : Int) ≤ k := by omega
      rw [hr] at HV
      by_cases hne : l = []
      · have hR : R = none := by rw [HV.out]; simp [hne]
        have HR' := Lib.hid hR
        have he : s = ⟨#[]⟩ := by
          have := HS.out
          rw [hne] at this
          apply ByteArray.ext
          apply Array.toList_inj.1
          simpa using this
        have hsz : s.size = 0 := by rw [he]; rfl
        have hte : s.toList = [] := by rw [ByteArray.toList_eq, HS.out, hne]
        clear hn hR hr hne hkl
        go_wp2_with fail
        go_ret2
        exact ⟨rfl, .inr ⟨HR'.out, a, rfl⟩⟩
      · have hne0 : s.toList ≠ [] := by rw [ByteArray.toList_eq, HS.out]; exact hne
        have hne1 : (s.toList == []) = false := beq_eq_false_iff_ne.2 hne0
        have hne2 : s.toList.isEmpty = false := by simp [hne0]
        by_cases hbig : 4294967295 < a
        · have hR : R = none := by rw [HV.out]; simp only; rw [if_neg (by omega)]
          have HR' := Lib.hid hR
          have hb' : (4294967295 : Int) < a := by omega
          clear hn hR hr hne hkl hbig hne0
          go_wp2_with fail
          go_ret2
          exact ⟨rfl, .inr ⟨HR'.out, a, rfl⟩⟩
        · have hd := HD.out a w (by have : (10 : Nat) ^ (11 + 1) = 1000000000000 := by decide
                                    omega) (by decide)
          have HDD := Lib.hid hd
          have hb' : (a : Int) ≤ 4294967295 := by omega
          by_cases he : Lib.decDigits a = l
          · have hR : R = some a := by rw [HV.out]; simp only; rw [if_pos ⟨hne, by omega, he⟩]
            have HR' := Lib.hid hR
            have hbs : bStr (Lib.decDigits a) = s := by rw [he, ← HS.out, bStr_eq]
            rw [hbs] at HDD
            clear hn hR hr hne hkl hbig hne0 hd he hbs HD
            go_wp2_with (first | ((go_at_call 202); ((with_reducible refine (HDD.out).mono ?_)); rintro e w1 ⟨rfl, rfl⟩))
            go_ret2
            exact ⟨rfl, .inl ⟨a, HR'.out, rfl⟩⟩
          · have hR : R = none := by rw [HV.out]; simp only; rw [if_neg (by intro h; exact he h.2.2)]
            have HR' := Lib.hid hR
            have hbs : ((bStr (Lib.decDigits a)).toList == s.toList) = false := by rw [ByteArray.toList_eq, ByteArray.toList_eq, HS.out]; exact beq_eq_false_iff_ne.2 he
            clear hn hR hr hne hkl hbig hne0 hd he HD
            generalize bStr (Lib.decDigits a) = S at *
            go_wp2_with (first | ((go_at_call 202); ((with_reducible refine (HDD.out).mono ?_)); rintro e w1 ⟨rfl, rfl⟩))
            go_ret2
            exact ⟨rfl, .inr ⟨HR'.out, a, rfl⟩⟩
end Go.Proofs.YtlmnmgokfnnbbaaGreatDoor
end

/- Walks over the reference's layer 5 (oid): Right, Arcs, Valid. -/
section
set_option linter.unusedSimpArgs false
set_option linter.unusedVariables false
namespace Go.Proofs.YtlmnmgokfnnbbaaGreatDoor
open Go.RowKit Go.Cr Go.Sort Go.Shelf
set_option maxRecDepth 100000 in
set_option maxHeartbeats 2000000 in
theorem rRight (v : Value) (ns : List Nat) (w : World) (hv : IsU .u32 w v ns) :
    Calls Tryz.prog 165 #[v] w fun e w' => e = .returned (.bool (rightL ns)) ∧ w = w' := by
  have hlen := hv.len ulU32s
  by_cases h2 : ns.length < 2
  · have HV : Hid (rightL ns = false) := by
      show rightL ns = false
      match ns, h2 with
      | [], _ => rfl
      | [_], _ => rfl
    have h2' : (ns.length : Int) < 2 := by omega
    clear hv
    go_enter Tryz.func165, Tryz.ntmps165
    rw [HV.out]
    go_wp2
    go_ret
    exact ⟨rfl, rfl⟩
  · obtain ⟨b0, o0, hi0, hl0, hc0⟩ := hv.at_ (P := Tryz.prog) ulU32s szU32 .i64 (i := 0) (by omega) (by omega)
    obtain ⟨b1, o1, hi1, hl1, hc1⟩ := hv.at_ (P := Tryz.prog) ulU32s szU32 .i64 (i := 1) (by omega) (by omega)
    obtain ⟨x, y, t, rfl⟩ : ∃ x y t, ns = x :: y :: t := by
      match ns, h2 with
      | [], h => simp at h
      | [_], h => simp at h
      | x :: y :: t, _ => exact ⟨x, y, t, rfl⟩
    have e0 : ((x :: y :: t).getD (0 : Int).toNat 0 : Nat) = x := rfl
    have e1 : ((x :: y :: t).getD (1 : Int).toNat 0 : Nat) = y := rfl
    rw [e0] at hc0
    rw [e1] at hc1
    have h2' : (2 : Int) ≤ ((x :: y :: t).length : Int) := by omega
    have HR : Hid (rightL (x :: y :: t) = (decide (x ≤ 2) && (if x < 2 then decide (y < 40) else decide (y ≤ 4294967215)))) := rfl
    generalize (x :: y :: t) = L at *
    clear hv h2 e0 e1
    rcases (show ((x : Int) < 2 ∧ (y : Int) < 40) ∨ ((x : Int) < 2 ∧ (40 : Int) ≤ y) ∨ (x : Int) = 2 ∨ (2 : Int) < x by omega) with ⟨hx, hy⟩ | ⟨hx, hy⟩ | hx | hx
    · have hne : ((x : Int) == 2) = false := beq_eq_false_iff_ne.2 (by omega)
      have HB : Hid (rightL L = true) := by show rightL L = true; rw [HR.out, if_pos (by omega), decide_eq_true (by omega : x ≤ 2), decide_eq_true (by omega : y < 40)]; rfl
      go_enter Tryz.func165, Tryz.ntmps165
      rw [HB.out]
      go_wp2
      go_ret
      exact ⟨rfl, rfl⟩
    · have hne : ((x : Int) == 2) = false := beq_eq_false_iff_ne.2 (by omega)
      have HB : Hid (rightL L = false) := by show rightL L = false; rw [HR.out, if_pos (by omega), decide_eq_true (by omega : x ≤ 2), decide_eq_false (by omega : ¬ y < 40)]; rfl
      go_enter Tryz.func165, Tryz.ntmps165
      rw [HB.out]
      go_wp2
      go_ret
      exact ⟨ret_bool (a := decide ((y : Int) < 40)) (decide_eq_false (by omega)), rfl⟩
    · have hx1 : (2 : Int) ≤ x := by omega
      have hx2 : (x : Int) ≤ 2 := by omega
      have heq : ((x : Int) == 2) = true := by rw [hx]; rfl
      clear hx
      by_cases hy : (y : Int) ≤ 4294967215
      · have HB : Hid (rightL L = true) := by show rightL L = true; rw [HR.out, if_neg (by omega), decide_eq_true (by omega : x ≤ 2), decide_eq_true (by omega : y ≤ 4294967215)]; rfl
        go_enter Tryz.func165, Tryz.ntmps165
        rw [HB.out]
        go_wp2
        go_ret
        exact ⟨rfl, rfl⟩
      · have hy' : 4294967215 < (y : Int) := by omega
        have HB : Hid (rightL L = false) := by show rightL L = false; rw [HR.out, if_neg (by omega), decide_eq_true (by omega : x ≤ 2), decide_eq_false (by omega : ¬ y ≤ 4294967215)]; rfl
        clear hy
        go_enter Tryz.func165, Tryz.ntmps165
        rw [HB.out]
        go_wp2
        go_ret
        exact ⟨ret_bool (a := decide ((y : Int) ≤ 4294967215)) (decide_eq_false (by omega)), rfl⟩
    · have HB : Hid (rightL L = false) := by show rightL L = false; rw [HR.out, decide_eq_false (by omega : ¬ x ≤ 2)]; rfl
      go_enter Tryz.func165, Tryz.ntmps165
      rw [HB.out]
      go_wp2
      go_ret
      exact ⟨rfl, rfl⟩

def cur (l : List UInt8) (f k : Nat) : List UInt8 := (l.drop f).take (k - f)
def GRel (l : List UInt8) (q : Option (List Nat)) (w : World) (out fr ix : Value) (wr : World) : Prop :=
  ∃ (k f : Nat) (ns : List Nat), ix = .int .i64 k ∧ fr = .int .i64 f ∧ f ≤ k ∧ k ≤ l.length + 1 ∧ ns.length ≤ k ∧
    ((k ≤ l.length ∧ (∀ c ∈ cur l f k, c ≠ 46) ∧ goArcs (cur l f k) (l.drop k) ns = q) ∨ (k = l.length + 1 ∧ q = some ns)) ∧
    wr.ownsRow w.heap.size 143 1 out ns.length (uCells .u32 ns) ∧ Below w.heap.size w wr

set_option maxRecDepth 100000 in
set_option maxHeartbeats 4000000 in
theorem rArcs (s : ByteArray) (w : World) (hs : s.size ≤ 1000000) :
    Calls Tryz.prog 130 #[.string s] w (RetArcs (arcsL s.data.toList) w) := by
  have hL : s.data.toList.length = s.size := rfl
  obtain ⟨l, hl⟩ : ∃ l, s.data.toList = l := ⟨_, rfl⟩
  have hbt : ∀ (k : Nat) (h : k < s.size), ((s[k]'h).toNat : Int) = bat l k := by
    intro k h
    rw [← hl, bat_eq _ _ (by omega)]
    rfl
  have hcut : ∀ (f k : Nat), f ≤ k → k ≤ s.size → ∃ p : ByteArray, p.data.toList = cur l f k ∧ p.size ≤ 1000000 ∧ ∀ W, (Instr.slice 9 (.string s) (some (.int .i64 (f : Int))) (some (.int .i64 (k : Int))) none).run Tryz.prog W = .ok (.string p) W := by
    intro f k h1 h2
    refine ⟨s.extract f k, ?_, by simp; omega, fun W => ?_⟩
    · rw [Lib.extract_data, hl]; rfl
    · rw [run_slice_string W 9 _ .i64 .i64 _ _ ulS (by omega) (by omega) (by omega)]
      rfl
  have HA : Hid (arcsL l = match numsL (pieces l) with | none => none | some ns => if rightL ns then some ns else none) := rfl
  have HQ : Hid (goArcs [] l [] = numsL (pieces l)) := by
    show goArcs [] l [] = numsL (pieces l)
    rw [goArcs_eq l [] [] (by simp)]
    simp
  rw [hl] at hL ⊢
  have HL := Lib.hid hL
  have HB := Lib.hid hbt
  have HC := Lib.hid hcut
  have HS := Lib.hid hl
  clear hL hbt hcut hl
  generalize arcsL l = r at *
  generalize numsL (pieces l) = q at *
  go_enter Tryz.func130, Tryz.ntmps130
  go_wp2_with fail
  go_loopw [4, 5, 6] (fun out fr ix wr => GRel l q w out fr ix wr) (fun _ _ ix _ => l.length + 1 - (intOf ix).toNat)
  case atStart => exact ⟨0, 0, [], rfl, rfl, Nat.le_refl _, Nat.zero_le _, Nat.zero_le _, .inl ⟨Nat.zero_le _, by simp [cur], by simpa [cur] using HQ.out⟩, World.ownsRow_nil _ _ _ _, Below.refl _ _⟩
  case round =>
    obtain ⟨k, f, ns, rfl, rfl, hfk, hk1, hnk, hst, hown, hbel⟩ := hrel
    have HO := Lib.hid hown
    have HBR := Lib.hid hbel
    clear hown hbel
    have hll := HL.out
    rcases hst with ⟨hk, hfree, hgo⟩ | ⟨hk, hq⟩
    · have hkI : (k : Int) ≤ s.size := by omega
      have hfI : (f : Int) ≤ k := by omega
      by_cases hdot : k < l.length ∧ bat l k ≠ 46
      · obtain ⟨hlt, hne⟩ := hdot
        have hltI : (k : Int) < s.size := by omega
        have hks : k < s.size := by omega
        have hx := HB.out k hks
        have hdrop : l.drop k = l[k] :: l.drop (k + 1) := List.drop_eq_getElem_cons hlt
        have hxb : bat l k = bi l[k] := bat_eq l k hlt
        have hc46 : l[k] ≠ 46 := fun e => hne (by rw [hxb, e]; rfl)
        have hcur : cur l f (k + 1) = cur l f k ++ [l[k]] := by
          unfold cur
          rw [show k + 1 - f = (k - f) + 1 by omega, List.take_succ_eq_append_getElem (by simp; omega)]
          congr 2
          rw [List.getElem_drop]
          congr 1
          omega
        have hfree2 : ∀ c ∈ cur l f (k + 1), c ≠ 46 := by
          rw [hcur]
          intro c hc
          simp only [List.mem_append, List.mem_singleton] at hc
          rcases hc with hc | rfl
          · exact hfree c hc
          · exact hc46
        have hgo2 : goArcs (cur l f (k + 1)) (l.drop (k + 1)) ns = q := by
          rw [hdrop] at hgo
          simp only [goArcs, if_neg hc46] at hgo
          rw [hcur]
          exact hgo
        have HF2 := Lib.hid hfree2
        have HG2 := Lib.hid hgo2
        have hb1 : (bat l k == 46) = false := beq_eq_false_iff_ne.2 hne
        have hb2 : (bat l k != 46) = true := by simp [bne, hb1]
        clear hdrop hxb hc46 hcur hfree2 hgo2 hfree hgo hll hne
        generalize bat l k = x at *
        go_wp2_with fail
        go_roundw
        case rel => exact ⟨k + 1, f, ns, by go_num, rfl, by omega, by omega, by omega, .inl ⟨by omega, HF2.out, HG2.out⟩, HO.out, HBR.out⟩
        case measure => simp [intOf]; omega
      · obtain ⟨p, hp, hpz, hcut⟩ := HC.out f k hfk (by omega)
        have HN := Lib.hid (number_any p · hpz)
        rw [hp, numRef_eq] at HN
        -- where the piece ends
        have hend : goArcs (cur l f k) (l.drop k) ns = (match numL (cur l f k) with | none => none | some n => if k < l.length then goArcs [] (l.drop (k + 1)) (ns ++ [n]) else some (ns ++ [n])) := by
          by_cases hlt : k < l.length
          · have hc46 : l[k] = 46 := by
              have : bat l k = 46 := Classical.byContradiction fun h => hdot ⟨hlt, h⟩
              rw [bat_eq l k hlt] at this
              exact bi_inj this
            rw [List.drop_eq_getElem_cons hlt]
            simp only [goArcs, if_pos hc46, if_pos hlt]
            cases numL (cur l f k) <;> rfl
          · rw [List.drop_eq_nil_of_le (by omega)]
            simp only [goArcs, if_neg hlt]
            cases numL (cur l f k) <;> rfl
        rw [hgo] at hend
        have hcmp : (k : Int) < s.size → ((bat l k == 46) = true ∧ (bat l k != 46) = false) := by
          intro h
          have : bat l k = 46 := Classical.byContradiction fun h' => hdot ⟨by omega, h'⟩
          rw [this]
          exact ⟨rfl, rfl⟩
        have hxx : ∀ h : k < s.size, ((s[k]'h).toNat : Int) = bat l k := HB.out k
        have HH := Lib.hid hend
        have HCM := Lib.hid hcmp
        have HXX := Lib.hid hxx
        have HD := Lib.hid hdot
        have HCU := Lib.hid hcut
        clear hend hgo hdot hp hfree hcmp hxx hcut
        cases hnum : numL (cur l f k) with
        | none =>
          rw [hnum] at HN HH
          have hq : q = none := HH.out
          have hr : r = none := by rw [HA.out, hq]
          have HR := Lib.hid hr
          clear hnum hq hr
          by_cases hlt : k < s.size
          · have hltI : (k : Int) < s.size := by omega
            obtain ⟨hc1, hc2⟩ := HCM.out hltI
            have hx := HXX.out hlt
            have hcut := HCU.out
            generalize bat l k = x at *
            go_wp2_with (first | ((go_at_call 164); ((with_reducible refine (HN.out _).mono ?_)); rintro e w1 ⟨rfl, ⟨n, h, _⟩ | ⟨_, n, rfl⟩⟩; (first | (cases h; done) | skip)))
            go_ret2
            exact ⟨HBR.out, .inl ⟨HR.out, rfl⟩⟩
          · have hgeI : (s.size : Int) ≤ k := by omega
            have hcut := HCU.out
            go_wp2_with (first | ((go_at_call 164); ((with_reducible refine (HN.out _).mono ?_)); rintro e w1 ⟨rfl, ⟨n, h, _⟩ | ⟨_, n, rfl⟩⟩; (first | (cases h; done) | skip)))
            go_ret2
            exact ⟨HBR.out, .inl ⟨HR.out, rfl⟩⟩
        | some m =>
          rw [hnum] at HN HH
          have hm := (numL_some hnum).2
          have hwrap : IntKind.u32.wrap (m : Int) = m := by rw [IntKind.wrap_u32]; omega
          obtain ⟨i0, hi0, hz0, hz1, hz2⟩ := info_parts infoU32
          clear hnum
          by_cases hlt : k < s.size
          · have hltI : (k : Int) < s.size := by omega
            obtain ⟨hc1, hc2⟩ := HCM.out hltI
            have hx := HXX.out hlt
            have hcut := HCU.out
            have hnx : goArcs [] (l.drop (k + 1)) (ns ++ [m]) = q := by have := HH.out; simp only at this; rw [if_pos (by omega)] at this; exact this.symm
            have HNX := Lib.hid hnx
            clear hnx
            generalize bat l k = x at *
            go_wp2_with (first | ((go_at_call 164); ((with_reducible refine (HN.out _).mono ?_)); rintro e w1 ⟨rfl, ⟨n, h, rfl⟩ | ⟨h, _⟩⟩; (first | (cases h; done) | (injection h with h; subst h))) | (at_builtin; refine wpList_app _ rfl _ _ 140 rfl w.heap.size 143 i0 (.int .u32 0) 1 4 ulU32s hi0 hz0 hz1 hz2 rfl (by decide) _ _ _ rfl (HO.out.alloc _) _ 1 (uCells .u32 [m]) rfl ?k0 (uCells_one _ _) ?k1 ?k2 ?k3 ?_))
            case k0 => exact isR_at rfl rfl
            case k1 => unfold maxLen; omega
            case k2 => omega
            case k3 => have := HBR.out.size; simp; omega
            intro out' w4 hown' _ hbel'
            have hbel2 : Below w.heap.size w w4 := (HBR.out.trans ((Below.refl _ _).alloc (by have := HBR.out.size; omega) _)).trans hbel'
            have hown2 : w4.ownsRow w.heap.size 143 1 out' (ns ++ [m]).length (uCells .u32 (ns ++ [m])) := by
              rw [uCells_app, List.length_append]; exact hown'
            have HO2 := Lib.hid hown2
            clear hown' hown2 hbel'
            go_wp2
            go_roundw
            case rel => exact ⟨k + 1, k + 1, ns ++ [m], by go_num, by go_num, by omega, by omega, by simp; omega, .inl ⟨by omega, by simp [cur], by simpa [cur] using HNX.out⟩, HO2.out, hbel2⟩
            case measure => simp [intOf]; omega
          · have hgeI : (s.size : Int) ≤ k := by omega
            have hcut := HCU.out
            have hnx : some (ns ++ [m]) = q := by have := HH.out; simp only at this; rw [if_neg (by omega)] at this; exact this.symm
            have HNX := Lib.hid hnx
            clear hnx
            go_wp2_with (first | ((go_at_call 164); ((with_reducible refine (HN.out _).mono ?_)); rintro e w1 ⟨rfl, ⟨n, h, rfl⟩ | ⟨h, _⟩⟩; (first | (cases h; done) | (injection h with h; subst h))) | (at_builtin; refine wpList_app _ rfl _ _ 140 rfl w.heap.size 143 i0 (.int .u32 0) 1 4 ulU32s hi0 hz0 hz1 hz2 rfl (by decide) _ _ _ rfl (HO.out.alloc _) _ 1 (uCells .u32 [m]) rfl ?k0 (uCells_one _ _) ?k1 ?k2 ?k3 ?_))
            case k0 => exact isR_at rfl rfl
            case k1 => unfold maxLen; omega
            case k2 => omega
            case k3 => have := HBR.out.size; simp; omega
            intro out' w4 hown' _ hbel'
            have hbel2 : Below w.heap.size w w4 := (HBR.out.trans ((Below.refl _ _).alloc (by have := HBR.out.size; omega) _)).trans hbel'
            have hown2 : w4.ownsRow w.heap.size 143 1 out' (ns ++ [m]).length (uCells .u32 (ns ++ [m])) := by
              rw [uCells_app, List.length_append]; exact hown'
            have HO2 := Lib.hid hown2
            clear hown' hown2 hbel'
            go_wp2
            go_roundw
            case rel => exact ⟨k + 1, k + 1, ns ++ [m], by go_num, by go_num, by omega, by omega, by simp; omega, .inr ⟨by omega, HNX.out.symm⟩, HO2.out, hbel2⟩
            case measure => simp [intOf]; omega
    · have hgeI : (s.size : Int) < k := by omega
      have HU := Lib.hid (IsU.of_own HO.out)
      have HRT := Lib.hid (rRight · ns)
      have hr : r = if rightL ns then some ns else none := by rw [HA.out, hq]
      clear hq hk hll
      cases hrl : rightL ns with
      | true =>
        rw [hrl] at hr
        have HR := Lib.hid hr
        rw [hrl] at HRT
        clear hr hrl
        go_wp2_with (first | ((go_at_call 165); ((with_reducible refine (HRT.out _ _ HU.out).mono ?_)); rintro e w2 ⟨rfl, rfl⟩))
        go_ret2
        exact ⟨HBR.out, .inr ⟨ns, _, HR.out, rfl, HU.out⟩⟩
      | false =>
        rw [hrl] at hr
        have HR := Lib.hid hr
        rw [hrl] at HRT
        clear hr hrl
        go_wp2_with (first | ((go_at_call 165); ((with_reducible refine (HRT.out _ _ HU.out).mono ?_)); rintro e w2 ⟨rfl, rfl⟩))
        go_ret2
        exact ⟨HBR.out, .inl ⟨HR.out, rfl⟩⟩

set_option maxRecDepth 100000 in
set_option maxHeartbeats 4000000 in
theorem rOidValid (s : ByteArray) (w : World) (hs : s.size ≤ 1000000) :
    Calls Tryz.prog 96 #[.string s] w (RetB (.bool (arcsL s.data.toList).isSome) w) := by
  have HC := Lib.hid (rArcs s w hs)
  clear hs
  generalize arcsL s.data.toList = r at *
  cases r with
  | none =>
    go_enter Tryz.func96, Tryz.ntmps96
    go_wp2_with (first | ((go_at_call 130); ((with_reducible refine (HC.out).mono ?_)); rintro e w1 ⟨hb, ⟨_, rfl⟩ | ⟨ns, v, h, _, _⟩⟩; (first | (cases h) | skip)))
    go_ret
    exact ⟨rfl, hb⟩
  | some ns0 =>
    go_enter Tryz.func96, Tryz.ntmps96
    go_wp2_with (first | ((go_at_call 130); ((with_reducible refine (HC.out).mono ?_)); rintro e w1 ⟨hb, ⟨h, _⟩ | ⟨ns, v, h, rfl, _⟩⟩; (first | (cases h; done) | skip)))
    go_ret
    exact ⟨rfl, hb⟩
end Go.Proofs.YtlmnmgokfnnbbaaGreatDoor
end

/- Walks over oid.Text and the reference's Text and base. -/
section
set_option linter.unusedSimpArgs false
set_option linter.unusedVariables false
namespace Go.Proofs.YtlmnmgokfnnbbaaGreatDoor
open Go.RowKit Go.Cr Go.Sort Go.Shelf
theorem infoStr : (Tryz.prog.info? 9).map (fun i => (i.zero, i.size, i.bytes)) = some (some (.string ByteArray.empty), 1, 16) := by kernel_rfl
theorem nDigits_le {n : Nat} (h : n ≤ 4294967295) : Lib.nDigits n ≤ 20 := by
  by_cases h0 : n = 0
  · subst h0; rw [Lib.nDigits_small (by omega)]; omega
  · have := Lib.numDigits_eq n (by omega) (by omega)
    split at this <;> omega
theorem join_le (c : Nat) (sep : List UInt8) (xs : List (List UInt8)) (h : ∀ x ∈ xs, x.length ≤ c) : (Lib.join xs sep).length ≤ (c + sep.length) * xs.length := by
  cases xs with
  | nil => simp [Lib.join_nil]
  | cons x r =>
    rw [Lib.join_length]
    have hl : ∀ ys : List (List UInt8), (∀ y ∈ ys, y.length ≤ c) → Lib.lens ys ≤ c * ys.length := by
      intro ys
      induction ys with
      | nil => intro _; simp [Lib.lens]
      | cons y t ih =>
        intro hy
        have h1 := hy y (by simp)
        have h2 := ih (fun z hz => hy z (by simp [hz]))
        simp only [Lib.lens, List.map_cons, List.sum_cons, List.length_cons] at h2 ⊢
        rw [Nat.mul_add, Nat.mul_one]
        omega
    have h1 := hl (x :: r) h
    rw [Nat.add_mul]
    simp only [List.length_cons] at h1 ⊢
    have : sep.length * r.length ≤ sep.length * (r.length + 1) := Nat.mul_le_mul_left _ (by omega)
    omega
theorem textL_len {ns : List Nat} (h : ∀ n ∈ ns, n ≤ 4294967295) : (textL ns).length ≤ 21 * ns.length := by
  have := join_le 20 [46] (ns.map Lib.decDigits) (by
    intro x hx
    simp only [List.mem_map] at hx
    obtain ⟨n, hn, rfl⟩ := hx
    rw [Lib.decDigits_length]
    exact nDigits_le (h n hn))
  simpa [textL] using this

theorem joinS_any (v : Value) (ss : List ByteArray) (sep : ByteArray) (w : World) (hv : IsS w v ss) (hn : ss.length ≤ 1000000) (hl : (Lib.join (ss.map (·.data.toList)) sep.data.toList).length ≤ 140737488355328) :
    Calls Tryz.prog 46 #[v, .string sep] w (RetB (.string (bStr (Lib.join (ss.map (·.data.toList)) sep.data.toList))) w) := by
  obtain ⟨A, c, rfl, h1, h2, h3, h4⟩ := hv
  by_cases h0 : 0 < ss.length
  · obtain ⟨b, off, rfl, hb, hc⟩ := h4 h0
    exact Tryz.strings_Join b off c ss sep w (fun j x hx => hc j _ (by simp [hx])) hb (by omega) h1 hl
  · have : ss = [] := List.length_eq_zero_iff.1 (by omega)
    subst this
    refine (Tryz.strings_Join_none A c sep w).mono ?_
    rintro e w' ⟨rfl, rfl⟩
    exact ⟨rfl, Below.refl _ _⟩

def decS (ns : List Nat) : List ByteArray := ns.map fun n => bStr (Lib.decDigits n)
def TRel (ns : List Nat) (w : World) (out ix : Value) (wr : World) : Prop :=
  ∃ k : Nat, ix = .int .i64 k ∧ k ≤ ns.length ∧ wr.ownsRow w.heap.size 9 1 out k ((decS (ns.take k)).map Value.string) ∧ Below w.heap.size w wr

set_option maxRecDepth 100000 in
set_option maxHeartbeats 4000000 in
theorem text_any (v : Value) (ns : List Nat) (w : World) (hG : Glo w) (hv : IsU .u32 w v ns) (hr : rightL ns = true) (hns : ∀ n ∈ ns, n ≤ 4294967295) (hl : ns.length ≤ 100000) :
    Calls Tryz.prog 123 #[v] w (RetB (.tuple #[.string (bStr (textL ns)), .int .i64 0]) w) := by
  have hlen := hv.len ulU32s
  have HRT := Lib.hid (right_any v ns · · )
  have HV := Lib.hid hv
  have HG := Lib.hid hG
  have hj := fun W x (hx : IsS W x (decS ns)) => joinS_any x (decS ns) ⟨#[46]⟩ W hx (by simp [decS]; omega) (by
    have := textL_len hns
    have e : Lib.join ((decS ns).map (·.data.toList)) [46] = textL ns := by simp [decS, textL, bStr, Function.comp_def]
    show (Lib.join ((decS ns).map (·.data.toList)) [46]).length ≤ _
    rw [e]; omega)
  have e : Lib.join ((decS ns).map (·.data.toList)) (⟨#[46]⟩ : ByteArray).data.toList = textL ns := by
    show Lib.join ((decS ns).map (·.data.toList)) [46] = textL ns
    simp [decS, textL, bStr, Function.comp_def]
  rw [e] at hj
  have HJ := Lib.hid hj
  have HN := Lib.hid hns
  rw [hr] at HRT
  have hll : (ns.length : Int) ≤ 100000 := by omega
  clear hG hv hr hj e hns
  generalize bStr (textL ns) = S at *
  obtain ⟨i0, hi0, hz0, hz1, hz2⟩ := info_parts infoStr
  go_enter Tryz.func123, Tryz.ntmps123
  go_wp2_with (first | ((go_at_call 158); ((with_reducible refine (HRT.out _ HV.out).mono ?_)); rintro e w2 ⟨rfl, rfl⟩))
  go_loopw [4, 12] (fun out ix wr => TRel ns w out ix wr) (fun _ ix _ => ns.length - (intOf ix).toNat)
  case atStart => exact ⟨0, rfl, Nat.zero_le _, World.ownsRow_nil _ _ _ _, Below.refl _ _⟩
  case round =>
    obtain ⟨k, rfl, hk, hown, hbel⟩ := hrel
    have HO := Lib.hid hown
    have HBR := Lib.hid hbel
    clear hown hbel
    by_cases hlt : k < ns.length
    · obtain ⟨b, o, hi, hbl, hc⟩ := (HV.out.below HBR.out).at_ (P := Tryz.prog) ulU32s szU32 .i64 (i := k) (by omega) (by omega)
      simp only [Int.toNat_natCast] at hc
      have hgd : ns.getD k 0 = ns[k] := by simp [hlt]
      rw [hgd] at hc
      have hnk := HN.out ns[k] (List.getElem_mem hlt)
      have HFM := Lib.hid (fmt_any ns[k] · · (by omega))
      have hgw : Glo wr := HG.out.below HBR.out
      have hlt' : (k : Int) < ns.length := by omega
      have hd : decS (ns.take (k + 1)) = decS (ns.take k) ++ [bStr (Lib.decDigits ns[k])] := by
        rw [List.take_succ_eq_append_getElem hlt, decS, List.map_append]; rfl
      have HD := Lib.hid hd
      have hwrap : IntKind.u64.wrap (ns[k] : Int) = ns[k] := by rw [IntKind.wrap_u64]; omega
      clear hgd hd
      generalize ns[k] = x at *
      generalize bStr (Lib.decDigits x) = X at *
      go_wp2_with (first | ((go_at_call 157); ((with_reducible refine (HFM.out _ hgw).mono ?_)); rintro e w3 ⟨rfl, hb3⟩) | (at_builtin; refine wpList_app _ rfl _ _ 61 rfl w.heap.size 9 i0 (.string ByteArray.empty) 1 16 ulStrs hi0 hz0 hz1 hz2 rfl (by decide) _ _ _ rfl ((ownsRow_below HO.out hb3).alloc _) _ 1 [.string X] rfl ?k0 ?k01 ?k1 ?k2 ?k3 ?_))
      case k0 => exact isR_at rfl rfl
      case k01 => intro u hu; simp at hu; subst hu; rfl
      case k1 => unfold maxLen; omega
      case k2 => omega
      case k3 => have := HBR.out.size; have := hb3.size; simp; omega
      intro out' w4 hown' _ hbel'
      have hbel2 : Below w.heap.size w w4 := (HBR.out.trans ((hb3.mono HBR.out.size).trans ((Below.refl _ _).alloc (by have := HBR.out.size; have := hb3.size; omega) _))).trans hbel'
      have hown2 : w4.ownsRow w.heap.size 9 1 out' (k + 1) ((decS (ns.take (k + 1))).map Value.string) := by
        rw [HD.out, List.map_append]; exact hown'
      have HO2 := Lib.hid hown2
      clear hown' hown2 hbel'
      go_wp2
      go_roundw
      case rel => exact ⟨k + 1, by go_num, by omega, HO2.out, hbel2⟩
      case measure => simp [intOf]; omega
    · have hkl : k = ns.length := by omega
      have hge : (ns.length : Int) ≤ k := by omega
      have hu : IsS wr u4 (decS ns) := by
        have := IsR.of_own HO.out
        rw [hkl, List.take_length] at this
        unfold IsS
        rw [show (decS ns).length = ns.length by simp [decS]]
        exact this
      have HU := Lib.hid hu
      clear hu hkl hlt
      go_wp2_with (first | ((go_at_call 46); ((with_reducible refine (HJ.out _ _ HU.out).mono ?_)); rintro e w3 ⟨rfl, hb3⟩))
      go_ret2
      exact ⟨rfl, HBR.out.trans (hb3.mono HBR.out.size)⟩

theorem dig32 (n : Nat) (h : n ≤ 4294967295) (w : World) : Calls Tryz.prog 202 #[.int .u64 n] w fun e w' => e = .returned (.string (bStr (Lib.decDigits n))) ∧ w = w' :=
  dig_any 11 n w (Nat.lt_of_le_of_lt h (by decide)) (by decide)
theorem join_snoc (xs : List (List UInt8)) (x : List UInt8) (h : xs ≠ []) : Lib.join (xs ++ [x]) [46] = Lib.join xs [46] ++ 46 :: x := by
  cases xs with
  | nil => exact absurd rfl h
  | cons y t =>
    rw [List.cons_append, Lib.join_cons, Lib.join_cons]
    simp [Lib.joinTail]
def SRel (ns : List Nat) (s ix : Value) : Prop := ∃ k : Nat, ix = .int .i64 k ∧ 1 ≤ k ∧ k ≤ ns.length ∧ s = .string (bStr (textL (ns.take k)))

set_option maxRecDepth 100000 in
set_option maxHeartbeats 4000000 in
theorem rText (v : Value) (ns : List Nat) (w : World) (hv : IsU .u32 w v ns) (hr : rightL ns = true) (hns : ∀ n ∈ ns, n ≤ 4294967295) (hl : ns.length ≤ 100000) :
    Calls Tryz.prog 204 #[v] w (RetB (.tuple #[.string (bStr (textL ns)), .int .i64 0]) w) := by
  have hlen := hv.len ulU32s
  have h2 := rightL_ne hr
  have HRT := Lib.hid (rRight v ns · · )
  have HV := Lib.hid hv
  have HN := Lib.hid hns
  rw [hr] at HRT
  have hll : (ns.length : Int) ≤ 100000 := by omega
  have h2' : (2 : Int) ≤ ns.length := by omega
  obtain ⟨b0, o0, hi0, hl0, hc0⟩ := hv.at_ (P := Tryz.prog) ulU32s szU32 .i64 (i := 0) (by omega) (by omega)
  have hx0 : ns.getD (0 : Int).toNat 0 = ns[0] := by simp [show 0 < ns.length by omega]
  rw [hx0] at hc0
  have hn0 := hns ns[0] (List.getElem_mem (by omega))
  have hd0 : textL (ns.take 1) = Lib.decDigits ns[0] := by
    rw [List.take_succ_eq_append_getElem (by omega : 0 < ns.length)]
    simp [textL, Lib.join_one]
  have HD0 := Lib.hid (dig32 ns[0] hn0)
  have H00 := Lib.hid hd0
  have hw0 : IntKind.u64.wrap (ns[0] : Int) = ns[0] := by rw [IntKind.wrap_u64]; omega
  clear hr hv hns hx0 hd0 hn0
  generalize ns[0] = x0 at *
  go_enter Tryz.func204, Tryz.ntmps204
  go_wp2_with (first | ((go_at_call 165); ((with_reducible refine (HRT.out _ HV.out).mono ?_)); rintro e w2 ⟨rfl, rfl⟩) | ((go_at_call 202); ((with_reducible refine (HD0.out _).mono ?_)); rintro e w2 ⟨rfl, rfl⟩))
  go_loop [4, 5] (fun s ix => SRel ns s ix) (fun _ ix => ns.length - (intOf ix).toNat)
  case atStart => exact ⟨1, rfl, Nat.le_refl _, by omega, by rw [H00.out]⟩
  case round =>
    obtain ⟨k, rfl, hk1, hk, rfl⟩ := hrel
    by_cases hlt : k < ns.length
    · obtain ⟨b, o, hi, hbl, hc⟩ := HV.out.at_ (P := Tryz.prog) ulU32s szU32 .i64 (i := k) (by omega) (by omega)
      simp only [Int.toNat_natCast] at hc
      have hgd : ns.getD k 0 = ns[k] := by simp [hlt]
      rw [hgd] at hc
      have hnk := HN.out ns[k] (List.getElem_mem hlt)
      have HDK := Lib.hid (dig32 ns[k] hnk)
      have hlt' : (k : Int) < ns.length := by omega
      have hd : textL (ns.take (k + 1)) = textL (ns.take k) ++ 46 :: Lib.decDigits ns[k] := by
        rw [List.take_succ_eq_append_getElem hlt]
        unfold textL
        rw [List.map_append, List.map_cons, List.map_nil, join_snoc _ _ (by intro e; have := congrArg List.length e; simp only [List.length_map, List.length_take, List.length_nil] at this; omega)]
      have hl1 := textL_len (ns := ns.take k) (fun n hn => HN.out n (List.mem_of_mem_take hn))
      have hl2 : (ns.take k).length = k := by simp; omega
      have hd20 := nDigits_le hnk
      have hs1 : (bStr (textL (ns.take k))).size + (⟨#[46]⟩ : ByteArray).size ≤ 9223372036854775807 := by
        show (textL (ns.take k)).length + 1 ≤ _; omega
      have hs2 : (bStr (textL (ns.take k)) ++ (⟨#[46]⟩ : ByteArray)).size + (bStr (Lib.decDigits ns[k])).size ≤ 9223372036854775807 := by
        rw [show (⟨#[46]⟩ : ByteArray) = bStr [46] from rfl, bStr_app]
        show (textL (ns.take k) ++ [46]).length + (Lib.decDigits ns[k]).length ≤ _
        rw [Lib.decDigits_length, List.length_append]
        simp only [List.length_cons, List.length_nil]
        omega
      have hd' : bStr (textL (ns.take k)) ++ (⟨#[46]⟩ : ByteArray) ++ bStr (Lib.decDigits ns[k]) = bStr (textL (ns.take (k + 1))) := by
        rw [show (⟨#[46]⟩ : ByteArray) = bStr [46] from rfl, bStr_app, bStr_app, hd]
        simp
      obtain ⟨S', hS'⟩ : ∃ S', bStr (textL (ns.take (k + 1))) = S' := ⟨_, rfl⟩
      rw [hS'] at hd'
      have HSS := Lib.hid hS'
      have HD := Lib.hid hd'
      have hwrap : IntKind.u64.wrap (ns[k] : Int) = ns[k] := by rw [IntKind.wrap_u64]; omega
      clear hgd hd hd' hl1 hl2 hd20 hS'
      generalize bStr (textL (ns.take k)) = S at *
      generalize ns[k] = x at *
      generalize bStr (Lib.decDigits x) = X at *
      go_wp2_with (first | ((go_at_call 202); ((with_reducible refine (HDK.out _).mono ?_)); rintro e w2 ⟨rfl, rfl⟩))
      go_round
      case rel => exact ⟨k + 1, by go_num, by omega, by omega, by rw [HSS.out, HD.out]⟩
      case measure => simp [intOf]; omega
    · have hkl : k = ns.length := by omega
      have hge : (ns.length : Int) ≤ k := by omega
      have HT : Hid (bStr (textL (ns.take k)) = bStr (textL ns)) := by show _ = _; rw [hkl, List.take_length]
      clear hkl hlt
      generalize bStr (textL (ns.take k)) = S' at *
      generalize bStr (textL ns) = S at *
      go_wp2
      rw [← HT.out]
      go_ret2
      exact ⟨rfl, Below.refl _ _⟩
end Go.Proofs.YtlmnmgokfnnbbaaGreatDoor
end
