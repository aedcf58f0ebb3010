/- The parts OidW, Arcs, RefO, RefP of one proof, one behind the other. -/
import Derived.Test.YtjjkimjdmpeddaaGreatDoorK05
import Derived.Test.YtjjkimjdmpeddaaGreatDoorK02
import Derived.Lib.AppendIntMem
import Derived.Lib.ConvBytes
import Derived.Lib.SmallJoins
import Derived.BigCall
import Derived.BigGuard

/- Walks over layer 5 (oid), first part: decimal numbers, right, Arcs. -/
section
set_option linter.unusedSimpArgs false
set_option linter.unusedVariables false
namespace Go.Proofs.YtjjkimjdmpeddaaGreatDoor
open Go.RowKit Go.Cr Go.Sort Go.Shelf
theorem ulU32s : Tryz.prog.underlying 128 = some (.slice 162) := by kernel_rfl
theorem szU32 (W : World) : (sizeOf 162).run Tryz.prog W = .ok 1 W := by kernel_rfl
theorem infoU32 : (Tryz.prog.info? 162).map (fun i => (i.zero, i.size, i.bytes)) = some (some (.int .u32 0), 1, 4) := by kernel_rfl

def bStr (l : List UInt8) : ByteArray := ⟨l.toArray⟩
theorem bStr_list (l : List UInt8) : (bStr l).data.toList = l := rfl
theorem bStr_eq (s : ByteArray) : bStr s.data.toList = s := by obtain ⟨a⟩ := s; simp [bStr]

theorem ret_bool {a b : Bool} (h : a = b) : Ending.returned (.bool a) = .returned (.bool b) := by rw [h]
set_option maxRecDepth 100000 in
set_option maxHeartbeats 2000000 in
theorem fmtIn (u : Nat) (w : World) (hG : Glo w) (hu : u < 18446744073709551616) :
    Calls Tryz.prog 164 #[.int .u64 u, .int .i64 10] w (RetB (.string (bStr (Lib.decDigits u))) w) := by
  have htab := hG.pow
  by_cases hi : u < 100
  · have HV : Hid (Value.string (bStr (Lib.decDigits u)) = .string ⟨(Lib.decDigits u).toArray⟩) := rfl
    clear hG htab
    go_enter Tryz.func164, Tryz.ntmps164
    go_wp2_with (first | (go_at_call 187; (with_reducible refine (Tryz.internal_strconv_small u hi _).mono ?_); rintro e w' ⟨rfl, rfl⟩))
    rw [HV.out]
    go_ret
    exact ⟨rfl, Below.refl _ _⟩
  · have hu1 : 1 ≤ u := by omega
    have hge : (100 : Int) ≤ u := by omega
    have hnd20 : Lib.nDigits u ≤ 20 := by have := Lib.numDigits_eq u hu1 hu; split at this <;> omega
    have hal : Tryz.prog.arrayLen 226 = 24 := by kernel_rfl
    have hsl1 : ∀ W, (Instr.sliceAt 226 (.pointer (some ⟨w.heap.size, 0, none⟩)) none (some (.int .i64 (Lib.nDigits u : Int))) none).run Tryz.prog W = .ok (.slice (some ⟨w.heap.size, 0, none⟩) (Lib.nDigits u) 24) W := fun W => by
      rw [run_sliceAt_array_h W 226 ⟨w.heap.size, 0, none⟩ (by kernel_rfl) .i64 (Lib.nDigits u : Int) (by omega) (by rw [hal]; omega)]
      rw [show (sizeOf (Tryz.prog.elem 226)).run Tryz.prog W = .ok 1 W by kernel_rfl]
      simp [Result.andThen, slicedAt, hal, Addr.add]
    have hH0 := Lib.holds_zero0 w 226 (Lib.nDigits u) (by omega)
    have hfmt := Tryz.internal_strconv_formatBase10 w.heap.size 0 24 u (Array.replicate (Lib.nDigits u) 0) (w.alloc (.cells Lib.zeros24 226)) hH0 (by rw [Array.size_replicate]; exact Lib.lt_pow_nDigits u) hu (by rw [Array.size_replicate]; omega)
    rw [Array.size_replicate] at hfmt
    have HH0 := Lib.hid hH0
    have HZ := Lib.hid htab
    clear hH0 hal hG htab
    go_enter Tryz.func164, Tryz.ntmps164
    go_wp2_with (first | (go_at_call 188; (with_reducible refine (Tryz.internal_strconv_numDigits u hu1 hu _ (Lib.tabIs_alloc HZ.out _)).mono ?_); rintro e w' ⟨rfl, rfl⟩))
    go_at_call 189
    refine hfmt.mono ?_
    rintro e w' ⟨rfl, k, v', dk, rfl, hF⟩
    have hcv : (convert 32 9 (.slice (some ⟨w.heap.size, 0, none⟩) (Lib.nDigits u) 24)).run Tryz.prog ((putRow (fun (b : UInt8) => Value.int .u8 (b.toNat : Int)) (w.alloc (.cells Lib.zeros24 226)) w.heap.size 0 dk).drewN k) = .ok (.string ⟨(Lib.decDigits u).toArray⟩) ((putRow (fun (b : UInt8) => Value.int .u8 (b.toNat : Int)) (w.alloc (.cells Lib.zeros24 226)) w.heap.size 0 dk).drewN k) := by
      have h := run_convert_bytes_back (P := Tryz.prog) ((putRow (fun (b : UInt8) => Value.int .u8 (b.toNat : Int)) (w.alloc (.cells Lib.zeros24 226)) w.heap.size 0 dk).drewN k) 32 9 5 ⟨w.heap.size, 0, none⟩ 24 (Lib.decDigits u) (by kernel_rfl) (by kernel_rfl) (by kernel_rfl) (fun j hj => by
        rw [Lib.row_is_numeral hF j hj, Lib.add_plain, World.cell?_drewN]
        exact cell?_putRow (fun (b : UInt8) => Value.int .u8 (b.toNat : Int)) _ w.heap.size 0 _ dk HH0.out (by rw [hF.size, Array.size_replicate]) j (by rw [hF.size]; rw [Lib.decDigits_length] at hj; exact hj))
      rw [Lib.decDigits_length] at h
      exact h
    go_wp2
    go_ret
    obtain ⟨os, eo⟩ := Lib.fin_at w (.cells Lib.zeros24 226) dk k 0
    refine ⟨rfl, ?_⟩
    rw [eo]
    exact Lib.below_grow _ _ (Nat.le_refl _) _ _

set_option maxRecDepth 100000 in
set_option maxHeartbeats 2000000 in
theorem fmt_any (u : Nat) (w : World) (hG : Glo w) (hu : u < 18446744073709551616) :
    Calls Tryz.prog 139 #[.int .u64 u, .int .i64 10] w (RetB (.string (bStr (Lib.decDigits u))) w) := by
  have HC := Lib.hid (fmtIn u w hG hu)
  clear hG hu
  generalize bStr (Lib.decDigits u) = S at *
  go_enter Tryz.func139, Tryz.ntmps139
  go_wp2_with (first | (go_at_call 164; (with_reducible refine (HC.out).mono ?_); rintro e w' ⟨rfl, hb⟩))
  go_ret
  exact ⟨rfl, hb⟩

theorem pu_ok (s : ByteArray) (u : Nat) (w : World) (hs : s.size ≤ 1000000) (h : Lib.parseUintB 32 s.data.toList = .ok u) :
    Calls Tryz.prog 138 #[.string s, .int .i64 10, .int .i64 32] w (RetB (.tuple #[.int .u64 u, .nilIface]) w) := by
  refine (Tryz.strconv_ParseUint_10_at32_ok s (by omega) u h w).mono ?_
  rintro e w' ⟨rfl, rfl | rfl⟩
  · exact ⟨rfl, Below.refl _ _⟩
  · exact ⟨rfl, Joins.below_bytesWorld _ _ _ _ (Nat.le_refl _)⟩
def RetNo (w : World) (e : Ending) (w' : World) : Prop := ∃ (t : TypeId) (N : Nat) (k : Int), e = .returned (.tuple #[.int .u64 k, .iface t (.pointer (some ⟨N, 0, none⟩))]) ∧ Below w.heap.size w w'
theorem pu_no (s : ByteArray) (w : World) (hG : Glo w) (hs : s.size ≤ 1000000) (h : ∀ u, Lib.parseUintB 32 s.data.toList ≠ .ok u) :
    Calls Tryz.prog 138 #[.string s, .int .i64 10, .int .i64 32] w (RetNo w) := by
  obtain ⟨t, p, h1⟩ := hG.syn
  obtain ⟨t', p', h2⟩ := hG.rng
  rcases hp : Lib.parseUintB 32 s.data.toList with u | _ | _
  · exact absurd hp (h u)
  · refine (Any.strconv_ParseUint_10_at32_syntax Tryz.laysPu14 s (by omega) hp _ w h1 (.inr ⟨t, p, rfl⟩)).mono ?_
    rintro e w' ⟨N, rfl, _, _, hb⟩
    exact ⟨_, N, _, rfl, hb⟩
  · refine (Tryz.strconv_ParseUint_10_at32_range s (by omega) hp _ w h2 (.inr ⟨t', p', rfl⟩)).mono ?_
    rintro e w' ⟨N, rfl, _, _, hb⟩
    exact ⟨_, N, _, rfl, hb⟩

set_option maxRecDepth 100000 in
set_option maxHeartbeats 2000000 in
theorem right_any (v : Value) (ns : List Nat) (w : World) (hv : IsU .u32 w v ns) :
    Calls Tryz.prog 140 #[v] w fun e w' => e = .returned (.bool (rightL ns)) ∧ w = w' := by
  have hlen := hv.len ulU32s
  by_cases h2 : ns.length < 2
  · have HV : Hid (rightL ns = false) := by
      show rightL ns = false
      match ns, h2 with
      | [], _ => rfl
      | [_], _ => rfl
    have h2' : (ns.length : Int) < 2 := by omega
    clear hv
    go_enter Tryz.func140, Tryz.ntmps140
    rw [HV.out]
    go_wp2
    go_ret
    exact ⟨rfl, rfl⟩
  · obtain ⟨b0, o0, hi0, hl0, hc0⟩ := hv.at_ (P := Tryz.prog) ulU32s szU32 .i64 (i := 0) (by omega) (by omega)
    obtain ⟨b1, o1, hi1, hl1, hc1⟩ := hv.at_ (P := Tryz.prog) ulU32s szU32 .i64 (i := 1) (by omega) (by omega)
    obtain ⟨x, y, t, rfl⟩ : ∃ x y t, ns = x :: y :: t := by
      match ns, h2 with
      | [], h => simp at h
      | [_], h => simp at h
      | x :: y :: t, _ => exact ⟨x, y, t, rfl⟩
    have e0 : ((x :: y :: t).getD (0 : Int).toNat 0 : Nat) = x := rfl
    have e1 : ((x :: y :: t).getD (1 : Int).toNat 0 : Nat) = y := rfl
    rw [e0] at hc0
    rw [e1] at hc1
    have h2' : (2 : Int) ≤ ((x :: y :: t).length : Int) := by omega
    have HR : Hid (rightL (x :: y :: t) = (decide (x ≤ 2) && (if x < 2 then decide (y < 40) else decide (y ≤ 4294967215)))) := rfl
    generalize (x :: y :: t) = L at *
    clear hv h2 e0 e1
    rcases (show (x : Int) < 2 ∨ (x : Int) = 2 ∨ (2 : Int) < x by omega) with hx | hx | hx
    · go_enter Tryz.func140, Tryz.ntmps140
      go_wp2
      go_ret
      refine ⟨ret_bool (a := decide ((y : Int) < 40)) ?_, rfl⟩
      rw [HR.out, if_pos (by omega), decide_eq_true (by omega : x ≤ 2), Bool.true_and]
      exact decide_eq_decide.2 (by omega)
    · have hx1 : (2 : Int) ≤ x := by omega
      have hx2 : (x : Int) ≤ 2 := by omega
      clear hx
      go_enter Tryz.func140, Tryz.ntmps140
      go_wp2
      go_ret
      refine ⟨ret_bool (a := decide ((y : Int) ≤ 4294967215)) ?_, rfl⟩
      rw [HR.out, if_neg (by omega), decide_eq_true (by omega : x ≤ 2), Bool.true_and]
      exact decide_eq_decide.2 (by omega)
    · go_enter Tryz.func140, Tryz.ntmps140
      go_wp2
      go_ret
      refine ⟨ret_bool (a := false) ?_, rfl⟩
      rw [HR.out, decide_eq_false (by omega : ¬ x ≤ 2), Bool.false_and]
end Go.Proofs.YtjjkimjdmpeddaaGreatDoor
end

/- Walks over oid.Arcs, oid.Valid. -/
section
set_option linter.unusedSimpArgs false
set_option linter.unusedVariables false
namespace Go.Proofs.YtjjkimjdmpeddaaGreatDoor
open Go.RowKit Go.Cr Go.Sort Go.Shelf
theorem ulStrs : Tryz.prog.underlying 167 = some (.slice 9) := by kernel_rfl
theorem szStr (W : World) : (sizeOf 9).run Tryz.prog W = .ok 1 W := by kernel_rfl

def IsS (w : World) (v : Value) (ss : List ByteArray) : Prop := IsR w v 1 ss.length (ss.map Value.string)
theorem IsS.below {w w' : World} {v : Value} {ss : List ByteArray} (h : IsS w v ss) (hb : Below w.heap.size w w') : IsS w' v ss := IsR.below h hb
theorem IsS.len {w : World} {v : Value} {ss : List ByteArray} (h : IsS w v ss) : ∀ (ty : TypeId) (W : World), (Builtin.len_ #[167] ty #[v]).run Tryz.prog W = .ok (.int .i64 ss.length) W := IsR.len h ulStrs
theorem IsS.maxl {w : World} {v : Value} {ss : List ByteArray} (h : IsS w v ss) : (ss.length : Int) ≤ 9223372036854775807 := IsR.maxl h
theorem IsS.at_ {w : World} {v : Value} {ss : List ByteArray} (h : IsS w v ss) (kd : IntKind) {i : Int} (h0 : 0 ≤ i) (h1 : i < ss.length) :
    ∃ b o, (∀ W : World, (Instr.indexAt 167 v (.int kd i)).run Tryz.prog W = .ok (.pointer (some ⟨b, o, none⟩)) W) ∧ b < w.heap.size ∧ w.cell? ⟨b, o, none⟩ = some (.string (ss.getD i.toNat ByteArray.empty)) := by
  obtain ⟨b, o, hi, hb, hc⟩ := IsR.at_ h ulStrs szStr kd h0 h1
  refine ⟨b, o, hi, hb, ?_⟩
  have hlt : i.toNat < ss.length := by omega
  have := hc 0 (.string (ss.getD i.toNat ByteArray.empty)) (by simp [hlt])
  simpa using this

def pcs (s : ByteArray) : List ByteArray := Lib.splitB ⟨#[46]⟩ 0 (Lib.countB s ⟨#[46]⟩) s
theorem pcs_map (s : ByteArray) : (pcs s).map (·.data.toList) = pieces s.data.toList := by
  unfold pcs
  rw [Lib.splitB_data]
  exact split_pieces _
theorem split_any (s : ByteArray) (w : World) (hG : Glo w) (hs : s.size ≤ 1000000) :
    Calls Tryz.prog 137 #[.string s, .string ⟨#[46]⟩] w fun e w' => ∃ v, e = .returned v ∧ IsS w' v (pcs s) ∧ Below w.heap.size w w' := by
  obtain ⟨m, hm⟩ := hG.maxlen
  refine (Tryz.strings_Split s ⟨#[46]⟩ m w (by omega) hm (by decide)).mono ?_
  rintro e w' ⟨rfl, rfl⟩
  have hN := Lib.splitB_all ⟨#[46]⟩ (by decide) 0 _ s rfl
  have hle := Lib.countB_le ⟨#[46]⟩ (by decide) _ s (Nat.le_refl _)
  refine ⟨_, rfl, ⟨some ⟨w.heap.size, 0, none⟩, Lib.countB s ⟨#[46]⟩ + 1, ?_, ?_, ?_, by simp, fun _ => ⟨w.heap.size, 0, rfl, by simp, fun j x hj => ?_⟩⟩, (Below.refl _ _).alloc (Nat.le_refl _) _⟩
  · show Value.slice _ _ _ = Value.slice _ (pcs s).length _
    rw [show (pcs s).length = _ from hN]
  · rw [show (pcs s).length = _ from hN]; omega
  · unfold maxLen; omega
  · rw [Nat.zero_add, World.cell?_alloc_new]
    simpa [pcs] using hj

theorem numsL_snoc (ps : List (List UInt8)) (p : List UInt8) : numsL (ps ++ [p]) = match numsL ps, numL p with
    | some ns, some n => some (ns ++ [n])
    | _, _ => none := by
  induction ps with
  | nil => simp only [List.nil_append, numsL]; cases numL p <;> rfl
  | cons q t ih =>
    simp only [List.cons_append, numsL]
    cases numL q with
    | none => rfl
    | some m =>
      simp only [ih]
      cases numsL t <;> cases numL p <;> rfl
theorem numsL_stop {ps : List (List UInt8)} {k : Nat} (hk : k < ps.length) (h : numL ps[k] = none) : numsL ps = none := by
  induction ps generalizing k with
  | nil => simp at hk
  | cons q t ih =>
    simp only [numsL]
    cases k with
    | zero => simp only [List.getElem_cons_zero] at h; rw [h]
    | succ k =>
      simp only [List.getElem_cons_succ] at h
      rw [ih (by simpa using hk) h]
      cases numL q <;> rfl

def RetArcs (r : Option (List Nat)) (w : World) (e : Ending) (w' : World) : Prop :=
  Below w.heap.size w w' ∧ ((r = none ∧ e = .returned (.tuple #[.slice none 0 0, .int .i64 11])) ∨ ∃ ns v, r = some ns ∧ e = .returned (.tuple #[v, .int .i64 0]) ∧ IsU .u32 w' v ns)
def ARel (ps : List ByteArray) (w1 : World) (out ix : Value) (wr : World) : Prop :=
  ∃ (k : Nat) (ns : List Nat), ix = .int .i64 k ∧ k ≤ ps.length ∧ ns.length = k ∧ numsL ((ps.take k).map (·.data.toList)) = some ns ∧ wr.ownsRow w1.heap.size 162 1 out ns.length (uCells .u32 ns) ∧ Below w1.heap.size w1 wr

set_option maxRecDepth 100000 in
set_option maxHeartbeats 4000000 in
theorem arcs_any (s : ByteArray) (w : World) (hG : Glo w) (hs : s.size ≤ 1000000) :
    Calls Tryz.prog 106 #[.string s] w (RetArcs (arcsL s.data.toList) w) := by
  have hN : (pcs s).length ≤ 1000001 := by
    have h1 := congrArg List.length (pcs_map s)
    have h2 := pieces_len s.data.toList
    simp only [List.length_map] at h1
    have h3 : s.data.toList.length = s.size := rfl
    omega
  have hps : ∀ (j : Nat) (h : j < (pcs s).length), ((pcs s)[j]).size ≤ 1000000 := by
    intro j h
    have h1 := pieces_mem_len s.data.toList (pcs s)[j].data.toList (by rw [← pcs_map]; exact List.mem_map_of_mem (List.getElem_mem h))
    have h3 : s.data.toList.length = s.size := rfl
    have h4 : (pcs s)[j].data.toList.length = (pcs s)[j].size := rfl
    omega
  have HM := Lib.hid (pcs_map s)
  have HA : Hid (arcsL s.data.toList = match numsL (pieces s.data.toList) with | none => none | some ns => if rightL ns then some ns else none) := rfl
  have HS := Lib.hid (split_any s w hG hs)
  have HG := Lib.hid hG
  have HP := Lib.hid hps
  clear hG hps
  generalize pcs s = ps at *
  generalize pieces s.data.toList = qs at *
  generalize arcsL s.data.toList = r at *
  go_enter Tryz.func106, Tryz.ntmps106
  go_wp2_with (first | ((go_at_call 137); ((with_reducible refine (HS.out).mono ?_)); rintro e w1 ⟨v, rfl, hv, hb1⟩; have HV := Lib.hid hv; have HB1 := Lib.hid hb1; have hlen := hv.len; clear hv hb1))
  go_loopw [4, 12] (fun out ix wr => ARel ps w1 out ix wr) (fun _ ix _ => ps.length - (intOf ix).toNat)
  case atStart => exact ⟨0, [], rfl, Nat.zero_le _, rfl, rfl, World.ownsRow_nil _ _ _ _, Below.refl _ _⟩
  case round =>
    obtain ⟨k, ns, rfl, hk, hkn, hnums, hown, hbel⟩ := hrel
    have HO := Lib.hid hown
    have HN := Lib.hid hnums
    have HK := Lib.hid hkn
    have HBR := Lib.hid hbel
    clear hlen hown hnums hkn
    by_cases hlt : k < ps.length
    · obtain ⟨b, o, hi, hbl, hc⟩ := HV.out.at_ .i64 (i := k) (by omega) (by omega)
      simp only [Int.toNat_natCast] at hc
      have hc' : wr.cell? ⟨b, o, none⟩ = some (.string (ps.getD k ByteArray.empty)) := (hbel.cell hbl).trans hc
      have hgw : Glo wr := (HG.out.below HB1.out).below hbel
      have hsz := HP.out k hlt
      have hgp : ps.getD k ByteArray.empty = ps[k] := by simp [hlt]
      rw [hgp] at hc'
      have hqk : ∃ h : k < qs.length, qs[k] = ps[k].data.toList := by
        have := HM.out
        subst this
        exact ⟨by simpa using hlt, by simp⟩
      obtain ⟨hql, hqe⟩ := hqk
      have HQ := Lib.hid hqe
      clear hc hgp hbel hqe
      have hlt' : (k : Int) < ps.length := by omega
      by_cases hok : ∃ u, Lib.parseUintB 32 ps[k].data.toList = .ok u
      · obtain ⟨u, hu⟩ := hok
        have hule : u ≤ 4294967295 := Lib.parseUintB_le hu
        have HPU := Lib.hid (pu_ok ps[k] u · hsz hu)
        have HFM := Lib.hid (fmt_any u · · (by omega))
        by_cases hd : Lib.decDigits u = ps[k].data.toList
        · have hnum : numL qs[k] = some u := by rw [HQ.out]; unfold numL; rw [hu]; simp [hd]
          have hsnoc : numsL ((ps.take (k + 1)).map (·.data.toList)) = some (ns ++ [u]) := by
            rw [List.take_succ_eq_append_getElem hlt, List.map_append, List.map_cons, List.map_nil, numsL_snoc, HN.out]
            rw [HQ.out] at hnum
            rw [hnum]
          have HS2 := Lib.hid hsnoc
          have hbs : bStr (Lib.decDigits u) = ps[k] := by rw [hd, bStr_eq]
          rw [hbs] at HFM
          have hwrap : IntKind.u32.wrap (u : Int) = u := by rw [IntKind.wrap_u32]; omega
          have HW := Lib.hid hwrap
          clear hu hd hnum hsnoc hbs hwrap
          generalize ps[k] = p at *
          obtain ⟨i0, hi0, hz0, hz1, hz2⟩ := info_parts infoU32
          go_wp2_with (first | ((go_at_call 138); ((with_reducible refine (HPU.out _).mono ?_)); rintro e w2 ⟨rfl, hb2⟩) | ((go_at_call 139); ((with_reducible refine (HFM.out _ (hgw.below hb2)).mono ?_)); rintro e w3 ⟨rfl, hb3⟩) | (at_builtin; refine wpList_app _ rfl _ _ 128 rfl w1.heap.size 162 i0 (.int .u32 0) 1 4 ulU32s hi0 hz0 hz1 hz2 rfl (by decide) _ _ _ rfl ((ownsRow_below (ownsRow_below HO.out hb2) hb3).alloc _) _ 1 (uCells .u32 [u]) rfl ?k0 (uCells_one _ _) ?k1 ?k2 ?k3 ?_))
          case k0 => exact isR_at rfl rfl
          case k1 => have := HK.out; unfold maxLen; omega
          case k2 => have := HK.out; omega
          case k3 => have := HBR.out.size; have := hb2.size; have := hb3.size; simp; omega
          intro out' w4 hown' _ hbel'
          have hbel2 : Below w1.heap.size w1 w4 := (HBR.out.trans ((hb2.mono HBR.out.size).trans ((hb3.mono (by have := HBR.out.size; have := hb2.size; omega)).trans ((Below.refl _ _).alloc (by have := HBR.out.size; have := hb2.size; have := hb3.size; omega) _)))).trans hbel'
          have hown2 : w4.ownsRow w1.heap.size 162 1 out' (ns ++ [u]).length (uCells .u32 (ns ++ [u])) := by
            rw [uCells_app, List.length_append]; exact hown'
          have HO2 := Lib.hid hown2
          clear hown' hown2 hbel'
          go_wp2
          go_roundw
          case rel => exact ⟨k + 1, ns ++ [u], by go_num, by omega, by have := HK.out; simp; omega, HS2.out, HO2.out, hbel2⟩
          case measure => simp [intOf]; omega
        · have hnum : numL qs[k] = none := by rw [HQ.out]; unfold numL; rw [hu]; simp [hd]
          have hr : r = none := by rw [HA.out, numsL_stop hql hnum]
          have HR := Lib.hid hr
          have hbs : ((bStr (Lib.decDigits u)).toList == ps[k].toList) = false := by rw [ByteArray.toList_eq, ByteArray.toList_eq]; exact beq_eq_false_iff_ne.2 hd
          clear hu hd hnum hr
          generalize ps[k] = p at *
          generalize bStr (Lib.decDigits u) = p' at *
          go_wp2_with (first | ((go_at_call 138); ((with_reducible refine (HPU.out _).mono ?_)); rintro e w2 ⟨rfl, hb2⟩) | ((go_at_call 139); ((with_reducible refine (HFM.out _ (hgw.below hb2)).mono ?_)); rintro e w3 ⟨rfl, hb3⟩))
          go_ret2
          exact ⟨(HB1.out.trans (HBR.out.mono HB1.out.size)).trans ((hb2.mono (by have := HBR.out.size; have := HB1.out.size; omega)).trans (hb3.mono (by have := HBR.out.size; have := HB1.out.size; have := hb2.size; omega))), .inl ⟨HR.out, rfl⟩⟩
      · have hok' : ∀ u, Lib.parseUintB 32 ps[k].data.toList ≠ .ok u := fun u hu => hok ⟨u, hu⟩
        have hnum : numL qs[k] = none := by
          rw [HQ.out]
          unfold numL
          split
          · rename_i u hu; exact absurd hu (hok' u)
          · rfl
        have hr : r = none := by rw [HA.out, numsL_stop hql hnum]
        have HR := Lib.hid hr
        have HPU := Lib.hid (pu_no ps[k] · · hsz hok')
        clear hok hok' hnum hr
        generalize ps[k] = p at *
        go_wp2_with (first | ((go_at_call 138); ((with_reducible refine (HPU.out _ hgw).mono ?_)); rintro e w2 ⟨t, N, x, rfl, hb2⟩))
        go_ret2
        exact ⟨(HB1.out.trans (HBR.out.mono HB1.out.size)).trans (hb2.mono (by have := HBR.out.size; have := HB1.out.size; omega)), .inl ⟨HR.out, rfl⟩⟩
    · have hkl : k = ps.length := by omega
      have hall : numsL qs = some ns := by
        have := HN.out
        rwa [hkl, List.take_length, HM.out] at this
      have hge : ((ps.length : Nat) : Int) ≤ (k : Int) := by omega
      have HU := Lib.hid (IsU.of_own HO.out)
      have HRT := Lib.hid (right_any · ns)
      have hr : r = if rightL ns then some ns else none := by rw [HA.out, hall]
      clear hall hkl hlt hbel
      cases hrl : rightL ns with
      | true =>
        rw [hrl] at hr
        have HR := Lib.hid hr
        rw [hrl] at HRT
        clear hr hrl
        go_wp2_with (first | ((go_at_call 140); ((with_reducible refine (HRT.out _ _ HU.out).mono ?_)); rintro e w2 ⟨rfl, rfl⟩))
        go_ret2
        exact ⟨HB1.out.trans (HBR.out.mono HB1.out.size), .inr ⟨ns, _, HR.out, rfl, HU.out⟩⟩
      | false =>
        rw [hrl] at hr
        have HR := Lib.hid hr
        rw [hrl] at HRT
        clear hr hrl
        go_wp2_with (first | ((go_at_call 140); ((with_reducible refine (HRT.out _ _ HU.out).mono ?_)); rintro e w2 ⟨rfl, rfl⟩))
        go_ret2
        exact ⟨HB1.out.trans (HBR.out.mono HB1.out.size), .inl ⟨HR.out, rfl⟩⟩

set_option maxRecDepth 100000 in
set_option maxHeartbeats 4000000 in
theorem oidValid (s : ByteArray) (w : World) (hG : Glo w) (hs : s.size ≤ 1000000) :
    Calls Tryz.prog 69 #[.string s] w (RetB (.bool (arcsL s.data.toList).isSome) w) := by
  have HC := Lib.hid (arcs_any s w hG hs)
  clear hG hs
  generalize arcsL s.data.toList = r at *
  cases r with
  | none =>
    go_enter Tryz.func69, Tryz.ntmps69
    go_wp2_with (first | ((go_at_call 106); ((with_reducible refine (HC.out).mono ?_)); rintro e w1 ⟨hb, ⟨_, rfl⟩ | ⟨ns, v, h, _, _⟩⟩; (first | (cases h) | skip)))
    go_ret
    exact ⟨rfl, hb⟩
  | some ns0 =>
    go_enter Tryz.func69, Tryz.ntmps69
    go_wp2_with (first | ((go_at_call 106); ((with_reducible refine (HC.out).mono ?_)); rintro e w1 ⟨hb, ⟨h, _⟩ | ⟨ns, v, h, rfl, _⟩⟩; (first | (cases h; done) | skip)))
    go_ret
    exact ⟨rfl, hb⟩
end Go.Proofs.YtjjkimjdmpeddaaGreatDoor
end

/- Walks over the reference's layer 5 (oid): digits, number, Right, Arcs, Valid. -/
section
set_option linter.unusedSimpArgs false
set_option linter.unusedVariables false
namespace Go.Proofs.YtjjkimjdmpeddaaGreatDoor
open Go.RowKit Go.Cr Go.Sort Go.Shelf
theorem ulS : Tryz.prog.underlying 9 = some .string := by kernel_rfl
end Go.Proofs.YtjjkimjdmpeddaaGreatDoor
end

/- Walks over the reference's layer 5 (oid): Right, Arcs, Valid. -/
section
set_option linter.unusedSimpArgs false
set_option linter.unusedVariables false
namespace Go.Proofs.YtjjkimjdmpeddaaGreatDoor
open Go.RowKit Go.Cr Go.Sort Go.Shelf
def cur (l : List UInt8) (f k : Nat) : List UInt8 := (l.drop f).take (k - f)
end Go.Proofs.YtjjkimjdmpeddaaGreatDoor
end
