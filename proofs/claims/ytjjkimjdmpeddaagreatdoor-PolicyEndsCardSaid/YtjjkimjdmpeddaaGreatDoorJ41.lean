/- The parts LawPolE of one proof, one behind the other. -/
import Derived.Test.YtjjkimjdmpeddaaGreatDoorJ40

/- PolicyEnds: the walk. -/
section
set_option linter.unusedSimpArgs false
set_option linter.unusedVariables false
namespace Go.Proofs.YtjjkimjdmpeddaaGreatDoor.PolEDone
open Go.RowKit Go.Cr
theorem head_len {C Y r : List UInt8} (hc : C.length ≤ 100000) (hy : Y.length ≤ 100000) (h : encO 0 true 16 C = encO 0 true 16 Y ++ r) : r = [] := by
  have h1 := nextH_enc 0 16 true C [] (by decide) (by decide) (by decide) (by decide) (by omega)
  have h2 := nextH_enc 0 16 true Y r (by decide) (by decide) (by decide) (by decide) (by omega)
  rw [List.append_nil, h, h2] at h1
  injection h1 with h1
  injection h1 with _ _ _ e _
  have e1 := encO_len 0 16 true C
  have e2 := encO_len 0 16 true Y
  rw [h, List.length_append, e2, show Y.length = C.length by omega] at e1
  exact List.eq_nil_of_length_eq_zero (by omega)
theorem lenOct3 {n : Nat} (h : n < 65536) : (lenOct n).length ≤ 3 := by
  have h1 : (minF 7 n).length ≤ 2 := by
    rw [show (7 : Nat) = 1 + 6 from rfl, minF_fuel 1 6 n (by simpa using h)]
    exact (minF_len 1 n).2
  unfold lenOct
  split
  · omega
  · simp only [List.length_cons]; omega
theorem seqB_le4 (ls : List (List UInt8)) (h : ls.flatten.length < 65536) : (seqB ls).length ≤ ls.flatten.length + 4 := by
  unfold seqB
  rw [encO_len]
  have := lenOct3 h
  omega
theorem objB_le4 (s : List UInt8) (h : s.length < 65536) : (objB s).length ≤ s.length + 4 := by
  unfold objB
  rw [encO_len]
  cases ho : oidE s with
  | none => have := lenOct3 (n := ([] : List UInt8).length) (by simp); simp only [Option.getD_none, List.length_nil] at this ⊢; omega
  | some c => have h2 := oidE_le ho; have := lenOct3 (n := c.length) (by omega); simp only [Option.getD_some] at this ⊢; omega
theorem quaL_le8 (q : Qual) (h : q.1.size + q.2.length < 65000) : (quaL q).length ≤ q.1.size + q.2.length + 8 := by
  have e1 : q.1.data.toList.length = q.1.size := rfl
  have h2 := objB_le4 q.1.data.toList (by omega)
  have h1 := seqB_le4 [objB q.1.data.toList, q.2] (by simp only [List.flatten_cons, List.flatten_nil, List.append_nil, List.length_append]; omega)
  have e : quaL q = seqB [objB q.1.data.toList, q.2] := rfl
  rw [e]
  simp only [List.flatten_cons, List.flatten_nil, List.append_nil, List.length_append] at h1
  omega
theorem quas_le8 (qs : List Qual) (h : wtQs qs < 60000) : (qs.map quaL).flatten.length ≤ wtQs qs + 8 * qs.length := by
  induction qs with
  | nil => simp
  | cons x t ih =>
    have hw : wtQs (x :: t) = (x.1.size + x.2.length) + wtQs t := by unfold wtQs; simp only [List.map_cons, List.sum_cons]; rfl
    rw [hw] at h ⊢
    have h0 := quaL_le8 x (by omega)
    have := ih (by omega)
    simp only [List.map_cons, List.flatten_cons, List.length_append, List.length_cons]
    omega
theorem polL_le12 (p : Pol) (h : wtP p < 2000) : (polL p).length ≤ wtP p + 12 := by
  have hw : wtP p = p.1.size + 10 * p.2.length + wtQs p.2 := rfl
  have e1 : p.1.data.toList.length = p.1.size := rfl
  have h2 := objB_le4 p.1.data.toList (by omega)
  by_cases hq : p.2 = []
  · have h1 := seqB_le4 [objB p.1.data.toList] (by simp only [List.flatten_cons, List.flatten_nil, List.append_nil]; omega)
    have e : polL p = seqB [objB p.1.data.toList] := by unfold polL; rw [if_pos hq]; rfl
    rw [e]
    simp only [List.flatten_cons, List.flatten_nil, List.append_nil] at h1
    omega
  · have h4 := quas_le8 p.2 (by omega)
    have h3 := seqB_le4 (p.2.map quaL) (by omega)
    rw [← seqL_eq] at h3
    have h1 := seqB_le4 [objB p.1.data.toList, seqL (p.2.map quaL)] (by simp only [List.flatten_cons, List.flatten_nil, List.append_nil, List.length_append]; omega)
    have e : polL p = seqB [objB p.1.data.toList, seqL (p.2.map quaL)] := by unfold polL; rw [if_neg hq]; rfl
    rw [e]
    simp only [List.flatten_cons, List.flatten_nil, List.append_nil, List.length_append] at h1
    omega
theorem fwP_1700 {ps : List Pol} (h : FwP ps) : (seqL (ps.map polL)).length ≤ 1700 := by
  have h1 : ∀ (ls : List Pol), sumP ls ≤ 1500 → (ls.map polL).flatten.length ≤ sumP ls + 12 * ls.length := fun ls => by
    induction ls with
    | nil => simp
    | cons x t ih =>
      intro hs
      have hw : sumP (x :: t) = wtP x + sumP t := by unfold sumP; simp only [List.map_cons, List.sum_cons]
      rw [hw] at hs ⊢
      have h0 := polL_le12 x (by omega)
      have := ih (by omega)
      simp only [List.map_cons, List.flatten_cons, List.length_append, List.length_cons]
      omega
  have h2 := h1 ps h.2
  have h3 := h.1
  have h4 := h.2
  have h5 := seqB_le (ps.map polL)
  rw [← seqL_eq] at h5
  omega
theorem parPs_take {ls : List (List UInt8)} {c : List UInt8} {i : Nat} (h : seqL ls = c) (hc : c.length ≤ 5000) (hi : i < c.length) : parPs (c.take i) = none := by
  cases hp : parPs (c.take i) with
  | none => rfl
  | some y =>
    exfalso
    have h1 := parPs_mar hp
    unfold marP at h1
    split at h1
    · injection h1 with h1
      have l1 := encO_len 0 16 true ls.flatten
      have l2 := encO_len 0 16 true (y.map polL).flatten
      have e : encO 0 true 16 ls.flatten = c := h
      have e' : encO 0 true 16 (y.map polL).flatten = c.take i := h1
      rw [e] at l1
      rw [e', List.length_take] at l2
      have h3 : encO 0 true 16 ls.flatten = encO 0 true 16 (y.map polL).flatten ++ c.drop i := by rw [e, e', List.take_append_drop]
      have h4 := head_len (by omega) (by omega) h3
      have h5 := congrArg List.length h4
      simp at h5
      omega
    · cases h1
theorem parPs_more {ls : List (List UInt8)} {c m : List UInt8} (h : seqL ls = c) (hc : c.length ≤ 5000) (hm : m.length ≤ 2000) (h0 : m ≠ []) : parPs (c ++ m) = none := by
  cases hp : parPs (c ++ m) with
  | none => rfl
  | some y =>
    exfalso
    have h1 := parPs_mar hp
    unfold marP at h1
    split at h1
    · injection h1 with h1
      have l1 := encO_len 0 16 true ls.flatten
      have l2 := encO_len 0 16 true (y.map polL).flatten
      have e : encO 0 true 16 ls.flatten = c := h
      have e' : encO 0 true 16 (y.map polL).flatten = c ++ m := h1
      rw [e] at l1
      rw [e', List.length_append] at l2
      have h3 : encO 0 true 16 (y.map polL).flatten = encO 0 true 16 ls.flatten ++ m := by rw [e, e']
      exact h0 (head_len (by omega) (by omega) h3)
    · cases h1
theorem grow {W w5 : World} {B : Nat} {o : Obj} (hB : W.heap.size = B) (hb : Below B (W.alloc o) w5) : Below W.heap.size W w5 := by
  subst hB
  exact ((Below.refl _ _).alloc (Nat.le_refl _) o).trans hb
theorem emptyOw (W : World) : OwB (W.alloc (.cells #[] 5)) W.heap.size 5 (.slice (some ⟨W.heap.size, 0, none⟩) 0 0) [] := by
  have := World.ownsRow_lit (base := W.heap.size) (e := 5) (size := 1) W #[] 0 (Nat.le_refl _) (by decide) rfl
  show OwB _ _ _ _ _
  simpa [OwB, bCells] using this

set_option maxRecDepth 100000 in
set_option maxHeartbeats 8000000 in
theorem few_no (v m : Value) (ps : List Pol) (ml : List UInt8) (a : Int) (w : World) (hv : IsPs w v ps) (hM : BdP 140737488351232 ps) (hm : IsB w m ml) (hG : Glo w) (hf : ¬ FwP ps) : Calls Tryz.prog 12 #[v, .int .u16 a, m] w (RetB (.bool true) w) := by
  have HA : Hid (∀ W, Glo W → Calls Tryz.prog 14 #[] W (RetB (.bool true) W)) := awake17
  have HF : Hid (∀ W, IsPs W v ps → Calls Tryz.prog 15 #[v] W (RetB (.bool false) W)) := fun W h => (rFewS v ps W h hM).mono fun e w' ⟨b, he, hb, hw⟩ => by
    cases b with
    | true => exact absurd (hb rfl) hf
    | false => exact ⟨he, hw⟩
  have HV := Lib.hid hv
  have HG := Lib.hid hG
  have hcur := Lib.hid (Below.refl w.heap.size w)
  obtain ⟨A, k, rfl⟩ := isPs_slice hv
  obtain ⟨AM, kM, rfl⟩ := isB_slice hm
  clear hv hM hG hf hm
  go_enter Tryz.func12, Tryz.ntmps12
  go_wp2_with (first | ((go_at_call 14); (with_reducible refine (HA.out _ (HG.out.below hcur.out)).mono ?_); rintro e wz ⟨rfl, hbz⟩; have hcur := Lib.hid (hcur.out.trans (hbz.mono hcur.out.size)); clear hbz) | ((go_at_call 15); (with_reducible refine (HF.out _ (HV.out.below hcur.out)).mono ?_); rintro e wz ⟨rfl, hbz⟩; have hcur := Lib.hid (hcur.out.trans (hbz.mono hcur.out.size)); clear hbz))
  go_ret
  exact ⟨rfl, hcur.out⟩
set_option maxRecDepth 100000 in
set_option maxHeartbeats 8000000 in
theorem long (v m : Value) (ps : List Pol) (ml : List UInt8) (a : Int) (w : World) (hv : IsPs w v ps) (hM : BdP 140737488351232 ps) (hm : IsB w m ml) (hG : Glo w) (h2 : 2000 < ml.length) : Calls Tryz.prog 12 #[v, .int .u16 a, m] w (RetB (.bool true) w) := by
  have HA : Hid (∀ W, Glo W → Calls Tryz.prog 14 #[] W (RetB (.bool true) W)) := awake17
  have HF : Hid (∀ W, IsPs W v ps → Calls Tryz.prog 15 #[v] W (RetFs ps W)) := fun W h => rFewS v ps W h hM
  have hlen := hm.len ulB
  have HV := Lib.hid hv
  have HG := Lib.hid hG
  have hcur := Lib.hid (Below.refl w.heap.size w)
  have h2' : (2000 : Int) < ml.length := by omega
  obtain ⟨A, k, rfl⟩ := isPs_slice hv
  obtain ⟨AM, kM, rfl⟩ := isB_slice hm
  clear hv hM hG hm
  go_enter Tryz.func12, Tryz.ntmps12
  go_wp2_with (first | ((go_at_call 14); (with_reducible refine (HA.out _ (HG.out.below hcur.out)).mono ?_); rintro e wz ⟨rfl, hbz⟩; have hcur := Lib.hid (hcur.out.trans (hbz.mono hcur.out.size)); clear hbz) | ((go_at_call 15); (with_reducible refine (HF.out _ (HV.out.below hcur.out)).mono ?_); rintro e wz ⟨b, rfl, hb, hbz⟩; have hcur := Lib.hid (hcur.out.trans (hbz.mono hcur.out.size)); have HFW := Lib.hid hb; clear hb hbz; cases b))
  all_goals go_ret
  all_goals exact ⟨rfl, hcur.out⟩
set_option maxRecDepth 100000 in
set_option maxHeartbeats 8000000 in
theorem mar_no (v m : Value) (ps : List Pol) (ml : List UInt8) (a : Int) (w : World) (hv : IsPs w v ps) (hM : BdP 140737488351232 ps) (hm : IsB w m ml) (hG : Glo w) (hf : FwP ps) (h2 : ml.length ≤ 2000) (ho : okP ps = false) : Calls Tryz.prog 12 #[v, .int .u16 a, m] w (RetB (.bool true) w) := by
  have HA : Hid (∀ W, Glo W → Calls Tryz.prog 14 #[] W (RetB (.bool true) W)) := awake17
  have HF : Hid (∀ W, IsPs W v ps → Calls Tryz.prog 15 #[v] W (RetFs ps W)) := fun W h => rFewS v ps W h hM
  have HPM : Hid (∀ W, Glo W → IsPs W v ps → Calls Tryz.prog 36 #[v] W (RetB (.tuple #[.slice none 0 0, .int .i64 8]) W)) := fun W g h => polMar_no _ ps W g h hf.sz ho
  have hlen := hm.len ulB
  have HV := Lib.hid hv
  have HG := Lib.hid hG
  have hcur := Lib.hid (Below.refl w.heap.size w)
  have h2' : (ml.length : Int) ≤ 2000 := by omega
  obtain ⟨A, k, rfl⟩ := isPs_slice hv
  obtain ⟨AM, kM, rfl⟩ := isB_slice hm
  clear hv hM hG hf hm
  go_enter Tryz.func12, Tryz.ntmps12
  go_wp2_with (first | ((go_at_call 14); (with_reducible refine (HA.out _ (HG.out.below hcur.out)).mono ?_); rintro e wz ⟨rfl, hbz⟩; have hcur := Lib.hid (hcur.out.trans (hbz.mono hcur.out.size)); clear hbz) | ((go_at_call 15); (with_reducible refine (HF.out _ (HV.out.below hcur.out)).mono ?_); rintro e wz ⟨b, rfl, hb, hbz⟩; have hcur := Lib.hid (hcur.out.trans (hbz.mono hcur.out.size)); have HFW := Lib.hid hb; clear hb hbz; cases b) | ((go_at_call 36); (with_reducible refine (HPM.out _ (HG.out.below hcur.out) (HV.out.below hcur.out)).mono ?_); rintro e wz ⟨rfl, hbz⟩; have hcur := Lib.hid (hcur.out.trans (hbz.mono hcur.out.size)); clear hbz))
  all_goals go_ret
  all_goals exact ⟨rfl, hcur.out⟩
set_option maxRecDepth 100000 in
set_option maxHeartbeats 16000000 in
theorem ends (v m : Value) (ps : List Pol) (ml c : List UInt8) (a : Int) (i : Nat) (w : World) (hv : IsPs w v ps) (hM : BdP 140737488351232 ps) (hm : IsB w m ml) (hG : Glo w) (hf : FwP ps) (h2 : ml.length ≤ 2000) (ho : okP ps = true) (hc : seqL (ps.map polL) = c) (hc3 : 2 ≤ c.length ∧ c.length ≤ 1700)
    (ha : 0 ≤ a ∧ a < 65536) (hi : a.toNat % c.length = i) : Calls Tryz.prog 12 #[v, .int .u16 a, m] w (RetB (.bool true) w) := by
  have hlen := hm.len ulB
  have hil : i < c.length := by rw [← hi]; exact Nat.mod_lt _ (by omega)
  have hp1 := parPs_take hc (by omega) hil
  have hmar : marP ps = some c := by unfold marP; simp [ho, hc]
  have HA : Hid (∀ W, Glo W → Calls Tryz.prog 14 #[] W (RetB (.bool true) W)) := awake17
  have HF : Hid (∀ W, IsPs W v ps → Calls Tryz.prog 15 #[v] W (RetFs ps W)) := fun W h => rFewS v ps W h hM
  have HPM : Hid (∀ W, Glo W → IsPs W v ps → Calls Tryz.prog 36 #[v] W (RetOidY c W)) := fun W g h => by have := polMar_yes _ ps W g h hf.sz (by have := fwP_flat hf; omega) ho; rwa [hc] at this
  have HP1 : Hid (∀ W u, Glo W → IsB W u (c.take i) → Calls Tryz.prog 40 #[u] W (RetPPn (c.take i).length W)) := fun W u g h => by
    have := polParse u _ W g h (by rw [List.length_take]; omega)
    rw [hp1] at this
    exact this.mono fun e w' hh => hh.no
  have HP2 : Hid (∀ W u, Glo W → IsB W u (c ++ ml) → Calls Tryz.prog 40 #[u] W (fun e w' => Below W.heap.size W w' ∧ ∃ (A : Option Addr) (n k : Nat) (q o : Int), e = .returned (.tuple #[.slice A n k, .agg #[.int .i64 q, .int .i64 o]]) ∧ (q == 0) = ((ml.length : Int) == 0))) := fun W u g h => by
    have := polParse u _ W g h (by rw [List.length_append]; omega)
    by_cases h0 : ml = []
    · subst h0
      rw [List.append_nil, mar_parPs hmar (by omega)] at this
      exact this.mono fun e w' hh => by
        obtain ⟨A, k, he, _, hb⟩ := hh.yes
        exact ⟨hb, _, _, _, 0, 0, he, rfl⟩
    · rw [parPs_more hc (by omega) h2 h0] at this
      refine this.mono fun e w' hh => ?_
      obtain ⟨q, o, hq, _, _, he, hb⟩ := hh.no
      refine ⟨hb, _, _, _, q, o, he, ?_⟩
      have : ml.length ≠ 0 := fun h => h0 (List.eq_nil_of_length_eq_zero h)
      rw [beq_eq_false_iff_ne.2 (by omega : q ≠ 0), beq_eq_false_iff_ne.2 (by omega : (ml.length : Int) ≠ 0)]
  have HMM := Lib.hid hm
  have HV := Lib.hid hv
  have HG := Lib.hid hG
  have hcur := Lib.hid (Below.refl w.heap.size w)
  have hmod : a.tmod (c.length : Int) = (i : Int) := by rw [Int.tmod_eq_emod_of_nonneg ha.1, ← hi, Int.natCast_emod, Int.toNat_of_nonneg ha.1]
  have hc0 : ¬ ((c.length : Int) = 0) := by omega
  have hwr : IntKind.i64.wrap a = a := by rw [IntKind.wrap_i64]; omega
  have hiI : (i : Int) ≤ c.length := by omega
  have h2' : (ml.length : Int) ≤ 2000 := by omega
  obtain ⟨A, k, rfl⟩ := isPs_slice hv
  obtain ⟨AM, kM, rfl⟩ := isB_slice hm
  unfold RetPPn at HP1
  simp only [errV] at HP1
  clear hv hG hf ho hc hi hp1 hM hm hmar
  generalize hT : c.take i = T at *
  go_enter Tryz.func12, Tryz.ntmps12
  go_wp2_with (first | ((go_at_call 14); (with_reducible refine (HA.out _ (HG.out.below hcur.out)).mono ?_); rintro e wz ⟨rfl, hbz⟩; have hcur := Lib.hid (hcur.out.trans (hbz.mono hcur.out.size)); clear hbz) | ((go_at_call 15); (with_reducible refine (HF.out _ (HV.out.below hcur.out)).mono ?_); rintro e wz ⟨b, rfl, hb, hbz⟩; have hcur := Lib.hid (hcur.out.trans (hbz.mono hcur.out.size)); have HFW := Lib.hid hb; clear hb hbz; cases b) | ((go_at_call 36); (with_reducible refine (HPM.out _ (HG.out.below hcur.out) (HV.out.below hcur.out)).mono ?_); rintro e w3 ⟨v3, rfl, ho3, hbz⟩; have hI3 := ho3.isB; obtain ⟨A3, k3, rfl⟩ := isB_slice hI3; have HI3 := Lib.hid hI3; have hcur := Lib.hid (hcur.out.trans (hbz.mono hcur.out.size)); obtain ⟨u3, hcut, hU⟩ := isB_cutHi (P := Tryz.prog) hI3 ulB szB .i64 (hi := (i : Int)) (by omega) hiI; rw [Int.toNat_natCast, hT] at hU; obtain ⟨A4, k4, rfl⟩ := isB_slice hU; have HU := Lib.hid hU; clear ho3 hI3 hU hbz) | ((go_at_call 40); (refine (HP2.out _ _ (HG.out.below hcur.out) HI6.out).mono ?_); rintro e w7 ⟨hbz, A7, n7, k7, q7, o7, rfl, hq7⟩; have hcur := Lib.hid (hcur.out.trans (hbz.mono hcur.out.size)); have K := Lib.hid (K.out.call hbz); have qK := K.out.q; have lK := K.out.lt; clear hbz) | ((go_at_call 40); (refine (HP1.out _ _ (HG.out.below hcur.out) HU.out).mono ?_); rintro e w4 ⟨q, o, hq1, ho0, ho1, rfl, hbz⟩; have hq0 : ¬ (q = 0) := (by omega); have hsz4 := Nat.le_trans hcur.out.size hbz.size; have hcur := Lib.hid ((hcur.out.trans (hbz.mono hcur.out.size)).alloc hsz4 (.cells #[.int .i64 q, .int .i64 o] 38)); have HI4 := Lib.hid ((HI3.out.below hbz).alloc (.cells #[.int .i64 q, .int .i64 o] 38)); have hz4 : (w4.alloc (.cells #[.int .i64 q, .int .i64 o] 38)).heap.size = w4.heap.size + 1 := (by simp); have he4 := emptyOw (w4.alloc (.cells #[.int .i64 q, .int .i64 o] 38)); rw [hz4] at he4; have HE4 := Lib.hid he4; have K := Lib.hid (Blk.new w4 38 #[.int .i64 q, .int .i64 o]); clear he4 hbz) | (at_builtin; refine wpList_appB _ rfl _ _ 32 rfl (w4.heap.size + 1) 5 ulB infoB _ c rfl HO5.out _ ml rfl (HMM.out.below hcur.out) (by omega) (by omega) ?_; intro u6 w6 ho6 _ hb6; have hI6 := ho6.isB; obtain ⟨A6, k6, rfl⟩ := isB_slice hI6; rw [List.length_append] at hI6; have HI6 := Lib.hid hI6; have hcur := Lib.hid (hcur.out.trans (hb6.mono (by omega))); have K := Lib.hid (K.out.below hb6 (Nat.lt_succ_self _)); clear ho6 hb6 hI6) | (at_builtin; refine wpList_appB _ rfl _ _ 32 rfl (w4.heap.size + 1) 5 ulB infoB _ [] rfl HE4.out _ c rfl (HI4.out.alloc _) (by simp; omega) (by simp) ?_; intro u5 w5 ho5 _ hb5; rw [List.nil_append] at ho5; obtain ⟨A5, k5, rfl⟩ := isB_slice ho5.isB; have HO5 := Lib.hid ho5; have hcur := Lib.hid ((hcur.out.alloc hcur.out.size (.cells #[] 5)).trans (hb5.mono (by omega))); have K := Lib.hid ((K.out.alloc (.cells #[] 5)).below hb5 (Nat.lt_succ_self _)); have hs5 := hb5.size; simp at hs5; clear ho5 hb5))
  all_goals go_ret
  all_goals first | exact ⟨rfl, hcur.out⟩ | exact ⟨by simp [hq0, bne, beq_eq_false_iff_ne.2 hq0], hcur.out.alloc hcur.out.size _⟩
theorem walk (v : Value) (ps : List Pol) (a : Int) (m : Value) (ml : List UInt8) (w : World) (hv : IsPs w v ps) (hM : BdP 140737488351232 ps) (ha : (Lit.int .u16 a).wf = true) (hm : IsB w m ml) (hG : Glo w) : Calls Tryz.prog 12 #[v, .int .u16 a, m] w (RetB (.bool true) w) := by
  by_cases hf : FwP ps
  · by_cases h2 : ml.length ≤ 2000
    · cases ho : okP ps with
      | false => exact mar_no v m ps ml a w hv hM hm hG hf h2 ho
      | true => exact ends v m ps ml _ a _ w hv hM hm hG hf h2 ho rfl ⟨PolCDone.seq_two _, fwP_1700 hf⟩ (wf_u16 ha) rfl
    · exact long v m ps ml a w hv hM hm hG (by omega)
  · exact few_no v m ps ml a w hv hM hm hG hf
end Go.Proofs.YtjjkimjdmpeddaaGreatDoor.PolEDone
end
