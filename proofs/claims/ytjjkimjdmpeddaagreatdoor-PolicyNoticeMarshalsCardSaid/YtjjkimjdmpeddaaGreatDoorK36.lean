/- The parts NotP, NtA, NtB, NtC, NtD, NtE, NtF, NtG, NtH, NtI, NtL, NtM, NtN, NtK, NtO, NtJ, NtP of one proof, one behind the other. -/
import Derived.Test.YtjjkimjdmpeddaaGreatDoorK16
import Derived.Test.YtjjkimjdmpeddaaGreatDoorK31
import Derived.Test.YtjjkimjdmpeddaaGreatDoorK35
import Derived.Test.YtjjkimjdmpeddaaGreatDoorK11
import Derived.Test.YtjjkimjdmpeddaaGreatDoorK30
import Derived.Test.YtjjkimjdmpeddaaGreatDoorK06
import Derived.Test.YtjjkimjdmpeddaaGreatDoorK21
import Derived.Test.YtjjkimjdmpeddaaGreatDoorK01
import Derived.Test.YtjjkimjdmpeddaaGreatDoorK19

/- Notices: what is parsed is what would be marshalled, and what the reference parses. No walk. -/
section
set_option linter.unusedSimpArgs false
set_option linter.unusedVariables false
namespace Go.Cr
open Go.RowKit
abbrev Tx := Int × ByteArray
def tx0 : Tx := (0, ⟨#[]⟩)
structure Ntc where
  ref : Bool
  org : Tx
  nums : List (List UInt8)
  text : Tx
def intOK (c : List UInt8) : Bool := if c.length < 2 then decide (c.length = 1) else !(decide (bat c 0 = 0) && decide (bat c 1 < 128)) && !(decide (bat c 0 = 255) && decide (128 ≤ bat c 1))
def intB (c : List UInt8) : List UInt8 := encO 0 false 2 c
end Go.Cr
namespace Go.Proofs.YtjjkimjdmpeddaaGreatDoor
open Go.RowKit Go.Cr
def dispX (t : Tx) : Bool := dispT t.1 t.2.data.toList
def okN (n : Ntc) : Bool := (decide (n.text = tx0) || dispX n.text) && (if n.ref then dispX n.org && n.nums.all intOK else decide (n.org = tx0) && n.nums.isEmpty)
def strB (t : Tx) : List UInt8 := (strE t.1 t.2.data.toList).getD []
def partsN (n : Ntc) : List (List UInt8) := (if n.ref then [seqL [strB n.org, seqL (n.nums.map intB)]] else []) ++ (if n.text = tx0 then [] else [strB n.text])
def marN (n : Ntc) : Option (List UInt8) := if okN n then some (seqL (partsN n)) else none
def textL (y : List UInt8) : Option Tx := match strD y with
  | some (k, s) => if dispT k s then some (k, bStr s) else none
  | none => none
def numB (y : List UInt8) : Option (List UInt8) := match oneE y with
  | .ok x => if isE x 0 false 2 then some (seg y x.body x.stop) else none
  | .error _ => none
def numsOK (y : List UInt8) : Bool := match eachL 0 2147483647 y with
  | some zs => zs.all fun z => (numB z).isSome
  | none => false
def rawNs (y : List UInt8) : List (List UInt8) := ((eachL 0 2147483647 y).getD []).map fun z => (numB z).getD []
def refOK (x : List UInt8) : Bool := match eachL 2 2 x with
  | some [y0, y1] => (textL y0).isSome && numsOK y1
  | _ => false
def rawR (x : List UInt8) : Tx × List (List UInt8) := match eachL 2 2 x with
  | some [y0, y1] => ((textL y0).getD tx0, rawNs y1)
  | _ => (tx0, [])
def isSeq (x : List UInt8) : Bool := decide (bat x 0 = 48)
def preN (b : List UInt8) : Option Ntc := match eachL 0 2 b with
  | some [] => some ⟨false, tx0, [], tx0⟩
  | some [x] => if isSeq x then (if refOK x then some ⟨true, (rawR x).1, (rawR x).2, tx0⟩ else none) else (textL x).map fun t => ⟨false, tx0, [], t⟩
  | some [x, y] => if isSeq x then (if refOK x then (textL y).map fun t => ⟨true, (rawR x).1, (rawR x).2, t⟩ else none) else none
  | _ => none
def parN (b : List UInt8) : Option Ntc := match preN b with
  | some n => if okN n then some n else none
  | none => none

theorem dispT_kind {k : Int} {s : List UInt8} (h : dispT k s = true) : (k = 22 ∨ k = 26 ∨ k = 30 ∨ k = 12) ∧ validT k s = true := by
  unfold dispT at h
  simp only [Bool.and_eq_true, decide_eq_true_eq] at h
  refine ⟨h.1, ?_⟩
  have := h.2.1
  unfold lenT at this
  split at this
  · assumption
  · omega
theorem strD_E {y : List UInt8} {k : Int} {s : List UInt8} (h : strD y = some (k, s)) : strE k s = some y := by
  unfold strD at h
  split at h
  · rename_i x hx
    split at h
    · rename_i hc
      obtain ⟨t, ht, he⟩ := Option.map_eq_some_iff.1 h
      injection he with h1 h2
      subst h1 h2
      have hcan := (oneE_canon hx).1
      rw [hc.1, hc.2] at hcan
      unfold strE
      rw [decT_iff.1 ht, Option.map_some, hcan]
    · cases h
  · cases h
theorem strE_D {y : List UInt8} {k : Int} {s : List UInt8} (h : strE k s = some y) (hl : y.length ≤ 1000000) : strD y = some (k, s) ∧ 12 ≤ k ∧ k ≤ 30 ∧ ∃ c, y = encO 0 false k c ∧ decT k c = some s ∧ c.length ≤ 1000000 := by
  unfold strE at h
  obtain ⟨c, hc, rfl⟩ := Option.map_eq_some_iff.1 h
  have hr := widthK_range (validT_iff.1 (encT_valid hc)).1
  have hL := encO_len 0 k false c
  obtain ⟨x, hx⟩ : ∃ x, oneE (encO 0 false k c) = .ok x := ⟨_, oneE_enc 0 k false c (by decide) (by decide) (by omega) (by omega) (by omega)⟩
  obtain ⟨h1, h2, h3, h4, h5, h6, h7⟩ := oneE_canon hx
  have hb := oneE_ok hx
  have hsl := seg_len (encO 0 false k c) x.body x.stop (by omega) (by omega) (by omega)
  obtain ⟨i1, i2, i3, i4⟩ := encO_inj h4 h5 h6 h7 (by decide) (by decide) (by omega) (by omega) (by omega) (by omega) h1
  have hd := decT_iff.2 hc
  refine ⟨?_, hr.1, hr.2, c, rfl, hd, by omega⟩
  unfold strD
  rw [hx]
  simp only
  rw [if_pos ⟨i1, i2⟩, i4, i3, hd]
  rfl
theorem dispT_len {k : Int} {s : List UInt8} (h : dispT k s = true) : ∃ y, strE k s = some y := by
  have h2 := (dispT_kind h).2
  rw [← encT_isSome] at h2
  obtain ⟨c, hc⟩ := Option.isSome_iff_exists.1 h2
  exact ⟨_, by unfold strE; rw [hc]; rfl⟩
theorem textL_ok {y : List UInt8} {t : Tx} (h : textL y = some t) : y = strB t ∧ dispX t = true ∧ t ≠ tx0 := by
  unfold textL at h
  split at h
  · rename_i k s hs
    split at h
    · rename_i hd
      injection h with h
      subst h
      refine ⟨?_, hd, fun e => ?_⟩
      · unfold strB
        simp only
        rw [bStr_list, strD_E hs]
        rfl
      · have := congrArg (·.1) e
        simp only [tx0] at this
        have := (dispT_kind hd).1
        omega
    · cases h
  · cases h
theorem textL_str {t : Tx} (h : dispX t = true) (hl : (strB t).length ≤ 1000000) : textL (strB t) = some t ∧ isSeq (strB t) = false ∧ treeOK 59 (strB t) ∧ (∃ x, oneE (strB t) = .ok x) ∧ optS (numK (strB t), kidC (strB t)) = some (t.1, t.2.data.toList) := by
  obtain ⟨y, hy⟩ := dispT_len h
  have e : strB t = y := by unfold strB; rw [hy]; rfl
  rw [e] at hl ⊢
  obtain ⟨h1, h2, h3, c, rfl, h4, h5⟩ := strE_D hy hl
  refine ⟨?_, ?_, treeOK_prim 0 t.1 c (by decide) (by decide) (by omega) (by omega) (by omega), ⟨_, oneE_enc 0 t.1 false c (by decide) (by decide) (by omega) (by omega) (by omega)⟩, ?_⟩
  · unfold textL
    rw [h1]
    simp only
    have h' : dispT t.1 t.2.data.toList = true := h
    rw [if_pos h', bStr_data]
  · unfold isSeq encO
    rw [bat_cons_zero, idB_bi _ _ _ (by omega) (by omega) (by omega) (by omega)]
    apply decide_eq_false
    simp
    omega
  · rw [numK_enc 0 t.1 c (by decide) (by decide) (by omega) (by omega) (by omega), kidC_enc 0 t.1 c (by decide) (by decide) (by omega) (by omega) (by omega)]
    unfold optS
    simp only
    rw [h4]
    rfl
theorem seqL_isSeq (ls : List (List UInt8)) : isSeq (seqL ls) = true := by
  unfold isSeq seqL encO
  rw [bat_cons_zero, idB_bi _ _ _ (by omega) (by omega) (by omega) (by omega)]
  rfl
theorem numB_ok {z c : List UInt8} (h : numB z = some c) : z = intB c := by
  unfold numB at h
  split at h
  · rename_i x hx
    split at h
    · rename_i his
      injection h with h
      subst h
      have hc := (oneE_canon hx).1
      unfold isE at his
      simp only [Bool.and_eq_true, beq_iff_eq] at his
      rw [his.1.1, his.1.2, his.2] at hc
      exact hc.symm
    · cases h
  · cases h
theorem numB_int {c : List UInt8} (hl : (intB c).length ≤ 1000000) : numB (intB c) = some c ∧ treeOK 57 (intB c) ∧ kidC (intB c) = c ∧ ∃ x, oneE (intB c) = .ok x := by
  unfold intB at hl ⊢
  have hL := encO_len 0 2 false c
  obtain ⟨x, hx⟩ : ∃ x, oneE (encO 0 false 2 c) = .ok x := ⟨_, oneE_enc 0 2 false c (by decide) (by decide) (by decide) (by decide) (by omega)⟩
  obtain ⟨h1, h2, h3, h4, h5, h6, h7⟩ := oneE_canon hx
  have hb := oneE_ok hx
  have hsl := seg_len (encO 0 false 2 c) x.body x.stop (by omega) (by omega) (by omega)
  obtain ⟨i1, i2, i3, i4⟩ := encO_inj h4 h5 h6 h7 (by decide) (by decide) (by decide) (by decide) (by omega) (by omega) h1
  refine ⟨?_, treeOK_prim 0 2 c (by decide) (by decide) (by decide) (by decide) (by omega), kidC_enc 0 2 c (by decide) (by decide) (by decide) (by decide) (by omega), ⟨x, hx⟩⟩
  unfold numB
  rw [hx]
  simp only
  rw [if_pos (by simp [isE, i1, i2, i3]), i4]
theorem nums_ok {y : List UInt8} (h : numsOK y = true) : y = seqL ((rawNs y).map intB) := by
  unfold numsOK at h
  unfold rawNs
  split at h
  · rename_i zs he
    rw [he]
    simp only [Option.getD_some]
    rw [List.map_map, map_id_of (f := intB ∘ fun z => (numB z).getD []) (fun z hz => by
      obtain ⟨c, hc⟩ := Option.isSome_iff_exists.1 (List.all_eq_true.1 h z hz)
      simp only [Function.comp_apply, hc, Option.getD_some]
      exact (numB_ok hc).symm)]
    exact (eachL_ok he).1
  · cases h
theorem nums_raw {cs : List (List UInt8)} (hl : (seqL (cs.map intB)).length ≤ 1000000) : numsOK (seqL (cs.map intB)) = true ∧ rawNs (seqL (cs.map intB)) = cs ∧ treeOK 58 (seqL (cs.map intB)) ∧ (kidsT 57 (seqL (cs.map intB))).map kidC = cs := by
  have hcl : ∀ c ∈ cs, (intB c).length ≤ 1000000 := fun c hc => by have := map_len (f := intB) hc; omega
  have hone : ∀ p ∈ cs.map intB, ∃ x, oneE p = .ok x := fun p hp => by obtain ⟨c, hc, rfl⟩ := List.mem_map.1 hp; exact (numB_int (hcl c hc)).2.2.2
  have hL := seqB_len (cs.map intB)
  have hc := cnt_flat hone
  rw [seqL_eq] at hl ⊢
  have he : eachL 0 2147483647 (seqB (cs.map intB)) = some (cs.map intB) := eachL_seq (by omega) (Nat.zero_le _) (by omega) hone
  obtain ⟨k1, k2⟩ := kids_seq (d := 57) (cs.map intB) hl (fun p hp => by obtain ⟨c, hc, rfl⟩ := List.mem_map.1 hp; exact (numB_int (hcl c hc)).2.1)
  refine ⟨?_, ?_, k1, ?_⟩
  · unfold numsOK
    rw [he]
    simp only
    rw [List.all_eq_true]
    intro p hp
    obtain ⟨c, hc, rfl⟩ := List.mem_map.1 hp
    rw [(numB_int (hcl c hc)).1]
    rfl
  · unfold rawNs
    rw [he]
    simp only [Option.getD_some]
    rw [List.map_map]
    exact map_id_of (f := (fun z => (numB z).getD []) ∘ intB) fun c hc => by simp only [Function.comp_apply, (numB_int (hcl c hc)).1, Option.getD_some]
  · rw [k2, List.map_map]
    exact map_id_of (f := kidC ∘ intB) fun c hc => (numB_int (hcl c hc)).2.2.1
theorem ref_ok {x : List UInt8} (h : refOK x = true) : x = seqL [strB (rawR x).1, seqL ((rawR x).2.map intB)] := by
  unfold refOK at h
  split at h
  · rename_i y0 y1 he
    rw [Bool.and_eq_true] at h
    obtain ⟨t, ht⟩ := Option.isSome_iff_exists.1 h.1
    have hr : rawR x = (t, rawNs y1) := by unfold rawR; rw [he]; simp [ht]
    rw [hr]
    simp only
    rw [← nums_ok h.2, ← (textL_ok ht).1]
    exact (eachL_ok he).1
  · cases h
theorem two_len {a b : List UInt8} (hl : (seqL [a, b]).length ≤ 1000000) : a.length ≤ 1000000 ∧ b.length ≤ 1000000 := by
  have h1 := seqB_len [a, b]
  rw [← seqL_eq] at h1
  simp only [List.flatten_cons, List.flatten_nil, List.append_nil, List.length_append] at h1
  omega
theorem one_len {a : List UInt8} (hl : (seqL [a]).length ≤ 1000000) : a.length ≤ 1000000 := by
  have h1 := seqB_len [a]
  rw [← seqL_eq] at h1
  simp only [List.flatten_cons, List.flatten_nil, List.append_nil] at h1
  omega
theorem ref_raw {t : Tx} {cs : List (List UInt8)} (h : dispX t = true) (hl : (seqL [strB t, seqL (cs.map intB)]).length ≤ 1000000) :
    refOK (seqL [strB t, seqL (cs.map intB)]) = true ∧ rawR (seqL [strB t, seqL (cs.map intB)]) = (t, cs) ∧ treeOK 59 (seqL [strB t, seqL (cs.map intB)]) ∧ kidsT 58 (seqL [strB t, seqL (cs.map intB)]) = [strB t, seqL (cs.map intB)] := by
  obtain ⟨l1, l2⟩ := two_len hl
  obtain ⟨t1, t2, t3, t4, t5⟩ := textL_str h l1
  obtain ⟨n1, n2, n3, n4⟩ := nums_raw l2
  have hL := seqB_len [strB t, seqL (cs.map intB)]
  rw [← seqL_eq] at hL
  have he : eachL 2 2 (seqL [strB t, seqL (cs.map intB)]) = some [strB t, seqL (cs.map intB)] := eachL_seq (by omega) (by simp) (by simp) (fun p hp => by
    simp at hp
    rcases hp with rfl | rfl
    · exact t4
    · exact seqB_one _ l2)
  obtain ⟨k1, k2⟩ := kids_seq (d := 58) [strB t, seqL (cs.map intB)] hl (fun p hp => by
    simp at hp
    rcases hp with rfl | rfl
    · have : treeOK 58 (strB t) := by
        obtain ⟨y, hy⟩ := dispT_len h
        have e : strB t = y := by unfold strB; rw [hy]; rfl
        rw [e] at l1 ⊢
        obtain ⟨_, h2, h3, c, rfl, _, h5⟩ := strE_D hy l1
        exact treeOK_prim 0 t.1 c (by decide) (by decide) (by omega) (by omega) (by omega)
      exact this
    · exact n3)
  refine ⟨?_, ?_, k1, k2⟩
  · unfold refOK; rw [he]; simp [t1, n1]
  · unfold rawR; rw [he]; simp [t1, n2]
theorem parN_mar {b : List UInt8} {n : Ntc} (h : parN b = some n) : marN n = some b := by
  unfold parN at h
  split at h
  · rename_i m hm
    split at h
    · rename_i ho
      injection h with h
      subst h
      unfold marN
      rw [if_pos ho]
      congr 1
      unfold preN at hm
      split at hm
      · rename_i he
        injection hm with hm
        subst hm
        exact (eachL_ok he).1.symm
      · rename_i x he
        have hb := (eachL_ok he).1
        split at hm
        · split at hm
          · rename_i hr
            injection hm with hm
            subst hm
            unfold partsN
            simp only [if_true, List.append_nil]
            rw [← ref_ok hr]
            exact hb.symm
          · cases hm
        · obtain ⟨t, ht, rfl⟩ := Option.map_eq_some_iff.1 hm
          obtain ⟨h1, h2, h3⟩ := textL_ok ht
          unfold partsN
          simp only [Bool.false_eq_true, if_false, List.nil_append]
          rw [if_neg h3, ← h1]
          exact hb.symm
      · rename_i x y he
        have hb := (eachL_ok he).1
        split at hm
        · split at hm
          · rename_i hr
            obtain ⟨t, ht, rfl⟩ := Option.map_eq_some_iff.1 hm
            obtain ⟨h1, h2, h3⟩ := textL_ok ht
            unfold partsN
            simp only [if_true]
            rw [if_neg h3, ← h1, ← ref_ok hr]
            exact hb.symm
          · cases hm
        · cases hm
      · cases hm
    · cases h
  · cases h
theorem okN_text {n : Ntc} (h : okN n = true) : n.text = tx0 ∨ dispX n.text = true := by
  unfold okN at h
  simp only [Bool.and_eq_true, Bool.or_eq_true, decide_eq_true_eq] at h
  exact h.1
theorem okN_ref {n : Ntc} (h : okN n = true) (hr : n.ref = true) : dispX n.org = true := by
  unfold okN at h
  rw [hr] at h
  simp only [Bool.and_eq_true, if_true] at h
  exact h.2.1
theorem okN_no {n : Ntc} (h : okN n = true) (hr : n.ref = false) : n.org = tx0 ∧ n.nums = [] := by
  unfold okN at h
  rw [hr] at h
  simp only [Bool.and_eq_true, Bool.false_eq_true, if_false, decide_eq_true_eq, List.isEmpty_iff] at h
  exact h.2
def rdTx (k : List UInt8) : Tx := match optS (numK k, kidC k) with
  | none => tx0
  | some (n, s) => (n, bStr s)
def conK (k : List UInt8) : Bool := match nextH k with
  | .error _ => false
  | .ok h => h.con
def rdNk (ks : List (List UInt8)) : Ntc :=
  if conK (ks.getD 0 []) then ⟨true, rdTx ((kidsT 58 (ks.getD 0 [])).getD 0 []), (kidsT 57 ((kidsT 58 (ks.getD 0 [])).getD 1 [])).map kidC, if 1 < ks.length then rdTx (ks.getD 1 []) else tx0⟩
  else ⟨false, tx0, [], if 0 < ks.length then rdTx (ks.getD 0 []) else tx0⟩
def rdN (b : List UInt8) : Ntc := rdNk (kidsA b)
def rparN (b : List UInt8) : Option Ntc := if marN (rdN b) = some b then some (rdN b) else none
theorem rdTx_str {t : Tx} (h : dispX t = true) (hl : (strB t).length ≤ 1000000) : rdTx (strB t) = t := by
  unfold rdTx
  rw [(textL_str h hl).2.2.2.2]
  simp only [bStr_data]
theorem conK_enc (c n : Int) (k : Bool) (l : List UInt8) (h : 0 ≤ c) (h1 : c ≤ 3) (h2 : 0 ≤ n) (h3 : n < 31) (hl : l.length ≤ 2147483647) : conK (encO c k n l) = k := by
  have e1 := nextH_enc c n k l [] h h1 h2 h3 hl
  rw [List.append_nil] at e1
  unfold conK
  rw [e1]
theorem conK_str {t : Tx} (h : dispX t = true) (hl : (strB t).length ≤ 1000000) : conK (strB t) = false := by
  obtain ⟨y, hy⟩ := dispT_len h
  have e : strB t = y := by unfold strB; rw [hy]; rfl
  rw [e] at hl ⊢
  obtain ⟨_, h2, h3, c, rfl, _, h5⟩ := strE_D hy hl
  exact conK_enc 0 t.1 false c (by decide) (by decide) (by omega) (by omega) (by omega)
theorem conK_seq {ls : List (List UInt8)} (hl : (seqL ls).length ≤ 1000000) : conK (seqL ls) = true := by
  have h1 := seqB_len ls
  rw [← seqL_eq] at h1
  exact conK_enc 0 16 true ls.flatten (by decide) (by decide) (by decide) (by decide) (by omega)
theorem notice_back {n : Ntc} (ho : okN n = true) (hl : (seqL (partsN n)).length ≤ 1000000) : preN (seqL (partsN n)) = some n ∧ rdN (seqL (partsN n)) = n := by
  obtain ⟨r, o, cs, t⟩ := n
  have ht := okN_text ho
  simp only at ht
  cases r with
  | true =>
    have hd : dispX o = true := okN_ref ho rfl
    by_cases h0 : t = tx0
    · subst h0
      have e : partsN ⟨true, o, cs, tx0⟩ = [seqL [strB o, seqL (cs.map intB)]] := by unfold partsN; simp
      rw [e] at hl ⊢
      have l1 := one_len hl
      obtain ⟨r1, r2, r3, r4⟩ := ref_raw hd l1
      obtain ⟨l2, l3⟩ := two_len l1
      have hL := seqB_len [seqL [strB o, seqL (cs.map intB)]]
      rw [← seqL_eq] at hL
      have he : eachL 0 2 (seqL [seqL [strB o, seqL (cs.map intB)]]) = some [seqL [strB o, seqL (cs.map intB)]] := eachL_seq (by omega) (by simp) (by simp) (fun p hp => by simp at hp; subst hp; exact seqB_one _ l1)
      obtain ⟨k1, k2⟩ := kids_seq (d := 59) [seqL [strB o, seqL (cs.map intB)]] hl (fun p hp => by simp at hp; subst hp; exact r3)
      rw [← seqL_eq] at k1 k2
      constructor
      · unfold preN
        rw [he]
        simp only [seqL_isSeq, if_true, r1, r2]
      · unfold rdN kidsA
        rw [if_pos k1, k2]
        unfold rdNk
        simp only [List.getD_cons_zero, List.getD_cons_succ, List.length_cons, List.length_nil, conK_seq l1, if_true, r4, rdTx_str hd l2, (nums_raw l3).2.2.2]
        rfl
    · have hdt : dispX t = true := ht.resolve_left h0
      have e : partsN ⟨true, o, cs, t⟩ = [seqL [strB o, seqL (cs.map intB)], strB t] := by unfold partsN; simp [h0]
      rw [e] at hl ⊢
      obtain ⟨l1, l4⟩ := two_len hl
      obtain ⟨r1, r2, r3, r4⟩ := ref_raw hd l1
      obtain ⟨l2, l3⟩ := two_len l1
      obtain ⟨t1, t2, t3, t4, t5⟩ := textL_str hdt l4
      have hL := seqB_len [seqL [strB o, seqL (cs.map intB)], strB t]
      rw [← seqL_eq] at hL
      have he : eachL 0 2 (seqL [seqL [strB o, seqL (cs.map intB)], strB t]) = some [seqL [strB o, seqL (cs.map intB)], strB t] := eachL_seq (by omega) (by simp) (by simp) (fun p hp => by
        simp at hp
        rcases hp with rfl | rfl
        · exact seqB_one _ l1
        · exact t4)
      obtain ⟨k1, k2⟩ := kids_seq (d := 59) [seqL [strB o, seqL (cs.map intB)], strB t] hl (fun p hp => by
        simp at hp
        rcases hp with rfl | rfl
        · exact r3
        · exact t3)
      rw [← seqL_eq] at k1 k2
      constructor
      · unfold preN
        rw [he]
        simp only [seqL_isSeq, if_true, r1, r2, t1, Option.map_some]
      · unfold rdN kidsA
        rw [if_pos k1, k2]
        unfold rdNk
        simp only [List.getD_cons_zero, List.getD_cons_succ, List.length_cons, List.length_nil, conK_seq l1, if_true, r4, rdTx_str hd l2, (nums_raw l3).2.2.2, rdTx_str hdt l4]
        rfl
  | false =>
    obtain ⟨h1, h2⟩ := okN_no ho rfl
    simp only at h1 h2
    subst h1 h2
    by_cases h0 : t = tx0
    · subst h0
      have e : partsN ⟨false, tx0, [], tx0⟩ = [] := by unfold partsN; simp
      rw [e] at hl ⊢
      have he : eachL 0 2 (seqL []) = some [] := eachL_seq (by simp) (by simp) (by simp) (fun p hp => by cases hp)
      obtain ⟨k1, k2⟩ := kids_seq (d := 59) [] hl (fun p hp => by cases hp)
      rw [← seqL_eq] at k1 k2
      constructor
      · unfold preN
        rw [he]
      · unfold rdN kidsA
        rw [if_pos k1, k2]
        rfl
    · have hdt : dispX t = true := ht.resolve_left h0
      have e : partsN ⟨false, tx0, [], t⟩ = [strB t] := by unfold partsN; simp [h0]
      rw [e] at hl ⊢
      have l4 := one_len hl
      obtain ⟨t1, t2, t3, t4, t5⟩ := textL_str hdt l4
      have hL := seqB_len [strB t]
      rw [← seqL_eq] at hL
      have he : eachL 0 2 (seqL [strB t]) = some [strB t] := eachL_seq (by omega) (by simp) (by simp) (fun p hp => by simp at hp; subst hp; exact t4)
      obtain ⟨k1, k2⟩ := kids_seq (d := 59) [strB t] hl (fun p hp => by simp at hp; subst hp; exact t3)
      rw [← seqL_eq] at k1 k2
      constructor
      · unfold preN
        rw [he]
        simp only [t2, Bool.false_eq_true, if_false, t1, Option.map_some]
      · unfold rdN kidsA
        rw [if_pos k1, k2]
        unfold rdNk
        simp only [List.getD_cons_zero, List.length_cons, List.length_nil, conK_str hdt l4, Bool.false_eq_true, if_false, rdTx_str hdt l4]
        rfl
theorem mar_parN {b : List UInt8} {n : Ntc} (h : marN n = some b) (hl : b.length ≤ 1000000) : parN b = some n := by
  unfold marN at h
  split at h
  · rename_i ho
    injection h with h
    subst h
    unfold parN
    rw [(notice_back ho hl).1]
    exact if_pos ho
  · cases h
theorem rparN_eq {b : List UInt8} (hl : b.length ≤ 1000000) : rparN b = parN b := by
  cases hp : parN b with
  | some n =>
    have hm := parN_mar hp
    have hr : rdN b = n := by
      have h := hm
      unfold marN at h
      split at h
      · rename_i ho
        injection h with h
        subst h
        exact (notice_back ho hl).2
      · cases h
    unfold rparN
    rw [hr]
    exact if_pos hm
  | none =>
    unfold rparN
    split
    · rename_i h
      have := mar_parN h hl
      rw [hp] at this
      cases this
    · rfl
end Go.Proofs.YtjjkimjdmpeddaaGreatDoor
end

/- Walks over integer.Valid and the closure of ValidNotice. -/
section
set_option linter.unusedSimpArgs false
set_option linter.unusedVariables false
namespace Go.Proofs.YtjjkimjdmpeddaaGreatDoor
open Go.RowKit Go.Cr
theorem top_bit {y : Int} (h0 : 0 ≤ y) (h1 : y < 256) : bits BinOp.and IntKind.u8 y 128 = if y < 128 then 0 else 128 := by
  have h : ((List.range 256).all fun n => bits BinOp.and IntKind.u8 (n : Int) 128 == if (n : Int) < 128 then 0 else 128) = true := by kernel_rfl
  have h2 := List.all_eq_true.1 h y.toNat (by simp; omega)
  rw [Int.toNat_of_nonneg h0] at h2
  simpa using h2
set_option maxRecDepth 100000 in
set_option maxHeartbeats 4000000 in
theorem intValid (v : Value) (l : List UInt8) (w : World) (hv : IsB w v l) : Calls Tryz.prog 55 #[v] w (RetB (.bool (intOK l)) w) := by
  have hlen := hv.len (P := Tryz.prog) ulB
  by_cases h2 : l.length < 2
  · have hk : intOK l = decide (l.length = 1) := by unfold intOK; rw [if_pos h2]
    rw [hk]
    obtain ⟨A, k, rfl⟩ := isB_slice hv
    have h2' : (l.length : Int) < 2 := by omega
    have hd : decide (l.length = 1) = decide ((l.length : Int) = 1) := by rw [decide_eq_decide]; omega
    rw [hd]
    clear hv hk hd h2
    generalize (l.length : Int) = n at *
    go_enter Tryz.func55, Tryz.ntmps55
    go_wp2
    go_ret
    exact ⟨rfl, Below.refl _ _⟩
  · obtain ⟨b0, o0, hi0, hl0, hc0⟩ := hv.at_ (P := Tryz.prog) ulB szB .i64 (i := 0) (by omega) (by omega)
    obtain ⟨b1, o1, hi1, hl1, hc1⟩ := hv.at_ (P := Tryz.prog) ulB szB .i64 (i := 1) (by omega) (by omega)
    have hk : intOK l = (!(decide (bat l 0 = 0) && decide (bat l 1 < 128)) && !(decide (bat l 0 = 255) && decide (128 ≤ bat l 1))) := by unfold intOK; rw [if_neg h2]
    rw [hk]
    have p0 := bat_pos l 0
    have q0 := bat_lt l 0
    have p1 := bat_pos l 1
    have q1 := bat_lt l 1
    obtain ⟨A, k, rfl⟩ := isB_slice hv
    have h2' : ¬ (l.length : Int) < 2 := by omega
    simp only [Int.toNat_zero, Int.toNat_one] at hc0 hc1
    clear hv hk h2
    generalize bat l 0 = x at *
    generalize bat l 1 = y at *
    generalize (l.length : Int) = n at *
    have hb := top_bit p1 q1
    by_cases hy : y < 128
    · rw [if_pos hy] at hb
      have e1 : decide (y < 128) = true := decide_eq_true hy
      have e2 : decide (128 ≤ y) = false := decide_eq_false (by omega)
      rw [e1, e2]
      go_enter Tryz.func55, Tryz.ntmps55
      go_wp2
      all_goals go_ret
      all_goals exact ⟨by simp [*], Below.refl _ _⟩
    · rw [if_neg hy] at hb
      have e1 : decide (y < 128) = false := decide_eq_false hy
      have e2 : decide (128 ≤ y) = true := decide_eq_true (by omega)
      rw [e1, e2]
      go_enter Tryz.func55, Tryz.ntmps55
      go_wp2
      all_goals go_ret
      all_goals exact ⟨by simp [*], Below.refl _ _⟩

set_option maxRecDepth 100000 in
set_option maxHeartbeats 4000000 in
theorem badI (v : Value) (l : List UInt8) (w : World) (hv : IsB w v l) : Calls Tryz.prog 54 #[v] w (RetB (.bool (!intOK l)) w) := by
  have HO := Lib.hid (intValid v l w hv)
  obtain ⟨A, k, rfl⟩ := isB_slice hv
  clear hv
  generalize intOK l = B at *
  go_enter Tryz.func54, Tryz.ntmps54
  go_wp2_with (((go_at_call 55); (with_reducible refine (HO.out).mono ?_); rintro e w1 ⟨rfl, hbw1⟩))
  go_ret
  exact ⟨rfl, hbw1⟩

theorem isBs_slice {w : World} {v : Value} {ls : List (List UInt8)} (h : IsBs w v ls) : ∃ A c, v = .slice A ls.length c := by
  obtain ⟨xs, ⟨A, c, rfl, _⟩, _⟩ := h
  exact ⟨A, c, rfl⟩
set_option maxRecDepth 100000 in
set_option maxHeartbeats 4000000 in
theorem idxI (v : Value) (ls : List (List UInt8)) (w : World) (hv : IsBs w v ls) (hn : ls.length ≤ 1000000) :
    Calls Tryz.prog 93 #[v, .func (.func 54) #[] #[]] w (RetIx (!ls.all intOK) w) := by
  have hlen := hv.len (P := Tryz.prog) ulBs
  have e78 := enters_of Tryz.func54 (by kernel_rfl) rfl
  have HB : Hid (∀ (j : Nat) (hj : j < ls.length) A n c W, IsB W (.slice A n c) ls[j] → Calls Tryz.prog 54 #[.slice A n c] W (RetB (.bool (!intOK ls[j])) W)) := fun j hj A n c W h => badI _ ls[j] W h
  have HV := Lib.hid hv
  obtain ⟨A, c, rfl⟩ := isBs_slice hv
  obtain ⟨B, hB⟩ : ∃ B, (!ls.all intOK) = B := ⟨_, rfl⟩
  rw [hB]
  have HBB := Lib.hid hB
  have hnI : (ls.length : Int) ≤ 1000000 := by omega
  clear hv hn hB
  go_enter Tryz.func93, Tryz.ntmps93
  go_wp2_with fail
  go_loopw [8] (fun ix wr => IxRel (fun j => intOK (ls.getD j default)) ls.length w ix wr) (fun ix _ => ls.length + 1 - (intOf ix).toNat)
  case atStart => exact ⟨0, rfl, Nat.zero_le _, fun j h => by omega, Below.refl _ _⟩
  case round =>
    obtain ⟨i, rfl, hi, hall, hbel⟩ := hrel
    have HALL := Lib.hid hall
    have HBR := Lib.hid hbel
    clear hall
    by_cases hlt : i < ls.length
    · obtain ⟨b2, o2, v2, hi2, hl2, hc2, hIB⟩ := (HV.out.below hbel).at_ (P := Tryz.prog) ulBs szBs .i64 (i := (i : Int)) (by omega) (by omega)
      rw [Int.toNat_natCast, show ls.getD i [] = ls[i] by simp [hlt]] at hIB
      obtain ⟨A2, k2, rfl⟩ := isB_slice hIB
      have HI := Lib.hid hIB
      have HC := Lib.hid (HB.out i hlt)
      have hgd : ls.getD i default = ls[i] := by simp [hlt]
      have hltI : (i : Int) < ls.length := by omega
      obtain ⟨C, hC⟩ : ∃ C, intOK ls[i] = C := ⟨_, rfl⟩
      rw [hC] at HC
      have HCC := Lib.hid hC
      have HGD := Lib.hid hgd
      clear hIB hC hgd
      generalize ls[i] = l0 at *
      cases C with
      | true =>
        go_wp2_with (((go_at_call 54); (with_reducible refine (HC.out _ _ _ _ HI.out).mono ?_); rintro e w3 ⟨rfl, hbw3⟩; have HB3 := Lib.hid (HBR.out.trans (hbw3.mono HBR.out.size)); clear hbw3))
        go_roundw
        case rel =>
          refine ⟨i + 1, by go_num, by omega, fun j hj => ?_, HB3.out⟩
          by_cases hji : j < i
          · exact HALL.out j hji
          · obtain rfl : j = i := by omega
            show intOK (ls.getD j default) = true
            rw [HGD.out]; exact HCC.out
        case measure => simp [intOf]; omega
      | false =>
        have hBt : B = true := by
          rw [← HBB.out]
          cases ha : ls.all intOK with
          | false => rfl
          | true =>
            have := (all_getD intOK ls).2 ha i hlt
            rw [HGD.out, HCC.out] at this
            cases this
        have HBT := Lib.hid hBt
        clear hBt
        go_wp2_with (((go_at_call 54); (with_reducible refine (HC.out _ _ _ _ HI.out).mono ?_); rintro e w3 ⟨rfl, hbw3⟩; have HB3 := Lib.hid (HBR.out.trans (hbw3.mono HBR.out.size)); clear hbw3))
        go_ret
        exact ⟨_, rfl, by rw [HBT.out]; exact decide_eq_true (by omega), HB3.out⟩
    · have hBf : B = false := by
        rw [← HBB.out]
        have : ls.all intOK = true := (all_getD intOK ls).1 (fun j hj => HALL.out j (by omega))
        rw [this]; rfl
      have HBF := Lib.hid hBf
      have hge : (ls.length : Int) ≤ i := by omega
      clear hlt hi hBf hbel
      go_wp2_with fail
      go_ret
      exact ⟨_, rfl, by rw [HBF.out]; rfl, HBR.out⟩
set_option maxRecDepth 100000 in
set_option maxHeartbeats 4000000 in
theorem anyI (v : Value) (ls : List (List UInt8)) (w : World) (hv : IsBs w v ls) (hn : ls.length ≤ 1000000) :
    Calls Tryz.prog 53 #[v, .func (.func 54) #[] #[]] w (RetB (.bool (!ls.all intOK)) w) := by
  have HI := Lib.hid (idxI v ls w hv hn)
  obtain ⟨A, c, rfl⟩ := isBs_slice hv
  clear hv hn
  generalize (!ls.all intOK) = B at *
  go_enter Tryz.func53, Tryz.ntmps53
  go_wp2_with (((go_at_call 93); (with_reducible refine (HI.out).mono ?_); rintro e w1 ⟨r, rfl, hr, hbw1⟩))
  go_ret
  exact ⟨by (first | rw [← hr]; rfl | simp [hr]), hbw1⟩

def IsN (w : World) (v : Value) (n : Ntc) : Prop := ∃ u, v = .agg #[.bool n.ref, .int .i64 n.org.1, .string n.org.2, u, .int .i64 n.text.1, .string n.text.2] ∧ IsBs w u n.nums
theorem IsN.below {w w' : World} {v : Value} {n : Ntc} (h : IsN w v n) (hb : Below w.heap.size w w') : IsN w' v n := by
  obtain ⟨u, e, hu⟩ := h
  exact ⟨u, e, hu.below hb⟩
theorem IsN.alloc {w : World} {v : Value} {n : Ntc} (h : IsN w v n) (o : Obj) : IsN (w.alloc o) v n := h.below ((Below.refl _ _).alloc (Nat.le_refl _) o)
def SzN (n : Ntc) : Prop := n.org.2.size ≤ 100000 ∧ n.text.2.size ≤ 100000 ∧ n.nums.length ≤ 10000 ∧ n.nums.flatten.length ≤ 100000
end Go.Proofs.YtjjkimjdmpeddaaGreatDoor
end

/- Walks over policy.ValidNotice. -/
section
set_option linter.unusedSimpArgs false
set_option linter.unusedVariables false
namespace Go.Proofs.YtjjkimjdmpeddaaGreatDoor
open Go.RowKit Go.Cr
theorem tx0_dec (k : Int) (s : ByteArray) : decide ((k, s) = tx0) = (decide (k = 0) && decide (s.toList = [])) := by
  have h : s.toList = [] ↔ s = ⟨#[]⟩ := by
    rw [ByteArray.toList_eq]
    obtain ⟨⟨x⟩⟩ := s
    simp
  unfold tx0
  by_cases h1 : k = 0
  · subst h1
    simp [h]
  · simp [h1]
theorem tx_cases (k : Int) (s : ByteArray) : (k = 0 ∧ s.toList = [] ∧ decide ((k, s) = tx0) = true) ∨ (k = 0 ∧ s.toList ≠ [] ∧ decide ((k, s) = tx0) = false) ∨ (k ≠ 0 ∧ decide ((k, s) = tx0) = false) := by
  rw [tx0_dec]
  by_cases h1 : k = 0
  · by_cases h2 : s.toList = []
    · exact .inl ⟨h1, h2, by simp [h1, h2]⟩
    · exact .inr (.inl ⟨h1, h2, by simp [h1, h2]⟩)
  · exact .inr (.inr ⟨h1, by simp [h1]⟩)
set_option maxRecDepth 100000 in
set_option maxHeartbeats 16000000 in
theorem noticeValid (v : Value) (n : Ntc) (w : World) (hG : Glo w) (hv : IsN w v n) (hz : SzN n) : Calls Tryz.prog 22 #[v] w (RetB (.bool (okN n)) w) := by
  obtain ⟨u, rfl, hu⟩ := hv
  obtain ⟨ref, ⟨ok, os⟩, nums, ⟨tk, ts⟩⟩ := n
  obtain ⟨z1, z2, z3, z4⟩ := hz
  simp only at hu z1 z2 z3 z4 ⊢
  have hlen := hu.len (P := Tryz.prog) ulBs
  have HD1 : Hid (∀ W, Glo W → Calls Tryz.prog 52 #[.agg #[.int .i64 tk, .string ts]] W (RetB (.bool (dispT tk ts.data.toList)) W)) := fun W g => polDisplay tk ts W g (by omega)
  have HD2 : Hid (∀ W, Glo W → Calls Tryz.prog 52 #[.agg #[.int .i64 ok, .string os]] W (RetB (.bool (dispT ok os.data.toList)) W)) := fun W g => polDisplay ok os W g (by omega)
  have HI : Hid (∀ W, IsBs W u nums → Calls Tryz.prog 53 #[u, .func (.func 54) #[] #[]] W (RetB (.bool (!nums.all intOK)) W)) := fun W h => anyI u nums W h (by omega)
  have hk : okN ⟨ref, (ok, os), nums, (tk, ts)⟩ = ((decide ((tk, ts) = tx0) || dispT tk ts.data.toList) && (if ref then dispT ok os.data.toList && nums.all intOK else decide ((ok, os) = tx0) && nums.isEmpty)) := rfl
  obtain ⟨M, hM⟩ : ∃ M, ((nums.length : Int) == 0) = M := ⟨_, rfl⟩
  have he : nums.isEmpty = M := by rw [← hM]; cases nums <;> simp <;> omega
  rw [hk, tx0_dec ok os, he]
  have HG := Lib.hid hG
  have HU := Lib.hid hu
  obtain ⟨A, c, rfl⟩ := isBs_slice hu
  have hcur := Lib.hid ((Below.refl w.heap.size w).alloc (Nat.le_refl _) (.cells #[.bool ref, .int .i64 ok, .string os, .slice A nums.length c, .int .i64 tk, .string ts] 30))
  have K := Lib.hid (Blk.new w 30 #[.bool ref, .int .i64 ok, .string os, .slice A nums.length c, .int .i64 tk, .string ts])
  clear hG hu hk z1 z2 z3 z4 he
  generalize dispT tk ts.data.toList = D1 at *
  generalize dispT ok os.data.toList = D2 at *
  generalize nums.all intOK = D3 at *
  obtain ⟨E, hE⟩ : ∃ E, decide ((tk, ts) = tx0) = E := ⟨_, rfl⟩
  have hcs := tx_cases tk ts
  rw [hE] at hcs ⊢
  clear hE
  cases ref <;> cases D1 <;> rcases hcs with ⟨rfl, h2, rfl⟩ | ⟨rfl, h2, rfl⟩ | ⟨h2, rfl⟩
  all_goals
    go_enter Tryz.func22, Tryz.ntmps22
    go_wp2_with (first | ((go_at_call 52); (with_reducible refine (HD1.out _ (HG.out.below hcur.out)).mono ?_); rintro e wz ⟨rfl, hbz⟩; have hcur := Lib.hid (hcur.out.trans (hbz.mono hcur.out.size)); have K := Lib.hid (K.out.call hbz); have qK := K.out.q; have lK := K.out.lt; clear hbz) | ((go_at_call 52); (with_reducible refine (HD2.out _ (HG.out.below hcur.out)).mono ?_); rintro e wz ⟨rfl, hbz⟩; have hcur := Lib.hid (hcur.out.trans (hbz.mono hcur.out.size)); have K := Lib.hid (K.out.call hbz); have qK := K.out.q; have lK := K.out.lt; clear hbz) | ((go_at_call 53); (with_reducible refine (HI.out _ (HU.out.below hcur.out)).mono ?_); rintro e wz ⟨rfl, hbz⟩; have hcur := Lib.hid (hcur.out.trans (hbz.mono hcur.out.size)); have K := Lib.hid (K.out.call hbz); have qK := K.out.q; have lK := K.out.lt; clear hbz))
  all_goals go_ret
  all_goals first | exact ⟨by simp [*], hcur.out⟩ | exact ⟨by simp [*], by ((repeat' (first | (with_reducible exact Below.refl _ _) | (with_reducible assumption) | (with_reducible refine Below.setCell ?_ ?_ _) | (with_reducible refine Below.alloc ?_ ?_ _) | (with_reducible refine Below.drew ?_) | (with_reducible refine below_drewN ?_ _) | (with_reducible refine Below.step (by with_reducible assumption) ?_ ?_))) <;> (first | omega | (simp; done) | (simp; omega)))⟩
end Go.Proofs.YtjjkimjdmpeddaaGreatDoor
end

/- Walks over policy.MarshalNotice. -/
section
set_option linter.unusedSimpArgs false
set_option linter.unusedVariables false
namespace Go.Proofs.YtjjkimjdmpeddaaGreatDoor
open Go.RowKit Go.Cr
theorem fromStr_yes (t : Tx) (w : World) (hG : Glo w) (hs : t.2.size ≤ 100000) (hd : dispX t = true) : Calls Tryz.prog 46 #[.agg #[.int .i64 t.1, .string t.2]] w (RetOidY (strB t) w) := by
  have h := fromString t.1 t.2 w (kindOk_all t.1) hG hs
  obtain ⟨y, hy⟩ := dispT_len hd
  rw [hy] at h
  have e : strB t = y := by unfold strB; rw [hy]; rfl
  rw [e]
  exact h.mono fun e w' hh => hh.yes
def NmRel (ls : List (List UInt8)) (w : World) (out ix : Value) (wr : World) : Prop := ∃ i : Nat, ix = .int .i64 (i : Int) ∧ i ≤ ls.length ∧ OwP wr w.heap.size 32 out ((ls.take i).map intB) ∧ Below w.heap.size w wr
set_option maxRecDepth 100000 in
set_option maxHeartbeats 4000000 in
theorem noticeMar_no (v : Value) (n : Ntc) (w : World) (hG : Glo w) (hv : IsN w v n) (hz : SzN n) (ho : okN n = false) : Calls Tryz.prog 19 #[v] w (RetB (.tuple #[.slice none 0 0, .int .i64 8]) w) := by
  have HV0 : Hid (∀ W, Glo W → IsN W v n → Calls Tryz.prog 22 #[v] W (RetB (.bool false) W)) := fun W g h => by have := noticeValid v n W g h hz; rw [ho] at this; exact this
  have HN := Lib.hid hv
  have HG := Lib.hid hG
  obtain ⟨u, rfl, hu⟩ := hv
  obtain ⟨ref, ⟨ok, os⟩, nums, ⟨tk, ts⟩⟩ := n
  simp only at hu HV0 HN ⊢
  obtain ⟨A, c, rfl⟩ := isBs_slice hu
  clear hG hu hz ho
  go_enter Tryz.func19, Tryz.ntmps19
  go_wp2_with (((go_at_call 22); (with_reducible refine (HV0.out _ (HG.out.alloc _) (HN.out.alloc _)).mono ?_); rintro e w1 ⟨rfl, hbw1⟩))
  go_ret2
  exact ⟨rfl, by ((repeat' (first | (with_reducible exact Below.refl _ _) | (with_reducible assumption) | (with_reducible refine Below.setCell ?_ ?_ _) | (with_reducible refine Below.alloc ?_ ?_ _) | (with_reducible refine Below.drew ?_) | (with_reducible refine below_drewN ?_ _) | (with_reducible refine Below.step (by with_reducible assumption) ?_ ?_))) <;> (first | omega | (simp; done) | (simp; omega)))⟩
set_option maxRecDepth 100000 in
set_option maxHeartbeats 16000000 in
theorem noticeMar_plain (v : Value) (n : Ntc) (w : World) (hG : Glo w) (hv : IsN w v n) (hz : SzN n) (hT : (partsN n).flatten.length ≤ 900000) (ho : okN n = true) (hr : n.ref = false) : Calls Tryz.prog 19 #[v] w (RetOidY (seqL (partsN n)) w) := by
  have HV0 : Hid (∀ W, Glo W → IsN W v n → Calls Tryz.prog 22 #[v] W (RetB (.bool true) W)) := fun W g h => by have := noticeValid v n W g h hz; rw [ho] at this; exact this
  have HEL : Hid (∀ u W, IsBs W u (partsN n) → Calls Tryz.prog 48 #[u] W (RetOK 5 (seqL (partsN n)) W)) := fun u W h => by
    refine (pSeq u _ W h hT).mono fun e w' hh => ?_
    unfold RetW at hh
    rw [if_pos (by decide)] at hh
    exact hh
  have HF : Hid (n.text ≠ tx0 → ∀ W, Glo W → Calls Tryz.prog 46 #[.agg #[.int .i64 n.text.1, .string n.text.2]] W (RetOidY (strB n.text) W)) := fun hne W g => fromStr_yes n.text W g hz.2.1 (by
    unfold okN at ho
    rw [Bool.and_eq_true, Bool.or_eq_true] at ho
    rcases ho.1 with h | h
    · exact absurd (of_decide_eq_true h) hne
    · exact h)
  have hp : partsN n = if n.text = tx0 then [] else [strB n.text] := by unfold partsN; rw [hr]; rfl
  rw [hp] at HEL ⊢
  have HN := Lib.hid hv
  have HG := Lib.hid hG
  obtain ⟨u, rfl, hu⟩ := hv
  obtain ⟨ref, ⟨ok, os⟩, nums, ⟨tk, ts⟩⟩ := n
  simp only at hu HV0 HN hr HF HEL ⊢
  subst hr
  obtain ⟨A, c, rfl⟩ := isBs_slice hu
  have hcs := tx_cases tk ts
  have hcur := Lib.hid ((Below.refl w.heap.size w).alloc (Nat.le_refl _) (.cells #[.bool false, .int .i64 ok, .string os, .slice A nums.length c, .int .i64 tk, .string ts] 30))
  have K := Lib.hid (Blk.new w 30 #[.bool false, .int .i64 ok, .string os, .slice A nums.length c, .int .i64 tk, .string ts])
  clear hG hu hz ho hT hp
  by_cases ht : (tk, ts) = tx0
  · have HT := Lib.hid (show (if (tk, ts) = tx0 then [] else [strB (tk, ts)]) = [] from if_pos ht)
    rw [HT.out] at HEL ⊢
    obtain ⟨R, hR⟩ : ∃ R, seqL [] = R := ⟨_, rfl⟩
    rw [hR] at HEL ⊢
    have h2 : tk = 0 ∧ ts.toList = [] := by
      have := tx0_dec tk ts
      rw [decide_eq_true ht] at this
      simpa using this.symm
    obtain ⟨rfl, h2⟩ := h2
    clear hcs ht hR HF
    go_enter Tryz.func19, Tryz.ntmps19
    go_wp2_with (first | ((go_at_call 22); (with_reducible refine (HV0.out _ (HG.out.below hcur.out) (HN.out.below hcur.out)).mono ?_); rintro e wz ⟨rfl, hbz⟩; have hcur := Lib.hid (hcur.out.trans (hbz.mono hcur.out.size)); have K := Lib.hid (K.out.call hbz); have qK := K.out.q; have lK := K.out.lt; clear hbz) | ((go_at_call 48); (with_reducible refine (HEL.out _ _ (IsBs.nil_ _)).mono ?_); rintro e w9 ⟨v9, rfl, ho9, hbz⟩; have HO9 := Lib.hid (ho9.more hcur.out.size); have hcur := Lib.hid (hcur.out.trans (hbz.mono hcur.out.size)); clear ho9 hbz))
    go_ret2
    exact ⟨_, rfl, HO9.out, hcur.out⟩
  · have HF2 := Lib.hid (HF.out ht)
    have HT := Lib.hid (show (if (tk, ts) = tx0 then [] else [strB (tk, ts)]) = [strB (tk, ts)] from if_neg ht)
    rw [HT.out] at HEL ⊢
    obtain ⟨R, hR⟩ : ∃ R, seqL [strB (tk, ts)] = R := ⟨_, rfl⟩
    rw [hR] at HEL ⊢
    have hcs : (tk = 0 ∧ ts.toList ≠ []) ∨ tk ≠ 0 := by
      have h := tx0_dec tk ts
      rw [decide_eq_false ht] at h
      by_cases h1 : tk = 0
      · refine .inl ⟨h1, fun h2 => ?_⟩
        simp [h1, h2] at h
      · exact .inr h1
    clear ht hR HF HT
    generalize strB (tk, ts) = C at *
    rcases hcs with ⟨rfl, h2⟩ | h2
    all_goals
      go_enter Tryz.func19, Tryz.ntmps19
      go_wp2_with (first | ((go_at_call 22); (with_reducible refine (HV0.out _ (HG.out.below hcur.out) (HN.out.below hcur.out)).mono ?_); rintro e w1 ⟨rfl, hbz⟩; have hcur := Lib.hid (hcur.out.trans (hbz.mono hcur.out.size)); have K := Lib.hid (K.out.call hbz); have qK := K.out.q; have lK := K.out.lt; clear hbz) | ((go_at_call 46); (with_reducible refine (HF2.out _ (HG.out.below hcur.out)).mono ?_); rintro e w2 ⟨v2, rfl, ho2, hbz⟩; obtain ⟨A2, k2, rfl⟩ := isB_slice ho2.isB; have HP2 := Lib.hid (part_newP (e := 32) ho2 (OwP.nil_ w1 w1.heap.size _) (Nat.le_refl _)); have hs12 := hbz.size; have hs1 := hcur.out.size; have hcur := Lib.hid (hcur.out.trans (hbz.mono hcur.out.size)); clear ho2 hbz) | (at_builtin; refine wpList_appP _ rfl _ _ 28 rfl w1.heap.size 32 ulBs infoBss _ [] rfl (OwP.nil_ _ _ _) _ (.slice A2 C.length k2) C rfl isR_one (HP2.out.alloc _) ?n1 ?b1 ?_))
      case n1 => simp
      case b1 => simp; omega
      intro v3 w3 ho3 hb3 _
      have ho3' : OwP w3 w1.heap.size 32 v3 [C] := ho3
      clear ho3
      obtain ⟨A3, k3, hve⟩ := ho3'.slice
      have hve' : v3 = .slice A3 1 k3 := hve
      clear hve
      subst hve'
      have HO3 := Lib.hid ho3'.isBs
      have hcur := Lib.hid ((hcur.out.alloc hcur.out.size (.cells #[.slice A2 C.length k2] 32)).trans (hb3.mono hs1))
      clear ho3' hb3
      go_wp2_with (((go_at_call 48); (with_reducible refine (HEL.out _ _ HO3.out).mono ?_); rintro e w9 ⟨v9, rfl, ho9, hbz⟩; have HO9 := Lib.hid (ho9.more hcur.out.size); have hcur := Lib.hid (hcur.out.trans (hbz.mono hcur.out.size)); clear ho9 hbz))
      go_ret2
      exact ⟨_, rfl, HO9.out, hcur.out⟩
end Go.Proofs.YtjjkimjdmpeddaaGreatDoor
end

/- Walk over policy.MarshalNotice at a notice with a reference. -/
section
set_option linter.unusedSimpArgs false
set_option linter.unusedVariables false
namespace Go.Proofs.YtjjkimjdmpeddaaGreatDoor
open Go.RowKit Go.Cr
set_option maxRecDepth 100000 in
set_option maxHeartbeats 32000000 in
theorem noticeMar_ref (v : Value) (n : Ntc) (w : World) (hG : Glo w) (hv : IsN w v n) (hz : SzN n) (hT : (partsN n).flatten.length ≤ 900000) (ho : okN n = true) (hr : n.ref = true) : Calls Tryz.prog 19 #[v] w (RetOidY (seqL (partsN n)) w) := by
  have HV0 : Hid (∀ W, Glo W → IsN W v n → Calls Tryz.prog 22 #[v] W (RetB (.bool true) W)) := fun W g h => by have := noticeValid v n W g h hz; rw [ho] at this; exact this
  have HEL : Hid (∀ u W, IsBs W u (partsN n) → Calls Tryz.prog 48 #[u] W (RetOK 5 (seqL (partsN n)) W)) := fun u W h => by
    refine (pSeq u _ W h hT).mono fun e w' hh => ?_
    unfold RetW at hh
    rw [if_pos (by decide)] at hh
    exact hh
  have hok : (n.text = tx0 ∨ dispX n.text = true) ∧ dispX n.org = true := by
    unfold okN at ho
    rw [hr, if_pos rfl, Bool.and_eq_true, Bool.or_eq_true, Bool.and_eq_true] at ho
    exact ⟨ho.1.imp of_decide_eq_true id, ho.2.1⟩
  have HF : Hid (n.text ≠ tx0 → ∀ W, Glo W → Calls Tryz.prog 46 #[.agg #[.int .i64 n.text.1, .string n.text.2]] W (RetOidY (strB n.text) W)) := fun hne W g => fromStr_yes n.text W g hz.2.1 (hok.1.resolve_left hne)
  have HO : Hid (∀ W, Glo W → Calls Tryz.prog 46 #[.agg #[.int .i64 n.org.1, .string n.org.2]] W (RetOidY (strB n.org) W)) := fun W g => fromStr_yes n.org W g hz.1 hok.2
  have hp : partsN n = [seqL [strB n.org, seqL (n.nums.map intB)]] ++ (if n.text = tx0 then [] else [strB n.text]) := by unfold partsN; rw [hr]; rfl
  have hl1 : (seqL [strB n.org, seqL (n.nums.map intB)]).length ≤ 900000 := by
    rw [hp] at hT
    simp only [List.flatten_append, List.length_append, List.flatten_cons, List.flatten_nil, List.length_nil] at hT
    omega
  have hl2 := seqL_len [strB n.org, seqL (n.nums.map intB)]
  have hl3 := seqL_len (n.nums.map intB)
  have hl4 : (seqL (n.nums.map intB)).length ≤ [strB n.org, seqL (n.nums.map intB)].flatten.length := by simp
  have HS1 : Hid (∀ u W, IsBs W u (n.nums.map intB) → Calls Tryz.prog 47 #[u] W (RetO 5 (seqL (n.nums.map intB)) W)) := fun u W h => polSeq u _ W h (by omega)
  have HS2 : Hid (∀ u W, IsBs W u [strB n.org, seqL (n.nums.map intB)] → Calls Tryz.prog 47 #[u] W (RetO 5 (seqL [strB n.org, seqL (n.nums.map intB)]) W)) := fun u W h => polSeq u _ W h (by omega)
  have HW : Hid (∀ x ∈ n.nums, ∀ u W, IsBs W u [x] → Calls Tryz.prog 45 #[.int .i64 0, .bool false, .int .i64 2, u] W (RetOK 5 (intB x) W)) := fun x hx u W h => by
    have h1 := flat_part intB hx
    have h2 : x.length ≤ (intB x).length := by unfold intB; rw [encO_len]; omega
    refine (pWrap 0 2 false u _ W h (by simp; omega)).mono fun e w' hh => ?_
    unfold RetW at hh
    rw [if_pos (by decide)] at hh
    simpa [intB] using hh
  rw [hp] at HEL ⊢
  have HN := Lib.hid hv
  have HG := Lib.hid hG
  obtain ⟨u, rfl, hu⟩ := hv
  obtain ⟨ref, ⟨ok, os⟩, nums, ⟨tk, ts⟩⟩ := n
  simp only at hu HV0 HN hr HF HEL HO HS1 HS2 HW ⊢
  subst hr
  have hlen := hu.len (P := Tryz.prog) ulBs
  have hnn : nums.length ≤ 10000 := hz.2.2.1
  have hnI : (nums.length : Int) ≤ 10000 := by omega
  have HU := Lib.hid hu
  obtain ⟨A, c, rfl⟩ := isBs_slice hu
  have hcur0 := Lib.hid ((Below.refl w.heap.size w).alloc (Nat.le_refl _) (.cells #[.bool true, .int .i64 ok, .string os, .slice A nums.length c, .int .i64 tk, .string ts] 30))
  have K0 := Lib.hid (Blk.new w 30 #[.bool true, .int .i64 ok, .string os, .slice A nums.length c, .int .i64 tk, .string ts])
  clear hG hu hz ho hT hp hok hl1 hl2 hl3 hl4
  generalize hSN : seqL (nums.map intB) = SN at *
  generalize hSO : strB (ok, os) = SO at *
  generalize hP1 : seqL [SO, SN] = P1 at *
  clear hSN hSO hP1
  obtain ⟨PP, hPP⟩ : ∃ PP, [P1] ++ (if (tk, ts) = tx0 then [] else [strB (tk, ts)]) = PP := ⟨_, rfl⟩
  rw [hPP] at HEL ⊢
  have HPP := Lib.hid hPP
  obtain ⟨R, hR⟩ : ∃ R, seqL PP = R := ⟨_, rfl⟩
  rw [hR] at HEL ⊢
  clear hPP hR
  go_enter Tryz.func19, Tryz.ntmps19
  go_wp2_with (((go_at_call 22); (with_reducible refine (HV0.out _ (HG.out.below hcur0.out) (HN.out.below hcur0.out)).mono ?_); rintro e w1 ⟨rfl, hbz⟩; have hcur := Lib.hid (hcur0.out.trans (hbz.mono hcur0.out.size)); have K := Lib.hid (K0.out.call hbz); have qK := K.out.q; have lK := K.out.lt; clear hbz))
  have HC1 := hcur
  have K1 := K
  clear qK lK K hcur hcur0 K0
  go_loopw [5, 22] (fun out ix wr => NmRel nums w1 out ix wr) (fun _ ix _ => nums.length + 1 - (intOf ix).toNat)
  case atStart => exact ⟨0, rfl, Nat.zero_le _, OwP.nil_ _ _ _, Below.refl _ _⟩
  case round =>
    obtain ⟨i, rfl, hi, how, hbel⟩ := hrel
    have HOW := Lib.hid how
    have HBR := Lib.hid hbel
    have hcur := Lib.hid (HC1.out.trans (hbel.mono HC1.out.size))
    have K := Lib.hid (K1.out.call hbel)
    have qK := K.out.q
    have lK := K.out.lt
    clear how
    by_cases hlt : i < nums.length
    · obtain ⟨b2, o2, v2, hi2, hl2, hc2, hIB⟩ := (HU.out.below hcur.out).at_ (P := Tryz.prog) ulBs szBs .i64 (i := (i : Int)) (by omega) (by omega)
      rw [Int.toNat_natCast, show nums.getD i [] = nums[i] by simp [hlt]] at hIB
      obtain ⟨A2, k2, rfl⟩ := isB_slice hIB
      have HI := Lib.hid hIB
      have hltI : (i : Int) < nums.length := by omega
      have HWi := Lib.hid (HW.out _ (List.getElem_mem hlt))
      have HTK := Lib.hid (show (nums.take (i + 1)).map intB = (nums.take i).map intB ++ [intB nums[i]] by rw [List.take_succ_eq_append_getElem hlt, List.map_append]; rfl)
      have hll : ((nums.take i).map intB).length ≤ 10000 := by rw [List.length_map, List.length_take]; omega
      have HLL := Lib.hid hll
      have hszr : w1.heap.size ≤ wr.heap.size := hbel.size
      clear hIB hll hbel
      generalize nums[i] = x at *
      generalize intB x = pl at *
      generalize hLg : (nums.take i).map intB = LL at *
      go_wp2_with (first | ((go_at_call 45); (with_reducible refine (HWi.out _ _ (isBs_one rfl HI.out)).mono ?_); rintro e wd ⟨vd, rfl, hod, hbwd⟩; obtain ⟨Ad, kd, rfl⟩ := isB_slice hod.isB; have HPD := Lib.hid (part_newP hod (HOW.out.alloc _) (by simp; omega)); have HAD := Lib.hid ((HOW.out.alloc _).below hbwd); have HWD := Lib.hid ((HBR.out.alloc hszr _).trans (hbwd.mono (by simp; omega))); clear hod hbwd) | (at_builtin; refine wpList_appP _ rfl _ _ 28 rfl w1.heap.size 32 ulBs infoBss _ LL rfl (HAD.out.alloc _) _ (.slice Ad pl.length kd) pl rfl isR_one (HPD.out.alloc _) ?n2 ?b2 ?_))
      case n2 => have := HLL.out; omega
      case b2 => have := HWD.out.size; simp; omega
      intro v6 w6 ho6 hb6 _
      have HO6 := Lib.hid ho6
      have HB6 := Lib.hid ((HWD.out.alloc HWD.out.size (.cells #[.slice Ad pl.length kd] 32)).trans hb6)
      clear ho6 hb6
      go_wp2
      go_roundw
      case rel => exact ⟨i + 1, by go_num, by omega, by rw [HTK.out]; exact HO6.out, HB6.out⟩
      case measure => simp [intOf]; omega
    · have hie : i = nums.length := by omega
      have how := HOW.out
      rw [hie, List.take_length] at how
      have HNB := Lib.hid how.isBs
      have hge : (nums.length : Int) ≤ i := by omega
      obtain ⟨Ao, ko, hoe⟩ := how.slice
      rw [List.length_map] at hoe
      subst hoe
      clear how hie hlt hi hbel
      obtain ⟨wm, rfl⟩ : ∃ x, x = wr := ⟨_, rfl⟩
      have hsm := hcur.out.size
      by_cases ht : (tk, ts) = tx0
      · have HT := Lib.hid (show PP = [P1] by rw [← HPP.out, if_pos ht, List.append_nil])
        rw [HT.out] at HEL
        have h2 : tk = 0 ∧ ts.toList = [] := by
          have := tx0_dec tk ts
          rw [decide_eq_true ht] at this
          simpa using this.symm
        obtain ⟨rfl, h2⟩ := h2
        clear ht HF HT HPP
        go_wp2_with (first | ((go_at_call 46); (with_reducible refine (HO.out _ (HG.out.below hcur.out)).mono ?_); rintro e w2 ⟨v2, rfl, ho2, hbz⟩; obtain ⟨A2, k2, rfl⟩ := isB_slice ho2.isB; have hcur := Lib.hid (hcur.out.trans (hbz.mono hcur.out.size)); have K := Lib.hid (K.out.call hbz); have qK := K.out.q; have lK := K.out.lt; have HI2 := Lib.hid ho2.isB; have HNB := Lib.hid (HNB.out.below hbz); have hs2 := hbz.size; clear ho2 hbz) | ((go_at_call 47); (with_reducible refine (HS2.out _ _ (isBs_two rfl HI2.out HI3.out)).mono ?_); rintro e w4 ⟨v4, rfl, ho4, hbz⟩; obtain ⟨A4, k4, rfl⟩ := isB_slice ho4.isB; have HP4 := Lib.hid (part_newP (e := 32) (ho4.more (base' := w3.heap.size) (by simp)) (OwP.nil_ w3 w3.heap.size _) (Nat.le_refl _)); have hcur := Lib.hid ((hcur.out.alloc hcur.out.size _).trans (hbz.mono (by have := hcur.out.size; simp; omega))); have K := Lib.hid ((K.out.alloc _).call hbz); have qK := K.out.q; have lK := K.out.lt; have hs4 := hbz.size; clear ho4 hbz) | ((go_at_call 47); (with_reducible refine (HS1.out _ _ HNB.out).mono ?_); rintro e w3 ⟨v3, rfl, ho3, hbz⟩; obtain ⟨A3, k3, rfl⟩ := isB_slice ho3.isB; have hcur := Lib.hid (hcur.out.trans (hbz.mono hcur.out.size)); have K := Lib.hid (K.out.call hbz); have qK := K.out.q; have lK := K.out.lt; have HI3 := Lib.hid ho3.isB; have HI2 := Lib.hid (HI2.out.below hbz); have hs3 := hcur.out.size; clear ho3 hbz) | (at_builtin; refine wpList_appP _ rfl _ _ 28 rfl w3.heap.size 32 ulBs infoBss _ [] rfl (OwP.nil_ _ _ _) _ (.slice A4 P1.length k4) P1 rfl isR_one (HP4.out.alloc _) ?n1 ?b1 ?_))
        case n1 => simp
        case b1 => simp at hs4 ⊢; omega
        intro v5 w5 ho5 hb5 _
        have ho5' : OwP w5 w3.heap.size 32 v5 [P1] := ho5
        clear ho5
        obtain ⟨A5, k5, hve⟩ := ho5'.slice
        have hve' : v5 = .slice A5 1 k5 := hve
        clear hve
        subst hve'
        have HO5 := Lib.hid ho5'.isBs
        have K := Lib.hid ((K.out.alloc (.cells #[.slice A4 P1.length k4] 32)).below hb5 (by have := HC1.out.size; omega))
        have qK := K.out.q
        have lK := K.out.lt
        have hcur := Lib.hid ((hcur.out.alloc hcur.out.size (.cells #[.slice A4 P1.length k4] 32)).trans (hb5.mono hs3))
        clear ho5' hb5
        go_wp2_with (((go_at_call 48); (with_reducible refine (HEL.out _ _ HO5.out).mono ?_); rintro e w9 ⟨v9, rfl, ho9, hbz⟩; have HO9 := Lib.hid (ho9.more hcur.out.size); have hcur := Lib.hid (hcur.out.trans (hbz.mono hcur.out.size)); clear ho9 hbz))
        go_ret2
        exact ⟨_, rfl, HO9.out, hcur.out⟩
      · have HF2 := Lib.hid (HF.out ht)
        have HT := Lib.hid (show PP = [P1] ++ [strB (tk, ts)] by rw [← HPP.out, if_neg ht])
        rw [HT.out] at HEL
        have hcs : (tk = 0 ∧ ts.toList ≠ []) ∨ tk ≠ 0 := by
          have h := tx0_dec tk ts
          rw [decide_eq_false ht] at h
          by_cases h1 : tk = 0
          · refine .inl ⟨h1, fun h2 => ?_⟩
            simp [h1, h2] at h
          · exact .inr h1
        clear ht HF HT HPP
        generalize strB (tk, ts) = C at *
        go_wp2_with (first | ((go_at_call 46); (with_reducible refine (HO.out _ (HG.out.below hcur.out)).mono ?_); rintro e w2 ⟨v2, rfl, ho2, hbz⟩; obtain ⟨A2, k2, rfl⟩ := isB_slice ho2.isB; have hcur := Lib.hid (hcur.out.trans (hbz.mono hcur.out.size)); have K := Lib.hid (K.out.call hbz); have qK := K.out.q; have lK := K.out.lt; have HI2 := Lib.hid ho2.isB; have HNB := Lib.hid (HNB.out.below hbz); have hs2 := hbz.size; clear ho2 hbz) | ((go_at_call 47); (with_reducible refine (HS2.out _ _ (isBs_two rfl HI2.out HI3.out)).mono ?_); rintro e w4 ⟨v4, rfl, ho4, hbz⟩; obtain ⟨A4, k4, rfl⟩ := isB_slice ho4.isB; have HP4 := Lib.hid (part_newP (e := 32) (ho4.more (base' := w3.heap.size) (by simp)) (OwP.nil_ w3 w3.heap.size _) (Nat.le_refl _)); have hcur := Lib.hid ((hcur.out.alloc hcur.out.size _).trans (hbz.mono (by have := hcur.out.size; simp; omega))); have K := Lib.hid ((K.out.alloc _).call hbz); have qK := K.out.q; have lK := K.out.lt; have hs4 := hbz.size; clear ho4 hbz) | ((go_at_call 47); (with_reducible refine (HS1.out _ _ HNB.out).mono ?_); rintro e w3 ⟨v3, rfl, ho3, hbz⟩; obtain ⟨A3, k3, rfl⟩ := isB_slice ho3.isB; have hcur := Lib.hid (hcur.out.trans (hbz.mono hcur.out.size)); have K := Lib.hid (K.out.call hbz); have qK := K.out.q; have lK := K.out.lt; have HI3 := Lib.hid ho3.isB; have HI2 := Lib.hid (HI2.out.below hbz); have hs3 := hcur.out.size; clear ho3 hbz) | (at_builtin; refine wpList_appP _ rfl _ _ 28 rfl w3.heap.size 32 ulBs infoBss _ [] rfl (OwP.nil_ _ _ _) _ (.slice A4 P1.length k4) P1 rfl isR_one (HP4.out.alloc _) ?n1 ?b1 ?_))
        case n1 => simp
        case b1 => simp at hs4 ⊢; omega
        intro v5 w5 ho5 hb5 _
        have ho5' : OwP w5 w3.heap.size 32 v5 [P1] := ho5
        clear ho5
        obtain ⟨A5, k5, hve⟩ := ho5'.slice
        have hve' : v5 = .slice A5 1 k5 := hve
        clear hve
        subst hve'
        have HO5 := Lib.hid ho5'
        have K := Lib.hid ((K.out.alloc (.cells #[.slice A4 P1.length k4] 32)).below hb5 (by have := HC1.out.size; omega))
        have qK := K.out.q
        have lK := K.out.lt
        have hcur := Lib.hid ((hcur.out.alloc hcur.out.size (.cells #[.slice A4 P1.length k4] 32)).trans (hb5.mono hs3))
        have hs35 : w3.heap.size ≤ w5.heap.size := by have := hb5.size; simp at hs4 this; omega
        clear ho5' hb5
        rcases hcs with ⟨rfl, h2⟩ | h2
        all_goals
          go_wp2_with (first | ((go_at_call 46); (with_reducible refine (HF2.out _ (HG.out.below hcur.out)).mono ?_); rintro e w6 ⟨v6, rfl, ho6, hbz⟩; obtain ⟨A6, k6, rfl⟩ := isB_slice ho6.isB; have HP6 := Lib.hid (part_newP ho6 HO5.out hs35); have HO6 := Lib.hid (HO5.out.below hbz); have hs56 := hbz.size; have hcur := Lib.hid (hcur.out.trans (hbz.mono hcur.out.size)); clear ho6 hbz) | (at_builtin; refine wpList_appP _ rfl _ _ 28 rfl w3.heap.size 32 ulBs infoBss _ [P1] rfl (HO6.out.alloc _) _ (.slice A6 C.length k6) C rfl isR_one (HP6.out.alloc _) ?n3 ?b3 ?_))
          case n3 => simp
          case b3 => simp; omega
          intro v7 w7 ho7 hb7 _
          have ho7' : OwP w7 w3.heap.size 32 v7 ([P1] ++ [C]) := ho7
          clear ho7
          obtain ⟨A7, k7, hve⟩ := ho7'.slice
          have hve' : v7 = .slice A7 2 k7 := hve
          clear hve
          subst hve'
          have HO7 := Lib.hid ho7'.isBs
          have hcur := Lib.hid ((hcur.out.alloc hcur.out.size (.cells #[.slice A6 C.length k6] 32)).trans (hb7.mono hs3))
          clear ho7' hb7
          go_wp2_with (((go_at_call 48); (with_reducible refine (HEL.out _ _ HO7.out).mono ?_); rintro e w9 ⟨v9, rfl, ho9, hbz⟩; have HO9 := Lib.hid (ho9.more hcur.out.size); have hcur := Lib.hid (hcur.out.trans (hbz.mono hcur.out.size)); clear ho9 hbz))
          go_ret2
          exact ⟨_, rfl, HO9.out, hcur.out⟩
theorem noticeMar (v : Value) (n : Ntc) (w : World) (hG : Glo w) (hv : IsN w v n) (hz : SzN n) (hT : (partsN n).flatten.length ≤ 900000) (ho : okN n = true) : Calls Tryz.prog 19 #[v] w (RetOidY (seqL (partsN n)) w) := by
  cases hr : n.ref with
  | false => exact noticeMar_plain v n w hG hv hz hT ho hr
  | true => exact noticeMar_ref v n w hG hv hz hT ho hr
end Go.Proofs.YtjjkimjdmpeddaaGreatDoor
end

/- Walks over the reference's Valid of integers. -/
section
set_option linter.unusedSimpArgs false
set_option linter.unusedVariables false
namespace Go.Proofs.YtjjkimjdmpeddaaGreatDoor
open Go.RowKit Go.Cr
def bitN (l : List UInt8) (i : Nat) : Int := bat l (i / 8) / 2 ^ (7 - i % 8) % 2
def sumN (l : List UInt8) (i : Nat) : Int := ((List.range i).map (bitN l)).sum
theorem sumN_succ (l : List UInt8) (i : Nat) : sumN l (i + 1) = sumN l i + bitN l i := by
  unfold sumN
  rw [List.range_succ, List.map_append, List.sum_append]
  simp
theorem bitN_le (l : List UInt8) (i : Nat) : 0 ≤ bitN l i ∧ bitN l i ≤ 1 := by unfold bitN; omega
theorem sumN_le (l : List UInt8) (i : Nat) : 0 ≤ sumN l i ∧ sumN l i ≤ i := by
  induction i with
  | zero => exact ⟨Int.le_refl 0, Int.le_refl 0⟩
  | succ k ih => have := bitN_le l k; rw [sumN_succ]; omega
theorem sum9 {l : List UInt8} (h : 2 ≤ l.length) : intOK l = (decide (sumN l 9 ≠ 0) && decide (sumN l 9 ≠ 9)) := by
  have p0 := bat_pos l 0
  have q0 := bat_lt l 0
  have p1 := bat_pos l 1
  have q1 := bat_lt l 1
  have e : sumN l 9 = bat l 0 / 128 % 2 + bat l 0 / 64 % 2 + bat l 0 / 32 % 2 + bat l 0 / 16 % 2 + bat l 0 / 8 % 2 + bat l 0 / 4 % 2 + bat l 0 / 2 % 2 + bat l 0 % 2 + bat l 1 / 128 % 2 := by
    simp only [sumN, bitN, List.range_succ, List.range_zero, List.nil_append, List.cons_append, List.map_cons, List.map_nil, List.sum_cons, List.sum_nil, Nat.reduceDiv, Nat.reduceMod, Nat.reduceSub, Int.reducePow, Nat.reducePow]
    omega
  unfold intOK
  rw [if_neg (by omega), e]
  generalize bat l 0 = x at *
  generalize bat l 1 = y at *
  have hy : y / 128 % 2 = y / 128 := by omega
  rw [hy]
  have hq : (128 ≤ y ↔ y / 128 = 1) ∧ (y < 128 ↔ y / 128 = 0) ∧ (y / 128 = 0 ∨ y / 128 = 1) := by omega
  have hx : ((List.range 256).all fun n => (List.range 2).all fun t => (!(decide ((n : Int) = 0) && decide ((t : Int) = 0)) && !(decide ((n : Int) = 255) && decide ((t : Int) = 1))) == (decide ((n : Int) / 128 % 2 + (n : Int) / 64 % 2 + (n : Int) / 32 % 2 + (n : Int) / 16 % 2 + (n : Int) / 8 % 2 + (n : Int) / 4 % 2 + (n : Int) / 2 % 2 + (n : Int) % 2 + (t : Int) ≠ 0) && decide ((n : Int) / 128 % 2 + (n : Int) / 64 % 2 + (n : Int) / 32 % 2 + (n : Int) / 16 % 2 + (n : Int) / 8 % 2 + (n : Int) / 4 % 2 + (n : Int) / 2 % 2 + (n : Int) % 2 + (t : Int) ≠ 9))) = true := by decide +kernel
  have h2 := List.all_eq_true.1 (List.all_eq_true.1 hx x.toNat (by simp; omega)) (y / 128).toNat (by simp; omega)
  rw [Int.toNat_of_nonneg p0, Int.toNat_of_nonneg (by omega)] at h2
  rw [decide_eq_decide.2 hq.1, decide_eq_decide.2 hq.2.1]
  exact eq_of_beq h2
set_option maxRecDepth 100000 in
set_option maxHeartbeats 4000000 in
theorem rBit (v : Value) (l : List UInt8) (w : World) (hv : IsB w v l) (h2 : 2 ≤ l.length) (i : Nat) (hi : i < 9) : Calls Tryz.prog 94 #[v, .int .i64 (i : Int)] w (RetB (.int .i64 (bitN l i)) w) := by
  obtain ⟨b0, o0, hi0, hl0, hc0⟩ := hv.at_ (P := Tryz.prog) ulB szB .i64 (i := 0) (by omega) (by omega)
  obtain ⟨b1, o1, hi1, hl1, hc1⟩ := hv.at_ (P := Tryz.prog) ulB szB .i64 (i := 1) (by omega) (by omega)
  have p0 := bat_pos l 0
  have q0 := bat_lt l 0
  have p1 := bat_pos l 1
  have q1 := bat_lt l 1
  obtain ⟨A, k, rfl⟩ := isB_slice hv
  simp only [Int.toNat_zero, Int.toNat_one] at hc0 hc1
  unfold bitN
  clear hv h2
  rcases (by omega : i = 0 ∨ i = 1 ∨ i = 2 ∨ i = 3 ∨ i = 4 ∨ i = 5 ∨ i = 6 ∨ i = 7 ∨ i = 8) with rfl | rfl | rfl | rfl | rfl | rfl | rfl | rfl | rfl
  all_goals
    simp only [Nat.reduceDiv, Nat.reduceMod, Nat.reduceSub, Int.reducePow]
    generalize bat l 0 = x at *
    generalize bat l 1 = y at *
    go_enter Tryz.func94, Tryz.ntmps94
    go_wp2
  all_goals go_ret
  all_goals exact ⟨by simp, Below.refl _ _⟩
def RivRel (l : List UInt8) (w : World) (s ix : Value) (wr : World) : Prop := ∃ i : Nat, ix = .int .i64 (i : Int) ∧ s = .int .i64 (sumN l i) ∧ i ≤ 9 ∧ Below w.heap.size w wr
set_option maxRecDepth 100000 in
set_option maxHeartbeats 4000000 in
theorem rIntValid (v : Value) (l : List UInt8) (w : World) (hv : IsB w v l) : Calls Tryz.prog 56 #[v] w (RetB (.bool (intOK l)) w) := by
  have hlen := hv.len (P := Tryz.prog) ulB
  by_cases h2 : l.length < 2
  · have hk : intOK l = decide (l.length = 1) := by unfold intOK; rw [if_pos h2]
    rw [hk]
    obtain ⟨A, k, rfl⟩ := isB_slice hv
    clear hv hk
    rcases (by omega : l.length = 0 ∨ l.length = 1) with h | h
    · rw [h] at hlen ⊢
      have e : decide ((0 : Nat) = 1) = false := rfl
      rw [e]
      go_enter Tryz.func56, Tryz.ntmps56
      go_wp2
      go_ret
      exact ⟨rfl, Below.refl _ _⟩
    · rw [h] at hlen ⊢
      have e : decide ((1 : Nat) = 1) = true := rfl
      rw [e]
      go_enter Tryz.func56, Tryz.ntmps56
      go_wp2
      go_ret
      exact ⟨rfl, Below.refl _ _⟩
  · have HB : Hid (∀ (i : Nat) W, i < 9 → IsB W v l → Calls Tryz.prog 94 #[v, .int .i64 (i : Int)] W (RetB (.int .i64 (bitN l i)) W)) := fun i W hi h => rBit v l W h (by omega) i hi
    rw [sum9 (by omega)]
    have HV := Lib.hid hv
    obtain ⟨A, k, rfl⟩ := isB_slice hv
    have h2' : ((l.length : Int) == 0) = false := beq_eq_false_iff_ne.2 (by omega)
    have h3' : ((l.length : Int) == 1) = false := beq_eq_false_iff_ne.2 (by omega)
    clear hv h2
    generalize (l.length : Int) = n at *
    go_enter Tryz.func56, Tryz.ntmps56
    go_wp2_with fail
    go_loopw [3, 4] (fun s ix wr => RivRel l w s ix wr) (fun _ ix _ => 10 - (intOf ix).toNat)
    case atStart => exact ⟨0, rfl, rfl, by omega, Below.refl _ _⟩
    case round =>
      obtain ⟨i, rfl, rfl, hi, hbel⟩ := hrel
      have hS := sumN_le l i
      have HS := Lib.hid (sumN_succ l i)
      have hcur := Lib.hid hbel
      clear hbel
      by_cases hlt : i < 9
      · have hB := bitN_le l i
        generalize sumN l i = S at *
        generalize hb : bitN l i = B at *
        go_wp2_with (((go_at_call 94); (with_reducible refine (HB.out i _ hlt (HV.out.below hcur.out)).mono ?_); rintro e wz ⟨rfl, hbz⟩; have hcur := Lib.hid (hcur.out.trans (hbz.mono hcur.out.size)); clear hbz))
        go_roundw
        case rel => exact ⟨i + 1, by go_num, by rw [HS.out], by omega, hcur.out⟩
        case measure => simp [intOf]; omega
      · obtain rfl : i = 9 := by omega
        generalize sumN l 9 = S at *
        clear hlt hi HS
        go_wp2_with fail
        all_goals go_ret
        all_goals exact ⟨by first | (simp [*]; done) | (cases hs0 : (S == 0) <;> cases hs9 : (S == 9) <;> simp_all), hcur.out⟩
end Go.Proofs.YtjjkimjdmpeddaaGreatDoor
end

/- Walks over the reference's Len, display and ValidNotice. -/
section
set_option linter.unusedSimpArgs false
set_option linter.unusedVariables false
namespace Go.Proofs.YtjjkimjdmpeddaaGreatDoor
open Go.RowKit Go.Cr
set_option maxRecDepth 100000 in
set_option maxHeartbeats 4000000 in
theorem rLen7 (k : Int) (s : ByteArray) (w : World) (hs : s.size ≤ 1000000) : Calls Tryz.prog 95 #[.agg #[.int .i64 k, .string s]] w (RetB (.int .i64 (lenT k s.data.toList : Nat)) w) := by
  have HV := fun W => rValid7 k s W (by omega)
  unfold lenT
  cases hv : validT k s.data.toList with
  | false =>
    have HV' : Hid (∀ W, Calls Tryz.prog 125 #[.agg #[.int .i64 k, .string s]] W (RetB (.bool false) W)) := fun W => by have := HV W; rwa [hv] at this
    clear HV hv hs
    simp only [Bool.false_eq_true, if_false]
    go_enter Tryz.func95, Tryz.ntmps95
    go_wp2_with (((go_at_call 125); (with_reducible refine (HV'.out _).mono ?_); rintro e w1 ⟨rfl, hbw1⟩))
    go_ret
    exact ⟨rfl, by ((repeat' (first | (with_reducible exact Below.refl _ _) | (with_reducible assumption) | (with_reducible refine Below.setCell ?_ ?_ _) | (with_reducible refine Below.alloc ?_ ?_ _) | (with_reducible refine Below.drew ?_) | (with_reducible refine below_drewN ?_ _) | (with_reducible refine Below.step (by with_reducible assumption) ?_ ?_))) <;> (first | omega | (simp; done) | (simp; omega)))⟩
  | true =>
    have HV' : Hid (∀ W, Calls Tryz.prog 125 #[.agg #[.int .i64 k, .string s]] W (RetB (.bool true) W)) := fun W => by have := HV W; rwa [hv] at this
    obtain ⟨_, cs, hp, _⟩ := validT_iff.1 hv
    have HRC : Hid (∀ W, Calls Tryz.prog 126 #[.string s] W (RetPtY cs W)) := fun W => (points_any s W (by omega)).mono fun e w' hh => by rw [hp] at hh; exact hh.yes
    rw [if_pos rfl, hp]
    simp only [Option.getD_some]
    clear HV hv hs hp
    have hcur := Lib.hid ((Below.refl w.heap.size w).alloc (Nat.le_refl _) (.cells #[.int .i64 k, .string s] 27))
    go_enter Tryz.func95, Tryz.ntmps95
    go_wp2_with (first | ((go_at_call 125); (with_reducible refine (HV'.out _).mono ?_); rintro e w1 ⟨rfl, hbw1⟩; have hcur := Lib.hid (hcur.out.trans (hbw1.mono hcur.out.size)); have I1 := Blk.call (Blk.new w 27 #[.int .i64 k, .string s]) hbw1; have q1 := I1.q) | ((go_at_call 126); (with_reducible refine (HRC.out _).mono ?_); rintro e w2 ⟨A2, k2, rfl, hu, hbz⟩; have hlen := hu.len (P := Tryz.prog) ulInts; have hcur := Lib.hid (hcur.out.trans (hbz.mono hcur.out.size)); clear hu hbz))
    go_ret
    exact ⟨rfl, hcur.out⟩
set_option maxRecDepth 100000 in
set_option maxHeartbeats 4000000 in
theorem rDisplay (k : Int) (s : ByteArray) (w : World) (hs : s.size ≤ 1000000) : Calls Tryz.prog 57 #[.agg #[.int .i64 k, .string s]] w (RetB (.bool (dispT k s.data.toList)) w) := by
  have HL : Hid (∀ W, Calls Tryz.prog 95 #[.agg #[.int .i64 k, .string s]] W (RetB (.int .i64 (lenT k s.data.toList : Nat)) W)) := fun W => rLen7 k s W hs
  have hle := lenT_le k s.data.toList
  have hL : s.data.toList.length = s.size := rfl
  have hd : dispT k s.data.toList = (decide (k = 22 ∨ k = 26 ∨ k = 30 ∨ k = 12) && (decide (1 ≤ lenT k s.data.toList) && decide (lenT k s.data.toList ≤ 200))) := rfl
  rw [hd]
  have hnI : ((lenT k s.data.toList : Nat) : Int) ≤ 1000000 := by omega
  clear hs hle hL hd
  generalize lenT k s.data.toList = n at *
  by_cases hk : k = 22 ∨ k = 26 ∨ k = 30 ∨ k = 12
  · rw [decide_eq_true hk, Bool.true_and]
    by_cases h1 : 1 ≤ n
    · by_cases h2 : n ≤ 200
      · rw [decide_eq_true h1, decide_eq_true h2]
        have g1 : (1 : Int) ≤ n := by omega
        have g2 : (n : Int) ≤ 200 := by omega
        clear h1 h2
        rcases hk with rfl | rfl | rfl | rfl
        all_goals
          go_enter Tryz.func57, Tryz.ntmps57
          go_wp2_with (((go_at_call 95); (with_reducible refine (HL.out _).mono ?_); rintro e w1 ⟨rfl, hbw1⟩; have I1 := Blk.call (Blk.new w _ _) hbw1; have q1 := I1.q))
          go_ret
          exact ⟨by first | rfl | simp [*], by ((repeat' (first | (with_reducible exact Below.refl _ _) | (with_reducible assumption) | (with_reducible refine Below.setCell ?_ ?_ _) | (with_reducible refine Below.alloc ?_ ?_ _) | (with_reducible refine Below.drew ?_) | (with_reducible refine below_drewN ?_ _) | (with_reducible refine Below.step (by with_reducible assumption) ?_ ?_))) <;> (first | omega | (simp; done) | (simp; omega)))⟩
      · rw [decide_eq_true h1, decide_eq_false h2]
        have g1 : (1 : Int) ≤ n := by omega
        have g2 : (200 : Int) < n := by omega
        clear h1 h2
        rcases hk with rfl | rfl | rfl | rfl
        all_goals
          go_enter Tryz.func57, Tryz.ntmps57
          go_wp2_with (((go_at_call 95); (with_reducible refine (HL.out _).mono ?_); rintro e w1 ⟨rfl, hbw1⟩; have I1 := Blk.call (Blk.new w _ _) hbw1; have q1 := I1.q))
          go_ret
          exact ⟨by first | rfl | (simp [*]; done) | (simp; omega), by ((repeat' (first | (with_reducible exact Below.refl _ _) | (with_reducible assumption) | (with_reducible refine Below.setCell ?_ ?_ _) | (with_reducible refine Below.alloc ?_ ?_ _) | (with_reducible refine Below.drew ?_) | (with_reducible refine below_drewN ?_ _) | (with_reducible refine Below.step (by with_reducible assumption) ?_ ?_))) <;> (first | omega | (simp; done) | (simp; omega)))⟩
    · rw [decide_eq_false h1, Bool.false_and]
      obtain rfl : n = 0 := by omega
      clear h1
      rcases hk with rfl | rfl | rfl | rfl
      all_goals
        go_enter Tryz.func57, Tryz.ntmps57
        go_wp2_with (((go_at_call 95); (with_reducible refine (HL.out _).mono ?_); rintro e w1 ⟨rfl, hbw1⟩; have I1 := Blk.call (Blk.new w _ _) hbw1; have q1 := I1.q))
        go_ret
        exact ⟨by first | rfl | simp [*], by ((repeat' (first | (with_reducible exact Below.refl _ _) | (with_reducible assumption) | (with_reducible refine Below.setCell ?_ ?_ _) | (with_reducible refine Below.alloc ?_ ?_ _) | (with_reducible refine Below.drew ?_) | (with_reducible refine below_drewN ?_ _) | (with_reducible refine Below.step (by with_reducible assumption) ?_ ?_))) <;> (first | omega | (simp; done) | (simp; omega)))⟩
  · rw [decide_eq_false hk, Bool.false_and]
    have e1 : (k == 22) = false := beq_eq_false_iff_ne.2 (by omega)
    have e2 : (k == 26) = false := beq_eq_false_iff_ne.2 (by omega)
    have e3 : (k == 30) = false := beq_eq_false_iff_ne.2 (by omega)
    have e4 : (k == 12) = false := beq_eq_false_iff_ne.2 (by omega)
    clear hk
    go_enter Tryz.func57, Tryz.ntmps57
    go_wp2_with (((go_at_call 95); (with_reducible refine (HL.out _).mono ?_); rintro e w1 ⟨rfl, hbw1⟩; have I1 := Blk.call (Blk.new w _ _) hbw1; have q1 := I1.q))
    go_ret
    exact ⟨rfl, by ((repeat' (first | (with_reducible exact Below.refl _ _) | (with_reducible assumption) | (with_reducible refine Below.setCell ?_ ?_ _) | (with_reducible refine Below.alloc ?_ ?_ _) | (with_reducible refine Below.drew ?_) | (with_reducible refine below_drewN ?_ _) | (with_reducible refine Below.step (by with_reducible assumption) ?_ ?_))) <;> (first | omega | (simp; done) | (simp; omega)))⟩

def RvnRel (ref : Bool) (ls : List (List UInt8)) (w0 w : World) (ix : Value) (wr : World) : Prop := ∃ i : Nat, ix = .int .i64 (i : Int) ∧ i ≤ ls.length ∧ (∀ j, j < i → ref = true ∧ intOK (ls.getD j default) = true) ∧ Below w.heap.size w wr ∧ Below w0.heap.size w0 wr
set_option maxRecDepth 100000 in
set_option maxHeartbeats 16000000 in
theorem rValidN (v : Value) (n : Ntc) (w : World) (hv : IsN w v n) (hz : SzN n) : Calls Tryz.prog 23 #[v] w (RetB (.bool (okN n)) w) := by
  obtain ⟨u, rfl, hu⟩ := hv
  obtain ⟨ref, ⟨ok, os⟩, nums, ⟨tk, ts⟩⟩ := n
  obtain ⟨z1, z2, z3, z4⟩ := hz
  simp only at hu z1 z2 z3 z4 ⊢
  have hlen := hu.len (P := Tryz.prog) ulBs
  have HD1 : Hid (∀ W, Calls Tryz.prog 57 #[.agg #[.int .i64 tk, .string ts]] W (RetB (.bool (dispT tk ts.data.toList)) W)) := fun W => rDisplay tk ts W (by omega)
  have HD2 : Hid (∀ W, Calls Tryz.prog 57 #[.agg #[.int .i64 ok, .string os]] W (RetB (.bool (dispT ok os.data.toList)) W)) := fun W => rDisplay ok os W (by omega)
  have HI : Hid (∀ (i : Nat) (h : i < nums.length) W x, IsB W x nums[i] → Calls Tryz.prog 56 #[x] W (RetB (.bool (intOK nums[i])) W)) := fun i h W x hx => rIntValid x _ W hx
  have hk : okN ⟨ref, (ok, os), nums, (tk, ts)⟩ = ((decide ((tk, ts) = tx0) || dispT tk ts.data.toList) && (if ref then dispT ok os.data.toList && nums.all intOK else decide ((ok, os) = tx0) && nums.isEmpty)) := rfl
  obtain ⟨R, hR⟩ : ∃ R, okN ⟨ref, (ok, os), nums, (tk, ts)⟩ = R := ⟨_, rfl⟩
  rw [hR]
  rw [hR, tx0_dec ok os] at hk
  have HK := Lib.hid hk
  have HU := Lib.hid hu
  have hnI : (nums.length : Int) ≤ 10000 := by omega
  obtain ⟨A, c, rfl⟩ := isBs_slice hu
  obtain ⟨w1, hw1⟩ : ∃ w1, w.alloc (.cells #[.bool ref, .int .i64 ok, .string os, .slice A nums.length c, .int .i64 tk, .string ts] 30) = w1 := ⟨_, rfl⟩
  have HC1 : Hid (Below w.heap.size w w1) := by rw [← hw1]; exact (Below.refl w.heap.size w).alloc (Nat.le_refl _) _
  have K1 : Hid (Blk w1 w.heap.size 30 #[.bool ref, .int .i64 ok, .string os, .slice A nums.length c, .int .i64 tk, .string ts]) := by rw [← hw1]; exact Blk.new w _ _
  clear hu hk z1 z2 z3 z4 hR
  generalize dispT tk ts.data.toList = D1 at *
  generalize dispT ok os.data.toList = D2 at *
  obtain ⟨E, hE⟩ : ∃ E, decide ((tk, ts) = tx0) = E := ⟨_, rfl⟩
  have hcs := tx_cases tk ts
  rw [hE] at hcs HK
  clear hE
  go_enter Tryz.func23, Tryz.ntmps23
  go_wp2_with fail
  clear hw1
  go_loopw [3] (fun ix wr => RvnRel ref nums w w1 ix wr) (fun ix _ => nums.length + 1 - (intOf ix).toNat)
  case atStart => exact ⟨0, rfl, Nat.zero_le _, fun j h => by omega, Below.refl _ _, HC1.out⟩
  case round =>
    obtain ⟨i, rfl, hi, hall, hbel, hcur⟩ := hrel
    have HALL := Lib.hid hall
    have hcur := Lib.hid hcur
    have K := Lib.hid (K1.out.call hbel)
    have qK := K.out.q
    have lK := K.out.lt
    have HB1 := Lib.hid hbel
    clear hall hbel
    by_cases hlt : i < nums.length
    · obtain ⟨b2, o2, v2, hi2, hl2, hc2, hIB⟩ := (HU.out.below hcur.out).at_ (P := Tryz.prog) ulBs szBs .i64 (i := (i : Int)) (by omega) (by omega)
      rw [Int.toNat_natCast, show nums.getD i [] = nums[i] by simp [hlt]] at hIB
      obtain ⟨A2, k2, rfl⟩ := isB_slice hIB
      have HIB := Lib.hid hIB
      have hltI : (i : Int) < nums.length := by omega
      have HIi := Lib.hid (HI.out i hlt)
      have HGD := Lib.hid (show nums.getD i default = nums[i] by simp [hlt])
      have HM := Lib.hid (List.getElem_mem hlt)
      clear hIB
      generalize nums[i] = x at *
      obtain ⟨C, hC⟩ : ∃ C, intOK x = C := ⟨_, rfl⟩
      rw [hC] at HIi
      have HCC := Lib.hid hC
      clear hC
      have hbad : ref = false ∨ C = false → R = false := fun h => by
        rw [HK.out]
        rcases h with rfl | rfl
        · have : nums.isEmpty = false := by cases nums with
            | nil => simp at hlt
            | cons a t => rfl
          rw [this]
          simp
        · have : nums.all intOK = false := by
            rw [Bool.eq_false_iff]
            intro ha
            have := List.all_eq_true.1 ha x HM.out
            rw [HCC.out] at this
            cases this
          have hn : nums.isEmpty = false := by cases nums with
            | nil => simp at hlt
            | cons a t => rfl
          rw [this, hn]
          cases ref <;> simp
      have HBAD := Lib.hid hbad
      clear hbad
      cases ref
      · have hf := HBAD.out (.inl rfl)
        subst hf
        go_wp2_with fail
        go_ret
        exact ⟨rfl, hcur.out⟩
      · cases C
        · have hf := HBAD.out (.inr rfl)
          subst hf
          go_wp2_with (((go_at_call 56); (with_reducible refine (HIi.out _ _ HIB.out).mono ?_); rintro e wz ⟨rfl, hbz⟩; have hcur := Lib.hid (hcur.out.trans (hbz.mono hcur.out.size)); have K := Lib.hid (K.out.call hbz); have qK := K.out.q; have lK := K.out.lt; clear hbz))
          go_ret
          exact ⟨rfl, hcur.out⟩
        · go_wp2_with (((go_at_call 56); (with_reducible refine (HIi.out _ _ HIB.out).mono ?_); rintro e wz ⟨rfl, hbz⟩; have hb1 := Lib.hid hbz; have hcur := Lib.hid (hcur.out.trans (hbz.mono hcur.out.size)); have K := Lib.hid (K.out.call hbz); have qK := K.out.q; have lK := K.out.lt; clear hbz))
          go_roundw
          case rel =>
            refine ⟨i + 1, by go_num, by omega, fun j hj => ?_, ?_, hcur.out⟩
            · by_cases hji : j < i
              · exact ⟨rfl, (HALL.out j hji).2⟩
              · obtain rfl : j = i := by omega
                rw [HGD.out]
                exact ⟨rfl, HCC.out⟩
            · exact HB1.out.trans (hb1.out.mono HB1.out.size)
          case measure => simp [intOf]; omega
    · have hge : (nums.length : Int) ≤ i := by omega
      have he : i = nums.length := by omega
      have hnum : (if ref then D2 && nums.all intOK else (decide (ok = 0) && decide (os.toList = [])) && nums.isEmpty) = (if ref then D2 else decide (ok = 0) && decide (os.toList = [])) := by
        cases ref with
        | true =>
          have : nums.all intOK = true := (all_getD intOK nums).1 (fun j hj => (HALL.out j (by omega)).2)
          rw [this]; simp
        | false =>
          have : nums.isEmpty = true := by
            cases hn : nums with
            | nil => rfl
            | cons a t => have := (HALL.out 0 (by rw [he, hn]; simp)).1; cases this
          rw [this]; simp
      have hk := HK.out
      rw [hnum] at hk
      subst hk
      clear hnum hlt hi HI HK he
      cases ref <;> cases D1 <;> rcases hcs with ⟨rfl, h2, rfl⟩ | ⟨rfl, h2, rfl⟩ | ⟨h2, rfl⟩
      all_goals
        go_wp2_with (first | ((go_at_call 57); (with_reducible refine (HD1.out _).mono ?_); rintro e wz ⟨rfl, hbz⟩; have hcur := Lib.hid (hcur.out.trans (hbz.mono hcur.out.size)); have K := Lib.hid (K.out.call hbz); have qK := K.out.q; have lK := K.out.lt; clear hbz) | ((go_at_call 57); (with_reducible refine (HD2.out _).mono ?_); rintro e wz ⟨rfl, hbz⟩; have hcur := Lib.hid (hcur.out.trans (hbz.mono hcur.out.size)); have K := Lib.hid (K.out.call hbz); have qK := K.out.q; have lK := K.out.lt; clear hbz))
      all_goals go_ret
      all_goals exact ⟨by simp [*], hcur.out⟩
end Go.Proofs.YtjjkimjdmpeddaaGreatDoor
end

/- Walks over the reference's MarshalNotice. -/
section
set_option linter.unusedSimpArgs false
set_option linter.unusedVariables false
namespace Go.Proofs.YtjjkimjdmpeddaaGreatDoor
open Go.RowKit Go.Cr
theorem ntc_kind {n : Ntc} (ho : okN n = true) (h : n.text ≠ tx0) : n.text.1 ≠ 0 := by
  unfold okN at ho
  rw [Bool.and_eq_true, Bool.or_eq_true] at ho
  have h1 : dispX n.text = true := ho.1.resolve_left fun e => h (of_decide_eq_true e)
  have := (dispT_kind h1).1
  omega
set_option maxRecDepth 100000 in
set_option maxHeartbeats 4000000 in
theorem rFromS_own (t : Tx) (w : World) (hs : t.2.size ≤ 100000) (hd : dispX t = true) : Calls Tryz.prog 50 #[.agg #[.int .i64 t.1, .string t.2]] w (RetOidY (strB t) w) := by
  obtain ⟨k, s⟩ := t
  simp only at hs ⊢
  have HE := fun W => rEncode7 k s W hs
  obtain ⟨y, hy⟩ := dispT_len hd
  have e : strB (k, s) = y := by unfold strB; rw [hy]; rfl
  rw [e]
  have hy' : strE k s.data.toList = some y := hy
  unfold strE at hy'
  cases he : encT k s.data.toList with
  | none => rw [he] at hy'; cases hy'
  | some c =>
    have HE' : Hid (∀ W, Calls Tryz.prog 91 #[.agg #[.int .i64 k, .string s]] W (RetEeY c W)) := fun W => by have := HE W; rw [he] at this; exact this
    have hr := widthK_range (validT_iff.1 (encT_valid he)).1
    have hcl := encT_len he
    have hsl : s.data.toList.length = s.size := rfl
    have hidb : idB 0 false k = UInt8.ofNat k.toNat := by unfold idB; congr 1; simp
    have hbk : bi (UInt8.ofNat k.toNat) = k := by rw [bi_ofNat]; omega
    rw [he] at hy'
    have hyc : encO 0 false k c = y := Option.some.inj hy'
    have HP : Hid (∀ W u, IsB W u c → Calls Tryz.prog 49 #[.int .u8 k, u] W (RetO 5 y W)) := fun W u h => by
      have := rPut (UInt8.ofNat k.toNat) u c W h (by omega)
      rw [hbk] at this
      rw [← hyc]
      unfold encO
      rw [hidb]
      exact this
    have hk0 : 12 ≤ k := hr.1
    have hk1 : k ≤ 30 := hr.2
    clear HE hs he hr hcl hsl hidb hbk hd hy hy' e hyc
    go_enter Tryz.func50, Tryz.ntmps50
    go_wp2_with (first | ((go_at_call 91); (with_reducible refine (HE'.out _).mono ?_); rintro e w1 ⟨A1, k1, rfl, hv1, hbw1⟩; have K0 := Blk.call (Blk.new w 27 #[.int .i64 k, .string s]) hbw1; have lK0 := K0.lt; have qK0 := K0.q; have rK0 := K0.fz; have K0' := Lib.hid K0; clear K0; have K0 := K0'.out; clear K0'; have HV1 := Lib.hid hv1; clear hv1) | ((go_at_call 49); (with_reducible refine (HP.out _ _ HV1.out).mono ?_); rintro e w3 ⟨v3, rfl, ho3, hbw3⟩; obtain ⟨A3, k3, rfl⟩ := isB_slice ho3.isB; have HO3 := Lib.hid ho3; clear ho3))
    go_ret2
    have s1 := hbw1.size; have s3 := hbw3.size
    simp at s1 s3
    have b1 : Below w.heap.size w w1 := ((Below.refl _ w).alloc (Nat.le_refl _) _).trans (hbw1.mono (by simp))
    exact ⟨_, rfl, HO3.out.more (by omega), b1.trans (hbw3.mono (by omega))⟩
set_option maxRecDepth 100000 in
set_option maxHeartbeats 4000000 in
theorem rNoticeMar_no (v : Value) (n : Ntc) (w : World) (hv : IsN w v n) (hz : SzN n) (ho : okN n = false) : Calls Tryz.prog 20 #[v] w (RetB (.tuple #[.slice none 0 0, .int .i64 8]) w) := by
  have HV0 : Hid (∀ W, IsN W v n → Calls Tryz.prog 23 #[v] W (RetB (.bool false) W)) := fun W h => by have := rValidN v n W h hz; rw [ho] at this; exact this
  have HN := Lib.hid hv
  obtain ⟨u, rfl, hu⟩ := hv
  obtain ⟨ref, ⟨ok, os⟩, nums, ⟨tk, ts⟩⟩ := n
  simp only at hu HV0 HN ⊢
  obtain ⟨A, c, rfl⟩ := isBs_slice hu
  clear hu hz ho
  go_enter Tryz.func20, Tryz.ntmps20
  go_wp2_with (((go_at_call 23); (with_reducible refine (HV0.out _ (HN.out.alloc _)).mono ?_); rintro e w1 ⟨rfl, hbw1⟩))
  go_ret2
  exact ⟨rfl, by ((repeat' (first | (with_reducible exact Below.refl _ _) | (with_reducible assumption) | (with_reducible refine Below.setCell ?_ ?_ _) | (with_reducible refine Below.alloc ?_ ?_ _) | (with_reducible refine Below.drew ?_) | (with_reducible refine below_drewN ?_ _) | (with_reducible refine Below.step (by with_reducible assumption) ?_ ?_))) <;> (first | omega | (simp; done) | (simp; omega)))⟩
set_option maxRecDepth 100000 in
set_option maxHeartbeats 16000000 in
theorem rNoticeMar_plain (v : Value) (n : Ntc) (w : World) (hv : IsN w v n) (hz : SzN n) (hT : (partsN n).flatten.length ≤ 900000) (ho : okN n = true) (hr : n.ref = false) : Calls Tryz.prog 20 #[v] w (RetOidY (seqL (partsN n)) w) := by
  have HV0 : Hid (∀ W, IsN W v n → Calls Tryz.prog 23 #[v] W (RetB (.bool true) W)) := fun W h => by have := rValidN v n W h hz; rw [ho] at this; exact this
  have HEL : Hid (∀ u W, IsBs W u (partsN n) → Calls Tryz.prog 51 #[.int .u8 48, u] W (RetO 5 (seqL (partsN n)) W)) := fun u W h => rPutSeq u _ W h hT
  have HF : Hid (n.text ≠ tx0 → ∀ W, Calls Tryz.prog 50 #[.agg #[.int .i64 n.text.1, .string n.text.2]] W (RetOidY (strB n.text) W)) := fun hne W => rFromS_own n.text W hz.2.1 (by
    unfold okN at ho
    rw [Bool.and_eq_true, Bool.or_eq_true] at ho
    rcases ho.1 with h | h
    · exact absurd (of_decide_eq_true h) hne
    · exact h)
  have hp : partsN n = if n.text = tx0 then [] else [strB n.text] := by unfold partsN; rw [hr]; rfl
  rw [hp] at HEL ⊢
  have HD0 := Lib.hid (fun h : n.text ≠ tx0 => ntc_kind ho h)
  have HN := Lib.hid hv
  obtain ⟨u, rfl, hu⟩ := hv
  obtain ⟨ref, ⟨ok, os⟩, nums, ⟨tk, ts⟩⟩ := n
  simp only at hu HV0 HN hr HF HD0 HEL ⊢
  subst hr
  obtain ⟨A, c, rfl⟩ := isBs_slice hu
  have hcs := HD0
  have hcur := Lib.hid ((Below.refl w.heap.size w).alloc (Nat.le_refl _) (.cells #[.bool false, .int .i64 ok, .string os, .slice A nums.length c, .int .i64 tk, .string ts] 30))
  have K := Lib.hid (Blk.new w 30 #[.bool false, .int .i64 ok, .string os, .slice A nums.length c, .int .i64 tk, .string ts])
  clear hu hz ho hT hp
  by_cases ht : (tk, ts) = tx0
  · have HT := Lib.hid (show (if (tk, ts) = tx0 then [] else [strB (tk, ts)]) = [] from if_pos ht)
    rw [HT.out] at HEL ⊢
    obtain ⟨R, hR⟩ : ∃ R, seqL [] = R := ⟨_, rfl⟩
    rw [hR] at HEL ⊢
    have h2 : tk = 0 ∧ ts.toList = [] := by
      have := tx0_dec tk ts
      rw [decide_eq_true ht] at this
      simpa using this.symm
    obtain ⟨rfl, h2⟩ := h2
    clear hcs ht hR HF
    go_enter Tryz.func20, Tryz.ntmps20
    go_wp2_with (first | ((go_at_call 23); (with_reducible refine (HV0.out _ (HN.out.below hcur.out)).mono ?_); rintro e wz ⟨rfl, hbz⟩; have hcur := Lib.hid (hcur.out.trans (hbz.mono hcur.out.size)); have K := Lib.hid (K.out.call hbz); have qK := K.out.q; have lK := K.out.lt; clear hbz) | ((go_at_call 51); (with_reducible refine (HEL.out _ _ (IsBs.nil_ _)).mono ?_); rintro e w9 ⟨v9, rfl, ho9, hbz⟩; have HO9 := Lib.hid (ho9.more hcur.out.size); have hcur := Lib.hid (hcur.out.trans (hbz.mono hcur.out.size)); clear ho9 hbz))
    go_ret2
    exact ⟨_, rfl, HO9.out, hcur.out⟩
  · have HF2 := Lib.hid (HF.out ht)
    have HT := Lib.hid (show (if (tk, ts) = tx0 then [] else [strB (tk, ts)]) = [strB (tk, ts)] from if_neg ht)
    rw [HT.out] at HEL ⊢
    obtain ⟨R, hR⟩ : ∃ R, seqL [strB (tk, ts)] = R := ⟨_, rfl⟩
    rw [hR] at HEL ⊢
    have hcs : tk ≠ 0 := HD0.out ht
    clear ht hR HF HT
    generalize strB (tk, ts) = C at *
    have h2 := hcs
    all_goals
      go_enter Tryz.func20, Tryz.ntmps20
      go_wp2_with (first | ((go_at_call 23); (with_reducible refine (HV0.out _ (HN.out.below hcur.out)).mono ?_); rintro e w1 ⟨rfl, hbz⟩; have hcur := Lib.hid (hcur.out.trans (hbz.mono hcur.out.size)); have K := Lib.hid (K.out.call hbz); have qK := K.out.q; have lK := K.out.lt; clear hbz) | ((go_at_call 50); (with_reducible refine (HF2.out _).mono ?_); rintro e w2 ⟨v2, rfl, ho2, hbz⟩; obtain ⟨A2, k2, rfl⟩ := isB_slice ho2.isB; have HP2 := Lib.hid (part_newP (e := 32) ho2 (OwP.nil_ w1 w1.heap.size _) (Nat.le_refl _)); have hs12 := hbz.size; have hs1 := hcur.out.size; have hcur := Lib.hid (hcur.out.trans (hbz.mono hcur.out.size)); clear ho2 hbz) | (at_builtin; refine wpList_appP _ rfl _ _ 28 rfl w1.heap.size 32 ulBs infoBss _ [] rfl (OwP.nil_ _ _ _) _ (.slice A2 C.length k2) C rfl isR_one (HP2.out.alloc _) ?n1 ?b1 ?_))
      case n1 => simp
      case b1 => simp; omega
      intro v3 w3 ho3 hb3 _
      have ho3' : OwP w3 w1.heap.size 32 v3 [C] := ho3
      clear ho3
      obtain ⟨A3, k3, hve⟩ := ho3'.slice
      have hve' : v3 = .slice A3 1 k3 := hve
      clear hve
      subst hve'
      have HO3 := Lib.hid ho3'.isBs
      have hcur := Lib.hid ((hcur.out.alloc hcur.out.size (.cells #[.slice A2 C.length k2] 32)).trans (hb3.mono hs1))
      clear ho3' hb3
      go_wp2_with (((go_at_call 51); (with_reducible refine (HEL.out _ _ HO3.out).mono ?_); rintro e w9 ⟨v9, rfl, ho9, hbz⟩; have HO9 := Lib.hid (ho9.more hcur.out.size); have hcur := Lib.hid (hcur.out.trans (hbz.mono hcur.out.size)); clear ho9 hbz))
      go_ret2
      exact ⟨_, rfl, HO9.out, hcur.out⟩
set_option maxRecDepth 100000 in
set_option maxHeartbeats 32000000 in
theorem rNoticeMar_ref (v : Value) (n : Ntc) (w : World) (hv : IsN w v n) (hz : SzN n) (hT : (partsN n).flatten.length ≤ 900000) (ho : okN n = true) (hr : n.ref = true) : Calls Tryz.prog 20 #[v] w (RetOidY (seqL (partsN n)) w) := by
  have HV0 : Hid (∀ W, IsN W v n → Calls Tryz.prog 23 #[v] W (RetB (.bool true) W)) := fun W h => by have := rValidN v n W h hz; rw [ho] at this; exact this
  have HEL : Hid (∀ u W, IsBs W u (partsN n) → Calls Tryz.prog 51 #[.int .u8 48, u] W (RetO 5 (seqL (partsN n)) W)) := fun u W h => rPutSeq u _ W h hT
  have hok : (n.text = tx0 ∨ dispX n.text = true) ∧ dispX n.org = true := by
    unfold okN at ho
    rw [hr, if_pos rfl, Bool.and_eq_true, Bool.or_eq_true, Bool.and_eq_true] at ho
    exact ⟨ho.1.imp of_decide_eq_true id, ho.2.1⟩
  have HF : Hid (n.text ≠ tx0 → ∀ W, Calls Tryz.prog 50 #[.agg #[.int .i64 n.text.1, .string n.text.2]] W (RetOidY (strB n.text) W)) := fun hne W => rFromS_own n.text W hz.2.1 (hok.1.resolve_left hne)
  have HO : Hid (∀ W, Calls Tryz.prog 50 #[.agg #[.int .i64 n.org.1, .string n.org.2]] W (RetOidY (strB n.org) W)) := fun W => rFromS_own n.org W hz.1 hok.2
  have hp : partsN n = [seqL [strB n.org, seqL (n.nums.map intB)]] ++ (if n.text = tx0 then [] else [strB n.text]) := by unfold partsN; rw [hr]; rfl
  have hl1 : (seqL [strB n.org, seqL (n.nums.map intB)]).length ≤ 900000 := by
    rw [hp] at hT
    simp only [List.flatten_append, List.length_append, List.flatten_cons, List.flatten_nil, List.length_nil] at hT
    omega
  have hl2 := seqL_len [strB n.org, seqL (n.nums.map intB)]
  have hl3 := seqL_len (n.nums.map intB)
  have hl4 : (seqL (n.nums.map intB)).length ≤ [strB n.org, seqL (n.nums.map intB)].flatten.length := by simp
  have HS1 : Hid (∀ u W, IsBs W u (n.nums.map intB) → Calls Tryz.prog 51 #[.int .u8 48, u] W (RetO 5 (seqL (n.nums.map intB)) W)) := fun u W h => rPutSeq u _ W h (by omega)
  have HS2 : Hid (∀ u W, IsBs W u [strB n.org, seqL (n.nums.map intB)] → Calls Tryz.prog 51 #[.int .u8 48, u] W (RetO 5 (seqL [strB n.org, seqL (n.nums.map intB)]) W)) := fun u W h => rPutSeq u _ W h (by omega)
  have HW : Hid (∀ x ∈ n.nums, ∀ u W, IsB W u x → Calls Tryz.prog 49 #[.int .u8 2, u] W (RetO 5 (intB x) W)) := fun x hx u W h => by
    have h1 := flat_part intB hx
    have h2 : x.length ≤ (intB x).length := by unfold intB; rw [encO_len]; omega
    have := rPut 2 u x W h (by omega)
    have e : (2 :: (lenOct x.length ++ x)) = intB x := by unfold intB encO; rfl
    rwa [e] at this
  rw [hp] at HEL ⊢
  have HD0 := Lib.hid (fun h : n.text ≠ tx0 => ntc_kind ho h)
  have HN := Lib.hid hv
  obtain ⟨u, rfl, hu⟩ := hv
  obtain ⟨ref, ⟨ok, os⟩, nums, ⟨tk, ts⟩⟩ := n
  simp only at hu HV0 HN hr HF HD0 HEL HO HS1 HS2 HW ⊢
  subst hr
  have hlen := hu.len (P := Tryz.prog) ulBs
  have hnn : nums.length ≤ 10000 := hz.2.2.1
  have hnI : (nums.length : Int) ≤ 10000 := by omega
  have HU := Lib.hid hu
  obtain ⟨A, c, rfl⟩ := isBs_slice hu
  have hcur0 := Lib.hid ((Below.refl w.heap.size w).alloc (Nat.le_refl _) (.cells #[.bool true, .int .i64 ok, .string os, .slice A nums.length c, .int .i64 tk, .string ts] 30))
  have K0 := Lib.hid (Blk.new w 30 #[.bool true, .int .i64 ok, .string os, .slice A nums.length c, .int .i64 tk, .string ts])
  clear hu hz ho hT hp hok hl1 hl2 hl3 hl4
  generalize hSN : seqL (nums.map intB) = SN at *
  generalize hSO : strB (ok, os) = SO at *
  generalize hP1 : seqL [SO, SN] = P1 at *
  clear hSN hSO hP1
  obtain ⟨PP, hPP⟩ : ∃ PP, [P1] ++ (if (tk, ts) = tx0 then [] else [strB (tk, ts)]) = PP := ⟨_, rfl⟩
  rw [hPP] at HEL ⊢
  have HPP := Lib.hid hPP
  obtain ⟨R, hR⟩ : ∃ R, seqL PP = R := ⟨_, rfl⟩
  rw [hR] at HEL ⊢
  clear hPP hR
  go_enter Tryz.func20, Tryz.ntmps20
  go_wp2_with (((go_at_call 23); (with_reducible refine (HV0.out _ (HN.out.below hcur0.out)).mono ?_); rintro e w1 ⟨rfl, hbz⟩; have hcur := Lib.hid (hcur0.out.trans (hbz.mono hcur0.out.size)); have K := Lib.hid (K0.out.call hbz); have qK := K.out.q; have lK := K.out.lt; clear hbz))
  have HC1 := hcur
  have K1 := K
  clear qK lK K hcur hcur0 K0
  go_loopw [5, 6] (fun out ix wr => NmRel nums w1 out ix wr) (fun _ ix _ => nums.length + 1 - (intOf ix).toNat)
  case atStart => exact ⟨0, rfl, Nat.zero_le _, OwP.nil_ _ _ _, Below.refl _ _⟩
  case round =>
    obtain ⟨i, rfl, hi, how, hbel⟩ := hrel
    have HOW := Lib.hid how
    have HBR := Lib.hid hbel
    have hcur := Lib.hid (HC1.out.trans (hbel.mono HC1.out.size))
    have K := Lib.hid (K1.out.call hbel)
    have qK := K.out.q
    have lK := K.out.lt
    clear how
    by_cases hlt : i < nums.length
    · obtain ⟨b2, o2, v2, hi2, hl2, hc2, hIB⟩ := (HU.out.below hcur.out).at_ (P := Tryz.prog) ulBs szBs .i64 (i := (i : Int)) (by omega) (by omega)
      rw [Int.toNat_natCast, show nums.getD i [] = nums[i] by simp [hlt]] at hIB
      obtain ⟨A2, k2, rfl⟩ := isB_slice hIB
      have HI := Lib.hid hIB
      have hltI : (i : Int) < nums.length := by omega
      have HWi := Lib.hid (HW.out _ (List.getElem_mem hlt))
      have HTK := Lib.hid (show (nums.take (i + 1)).map intB = (nums.take i).map intB ++ [intB nums[i]] by rw [List.take_succ_eq_append_getElem hlt, List.map_append]; rfl)
      have hll : ((nums.take i).map intB).length ≤ 10000 := by rw [List.length_map, List.length_take]; omega
      have HLL := Lib.hid hll
      have hszr : w1.heap.size ≤ wr.heap.size := hbel.size
      clear hIB hll hbel
      generalize nums[i] = x at *
      generalize intB x = pl at *
      generalize hLg : (nums.take i).map intB = LL at *
      go_wp2_with (first | ((go_at_call 49); (with_reducible refine (HWi.out _ _ HI.out).mono ?_); rintro e wd ⟨vd, rfl, hod, hbwd⟩; obtain ⟨Ad, kd, rfl⟩ := isB_slice hod.isB; have HPD := Lib.hid (part_newP hod HOW.out hszr); have HAD := Lib.hid (HOW.out.below hbwd); have HWD := Lib.hid (HBR.out.trans (hbwd.mono hszr)); clear hod hbwd) | (at_builtin; refine wpList_appP _ rfl _ _ 28 rfl w1.heap.size 32 ulBs infoBss _ LL rfl (HAD.out.alloc _) _ (.slice Ad pl.length kd) pl rfl isR_one (HPD.out.alloc _) ?n2 ?b2 ?_))
      case n2 => have := HLL.out; omega
      case b2 => have := HWD.out.size; simp; omega
      intro v6 w6 ho6 hb6 _
      have HO6 := Lib.hid ho6
      have HB6 := Lib.hid ((HWD.out.alloc HWD.out.size (.cells #[.slice Ad pl.length kd] 32)).trans hb6)
      clear ho6 hb6
      go_wp2
      go_roundw
      case rel => exact ⟨i + 1, by go_num, by omega, by rw [HTK.out]; exact HO6.out, HB6.out⟩
      case measure => simp [intOf]; omega
    · have hie : i = nums.length := by omega
      have how := HOW.out
      rw [hie, List.take_length] at how
      have HNB := Lib.hid how.isBs
      have hge : (nums.length : Int) ≤ i := by omega
      obtain ⟨Ao, ko, hoe⟩ := how.slice
      rw [List.length_map] at hoe
      subst hoe
      clear how hie hlt hi hbel
      obtain ⟨wm, rfl⟩ : ∃ x, x = wr := ⟨_, rfl⟩
      have hsm := hcur.out.size
      by_cases ht : (tk, ts) = tx0
      · have HT := Lib.hid (show PP = [P1] by rw [← HPP.out, if_pos ht, List.append_nil])
        rw [HT.out] at HEL
        have h2 : tk = 0 ∧ ts.toList = [] := by
          have := tx0_dec tk ts
          rw [decide_eq_true ht] at this
          simpa using this.symm
        obtain ⟨rfl, h2⟩ := h2
        clear ht HF HT HPP
        go_wp2_with (first | ((go_at_call 50); (with_reducible refine (HO.out _).mono ?_); rintro e w2 ⟨v2, rfl, ho2, hbz⟩; obtain ⟨A2, k2, rfl⟩ := isB_slice ho2.isB; have hcur := Lib.hid (hcur.out.trans (hbz.mono hcur.out.size)); have K := Lib.hid (K.out.call hbz); have qK := K.out.q; have lK := K.out.lt; have HI2 := Lib.hid ho2.isB; have HNB := Lib.hid (HNB.out.below hbz); have hs2 := hbz.size; clear ho2 hbz) | ((go_at_call 51); (with_reducible refine (HS2.out _ _ (isBs_two rfl HI2.out HI3.out)).mono ?_); rintro e w4 ⟨v4, rfl, ho4, hbz⟩; obtain ⟨A4, k4, rfl⟩ := isB_slice ho4.isB; have HP4 := Lib.hid (part_newP (e := 32) (ho4.more (base' := w3.heap.size) (by simp)) (OwP.nil_ w3 w3.heap.size _) (Nat.le_refl _)); have hcur := Lib.hid ((hcur.out.alloc hcur.out.size _).trans (hbz.mono (by have := hcur.out.size; simp; omega))); have K := Lib.hid ((K.out.alloc _).call hbz); have qK := K.out.q; have lK := K.out.lt; have hs4 := hbz.size; clear ho4 hbz) | ((go_at_call 51); (with_reducible refine (HS1.out _ _ HNB.out).mono ?_); rintro e w3 ⟨v3, rfl, ho3, hbz⟩; obtain ⟨A3, k3, rfl⟩ := isB_slice ho3.isB; have hcur := Lib.hid (hcur.out.trans (hbz.mono hcur.out.size)); have K := Lib.hid (K.out.call hbz); have qK := K.out.q; have lK := K.out.lt; have HI3 := Lib.hid ho3.isB; have HI2 := Lib.hid (HI2.out.below hbz); have hs3 := hcur.out.size; clear ho3 hbz) | (at_builtin; refine wpList_appP _ rfl _ _ 28 rfl w3.heap.size 32 ulBs infoBss _ [] rfl (OwP.nil_ _ _ _) _ (.slice A4 P1.length k4) P1 rfl isR_one (HP4.out.alloc _) ?n1 ?b1 ?_))
        case n1 => simp
        case b1 => simp at hs4 ⊢; omega
        intro v5 w5 ho5 hb5 _
        have ho5' : OwP w5 w3.heap.size 32 v5 [P1] := ho5
        clear ho5
        obtain ⟨A5, k5, hve⟩ := ho5'.slice
        have hve' : v5 = .slice A5 1 k5 := hve
        clear hve
        subst hve'
        have HO5 := Lib.hid ho5'.isBs
        have K := Lib.hid ((K.out.alloc (.cells #[.slice A4 P1.length k4] 32)).below hb5 (by have := HC1.out.size; omega))
        have qK := K.out.q
        have lK := K.out.lt
        have hcur := Lib.hid ((hcur.out.alloc hcur.out.size (.cells #[.slice A4 P1.length k4] 32)).trans (hb5.mono hs3))
        clear ho5' hb5
        go_wp2_with (((go_at_call 51); (with_reducible refine (HEL.out _ _ HO5.out).mono ?_); rintro e w9 ⟨v9, rfl, ho9, hbz⟩; have HO9 := Lib.hid (ho9.more hcur.out.size); have hcur := Lib.hid (hcur.out.trans (hbz.mono hcur.out.size)); clear ho9 hbz))
        go_ret2
        exact ⟨_, rfl, HO9.out, hcur.out⟩
      · have HF2 := Lib.hid (HF.out ht)
        have HT := Lib.hid (show PP = [P1] ++ [strB (tk, ts)] by rw [← HPP.out, if_neg ht])
        rw [HT.out] at HEL
        have hcs : tk ≠ 0 := HD0.out ht
        clear ht HF HT HPP
        generalize strB (tk, ts) = C at *
        go_wp2_with (first | ((go_at_call 50); (with_reducible refine (HO.out _).mono ?_); rintro e w2 ⟨v2, rfl, ho2, hbz⟩; obtain ⟨A2, k2, rfl⟩ := isB_slice ho2.isB; have hcur := Lib.hid (hcur.out.trans (hbz.mono hcur.out.size)); have K := Lib.hid (K.out.call hbz); have qK := K.out.q; have lK := K.out.lt; have HI2 := Lib.hid ho2.isB; have HNB := Lib.hid (HNB.out.below hbz); have hs2 := hbz.size; clear ho2 hbz) | ((go_at_call 51); (with_reducible refine (HS2.out _ _ (isBs_two rfl HI2.out HI3.out)).mono ?_); rintro e w4 ⟨v4, rfl, ho4, hbz⟩; obtain ⟨A4, k4, rfl⟩ := isB_slice ho4.isB; have HP4 := Lib.hid (part_newP (e := 32) (ho4.more (base' := w3.heap.size) (by simp)) (OwP.nil_ w3 w3.heap.size _) (Nat.le_refl _)); have hcur := Lib.hid ((hcur.out.alloc hcur.out.size _).trans (hbz.mono (by have := hcur.out.size; simp; omega))); have K := Lib.hid ((K.out.alloc _).call hbz); have qK := K.out.q; have lK := K.out.lt; have hs4 := hbz.size; clear ho4 hbz) | ((go_at_call 51); (with_reducible refine (HS1.out _ _ HNB.out).mono ?_); rintro e w3 ⟨v3, rfl, ho3, hbz⟩; obtain ⟨A3, k3, rfl⟩ := isB_slice ho3.isB; have hcur := Lib.hid (hcur.out.trans (hbz.mono hcur.out.size)); have K := Lib.hid (K.out.call hbz); have qK := K.out.q; have lK := K.out.lt; have HI3 := Lib.hid ho3.isB; have HI2 := Lib.hid (HI2.out.below hbz); have hs3 := hcur.out.size; clear ho3 hbz) | (at_builtin; refine wpList_appP _ rfl _ _ 28 rfl w3.heap.size 32 ulBs infoBss _ [] rfl (OwP.nil_ _ _ _) _ (.slice A4 P1.length k4) P1 rfl isR_one (HP4.out.alloc _) ?n1 ?b1 ?_))
        case n1 => simp
        case b1 => simp at hs4 ⊢; omega
        intro v5 w5 ho5 hb5 _
        have ho5' : OwP w5 w3.heap.size 32 v5 [P1] := ho5
        clear ho5
        obtain ⟨A5, k5, hve⟩ := ho5'.slice
        have hve' : v5 = .slice A5 1 k5 := hve
        clear hve
        subst hve'
        have HO5 := Lib.hid ho5'
        have K := Lib.hid ((K.out.alloc (.cells #[.slice A4 P1.length k4] 32)).below hb5 (by have := HC1.out.size; omega))
        have qK := K.out.q
        have lK := K.out.lt
        have hcur := Lib.hid ((hcur.out.alloc hcur.out.size (.cells #[.slice A4 P1.length k4] 32)).trans (hb5.mono hs3))
        have hs35 : w3.heap.size ≤ w5.heap.size := by have := hb5.size; simp at hs4 this; omega
        clear ho5' hb5
        have h2 := hcs
        all_goals
          go_wp2_with (first | ((go_at_call 50); (with_reducible refine (HF2.out _).mono ?_); rintro e w6 ⟨v6, rfl, ho6, hbz⟩; obtain ⟨A6, k6, rfl⟩ := isB_slice ho6.isB; have HP6 := Lib.hid (part_newP ho6 HO5.out hs35); have HO6 := Lib.hid (HO5.out.below hbz); have hs56 := hbz.size; have hcur := Lib.hid (hcur.out.trans (hbz.mono hcur.out.size)); clear ho6 hbz) | (at_builtin; refine wpList_appP _ rfl _ _ 28 rfl w3.heap.size 32 ulBs infoBss _ [P1] rfl (HO6.out.alloc _) _ (.slice A6 C.length k6) C rfl isR_one (HP6.out.alloc _) ?n3 ?b3 ?_))
          case n3 => simp
          case b3 => simp; omega
          intro v7 w7 ho7 hb7 _
          have ho7' : OwP w7 w3.heap.size 32 v7 ([P1] ++ [C]) := ho7
          clear ho7
          obtain ⟨A7, k7, hve⟩ := ho7'.slice
          have hve' : v7 = .slice A7 2 k7 := hve
          clear hve
          subst hve'
          have HO7 := Lib.hid ho7'.isBs
          have hcur := Lib.hid ((hcur.out.alloc hcur.out.size (.cells #[.slice A6 C.length k6] 32)).trans (hb7.mono hs3))
          clear ho7' hb7
          go_wp2_with (((go_at_call 51); (with_reducible refine (HEL.out _ _ HO7.out).mono ?_); rintro e w9 ⟨v9, rfl, ho9, hbz⟩; have HO9 := Lib.hid (ho9.more hcur.out.size); have hcur := Lib.hid (hcur.out.trans (hbz.mono hcur.out.size)); clear ho9 hbz))
          go_ret2
          exact ⟨_, rfl, HO9.out, hcur.out⟩
theorem rNoticeMar (v : Value) (n : Ntc) (w : World) (hv : IsN w v n) (hz : SzN n) (hT : (partsN n).flatten.length ≤ 900000) (ho : okN n = true) : Calls Tryz.prog 20 #[v] w (RetOidY (seqL (partsN n)) w) := by
  cases hr : n.ref with
  | false => exact rNoticeMar_plain v n w hv hz hT ho hr
  | true => exact rNoticeMar_ref v n w hv hz hT ho hr
end Go.Proofs.YtjjkimjdmpeddaaGreatDoor
end

/- Walk over the reference's FewNotice. -/
section
set_option linter.unusedSimpArgs false
set_option linter.unusedVariables false
namespace Go.Proofs.YtjjkimjdmpeddaaGreatDoor
open Go.RowKit Go.Cr
def lenS (ls : List (List UInt8)) : Nat := (ls.map List.length).sum
theorem lenS_succ (ls : List (List UInt8)) {i : Nat} (h : i < ls.length) : lenS (ls.take (i + 1)) = lenS (ls.take i) + ls[i].length := by
  unfold lenS
  rw [List.take_succ_eq_append_getElem h, List.map_append, List.sum_append]
  simp
theorem lenS_le (ls : List (List UInt8)) {M : Nat} (h : ∀ x ∈ ls, x.length ≤ M) : ∀ i, i ≤ ls.length → lenS (ls.take i) ≤ i * M := by
  intro i
  induction i with
  | zero => intro _; simp [lenS]
  | succ k ih =>
    intro hk
    have h1 := ih (by omega)
    have h2 := h _ (List.getElem_mem (show k < ls.length by omega))
    rw [lenS_succ ls (by omega), Nat.add_mul, Nat.one_mul]
    omega
def BdN (M : Nat) (n : Ntc) : Prop := n.org.2.size ≤ M ∧ n.text.2.size ≤ M ∧ ∀ x ∈ n.nums, x.length ≤ M
def FwN (n : Ntc) : Prop := n.nums.length ≤ 10 ∧ n.org.2.size + n.text.2.size + lenS n.nums ≤ 2000
def RetNw (n : Ntc) (w : World) (e : Ending) (w' : World) : Prop := ∃ b : Bool, e = .returned (.bool b) ∧ (b = true → FwN n) ∧ Below w.heap.size w w'
def RfnRel (ls : List (List UInt8)) (n0 : Nat) (w0 w : World) (nv ix : Value) (wr : World) : Prop := ∃ i n : Nat, ix = .int .i64 (i : Int) ∧ nv = .int .i64 (n : Int) ∧ n = n0 + lenS (ls.take i) ∧ i ≤ ls.length ∧ i ≤ 20 ∧ Below w.heap.size w wr ∧ Below w0.heap.size w0 wr
set_option maxRecDepth 100000 in
set_option maxHeartbeats 16000000 in
theorem rFewN (v : Value) (n : Ntc) (w : World) (hv : IsN w v n) (hM : BdN 140737488351232 n) : Calls Tryz.prog 18 #[v] w (RetNw n w) := by
  obtain ⟨u, rfl, hu⟩ := hv
  obtain ⟨ref, ⟨ok, os⟩, nums, ⟨tk, ts⟩⟩ := n
  obtain ⟨z1, z2, z3⟩ := hM
  simp only at hu z1 z2 z3 ⊢
  have hlen := hu.len (P := Tryz.prog) ulBs
  have hmx := hu.maxl
  have HU := Lib.hid hu
  obtain ⟨A, c, rfl⟩ := isBs_slice hu
  have hF : Hid (∀ b : Bool, (b = true → nums.length ≤ 10 ∧ os.size + ts.size + lenS nums ≤ 2000) → b = true → FwN ⟨ref, (ok, os), nums, (tk, ts)⟩) := fun b h hb => h hb
  obtain ⟨w1, hw1⟩ : ∃ w1, w.alloc (.cells #[.bool ref, .int .i64 ok, .string os, .slice A nums.length c, .int .i64 tk, .string ts] 30) = w1 := ⟨_, rfl⟩
  have HC1 : Hid (Below w.heap.size w w1) := by rw [← hw1]; exact (Below.refl w.heap.size w).alloc (Nat.le_refl _) _
  have K1 : Hid (Blk w1 w.heap.size 30 #[.bool ref, .int .i64 ok, .string os, .slice A nums.length c, .int .i64 tk, .string ts]) := by rw [← hw1]; exact Blk.new w _ _
  have HZ := Lib.hid z3
  obtain ⟨no, hno⟩ : ∃ no, os.size = no := ⟨_, rfl⟩
  obtain ⟨nt, hnt⟩ : ∃ nt, ts.size = nt := ⟨_, rfl⟩
  have q1 := K1.out.q
  have l1 := K1.out.lt
  rw [hno] at z1 hF
  rw [hnt] at z2 hF
  have hs1 : ((no + nt : Nat) : Int) = (no : Int) + nt := by omega
  have hw64 : IntKind.i64.wrap ((no : Int) + nt) = (no : Int) + nt := wr64 (by omega) (by omega)
  clear hu z3
  go_enter Tryz.func18, Tryz.ntmps18
  go_wp2_with fail
  go_loopw [3, 4] (fun nv ix wr => RfnRel nums (no + nt) w w1 nv ix wr) (fun _ ix _ => nums.length + 1 - (intOf ix).toNat)
  case atStart => exact ⟨0, no + nt, rfl, by rw [hs1], rfl, Nat.zero_le _, by omega, Below.refl _ _, HC1.out⟩
  case round =>
    obtain ⟨i, n1, rfl, rfl, hn1, hi, hi20, hbel, hcur⟩ := hrel
    have HN1 := Lib.hid hn1
    have HB1 := Lib.hid hbel
    have hcur := Lib.hid hcur
    have HNB := Lib.hid (show n1 ≤ 2 * 140737488351232 + i * 140737488351232 by have := lenS_le nums HZ.out i hi; omega)
    have K := Lib.hid (K1.out.call hbel)
    have qK := K.out.q
    have lK := K.out.lt
    clear hn1 hbel q1 l1
    by_cases hlt : i < nums.length
    · by_cases h20 : i < 20
      · obtain ⟨b2, o2, v2, hi2, hl2, hc2, hIB⟩ := (HU.out.below hcur.out).at_ (P := Tryz.prog) ulBs szBs .i64 (i := (i : Int)) (by omega) (by omega)
        rw [Int.toNat_natCast, show nums.getD i [] = nums[i] by simp [hlt]] at hIB
        obtain ⟨A2, k2, rfl⟩ := isB_slice hIB
        have hblen := hIB.len (P := Tryz.prog) ulB
        have hltI : (i : Int) < nums.length := by omega
        have h20I : (i : Int) < 20 := by omega
        have hzi := HZ.out _ (List.getElem_mem hlt)
        have HS := Lib.hid (lenS_succ nums hlt)
        clear hIB
        generalize nums[i] = x at *
        have x1 : IntKind.i64.wrap ((n1 : Int) + (x.length : Int)) = (n1 : Int) + (x.length : Int) := wr64 (by omega) (by have := HNB.out; omega)
        obtain ⟨n2, hn2⟩ : ∃ n2 : Nat, n2 = n1 + x.length := ⟨_, rfl⟩
        have x2 : (n1 : Int) + (x.length : Int) = (n2 : Int) := by omega
        have HN2 := Lib.hid hn2
        have hn2b : (n2 : Int) ≤ 9223372036854775807 := by have := HNB.out; omega
        clear hn2 hzi
        go_wp2_with fail
        go_roundw
        case rel => exact ⟨i + 1, n2, by go_num, by first | rfl | exact congrArg (Value.int .i64) (w64q (x := (n2 : Int)) (by omega) hn2b), by rw [HS.out, HN2.out, HN1.out]; omega, by omega, by omega, HB1.out, hcur.out⟩
        case measure => simp [intOf]; omega
      · have hltI : (i : Int) < nums.length := by omega
        have h20I : (20 : Int) ≤ i := by omega
        have h10I : (10 : Int) < nums.length := by omega
        have h10N : ¬ nums.length ≤ 10 := by omega
        clear h20 hlt hi
        go_wp2_with fail
        go_ret
        exact ⟨false, by first | rfl | simp [*], (fun h => by cases h), hcur.out⟩
    · have hge : (nums.length : Int) ≤ i := by omega
      have he : i = nums.length := by omega
      have hfull : n1 = no + nt + lenS nums := by rw [HN1.out, he, List.take_length]
      by_cases hA : nums.length ≤ 10
      · have hAI : (nums.length : Int) ≤ 10 := by omega
        by_cases hB : n1 ≤ 2000
        · have hBI : (n1 : Int) ≤ 2000 := by omega
          have hR := Lib.hid (hF.out true (fun _ => ⟨hA, by omega⟩))
          clear hlt hi hA hB he hfull
          go_wp2_with fail
          go_ret
          exact ⟨true, by first | rfl | simp [*], (fun _ => hR.out trivial), hcur.out⟩
        · have hBI : (2000 : Int) < n1 := by omega
          clear hlt hi hA hB he hfull
          go_wp2_with fail
          go_ret
          exact ⟨false, by first | rfl | simp [*], (fun h => by cases h), hcur.out⟩
      · have hAI : (10 : Int) < nums.length := by omega
        clear hlt hi hA he hfull
        go_wp2_with fail
        go_ret
        exact ⟨false, by first | rfl | simp [*], (fun h => by cases h), hcur.out⟩
end Go.Proofs.YtjjkimjdmpeddaaGreatDoor
end

/- Texts of notices, plain: how long they are, what policy.text leaves. -/
section
set_option linter.unusedSimpArgs false
set_option linter.unusedVariables false
namespace Go.Proofs.YtjjkimjdmpeddaaGreatDoor
open Go.RowKit Go.Cr
theorem unitsF_len (w : Nat) : ∀ (n : Nat) (l : List UInt8), (unitsF w n l).length ≤ n := by
  intro n
  induction n with
  | zero => intro l; exact Nat.le_refl _
  | succ n ih =>
    intro l
    unfold unitsF
    split
    · simp
    · simp only [List.length_cons]; have := ih (l.drop w); omega
theorem flat_enc1_len (cs : List Nat) (h : ∀ c ∈ cs, okc (c : Int) = true) : (cs.flatMap enc1).length ≤ 4 * cs.length := by
  induction cs with
  | nil => simp
  | cons c t ih =>
    rw [List.flatMap_cons, List.length_append, List.length_cons]
    have h1 := (enc1_len (h c (by simp))).2
    have h2 := ih fun x hx => h x (by simp [hx])
    omega
theorem decT_len {k : Int} {c s : List UInt8} (h : decT k c = some s) : s.length ≤ 4 * c.length := by
  unfold decT at h
  split at h
  · cases h
  · split at h
    · injection h with h; subst h; omega
    · cases h
  · rename_i w _ hw
    split at h
    · rename_i hc
      injection h with h
      subst h
      have h1 := flat_enc1_len (units w c) fun x hx => hasK_okc (List.all_eq_true.1 hc.2 x hx)
      have h2 := unitsF_len w c.length c
      unfold units at h1 ⊢
      omega
    · cases h
theorem strD_len {b : List UInt8} {k : Int} {s : List UInt8} (hl : b.length ≤ 1000000) (h : strD b = some (k, s)) : s.length ≤ 4 * b.length := by
  obtain ⟨_, _, _, c, hb, hd, _⟩ := strE_D (strD_E h) hl
  have h1 := decT_len hd
  have h2 := encO_len 0 k false c
  rw [← hb] at h2
  omega
def nC (r : Bool) (o : Tx) (nv : Value) (t : Tx) : Array Value := #[.bool r, .int .i64 o.1, .string o.2, nv, .int .i64 t.1, .string t.2]
def rawT (b : List UInt8) : Tx := match strD b with
  | none => tx0
  | some (k, s) => (k, bStr s)
theorem rawT_of {b : List UInt8} {t : Tx} (h : textL b = some t) : rawT b = t := by
  unfold textL at h
  unfold rawT
  split at h
  · rename_i k s hs
    rw [hs]
    simp only
    split at h
    · exact Option.some.inj h
    · cases h
  · cases h
theorem textL_none {b : List UInt8} (h : strD b = none) : textL b = none ∧ rawT b = tx0 := by
  unfold textL rawT
  rw [h]
  exact ⟨rfl, rfl⟩
theorem textL_some {b : List UInt8} {k : Int} {s : List UInt8} (h : strD b = some (k, s)) : (textL b).isSome = dispT k s ∧ rawT b = (k, bStr s) := by
  unfold textL rawT
  rw [h]
  refine ⟨?_, rfl⟩
  show (if dispT k s then some (k, bStr s) else none : Option Tx).isSome = dispT k s
  cases dispT k s <;> rfl
def RetTx4 (D : Bool) (t : Tx) (g : Nat) (cs : Tx → Array Value) (w : World) (e : Ending) (w' : World) : Prop := e = .returned (.bool D) ∧ Blk w' g 30 (cs t) ∧ Only g w.heap.size w w'
end Go.Proofs.YtjjkimjdmpeddaaGreatDoor
end

/- What ParseNotice keeps after each element, plain. No walk. -/
section
set_option linter.unusedSimpArgs false
set_option linter.unusedVariables false
namespace Go.Proofs.YtjjkimjdmpeddaaGreatDoor
open Go.RowKit Go.Cr
def tAt1 (ls : List (List UInt8)) : Tx := if isSeq (ls.getD 0 []) then tx0 else rawT (ls.getD 0 [])
def goodN (ls : List (List UInt8)) (i : Nat) : Bool := if i = 0 then (if isSeq (ls.getD 0 []) then refOK (ls.getD 0 []) else (textL (ls.getD 0 [])).isSome) else decide (tAt1 ls = tx0) && (textL (ls.getD i [])).isSome
def finN (ls : List (List UInt8)) : Nat → Ntc
  | 0 => ⟨false, tx0, [], tx0⟩
  | 1 => if isSeq (ls.getD 0 []) then ⟨true, (rawR (ls.getD 0 [])).1, (rawR (ls.getD 0 [])).2, tx0⟩ else ⟨false, tx0, [], rawT (ls.getD 0 [])⟩
  | _ => ⟨isSeq (ls.getD 0 []), if isSeq (ls.getD 0 []) then (rawR (ls.getD 0 [])).1 else tx0, if isSeq (ls.getD 0 []) then (rawR (ls.getD 0 [])).2 else [], rawT (ls.getD 1 [])⟩
theorem preN_some {b : List UInt8} {ls : List (List UInt8)} (h : eachL 0 2 b = some ls) : (preN b).isSome = (List.range ls.length).all (goodN ls) ∧ ((List.range ls.length).all (goodN ls) = true → preN b = some (finN ls ls.length)) := by
  have hn : ls.length ≤ 2 := (eachL_ok h).2.2.1
  match ls, hn with
  | [], _ =>
    have hp : preN b = some ⟨false, tx0, [], tx0⟩ := by unfold preN; rw [h]
    rw [hp]
    exact ⟨rfl, fun _ => rfl⟩
  | [x], _ =>
    have hp : preN b = if isSeq x then (if refOK x then some ⟨true, (rawR x).1, (rawR x).2, tx0⟩ else none) else (textL x).map fun t => ⟨false, tx0, [], t⟩ := by unfold preN; rw [h]
    have hr : (List.range [x].length).all (goodN [x]) = if isSeq x then refOK x else (textL x).isSome := by
      rw [show [x].length = 1 from rfl, show List.range 1 = [0] from rfl]
      simp [goodN]
    rw [hr, hp]
    cases hs : isSeq x with
    | true =>
      simp only [if_true]
      cases hk : refOK x with
      | true => exact ⟨rfl, fun _ => by simp [finN, hs]⟩
      | false => exact ⟨rfl, fun h => by cases h⟩
    | false =>
      simp only [Bool.false_eq_true, if_false]
      cases ht : textL x with
      | none => exact ⟨rfl, fun h => by cases h⟩
      | some t => exact ⟨rfl, fun _ => by simp [finN, hs, rawT_of ht]⟩
  | [x, y], _ =>
    have hp : preN b = if isSeq x then (if refOK x then (textL y).map fun t => ⟨true, (rawR x).1, (rawR x).2, t⟩ else none) else none := by unfold preN; rw [h]
    have hr : (List.range [x, y].length).all (goodN [x, y]) = ((if isSeq x then refOK x else (textL x).isSome) && (decide (tAt1 [x, y] = tx0) && (textL y).isSome)) := by
      rw [show [x, y].length = 2 from rfl, show List.range 2 = [0, 1] from rfl]
      simp [goodN]
    rw [hr, hp]
    cases hs : isSeq x with
    | true =>
      have h1 : tAt1 [x, y] = tx0 := by simp [tAt1, hs]
      simp only [if_true, h1, decide_true, Bool.true_and]
      cases hk : refOK x with
      | true =>
        cases ht : textL y with
        | none => exact ⟨rfl, fun h => by cases h⟩
        | some t => exact ⟨rfl, fun _ => by simp [finN, hs, rawT_of ht]⟩
      | false => exact ⟨rfl, fun h => by cases h⟩
    | false =>
      have h1 : tAt1 [x, y] = rawT x := by simp [tAt1, hs]
      simp only [Bool.false_eq_true, if_false]
      have h2 : ((textL x).isSome && (decide (tAt1 [x, y] = tx0) && (textL y).isSome)) = false := by
        cases ht : textL x with
        | none => rfl
        | some t =>
          rw [h1, rawT_of ht, decide_eq_false (textL_ok ht).2.2]
          rfl
      rw [h2]
      exact ⟨rfl, fun h => by cases h⟩
  | _ :: _ :: _ :: _, h => simp at h
theorem preN_none {b : List UInt8} (h : eachL 0 2 b = none) : preN b = none := by unfold preN; rw [h]
theorem only_far {g base B : Nat} {Tp : TypeId → Prop} {w w' : World} {t : TypeId} {cs : Array Value} (h : Only g B w w') (hk : Blk w g t cs) (hg : base ≤ g) (ht : Tp t) : Far base Tp B w w' :=
  ⟨h.os, h.tape, h.output, h.size, fun k hk' hr => h.block k hk' (fun e => by
    subst e
    rcases hr with hr | hr
    · omega
    · exact hr _ _ _ hk ht)⟩
theorem isBs_of {S : Nat → Prop} {w : World} {v : Value} {ls : List (List UInt8)} (h : IsL repB S w v ls) : IsBs w v ls := by
  obtain ⟨xs, h1, h2⟩ := h
  refine ⟨xs, h1.isR, fun j hj => ?_⟩
  obtain ⟨u, e, hu⟩ := h2.2 j hj
  have hl := h2.1
  have hk : repB.k = 1 := rfl
  rw [hk] at e hl
  have hjx : j < xs.length := by omega
  have e2 : xs.getD j undef = u := by
    have h3 := congrArg (fun l => l[0]?) e
    simp only [List.getElem?_take, List.getElem?_drop] at h3
    simp at h3
    simp [h3]
  rw [e2]
  have := hu.isR.bytes
  simpa [hj] using this
end Go.Proofs.YtjjkimjdmpeddaaGreatDoor
end

/- Walk over policy.number. -/
section
set_option linter.unusedSimpArgs false
set_option linter.unusedVariables false
namespace Go.Proofs.YtjjkimjdmpeddaaGreatDoor
open Go.RowKit Go.Cr
def TpN (t : TypeId) : Prop := t = 30 ∨ t = 32
def RetNb (X : Nat → Prop) (y : List UInt8) (g : Nat) (r : Bool) (o t : Tx) (cs : List (List UInt8)) (w : World) (e : Ending) (w' : World) : Prop :=
  ∃ vo, e = .returned (.bool (numB y).isSome) ∧ Blk w' g 30 (nC r o vo t) ∧ OwL repB X w' (g + 1) 32 vo (cs ++ (numB y).toList) ∧ Far g TpN w.heap.size w w'
set_option maxRecDepth 100000 in
set_option maxHeartbeats 4000000 in
theorem polNum_err (v : Value) (y : List UInt8) (p : Value) (w : World) (hv : IsB w v y) (ec eo : Int) (he : oneE y = .error (ec, eo)) :
    Calls Tryz.prog 99 #[v, p] w (RetB (.bool false) w) := by
  have hbd := oneE_err he
  have HP : Hid (∀ W, IsB W v y → Calls Tryz.prog 109 #[v] W (RetB (.tuple #[elV Elem.zero, errV (ec, eo)]) W)) := fun W h => by have := one_any v y W h; rwa [he] at this
  simp only [elV, errV, Elem.zero] at HP
  obtain ⟨A, c, rfl⟩ := isB_slice hv
  have HV := Lib.hid hv
  have hn : (ec == 0) = false := beq_eq_false_iff_ne.2 (by omega)
  have hn' : (ec != 0) = true := by simp; omega
  clear hv he
  go_enter Tryz.func99, Tryz.ntmps99
  go_wp2_with (((go_at_call 109); (with_reducible refine (HP.out _ HV.out).mono ?_); rintro e w1 ⟨rfl, hbw1⟩))
  go_ret
  exact ⟨rfl, (hbw1.alloc hbw1.size _).alloc (by have := hbw1.size; simp; omega) _⟩
set_option maxRecDepth 100000 in
set_option maxHeartbeats 4000000 in
theorem polNum_tag (v : Value) (y : List UInt8) (p : Value) (w : World) (hv : IsB w v y) (x : Elem) (he : oneE y = .ok x) (his : isE x 0 false 2 = false) :
    Calls Tryz.prog 99 #[v, p] w (RetB (.bool false) w) := by
  have HP : Hid (∀ W, IsB W v y → Calls Tryz.prog 109 #[v] W (RetB (.tuple #[elV x, errV (0, 0)]) W)) := fun W h => by have := one_any v y W h; rwa [he] at this
  have HI : Hid (∀ W, Calls Tryz.prog 110 #[elV x, .int .i64 0, .bool false, .int .i64 2] W (RetB (.bool false) W)) := fun W => by have := is_any x 0 2 false W; rwa [his] at this
  obtain ⟨xc, xn, xk, xs', xb, xe⟩ := x
  simp only [elV, errV] at HP HI
  obtain ⟨A, c, rfl⟩ := isB_slice hv
  have HV := Lib.hid hv
  clear hv he his
  go_enter Tryz.func99, Tryz.ntmps99
  go_wp2_with (first | ((go_at_call 109); (with_reducible refine (HP.out _ HV.out).mono ?_); rintro e w1 ⟨rfl, hbw1⟩) | ((go_at_call 110); (with_reducible refine (HI.out _).mono ?_); rintro e w2 ⟨rfl, hbw2⟩))
  go_ret
  have s1 := hbw1.size
  have b1 : Below w.heap.size w w1 := hbw1
  have b2 := ((b1.alloc s1 (.cells #[.int .i64 xc, .int .i64 xn, .bool xk, .int .i64 xs', .int .i64 xb, .int .i64 xe] 118)).alloc (by simp; omega) (.cells #[.int .i64 0, .int .i64 0] 38))
  exact ⟨rfl, b2.trans (hbw2.mono (by simp; omega))⟩
set_option maxRecDepth 100000 in
set_option maxHeartbeats 8000000 in
theorem polNum_good (v : Value) (y : List UInt8) (X : Nat → Prop) (g : Nat) (r : Bool) (o t : Tx) (vo : Value) (cs : List (List UInt8)) (w : World) (hv : IsB w v y) (hL : y.length ≤ 90000)
    (hb : Blk w g 30 (nC r o vo t)) (ho : OwL repB X w (g + 1) 32 vo cs) (hn : cs.length ≤ 900000) (hX : ∀ b, w.heap.size ≤ b → X b) (x : Elem) (he : oneE y = .ok x) (his : isE x 0 false 2 = true) :
    Calls Tryz.prog 99 #[v, .pointer (some ⟨g, 3, none⟩)] w (fun e w' => ∃ vo', e = .returned (.bool true) ∧ Blk w' g 30 (nC r o vo' t) ∧ OwL repB X w' (g + 1) 32 vo' (cs ++ [seg y x.body x.stop]) ∧ Far g TpN w.heap.size w w') := by
  have hbb := oneE_ok he
  have HP : Hid (∀ W, IsB W v y → Calls Tryz.prog 109 #[v] W (RetB (.tuple #[elV x, errV (0, 0)]) W)) := fun W h => by have := one_any v y W h; rwa [he] at this
  have HI : Hid (∀ W, Calls Tryz.prog 110 #[elV x, .int .i64 0, .bool false, .int .i64 2] W (RetB (.bool true) W)) := fun W => by have := is_any x 0 2 false W; rwa [his] at this
  obtain ⟨vc, hcut, hvc⟩ := hv.cut (P := Tryz.prog) ulB szB .i64 .i64 (lo := x.body) (hi := x.stop) (by omega) (by omega) (by omega)
  have hvc' : IsB w vc (seg y x.body x.stop) := hvc
  have hsl := seg_len y x.body x.stop (by omega) (by omega) (by omega)
  have HC : Hid (∀ W, IsB W vc (seg y x.body x.stop) → Calls Tryz.prog 117 #[vc] W (RetO 5 (seg y x.body x.stop) W)) := fun W h => clone_any vc _ W h (by omega)
  obtain ⟨Ac, kc, rfl⟩ := isB_slice hvc'
  have HVC := Lib.hid hvc'
  obtain ⟨xc, xn, xk, xs', xb, xe⟩ := x
  simp only [elV, errV] at HP HI
  simp only at hcut
  obtain ⟨A, c, rfl⟩ := isB_slice hv
  obtain ⟨Ao, ko, rfl⟩ := ho.slice
  have HV := Lib.hid hv
  have HBK := Lib.hid hb
  have HO := Lib.hid ho
  have HN := Lib.hid hn
  have HX := Lib.hid hX
  have lg := hb.lt
  obtain ⟨i0, hi0, hz0, hz1, hz2⟩ := info_parts infoBss
  clear hv he his hb hvc hvc' hsl hbb ho hn hX hL
  simp only at HC HVC ⊢
  generalize seg y xb xe = C at *
  generalize hcl : cs.length = n at *
  have HCL := Lib.hid hcl
  clear hcl
  go_enter Tryz.func99, Tryz.ntmps99
  go_wp2_with (first | ((go_at_call 109); (with_reducible refine (HP.out _ HV.out).mono ?_); rintro e w1 ⟨rfl, hbw1⟩; have HB1 := Lib.hid hbw1; clear hbw1) | ((go_at_call 110); (with_reducible refine (HI.out _).mono ?_); rintro e w2 ⟨rfl, hbw2⟩; have X2 := Blk.call ((Blk.new w1 118 #[.int .i64 xc, .int .i64 xn, .bool xk, .int .i64 xs', .int .i64 xb, .int .i64 xe]).alloc (.cells #[.int .i64 0, .int .i64 0] 38)) hbw2; have lX2 := X2.lt; have HX2 := Lib.hid X2; have HB2 := Lib.hid (((HB1.out.alloc HB1.out.size (.cells #[.int .i64 xc, .int .i64 xn, .bool xk, .int .i64 xs', .int .i64 xb, .int .i64 xe] 118)).alloc (by have := HB1.out.size; simp; omega) (.cells #[.int .i64 0, .int .i64 0] 38)).trans (hbw2.mono (by have := HB1.out.size; simp; omega))); clear hbw2 X2))
  have J2 := Lib.hid (HBK.out.call HB2.out)
  have hgw2 : g < w2.heap.size := J2.out.lt
  have HO2 := Lib.hid (HO.out.below HB2.out)
  have hw2 : w.heap.size ≤ w2.heap.size := HB2.out.size
  have hcur := Lib.hid ((Below.refl w2.heap.size w2).drew)
  have HS4 : Hid (∀ W', Below w2.heap.size w2 W' → W'.cell? ⟨g, 3, none⟩ = some (.slice Ao n ko) ∧ W'.cell? ⟨w1.heap.size, 4, none⟩ = some (.int .i64 xb) ∧ W'.cell? ⟨w1.heap.size, 5, none⟩ = some (.int .i64 xe)) := fun W hW => ⟨((J2.out.call hW).q 3).trans rfl, ((HX2.out.call hW).q 4).trans rfl, ((HX2.out.call hW).q 5).trans rfl⟩
  refine wp_region_lastP (fun W' => W'.cell? ⟨g, 3, none⟩ = some (.slice Ao n ko) ∧ W'.cell? ⟨w1.heap.size, 4, none⟩ = some (.int .i64 xb) ∧ W'.cell? ⟨w1.heap.size, 5, none⟩ = some (.int .i64 xe)) rfl (by kernel_rfl) (by kernel_rfl) (HS4.out _ hcur.out) (fun hHeld => ?_)
  simp only [List.pop_toArray, List.dropLast_cons_cons, List.dropLast_singleton]
  (refine take_want (i := 0) (d := some 20) ?_ (by kernel_rfl) (by kernel_rfl) (by kernel_rfl) (fun _ _ _ h => h) (by assumption) ?_ (by kernel_rfl) ?_; rotate_left; (· (intro o ho; simp only [List.getElem?_toArray, List.getElem?_cons_succ, List.getElem?_cons_zero, Option.some.injEq] at ho; subst ho; refine ⟨rfl, by rfl, fun w hSw => ?_⟩; (try dsimp only at hSw); go_simp; (first | done | with_reducible rfl))); simp only [Act.put, List.setIfInBounds_toArray, List.set_cons_zero, List.set_cons_succ])
  (refine take_want (i := 1) (d := some 21) ?_ (by kernel_rfl) (by kernel_rfl) (by kernel_rfl) (fun _ _ _ h => h) (by assumption) ?_ (by kernel_rfl) ?_; rotate_left; (· (intro o ho; simp only [List.getElem?_toArray, List.getElem?_cons_succ, List.getElem?_cons_zero, Option.some.injEq] at ho; subst ho; refine ⟨rfl, by rfl, fun w hSw => ?_⟩; (try dsimp only at hSw); go_simp; (first | done | with_reducible rfl))); simp only [Act.put, List.setIfInBounds_toArray, List.set_cons_zero, List.set_cons_succ])
  (refine take_want (i := 2) (d := some 22) ?_ (by kernel_rfl) (by kernel_rfl) (by kernel_rfl) (fun _ _ _ h => h) (by assumption) ?_ (by kernel_rfl) ?_; rotate_left; (· (intro o ho; simp only [List.getElem?_toArray, List.getElem?_cons_succ, List.getElem?_cons_zero, Option.some.injEq] at ho; subst ho; refine ⟨rfl, by rfl, fun w hSw => ?_⟩; (try dsimp only at hSw); go_split_ands; go_simp; (first | done | with_reducible rfl))); simp only [Act.put, List.setIfInBounds_toArray, List.set_cons_zero, List.set_cons_succ])
  (refine take_want (i := 3) (d := some 23) ?_ (by kernel_rfl) (by kernel_rfl) (by kernel_rfl) (fun _ _ _ h => h) (by assumption) ?_ (by kernel_rfl) ?_; rotate_left; (· (intro o ho; simp only [List.getElem?_toArray, List.getElem?_cons_succ, List.getElem?_cons_zero, Option.some.injEq] at ho; subst ho; refine ⟨rfl, by rfl, fun w hSw => ?_⟩; (try dsimp only at hSw); go_split_ands; go_simp; (first | done | with_reducible rfl))); simp only [Act.put, List.setIfInBounds_toArray, List.set_cons_zero, List.set_cons_succ])
  (refine take_want (i := 4) (d := some 24) ?_ (by kernel_rfl) (by kernel_rfl) (by kernel_rfl) (fun _ _ _ h => h) (by assumption) ?_ (by kernel_rfl) ?_; rotate_left; (· (intro o ho; simp only [List.getElem?_toArray, List.getElem?_cons_succ, List.getElem?_cons_zero, Option.some.injEq] at ho; subst ho; refine ⟨rfl, by rfl, fun w hSw => ?_⟩; (try dsimp only at hSw); go_simp; (first | done | with_reducible rfl))); simp only [Act.put, List.setIfInBounds_toArray, List.set_cons_zero, List.set_cons_succ])
  (refine take_want (i := 5) (d := some 25) ?_ (by kernel_rfl) (by kernel_rfl) (by kernel_rfl) (fun _ _ _ h => h) (by assumption) ?_ (by kernel_rfl) ?_; rotate_left; (· (intro o ho; simp only [List.getElem?_toArray, List.getElem?_cons_succ, List.getElem?_cons_zero, Option.some.injEq] at ho; subst ho; refine ⟨rfl, by rfl, fun w hSw => ?_⟩; (try dsimp only at hSw); go_simp; (first | done | with_reducible rfl))); simp only [Act.put, List.setIfInBounds_toArray, List.set_cons_zero, List.set_cons_succ])
  (refine take_want (i := 6) (d := some 26) ?_ (by kernel_rfl) (by kernel_rfl) (by kernel_rfl) (fun _ _ _ h => h) (by assumption) ?_ (by kernel_rfl) ?_; rotate_left; (· (intro o ho; simp only [List.getElem?_toArray, List.getElem?_cons_succ, List.getElem?_cons_zero, Option.some.injEq] at ho; subst ho; refine ⟨rfl, by rfl, fun w hSw => ?_⟩; (try dsimp only at hSw); go_split_ands; go_simp; (first | done | with_reducible rfl))); simp only [Act.put, List.setIfInBounds_toArray, List.set_cons_zero, List.set_cons_succ])
  (refine take_want (i := 7) (d := some 27) ?_ (by kernel_rfl) (by kernel_rfl) (by kernel_rfl) (fun _ _ _ h => h) (by assumption) ?_ (by kernel_rfl) ?_; rotate_left; (· (intro o ho; simp only [List.getElem?_toArray, List.getElem?_cons_succ, List.getElem?_cons_zero, Option.some.injEq] at ho; subst ho; refine ⟨rfl, by rfl, fun w hSw => ?_⟩; (try dsimp only at hSw); go_simp; (first | done | with_reducible rfl))); simp only [Act.put, List.setIfInBounds_toArray, List.set_cons_zero, List.set_cons_succ])
  (refine take_want (i := 8) (d := some 28) ?_ (by kernel_rfl) (by kernel_rfl) (by kernel_rfl) (fun _ _ _ h => h) (by assumption) ?_ (by kernel_rfl) ?_; rotate_left; (· (intro o ho; simp only [List.getElem?_toArray, List.getElem?_cons_succ, List.getElem?_cons_zero, Option.some.injEq] at ho; subst ho; refine ⟨rfl, by rfl, fun w hSw => ?_⟩; (try dsimp only at hSw); go_split_ands; go_simp; (first | done | with_reducible rfl))); simp only [Act.put, List.setIfInBounds_toArray, List.set_cons_zero, List.set_cons_succ])
  (refine take_want (i := 9) (d := some 29) ?_ (by kernel_rfl) (by kernel_rfl) (by kernel_rfl) (fun _ _ _ h => h) (by assumption) ?_ (by kernel_rfl) ?_; rotate_left; (· (intro o ho; simp only [List.getElem?_toArray, List.getElem?_cons_succ, List.getElem?_cons_zero, Option.some.injEq] at ho; subst ho; refine ⟨rfl, by rfl, fun w hSw => ?_⟩; (try dsimp only at hSw); go_split_ands; go_simp; (first | done | with_reducible rfl))); simp only [Act.put, List.setIfInBounds_toArray, List.set_cons_zero, List.set_cons_succ])
  (refine take_run (i := 10) (by kernel_rfl) (by kernel_rfl) ?_; intro o ho K hK; simp only [List.getElem?_toArray, List.getElem?_cons_succ, List.getElem?_cons_zero, Option.some.injEq] at ho; subst ho)
  go_simp
  go_at_call 117
  (with_reducible refine (HC.out _ (HVC.out.below (HB2.out.trans (hcur.out.mono hw2)))).mono ?_)
  rintro e wx ⟨v8, rfl, ho8, hbz⟩
  obtain ⟨A9, c9, rfl⟩ := isB_slice ho8.isB
  have HV9 := Lib.hid ((IsRS.of_own ho8).weak (S' := fun b => w2.heap.size ≤ b) (fun b _ hS => Nat.le_trans hcur.out.size hS))
  have hcur := Lib.hid (hcur.out.trans (hbz.mono hcur.out.size))
  clear ho8
  (refine hK.out _ _ (HS4.out _ hcur.out) (fun hHeld => ?_); clear hK K; (try simp only [Act.put, List.setIfInBounds_toArray, List.set_cons_zero, List.set_cons_succ]))
  (refine take_run (i := 11) (by kernel_rfl) (by kernel_rfl) ?_; intro o ho K hK; simp only [List.getElem?_toArray, List.getElem?_cons_succ, List.getElem?_cons_zero, Option.some.injEq] at ho; subst ho)
  go_simp
  (refine hK.out _ _ (HS4.out _ (hcur.out.alloc hcur.out.size _)) (fun hHeld => ?_); clear hK K; (try simp only [Act.put, List.setIfInBounds_toArray, List.set_cons_zero, List.set_cons_succ]))
  obtain ⟨vd, wd, hrd, hod, hbd, hgd, _⟩ := run_appL (r := repB) (X := X) (P := Tryz.prog) (wx.alloc (.cells #[.slice A9 C.length c9] 32)) (g + 1) 28 28 32 ulBs hi0 hz0 hz1 hz2 rfl (by decide) _ cs (HO2.out.below (hcur.out.alloc hcur.out.size _)) _ [.slice A9 C.length c9] C (isR_at rfl rfl) ⟨_, rfl, (HV9.out.weak (fun b _ hS => ⟨⟨by omega, HO2.out.notNew hS⟩, HX.out b (by omega)⟩)).alloc _⟩ (by have := HN.out; have := HCL.out; omega) (by have := hcur.out.size; simp; omega) (HX.out _ (by have := hcur.out.size; simp; omega))
  obtain ⟨A7, c7, hv7⟩ := hod.slice
  generalize hL7 : (cs ++ [C]).length = L7 at hv7
  subst hv7
  have hgx : g < wx.heap.size := Nat.lt_of_lt_of_le hgw2 hcur.out.size
  have JD := Lib.hid (Blk.grown ((J2.out.call hcur.out).alloc (.cells #[.slice A9 C.length c9] 32)) hgd (HO2.out.notOld (Nat.lt_succ_self g)))
  have qD : wd.cell? ⟨g, 3, none⟩ = some (.slice Ao n ko) := (JD.out.q 3).trans rfl
  have fD := JD.out.fz
  have lD := JD.out.lt
  have XD := Lib.hid (Blk.grown ((HX2.out.call hcur.out).alloc (.cells #[.slice A9 C.length c9] 32)) hgd (by
    intro h
    obtain ⟨xs, hrow, _⟩ := HO2.out
    obtain ⟨_, ⟨h1, _⟩ | ⟨g', cap, cur, h1, _, hh, _⟩⟩ := hrow
    · rw [h1] at h; cases h
    · rw [h1] at h
      injection h with h
      have h2 := HX2.out
      unfold Blk at h2
      subst h
      rw [hh] at h2
      injection h2 with h2
      injection h2 with _ h2 _
      exact absurd h2 (by decide)))
  have qX := XD.out.q
  have HOD := Lib.hid hod
  have F0 : Far g TpN w.heap.size w (wx.alloc (.cells #[.slice A9 C.length c9] 32)) := (Far.of_below (HB2.out.trans (hcur.out.mono hw2))).alloc (Nat.le_trans hw2 hcur.out.size) _
  obtain ⟨xs0, hrow0, _⟩ := HO2.out.below (hcur.out.alloc hcur.out.size (.cells #[.slice A9 C.length c9] 32))
  have HF1 := Lib.hid ((F0.grown hgd F0.size hrow0 (Nat.le_succ g) (.inr rfl)).setRow (p := ⟨g, 3, none⟩) JD.out (Nat.le_refl g) (.inl rfl) (.slice A7 L7 c7))
  clear hod hbd hgd hrow0 F0
  (refine take_run (i := 12) (by kernel_rfl) (by kernel_rfl) ?_; intro o ho K hK; simp only [List.getElem?_toArray, List.getElem?_cons_succ, List.getElem?_cons_zero, Option.some.injEq] at ho; subst ho)
  rw [if_pos (by rfl)]
  refine wp_appR _ _ _ _ rfl _ _ _ _ rfl rfl hrd ?_
  (refine hK.out _ _ (⟨qD, (qX 4).trans rfl, (qX 5).trans rfl⟩) (fun hHeld => ?_); clear hK K; (try simp only [Act.put, List.setIfInBounds_toArray, List.set_cons_zero, List.set_cons_succ]))
  (refine take_want (i := 13) (d := some 33) ?_ (by kernel_rfl) (by kernel_rfl) (by kernel_rfl) (fun _ _ _ h => h) (by assumption) ?_ (by kernel_rfl) ?_; rotate_left; (· (intro o ho; simp only [List.getElem?_toArray, List.getElem?_cons_succ, List.getElem?_cons_zero, Option.some.injEq] at ho; subst ho; refine ⟨rfl, by rfl, fun w hSw => ?_⟩; (try dsimp only at hSw); go_split_ands; go_simp; (first | done | with_reducible rfl))); simp only [Act.put, List.setIfInBounds_toArray, List.set_cons_zero, List.set_cons_succ])
  refine wpAnyH_done (by kernel_rfl) ?_ _
  refine lastQ_of ?_
  refine wpOp_skip (w' := wd.setCell ⟨g, 3, none⟩ (.slice A7 L7 c7)) rfl rfl ?he ?_
  case he => go_simp
  go_wp2_with fail
  go_ret
  exact ⟨.slice A7 L7 c7, rfl, JD.out.set_ 3 _, HOD.out.setLow (p := ⟨g, 3, none⟩) (Nat.lt_succ_self g) _, HF1.out⟩
theorem polNumber (v : Value) (y : List UInt8) (X : Nat → Prop) (g : Nat) (r : Bool) (o t : Tx) (vo : Value) (cs : List (List UInt8)) (w : World) (hv : IsB w v y) (hL : y.length ≤ 90000)
    (hb : Blk w g 30 (nC r o vo t)) (ho : OwL repB X w (g + 1) 32 vo cs) (hn : cs.length ≤ 900000) (hX : ∀ b, w.heap.size ≤ b → X b) :
    Calls Tryz.prog 99 #[v, .pointer (some ⟨g, 3, none⟩)] w (RetNb X y g r o t cs w) := by
  cases he : oneE y with
  | error er =>
    obtain ⟨ec, eo⟩ := er
    have hi : numB y = none := by unfold numB; rw [he]
    refine (polNum_err v y _ w hv ec eo he).mono fun e w' ⟨h1, h2⟩ => ⟨vo, (by rw [hi]; exact h1), hb.call h2, (by rw [hi]; simpa using ho.below h2), Far.of_below h2⟩
  | ok x =>
    cases his : isE x 0 false 2 with
    | false =>
      have hi : numB y = none := by unfold numB; rw [he]; simp [his]
      refine (polNum_tag v y _ w hv x he his).mono fun e w' ⟨h1, h2⟩ => ⟨vo, (by rw [hi]; exact h1), hb.call h2, (by rw [hi]; simpa using ho.below h2), Far.of_below h2⟩
    | true =>
      have hi : numB y = some (seg y x.body x.stop) := by unfold numB; rw [he]; simp [his]
      refine (polNum_good v y X g r o t vo cs w hv hL hb ho hn hX x he his).mono fun e w' ⟨vo', h1, h2, h3, h4⟩ => ⟨vo', (by rw [hi]; exact h1), h2, (by rw [hi]; exact h3), h4⟩
end Go.Proofs.YtjjkimjdmpeddaaGreatDoor
end

/- policy.reference: each over the numbers. -/
section
set_option linter.unusedSimpArgs false
set_option linter.unusedVariables false
namespace Go.Proofs.YtjjkimjdmpeddaaGreatDoor
open Go.RowKit Go.Cr
theorem enR1 : ∀ args W, (callFunc 97 args).run Tryz.prog W = .ok (.enter 97 args) W := enters_of Tryz.func97 (by kernel_rfl) rfl
theorem enR11 : ∀ args W, (callFunc 98 args).run Tryz.prog W = .ok (.enter 98 args) W := enters_of Tryz.func98 (by kernel_rfl) rfl
theorem enN1 : ∀ args W, (callFunc 59 args).run Tryz.prog W = .ok (.enter 59 args) W := enters_of Tryz.func59 (by kernel_rfl) rfl
theorem errNeN : ¬ TpN 38 := by unfold TpN; decide
theorem elNeN : ¬ TpN 118 := by unfold TpN; decide
theorem boxNeN : ¬ TpN 83 := by unfold TpN; decide
theorem all_range {ls : List (List UInt8)} {f : List UInt8 → Bool} : (List.range ls.length).all (fun i => f (ls.getD i [])) = ls.all f := by
  rw [Bool.eq_iff_iff, List.all_eq_true, List.all_eq_true]
  constructor
  · intro h p hp
    obtain ⟨j, hj, rfl⟩ := List.mem_iff_getElem.1 hp
    have := h j (by simp [hj])
    simpa [hj] using this
  · intro h j hj
    have hjl : j < ls.length := by simpa using hj
    simpa [hjl] using h _ (List.getElem_mem hjl)
set_option maxRecDepth 100000 in
set_option maxHeartbeats 4000000 in
theorem pr11 (i : Nat) (v : Value) (y : List UInt8) (X : Nat → Prop) (gb g : Nat) (r : Bool) (o t : Tx) (vo : Value) (cs : List (List UInt8)) (w : World) (hv : IsB w v y) (hL : y.length ≤ 90000) (hp : Blk w gb 83 #[.pointer (some ⟨g, 0, none⟩)])
    (hb : Blk w g 30 (nC r o vo t)) (ho : OwL repB X w (g + 1) 32 vo cs) (hn : cs.length ≤ 900000) (hX : ∀ b, w.heap.size ≤ b → X b) :
    Calls Tryz.prog 98 #[.int .i64 (i : Int), v, .pointer (some ⟨gb, 0, none⟩)] w (RetNb X y g r o t cs w) := by
  have H0 := Lib.hid (polNumber v y X g r o t vo cs w hv hL hb ho hn hX)
  obtain ⟨A, c, rfl⟩ := isB_slice hv
  have qp := hp.q
  have lp := hp.lt
  unfold RetNb at H0
  unfold RetNb
  generalize (numB y).isSome = B at *
  generalize (numB y).toList = T at *
  clear hv hb hL hp ho hn hX
  go_enter Tryz.func98, Tryz.ntmps98
  go_wp2_with (((go_at_call 99); (with_reducible refine (H0.out).mono ?_); rintro e w1 ⟨vo1, rfl, h1, h2, h3⟩))
  go_ret
  exact ⟨vo1, rfl, h1, h2, h3⟩
def InvN3 (X : Nat → Prop) (B gb g c : Nat) (r : Bool) (o t : Tx) (v : Value) (y : List UInt8) (ls : List (List UInt8)) (i : Nat) (w : World) : Prop :=
  c < w.heap.size ∧ Old B (GB v y) w ∧ Blk w gb 83 #[.pointer (some ⟨g, 0, none⟩)] ∧ (∀ b, w.heap.size ≤ b → X b) ∧ ∃ (vo : Value) (cs : List (List UInt8)), Blk w g 30 (nC r o vo t) ∧ OwL repB (fun b => X b ∧ b ≠ c) w (g + 1) 32 vo cs ∧ cs.length ≤ i ∧
    ((∀ j, j < i → (numB (ls.getD j [])).isSome = true) → cs = (ls.take i).map fun z => (numB z).getD [])
def RetN2e (X : Nat → Prop) (y : List UInt8) (g : Nat) (r : Bool) (o t : Tx) (w : World) (e : Ending) (w' : World) : Prop :=
  ∃ (ec eo : Int) (vo : Value) (cs : List (List UInt8)), e = .returned (errV (ec, eo)) ∧ (ec == 0) = numsOK y ∧ Blk w' g 30 (nC r o vo t) ∧ OwL repB X w' (g + 1) 32 vo cs ∧ (numsOK y = true → cs = rawNs y) ∧ Far g TpN w.heap.size w w'
theorem pr11_each (v : Value) (y : List UInt8) (X : Nat → Prop) (B gb g : Nat) (r : Bool) (o t : Tx) (w : World) (hO : Old B (GB v y) w) (hg : B ≤ g) (hgb : gb ≠ g) (hL : y.length ≤ 90000) (hp : Blk w gb 83 #[.pointer (some ⟨g, 0, none⟩)])
    (hb : Blk w g 30 (nC r o (.slice none 0 0) t)) (hX : ∀ b, w.heap.size ≤ b → X b) :
    Calls Tryz.prog 58 #[v, .int .i64 0, .int .i64 2147483647, .func (.func 98) #[] #[.pointer (some ⟨gb, 0, none⟩)]] w (RetN2e X y g r o t w) := by
  have hv := (GB.old hO).2
  have hlt := hb.lt
  have hltp := hp.lt
  cases hls : eachL 0 2147483647 y with
  | none =>
    have hgd : numsOK y = false := by unfold numsOK; rw [hls]
    refine (each_none v y 0 2147483647 _ _ w hv (by omega) hls).mono fun e w' ⟨hb', ec, eo, h1, h2, h3, he⟩ => ⟨ec, eo, _, [], he, ?_, hb.call hb', OwL.nil_ _ _ _ _, fun h => ?_, Far.of_below hb'⟩
    · rw [hgd]; exact beq_eq_false_iff_ne.2 (by omega)
    · rw [hgd] at h; cases h
  | some ls =>
    have hgd : numsOK y = ls.all (fun z => (numB z).isSome) := by unfold numsOK; rw [hls]
    have hrw : rawNs y = ls.map fun z => (numB z).getD [] := by unfold rawNs; rw [hls]; rfl
    have hcnt : ls.length ≤ 90000 := by have := eachL_cnt hls; omega
    have hall := all_range (ls := ls) (f := fun z => (numB z).isSome)
    refine (each_some v y 0 2147483647 98 #[.pointer (some ⟨gb, 0, none⟩)] w ls (fun i => (numB (ls.getD i [])).isSome) B g TpN (InvN3 X B gb g w.heap.size r o t v y ls) hv (by omega) hls enR11 errNeN elNeN ?_ ?_ ?_ ?_).mono ?_
    · exact fun i W h => h.2.1.map fun _ h => h.2
    · exact fun W hW hs => ⟨hs, hO.below hW, hp.call hW, fun b hb => hX b (by omega), _, [], hb.call hW, OwL.nil_ _ _ _ _, Nat.le_refl _, fun _ => rfl⟩
    · rintro i W W' ⟨h0, h1, h2, h3, vo, cs, hk, ho, hn, hr⟩ hf
      exact ⟨Nat.lt_of_lt_of_le h0 hf.size, h1.only hf (by omega), h2.only hf (by omega), fun b hb => h3 b (Nat.le_trans hf.size hb), vo, cs, hk.only hf (by omega), ho.only hf (fun _ _ h => h.2), hn, hr⟩
    · rintro i hi W u ⟨h0, h1, h2, h3, vo, cs, hk, ho, hn, hr⟩ hu
      refine (pr11 i u _ (fun b => X b ∧ b ≠ w.heap.size) gb g r o t vo cs W hu.now (by have := eachL_part hls (List.getElem_mem hi); omega) h2 hk ho (by omega) (fun b hb => ⟨h3 b hb, by omega⟩)).mono ?_
      rintro e w' ⟨vo', rfl, k1, k2, k3⟩
      have hgi : ls.getD i [] = ls[i] := by simp [hi]
      refine ⟨by show Ending.returned (.bool (numB ls[i]).isSome) = Ending.returned (.bool (numB (ls.getD i [])).isSome); rw [hgi], ⟨Nat.lt_of_lt_of_le h0 k3.size, h1.far k3 hg, h2.farR k3 h2.lt (.inr boxNeN), fun b hb => h3 b (Nat.le_trans k3.size hb), vo', _, k1, k2, ?_, fun hj => ?_⟩, k3⟩
      · rw [List.length_append]
        cases numB ls[i] <;> simp <;> omega
      · rw [hr fun j h => hj j (by omega), List.take_succ_eq_append_getElem hi, List.map_append]
        have := hj i (by omega)
        rw [hgi] at this
        obtain ⟨c, hc⟩ := Option.isSome_iff_exists.1 this
        simp [hc]
    · rintro e w' ⟨hf, ⟨hok, rfl, _, _, _, _, vo, cs, hk, ho, hn, hr⟩ | ⟨hok, ec, eo, h1, h2, h3, rfl, m, hm, _, _, _, _, vo, cs, hk, ho, hn, hr⟩⟩
      · refine ⟨0, 0, vo, cs, rfl, by rw [hgd, ← hall, hok]; rfl, hk, ho.weak (fun _ _ _ h => h.1), fun _ => ?_, hf⟩
        rw [hrw, hr fun j hj => List.all_eq_true.1 hok j (by simpa using hj), List.take_length]
      · rw [hall] at hok
        exact ⟨ec, eo, vo, cs, rfl, by rw [hgd, hok]; exact beq_eq_false_iff_ne.2 (by omega), hk, ho.weak (fun _ _ _ h => h.1), fun h => (by rw [hgd, hok] at h; cases h), hf⟩
end Go.Proofs.YtjjkimjdmpeddaaGreatDoor
end

/- Walk over policy.text: the organisation of a notice. -/
section
set_option linter.unusedSimpArgs false
set_option linter.unusedVariables false
namespace Go.Proofs.YtjjkimjdmpeddaaGreatDoor
open Go.RowKit Go.Cr
set_option maxRecDepth 100000 in
set_option maxHeartbeats 8000000 in
theorem polTextO_no (v : Value) (b : List UInt8) (g : Nat) (r : Bool) (o : Tx) (nv : Value) (t0 : Tx) (w0 w : World) (hG0 : Glo w0) (hw0 : Below w0.heap.size w0 w) (hg0 : w0.heap.size ≤ g) (hv : IsB w v b) (hL : b.length ≤ 90000) (hb : Blk w g 30 (nC r o nv t0)) (h : strD b = none) :
    Calls Tryz.prog 61 #[v, .pointer (some ⟨g, 1, none⟩)] w (RetTx4 false tx0 g (fun t => nC r t nv t0) w) := by
  have HS : Hid (∀ W, Glo W → IsB W v b → Calls Tryz.prog 100 #[v] W (RetStr none W)) := fun W g hb => by have := string_any v b W g hb (by omega) (fun x _ => kindOk_all x.num); rwa [h] at this
  obtain ⟨ok, os⟩ := o
  obtain ⟨tk, ts⟩ := t0
  have HG := Lib.hid (hG0.below hw0)
  have HV := Lib.hid hv
  have HB := Lib.hid hb
  have lg := hb.lt
  unfold RetStr at HS
  simp only [txV] at HS
  obtain ⟨A, kk, rfl⟩ := isB_slice hv
  clear hG0 hw0 hv hL hb h
  go_enter Tryz.func61, Tryz.ntmps61
  go_wp2_with (((go_at_call 100); (with_reducible refine (HS.out _ HG.out HV.out).mono ?_); rintro e w1 ⟨rfl, hb1⟩; have J1 := HB.out.call hb1; have q1 : w1.cell? ⟨g, 1, none⟩ = some (.int .i64 ok) := (J1.q 1).trans rfl; have q2 : w1.cell? ⟨g, 2, none⟩ = some (.string os) := (J1.q 2).trans rfl; have f1 := J1.fz 1; have f2 := J1.fz 2; have l1 := J1.lt; have HJ1 := Lib.hid J1; clear J1))
  refine bodyPost_ret (v := .bool false) (by simp only [results, Tryz.results61]; go_simp) rfl ?_
  exact ⟨rfl, ((HJ1.out.set_ 1 _).set_ 2 _).alloc _, (((Only.of_below hb1).set (p := ⟨g, 1, none⟩) rfl (.int .i64 0)).set (p := ⟨g, 2, none⟩) rfl (.string ⟨#[]⟩)).thenB ((Below.refl _ _).alloc (by simpa [World.setCell] using hb1.size) _)⟩
set_option maxRecDepth 100000 in
set_option maxHeartbeats 8000000 in
theorem polTextO_yes (v : Value) (b : List UInt8) (g : Nat) (r : Bool) (o : Tx) (nv : Value) (t0 : Tx) (w0 w : World) (hG0 : Glo w0) (hw0 : Below w0.heap.size w0 w) (hg0 : w0.heap.size ≤ g) (hv : IsB w v b) (hL : b.length ≤ 90000) (hb : Blk w g 30 (nC r o nv t0)) (k : Int) (s : List UInt8) (h : strD b = some (k, s)) :
    Calls Tryz.prog 61 #[v, .pointer (some ⟨g, 1, none⟩)] w (RetTx4 (dispT k s) (k, bStr s) g (fun t => nC r t nv t0) w) := by
  have HS : Hid (∀ W, Glo W → IsB W v b → Calls Tryz.prog 100 #[v] W (RetStr (some (k, s)) W)) := fun W g hb => by have := string_any v b W g hb (by omega) (fun x _ => kindOk_all x.num); rwa [h] at this
  have hsl := strD_len (by omega) h
  have HD : Hid (∀ W, Glo W → Calls Tryz.prog 52 #[.agg #[.int .i64 k, .string (bStr s)]] W (RetB (.bool (dispT k s)) W)) := fun W g => by have := polDisplay k (bStr s) W g (by show s.toArray.size ≤ _; simp; omega); rwa [bStr_list] at this
  obtain ⟨ok, os⟩ := o
  obtain ⟨tk, ts⟩ := t0
  have HG0 := Lib.hid hG0
  have HW0 := Lib.hid hw0
  have HG := Lib.hid (hG0.below hw0)
  have HV := Lib.hid hv
  have HB := Lib.hid hb
  have lg := hb.lt
  unfold RetStr at HS
  simp only [txV, Option.isSome_some] at HS
  obtain ⟨A, kk, rfl⟩ := isB_slice hv
  clear hG0 hw0 hv hL hb h hsl
  generalize bStr s = S at *
  generalize dispT k s = D at *
  go_enter Tryz.func61, Tryz.ntmps61
  go_wp2_with (first | ((go_at_call 100); (with_reducible refine (HS.out _ HG.out HV.out).mono ?_); rintro e w1 ⟨rfl, hb1⟩; have J1 := HB.out.call hb1; have q1 : w1.cell? ⟨g, 1, none⟩ = some (.int .i64 ok) := (J1.q 1).trans rfl; have q2 : w1.cell? ⟨g, 2, none⟩ = some (.string os) := (J1.q 2).trans rfl; have f1 := J1.fz 1; have f2 := J1.fz 2; have l1 := J1.lt; have HJ1 := Lib.hid J1; clear J1; have HW1 := Lib.hid (((HW0.out.trans (hb1.mono HW0.out.size)).setCell (p := ⟨g, 1, none⟩) hg0 (.int .i64 k)).setCell (p := ⟨g, 2, none⟩) hg0 (.string S))) | ((go_at_call 52); (with_reducible refine (HD.out _ (HG0.out.below (HW1.out.alloc HW1.out.size _))).mono ?_); rintro e w2 ⟨rfl, hb2⟩))
  refine bodyPost_ret (v := .bool D) (by simp only [results, Tryz.results61]; go_simp) rfl ?_
  exact ⟨rfl, (((HJ1.out.set_ 1 _).set_ 2 _).alloc _).call hb2, ((((Only.of_below hb1).set (p := ⟨g, 1, none⟩) rfl (.int .i64 k)).set (p := ⟨g, 2, none⟩) rfl (.string S)).thenB ((Below.refl _ _).alloc (by simpa [World.setCell] using hb1.size) _)).thenB (hb2.mono (by have := hb1.size; simp [World.setCell]; omega))⟩
theorem polTextO (v : Value) (b : List UInt8) (g : Nat) (r : Bool) (o : Tx) (nv : Value) (t0 : Tx) (w0 w : World) (hG0 : Glo w0) (hw0 : Below w0.heap.size w0 w) (hg0 : w0.heap.size ≤ g) (hv : IsB w v b) (hL : b.length ≤ 90000) (hb : Blk w g 30 (nC r o nv t0)) :
    Calls Tryz.prog 61 #[v, .pointer (some ⟨g, 1, none⟩)] w (RetTx4 (textL b).isSome (rawT b) g (fun t => nC r t nv t0) w) := by
  cases h : strD b with
  | none =>
    rw [(textL_none h).1, (textL_none h).2]
    exact polTextO_no v b g r o nv t0 w0 w hG0 hw0 hg0 hv hL hb h
  | some x =>
    obtain ⟨k, s⟩ := x
    rw [(textL_some h).1, (textL_some h).2]
    exact polTextO_yes v b g r o nv t0 w0 w hG0 hw0 hg0 hv hL hb k s h
end Go.Proofs.YtjjkimjdmpeddaaGreatDoor
end

/- Walks over policy.reference and its closure. -/
section
set_option linter.unusedSimpArgs false
set_option linter.unusedVariables false
namespace Go.Proofs.YtjjkimjdmpeddaaGreatDoor
open Go.RowKit Go.Cr
set_option maxRecDepth 100000 in
set_option maxHeartbeats 4000000 in
theorem pr1_org (v : Value) (y : List UInt8) (gb g : Nat) (r : Bool) (o : Tx) (nv : Value) (t : Tx) (w0 w : World) (hG0 : Glo w0) (hw0 : Below w0.heap.size w0 w) (hg0 : w0.heap.size ≤ g) (hv : IsB w v y) (hL : y.length ≤ 90000) (hp : Blk w gb 83 #[.pointer (some ⟨g, 0, none⟩)]) (hb : Blk w g 30 (nC r o nv t)) :
    Calls Tryz.prog 97 #[.int .i64 0, v, .pointer (some ⟨gb, 0, none⟩)] w (RetTx4 (textL y).isSome (rawT y) g (fun o => nC r o nv t) w) := by
  have H0 := Lib.hid (polTextO v y g r o nv t w0 w hG0 hw0 hg0 hv hL hb)
  obtain ⟨A, c, rfl⟩ := isB_slice hv
  have qp := hp.q
  have lp := hp.lt
  unfold RetTx4 at H0
  unfold RetTx4
  generalize (textL y).isSome = B at *
  generalize rawT y = T at *
  clear hv hb hL hp hG0 hw0 hg0
  go_enter Tryz.func97, Tryz.ntmps97
  go_wp2_with (((go_at_call 61); (with_reducible refine (H0.out).mono ?_); rintro e w1 ⟨rfl, h1, h2⟩))
  go_ret
  exact ⟨rfl, h1, h2⟩
def RetN2b (X : Nat → Prop) (y : List UInt8) (g : Nat) (r : Bool) (o t : Tx) (w : World) (e : Ending) (w' : World) : Prop :=
  ∃ (vo : Value) (cs : List (List UInt8)), e = .returned (.bool (numsOK y)) ∧ Blk w' g 30 (nC r o vo t) ∧ OwL repB X w' (g + 1) 32 vo cs ∧ (numsOK y = true → cs = rawNs y) ∧ Far g TpN w.heap.size w w'
set_option maxRecDepth 100000 in
set_option maxHeartbeats 4000000 in
theorem pr1_nums (i : Nat) (hi : i ≠ 0) (v : Value) (y : List UInt8) (X : Nat → Prop) (B gb g : Nat) (r : Bool) (o t : Tx) (w : World) (hO : Old B (GB v y) w) (hg : B ≤ g) (hgb : gb ≠ g) (hL : y.length ≤ 90000) (hp : Blk w gb 83 #[.pointer (some ⟨g, 0, none⟩)])
    (hb : Blk w g 30 (nC r o (.slice none 0 0) t)) (hX : ∀ b, w.heap.size ≤ b → X b) :
    Calls Tryz.prog 97 #[.int .i64 (i : Int), v, .pointer (some ⟨gb, 0, none⟩)] w (RetN2b X y g r o t w) := by
  have hv := (GB.old hO).2
  have HE := Lib.hid (pr11_each v y X B gb g r o t w hO hg hgb hL hp hb hX)
  obtain ⟨A, c, rfl⟩ := isB_slice hv
  have hn : ((i : Int) == 0) = false := beq_eq_false_iff_ne.2 (by omega)
  unfold RetN2e at HE
  simp only [errV] at HE
  unfold RetN2b
  generalize numsOK y = G at *
  generalize rawNs y = R at *
  clear hO hv hL hb hX hi hg hp
  go_enter Tryz.func97, Tryz.ntmps97
  go_wp2_with (((go_at_call 58); (with_reducible refine (HE.out).mono ?_); rintro e w1 ⟨ec, eo, vo, cs, rfl, hgd, hk, ho, hr, hf⟩; have hfd := fieldE ec eo; have HK := Lib.hid hk; have HO := Lib.hid ho; have HR := Lib.hid hr; have HF := Lib.hid hf; clear hk ho hr hf))
  go_ret
  exact ⟨vo, cs, rfl, HK.out, HO.out, HR.out, HF.out⟩
def InvR1 (X : Nat → Prop) (B gb g c : Nat) (t : Tx) (v : Value) (x : List UInt8) (ls : List (List UInt8)) (i : Nat) (w : World) : Prop :=
  c < w.heap.size ∧ Old B (GB v x) w ∧ Blk w gb 83 #[.pointer (some ⟨g, 0, none⟩)] ∧ (∀ b, w.heap.size ≤ b → X b) ∧ ∃ (o : Tx) (vo : Value) (cs : List (List UInt8)), Blk w g 30 (nC true o vo t) ∧ OwL repB (fun b => X b ∧ b ≠ c) w (g + 1) 32 vo cs ∧
    (i ≤ 1 → vo = .slice none 0 0 ∧ cs = []) ∧ (0 < i → o = rawT (ls.getD 0 [])) ∧ (1 < i → numsOK (ls.getD 1 []) = true → cs = rawNs (ls.getD 1 []))
def RetR1e (X : Nat → Prop) (x : List UInt8) (g : Nat) (t : Tx) (w : World) (e : Ending) (w' : World) : Prop :=
  ∃ (ec eo : Int) (o : Tx) (vo : Value) (cs : List (List UInt8)), e = .returned (errV (ec, eo)) ∧ (ec == 0) = refOK x ∧ Blk w' g 30 (nC true o vo t) ∧ OwL repB X w' (g + 1) 32 vo cs ∧ (refOK x = true → rawR x = (o, cs)) ∧ Far g TpN w.heap.size w w'
theorem pr1_each (v : Value) (x : List UInt8) (X : Nat → Prop) (B gb g : Nat) (o t : Tx) (w : World) (hO : Old B (GB v x) w) (hg : B ≤ g) (hgb : gb ≠ g) (hL : x.length ≤ 90000) (hp : Blk w gb 83 #[.pointer (some ⟨g, 0, none⟩)])
    (hb : Blk w g 30 (nC true o (.slice none 0 0) t)) (hX : ∀ b, w.heap.size ≤ b → X b) :
    Calls Tryz.prog 58 #[v, .int .i64 2, .int .i64 2, .func (.func 97) #[] #[.pointer (some ⟨gb, 0, none⟩)]] w (RetR1e X x g t w) := by
  have hv := (GB.old hO).2
  have hlt := hb.lt
  have hltp := hp.lt
  cases hls : eachL 2 2 x with
  | none =>
    have hgd : refOK x = false := by unfold refOK; rw [hls]
    refine (each_none v x 2 2 _ _ w hv (by omega) hls).mono fun e w' ⟨hb', ec, eo, h1, h2, h3, he⟩ => ⟨ec, eo, o, _, [], he, ?_, hb.call hb', OwL.nil_ _ _ _ _, fun h => ?_, Far.of_below hb'⟩
    · rw [hgd]; exact beq_eq_false_iff_ne.2 (by omega)
    · rw [hgd] at h; cases h
  | some ls =>
    obtain ⟨y0, y1, rfl⟩ : ∃ y0 y1, ls = [y0, y1] := by
      obtain ⟨_, h1, h2, _⟩ := eachL_ok hls
      match ls, h1, h2 with
      | [y0, y1], _, _ => exact ⟨y0, y1, rfl⟩
      | [], h, _ => simp at h
      | [_], h, _ => simp at h
      | _ :: _ :: _ :: _, _, h => simp at h
    have hgd : refOK x = ((textL y0).isSome && numsOK y1) := by unfold refOK; rw [hls]
    have hrw : rawR x = ((textL y0).getD tx0, rawNs y1) := by unfold rawR; rw [hls]
    have hgd2 : (List.range [y0, y1].length).all (fun i => if i = 0 then (textL y0).isSome else numsOK y1) = refOK x := by
      rw [hgd, show [y0, y1].length = 2 from rfl, show List.range 2 = [0, 1] from rfl]
      simp
    refine (each_some v x 2 2 97 #[.pointer (some ⟨gb, 0, none⟩)] w [y0, y1] (fun i => if i = 0 then (textL y0).isSome else numsOK y1) B g TpN (InvR1 X B gb g w.heap.size t v x [y0, y1]) hv (by omega) hls enR1 errNeN elNeN ?_ ?_ ?_ ?_).mono ?_
    · exact fun i W h => h.2.1.map fun _ h => h.2
    · exact fun W hW hs => ⟨hs, hO.below hW, hp.call hW, fun b hb => hX b (by omega), o, _, [], hb.call hW, OwL.nil_ _ _ _ _, fun _ => ⟨rfl, rfl⟩, fun h => absurd h (by decide), fun h => absurd h (by decide)⟩
    · rintro i W W' ⟨h0, h1, h2, h3, o', vo, cs, hk, ho, h4, h5, h6⟩ hf
      exact ⟨Nat.lt_of_lt_of_le h0 hf.size, h1.only hf (by omega), h2.only hf (by omega), fun b hb => h3 b (Nat.le_trans hf.size hb), o', vo, cs, hk.only hf (by omega), ho.only hf (fun _ _ h => h.2), h4, h5, h6⟩
    · rintro i hi W u ⟨h0, h1, h2, h3, o', vo, cs, hk, ho, h4, h5, h6⟩ hu
      have hi2 : i < 2 := hi
      have hul : ([y0, y1][i]).length ≤ 90000 := by have := eachL_part hls (List.getElem_mem hi); omega
      rcases (by omega : i = 0 ∨ i = 1) with rfl | rfl
      · obtain ⟨rfl, rfl⟩ := h4 (by decide)
        obtain ⟨w0, hg0, hw0, hb0⟩ := h1
        refine (pr1_org u y0 gb g true o' _ t w0 W hg0.1 hb0 (by omega) hu.now hul h2 hk).mono ?_
        rintro e w' ⟨rfl, k1, k2⟩
        have k3 := only_far (Tp := TpN) k2 hk (Nat.le_refl g) (.inl rfl)
        exact ⟨rfl, ⟨Nat.lt_of_lt_of_le h0 k2.size, (show Old B (GB v x) W from ⟨w0, hg0, hw0, hb0⟩).far k3 hg, h2.farR k3 h2.lt (.inr boxNeN), fun b hb => h3 b (Nat.le_trans k2.size hb), _, _, [], k1, OwL.nil_ _ _ _ _, fun _ => ⟨rfl, rfl⟩, fun _ => rfl, fun h => absurd h (by decide)⟩, k3⟩
      · obtain ⟨rfl, rfl⟩ := h4 (by decide)
        refine (pr1_nums 1 (by decide) u y1 (fun b => X b ∧ b ≠ w.heap.size) B gb g true o' t W ((h1.and hu (fun _ _ h hb => h.below hb) (fun _ _ h hb => h.below hb)).map fun _ h => ⟨h.1.1, h.2⟩) hg hgb hul h2 hk (fun b hb => ⟨h3 b hb, by omega⟩)).mono ?_
        rintro e w' ⟨vo', cs', rfl, k1, k2, k3, k4⟩
        exact ⟨rfl, ⟨Nat.lt_of_lt_of_le h0 k4.size, h1.far k4 hg, h2.farR k4 h2.lt (.inr boxNeN), fun b hb => h3 b (Nat.le_trans k4.size hb), o', vo', cs', k1, k2, fun h => absurd h (by decide), fun _ => h5 (by decide), fun _ => k3⟩, k4⟩
    · rintro e w' ⟨hf, ⟨hok, rfl, h0, _, _, _, o', vo, cs, hk, ho, h4, h5, h6⟩ | ⟨hok, ec, eo, h1, h2, h3, rfl, m, hm, h0, _, _, _, o', vo, cs, hk, ho, _, _, _⟩⟩
      · refine ⟨0, 0, o', vo, cs, rfl, by rw [← hgd2, hok]; rfl, hk, ho.weak (fun _ _ _ h => h.1), fun h => ?_, hf⟩
        rw [hgd, Bool.and_eq_true] at h
        obtain ⟨t0, e0⟩ := Option.isSome_iff_exists.1 h.1
        have h7 := h5 (by simp)
        have h8 := h6 (by simp) h.2
        simp only [List.getD_cons_zero, List.getD_cons_succ] at h7 h8
        rw [hrw, h8, h7, e0, rawT_of e0]
        rfl
      · rw [hgd2] at hok
        exact ⟨ec, eo, o', vo, cs, rfl, by rw [hok]; exact beq_eq_false_iff_ne.2 (by omega), hk, ho.weak (fun _ _ _ h => h.1), fun h => (by rw [hok] at h; cases h), hf⟩
def RetR (X : Nat → Prop) (x : List UInt8) (g : Nat) (t : Tx) (w : World) (e : Ending) (w' : World) : Prop :=
  ∃ (o : Tx) (vo : Value) (cs : List (List UInt8)), e = .returned (.bool (refOK x)) ∧ Blk w' g 30 (nC true o vo t) ∧ OwL repB X w' (g + 1) 32 vo cs ∧ (refOK x = true → rawR x = (o, cs)) ∧ Far g TpN w.heap.size w w'
set_option maxRecDepth 100000 in
set_option maxHeartbeats 4000000 in
theorem polRef (v : Value) (x : List UInt8) (X : Nat → Prop) (B g : Nat) (r : Bool) (o t : Tx) (w : World) (hO : Old B (GB v x) w) (hg : B ≤ g) (hL : x.length ≤ 90000)
    (hb : Blk w g 30 (nC r o (.slice none 0 0) t)) (hX : ∀ b, w.heap.size ≤ b → X b) :
    Calls Tryz.prog 60 #[v, .pointer (some ⟨g, 0, none⟩)] w (RetR X x g t w) := by
  have hv := (GB.old hO).2
  have lg := hb.lt
  have qg : w.cell? ⟨g, 0, none⟩ = some (.bool r) := (hb.q 0).trans rfl
  have fg := hb.fz
  have hsz : (w.setCell ⟨g, 0, none⟩ (.bool true)).heap.size = w.heap.size := by simp [World.setCell]
  have hF0 : Far g TpN w.heap.size w ((w.setCell ⟨g, 0, none⟩ (.bool true)).alloc (.cells #[.pointer (some ⟨g, 0, none⟩)] 83)) := ((Far.refl g TpN w.heap.size w).setRow (p := ⟨g, 0, none⟩) hb (Nat.le_refl _) (.inl rfl) _).alloc (by rw [hsz]; exact Nat.le_refl _) _
  have HE := Lib.hid (pr1_each v x X B w.heap.size g o t ((w.setCell ⟨g, 0, none⟩ (.bool true)).alloc (.cells #[.pointer (some ⟨g, 0, none⟩)] 83)) (hO.far hF0 hg) hg (by omega) hL (blk_in hsz.symm) ((hb.set_ 0 _).alloc _) (fun b hb => hX b (by simp [World.setCell] at hb; omega)))
  have HF0 := Lib.hid hF0
  obtain ⟨A, k, rfl⟩ := isB_slice hv
  unfold RetR1e at HE
  simp only [errV] at HE
  unfold RetR
  generalize refOK x = G at *
  generalize rawR x = R at *
  clear hO hg hL hb hv hX hF0 hsz
  go_enter Tryz.func60, Tryz.ntmps60
  go_wp2_with (((go_at_call 58); (with_reducible refine (HE.out).mono ?_); rintro e w1 ⟨ec, eo, o1, vo, cs, rfl, hgd, hk1, ho1, hrw, hf1⟩; have hfd := fieldE ec eo; have HK1 := Lib.hid hk1; have HO1 := Lib.hid ho1; have HRW := Lib.hid hrw; have HF1 := Lib.hid hf1; clear hk1 ho1 hrw hf1))
  refine bodyPost_ret (v := .bool G) (by simp only [results, Tryz.results60]; go_simp) rfl ?_
  exact ⟨o1, vo, cs, rfl, HK1.out, HO1.out, HRW.out, HF0.out.far HF1.out HF0.out.size⟩
end Go.Proofs.YtjjkimjdmpeddaaGreatDoor
end

/- Walk over policy.text: the text of a notice. -/
section
set_option linter.unusedSimpArgs false
set_option linter.unusedVariables false
namespace Go.Proofs.YtjjkimjdmpeddaaGreatDoor
open Go.RowKit Go.Cr
set_option maxRecDepth 100000 in
set_option maxHeartbeats 8000000 in
theorem polTextT_no (v : Value) (b : List UInt8) (g : Nat) (r : Bool) (o : Tx) (nv : Value) (t0 : Tx) (w0 w : World) (hG0 : Glo w0) (hw0 : Below w0.heap.size w0 w) (hg0 : w0.heap.size ≤ g) (hv : IsB w v b) (hL : b.length ≤ 90000) (hb : Blk w g 30 (nC r o nv t0)) (h : strD b = none) :
    Calls Tryz.prog 61 #[v, .pointer (some ⟨g, 4, none⟩)] w (RetTx4 false tx0 g (fun t => nC r o nv t) w) := by
  have HS : Hid (∀ W, Glo W → IsB W v b → Calls Tryz.prog 100 #[v] W (RetStr none W)) := fun W g hb => by have := string_any v b W g hb (by omega) (fun x _ => kindOk_all x.num); rwa [h] at this
  obtain ⟨ok, os⟩ := o
  obtain ⟨tk, ts⟩ := t0
  have HG := Lib.hid (hG0.below hw0)
  have HV := Lib.hid hv
  have HB := Lib.hid hb
  have lg := hb.lt
  unfold RetStr at HS
  simp only [txV] at HS
  obtain ⟨A, kk, rfl⟩ := isB_slice hv
  clear hG0 hw0 hv hL hb h
  go_enter Tryz.func61, Tryz.ntmps61
  go_wp2_with (((go_at_call 100); (with_reducible refine (HS.out _ HG.out HV.out).mono ?_); rintro e w1 ⟨rfl, hb1⟩; have J1 := HB.out.call hb1; have q4 : w1.cell? ⟨g, 4, none⟩ = some (.int .i64 tk) := (J1.q 4).trans rfl; have q5 : w1.cell? ⟨g, 5, none⟩ = some (.string ts) := (J1.q 5).trans rfl; have f4 := J1.fz 4; have f5 := J1.fz 5; have l1 := J1.lt; have HJ1 := Lib.hid J1; clear J1))
  refine bodyPost_ret (v := .bool false) (by simp only [results, Tryz.results61]; go_simp) rfl ?_
  exact ⟨rfl, ((HJ1.out.set_ 4 _).set_ 5 _).alloc _, (((Only.of_below hb1).set (p := ⟨g, 4, none⟩) rfl (.int .i64 0)).set (p := ⟨g, 5, none⟩) rfl (.string ⟨#[]⟩)).thenB ((Below.refl _ _).alloc (by simpa [World.setCell] using hb1.size) _)⟩
set_option maxRecDepth 100000 in
set_option maxHeartbeats 8000000 in
theorem polTextT_yes (v : Value) (b : List UInt8) (g : Nat) (r : Bool) (o : Tx) (nv : Value) (t0 : Tx) (w0 w : World) (hG0 : Glo w0) (hw0 : Below w0.heap.size w0 w) (hg0 : w0.heap.size ≤ g) (hv : IsB w v b) (hL : b.length ≤ 90000) (hb : Blk w g 30 (nC r o nv t0)) (k : Int) (s : List UInt8) (h : strD b = some (k, s)) :
    Calls Tryz.prog 61 #[v, .pointer (some ⟨g, 4, none⟩)] w (RetTx4 (dispT k s) (k, bStr s) g (fun t => nC r o nv t) w) := by
  have HS : Hid (∀ W, Glo W → IsB W v b → Calls Tryz.prog 100 #[v] W (RetStr (some (k, s)) W)) := fun W g hb => by have := string_any v b W g hb (by omega) (fun x _ => kindOk_all x.num); rwa [h] at this
  have hsl := strD_len (by omega) h
  have HD : Hid (∀ W, Glo W → Calls Tryz.prog 52 #[.agg #[.int .i64 k, .string (bStr s)]] W (RetB (.bool (dispT k s)) W)) := fun W g => by have := polDisplay k (bStr s) W g (by show s.toArray.size ≤ _; simp; omega); rwa [bStr_list] at this
  obtain ⟨ok, os⟩ := o
  obtain ⟨tk, ts⟩ := t0
  have HG0 := Lib.hid hG0
  have HW0 := Lib.hid hw0
  have HG := Lib.hid (hG0.below hw0)
  have HV := Lib.hid hv
  have HB := Lib.hid hb
  have lg := hb.lt
  unfold RetStr at HS
  simp only [txV, Option.isSome_some] at HS
  obtain ⟨A, kk, rfl⟩ := isB_slice hv
  clear hG0 hw0 hv hL hb h hsl
  generalize bStr s = S at *
  generalize dispT k s = D at *
  go_enter Tryz.func61, Tryz.ntmps61
  go_wp2_with (first | ((go_at_call 100); (with_reducible refine (HS.out _ HG.out HV.out).mono ?_); rintro e w1 ⟨rfl, hb1⟩; have J1 := HB.out.call hb1; have q4 : w1.cell? ⟨g, 4, none⟩ = some (.int .i64 tk) := (J1.q 4).trans rfl; have q5 : w1.cell? ⟨g, 5, none⟩ = some (.string ts) := (J1.q 5).trans rfl; have f4 := J1.fz 4; have f5 := J1.fz 5; have l1 := J1.lt; have HJ1 := Lib.hid J1; clear J1; have HW1 := Lib.hid (((HW0.out.trans (hb1.mono HW0.out.size)).setCell (p := ⟨g, 4, none⟩) hg0 (.int .i64 k)).setCell (p := ⟨g, 5, none⟩) hg0 (.string S))) | ((go_at_call 52); (with_reducible refine (HD.out _ (HG0.out.below (HW1.out.alloc HW1.out.size _))).mono ?_); rintro e w2 ⟨rfl, hb2⟩))
  refine bodyPost_ret (v := .bool D) (by simp only [results, Tryz.results61]; go_simp) rfl ?_
  exact ⟨rfl, (((HJ1.out.set_ 4 _).set_ 5 _).alloc _).call hb2, ((((Only.of_below hb1).set (p := ⟨g, 4, none⟩) rfl (.int .i64 k)).set (p := ⟨g, 5, none⟩) rfl (.string S)).thenB ((Below.refl _ _).alloc (by simpa [World.setCell] using hb1.size) _)).thenB (hb2.mono (by have := hb1.size; simp [World.setCell]; omega))⟩
theorem polTextT (v : Value) (b : List UInt8) (g : Nat) (r : Bool) (o : Tx) (nv : Value) (t0 : Tx) (w0 w : World) (hG0 : Glo w0) (hw0 : Below w0.heap.size w0 w) (hg0 : w0.heap.size ≤ g) (hv : IsB w v b) (hL : b.length ≤ 90000) (hb : Blk w g 30 (nC r o nv t0)) :
    Calls Tryz.prog 61 #[v, .pointer (some ⟨g, 4, none⟩)] w (RetTx4 (textL b).isSome (rawT b) g (fun t => nC r o nv t) w) := by
  cases h : strD b with
  | none =>
    rw [(textL_none h).1, (textL_none h).2]
    exact polTextT_no v b g r o nv t0 w0 w hG0 hw0 hg0 hv hL hb h
  | some x =>
    obtain ⟨k, s⟩ := x
    rw [(textL_some h).1, (textL_some h).2]
    exact polTextT_yes v b g r o nv t0 w0 w hG0 hw0 hg0 hv hL hb k s h
end Go.Proofs.YtjjkimjdmpeddaaGreatDoor
end

/- Walks over policy.ParseNotice: its closure. -/
section
set_option linter.unusedSimpArgs false
set_option linter.unusedVariables false
namespace Go.Proofs.YtjjkimjdmpeddaaGreatDoor
open Go.RowKit Go.Cr
set_option maxRecDepth 100000 in
set_option maxHeartbeats 4000000 in
theorem pn1_ref (v : Value) (x : List UInt8) (X : Nat → Prop) (B g : Nat) (r : Bool) (o t : Tx) (w : World) (hO : Old B (GB v x) w) (hg : B ≤ g) (hL : x.length ≤ 90000) (h2 : 2 ≤ x.length) (hs : isSeq x = true)
    (hb : Blk w g 30 (nC r o (.slice none 0 0) t)) (hX : ∀ b, w.heap.size ≤ b → X b) :
    Calls Tryz.prog 59 #[.int .i64 0, v, .pointer (some ⟨g, 0, none⟩)] w (RetR X x g t w) := by
  have hv := (GB.old hO).2
  have HE := Lib.hid (polRef v x X B g r o t w hO hg hL hb hX)
  obtain ⟨b0, o0, hi0, hl0, hc0⟩ := hv.at_ (P := Tryz.prog) ulB szB .i64 (i := 0) (by omega) (by omega)
  have h48 : bat x 0 = 48 := of_decide_eq_true hs
  simp only [Int.toNat_zero] at hc0
  rw [h48] at hc0
  obtain ⟨A, k, rfl⟩ := isB_slice hv
  unfold RetR at HE
  unfold RetR
  generalize refOK x = G at *
  generalize rawR x = R at *
  clear hO hg hL hb hv hX hs h48
  go_enter Tryz.func59, Tryz.ntmps59
  go_wp2_with (((go_at_call 60); (with_reducible refine (HE.out).mono ?_); rintro e w1 ⟨o1, vo, cs, rfl, h1, h2, h3, h4⟩))
  go_ret
  exact ⟨o1, vo, cs, rfl, h1, h2, h3, h4⟩
set_option maxRecDepth 100000 in
set_option maxHeartbeats 4000000 in
theorem pn1_txt (i : Nat) (v : Value) (x : List UInt8) (g : Nat) (r : Bool) (o : Tx) (nv : Value) (w0 w : World) (hG0 : Glo w0) (hw0 : Below w0.heap.size w0 w) (hg0 : w0.heap.size ≤ g) (hv : IsB w v x) (hL : x.length ≤ 90000) (h2 : 2 ≤ x.length) (hs : i ≠ 0 ∨ isSeq x = false)
    (hb : Blk w g 30 (nC r o nv tx0)) :
    Calls Tryz.prog 59 #[.int .i64 (i : Int), v, .pointer (some ⟨g, 0, none⟩)] w (RetTx4 (textL x).isSome (rawT x) g (fun t => nC r o nv t) w) := by
  have HE := Lib.hid (polTextT v x g r o nv tx0 w0 w hG0 hw0 hg0 hv hL hb)
  obtain ⟨b0, o0, hi0, hl0, hc0⟩ := hv.at_ (P := Tryz.prog) ulB szB .i64 (i := 0) (by omega) (by omega)
  simp only [Int.toNat_zero] at hc0
  obtain ⟨A, k, rfl⟩ := isB_slice hv
  have q4 : w.cell? ⟨g, 4, none⟩ = some (.int .i64 0) := (hb.q 4).trans rfl
  have q5 : w.cell? ⟨g, 5, none⟩ = some (.string ⟨#[]⟩) := (hb.q 5).trans rfl
  have he0 := strEq0 ⟨#[]⟩
  have lg := hb.lt
  unfold RetTx4 at HE
  unfold RetTx4
  by_cases hi : i = 0
  · have h48 : (bat x 0 == 48) = false := by
      rcases hs with h | h
      · exact absurd hi h
      · exact beq_eq_false_iff_ne.2 (of_decide_eq_false h)
    have hii : (i : Int) = 0 := by omega
    rw [hii]
    generalize (textL x).isSome = G at *
    generalize rawT x = R at *
    generalize bat x 0 = x0 at *
    clear hG0 hw0 hg0 hL hb hv hs hi hii
    go_enter Tryz.func59, Tryz.ntmps59
    go_wp2_with (((go_at_call 61); (with_reducible refine (HE.out).mono ?_); rintro e w1 ⟨rfl, h1, h2⟩))
    go_ret
    exact ⟨rfl, h1, h2⟩
  · have hn : ((i : Int) == 0) = false := beq_eq_false_iff_ne.2 (by omega)
    generalize (textL x).isSome = G at *
    generalize rawT x = R at *
    clear hG0 hw0 hg0 hL hb hv hs hi hc0 hi0 hl0
    go_enter Tryz.func59, Tryz.ntmps59
    go_wp2_with (((go_at_call 61); (with_reducible refine (HE.out).mono ?_); rintro e w1 ⟨rfl, h1, h2⟩))
    go_ret
    exact ⟨rfl, h1, h2⟩
set_option maxRecDepth 100000 in
set_option maxHeartbeats 4000000 in
theorem pn1_no (i : Nat) (hi : i ≠ 0) (v : Value) (x : List UInt8) (g : Nat) (r : Bool) (o : Tx) (nv : Value) (t : Tx) (w : World) (hv : IsB w v x) (ht : t ≠ tx0)
    (hb : Blk w g 30 (nC r o nv t)) :
    Calls Tryz.prog 59 #[.int .i64 (i : Int), v, .pointer (some ⟨g, 0, none⟩)] w (RetB (.bool false) w) := by
  obtain ⟨A, k, rfl⟩ := isB_slice hv
  have lg := hb.lt
  have hn : ((i : Int) == 0) = false := beq_eq_false_iff_ne.2 (by omega)
  obtain ⟨tk, ts⟩ := t
  have q4 : w.cell? ⟨g, 4, none⟩ = some (.int .i64 tk) := (hb.q 4).trans rfl
  have q5 : w.cell? ⟨g, 5, none⟩ = some (.string ts) := (hb.q 5).trans rfl
  by_cases hk : tk = 0
  · subst hk
    have hts : ts.toList ≠ [] := by
      intro h
      rw [ByteArray.toList_eq] at h
      apply ht
      obtain ⟨⟨x⟩⟩ := ts
      simp at h
      rw [h]
      rfl
    have hts2 : decide (ts.toList = []) = false := decide_eq_false hts
    have hts3 : (ts.toList == []) = false := beq_eq_false_iff_ne.2 hts
    clear hv ht hb hi
    go_enter Tryz.func59, Tryz.ntmps59
    go_wp2_with fail
    go_ret
    exact ⟨rfl, Below.refl _ _⟩
  · have hkk : (tk == 0) = false := beq_eq_false_iff_ne.2 hk
    clear hv ht hb hi
    go_enter Tryz.func59, Tryz.ntmps59
    go_wp2_with fail
    go_ret
    exact ⟨rfl, Below.refl _ _⟩
def InvN1 (B g c : Nat) (v : Value) (b : List UInt8) (ls : List (List UInt8)) (i : Nat) (w : World) : Prop :=
  c < w.heap.size ∧ Old B (GB v b) w ∧ ∃ (n : Ntc) (vo : Value), Blk w g 30 (nC n.ref n.org vo n.text) ∧ OwL repB (fun b => b ≠ c) w (g + 1) 32 vo n.nums ∧
    (i = 0 → n = ⟨false, tx0, [], tx0⟩ ∧ vo = .slice none 0 0) ∧ (i = 1 → n.text = tAt1 ls) ∧ ((∀ j, j < i → goodN ls j = true) → n = finN ls i)
def RetN1e (b : List UInt8) (g : Nat) (w : World) (e : Ending) (w' : World) : Prop :=
  ∃ (ec eo : Int) (n : Ntc) (A : Option Addr) (k : Nat), e = .returned (errV (ec, eo)) ∧ Blk w' g 30 (nC n.ref n.org (.slice A n.nums.length k) n.text) ∧ OwL repB (fun _ => True) w' (g + 1) 32 (.slice A n.nums.length k) n.nums ∧ Far g TpN w.heap.size w w' ∧
    0 ≤ eo ∧ eo ≤ b.length ∧ ((ec = 0 ∧ eo = 0 ∧ preN b = some n) ∨ (0 < ec ∧ preN b = none))
theorem pn1_each (v : Value) (b : List UInt8) (B g : Nat) (w : World) (hO : Old B (GB v b) w) (hg : B ≤ g) (hL : b.length ≤ 90000) (hb : Blk w g 30 (nC false tx0 (.slice none 0 0) tx0)) :
    Calls Tryz.prog 58 #[v, .int .i64 0, .int .i64 2, .func (.func 59) #[] #[.pointer (some ⟨g, 0, none⟩)]] w (RetN1e b g w) := by
  have hv := (GB.old hO).2
  have hlt := hb.lt
  cases hls : eachL 0 2 b with
  | none =>
    refine (each_none v b 0 2 _ _ w hv (by omega) hls).mono fun e w' ⟨hb', ec, eo, h1, h2, h3, he⟩ => ⟨ec, eo, ⟨false, tx0, [], tx0⟩, none, 0, he, hb.call hb', OwL.nil_ _ _ _ _, Far.of_below hb', h2, h3, .inr ⟨h1, preN_none hls⟩⟩
  | some ls =>
    obtain ⟨p1, p2⟩ := preN_some hls
    have hn2 : ls.length ≤ 2 := (eachL_ok hls).2.2.1
    have hone := (eachL_ok hls).2.2.2
    refine (each_some v b 0 2 59 #[.pointer (some ⟨g, 0, none⟩)] w ls (goodN ls) B g TpN (InvN1 B g w.heap.size v b ls) hv (by omega) hls enN1 errNeN elNeN ?_ ?_ ?_ ?_).mono ?_
    · exact fun i W h => h.2.1.map fun _ h => h.2
    · exact fun W hW hs => ⟨hs, hO.below hW, ⟨false, tx0, [], tx0⟩, _, hb.call hW, OwL.nil_ _ _ _ _, fun _ => ⟨rfl, rfl⟩, fun h => absurd h (by decide), fun _ => rfl⟩
    · rintro i W W' ⟨h0, h1, n, vo, hk, ho, h4, h5, h6⟩ hf
      exact ⟨Nat.lt_of_lt_of_le h0 hf.size, h1.only hf (by omega), n, vo, hk.only hf (by omega), ho.only hf (fun _ _ h => h), h4, h5, h6⟩
    · rintro i hi W u ⟨h0, h1, n, vo, hk, ho, h4, h5, h6⟩ hu
      have hul : ls[i].length ≤ 90000 := by have := eachL_part hls (List.getElem_mem hi); omega
      have hgi : ls.getD i [] = ls[i] := by simp [hi]
      have hl2 : 2 ≤ ls[i].length := by
        obtain ⟨x, hx⟩ := hone _ (List.getElem_mem hi)
        have := one_two hx
        omega
      have hpair : Old B (fun a => GB v b a ∧ IsB a u ls[i]) W := h1.and hu (fun _ _ h hb => h.below hb) (fun _ _ h hb => h.below hb)
      rcases (by omega : i = 0 ∨ i = 1) with rfl | rfl
      · obtain ⟨rfl, rfl⟩ := h4 rfl
        cases hs : isSeq ls[0] with
        | true =>
          refine (pn1_ref u _ (fun b => b ≠ w.heap.size) B g false tx0 tx0 W (hpair.map fun _ h => ⟨h.1.1, h.2⟩) hg hul hl2 hs hk (fun b hb => by omega)).mono ?_
          rintro e w' ⟨o', vo', cs', rfl, k1, k2, k3, k4⟩
          have hgood : goodN ls 0 = refOK ls[0] := by unfold goodN; rw [if_pos rfl, hgi, hs]; rfl
          refine ⟨by rw [hgood], ⟨Nat.lt_of_lt_of_le h0 k4.size, h1.far k4 hg, ⟨true, o', cs', tx0⟩, vo', k1, k2, fun h => absurd h (by decide), fun _ => by unfold tAt1; rw [hgi, hs]; rfl, fun hj => ?_⟩, k4⟩
          have h7 := hj 0 (by decide)
          rw [hgood] at h7
          have h8 := k3 h7
          unfold finN
          rw [hgi, hs, h8]
          rfl
        | false =>
          obtain ⟨w0, hg0, hw0, hb0⟩ := h1
          refine (pn1_txt 0 u _ g false tx0 _ w0 W hg0.1 hb0 (by omega) hu.now hul hl2 (.inr hs) hk).mono ?_
          rintro e w' ⟨rfl, k1, k2⟩
          have k3 := only_far (Tp := TpN) k2 hk (Nat.le_refl g) (.inl rfl)
          have hgood : goodN ls 0 = (textL ls[0]).isSome := by unfold goodN; rw [if_pos rfl, hgi, hs]; rfl
          refine ⟨by rw [hgood], ⟨Nat.lt_of_lt_of_le h0 k2.size, (show Old B (GB v b) W from ⟨w0, hg0, hw0, hb0⟩).far k3 hg, ⟨false, tx0, [], rawT ls[0]⟩, _, k1, OwL.nil_ _ _ _ _, fun h => absurd h (by decide), fun _ => by unfold tAt1; rw [hgi, hs]; rfl, fun hj => ?_⟩, k3⟩
          unfold finN
          rw [hgi, hs]
          rfl
      · have ht := h5 rfl
        by_cases h9 : tAt1 ls = tx0
        · rw [h9] at ht
          obtain ⟨nr, no, nn, nt⟩ := n
          simp only at ht hk ho
          subst ht
          obtain ⟨w0, hg0, hw0, hb0⟩ := h1
          refine (pn1_txt 1 u _ g nr no vo w0 W hg0.1 hb0 (by omega) hu.now hul hl2 (.inl (by decide)) hk).mono ?_
          rintro e w' ⟨rfl, k1, k2⟩
          have k3 := only_far (Tp := TpN) k2 hk (Nat.le_refl g) (.inl rfl)
          have hgood : goodN ls 1 = (textL ls[1]).isSome := by unfold goodN; rw [if_neg (by decide), hgi, decide_eq_true h9]; rfl
          refine ⟨by rw [hgood], ⟨Nat.lt_of_lt_of_le h0 k2.size, (show Old B (GB v b) W from ⟨w0, hg0, hw0, hb0⟩).far k3 hg, ⟨nr, no, nn, rawT ls[1]⟩, _, k1, ho.keep k2.size (fun b hb hb1 _ => k2.block b hb (by omega)), fun h => absurd h (by decide), fun h => absurd h (by decide), fun hj => ?_⟩, k3⟩
          have h7 := h6 fun j hj' => hj j (by omega)
          unfold finN at h7 ⊢
          rw [hgi]
          cases hs : isSeq (ls.getD 0 []) with
          | true =>
            rw [hs] at h7
            simp only [if_true, Ntc.mk.injEq] at h7 ⊢
            exact ⟨h7.1, h7.2.1, h7.2.2.1, trivial⟩
          | false =>
            rw [hs] at h7
            simp only [Bool.false_eq_true, if_false, Ntc.mk.injEq] at h7 ⊢
            exact ⟨h7.1, h7.2.1, h7.2.2.1, trivial⟩
        · have hgood : goodN ls 1 = false := by unfold goodN; rw [if_neg (by decide), decide_eq_false h9]; rfl
          refine (pn1_no 1 (by decide) u _ g n.ref n.org vo n.text W hu.now (by rw [ht]; exact h9) hk).mono ?_
          rintro e w' ⟨rfl, k1⟩
          refine ⟨by rw [hgood], ⟨Nat.lt_of_lt_of_le h0 k1.size, h1.below k1, n, vo, hk.call k1, ho.below k1, fun h => absurd h (by decide), fun h => absurd h (by decide), fun hj => ?_⟩, Far.of_below k1⟩
          have := hj 1 (by decide)
          rw [hgood] at this
          cases this
    · rintro e w' ⟨hf, ⟨hok, rfl, h0, _, n, vo, hk, ho, h4, h5, h6⟩ | ⟨hok, ec, eo, h1, h2, h3, rfl, m, hm, h0, _, n, vo, hk, ho, _, _, _⟩⟩
      · obtain ⟨A, k, rfl⟩ := ho.slice
        refine ⟨0, 0, n, A, k, rfl, hk, ho.weak (fun _ _ _ _ => trivial), hf, by omega, by omega, .inl ⟨rfl, rfl, ?_⟩⟩
        rw [p2 hok, h6 fun j hj => List.all_eq_true.1 hok j (by simpa using hj)]
      · obtain ⟨A, k, rfl⟩ := ho.slice
        refine ⟨ec, eo, n, A, k, rfl, hk, ho.weak (fun _ _ _ _ => trivial), hf, h2, h3, .inr ⟨h1, ?_⟩⟩
        rw [hok] at p1
        cases hp : preN b with
        | none => rfl
        | some n => rw [hp] at p1; cases p1
end Go.Proofs.YtjjkimjdmpeddaaGreatDoor
end
