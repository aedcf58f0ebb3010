/- What is written is read back; elements one behind another are found. No program in sight. -/
import Derived.Test.YtecbphbnacbepaaSpecH
import Derived.Test.YtecbphbnacbepaaEnc
set_option linter.unusedSimpArgs false
set_option linter.unusedVariables false
namespace Go.Cr
open Go.RowKit Go.Proofs.Ytecbphbnacbepaa

theorem bat_app (l r : List UInt8) (j : Nat) (hj : j < l.length) : bat (l ++ r) j = bat l j := by simp [bat, List.getElem?_append_left hj]

theorem rdLen_app {l : List UInt8} {n k : Int} (r : List UInt8) (h : rdLen l = .ok (n, k)) : rdLen (l ++ r) = .ok (n, k) := by
  have hb := rdLen_ok h
  have h0 := bat_lt l 0
  have h1 := bat_pos l 0
  have hba : ∀ j, j < l.length → bat (l ++ r) j = bat l j := fun j hj => bat_app l r j hj
  unfold rdLen at h ⊢
  have hL : (l ++ r).length = l.length + r.length := List.length_append
  rw [hba 0 (by omega)]
  split at h
  · cases h
  rw [if_neg (by omega)]
  split at h
  · rename_i c2; rw [if_pos c2]; exact h
  rename_i c2
  rw [if_neg c2]
  split at h
  · cases h
  rename_i c3
  rw [if_neg c3]
  split at h
  · cases h
  rename_i c4
  split at h
  · cases h
  rename_i c5
  injection h with h
  injection h with h2 h3
  rw [if_neg (by omega)]
  have e2 : ((l ++ r).drop 1).take (bat l 0 - 128).toNat = (l.drop 1).take (bat l 0 - 128).toNat := by
    rw [List.drop_append_of_le_length (by omega), List.take_append_of_le_length (by rw [List.length_drop]; omega)]
  rw [hba 1 (by omega), e2, if_neg c5, h2, h3]
theorem rdHdr_app {l : List UInt8} {h : Hdr} (r : List UInt8) (e : rdHdr l = .ok h) : rdHdr (l ++ r) = .ok h := by
  have hb := rdHdr_ok e
  have hba : bat (l ++ r) 0 = bat l 0 := bat_app l r 0 (by omega)
  have hL : (l ++ r).length = l.length + r.length := List.length_append
  unfold rdHdr at e ⊢
  rw [hba]
  split at e
  · cases e
  rw [if_neg (by omega)]
  split at e
  · cases e
  rename_i c2
  rw [if_neg c2]
  split at e
  · cases e
  · rename_i n k hr
    injection e with e
    subst e
    rw [List.drop_append_of_le_length (by omega), rdLen_app r hr]
theorem rdLen_enc (n : Nat) (r : List UInt8) (hn : n ≤ 2147483647) : rdLen (lenOct n ++ r) = .ok (n, (lenOct n).length) := by
  unfold lenOct
  by_cases h : n < 128
  · rw [if_pos h]
    have h1 : minF 7 n = [UInt8.ofNat n] := by simp only [minF]; rw [if_pos (by omega)]
    rw [h1]
    have hb : bat ([UInt8.ofNat n] ++ r) 0 = n := by rw [List.cons_append, bat_cons_zero, bi_ofNat]; omega
    unfold rdLen
    rw [hb, if_neg (by simp), if_pos (by omega)]
    rfl
  · rw [if_neg h]
    have h1 : minF 7 n = minF 3 n := minF_fuel 3 4 n (by have : (256 : Nat) ^ (3 + 1) = 4294967296 := by decide
                                                         omega)
    have h2 := minF_len 3 n
    have h3 := minF_be 3 n (by have : (256 : Nat) ^ (3 + 1) = 4294967296 := by decide
                               omega)
    have h4 := minF_head 3 n (by have : (256 : Nat) ^ (3 + 1) = 4294967296 := by decide
                                 omega) (by omega)
    rw [h1]
    generalize minF 3 n = m at *
    have hb : bat (UInt8.ofNat (128 + m.length) :: m ++ r) 0 = 128 + m.length := by rw [List.cons_append, bat_cons_zero, bi_ofNat]; omega
    have hb1 : bat (UInt8.ofNat (128 + m.length) :: m ++ r) 1 = bat m 0 := by
      rw [List.cons_append, bat_cons_succ]; exact bat_app m r 0 (by omega)
    have hbe : (((UInt8.ofNat (128 + m.length) :: m ++ r)).drop 1).take (128 + (m.length : Int) - 128).toNat = m := by
      rw [List.cons_append, List.drop_succ_cons, List.drop_zero, show (128 + (m.length : Int) - 128).toNat = m.length by omega, List.take_left]
    have hL : (UInt8.ofNat (128 + m.length) :: m ++ r).length = 1 + m.length + r.length := by simp; omega
    unfold rdLen
    rw [hb, hb1, hbe, h3, if_neg (by omega), if_neg (by omega), if_neg (by omega), if_neg (by omega), if_neg (by omega)]
    simp only [List.length_cons]
    congr 2; omega
theorem rdHdr_enc (c n : Int) (k : Bool) (l r : List UInt8) (h : 0 ≤ c) (h1 : c ≤ 3) (h2 : 0 ≤ n) (h3 : n < 31) (hl : l.length ≤ 2147483647) :
    rdHdr (encO c k n l ++ r) = .ok ⟨c, n, k, l.length, 1 + (lenOct l.length).length⟩ := by
  have hb : bat (encO c k n l ++ r) 0 = c * 64 + n + if k then 32 else 0 := by
    unfold encO; rw [List.cons_append, bat_cons_zero, idB_bi c k n h h1 h2 h3]
  have hd : (encO c k n l ++ r).drop 1 = lenOct l.length ++ (l ++ r) := by
    unfold encO; rw [List.cons_append, List.drop_succ_cons, List.drop_zero, List.append_assoc]
  unfold rdHdr
  rw [hb, hd, rdLen_enc _ _ hl, if_neg (by unfold encO; simp)]
  cases k with
  | true =>
    simp only [if_true]
    rw [if_neg (by omega)]
    congr 2
    · omega
    · omega
    · exact decide_eq_true (by omega)
  | false =>
    simp only [Bool.false_eq_true, if_false]
    rw [if_neg (by omega)]
    congr 2
    · omega
    · omega
    · exact decide_eq_false (by omega)
theorem encO_len (c n : Int) (k : Bool) (l : List UInt8) : (encO c k n l).length = 1 + (lenOct l.length).length + l.length := by unfold encO; simp; omega
theorem oneE_enc (c n : Int) (k : Bool) (l : List UInt8) (h : 0 ≤ c) (h1 : c ≤ 3) (h2 : 0 ≤ n) (h3 : n < 31) (hl : l.length ≤ 2147483647) :
    oneE (encO c k n l) = .ok ⟨c, n, k, 0, 1 + (lenOct l.length).length, (encO c k n l).length⟩ := by
  have hh := rdHdr_enc c n k l [] h h1 h2 h3 hl
  rw [List.append_nil] at hh
  have hL := encO_len c n k l
  rw [oneE_H]
  unfold nextH
  rw [hh]
  simp only
  rw [if_neg (by omega)]
  simp only
  rw [if_neg (by omega)]
theorem oneE_hdr {p : List UInt8} {x : Elem} (h : oneE p = .ok x) : ∃ hd, rdHdr p = .ok hd ∧ hd.size + hd.len = p.length := by
  rw [oneE_H] at h
  split at h
  · cases h
  · rename_i hd hn
    have hb := nextH_ok hn
    unfold nextH at hn
    split at hn
    · cases hn
    · rename_i hd' hr
      split at hn
      · cases hn
      · injection hn with hn
        subst hn
        split at h
        · cases h
        · exact ⟨hd', hr, by omega⟩
theorem listAcc_parts {L : List UInt8} {e : Int} (h2 : e ≤ L.length) : ∀ (ls : List (List UInt8)) (k : Nat) (acc : List Elem) (a : Int), (∀ p ∈ ls, ∃ x, oneE p = .ok x) → 0 ≤ a → a ≤ e → seg L a e = ls.flatten → e - a ≤ k →
    ∃ ys, listAcc L k acc a e = .ok (acc ++ ys) ∧ ys.length = ls.length := by
  intro ls
  induction ls with
  | nil =>
    intro k acc a _ h0 h1 hs hk
    have hl := seg_len L a e h0 h1 h2
    rw [hs] at hl
    simp at hl
    exact ⟨[], by rw [listAcc_done _ _ _ _ _ (by omega)]; simp, rfl⟩
  | cons p ls ih =>
    intro k acc a hall h0 h1 hs hk
    obtain ⟨x, hx⟩ := hall p (by simp)
    obtain ⟨hd, hr, hsz⟩ := oneE_hdr hx
    have hb := rdHdr_ok hr
    have hl := seg_len L a e h0 h1 h2
    rw [hs, List.flatten_cons, List.length_append] at hl
    obtain ⟨k, rfl⟩ : ∃ k', k = k' + 1 := ⟨k - 1, by omega⟩
    have hn : nextE L a e = .ok (hd.at_ a) := by
      unfold nextE
      rw [hs, List.flatten_cons, rdHdr_app _ hr]
      simp only
      rw [if_neg (by omega)]
    have hst : (hd.at_ a).stop = a + p.length := by simp only [Hdr.at_]; omega
    have hs' : seg L (a + p.length) e = ls.flatten := by
      have : seg L (a + p.length) e = (seg L a e).drop p.length := by
        unfold seg
        rw [List.drop_take, List.drop_drop]
        congr 1
        · omega
        · congr 1; omega
      rw [this, hs, List.flatten_cons, List.drop_left]
    obtain ⟨ys, hy, hyl⟩ := ih k (acc ++ [hd.at_ a]) (a + p.length) (fun q hq => hall q (by simp [hq])) (by omega) (by omega) hs' (by omega)
    refine ⟨hd.at_ a :: ys, ?_, by simp [hyl]⟩
    simp only [listAcc]
    rw [if_pos (by omega), hn]
    simp only
    rw [hst, hy]
    simp
/-- What a constructed element of parts holds. -/
theorem listE_enc (c n : Int) (k : Bool) (ls : List (List UInt8)) (hall : ∀ p ∈ ls, ∃ x, oneE p = .ok x) :
    ∃ ys, listE (encO c k n ls.flatten) (1 + (lenOct ls.flatten.length).length) (encO c k n ls.flatten).length = .ok ys ∧ ys.length = ls.length := by
  have hL := encO_len c n k ls.flatten
  have hs : seg (encO c k n ls.flatten) (1 + (lenOct ls.flatten.length).length) (encO c k n ls.flatten).length = ls.flatten := by
    have e1 : (1 + ((lenOct ls.flatten.length).length : Int)).toNat = (lenOct ls.flatten.length).length + 1 := by omega
    have e2 : (((encO c k n ls.flatten).length : Int) - (1 + (lenOct ls.flatten.length).length)).toNat = ls.flatten.length := by omega
    unfold seg
    rw [e1, e2]
    unfold encO
    rw [List.drop_succ_cons, List.drop_left, List.take_length]
  obtain ⟨ys, h1, h2⟩ := listAcc_parts (L := encO c k n ls.flatten) (e := (encO c k n ls.flatten).length) (by omega) ls _ [] (1 + (lenOct ls.flatten.length).length) hall (by omega) (by omega) hs (Int.self_le_toNat _)
  refine ⟨ys, ?_, h2⟩
  unfold listE
  rw [if_neg (by omega), h1]
  rfl
end Go.Cr
