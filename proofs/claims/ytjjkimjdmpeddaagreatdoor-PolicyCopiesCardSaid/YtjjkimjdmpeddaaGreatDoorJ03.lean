/- The parts SpecF, SpecI, Tree, Node, Parts, Far, Rep of one proof, one behind the other. -/
import Derived.Test.YtjjkimjdmpeddaaGreatDoorJ01

/- Length octets: written, and read back. No program in sight. -/
section
set_option linter.unusedSimpArgs false
set_option linter.unusedVariables false
namespace Go.Cr

theorem cmpL_self (a : List UInt8) : cmpL a a = 0 := by
  induction a with
  | nil => rfl
  | cons x t ih => simp only [cmpL]; rw [if_neg (by omega), if_neg (by omega)]; exact ih
theorem cmpL_zero {a b : List UInt8} (h : cmpL a b = 0) : a = b := by
  induction a generalizing b with
  | nil => cases b with
    | nil => rfl
    | cons y b => simp [cmpL] at h
  | cons x a ih => cases b with
    | nil => simp [cmpL] at h
    | cons y b =>
      simp only [cmpL] at h
      split at h
      · omega
      · split at h
        · omega
        · rw [ih h, bi_inj (x := x) (y := y) (by omega)]

/-- Length octets. -/
def lenOct (n : Nat) : List UInt8 := if n < 128 then minF 7 n else UInt8.ofNat (128 + (minF 7 n).length) :: minF 7 n

theorem be_nonneg (l : List UInt8) : 0 ≤ be l := (be_bound l).1
theorem be_cons_ge (x : UInt8) (t : List UInt8) : bi x ≤ be (x :: t) := by
  have h : ∀ (t : List UInt8) (a : Int), 0 ≤ a → a ≤ t.foldl (fun a x => a * 256 + bi x) a := by
    intro t
    induction t with
    | nil => intro a _; simp
    | cons y t ih =>
      intro a h0
      have := bi_pos y
      have := ih (a * 256 + bi y) (by omega)
      simp only [List.foldl_cons]; omega
  have := h t (bi x) (bi_pos x)
  simpa [be] using this

theorem snoc_of_pos {l : List UInt8} (h : 0 < l.length) : ∃ d x, l = d ++ [x] :=
  ⟨l.dropLast, l.getLast (by intro e; subst e; simp at h), (List.dropLast_concat_getLast (by intro e; subst e; simp at h)).symm⟩

theorem minF_be_id (k : Nat) : ∀ (d : List UInt8), 0 < d.length → d.length ≤ k + 1 → (bat d 0 ≠ 0 ∨ d.length = 1) → minF k (be d).toNat = d := by
  induction k with
  | zero =>
    intro d h0 h1 _
    match d, h0, h1 with
    | [x], _, _ => simp [minF, be, bi]
  | succ k ih =>
    intro d h0 h1 hz
    obtain ⟨d', x, rfl⟩ := snoc_of_pos h0
    have hx1 := bi_lt x
    have hx0 := bi_pos x
    have hd0 := be_nonneg d'
    rw [be_snoc]
    simp only [minF]
    by_cases hd : d'.length = 0
    · obtain rfl := List.eq_nil_of_length_eq_zero hd
      have : be ([] : List UInt8) = 0 := rfl
      rw [this, if_pos (by omega)]
      simp [bi]
    · have hb : 1 ≤ be d' := by
        cases d' with
        | nil => simp at hd
        | cons y t =>
          have := be_cons_ge y t
          rcases hz with hz | hz
          · simp only [List.cons_append, bat_cons_zero] at hz; have := bi_pos y; omega
          · simp at hz
      rw [if_neg (by omega)]
      obtain ⟨M, hM⟩ : ∃ M : Nat, be d' = M := ⟨(be d').toNat, by omega⟩
      obtain ⟨X, hX⟩ : ∃ X : Nat, bi x = X := ⟨(bi x).toNat, by omega⟩
      have e1 : (be d' * 256 + bi x).toNat / 256 = (be d').toNat := by rw [hM, hX]; omega
      have e2 : UInt8.ofNat ((be d' * 256 + bi x).toNat % 256) = x := by
        apply bi_inj; rw [bi_ofNat, hM, hX]; omega
      rw [e1, e2, ih d' (by omega) (by simp at h1; omega) ?_]
      rcases hz with hz | hz
      · left
        cases d' with
        | nil => simp at hd
        | cons y t => simpa [bat_cons_zero] using hz
      · exact absurd (by simp at hz; simp [hz]) hd

theorem minF_head (k n : Nat) (h : n < 256 ^ (k + 1)) (hn : 0 < n) : bat (minF k n) 0 ≠ 0 := by
  induction k generalizing n with
  | zero => have : n < 256 := by simpa using h
            simp [minF, bat, bi]; omega
  | succ k ih =>
    simp only [minF]
    split
    · simp [bat, bi]; omega
    · have h1 := ih (n / 256) (by rw [Nat.pow_succ] at h; omega) (by omega)
      have h2 := (minF_len k (n / 256)).1
      generalize minF k (n / 256) = m at *
      cases m with
      | nil => simp at h2
      | cons y t => simpa [bat_cons_zero] using h1

/-- Whether length octets in the long form are those of their number. -/
theorem lenOct_long {l : List UInt8} {k : Nat} (h0 : bat l 0 = 128 + k) (hk1 : 1 ≤ k) (hk4 : k ≤ 4) (hl : k < l.length) :
    lenOct (be ((l.drop 1).take k)).toNat = l.take (1 + k) ↔ ¬ (bat l 1 = 0 ∨ be ((l.drop 1).take k) < 128) := by
  cases l with
  | nil => simp at hl
  | cons x t =>
    simp only [bat_cons_zero, List.drop_succ_cons, List.drop_zero, List.length_cons] at *
    have hs1 : bat (x :: t) 1 = bat t 0 := bat_cons_succ x t 0
    rw [hs1]
    have htl : (t.take k).length = k := by simp; omega
    have hb0 : bat (t.take k) 0 = bat t 0 := bat_take _ _ _ (by omega)
    have hbe := be_bound (t.take k)
    rw [htl] at hbe
    have hpw : (256 : Int) ^ k ≤ 256 ^ 4 := pow256_mono hk4
    obtain ⟨N, hN⟩ : ∃ N : Nat, be (t.take k) = N := ⟨(be (t.take k)).toNat, by have := hbe.1; omega⟩
    have hNlt : N < 256 ^ 4 := by have := hbe.2; rw [hN] at this; have h4 : (256 : Int) ^ 4 = ((256 ^ 4 : Nat) : Int) := by decide
                                  omega
    have hNlt8 : N < 256 ^ (7 + 1) := Nat.lt_of_lt_of_le hNlt (by decide)
    rw [hN]
    rw [show ((N : Int)).toNat = N by omega, show 1 + k = k + 1 by omega, List.take_succ_cons]
    unfold lenOct
    constructor
    · intro h hc
      split at h
      · rename_i hlt
        have h1 : (minF 7 N).length = 1 := by simp only [minF]; rw [if_pos (by omega)]; rfl
        have := congrArg List.length h
        simp only [List.length_cons, htl, h1] at this
        omega
      · rename_i hge
        rcases hc with hc | hc
        · injection h with _ h
          have := minF_head 7 N hNlt8 (by omega)
          rw [h, hb0] at this
          exact this hc
        · omega
    · intro h
      have h1 : bat t 0 ≠ 0 := fun e => h (.inl e)
      have h2 : ¬ N < 128 := fun e => h (.inr (by omega))
      rw [if_neg h2]
      have h3 := minF_be_id 7 (t.take k) (by omega) (by omega) (.inl (by rw [hb0]; exact h1))
      rw [hN, show ((N : Int)).toNat = N by omega] at h3
      rw [h3, htl]
      congr 1
      apply bi_inj
      rw [bi_ofNat]; omega

theorem lenOct_len (n : Nat) : 0 < (lenOct n).length ∧ (lenOct n).length ≤ 9 := by
  have := minF_len 7 n
  unfold lenOct
  split
  · omega
  · simp only [List.length_cons]; omega
/-- The identifier octet of a tag. -/
def idB (c : Int) (k : Bool) (n : Int) : UInt8 := UInt8.ofNat (c * 64 + n + if k then 32 else 0).toNat
theorem idB_bi (c : Int) (k : Bool) (n : Int) (h : 0 ≤ c) (h1 : c ≤ 3) (h2 : 0 ≤ n) (h3 : n < 31) : bi (idB c k n) = c * 64 + n + if k then 32 else 0 := by
  unfold idB; rw [bi_ofNat]; split <;> omega
/-- The element of a tag and its content. -/
def encO (c : Int) (k : Bool) (n : Int) (l : List UInt8) : List UInt8 := idB c k n :: (lenOct l.length ++ l)
end Go.Cr
end

/- What is written is read back; elements one behind another are found. No program in sight. -/
section
set_option linter.unusedSimpArgs false
set_option linter.unusedVariables false
namespace Go.Cr
open Go.RowKit

theorem bat_app (l r : List UInt8) (j : Nat) (hj : j < l.length) : bat (l ++ r) j = bat l j := by simp [bat, List.getElem?_append_left hj]

theorem rdLen_app {l : List UInt8} {n k : Int} (r : List UInt8) (h : rdLen l = .ok (n, k)) : rdLen (l ++ r) = .ok (n, k) := by
  have hb := rdLen_ok h
  have h0 := bat_lt l 0
  have h1 := bat_pos l 0
  have hba : ∀ j, j < l.length → bat (l ++ r) j = bat l j := fun j hj => bat_app l r j hj
  unfold rdLen at h ⊢
  have hL : (l ++ r).length = l.length + r.length := List.length_append
  rw [hba 0 (by omega)]
  split at h
  · cases h
  rw [if_neg (by omega)]
  split at h
  · rename_i c2; rw [if_pos c2]; exact h
  rename_i c2
  rw [if_neg c2]
  split at h
  · cases h
  rename_i c3
  rw [if_neg c3]
  split at h
  · cases h
  rename_i c4
  split at h
  · cases h
  rename_i c5
  injection h with h
  injection h with h2 h3
  rw [if_neg (by omega)]
  have e2 : ((l ++ r).drop 1).take (bat l 0 - 128).toNat = (l.drop 1).take (bat l 0 - 128).toNat := by
    rw [List.drop_append_of_le_length (by omega), List.take_append_of_le_length (by rw [List.length_drop]; omega)]
  rw [hba 1 (by omega), e2, if_neg c5, h2, h3]
theorem rdHdr_app {l : List UInt8} {h : Hdr} (r : List UInt8) (e : rdHdr l = .ok h) : rdHdr (l ++ r) = .ok h := by
  have hb := rdHdr_ok e
  have hba : bat (l ++ r) 0 = bat l 0 := bat_app l r 0 (by omega)
  have hL : (l ++ r).length = l.length + r.length := List.length_append
  unfold rdHdr at e ⊢
  rw [hba]
  split at e
  · cases e
  rw [if_neg (by omega)]
  split at e
  · cases e
  rename_i c2
  rw [if_neg c2]
  split at e
  · cases e
  · rename_i n k hr
    injection e with e
    subst e
    rw [List.drop_append_of_le_length (by omega), rdLen_app r hr]
theorem rdLen_enc (n : Nat) (r : List UInt8) (hn : n ≤ 2147483647) : rdLen (lenOct n ++ r) = .ok (n, (lenOct n).length) := by
  unfold lenOct
  by_cases h : n < 128
  · rw [if_pos h]
    have h1 : minF 7 n = [UInt8.ofNat n] := by simp only [minF]; rw [if_pos (by omega)]
    rw [h1]
    have hb : bat ([UInt8.ofNat n] ++ r) 0 = n := by rw [List.cons_append, bat_cons_zero, bi_ofNat]; omega
    unfold rdLen
    rw [hb, if_neg (by simp), if_pos (by omega)]
    rfl
  · rw [if_neg h]
    have h1 : minF 7 n = minF 3 n := minF_fuel 3 4 n (by have : (256 : Nat) ^ (3 + 1) = 4294967296 := by decide
                                                         omega)
    have h2 := minF_len 3 n
    have h3 := minF_be 3 n (by have : (256 : Nat) ^ (3 + 1) = 4294967296 := by decide
                               omega)
    have h4 := minF_head 3 n (by have : (256 : Nat) ^ (3 + 1) = 4294967296 := by decide
                                 omega) (by omega)
    rw [h1]
    generalize minF 3 n = m at *
    have hb : bat (UInt8.ofNat (128 + m.length) :: m ++ r) 0 = 128 + m.length := by rw [List.cons_append, bat_cons_zero, bi_ofNat]; omega
    have hb1 : bat (UInt8.ofNat (128 + m.length) :: m ++ r) 1 = bat m 0 := by
      rw [List.cons_append, bat_cons_succ]; exact bat_app m r 0 (by omega)
    have hbe : (((UInt8.ofNat (128 + m.length) :: m ++ r)).drop 1).take (128 + (m.length : Int) - 128).toNat = m := by
      rw [List.cons_append, List.drop_succ_cons, List.drop_zero, show (128 + (m.length : Int) - 128).toNat = m.length by omega, List.take_left]
    have hL : (UInt8.ofNat (128 + m.length) :: m ++ r).length = 1 + m.length + r.length := by simp; omega
    unfold rdLen
    rw [hb, hb1, hbe, h3, if_neg (by omega), if_neg (by omega), if_neg (by omega), if_neg (by omega), if_neg (by omega)]
    simp only [List.length_cons]
    congr 2; omega
theorem rdHdr_enc (c n : Int) (k : Bool) (l r : List UInt8) (h : 0 ≤ c) (h1 : c ≤ 3) (h2 : 0 ≤ n) (h3 : n < 31) (hl : l.length ≤ 2147483647) :
    rdHdr (encO c k n l ++ r) = .ok ⟨c, n, k, l.length, 1 + (lenOct l.length).length⟩ := by
  have hb : bat (encO c k n l ++ r) 0 = c * 64 + n + if k then 32 else 0 := by
    unfold encO; rw [List.cons_append, bat_cons_zero, idB_bi c k n h h1 h2 h3]
  have hd : (encO c k n l ++ r).drop 1 = lenOct l.length ++ (l ++ r) := by
    unfold encO; rw [List.cons_append, List.drop_succ_cons, List.drop_zero, List.append_assoc]
  unfold rdHdr
  rw [hb, hd, rdLen_enc _ _ hl, if_neg (by unfold encO; simp)]
  cases k with
  | true =>
    simp only [if_true]
    rw [if_neg (by omega)]
    congr 2
    · omega
    · omega
    · exact decide_eq_true (by omega)
  | false =>
    simp only [Bool.false_eq_true, if_false]
    rw [if_neg (by omega)]
    congr 2
    · omega
    · omega
    · exact decide_eq_false (by omega)
theorem encO_len (c n : Int) (k : Bool) (l : List UInt8) : (encO c k n l).length = 1 + (lenOct l.length).length + l.length := by unfold encO; simp; omega
theorem oneE_enc (c n : Int) (k : Bool) (l : List UInt8) (h : 0 ≤ c) (h1 : c ≤ 3) (h2 : 0 ≤ n) (h3 : n < 31) (hl : l.length ≤ 2147483647) :
    oneE (encO c k n l) = .ok ⟨c, n, k, 0, 1 + (lenOct l.length).length, (encO c k n l).length⟩ := by
  have hh := rdHdr_enc c n k l [] h h1 h2 h3 hl
  rw [List.append_nil] at hh
  have hL := encO_len c n k l
  rw [oneE_H]
  unfold nextH
  rw [hh]
  simp only
  rw [if_neg (by omega)]
  simp only
  rw [if_neg (by omega)]
theorem oneE_hdr {p : List UInt8} {x : Elem} (h : oneE p = .ok x) : ∃ hd, rdHdr p = .ok hd ∧ hd.size + hd.len = p.length := by
  rw [oneE_H] at h
  split at h
  · cases h
  · rename_i hd hn
    have hb := nextH_ok hn
    unfold nextH at hn
    split at hn
    · cases hn
    · rename_i hd' hr
      split at hn
      · cases hn
      · injection hn with hn
        subst hn
        split at h
        · cases h
        · exact ⟨hd', hr, by omega⟩
theorem listAcc_parts {L : List UInt8} {e : Int} (h2 : e ≤ L.length) : ∀ (ls : List (List UInt8)) (k : Nat) (acc : List Elem) (a : Int), (∀ p ∈ ls, ∃ x, oneE p = .ok x) → 0 ≤ a → a ≤ e → seg L a e = ls.flatten → e - a ≤ k →
    ∃ ys, listAcc L k acc a e = .ok (acc ++ ys) ∧ ys.length = ls.length := by
  intro ls
  induction ls with
  | nil =>
    intro k acc a _ h0 h1 hs hk
    have hl := seg_len L a e h0 h1 h2
    rw [hs] at hl
    simp at hl
    exact ⟨[], by rw [listAcc_done _ _ _ _ _ (by omega)]; simp, rfl⟩
  | cons p ls ih =>
    intro k acc a hall h0 h1 hs hk
    obtain ⟨x, hx⟩ := hall p (by simp)
    obtain ⟨hd, hr, hsz⟩ := oneE_hdr hx
    have hb := rdHdr_ok hr
    have hl := seg_len L a e h0 h1 h2
    rw [hs, List.flatten_cons, List.length_append] at hl
    obtain ⟨k, rfl⟩ : ∃ k', k = k' + 1 := ⟨k - 1, by omega⟩
    have hn : nextE L a e = .ok (hd.at_ a) := by
      unfold nextE
      rw [hs, List.flatten_cons, rdHdr_app _ hr]
      simp only
      rw [if_neg (by omega)]
    have hst : (hd.at_ a).stop = a + p.length := by simp only [Hdr.at_]; omega
    have hs' : seg L (a + p.length) e = ls.flatten := by
      have : seg L (a + p.length) e = (seg L a e).drop p.length := by
        unfold seg
        rw [List.drop_take, List.drop_drop]
        congr 1
        · omega
        · congr 1; omega
      rw [this, hs, List.flatten_cons, List.drop_left]
    obtain ⟨ys, hy, hyl⟩ := ih k (acc ++ [hd.at_ a]) (a + p.length) (fun q hq => hall q (by simp [hq])) (by omega) (by omega) hs' (by omega)
    refine ⟨hd.at_ a :: ys, ?_, by simp [hyl]⟩
    simp only [listAcc]
    rw [if_pos (by omega), hn]
    simp only
    rw [hst, hy]
    simp
/-- What a constructed element of parts holds. -/
theorem listE_enc (c n : Int) (k : Bool) (ls : List (List UInt8)) (hall : ∀ p ∈ ls, ∃ x, oneE p = .ok x) :
    ∃ ys, listE (encO c k n ls.flatten) (1 + (lenOct ls.flatten.length).length) (encO c k n ls.flatten).length = .ok ys ∧ ys.length = ls.length := by
  have hL := encO_len c n k ls.flatten
  have hs : seg (encO c k n ls.flatten) (1 + (lenOct ls.flatten.length).length) (encO c k n ls.flatten).length = ls.flatten := by
    have e1 : (1 + ((lenOct ls.flatten.length).length : Int)).toNat = (lenOct ls.flatten.length).length + 1 := by omega
    have e2 : (((encO c k n ls.flatten).length : Int) - (1 + (lenOct ls.flatten.length).length)).toNat = ls.flatten.length := by omega
    unfold seg
    rw [e1, e2]
    unfold encO
    rw [List.drop_succ_cons, List.drop_left, List.take_length]
  obtain ⟨ys, h1, h2⟩ := listAcc_parts (L := encO c k n ls.flatten) (e := (encO c k n ls.flatten).length) (by omega) ls _ [] (1 + (lenOct ls.flatten.length).length) hall (by omega) (by omega) hs (Int.self_le_toNat _)
  refine ⟨ys, ?_, h2⟩
  unfold listE
  rw [if_neg (by omega), h1]
  rfl
end Go.Cr
end

/- Trees of elements, plain: reading to a depth, what is read is what would be written, parts of an element. No program in sight. -/
section
set_option linter.unusedSimpArgs false
set_option linter.unusedVariables false
namespace Go.Cr
open Go.RowKit

/-- A length that was read is written as it was read. -/
theorem rdLen_canon {l : List UInt8} {n k : Int} (h : rdLen l = .ok (n, k)) : lenOct n.toNat = l.take k.toNat := by
  have h0 := bat_lt l 0
  have h1 := bat_pos l 0
  unfold rdLen at h
  split at h
  · cases h
  rename_i c1
  split at h
  · rename_i c2
    injection h with h; injection h with h2 h3
    obtain ⟨x, t, rfl⟩ : ∃ x t, l = x :: t := by
      cases l with
      | nil => exact absurd rfl c1
      | cons x t => exact ⟨x, t, rfl⟩
    · rw [bat_cons_zero] at h2 c2 h0 h1
      rw [← h2, ← h3, show (1 : Int).toNat = 1 from rfl, List.take_succ_cons, List.take_zero]
      unfold lenOct
      rw [if_pos (by omega), show minF 7 (bi x).toNat = [UInt8.ofNat (bi x).toNat] by simp only [minF]; rw [if_pos (by omega)]]
      congr 1
      simp [bi]
  split at h
  · cases h
  split at h
  · cases h
  split at h
  · cases h
  rename_i c2 c3 c4 c5
  injection h with h; injection h with h2 h3
  obtain ⟨m, hm⟩ : ∃ m : Nat, bat l 0 - 128 = m := ⟨(bat l 0 - 128).toNat, by omega⟩
  have := (lenOct_long (l := l) (k := m) (by omega) (by omega) (by omega) (by omega)).2 (by
    rw [hm, Int.toNat_natCast] at c5
    exact fun e => c5 (by rcases e with e | e; exact .inl e; exact .inr (.inl e)))
  rw [← h2, ← h3, hm, Int.toNat_natCast, this]
  rw [show (1 + (m : Int)).toNat = 1 + m by omega]

/-- The contents octets. -/
def cont (l : List UInt8) (h : Hdr) : List UInt8 := (l.drop h.size.toNat).take h.len.toNat
theorem cont_len {l : List UInt8} {h : Hdr} (e : nextH l = .ok h) : ((cont l h).length : Int) = h.len := by
  have := nextH_ok e
  unfold cont
  simp
  omega
theorem nextH_hdr {l : List UInt8} {h : Hdr} (e : nextH l = .ok h) : rdHdr l = .ok h ∧ h.size + h.len ≤ l.length := by
  have hb := nextH_ok e
  unfold nextH at e
  split at e
  · cases e
  · rename_i hr
    split at e
    · cases e
    · injection e with e; subst e; exact ⟨hr, hb.2.2.2⟩
theorem idB_read (x : UInt8) (h : bi x % 32 ≠ 31) : idB (bi x / 64) (decide (bi x / 32 % 2 = 1)) (bi x % 32) = x := by
  have h0 := bi_pos x
  have h1 := bi_lt x
  apply bi_inj
  rw [idB_bi _ _ _ (by omega) (by omega) (by omega) (by omega)]
  by_cases hc : bi x / 32 % 2 = 1
  · simp only [hc, decide_true, if_true]; omega
  · simp only [hc, decide_false, Bool.false_eq_true, if_false]; omega
theorem rdHdr_canon {l : List UInt8} {h : Hdr} (e : rdHdr l = .ok h) : idB h.cls h.con h.num :: lenOct h.len.toNat = l.take h.size.toNat := by
  unfold rdHdr at e
  split at e
  · cases e
  rename_i c1
  split at e
  · cases e
  rename_i c2
  split at e
  · cases e
  rename_i n k hr
  injection e with e
  subst e
  have hb := rdLen_ok hr
  match l, c1 with
  | x :: t, _ =>
    have hx : bat (x :: t) 0 = bi x := bat_cons_zero x t
    rw [hx] at c2
    have hi := idB_read x c2
    rw [← hx] at hi
    simp only [List.drop_succ_cons, List.drop_zero] at hr
    rw [hi, rdLen_canon hr, show (1 + k).toNat = k.toNat + 1 by omega, List.take_succ_cons]
/-- What was read is what would be written. -/
theorem nextH_canon {l : List UInt8} {h : Hdr} (e : nextH l = .ok h) : encO h.cls h.con h.num (cont l h) = l.take (h.size + h.len).toNat := by
  obtain ⟨hr, hle⟩ := nextH_hdr e
  have hb := nextH_ok e
  have hc := cont_len e
  unfold encO
  rw [← List.cons_append, show (cont l h).length = h.len.toNat by omega, rdHdr_canon hr]
  unfold cont
  rw [show (h.size + h.len).toNat = h.size.toNat + h.len.toNat by omega, List.take_add]
theorem nextH_app {l : List UInt8} {h : Hdr} (r : List UInt8) (e : nextH l = .ok h) : nextH (l ++ r) = .ok h ∧ cont (l ++ r) h = cont l h := by
  obtain ⟨hr, hle⟩ := nextH_hdr e
  have hb := nextH_ok e
  constructor
  · unfold nextH
    rw [rdHdr_app r hr]
    simp only [List.length_append]
    rw [if_neg (by omega)]
  · unfold cont
    rw [List.drop_append_of_le_length (by omega), List.take_append_of_le_length (by simp; omega)]
theorem nextH_take {l : List UInt8} {h : Hdr} (m : Nat) (e : nextH l = .ok h) (hm : h.size + h.len ≤ m) : nextH (l.take m) = .ok h ∧ cont (l.take m) h = cont l h := by
  obtain ⟨hr, hle⟩ := nextH_hdr e
  have hb := nextH_ok e
  constructor
  · unfold nextH
    rw [rdHdr_take m hr (by omega)]
    simp only [List.length_take]
    rw [if_neg (by omega)]
  · unfold cont
    rw [List.drop_take, List.take_take, Nat.min_eq_left (by omega)]
theorem nextH_enc (c n : Int) (k : Bool) (l r : List UInt8) (h : 0 ≤ c) (h1 : c ≤ 3) (h2 : 0 ≤ n) (h3 : n < 31) (hl : l.length ≤ 2147483647) :
    nextH (encO c k n l ++ r) = .ok ⟨c, n, k, l.length, 1 + (lenOct l.length).length⟩ := by
  have hL := encO_len c n k l
  unfold nextH
  rw [rdHdr_enc c n k l r h h1 h2 h3 hl]
  simp only [List.length_append]
  rw [if_neg (by omega)]
theorem cont_enc (c n : Int) (k : Bool) (l r : List UInt8) : cont (encO c k n l ++ r) ⟨c, n, k, l.length, 1 + (lenOct l.length).length⟩ = l := by
  unfold cont encO
  simp only
  rw [show (1 + ((lenOct l.length).length : Int)).toNat = (lenOct l.length).length + 1 by omega, Int.toNat_natCast, List.cons_append, List.drop_succ_cons, List.append_assoc, List.drop_left, List.take_left]

/-! ### Reading to a depth. -/
/-- The elements that bytes consist of, each as its octets. -/
def scanL (rd : List UInt8 → Option Nat) : Nat → List UInt8 → Option (List (List UInt8))
  | 0, l => if l = [] then some [] else none
  | k + 1, l => if l = [] then some [] else match rd l with
    | none => none
    | some n => (scanL rd k (l.drop n)).map (l.take n :: ·)
/-- The number of octets of the element at the beginning, within a depth. -/
def readT : Nat → List UInt8 → Option Nat
  | 0, _ => none
  | d + 1, l => match nextH l with
    | .error _ => none
    | .ok h => if h.con = false then some (h.size + h.len).toNat else match scanL (readT d) h.len.toNat (cont l h) with
      | none => none
      | some _ => some (h.size + h.len).toNat
/-- Bytes that are one element within a depth. -/
def treeOK (d : Nat) (l : List UInt8) : Prop := readT d l = some l.length
instance (d : Nat) (l : List UInt8) : Decidable (treeOK d l) := inferInstanceAs (Decidable (_ = _))

theorem readT_bound {d : Nat} {l : List UInt8} {n : Nat} (h : readT d l = some n) : 2 ≤ n ∧ n ≤ l.length := by
  cases d with
  | zero => cases h
  | succ d =>
    simp only [readT] at h
    split at h
    · cases h
    · rename_i hd hn
      have := nextH_ok hn
      split at h
      · cases h; omega
      · split at h
        · cases h
        · cases h; omega
theorem scanL_flat {rd : List UInt8 → Option Nat} : ∀ (k : Nat) {l : List UInt8} {ks : List (List UInt8)}, scanL rd k l = some ks → ks.flatten = l := by
  intro k
  induction k with
  | zero =>
    intro l ks h
    simp only [scanL] at h
    split at h
    · cases h; simp [*]
    · cases h
  | succ k ih =>
    intro l ks h
    simp only [scanL] at h
    split at h
    · cases h; simp [*]
    · split at h
      · cases h
      · rename_i n hn
        cases hs : scanL rd k (l.drop n) with
        | none => rw [hs] at h; cases h
        | some ks' =>
          rw [hs] at h
          cases h
          rw [List.flatten_cons, ih hs, List.take_append_drop]
/-- Nothing changes with more rounds than octets. -/
theorem scanL_fuel {rd : List UInt8 → Option Nat} (hrd : ∀ l n, rd l = some n → 0 < n) : ∀ (k : Nat) (l : List UInt8) (j : Nat), l.length ≤ k → scanL rd (k + j) l = scanL rd k l := by
  intro k
  induction k with
  | zero =>
    intro l j hl
    obtain rfl := List.eq_nil_of_length_eq_zero (by omega : l.length = 0)
    cases j <;> simp [scanL]
  | succ k ih =>
    intro l j hl
    rw [show k + 1 + j = (k + j) + 1 by omega]
    simp only [scanL]
    split
    · rfl
    · cases hr : rd l with
      | none => rfl
      | some n =>
        have := hrd l n hr
        simp only
        rw [ih (l.drop n) j (by simp; omega)]
theorem scanL_mono {rd rd' : List UInt8 → Option Nat} (h : ∀ l n, rd l = some n → rd' l = some n) : ∀ (k : Nat) {l : List UInt8} {ks : List (List UInt8)}, scanL rd k l = some ks → scanL rd' k l = some ks := by
  intro k
  induction k with
  | zero => intro l ks e; exact e
  | succ k ih =>
    intro l ks e
    simp only [scanL] at e ⊢
    split at e
    · rename_i hl; rw [if_pos hl]; exact e
    · rename_i hl
      rw [if_neg hl]
      split at e
      · cases e
      · rename_i n hn
        rw [h l n hn]
        simp only
        cases hs : scanL rd k (l.drop n) with
        | none => rw [hs] at e; cases e
        | some ks' => rw [hs] at e; rw [ih hs]; exact e
theorem readT_mono {d : Nat} : ∀ {d' : Nat} {l : List UInt8} {n : Nat}, d ≤ d' → readT d l = some n → readT d' l = some n := by
  induction d with
  | zero => intro d' l n _ h; cases h
  | succ d ih =>
    intro d' l n hd h
    obtain ⟨d', rfl⟩ : ∃ e, d' = e + 1 := ⟨d' - 1, by omega⟩
    simp only [readT] at h ⊢
    split at h
    · cases h
    · rename_i hh hn
      split at h
      · rename_i hc; simp only [hc, if_true]; exact h
      · rename_i hc
        simp only [hc]
        split at h
        · cases h
        · rename_i ks hs
          rw [scanL_mono (fun l n => ih (d' := d') (by omega)) _ hs]
          simpa using h
theorem readT_app {d : Nat} {l : List UInt8} {n : Nat} (r : List UInt8) (h : readT d l = some n) : readT d (l ++ r) = some n := by
  cases d with
  | zero => cases h
  | succ d =>
    simp only [readT] at h ⊢
    split at h
    · cases h
    · rename_i hh hn
      obtain ⟨h1, h2⟩ := nextH_app r hn
      rw [h1]
      simp only [h2]
      exact h
theorem readT_take {d : Nat} {l : List UInt8} {n : Nat} (m : Nat) (h : readT d l = some n) (hm : n ≤ m) : readT d (l.take m) = some n := by
  cases d with
  | zero => cases h
  | succ d =>
    simp only [readT] at h ⊢
    split at h
    · cases h
    · rename_i hh hn
      have hb := nextH_ok hn
      have hsz : (hh.size + hh.len).toNat = n := by
        split at h
        · injection h
        · split at h
          · cases h
          · injection h
      obtain ⟨h1, h2⟩ := nextH_take m hn (by omega)
      rw [h1]
      simp only [h2]
      exact h
theorem treeOK_take {d : Nat} {l : List UInt8} {n : Nat} (h : readT d l = some n) : treeOK d (l.take n) := by
  have hb := readT_bound h
  unfold treeOK
  rw [readT_take n h (Nat.le_refl _)]
  simp
  omega
theorem treeOK_mono {d d' : Nat} {l : List UInt8} (hd : d ≤ d') (h : treeOK d l) : treeOK d' l := readT_mono hd h

theorem scanL_mem {d : Nat} : ∀ (k : Nat) {l : List UInt8} {ks : List (List UInt8)}, scanL (readT d) k l = some ks → ∀ p ∈ ks, treeOK d p := by
  intro k
  induction k with
  | zero =>
    intro l ks h
    simp only [scanL] at h
    split at h
    · cases h; simp
    · cases h
  | succ k ih =>
    intro l ks h
    simp only [scanL] at h
    split at h
    · cases h; simp
    · split at h
      · cases h
      · rename_i n hn
        cases hs : scanL (readT d) k (l.drop n) with
        | none => rw [hs] at h; cases h
        | some ks' =>
          rw [hs] at h
          cases h
          intro p hp
          simp only [List.mem_cons] at hp
          rcases hp with rfl | hp
          · exact treeOK_take hn
          · exact ih hs p hp
theorem scanL_of {d : Nat} : ∀ (ks : List (List UInt8)) (k : Nat), (∀ p ∈ ks, treeOK d p) → ks.flatten.length ≤ k → scanL (readT d) k ks.flatten = some ks := by
  intro ks
  induction ks with
  | nil => intro k _ _; cases k <;> simp [scanL]
  | cons p t ih =>
    intro k h hk
    have hp := h p (by simp)
    have hb := readT_bound hp
    rw [List.flatten_cons, List.length_append] at hk
    obtain ⟨k, rfl⟩ : ∃ k', k = k' + 1 := ⟨k - 1, by omega⟩
    have hne : p ++ t.flatten ≠ [] := by intro e; have := congrArg List.length e; simp at this; rw [this.1] at hb; simp at hb
    simp only [List.flatten_cons, scanL, hne, if_false]
    rw [readT_app _ hp]
    simp only [List.drop_left, List.take_left]
    rw [ih k (fun x hx => h x (by simp [hx])) (by omega)]
    rfl

/-- Octets of one element: the header, and that it is all. -/
theorem treeOK_hdr {d : Nat} {l : List UInt8} (h : treeOK d l) : ∃ hd, nextH l = .ok hd ∧ hd.size + hd.len = l.length ∧ encO hd.cls hd.con hd.num (cont l hd) = l := by
  unfold treeOK at h
  have hb := readT_bound h
  cases d with
  | zero => cases h
  | succ d =>
    simp only [readT] at h
    split at h
    · cases h
    · rename_i hd hn
      have hk := nextH_ok hn
      have hsz : (hd.size + hd.len).toNat = l.length := by
        split at h
        · injection h
        · split at h
          · cases h
          · injection h
      refine ⟨hd, hn, by omega, ?_⟩
      rw [nextH_canon hn, hsz, List.take_length]
theorem treeOK_one {d : Nat} {l : List UInt8} (h : treeOK d l) : ∃ x, oneE l = .ok x := by
  obtain ⟨hd, hn, hs, _⟩ := treeOK_hdr h
  rw [oneE_H, hn]
  simp only
  rw [if_neg (by omega)]
  exact ⟨_, rfl⟩

/-- A constructed element of trees is a tree. -/
theorem treeOK_con {d : Nat} (c n : Int) (ks : List (List UInt8)) (h : 0 ≤ c) (h1 : c ≤ 3) (h2 : 0 ≤ n) (h3 : n < 31) (hl : ks.flatten.length ≤ 2147483647) (hk : ∀ p ∈ ks, treeOK d p) : treeOK (d + 1) (encO c true n ks.flatten) := by
  have e1 := nextH_enc c n true ks.flatten [] h h1 h2 h3 hl
  have e2 := cont_enc c n true ks.flatten []
  have hL := encO_len c n true ks.flatten
  rw [List.append_nil] at e1 e2
  unfold treeOK
  simp only [readT, e1, e2]
  rw [if_neg (by simp), scanL_of ks _ hk (by omega)]
  simp only
  congr 1
  omega
theorem treeOK_prim {d : Nat} (c n : Int) (l : List UInt8) (h : 0 ≤ c) (h1 : c ≤ 3) (h2 : 0 ≤ n) (h3 : n < 31) (hl : l.length ≤ 2147483647) : treeOK (d + 1) (encO c false n l) := by
  have e1 := nextH_enc c n false l [] h h1 h2 h3 hl
  have hL := encO_len c n false l
  rw [List.append_nil] at e1
  unfold treeOK
  simp only [readT, e1, if_true]
  congr 1
  omega
/-- The elements inside. -/
def kidsT (d : Nat) (l : List UInt8) : List (List UInt8) := match nextH l with
  | .error _ => []
  | .ok h => if h.con = false then [] else (scanL (readT d) h.len.toNat (cont l h)).getD []
theorem kidsT_con {d : Nat} (c n : Int) (ks : List (List UInt8)) (h : 0 ≤ c) (h1 : c ≤ 3) (h2 : 0 ≤ n) (h3 : n < 31) (hl : ks.flatten.length ≤ 2147483647) (hk : ∀ p ∈ ks, treeOK d p) : kidsT d (encO c true n ks.flatten) = ks := by
  have e1 := nextH_enc c n true ks.flatten [] h h1 h2 h3 hl
  have e2 := cont_enc c n true ks.flatten []
  rw [List.append_nil] at e1 e2
  unfold kidsT
  simp only [e1, e2]
  rw [if_neg (by simp), scanL_of ks _ hk (by omega)]
  rfl

/-! ### Parts of an element. -/
theorem cov_segs {l : List UInt8} {e : Int} : ∀ {xs : List Elem} {a : Int}, 0 ≤ a → a ≤ e → e ≤ l.length → Cov l a e xs → (xs.map fun x => seg l x.start x.stop).flatten = seg l a e ∧ ∀ x ∈ xs, a ≤ x.start ∧ x.start < x.body ∧ x.body ≤ x.stop ∧ x.stop ≤ e ∧ oneE (seg l x.start x.stop) = .ok ⟨x.cls, x.num, x.con, 0, x.body - x.start, x.stop - x.start⟩ := by
  intro xs
  induction xs with
  | nil =>
    intro a _ _ _ h
    have : a = e := h
    subst this
    simp [seg]
  | cons x t ih =>
    intro a h0 h1 h2 h
    obtain ⟨hn, hlt, hc⟩ := h
    have hb := nextE_ok h0 h1 h2 hn
    obtain ⟨i1, i2⟩ := ih (by omega) (by omega) h2 hc
    refine ⟨?_, ?_⟩
    · rw [List.map_cons, List.flatten_cons, i1, hb.1]
      unfold seg
      rw [show (e - a).toNat = (x.stop - a).toNat + (e - x.stop).toNat by omega, List.take_add, List.drop_drop, show a.toNat + (x.stop - a).toNat = x.stop.toNat by omega]
    · intro y hy
      simp only [List.mem_cons] at hy
      rcases hy with rfl | hy
      · exact ⟨by omega, by omega, by omega, by omega, nextE_one h0 h1 h2 hn⟩
      · have := i2 y hy
        exact ⟨by omega, by omega, by omega, by omega, this.2.2.2.2⟩
theorem oneE_canon {l : List UInt8} {x : Elem} (h : oneE l = .ok x) : encO x.cls x.con x.num (seg l x.body x.stop) = l ∧ x.start = 0 ∧ x.stop = l.length ∧ 0 ≤ x.cls ∧ x.cls ≤ 3 ∧ 0 ≤ x.num ∧ x.num < 31 := by
  rw [oneE_H] at h
  split at h
  · cases h
  · rename_i hd hn
    have hb := nextH_ok hn
    have hr := rdHdr_ok (nextH_hdr hn).1
    split at h
    · cases h
    · injection h with h
      subst h
      simp only
      have hsz : hd.size + hd.len = l.length := by omega
      have := nextH_canon hn
      rw [hsz, Int.toNat_natCast, List.take_length] at this
      refine ⟨?_, by trivial, by trivial, hr.2.2.2.2.2.1, hr.2.2.2.2.2.2.1, hr.2.2.2.2.2.2.2.1, by omega⟩
      have e : seg l hd.size l.length = cont l hd := by
        unfold seg cont
        congr 1
        omega
      rw [e, this]
/-- The octets of the parts. -/
def segsE (l : List UInt8) (xs : List Elem) : List (List UInt8) := xs.map fun x => seg l x.start x.stop
theorem partsE_ok {l : List UInt8} {c n : Int} {xs : List Elem} (h : partsE l c n = .ok xs) :
    l = encO c true n (segsE l xs).flatten ∧ 0 ≤ c ∧ c ≤ 3 ∧ 0 ≤ n ∧ n < 31 ∧
      ∀ x ∈ xs, 0 ≤ x.start ∧ x.start < x.body ∧ x.body ≤ x.stop ∧ x.stop ≤ l.length ∧ oneE (seg l x.start x.stop) = .ok ⟨x.cls, x.num, x.con, 0, x.body - x.start, x.stop - x.start⟩ := by
  unfold partsE at h
  split at h
  · cases h
  · rename_i x hx
    have hc := oneE_canon hx
    have hb := oneE_ok hx
    split at h
    · rename_i his
      unfold isE at his
      simp only [Bool.and_eq_true, beq_iff_eq] at his
      obtain ⟨⟨i1, i2⟩, i3⟩ := his
      obtain ⟨h0, h1, h2, hcov⟩ := listE_cov h
      obtain ⟨s1, s2⟩ := cov_segs h0 h1 h2 hcov
      obtain ⟨c1, c2, c3, c4, c5, c6, c7⟩ := hc
      refine ⟨?_, by omega, by omega, by omega, by omega, fun y hy => ?_⟩
      · unfold segsE
        rw [s1, ← i1, ← i3]
        rw [i2] at c1
        exact c1.symm
      · have := s2 y hy
        exact ⟨by omega, by omega, by omega, by omega, this.2.2.2.2⟩
    · cases h
/-- Parts that are elements are found. -/
theorem partsE_enc (c n : Int) (ls : List (List UInt8)) (h : 0 ≤ c) (h1 : c ≤ 3) (h2 : 0 ≤ n) (h3 : n < 31) (hl : ls.flatten.length ≤ 2147483647) (hall : ∀ p ∈ ls, ∃ x, oneE p = .ok x) :
    ∃ xs, partsE (encO c true n ls.flatten) c n = .ok xs ∧ segsE (encO c true n ls.flatten) xs = ls := by
  obtain ⟨ys, hy, hyl⟩ := listE_enc c n true ls hall
  have h1' := oneE_enc c n true ls.flatten h h1 h2 h3 hl
  have hp : partsE (encO c true n ls.flatten) c n = .ok ys := by
    unfold partsE
    rw [h1']
    simp only [isE, beq_self_eq_true, Bool.and_self, if_true]
    exact hy
  refine ⟨ys, hp, ?_⟩
  obtain ⟨p1, _, _, _, _, p2⟩ := partsE_ok hp
  -- both are cut of the same octets, element by element
  have key : ∀ (as bs : List (List UInt8)), (∀ p ∈ as, ∃ x, oneE p = .ok x) → (∀ p ∈ bs, ∃ x, oneE p = .ok x) → as.flatten = bs.flatten → as = bs := by
    intro as
    induction as with
    | nil =>
      intro bs _ hb e
      cases bs with
      | nil => rfl
      | cons q t =>
        obtain ⟨x, hx⟩ := hb q (by simp)
        have := oneE_ok hx
        have e' := congrArg List.length e
        simp only [List.flatten_nil, List.flatten_cons, List.length_nil, List.length_append] at e'
        omega
    | cons p t ih =>
      intro bs ha hb e
      cases bs with
      | nil =>
        obtain ⟨x, hx⟩ := ha p (by simp)
        have := oneE_ok hx
        have e' := congrArg List.length e
        simp only [List.flatten_nil, List.flatten_cons, List.length_nil, List.length_append] at e'
        omega
      | cons q t' =>
        obtain ⟨x, hx⟩ := ha p (by simp)
        obtain ⟨y, hy'⟩ := hb q (by simp)
        obtain ⟨d1, r1, z1⟩ := oneE_hdr hx
        obtain ⟨d2, r2, z2⟩ := oneE_hdr hy'
        rw [List.flatten_cons, List.flatten_cons] at e
        have e1 := rdHdr_app t.flatten r1
        rw [e, rdHdr_app t'.flatten r2] at e1
        injection e1 with e1
        subst e1
        have hlen : p.length = q.length := by omega
        obtain ⟨e2, e3⟩ := List.append_inj e hlen
        rw [e2, ih t' (fun z hz => ha z (by simp [hz])) (fun z hz => hb z (by simp [hz])) e3]
  have hinj : (segsE (encO c true n ls.flatten) ys).flatten = ls.flatten := by
    have e1 := cont_enc c n true ls.flatten []
    have e2 := cont_enc c n true (segsE (encO c true n ls.flatten) ys).flatten []
    have hlen : (segsE (encO c true n ls.flatten) ys).flatten.length = ls.flatten.length := by
      have hn1 := nextH_enc c n true ls.flatten [] h h1 h2 h3 hl
      have hle : (segsE (encO c true n ls.flatten) ys).flatten.length ≤ 2147483647 := by
        have hL1 := encO_len c n true ls.flatten
        have hL2 := encO_len c n true (segsE (encO c true n ls.flatten) ys).flatten
        rw [← p1] at hL2
        have := lenOct_len (segsE (encO c true n ls.flatten) ys).flatten.length
        have := lenOct_len ls.flatten.length
        have b2 := oneE_ok h1'
        -- the length octets are those of the same header
        have hr := rdHdr_ok (nextH_hdr hn1).1
        have hx := oneE_canon h1'
        by_cases hbig : (segsE (encO c true n ls.flatten) ys).flatten.length ≤ 2147483647
        · exact hbig
        · exfalso
          have hfl : (segsE (encO c true n ls.flatten) ys).flatten.length ≤ ls.flatten.length := by
            unfold partsE at hp
            rw [h1'] at hp
            simp only [isE, beq_self_eq_true, Bool.and_self, if_true] at hp
            obtain ⟨g0, g1, g2, gc⟩ := listE_cov hp
            obtain ⟨s1, _⟩ := cov_segs g0 g1 g2 gc
            have hsl := seg_len _ _ _ g0 g1 g2
            rw [← s1] at hsl
            unfold segsE
            omega
          omega
      have hn2 := nextH_enc c n true (segsE (encO c true n ls.flatten) ys).flatten [] h h1 h2 h3 hle
      rw [← p1, hn1] at hn2
      injection hn2 with hn2
      injection hn2 with _ _ _ hn2 _
      omega
    rw [← p1, hlen, e1] at e2
    exact e2.symm
  exact key _ _ (fun p hp => by
    unfold segsE at hp
    simp only [List.mem_map] at hp
    obtain ⟨x, hx, rfl⟩ := hp
    exact ⟨_, (p2 x hx).2.2.2.2⟩) hall hinj
/-- The encoding of contents is that of no others. -/
theorem encO_inj {c n c' n' : Int} {k k' : Bool} {l l' : List UInt8} (h : 0 ≤ c) (h1 : c ≤ 3) (h2 : 0 ≤ n) (h3 : n < 31) (h' : 0 ≤ c') (h1' : c' ≤ 3) (h2' : 0 ≤ n') (h3' : n' < 31) (hl : l.length ≤ 2147483647) (hl' : l'.length ≤ 2147483647)
    (e : encO c k n l = encO c' k' n' l') : c = c' ∧ k = k' ∧ n = n' ∧ l = l' := by
  have a := nextH_enc c n k l [] h h1 h2 h3 hl
  have b := nextH_enc c' n' k' l' [] h' h1' h2' h3' hl'
  have a2 := cont_enc c n k l []
  have b2 := cont_enc c' n' k' l' []
  rw [e, b] at a
  injection a with a
  rw [e, ← a, b2] at a2
  injection a with i1 i2 i3 i4 i5
  exact ⟨i1.symm, i3.symm, i2.symm, a2.symm⟩
end Go.Cr
end

/- Nodes in memory. No program in sight. -/
section
set_option linter.unusedSimpArgs false
set_option linter.unusedVariables false
namespace Go.Cr
open Go.RowKit

/-- A row that lies in a block of which S holds. -/
def IsRS (S : Nat → Prop) (w : World) (v : Value) (k n : Nat) (xs : List Value) : Prop :=
  ∃ (A : Option Addr) (c : Nat), v = .slice A n c ∧ n ≤ c ∧ c ≤ maxLen ∧ xs.length = n * k ∧
    (0 < n → ∃ b off, A = some ⟨b, off, none⟩ ∧ b < w.heap.size ∧ S b ∧ ∀ j x, xs[j]? = some x → w.cell? ⟨b, off + j, none⟩ = some x)
section
variable {S S' : Nat → Prop} {w w' : World} {v : Value} {k n : Nat} {xs : List Value}
theorem IsRS.isR (h : IsRS S w v k n xs) : IsR w v k n xs := by
  obtain ⟨A, c, h1, h2, h3, h4, h5⟩ := h
  refine ⟨A, c, h1, h2, h3, h4, fun hn => ?_⟩
  obtain ⟨b, off, e, hb, _, hc⟩ := h5 hn
  exact ⟨b, off, e, hb, hc⟩
theorem IsRS.weak (h : IsRS S w v k n xs) (hs : ∀ b, b < w.heap.size → S b → S' b) : IsRS S' w v k n xs := by
  obtain ⟨A, c, h1, h2, h3, h4, h5⟩ := h
  refine ⟨A, c, h1, h2, h3, h4, fun hn => ?_⟩
  obtain ⟨b, off, e, hb, hS, hc⟩ := h5 hn
  exact ⟨b, off, e, hb, hs b hb hS, hc⟩
theorem IsRS.keep (h : IsRS S w v k n xs) (hsz : w.heap.size ≤ w'.heap.size) (hk : ∀ b, b < w.heap.size → S b → w'.heap[b]? = w.heap[b]?) : IsRS S w' v k n xs := by
  obtain ⟨A, c, h1, h2, h3, h4, h5⟩ := h
  refine ⟨A, c, h1, h2, h3, h4, fun hn => ?_⟩
  obtain ⟨b, off, e, hb, hS, hc⟩ := h5 hn
  exact ⟨b, off, e, by omega, hS, fun j x hj => (World.cell?_of_block (hk b hb hS)).trans (hc j x hj)⟩
theorem IsRS.of_own {base : Nat} {e : TypeId} (h : w.ownsRow base e k v n xs) : IsRS (fun b => base ≤ b) w v k n xs := by
  have hlt := h.lt
  obtain ⟨A, c, rfl, h2, h3, h4, h5⟩ := IsR.of_own h
  refine ⟨A, c, rfl, h2, h3, h4, fun hn => ?_⟩
  obtain ⟨b, off, rfl, hb, hc⟩ := h5 hn
  refine ⟨b, off, rfl, hb, ?_, hc⟩
  rcases h.2 with ⟨hv, _⟩ | ⟨g, cap, cur, hv, hg, _⟩
  · injection hv with hv _ _; cases hv
  · injection hv with hv _ _
    injection hv with hv
    injection hv with hv _ _
    omega
theorem IsRS.nil_ (S : Nat → Prop) (w : World) (k : Nat) : IsRS S w (.slice none 0 0) k 0 [] := ⟨none, 0, rfl, Nat.le_refl _, by decide, by simp, fun h => absurd h (by omega)⟩
end

/-- The cells are those of the node of bytes, whose rows lie in blocks of which S holds. -/
def IsNode (S : Nat → Prop) : Nat → World → List Value → List UInt8 → Prop
  | 0, _, _, _ => False
  | d + 1, w, cs, l => ∃ (h : Hdr) (v4 v5 : Value) (ks : List (List UInt8)) (xs : List Value), nextH l = .ok h ∧ h.size + h.len = l.length ∧ cs = [.int .i64 h.cls, .int .i64 h.num, .bool h.con, v4, v5] ∧
      IsRS S w v4 1 (if h.con then [] else cont l h).length (bCells (if h.con then [] else cont l h)) ∧ IsRS S w v5 5 ks.length xs ∧
      (if h.con then ks.flatten = cont l h else ks = []) ∧ ∀ j (hj : j < ks.length), treeOK d ks[j] ∧ IsNode S d w ((xs.drop (j * 5)).take 5) ks[j]
theorem IsNode.weak {S S' : Nat → Prop} : ∀ {d : Nat} {w : World} {cs : List Value} {l : List UInt8}, IsNode S d w cs l → (∀ b, b < w.heap.size → S b → S' b) → IsNode S' d w cs l := by
  intro d
  induction d with
  | zero => intro w cs l h _; exact h
  | succ d ih =>
    intro w cs l h hs
    obtain ⟨hd, v4, v5, ks, xs, h1, h2, h3, h4, h5, h6, h7⟩ := h
    exact ⟨hd, v4, v5, ks, xs, h1, h2, h3, h4.weak hs, h5.weak hs, h6, fun j hj => ⟨(h7 j hj).1, ih (h7 j hj).2 hs⟩⟩
theorem IsNode.keep {S : Nat → Prop} : ∀ {d : Nat} {w w' : World} {cs : List Value} {l : List UInt8}, IsNode S d w cs l → w.heap.size ≤ w'.heap.size → (∀ b, b < w.heap.size → S b → w'.heap[b]? = w.heap[b]?) → IsNode S d w' cs l := by
  intro d
  induction d with
  | zero => intro w w' cs l h _ _; exact h
  | succ d ih =>
    intro w w' cs l h hsz hk
    obtain ⟨hd, v4, v5, ks, xs, h1, h2, h3, h4, h5, h6, h7⟩ := h
    exact ⟨hd, v4, v5, ks, xs, h1, h2, h3, h4.keep hsz hk, h5.keep hsz hk, h6, fun j hj => ⟨(h7 j hj).1, ih (h7 j hj).2 hsz hk⟩⟩
theorem IsNode.below {S : Nat → Prop} {d : Nat} {w w' : World} {cs : List Value} {l : List UInt8} (h : IsNode S d w cs l) (hb : Below w.heap.size w w') : IsNode S d w' cs l :=
  h.keep hb.size fun b hlt _ => hb.block b hlt
theorem IsNode.shape {S : Nat → Prop} {d : Nat} {w : World} {cs : List Value} {l : List UInt8} (h : IsNode S d w cs l) :
    ∃ (c1 c2 : Int) (c3 : Bool) (a4 a5 : Option Addr) (n4 k4 n5 k5 : Nat), cs = [.int .i64 c1, .int .i64 c2, .bool c3, .slice a4 n4 k4, .slice a5 n5 k5] := by
  cases d with
  | zero => exact h.elim
  | succ d =>
    obtain ⟨hd, v4, v5, ks, xs, h1, h2, h3, ⟨A4, c4, rfl, _⟩, ⟨A5, c5, rfl, _⟩, _⟩ := h
    exact ⟨_, _, _, _, _, _, _, _, _, h3⟩

/-- Nodes one behind another. -/
def IsNodes (S : Nat → Prop) (d : Nat) (w : World) (xs : List Value) (ks : List (List UInt8)) : Prop := xs.length = ks.length * 5 ∧ ∀ j (hj : j < ks.length), treeOK d ks[j] ∧ IsNode S d w ((xs.drop (j * 5)).take 5) ks[j]
theorem IsNodes.nil_ (S : Nat → Prop) (d : Nat) (w : World) : IsNodes S d w [] [] := ⟨rfl, fun j hj => absurd hj (by simp)⟩
theorem IsNodes.snoc {S : Nat → Prop} {d : Nat} {w : World} {xs cs : List Value} {ks : List (List UInt8)} {p : List UInt8} (h : IsNodes S d w xs ks) (hp : IsNode S d w cs p) (ht : treeOK d p) (hl : cs.length = 5) : IsNodes S d w (xs ++ cs) (ks ++ [p]) := by
  obtain ⟨h1, h2⟩ := h
  refine ⟨by simp [h1, hl]; omega, fun j hj => ?_⟩
  simp only [List.length_append, List.length_cons, List.length_nil] at hj
  by_cases hlt : j < ks.length
  · rw [List.getElem_append_left hlt]
    refine ⟨(h2 j hlt).1, ?_⟩
    have e : ((xs ++ cs).drop (j * 5)).take 5 = (xs.drop (j * 5)).take 5 := by
      rw [List.drop_append_of_le_length (by omega), List.take_append_of_le_length (by simp; omega)]
    rw [e]
    exact (h2 j hlt).2
  · have hjk : j = ks.length := by omega
    subst hjk
    rw [List.getElem_append_right (Nat.le_refl _)]
    have e : ((xs ++ cs).drop (ks.length * 5)).take 5 = cs := by
      rw [← h1, List.drop_left, List.take_of_length_le (by omega)]
    rw [e]
    simpa using ⟨ht, hp⟩
theorem IsNodes.weak {S S' : Nat → Prop} {d : Nat} {w : World} {xs : List Value} {ks : List (List UInt8)} (h : IsNodes S d w xs ks) (hs : ∀ b, b < w.heap.size → S b → S' b) : IsNodes S' d w xs ks :=
  ⟨h.1, fun j hj => ⟨(h.2 j hj).1, (h.2 j hj).2.weak hs⟩⟩
theorem IsNodes.keep {S : Nat → Prop} {d : Nat} {w w' : World} {xs : List Value} {ks : List (List UInt8)} (h : IsNodes S d w xs ks) (hsz : w.heap.size ≤ w'.heap.size) (hk : ∀ b, b < w.heap.size → S b → w'.heap[b]? = w.heap[b]?) : IsNodes S d w' xs ks :=
  ⟨h.1, fun j hj => ⟨(h.2 j hj).1, (h.2 j hj).2.keep hsz hk⟩⟩
theorem IsNodes.below {S : Nat → Prop} {d : Nat} {w w' : World} {xs : List Value} {ks : List (List UInt8)} (h : IsNodes S d w xs ks) (hb : Below w.heap.size w w') : IsNodes S d w' xs ks := h.keep hb.size fun b hlt _ => hb.block b hlt
/-- Blocks from base on, but not one. -/
def But (base : Nat) (row : Option Nat) (b : Nat) : Prop := base ≤ b ∧ some b ≠ row
/-- Behind an append to the row. -/
theorem IsNodes.grown {d base : Nat} {w w' : World} {xs : List Value} {ks : List (List UInt8)} {v v' : Value} (h : IsNodes (But base v.ownBlock) d w xs ks) (hg : w.grownBy w' v.ownBlock) (hat : v'.ownBlock = v.ownBlock ∨ v'.ownBlock = some w.heap.size) : IsNodes (But base v'.ownBlock) d w' xs ks := by
  have h1 : IsNodes (But base v.ownBlock) d w' xs ks := h.keep hg.size fun b hlt hS => hg.block b hlt hS.2
  have h2 : IsNodes (fun b => But base v.ownBlock b ∧ b < w.heap.size) d w xs ks := h.weak fun b hlt hS => ⟨hS, hlt⟩
  have h3 : IsNodes (fun b => But base v.ownBlock b ∧ b < w.heap.size) d w' xs ks := h2.keep hg.size fun b hlt hS => hg.block b hlt hS.1.2
  refine h3.weak fun b hlt hS => ⟨hS.1.1, fun e => ?_⟩
  rcases hat with hat | hat
  · exact hS.1.2 (e.trans hat)
  · rw [hat] at e; injection e with e; omega
theorem IsNode.tree {S : Nat → Prop} {d : Nat} {w : World} {cs : List Value} {l : List UInt8} (h : IsNode S d w cs l) : treeOK d l := by
  cases d with
  | zero => exact h.elim
  | succ d =>
    obtain ⟨hd, v4, v5, ks, xs, h1, h2, h3, h4, h5, h6, h7⟩ := h
    have hk := nextH_ok h1
    unfold treeOK
    cases hc : hd.con with
    | false =>
      simp only [readT, h1, hc, if_true]
      congr 1
      omega
    | true =>
      rw [hc, if_pos rfl] at h6
      have hl := cont_len h1
      simp only [readT, h1, hc, Bool.true_eq_false, if_false]
      rw [← h6, scanL_of ks _ (fun p hp => by
        obtain ⟨j, hj, rfl⟩ := List.getElem_of_mem hp
        exact (h7 j hj).1) (by rw [h6]; omega)]
      simp only
      congr 1
      omega
end Go.Cr
end

/- Rows of owned byte slices: a slice of slices that grows by append. No program in sight. -/
section
set_option linter.unusedSimpArgs false
set_option linter.unusedVariables false
namespace Go.Cr
open Go.RowKit

/-- The cells are slices that read as the parts, in blocks of which S holds. -/
def PartsIn (S : Nat → Prop) (w : World) (xs : List Value) (ls : List (List UInt8)) : Prop := xs.length = ls.length ∧ ∀ j (hj : j < ls.length), IsRS S w (xs.getD j undef) 1 ls[j].length (bCells ls[j])
theorem PartsIn.nil_ (S : Nat → Prop) (w : World) : PartsIn S w [] [] := ⟨rfl, fun j hj => absurd hj (by simp)⟩
theorem PartsIn.snoc {S : Nat → Prop} {w : World} {xs : List Value} {ls : List (List UInt8)} {u : Value} {l : List UInt8} (h : PartsIn S w xs ls) (hu : IsRS S w u 1 l.length (bCells l)) : PartsIn S w (xs ++ [u]) (ls ++ [l]) := by
  obtain ⟨h1, h2⟩ := h
  refine ⟨by simp [h1], fun j hj => ?_⟩
  simp only [List.length_append, List.length_cons, List.length_nil] at hj
  by_cases hlt : j < ls.length
  · rw [List.getElem_append_left hlt]
    have e : (xs ++ [u]).getD j undef = xs.getD j undef := by simp only [List.getD_eq_getElem?_getD, List.getElem?_append_left (show j < xs.length by omega)]
    rw [e]
    exact h2 j hlt
  · have hjk : j = ls.length := by omega
    subst hjk
    rw [List.getElem_append_right (Nat.le_refl _)]
    have e : (xs ++ [u]).getD ls.length undef = u := by simp [← h1]
    rw [e]
    simpa using hu
theorem PartsIn.weak {S S' : Nat → Prop} {w : World} {xs : List Value} {ls : List (List UInt8)} (h : PartsIn S w xs ls) (hs : ∀ b, b < w.heap.size → S b → S' b) : PartsIn S' w xs ls := ⟨h.1, fun j hj => (h.2 j hj).weak hs⟩
theorem PartsIn.keep {S : Nat → Prop} {w w' : World} {xs : List Value} {ls : List (List UInt8)} (h : PartsIn S w xs ls) (hsz : w.heap.size ≤ w'.heap.size) (hk : ∀ b, b < w.heap.size → S b → w'.heap[b]? = w.heap[b]?) : PartsIn S w' xs ls := ⟨h.1, fun j hj => (h.2 j hj).keep hsz hk⟩
theorem PartsIn.below {S : Nat → Prop} {w w' : World} {xs : List Value} {ls : List (List UInt8)} (h : PartsIn S w xs ls) (hb : Below w.heap.size w w') : PartsIn S w' xs ls := h.keep hb.size fun b hlt _ => hb.block b hlt
theorem PartsIn.grown {base : Nat} {w w' : World} {xs : List Value} {ls : List (List UInt8)} {v v' : Value} (h : PartsIn (But base v.ownBlock) w xs ls) (hg : w.grownBy w' v.ownBlock) (hat : v'.ownBlock = v.ownBlock ∨ v'.ownBlock = some w.heap.size) : PartsIn (But base v'.ownBlock) w' xs ls := by
  have h2 : PartsIn (fun b => But base v.ownBlock b ∧ b < w.heap.size) w xs ls := h.weak fun b hlt hS => ⟨hS, hlt⟩
  have h3 : PartsIn (fun b => But base v.ownBlock b ∧ b < w.heap.size) w' xs ls := h2.keep hg.size fun b hlt hS => hg.block b hlt hS.1.2
  refine h3.weak fun b hlt hS => ⟨hS.1.1, fun e => ?_⟩
  rcases hat with hat | hat
  · exact hS.1.2 (e.trans hat)
  · rw [hat] at e; injection e with e; omega
/-- The slice v is the call's own row of own parts. -/
def OwP (w : World) (base : Nat) (e : TypeId) (v : Value) (ls : List (List UInt8)) : Prop := ∃ xs, w.ownsRow base e 1 v ls.length xs ∧ PartsIn (But base v.ownBlock) w xs ls
theorem OwP.nil_ (w : World) (base : Nat) (e : TypeId) : OwP w base e (.slice none 0 0) [] := ⟨[], World.ownsRow_nil _ _ _ _, PartsIn.nil_ _ _⟩
theorem OwP.below {w w' : World} {base : Nat} {e : TypeId} {v : Value} {ls : List (List UInt8)} (h : OwP w base e v ls) (hb : Below w.heap.size w w') : OwP w' base e v ls := by
  obtain ⟨xs, h1, h2⟩ := h
  exact ⟨xs, ownsRow_below h1 hb, h2.below hb⟩
theorem OwP.alloc {w : World} {base : Nat} {e : TypeId} {v : Value} {ls : List (List UInt8)} (h : OwP w base e v ls) (o : Obj) : OwP (w.alloc o) base e v ls := h.below ((Below.refl _ _).alloc (Nat.le_refl _) o)
theorem OwP.isBs {w : World} {base : Nat} {e : TypeId} {v : Value} {ls : List (List UInt8)} (h : OwP w base e v ls) : IsBs w v ls := by
  obtain ⟨xs, h1, h2⟩ := h
  refine ⟨xs, IsR.of_own h1, fun j hj => ?_⟩
  have := (h2.2 j hj).isR.bytes
  simpa [hj] using this
theorem OwP.slice {w : World} {base : Nat} {e : TypeId} {v : Value} {ls : List (List UInt8)} (h : OwP w base e v ls) : ∃ A c, v = .slice A ls.length c := by
  obtain ⟨xs, h1, _⟩ := h
  obtain ⟨A, c, h, _⟩ := IsR.of_own h1
  exact ⟨A, c, h⟩
/-- Bytes of a callee's own, seen from a row that is older. -/
theorem part_new {w W : World} {base : Nat} {t e : TypeId} {u v : Value} {l : List UInt8} {n : Nat} {xs : List Value} (h : OwB w W.heap.size t u l) (hb : base ≤ W.heap.size) (hv : W.ownsRow base e 1 v n xs) : IsRS (But base v.ownBlock) w u 1 l.length (bCells l) :=
  (IsRS.of_own h).weak fun b _ hS => ⟨by omega, fun he => by have := (hv.lt _ he.symm).2; omega⟩
section
variable {P : Program} (w : World)
/-- append(v, u), u a part. -/
theorem run_appP (base : Nat) (t ty e : TypeId) (ht : P.underlying t = some (.slice e)) (hinfo : (P.info? e).map (fun i => (i.zero, i.size, i.bytes)) = some (some (.slice none 0 0), 1, 24))
    (v : Value) (ls : List (List UInt8)) (hown : OwP w base e v ls) (x u : Value) (l : List UInt8) (hx : IsR w x 1 1 [u]) (hu : IsRS (But base v.ownBlock) w u 1 l.length (bCells l)) (hn : ls.length ≤ 1000000) (hbase : base ≤ w.heap.size) :
    ∃ v' w', (Builtin.append_ #[t, t] ty #[v, x]).run P w = .ok v' w' ∧ OwP w' base e v' (ls ++ [l]) ∧ Below base w w' ∧ w.grownBy w' v.ownBlock := by
  obtain ⟨i0, hi, hz0, hz1, hz2⟩ := info_parts hinfo
  obtain ⟨xs, h1, h2⟩ := hown
  have hone : ∀ y ∈ [u], y.oneCell' = true := by
    intro y hy
    simp at hy; subst hy
    obtain ⟨A, c, rfl, _⟩ := hu
    rfl
  obtain ⟨v', w', hr, g1, g2, g3, g4⟩ := run_app2 (P := P) w base t ty e i0 _ 1 24 ht hi hz0 hz1 hz2 rfl (by decide) v ls.length xs h1 x 1 [u] hx hone (by unfold maxLen; omega) (by omega) hbase
  refine ⟨v', w', hr, ⟨xs ++ [u], by rw [List.length_append]; exact g1, ?_⟩, g3, g2⟩
  exact (h2.snoc hu).grown g2 g4
theorem wpList_appP {ops : Array Oper} {rest : List Oper} {o : Oper} {a : Act} {Q : Exit → Act → World → Prop} (hgd : o.guard = none) (s y : Operand) (t : TypeId)
    (ho : o.op = .call { callee := .builtin .append, args := #[s, y], argTypes := #[t, t] })
    (base : Nat) (e : TypeId) (ht : P.underlying t = some (.slice e)) (hinfo : (P.info? e).map (fun i => (i.zero, i.size, i.bytes)) = some (some (.slice none 0 0), 1, 24))
    (v : Value) (ls : List (List UInt8)) (hs : a.eval s = v) (hown : OwP w base e v ls) (x u : Value) (l : List UInt8) (hyx : a.eval y = x) (hx : IsR w x 1 1 [u]) (hu : IsRS (But base v.ownBlock) w u 1 l.length (bCells l)) (hn : ls.length ≤ 1000000) (hbase : base ≤ w.heap.size)
    (h : ∀ v' w', OwP w' base e v' (ls ++ [l]) → Below base w w' → w.grownBy w' v.ownBlock → wpList P ops Q rest (a.put o.dst v') w') : wpList P ops Q (o :: rest) a w :=
  wpList_plain hgd fun _ hK => by
    obtain ⟨v', w', hr, h2, h3, h4⟩ := run_appP (P := P) w base t o.type e ht hinfo v ls hown x u l hx hu hn hbase
    unfold Oper.wp execOp
    simp only [ho, resolve, invoke, builtin, Sem.run_bind, Sem.run_pure, Result.andThen_ok, List.map_toArray, List.map_cons, List.map_nil, hs, hyx, hr]
    exact hK _ _ (h v' w' h2 h3 h4)
end
/-- An append as an operation of a drawing region: by its run equation. -/
theorem wp_appR {P : Program} {w : World} {o : Oper} {a : Act} {K : Act → World → Prop} {Q : Exit → Act → World → Prop} (s y : Operand) (t t' : TypeId)
    (ho : o.op = .call { callee := .builtin .append, args := #[s, y], argTypes := #[t, t'] }) (v x v' : Value) (w' : World) (hs : a.eval s = v) (hyx : a.eval y = x)
    (hr : (Builtin.append_ #[t, t'] o.type #[v, x]).run P w = .ok v' w') (h : K (a.put o.dst v') w') : Oper.wp P o a w K Q := by
  unfold Oper.wp execOp
  simp only [ho, resolve, invoke, builtin, Sem.run_bind, Sem.run_pure, Result.andThen_ok, List.map_toArray, List.map_cons, List.map_nil, hs, hyx, hr]
  exact h
end Go.Cr
end

/- What a function that writes into blocks of some types alone leaves: relations between worlds. No program in sight. -/
section
set_option linter.unusedSimpArgs false
set_option linter.unusedVariables false
namespace Go.Cr
open Go.RowKit
/-- Below B the blocks before base, and all but the cells of the types Tp, are as they were. -/
structure Far (base : Nat) (Tp : TypeId → Prop) (B : Nat) (w w' : World) : Prop where
  os : w'.os = w.os
  tape : w'.tape = w.tape
  output : w'.output = w.output
  size : w.heap.size ≤ w'.heap.size
  block : ∀ k, k < B → (k < base ∨ ∀ cs t fz, w.heap[k]? = some (.cells cs t fz) → ¬ Tp t) → w'.heap[k]? = w.heap[k]?
section
variable {base B : Nat} {Tp : TypeId → Prop} {a w w' : World}
theorem Far.of_below (h : Below B w w') : Far base Tp B w w' := ⟨h.os, h.tape, h.output, h.size, fun k hk _ => h.block k hk⟩
theorem Far.trans (h : Far base Tp B a w) (k : Far base Tp B w w') : Far base Tp B a w' :=
  ⟨k.os.trans h.os, k.tape.trans h.tape, k.output.trans h.output, Nat.le_trans h.size k.size, fun i hi hr => by
    have h1 := h.block i hi hr
    have h2 := k.block i hi (by rw [h1]; exact hr)
    exact h2.trans h1⟩
theorem Far.mono {B' : Nat} (h : Far base Tp B w w') (hB : B' ≤ B) : Far base Tp B' w w' := ⟨h.os, h.tape, h.output, h.size, fun k hk hr => h.block k (Nat.lt_of_lt_of_le hk hB) hr⟩
theorem Far.widen {base' : Nat} {Tp' : TypeId → Prop} (h : Far base Tp B w w') (hb : base' ≤ base) (ht : ∀ t, Tp t → Tp' t) : Far base' Tp' B w w' :=
  ⟨h.os, h.tape, h.output, h.size, fun k hk hr => h.block k hk (by
    rcases hr with hr | hr
    · exact .inl (by omega)
    · exact .inr fun cs t fz e hT => hr cs t fz e (ht t hT))⟩
theorem Far.refl (base : Nat) (Tp : TypeId → Prop) (B : Nat) (w : World) : Far base Tp B w w := Far.of_below (Below.refl B w)
theorem Far.step (h : Far base Tp B a w) (hb : Below w.heap.size w w') (hB : B ≤ w.heap.size) : Far base Tp B a w' := h.trans (Far.of_below (hb.mono hB))
theorem Far.far (h : Far base Tp B a w) (hb : Far base Tp w.heap.size w w') (hB : B ≤ w.heap.size) : Far base Tp B a w' := h.trans (hb.mono hB)
theorem Far.alloc (h : Far base Tp B a w) (hB : B ≤ w.heap.size) (o : Obj) : Far base Tp B a (w.alloc o) := h.step ((Below.refl _ w).alloc (Nat.le_refl _) o) hB
theorem Far.drew (h : Far base Tp B a w) : Far base Tp B a w.drew := h.trans (Far.of_below ((Below.refl _ w).drew))
theorem Far.setCell (h : Far base Tp B a w) {p : Addr} (hp : B ≤ p.block) (u : Value) : Far base Tp B a (w.setCell p u) := h.trans (Far.of_below ((Below.refl _ w).setCell hp u))
/-- A store into a block of one of the types. -/
theorem Far.setRow (h : Far base Tp B a w) {p : Addr} {cs : Array Value} {t : TypeId} (hk : Blk w p.block t cs) (hp : base ≤ p.block) (ht : Tp t) (u : Value) : Far base Tp B a (w.setCell p u) :=
  h.trans ⟨rfl, rfl, rfl, by simp [World.setCell], fun k _ hr => Below.heap_setCell _ _ _ _ (fun e => by
    subst e
    rcases hr with hr | hr
    · omega
    · exact hr _ _ _ hk ht)⟩
/-- An append to a row of one of the types. -/
theorem Far.grown {b0 : Nat} {e : TypeId} {k : Nat} {v : Value} {n : Nat} {xs : List Value} (h : Far base Tp B a w) (hg : w.grownBy w' v.ownBlock) (hB : B ≤ w.heap.size) (ho : w.ownsRow b0 e k v n xs) (hb : base ≤ b0) (ht : Tp e) : Far base Tp B a w' :=
  h.trans ⟨hg.os, hg.tape, hg.output, hg.size, fun i hi hr => hg.block i (by omega) (fun he => by
    obtain ⟨_, ⟨rfl, _⟩ | ⟨g, cap, cur, rfl, hgb, hh, _⟩⟩ := ho
    · cases he
    · have : i = g := by injection he
      subst this
      rcases hr with hr | hr
      · omega
      · exact hr _ _ _ hh ht)⟩
theorem Far.below {B' : Nat} (h : Far base Tp B w w') (hB : B' ≤ B) (hb : B' ≤ base) : Below B' w w' := ⟨h.os, h.tape, h.output, h.size, fun k hk => h.block k (by omega) (.inl (by omega))⟩
theorem Far.cell (h : Far base Tp B w w') {b o : Nat} (hB : b < B) (hb : b < base) : w'.cell? ⟨b, o, none⟩ = w.cell? ⟨b, o, none⟩ := World.cell?_of_block (w := w) (h.block b hB (.inl hb))
theorem Blk.farR {g : Nat} {t : TypeId} {cs : Array Value} (h : Blk w g t cs) (hf : Far base Tp B w w') (hB : g < B) (hr : g < base ∨ ¬ Tp t) : Blk w' g t cs := by
  refine (hf.block g hB ?_).trans h
  rcases hr with hr | hr
  · exact .inl hr
  · refine .inr fun cs' t' fz e hT => hr ?_
    unfold Blk at h
    rw [h] at e
    injection e with e
    injection e with e1 e2 e3
    rw [e2]; exact hT
theorem own_farR {b0 : Nat} {e : TypeId} {k : Nat} {v : Value} {n : Nat} {xs : List Value} (h : w.ownsRow b0 e k v n xs) (hf : Far base Tp w.heap.size w w') (ht : ¬ Tp e) : w'.ownsRow b0 e k v n xs := by
  have hlt := h.lt
  obtain ⟨h1, h2⟩ := h
  refine ⟨h1, ?_⟩
  rcases h2 with h2 | ⟨g, cap, cur, hv, hgb, hh, r⟩
  · exact .inl h2
  · subst hv
    refine .inr ⟨g, cap, cur, rfl, hgb, ?_, r⟩
    rw [hf.block g (hlt g rfl).2 (.inr fun cs t fz e' hT => by rw [hh] at e'; injection e' with e'; injection e' with _ e2; exact ht (by rw [e2]; exact hT))]
    exact hh
theorem own_farB {b0 : Nat} {e : TypeId} {k : Nat} {v : Value} {n : Nat} {xs : List Value} (h : w.ownsRow b0 e k v n xs) (hf : Far base Tp w.heap.size w w') (hl : ∀ g, v.ownBlock = some g → g < base) : w'.ownsRow b0 e k v n xs := by
  have hlt := h.lt
  obtain ⟨h1, h2⟩ := h
  refine ⟨h1, ?_⟩
  rcases h2 with h2 | ⟨g, cap, cur, hv, hgb, hh, r⟩
  · exact .inl h2
  · subst hv
    refine .inr ⟨g, cap, cur, rfl, hgb, ?_, r⟩
    rw [hf.block g (hlt g rfl).2 (.inl (hl g rfl))]
    exact hh
end
/-- Below B all blocks but one are as they were. -/
structure Only (c B : Nat) (w w' : World) : Prop where
  os : w'.os = w.os
  tape : w'.tape = w.tape
  output : w'.output = w.output
  size : w.heap.size ≤ w'.heap.size
  block : ∀ k, k < B → k ≠ c → w'.heap[k]? = w.heap[k]?
theorem Only.of_below {c B : Nat} {w w' : World} (h : Below B w w') : Only c B w w' := ⟨h.os, h.tape, h.output, h.size, fun k hk _ => h.block k hk⟩
theorem Only.set {c B : Nat} {a w : World} (h : Only c B a w) {p : Addr} (hp : p.block = c) (u : Value) : Only c B a (w.setCell p u) :=
  ⟨h.os, h.tape, h.output, (by simpa [World.setCell] using h.size), fun k hk hn => (Below.heap_setCell _ _ _ _ (fun e => hn (by rw [e, hp]))).trans (h.block k hk hn)⟩
theorem Only.below {c B B' : Nat} {w w' : World} (h : Only c B w w') (hB : B' ≤ B) (hc : B' ≤ c) : Below B' w w' := ⟨h.os, h.tape, h.output, h.size, fun k hk => h.block k (by omega) (by omega)⟩
theorem Blk.only {c g : Nat} {w w' : World} {t : TypeId} {cs : Array Value} (h : Blk w g t cs) (hf : Only c w.heap.size w w') (hg : g ≠ c) : Blk w' g t cs := (hf.block g h.lt hg).trans h
theorem own_only {c b0 : Nat} {w w' : World} {e : TypeId} {k : Nat} {v : Value} {n : Nat} {xs : List Value} (h : w.ownsRow b0 e k v n xs) (hf : Only c w.heap.size w w') (hc : ∀ g, v.ownBlock = some g → g ≠ c) : w'.ownsRow b0 e k v n xs := by
  have hlt := h.lt
  obtain ⟨h1, h2⟩ := h
  refine ⟨h1, ?_⟩
  rcases h2 with h2 | ⟨g, cap, cur, hv, hgb, hh, r⟩
  · exact .inl h2
  · subst hv
    refine .inr ⟨g, cap, cur, rfl, hgb, ?_, r⟩
    rw [hf.block g (hlt g rfl).2 (hc g rfl)]
    exact hh
/-- P held in a world whose blocks, all below B, are as they were. -/
def Old (B : Nat) (P : World → Prop) (w : World) : Prop := ∃ w0, P w0 ∧ w0.heap.size ≤ B ∧ Below w0.heap.size w0 w
theorem Old.mk_ {P : World → Prop} {w : World} (h : P w) : Old w.heap.size P w := ⟨w, h, Nat.le_refl _, Below.refl _ _⟩
theorem Old.out {B : Nat} {P : World → Prop} {w : World} (h : Old B P w) (hP : ∀ a b, P a → Below a.heap.size a b → P b) : P w := by
  obtain ⟨w0, h1, _, h3⟩ := h
  exact hP _ _ h1 h3
theorem Old.more {B B' : Nat} {P : World → Prop} {w : World} (h : Old B P w) (hB : B ≤ B') : Old B' P w := by
  obtain ⟨w0, h1, h2, h3⟩ := h
  exact ⟨w0, h1, by omega, h3⟩
theorem Old.below {B : Nat} {P : World → Prop} {w w' : World} (h : Old B P w) (hb : Below w.heap.size w w') : Old B P w' := by
  obtain ⟨w0, h1, h2, h3⟩ := h
  exact ⟨w0, h1, h2, h3.trans (hb.mono h3.size)⟩
theorem Old.below' {B : Nat} {P : World → Prop} {w w' : World} (h : Old B P w) (hb : Below B w w') : Old B P w' := by
  obtain ⟨w0, h1, h2, h3⟩ := h
  exact ⟨w0, h1, h2, h3.trans (hb.mono h2)⟩
theorem Old.far {B base : Nat} {Tp : TypeId → Prop} {P : World → Prop} {w w' : World} (h : Old B P w) (hf : Far base Tp w.heap.size w w') (hb : B ≤ base) : Old B P w' := by
  obtain ⟨w0, h1, h2, h3⟩ := h
  exact ⟨w0, h1, h2, h3.trans (hf.below h3.size (by omega))⟩
theorem Old.only {B c : Nat} {P : World → Prop} {w w' : World} (h : Old B P w) (hf : Only c w.heap.size w w') (hb : B ≤ c) : Old B P w' := by
  obtain ⟨w0, h1, h2, h3⟩ := h
  exact ⟨w0, h1, h2, h3.trans (hf.below h3.size (by omega))⟩
theorem Old.map {B : Nat} {P Q : World → Prop} {w : World} (h : Old B P w) (f : ∀ a, P a → Q a) : Old B Q w := by
  obtain ⟨w0, h1, h2, h3⟩ := h
  exact ⟨w0, f _ h1, h2, h3⟩
theorem Old.and {B : Nat} {P Q : World → Prop} {w : World} (h : Old B P w) (k : Old B Q w) (hP : ∀ a b, P a → Below a.heap.size a b → P b) (hQ : ∀ a b, Q a → Below a.heap.size a b → Q b) : Old B (fun a => P a ∧ Q a) w := by
  obtain ⟨w0, h1, h2, h3⟩ := h
  obtain ⟨w1, k1, k2, k3⟩ := k
  rcases Nat.le_total w0.heap.size w1.heap.size with hs | hs
  · exact ⟨w1, ⟨hP _ _ h1 ⟨k3.os.symm.trans h3.os, k3.tape.symm.trans h3.tape, k3.output.symm.trans h3.output, hs, fun i hi => (k3.block i (by omega)).symm.trans (h3.block i hi)⟩, k1⟩, k2, k3⟩
  · exact ⟨w0, ⟨h1, hQ _ _ k1 ⟨h3.os.symm.trans k3.os, h3.tape.symm.trans k3.tape, h3.output.symm.trans k3.output, hs, fun i hi => (h3.block i (by omega)).symm.trans (k3.block i hi)⟩⟩, h2, h3⟩
/-- Bytes that are old. -/
abbrev OldB (B : Nat) (v : Value) (l : List UInt8) (w : World) : Prop := Old B (fun a => IsB a v l) w
theorem OldB.now {B : Nat} {v : Value} {l : List UInt8} {w : World} (h : OldB B v l w) : IsB w v l := h.out fun _ _ h hb => h.below hb
theorem Only.thenB {c B : Nat} {a w w' : World} (h : Only c B a w) (hb : Below B w w') : Only c B a w' :=
  ⟨hb.os.trans h.os, hb.tape.trans h.tape, hb.output.trans h.output, Nat.le_trans h.size hb.size, fun k hk hn => (hb.block k hk).trans (h.block k hk hn)⟩
theorem Only.refl (c B : Nat) (w : World) : Only c B w w := Only.of_below (Below.refl B w)
end Go.Cr
end

/- Rows of things that lie in rows themselves: how a thing is read in cells, owned rows of things that grow by append. No program in sight. -/
section
set_option linter.unusedSimpArgs false
set_option linter.unusedVariables false
namespace Go.Cr
open Go.RowKit

/-- How things lie in k cells, what they lead to in blocks of which S holds. -/
structure Rep (α : Type) where
  k : Nat
  R : (Nat → Prop) → World → List Value → α → Prop
  kpos : 0 < k
  len : ∀ {S : Nat → Prop} {w : World} {cs : List Value} {a : α}, R S w cs a → cs.length = k
  one : ∀ {S : Nat → Prop} {w : World} {cs : List Value} {a : α}, R S w cs a → ∀ u ∈ cs, u.oneCell' = true
  weak : ∀ {S S' : Nat → Prop} {w : World} {cs : List Value} {a : α}, R S w cs a → (∀ b, b < w.heap.size → S b → S' b) → R S' w cs a
  keep : ∀ {S : Nat → Prop} {w w' : World} {cs : List Value} {a : α}, R S w cs a → w.heap.size ≤ w'.heap.size → (∀ b, b < w.heap.size → S b → w'.heap[b]? = w.heap[b]?) → R S w' cs a
section
variable {α : Type} (r : Rep α)
/-- Things one behind another. -/
def RowIn (S : Nat → Prop) (w : World) (xs : List Value) (l : List α) : Prop := xs.length = l.length * r.k ∧ ∀ j (h : j < l.length), r.R S w ((xs.drop (j * r.k)).take r.k) l[j]
/-- v reads as the things l. -/
def IsL (S : Nat → Prop) (w : World) (v : Value) (l : List α) : Prop := ∃ xs, IsRS S w v r.k l.length xs ∧ RowIn r S w xs l
/-- v is the call's own row of things; the row, and what they lead to, lie from base on in blocks of which X holds, the latter in other blocks than the row. -/
def OwL (X : Nat → Prop) (w : World) (base : Nat) (e : TypeId) (v : Value) (l : List α) : Prop := ∃ xs, w.ownsRow base e r.k v l.length xs ∧ (∀ g, v.ownBlock = some g → X g) ∧ RowIn r (fun b => But base v.ownBlock b ∧ X b) w xs l
end
section
variable {α : Type} {r : Rep α} {S S' X X' : Nat → Prop} {w w' : World} {v : Value} {l : List α} {xs : List Value} {base : Nat} {e : TypeId}
theorem RowIn.nil_ : RowIn r S w [] [] := ⟨by simp, fun j hj => absurd hj (by simp)⟩
theorem RowIn.snoc {cs : List Value} {a : α} (h : RowIn r S w xs l) (hp : r.R S w cs a) : RowIn r S w (xs ++ cs) (l ++ [a]) := by
  obtain ⟨h1, h2⟩ := h
  have hl := r.len hp
  refine ⟨by simp [h1, hl, Nat.add_mul], fun j hj => ?_⟩
  simp only [List.length_append, List.length_cons, List.length_nil] at hj
  by_cases hlt : j < l.length
  · rw [List.getElem_append_left hlt]
    have hm : j * r.k + r.k ≤ l.length * r.k := by
      have := Nat.mul_le_mul_right r.k (show j + 1 ≤ l.length by omega)
      rw [Nat.add_mul, Nat.one_mul] at this
      exact this
    have e : ((xs ++ cs).drop (j * r.k)).take r.k = (xs.drop (j * r.k)).take r.k := by
      rw [List.drop_append_of_le_length (by omega), List.take_append_of_le_length (by simp; omega)]
    rw [e]
    exact h2 j hlt
  · have hjk : j = l.length := by omega
    subst hjk
    rw [List.getElem_append_right (Nat.le_refl _)]
    have e : ((xs ++ cs).drop (l.length * r.k)).take r.k = cs := by
      rw [← h1, List.drop_left, List.take_of_length_le (by omega)]
    rw [e]
    simpa using hp
theorem RowIn.weak (h : RowIn r S w xs l) (hs : ∀ b, b < w.heap.size → S b → S' b) : RowIn r S' w xs l := ⟨h.1, fun j hj => r.weak (h.2 j hj) hs⟩
theorem RowIn.keep (h : RowIn r S w xs l) (hsz : w.heap.size ≤ w'.heap.size) (hk : ∀ b, b < w.heap.size → S b → w'.heap[b]? = w.heap[b]?) : RowIn r S w' xs l := ⟨h.1, fun j hj => r.keep (h.2 j hj) hsz hk⟩
theorem RowIn.grown {v' : Value} (h : RowIn r (fun b => But base v.ownBlock b ∧ X b) w xs l) (hg : w.grownBy w' v.ownBlock) (hat : v'.ownBlock = v.ownBlock ∨ v'.ownBlock = some w.heap.size) : RowIn r (fun b => But base v'.ownBlock b ∧ X b) w' xs l := by
  have h2 : RowIn r (fun b => (But base v.ownBlock b ∧ X b) ∧ b < w.heap.size) w xs l := h.weak fun b hlt hS => ⟨hS, hlt⟩
  have h3 : RowIn r (fun b => (But base v.ownBlock b ∧ X b) ∧ b < w.heap.size) w' xs l := h2.keep hg.size fun b hlt hS => hg.block b hlt hS.1.1.2
  refine h3.weak fun b hlt hS => ⟨⟨hS.1.1.1, fun e => ?_⟩, hS.1.2⟩
  rcases hat with hat | hat
  · exact hS.1.1.2 (e.trans hat)
  · rw [hat] at e; injection e with e; omega
theorem IsL.weak (h : IsL r S w v l) (hs : ∀ b, b < w.heap.size → S b → S' b) : IsL r S' w v l := by
  obtain ⟨xs, h1, h2⟩ := h
  exact ⟨xs, h1.weak hs, h2.weak hs⟩
theorem IsL.keep (h : IsL r S w v l) (hsz : w.heap.size ≤ w'.heap.size) (hk : ∀ b, b < w.heap.size → S b → w'.heap[b]? = w.heap[b]?) : IsL r S w' v l := by
  obtain ⟨xs, h1, h2⟩ := h
  exact ⟨xs, h1.keep hsz hk, h2.keep hsz hk⟩
theorem IsL.below (h : IsL r S w v l) (hb : Below w.heap.size w w') : IsL r S w' v l := h.keep hb.size fun b hlt _ => hb.block b hlt
theorem IsL.alloc (h : IsL r S w v l) (o : Obj) : IsL r S (w.alloc o) v l := h.below ((Below.refl _ _).alloc (Nat.le_refl _) o)
theorem IsL.nil_ : IsL r S w (.slice none 0 0) [] := ⟨[], IsRS.nil_ _ _ _, RowIn.nil_⟩
theorem IsL.slice (h : IsL r S w v l) : ∃ A c, v = .slice A l.length c := by
  obtain ⟨xs, ⟨A, c, rfl, _⟩, _⟩ := h
  exact ⟨A, c, rfl⟩
theorem IsL.maxl (h : IsL r S w v l) : (l.length : Int) ≤ 9223372036854775807 := by obtain ⟨xs, h1, _⟩ := h; exact h1.isR.maxl
theorem IsL.len {P : Program} {t e : TypeId} (h : IsL r S w v l) (ht : P.underlying t = some (.slice e)) : ∀ (ty : TypeId) (W : World), (Builtin.len_ #[t] ty #[v]).run P W = .ok (.int .i64 l.length) W := by
  obtain ⟨xs, h1, _⟩ := h; exact h1.isR.len ht
/-- The cells of a thing. -/
theorem IsL.at_ {P : Program} {t e : TypeId} (h : IsL r S w v l) (ht : P.underlying t = some (.slice e)) (hs : ∀ W, (sizeOf e).run P W = .ok r.k W) (kd : IntKind) (i : Nat) (h1 : i < l.length) :
    ∃ b o cs, (∀ W : World, (Instr.indexAt t v (.int kd (i : Int))).run P W = .ok (.pointer (some ⟨b, o, none⟩)) W) ∧ b < w.heap.size ∧ S b ∧ r.R S w cs l[i] ∧ ∀ j x, cs[j]? = some x → w.cell? ⟨b, o + j, none⟩ = some x := by
  obtain ⟨xs, ⟨A, c, rfl, h2, h3, h4, h5⟩, hl, hr⟩ := h
  obtain ⟨b, off, rfl, hb, hS, hc⟩ := h5 (by omega)
  have hR := hr i h1
  refine ⟨b, off + i * r.k, (xs.drop (i * r.k)).take r.k, fun W => ?_, hb, hS, hR, fun j x hj => ?_⟩
  · have hi : (0 ≤ (i : Int) ∧ (i : Int) < (l.length : Int)) := ⟨by omega, by omega⟩
    simp only [Instr.indexAt, asIntOf, Sem.run_bind, Sem.run_pure, Result.andThen, run_underlying ht, if_pos hi, hs]
    simp [Addr.add]
  · have hjk : j < r.k := by
      have h7 := (List.getElem?_eq_some_iff.1 hj).1
      have h8 := r.len hR
      omega
    rw [List.getElem?_take_of_lt hjk, List.getElem?_drop] at hj
    rw [Nat.add_assoc]
    exact hc _ _ hj
theorem OwL.nil_ (X : Nat → Prop) (w : World) (base : Nat) (e : TypeId) : OwL r X w base e (.slice none 0 0) [] := ⟨[], World.ownsRow_nil _ _ _ _, (fun g h => by cases h), RowIn.nil_⟩
/-- The same row, where all blocks that it may lie in are as they were. -/
theorem OwL.keep (h : OwL r X w base e v l) (hsz : w.heap.size ≤ w'.heap.size) (hk : ∀ b, b < w.heap.size → base ≤ b → X b → w'.heap[b]? = w.heap[b]?) : OwL r X w' base e v l := by
  obtain ⟨xs, h1, hX, h2⟩ := h
  refine ⟨xs, ?_, hX, h2.keep hsz fun b hlt hS => hk b hlt hS.1.1 hS.2⟩
  have hlt := h1.lt
  obtain ⟨h3, h4⟩ := h1
  refine ⟨h3, ?_⟩
  rcases h4 with h4 | ⟨g, cap, cur, hv, hgb, hh, q⟩
  · exact .inl h4
  · subst hv
    refine .inr ⟨g, cap, cur, rfl, hgb, ?_, q⟩
    rw [hk g (hlt g rfl).2 hgb (hX g rfl)]
    exact hh
theorem OwL.below (h : OwL r X w base e v l) (hb : Below w.heap.size w w') : OwL r X w' base e v l := h.keep hb.size fun b hlt _ _ => hb.block b hlt
theorem OwL.alloc (h : OwL r X w base e v l) (o : Obj) : OwL r X (w.alloc o) base e v l := h.below ((Below.refl _ _).alloc (Nat.le_refl _) o)
theorem OwL.setLow (h : OwL r X w base e v l) {p : Addr} (hp : p.block < base) (u : Value) : OwL r X (w.setCell p u) base e v l :=
  h.keep (by simp [World.setCell]) fun b _ hb _ => Below.heap_setCell _ _ _ _ (by omega)
theorem OwL.only {c : Nat} (h : OwL r X w base e v l) (hf : Only c w.heap.size w w') (hc : ∀ b, base ≤ b → X b → b ≠ c) : OwL r X w' base e v l := h.keep hf.size fun b hlt hb hx => hf.block b hlt (hc b hb hx)
theorem OwL.weak (h : OwL r X w base e v l) (hx : ∀ b, b < w.heap.size → base ≤ b → X b → X' b) : OwL r X' w base e v l := by
  obtain ⟨xs, h1, hX, h2⟩ := h
  exact ⟨xs, h1, fun g hg => hx g (h1.lt g hg).2 (h1.lt g hg).1 (hX g hg), h2.weak fun b hlt hS => ⟨hS.1, hx b hlt hS.1.1 hS.2⟩⟩
theorem OwL.isL (h : OwL r X w base e v l) : IsL r (fun b => base ≤ b ∧ X b) w v l := by
  obtain ⟨xs, h1, hX, h2⟩ := h
  refine ⟨xs, ?_, h2.weak fun b _ hS => ⟨hS.1.1, hS.2⟩⟩
  obtain ⟨A, c, rfl, q1, q2, q3, q4⟩ := IsRS.of_own h1
  refine ⟨A, c, rfl, q1, q2, q3, fun h0 => ?_⟩
  obtain ⟨b, off, rfl, hb, hS, hc⟩ := q4 h0
  refine ⟨b, off, rfl, hb, ⟨hS, hX b ?_⟩, hc⟩
  rcases h1.2 with ⟨hv, _⟩ | ⟨g, cap, cur, hv, _⟩
  · cases hv
  · injection hv with hv
    injection hv with hv
    injection hv with hv
    subst hv
    rfl
theorem OwL.slice (h : OwL r X w base e v l) : ∃ A c, v = .slice A l.length c := h.isL.slice
theorem OwL.notNew (h : OwL r X w base e v l) {g : Nat} (hg : w.heap.size ≤ g) : some g ≠ v.ownBlock := by
  obtain ⟨xs, h1, _⟩ := h
  intro he
  have := (h1.lt _ he.symm).2
  omega
theorem OwL.notOld (h : OwL r X w base e v l) {g : Nat} (hg : g < base) : some g ≠ v.ownBlock := by
  obtain ⟨xs, h1, _⟩ := h
  intro he
  have := (h1.lt _ he.symm).1
  omega
theorem OwL.more {base' : Nat} (h : OwL r X w base e v l) (hb : base' ≤ base) : OwL r X w base' e v l := by
  obtain ⟨xs, h1, hX, h2⟩ := h
  exact ⟨xs, ownsRow_more h1 hb, hX, h2.weak fun b _ hS => ⟨⟨Nat.le_trans hb hS.1.1, hS.1.2⟩, hS.2⟩⟩
/-- append(v, x), x a row with one thing. -/
theorem run_appL {P : Program} (w : World) (base : Nat) (t ty e : TypeId) (ht : P.underlying t = some (.slice e)) {i : TypeInfo} {z : Value} {bytes : Nat} (hi : P.info? e = some i) (hz : i.zero = some z) (hsize : i.size = r.k) (hby : i.bytes = bytes) (hzs : z.cells.size = r.k) (hb64 : bytes ≤ 64)
    (v : Value) (l : List α) (hown : OwL r X w base e v l) (x : Value) (cs : List Value) (a : α) (hx : IsR w x r.k 1 cs) (ha : r.R (fun b => But base v.ownBlock b ∧ X b) w cs a) (hn : l.length ≤ 1000000) (hbase : base ≤ w.heap.size) (hnew : X w.heap.size) :
    ∃ v' w', (Builtin.append_ #[t, t] ty #[v, x]).run P w = .ok v' w' ∧ OwL r X w' base e v' (l ++ [a]) ∧ Below base w w' ∧ w.grownBy w' v.ownBlock ∧ (v'.ownBlock = v.ownBlock ∨ v'.ownBlock = some w.heap.size) := by
  obtain ⟨xs, h1, hX, h2⟩ := hown
  have hbb : (l.length + 1) * bytes ≤ 140737488355328 := by
    have := Nat.mul_le_mul (show l.length + 1 ≤ 1000001 by omega) hb64
    omega
  obtain ⟨v', w', hr, g1, g2, g3, g4⟩ := run_app2 (P := P) w base t ty e i z r.k bytes ht hi hz hsize hby hzs r.kpos v l.length xs h1 x 1 cs hx (r.one ha) (by unfold maxLen; omega) hbb hbase
  refine ⟨v', w', hr, ⟨xs ++ cs, by rw [List.length_append]; exact g1, fun g hg => ?_, ?_⟩, g3, g2, g4⟩
  · rcases g4 with g4 | g4
    · exact hX g (g4.symm.trans hg)
    · rw [g4] at hg
      injection hg with hg
      subst hg
      exact hnew
  · exact (h2.snoc ha).grown g2 g4
theorem wpList_appL {P : Program} (w : World) {ops : Array Oper} {rest : List Oper} {o : Oper} {a : Act} {Q : Exit → Act → World → Prop} (hgd : o.guard = none) (s y : Operand) (t : TypeId)
    (ho : o.op = .call { callee := .builtin .append, args := #[s, y], argTypes := #[t, t] })
    (base : Nat) (e : TypeId) (ht : P.underlying t = some (.slice e)) {i : TypeInfo} {z : Value} {bytes : Nat} (hi : P.info? e = some i) (hz : i.zero = some z) (hsize : i.size = r.k) (hby : i.bytes = bytes) (hzs : z.cells.size = r.k) (hb64 : bytes ≤ 64)
    (v : Value) (l : List α) (hs : a.eval s = v) (hown : OwL r X w base e v l) (x : Value) (cs : List Value) (b : α) (hyx : a.eval y = x) (hx : IsR w x r.k 1 cs) (hb : r.R (fun b => But base v.ownBlock b ∧ X b) w cs b) (hn : l.length ≤ 1000000) (hbase : base ≤ w.heap.size) (hnew : X w.heap.size)
    (h : ∀ v' w', OwL r X w' base e v' (l ++ [b]) → Below base w w' → w.grownBy w' v.ownBlock → wpList P ops Q rest (a.put o.dst v') w') : wpList P ops Q (o :: rest) a w :=
  wpList_plain hgd fun _ hK => by
    obtain ⟨v', w', hr, h2, h3, h4, _⟩ := run_appL (P := P) w base t o.type e ht hi hz hsize hby hzs hb64 v l hown x cs b hx hb hn hbase hnew
    unfold Oper.wp execOp
    simp only [ho, resolve, invoke, builtin, Sem.run_bind, Sem.run_pure, Result.andThen_ok, List.map_toArray, List.map_cons, List.map_nil, hs, hyx, hr]
    exact hK _ _ (h v' w' h2 h3 h4)
end
theorem one_slice {S : Nat → Prop} {w : World} {v : Value} {k n : Nat} {xs : List Value} (h : IsRS S w v k n xs) : v.oneCell' = true := by
  obtain ⟨A, c, rfl, _⟩ := h
  rfl
/-- Bytes. -/
def repB : Rep (List UInt8) where
  k := 1
  R := fun S w cs l => ∃ v, cs = [v] ∧ IsRS S w v 1 l.length (bCells l)
  kpos := by decide
  len := fun ⟨v, h, _⟩ => by subst h; rfl
  one := fun ⟨v, h, h2⟩ u hu => by subst h; simp at hu; subst hu; exact one_slice h2
  weak := fun ⟨v, h, h2⟩ hs => ⟨v, h, h2.weak hs⟩
  keep := fun ⟨v, h, h2⟩ hsz hk => ⟨v, h, h2.keep hsz hk⟩
/-- A row of things. -/
def repL {α : Type} (r : Rep α) : Rep (List α) where
  k := 1
  R := fun S w cs l => ∃ v, cs = [v] ∧ IsL r S w v l
  kpos := by decide
  len := fun ⟨v, h, _⟩ => by subst h; rfl
  one := fun ⟨v, h, xs, h2, _⟩ u hu => by subst h; simp at hu; subst hu; exact one_slice h2
  weak := fun ⟨v, h, h2⟩ hs => ⟨v, h, h2.weak hs⟩
  keep := fun ⟨v, h, h2⟩ hsz hk => ⟨v, h, h2.keep hsz hk⟩
/-- A text and bytes: an attribute, a qualifier. -/
def repA : Rep (ByteArray × List UInt8) where
  k := 2
  R := fun S w cs a => ∃ v, cs = [.string a.1, v] ∧ IsRS S w v 1 a.2.length (bCells a.2)
  kpos := by decide
  len := fun ⟨v, h, _⟩ => by subst h; rfl
  one := fun ⟨v, h, h2⟩ u hu => by
    subst h; simp at hu
    rcases hu with rfl | rfl
    · rfl
    · exact one_slice h2
  weak := fun ⟨v, h, h2⟩ hs => ⟨v, h, h2.weak hs⟩
  keep := fun ⟨v, h, h2⟩ hsz hk => ⟨v, h, h2.keep hsz hk⟩
/-- A text and a row of things: a policy. -/
def repS {α : Type} (r : Rep α) : Rep (ByteArray × List α) where
  k := 2
  R := fun S w cs a => ∃ v, cs = [.string a.1, v] ∧ IsL r S w v a.2
  kpos := by decide
  len := fun ⟨v, h, _⟩ => by subst h; rfl
  one := fun ⟨v, h, xs, h2, _⟩ u hu => by
    subst h; simp at hu
    rcases hu with rfl | rfl
    · rfl
    · exact one_slice h2
  weak := fun ⟨v, h, h2⟩ hs => ⟨v, h, h2.weak hs⟩
  keep := fun ⟨v, h, h2⟩ hsz hk => ⟨v, h, h2.keep hsz hk⟩
/-- Two texts: a mapping. -/
def repT : Rep (ByteArray × ByteArray) where
  k := 2
  R := fun _ _ cs a => cs = [.string a.1, .string a.2]
  kpos := by decide
  len := fun h => by subst h; rfl
  one := fun h u hu => by
    subst h; simp at hu
    rcases hu with rfl | rfl <;> rfl
  weak := fun h _ => h
  keep := fun h _ _ => h
end Go.Cr
end
