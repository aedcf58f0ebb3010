/- The parts SpecG, SpecH, SpecF, SpecI of one proof, one behind the other. -/
import Derived.Test.YtjjkimjdmpeddaaGreatDoorJ02
import Derived.Test.YtjjkimjdmpeddaaGreatDoorJ01

/- The reference's way to an element. No program in sight. -/
section
set_option linter.unusedSimpArgs false
set_option linter.unusedVariables false
namespace Go.Cr
open Go.RowKit

/-- The header at the beginning, if its contents are there. -/
def nextH (l : List UInt8) : Except Err Hdr :=
  match rdHdr l with
  | .error e => .error e
  | .ok h => if (l.length : Int) - h.size < h.len then .error (1, l.length) else .ok h
theorem nextH_err {l : List UInt8} {c o : Int} (h : nextH l = .error (c, o)) : 0 < c ∧ c ≤ 4 ∧ 0 ≤ o ∧ o ≤ l.length := by
  unfold nextH at h
  split at h
  · rename_i hr; injection h with h; subst h; exact rdHdr_err hr
  · split at h
    · injection h with h; injection h with h1 h2; omega
    · cases h
theorem nextH_ok {l : List UInt8} {h : Hdr} (e : nextH l = .ok h) : 0 ≤ h.len ∧ 2 ≤ h.size ∧ h.size ≤ 6 ∧ h.size + h.len ≤ l.length := by
  unfold nextH at e
  split at e
  · cases e
  · rename_i hr
    have := rdHdr_ok hr
    split at e
    · cases e
    · injection e with e; subst e; omega
theorem nextE_H (l : List UInt8) (a e : Int) (h0 : 0 ≤ a) (h1 : a ≤ e) (h2 : e ≤ l.length) :
    nextE l a e = match nextH (seg l a e) with
      | .error (c, o) => .error (c, o + a)
      | .ok h => .ok (h.at_ a) := by
  have hl := seg_len l a e h0 h1 h2
  unfold nextE nextH
  cases rdHdr (seg l a e) with
  | error er => rfl
  | ok h =>
    simp only
    rw [hl]
    by_cases hc : e - a - h.size < h.len
    · rw [if_pos hc, if_pos hc]; simp only; congr 2; omega
    · rw [if_neg hc, if_neg hc]
theorem seg_all (l : List UInt8) : seg l 0 l.length = l := by simp [seg]
theorem oneE_H (l : List UInt8) :
    oneE l = match nextH l with
      | .error e => .error e
      | .ok h => if h.size + h.len < l.length then .error (2, h.size + h.len) else .ok ⟨h.cls, h.num, h.con, 0, h.size, l.length⟩ := by
  unfold oneE
  rw [nextE_H l 0 l.length (by omega) (by omega) (by omega), seg_all]
  cases hn : nextH l with
  | error er => obtain ⟨c, o⟩ := er; simp
  | ok h =>
    have := nextH_ok hn
    have hst : (h.at_ 0).stop = h.size + h.len := by simp only [Hdr.at_]; omega
    simp only [hst]
    by_cases hc : h.size + h.len < l.length
    · rw [if_pos hc, if_pos hc]
    · rw [if_neg hc, if_neg hc]; simp only [Hdr.at_]; congr 2 <;> omega
end Go.Cr
end

/- Elements of a part cover it, and each is found by itself. No program in sight. -/
section
set_option linter.unusedSimpArgs false
set_option linter.unusedVariables false
namespace Go.Cr
open Go.RowKit

theorem rdLen_take {l : List UInt8} {n k : Int} (m : Nat) (h : rdLen l = .ok (n, k)) (hm : k ≤ m) : rdLen (l.take m) = .ok (n, k) := by
  have hb := rdLen_ok h
  have h0 := bat_lt l 0
  have h1 := bat_pos l 0
  unfold rdLen at h ⊢
  have e0 : bat (l.take m) 0 = bat l 0 := bat_take _ _ _ (by omega)
  have hL : (l.take m).length = min m l.length := List.length_take
  rw [e0]
  split at h
  · cases h
  rw [if_neg (by omega)]
  split at h
  · rename_i c2; rw [if_pos c2]; exact h
  rename_i c2
  rw [if_neg c2]
  split at h
  · cases h
  rename_i c3
  rw [if_neg c3]
  split at h
  · cases h
  rename_i c4
  split at h
  · cases h
  rename_i c5
  injection h with h
  injection h with h2 h3
  rw [if_neg (by omega)]
  have e1 : bat (l.take m) 1 = bat l 1 := bat_take _ _ _ (by omega)
  have e2 : ((l.take m).drop 1).take (bat l 0 - 128).toNat = (l.drop 1).take (bat l 0 - 128).toNat := by
    rw [List.drop_take, List.take_take, Nat.min_eq_left (by omega)]
  rw [e1, e2, if_neg c5, h2, h3]
theorem rdHdr_take {l : List UInt8} {h : Hdr} (m : Nat) (e : rdHdr l = .ok h) (hm : h.size ≤ m) : rdHdr (l.take m) = .ok h := by
  have hb := rdHdr_ok e
  have e0 : bat (l.take m) 0 = bat l 0 := bat_take _ _ _ (by omega)
  have hL : (l.take m).length = min m l.length := List.length_take
  unfold rdHdr at e ⊢
  rw [e0]
  split at e
  · cases e
  rw [if_neg (by omega)]
  split at e
  · cases e
  rename_i c2
  rw [if_neg c2]
  split at e
  · cases e
  · rename_i n k hr
    injection e with e
    subst e
    have := rdLen_take (m - 1) hr (by simp only at hm; omega)
    rw [List.drop_take, this]
/-- An element that was found is found by itself. -/
theorem nextE_one {l : List UInt8} {a e : Int} {x : Elem} (h0 : 0 ≤ a) (h1 : a ≤ e) (h2 : e ≤ l.length) (h : nextE l a e = .ok x) :
    oneE (seg l x.start x.stop) = .ok ⟨x.cls, x.num, x.con, 0, x.body - x.start, x.stop - x.start⟩ := by
  have hbd := nextE_ok h0 h1 h2 h
  unfold nextE at h
  split at h
  · cases h
  rename_i hd hr
  split at h
  · cases h
  injection h with h
  subst h
  have hb := rdHdr_ok hr
  simp only [Hdr.at_] at hbd ⊢
  have hs : seg l a (a + hd.size + hd.len) = (seg l a e).take (a + hd.size + hd.len - a).toNat := by
    unfold seg
    rw [List.take_take, Nat.min_eq_left (by omega)]
  have hlen := seg_len l a (a + hd.size + hd.len) h0 (by omega) (by omega)
  have hr' := rdHdr_take (a + hd.size + hd.len - a).toNat hr (by omega)
  rw [← hs] at hr'
  generalize seg l a (a + hd.size + hd.len) = s at *
  rw [oneE_H]
  unfold nextH
  rw [hr']
  simp only
  rw [if_neg (by omega)]
  simp only
  rw [if_neg (by omega)]
  congr 2 <;> omega
/-- The elements cover the octets from a up to e. -/
def Cov (l : List UInt8) : Int → Int → List Elem → Prop
  | a, e, [] => a = e
  | a, e, x :: xs => nextE l a e = .ok x ∧ a < e ∧ Cov l x.stop e xs
theorem listAcc_cov {l : List UInt8} : ∀ (k : Nat) {acc : List Elem} {a e : Int} {xs : List Elem}, 0 ≤ a → a ≤ e → e ≤ l.length → e - a ≤ k → listAcc l k acc a e = .ok xs → ∃ ys, xs = acc ++ ys ∧ Cov l a e ys := by
  intro k
  induction k with
  | zero =>
    intro acc a e xs _ _ _ hk h
    simp only [listAcc] at h
    injection h with h
    exact ⟨[], by simp [h], by show a = e; omega⟩
  | succ k ih =>
    intro acc a e xs h0 h1 h2 hk h
    simp only [listAcc] at h
    split at h
    · rename_i hlt
      split at h
      · cases h
      · rename_i x hr
        have hb := nextE_ok h0 h1 h2 hr
        obtain ⟨ys, hys, hc⟩ := ih (by omega) (by omega) h2 (by omega) h
        exact ⟨x :: ys, by simp [hys], hr, hlt, hc⟩
    · injection h with h
      exact ⟨[], by simp [h], by show a = e; omega⟩
theorem listE_cov {l : List UInt8} {a e : Int} {xs : List Elem} (h : listE l a e = .ok xs) : 0 ≤ a ∧ a ≤ e ∧ e ≤ l.length ∧ Cov l a e xs := by
  unfold listE at h
  split at h
  · cases h
  · obtain ⟨ys, hys, hc⟩ := listAcc_cov _ (by omega) (by omega) (by omega) (by omega) h
    simp at hys
    subst hys
    exact ⟨by omega, by omega, by omega, hc⟩
theorem cov_cons {l : List UInt8} {a e : Int} {xs : List Elem} {k : Nat} (hk : k < xs.length) (h : Cov l a e (xs.drop k)) : nextE l a e = .ok xs[k] ∧ a < e ∧ Cov l xs[k].stop e (xs.drop (k + 1)) := by
  rw [List.drop_eq_getElem_cons hk] at h
  exact h
theorem cov_len {l : List UInt8} {a e : Int} {xs : List Elem} (h0 : 0 ≤ a) (h1 : a ≤ e) (h2 : e ≤ l.length) (h : Cov l a e xs) : (xs.length : Int) ≤ e - a := by
  induction xs generalizing a with
  | nil => simp; omega
  | cons x xs ih =>
    obtain ⟨hn, hlt, hc⟩ := h
    have hb := nextE_ok h0 h1 h2 hn
    have := ih (by omega) (by omega) hc
    simp; omega
end Go.Cr
end

/- Length octets: written, and read back. No program in sight. -/
section
set_option linter.unusedSimpArgs false
set_option linter.unusedVariables false
namespace Go.Cr

theorem cmpL_self (a : List UInt8) : cmpL a a = 0 := by
  induction a with
  | nil => rfl
  | cons x t ih => simp only [cmpL]; rw [if_neg (by omega), if_neg (by omega)]; exact ih
theorem cmpL_zero {a b : List UInt8} (h : cmpL a b = 0) : a = b := by
  induction a generalizing b with
  | nil => cases b with
    | nil => rfl
    | cons y b => simp [cmpL] at h
  | cons x a ih => cases b with
    | nil => simp [cmpL] at h
    | cons y b =>
      simp only [cmpL] at h
      split at h
      · omega
      · split at h
        · omega
        · rw [ih h, bi_inj (x := x) (y := y) (by omega)]

/-- Length octets. -/
def lenOct (n : Nat) : List UInt8 := if n < 128 then minF 7 n else UInt8.ofNat (128 + (minF 7 n).length) :: minF 7 n

theorem be_nonneg (l : List UInt8) : 0 ≤ be l := (be_bound l).1
theorem be_cons_ge (x : UInt8) (t : List UInt8) : bi x ≤ be (x :: t) := by
  have h : ∀ (t : List UInt8) (a : Int), 0 ≤ a → a ≤ t.foldl (fun a x => a * 256 + bi x) a := by
    intro t
    induction t with
    | nil => intro a _; simp
    | cons y t ih =>
      intro a h0
      have := bi_pos y
      have := ih (a * 256 + bi y) (by omega)
      simp only [List.foldl_cons]; omega
  have := h t (bi x) (bi_pos x)
  simpa [be] using this

theorem snoc_of_pos {l : List UInt8} (h : 0 < l.length) : ∃ d x, l = d ++ [x] :=
  ⟨l.dropLast, l.getLast (by intro e; subst e; simp at h), (List.dropLast_concat_getLast (by intro e; subst e; simp at h)).symm⟩

theorem minF_be_id (k : Nat) : ∀ (d : List UInt8), 0 < d.length → d.length ≤ k + 1 → (bat d 0 ≠ 0 ∨ d.length = 1) → minF k (be d).toNat = d := by
  induction k with
  | zero =>
    intro d h0 h1 _
    match d, h0, h1 with
    | [x], _, _ => simp [minF, be, bi]
  | succ k ih =>
    intro d h0 h1 hz
    obtain ⟨d', x, rfl⟩ := snoc_of_pos h0
    have hx1 := bi_lt x
    have hx0 := bi_pos x
    have hd0 := be_nonneg d'
    rw [be_snoc]
    simp only [minF]
    by_cases hd : d'.length = 0
    · obtain rfl := List.eq_nil_of_length_eq_zero hd
      have : be ([] : List UInt8) = 0 := rfl
      rw [this, if_pos (by omega)]
      simp [bi]
    · have hb : 1 ≤ be d' := by
        cases d' with
        | nil => simp at hd
        | cons y t =>
          have := be_cons_ge y t
          rcases hz with hz | hz
          · simp only [List.cons_append, bat_cons_zero] at hz; have := bi_pos y; omega
          · simp at hz
      rw [if_neg (by omega)]
      obtain ⟨M, hM⟩ : ∃ M : Nat, be d' = M := ⟨(be d').toNat, by omega⟩
      obtain ⟨X, hX⟩ : ∃ X : Nat, bi x = X := ⟨(bi x).toNat, by omega⟩
      have e1 : (be d' * 256 + bi x).toNat / 256 = (be d').toNat := by rw [hM, hX]; omega
      have e2 : UInt8.ofNat ((be d' * 256 + bi x).toNat % 256) = x := by
        apply bi_inj; rw [bi_ofNat, hM, hX]; omega
      rw [e1, e2, ih d' (by omega) (by simp at h1; omega) ?_]
      rcases hz with hz | hz
      · left
        cases d' with
        | nil => simp at hd
        | cons y t => simpa [bat_cons_zero] using hz
      · exact absurd (by simp at hz; simp [hz]) hd

theorem minF_head (k n : Nat) (h : n < 256 ^ (k + 1)) (hn : 0 < n) : bat (minF k n) 0 ≠ 0 := by
  induction k generalizing n with
  | zero => have : n < 256 := by simpa using h
            simp [minF, bat, bi]; omega
  | succ k ih =>
    simp only [minF]
    split
    · simp [bat, bi]; omega
    · have h1 := ih (n / 256) (by rw [Nat.pow_succ] at h; omega) (by omega)
      have h2 := (minF_len k (n / 256)).1
      generalize minF k (n / 256) = m at *
      cases m with
      | nil => simp at h2
      | cons y t => simpa [bat_cons_zero] using h1

/-- Whether length octets in the long form are those of their number. -/
theorem lenOct_long {l : List UInt8} {k : Nat} (h0 : bat l 0 = 128 + k) (hk1 : 1 ≤ k) (hk4 : k ≤ 4) (hl : k < l.length) :
    lenOct (be ((l.drop 1).take k)).toNat = l.take (1 + k) ↔ ¬ (bat l 1 = 0 ∨ be ((l.drop 1).take k) < 128) := by
  cases l with
  | nil => simp at hl
  | cons x t =>
    simp only [bat_cons_zero, List.drop_succ_cons, List.drop_zero, List.length_cons] at *
    have hs1 : bat (x :: t) 1 = bat t 0 := bat_cons_succ x t 0
    rw [hs1]
    have htl : (t.take k).length = k := by simp; omega
    have hb0 : bat (t.take k) 0 = bat t 0 := bat_take _ _ _ (by omega)
    have hbe := be_bound (t.take k)
    rw [htl] at hbe
    have hpw : (256 : Int) ^ k ≤ 256 ^ 4 := pow256_mono hk4
    obtain ⟨N, hN⟩ : ∃ N : Nat, be (t.take k) = N := ⟨(be (t.take k)).toNat, by have := hbe.1; omega⟩
    have hNlt : N < 256 ^ 4 := by have := hbe.2; rw [hN] at this; have h4 : (256 : Int) ^ 4 = ((256 ^ 4 : Nat) : Int) := by decide
                                  omega
    have hNlt8 : N < 256 ^ (7 + 1) := Nat.lt_of_lt_of_le hNlt (by decide)
    rw [hN]
    rw [show ((N : Int)).toNat = N by omega, show 1 + k = k + 1 by omega, List.take_succ_cons]
    unfold lenOct
    constructor
    · intro h hc
      split at h
      · rename_i hlt
        have h1 : (minF 7 N).length = 1 := by simp only [minF]; rw [if_pos (by omega)]; rfl
        have := congrArg List.length h
        simp only [List.length_cons, htl, h1] at this
        omega
      · rename_i hge
        rcases hc with hc | hc
        · injection h with _ h
          have := minF_head 7 N hNlt8 (by omega)
          rw [h, hb0] at this
          exact this hc
        · omega
    · intro h
      have h1 : bat t 0 ≠ 0 := fun e => h (.inl e)
      have h2 : ¬ N < 128 := fun e => h (.inr (by omega))
      rw [if_neg h2]
      have h3 := minF_be_id 7 (t.take k) (by omega) (by omega) (.inl (by rw [hb0]; exact h1))
      rw [hN, show ((N : Int)).toNat = N by omega] at h3
      rw [h3, htl]
      congr 1
      apply bi_inj
      rw [bi_ofNat]; omega

theorem lenOct_len (n : Nat) : 0 < (lenOct n).length ∧ (lenOct n).length ≤ 9 := by
  have := minF_len 7 n
  unfold lenOct
  split
  · omega
  · simp only [List.length_cons]; omega
/-- The identifier octet of a tag. -/
def idB (c : Int) (k : Bool) (n : Int) : UInt8 := UInt8.ofNat (c * 64 + n + if k then 32 else 0).toNat
theorem idB_bi (c : Int) (k : Bool) (n : Int) (h : 0 ≤ c) (h1 : c ≤ 3) (h2 : 0 ≤ n) (h3 : n < 31) : bi (idB c k n) = c * 64 + n + if k then 32 else 0 := by
  unfold idB; rw [bi_ofNat]; split <;> omega
/-- The element of a tag and its content. -/
def encO (c : Int) (k : Bool) (n : Int) (l : List UInt8) : List UInt8 := idB c k n :: (lenOct l.length ++ l)
end Go.Cr
end

/- What is written is read back; elements one behind another are found. No program in sight. -/
section
set_option linter.unusedSimpArgs false
set_option linter.unusedVariables false
namespace Go.Cr
open Go.RowKit

theorem bat_app (l r : List UInt8) (j : Nat) (hj : j < l.length) : bat (l ++ r) j = bat l j := by simp [bat, List.getElem?_append_left hj]

theorem rdLen_app {l : List UInt8} {n k : Int} (r : List UInt8) (h : rdLen l = .ok (n, k)) : rdLen (l ++ r) = .ok (n, k) := by
  have hb := rdLen_ok h
  have h0 := bat_lt l 0
  have h1 := bat_pos l 0
  have hba : ∀ j, j < l.length → bat (l ++ r) j = bat l j := fun j hj => bat_app l r j hj
  unfold rdLen at h ⊢
  have hL : (l ++ r).length = l.length + r.length := List.length_append
  rw [hba 0 (by omega)]
  split at h
  · cases h
  rw [if_neg (by omega)]
  split at h
  · rename_i c2; rw [if_pos c2]; exact h
  rename_i c2
  rw [if_neg c2]
  split at h
  · cases h
  rename_i c3
  rw [if_neg c3]
  split at h
  · cases h
  rename_i c4
  split at h
  · cases h
  rename_i c5
  injection h with h
  injection h with h2 h3
  rw [if_neg (by omega)]
  have e2 : ((l ++ r).drop 1).take (bat l 0 - 128).toNat = (l.drop 1).take (bat l 0 - 128).toNat := by
    rw [List.drop_append_of_le_length (by omega), List.take_append_of_le_length (by rw [List.length_drop]; omega)]
  rw [hba 1 (by omega), e2, if_neg c5, h2, h3]
theorem rdHdr_app {l : List UInt8} {h : Hdr} (r : List UInt8) (e : rdHdr l = .ok h) : rdHdr (l ++ r) = .ok h := by
  have hb := rdHdr_ok e
  have hba : bat (l ++ r) 0 = bat l 0 := bat_app l r 0 (by omega)
  have hL : (l ++ r).length = l.length + r.length := List.length_append
  unfold rdHdr at e ⊢
  rw [hba]
  split at e
  · cases e
  rw [if_neg (by omega)]
  split at e
  · cases e
  rename_i c2
  rw [if_neg c2]
  split at e
  · cases e
  · rename_i n k hr
    injection e with e
    subst e
    rw [List.drop_append_of_le_length (by omega), rdLen_app r hr]
theorem rdLen_enc (n : Nat) (r : List UInt8) (hn : n ≤ 2147483647) : rdLen (lenOct n ++ r) = .ok (n, (lenOct n).length) := by
  unfold lenOct
  by_cases h : n < 128
  · rw [if_pos h]
    have h1 : minF 7 n = [UInt8.ofNat n] := by simp only [minF]; rw [if_pos (by omega)]
    rw [h1]
    have hb : bat ([UInt8.ofNat n] ++ r) 0 = n := by rw [List.cons_append, bat_cons_zero, bi_ofNat]; omega
    unfold rdLen
    rw [hb, if_neg (by simp), if_pos (by omega)]
    rfl
  · rw [if_neg h]
    have h1 : minF 7 n = minF 3 n := minF_fuel 3 4 n (by have : (256 : Nat) ^ (3 + 1) = 4294967296 := by decide
                                                         omega)
    have h2 := minF_len 3 n
    have h3 := minF_be 3 n (by have : (256 : Nat) ^ (3 + 1) = 4294967296 := by decide
                               omega)
    have h4 := minF_head 3 n (by have : (256 : Nat) ^ (3 + 1) = 4294967296 := by decide
                                 omega) (by omega)
    rw [h1]
    generalize minF 3 n = m at *
    have hb : bat (UInt8.ofNat (128 + m.length) :: m ++ r) 0 = 128 + m.length := by rw [List.cons_append, bat_cons_zero, bi_ofNat]; omega
    have hb1 : bat (UInt8.ofNat (128 + m.length) :: m ++ r) 1 = bat m 0 := by
      rw [List.cons_append, bat_cons_succ]; exact bat_app m r 0 (by omega)
    have hbe : (((UInt8.ofNat (128 + m.length) :: m ++ r)).drop 1).take (128 + (m.length : Int) - 128).toNat = m := by
      rw [List.cons_append, List.drop_succ_cons, List.drop_zero, show (128 + (m.length : Int) - 128).toNat = m.length by omega, List.take_left]
    have hL : (UInt8.ofNat (128 + m.length) :: m ++ r).length = 1 + m.length + r.length := by simp; omega
    unfold rdLen
    rw [hb, hb1, hbe, h3, if_neg (by omega), if_neg (by omega), if_neg (by omega), if_neg (by omega), if_neg (by omega)]
    simp only [List.length_cons]
    congr 2; omega
theorem rdHdr_enc (c n : Int) (k : Bool) (l r : List UInt8) (h : 0 ≤ c) (h1 : c ≤ 3) (h2 : 0 ≤ n) (h3 : n < 31) (hl : l.length ≤ 2147483647) :
    rdHdr (encO c k n l ++ r) = .ok ⟨c, n, k, l.length, 1 + (lenOct l.length).length⟩ := by
  have hb : bat (encO c k n l ++ r) 0 = c * 64 + n + if k then 32 else 0 := by
    unfold encO; rw [List.cons_append, bat_cons_zero, idB_bi c k n h h1 h2 h3]
  have hd : (encO c k n l ++ r).drop 1 = lenOct l.length ++ (l ++ r) := by
    unfold encO; rw [List.cons_append, List.drop_succ_cons, List.drop_zero, List.append_assoc]
  unfold rdHdr
  rw [hb, hd, rdLen_enc _ _ hl, if_neg (by unfold encO; simp)]
  cases k with
  | true =>
    simp only [if_true]
    rw [if_neg (by omega)]
    congr 2
    · omega
    · omega
    · exact decide_eq_true (by omega)
  | false =>
    simp only [Bool.false_eq_true, if_false]
    rw [if_neg (by omega)]
    congr 2
    · omega
    · omega
    · exact decide_eq_false (by omega)
theorem encO_len (c n : Int) (k : Bool) (l : List UInt8) : (encO c k n l).length = 1 + (lenOct l.length).length + l.length := by unfold encO; simp; omega
theorem oneE_enc (c n : Int) (k : Bool) (l : List UInt8) (h : 0 ≤ c) (h1 : c ≤ 3) (h2 : 0 ≤ n) (h3 : n < 31) (hl : l.length ≤ 2147483647) :
    oneE (encO c k n l) = .ok ⟨c, n, k, 0, 1 + (lenOct l.length).length, (encO c k n l).length⟩ := by
  have hh := rdHdr_enc c n k l [] h h1 h2 h3 hl
  rw [List.append_nil] at hh
  have hL := encO_len c n k l
  rw [oneE_H]
  unfold nextH
  rw [hh]
  simp only
  rw [if_neg (by omega)]
  simp only
  rw [if_neg (by omega)]
theorem oneE_hdr {p : List UInt8} {x : Elem} (h : oneE p = .ok x) : ∃ hd, rdHdr p = .ok hd ∧ hd.size + hd.len = p.length := by
  rw [oneE_H] at h
  split at h
  · cases h
  · rename_i hd hn
    have hb := nextH_ok hn
    unfold nextH at hn
    split at hn
    · cases hn
    · rename_i hd' hr
      split at hn
      · cases hn
      · injection hn with hn
        subst hn
        split at h
        · cases h
        · exact ⟨hd', hr, by omega⟩
theorem listAcc_parts {L : List UInt8} {e : Int} (h2 : e ≤ L.length) : ∀ (ls : List (List UInt8)) (k : Nat) (acc : List Elem) (a : Int), (∀ p ∈ ls, ∃ x, oneE p = .ok x) → 0 ≤ a → a ≤ e → seg L a e = ls.flatten → e - a ≤ k →
    ∃ ys, listAcc L k acc a e = .ok (acc ++ ys) ∧ ys.length = ls.length := by
  intro ls
  induction ls with
  | nil =>
    intro k acc a _ h0 h1 hs hk
    have hl := seg_len L a e h0 h1 h2
    rw [hs] at hl
    simp at hl
    exact ⟨[], by rw [listAcc_done _ _ _ _ _ (by omega)]; simp, rfl⟩
  | cons p ls ih =>
    intro k acc a hall h0 h1 hs hk
    obtain ⟨x, hx⟩ := hall p (by simp)
    obtain ⟨hd, hr, hsz⟩ := oneE_hdr hx
    have hb := rdHdr_ok hr
    have hl := seg_len L a e h0 h1 h2
    rw [hs, List.flatten_cons, List.length_append] at hl
    obtain ⟨k, rfl⟩ : ∃ k', k = k' + 1 := ⟨k - 1, by omega⟩
    have hn : nextE L a e = .ok (hd.at_ a) := by
      unfold nextE
      rw [hs, List.flatten_cons, rdHdr_app _ hr]
      simp only
      rw [if_neg (by omega)]
    have hst : (hd.at_ a).stop = a + p.length := by simp only [Hdr.at_]; omega
    have hs' : seg L (a + p.length) e = ls.flatten := by
      have : seg L (a + p.length) e = (seg L a e).drop p.length := by
        unfold seg
        rw [List.drop_take, List.drop_drop]
        congr 1
        · omega
        · congr 1; omega
      rw [this, hs, List.flatten_cons, List.drop_left]
    obtain ⟨ys, hy, hyl⟩ := ih k (acc ++ [hd.at_ a]) (a + p.length) (fun q hq => hall q (by simp [hq])) (by omega) (by omega) hs' (by omega)
    refine ⟨hd.at_ a :: ys, ?_, by simp [hyl]⟩
    simp only [listAcc]
    rw [if_pos (by omega), hn]
    simp only
    rw [hst, hy]
    simp
/-- What a constructed element of parts holds. -/
theorem listE_enc (c n : Int) (k : Bool) (ls : List (List UInt8)) (hall : ∀ p ∈ ls, ∃ x, oneE p = .ok x) :
    ∃ ys, listE (encO c k n ls.flatten) (1 + (lenOct ls.flatten.length).length) (encO c k n ls.flatten).length = .ok ys ∧ ys.length = ls.length := by
  have hL := encO_len c n k ls.flatten
  have hs : seg (encO c k n ls.flatten) (1 + (lenOct ls.flatten.length).length) (encO c k n ls.flatten).length = ls.flatten := by
    have e1 : (1 + ((lenOct ls.flatten.length).length : Int)).toNat = (lenOct ls.flatten.length).length + 1 := by omega
    have e2 : (((encO c k n ls.flatten).length : Int) - (1 + (lenOct ls.flatten.length).length)).toNat = ls.flatten.length := by omega
    unfold seg
    rw [e1, e2]
    unfold encO
    rw [List.drop_succ_cons, List.drop_left, List.take_length]
  obtain ⟨ys, h1, h2⟩ := listAcc_parts (L := encO c k n ls.flatten) (e := (encO c k n ls.flatten).length) (by omega) ls _ [] (1 + (lenOct ls.flatten.length).length) hall (by omega) (by omega) hs (Int.self_le_toNat _)
  refine ⟨ys, ?_, h2⟩
  unfold listE
  rw [if_neg (by omega), h1]
  rfl
end Go.Cr
end
