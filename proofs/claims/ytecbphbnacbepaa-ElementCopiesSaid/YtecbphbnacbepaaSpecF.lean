/- Length octets: written, and read back. No program in sight. -/
import Derived.Test.YtecbphbnacbepaaKitC
set_option linter.unusedSimpArgs false
set_option linter.unusedVariables false
namespace Go.Cr

theorem cmpL_self (a : List UInt8) : cmpL a a = 0 := by
  induction a with
  | nil => rfl
  | cons x t ih => simp only [cmpL]; rw [if_neg (by omega), if_neg (by omega)]; exact ih
theorem cmpL_zero {a b : List UInt8} (h : cmpL a b = 0) : a = b := by
  induction a generalizing b with
  | nil => cases b with
    | nil => rfl
    | cons y b => simp [cmpL] at h
  | cons x a ih => cases b with
    | nil => simp [cmpL] at h
    | cons y b =>
      simp only [cmpL] at h
      split at h
      · omega
      · split at h
        · omega
        · rw [ih h, bi_inj (x := x) (y := y) (by omega)]

/-- Length octets. -/
def lenOct (n : Nat) : List UInt8 := if n < 128 then minF 7 n else UInt8.ofNat (128 + (minF 7 n).length) :: minF 7 n

theorem be_nonneg (l : List UInt8) : 0 ≤ be l := (be_bound l).1
theorem be_cons_ge (x : UInt8) (t : List UInt8) : bi x ≤ be (x :: t) := by
  have h : ∀ (t : List UInt8) (a : Int), 0 ≤ a → a ≤ t.foldl (fun a x => a * 256 + bi x) a := by
    intro t
    induction t with
    | nil => intro a _; simp
    | cons y t ih =>
      intro a h0
      have := bi_pos y
      have := ih (a * 256 + bi y) (by omega)
      simp only [List.foldl_cons]; omega
  have := h t (bi x) (bi_pos x)
  simpa [be] using this

theorem snoc_of_pos {l : List UInt8} (h : 0 < l.length) : ∃ d x, l = d ++ [x] :=
  ⟨l.dropLast, l.getLast (by intro e; subst e; simp at h), (List.dropLast_concat_getLast (by intro e; subst e; simp at h)).symm⟩

theorem minF_be_id (k : Nat) : ∀ (d : List UInt8), 0 < d.length → d.length ≤ k + 1 → (bat d 0 ≠ 0 ∨ d.length = 1) → minF k (be d).toNat = d := by
  induction k with
  | zero =>
    intro d h0 h1 _
    match d, h0, h1 with
    | [x], _, _ => simp [minF, be, bi]
  | succ k ih =>
    intro d h0 h1 hz
    obtain ⟨d', x, rfl⟩ := snoc_of_pos h0
    have hx1 := bi_lt x
    have hx0 := bi_pos x
    have hd0 := be_nonneg d'
    rw [be_snoc]
    simp only [minF]
    by_cases hd : d'.length = 0
    · obtain rfl := List.eq_nil_of_length_eq_zero hd
      have : be ([] : List UInt8) = 0 := rfl
      rw [this, if_pos (by omega)]
      simp [bi]
    · have hb : 1 ≤ be d' := by
        cases d' with
        | nil => simp at hd
        | cons y t =>
          have := be_cons_ge y t
          rcases hz with hz | hz
          · simp only [List.cons_append, bat_cons_zero] at hz; have := bi_pos y; omega
          · simp at hz
      rw [if_neg (by omega)]
      obtain ⟨M, hM⟩ : ∃ M : Nat, be d' = M := ⟨(be d').toNat, by omega⟩
      obtain ⟨X, hX⟩ : ∃ X : Nat, bi x = X := ⟨(bi x).toNat, by omega⟩
      have e1 : (be d' * 256 + bi x).toNat / 256 = (be d').toNat := by rw [hM, hX]; omega
      have e2 : UInt8.ofNat ((be d' * 256 + bi x).toNat % 256) = x := by
        apply bi_inj; rw [bi_ofNat, hM, hX]; omega
      rw [e1, e2, ih d' (by omega) (by simp at h1; omega) ?_]
      rcases hz with hz | hz
      · left
        cases d' with
        | nil => simp at hd
        | cons y t => simpa [bat_cons_zero] using hz
      · exact absurd (by simp at hz; simp [hz]) hd

theorem minF_head (k n : Nat) (h : n < 256 ^ (k + 1)) (hn : 0 < n) : bat (minF k n) 0 ≠ 0 := by
  induction k generalizing n with
  | zero => have : n < 256 := by simpa using h
            simp [minF, bat, bi]; omega
  | succ k ih =>
    simp only [minF]
    split
    · simp [bat, bi]; omega
    · have h1 := ih (n / 256) (by rw [Nat.pow_succ] at h; omega) (by omega)
      have h2 := (minF_len k (n / 256)).1
      generalize minF k (n / 256) = m at *
      cases m with
      | nil => simp at h2
      | cons y t => simpa [bat_cons_zero] using h1

/-- Whether length octets in the long form are those of their number. -/
theorem lenOct_long {l : List UInt8} {k : Nat} (h0 : bat l 0 = 128 + k) (hk1 : 1 ≤ k) (hk4 : k ≤ 4) (hl : k < l.length) :
    lenOct (be ((l.drop 1).take k)).toNat = l.take (1 + k) ↔ ¬ (bat l 1 = 0 ∨ be ((l.drop 1).take k) < 128) := by
  cases l with
  | nil => simp at hl
  | cons x t =>
    simp only [bat_cons_zero, List.drop_succ_cons, List.drop_zero, List.length_cons] at *
    have hs1 : bat (x :: t) 1 = bat t 0 := bat_cons_succ x t 0
    rw [hs1]
    have htl : (t.take k).length = k := by simp; omega
    have hb0 : bat (t.take k) 0 = bat t 0 := bat_take _ _ _ (by omega)
    have hbe := be_bound (t.take k)
    rw [htl] at hbe
    have hpw : (256 : Int) ^ k ≤ 256 ^ 4 := pow256_mono hk4
    obtain ⟨N, hN⟩ : ∃ N : Nat, be (t.take k) = N := ⟨(be (t.take k)).toNat, by have := hbe.1; omega⟩
    have hNlt : N < 256 ^ 4 := by have := hbe.2; rw [hN] at this; have h4 : (256 : Int) ^ 4 = ((256 ^ 4 : Nat) : Int) := by decide
                                  omega
    have hNlt8 : N < 256 ^ (7 + 1) := Nat.lt_of_lt_of_le hNlt (by decide)
    rw [hN]
    rw [show ((N : Int)).toNat = N by omega, show 1 + k = k + 1 by omega, List.take_succ_cons]
    unfold lenOct
    constructor
    · intro h hc
      split at h
      · rename_i hlt
        have h1 : (minF 7 N).length = 1 := by simp only [minF]; rw [if_pos (by omega)]; rfl
        have := congrArg List.length h
        simp only [List.length_cons, htl, h1] at this
        omega
      · rename_i hge
        rcases hc with hc | hc
        · injection h with _ h
          have := minF_head 7 N hNlt8 (by omega)
          rw [h, hb0] at this
          exact this hc
        · omega
    · intro h
      have h1 : bat t 0 ≠ 0 := fun e => h (.inl e)
      have h2 : ¬ N < 128 := fun e => h (.inr (by omega))
      rw [if_neg h2]
      have h3 := minF_be_id 7 (t.take k) (by omega) (by omega) (.inl (by rw [hb0]; exact h1))
      rw [hN, show ((N : Int)).toNat = N by omega] at h3
      rw [h3, htl]
      congr 1
      apply bi_inj
      rw [bi_ofNat]; omega

theorem lenOct_len (n : Nat) : 0 < (lenOct n).length ∧ (lenOct n).length ≤ 9 := by
  have := minF_len 7 n
  unfold lenOct
  split
  · omega
  · simp only [List.length_cons]; omega
end Go.Cr
