/- The order of lists of bytes; sorted lists of different parts. No program in sight. -/
import Derived.Test.YtecbphbnacbepaaSpecF
set_option linter.unusedSimpArgs false
set_option linter.unusedVariables false
namespace Go.Cr

theorem cmpL_vals (a b : List UInt8) : cmpL a b = -1 ∨ cmpL a b = 0 ∨ cmpL a b = 1 := by
  induction a generalizing b with
  | nil => cases b <;> simp [cmpL]
  | cons x a ih => cases b with
    | nil => simp [cmpL]
    | cons y b => simp only [cmpL]; split
                  · simp
                  · split
                    · simp
                    · exact ih b
theorem cmpL_anti (a b : List UInt8) : cmpL b a = - cmpL a b := by
  induction a generalizing b with
  | nil => cases b <;> simp [cmpL]
  | cons x a ih => cases b with
    | nil => simp [cmpL]
    | cons y b =>
      simp only [cmpL]
      rcases Int.lt_trichotomy (bi x) (bi y) with h | h | h
      · rw [if_neg (by omega), if_pos h, if_pos h]; rfl
      · rw [if_neg (by omega), if_neg (by omega), if_neg (by omega), if_neg (by omega)]; exact ih b
      · rw [if_pos h, if_neg (by omega), if_pos h]
theorem cmpL_trans {a b c : List UInt8} (h1 : cmpL a b < 0) (h2 : cmpL b c < 0) : cmpL a c < 0 := by
  induction a generalizing b c with
  | nil => cases c with
    | nil => cases b <;> simp [cmpL] at h1 h2
    | cons z c => simp [cmpL]
  | cons x a ih => cases b with
    | nil => simp [cmpL] at h1
    | cons y b => cases c with
      | nil => simp [cmpL] at h2
      | cons z c =>
        simp only [cmpL] at h1 h2 ⊢
        rcases Int.lt_trichotomy (bi x) (bi y) with h | h | h
        · rcases Int.lt_trichotomy (bi y) (bi z) with g | g | g
          · rw [if_pos (by omega)]; omega
          · rw [if_pos (by omega)]; omega
          · rw [if_neg (by omega), if_pos g] at h2; omega
        · rw [if_neg (by omega), if_neg (by omega)] at h1
          rcases Int.lt_trichotomy (bi y) (bi z) with g | g | g
          · rw [if_pos (by omega)]; omega
          · rw [if_neg (by omega), if_neg (by omega)] at h2
            rw [if_neg (by omega), if_neg (by omega)]
            exact ih h1 h2
          · rw [if_neg (by omega), if_pos g] at h2; omega
        · rw [if_neg (by omega), if_pos h] at h1; omega
theorem cmpL_irrefl (a : List UInt8) : ¬ cmpL a a < 0 := by rw [cmpL_self]; omega

/-- Ascends strictly. -/
def Asc : List (List UInt8) → Prop
  | [] => True
  | [_] => True
  | a :: b :: t => cmpL a b < 0 ∧ Asc (b :: t)
theorem Asc.tail {x : List UInt8} {t : List (List UInt8)} (h : Asc (x :: t)) : Asc t := by
  cases t with
  | nil => trivial
  | cons y t => exact h.2
theorem Asc.lt {x : List UInt8} {t : List (List UInt8)} (h : Asc (x :: t)) : ∀ y ∈ t, cmpL x y < 0 := by
  induction t generalizing x with
  | nil => intro y hy; cases hy
  | cons z t ih =>
    intro y hy
    rcases List.mem_cons.1 hy with rfl | hy
    · exact h.1
    · exact cmpL_trans h.1 (ih h.2 y hy)
theorem Asc.snoc {r : List (List UInt8)} {x : List UInt8} (h : Asc r) (hx : ∀ y ∈ r, cmpL y x < 0) : Asc (r ++ [x]) := by
  induction r with
  | nil => trivial
  | cons a r ih =>
    cases r with
    | nil => exact ⟨hx a (by simp), trivial⟩
    | cons b r => exact ⟨h.1, ih h.2 (fun y hy => hx y (List.mem_cons_of_mem _ hy))⟩
/-- r has the different elements of ls, in order. -/
def SortOf (ls r : List (List UInt8)) : Prop := Asc r ∧ ∀ x, x ∈ r ↔ x ∈ ls
theorem Asc.uniq : ∀ {r r' : List (List UInt8)}, Asc r → Asc r' → (∀ x, x ∈ r ↔ x ∈ r') → r = r' := by
  intro r
  induction r with
  | nil =>
    intro r' _ _ h
    cases r' with
    | nil => rfl
    | cons y u => have := (h y).2 (by simp); cases this
  | cons x t ih =>
    intro r' h1 h2 h
    cases r' with
    | nil => have := (h x).1 (by simp); cases this
    | cons y u =>
      have hxy : x = y := by
        rcases List.mem_cons.1 ((h x).1 (by simp)) with e | e
        · exact e
        · rcases List.mem_cons.1 ((h y).2 (by simp)) with e' | e'
          · exact e'.symm
          · exact absurd (cmpL_trans (h1.lt y e') (h2.lt x e)) (cmpL_irrefl x)
      subst hxy
      rw [ih h1.tail h2.tail (fun z => ?_)]
      constructor
      · intro hz
        rcases List.mem_cons.1 ((h z).1 (List.mem_cons_of_mem _ hz)) with e | e
        · subst e; exact absurd (h1.lt z hz) (cmpL_irrefl z)
        · exact e
      · intro hz
        rcases List.mem_cons.1 ((h z).2 (List.mem_cons_of_mem _ hz)) with e | e
        · subst e; exact absurd (h2.lt z hz) (cmpL_irrefl z)
        · exact e
theorem SortOf.uniq {ls r r' : List (List UInt8)} (h : SortOf ls r) (h' : SortOf ls r') : r = r' := h.1.uniq h'.1 fun x => (h.2 x).trans (h'.2 x).symm

/-- Whether ls ascends strictly. -/
def ascB : List (List UInt8) → Bool
  | [] => true
  | [_] => true
  | a :: b :: t => decide (cmpL a b < 0) && ascB (b :: t)
theorem ascB_iff (r : List (List UInt8)) : ascB r = true ↔ Asc r := by
  induction r with
  | nil => simp [ascB, Asc]
  | cons a r ih => cases r with
    | nil => simp [ascB, Asc]
    | cons b r => simp only [ascB, Asc, Bool.and_eq_true, decide_eq_true_eq]; rw [ih]
theorem ascB_at {ls : List (List UInt8)} : ascB ls = true ↔ ∀ k, k + 1 < ls.length → cmpL (ls.getD k []) (ls.getD (k + 1) []) < 0 := by
  induction ls with
  | nil => simp [ascB]
  | cons a r ih => cases r with
    | nil => simp [ascB]
    | cons b r =>
      simp only [ascB, Bool.and_eq_true, decide_eq_true_eq, ih]
      constructor
      · rintro ⟨h1, h2⟩ k hk
        cases k with
        | zero => exact h1
        | succ k => have := h2 k (by simpa using hk); simpa using this
      · intro h
        exact ⟨h 0 (by simp), fun k hk => by have := h (k + 1) (by simpa using hk); simpa using this⟩
theorem getD_mem {ls : List (List UInt8)} {k : Nat} (h : k < ls.length) : ls.getD k [] ∈ ls := by
  have : ls.getD k [] = ls[k] := by simp [List.getD, h]
  rw [this]; exact List.getElem_mem h

/-! ### Choosing the next: the reference's way. -/
/-- p comes behind all of r. -/
def Behind (r : List (List UInt8)) (p : List UInt8) : Prop := r = [] ∨ 0 < cmpL p (r.getLastD [])
theorem Asc.last {r : List (List UInt8)} (h : Asc r) : ∀ y ∈ r, y = r.getLastD [] ∨ cmpL y (r.getLastD []) < 0 := by
  induction r with
  | nil => intro y hy; cases hy
  | cons a r ih => cases r with
    | nil => intro y hy; simp at hy; subst hy; left; rfl
    | cons b r =>
      intro y hy
      have hl : (a :: b :: r).getLastD [] = (b :: r).getLastD [] := by simp [List.getLastD]
      rw [hl]
      rcases List.mem_cons.1 hy with rfl | hy
      · rcases ih h.2 b (by simp) with e | e
        · right; rw [← e]; exact h.1
        · right; exact cmpL_trans h.1 e
      · exact ih h.2 y hy
theorem Behind.all {r : List (List UInt8)} {p : List UInt8} (h : Asc r) (hb : Behind r p) : ∀ y ∈ r, cmpL y p < 0 := by
  intro y hy
  rcases hb with rfl | hb
  · cases hy
  · have h1 : cmpL (r.getLastD []) p < 0 := by have := cmpL_anti p (r.getLastD []); omega
    rcases h.last y hy with e | e
    · rw [e]; exact h1
    · exact cmpL_trans e h1
/-- r is a beginning of the sorted list. -/
def Beg (ls r : List (List UInt8)) : Prop := Asc r ∧ (∀ x ∈ r, x ∈ ls) ∧ ∀ p ∈ ls, p ∈ r ∨ Behind r p
theorem Beg.nil (ls : List (List UInt8)) : Beg ls [] := ⟨trivial, (fun x hx => by cases hx), fun p _ => .inr (.inl rfl)⟩
theorem Beg.done {ls r : List (List UInt8)} (h : Beg ls r) (hn : ∀ p ∈ ls, ¬ Behind r p) : SortOf ls r :=
  ⟨h.1, fun x => ⟨h.2.1 x, fun hx => (h.2.2 x hx).resolve_right (hn x hx)⟩⟩
theorem Beg.next {ls r : List (List UInt8)} {x : List UInt8} (h : Beg ls r) (hx : x ∈ ls) (hb : Behind r x) (hmin : ∀ p ∈ ls, Behind r p → ¬ cmpL p x < 0) : Beg ls (r ++ [x]) := by
  refine ⟨h.1.snoc (hb.all h.1), fun y hy => ?_, fun p hp => ?_⟩
  · rcases List.mem_append.1 hy with e | e
    · exact h.2.1 y e
    · simp at e; subst e; exact hx
  · rcases h.2.2 p hp with e | e
    · exact .inl (List.mem_append_left _ e)
    · have h1 := hmin p hp e
      rcases cmpL_vals p x with h2 | h2 | h2
      · omega
      · left; rw [cmpL_zero h2]; simp
      · right; right; simp; omega
/-- How many are still behind. -/
def left_ (ls r : List (List UInt8)) : Nat := ls.countP fun p => decide (r = [] ∨ 0 < cmpL p (r.getLastD []))
theorem countP_lt {p q : List UInt8 → Bool} : ∀ {ls : List (List UInt8)} {x : List UInt8}, x ∈ ls → p x = false → q x = true → (∀ y ∈ ls, p y = true → q y = true) → ls.countP p < ls.countP q := by
  intro ls
  induction ls with
  | nil => intro x hx; cases hx
  | cons a t ih =>
    intro x hx h1 h2 h3
    have hmono : t.countP p ≤ t.countP q := List.countP_mono_left fun y hy => h3 y (List.mem_cons_of_mem _ hy)
    rw [List.countP_cons, List.countP_cons]
    rcases List.mem_cons.1 hx with rfl | hx
    · rw [h1, h2]; simp; omega
    · have := ih hx h1 h2 (fun y hy => h3 y (List.mem_cons_of_mem _ hy))
      have h4 := h3 a (by simp)
      cases hp : p a <;> cases hq : q a <;> simp_all <;> omega
theorem left_lt {ls r : List (List UInt8)} {x : List UInt8} (h : Beg ls r) (hx : x ∈ ls) (hb : Behind r x) : left_ ls (r ++ [x]) < left_ ls r := by
  refine countP_lt hx ?_ ?_ ?_
  · simp [cmpL_self]
  · exact decide_eq_true hb
  · intro y _ hy
    have hy' : 0 < cmpL y x := by simpa using hy
    refine decide_eq_true ?_
    rcases hb with e | e
    · exact .inl e
    · right
      have h1 : cmpL (r.getLastD []) x < 0 := by have := cmpL_anti x (r.getLastD []); omega
      have h2 : cmpL x y < 0 := by have := cmpL_anti y x; omega
      have := cmpL_trans h1 h2
      have := cmpL_anti (r.getLastD []) y
      omega
theorem getLastD_at (r : List (List UInt8)) (h : 0 < r.length) : r.getLastD [] = r.getD (r.length - 1) [] := by
  cases r with
  | nil => simp at h
  | cons a r => simp [List.getLastD, List.getLast_eq_getElem, List.getD]
end Go.Cr
